/- Walks: two sorted rows merged in place, where the first is of one term. -/
import Derived.Test.YthiionkikammkaaMerge0
import Derived.Test.YthiionkikammkaaRot
import Derived.Test.YthiionkikammkaaOrd
namespace Go.Proofs.Ythiionkikammkaa
open Go.RowKit
set_option linter.unusedVariables false
set_option linter.unusedSimpArgs false
set_option maxRecDepth 20000
set_option maxHeartbeats 4000000
attribute [local irreducible] mayE nodesE depthE plainE renameE varsE EqualE LightE rSameE turnT ordE

theorem srt_nth {l : List Tm} (h : Srt l) {i j : Nat} (hij : i < j) {s t : Tm} (hs : l[i]? = some s) (ht : l[j]? = some t) : ¬ ordE t s < 0 := by
  obtain ⟨hj, rfl⟩ := List.getElem?_eq_some_iff.1 ht
  obtain ⟨hi, rfl⟩ := List.getElem?_eq_some_iff.1 hs
  exact List.pairwise_iff_getElem.1 h i j hi hj hij
theorem half_sum {i j : Nat} (h : i < j) (hl : j ≤ 1000000) : ∃ k, (i + j) / 2 = k ∧ i ≤ k ∧ k < j := ⟨(i + j) / 2, rfl, by omega, by omega⟩
theorem swap_set2 {P : List Tm} {t x : Tm} {B : List Tm} : ((P ++ x :: t :: B).set P.length t).set (P.length + 1) x = P ++ t :: x :: B := by
  rw [List.set_append_right _ _ (Nat.le_refl _), Nat.sub_self, List.set_cons_zero, List.set_append_right _ _ (by omega), show P.length + 1 - P.length = 1 by omega]
  rfl
theorem symOne_spec (X : List Tm) (x : Tm) (R Y : List Tm) (hR : 0 < R.length) (ox : okT x) (oR : OkL R) (sR : Srt R) (N : Nat) (hN : (X ++ [x] ++ R ++ Y).length = N) (hl : N ≤ 1000000) (a m b : Nat) (ha : a = X.length) (hm : m = a + 1) (hb : b = m + R.length) (v : Value) (xs : List Value) (M : List Nat) (w0 : World) (hM : ∀ b ∈ M, b < w0.heap.size) (hv : w0.ownsRow 0 25 6 v N xs) (hT : TsR xs (X ++ [x] ++ R ++ Y) (v.ownBlock.toList ++ M) w0) :
    Calls Try.prog 61 #[v, .int .i64 a, .int .i64 m, .int .i64 b, .func (.func 25) #[] #[]] w0 (RSort N (X ++ mrg [x] R ++ Y) v M w0) := by
  have H := St.startR (r := .row v N xs 25 6) hM (TsR.stab xs _) hv (by cases h : v.ownBlock <;> simp [Res.ids, h]) hT
  clear hT hv
  obtain ⟨va, vk, rfl⟩ := H.rowVal0 (k := 0) rfl
  have hNN : b + Y.length = N := by simp only [List.length_append, List.length_cons, List.length_nil] at hN; omega
  obtain ⟨g, rfl⟩ := H.rowSome 0 rfl (by omega)
  have w1 : IntKind.wrap .i64 ((m : Int) - (a : Int)) = 1 := by rw [IntKind.wrap_i64]; omega; all_goals omega
  have w1' : (m : Int) - (a : Int) = 1 := by omega
  have e0 : X ++ [x] ++ R ++ Y = X ++ x :: (R ++ Y) := by simp
  rw [e0] at H
  obtain ⟨G, hG⟩ : ∃ G, X ++ mrg [x] R ++ Y = G := ⟨_, rfl⟩
  rw [hG]
  have q0 : (X ++ x :: (R ++ Y))[a]? = some x := by rw [ha, List.getElem?_append_right (Nat.le_refl _), Nat.sub_self]; rfl
  have haN : a < N := by omega
  have hma : a < m := by omega
  obtain ⟨A1, c1, f1, r1⟩ := H.fact.nth q0
  replace H := H.add f1 (AR.stab _ _ _)
  clear f1 q0 e0
  replace hN := Lib.hid hN; replace hG := Lib.hid hG; replace ha := Lib.hid ha; replace hb := Lib.hid hb; replace hm := Lib.hid hm; replace r1 := Lib.hid r1
  go_enter Try.func61, Try.ntmps61
  go_wp2_with (first | ((with_reducible refine wpl_runx ?_ ?_); (focus exact rfl); refine ⟨_, runs_load H 0 rfl rfl rfl rfl rfl, ?_⟩; rintro _ _ ⟨rfl, rfl⟩) | ((with_reducible refine wpl_runx ?_ ?_); (focus exact rfl); refine ⟨_, runs_load_cell H rfl rfl rfl rfl, ?_⟩; rintro _ _ ⟨rfl, rfl⟩) | ((with_reducible refine wpl_runx ?_ ?_); (focus exact rfl); refine ⟨_, runs_load_cell0 H rfl rfl rfl rfl, ?_⟩; rintro _ _ ⟨rfl, rfl⟩) | ((with_reducible refine wpl_runx ?_ ?_); (focus exact rfl); refine ⟨_, runs_load_obj H rfl rfl rfl rfl, ?_⟩; rintro _ _ ⟨rfl, rfl⟩) | ((with_reducible refine wpl_runx ?_ ?_); (focus exact rfl); refine ⟨_, runs_store H 0 rfl rfl rfl rfl rfl rfl rfl rfl rfl, ?_⟩; clear H; rintro _ w ⟨rfl, hE, H⟩; clear hE) | ((with_reducible refine wpl_pureX ?_); refine ⟨rfl, rfl, ?_⟩; apply Exists.intro; apply And.intro; (focus (intro w; go_simp; (try with_reducible rfl); done)); (try simp only [Act.put, List.setIfInBounds_toArray, List.set_cons_succ, List.set_cons_zero])) | ((fail_if_success ((with_reducible refine wpl_runx ?_ ?_); (focus exact rfl))); ((with_reducible refine wpl_gcaseE ?_); refine ⟨_, rfl, ?_, ?_⟩) <;> (intro hg; first | (simp only [reduceCtorEq] at hg; done) | contradiction | ((with_reducible have hx := eq_of_beq hg); contradiction) | ((with_reducible have hx := ne_of_beq_false hg); contradiction) | ((with_reducible have hx := bne_iff_ne.1 hg); contradiction) | ((with_reducible have hx := bne_eq_false_iff_eq.1 hg); contradiction) | ((with_reducible have hx := of_decide_eq_true hg); first | contradiction | omega) | ((with_reducible have hx := of_decide_eq_false hg); first | contradiction | omega) | (simp only [Bool.not_eq_true', Bool.not_eq_false', beq_iff_eq, beq_eq_false_iff_ne, bne_iff_ne, ne_eq] at hg; contradiction) | (simp only [hg]))))
  go_loopw [10, 11] (fun iv jv wr => ∃ i j : Nat, iv = .int .i64 i ∧ jv = .int .i64 j ∧ m ≤ i ∧ i ≤ j ∧ j ≤ b ∧ (∀ (k : Nat) (t : Tm), R[k]? = some t → m + k < i → ordE t x < 0) ∧ (∀ (k : Nat) (t : Tm), R[k]? = some t → j ≤ m + k → ¬ ordE t x < 0) ∧
    St M (Value.slice (some ⟨g, 0, none⟩) N vk).ownBlock.toList w0 wr [.row (.slice (some ⟨g, 0, none⟩) N vk) N xs 25 6] fun M w => TsR xs (X ++ x :: (R ++ Y)) M w ∧ AR A1 c1 x.args M w) (fun iv jv _ => (intOf jv).toNat - (intOf iv).toNat)
  case atStart => exact ⟨m, b, rfl, rfl, Nat.le_refl _, by have := hb.out; omega, Nat.le_refl _, fun k t h h' => by omega, fun k t h h' => by have := (List.getElem?_eq_some_iff.1 h).1; have := hb.out; omega, H⟩
  case round =>
    clear H
    obtain ⟨i, j, rfl, rfl, hmi, hij, hjb, hlo, hhi, H⟩ := hrel
    replace hlo := Lib.hid hlo; replace hhi := Lib.hid hhi
    by_cases lt : i < j
    · have g1 : decide ((i : Int) < (j : Int)) = true := by simpa using lt
      have g1' : decide (i < j) = true := by simpa using lt
      obtain ⟨h, hh, hih, hhj⟩ := half_sum lt (by omega)
      have w2 : ((i : Int) + (j : Int)) / 2 = (h : Int) := by omega
      have hhN : h < N := by omega
      have hhR : h - m < R.length := by have := hb.out; omega
      obtain ⟨t, ht⟩ : ∃ t, R[h - m]? = some t := ⟨_, List.getElem?_eq_getElem hhR⟩
      have q1 : (X ++ x :: (R ++ Y))[h]? = some t := by
        rw [show h = X.length + (1 + (h - m)) by have := ha.out; have := hm.out; omega, List.getElem?_append_right (by omega), Nat.add_sub_cancel_left, Nat.add_comm 1, List.getElem?_cons_succ, List.getElem?_append_left hhR, ht]
      obtain ⟨A2, c2, f2, r2⟩ := H.fact.1.nth q1
      replace H := H.add f2 (AR.stab _ _ _)
      have ot : okT t := oR t (List.mem_of_getElem? ht)
      clear f2 q1
      replace r2 := Lib.hid r2
      obtain ⟨D, hD⟩ : ∃ D, ordE t x = D := ⟨_, rfl⟩
      have hC : ∀ w, AR A2 c2 t.args [] w → AR A1 c1 x.args [] w → Calls Try.prog 25 #[.agg #[.int .i64 t.kind, .string t.name, .int .i64 t.int, .int .u64 t.re, .int .u64 t.im, .slice A2 t.args.length c2], .agg #[.int .i64 x.kind, .string x.name, .int .i64 x.int, .int .u64 x.re, .int .u64 x.im, .slice A1 x.args.length c1]] w (RetV w (.int .i64 D)) := fun w h h' => by rw [← hD]; exact ocompare_spec t x A2 A1 c2 c1 w ot ox h h'
      replace hC := Lib.hid hC; replace hD := Lib.hid hD; replace ht := Lib.hid ht
      go_wp2_with (first | ((with_reducible refine wpl_runx ?_ ?_); (focus exact rfl); refine ⟨_, runs_load H 0 rfl rfl rfl rfl rfl, ?_⟩; rintro _ _ ⟨rfl, rfl⟩) | ((with_reducible refine wpl_runx ?_ ?_); (focus exact rfl); refine ⟨_, runs_load_cell H rfl rfl rfl rfl, ?_⟩; rintro _ _ ⟨rfl, rfl⟩) | ((with_reducible refine wpl_runx ?_ ?_); (focus exact rfl); refine ⟨_, runs_load_cell0 H rfl rfl rfl rfl, ?_⟩; rintro _ _ ⟨rfl, rfl⟩) | ((with_reducible refine wpl_runx ?_ ?_); (focus exact rfl); refine ⟨_, runs_load_obj H rfl rfl rfl rfl, ?_⟩; rintro _ _ ⟨rfl, rfl⟩) | ((with_reducible refine wpl_runx ?_ ?_); (focus exact rfl); refine ⟨_, runs_store H 0 rfl rfl rfl rfl rfl rfl rfl rfl rfl, ?_⟩; clear H; rintro _ w ⟨rfl, hE, H⟩; clear hE) | ((with_reducible refine wp_region_Ts 5 H [] [[], [], [], [1, 2], [1, 2, 3], [], [], [5, 6], [5, 6, 7], [0, 1, 2, 3, 4, 5, 6, 7, 8], [0, 1, 2, 3, 4, 5, 6, 7, 8, 9]] [4, 8] [0, 1, 2, 3, 4, 5, 6, 7, 8, 10] (.step 0 (.step 1 (.step 2 (.step 3 (.step 4 (.step 5 (.step 6 (.step 7 (.step 8 (.step 9 (.step 10 .nil))))))))))) ?_ ?_ ?_ ?_); (focus kernel_rfl); (focus kernel_rfl); (focus (intro d v c a w h; cases d <;> exact h)); clear H; intro w H; have HS := Ext.refl [] w; have H0 := H; all_goals ((with_reducible refine T_pureX ?_); refine ⟨_, rfl, rfl, rfl, rfl, ?_⟩; apply Exists.intro; apply And.intro; (focus (intro w; go_simp; (try with_reducible rfl); done)); (try simp only [Act.put, List.setIfInBounds_toArray, List.set_cons_succ, List.set_cons_zero])); all_goals ((with_reducible refine T_pureX ?_); refine ⟨_, rfl, rfl, rfl, rfl, ?_⟩; apply Exists.intro; apply And.intro; (focus (intro w; go_simp; (try with_reducible rfl); done)); (try simp only [Act.put, List.setIfInBounds_toArray, List.set_cons_succ, List.set_cons_zero])); all_goals ((with_reducible refine T_pureX ?_); refine ⟨_, rfl, rfl, rfl, rfl, ?_⟩; apply Exists.intro; apply And.intro; (focus (intro w; go_simp; (try with_reducible rfl); done)); (try simp only [Act.put, List.setIfInBounds_toArray, List.set_cons_succ, List.set_cons_zero])); all_goals ((with_reducible refine T_pureX ?_); refine ⟨_, rfl, rfl, rfl, rfl, ?_⟩; apply Exists.intro; apply And.intro; (focus (intro w; go_simp; (try with_reducible rfl); done)); (try simp only [Act.put, List.setIfInBounds_toArray, List.set_cons_succ, List.set_cons_zero])); all_goals ((with_reducible refine T_load_rowX H0 HS 0 rfl r2.out ?_); refine ⟨_, rfl, rfl, rfl, rfl, _, _, rfl, _, rfl, by first | rfl | omega, _, _, _, rfl, rfl, by simp, ?_⟩; (try simp only [Act.put, List.setIfInBounds_toArray, List.set_cons_succ, List.set_cons_zero])); all_goals ((with_reducible refine T_pureX ?_); refine ⟨_, rfl, rfl, rfl, rfl, ?_⟩; apply Exists.intro; apply And.intro; (focus (intro w; go_simp; (try with_reducible rfl); done)); (try simp only [Act.put, List.setIfInBounds_toArray, List.set_cons_succ, List.set_cons_zero])); all_goals ((with_reducible refine T_pureX ?_); refine ⟨_, rfl, rfl, rfl, rfl, ?_⟩; apply Exists.intro; apply And.intro; (focus (intro w; go_simp; (try with_reducible rfl); done)); (try simp only [Act.put, List.setIfInBounds_toArray, List.set_cons_succ, List.set_cons_zero])); all_goals ((with_reducible refine T_pureX ?_); refine ⟨_, rfl, rfl, rfl, rfl, ?_⟩; apply Exists.intro; apply And.intro; (focus (intro w; go_simp; (try with_reducible rfl); done)); (try simp only [Act.put, List.setIfInBounds_toArray, List.set_cons_succ, List.set_cons_zero])); all_goals ((with_reducible refine T_load_rowX H0 HS 0 rfl r1.out ?_); refine ⟨_, rfl, rfl, rfl, rfl, _, _, rfl, _, rfl, by first | rfl | omega, _, _, _, rfl, rfl, by simp, ?_⟩; (try simp only [Act.put, List.setIfInBounds_toArray, List.set_cons_succ, List.set_cons_zero])); all_goals ((with_reducible refine T_opX ?_); refine ⟨_, rfl, rfl, rfl, fun K hK => ?_⟩; go_simp; refine Calls.mono (hC.out _ H.ar0 H.ar0) ?_; rintro _ w ⟨rfl, hE⟩; replace HS := HS.trans hE; replace H := H.step hE; clear hE; refine hK _ _ (fun h => absurd h (by decide)) ?_; clear hK K; (try simp only [Act.put, List.setIfInBounds_toArray, List.set_cons_succ, List.set_cons_zero])); all_goals ((with_reducible refine T_pureX ?_); refine ⟨_, rfl, rfl, rfl, rfl, ?_⟩; apply Exists.intro; apply And.intro; (focus (intro w; go_simp; (try with_reducible rfl); done)); (try simp only [Act.put, List.setIfInBounds_toArray, List.set_cons_succ, List.set_cons_zero])); all_goals ((with_reducible refine T_nil ?_); clear H0 HS)) | ((with_reducible refine wpl_pureX ?_); refine ⟨rfl, rfl, ?_⟩; apply Exists.intro; apply And.intro; (focus (intro w; go_simp; (try with_reducible rfl); done)); (try simp only [Act.put, List.setIfInBounds_toArray, List.set_cons_succ, List.set_cons_zero])) | ((fail_if_success ((with_reducible refine wpl_runx ?_ ?_); (focus exact rfl))); ((with_reducible refine wpl_gcaseE ?_); refine ⟨_, rfl, ?_, ?_⟩) <;> (intro hg; first | (simp only [reduceCtorEq] at hg; done) | contradiction | ((with_reducible have hx := eq_of_beq hg); contradiction) | ((with_reducible have hx := ne_of_beq_false hg); contradiction) | ((with_reducible have hx := bne_iff_ne.1 hg); contradiction) | ((with_reducible have hx := bne_eq_false_iff_eq.1 hg); contradiction) | ((with_reducible have hx := of_decide_eq_true hg); first | contradiction | omega) | ((with_reducible have hx := of_decide_eq_false hg); first | contradiction | omega) | (simp only [Bool.not_eq_true', Bool.not_eq_false', beq_iff_eq, beq_eq_false_iff_ne, bne_iff_ne, ne_eq] at hg; contradiction) | (simp only [hg]))))
      · go_roundw
        case rel =>
          refine ⟨h + 1, j, by first | rfl | go_num, rfl, by omega, by omega, hjb, fun k u hu hk => ?_, hhi.out, H.weaken (fun h => h.1) ((TsR.stab _ _).and (AR.stab _ _ _))⟩
          by_cases e : k = h - m
          · subst e
            obtain rfl : t = u := Option.some.inj (ht.out.symm.trans hu)
            rw [hD.out]; assumption
          · exact le_lt (oR u (List.mem_of_getElem? hu)) ot ox (srt_nth sR (by omega) hu ht.out) (by rw [hD.out]; assumption)
        case measure => simp [intOf]; omega
      · go_roundw
        case rel =>
          refine ⟨i, h, rfl, by first | rfl | go_num, hmi, hih, by omega, hlo.out, fun k u hu hk => ?_, H.weaken (fun h => h.1) ((TsR.stab _ _).and (AR.stab _ _ _))⟩
          by_cases e : k = h - m
          · subst e
            obtain rfl : t = u := Option.some.inj (ht.out.symm.trans hu)
            rw [hD.out]; omega
          · exact le_le ox ot (oR u (List.mem_of_getElem? hu)) (by rw [hD.out]; omega) (srt_nth sR (by omega) ht.out hu)
        case measure => simp [intOf]; omega
    · obtain rfl : i = j := by omega
      have g1 : decide ((i : Int) < (i : Int)) = false := by simp
      obtain ⟨e, he⟩ : ∃ e, e + 1 = i := ⟨i - 1, by omega⟩
      have hiR : i - m ≤ R.length := by have := hb.out; omega
      have hGG : X ++ R.take (i - m) ++ x :: (R.drop (i - m) ++ Y) = G := by
        rw [← hG.out]
        have := mrg_one_l (r1 := R.take (i - m)) (r2 := R.drop (i - m)) (x := x) (fun y hy => ?_) (fun y hy => ?_)
        · rw [List.take_append_drop] at this
          rw [this]; simp
        · obtain ⟨k, hk, rfl⟩ := List.mem_iff_getElem.1 hy
          rw [List.length_take] at hk
          exact hlo.out k _ (by rw [List.getElem_take]; exact List.getElem?_eq_getElem (by omega)) (by omega)
        · obtain ⟨k, hk, rfl⟩ := List.mem_iff_getElem.1 hy
          rw [List.length_drop] at hk
          rw [List.getElem_drop]
          exact hhi.out (i - m + k) _ (List.getElem?_eq_getElem (by omega)) (by omega)
      obtain ⟨R1, hR1⟩ : ∃ R1, R.take (i - m) = R1 := ⟨_, rfl⟩
      obtain ⟨R2, hR2⟩ : ∃ R2, R.drop (i - m) = R2 := ⟨_, rfl⟩
      have hl1 : R1.length = i - m := by rw [← hR1, List.length_take]; omega
      have hR12 : Hid (R1.length + R2.length = R.length) := Lib.hid (by rw [← List.length_append, ← hR1, ← hR2, List.take_append_drop])
      have hRR : X ++ x :: (R ++ Y) = X ++ [] ++ x :: (R1 ++ R2 ++ Y) := by rw [← hR1, ← hR2, List.take_append_drop]; simp
      have he1 : e = X.length + R1.length := by have := hm.out; have := ha.out; omega
      rw [hR1, hR2] at hGG
      rw [hRR] at H
      have w3 : IntKind.wrap .i64 ((i : Int) - 1) = (e : Int) := by rw [IntKind.wrap_i64]; omega; all_goals omega
      have w4 : (i : Int) - 1 = (e : Int) := by omega
      have heN : e < N := by omega
      clear hR1 hR2 hRR hlo hhi hl1 r1
      replace hGG := Lib.hid hGG; replace he1 := Lib.hid he1
      replace H := H.weaken (fun h => h.1) (TsR.stab _ _)
      go_wp2_with (first | ((with_reducible refine wpl_runx ?_ ?_); (focus exact rfl); refine ⟨_, runs_load H 0 rfl rfl rfl rfl rfl, ?_⟩; rintro _ _ ⟨rfl, rfl⟩) | ((with_reducible refine wpl_runx ?_ ?_); (focus exact rfl); refine ⟨_, runs_load_cell H rfl rfl rfl rfl, ?_⟩; rintro _ _ ⟨rfl, rfl⟩) | ((with_reducible refine wpl_runx ?_ ?_); (focus exact rfl); refine ⟨_, runs_load_cell0 H rfl rfl rfl rfl, ?_⟩; rintro _ _ ⟨rfl, rfl⟩) | ((with_reducible refine wpl_runx ?_ ?_); (focus exact rfl); refine ⟨_, runs_load_obj H rfl rfl rfl rfl, ?_⟩; rintro _ _ ⟨rfl, rfl⟩) | ((with_reducible refine wpl_runx ?_ ?_); (focus exact rfl); refine ⟨_, runs_store H 0 rfl rfl rfl rfl rfl rfl rfl rfl rfl, ?_⟩; clear H; rintro _ w ⟨rfl, hE, H⟩; clear hE) | ((with_reducible refine wpl_pureX ?_); refine ⟨rfl, rfl, ?_⟩; apply Exists.intro; apply And.intro; (focus (intro w; go_simp; (try with_reducible rfl); done)); (try simp only [Act.put, List.setIfInBounds_toArray, List.set_cons_succ, List.set_cons_zero])) | ((fail_if_success ((with_reducible refine wpl_runx ?_ ?_); (focus exact rfl))); ((with_reducible refine wpl_gcaseE ?_); refine ⟨_, rfl, ?_, ?_⟩) <;> (intro hg; first | (simp only [reduceCtorEq] at hg; done) | contradiction | ((with_reducible have hx := eq_of_beq hg); contradiction) | ((with_reducible have hx := ne_of_beq_false hg); contradiction) | ((with_reducible have hx := bne_iff_ne.1 hg); contradiction) | ((with_reducible have hx := bne_eq_false_iff_eq.1 hg); contradiction) | ((with_reducible have hx := of_decide_eq_true hg); first | contradiction | omega) | ((with_reducible have hx := of_decide_eq_false hg); first | contradiction | omega) | (simp only [Bool.not_eq_true', Bool.not_eq_false', beq_iff_eq, beq_eq_false_iff_ne, bne_iff_ne, ne_eq] at hg; contradiction) | (simp only [hg]))))
      go_loopw [13] (fun kv wr => ∃ (k : Nat) (S T : List Tm) (xs : List Value), kv = .int .i64 k ∧ R1 = S ++ T ∧ k = X.length + S.length ∧ St M (Value.slice (some ⟨g, 0, none⟩) N vk).ownBlock.toList w0 wr [.row (.slice (some ⟨g, 0, none⟩) N vk) N xs 25 6] (TsR xs (X ++ S ++ x :: (T ++ R2 ++ Y)))) (fun kv _ => e - (intOf kv).toNat)
      case atStart => exact ⟨a, [], R1, xs, rfl, rfl, by rw [ha.out]; rfl, H⟩
      case round =>
        clear H
        obtain ⟨k, S, T, xs, rfl, hST, hk, H⟩ := hrel
        replace hST := Lib.hid hST; replace hk := Lib.hid hk
        cases T with
        | nil =>
          obtain rfl : k = e := by rw [hk.out, he1.out, hST.out]; simp
          have g2 : decide ((k : Int) < (k : Int)) = false := by simp
          go_wp2_with (first | ((with_reducible refine wpl_runx ?_ ?_); (focus exact rfl); refine ⟨_, runs_load H 0 rfl rfl rfl rfl rfl, ?_⟩; rintro _ _ ⟨rfl, rfl⟩) | ((with_reducible refine wpl_runx ?_ ?_); (focus exact rfl); refine ⟨_, runs_load_cell H rfl rfl rfl rfl, ?_⟩; rintro _ _ ⟨rfl, rfl⟩) | ((with_reducible refine wpl_runx ?_ ?_); (focus exact rfl); refine ⟨_, runs_load_cell0 H rfl rfl rfl rfl, ?_⟩; rintro _ _ ⟨rfl, rfl⟩) | ((with_reducible refine wpl_runx ?_ ?_); (focus exact rfl); refine ⟨_, runs_load_obj H rfl rfl rfl rfl, ?_⟩; rintro _ _ ⟨rfl, rfl⟩) | ((with_reducible refine wpl_runx ?_ ?_); (focus exact rfl); refine ⟨_, runs_store H 0 rfl rfl rfl rfl rfl rfl rfl rfl rfl, ?_⟩; clear H; rintro _ w ⟨rfl, hE, H⟩; clear hE) | ((with_reducible refine wpl_pureX ?_); refine ⟨rfl, rfl, ?_⟩; apply Exists.intro; apply And.intro; (focus (intro w; go_simp; (try with_reducible rfl); done)); (try simp only [Act.put, List.setIfInBounds_toArray, List.set_cons_succ, List.set_cons_zero])) | ((fail_if_success ((with_reducible refine wpl_runx ?_ ?_); (focus exact rfl))); ((with_reducible refine wpl_gcaseE ?_); refine ⟨_, rfl, ?_, ?_⟩) <;> (intro hg; first | (simp only [reduceCtorEq] at hg; done) | contradiction | ((with_reducible have hx := eq_of_beq hg); contradiction) | ((with_reducible have hx := ne_of_beq_false hg); contradiction) | ((with_reducible have hx := bne_iff_ne.1 hg); contradiction) | ((with_reducible have hx := bne_eq_false_iff_eq.1 hg); contradiction) | ((with_reducible have hx := of_decide_eq_true hg); first | contradiction | omega) | ((with_reducible have hx := of_decide_eq_false hg); first | contradiction | omega) | (simp only [Bool.not_eq_true', Bool.not_eq_false', beq_iff_eq, beq_eq_false_iff_ne, bne_iff_ne, ne_eq] at hg; contradiction) | (simp only [hg]))))
          go_end0
          refine RSort.mk rfl (H.weaken (fun h => ?_) (TsR.stab _ _))
          rw [← hGG.out, hST.out]
          simpa using h
        | cons t T =>
          have hke : k < e := by have := he1.out; have := hk.out; rw [hST.out, List.length_append, List.length_cons] at *; omega
          have g2 : decide ((k : Int) < (e : Int)) = true := by simpa using hke
          obtain ⟨p, hp⟩ : ∃ p, k + 1 = p := ⟨_, rfl⟩
          have hkN : k < N := by omega
          have hpN : p < N := by omega
          have w5 : IntKind.wrap .i64 ((k : Int) + 1) = (p : Int) := by rw [IntKind.wrap_i64]; omega; all_goals omega
          have e0 : X ++ S ++ x :: (t :: T ++ R2 ++ Y) = (X ++ S) ++ x :: t :: (T ++ R2 ++ Y) := by simp
          rw [e0] at H
          have hkl : (X ++ S).length = k := by rw [hk.out, List.length_append]
          have q1 : ((X ++ S) ++ x :: t :: (T ++ R2 ++ Y))[k]? = some x := by rw [← hkl, List.getElem?_append_right (Nat.le_refl _), Nat.sub_self]; rfl
          have q2 : ((X ++ S) ++ x :: t :: (T ++ R2 ++ Y))[p]? = some t := by rw [← hp, ← hkl, List.getElem?_append_right (by omega), Nat.add_sub_cancel_left]; rfl
          have e9 := swap_set2 (P := X ++ S) (t := t) (x := x) (B := T ++ R2 ++ Y)
          rw [hkl, hp] at e9
          have hle : ((X ++ S) ++ x :: t :: (T ++ R2 ++ Y)).length = N := by
            have e4 := hR12.out
            have e5 := hk.out; have := hb.out; have := hm.out; have := ha.out
            rw [hST.out] at e4
            simp only [List.length_append, List.length_cons] at e4 ⊢
            omega
          obtain ⟨A2, c2, f2, r2⟩ := H.fact.nth q1
          obtain ⟨A3, c3, f3, r3⟩ := H.fact.nth q2
          replace H := (H.add f2 (AR.stab _ _ _)).add f3 (AR.stab _ _ _)
          clear f2 f3 q1 q2 e0
          replace e9 := Lib.hid e9; replace hle := Lib.hid hle; replace hkl := Lib.hid hkl
          go_wp2_with (first | ((with_reducible refine wpl_runx ?_ ?_); (focus exact rfl); refine ⟨_, runs_load H 0 rfl rfl rfl rfl rfl, ?_⟩; rintro _ _ ⟨rfl, rfl⟩) | ((with_reducible refine wpl_runx ?_ ?_); (focus exact rfl); refine ⟨_, runs_load_cell H rfl rfl rfl rfl, ?_⟩; rintro _ _ ⟨rfl, rfl⟩) | ((with_reducible refine wpl_runx ?_ ?_); (focus exact rfl); refine ⟨_, runs_load_cell0 H rfl rfl rfl rfl, ?_⟩; rintro _ _ ⟨rfl, rfl⟩) | ((with_reducible refine wpl_runx ?_ ?_); (focus exact rfl); refine ⟨_, runs_load_obj H rfl rfl rfl rfl, ?_⟩; rintro _ _ ⟨rfl, rfl⟩) | ((with_reducible refine wpl_runx ?_ ?_); (focus exact rfl); refine ⟨_, runs_store H 0 rfl rfl rfl rfl rfl rfl rfl rfl rfl, ?_⟩; clear H; rintro _ w ⟨rfl, hE, H⟩; clear hE) | ((with_reducible refine wp_region_Ts 11 H [] [[], [], [], [], [3], [], [], [6], [5, 6, 7], [5, 6, 7, 8], [], [], [10, 11], [10, 11, 12], [0, 1, 5, 6, 7, 8, 9, 10, 11, 12, 13], [0, 1, 5, 6, 7, 8, 9, 10, 11, 12, 13, 14], [0, 1, 2, 3, 4, 5, 6, 7, 8, 9, 10, 11, 12, 13, 14, 15], [0, 1, 2, 3, 4, 5, 6, 7, 8, 9, 10, 11, 12, 13, 14, 15, 16]] [9, 13] [0, 1, 2, 3, 4, 5, 6, 7, 8, 9, 10, 11, 12, 13, 14, 16] (.step 0 (.step 1 (.step 2 (.step 3 (.step 4 (.step 5 (.step 6 (.step 7 (.step 8 (.step 9 (.step 10 (.step 11 (.step 12 (.step 13 (.step 14 (.step 15 (.step 16 (.step 17 .nil)))))))))))))))))) ?_ ?_ ?_ ?_); (focus kernel_rfl); (focus kernel_rfl); (focus (intro d v c a w h; cases d <;> exact h)); clear H; intro w H; have HS := Ext.refl [] w; have H0 := H; all_goals ((with_reducible refine T_pureX ?_); refine ⟨_, rfl, rfl, rfl, rfl, ?_⟩; apply Exists.intro; apply And.intro; (focus (intro w; go_simp; (try with_reducible rfl); done)); (try simp only [Act.put, List.setIfInBounds_toArray, List.set_cons_succ, List.set_cons_zero])); all_goals ((with_reducible refine T_pureX ?_); refine ⟨_, rfl, rfl, rfl, rfl, ?_⟩; apply Exists.intro; apply And.intro; (focus (intro w; go_simp; (try with_reducible rfl); done)); (try simp only [Act.put, List.setIfInBounds_toArray, List.set_cons_succ, List.set_cons_zero])); all_goals ((with_reducible refine T_pureX ?_); refine ⟨_, rfl, rfl, rfl, rfl, ?_⟩; apply Exists.intro; apply And.intro; (focus (intro w; go_simp; (try with_reducible rfl); done)); (try simp only [Act.put, List.setIfInBounds_toArray, List.set_cons_succ, List.set_cons_zero])); all_goals ((with_reducible refine T_pureX ?_); refine ⟨_, rfl, rfl, rfl, rfl, ?_⟩; apply Exists.intro; apply And.intro; (focus (intro w; go_simp; (try with_reducible rfl); done)); (try simp only [Act.put, List.setIfInBounds_toArray, List.set_cons_succ, List.set_cons_zero])); all_goals ((with_reducible refine T_pureX ?_); refine ⟨_, rfl, rfl, rfl, rfl, ?_⟩; apply Exists.intro; apply And.intro; (focus (intro w; go_simp; (try with_reducible rfl); done)); (try simp only [Act.put, List.setIfInBounds_toArray, List.set_cons_succ, List.set_cons_zero])); all_goals ((with_reducible refine T_pureX ?_); refine ⟨_, rfl, rfl, rfl, rfl, ?_⟩; apply Exists.intro; apply And.intro; (focus (intro w; go_simp; (try with_reducible rfl); done)); (try simp only [Act.put, List.setIfInBounds_toArray, List.set_cons_succ, List.set_cons_zero])); all_goals ((with_reducible refine T_pureX ?_); refine ⟨_, rfl, rfl, rfl, rfl, ?_⟩; apply Exists.intro; apply And.intro; (focus (intro w; go_simp; (try with_reducible rfl); done)); (try simp only [Act.put, List.setIfInBounds_toArray, List.set_cons_succ, List.set_cons_zero])); all_goals ((with_reducible refine T_pureX ?_); refine ⟨_, rfl, rfl, rfl, rfl, ?_⟩; apply Exists.intro; apply And.intro; (focus (intro w; go_simp; (try with_reducible rfl); done)); (try simp only [Act.put, List.setIfInBounds_toArray, List.set_cons_succ, List.set_cons_zero])); all_goals ((with_reducible refine T_pureX ?_); refine ⟨_, rfl, rfl, rfl, rfl, ?_⟩; apply Exists.intro; apply And.intro; (focus (intro w; go_simp; (try with_reducible rfl); done)); (try simp only [Act.put, List.setIfInBounds_toArray, List.set_cons_succ, List.set_cons_zero])); all_goals ((with_reducible refine T_load_rowX H0 HS 0 rfl r3 ?_); refine ⟨_, rfl, rfl, rfl, rfl, _, _, rfl, _, rfl, by first | rfl | omega, _, _, _, rfl, rfl, by simp, ?_⟩; (try simp only [Act.put, List.setIfInBounds_toArray, List.set_cons_succ, List.set_cons_zero])); all_goals ((with_reducible refine T_pureX ?_); refine ⟨_, rfl, rfl, rfl, rfl, ?_⟩; apply Exists.intro; apply And.intro; (focus (intro w; go_simp; (try with_reducible rfl); done)); (try simp only [Act.put, List.setIfInBounds_toArray, List.set_cons_succ, List.set_cons_zero])); all_goals ((with_reducible refine T_pureX ?_); refine ⟨_, rfl, rfl, rfl, rfl, ?_⟩; apply Exists.intro; apply And.intro; (focus (intro w; go_simp; (try with_reducible rfl); done)); (try simp only [Act.put, List.setIfInBounds_toArray, List.set_cons_succ, List.set_cons_zero])); all_goals ((with_reducible refine T_pureX ?_); refine ⟨_, rfl, rfl, rfl, rfl, ?_⟩; apply Exists.intro; apply And.intro; (focus (intro w; go_simp; (try with_reducible rfl); done)); (try simp only [Act.put, List.setIfInBounds_toArray, List.set_cons_succ, List.set_cons_zero])); all_goals ((with_reducible refine T_load_rowX H0 HS 0 rfl r2 ?_); refine ⟨_, rfl, rfl, rfl, rfl, _, _, rfl, _, rfl, by first | rfl | omega, _, _, _, rfl, rfl, by simp, ?_⟩; (try simp only [Act.put, List.setIfInBounds_toArray, List.set_cons_succ, List.set_cons_zero])); all_goals ((with_reducible refine T_pureX ?_); refine ⟨_, rfl, rfl, rfl, rfl, ?_⟩; apply Exists.intro; apply And.intro; (focus (intro w; go_simp; (try with_reducible rfl); done)); (try simp only [Act.put, List.setIfInBounds_toArray, List.set_cons_succ, List.set_cons_zero])); all_goals ((with_reducible refine T_stepX ?_); refine ⟨_, rfl, rfl, rfl, ?_⟩; refine ⟨_, runs_setRow H 0 rfl t A3 c3 rfl rfl rfl rfl k (by first | rfl | omega) (by omega) (fun r => rfl), ?_⟩; clear H; rintro _ w ⟨rfl, hE, H⟩; clear hE; refine ⟨(fun h => absurd h (by decide)), ?_⟩; (try simp only [Act.put, List.setIfInBounds_toArray, List.set_cons_succ, List.set_cons_zero])); all_goals ((with_reducible refine T_pureX ?_); refine ⟨_, rfl, rfl, rfl, rfl, ?_⟩; apply Exists.intro; apply And.intro; (focus (intro w; go_simp; (try with_reducible rfl); done)); (try simp only [Act.put, List.setIfInBounds_toArray, List.set_cons_succ, List.set_cons_zero])); all_goals ((with_reducible refine T_stepX ?_); refine ⟨_, rfl, rfl, rfl, ?_⟩; refine ⟨_, runs_setRow H 0 rfl x A2 c2 rfl rfl rfl rfl p (by first | rfl | omega) (by omega) (fun r => rfl), ?_⟩; clear H; rintro _ w ⟨rfl, hE, H⟩; clear hE; refine ⟨(fun h => absurd h (by decide)), ?_⟩; (try simp only [Act.put, List.setIfInBounds_toArray, List.set_cons_succ, List.set_cons_zero])); all_goals ((with_reducible refine T_nil ?_); clear H0 HS)) | ((with_reducible refine wpl_pureX ?_); refine ⟨rfl, rfl, ?_⟩; apply Exists.intro; apply And.intro; (focus (intro w; go_simp; (try with_reducible rfl); done)); (try simp only [Act.put, List.setIfInBounds_toArray, List.set_cons_succ, List.set_cons_zero])) | ((fail_if_success ((with_reducible refine wpl_runx ?_ ?_); (focus exact rfl))); ((with_reducible refine wpl_gcaseE ?_); refine ⟨_, rfl, ?_, ?_⟩) <;> (intro hg; first | (simp only [reduceCtorEq] at hg; done) | contradiction | ((with_reducible have hx := eq_of_beq hg); contradiction) | ((with_reducible have hx := ne_of_beq_false hg); contradiction) | ((with_reducible have hx := bne_iff_ne.1 hg); contradiction) | ((with_reducible have hx := bne_eq_false_iff_eq.1 hg); contradiction) | ((with_reducible have hx := of_decide_eq_true hg); first | contradiction | omega) | ((with_reducible have hx := of_decide_eq_false hg); first | contradiction | omega) | (simp only [Bool.not_eq_true', Bool.not_eq_false', beq_iff_eq, beq_eq_false_iff_ne, bne_iff_ne, ne_eq] at hg; contradiction) | (simp only [hg]))))
          go_roundw
          case rel =>
            refine ⟨p, S ++ [t], T, _, by first | rfl | go_num, by rw [hST.out]; simp, by rw [← hp, hk.out]; simp; omega, H.weaken (fun h => ?_) (TsR.stab _ _)⟩
            have t1 := h.1.1.set h.2 (j := k) (by rw [hle.out]; exact hkN)
            have t2 := t1.set h.1.2 (j := p) (by rw [List.length_set, hle.out]; exact hpN)
            rw [e9.out] at t2
            simpa using t2
          case measure => simp [intOf]; omega
end Go.Proofs.Ythiionkikammkaa
