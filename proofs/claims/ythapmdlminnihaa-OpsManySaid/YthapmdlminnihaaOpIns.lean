/- Walks: one operator put into a row. -/
import Derived.Test.YthapmdlminnihaaOpDel
namespace Go.Proofs.Ythapmdlminnihaa
open Go.RowKit
set_option linter.unusedVariables false
set_option linter.unusedSimpArgs false
set_option maxRecDepth 20000
set_option maxHeartbeats 4000000
attribute [local irreducible] infE placeE mayO cmpO
theorem St.rowRC {M X : List Nat} {w0 w : World} {L : List Res} {F : List Nat → World → Prop} (H : St M X w0 w L F) (k : Nat) {g n cap : Nat} {xs cs : List Value} {ty : TypeId} {sz off : Nat} (hk : L[k]? = some (.row (.slice (some ⟨g, 0, none⟩) n cap) n xs ty sz)) (hc : RC xs off cs) :
    ∀ q u, cs[q]? = some u → w.cell? ((⟨g, off, none⟩ : Addr).add q) = some u := by
  obtain ⟨hxl, cur, hg, hc', hmx, hsz, ht⟩ := H.rowBlock k hk
  intro q u hq
  rw [add_off, cell_of_row w g (off + q) cur ty (0, 0) hg]
  have h := hc q u hq
  rw [← ht, List.getElem?_take] at h
  split at h
  · simpa using h
  · cases h
theorem rc_drop (l : List OpT) (ys : List Value) (j : Nat) : RC (opsL l ++ ys) (j * 3) (opsL (l.drop j)) := by
  intro q v hq
  have hlt := (List.getElem?_eq_some_iff.1 hq).1
  rw [opsL_drop, List.getElem?_drop] at hq
  rw [List.getElem?_append_left (by rw [opsL_drop, List.length_drop] at hlt; omega)]
  exact hq
theorem ObjF.src {b : Nat} {cs : List Value} {ty : TypeId} {M : List Nat} {w : World} (h : ObjF b (.cells cs.toArray ty (0, 0)) M w) : ∀ j v, cs[j]? = some v → w.cell? ((⟨b, 0, none⟩ : Addr).add j) = some v := fun j v hj => by
  rw [add_off]
  exact cells_open h.1 j v hj
theorem layL_left {P R D c : List Value} {p r : Nat} (hp : P.length = p) (hr : R.length = r) (hc : c.length = r) : layL (P ++ (R ++ D)) p c = P ++ (c ++ D) := by
  unfold layL
  rw [List.take_left' hp, hc, ← List.append_assoc, List.drop_left' (by rw [List.length_append, hp, hr]), List.append_assoc]
theorem lay_in {P D ys c : List Value} {p : Nat} (hp : P.length = p) (hy : ys.length = 3) (hc : c.length = 3) : layL (layL (P ++ D ++ ys) (p + 3) D) p c = P ++ (c ++ D) := by
  have e : layL (P ++ D ++ ys) (p + 3) D = P ++ ((D ++ ys).take 3 ++ D) := by
    unfold layL
    rw [List.drop_eq_nil_of_le (by simp only [List.length_append]; omega), List.append_nil, List.append_assoc, List.take_append, List.take_of_length_le (by omega), hp, show p + 3 - p = 3 by omega, List.append_assoc]
  rw [e]
  exact layL_left hp (by rw [List.length_take, List.length_append]; omega) hc
theorem lay_new {P Z c D : List Value} {p m : Nat} (hp : P.length = p) (hZ : Z.length = m + 3) (hD : D.length = m) (hc : c.length = 3) : layL (layL (P ++ Z) p c) (p + 3) D = P ++ (c ++ D) := by
  have e : layL (P ++ Z) p c = (P ++ c) ++ (Z.drop 3 ++ []) := by
    have h := layL_left (R := Z.take 3) (D := Z.drop 3) (c := c) hp (by rw [List.length_take]; omega) hc
    rw [List.take_append_drop] at h
    rw [h]; simp
  rw [e, layL_left (by rw [List.length_append, hp, hc]) (by rw [List.length_drop]; omega) hD]
  simp
theorem ins_in {l : List OpT} {o : OpT} {ys : List Value} {k n : Nat} (hn : l.length = n) (hk : k < n) (hy : ys.length = 3) :
    layL (layL (opsL l ++ ys) ((k + 1) * 3) (opsL (l.drop k))) (k * 3) (oc o) = opsL (l.take k ++ o :: l.drop k) := by
  have h := lay_in (P := opsL (l.take k)) (D := opsL (l.drop k)) (ys := ys) (c := oc o) (p := k * 3) (by rw [opsL_len, List.length_take]; omega) hy rfl
  rw [← opsL_app, List.take_append_drop] at h
  rw [show (k + 1) * 3 = k * 3 + 3 by omega, h, opsL_app, opsL_cons]
theorem ins_new {l : List OpT} {o : OpT} {Z : List Value} {k n m : Nat} (hn : l.length = n) (hk : k < n) (hm : k + m = n + 1) (hZ : Z.length = m * 3) :
    layL (layL ((opsL l).take (k * 3) ++ Z) (k * 3) (oc o)) ((k + 1) * 3) (opsL (l.drop k)) = opsL (l.take k ++ o :: l.drop k) := by
  have h := lay_new (P := opsL (l.take k)) (D := opsL (l.drop k)) (Z := Z) (c := oc o) (p := k * 3) (m := (n - k) * 3) (by rw [opsL_len, List.length_take]; omega) (by omega) (by rw [opsL_len, List.length_drop]; omega) rfl
  rw [← opsL_take, show (k + 1) * 3 = k * 3 + 3 by omega, h, opsL_app, opsL_cons]
theorem insert_spec (l : List OpT) (hl : l.length ≤ 1000) (o : OpT) (k : Nat) (hk : k ≤ l.length) (v : Value) (n : Nat) (w0 : World) (hv : w0.ownsRow 0 32 3 v n (opsL l)) (bc : Nat) (tc : TypeId) (hO : ObjF bc (.cells (oc o).toArray tc (0, 0)) (v.ownBlock.toList ++ []) w0) :
    Calls Try.prog 33 #[v, .int .i64 k, .slice (some ⟨bc, 0, none⟩) 1 1] w0 (RetRow (l.take k ++ o :: l.drop k) v w0) := by
  have hn : l.length = n := by have := hv.1; rw [opsL_len] at this; omega
  have H := St.startR (M := []) (F := ObjF bc (.cells (oc o).toArray tc (0, 0))) (r := .row v n (opsL l) 32 3) (by simp) (ObjF.stab _ _) hv (by cases h : v.ownBlock <;> simp [Res.ids, h]) (by simpa [Res.ids] using hO)
  clear hv hO
  obtain ⟨va, vk, rfl⟩ := H.rowVal0 (k := 0) rfl
  have hoc : (oc o).all Value.oneCell' = true := rfl
  have hoc1 : ∀ v ∈ oc o, v.oneCell' = true := by simpa using hoc
  have hocl : (oc o).length = 1 * 3 := rfl
  have hn1 : n ≤ 1000 := by omega
  by_cases q : k = n
  · subst q
    have hG : opsL l ++ oc o = opsL (l.take k ++ o :: l.drop k) := by
      rw [List.take_of_length_le (by omega), List.drop_eq_nil_of_le (by omega), opsL_app]; simp [opsL]
    have hGl : (l.take k ++ o :: l.drop k).length = k + 1 := by simp; omega
    obtain ⟨G, hGe⟩ : ∃ G, l.take k ++ o :: l.drop k = G := ⟨_, rfl⟩
    rw [hGe] at hG hGl ⊢
    clear hGe hk
    have hkv : k ≤ vk := by
      rcases (H.getRow (k := 0) rfl).2 with ⟨e, h⟩ | ⟨g, cap, cur, e, _, _, h, _⟩
      · omega
      · simp only [Value.slice.injEq] at e; obtain ⟨_, _, rfl⟩ := e; exact h
    replace hG := Lib.hid hG; replace hGl := Lib.hid hGl; replace hn := Lib.hid hn; replace hocl := Lib.hid hocl; replace hoc := Lib.hid hoc; replace hoc1 := Lib.hid hoc1
    go_enter Try.func33, Try.ntmps33
    go_wp2_with (first | ((with_reducible refine wpl_runx ?_ ?_); (focus exact rfl); refine ⟨_, runs_load H 0 rfl rfl rfl rfl rfl, ?_⟩; rintro _ _ ⟨rfl, rfl⟩) | ((with_reducible refine wpl_runx ?_ ?_); (focus exact rfl); refine ⟨_, runs_load H 1 rfl rfl rfl rfl rfl, ?_⟩; rintro _ _ ⟨rfl, rfl⟩) | ((with_reducible refine wpl_runx ?_ ?_); (focus exact rfl); refine ⟨_, runs_load_cell H rfl rfl rfl rfl, ?_⟩; rintro _ _ ⟨rfl, rfl⟩) | ((with_reducible refine wpl_runx ?_ ?_); (focus exact rfl); refine ⟨_, runs_load_cell0 H rfl rfl rfl rfl, ?_⟩; rintro _ _ ⟨rfl, rfl⟩) | ((with_reducible refine wpl_runx ?_ ?_); (focus exact rfl); refine ⟨_, runs_load_obj H rfl rfl rfl rfl, ?_⟩; rintro _ _ ⟨rfl, rfl⟩) | ((with_reducible refine wpl_runx ?_ ?_); (focus exact rfl); refine ⟨_, runs_store H 0 rfl rfl rfl rfl rfl rfl rfl rfl rfl, ?_⟩; clear H; rintro _ w ⟨rfl, hE, H⟩; clear hE) | ((with_reducible refine wpl_runx ?_ ?_); (focus exact rfl); refine ⟨_, runs_store H 1 rfl rfl rfl rfl rfl rfl rfl rfl rfl, ?_⟩; clear H; rintro _ w ⟨rfl, hE, H⟩; clear hE) | ((with_reducible refine wpl_runx ?_ ?_); (focus exact rfl); refine ⟨_, runs_append H 0 rfl rfl rfl rfl rfl Try.infoOp rfl (by decide) hocl.out (cells_open H.fact.1) hoc.out (by decide) (by unfold maxLen; omega) (by omega) (fun r => rfl), ?_⟩; clear H; rintro _ w ⟨g', cap', rfl, hE, H⟩; clear hE) | ((with_reducible refine wpl_pureX ?_); refine ⟨rfl, rfl, ?_⟩; apply Exists.intro; apply And.intro; (focus (intro w; go_simp; (try with_reducible rfl); done)); (try simp only [Act.put, List.setIfInBounds_toArray, List.set_cons_succ, List.set_cons_zero])) | ((fail_if_success ((with_reducible refine wpl_runx ?_ ?_); (focus exact rfl))); ((with_reducible refine wpl_gcaseE ?_); refine ⟨_, rfl, ?_, ?_⟩) <;> (intro hg; first | (simp only [reduceCtorEq] at hg; done) | contradiction | ((with_reducible have hx := eq_of_beq hg); contradiction) | ((with_reducible have hx := ne_of_beq_false hg); contradiction) | ((with_reducible have hx := bne_iff_ne.1 hg); contradiction) | ((with_reducible have hx := bne_eq_false_iff_eq.1 hg); contradiction) | ((with_reducible have hx := of_decide_eq_true hg); first | contradiction | omega) | ((with_reducible have hx := of_decide_eq_false hg); first | contradiction | omega) | (simp only [Bool.not_eq_true', Bool.not_eq_false', beq_iff_eq, beq_eq_false_iff_ne, bne_iff_ne, ne_eq] at hg; contradiction) | (simp only [hg]))))
    all_goals
      go_ret
      refine ⟨_, rfl, ?_⟩
      rw [hG.out] at H
      have e := hGl.out
      first
        | (rw [e]; exact H.weaken (fun _ => trivial) (Stab.const True))
        | (rename_i h; rw [h] at H; rw [e]; exact H.weaken (fun _ => trivial) (Stab.const True))
  · have hkn : k < n := by omega
    obtain ⟨g, rfl⟩ := H.rowSome 0 rfl (by omega)
    have hNv : n ≤ vk := by obtain ⟨_, cur, _, h, _⟩ := H.rowBlock 0 rfl; exact h
    have hvm : vk ≤ maxLen := by obtain ⟨_, cur, _, _, h, _⟩ := H.rowBlock 0 rfl; exact h
    have g1 : ((k : Int) == (n : Int)) = false := by simp; omega
    have i1 : k ≤ n := by omega
    have i2 : k ≤ vk := by omega
    have i3 : ¬ vk = k := by omega
    have i5 : (0 : Int) ≤ (k : Int) + 1 := by omega
    have i6 : k + 1 ≤ n := by omega
    have i7 : (k : Int) + 1 ≤ (n : Int) := by omega
    have hd : (opsL (l.drop k)).length = (n - k) * 3 := by rw [opsL_len, List.length_drop, hn]
    have hGl : (l.take k ++ o :: l.drop k).length = n + 1 := by simp; omega
    by_cases q2 : n + 1 ≤ vk
    · have g2 : decide ((vk : Int) < (n : Int) + 1) = false := by simp; omega
      have i8 : (n : Int) + 1 ≤ (vk : Int) := by omega
      have i9 : ¬ vk = k + 1 := by omega
      have i10 : (0 : Int) ≤ (n : Int) + 1 := by omega
      have i11 : (k : Int) + 1 ≤ (n : Int) + 1 := by omega
      have i12 : k ≤ n + 1 := by omega
      obtain ⟨ys, hy, H'⟩ := H.longer 0 rfl (m := 1) q2 (fun r => rfl)
      clear H
      have H := H'
      clear H'
      have hG := ins_in (o := o) hn hkn (by simpa using hy)
      obtain ⟨G, hGe⟩ : ∃ G, l.take k ++ o :: l.drop k = G := ⟨_, rfl⟩
      rw [hGe] at hG hGl ⊢
      clear hGe hk hl
      have hrc := rc_drop l ys k
      have h1d := opsL_one (l.drop k)
      replace hG := Lib.hid hG; replace hGl := Lib.hid hGl; replace hn := Lib.hid hn; replace hocl := Lib.hid hocl; replace hoc := Lib.hid hoc; replace hoc1 := Lib.hid hoc1; replace hd := Lib.hid hd; replace hrc := Lib.hid hrc; replace h1d := Lib.hid h1d; replace hy := Lib.hid hy
      obtain ⟨p, hp⟩ : ∃ p, k + 1 = p := ⟨_, rfl⟩
      have w1 : IntKind.wrap .i64 ((k : Int) + 1) = (p : Int) := by rw [IntKind.wrap_i64]; omega; all_goals (unfold maxLen at hvm; omega)
      have j1 : (p : Int) ≤ (n : Int) + 1 := by omega
      have j2 : ¬ vk = p := by omega
      have j3 : p ≤ n + 1 := by omega
      have j5 : (k : Int) ≤ (n : Int) + 1 := by omega
      have hm2 : Nat.min 1 (n + 1 - k) = 1 := by simp only [Nat.min_def]; split <;> omega
      replace hm2 := Lib.hid hm2
      have j4 : p ≤ n := by omega
      have hm1 : Nat.min (n + 1 - k) (n + 1 - p) = n - k := by simp only [Nat.min_def]; split <;> omega
      replace hp := Lib.hid hp
      replace hm1 := Lib.hid hm1
      go_enter Try.func33, Try.ntmps33
      go_wp2_with (first | ((with_reducible refine wpl_runx ?_ ?_); (focus exact rfl); refine ⟨_, runs_load H 0 rfl rfl rfl rfl rfl, ?_⟩; rintro _ _ ⟨rfl, rfl⟩) | ((with_reducible refine wpl_runx ?_ ?_); (focus exact rfl); refine ⟨_, runs_load H 1 rfl rfl rfl rfl rfl, ?_⟩; rintro _ _ ⟨rfl, rfl⟩) | ((with_reducible refine wpl_runx ?_ ?_); (focus exact rfl); refine ⟨_, runs_load_cell H rfl rfl rfl rfl, ?_⟩; rintro _ _ ⟨rfl, rfl⟩) | ((with_reducible refine wpl_runx ?_ ?_); (focus exact rfl); refine ⟨_, runs_load_cell0 H rfl rfl rfl rfl, ?_⟩; rintro _ _ ⟨rfl, rfl⟩) | ((with_reducible refine wpl_runx ?_ ?_); (focus exact rfl); refine ⟨_, runs_load_obj H rfl rfl rfl rfl, ?_⟩; rintro _ _ ⟨rfl, rfl⟩) | ((with_reducible refine wpl_runx ?_ ?_); (focus exact rfl); refine ⟨_, runs_store H 0 rfl rfl rfl rfl rfl rfl rfl rfl rfl, ?_⟩; clear H; rintro _ w ⟨rfl, hE, H⟩; clear hE) | ((with_reducible refine wpl_runx ?_ ?_); (focus exact rfl); refine ⟨_, runs_store H 1 rfl rfl rfl rfl rfl rfl rfl rfl rfl, ?_⟩; clear H; rintro _ w ⟨rfl, hE, H⟩; clear hE) | ((with_reducible refine wpl_runx ?_ ?_); (focus exact rfl); refine ⟨_, runs_overlaps H 0 rfl H.fact rfl rfl rfl rfl rfl rfl rfl rfl rfl rfl rfl rfl Try.tyOp (by decide) (by omega), ?_⟩; rintro _ _ ⟨rfl, rfl⟩) | ((with_reducible refine wpl_runx ?_ ?_); (focus exact rfl); refine ⟨_, runs_copyRow H 0 rfl rfl rfl rfl rfl Try.infoOp hm2.out hocl.out H.fact.src hoc1.out (by omega) (fun r => rfl), ?_⟩; clear H; rintro _ w ⟨rfl, hE, H⟩; clear hE) | ((with_reducible refine wp_region_Ts 15 H [] [[], [], [], [1, 2], [0, 1, 2, 3], [], [], [5, 6], [0, 1, 2, 3, 4, 5, 6, 7]] [] [0, 1, 2, 3, 4, 5, 6, 7] (.step 0 (.step 1 (.step 2 (.step 3 (.step 4 (.step 5 (.step 6 (.step 7 (.step 8 .nil))))))))) ?_ ?_ ?_ ?_); (focus kernel_rfl); (focus kernel_rfl); (focus (intro d v c a w h; cases d <;> exact h)); clear H; intro w H; have HS := Ext.refl [] w; have H0 := H; all_goals ((with_reducible refine T_pureX ?_); refine ⟨_, rfl, rfl, rfl, rfl, ?_⟩; apply Exists.intro; apply And.intro; (focus (intro w; go_simp; (try with_reducible rfl); done)); (try simp only [Act.put, List.setIfInBounds_toArray, List.set_cons_succ, List.set_cons_zero])); all_goals ((with_reducible refine T_pureX ?_); refine ⟨_, rfl, rfl, rfl, rfl, ?_⟩; apply Exists.intro; apply And.intro; (focus (intro w; go_simp; (try with_reducible rfl); done)); (try simp only [Act.put, List.setIfInBounds_toArray, List.set_cons_succ, List.set_cons_zero])); all_goals ((with_reducible refine T_pureX ?_); refine ⟨_, rfl, rfl, rfl, rfl, ?_⟩; apply Exists.intro; apply And.intro; (focus (intro w; go_simp; (try with_reducible rfl); done)); (try simp only [Act.put, List.setIfInBounds_toArray, List.set_cons_succ, List.set_cons_zero])); all_goals ((with_reducible refine T_pureX ?_); refine ⟨_, rfl, rfl, rfl, rfl, ?_⟩; apply Exists.intro; apply And.intro; (focus (intro w; go_simp; (try with_reducible rfl); done)); (try simp only [Act.put, List.setIfInBounds_toArray, List.set_cons_succ, List.set_cons_zero])); all_goals ((with_reducible refine T_pureX ?_); refine ⟨_, rfl, rfl, rfl, rfl, ?_⟩; apply Exists.intro; apply And.intro; (focus (intro w; go_simp; (try with_reducible rfl); done)); (try simp only [Act.put, List.setIfInBounds_toArray, List.set_cons_succ, List.set_cons_zero])); all_goals ((with_reducible refine T_pureX ?_); refine ⟨_, rfl, rfl, rfl, rfl, ?_⟩; apply Exists.intro; apply And.intro; (focus (intro w; go_simp; (try with_reducible rfl); done)); (try simp only [Act.put, List.setIfInBounds_toArray, List.set_cons_succ, List.set_cons_zero])); all_goals ((with_reducible refine T_pureX ?_); refine ⟨_, rfl, rfl, rfl, rfl, ?_⟩; apply Exists.intro; apply And.intro; (focus (intro w; go_simp; (try with_reducible rfl); done)); (try simp only [Act.put, List.setIfInBounds_toArray, List.set_cons_succ, List.set_cons_zero])); all_goals ((with_reducible refine T_pureX ?_); refine ⟨_, rfl, rfl, rfl, rfl, ?_⟩; apply Exists.intro; apply And.intro; (focus (intro w; go_simp; (try with_reducible rfl); done)); (try simp only [Act.put, List.setIfInBounds_toArray, List.set_cons_succ, List.set_cons_zero])); all_goals ((with_reducible refine T_stepX ?_); refine ⟨_, rfl, rfl, rfl, ?_⟩; refine ⟨_, runs_copyRow H 0 rfl rfl rfl rfl rfl Try.infoOp hm1.out hd.out (H.rowRC 0 rfl hrc.out) h1d.out (by have := hp.out; omega) (fun r => rfl), ?_⟩; clear H; rintro _ w ⟨rfl, hE, H⟩; clear hE; refine ⟨(fun h => absurd h (by decide)), ?_⟩; (try simp only [Act.put, List.setIfInBounds_toArray, List.set_cons_succ, List.set_cons_zero])); all_goals ((with_reducible refine T_nil ?_); clear H0 HS)) | ((with_reducible refine wpl_pureX ?_); refine ⟨rfl, rfl, ?_⟩; apply Exists.intro; apply And.intro; (focus (intro w; go_simp; (try with_reducible rfl); done)); (try simp only [Act.put, List.setIfInBounds_toArray, List.set_cons_succ, List.set_cons_zero])) | ((fail_if_success ((with_reducible refine wpl_runx ?_ ?_); (focus exact rfl))); ((with_reducible refine wpl_gcaseE ?_); refine ⟨_, rfl, ?_, ?_⟩) <;> (intro hg; first | (simp only [reduceCtorEq] at hg; done) | contradiction | ((with_reducible have hx := eq_of_beq hg); contradiction) | ((with_reducible have hx := ne_of_beq_false hg); contradiction) | ((with_reducible have hx := bne_iff_ne.1 hg); contradiction) | ((with_reducible have hx := bne_eq_false_iff_eq.1 hg); contradiction) | ((with_reducible have hx := of_decide_eq_true hg); first | contradiction | omega) | ((with_reducible have hx := of_decide_eq_false hg); first | contradiction | omega) | (simp only [Bool.not_eq_true', Bool.not_eq_false', beq_iff_eq, beq_eq_false_iff_ne, bne_iff_ne, ne_eq] at hg; contradiction) | (simp only [hg]))))
      go_ret
      refine ⟨_, rfl, ?_⟩
      rw [← hp.out, hG.out] at H
      rw [hGl.out]
      exact H.weaken (fun _ => trivial) (Stab.const True)
    · have g2 : decide ((vk : Int) < (n : Int) + 1) = true := by simp; omega
      obtain ⟨m, hm⟩ : ∃ m, k + m = n + 1 := ⟨n + 1 - k, by omega⟩
      obtain ⟨p, hp⟩ : ∃ p, k + 1 = p := ⟨_, rfl⟩
      have w2 : (n : Int) + 1 - (k : Int) = (m : Int) := by omega
      have w1 : IntKind.wrap .i64 ((k : Int) + 1) = (p : Int) := by rw [IntKind.wrap_i64]; omega; all_goals (unfold maxLen at hvm; omega)
      have j1 : (p : Int) ≤ (k : Int) + (m : Int) := by omega
      have j3 : p ≤ k + m := by omega
      have j5 : (k : Int) ≤ (k : Int) + (m : Int) := by omega
      have hm0 : 0 < m := by omega
      have hgr : vk < k + m := by omega
      have hkm : k + m ≤ 1001 := by omega
      have hm1 : Nat.min (n - k) (k + m - p) = n - k := by simp only [Nat.min_def]; split <;> omega
      have hm2 : Nat.min 1 m = 1 := by simp only [Nat.min_def]; split <;> omega
      have hoff : p * 3 + (n - k) * 3 ≤ (k + m) * 3 := by omega
      have hZ : (Builtin.zeroCells (Value.agg #[.string ⟨#[]⟩, .int .i64 0, .int .i64 0]).cells m).toList.length = m * 3 := zeroCells_lenF _ _
      have hG := ins_new (o := o) hn hkn hm hZ
      obtain ⟨G, hGe⟩ : ∃ G, l.take k ++ o :: l.drop k = G := ⟨_, rfl⟩
      rw [hGe] at hG hGl ⊢
      have hrc : RC (opsL l) (k * 3) (opsL (l.drop k)) := by simpa using rc_drop l [] k
      have h1d := opsL_one (l.drop k)
      clear hGe hk hl hZ
      replace hG := Lib.hid hG; replace hGl := Lib.hid hGl; replace hn := Lib.hid hn; replace hocl := Lib.hid hocl; replace hoc := Lib.hid hoc; replace hoc1 := Lib.hid hoc1; replace hd := Lib.hid hd; replace hrc := Lib.hid hrc; replace h1d := Lib.hid h1d; replace hp := Lib.hid hp; replace hm1 := Lib.hid hm1; replace hm2 := Lib.hid hm2; replace hm := Lib.hid hm
      go_enter Try.func33, Try.ntmps33
      go_wp2_with (first | ((with_reducible refine wpl_runx ?_ ?_); (focus exact rfl); refine ⟨_, runs_load H 0 rfl rfl rfl rfl rfl, ?_⟩; rintro _ _ ⟨rfl, rfl⟩) | ((with_reducible refine wpl_runx ?_ ?_); (focus exact rfl); refine ⟨_, runs_load H 1 rfl rfl rfl rfl rfl, ?_⟩; rintro _ _ ⟨rfl, rfl⟩) | ((with_reducible refine wpl_runx ?_ ?_); (focus exact rfl); refine ⟨_, runs_load_cell H rfl rfl rfl rfl, ?_⟩; rintro _ _ ⟨rfl, rfl⟩) | ((with_reducible refine wpl_runx ?_ ?_); (focus exact rfl); refine ⟨_, runs_load_cell0 H rfl rfl rfl rfl, ?_⟩; rintro _ _ ⟨rfl, rfl⟩) | ((with_reducible refine wpl_runx ?_ ?_); (focus exact rfl); refine ⟨_, runs_load_obj H rfl rfl rfl rfl, ?_⟩; rintro _ _ ⟨rfl, rfl⟩) | ((with_reducible refine wpl_runx ?_ ?_); (focus exact rfl); refine ⟨_, runs_store H 0 rfl rfl rfl rfl rfl rfl rfl rfl rfl, ?_⟩; clear H; rintro _ w ⟨rfl, hE, H⟩; clear hE) | ((with_reducible refine wpl_runx ?_ ?_); (focus exact rfl); refine ⟨_, runs_store H 1 rfl rfl rfl rfl rfl rfl rfl rfl rfl, ?_⟩; clear H; rintro _ w ⟨rfl, hE, H⟩; clear hE) | ((with_reducible refine wpl_runx_d 40 rfl ?_ ?_); (focus exact rfl); refine ⟨_, runs_appendGrow H 0 rfl rfl rfl rfl rfl rfl Try.infoOp rfl (by decide) hm0 i1 hgr (by unfold maxLen; omega) (by omega), ?_⟩; clear H; rintro _ w ⟨g', cap', rfl, hE, H⟩; clear hE; have hcc := (H.rowBlock 0 rfl).2.choose_spec.2.1; have j6 : ¬ cap' = k := (by omega); have j7 : ¬ cap' = p := (by have := hp.out; have := hm.out; omega)) | ((with_reducible refine wpl_runx ?_ ?_); (focus exact rfl); refine ⟨_, runs_copyRow H 0 rfl rfl rfl rfl rfl Try.infoOp hm2.out hocl.out H.fact.src hoc1.out (by omega) (fun r => rfl), ?_⟩; clear H; rintro _ w ⟨rfl, hE, H⟩; clear hE) | ((with_reducible refine wp_region_Ts 11 H [] [[], [], [], [1, 2], [0, 1, 2, 3], [], [], [5, 6], [0, 1, 2, 3, 4, 5, 6, 7]] [] [0, 1, 2, 3, 4, 5, 6, 7] (.step 0 (.step 1 (.step 2 (.step 3 (.step 4 (.step 5 (.step 6 (.step 7 (.step 8 .nil))))))))) ?_ ?_ ?_ ?_); (focus kernel_rfl); (focus kernel_rfl); (focus (intro d v c a w h; cases d <;> exact h)); clear H; intro w H; have HS := Ext.refl [] w; have H0 := H; all_goals ((with_reducible refine T_pureX ?_); refine ⟨_, rfl, rfl, rfl, rfl, ?_⟩; apply Exists.intro; apply And.intro; (focus (intro w; go_simp; (try with_reducible rfl); done)); (try simp only [Act.put, List.setIfInBounds_toArray, List.set_cons_succ, List.set_cons_zero])); all_goals ((with_reducible refine T_pureX ?_); refine ⟨_, rfl, rfl, rfl, rfl, ?_⟩; apply Exists.intro; apply And.intro; (focus (intro w; go_simp; (try with_reducible rfl); done)); (try simp only [Act.put, List.setIfInBounds_toArray, List.set_cons_succ, List.set_cons_zero])); all_goals ((with_reducible refine T_pureX ?_); refine ⟨_, rfl, rfl, rfl, rfl, ?_⟩; apply Exists.intro; apply And.intro; (focus (intro w; go_simp; (try with_reducible rfl); done)); (try simp only [Act.put, List.setIfInBounds_toArray, List.set_cons_succ, List.set_cons_zero])); all_goals ((with_reducible refine T_pureX ?_); refine ⟨_, rfl, rfl, rfl, rfl, ?_⟩; apply Exists.intro; apply And.intro; (focus (intro w; go_simp; (try with_reducible rfl); done)); (try simp only [Act.put, List.setIfInBounds_toArray, List.set_cons_succ, List.set_cons_zero])); all_goals ((with_reducible refine T_pureX ?_); refine ⟨_, rfl, rfl, rfl, rfl, ?_⟩; apply Exists.intro; apply And.intro; (focus (intro w; go_simp; (try with_reducible rfl); done)); (try simp only [Act.put, List.setIfInBounds_toArray, List.set_cons_succ, List.set_cons_zero])); all_goals ((with_reducible refine T_pureX ?_); refine ⟨_, rfl, rfl, rfl, rfl, ?_⟩; apply Exists.intro; apply And.intro; (focus (intro w; go_simp; (try with_reducible rfl); done)); (try simp only [Act.put, List.setIfInBounds_toArray, List.set_cons_succ, List.set_cons_zero])); all_goals ((with_reducible refine T_pureX ?_); refine ⟨_, rfl, rfl, rfl, rfl, ?_⟩; apply Exists.intro; apply And.intro; (focus (intro w; go_simp; (try with_reducible rfl); done)); (try simp only [Act.put, List.setIfInBounds_toArray, List.set_cons_succ, List.set_cons_zero])); all_goals ((with_reducible refine T_pureX ?_); refine ⟨_, rfl, rfl, rfl, rfl, ?_⟩; apply Exists.intro; apply And.intro; (focus (intro w; go_simp; (try with_reducible rfl); done)); (try simp only [Act.put, List.setIfInBounds_toArray, List.set_cons_succ, List.set_cons_zero])); all_goals ((with_reducible refine T_stepX ?_); refine ⟨_, rfl, rfl, rfl, ?_⟩; refine ⟨_, runs_copyRow H 0 rfl rfl rfl rfl rfl Try.infoOp hm1.out hd.out (H.rowRC 1 rfl hrc.out) h1d.out hoff (fun r => rfl), ?_⟩; clear H; rintro _ w ⟨rfl, hE, H⟩; clear hE; refine ⟨(fun h => absurd h (by decide)), ?_⟩; (try simp only [Act.put, List.setIfInBounds_toArray, List.set_cons_succ, List.set_cons_zero])); all_goals ((with_reducible refine T_nil ?_); clear H0 HS)) | ((with_reducible refine wpl_pureX ?_); refine ⟨rfl, rfl, ?_⟩; apply Exists.intro; apply And.intro; (focus (intro w; go_simp; (try with_reducible rfl); done)); (try simp only [Act.put, List.setIfInBounds_toArray, List.set_cons_succ, List.set_cons_zero])) | ((fail_if_success ((with_reducible refine wpl_runx ?_ ?_); (focus exact rfl))); ((with_reducible refine wpl_gcaseE ?_); refine ⟨_, rfl, ?_, ?_⟩) <;> (intro hg; first | (simp only [reduceCtorEq] at hg; done) | contradiction | ((with_reducible have hx := eq_of_beq hg); contradiction) | ((with_reducible have hx := ne_of_beq_false hg); contradiction) | ((with_reducible have hx := bne_iff_ne.1 hg); contradiction) | ((with_reducible have hx := bne_eq_false_iff_eq.1 hg); contradiction) | ((with_reducible have hx := of_decide_eq_true hg); first | contradiction | omega) | ((with_reducible have hx := of_decide_eq_false hg); first | contradiction | omega) | (simp only [Bool.not_eq_true', Bool.not_eq_false', beq_iff_eq, beq_eq_false_iff_ne, bne_iff_ne, ne_eq] at hg; contradiction) | (simp only [hg]))))
      go_ret
      refine ⟨_, rfl, ?_⟩
      rw [← hp.out, hG.out] at H
      have H2 := (H.drop 1 rfl).weaken (G := fun _ _ => True) (fun _ => trivial) (Stab.const True)
      rw [hGl.out, ← hm.out]
      exact H2
end Go.Proofs.Ythapmdlminnihaa
