/- Walks: Depth of the reference; contracts of Nodes, Vars in one form. -/
import Derived.Test.YtdjbbafdepdglaaRVars
import Derived.Test.YtdjbbafdepdglaaStd
import Derived.Test.YtdjbbafdepdglaaPlan3
namespace Go.Proofs.Ytdjbbafdepdglaa
open Go.RowKit
set_option linter.unusedVariables false
set_option linter.unusedSimpArgs false
set_option maxRecDepth 20000
set_option maxHeartbeats 4000000
attribute [local irreducible] mayE nodesE depthE plainE renameE varsE EqualE LightE rSameE turnT likeE

theorem rNodes_c {M X : List Nat} {w1 w0 : World} {L : List Res} {F : List Nat → World → Prop} (H : St M X w1 w0 L F) (kt : Int) (st : ByteArray) (nt rt it : Int) (At : Option Addr) (ct lent : Nat) (lt : List Tm) [xt : HasAR F At ct lt] (et : lent = lt.length) (pre0 : slim (Tm.mk kt st nt rt it lt)) : Calls Try.prog 28 #[.agg #[.int .i64 kt, .string st, .int .i64 nt, .int .u64 rt, .int .u64 it, .slice At lent ct]] w0 (RetV w0 (.int .i64 (nodesE (Tm.mk kt st nt rt it lt)))) := by
  subst et
  exact rNodes_spec (Tm.mk kt st nt rt it lt) At ct _ pre0 H.ar0
theorem rVars_c {M X : List Nat} {w1 w0 : World} {L : List Res} {F : List Nat → World → Prop} (H : St M X w1 w0 L F) (kt : Int) (st : ByteArray) (nt rt it : Int) (At : Option Addr) (ct lent : Nat) (lt : List Tm) [xt : HasAR F At ct lt] (et : lent = lt.length) (pre0 : slim (Tm.mk kt st nt rt it lt)) : Calls Try.prog 26 #[.agg #[.int .i64 kt, .string st, .int .i64 nt, .int .u64 rt, .int .u64 it, .slice At lent ct]] w0 (RetI (idsOf L ++ M) w0 ((varsE (Tm.mk kt st nt rt it lt)))) := by
  subst et
  exact rVars_spec (Tm.mk kt st nt rt it lt) At ct _ _ pre0 H.ltAll H.ar

theorem hL_mem : ∀ {l : List Tm} {t : Tm}, t ∈ l → hT t ≤ hL l
  | a :: l, t, h => by
    simp only [hL]
    rcases List.mem_cons.1 h with rfl | h
    · omega
    · have := hL_mem h; omega
theorem hL_take (l : List Tm) (j : Nat) : hL (l.take j) ≤ hL l := by
  induction l generalizing j with
  | nil => simp
  | cons a l ih =>
    cases j with
    | zero => simp [hL]
    | succ j => simp only [List.take_succ_cons, hL]; have := ih j; omega
theorem rdepth_spec : ∀ (t : Tm) (A : Option Addr) (c : Nat) (w0 : World), hT t ≤ 1000 → slim t → AR A c t.args [] w0 →
    Calls Try.prog 63 #[.agg #[.int .i64 t.kind, .string t.name, .int .i64 t.int, .int .u64 t.re, .int .u64 t.im, .slice A t.args.length c]] w0 (RetV w0 (.int .i64 (hT t))) := by
  intro t
  induction t using Tm.ind with | _ k s n r i l IH
  intro A c w0 hh hs hA
  simp only [Tm.kind, Tm.name, Tm.int, Tm.re, Tm.im, Tm.args] at hA ⊢
  have H := St.start (M := []) (by simp) (AR.stab A c l) hA
  clear hA
  have IH' := Lib.hid IH; clear IH
  by_cases h5 : k = 5
  · subst h5
    unfold slim at hs
    obtain ⟨hl, hs'⟩ := hs rfl
    clear hs
    have eh : hT (.mk 5 s n r i l) = 1 + hL l := by unfold hT; rw [if_pos rfl]
    rw [eh] at hh ⊢
    clear eh
    go_enter Try.func63, Try.ntmps63
    go_wp2_with (first | ((with_reducible refine wpl_runx_d 1 rfl ?_ ?_); (focus exact rfl); refine ⟨_, runs_box H rfl rfl, ?_⟩; clear H; rintro _ w ⟨b1, rfl, hE, H⟩; clear hE) | ((with_reducible refine wpl_runx_d 5 rfl ?_ ?_); (focus exact rfl); refine ⟨_, runs_alloc H rfl rfl rfl, ?_⟩; clear H; rintro _ w ⟨b5, rfl, hE, H⟩; clear hE) | ((with_reducible refine wpl_runx ?_ ?_); (focus exact rfl); refine ⟨_, runs_load H 0 rfl rfl rfl rfl rfl, ?_⟩; rintro _ _ ⟨rfl, rfl⟩) | ((with_reducible refine wpl_runx ?_ ?_); (focus exact rfl); refine ⟨_, runs_load H 1 rfl rfl rfl rfl rfl, ?_⟩; rintro _ _ ⟨rfl, rfl⟩) | ((with_reducible refine wpl_runx ?_ ?_); (focus exact rfl); refine ⟨_, runs_load_cell H rfl rfl rfl rfl, ?_⟩; rintro _ _ ⟨rfl, rfl⟩) | ((with_reducible refine wpl_runx ?_ ?_); (focus exact rfl); refine ⟨_, runs_load_cell0 H rfl rfl rfl rfl, ?_⟩; rintro _ _ ⟨rfl, rfl⟩) | ((with_reducible refine wpl_runx ?_ ?_); (focus exact rfl); refine ⟨_, runs_load_obj H rfl rfl rfl rfl, ?_⟩; rintro _ _ ⟨rfl, rfl⟩) | ((with_reducible refine wpl_runx ?_ ?_); (focus exact rfl); refine ⟨_, runs_store H 0 rfl rfl rfl rfl rfl rfl rfl rfl rfl, ?_⟩; clear H; rintro _ w ⟨rfl, hE, H⟩; clear hE) | ((with_reducible refine wpl_runx ?_ ?_); (focus exact rfl); refine ⟨_, runs_store H 1 rfl rfl rfl rfl rfl rfl rfl rfl rfl, ?_⟩; clear H; rintro _ w ⟨rfl, hE, H⟩; clear hE) | ((with_reducible refine wpl_pureX ?_); refine ⟨rfl, rfl, ?_⟩; apply Exists.intro; apply And.intro; (focus (intro w; go_simp; (try with_reducible rfl); done)); (try simp only [Act.put, List.setIfInBounds_toArray, List.set_cons_succ, List.set_cons_zero])) | ((fail_if_success ((with_reducible refine wpl_runx ?_ ?_); (focus exact rfl))); ((with_reducible refine wpl_gcaseE ?_); refine ⟨_, rfl, ?_, ?_⟩) <;> (intro hg; first | (simp only [reduceCtorEq] at hg; done) | contradiction | ((with_reducible have hx := eq_of_beq hg); contradiction) | ((with_reducible have hx := ne_of_beq_false hg); contradiction) | ((with_reducible have hx := bne_iff_ne.1 hg); contradiction) | ((with_reducible have hx := bne_eq_false_iff_eq.1 hg); contradiction) | ((with_reducible have hx := of_decide_eq_true hg); first | contradiction | omega) | ((with_reducible have hx := of_decide_eq_false hg); first | contradiction | omega) | (simp only [Bool.not_eq_true', Bool.not_eq_false', beq_iff_eq, beq_eq_false_iff_ne, bne_iff_ne, ne_eq] at hg; contradiction) | (simp only [hg]))))
    go_loopw [3, 12] (fun nv iv wr => ∃ (j : Nat), j ≤ l.length ∧ iv = .int .i64 j ∧ nv = .int .i64 (hL (l.take j) : Nat) ∧ St [] [] w0 wr [.obj b1 (.cells #[.int .i64 5, .string s, .int .i64 n, .int .u64 r, .int .u64 i, .slice A l.length c] 26 (0, 0))] (AR A c l)) (fun _ iv _ => l.length - (intOf iv).toNat)
    case atStart => exact ⟨0, Nat.zero_le _, rfl, by simp [hL], H⟩
    case round =>
      clear H
      obtain ⟨j, hj, rfl, rfl, H⟩ := hrel
      by_cases hlt : j < l.length
      · have i1 : (j : Int) < (l.length : Int) := by omega
        obtain ⟨b, o, A', c', rfl, hbm, hbl, hcs, hA'⟩ := H.fact.at j hlt
        replace H := H.add hA' (AR.stab _ _ _)
        clear hA' hbm hbl
        have HC := Lib.hid hcs; clear hcs
        have hsj := slimL_mem hs' (List.getElem_mem hlt)
        have hhj : hT l[j] ≤ 1000 := by have := hL_mem (List.getElem_mem hlt); omega
        go_wp2_with (first | ((with_reducible refine wpl_runx_d 1 rfl ?_ ?_); (focus exact rfl); refine ⟨_, runs_box H rfl rfl, ?_⟩; clear H; rintro _ w ⟨b1, rfl, hE, H⟩; clear hE) | ((with_reducible refine wpl_runx_d 5 rfl ?_ ?_); (focus exact rfl); refine ⟨_, runs_alloc H rfl rfl rfl, ?_⟩; clear H; rintro _ w ⟨b5, rfl, hE, H⟩; clear hE) | ((with_reducible refine wpl_runx ?_ ?_); (focus exact rfl); refine ⟨_, runs_load H 0 rfl rfl rfl rfl rfl, ?_⟩; rintro _ _ ⟨rfl, rfl⟩) | ((with_reducible refine wpl_runx ?_ ?_); (focus exact rfl); refine ⟨_, runs_load H 1 rfl rfl rfl rfl rfl, ?_⟩; rintro _ _ ⟨rfl, rfl⟩) | ((with_reducible refine wpl_runx ?_ ?_); (focus exact rfl); refine ⟨_, runs_load H 2 rfl rfl rfl rfl rfl, ?_⟩; rintro _ _ ⟨rfl, rfl⟩) | ((with_reducible refine wpl_runx ?_ ?_); (focus exact rfl); refine ⟨_, runs_load_cell H rfl rfl rfl rfl, ?_⟩; rintro _ _ ⟨rfl, rfl⟩) | ((with_reducible refine wpl_runx ?_ ?_); (focus exact rfl); refine ⟨_, runs_load_cell0 H rfl rfl rfl rfl, ?_⟩; rintro _ _ ⟨rfl, rfl⟩) | ((with_reducible refine wpl_runx ?_ ?_); (focus exact rfl); refine ⟨_, runs_load_obj H rfl rfl rfl rfl, ?_⟩; rintro _ _ ⟨rfl, rfl⟩) | ((with_reducible refine wpl_runx ?_ ?_); (focus exact rfl); refine ⟨_, runs_store H 0 rfl rfl rfl rfl rfl rfl rfl rfl rfl, ?_⟩; clear H; rintro _ w ⟨rfl, hE, H⟩; clear hE) | ((with_reducible refine wpl_runx ?_ ?_); (focus exact rfl); refine ⟨_, runs_store H 1 rfl rfl rfl rfl rfl rfl rfl rfl rfl, ?_⟩; clear H; rintro _ w ⟨rfl, hE, H⟩; clear hE) | ((with_reducible refine wpl_runx ?_ ?_); (focus exact rfl); refine ⟨_, runs_store H 2 rfl rfl rfl rfl rfl rfl rfl rfl rfl, ?_⟩; clear H; rintro _ w ⟨rfl, hE, H⟩; clear hE) | ((with_reducible refine wpl_runx ?_ ?_); (focus exact rfl); refine ⟨_, runs_load_at rfl rfl rfl HC.out rfl, ?_⟩; rintro _ _ ⟨rfl, rfl⟩) | ((with_reducible refine Calls.mono (IH'.out l[j] (List.getElem_mem hlt) _ _ _ hhj hsj H.ar0) ?_); rintro _ w ⟨rfl, hE⟩; replace H := H.step hE; clear hE) | ((with_reducible refine wpl_pureX ?_); refine ⟨rfl, rfl, ?_⟩; apply Exists.intro; apply And.intro; (focus (intro w; go_simp; (try with_reducible rfl); done)); (try simp only [Act.put, List.setIfInBounds_toArray, List.set_cons_succ, List.set_cons_zero])) | ((fail_if_success ((with_reducible refine wpl_runx ?_ ?_); (focus exact rfl))); ((with_reducible refine wpl_gcaseE ?_); refine ⟨_, rfl, ?_, ?_⟩) <;> (intro hg; first | (simp only [reduceCtorEq] at hg; done) | contradiction | ((with_reducible have hx := eq_of_beq hg); contradiction) | ((with_reducible have hx := ne_of_beq_false hg); contradiction) | ((with_reducible have hx := bne_iff_ne.1 hg); contradiction) | ((with_reducible have hx := bne_eq_false_iff_eq.1 hg); contradiction) | ((with_reducible have hx := of_decide_eq_true hg); first | contradiction | omega) | ((with_reducible have hx := of_decide_eq_false hg); first | contradiction | omega) | (simp only [Bool.not_eq_true', Bool.not_eq_false', beq_iff_eq, beq_eq_false_iff_ne, bne_iff_ne, ne_eq] at hg; contradiction) | (simp only [hg]))))
        refine ⟨⟨j + 1, by omega, by go_num, ?_, (H.drop 0 rfl).weaken (fun h => h.1) (AR.stab _ _ _)⟩, by simp [intOf]; omega⟩
        rw [show l.take (j + 1) = l.take j ++ [l[j]] by rw [List.take_add_one, List.getElem?_eq_getElem hlt]; rfl, hL_snoc]
        congr 1
        split <;> omega
      · obtain rfl : j = l.length := by omega
        rw [List.take_length]
        have hh' : hL l ≤ 999 := by omega
        go_wp2_with (first | ((with_reducible refine wpl_runx_d 1 rfl ?_ ?_); (focus exact rfl); refine ⟨_, runs_box H rfl rfl, ?_⟩; clear H; rintro _ w ⟨b1, rfl, hE, H⟩; clear hE) | ((with_reducible refine wpl_runx_d 5 rfl ?_ ?_); (focus exact rfl); refine ⟨_, runs_alloc H rfl rfl rfl, ?_⟩; clear H; rintro _ w ⟨b5, rfl, hE, H⟩; clear hE) | ((with_reducible refine wpl_runx ?_ ?_); (focus exact rfl); refine ⟨_, runs_load H 0 rfl rfl rfl rfl rfl, ?_⟩; rintro _ _ ⟨rfl, rfl⟩) | ((with_reducible refine wpl_runx ?_ ?_); (focus exact rfl); refine ⟨_, runs_load H 1 rfl rfl rfl rfl rfl, ?_⟩; rintro _ _ ⟨rfl, rfl⟩) | ((with_reducible refine wpl_runx ?_ ?_); (focus exact rfl); refine ⟨_, runs_load H 2 rfl rfl rfl rfl rfl, ?_⟩; rintro _ _ ⟨rfl, rfl⟩) | ((with_reducible refine wpl_runx ?_ ?_); (focus exact rfl); refine ⟨_, runs_load_cell H rfl rfl rfl rfl, ?_⟩; rintro _ _ ⟨rfl, rfl⟩) | ((with_reducible refine wpl_runx ?_ ?_); (focus exact rfl); refine ⟨_, runs_load_cell0 H rfl rfl rfl rfl, ?_⟩; rintro _ _ ⟨rfl, rfl⟩) | ((with_reducible refine wpl_runx ?_ ?_); (focus exact rfl); refine ⟨_, runs_load_obj H rfl rfl rfl rfl, ?_⟩; rintro _ _ ⟨rfl, rfl⟩) | ((with_reducible refine wpl_runx ?_ ?_); (focus exact rfl); refine ⟨_, runs_store H 0 rfl rfl rfl rfl rfl rfl rfl rfl rfl, ?_⟩; clear H; rintro _ w ⟨rfl, hE, H⟩; clear hE) | ((with_reducible refine wpl_runx ?_ ?_); (focus exact rfl); refine ⟨_, runs_store H 1 rfl rfl rfl rfl rfl rfl rfl rfl rfl, ?_⟩; clear H; rintro _ w ⟨rfl, hE, H⟩; clear hE) | ((with_reducible refine wpl_runx ?_ ?_); (focus exact rfl); refine ⟨_, runs_store H 2 rfl rfl rfl rfl rfl rfl rfl rfl rfl, ?_⟩; clear H; rintro _ w ⟨rfl, hE, H⟩; clear hE) | ((with_reducible refine wpl_pureX ?_); refine ⟨rfl, rfl, ?_⟩; apply Exists.intro; apply And.intro; (focus (intro w; go_simp; (try with_reducible rfl); done)); (try simp only [Act.put, List.setIfInBounds_toArray, List.set_cons_succ, List.set_cons_zero])) | ((fail_if_success ((with_reducible refine wpl_runx ?_ ?_); (focus exact rfl))); ((with_reducible refine wpl_gcaseE ?_); refine ⟨_, rfl, ?_, ?_⟩) <;> (intro hg; first | (simp only [reduceCtorEq] at hg; done) | contradiction | ((with_reducible have hx := eq_of_beq hg); contradiction) | ((with_reducible have hx := ne_of_beq_false hg); contradiction) | ((with_reducible have hx := bne_iff_ne.1 hg); contradiction) | ((with_reducible have hx := bne_eq_false_iff_eq.1 hg); contradiction) | ((with_reducible have hx := of_decide_eq_true hg); first | contradiction | omega) | ((with_reducible have hx := of_decide_eq_false hg); first | contradiction | omega) | (simp only [Bool.not_eq_true', Bool.not_eq_false', beq_iff_eq, beq_eq_false_iff_ne, bne_iff_ne, ne_eq] at hg; contradiction) | (simp only [hg]))))
        go_ret
        refine ⟨?_, H.ext⟩
        rw [show ((hL l : Nat) : Int) + 1 = ((1 + hL l : Nat) : Int) by omega]
        rfl
  · have e5 : (k == 5) = false := by simpa using h5
    have eh : hT (.mk k s n r i l) = 1 := by unfold hT; rw [if_neg h5]
    rw [eh]
    clear eh
    go_enter Try.func63, Try.ntmps63
    go_wp2_with (first | ((with_reducible refine wpl_runx_d 1 rfl ?_ ?_); (focus exact rfl); refine ⟨_, runs_box H rfl rfl, ?_⟩; clear H; rintro _ w ⟨b1, rfl, hE, H⟩; clear hE) | ((with_reducible refine wpl_runx_d 5 rfl ?_ ?_); (focus exact rfl); refine ⟨_, runs_alloc H rfl rfl rfl, ?_⟩; clear H; rintro _ w ⟨b5, rfl, hE, H⟩; clear hE) | ((with_reducible refine wpl_runx ?_ ?_); (focus exact rfl); refine ⟨_, runs_load H 0 rfl rfl rfl rfl rfl, ?_⟩; rintro _ _ ⟨rfl, rfl⟩) | ((with_reducible refine wpl_runx ?_ ?_); (focus exact rfl); refine ⟨_, runs_load H 1 rfl rfl rfl rfl rfl, ?_⟩; rintro _ _ ⟨rfl, rfl⟩) | ((with_reducible refine wpl_runx ?_ ?_); (focus exact rfl); refine ⟨_, runs_load_cell H rfl rfl rfl rfl, ?_⟩; rintro _ _ ⟨rfl, rfl⟩) | ((with_reducible refine wpl_runx ?_ ?_); (focus exact rfl); refine ⟨_, runs_load_cell0 H rfl rfl rfl rfl, ?_⟩; rintro _ _ ⟨rfl, rfl⟩) | ((with_reducible refine wpl_runx ?_ ?_); (focus exact rfl); refine ⟨_, runs_load_obj H rfl rfl rfl rfl, ?_⟩; rintro _ _ ⟨rfl, rfl⟩) | ((with_reducible refine wpl_runx ?_ ?_); (focus exact rfl); refine ⟨_, runs_store H 0 rfl rfl rfl rfl rfl rfl rfl rfl rfl, ?_⟩; clear H; rintro _ w ⟨rfl, hE, H⟩; clear hE) | ((with_reducible refine wpl_runx ?_ ?_); (focus exact rfl); refine ⟨_, runs_store H 1 rfl rfl rfl rfl rfl rfl rfl rfl rfl, ?_⟩; clear H; rintro _ w ⟨rfl, hE, H⟩; clear hE) | ((with_reducible refine wpl_pureX ?_); refine ⟨rfl, rfl, ?_⟩; apply Exists.intro; apply And.intro; (focus (intro w; go_simp; (try with_reducible rfl); done)); (try simp only [Act.put, List.setIfInBounds_toArray, List.set_cons_succ, List.set_cons_zero])) | ((fail_if_success ((with_reducible refine wpl_runx ?_ ?_); (focus exact rfl))); ((with_reducible refine wpl_gcaseE ?_); refine ⟨_, rfl, ?_, ?_⟩) <;> (intro hg; first | (simp only [reduceCtorEq] at hg; done) | contradiction | ((with_reducible have hx := eq_of_beq hg); contradiction) | ((with_reducible have hx := ne_of_beq_false hg); contradiction) | ((with_reducible have hx := bne_iff_ne.1 hg); contradiction) | ((with_reducible have hx := bne_eq_false_iff_eq.1 hg); contradiction) | ((with_reducible have hx := of_decide_eq_true hg); first | contradiction | omega) | ((with_reducible have hx := of_decide_eq_false hg); first | contradiction | omega) | (simp only [Bool.not_eq_true', Bool.not_eq_false', beq_iff_eq, beq_eq_false_iff_ne, bne_iff_ne, ne_eq] at hg; contradiction) | (simp only [hg]))))
    all_goals
      go_ret
      refine ⟨?_, H.ext⟩
      clear H
      go_tidy
      first | rfl | (simp only [Tm.zero, *, Tm.eta, Bool.false_eq_true, reduceIte, Bool.and_self, Bool.true_and, Bool.and_true, Bool.false_and, Bool.and_false, Bool.true_or, Bool.or_true, Bool.false_or, Bool.or_false, Bool.not_true, Bool.not_false, bne]; done) | (simp [Tm.zero, Tm.eta, *]; done) | (simp_all [Tm.zero, Tm.eta]; done) | (simp_all [Tm.zero, Tm.eta]; omega)
theorem rdepth_c {M X : List Nat} {w1 w0 : World} {L : List Res} {F : List Nat → World → Prop} (H : St M X w1 w0 L F) (k : Int) (s : ByteArray) (n r i : Int) (A : Option Addr) (c len : Nat) (l : List Tm) [x : HasAR F A c l] (e : len = l.length) (hh : hT (.mk k s n r i l) ≤ 1000) (hs : slim (.mk k s n r i l)) :
    Calls Try.prog 63 #[.agg #[.int .i64 k, .string s, .int .i64 n, .int .u64 r, .int .u64 i, .slice A len c]] w0 (RetV w0 (.int .i64 (hT (.mk k s n r i l)))) := by
  subst e
  exact rdepth_spec (.mk k s n r i l) A c w0 hh hs H.ar0
theorem rDepth_spec (t : Tm) (At : Option Addr) (ct : Nat) (M : List Nat) (w0 : World) (hM : ∀ b ∈ M, b < w0.heap.size) (ht : AR At ct t.args M w0) (pre0 : slim t) : Calls Try.prog 29 #[.agg #[.int .i64 t.kind, .string t.name, .int .i64 t.int, .int .u64 t.re, .int .u64 t.im, .slice At t.args.length ct]] w0 (RetV w0 (.int .i64 (depthE t))) := by
  have H := St.start hM (AR.stab At ct t.args) ht
  clear ht
  by_cases hm : mayE t = 0
  · have e1 : (mayE t != 0) = false := by simpa using hm
    have hh : hT t ≤ 1000 := by have := (mayE_ok.1 hm).2.2; omega
    rw [depthE_ok hm]
    clear hm
    go_enter Try.func29, Try.ntmps29
    go_wp2_with (first | ((with_reducible refine wpl_runx_d 1 rfl ?_ ?_); (focus exact rfl); refine ⟨_, runs_box H rfl rfl, ?_⟩; clear H; rintro _ w ⟨b1, rfl, hE, H⟩; clear hE) | ((with_reducible refine wpl_runx ?_ ?_); (focus exact rfl); refine ⟨_, runs_load H 0 rfl rfl rfl rfl rfl, ?_⟩; rintro _ _ ⟨rfl, rfl⟩) | ((with_reducible refine wpl_runx ?_ ?_); (focus exact rfl); refine ⟨_, runs_load H 1 rfl rfl rfl rfl rfl, ?_⟩; rintro _ _ ⟨rfl, rfl⟩) | ((with_reducible refine wpl_runx ?_ ?_); (focus exact rfl); refine ⟨_, runs_load_cell H rfl rfl rfl rfl, ?_⟩; rintro _ _ ⟨rfl, rfl⟩) | ((with_reducible refine wpl_runx ?_ ?_); (focus exact rfl); refine ⟨_, runs_load_cell0 H rfl rfl rfl rfl, ?_⟩; rintro _ _ ⟨rfl, rfl⟩) | ((with_reducible refine wpl_runx ?_ ?_); (focus exact rfl); refine ⟨_, runs_load_obj H rfl rfl rfl rfl, ?_⟩; rintro _ _ ⟨rfl, rfl⟩) | ((with_reducible refine wpl_runx ?_ ?_); (focus exact rfl); refine ⟨_, runs_store H 0 rfl rfl rfl rfl rfl rfl rfl rfl rfl, ?_⟩; clear H; rintro _ w ⟨rfl, hE, H⟩; clear hE) | ((with_reducible refine wpl_runx ?_ ?_); (focus exact rfl); refine ⟨_, runs_store H 1 rfl rfl rfl rfl rfl rfl rfl rfl rfl, ?_⟩; clear H; rintro _ w ⟨rfl, hE, H⟩; clear hE) | (go_at_call 63; (with_reducible refine Calls.mono (rdepth_c H _ _ _ _ _ _ _ _ _ ?_ ?_ ?_) ?_); (focus (first | with_reducible rfl | rfl | simp)); (focus (simp only [Tm.eta]; assumption)); (focus (simp only [Tm.eta]; assumption)); (try simp only [Tm.eta]); rintro _ w ⟨rfl, hE⟩; replace H := H.step hE; clear hE) | ((with_reducible refine wpl_callX ?_); refine ⟨rfl, rfl, fun K hK => ?_⟩; go_simp; (first | (go_at_call 25; (with_reducible refine Calls.mono (rMay_c H _ _ _ _ _ _ _ _ _ ?_ ?_) ?_); (focus (first | with_reducible rfl | rfl | simp)); (focus ((try simp only [Tm.eta]); (first | assumption | (apply slim_of_slimA; assumption) | exact slimA_plain _ | exact slimA_rename _ | exact slim_plain _ | exact slim_rename _ | exact slimA_var _ | exact slimA_more _ _ | exact slimA_rmore _ _ | exact slimA_expand _ _ | exact slimA_rexpand _ _ | (simp [slim, slimL, slimA, slimAL]; done)))); intro e w h; (try simp only [Tm.eta] at h); obtain ⟨rfl, hE⟩ := h; replace H := H.step hE; clear hE)); refine hK _ _ ?_; clear hK K; (try simp only [Act.put, List.setIfInBounds_toArray, List.set_cons_succ, List.set_cons_zero])) | ((with_reducible refine wpl_pureX ?_); refine ⟨rfl, rfl, ?_⟩; apply Exists.intro; apply And.intro; (focus (intro w; go_simp; (try with_reducible rfl); done)); (try simp only [Act.put, List.setIfInBounds_toArray, List.set_cons_succ, List.set_cons_zero])) | ((fail_if_success ((with_reducible refine wpl_runx ?_ ?_); (focus exact rfl))); ((with_reducible refine wpl_gcaseE ?_); refine ⟨_, rfl, ?_, ?_⟩) <;> (intro hg; first | (simp only [reduceCtorEq] at hg; done) | contradiction | ((with_reducible have hx := eq_of_beq hg); contradiction) | ((with_reducible have hx := ne_of_beq_false hg); contradiction) | ((with_reducible have hx := bne_iff_ne.1 hg); contradiction) | ((with_reducible have hx := bne_eq_false_iff_eq.1 hg); contradiction) | ((with_reducible have hx := of_decide_eq_true hg); first | contradiction | omega) | ((with_reducible have hx := of_decide_eq_false hg); first | contradiction | omega) | (simp only [Bool.not_eq_true', Bool.not_eq_false', beq_iff_eq, beq_eq_false_iff_ne, bne_iff_ne, ne_eq] at hg; contradiction) | (simp only [hg]))))
    all_goals
      go_ret
      refine ⟨?_, H.ext⟩
      clear H
      go_tidy
      first | rfl | (simp only [Tm.zero, *, Tm.eta, Bool.false_eq_true, reduceIte, Bool.and_self, Bool.true_and, Bool.and_true, Bool.false_and, Bool.and_false, Bool.true_or, Bool.or_true, Bool.false_or, Bool.or_false, Bool.not_true, Bool.not_false, bne]; done) | (simp [Tm.zero, Tm.eta, *]; done) | (simp_all [Tm.zero, Tm.eta]; done) | (simp_all [Tm.zero, Tm.eta]; omega)
  · have e1 : (mayE t != 0) = true := by simpa using hm
    rw [depthE_err hm]
    clear hm
    go_enter Try.func29, Try.ntmps29
    go_wp2_with (first | ((with_reducible refine wpl_runx_d 1 rfl ?_ ?_); (focus exact rfl); refine ⟨_, runs_box H rfl rfl, ?_⟩; clear H; rintro _ w ⟨b1, rfl, hE, H⟩; clear hE) | ((with_reducible refine wpl_runx ?_ ?_); (focus exact rfl); refine ⟨_, runs_load H 0 rfl rfl rfl rfl rfl, ?_⟩; rintro _ _ ⟨rfl, rfl⟩) | ((with_reducible refine wpl_runx ?_ ?_); (focus exact rfl); refine ⟨_, runs_load H 1 rfl rfl rfl rfl rfl, ?_⟩; rintro _ _ ⟨rfl, rfl⟩) | ((with_reducible refine wpl_runx ?_ ?_); (focus exact rfl); refine ⟨_, runs_load_cell H rfl rfl rfl rfl, ?_⟩; rintro _ _ ⟨rfl, rfl⟩) | ((with_reducible refine wpl_runx ?_ ?_); (focus exact rfl); refine ⟨_, runs_load_cell0 H rfl rfl rfl rfl, ?_⟩; rintro _ _ ⟨rfl, rfl⟩) | ((with_reducible refine wpl_runx ?_ ?_); (focus exact rfl); refine ⟨_, runs_load_obj H rfl rfl rfl rfl, ?_⟩; rintro _ _ ⟨rfl, rfl⟩) | ((with_reducible refine wpl_runx ?_ ?_); (focus exact rfl); refine ⟨_, runs_store H 0 rfl rfl rfl rfl rfl rfl rfl rfl rfl, ?_⟩; clear H; rintro _ w ⟨rfl, hE, H⟩; clear hE) | ((with_reducible refine wpl_runx ?_ ?_); (focus exact rfl); refine ⟨_, runs_store H 1 rfl rfl rfl rfl rfl rfl rfl rfl rfl, ?_⟩; clear H; rintro _ w ⟨rfl, hE, H⟩; clear hE) | ((with_reducible refine wpl_callX ?_); refine ⟨rfl, rfl, fun K hK => ?_⟩; go_simp; (first | (go_at_call 25; (with_reducible refine Calls.mono (rMay_c H _ _ _ _ _ _ _ _ _ ?_ ?_) ?_); (focus (first | with_reducible rfl | rfl | simp)); (focus ((try simp only [Tm.eta]); (first | assumption | (apply slim_of_slimA; assumption) | exact slimA_plain _ | exact slimA_rename _ | exact slim_plain _ | exact slim_rename _ | exact slimA_var _ | exact slimA_more _ _ | exact slimA_rmore _ _ | exact slimA_expand _ _ | exact slimA_rexpand _ _ | (simp [slim, slimL, slimA, slimAL]; done)))); intro e w h; (try simp only [Tm.eta] at h); obtain ⟨rfl, hE⟩ := h; replace H := H.step hE; clear hE)); refine hK _ _ ?_; clear hK K; (try simp only [Act.put, List.setIfInBounds_toArray, List.set_cons_succ, List.set_cons_zero])) | ((with_reducible refine wpl_pureX ?_); refine ⟨rfl, rfl, ?_⟩; apply Exists.intro; apply And.intro; (focus (intro w; go_simp; (try with_reducible rfl); done)); (try simp only [Act.put, List.setIfInBounds_toArray, List.set_cons_succ, List.set_cons_zero])) | ((fail_if_success ((with_reducible refine wpl_runx ?_ ?_); (focus exact rfl))); ((with_reducible refine wpl_gcaseE ?_); refine ⟨_, rfl, ?_, ?_⟩) <;> (intro hg; first | (simp only [reduceCtorEq] at hg; done) | contradiction | ((with_reducible have hx := eq_of_beq hg); contradiction) | ((with_reducible have hx := ne_of_beq_false hg); contradiction) | ((with_reducible have hx := bne_iff_ne.1 hg); contradiction) | ((with_reducible have hx := bne_eq_false_iff_eq.1 hg); contradiction) | ((with_reducible have hx := of_decide_eq_true hg); first | contradiction | omega) | ((with_reducible have hx := of_decide_eq_false hg); first | contradiction | omega) | (simp only [Bool.not_eq_true', Bool.not_eq_false', beq_iff_eq, beq_eq_false_iff_ne, bne_iff_ne, ne_eq] at hg; contradiction) | (simp only [hg]))))
    all_goals
      go_ret
      refine ⟨?_, H.ext⟩
      clear H
      go_tidy
      first | rfl | (simp only [Tm.zero, *, Tm.eta, Bool.false_eq_true, reduceIte, Bool.and_self, Bool.true_and, Bool.and_true, Bool.false_and, Bool.and_false, Bool.true_or, Bool.or_true, Bool.false_or, Bool.or_false, Bool.not_true, Bool.not_false, bne]; done) | (simp [Tm.zero, Tm.eta, *]; done) | (simp_all [Tm.zero, Tm.eta]; done) | (simp_all [Tm.zero, Tm.eta]; omega)
theorem rDepth_spec_c {M X : List Nat} {w1 w0 : World} {L : List Res} {F : List Nat → World → Prop} (H : St M X w1 w0 L F) (kt : Int) (st : ByteArray) (nt rt it : Int) (At : Option Addr) (ct lent : Nat) (lt : List Tm) [xt : HasAR F At ct lt] (et : lent = lt.length) (pre0 : slim (Tm.mk kt st nt rt it lt)) : Calls Try.prog 29 #[.agg #[.int .i64 kt, .string st, .int .i64 nt, .int .u64 rt, .int .u64 it, .slice At lent ct]] w0 (RetV w0 (.int .i64 (depthE (Tm.mk kt st nt rt it lt)))) := by
  subst et
  exact rDepth_spec (Tm.mk kt st nt rt it lt) At ct _ _ H.ltAll H.ar pre0

end Go.Proofs.Ytdjbbafdepdglaa
