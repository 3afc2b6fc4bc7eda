/- Walks: the walker over code: has, row. -/
import Derived.Test.YtgopldabdheehaaArr
import Derived.Test.YtgopldabdheehaaChk0
import Derived.Test.YtgopldabdheehaaOpens
namespace Go.Proofs.Ytgopldabdheehaa
open Go.RowKit
set_option linter.unusedVariables false
set_option linter.unusedSimpArgs false
set_option maxRecDepth 20000
set_option maxHeartbeats 8000000

/-- What a walker over code knows. -/
structure WK where
  f : Nat → Bool
  base : Int
  unify : Int
  set : Int
  body : Bool
def wkL (s : WK) : List Value := (List.range 200).map (fun i => Value.bool (s.f i)) ++ [.int .i64 s.base, .int .i64 s.unify, .int .i64 s.set, .bool s.body]
theorem wk_len (s : WK) : (wkL s).length = 204 := by simp [wkL]
theorem wk_f (s : WK) {i : Nat} (h : i < 200) : (wkL s)[i]? = some (.bool (s.f i)) := by
  unfold wkL
  rw [List.getElem?_append_left (by simpa using h)]
  simp [List.getElem?_map, List.getElem?_range h]
theorem wk_base (s : WK) : (wkL s)[200]? = some (.int .i64 s.base) := by unfold wkL; rw [List.getElem?_append_right (by simp)]; simp
theorem wk_unify (s : WK) : (wkL s)[201]? = some (.int .i64 s.unify) := by unfold wkL; rw [List.getElem?_append_right (by simp)]; simp
theorem wk_set (s : WK) : (wkL s)[202]? = some (.int .i64 s.set) := by unfold wkL; rw [List.getElem?_append_right (by simp)]; simp
theorem wk_body (s : WK) : (wkL s)[203]? = some (.bool s.body) := by unfold wkL; rw [List.getElem?_append_right (by simp)]; simp
def WK.put (s : WK) (i : Nat) : WK := { s with f := fun j => if j = i then true else s.f j }
def WK.clr (s : WK) (m : Nat) : WK := { s with f := fun j => if j < m then false else s.f j }
theorem wk_put (s : WK) {i : Nat} (h : i < 200) : (wkL s).set i (.bool true) = wkL (s.put i) := by
  unfold wkL
  rw [List.set_append_left _ _ (by simpa using h)]
  congr 1
  refine List.ext_getElem (by simp) (fun j h1 h2 => ?_)
  rw [List.getElem_set]
  simp only [List.getElem_map, List.getElem_range, WK.put]
  split
  · rename_i e; rw [if_pos e.symm]
  · rename_i e; rw [if_neg (fun q => e q.symm)]
theorem wk_setU (s : WK) (n : Int) : (wkL s).set 201 (.int .i64 n) = wkL { s with unify := n } := by
  unfold wkL
  rw [List.set_append_right _ _ (by simp)]
  simp
theorem wk_setS (s : WK) (n : Int) : (wkL s).set 202 (.int .i64 n) = wkL { s with set := n } := by
  unfold wkL
  rw [List.set_append_right _ _ (by simp)]
  simp
theorem wk_setB (s : WK) (y : Bool) : (wkL s).set 203 (.bool y) = wkL { s with body := y } := by
  unfold wkL
  rw [List.set_append_right _ _ (by simp)]
  simp
theorem wk_clr (s : WK) {m : Nat} (h : m ≤ 200) : List.replicate m (.bool false) ++ (wkL s).drop m = wkL (s.clr m) := by
  have e : (wkL s).drop m = ((List.range 200).map (fun i => Value.bool (s.f i))).drop m ++ [.int .i64 s.base, .int .i64 s.unify, .int .i64 s.set, .bool s.body] := by
    unfold wkL
    rw [List.drop_append_of_le_length (by simpa using h)]
  rw [e, ← List.append_assoc]
  unfold wkL
  congr 1
  refine List.ext_getElem (by simp; omega) (fun j h1 h2 => ?_)
  rw [List.getElem_append]
  simp only [List.length_replicate, List.getElem_map, List.getElem_range, WK.clr]
  split
  · rename_i e; rw [List.getElem_replicate]
  · rename_i e
    rw [List.getElem_drop, List.getElem_map, List.getElem_range]
    congr 2
    omega
attribute [irreducible] wkL
theorem Try.infoInt : (Try.prog.info? 3).map (fun i => (i.zero, i.size, i.bytes)) = some (some (.int .i64 0), 1, 8) := by kernel_rfl
abbrev wkO (s : WK) : Obj := .cells (wkL s).toArray 59 (0, 0)
def hasE (f : Nat → Bool) (l : List Nat) : Bool := l.all fun n => decide (n < 200) && f n
theorem hasE_zero (f : Nat → Bool) (l : List Nat) : hasE f (l.take 0) = true := rfl
theorem hasE_succ (f : Nat → Bool) (l : List Nat) {j n : Nat} (h : l[j]? = some n) : hasE f (l.take (j + 1)) = (hasE f (l.take j) && (decide (n < 200) && f n)) := by
  obtain ⟨hl, rfl⟩ := List.getElem?_eq_some_iff.1 h
  unfold hasE
  rw [List.take_succ_eq_append_getElem hl, List.all_append]
  simp
theorem hasE_no {f : Nat → Bool} {l : List Nat} {n : Nat} (h : n ∈ l) (hn : (decide (n < 200) && f n) = false) : hasE f l = false := by
  unfold hasE
  rw [List.all_eq_false]
  exact ⟨n, h, by simp only [hn]; decide⟩
theorem VR.cellAt {A : Option Addr} {cap : Nat} {l : List Value} {M : List Nat} {w : World} (h : VR A cap l M w) {j : Nat} {v : Value} (hj : l[j]? = some v) : ∃ b o, A = some ⟨b, o, none⟩ ∧ CellF b (o + j) [v] M w := by
  rcases h.2 with rfl | ⟨b, o, e, h1, h2, hc⟩
  · simp at hj
  · refine ⟨b, o, e, h1, h2, fun q u hq => ?_⟩
    cases q with
    | zero => simp at hq; subst hq; exact hc j v hj
    | succ q => simp at hq
attribute [local irreducible] mayE nodesE depthE plainE renameE varsE EqualE LightE rSameE turnT hasE
theorem has_spec (s : WK) (b : Nat) (A : Option Addr) (c : Nat) (l : List Nat) (M : List Nat) (w0 : World) (hM : ∀ b ∈ M, b < w0.heap.size) (hb : ObjF b (wkO s) M w0) (hA : VR A c (l.map fun n : Nat => Value.int .i64 (n : Int)) M w0) (hl : l.length ≤ 1000) (len : Nat) (hlen : len = l.length) : Calls Try.prog 40 #[.pointer (some ⟨b, 0, none⟩), .slice A len c] w0 (RetV w0 (.bool (hasE s.f l))) := by
  subst hlen
  have H := St.start hM ((ObjF.stab _ _).and (VR.stab _ _ _)) ⟨hb, hA⟩
  clear hb hA
  go_enter Try.func40, Try.ntmps40
  go_wp2_with (first | ((with_reducible refine wpl_runx ?_ ?_); (focus exact rfl); refine ⟨_, runs_load H 0 rfl rfl rfl rfl rfl, ?_⟩; rintro _ _ ⟨rfl, rfl⟩) | ((with_reducible refine wpl_runx ?_ ?_); (focus exact rfl); refine ⟨_, runs_load_cell H rfl rfl rfl rfl, ?_⟩; rintro _ _ ⟨rfl, rfl⟩) | ((with_reducible refine wpl_runx ?_ ?_); (focus exact rfl); refine ⟨_, runs_load_cell0 H rfl rfl rfl rfl, ?_⟩; rintro _ _ ⟨rfl, rfl⟩) | ((with_reducible refine wpl_runx ?_ ?_); (focus exact rfl); refine ⟨_, runs_load_obj H rfl rfl rfl rfl, ?_⟩; rintro _ _ ⟨rfl, rfl⟩) | ((with_reducible refine wpl_runx ?_ ?_); (focus exact rfl); refine ⟨_, runs_store H 0 rfl rfl rfl rfl rfl rfl rfl rfl rfl, ?_⟩; clear H; rintro _ w ⟨rfl, hE, H⟩; clear hE) | ((with_reducible refine wpl_pureX ?_); refine ⟨rfl, rfl, ?_⟩; apply Exists.intro; apply And.intro; (focus (intro w; go_simp; (try with_reducible rfl); done)); (try simp only [Act.put, List.setIfInBounds_toArray, List.set_cons_succ, List.set_cons_zero])) | ((fail_if_success ((with_reducible refine wpl_runx ?_ ?_); (focus exact rfl))); ((with_reducible refine wpl_gcaseE ?_); refine ⟨_, rfl, ?_, ?_⟩) <;> (intro hg; first | (simp only [reduceCtorEq] at hg; done) | contradiction | ((with_reducible have hx := eq_of_beq hg); contradiction) | ((with_reducible have hx := ne_of_beq_false hg); contradiction) | ((with_reducible have hx := bne_iff_ne.1 hg); contradiction) | ((with_reducible have hx := bne_eq_false_iff_eq.1 hg); contradiction) | ((with_reducible have hx := of_decide_eq_true hg); first | contradiction | omega) | ((with_reducible have hx := of_decide_eq_false hg); first | contradiction | omega) | (simp only [Bool.not_eq_true', Bool.not_eq_false', beq_iff_eq, beq_eq_false_iff_ne, bne_iff_ne, ne_eq] at hg; contradiction) | (simp only [hg]))))
  go_loopw [6, 9] (fun _ iv wr => ∃ j : Nat, j ≤ l.length ∧ hasE s.f (l.take j) = true ∧ iv = .int .i64 j ∧ St M [] w0 wr [] fun M w => ObjF b (wkO s) M w ∧ VR A c (l.map fun n : Nat => Value.int .i64 (n : Int)) M w) (fun _ iv _ => l.length - (intOf iv).toNat)
  case atStart => exact ⟨0, Nat.zero_le _, hasE_zero _ _, rfl, H⟩
  case round =>
    clear H
    obtain ⟨j, hj, hB, rfl, H⟩ := hrel
    replace hB := Lib.hid hB
    by_cases hlt : j < l.length
    · have i1 : (j : Int) < (l.length : Int) := by omega
      obtain ⟨n, hn⟩ : ∃ n, l[j]? = some n := ⟨_, List.getElem?_eq_getElem hlt⟩
      obtain ⟨b1, o1, hA1, C1⟩ := H.fact.2.cellAt (j := j) (v := .int .i64 (n : Int)) (by rw [List.getElem?_map, hn]; rfl)
      subst hA1
      replace H := H.add C1 (CellF.stab _ _ _)
      clear C1
      have hS := hasE_succ s.f l hn
      rw [hB.out, Bool.true_and] at hS
      have hN := hasE_no (f := s.f) (List.mem_of_getElem? hn)
      by_cases h2 : n < 200
      · have g1 : decide ((200 : Int) ≤ (n : Int)) = false := by simp; omega
        have g1' : decide (200 ≤ n) = false := by simp; omega
        have i2 : (n : Int) < 200 := by omega
        have hf := wk_f s h2
        have e2 : decide (n < 200) = true := by simpa using h2
        rw [e2, Bool.true_and] at hS hN
        replace hS := Lib.hid hS; replace hn := Lib.hid hn; replace hf := Lib.hid hf; replace hN := Lib.hid hN; clear e2
        cases q : s.f n with
        | false =>
          have hN2 := Lib.hid (hN.out q)
          go_wp2_with (first | ((with_reducible refine wpl_runx ?_ ?_); (focus exact rfl); refine ⟨_, runs_load H 0 rfl rfl rfl rfl rfl, ?_⟩; rintro _ _ ⟨rfl, rfl⟩) | ((with_reducible refine wpl_runx ?_ ?_); (focus exact rfl); refine ⟨_, runs_load_cell H rfl rfl rfl rfl, ?_⟩; rintro _ _ ⟨rfl, rfl⟩) | ((with_reducible refine wpl_runx ?_ ?_); (focus exact rfl); refine ⟨_, runs_load_cell0 H rfl rfl rfl rfl, ?_⟩; rintro _ _ ⟨rfl, rfl⟩) | ((with_reducible refine wpl_runx ?_ ?_); (focus exact rfl); refine ⟨_, runs_load_obj H rfl rfl rfl rfl, ?_⟩; rintro _ _ ⟨rfl, rfl⟩) | ((with_reducible refine wpl_runx ?_ ?_); (focus exact rfl); refine ⟨_, runs_store H 0 rfl rfl rfl rfl rfl rfl rfl rfl rfl, ?_⟩; clear H; rintro _ w ⟨rfl, hE, H⟩; clear hE) | ((with_reducible refine wpl_runx ?_ ?_); (focus exact rfl); refine ⟨_, runs_loadO H.fact.1.1.1 rfl rfl rfl hf.out, ?_⟩; rintro _ _ ⟨rfl, rfl⟩) | ((with_reducible refine wpl_pureX ?_); refine ⟨rfl, rfl, ?_⟩; apply Exists.intro; apply And.intro; (focus (intro w; go_simp; (try with_reducible rfl); done)); (try simp only [Act.put, List.setIfInBounds_toArray, List.set_cons_succ, List.set_cons_zero])) | ((fail_if_success ((with_reducible refine wpl_runx ?_ ?_); (focus exact rfl))); ((with_reducible refine wpl_gcaseE ?_); refine ⟨_, rfl, ?_, ?_⟩) <;> (intro hg; first | (simp only [reduceCtorEq] at hg; done) | contradiction | ((with_reducible have hx := eq_of_beq hg); contradiction) | ((with_reducible have hx := ne_of_beq_false hg); contradiction) | ((with_reducible have hx := bne_iff_ne.1 hg); contradiction) | ((with_reducible have hx := bne_eq_false_iff_eq.1 hg); contradiction) | ((with_reducible have hx := of_decide_eq_true hg); first | contradiction | omega) | ((with_reducible have hx := of_decide_eq_false hg); first | contradiction | omega) | (simp only [Bool.not_eq_true', Bool.not_eq_false', beq_iff_eq, beq_eq_false_iff_ne, bne_iff_ne, ne_eq] at hg; contradiction) | (simp only [hg]))))
          go_ret
          exact ⟨by rw [hN2.out]; rfl, H.ext⟩
        | true =>
          go_wp2_with (first | ((with_reducible refine wpl_runx ?_ ?_); (focus exact rfl); refine ⟨_, runs_load H 0 rfl rfl rfl rfl rfl, ?_⟩; rintro _ _ ⟨rfl, rfl⟩) | ((with_reducible refine wpl_runx ?_ ?_); (focus exact rfl); refine ⟨_, runs_load_cell H rfl rfl rfl rfl, ?_⟩; rintro _ _ ⟨rfl, rfl⟩) | ((with_reducible refine wpl_runx ?_ ?_); (focus exact rfl); refine ⟨_, runs_load_cell0 H rfl rfl rfl rfl, ?_⟩; rintro _ _ ⟨rfl, rfl⟩) | ((with_reducible refine wpl_runx ?_ ?_); (focus exact rfl); refine ⟨_, runs_load_obj H rfl rfl rfl rfl, ?_⟩; rintro _ _ ⟨rfl, rfl⟩) | ((with_reducible refine wpl_runx ?_ ?_); (focus exact rfl); refine ⟨_, runs_store H 0 rfl rfl rfl rfl rfl rfl rfl rfl rfl, ?_⟩; clear H; rintro _ w ⟨rfl, hE, H⟩; clear hE) | ((with_reducible refine wpl_runx ?_ ?_); (focus exact rfl); refine ⟨_, runs_loadO H.fact.1.1.1 rfl rfl rfl hf.out, ?_⟩; rintro _ _ ⟨rfl, rfl⟩) | ((with_reducible refine wpl_pureX ?_); refine ⟨rfl, rfl, ?_⟩; apply Exists.intro; apply And.intro; (focus (intro w; go_simp; (try with_reducible rfl); done)); (try simp only [Act.put, List.setIfInBounds_toArray, List.set_cons_succ, List.set_cons_zero])) | ((fail_if_success ((with_reducible refine wpl_runx ?_ ?_); (focus exact rfl))); ((with_reducible refine wpl_gcaseE ?_); refine ⟨_, rfl, ?_, ?_⟩) <;> (intro hg; first | (simp only [reduceCtorEq] at hg; done) | contradiction | ((with_reducible have hx := eq_of_beq hg); contradiction) | ((with_reducible have hx := ne_of_beq_false hg); contradiction) | ((with_reducible have hx := bne_iff_ne.1 hg); contradiction) | ((with_reducible have hx := bne_eq_false_iff_eq.1 hg); contradiction) | ((with_reducible have hx := of_decide_eq_true hg); first | contradiction | omega) | ((with_reducible have hx := of_decide_eq_false hg); first | contradiction | omega) | (simp only [Bool.not_eq_true', Bool.not_eq_false', beq_iff_eq, beq_eq_false_iff_ne, bne_iff_ne, ne_eq] at hg; contradiction) | (simp only [hg]))))
          go_roundw
          case rel => exact ⟨j + 1, by omega, by rw [hS.out, q], by go_num, H.weaken (fun h => h.1) ((ObjF.stab _ _).and (VR.stab _ _ _))⟩
          case measure => simp [intOf]; omega
      · have g1 : decide ((200 : Int) ≤ (n : Int)) = true := by simp; omega
        have g1' : decide (200 ≤ n) = true := by simp; omega
        have hf := hN (by simp [h2])
        replace hS := Lib.hid hS; replace hn := Lib.hid hn; replace hf := Lib.hid hf; clear hN
        go_wp2_with (first | ((with_reducible refine wpl_runx ?_ ?_); (focus exact rfl); refine ⟨_, runs_load H 0 rfl rfl rfl rfl rfl, ?_⟩; rintro _ _ ⟨rfl, rfl⟩) | ((with_reducible refine wpl_runx ?_ ?_); (focus exact rfl); refine ⟨_, runs_load_cell H rfl rfl rfl rfl, ?_⟩; rintro _ _ ⟨rfl, rfl⟩) | ((with_reducible refine wpl_runx ?_ ?_); (focus exact rfl); refine ⟨_, runs_load_cell0 H rfl rfl rfl rfl, ?_⟩; rintro _ _ ⟨rfl, rfl⟩) | ((with_reducible refine wpl_runx ?_ ?_); (focus exact rfl); refine ⟨_, runs_load_obj H rfl rfl rfl rfl, ?_⟩; rintro _ _ ⟨rfl, rfl⟩) | ((with_reducible refine wpl_runx ?_ ?_); (focus exact rfl); refine ⟨_, runs_store H 0 rfl rfl rfl rfl rfl rfl rfl rfl rfl, ?_⟩; clear H; rintro _ w ⟨rfl, hE, H⟩; clear hE) | ((with_reducible refine wpl_pureX ?_); refine ⟨rfl, rfl, ?_⟩; apply Exists.intro; apply And.intro; (focus (intro w; go_simp; (try with_reducible rfl); done)); (try simp only [Act.put, List.setIfInBounds_toArray, List.set_cons_succ, List.set_cons_zero])) | ((fail_if_success ((with_reducible refine wpl_runx ?_ ?_); (focus exact rfl))); ((with_reducible refine wpl_gcaseE ?_); refine ⟨_, rfl, ?_, ?_⟩) <;> (intro hg; first | (simp only [reduceCtorEq] at hg; done) | contradiction | ((with_reducible have hx := eq_of_beq hg); contradiction) | ((with_reducible have hx := ne_of_beq_false hg); contradiction) | ((with_reducible have hx := bne_iff_ne.1 hg); contradiction) | ((with_reducible have hx := bne_eq_false_iff_eq.1 hg); contradiction) | ((with_reducible have hx := of_decide_eq_true hg); first | contradiction | omega) | ((with_reducible have hx := of_decide_eq_false hg); first | contradiction | omega) | (simp only [Bool.not_eq_true', Bool.not_eq_false', beq_iff_eq, beq_eq_false_iff_ne, bne_iff_ne, ne_eq] at hg; contradiction) | (simp only [hg]))))
        go_ret
        exact ⟨by rw [hf.out]; rfl, H.ext⟩
    · obtain rfl : j = l.length := by omega
      rw [List.take_length] at hB
      have hB2 := hB.out
      go_wp2_with (first | ((with_reducible refine wpl_runx ?_ ?_); (focus exact rfl); refine ⟨_, runs_load H 0 rfl rfl rfl rfl rfl, ?_⟩; rintro _ _ ⟨rfl, rfl⟩) | ((with_reducible refine wpl_runx ?_ ?_); (focus exact rfl); refine ⟨_, runs_load_cell H rfl rfl rfl rfl, ?_⟩; rintro _ _ ⟨rfl, rfl⟩) | ((with_reducible refine wpl_runx ?_ ?_); (focus exact rfl); refine ⟨_, runs_load_cell0 H rfl rfl rfl rfl, ?_⟩; rintro _ _ ⟨rfl, rfl⟩) | ((with_reducible refine wpl_runx ?_ ?_); (focus exact rfl); refine ⟨_, runs_load_obj H rfl rfl rfl rfl, ?_⟩; rintro _ _ ⟨rfl, rfl⟩) | ((with_reducible refine wpl_runx ?_ ?_); (focus exact rfl); refine ⟨_, runs_store H 0 rfl rfl rfl rfl rfl rfl rfl rfl rfl, ?_⟩; clear H; rintro _ w ⟨rfl, hE, H⟩; clear hE) | ((with_reducible refine wpl_pureX ?_); refine ⟨rfl, rfl, ?_⟩; apply Exists.intro; apply And.intro; (focus (intro w; go_simp; (try with_reducible rfl); done)); (try simp only [Act.put, List.setIfInBounds_toArray, List.set_cons_succ, List.set_cons_zero])) | ((fail_if_success ((with_reducible refine wpl_runx ?_ ?_); (focus exact rfl))); ((with_reducible refine wpl_gcaseE ?_); refine ⟨_, rfl, ?_, ?_⟩) <;> (intro hg; first | (simp only [reduceCtorEq] at hg; done) | contradiction | ((with_reducible have hx := eq_of_beq hg); contradiction) | ((with_reducible have hx := ne_of_beq_false hg); contradiction) | ((with_reducible have hx := bne_iff_ne.1 hg); contradiction) | ((with_reducible have hx := bne_eq_false_iff_eq.1 hg); contradiction) | ((with_reducible have hx := of_decide_eq_true hg); first | contradiction | omega) | ((with_reducible have hx := of_decide_eq_false hg); first | contradiction | omega) | (simp only [Bool.not_eq_true', Bool.not_eq_false', beq_iff_eq, beq_eq_false_iff_ne, bne_iff_ne, ne_eq] at hg; contradiction) | (simp only [hg]))))
      go_ret
      exact ⟨by rw [hB.out]; rfl, H.ext⟩
/-- The first numbers. -/
theorem row_spec (n : Nat) (M : List Nat) (w0 : World) (hM : ∀ b ∈ M, b < w0.heap.size) (hn : n ≤ 1000) : Calls Try.prog 41 #[.int .i64 n] w0 (fun e w' => ∃ A c, e = .returned (.slice A n c) ∧ VR A c ((List.range n).map fun n : Nat => Value.int .i64 (n : Int)) M w' ∧ Ext [] w0 w') := by
  have H := St.start hM (Stab.const True) trivial
  go_enter Try.func41, Try.ntmps41
  replace H := H.nilRow 3 1
  go_wp2_with (first | ((with_reducible refine wpl_runx_d 11 rfl ?_ ?_); (focus exact rfl); refine ⟨_, by apply runs_buildSlice H; iterate 10 rfl, ?_⟩; clear H; rintro _ w ⟨b11, rfl, hE, H⟩; clear hE) | ((with_reducible refine wpl_runx ?_ ?_); (focus exact rfl); refine ⟨_, runs_load H 0 rfl rfl rfl rfl rfl, ?_⟩; rintro _ _ ⟨rfl, rfl⟩) | ((with_reducible refine wpl_runx ?_ ?_); (focus exact rfl); refine ⟨_, runs_load H 1 rfl rfl rfl rfl rfl, ?_⟩; rintro _ _ ⟨rfl, rfl⟩) | ((with_reducible refine wpl_runx ?_ ?_); (focus exact rfl); refine ⟨_, runs_load_cell H rfl rfl rfl rfl, ?_⟩; rintro _ _ ⟨rfl, rfl⟩) | ((with_reducible refine wpl_runx ?_ ?_); (focus exact rfl); refine ⟨_, runs_load_cell0 H rfl rfl rfl rfl, ?_⟩; rintro _ _ ⟨rfl, rfl⟩) | ((with_reducible refine wpl_runx ?_ ?_); (focus exact rfl); refine ⟨_, runs_load_obj H rfl rfl rfl rfl, ?_⟩; rintro _ _ ⟨rfl, rfl⟩) | ((with_reducible refine wpl_runx ?_ ?_); (focus exact rfl); refine ⟨_, runs_store H 0 rfl rfl rfl rfl rfl rfl rfl rfl rfl, ?_⟩; clear H; rintro _ w ⟨rfl, hE, H⟩; clear hE) | ((with_reducible refine wpl_runx ?_ ?_); (focus exact rfl); refine ⟨_, runs_store H 1 rfl rfl rfl rfl rfl rfl rfl rfl rfl, ?_⟩; clear H; rintro _ w ⟨rfl, hE, H⟩; clear hE) | ((with_reducible refine wpl_pureX ?_); refine ⟨rfl, rfl, ?_⟩; apply Exists.intro; apply And.intro; (focus (intro w; go_simp; (try with_reducible rfl); done)); (try simp only [Act.put, List.setIfInBounds_toArray, List.set_cons_succ, List.set_cons_zero])) | ((fail_if_success ((with_reducible refine wpl_runx ?_ ?_); (focus exact rfl))); ((with_reducible refine wpl_gcaseE ?_); refine ⟨_, rfl, ?_, ?_⟩) <;> (intro hg; first | (simp only [reduceCtorEq] at hg; done) | contradiction | ((with_reducible have hx := eq_of_beq hg); contradiction) | ((with_reducible have hx := ne_of_beq_false hg); contradiction) | ((with_reducible have hx := bne_iff_ne.1 hg); contradiction) | ((with_reducible have hx := bne_eq_false_iff_eq.1 hg); contradiction) | ((with_reducible have hx := of_decide_eq_true hg); first | contradiction | omega) | ((with_reducible have hx := of_decide_eq_false hg); first | contradiction | omega) | (simp only [Bool.not_eq_true', Bool.not_eq_false', beq_iff_eq, beq_eq_false_iff_ne, bne_iff_ne, ne_eq] at hg; contradiction) | (simp only [hg]))))
  go_loopw [3, 4, 6] (fun sv _ iv wr => ∃ j : Nat, j ≤ n ∧ iv = .int .i64 j ∧ St M [] w0 wr [.row sv j ((List.range j).map fun n : Nat => Value.int .i64 (n : Int)) 3 1] fun _ _ => True) (fun _ _ iv _ => n - (intOf iv).toNat)
  case atStart => exact ⟨0, Nat.zero_le _, rfl, H⟩
  case round =>
    clear H
    obtain ⟨j, hj, rfl, H⟩ := hrel
    by_cases hlt : j < n
    · have i1 : (j : Int) < (n : Int) := by omega
      go_wp2_with (first | ((with_reducible refine wpl_runx_d 11 rfl ?_ ?_); (focus exact rfl); refine ⟨_, by apply runs_buildSlice H; iterate 10 rfl, ?_⟩; clear H; rintro _ w ⟨b11, rfl, hE, H⟩; clear hE) | ((with_reducible refine wpl_runx ?_ ?_); (focus exact rfl); refine ⟨_, runs_load H 0 rfl rfl rfl rfl rfl, ?_⟩; rintro _ _ ⟨rfl, rfl⟩) | ((with_reducible refine wpl_runx ?_ ?_); (focus exact rfl); refine ⟨_, runs_load H 1 rfl rfl rfl rfl rfl, ?_⟩; rintro _ _ ⟨rfl, rfl⟩) | ((with_reducible refine wpl_runx ?_ ?_); (focus exact rfl); refine ⟨_, runs_load_cell H rfl rfl rfl rfl, ?_⟩; rintro _ _ ⟨rfl, rfl⟩) | ((with_reducible refine wpl_runx ?_ ?_); (focus exact rfl); refine ⟨_, runs_load_cell0 H rfl rfl rfl rfl, ?_⟩; rintro _ _ ⟨rfl, rfl⟩) | ((with_reducible refine wpl_runx ?_ ?_); (focus exact rfl); refine ⟨_, runs_load_obj H rfl rfl rfl rfl, ?_⟩; rintro _ _ ⟨rfl, rfl⟩) | ((with_reducible refine wpl_runx ?_ ?_); (focus exact rfl); refine ⟨_, runs_store H 0 rfl rfl rfl rfl rfl rfl rfl rfl rfl, ?_⟩; clear H; rintro _ w ⟨rfl, hE, H⟩; clear hE) | ((with_reducible refine wpl_runx ?_ ?_); (focus exact rfl); refine ⟨_, runs_store H 1 rfl rfl rfl rfl rfl rfl rfl rfl rfl, ?_⟩; clear H; rintro _ w ⟨rfl, hE, H⟩; clear hE) | ((with_reducible refine wpl_runx ?_ ?_); (focus exact rfl); refine ⟨_, runs_append1 H 1 rfl rfl rfl rfl rfl Try.infoInt rfl (by decide) 0 rfl rfl rfl (by decide) (by unfold maxLen; omega) (by omega) (fun r => rfl), ?_⟩; clear H; rintro _ w ⟨g', cap', rfl, hE, H⟩; clear hE) | ((with_reducible refine wpl_pureX ?_); refine ⟨rfl, rfl, ?_⟩; apply Exists.intro; apply And.intro; (focus (intro w; go_simp; (try with_reducible rfl); done)); (try simp only [Act.put, List.setIfInBounds_toArray, List.set_cons_succ, List.set_cons_zero])) | ((fail_if_success ((with_reducible refine wpl_runx ?_ ?_); (focus exact rfl))); ((with_reducible refine wpl_gcaseE ?_); refine ⟨_, rfl, ?_, ?_⟩) <;> (intro hg; first | (simp only [reduceCtorEq] at hg; done) | contradiction | ((with_reducible have hx := eq_of_beq hg); contradiction) | ((with_reducible have hx := ne_of_beq_false hg); contradiction) | ((with_reducible have hx := bne_iff_ne.1 hg); contradiction) | ((with_reducible have hx := bne_eq_false_iff_eq.1 hg); contradiction) | ((with_reducible have hx := of_decide_eq_true hg); first | contradiction | omega) | ((with_reducible have hx := of_decide_eq_false hg); first | contradiction | omega) | (simp only [Bool.not_eq_true', Bool.not_eq_false', beq_iff_eq, beq_eq_false_iff_ne, bne_iff_ne, ne_eq] at hg; contradiction) | (simp only [hg]))))
      go_roundw
      case rel =>
        refine ⟨j + 1, by omega, by go_num, ?_⟩
        rw [List.range_succ, List.map_append]
        exact H.drop 0 rfl
      case measure => simp [intOf]; omega
    · obtain rfl : j = n := by omega
      go_wp2_with (first | ((with_reducible refine wpl_runx_d 11 rfl ?_ ?_); (focus exact rfl); refine ⟨_, by apply runs_buildSlice H; iterate 10 rfl, ?_⟩; clear H; rintro _ w ⟨b11, rfl, hE, H⟩; clear hE) | ((with_reducible refine wpl_runx ?_ ?_); (focus exact rfl); refine ⟨_, runs_load H 0 rfl rfl rfl rfl rfl, ?_⟩; rintro _ _ ⟨rfl, rfl⟩) | ((with_reducible refine wpl_runx ?_ ?_); (focus exact rfl); refine ⟨_, runs_load H 1 rfl rfl rfl rfl rfl, ?_⟩; rintro _ _ ⟨rfl, rfl⟩) | ((with_reducible refine wpl_runx ?_ ?_); (focus exact rfl); refine ⟨_, runs_load_cell H rfl rfl rfl rfl, ?_⟩; rintro _ _ ⟨rfl, rfl⟩) | ((with_reducible refine wpl_runx ?_ ?_); (focus exact rfl); refine ⟨_, runs_load_cell0 H rfl rfl rfl rfl, ?_⟩; rintro _ _ ⟨rfl, rfl⟩) | ((with_reducible refine wpl_runx ?_ ?_); (focus exact rfl); refine ⟨_, runs_load_obj H rfl rfl rfl rfl, ?_⟩; rintro _ _ ⟨rfl, rfl⟩) | ((with_reducible refine wpl_runx ?_ ?_); (focus exact rfl); refine ⟨_, runs_store H 0 rfl rfl rfl rfl rfl rfl rfl rfl rfl, ?_⟩; clear H; rintro _ w ⟨rfl, hE, H⟩; clear hE) | ((with_reducible refine wpl_runx ?_ ?_); (focus exact rfl); refine ⟨_, runs_store H 1 rfl rfl rfl rfl rfl rfl rfl rfl rfl, ?_⟩; clear H; rintro _ w ⟨rfl, hE, H⟩; clear hE) | ((with_reducible refine wpl_pureX ?_); refine ⟨rfl, rfl, ?_⟩; apply Exists.intro; apply And.intro; (focus (intro w; go_simp; (try with_reducible rfl); done)); (try simp only [Act.put, List.setIfInBounds_toArray, List.set_cons_succ, List.set_cons_zero])) | ((fail_if_success ((with_reducible refine wpl_runx ?_ ?_); (focus exact rfl))); ((with_reducible refine wpl_gcaseE ?_); refine ⟨_, rfl, ?_, ?_⟩) <;> (intro hg; first | (simp only [reduceCtorEq] at hg; done) | contradiction | ((with_reducible have hx := eq_of_beq hg); contradiction) | ((with_reducible have hx := ne_of_beq_false hg); contradiction) | ((with_reducible have hx := bne_iff_ne.1 hg); contradiction) | ((with_reducible have hx := bne_eq_false_iff_eq.1 hg); contradiction) | ((with_reducible have hx := of_decide_eq_true hg); first | contradiction | omega) | ((with_reducible have hx := of_decide_eq_false hg); first | contradiction | omega) | (simp only [Bool.not_eq_true', Bool.not_eq_false', beq_iff_eq, beq_eq_false_iff_ne, bne_iff_ne, ne_eq] at hg; contradiction) | (simp only [hg]))))
      obtain ⟨A', c', rfl, H⟩ := H.sealV 0 rfl
      go_ret
      refine ⟨A', c', ?_, H.out.2, H.ext⟩
      simp only [List.length_map, List.length_range]
      rfl
end Go.Proofs.Ytgopldabdheehaa
