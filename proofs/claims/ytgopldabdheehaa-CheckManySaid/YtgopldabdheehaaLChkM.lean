/- Laws: too many registers, too many instructions. -/
import Derived.Test.YtgopldabdheehaaLChkF
namespace Go.Proofs.Ytgopldabdheehaa
open Go.RowKit
set_option linter.unusedVariables false
set_option linter.unusedSimpArgs false
set_option maxRecDepth 20000
set_option maxHeartbeats 8000000
set_option maxRecDepth 100000
def cutI : Ins := ⟨17, 0, 0, ⟨#[]⟩, 0, .mk 0 ⟨#[]⟩ 0 0 0 []⟩
def proI : Ins := ⟨18, 0, 0, ⟨#[]⟩, 0, .mk 0 ⟨#[]⟩ 0 0 0 []⟩
theorem fit_cut (r : Int) : fitsE cutI r = true := by unfold fitsE cutI; rfl
theorem fit_pro (r : Int) : fitsE proI r = true := by unfold fitsE proI; rfl
theorem place_pro {s : WK} (h1 : s.unify = 0) (h2 : s.set = 0) : placeE s proI = some (s.turn proI) := by
  obtain ⟨f, b, u, se, y⟩ := s
  simp only at h1 h2
  subst h1; subst h2
  unfold placeE
  rw [if_neg (by simp [isU, proI]), if_neg (by simp [isS, proI]), if_neg (by simp [isG, proI])]
theorem place_cut {s : WK} (h1 : s.unify = 0) (h2 : s.set = 0) : placeE s cutI = some (s.turn cutI) := by
  obtain ⟨f, b, u, se, y⟩ := s
  simp only at h1 h2
  subst h1; subst h2
  unfold placeE
  rw [if_neg (by simp [isU, cutI]), if_neg (by simp [isS, cutI]), if_neg (by simp [isG, cutI])]
theorem run_pro (r : Int) {s : WK} (h1 : s.unify = 0) (h2 : s.set = 0) (i : Nat) : runE r s [proI] i = (0, 0) := by
  rw [runE, fit_pro, if_pos rfl, place_pro h1 h2]
  have e : readE (s.turn proI).f proI = true := rfl
  simp only [e, if_true]
  rfl
theorem run_cuts (r : Int) : ∀ (n : Nat) (s : WK) (i : Nat), s.unify = 0 → s.set = 0 → runE r s (List.replicate n cutI ++ [proI]) i = (0, 0)
  | 0, s, i, h1, h2 => run_pro r h1 h2 i
  | n + 1, s, i, h1, h2 => by
    rw [List.replicate_succ, List.cons_append, runE, fit_cut, if_pos rfl, place_cut h1 h2]
    have e : readE (s.turn cutI).f cutI = true := rfl
    have e2 : (cutI.op == 18) = false := rfl
    simp only [e, e2, if_true, Bool.false_eq_true, if_false]
    refine run_cuts r n _ (i + 1) ?_ ?_
    · show (s.turn cutI).unify = 0
      exact h1
    · show (s.turn cutI).set = 0
      exact h2
theorem code_many (m : ByteArray) (hm : m.size ≤ 200) (r : Int) (hr : 0 ≤ r) (n : Nat) : codeE m 0 r (List.replicate n cutI ++ [proI]) = if 200 < r ∨ 40000 ≤ n then (0, 3) else (0, 0) := by
  unfold codeE longE
  by_cases h1 : 200 < r
  · rw [if_pos (by simp [h1]), if_pos (.inl h1)]
  by_cases h2 : 40000 ≤ n
  · rw [if_pos (by simp; omega), if_pos (.inr h2)]
  · rw [if_neg (by simp; omega), if_neg (by simp [withinE]; omega), if_neg (by omega)]
    exact run_cuts r n _ 0 rfl rfl
theorem isr_cut {xs : List Value} {n : Nat} {M : List Nat} {w : World} (h : IsR xs (List.replicate n cutI) M w) : IsR (xs ++ cellsI cutI none 0) (List.replicate (n + 1) cutI) M w := by
  rw [List.replicate_succ']
  exact IsR.snoc h (AR.nil _ _ _ _)
theorem Try.infoI : (Try.prog.info? 27).map (fun i => (i.zero, i.size, i.bytes)) = some (some (.agg #[.int .i64 0, .int .i64 0, .int .i64 0, .string ⟨#[]⟩, .int .i64 0, .int .i64 0, .string ⟨#[]⟩, .int .i64 0, .int .u64 0, .int .u64 0, .slice none 0 0]), 11, 120) := by kernel_rfl
attribute [local irreducible] mayE nodesE depthE plainE renameE varsE EqualE LightE rSameE turnT codeE
theorem many_spec (n : Int) (M : List Nat) (w0 : World) (hM : ∀ b ∈ M, b < w0.heap.size)  : Calls Try.prog 4 #[.int .i64 n] w0 (RetV w0 (.bool true)) := by
  have H := St.start hM (Stab.const True) trivial
  obtain ⟨p, hp, ep⟩ := redW n 5 (by decide) (by decide)
  have ep' : IntKind.wrap .i64 ((IntKind.u64.wrap n).tmod 5) = (p : Int) := (IntWalk.i64_left _).trans ep
  have ep2 : wrap64 ((IntKind.u64.wrap n).tmod 5) = (p : Int) := ep
  clear ep
  obtain ⟨r, hr⟩ : ∃ r : Nat, 198 + p = r := ⟨_, rfl⟩
  obtain ⟨N, hN⟩ : ∃ r : Nat, 39997 + p = r := ⟨_, rfl⟩
  have V1 : wrap64 (198 + (p : Int)) = (r : Int) := by unfold wrap64; omega
  have V2 : IntKind.wrap .i64 (198 + (p : Int)) = (r : Int) := by rw [IntKind.wrap_i64] <;> omega
  have V3 : 198 + (p : Int) = (r : Int) := by omega
  have W1 : wrap64 (39997 + (p : Int)) = (N : Int) := by unfold wrap64; omega
  have W2 : IntKind.wrap .i64 (39997 + (p : Int)) = (N : Int) := by rw [IntKind.wrap_i64] <;> omega
  have W3 : 39997 + (p : Int) = (N : Int) := by omega
  have hE : ∃ E : Int, codeE ⟨#[112]⟩ 0 (r : Int) [proI] = (0, E) ∧ codeE ⟨#[112]⟩ 0 5 (List.replicate N cutI ++ [proI]) = (0, E) ∧ ((decide ((p : Int) ≤ 2) = true ∧ decide (p ≤ 2) = true ∧ E = 0) ∨ (decide ((p : Int) ≤ 2) = false ∧ decide (p ≤ 2) = false ∧ E = 3)) := by
    have c1 := code_many ⟨#[112]⟩ (by decide) (r : Int) (by omega) 0
    have c2 := code_many ⟨#[112]⟩ (by decide) 5 (by omega) N
    by_cases h : p ≤ 2
    · rw [if_neg (by omega)] at c1 c2
      exact ⟨0, c1, c2, .inl ⟨by simp; omega, by simpa using h, rfl⟩⟩
    · rw [if_pos (by omega)] at c1 c2
      exact ⟨3, c1, c2, .inr ⟨by simp; omega, by simp; omega, rfl⟩⟩
  obtain ⟨E, e1, e2, hE⟩ := hE
  replace e1 := Lib.hid e1; replace e2 := Lib.hid e2
  have hNle : N ≤ 40002 := by omega
  clear hr hN hp
  go_enter Try.func4, Try.ntmps4
  go_wp2_with (first | ((with_reducible refine wpl_runx_d 15 rfl ?_ ?_); (focus exact rfl); refine ⟨_, by apply runs_buildSlice H; iterate 10 rfl, ?_⟩; clear H; rintro _ w ⟨b15, rfl, hE, H⟩; clear hE) | ((with_reducible refine wpl_runx_d 3 rfl ?_ ?_); (focus exact rfl); refine ⟨_, runs_alloc H rfl rfl rfl, ?_⟩; clear H; rintro _ w ⟨b3, rfl, hE, H⟩; clear hE) | ((with_reducible refine wpl_runx_d 31 rfl ?_ ?_); (focus exact rfl); refine ⟨_, by apply runs_buildSlice H; iterate 10 rfl, ?_⟩; clear H; rintro _ w ⟨b31, rfl, hE, H⟩; clear hE) | ((with_reducible refine wpl_runx_d 38 rfl ?_ ?_); (focus exact rfl); refine ⟨_, by apply runs_buildSlice H; iterate 10 rfl, ?_⟩; clear H; rintro _ w ⟨b38, rfl, hE, H⟩; clear hE) | ((with_reducible refine wpl_runx ?_ ?_); (focus exact rfl); refine ⟨_, runs_load H 0 rfl rfl rfl rfl rfl, ?_⟩; rintro _ _ ⟨rfl, rfl⟩) | ((with_reducible refine wpl_runx ?_ ?_); (focus exact rfl); refine ⟨_, runs_load H 1 rfl rfl rfl rfl rfl, ?_⟩; rintro _ _ ⟨rfl, rfl⟩) | ((with_reducible refine wpl_runx ?_ ?_); (focus exact rfl); refine ⟨_, runs_load H 2 rfl rfl rfl rfl rfl, ?_⟩; rintro _ _ ⟨rfl, rfl⟩) | ((with_reducible refine wpl_runx ?_ ?_); (focus exact rfl); refine ⟨_, runs_load_cell H rfl rfl rfl rfl, ?_⟩; rintro _ _ ⟨rfl, rfl⟩) | ((with_reducible refine wpl_runx ?_ ?_); (focus exact rfl); refine ⟨_, runs_load_cell0 H rfl rfl rfl rfl, ?_⟩; rintro _ _ ⟨rfl, rfl⟩) | ((with_reducible refine wpl_runx ?_ ?_); (focus exact rfl); refine ⟨_, runs_load_obj H rfl rfl rfl rfl, ?_⟩; rintro _ _ ⟨rfl, rfl⟩) | ((with_reducible refine wpl_runx ?_ ?_); (focus exact rfl); refine ⟨_, runs_store H 0 rfl rfl rfl rfl rfl rfl rfl rfl rfl, ?_⟩; clear H; rintro _ w ⟨rfl, hE, H⟩; clear hE) | ((with_reducible refine wpl_runx ?_ ?_); (focus exact rfl); refine ⟨_, runs_store H 1 rfl rfl rfl rfl rfl rfl rfl rfl rfl, ?_⟩; clear H; rintro _ w ⟨rfl, hE, H⟩; clear hE) | ((with_reducible refine wpl_runx ?_ ?_); (focus exact rfl); refine ⟨_, runs_store H 2 rfl rfl rfl rfl rfl rfl rfl rfl rfl, ?_⟩; clear H; rintro _ w ⟨rfl, hE, H⟩; clear hE) | (go_at_call 11; replace H := (H.perm (List.Perm.swap _ _ _)).sealIC; refine Calls.mono (code_spec_c H ⟨#[112]⟩ 0 r _ _ _ [proI] rfl (by unfold maxLen; simp)) ?_; rw [e1.out]; rintro _ w ⟨rfl, hE⟩; replace H := H.step hE; clear hE) | ((with_reducible refine wpl_callX ?_); refine ⟨rfl, rfl, fun K hK => ?_⟩; go_simp; (first | (go_at_call 11; (with_reducible refine Calls.mono (code_spec_c H _ _ _ _ _ _ _ ?_ ?_) ?_); (focus (first | with_reducible rfl | rfl | simp)); (focus ((first | assumption | (unfold maxLen; omega)))); intro e w h; obtain ⟨rfl, hE⟩ := h; replace H := H.step hE; clear hE) | (go_at_call 9; (with_reducible refine Calls.mono (awakeC_spec_c H ) ?_); intro e w h; obtain ⟨rfl, hE⟩ := h; replace H := H.step hE; clear hE)); refine hK _ _ ?_; clear hK K; (try simp only [Act.put, List.setIfInBounds_toArray, List.set_cons_succ, List.set_cons_zero])) | ((with_reducible refine wpl_pureX ?_); refine ⟨rfl, rfl, ?_⟩; apply Exists.intro; apply And.intro; (focus (intro w; go_simp; (try with_reducible rfl); done)); (try simp only [Act.put, List.setIfInBounds_toArray, List.set_cons_succ, List.set_cons_zero])) | ((fail_if_success ((with_reducible refine wpl_runx ?_ ?_); (focus exact rfl))); ((with_reducible refine wpl_gcaseE ?_); refine ⟨_, rfl, ?_, ?_⟩) <;> (intro hg; first | (simp only [reduceCtorEq] at hg; done) | contradiction | ((with_reducible have hx := eq_of_beq hg); contradiction) | ((with_reducible have hx := ne_of_beq_false hg); contradiction) | ((with_reducible have hx := bne_iff_ne.1 hg); contradiction) | ((with_reducible have hx := bne_eq_false_iff_eq.1 hg); contradiction) | ((with_reducible have hx := of_decide_eq_true hg); first | contradiction | omega) | ((with_reducible have hx := of_decide_eq_false hg); first | contradiction | omega) | (simp only [Bool.not_eq_true', Bool.not_eq_false', beq_iff_eq, beq_eq_false_iff_ne, bne_iff_ne, ne_eq] at hg; contradiction) | (simp only [hg]))))
  replace H := (H.weaken (G := fun _ _ => True) (fun _ => trivial) (Stab.const _)).nilRow 27 11
  go_loopw [26] (fun iv wr => ∃ (j : Nat) (sv : Value) (xs : List Value), j ≤ N ∧ iv = .int .i64 j ∧ St M [] w0 wr [.row sv j xs 27 11, .obj b3 (.cells #[.string ⟨#[112]⟩, .int .i64 0, .int .i64 5, sv] 34 (0, 0))] (fun M w => IsR xs (List.replicate j cutI) M w)) (fun iv _ => N - (intOf iv).toNat)
  case atStart => exact ⟨0, _, [], Nat.zero_le _, rfl, H.weaken (fun _ => IsR.nil _ _) (IsR.stab _ _)⟩
  case round =>
    clear H
    obtain ⟨j, sv, xs, hj, rfl, H⟩ := hrel
    by_cases hlt : j < N
    · have i1 : (j : Int) < (N : Int) := by omega
      go_wp2_with (first | ((with_reducible refine wpl_runx_d 15 rfl ?_ ?_); (focus exact rfl); refine ⟨_, by apply runs_buildSlice H; iterate 10 rfl, ?_⟩; clear H; rintro _ w ⟨b15, rfl, hE, H⟩; clear hE) | ((with_reducible refine wpl_runx_d 3 rfl ?_ ?_); (focus exact rfl); refine ⟨_, runs_alloc H rfl rfl rfl, ?_⟩; clear H; rintro _ w ⟨b3, rfl, hE, H⟩; clear hE) | ((with_reducible refine wpl_runx_d 31 rfl ?_ ?_); (focus exact rfl); refine ⟨_, by apply runs_buildSlice H; iterate 10 rfl, ?_⟩; clear H; rintro _ w ⟨b31, rfl, hE, H⟩; clear hE) | ((with_reducible refine wpl_runx_d 38 rfl ?_ ?_); (focus exact rfl); refine ⟨_, by apply runs_buildSlice H; iterate 10 rfl, ?_⟩; clear H; rintro _ w ⟨b38, rfl, hE, H⟩; clear hE) | ((with_reducible refine wpl_runx ?_ ?_); (focus exact rfl); refine ⟨_, runs_load H 0 rfl rfl rfl rfl rfl, ?_⟩; rintro _ _ ⟨rfl, rfl⟩) | ((with_reducible refine wpl_runx ?_ ?_); (focus exact rfl); refine ⟨_, runs_load H 1 rfl rfl rfl rfl rfl, ?_⟩; rintro _ _ ⟨rfl, rfl⟩) | ((with_reducible refine wpl_runx ?_ ?_); (focus exact rfl); refine ⟨_, runs_load H 2 rfl rfl rfl rfl rfl, ?_⟩; rintro _ _ ⟨rfl, rfl⟩) | ((with_reducible refine wpl_runx ?_ ?_); (focus exact rfl); refine ⟨_, runs_load_cell H rfl rfl rfl rfl, ?_⟩; rintro _ _ ⟨rfl, rfl⟩) | ((with_reducible refine wpl_runx ?_ ?_); (focus exact rfl); refine ⟨_, runs_load_cell0 H rfl rfl rfl rfl, ?_⟩; rintro _ _ ⟨rfl, rfl⟩) | ((with_reducible refine wpl_runx ?_ ?_); (focus exact rfl); refine ⟨_, runs_load_obj H rfl rfl rfl rfl, ?_⟩; rintro _ _ ⟨rfl, rfl⟩) | ((with_reducible refine wpl_runx ?_ ?_); (focus exact rfl); refine ⟨_, runs_store H 0 rfl rfl rfl rfl rfl rfl rfl rfl rfl, ?_⟩; clear H; rintro _ w ⟨rfl, hE, H⟩; clear hE) | ((with_reducible refine wpl_runx ?_ ?_); (focus exact rfl); refine ⟨_, runs_store H 1 rfl rfl rfl rfl rfl rfl rfl rfl rfl, ?_⟩; clear H; rintro _ w ⟨rfl, hE, H⟩; clear hE) | ((with_reducible refine wpl_runx ?_ ?_); (focus exact rfl); refine ⟨_, runs_store H 2 rfl rfl rfl rfl rfl rfl rfl rfl rfl, ?_⟩; clear H; rintro _ w ⟨rfl, hE, H⟩; clear hE) | ((with_reducible refine wpl_runx ?_ ?_); (focus exact rfl); refine ⟨_, runs_append1 H 1 rfl rfl rfl rfl rfl Try.infoI rfl (by decide) 0 rfl rfl rfl (by decide) (by unfold maxLen; omega) (by omega) (fun r => rfl), ?_⟩; clear H; rintro _ w ⟨g', cap', rfl, hE, H⟩; clear hE) | ((with_reducible refine wpl_callX ?_); refine ⟨rfl, rfl, fun K hK => ?_⟩; go_simp; (first | (go_at_call 11; (with_reducible refine Calls.mono (code_spec_c H _ _ _ _ _ _ _ ?_ ?_) ?_); (focus (first | with_reducible rfl | rfl | simp)); (focus ((first | assumption | (unfold maxLen; omega)))); intro e w h; obtain ⟨rfl, hE⟩ := h; replace H := H.step hE; clear hE) | (go_at_call 9; (with_reducible refine Calls.mono (awakeC_spec_c H ) ?_); intro e w h; obtain ⟨rfl, hE⟩ := h; replace H := H.step hE; clear hE)); refine hK _ _ ?_; clear hK K; (try simp only [Act.put, List.setIfInBounds_toArray, List.set_cons_succ, List.set_cons_zero])) | ((with_reducible refine wpl_pureX ?_); refine ⟨rfl, rfl, ?_⟩; apply Exists.intro; apply And.intro; (focus (intro w; go_simp; (try with_reducible rfl); done)); (try simp only [Act.put, List.setIfInBounds_toArray, List.set_cons_succ, List.set_cons_zero])) | ((fail_if_success ((with_reducible refine wpl_runx ?_ ?_); (focus exact rfl))); ((with_reducible refine wpl_gcaseE ?_); refine ⟨_, rfl, ?_, ?_⟩) <;> (intro hg; first | (simp only [reduceCtorEq] at hg; done) | contradiction | ((with_reducible have hx := eq_of_beq hg); contradiction) | ((with_reducible have hx := ne_of_beq_false hg); contradiction) | ((with_reducible have hx := bne_iff_ne.1 hg); contradiction) | ((with_reducible have hx := bne_eq_false_iff_eq.1 hg); contradiction) | ((with_reducible have hx := of_decide_eq_true hg); first | contradiction | omega) | ((with_reducible have hx := of_decide_eq_false hg); first | contradiction | omega) | (simp only [Bool.not_eq_true', Bool.not_eq_false', beq_iff_eq, beq_eq_false_iff_ne, bne_iff_ne, ne_eq] at hg; contradiction) | (simp only [hg]))))
      go_roundw
      case rel => exact ⟨j + 1, _, _, by omega, by go_num, (H.drop 0 rfl).weaken (fun h => isr_cut h) (IsR.stab _ _)⟩
      case measure => simp [intOf]; omega
    · obtain rfl : j = N := by omega
      clear W1 W2 W3 V1 V2 V3 ep' ep2
      rcases hE with ⟨d1, d2, rfl⟩ | ⟨d1, d2, rfl⟩
      all_goals
        go_wp2_with (first | ((with_reducible refine wpl_runx_d 15 rfl ?_ ?_); (focus exact rfl); refine ⟨_, by apply runs_buildSlice H; iterate 10 rfl, ?_⟩; clear H; rintro _ w ⟨b15, rfl, hE, H⟩; clear hE) | ((with_reducible refine wpl_runx_d 3 rfl ?_ ?_); (focus exact rfl); refine ⟨_, runs_alloc H rfl rfl rfl, ?_⟩; clear H; rintro _ w ⟨b3, rfl, hE, H⟩; clear hE) | ((with_reducible refine wpl_runx_d 31 rfl ?_ ?_); (focus exact rfl); refine ⟨_, by apply runs_buildSlice H; iterate 10 rfl, ?_⟩; clear H; rintro _ w ⟨b31, rfl, hE, H⟩; clear hE) | ((with_reducible refine wpl_runx_d 38 rfl ?_ ?_); (focus exact rfl); refine ⟨_, by apply runs_buildSlice H; iterate 10 rfl, ?_⟩; clear H; rintro _ w ⟨b38, rfl, hE, H⟩; clear hE) | ((with_reducible refine wpl_runx ?_ ?_); (focus exact rfl); refine ⟨_, runs_load H 0 rfl rfl rfl rfl rfl, ?_⟩; rintro _ _ ⟨rfl, rfl⟩) | ((with_reducible refine wpl_runx ?_ ?_); (focus exact rfl); refine ⟨_, runs_load H 1 rfl rfl rfl rfl rfl, ?_⟩; rintro _ _ ⟨rfl, rfl⟩) | ((with_reducible refine wpl_runx ?_ ?_); (focus exact rfl); refine ⟨_, runs_load H 2 rfl rfl rfl rfl rfl, ?_⟩; rintro _ _ ⟨rfl, rfl⟩) | ((with_reducible refine wpl_runx ?_ ?_); (focus exact rfl); refine ⟨_, runs_load_cell H rfl rfl rfl rfl, ?_⟩; rintro _ _ ⟨rfl, rfl⟩) | ((with_reducible refine wpl_runx ?_ ?_); (focus exact rfl); refine ⟨_, runs_load_cell0 H rfl rfl rfl rfl, ?_⟩; rintro _ _ ⟨rfl, rfl⟩) | ((with_reducible refine wpl_runx ?_ ?_); (focus exact rfl); refine ⟨_, runs_load_obj H rfl rfl rfl rfl, ?_⟩; rintro _ _ ⟨rfl, rfl⟩) | ((with_reducible refine wpl_runx ?_ ?_); (focus exact rfl); refine ⟨_, runs_store H 0 rfl rfl rfl rfl rfl rfl rfl rfl rfl, ?_⟩; clear H; rintro _ w ⟨rfl, hE, H⟩; clear hE) | ((with_reducible refine wpl_runx ?_ ?_); (focus exact rfl); refine ⟨_, runs_store H 1 rfl rfl rfl rfl rfl rfl rfl rfl rfl, ?_⟩; clear H; rintro _ w ⟨rfl, hE, H⟩; clear hE) | ((with_reducible refine wpl_runx ?_ ?_); (focus exact rfl); refine ⟨_, runs_store H 2 rfl rfl rfl rfl rfl rfl rfl rfl rfl, ?_⟩; clear H; rintro _ w ⟨rfl, hE, H⟩; clear hE) | ((with_reducible refine wpl_runx ?_ ?_); (focus exact rfl); refine ⟨_, runs_append1 H 1 rfl rfl rfl rfl rfl Try.infoI rfl (by decide) 0 rfl rfl rfl (by decide) (by unfold maxLen; omega) (by omega) (fun r => rfl), ?_⟩; clear H; rintro _ w ⟨g', cap', rfl, hE, H⟩; clear hE) | (go_at_call 11; obtain ⟨A9, c9, hv, H⟩ := H.sealI 1 (l := List.replicate j cutI ++ [proI]) rfl (fun M w h => IsR.snoc (x := proI) (A := none) (c := 0) h (AR.nil _ _ _ _)); simp only [Value.slice.injEq] at hv; obtain ⟨rfl, hlen, rfl⟩ := hv; refine Calls.mono (code_spec_c H ⟨#[112]⟩ 0 5 _ _ _ (List.replicate j cutI ++ [proI]) hlen (by unfold maxLen; simp; omega)) ?_; rw [e2.out]; rintro _ w ⟨rfl, hE2⟩; replace H := H.step hE2; clear hE2 hlen) | ((with_reducible refine wpl_callX ?_); refine ⟨rfl, rfl, fun K hK => ?_⟩; go_simp; (first | (go_at_call 11; (with_reducible refine Calls.mono (code_spec_c H _ _ _ _ _ _ _ ?_ ?_) ?_); (focus (first | with_reducible rfl | rfl | simp)); (focus ((first | assumption | (unfold maxLen; omega)))); intro e w h; obtain ⟨rfl, hE⟩ := h; replace H := H.step hE; clear hE) | (go_at_call 9; (with_reducible refine Calls.mono (awakeC_spec_c H ) ?_); intro e w h; obtain ⟨rfl, hE⟩ := h; replace H := H.step hE; clear hE)); refine hK _ _ ?_; clear hK K; (try simp only [Act.put, List.setIfInBounds_toArray, List.set_cons_succ, List.set_cons_zero])) | ((with_reducible refine wpl_pureX ?_); refine ⟨rfl, rfl, ?_⟩; apply Exists.intro; apply And.intro; (focus (intro w; go_simp; (try with_reducible rfl); done)); (try simp only [Act.put, List.setIfInBounds_toArray, List.set_cons_succ, List.set_cons_zero])) | ((fail_if_success ((with_reducible refine wpl_runx ?_ ?_); (focus exact rfl))); ((with_reducible refine wpl_gcaseE ?_); refine ⟨_, rfl, ?_, ?_⟩) <;> (intro hg; first | (simp only [reduceCtorEq] at hg; done) | contradiction | ((with_reducible have hx := eq_of_beq hg); contradiction) | ((with_reducible have hx := ne_of_beq_false hg); contradiction) | ((with_reducible have hx := bne_iff_ne.1 hg); contradiction) | ((with_reducible have hx := bne_eq_false_iff_eq.1 hg); contradiction) | ((with_reducible have hx := of_decide_eq_true hg); first | contradiction | omega) | ((with_reducible have hx := of_decide_eq_false hg); first | contradiction | omega) | (simp only [Bool.not_eq_true', Bool.not_eq_false', beq_iff_eq, beq_eq_false_iff_ne, bne_iff_ne, ne_eq] at hg; contradiction) | (simp only [hg]))))
        all_goals
          go_ret
          refine ⟨?_, H.ext⟩
          clear H
          go_tidy
          first | rfl | (simp only [Tm.zero, *, Tm.eta, Bool.false_eq_true, reduceIte, Bool.and_self, Bool.true_and, Bool.and_true, Bool.false_and, Bool.and_false, Bool.true_or, Bool.or_true, Bool.false_or, Bool.or_false, Bool.not_true, Bool.not_false, bne]; done) | (simp [Tm.zero, Tm.eta, *]; done) | (simp_all [Tm.zero, Tm.eta]; done) | (simp_all [Tm.zero, Tm.eta]; omega)
theorem lawmany_spec (n : Int) (W : World) : Calls Try.prog 4 #[.int .i64 n] W (RetV W (.bool true)) := many_spec n [] W (by simp)
end Go.Proofs.Ytgopldabdheehaa
