/- Walk: NormJoins. -/
import Derived.Test.YtdjbbafdepdglaaNorm7
import Derived.Test.YtdjbbafdepdglaaNorm4
import Derived.Test.YtdjbbafdepdglaaItems0
import Derived.Test.YtdjbbafdepdglaaOpen
namespace Go.Proofs.Ytdjbbafdepdglaa
open Go.RowKit
set_option linter.unusedVariables false
set_option linter.unusedSimpArgs false
set_option maxRecDepth 20000
set_option maxHeartbeats 4000000

theorem Equal_join (l : List Tm) : EqualE (joinE l) (joinE l) = true := by
  unfold joinE
  split
  · kernel_rfl
  · split
    · kernel_rfl
    · exact Equal_plain _
theorem slimA_join (l : List Tm) : slimA (joinE l) := by
  unfold joinE
  split
  · simp [slimA, slimAL]
  · split
    · simp [Tm.zero, slimA, slimAL]
    · exact slimA_plain _
attribute [local irreducible] mayE nodesE depthE plainE renameE varsE EqualE LightE rSameE turnT joinE rJoinE

theorem njoins_spec (Al : Option Addr) (cl : Nat) (l : List Tm) (M : List Nat) (w0 : World) (hM : ∀ b ∈ M, b < w0.heap.size) (hl : AR Al cl l M w0) (pre0 : List.length l ≤ maxLen) : Calls Try.prog 9 #[.slice Al l.length cl] w0 (RetV w0 (.bool true)) := by
  have H := St.start hM (AR.stab Al cl l) hl
  clear hl
  by_cases h40 : 40 < l.length
  case' pos =>
    have g1 : decide ((40 : Int) < (l.length : Int)) = true := by simp; omega
    have g2 : decide (40 < l.length) = true := by simp; omega
  case' neg =>
    have g1 : decide ((40 : Int) < (l.length : Int)) = false := by simp; omega
    have g2 : decide (40 < l.length) = false := by simp; omega
    cases hL : LightE l 0 4000
    case' neg.false =>
      skip
    case' neg.true =>
      have hsx : ∀ x ∈ l, slimA x := Light_slimA _ _ _ hL
      have s1 := slimA_join l
      have s2 : slimA (rJoinE l) := by rw [← join_eq]; exact s1
      have e1 : EqualE (joinE l) (rJoinE l) = true := by rw [← join_eq]; exact Equal_join l
  all_goals
    go_enter Try.func9, Try.ntmps9
    go_wp2_with (first | ((with_reducible refine wpl_runx ?_ ?_); (focus exact rfl); refine ⟨_, runs_load H 0 rfl rfl rfl rfl rfl, ?_⟩; rintro _ _ ⟨rfl, rfl⟩) | ((with_reducible refine wpl_runx ?_ ?_); (focus exact rfl); refine ⟨_, runs_load H 1 rfl rfl rfl rfl rfl, ?_⟩; rintro _ _ ⟨rfl, rfl⟩) | ((with_reducible refine wpl_runx ?_ ?_); (focus exact rfl); refine ⟨_, runs_load H 2 rfl rfl rfl rfl rfl, ?_⟩; rintro _ _ ⟨rfl, rfl⟩) | ((with_reducible refine wpl_runx ?_ ?_); (focus exact rfl); refine ⟨_, runs_load_cell H rfl rfl rfl rfl, ?_⟩; rintro _ _ ⟨rfl, rfl⟩) | ((with_reducible refine wpl_runx ?_ ?_); (focus exact rfl); refine ⟨_, runs_load_cell0 H rfl rfl rfl rfl, ?_⟩; rintro _ _ ⟨rfl, rfl⟩) | ((with_reducible refine wpl_runx ?_ ?_); (focus exact rfl); refine ⟨_, runs_load_obj H rfl rfl rfl rfl, ?_⟩; rintro _ _ ⟨rfl, rfl⟩) | ((with_reducible refine wpl_runx ?_ ?_); (focus exact rfl); refine ⟨_, runs_store H 0 rfl rfl rfl rfl rfl rfl rfl rfl rfl, ?_⟩; clear H; rintro _ w ⟨rfl, hE, H⟩; clear hE) | ((with_reducible refine wpl_runx ?_ ?_); (focus exact rfl); refine ⟨_, runs_store H 1 rfl rfl rfl rfl rfl rfl rfl rfl rfl, ?_⟩; clear H; rintro _ w ⟨rfl, hE, H⟩; clear hE) | ((with_reducible refine wpl_runx ?_ ?_); (focus exact rfl); refine ⟨_, runs_store H 2 rfl rfl rfl rfl rfl rfl rfl rfl rfl, ?_⟩; clear H; rintro _ w ⟨rfl, hE, H⟩; clear hE) | ((with_reducible refine wpl_callX ?_); refine ⟨rfl, rfl, fun K hK => ?_⟩; go_simp; (first | (go_at_call 20; (with_reducible refine Calls.mono (Light_c H _ _ _ _ ?_ ?_) ?_); (focus (first | with_reducible rfl | rfl | simp)); (focus (first | assumption | (simp [maxLen]; done) | (unfold maxLen; omega))); intro e w h; obtain ⟨rfl, hE⟩ := h; replace H := H.step hE; clear hE) | (go_at_call 35; (with_reducible refine Calls.mono (awake15_spec_c H ) ?_); intro e w h; obtain ⟨rfl, hE⟩ := h; replace H := H.step hE; clear hE) | (go_at_call 36; (with_reducible refine Calls.mono (join_spec_c H _ _ _ _ ?_ ?_) ?_); (focus (first | with_reducible rfl | rfl | simp)); (focus (first | assumption | (unfold maxLen; omega))); intro e w h; obtain ⟨A_36, c_36, rfl, hA, hE⟩ := h; replace H := (H.step hE).add hA (AR.stab _ _ _); clear hE hA) | (go_at_call 37; (with_reducible refine Calls.mono (rjoin_spec_c H _ _ _ _ ?_ ?_ ?_) ?_); (focus (first | with_reducible rfl | rfl | simp)); (focus (omega)); (focus (assumption)); intro e w h; obtain ⟨A_37, c_37, rfl, hA, hE⟩ := h; replace H := (H.step hE).add hA (AR.stab _ _ _); clear hE hA) | (go_at_call 32; (with_reducible refine Calls.mono (Equal_c H _ _ _ _ _ _ _ _ _ _ _ _ _ _ _ _ _ _ ?_ ?_ ?_ ?_) ?_); (focus (first | with_reducible rfl | rfl | simp)); (focus (first | with_reducible rfl | rfl | simp)); (focus ((try simp only [Tm.eta]); (first | assumption | (apply slim_of_slimA; assumption) | exact slimA_plain _ | exact slimA_rename _ | exact slim_plain _ | exact slim_rename _ | exact slimA_var _ | exact slimA_more _ _ | exact slimA_rmore _ _ | exact slimA_expand _ _ | exact slimA_rexpand _ _ | (simp [slim, slimL, slimA, slimAL]; done)))); (focus ((try simp only [Tm.eta]); (first | assumption | (apply slim_of_slimA; assumption) | exact slimA_plain _ | exact slimA_rename _ | exact slim_plain _ | exact slim_rename _ | exact slimA_var _ | exact slimA_more _ _ | exact slimA_rmore _ _ | exact slimA_expand _ _ | exact slimA_rexpand _ _ | (simp [slim, slimL, slimA, slimAL]; done)))); intro e w h; (try simp only [Tm.eta] at h); obtain ⟨rfl, hE⟩ := h; replace H := H.step hE; clear hE)); refine hK _ _ ?_; clear hK K; (try simp only [Act.put, List.setIfInBounds_toArray, List.set_cons_succ, List.set_cons_zero])) | ((with_reducible refine wpl_pureX ?_); refine ⟨rfl, rfl, ?_⟩; apply Exists.intro; apply And.intro; (focus (intro w; go_simp; (try with_reducible rfl); done)); (try simp only [Act.put, List.setIfInBounds_toArray, List.set_cons_succ, List.set_cons_zero])) | ((fail_if_success ((with_reducible refine wpl_runx ?_ ?_); (focus exact rfl))); ((with_reducible refine wpl_gcaseE ?_); refine ⟨_, rfl, ?_, ?_⟩) <;> (intro hg; first | (simp only [reduceCtorEq] at hg; done) | contradiction | ((with_reducible have hx := eq_of_beq hg); contradiction) | ((with_reducible have hx := ne_of_beq_false hg); contradiction) | ((with_reducible have hx := bne_iff_ne.1 hg); contradiction) | ((with_reducible have hx := bne_eq_false_iff_eq.1 hg); contradiction) | ((with_reducible have hx := of_decide_eq_true hg); first | contradiction | omega) | ((with_reducible have hx := of_decide_eq_false hg); first | contradiction | omega) | (simp only [Bool.not_eq_true', Bool.not_eq_false', beq_iff_eq, beq_eq_false_iff_ne, bne_iff_ne, ne_eq] at hg; contradiction) | (simp only [hg]))))
    all_goals
      go_ret
      refine ⟨?_, H.ext⟩
      clear H
      go_tidy
      first | rfl | (simp only [Tm.zero, *, Tm.eta, Bool.false_eq_true, reduceIte, Bool.and_self, Bool.true_and, Bool.and_true, Bool.false_and, Bool.and_false, Bool.true_or, Bool.or_true, Bool.false_or, Bool.or_false, Bool.not_true, Bool.not_false, bne]; done) | (simp [Tm.zero, Tm.eta, *]; done) | (simp_all [Tm.zero, Tm.eta]; done) | (simp_all [Tm.zero, Tm.eta]; omega)
theorem lawnjoins_spec (A : Option Addr) (c : Nat) (l : List Tm) (W : World) (hA : AR A c l [] W) (hl : l.length ≤ maxLen) (hw : wfL l) :
    Calls Try.prog 9 #[.slice A l.length c] W (RetV W (.bool true)) := njoins_spec A c l [] W (by simp) hA hl
end Go.Proofs.Ytdjbbafdepdglaa
