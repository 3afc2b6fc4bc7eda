/- Walks: what makes a term; one node's own faults. -/
import Derived.Test.YtgopldabdheehaaTm
namespace Go.Proofs.Ytgopldabdheehaa
open Go.RowKit
set_option linter.unusedVariables false
set_option linter.unusedSimpArgs false
set_option maxRecDepth 20000
set_option maxHeartbeats 1000000




/-- The answer of a call that leaves all as it was but for new blocks. -/
def RetV (w : World) (v : Value) (e : Ending) (w' : World) : Prop := e = .returned v ∧ Ext [] w w'

theorem one_spec (t : Tm) (A : Option Addr) (c : Nat) (w0 : World) :
    Calls Try.prog 53 #[.agg #[.int .i64 t.kind, .string t.name, .int .i64 t.int, .int .u64 t.re, .int .u64 t.im, .slice A t.args.length c]] w0 (RetV w0 (.int .i64 (oneE t))) := by
  cases t with
  | mk k s n r i l =>
    simp only [Tm.kind, Tm.name, Tm.int, Tm.re, Tm.im, Tm.args]
    have H := St.start (M := []) (w := w0) (F := fun _ _ => True) (by simp) (Stab.const True) trivial
    by_cases h1 : k = 1
    · subst h1
      by_cases h2 : n < 0
      all_goals
        go_enter Try.func53, Try.ntmps53
        go_wp2_with (first | ((with_reducible refine wpl_runx_d 1 rfl ?_ ?_); (focus exact rfl); refine ⟨_, runs_box H rfl rfl, ?_⟩; clear H; rintro _ w ⟨b1, rfl, hE, H⟩; clear hE) | ((with_reducible refine wpl_runx ?_ ?_); (focus exact rfl); refine ⟨_, runs_load H 0 rfl rfl rfl rfl rfl, ?_⟩; rintro _ _ ⟨rfl, rfl⟩) | ((with_reducible refine wpl_runx ?_ ?_); (focus exact rfl); refine ⟨_, runs_store H 0 rfl rfl rfl rfl rfl rfl rfl rfl rfl, ?_⟩; clear H; rintro _ w ⟨rfl, hE, H⟩; clear hE))
        go_ret
        exact ⟨by simp [oneE, h2], H.ext⟩
    by_cases h2 : k = 2
    · subst h2
      by_cases h3 : 200 < s.size
      all_goals
        go_enter Try.func53, Try.ntmps53
        go_wp2_with (first | ((with_reducible refine wpl_runx_d 1 rfl ?_ ?_); (focus exact rfl); refine ⟨_, runs_box H rfl rfl, ?_⟩; clear H; rintro _ w ⟨b1, rfl, hE, H⟩; clear hE) | ((with_reducible refine wpl_runx ?_ ?_); (focus exact rfl); refine ⟨_, runs_load H 0 rfl rfl rfl rfl rfl, ?_⟩; rintro _ _ ⟨rfl, rfl⟩) | ((with_reducible refine wpl_runx ?_ ?_); (focus exact rfl); refine ⟨_, runs_store H 0 rfl rfl rfl rfl rfl rfl rfl rfl rfl, ?_⟩; clear H; rintro _ w ⟨rfl, hE, H⟩; clear hE))
        go_ret
        exact ⟨by simp [oneE, h3], H.ext⟩
    by_cases h5 : k = 5
    · subst h5
      by_cases h3 : l.length = 0
      · have : l = [] := List.eq_nil_of_length_eq_zero h3
        subst this
        go_enter Try.func53, Try.ntmps53
        go_wp2_with (first | ((with_reducible refine wpl_runx_d 1 rfl ?_ ?_); (focus exact rfl); refine ⟨_, runs_box H rfl rfl, ?_⟩; clear H; rintro _ w ⟨b1, rfl, hE, H⟩; clear hE) | ((with_reducible refine wpl_runx ?_ ?_); (focus exact rfl); refine ⟨_, runs_load H 0 rfl rfl rfl rfl rfl, ?_⟩; rintro _ _ ⟨rfl, rfl⟩) | ((with_reducible refine wpl_runx ?_ ?_); (focus exact rfl); refine ⟨_, runs_store H 0 rfl rfl rfl rfl rfl rfl rfl rfl rfl, ?_⟩; clear H; rintro _ w ⟨rfl, hE, H⟩; clear hE))
        go_ret
        exact ⟨by simp [oneE], H.ext⟩
      have h3' : ((l.length : Int) == 0) = false := by simp; intro h; simp [h] at h3
      by_cases h4 : 200 < s.size
      · go_enter Try.func53, Try.ntmps53
        go_wp2_with (first | ((with_reducible refine wpl_runx_d 1 rfl ?_ ?_); (focus exact rfl); refine ⟨_, runs_box H rfl rfl, ?_⟩; clear H; rintro _ w ⟨b1, rfl, hE, H⟩; clear hE) | ((with_reducible refine wpl_runx ?_ ?_); (focus exact rfl); refine ⟨_, runs_load H 0 rfl rfl rfl rfl rfl, ?_⟩; rintro _ _ ⟨rfl, rfl⟩) | ((with_reducible refine wpl_runx ?_ ?_); (focus exact rfl); refine ⟨_, runs_store H 0 rfl rfl rfl rfl rfl rfl rfl rfl rfl, ?_⟩; clear H; rintro _ w ⟨rfl, hE, H⟩; clear hE))
        go_ret
        exact ⟨by simp [oneE, h3, h4], H.ext⟩
      by_cases h6 : 20 < l.length
      all_goals
        go_enter Try.func53, Try.ntmps53
        go_wp2_with (first | ((with_reducible refine wpl_runx_d 1 rfl ?_ ?_); (focus exact rfl); refine ⟨_, runs_box H rfl rfl, ?_⟩; clear H; rintro _ w ⟨b1, rfl, hE, H⟩; clear hE) | ((with_reducible refine wpl_runx ?_ ?_); (focus exact rfl); refine ⟨_, runs_load H 0 rfl rfl rfl rfl rfl, ?_⟩; rintro _ _ ⟨rfl, rfl⟩) | ((with_reducible refine wpl_runx ?_ ?_); (focus exact rfl); refine ⟨_, runs_store H 0 rfl rfl rfl rfl rfl rfl rfl rfl rfl, ?_⟩; clear H; rintro _ w ⟨rfl, hE, H⟩; clear hE))
        go_ret
        exact ⟨by simp [oneE, h3, h4, h6], H.ext⟩
    have e1 : (k == 1) = false := by simpa using h1
    have e2 : (k == 2) = false := by simpa using h2
    have e5 : (k == 5) = false := by simpa using h5
    by_cases h3 : k = 3
    · subst h3
      go_enter Try.func53, Try.ntmps53
      go_wp2_with (first | ((with_reducible refine wpl_runx_d 1 rfl ?_ ?_); (focus exact rfl); refine ⟨_, runs_box H rfl rfl, ?_⟩; clear H; rintro _ w ⟨b1, rfl, hE, H⟩; clear hE) | ((with_reducible refine wpl_runx ?_ ?_); (focus exact rfl); refine ⟨_, runs_load H 0 rfl rfl rfl rfl rfl, ?_⟩; rintro _ _ ⟨rfl, rfl⟩) | ((with_reducible refine wpl_runx ?_ ?_); (focus exact rfl); refine ⟨_, runs_store H 0 rfl rfl rfl rfl rfl rfl rfl rfl rfl, ?_⟩; clear H; rintro _ w ⟨rfl, hE, H⟩; clear hE))
      go_ret
      exact ⟨by simp [oneE], H.ext⟩
    by_cases h4 : k = 4
    · subst h4
      go_enter Try.func53, Try.ntmps53
      go_wp2_with (first | ((with_reducible refine wpl_runx_d 1 rfl ?_ ?_); (focus exact rfl); refine ⟨_, runs_box H rfl rfl, ?_⟩; clear H; rintro _ w ⟨b1, rfl, hE, H⟩; clear hE) | ((with_reducible refine wpl_runx ?_ ?_); (focus exact rfl); refine ⟨_, runs_load H 0 rfl rfl rfl rfl rfl, ?_⟩; rintro _ _ ⟨rfl, rfl⟩) | ((with_reducible refine wpl_runx ?_ ?_); (focus exact rfl); refine ⟨_, runs_store H 0 rfl rfl rfl rfl rfl rfl rfl rfl rfl, ?_⟩; clear H; rintro _ w ⟨rfl, hE, H⟩; clear hE))
      go_ret
      exact ⟨by simp [oneE], H.ext⟩
    have e3 : (k == 3) = false := by simpa using h3
    have e4 : (k == 4) = false := by simpa using h4
    go_enter Try.func53, Try.ntmps53
    go_wp2_with (first | ((with_reducible refine wpl_runx_d 1 rfl ?_ ?_); (focus exact rfl); refine ⟨_, runs_box H rfl rfl, ?_⟩; clear H; rintro _ w ⟨b1, rfl, hE, H⟩; clear hE) | ((with_reducible refine wpl_runx ?_ ?_); (focus exact rfl); refine ⟨_, runs_load H 0 rfl rfl rfl rfl rfl, ?_⟩; rintro _ _ ⟨rfl, rfl⟩) | ((with_reducible refine wpl_runx ?_ ?_); (focus exact rfl); refine ⟨_, runs_store H 0 rfl rfl rfl rfl rfl rfl rfl rfl rfl, ?_⟩; clear H; rintro _ w ⟨rfl, hE, H⟩; clear hE))
    go_ret
    exact ⟨by simp [oneE, h1, h2, h3, h4, h5], H.ext⟩
end Go.Proofs.Ytgopldabdheehaa
