/- Walks: May, Nodes of the reference. -/
import Derived.Test.YtgopldabdheehaaRMay
import Derived.Test.YtgopldabdheehaaPlain
namespace Go.Proofs.Ytgopldabdheehaa
open Go.RowKit
set_option linter.unusedVariables false
set_option linter.unusedSimpArgs false
set_option maxRecDepth 20000
set_option maxHeartbeats 1000000

theorem RMay.e {t : Tm} {n' e' : Int} (h : if (0 : Int) = 0 then (match mayS t 1 0 with | .error x => e' = x ∧ x ≠ 0 | .ok k => e' = 0 ∧ n' = k) else e' = 0 ∧ n' = 0) : e' = mayE t ∧ (mayE t = 0 → n' = nodesE t) := by
  rw [mayE_S, nodesE_S]
  rw [if_pos rfl] at h
  cases hm : mayS t 1 0 with
  | error x => simp only [hm] at h ⊢; exact ⟨h.1, fun k => absurd k h.2⟩
  | ok x => simp only [hm] at h ⊢; exact ⟨h.1, fun _ => h.2⟩

theorem rMay_spec (t : Tm) (A : Option Addr) (c : Nat) (w0 : World) (hs : slim t) (hA : AR A c t.args [] w0) :
    Calls Try.prog 29 #[.agg #[.int .i64 t.kind, .string t.name, .int .i64 t.int, .int .u64 t.re, .int .u64 t.im, .slice A t.args.length c]] w0 (RetV w0 (.int .i64 (mayE t))) := by
  have H := St.start (M := []) (by simp) (AR.stab A c t.args) hA
  clear hA
  go_enter Try.func29, Try.ntmps29
  go_wp2_with (first | ((with_reducible refine wpl_runx_d 1 rfl ?_ ?_); (focus exact rfl); refine ⟨_, runs_box H rfl rfl, ?_⟩; clear H; rintro _ w ⟨b1, rfl, hE, H⟩; clear hE) | ((with_reducible refine wpl_runx_d 5 rfl ?_ ?_); (focus exact rfl); refine ⟨_, runs_box H rfl rfl, ?_⟩; clear H; rintro _ w ⟨b5, rfl, hE, H⟩; clear hE) | ((with_reducible refine wpl_runx ?_ ?_); (focus exact rfl); refine ⟨_, runs_load H 0 rfl rfl rfl rfl rfl, ?_⟩; rintro _ _ ⟨rfl, rfl⟩) | ((with_reducible refine wpl_runx ?_ ?_); (focus exact rfl); refine ⟨_, runs_load H 1 rfl rfl rfl rfl rfl, ?_⟩; rintro _ _ ⟨rfl, rfl⟩) | ((with_reducible refine wpl_runx ?_ ?_); (focus exact rfl); refine ⟨_, runs_store H 0 rfl rfl rfl rfl rfl rfl rfl rfl rfl, ?_⟩; clear H; rintro _ w ⟨rfl, hE, H⟩; clear hE) | ((with_reducible refine wpl_runx ?_ ?_); (focus exact rfl); refine ⟨_, runs_store H 1 rfl rfl rfl rfl rfl rfl rfl rfl rfl, ?_⟩; clear H; rintro _ w ⟨rfl, hE, H⟩; clear hE) | (refine (rmay_spec t A c 1 0 0 b5 _ _ hs (by omega) (by omega) (by omega) (by omega) (by omega) (H.restLt 0 rfl) (H.get (k := 0) rfl) (H.rest (k := 0) rfl)).mono ?_; rintro _ w ⟨n2, e2, hn20, hn21, hne2, hS2, h⟩; replace H := H.call 0 rfl h (fun r => rfl); clear h; obtain ⟨rfl, hS3⟩ := RMay.e hS2; clear hS2))
  go_ret
  exact ⟨rfl, H.ext⟩

end Go.Proofs.Ytgopldabdheehaa
