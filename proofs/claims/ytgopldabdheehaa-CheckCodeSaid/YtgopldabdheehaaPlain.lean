/- Walks: May, Nodes, Depth, Plain. -/
import Derived.Test.YtgopldabdheehaaWalk
import Derived.Test.YtgopldabdheehaaTurn
namespace Go.Proofs.Ytgopldabdheehaa
open Go.RowKit
set_option linter.unusedVariables false
set_option linter.unusedSimpArgs false
set_option maxRecDepth 20000
set_option maxHeartbeats 1000000

/-- Nothing. -/
def nilR : Res := .abs [] (fun _ => True) (fun _ _ _ h => h) (fun _ _ _ hb => by cases hb)

theorem walk_nil (t : Tm) (A : Option Addr) (c : Nat) (w0 : World) (hA : AR A c t.args [] w0) :
    Calls Try.prog 49 #[.agg #[.int .i64 t.kind, .string t.name, .int .i64 t.int, .int .u64 t.re, .int .u64 t.im, .slice A t.args.length c], .nilFunc] w0 (RetV w0 (.tuple #[.int .i64 (nodesE t), .int .i64 (depthE t), .int .i64 (mayE t)])) := by
  refine (walk_spec (σ := Unit) (fun _ _ => True) .nilFunc (fun x _ => x) (fun _ r => r = nilR) (fun _ => 0) ⟨Stab.const _, fun _ _ => Nat.zero_le _, .inl ⟨rfl, fun _ _ => rfl⟩⟩ t A c () nilR rfl rfl List.nodup_nil [] w0 (by simp) trivial hA trivial).mono ?_
  rintro e w ⟨n, d, er, x, r, rfl, h, _, H⟩
  refine ⟨?_, H.ext⟩
  rcases h with ⟨h, rfl⟩ | ⟨h, _, rfl, rfl⟩
  · simp only [nodesE, depthE, mayE, chk0, h]
  · simp only [nodesE, depthE, mayE, chk0, h]

theorem may_spec (t : Tm) (A : Option Addr) (c : Nat) (w0 : World) (hA : AR A c t.args [] w0) :
    Calls Try.prog 39 #[.agg #[.int .i64 t.kind, .string t.name, .int .i64 t.int, .int .u64 t.re, .int .u64 t.im, .slice A t.args.length c]] w0 (RetV w0 (.int .i64 (mayE t))) := by
  have H := St.start (M := []) (by simp) (AR.stab A c t.args) hA
  clear hA
  go_enter Try.func39, Try.ntmps39
  go_wp2_with (first | ((with_reducible refine wpl_runx_d 1 rfl ?_ ?_); (focus exact rfl); refine ⟨_, runs_box H rfl rfl, ?_⟩; clear H; rintro _ w ⟨b1, rfl, hE, H⟩; clear hE) | ((with_reducible refine wpl_runx ?_ ?_); (focus exact rfl); refine ⟨_, runs_load H 0 rfl rfl rfl rfl rfl, ?_⟩; rintro _ _ ⟨rfl, rfl⟩) | ((with_reducible refine wpl_runx ?_ ?_); (focus exact rfl); refine ⟨_, runs_store H 0 rfl rfl rfl rfl rfl rfl rfl rfl rfl, ?_⟩; clear H; rintro _ w ⟨rfl, hE, H⟩; clear hE) | (refine (walk_nil t A c _ H.out).mono ?_; rintro _ w ⟨rfl, hE⟩; replace H := H.step hE; clear hE))
  go_ret
  exact ⟨rfl, H.ext⟩



end Go.Proofs.Ytgopldabdheehaa
