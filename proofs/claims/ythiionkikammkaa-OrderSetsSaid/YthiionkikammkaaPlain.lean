/- Walks: May, Nodes, Depth, Plain. -/
import Derived.Test.YthiionkikammkaaWalk
import Derived.Test.YthiionkikammkaaTurn
namespace Go.Proofs.Ythiionkikammkaa
open Go.RowKit
set_option linter.unusedVariables false
set_option linter.unusedSimpArgs false
set_option maxRecDepth 20000
set_option maxHeartbeats 1000000

/-- Nothing. -/
def nilR : Res := .abs [] (fun _ => True) (fun _ _ _ h => h) (fun _ _ _ hb => by cases hb)

theorem walk_nil (t : Tm) (A : Option Addr) (c : Nat) (w0 : World) (hA : AR A c t.args [] w0) :
    Calls Try.prog 54 #[.agg #[.int .i64 t.kind, .string t.name, .int .i64 t.int, .int .u64 t.re, .int .u64 t.im, .slice A t.args.length c], .nilFunc] w0 (RetV w0 (.tuple #[.int .i64 (nodesE t), .int .i64 (depthE t), .int .i64 (mayE t)])) := by
  refine (walk_spec (σ := Unit) (fun _ _ => True) .nilFunc (fun x _ => x) (fun _ r => r = nilR) (fun _ => 0) ⟨Stab.const _, fun _ _ => Nat.zero_le _, .inl ⟨rfl, fun _ _ => rfl⟩⟩ t A c () nilR rfl rfl List.nodup_nil [] w0 (by simp) trivial hA trivial).mono ?_
  rintro e w ⟨n, d, er, x, r, rfl, h, _, H⟩
  refine ⟨?_, H.ext⟩
  rcases h with ⟨h, rfl⟩ | ⟨h, _, rfl, rfl⟩
  · simp only [nodesE, depthE, mayE, chk0, h]
  · simp only [nodesE, depthE, mayE, chk0, h]

theorem may_spec (t : Tm) (A : Option Addr) (c : Nat) (w0 : World) (hA : AR A c t.args [] w0) :
    Calls Try.prog 39 #[.agg #[.int .i64 t.kind, .string t.name, .int .i64 t.int, .int .u64 t.re, .int .u64 t.im, .slice A t.args.length c]] w0 (RetV w0 (.int .i64 (mayE t))) := by
  have H := St.start (M := []) (by simp) (AR.stab A c t.args) hA
  clear hA
  go_enter Try.func39, Try.ntmps39
  go_wp2_with (first | ((with_reducible refine wpl_runx_d 1 rfl ?_ ?_); (focus exact rfl); refine ⟨_, runs_box H rfl rfl, ?_⟩; clear H; rintro _ w ⟨b1, rfl, hE, H⟩; clear hE) | ((with_reducible refine wpl_runx ?_ ?_); (focus exact rfl); refine ⟨_, runs_load H 0 rfl rfl rfl rfl rfl, ?_⟩; rintro _ _ ⟨rfl, rfl⟩) | ((with_reducible refine wpl_runx ?_ ?_); (focus exact rfl); refine ⟨_, runs_store H 0 rfl rfl rfl rfl rfl rfl rfl rfl rfl, ?_⟩; clear H; rintro _ w ⟨rfl, hE, H⟩; clear hE) | (refine (walk_nil t A c _ H.out).mono ?_; rintro _ w ⟨rfl, hE⟩; replace H := H.step hE; clear hE))
  go_ret
  exact ⟨rfl, H.ext⟩


theorem variable_fn : FnT (fun _ _ => True) 52 #[] varT :=
  ⟨fun _ _ => rfl, Stab.const _, fun n M w hM _ => variable_spec n M w hM⟩

theorem plain_spec (t : Tm) (A : Option Addr) (c : Nat) (M : List Nat) (w0 : World) (hM : ∀ b ∈ M, b < w0.heap.size) (hA : AR A c t.args M w0) :
    Calls Try.prog 34 #[.agg #[.int .i64 t.kind, .string t.name, .int .i64 t.int, .int .u64 t.re, .int .u64 t.im, .slice A t.args.length c]] w0 (RetT M w0 (plainE t)) := by
  have H := St.start hM (AR.stab A c t.args) hA
  clear hA
  by_cases h : mayE t = 0
  · have e1 : (mayE t == 0) = true := by simpa using h
    go_enter Try.func34, Try.ntmps34
    go_wp2_with (first | ((with_reducible refine wpl_runx_d 1 rfl ?_ ?_); (focus exact rfl); refine ⟨_, runs_box H rfl rfl, ?_⟩; clear H; rintro _ w ⟨b1, rfl, hE, H⟩; clear hE) | ((with_reducible refine wpl_runx_d 2 rfl ?_ ?_); (focus exact rfl); refine ⟨_, runs_alloc H rfl rfl rfl, ?_⟩; clear H; rintro _ w ⟨b2, rfl, hE, H⟩; clear hE) | ((with_reducible refine wpl_runx ?_ ?_); (focus exact rfl); refine ⟨_, runs_load H 0 rfl rfl rfl rfl rfl, ?_⟩; rintro _ _ ⟨rfl, rfl⟩) | ((with_reducible refine wpl_runx ?_ ?_); (focus exact rfl); refine ⟨_, runs_load H 1 rfl rfl rfl rfl rfl, ?_⟩; rintro _ _ ⟨rfl, rfl⟩) | ((with_reducible refine wpl_runx ?_ ?_); (focus exact rfl); refine ⟨_, runs_store H 0 rfl rfl rfl rfl rfl rfl rfl rfl rfl, ?_⟩; clear H; rintro _ w ⟨rfl, hE, H⟩; clear hE) | ((with_reducible refine wpl_runx ?_ ?_); (focus exact rfl); refine ⟨_, runs_store H 1 rfl rfl rfl rfl rfl rfl rfl rfl rfl, ?_⟩; clear H; rintro _ w ⟨rfl, hE, H⟩; clear hE) | (refine (may_spec t A c _ ((AR.stab _ _ _).sub _ [] _ (fun _ h => by cases h) H.out)).mono ?_; rintro _ w ⟨rfl, hE⟩; replace H := H.step hE; clear hE) | (refine (turn_any _ _ _ _ variable_fn t _ _ A c H.ltAll H.fact (mayE_slim h) trivial).mono ?_; rintro _ w ⟨A2, c2, rfl, hA2, hE⟩; replace H := (H.step hE).add hA2 (AR.stab _ _ _); clear hE hA2))
    refine (ret_cell H 0 rfl rfl rfl rfl rfl rfl ?_).1
    rw [show plainE t = turnT varT t by simp [plainE, h]]
    exact ⟨_, _, rfl, H.out.2, H.ext⟩
  · have e1 : (mayE t == 0) = false := by simpa using h
    go_enter Try.func34, Try.ntmps34
    go_wp2_with (first | ((with_reducible refine wpl_runx_d 1 rfl ?_ ?_); (focus exact rfl); refine ⟨_, runs_box H rfl rfl, ?_⟩; clear H; rintro _ w ⟨b1, rfl, hE, H⟩; clear hE) | ((with_reducible refine wpl_runx_d 2 rfl ?_ ?_); (focus exact rfl); refine ⟨_, runs_alloc H rfl rfl rfl, ?_⟩; clear H; rintro _ w ⟨b2, rfl, hE, H⟩; clear hE) | ((with_reducible refine wpl_runx ?_ ?_); (focus exact rfl); refine ⟨_, runs_load H 0 rfl rfl rfl rfl rfl, ?_⟩; rintro _ _ ⟨rfl, rfl⟩) | ((with_reducible refine wpl_runx ?_ ?_); (focus exact rfl); refine ⟨_, runs_load H 1 rfl rfl rfl rfl rfl, ?_⟩; rintro _ _ ⟨rfl, rfl⟩) | ((with_reducible refine wpl_runx ?_ ?_); (focus exact rfl); refine ⟨_, runs_store H 0 rfl rfl rfl rfl rfl rfl rfl rfl rfl, ?_⟩; clear H; rintro _ w ⟨rfl, hE, H⟩; clear hE) | ((with_reducible refine wpl_runx ?_ ?_); (focus exact rfl); refine ⟨_, runs_store H 1 rfl rfl rfl rfl rfl rfl rfl rfl rfl, ?_⟩; clear H; rintro _ w ⟨rfl, hE, H⟩; clear hE) | (refine (may_spec t A c _ ((AR.stab _ _ _).sub _ [] _ (fun _ h => by cases h) H.out)).mono ?_; rintro _ w ⟨rfl, hE⟩; replace H := H.step hE; clear hE))
    refine (ret_cell H 0 rfl rfl rfl rfl rfl rfl ?_).1
    rw [show plainE t = Tm.zero by simp [plainE, h]]
    exact ⟨_, _, rfl, AR.nil _ _ _ _, H.ext⟩
end Go.Proofs.Ythiionkikammkaa
