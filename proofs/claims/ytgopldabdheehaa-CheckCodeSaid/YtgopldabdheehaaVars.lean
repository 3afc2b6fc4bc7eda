/- Walks: Vars. -/
import Derived.Test.YtgopldabdheehaaPlain
namespace Go.Proofs.Ytgopldabdheehaa
open Go.RowKit
set_option linter.unusedVariables false
set_option linter.unusedSimpArgs false
set_option maxRecDepth 20000
set_option maxHeartbeats 1000000

/-- A variable more, if it is one. -/
def varF (x : List Int) (t : Tm) : List Int := if t.kind = 1 ∧ t.int ∉ x then x ++ [t.int] else x
def varsE (t : Tm) : List Int := match chkG varF t 1 0 0 [] with | .error _ => [] | .ok (_, _, x) => x

theorem getL_ones (x : List Int) (n : Int) : getL (x.map fun n => (n, Value.int .i64 1)) n = if n ∈ x then some (.int .i64 1) else none := by
  induction x with
  | nil => rfl
  | cons a x ih =>
    simp only [List.map_cons, getL, ih, List.mem_cons]
    by_cases h : n = a
    · simp [h]
    · simp [h]
theorem putL_ones (x : List Int) (n : Int) (h : n ∉ x) : putL (x.map fun n => (n, Value.int .i64 1)) n (.int .i64 1) = (x ++ [n]).map fun n => (n, Value.int .i64 1) := by
  induction x with
  | nil => rfl
  | cons a x ih =>
    simp only [List.mem_cons, not_or] at h
    simp only [List.map_cons, putL, if_neg h.1, ih h.2, List.cons_append]

theorem Try.tyVM : Try.prog.underlying 73 = some (.map 2 3) := by kernel_rfl
theorem Try.tyI64k : Try.prog.underlying 2 = some (.int .i64) := by kernel_rfl
theorem Try.tzI : tyZero Try.prog 3 = some (.int .i64 0) := by kernel_rfl
theorem Try.infoI64 : (Try.prog.info? 2).map (fun i => (i.zero, i.size, i.bytes)) = some (some (.int .i64 0), 1, 8) := by kernel_rfl

/-- A call answers a row of numbers. -/
def RetI (M : List Nat) (w : World) (l : List Int) (e : Ending) (w' : World) : Prop :=
  ∃ A c, e = .returned (.slice A l.length c) ∧ VR A c (l.map (Value.int .i64)) M w' ∧ Ext [] w w'

end Go.Proofs.Ytgopldabdheehaa
