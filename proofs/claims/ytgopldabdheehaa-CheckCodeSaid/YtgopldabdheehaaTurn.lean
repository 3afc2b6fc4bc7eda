/- Walks: turn, with any function value for its variables. -/
import Derived.Test.YtgopldabdheehaaTm
namespace Go.Proofs.Ytgopldabdheehaa
open Go.RowKit
set_option linter.unusedVariables false
set_option linter.unusedSimpArgs false

/-- A function value of a number that answers a term. -/
def FnT (G : List Nat → World → Prop) (g : FuncId) (caps : Array Value) (F : Int → Tm) : Prop :=
  (∀ args w, Sem.run Try.prog (callFunc g args) w = .ok (.enter g args) w) ∧ Stab G ∧
  ∀ (n : Int) (M : List Nat) (w : World), (∀ b ∈ M, b < w.heap.size) → G M w → Calls Try.prog g (#[.int .i64 n] ++ caps) w (RetT M w (F n))

set_option maxRecDepth 20000
set_option maxHeartbeats 1000000
end Go.Proofs.Ytgopldabdheehaa
