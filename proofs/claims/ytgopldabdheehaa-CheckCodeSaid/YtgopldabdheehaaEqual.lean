/- Walks: Same, Equal of the reference. -/
import Derived.Test.YtgopldabdheehaaLike
namespace Go.Proofs.Ytgopldabdheehaa
open Go.RowKit
set_option linter.unusedVariables false
set_option linter.unusedSimpArgs false
set_option maxRecDepth 20000
set_option maxHeartbeats 4000000

theorem slim_of_slimA : ∀ t : Tm, slimA t → slim t
  | .mk k s n r i l, h => by
    unfold slimA at h
    unfold slim
    exact fun _ => ⟨h.1, slimL_of_slimA l h.2⟩
where slimL_of_slimA : ∀ l : List Tm, slimAL l → slimL l
  | [], _ => trivial
  | t :: ts, h => ⟨slim_of_slimA t h.1, slimL_of_slimA ts h.2⟩

def rSameE (t u : Tm) : Bool := mayE t == 0 && (mayE u == 0 && likeE t u)

def EqualE (t u : Tm) : Bool := if t.kind = 0 ∨ u.kind = 0 then (t.kind == u.kind && (((t.args.length : Int) + (u.args.length : Int) == 0) && (t.name.toList == u.name.toList && (t.int == u.int && (t.re == u.re && t.im == u.im))))) else rSameE t u

end Go.Proofs.Ytgopldabdheehaa
