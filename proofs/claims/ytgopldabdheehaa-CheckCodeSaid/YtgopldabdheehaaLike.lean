/- Walks: Like, Same, Equal of the reference. -/
import Derived.Test.YtgopldabdheehaaRPlain
import Derived.Test.YtgopldabdheehaaSame
namespace Go.Proofs.Ytgopldabdheehaa
open Go.RowKit
set_option linter.unusedVariables false
set_option linter.unusedSimpArgs false
set_option maxRecDepth 20000
set_option maxHeartbeats 4000000

mutual
/-- Are two alike, in what their kind gives a meaning. -/
def likeE : Tm → Tm → Bool
  | .mk k s n r i l, .mk k' s' n' r' i' l' => if k ≠ k' then false else if k = 1 ∨ k = 3 then n == n' else if k = 2 then s.toList == s'.toList else if k = 4 then (r == r' && i == i') else (s.toList == s'.toList && likeL l l')
def likeL : List Tm → List Tm → Bool
  | [], [] => true
  | a :: l, b :: m => likeE a b && likeL l m
  | _, _ => false
end
theorem likeL_len : ∀ {l m : List Tm}, l.length ≠ m.length → likeL l m = false
  | [], [], h => by simp at h
  | [], _ :: _, _ => rfl
  | _ :: _, [], _ => rfl
  | a :: l, b :: m, h => by
    unfold likeL
    rw [likeL_len (l := l) (m := m) (by simpa using h)]
    simp


end Go.Proofs.Ytgopldabdheehaa
