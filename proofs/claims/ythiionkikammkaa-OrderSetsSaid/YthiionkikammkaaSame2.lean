/- Walks: Same, Variant. -/
import Derived.Test.YthiionkikammkaaSame
import Derived.Test.YthiionkikammkaaRename
namespace Go.Proofs.Ythiionkikammkaa
open Go.RowKit
set_option linter.unusedVariables false
set_option linter.unusedSimpArgs false
set_option maxRecDepth 20000
set_option maxHeartbeats 2000000

/-- Are two the same? -/
def SameE (t u : Tm) : Bool := mayE t == 0 && (mayE u == 0 && sameE (plainE t) (plainE u))


def variantE (t u : Tm) : Bool := SameE (renameE t) (renameE u)
end Go.Proofs.Ythiionkikammkaa
