/- Walks: List. -/
import Derived.Test.YtgopldabdheehaaLit
import Derived.Test.YtgopldabdheehaaPush
import Derived.Test.YtgopldabdheehaaPlain
namespace Go.Proofs.Ytgopldabdheehaa
open Go.RowKit
set_option linter.unusedVariables false
set_option linter.unusedSimpArgs false
set_option maxRecDepth 20000
set_option maxHeartbeats 2000000

def consT (x t : Tm) : Tm := .mk 5 ⟨#[46]⟩ 0 0 0 [x, t]
def consE (l : List Tm) (t : Tm) : Tm := l.foldr consT t
def listE (l : List Tm) (t : Tm) : Tm := if 2000 < l.length then Tm.zero else plainE (consE l t)

end Go.Proofs.Ytgopldabdheehaa
