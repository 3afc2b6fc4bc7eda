/- Walks: Map and the two functions that TermVariants hands it. -/
import Derived.Test.YtfjdekiobggdoaaRPlain
import Derived.Test.YtfjdekiobggdoaaMp
import Derived.Test.YtfjdekiobggdoaaTurn
import Derived.Test.YtfjdekiobggdoaaXorF
import Derived.Test.YtfjdekiobggdoaaSames0
namespace Go.Proofs.Ytfjdekiobggdoaa
open Go.RowKit
set_option linter.unusedVariables false
set_option linter.unusedSimpArgs false
set_option maxRecDepth 20000
set_option maxHeartbeats 2000000



theorem okL_mem : ∀ {l : List Tm} {t : Tm}, okL l → t ∈ l → okT t
  | a :: l, t, h, m => by
    unfold okL at h
    rcases List.mem_cons.1 m with rfl | m
    · exact h.1
    · exact okL_mem h.2 m

end Go.Proofs.Ytfjdekiobggdoaa
