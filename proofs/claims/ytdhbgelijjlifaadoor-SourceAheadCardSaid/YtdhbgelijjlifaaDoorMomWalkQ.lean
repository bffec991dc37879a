/- Walks of moments: which may be, whole; the day on which a spot falls. -/
import Derived.Test.YtdhbgelijjlifaaDoorMomWalkP
import Derived.Test.YtdhbgelijjlifaaDoorSrcPlainB
import Derived.Test.YtdhbgelijjlifaaDoorCivWalkJ
set_option linter.unusedVariables false
set_option linter.unusedSimpArgs false
namespace Go.Proofs.YtdhbgelijjlifaaDoor
open Go.RowKit

end Go.Proofs.YtdhbgelijjlifaaDoor
