/- Walks of moments: which may be, whole; the day on which a spot falls. -/
import Derived.Test.YtdhbgelijjlifaaGreatDoorMomWalkP
import Derived.Test.YtdhbgelijjlifaaGreatDoorSrcPlainB
import Derived.Test.YtdhbgelijjlifaaGreatDoorCivWalkJ
set_option linter.unusedVariables false
set_option linter.unusedSimpArgs false
namespace Go.Proofs.YtdhbgelijjlifaaGreatDoor
open Go.RowKit
end Go.Proofs.YtdhbgelijjlifaaGreatDoor
