/- Walks of moments: what every right program answers; the law of days. -/
import Derived.Test.YtdhbgelijjlifaaGreatDoorSrcSupA
import Derived.Test.YtdhbgelijjlifaaGreatDoorRulWalkC
import Derived.Test.YtdhbgelijjlifaaGreatDoorMomWalkO
set_option linter.unusedVariables false
set_option linter.unusedSimpArgs false
namespace Go.Proofs.YtdhbgelijjlifaaGreatDoor
open Go.RowKit
end Go.Proofs.YtdhbgelijjlifaaGreatDoor
