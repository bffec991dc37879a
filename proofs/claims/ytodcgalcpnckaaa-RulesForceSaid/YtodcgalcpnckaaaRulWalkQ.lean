/- Walks of rules: the law's own two rules. -/
import Derived.Test.YtodcgalcpnckaaaRulWalkP
set_option linter.unusedVariables false
set_option linter.unusedSimpArgs false
namespace Go.Proofs.Ytodcgalcpnckaaa
open Go.RowKit

theorem us_force1 : (Rul.forceG usL (-18000) 1615705200).s = 3600 ∧ (Rul.forceG usL (-18000) 1615705200).l.data.toList = [68] := by decide +kernel
theorem us_force2 : (Rul.forceG usL (-18000) 1615705199).s = 0 ∧ (Rul.forceG usL (-18000) 1615705199).l.data.toList = [83] := by decide +kernel
end Go.Proofs.Ytodcgalcpnckaaa
