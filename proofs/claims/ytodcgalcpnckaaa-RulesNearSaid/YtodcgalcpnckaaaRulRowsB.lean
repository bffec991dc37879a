/- The law of near turns, as the row asks it. -/
import Derived.Test.YtodcgalcpnckaaaRulRows
import Derived.Test.YtodcgalcpnckaaaRulWalkZC
set_option linter.unusedVariables false
set_option linter.unusedSimpArgs false
namespace Go.Proofs.Ytodcgalcpnckaaa
theorem nearlaw_row (l : List Rule) (n : Nat) (hn : l.length = n) (v : Value) (w : World) (hr : Reads w v n (ruleRow l)) : Rets Try.prog 8 #[v] w (.bool true) := nearlaw_any l n hn v w hr
end Go.Proofs.Ytodcgalcpnckaaa
