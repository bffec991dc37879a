/- The law of a year's turns, as the row asks it. -/
import Derived.Test.YtodcgalcpnckaaaRulRows
import Derived.Test.YtodcgalcpnckaaaRulSortH
set_option linter.unusedVariables false
set_option linter.unusedSimpArgs false
namespace Go.Proofs.Ytodcgalcpnckaaa
theorem turnslaw_row (l : List Rule) (n : Nat) (hn : l.length = n) (v : Value) (y : Int) (hy : (Lit.int .i64 y).wf = true) (w : World) (hr : Reads w v n (ruleRow l)) : Rets Try.prog 3 #[v, .int .i64 y] w (.bool true) :=
  turnslaw_any l n hn v y w hr
end Go.Proofs.Ytodcgalcpnckaaa
