/- The law of what turns tell, as the row asks it. -/
import Derived.Test.YtodcgalcpnckaaaRulRows
import Derived.Test.YtodcgalcpnckaaaRulWalkZF
set_option linter.unusedVariables false
set_option linter.unusedSimpArgs false
namespace Go.Proofs.Ytodcgalcpnckaaa
theorem tellslaw_row (l : List Rule) (n : Nat) (hn : l.length = n) (v : Value) (off y k : Int) (ho : (Lit.int .i64 off).wf = true) (hy : (Lit.int .i64 y).wf = true) (hk : (Lit.int .i64 k).wf = true) (w : World) (hr : Reads w v n (ruleRow l)) : Rets Try.prog 7 #[v, .int .i64 off, .int .i64 y, .int .i64 k] w (.bool true) :=
  tellslaw_any l n hn v off y k w hr
end Go.Proofs.Ytodcgalcpnckaaa
