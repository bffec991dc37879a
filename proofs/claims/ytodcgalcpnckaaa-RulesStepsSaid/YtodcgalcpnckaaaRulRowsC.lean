/- The law of steps, as the row asks it. -/
import Derived.Test.YtodcgalcpnckaaaRulRows
import Derived.Test.YtodcgalcpnckaaaRulWalkZD
set_option linter.unusedVariables false
set_option linter.unusedSimpArgs false
namespace Go.Proofs.Ytodcgalcpnckaaa
theorem stepslaw_row (l : List Rule) (n : Nat) (hn : l.length = n) (v : Value) (off t : Int) (ho : (Lit.int .i64 off).wf = true) (ht : (Lit.int .i64 t).wf = true) (w : World) (hr : Reads w v n (ruleRow l)) : Rets Try.prog 6 #[v, .int .i64 off, .int .i64 t] w (.bool true) :=
  stepslaw_any l n hn v off t w hr
end Go.Proofs.Ytodcgalcpnckaaa
