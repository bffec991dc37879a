/-
  No cell of these rows narrows 'for every input' (looked for: loops, veiled, ifaces, maps, wideKeys, modest, calm, conditions, laid).
  DERIVED. THE GIVEN ROWS OF THIS SEAT. 6 by the template 'for every input the law returns true; each argument reads behind the call as it read before'; 0 by the template 'total and deterministic' (their statements: YtodcgalcpnckaaaTotals.lean).
  GIVEN WITH THE SEED: the statements are not yours to turn. If you find one false, say at which input.
  Laid BY PROGRAM, IN A SANDBOX (cutbox-rows.mjs): the forced cells as the released guide's own fill.sh prints them over the translation 91212ca8d48fa9b5… (all of the seat's roots in one cut). By AI agents, Wed Nov 11 2026. No macro, syntax, notation, axiom, sorry.
-/
import Derived.Test.YtodcgalcpnckaaaChecked
import GoSem.Claim
import GoSem.ClaimJoined
import GoSem.ClaimMapViews
import Derived.JoinedTies
import Derived.KernelRfl
namespace Go.Proofs.Ytodcgalcpnckaaa
/- THE CELL 'sum', in the pinned program and in every row, IS THE sha256 OF THE DUMP (.gsa) THAT YtodcgalcpnckaaaProg.lean LOADS. Nothing in Lean hashes anything: it is a label: what it is worth is what the hold of that sum in a sandbox is worth. -/
noncomputable def Try.pinned : Pinned := { name := "ytodcgalcpnckaaa", sum := "91212ca8d48fa9b595b7cc61166704959c3b604810132faf3f2153d34ca8c1d2", checked := Try.checked }
namespace Rows
def none {H : Type} : Left H := { results := [], args := [] }

/-- 'analemmalaw11.RulesTurns': WHATEVER THE INPUT: true; the input reads as it did. -/
def rulesTurnsSpec : ChangeSpec := { name := "rulesTurns", fn := fun _ => fun
  | [d1, d2] => { results := [.lit (.bool true)], args := [d1, d2] }
  | _ => none }
def rulesTurnsRow : OpenClaim := { program := "ytodcgalcpnckaaa", sum := "91212ca8d48fa9b595b7cc61166704959c3b604810132faf3f2153d34ca8c1d2", func := "analemma/analemmalaw11.RulesTurns", spec := "rulesTurns", unfollowed := true, recurses := true, apart := false }
def RulesTurnsSaid : Prop := rulesTurnsRow.holds Try.pinned (OpenSpec.ofChange rulesTurnsSpec)

/-- ITS FALSE NEIGHBOUR: 'it returns false'. Refute it at one input. -/
def rulesTurnsWrong : ChangeSpec := { name := "rulesTurns", fn := fun _ => fun
  | [d1, d2] => { results := [.lit (.bool false)], args := [d1, d2] }
  | _ => none }
def RulesTurnsWrongFalsely : Prop := rulesTurnsRow.holds Try.pinned (OpenSpec.ofChange rulesTurnsWrong)

/-- 'analemmalaw11.RulesAhead': WHATEVER THE INPUT: true; the input reads as it did. -/
def rulesAheadSpec : ChangeSpec := { name := "rulesAhead", fn := fun _ => fun
  | [d1, d2] => { results := [.lit (.bool true)], args := [d1, d2] }
  | _ => none }
def rulesAheadRow : OpenClaim := { program := "ytodcgalcpnckaaa", sum := "91212ca8d48fa9b595b7cc61166704959c3b604810132faf3f2153d34ca8c1d2", func := "analemma/analemmalaw11.RulesAhead", spec := "rulesAhead", unfollowed := true, recurses := true, apart := false }
def RulesAheadSaid : Prop := rulesAheadRow.holds Try.pinned (OpenSpec.ofChange rulesAheadSpec)

/-- ITS FALSE NEIGHBOUR: 'it returns false'. Refute it at one input. -/
def rulesAheadWrong : ChangeSpec := { name := "rulesAhead", fn := fun _ => fun
  | [d1, d2] => { results := [.lit (.bool false)], args := [d1, d2] }
  | _ => none }
def RulesAheadWrongFalsely : Prop := rulesAheadRow.holds Try.pinned (OpenSpec.ofChange rulesAheadWrong)

/-- 'analemmalaw11.RulesForce': WHATEVER THE INPUT: true; the input reads as it did. -/
def rulesForceSpec : ChangeSpec := { name := "rulesForce", fn := fun _ => fun
  | [d1, d2, d3] => { results := [.lit (.bool true)], args := [d1, d2, d3] }
  | _ => none }
def rulesForceRow : OpenClaim := { program := "ytodcgalcpnckaaa", sum := "91212ca8d48fa9b595b7cc61166704959c3b604810132faf3f2153d34ca8c1d2", func := "analemma/analemmalaw11.RulesForce", spec := "rulesForce", unfollowed := true, recurses := true, apart := false }
def RulesForceSaid : Prop := rulesForceRow.holds Try.pinned (OpenSpec.ofChange rulesForceSpec)

/-- ITS FALSE NEIGHBOUR: 'it returns false'. Refute it at one input. -/
def rulesForceWrong : ChangeSpec := { name := "rulesForce", fn := fun _ => fun
  | [d1, d2, d3] => { results := [.lit (.bool false)], args := [d1, d2, d3] }
  | _ => none }
def RulesForceWrongFalsely : Prop := rulesForceRow.holds Try.pinned (OpenSpec.ofChange rulesForceWrong)

/-- 'analemmalaw11.RulesSteps': WHATEVER THE INPUT: true; the input reads as it did. -/
def rulesStepsSpec : ChangeSpec := { name := "rulesSteps", fn := fun _ => fun
  | [d1, d2, d3] => { results := [.lit (.bool true)], args := [d1, d2, d3] }
  | _ => none }
def rulesStepsRow : OpenClaim := { program := "ytodcgalcpnckaaa", sum := "91212ca8d48fa9b595b7cc61166704959c3b604810132faf3f2153d34ca8c1d2", func := "analemma/analemmalaw11.RulesSteps", spec := "rulesSteps", unfollowed := true, recurses := true, apart := false }
def RulesStepsSaid : Prop := rulesStepsRow.holds Try.pinned (OpenSpec.ofChange rulesStepsSpec)

/-- ITS FALSE NEIGHBOUR: 'it returns false'. Refute it at one input. -/
def rulesStepsWrong : ChangeSpec := { name := "rulesSteps", fn := fun _ => fun
  | [d1, d2, d3] => { results := [.lit (.bool false)], args := [d1, d2, d3] }
  | _ => none }
def RulesStepsWrongFalsely : Prop := rulesStepsRow.holds Try.pinned (OpenSpec.ofChange rulesStepsWrong)

/-- 'analemmalaw11.RulesTells': WHATEVER THE INPUT: true; the input reads as it did. -/
def rulesTellsSpec : ChangeSpec := { name := "rulesTells", fn := fun _ => fun
  | [d1, d2, d3, d4] => { results := [.lit (.bool true)], args := [d1, d2, d3, d4] }
  | _ => none }
def rulesTellsRow : OpenClaim := { program := "ytodcgalcpnckaaa", sum := "91212ca8d48fa9b595b7cc61166704959c3b604810132faf3f2153d34ca8c1d2", func := "analemma/analemmalaw11.RulesTells", spec := "rulesTells", unfollowed := true, recurses := true, apart := false }
def RulesTellsSaid : Prop := rulesTellsRow.holds Try.pinned (OpenSpec.ofChange rulesTellsSpec)

/-- ITS FALSE NEIGHBOUR: 'it returns false'. Refute it at one input. -/
def rulesTellsWrong : ChangeSpec := { name := "rulesTells", fn := fun _ => fun
  | [d1, d2, d3, d4] => { results := [.lit (.bool false)], args := [d1, d2, d3, d4] }
  | _ => none }
def RulesTellsWrongFalsely : Prop := rulesTellsRow.holds Try.pinned (OpenSpec.ofChange rulesTellsWrong)

/-- 'analemmalaw11.RulesNear': WHATEVER THE INPUT: true; the input reads as it did. -/
def rulesNearSpec : ChangeSpec := { name := "rulesNear", fn := fun _ => fun
  | [d] => { results := [.lit (.bool true)], args := [d] }
  | _ => none }
def rulesNearRow : OpenClaim := { program := "ytodcgalcpnckaaa", sum := "91212ca8d48fa9b595b7cc61166704959c3b604810132faf3f2153d34ca8c1d2", func := "analemma/analemmalaw11.RulesNear", spec := "rulesNear", unfollowed := true, recurses := true, apart := false }
def RulesNearSaid : Prop := rulesNearRow.holds Try.pinned (OpenSpec.ofChange rulesNearSpec)

/-- ITS FALSE NEIGHBOUR: 'it returns false'. Refute it at one input. -/
def rulesNearWrong : ChangeSpec := { name := "rulesNear", fn := fun _ => fun
  | [d] => { results := [.lit (.bool false)], args := [d] }
  | _ => none }
def RulesNearWrongFalsely : Prop := rulesNearRow.holds Try.pinned (OpenSpec.ofChange rulesNearWrong)

/- THE SECOND FORM. 'bulk': how many values and letters a reading holds, each counted each time it is reached (what is shared counts as often as it is met; a slice's spare places count too). A statement '..UptoSaid' is the law's where the arguments, and the package variables that the reading takes, are together of bulk at most 1048576: NARROWER than '..Said'. Prove '..Said' where nothing that the law and all that it calls make is longer than what came in: it says more and counts as full. Else prove '..UptoSaid'. A law counts once. -/
mutual
def uptoBulk {H : Type} : DataW H → Nat
  | .lit (.string bytes) => bytes.length + 1
  | .lit _ => 1
  | .nil => 1
  | .ptr d => uptoBulk d + 1
  | .slice elems spare => uptoBulkAll elems + uptoBulkAll spare + 1
  | .agg parts => uptoBulkAll parts + 1
  | .iface _ d => uptoBulk d + 1
  | .map entries => uptoBulkEntries entries + 1
  | .held _ => 1
def uptoBulkAll {H : Type} : List (DataW H) → Nat
  | [] => 0
  | d :: r => uptoBulk d + uptoBulkAll r
def uptoBulkEntries {H : Type} : List (Lit × DataW H) → Nat
  | [] => 0
  | x :: r => uptoBulkEntry x + uptoBulkEntries r
def uptoBulkEntry {H : Type} : Lit × DataW H → Nat
  | (.string bytes, d) => bytes.length + uptoBulk d + 1
  | (_, d) => uptoBulk d + 1
 end
def uptoSmall : (H : Type) → List (DataW H) → Bool := fun _ ds => decide (uptoBulkAll ds ≤ 1048576)
def OpenSpec.upto (s : _root_.Go.ChangeSpec) : _root_.Go.OpenSpec := { _root_.Go.OpenSpec.ofChange s with cond := some uptoSmall }

/-- 'analemmalaw11.RulesTurns', WHERE WHAT IT READS IS OF BULK AT MOST 1048576: true; the input reads as it did. -/
def rulesTurnsUptoRow : OpenClaim := { program := "ytodcgalcpnckaaa", sum := "91212ca8d48fa9b595b7cc61166704959c3b604810132faf3f2153d34ca8c1d2", func := "analemma/analemmalaw11.RulesTurns", spec := "rulesTurns", unfollowed := true, recurses := true, apart := false, narrowed := true }
def RulesTurnsUptoSaid : Prop := rulesTurnsUptoRow.holds Try.pinned (OpenSpec.upto rulesTurnsSpec)

/-- 'analemmalaw11.RulesAhead', WHERE WHAT IT READS IS OF BULK AT MOST 1048576: true; the input reads as it did. -/
def rulesAheadUptoRow : OpenClaim := { program := "ytodcgalcpnckaaa", sum := "91212ca8d48fa9b595b7cc61166704959c3b604810132faf3f2153d34ca8c1d2", func := "analemma/analemmalaw11.RulesAhead", spec := "rulesAhead", unfollowed := true, recurses := true, apart := false, narrowed := true }
def RulesAheadUptoSaid : Prop := rulesAheadUptoRow.holds Try.pinned (OpenSpec.upto rulesAheadSpec)

/-- 'analemmalaw11.RulesForce', WHERE WHAT IT READS IS OF BULK AT MOST 1048576: true; the input reads as it did. -/
def rulesForceUptoRow : OpenClaim := { program := "ytodcgalcpnckaaa", sum := "91212ca8d48fa9b595b7cc61166704959c3b604810132faf3f2153d34ca8c1d2", func := "analemma/analemmalaw11.RulesForce", spec := "rulesForce", unfollowed := true, recurses := true, apart := false, narrowed := true }
def RulesForceUptoSaid : Prop := rulesForceUptoRow.holds Try.pinned (OpenSpec.upto rulesForceSpec)

/-- 'analemmalaw11.RulesSteps', WHERE WHAT IT READS IS OF BULK AT MOST 1048576: true; the input reads as it did. -/
def rulesStepsUptoRow : OpenClaim := { program := "ytodcgalcpnckaaa", sum := "91212ca8d48fa9b595b7cc61166704959c3b604810132faf3f2153d34ca8c1d2", func := "analemma/analemmalaw11.RulesSteps", spec := "rulesSteps", unfollowed := true, recurses := true, apart := false, narrowed := true }
def RulesStepsUptoSaid : Prop := rulesStepsUptoRow.holds Try.pinned (OpenSpec.upto rulesStepsSpec)

/-- 'analemmalaw11.RulesTells', WHERE WHAT IT READS IS OF BULK AT MOST 1048576: true; the input reads as it did. -/
def rulesTellsUptoRow : OpenClaim := { program := "ytodcgalcpnckaaa", sum := "91212ca8d48fa9b595b7cc61166704959c3b604810132faf3f2153d34ca8c1d2", func := "analemma/analemmalaw11.RulesTells", spec := "rulesTells", unfollowed := true, recurses := true, apart := false, narrowed := true }
def RulesTellsUptoSaid : Prop := rulesTellsUptoRow.holds Try.pinned (OpenSpec.upto rulesTellsSpec)

/-- 'analemmalaw11.RulesNear', WHERE WHAT IT READS IS OF BULK AT MOST 1048576: true; the input reads as it did. -/
def rulesNearUptoRow : OpenClaim := { program := "ytodcgalcpnckaaa", sum := "91212ca8d48fa9b595b7cc61166704959c3b604810132faf3f2153d34ca8c1d2", func := "analemma/analemmalaw11.RulesNear", spec := "rulesNear", unfollowed := true, recurses := true, apart := false, narrowed := true }
def RulesNearUptoSaid : Prop := rulesNearUptoRow.holds Try.pinned (OpenSpec.upto rulesNearSpec)

end Rows
end Go.Proofs.Ytodcgalcpnckaaa
