/-
  No cell of these rows narrows 'for every input' (looked for: loops, veiled, ifaces, maps, wideKeys, modest, calm, conditions, laid).
  DERIVED. THE GIVEN ROWS OF THIS SEAT. 7 by the template 'for every input the law returns true; each argument reads behind the call as it read before'; 0 by the template 'total and deterministic' (their statements: YtgnjmejmngljjaaTotals.lean).
  GIVEN WITH THE SEED: the statements are not yours to turn. If you find one false, say at which input.
  Laid BY PROGRAM, IN A SANDBOX (cutbox-rows.mjs): the forced cells as the released guide's own fill.sh prints them over the translation 1dca53854eb966ce… (all of the seat's roots in one cut). By AI agents, Wed Nov 11 2026. No macro, syntax, notation, axiom, sorry.
-/
import Derived.Test.YtgnjmejmngljjaaChecked
import GoSem.Claim
import GoSem.ClaimJoined
import GoSem.ClaimMapViews
import Derived.JoinedTies
import Derived.KernelRfl
namespace Go.Proofs.Ytgnjmejmngljjaa
/- THE CELL 'sum', in the pinned program and in every row, IS THE sha256 OF THE DUMP (.gsa) THAT YtgnjmejmngljjaaProg.lean LOADS. Nothing in Lean hashes anything: it is a label: what it is worth is what the hold of that sum in a sandbox is worth. -/
noncomputable def Try.pinned : Pinned := { name := "ytgnjmejmngljjaa", sum := "1dca53854eb966cee2059c18dfca4801df513c5346f70597b90db26453beaf51", checked := Try.checked }
namespace Rows
def none {H : Type} : Left H := { results := [], args := [] }

/-- 'analemmalaw09.MomentNames': WHATEVER THE INPUT: true; the input reads as it did. -/
def momentNamesSpec : ChangeSpec := { name := "momentNames", fn := fun _ => fun
  | [d] => { results := [.lit (.bool true)], args := [d] }
  | _ => none }
def momentNamesRow : OpenClaim := { program := "ytgnjmejmngljjaa", sum := "1dca53854eb966cee2059c18dfca4801df513c5346f70597b90db26453beaf51", func := "analemma/analemmalaw09.MomentNames", spec := "momentNames", inPlace := ["internal/bytealg.IndexByteString", "internal/bytealg.IndexString"], unfollowed := true, recurses := true, named := ["internal/bytealg.MaxLen"], apart := false }
def MomentNamesSaid : Prop := momentNamesRow.holds Try.pinned (OpenSpec.ofChange momentNamesSpec)

/-- ITS FALSE NEIGHBOUR: 'it returns false'. Refute it at one input. -/
def momentNamesWrong : ChangeSpec := { name := "momentNames", fn := fun _ => fun
  | [d] => { results := [.lit (.bool false)], args := [d] }
  | _ => none }
def MomentNamesWrongFalsely : Prop := momentNamesRow.holds Try.pinned (OpenSpec.ofChange momentNamesWrong)

/-- 'analemmalaw09.MomentParses': WHATEVER THE INPUT: true; the input reads as it did. -/
def momentParsesSpec : ChangeSpec := { name := "momentParses", fn := fun _ => fun
  | [d] => { results := [.lit (.bool true)], args := [d] }
  | _ => none }
def momentParsesRow : OpenClaim := { program := "ytgnjmejmngljjaa", sum := "1dca53854eb966cee2059c18dfca4801df513c5346f70597b90db26453beaf51", func := "analemma/analemmalaw09.MomentParses", spec := "momentParses", inPlace := ["internal/bytealg.IndexByteString", "internal/bytealg.IndexString"], unfollowed := true, recurses := true, named := ["internal/bytealg.MaxLen"], apart := false }
def MomentParsesSaid : Prop := momentParsesRow.holds Try.pinned (OpenSpec.ofChange momentParsesSpec)

/-- ITS FALSE NEIGHBOUR: 'it returns false'. Refute it at one input. -/
def momentParsesWrong : ChangeSpec := { name := "momentParses", fn := fun _ => fun
  | [d] => { results := [.lit (.bool false)], args := [d] }
  | _ => none }
def MomentParsesWrongFalsely : Prop := momentParsesRow.holds Try.pinned (OpenSpec.ofChange momentParsesWrong)

/-- 'analemmalaw09.MomentDays': WHATEVER THE INPUT: true; the input reads as it did. -/
def momentDaysSpec : ChangeSpec := { name := "momentDays", fn := fun _ => fun
  | [d1, d2] => { results := [.lit (.bool true)], args := [d1, d2] }
  | _ => none }
def momentDaysRow : OpenClaim := { program := "ytgnjmejmngljjaa", sum := "1dca53854eb966cee2059c18dfca4801df513c5346f70597b90db26453beaf51", func := "analemma/analemmalaw09.MomentDays", spec := "momentDays", inPlace := ["internal/bytealg.IndexByteString", "internal/bytealg.IndexString"], unfollowed := true, recurses := true, named := ["internal/bytealg.MaxLen"], apart := false }
def MomentDaysSaid : Prop := momentDaysRow.holds Try.pinned (OpenSpec.ofChange momentDaysSpec)

/-- ITS FALSE NEIGHBOUR: 'it returns false'. Refute it at one input. -/
def momentDaysWrong : ChangeSpec := { name := "momentDays", fn := fun _ => fun
  | [d1, d2] => { results := [.lit (.bool false)], args := [d1, d2] }
  | _ => none }
def MomentDaysWrongFalsely : Prop := momentDaysRow.holds Try.pinned (OpenSpec.ofChange momentDaysWrong)

/-- 'analemmalaw09.MomentClocks': WHATEVER THE INPUT: true; the input reads as it did. -/
def momentClocksSpec : ChangeSpec := { name := "momentClocks", fn := fun _ => fun
  | [d] => { results := [.lit (.bool true)], args := [d] }
  | _ => none }
def momentClocksRow : OpenClaim := { program := "ytgnjmejmngljjaa", sum := "1dca53854eb966cee2059c18dfca4801df513c5346f70597b90db26453beaf51", func := "analemma/analemmalaw09.MomentClocks", spec := "momentClocks", inPlace := ["internal/bytealg.IndexByteString", "internal/bytealg.IndexString"], unfollowed := true, recurses := true, named := ["internal/bytealg.MaxLen"], apart := false }
def MomentClocksSaid : Prop := momentClocksRow.holds Try.pinned (OpenSpec.ofChange momentClocksSpec)

/-- ITS FALSE NEIGHBOUR: 'it returns false'. Refute it at one input. -/
def momentClocksWrong : ChangeSpec := { name := "momentClocks", fn := fun _ => fun
  | [d] => { results := [.lit (.bool false)], args := [d] }
  | _ => none }
def MomentClocksWrongFalsely : Prop := momentClocksRow.holds Try.pinned (OpenSpec.ofChange momentClocksWrong)

/-- 'analemmalaw09.MomentWeeks': WHATEVER THE INPUT: true; the input reads as it did. -/
def momentWeeksSpec : ChangeSpec := { name := "momentWeeks", fn := fun _ => fun
  | [d1, d2] => { results := [.lit (.bool true)], args := [d1, d2] }
  | _ => none }
def momentWeeksRow : OpenClaim := { program := "ytgnjmejmngljjaa", sum := "1dca53854eb966cee2059c18dfca4801df513c5346f70597b90db26453beaf51", func := "analemma/analemmalaw09.MomentWeeks", spec := "momentWeeks", inPlace := ["internal/bytealg.IndexByteString", "internal/bytealg.IndexString"], unfollowed := true, recurses := true, named := ["internal/bytealg.MaxLen"], apart := false }
def MomentWeeksSaid : Prop := momentWeeksRow.holds Try.pinned (OpenSpec.ofChange momentWeeksSpec)

/-- ITS FALSE NEIGHBOUR: 'it returns false'. Refute it at one input. -/
def momentWeeksWrong : ChangeSpec := { name := "momentWeeks", fn := fun _ => fun
  | [d1, d2] => { results := [.lit (.bool false)], args := [d1, d2] }
  | _ => none }
def MomentWeeksWrongFalsely : Prop := momentWeeksRow.holds Try.pinned (OpenSpec.ofChange momentWeeksWrong)

/-- 'analemmalaw09.MomentPrints': WHATEVER THE INPUT: true; the input reads as it did. -/
def momentPrintsSpec : ChangeSpec := { name := "momentPrints", fn := fun _ => fun
  | [d1, d2] => { results := [.lit (.bool true)], args := [d1, d2] }
  | _ => none }
def momentPrintsRow : OpenClaim := { program := "ytgnjmejmngljjaa", sum := "1dca53854eb966cee2059c18dfca4801df513c5346f70597b90db26453beaf51", func := "analemma/analemmalaw09.MomentPrints", spec := "momentPrints", inPlace := ["internal/bytealg.IndexByteString", "internal/bytealg.IndexString"], unfollowed := true, recurses := true, named := ["internal/bytealg.MaxLen"], apart := false }
def MomentPrintsSaid : Prop := momentPrintsRow.holds Try.pinned (OpenSpec.ofChange momentPrintsSpec)

/-- ITS FALSE NEIGHBOUR: 'it returns false'. Refute it at one input. -/
def momentPrintsWrong : ChangeSpec := { name := "momentPrints", fn := fun _ => fun
  | [d1, d2] => { results := [.lit (.bool false)], args := [d1, d2] }
  | _ => none }
def MomentPrintsWrongFalsely : Prop := momentPrintsRow.holds Try.pinned (OpenSpec.ofChange momentPrintsWrong)

/-- 'analemmalaw09.MomentBack': WHATEVER THE INPUT: true; the input reads as it did. -/
def momentBackSpec : ChangeSpec := { name := "momentBack", fn := fun _ => fun
  | [d] => { results := [.lit (.bool true)], args := [d] }
  | _ => none }
def momentBackRow : OpenClaim := { program := "ytgnjmejmngljjaa", sum := "1dca53854eb966cee2059c18dfca4801df513c5346f70597b90db26453beaf51", func := "analemma/analemmalaw09.MomentBack", spec := "momentBack", inPlace := ["internal/bytealg.IndexByteString", "internal/bytealg.IndexString"], unfollowed := true, recurses := true, named := ["internal/bytealg.MaxLen"], apart := false }
def MomentBackSaid : Prop := momentBackRow.holds Try.pinned (OpenSpec.ofChange momentBackSpec)

/-- ITS FALSE NEIGHBOUR: 'it returns false'. Refute it at one input. -/
def momentBackWrong : ChangeSpec := { name := "momentBack", fn := fun _ => fun
  | [d] => { results := [.lit (.bool false)], args := [d] }
  | _ => none }
def MomentBackWrongFalsely : Prop := momentBackRow.holds Try.pinned (OpenSpec.ofChange momentBackWrong)

/- THE SECOND FORM. 'bulk': how many values and letters a reading holds, each counted each time it is reached (what is shared counts as often as it is met; a slice's spare places count too). A statement '..UptoSaid' is the law's where the arguments, and the package variables that the reading takes, are together of bulk at most 1048576: NARROWER than '..Said'. Prove '..Said' where nothing that the law and all that it calls make is longer than what came in: it says more and counts as full. Else prove '..UptoSaid'. A law counts once. -/
mutual
def uptoBulk {H : Type} : DataW H → Nat
  | .lit (.string bytes) => bytes.length + 1
  | .lit _ => 1
  | .nil => 1
  | .ptr d => uptoBulk d + 1
  | .slice elems spare => uptoBulkAll elems + uptoBulkAll spare + 1
  | .agg parts => uptoBulkAll parts + 1
  | .iface _ d => uptoBulk d + 1
  | .map entries => uptoBulkEntries entries + 1
  | .held _ => 1
def uptoBulkAll {H : Type} : List (DataW H) → Nat
  | [] => 0
  | d :: r => uptoBulk d + uptoBulkAll r
def uptoBulkEntries {H : Type} : List (Lit × DataW H) → Nat
  | [] => 0
  | x :: r => uptoBulkEntry x + uptoBulkEntries r
def uptoBulkEntry {H : Type} : Lit × DataW H → Nat
  | (.string bytes, d) => bytes.length + uptoBulk d + 1
  | (_, d) => uptoBulk d + 1
 end
def uptoSmall : (H : Type) → List (DataW H) → Bool := fun _ ds => decide (uptoBulkAll ds ≤ 1048576)
def OpenSpec.upto (s : _root_.Go.ChangeSpec) : _root_.Go.OpenSpec := { _root_.Go.OpenSpec.ofChange s with cond := some uptoSmall }

/-- 'analemmalaw09.MomentNames', WHERE WHAT IT READS IS OF BULK AT MOST 1048576: true; the input reads as it did. -/
def momentNamesUptoRow : OpenClaim := { program := "ytgnjmejmngljjaa", sum := "1dca53854eb966cee2059c18dfca4801df513c5346f70597b90db26453beaf51", func := "analemma/analemmalaw09.MomentNames", spec := "momentNames", inPlace := ["internal/bytealg.IndexByteString", "internal/bytealg.IndexString"], unfollowed := true, recurses := true, named := ["internal/bytealg.MaxLen"], apart := false, narrowed := true }
def MomentNamesUptoSaid : Prop := momentNamesUptoRow.holds Try.pinned (OpenSpec.upto momentNamesSpec)

/-- 'analemmalaw09.MomentParses', WHERE WHAT IT READS IS OF BULK AT MOST 1048576: true; the input reads as it did. -/
def momentParsesUptoRow : OpenClaim := { program := "ytgnjmejmngljjaa", sum := "1dca53854eb966cee2059c18dfca4801df513c5346f70597b90db26453beaf51", func := "analemma/analemmalaw09.MomentParses", spec := "momentParses", inPlace := ["internal/bytealg.IndexByteString", "internal/bytealg.IndexString"], unfollowed := true, recurses := true, named := ["internal/bytealg.MaxLen"], apart := false, narrowed := true }
def MomentParsesUptoSaid : Prop := momentParsesUptoRow.holds Try.pinned (OpenSpec.upto momentParsesSpec)

/-- 'analemmalaw09.MomentDays', WHERE WHAT IT READS IS OF BULK AT MOST 1048576: true; the input reads as it did. -/
def momentDaysUptoRow : OpenClaim := { program := "ytgnjmejmngljjaa", sum := "1dca53854eb966cee2059c18dfca4801df513c5346f70597b90db26453beaf51", func := "analemma/analemmalaw09.MomentDays", spec := "momentDays", inPlace := ["internal/bytealg.IndexByteString", "internal/bytealg.IndexString"], unfollowed := true, recurses := true, named := ["internal/bytealg.MaxLen"], apart := false, narrowed := true }
def MomentDaysUptoSaid : Prop := momentDaysUptoRow.holds Try.pinned (OpenSpec.upto momentDaysSpec)

/-- 'analemmalaw09.MomentClocks', WHERE WHAT IT READS IS OF BULK AT MOST 1048576: true; the input reads as it did. -/
def momentClocksUptoRow : OpenClaim := { program := "ytgnjmejmngljjaa", sum := "1dca53854eb966cee2059c18dfca4801df513c5346f70597b90db26453beaf51", func := "analemma/analemmalaw09.MomentClocks", spec := "momentClocks", inPlace := ["internal/bytealg.IndexByteString", "internal/bytealg.IndexString"], unfollowed := true, recurses := true, named := ["internal/bytealg.MaxLen"], apart := false, narrowed := true }
def MomentClocksUptoSaid : Prop := momentClocksUptoRow.holds Try.pinned (OpenSpec.upto momentClocksSpec)

/-- 'analemmalaw09.MomentWeeks', WHERE WHAT IT READS IS OF BULK AT MOST 1048576: true; the input reads as it did. -/
def momentWeeksUptoRow : OpenClaim := { program := "ytgnjmejmngljjaa", sum := "1dca53854eb966cee2059c18dfca4801df513c5346f70597b90db26453beaf51", func := "analemma/analemmalaw09.MomentWeeks", spec := "momentWeeks", inPlace := ["internal/bytealg.IndexByteString", "internal/bytealg.IndexString"], unfollowed := true, recurses := true, named := ["internal/bytealg.MaxLen"], apart := false, narrowed := true }
def MomentWeeksUptoSaid : Prop := momentWeeksUptoRow.holds Try.pinned (OpenSpec.upto momentWeeksSpec)

/-- 'analemmalaw09.MomentPrints', WHERE WHAT IT READS IS OF BULK AT MOST 1048576: true; the input reads as it did. -/
def momentPrintsUptoRow : OpenClaim := { program := "ytgnjmejmngljjaa", sum := "1dca53854eb966cee2059c18dfca4801df513c5346f70597b90db26453beaf51", func := "analemma/analemmalaw09.MomentPrints", spec := "momentPrints", inPlace := ["internal/bytealg.IndexByteString", "internal/bytealg.IndexString"], unfollowed := true, recurses := true, named := ["internal/bytealg.MaxLen"], apart := false, narrowed := true }
def MomentPrintsUptoSaid : Prop := momentPrintsUptoRow.holds Try.pinned (OpenSpec.upto momentPrintsSpec)

/-- 'analemmalaw09.MomentBack', WHERE WHAT IT READS IS OF BULK AT MOST 1048576: true; the input reads as it did. -/
def momentBackUptoRow : OpenClaim := { program := "ytgnjmejmngljjaa", sum := "1dca53854eb966cee2059c18dfca4801df513c5346f70597b90db26453beaf51", func := "analemma/analemmalaw09.MomentBack", spec := "momentBack", inPlace := ["internal/bytealg.IndexByteString", "internal/bytealg.IndexString"], unfollowed := true, recurses := true, named := ["internal/bytealg.MaxLen"], apart := false, narrowed := true }
def MomentBackUptoSaid : Prop := momentBackUptoRow.holds Try.pinned (OpenSpec.upto momentBackSpec)

end Rows
end Go.Proofs.Ytgnjmejmngljjaa
