/-
  DERIVED. GIVEN WITH THE SEED: THE CARDS: each row of YtdhbgelijjlifaaDoorRows.lean that lists a variable, with what it lists TIED to the program's text (the seventh form; the later family's looks); each row that meets fmt, with fmt's text TOLD by the authors' own Lean function (tested against real Go, not proved from fmt's source: count such statements apart). THE CARD IS WHAT COUNTS. Prove the row's statement (the work); the ties are given (YtdhbgelijjlifaaDoorTie.lean); close each card by the builder's one call (the guide's Derived/Test/ToyasCard.lean, 'card_holds'). Laid BY PROGRAM, IN A SANDBOX (cutbox-door.mjs). By AI agents, Wed Nov 11 2026. No macro, syntax, notation, axiom, sorry.
-/
import Derived.Test.YtdhbgelijjlifaaDoorRows
import GoSem.ClaimSeven
namespace Go.Proofs.YtdhbgelijjlifaaDoor
namespace Rows

/-- THE TIED CARD OF 'analemmalaw10.SourceAhead'. -/
def sourceAheadCard : Claim7 := { stood := { row := sourceAheadRow, standIns := [], harness := (true, "7781ace3862707babe40bbab2765436410f386b6c41d9a7ff6f627a227f4d257"), looks := true }, kinds := [], alts := [], laidByText := true, laidKinds := [.data, .data, .data, .data, .sentinel, .sentinel, .pinned], laidTests := true, laidLooks := .later }
def SourceAheadCardSaid : Prop := Claim7.holds Tryd.pinned (.plain (OpenSpec.ofChange sourceAheadSpec)) sourceAheadCard

/-- THE SECOND FORM's CARD OF 'analemmalaw10.SourceAhead'. -/
def sourceAheadUptoCard : Claim7 := { stood := { row := sourceAheadUptoRow, standIns := [], harness := (true, "7781ace3862707babe40bbab2765436410f386b6c41d9a7ff6f627a227f4d257"), looks := true }, kinds := [], alts := [], laidByText := true, laidKinds := [.data, .data, .data, .data, .sentinel, .sentinel, .pinned], laidTests := true, laidLooks := .later }
def SourceAheadUptoCardSaid : Prop := Claim7.holds Tryd.pinned (.plain (OpenSpec.upto sourceAheadSpec)) sourceAheadUptoCard
end Rows
end Go.Proofs.YtdhbgelijjlifaaDoor
