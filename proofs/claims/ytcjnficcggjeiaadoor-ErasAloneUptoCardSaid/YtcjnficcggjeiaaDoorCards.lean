/-
  DERIVED. GIVEN WITH THE SEED: THE CARDS: each row of YtcjnficcggjeiaaDoorRows.lean that lists a variable, with what it lists TIED to the program's text (the seventh form; the later family's looks); each row that meets fmt, with fmt's text TOLD by the authors' own Lean function (tested against real Go, not proved from fmt's source: count such statements apart). THE CARD IS WHAT COUNTS. Prove the row's statement (the work); the ties are given (YtcjnficcggjeiaaDoorTie.lean); close each card by the builder's one call (the guide's Derived/Test/ToyasCard.lean, 'card_holds'). Laid BY PROGRAM, IN A SANDBOX (cutbox-door.mjs). By AI agents, Wed Nov 11 2026. No macro, syntax, notation, axiom, sorry.
-/
import Derived.Test.YtcjnficcggjeiaaDoorRows
import GoSem.ClaimSeven
namespace Go.Proofs.YtcjnficcggjeiaaDoor
namespace Rows

/-- THE TIED CARD OF 'analemmalaw12.ErasAbbrs'. -/
def erasAbbrsCard : Claim7 := { stood := { row := erasAbbrsRow, standIns := [], harness := (true, "7ca510989cec0c2bd363a3a27cc69623278b2bfede62135a8cc6c1313c47996f"), looks := false }, kinds := [], alts := [], laidByText := true, laidKinds := [.data, .pinned], laidTests := true, laidLooks := .later }
def ErasAbbrsCardSaid : Prop := Claim7.holds Tryd.pinned (.plain (OpenSpec.ofChange erasAbbrsSpec)) erasAbbrsCard

/-- THE TIED CARD OF 'analemmalaw12.ErasAlone'. -/
def erasAloneCard : Claim7 := { stood := { row := erasAloneRow, standIns := [], harness := (true, "7ca510989cec0c2bd363a3a27cc69623278b2bfede62135a8cc6c1313c47996f"), looks := false }, kinds := [], alts := [], laidByText := true, laidKinds := [.data, .pinned], laidTests := true, laidLooks := .later }
def ErasAloneCardSaid : Prop := Claim7.holds Tryd.pinned (.plain (OpenSpec.ofChange erasAloneSpec)) erasAloneCard

/-- THE TIED CARD OF 'analemmalaw12.ErasHold'. -/
def erasHoldCard : Claim7 := { stood := { row := erasHoldRow, standIns := [], harness := (true, "7ca510989cec0c2bd363a3a27cc69623278b2bfede62135a8cc6c1313c47996f"), looks := false }, kinds := [], alts := [], laidByText := true, laidKinds := [.data, .pinned], laidTests := true, laidLooks := .later }
def ErasHoldCardSaid : Prop := Claim7.holds Tryd.pinned (.plain (OpenSpec.ofChange erasHoldSpec)) erasHoldCard

/-- THE SECOND FORM's CARD OF 'analemmalaw12.ErasAbbrs'. -/
def erasAbbrsUptoCard : Claim7 := { stood := { row := erasAbbrsUptoRow, standIns := [], harness := (true, "7ca510989cec0c2bd363a3a27cc69623278b2bfede62135a8cc6c1313c47996f"), looks := false }, kinds := [], alts := [], laidByText := true, laidKinds := [.data, .pinned], laidTests := true, laidLooks := .later }
def ErasAbbrsUptoCardSaid : Prop := Claim7.holds Tryd.pinned (.plain (OpenSpec.upto erasAbbrsSpec)) erasAbbrsUptoCard

/-- THE SECOND FORM's CARD OF 'analemmalaw12.ErasAlone'. -/
def erasAloneUptoCard : Claim7 := { stood := { row := erasAloneUptoRow, standIns := [], harness := (true, "7ca510989cec0c2bd363a3a27cc69623278b2bfede62135a8cc6c1313c47996f"), looks := false }, kinds := [], alts := [], laidByText := true, laidKinds := [.data, .pinned], laidTests := true, laidLooks := .later }
def ErasAloneUptoCardSaid : Prop := Claim7.holds Tryd.pinned (.plain (OpenSpec.upto erasAloneSpec)) erasAloneUptoCard

/-- THE SECOND FORM's CARD OF 'analemmalaw12.ErasHold'. -/
def erasHoldUptoCard : Claim7 := { stood := { row := erasHoldUptoRow, standIns := [], harness := (true, "7ca510989cec0c2bd363a3a27cc69623278b2bfede62135a8cc6c1313c47996f"), looks := false }, kinds := [], alts := [], laidByText := true, laidKinds := [.data, .pinned], laidTests := true, laidLooks := .later }
def ErasHoldUptoCardSaid : Prop := Claim7.holds Tryd.pinned (.plain (OpenSpec.upto erasHoldSpec)) erasHoldUptoCard
end Rows
end Go.Proofs.YtcjnficcggjeiaaDoor
