/-
  DERIVED. GIVEN WITH THE SEED: THE CARDS: each row of YtcjnficcggjeiaaGreatDoorRows.lean that lists a variable, with what it lists TIED to the program's text (the seventh form; the later family's looks); each row that meets fmt, with fmt's text TOLD by the authors' own Lean function (tested against real Go, not proved from fmt's source: count such statements apart). THE CARD IS WHAT COUNTS. Prove the row's statement (the work); the ties are given (YtcjnficcggjeiaaGreatDoorTie.lean); close each card by the builder's one call (the guide's Derived/Test/ToyasCard.lean, 'card_holds'). Laid BY PROGRAM, IN A SANDBOX (cutbox-door.mjs). By AI agents, Wed Nov 11 2026. No macro, syntax, notation, axiom, sorry.
-/
import Derived.Test.YtcjnficcggjeiaaGreatDoorRows
import GoSem.ClaimSeven
namespace Go.Proofs.YtcjnficcggjeiaaGreatDoor
namespace Rows

/-- THE TIED CARD OF 'analemmalaw12.ErasEnds'. -/
def erasEndsCard : Claim7 := { stood := { row := erasEndsRow, standIns := [], harness := (true, "4b906dfbee2c0946dd928f1c4177dc61edc6099c4a9408ff862bee2581f6fd29"), looks := false }, kinds := [], alts := [], laidByText := true, laidKinds := [.data, .pinned], laidTests := true, laidLooks := .later }
def ErasEndsCardSaid : Prop := Claim7.holds Tryz.pinned (.plain (OpenSpec.ofChange erasEndsSpec)) erasEndsCard

/-- THE TIED CARD OF 'analemmalaw12.ErasTell'. -/
def erasTellCard : Claim7 := { stood := { row := erasTellRow, standIns := [], harness := (true, "4b906dfbee2c0946dd928f1c4177dc61edc6099c4a9408ff862bee2581f6fd29"), looks := false }, kinds := [], alts := [], laidByText := true, laidKinds := [.data, .pinned], laidTests := true, laidLooks := .later }
def ErasTellCardSaid : Prop := Claim7.holds Tryz.pinned (.plain (OpenSpec.ofChange erasTellSpec)) erasTellCard

/-- THE TIED CARD OF 'analemmalaw12.ErasPhases'. -/
def erasPhasesCard : Claim7 := { stood := { row := erasPhasesRow, standIns := [], harness := (true, "4b906dfbee2c0946dd928f1c4177dc61edc6099c4a9408ff862bee2581f6fd29"), looks := false }, kinds := [], alts := [], laidByText := true, laidKinds := [.data, .pinned], laidTests := true, laidLooks := .later }
def ErasPhasesCardSaid : Prop := Claim7.holds Tryz.pinned (.plain (OpenSpec.ofChange erasPhasesSpec)) erasPhasesCard

/-- THE SECOND FORM's CARD OF 'analemmalaw12.ErasEnds'. -/
def erasEndsUptoCard : Claim7 := { stood := { row := erasEndsUptoRow, standIns := [], harness := (true, "4b906dfbee2c0946dd928f1c4177dc61edc6099c4a9408ff862bee2581f6fd29"), looks := false }, kinds := [], alts := [], laidByText := true, laidKinds := [.data, .pinned], laidTests := true, laidLooks := .later }
def ErasEndsUptoCardSaid : Prop := Claim7.holds Tryz.pinned (.plain (OpenSpec.upto erasEndsSpec)) erasEndsUptoCard

/-- THE SECOND FORM's CARD OF 'analemmalaw12.ErasTell'. -/
def erasTellUptoCard : Claim7 := { stood := { row := erasTellUptoRow, standIns := [], harness := (true, "4b906dfbee2c0946dd928f1c4177dc61edc6099c4a9408ff862bee2581f6fd29"), looks := false }, kinds := [], alts := [], laidByText := true, laidKinds := [.data, .pinned], laidTests := true, laidLooks := .later }
def ErasTellUptoCardSaid : Prop := Claim7.holds Tryz.pinned (.plain (OpenSpec.upto erasTellSpec)) erasTellUptoCard

/-- THE SECOND FORM's CARD OF 'analemmalaw12.ErasPhases'. -/
def erasPhasesUptoCard : Claim7 := { stood := { row := erasPhasesUptoRow, standIns := [], harness := (true, "4b906dfbee2c0946dd928f1c4177dc61edc6099c4a9408ff862bee2581f6fd29"), looks := false }, kinds := [], alts := [], laidByText := true, laidKinds := [.data, .pinned], laidTests := true, laidLooks := .later }
def ErasPhasesUptoCardSaid : Prop := Claim7.holds Tryz.pinned (.plain (OpenSpec.upto erasPhasesSpec)) erasPhasesUptoCard
end Rows
end Go.Proofs.YtcjnficcggjeiaaGreatDoor
