/-
  DERIVED. GIVEN WITH THE SEED: THE CARDS: each row of YtbcfidllfimehaaGreatDoorRows.lean that lists a variable, with what it lists TIED to the program's text (the seventh form; the later family's looks); each row that meets fmt, with fmt's text TOLD by the authors' own Lean function (tested against real Go, not proved from fmt's source: count such statements apart). THE CARD IS WHAT COUNTS. Prove the row's statement (the work); the ties are given (YtbcfidllfimehaaGreatDoorTie.lean); close each card by the builder's one call (the guide's Derived/Test/ToyasCard.lean, 'card_holds'). Laid BY PROGRAM, IN A SANDBOX (cutbox-door.mjs). By AI agents, Wed Nov 11 2026. No macro, syntax, notation, axiom, sorry.
-/
import Derived.Test.YtbcfidllfimehaaGreatDoorRows
import GoSem.ClaimSeven
namespace Go.Proofs.YtbcfidllfimehaaGreatDoor
namespace Rows

/-- THE TIED CARD OF 'abaculuslaw6.SheetTexts'. -/
def sheetTextsCard : Claim7 := { stood := { row := sheetTextsRow, standIns := [], harness := (true, "57e04eb047e57c156f2f5add37495bf3d322813fb278f38b01a66282fd699ffd"), looks := false }, kinds := [], alts := [], laidByText := true, laidKinds := [.data, .data, .pinned], laidTests := true, laidLooks := .later }
def SheetTextsCardSaid : Prop := Claim7.holds Tryz.pinned (.plain (OpenSpec.ofChange sheetTextsSpec)) sheetTextsCard

/-- THE TIED CARD OF 'abaculuslaw6.SheetJoins'. -/
def sheetJoinsCard : Claim7 := { stood := { row := sheetJoinsRow, standIns := [], harness := (true, "57e04eb047e57c156f2f5add37495bf3d322813fb278f38b01a66282fd699ffd"), looks := false }, kinds := [], alts := [], laidByText := true, laidKinds := [.data, .data, .pinned], laidTests := true, laidLooks := .later }
def SheetJoinsCardSaid : Prop := Claim7.holds Tryz.pinned (.plain (OpenSpec.ofChange sheetJoinsSpec)) sheetJoinsCard

/-- THE TIED CARD OF 'abaculuslaw6.SheetParts'. -/
def sheetPartsCard : Claim7 := { stood := { row := sheetPartsRow, standIns := [], harness := (true, "57e04eb047e57c156f2f5add37495bf3d322813fb278f38b01a66282fd699ffd"), looks := false }, kinds := [], alts := [], laidByText := true, laidKinds := [.data, .data, .pinned], laidTests := true, laidLooks := .later }
def SheetPartsCardSaid : Prop := Claim7.holds Tryz.pinned (.plain (OpenSpec.ofChange sheetPartsSpec)) sheetPartsCard

/-- THE TIED CARD OF 'abaculuslaw6.SheetChecks'. -/
def sheetChecksCard : Claim7 := { stood := { row := sheetChecksRow, standIns := [], harness := (true, "57e04eb047e57c156f2f5add37495bf3d322813fb278f38b01a66282fd699ffd"), looks := false }, kinds := [], alts := [], laidByText := true, laidKinds := [.data, .data, .data, .data, .pinned], laidTests := true, laidLooks := .later }
def SheetChecksCardSaid : Prop := Claim7.holds Tryz.pinned (.plain (OpenSpec.ofChange sheetChecksSpec)) sheetChecksCard

/-- THE TIED CARD OF 'abaculuslaw6.SheetBack'. -/
def sheetBackCard : Claim7 := { stood := { row := sheetBackRow, standIns := [], harness := (true, "57e04eb047e57c156f2f5add37495bf3d322813fb278f38b01a66282fd699ffd"), looks := false }, kinds := [], alts := [], laidByText := true, laidKinds := [.data, .data, .data, .data, .pinned], laidTests := true, laidLooks := .later }
def SheetBackCardSaid : Prop := Claim7.holds Tryz.pinned (.plain (OpenSpec.ofChange sheetBackSpec)) sheetBackCard

/-- THE SECOND FORM's CARD OF 'abaculuslaw6.SheetTexts'. -/
def sheetTextsUptoCard : Claim7 := { stood := { row := sheetTextsUptoRow, standIns := [], harness := (true, "57e04eb047e57c156f2f5add37495bf3d322813fb278f38b01a66282fd699ffd"), looks := false }, kinds := [], alts := [], laidByText := true, laidKinds := [.data, .data, .pinned], laidTests := true, laidLooks := .later }
def SheetTextsUptoCardSaid : Prop := Claim7.holds Tryz.pinned (.plain (OpenSpec.upto sheetTextsSpec)) sheetTextsUptoCard

/-- THE SECOND FORM's CARD OF 'abaculuslaw6.SheetJoins'. -/
def sheetJoinsUptoCard : Claim7 := { stood := { row := sheetJoinsUptoRow, standIns := [], harness := (true, "57e04eb047e57c156f2f5add37495bf3d322813fb278f38b01a66282fd699ffd"), looks := false }, kinds := [], alts := [], laidByText := true, laidKinds := [.data, .data, .pinned], laidTests := true, laidLooks := .later }
def SheetJoinsUptoCardSaid : Prop := Claim7.holds Tryz.pinned (.plain (OpenSpec.upto sheetJoinsSpec)) sheetJoinsUptoCard

/-- THE SECOND FORM's CARD OF 'abaculuslaw6.SheetParts'. -/
def sheetPartsUptoCard : Claim7 := { stood := { row := sheetPartsUptoRow, standIns := [], harness := (true, "57e04eb047e57c156f2f5add37495bf3d322813fb278f38b01a66282fd699ffd"), looks := false }, kinds := [], alts := [], laidByText := true, laidKinds := [.data, .data, .pinned], laidTests := true, laidLooks := .later }
def SheetPartsUptoCardSaid : Prop := Claim7.holds Tryz.pinned (.plain (OpenSpec.upto sheetPartsSpec)) sheetPartsUptoCard

/-- THE SECOND FORM's CARD OF 'abaculuslaw6.SheetChecks'. -/
def sheetChecksUptoCard : Claim7 := { stood := { row := sheetChecksUptoRow, standIns := [], harness := (true, "57e04eb047e57c156f2f5add37495bf3d322813fb278f38b01a66282fd699ffd"), looks := false }, kinds := [], alts := [], laidByText := true, laidKinds := [.data, .data, .data, .data, .pinned], laidTests := true, laidLooks := .later }
def SheetChecksUptoCardSaid : Prop := Claim7.holds Tryz.pinned (.plain (OpenSpec.upto sheetChecksSpec)) sheetChecksUptoCard

/-- THE SECOND FORM's CARD OF 'abaculuslaw6.SheetBack'. -/
def sheetBackUptoCard : Claim7 := { stood := { row := sheetBackUptoRow, standIns := [], harness := (true, "57e04eb047e57c156f2f5add37495bf3d322813fb278f38b01a66282fd699ffd"), looks := false }, kinds := [], alts := [], laidByText := true, laidKinds := [.data, .data, .data, .data, .pinned], laidTests := true, laidLooks := .later }
def SheetBackUptoCardSaid : Prop := Claim7.holds Tryz.pinned (.plain (OpenSpec.upto sheetBackSpec)) sheetBackUptoCard
end Rows
end Go.Proofs.YtbcfidllfimehaaGreatDoor
