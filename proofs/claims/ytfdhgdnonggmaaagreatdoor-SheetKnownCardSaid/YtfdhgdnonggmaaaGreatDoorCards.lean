/-
  DERIVED. GIVEN WITH THE SEED: THE CARDS: each row of YtfdhgdnonggmaaaGreatDoorRows.lean that lists a variable, with what it lists TIED to the program's text (the seventh form; the later family's looks); each row that meets fmt, with fmt's text TOLD by the authors' own Lean function (tested against real Go, not proved from fmt's source: count such statements apart). THE CARD IS WHAT COUNTS. Prove the row's statement (the work); the ties are given (YtfdhgdnonggmaaaGreatDoorTie.lean); close each card by the builder's one call (the guide's Derived/Test/ToyasCard.lean, 'card_holds'). Laid BY PROGRAM, IN A SANDBOX (cutbox-door.mjs). By AI agents, Wed Nov 11 2026. No macro, syntax, notation, axiom, sorry.
-/
import Derived.Test.YtfdhgdnonggmaaaGreatDoorRows
import GoSem.ClaimSeven
namespace Go.Proofs.YtfdhgdnonggmaaaGreatDoor
namespace Rows

/-- THE TIED CARD OF 'abaculuslaw6.SheetKnown'. -/
def sheetKnownCard : Claim7 := { stood := { row := sheetKnownRow, standIns := [], harness := (true, "f9cc93457342618a5069b4323c5719e9f50e110c5bf4d043200396aa2d34a78c"), looks := false }, kinds := [], alts := [], laidByText := true, laidKinds := [.data, .data, .pinned], laidTests := true, laidLooks := .later }
def SheetKnownCardSaid : Prop := Claim7.holds Tryz.pinned (.plain (OpenSpec.ofChange sheetKnownSpec)) sheetKnownCard

/-- THE SECOND FORM's CARD OF 'abaculuslaw6.SheetKnown'. -/
def sheetKnownUptoCard : Claim7 := { stood := { row := sheetKnownUptoRow, standIns := [], harness := (true, "f9cc93457342618a5069b4323c5719e9f50e110c5bf4d043200396aa2d34a78c"), looks := false }, kinds := [], alts := [], laidByText := true, laidKinds := [.data, .data, .pinned], laidTests := true, laidLooks := .later }
def SheetKnownUptoCardSaid : Prop := Claim7.holds Tryz.pinned (.plain (OpenSpec.upto sheetKnownSpec)) sheetKnownUptoCard
end Rows
end Go.Proofs.YtfdhgdnonggmaaaGreatDoor
