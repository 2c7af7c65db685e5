/-
  DERIVED. GIVEN WITH THE SEED: THE CARDS: each row of YtjekjlaokjhhgaaGreatDoorRows.lean that lists a variable, with what it lists TIED to the program's text (the seventh form; the later family's looks); each row that meets fmt, with fmt's text TOLD by the authors' own Lean function (tested against real Go, not proved from fmt's source: count such statements apart). THE CARD IS WHAT COUNTS. Prove the row's statement (the work); the ties are given (YtjekjlaokjhhgaaGreatDoorTie.lean); close each card by the builder's one call (the guide's Derived/Test/ToyasCard.lean, 'card_holds'). Laid BY PROGRAM, IN A SANDBOX (cutbox-door.mjs). By AI agents, Wed Nov 11 2026. No macro, syntax, notation, axiom, sorry.
-/
import Derived.Test.YtjekjlaokjhhgaaGreatDoorRows
import GoSem.ClaimSeven
namespace Go.Proofs.YtjekjlaokjhhgaaGreatDoor
namespace Rows

/-- THE TIED CARD OF 'abaculuslaw3.FracTexts'. -/
def fracTextsCard : Claim7 := { stood := { row := fracTextsRow, standIns := [], harness := (true, "1f7d269e61282c4693a3fbe713666a3ebbea4019d0a549ac793a0691058c76db"), looks := false }, kinds := [], alts := [], laidByText := true, laidKinds := [.data, .data, .data, .data, .pinned], laidTests := true, laidLooks := .later }
def FracTextsCardSaid : Prop := Claim7.holds Tryz.pinned (.plain (OpenSpec.ofChange fracTextsSpec)) fracTextsCard

/-- THE TIED CARD OF 'abaculuslaw3.FracForms'. -/
def fracFormsCard : Claim7 := { stood := { row := fracFormsRow, standIns := [], harness := (true, "1f7d269e61282c4693a3fbe713666a3ebbea4019d0a549ac793a0691058c76db"), looks := false }, kinds := [], alts := [], laidByText := true, laidKinds := [.data, .data, .data, .data, .pinned], laidTests := true, laidLooks := .later }
def FracFormsCardSaid : Prop := Claim7.holds Tryz.pinned (.plain (OpenSpec.ofChange fracFormsSpec)) fracFormsCard

/-- THE SECOND FORM's CARD OF 'abaculuslaw3.FracTexts'. -/
def fracTextsUptoCard : Claim7 := { stood := { row := fracTextsUptoRow, standIns := [], harness := (true, "1f7d269e61282c4693a3fbe713666a3ebbea4019d0a549ac793a0691058c76db"), looks := false }, kinds := [], alts := [], laidByText := true, laidKinds := [.data, .data, .data, .data, .pinned], laidTests := true, laidLooks := .later }
def FracTextsUptoCardSaid : Prop := Claim7.holds Tryz.pinned (.plain (OpenSpec.upto fracTextsSpec)) fracTextsUptoCard

/-- THE SECOND FORM's CARD OF 'abaculuslaw3.FracForms'. -/
def fracFormsUptoCard : Claim7 := { stood := { row := fracFormsUptoRow, standIns := [], harness := (true, "1f7d269e61282c4693a3fbe713666a3ebbea4019d0a549ac793a0691058c76db"), looks := false }, kinds := [], alts := [], laidByText := true, laidKinds := [.data, .data, .data, .data, .pinned], laidTests := true, laidLooks := .later }
def FracFormsUptoCardSaid : Prop := Claim7.holds Tryz.pinned (.plain (OpenSpec.upto fracFormsSpec)) fracFormsUptoCard
end Rows
end Go.Proofs.YtjekjlaokjhhgaaGreatDoor
