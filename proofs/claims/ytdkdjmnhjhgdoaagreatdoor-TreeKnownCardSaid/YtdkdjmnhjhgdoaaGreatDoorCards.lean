/-
  DERIVED. GIVEN WITH THE SEED: THE CARDS: each row of YtdkdjmnhjhgdoaaGreatDoorRows.lean that lists a variable, with what it lists TIED to the program's text (the seventh form; the later family's looks); each row that meets fmt, with fmt's text TOLD by the authors' own Lean function (tested against real Go, not proved from fmt's source: count such statements apart). THE CARD IS WHAT COUNTS. Prove the row's statement (the work); the ties are given (YtdkdjmnhjhgdoaaGreatDoorTie.lean); close each card by the builder's one call (the guide's Derived/Test/ToyasCard.lean, 'card_holds'). Laid BY PROGRAM, IN A SANDBOX (cutbox-door.mjs). By AI agents, Wed Nov 11 2026. No macro, syntax, notation, axiom, sorry.
-/
import Derived.Test.YtdkdjmnhjhgdoaaGreatDoorRows
import GoSem.ClaimSeven
namespace Go.Proofs.YtdkdjmnhjhgdoaaGreatDoor
namespace Rows

/-- THE TIED CARD OF 'abaculuslaw18.TreeKnown'. -/
def treeKnownCard : Claim7 := { stood := { row := treeKnownRow, standIns := [], harness := (true, "427fca0dddcea0b4b4efb87994ffc09f0a2da1f9c00133e6c913f251cc8c2d86"), looks := false }, kinds := [], alts := [], laidByText := true, laidKinds := [.data, .data, .data], laidTests := true, laidLooks := .later }
def TreeKnownCardSaid : Prop := Claim7.holds Tryz.pinned (.plain (OpenSpec.ofChange treeKnownSpec)) treeKnownCard

/-- THE SECOND FORM's CARD OF 'abaculuslaw18.TreeKnown'. -/
def treeKnownUptoCard : Claim7 := { stood := { row := treeKnownUptoRow, standIns := [], harness := (true, "427fca0dddcea0b4b4efb87994ffc09f0a2da1f9c00133e6c913f251cc8c2d86"), looks := false }, kinds := [], alts := [], laidByText := true, laidKinds := [.data, .data, .data], laidTests := true, laidLooks := .later }
def TreeKnownUptoCardSaid : Prop := Claim7.holds Tryz.pinned (.plain (OpenSpec.upto treeKnownSpec)) treeKnownUptoCard
end Rows
end Go.Proofs.YtdkdjmnhjhgdoaaGreatDoor
