/-
  DERIVED. GIVEN WITH THE SEED: THE CARDS: each row of YtjdpljkildlfaaaGreatDoorRows.lean that lists a variable, with what it lists TIED to the program's text (the seventh form; the later family's looks); each row that meets fmt, with fmt's text TOLD by the authors' own Lean function (tested against real Go, not proved from fmt's source: count such statements apart). THE CARD IS WHAT COUNTS. Prove the row's statement (the work); the ties are given (YtjdpljkildlfaaaGreatDoorTie.lean); close each card by the builder's one call (the guide's Derived/Test/ToyasCard.lean, 'card_holds'). Laid BY PROGRAM, IN A SANDBOX (cutbox-door.mjs). By AI agents, Wed Nov 11 2026. No macro, syntax, notation, axiom, sorry.
-/
import Derived.Test.YtjdpljkildlfaaaGreatDoorRows
import GoSem.ClaimSeven
namespace Go.Proofs.YtjdpljkildlfaaaGreatDoor
namespace Rows

/-- THE TIED CARD OF 'abaculuslaw18.TreeChecks'. -/
def treeChecksCard : Claim7 := { stood := { row := treeChecksRow, standIns := [], harness := (true, "0e10138a43ec33ebe7e2e5a31dc5b9d0f411baf0d94b16c93ae7370d5e108eef"), looks := false }, kinds := [], alts := [], laidByText := true, laidKinds := [.data, .data, .data], laidTests := true, laidLooks := .later }
def TreeChecksCardSaid : Prop := Claim7.holds Tryz.pinned (.plain (OpenSpec.ofChange treeChecksSpec)) treeChecksCard

/-- THE SECOND FORM's CARD OF 'abaculuslaw18.TreeChecks'. -/
def treeChecksUptoCard : Claim7 := { stood := { row := treeChecksUptoRow, standIns := [], harness := (true, "0e10138a43ec33ebe7e2e5a31dc5b9d0f411baf0d94b16c93ae7370d5e108eef"), looks := false }, kinds := [], alts := [], laidByText := true, laidKinds := [.data, .data, .data], laidTests := true, laidLooks := .later }
def TreeChecksUptoCardSaid : Prop := Claim7.holds Tryz.pinned (.plain (OpenSpec.upto treeChecksSpec)) treeChecksUptoCard
end Rows
end Go.Proofs.YtjdpljkildlfaaaGreatDoor
