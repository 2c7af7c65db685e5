/-
  DERIVED. GIVEN WITH THE SEED: THE CARDS: each row of YtcimgilfogeebaaGreatDoorRows.lean that lists a variable, with what it lists TIED to the program's text (the seventh form; the later family's looks); each row that meets fmt, with fmt's text TOLD by the authors' own Lean function (tested against real Go, not proved from fmt's source: count such statements apart). THE CARD IS WHAT COUNTS. Prove the row's statement (the work); the ties are given (YtcimgilfogeebaaGreatDoorTie.lean); close each card by the builder's one call (the guide's Derived/Test/ToyasCard.lean, 'card_holds'). Laid BY PROGRAM, IN A SANDBOX (cutbox-door.mjs). By AI agents, Wed Nov 11 2026. No macro, syntax, notation, axiom, sorry.
-/
import Derived.Test.YtcimgilfogeebaaGreatDoorRows
import GoSem.ClaimSeven
namespace Go.Proofs.YtcimgilfogeebaaGreatDoor
namespace Rows

/-- THE TIED CARD OF 'abaculuslaw21.BoostKnown'. -/
def boostKnownCard : Claim7 := { stood := { row := boostKnownRow, standIns := [], harness := (true, "9a43a04df37a2b81691f62ee4ca91917f665d319e007672ff77f25aa94cbd82b"), looks := false }, kinds := [], alts := [], laidByText := true, laidKinds := [.data], laidTests := true, laidLooks := .later }
def BoostKnownCardSaid : Prop := Claim7.holds Tryz.pinned (.plain (OpenSpec.ofChange boostKnownSpec)) boostKnownCard

/-- THE SECOND FORM's CARD OF 'abaculuslaw21.BoostKnown'. -/
def boostKnownUptoCard : Claim7 := { stood := { row := boostKnownUptoRow, standIns := [], harness := (true, "9a43a04df37a2b81691f62ee4ca91917f665d319e007672ff77f25aa94cbd82b"), looks := false }, kinds := [], alts := [], laidByText := true, laidKinds := [.data], laidTests := true, laidLooks := .later }
def BoostKnownUptoCardSaid : Prop := Claim7.holds Tryz.pinned (.plain (OpenSpec.upto boostKnownSpec)) boostKnownUptoCard
end Rows
end Go.Proofs.YtcimgilfogeebaaGreatDoor
