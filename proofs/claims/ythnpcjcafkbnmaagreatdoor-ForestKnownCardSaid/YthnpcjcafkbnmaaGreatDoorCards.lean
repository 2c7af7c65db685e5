/-
  DERIVED. GIVEN WITH THE SEED: THE CARDS: each row of YthnpcjcafkbnmaaGreatDoorRows.lean that lists a variable, with what it lists TIED to the program's text (the seventh form; the later family's looks); each row that meets fmt, with fmt's text TOLD by the authors' own Lean function (tested against real Go, not proved from fmt's source: count such statements apart). THE CARD IS WHAT COUNTS. Prove the row's statement (the work); the ties are given (YthnpcjcafkbnmaaGreatDoorTie.lean); close each card by the builder's one call (the guide's Derived/Test/ToyasCard.lean, 'card_holds'). Laid BY PROGRAM, IN A SANDBOX (cutbox-door.mjs). By AI agents, Wed Nov 11 2026. No macro, syntax, notation, axiom, sorry.
-/
import Derived.Test.YthnpcjcafkbnmaaGreatDoorRows
import GoSem.ClaimSeven
namespace Go.Proofs.YthnpcjcafkbnmaaGreatDoor
namespace Rows

/-- THE TIED CARD OF 'abaculuslaw20.ForestKnown'. -/
def forestKnownCard : Claim7 := { stood := { row := forestKnownRow, standIns := [], harness := (true, "6b56f243f848b934ce5c47e1fb1c82c00deae50dc05e6372d226b3cd4e49035d"), looks := false }, kinds := [], alts := [], laidByText := true, laidKinds := [.data], laidTests := true, laidLooks := .later }
def ForestKnownCardSaid : Prop := Claim7.holds Tryz.pinned (.plain (OpenSpec.ofChange forestKnownSpec)) forestKnownCard

/-- THE SECOND FORM's CARD OF 'abaculuslaw20.ForestKnown'. -/
def forestKnownUptoCard : Claim7 := { stood := { row := forestKnownUptoRow, standIns := [], harness := (true, "6b56f243f848b934ce5c47e1fb1c82c00deae50dc05e6372d226b3cd4e49035d"), looks := false }, kinds := [], alts := [], laidByText := true, laidKinds := [.data], laidTests := true, laidLooks := .later }
def ForestKnownUptoCardSaid : Prop := Claim7.holds Tryz.pinned (.plain (OpenSpec.upto forestKnownSpec)) forestKnownUptoCard
end Rows
end Go.Proofs.YthnpcjcafkbnmaaGreatDoor
