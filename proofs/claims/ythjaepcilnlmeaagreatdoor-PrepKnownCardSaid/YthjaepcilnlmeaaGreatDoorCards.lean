/-
  DERIVED. GIVEN WITH THE SEED: THE CARDS: each row of YthjaepcilnlmeaaGreatDoorRows.lean that lists a variable, with what it lists TIED to the program's text (the seventh form; the later family's looks); each row that meets fmt, with fmt's text TOLD by the authors' own Lean function (tested against real Go, not proved from fmt's source: count such statements apart). THE CARD IS WHAT COUNTS. Prove the row's statement (the work); the ties are given (YthjaepcilnlmeaaGreatDoorTie.lean); close each card by the builder's one call (the guide's Derived/Test/ToyasCard.lean, 'card_holds'). Laid BY PROGRAM, IN A SANDBOX (cutbox-door.mjs). By AI agents, Wed Nov 11 2026. No macro, syntax, notation, axiom, sorry.
-/
import Derived.Test.YthjaepcilnlmeaaGreatDoorRows
import GoSem.ClaimSeven
namespace Go.Proofs.YthjaepcilnlmeaaGreatDoor
namespace Rows

/-- THE TIED CARD OF 'abaculuslaw7.PrepKnown'. -/
def prepKnownCard : Claim7 := { stood := { row := prepKnownRow, standIns := [], harness := (true, "83e8a7452ef7a6a0a8aa77003f8240ff95532bf866f4dd1b687e8726dce78607"), looks := false }, kinds := [], alts := [], laidByText := true, laidKinds := [.data, .data, .pinned], laidTests := true, laidLooks := .later }
def PrepKnownCardSaid : Prop := Claim7.holds Tryz.pinned (.plain (OpenSpec.ofChange prepKnownSpec)) prepKnownCard

/-- THE SECOND FORM's CARD OF 'abaculuslaw7.PrepKnown'. -/
def prepKnownUptoCard : Claim7 := { stood := { row := prepKnownUptoRow, standIns := [], harness := (true, "83e8a7452ef7a6a0a8aa77003f8240ff95532bf866f4dd1b687e8726dce78607"), looks := false }, kinds := [], alts := [], laidByText := true, laidKinds := [.data, .data, .pinned], laidTests := true, laidLooks := .later }
def PrepKnownUptoCardSaid : Prop := Claim7.holds Tryz.pinned (.plain (OpenSpec.upto prepKnownSpec)) prepKnownUptoCard
end Rows
end Go.Proofs.YthjaepcilnlmeaaGreatDoor
