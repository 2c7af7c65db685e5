/-
  DERIVED. GIVEN WITH THE SEED: THE CARDS: each row of YtemjdecbmaobkaaGreatDoorRows.lean that lists a variable, with what it lists TIED to the program's text (the seventh form; the later family's looks); each row that meets fmt, with fmt's text TOLD by the authors' own Lean function (tested against real Go, not proved from fmt's source: count such statements apart). THE CARD IS WHAT COUNTS. Prove the row's statement (the work); the ties are given (YtemjdecbmaobkaaGreatDoorTie.lean); close each card by the builder's one call (the guide's Derived/Test/ToyasCard.lean, 'card_holds'). Laid BY PROGRAM, IN A SANDBOX (cutbox-door.mjs). By AI agents, Wed Nov 11 2026. No macro, syntax, notation, axiom, sorry.
-/
import Derived.Test.YtemjdecbmaobkaaGreatDoorRows
import GoSem.ClaimSeven
namespace Go.Proofs.YtemjdecbmaobkaaGreatDoor
namespace Rows

/-- THE TIED CARD OF 'abaculuslaw17.GainKnown'. -/
def gainKnownCard : Claim7 := { stood := { row := gainKnownRow, standIns := [], harness := (true, "32a512e9eb0490d32e55568c5fcba9c63e6037e3daf059242b71df2af15b435a"), looks := false }, kinds := [], alts := [], laidByText := true, laidKinds := [.data], laidTests := true, laidLooks := .later }
def GainKnownCardSaid : Prop := Claim7.holds Tryz.pinned (.plain (OpenSpec.ofChange gainKnownSpec)) gainKnownCard

/-- THE SECOND FORM's CARD OF 'abaculuslaw17.GainKnown'. -/
def gainKnownUptoCard : Claim7 := { stood := { row := gainKnownUptoRow, standIns := [], harness := (true, "32a512e9eb0490d32e55568c5fcba9c63e6037e3daf059242b71df2af15b435a"), looks := false }, kinds := [], alts := [], laidByText := true, laidKinds := [.data], laidTests := true, laidLooks := .later }
def GainKnownUptoCardSaid : Prop := Claim7.holds Tryz.pinned (.plain (OpenSpec.upto gainKnownSpec)) gainKnownUptoCard
end Rows
end Go.Proofs.YtemjdecbmaobkaaGreatDoor
