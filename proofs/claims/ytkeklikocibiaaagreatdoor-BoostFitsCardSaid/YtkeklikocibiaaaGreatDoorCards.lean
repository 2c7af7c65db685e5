/-
  DERIVED. GIVEN WITH THE SEED: THE CARDS: each row of YtkeklikocibiaaaGreatDoorRows.lean that lists a variable, with what it lists TIED to the program's text (the seventh form; the later family's looks); each row that meets fmt, with fmt's text TOLD by the authors' own Lean function (tested against real Go, not proved from fmt's source: count such statements apart). THE CARD IS WHAT COUNTS. Prove the row's statement (the work); the ties are given (YtkeklikocibiaaaGreatDoorTie.lean); close each card by the builder's one call (the guide's Derived/Test/ToyasCard.lean, 'card_holds'). Laid BY PROGRAM, IN A SANDBOX (cutbox-door.mjs). By AI agents, Wed Nov 11 2026. No macro, syntax, notation, axiom, sorry.
-/
import Derived.Test.YtkeklikocibiaaaGreatDoorRows
import GoSem.ClaimSeven
namespace Go.Proofs.YtkeklikocibiaaaGreatDoor
namespace Rows

/-- THE TIED CARD OF 'abaculuslaw21.BoostFits'. -/
def boostFitsCard : Claim7 := { stood := { row := boostFitsRow, standIns := [], harness := (true, "9ac9c2b2c68a0562ed7b7a4f681921c1452e39d55dc1f49be81adcebddc9ee4d"), looks := false }, kinds := [], alts := [], laidByText := true, laidKinds := [.data], laidTests := true, laidLooks := .later }
def BoostFitsCardSaid : Prop := Claim7.holds Tryz.pinned (.plain (OpenSpec.ofChange boostFitsSpec)) boostFitsCard

/-- THE SECOND FORM's CARD OF 'abaculuslaw21.BoostFits'. -/
def boostFitsUptoCard : Claim7 := { stood := { row := boostFitsUptoRow, standIns := [], harness := (true, "9ac9c2b2c68a0562ed7b7a4f681921c1452e39d55dc1f49be81adcebddc9ee4d"), looks := false }, kinds := [], alts := [], laidByText := true, laidKinds := [.data], laidTests := true, laidLooks := .later }
def BoostFitsUptoCardSaid : Prop := Claim7.holds Tryz.pinned (.plain (OpenSpec.upto boostFitsSpec)) boostFitsUptoCard
end Rows
end Go.Proofs.YtkeklikocibiaaaGreatDoor
