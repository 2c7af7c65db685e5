/-
  DERIVED. GIVEN WITH THE SEED: THE CARDS: each row of YtgjepkeeeemppaaGreatDoorRows.lean that lists a variable, with what it lists TIED to the program's text (the seventh form; the later family's looks); each row that meets fmt, with fmt's text TOLD by the authors' own Lean function (tested against real Go, not proved from fmt's source: count such statements apart). THE CARD IS WHAT COUNTS. Prove the row's statement (the work); the ties are given (YtgjepkeeeemppaaGreatDoorTie.lean); close each card by the builder's one call (the guide's Derived/Test/ToyasCard.lean, 'card_holds'). Laid BY PROGRAM, IN A SANDBOX (cutbox-door.mjs). By AI agents, Wed Nov 11 2026. No macro, syntax, notation, axiom, sorry.
-/
import Derived.Test.YtgjepkeeeemppaaGreatDoorRows
import GoSem.ClaimSeven
namespace Go.Proofs.YtgjepkeeeemppaaGreatDoor
namespace Rows

/-- THE TIED CARD OF 'abaculuslaw20.ForestChecks'. -/
def forestChecksCard : Claim7 := { stood := { row := forestChecksRow, standIns := [], harness := (true, "02097ccb5233c65db46c4a71d4f06157719ad7664f4b5f3592c43d2c68844594"), looks := false }, kinds := [], alts := [], laidByText := true, laidKinds := [.data], laidTests := true, laidLooks := .later }
def ForestChecksCardSaid : Prop := Claim7.holds Tryz.pinned (.plain (OpenSpec.ofChange forestChecksSpec)) forestChecksCard

/-- THE TIED CARD OF 'abaculuslaw20.ForestTells'. -/
def forestTellsCard : Claim7 := { stood := { row := forestTellsRow, standIns := [], harness := (true, "02097ccb5233c65db46c4a71d4f06157719ad7664f4b5f3592c43d2c68844594"), looks := false }, kinds := [], alts := [], laidByText := true, laidKinds := [.data], laidTests := true, laidLooks := .later }
def ForestTellsCardSaid : Prop := Claim7.holds Tryz.pinned (.plain (OpenSpec.ofChange forestTellsSpec)) forestTellsCard

/-- THE SECOND FORM's CARD OF 'abaculuslaw20.ForestChecks'. -/
def forestChecksUptoCard : Claim7 := { stood := { row := forestChecksUptoRow, standIns := [], harness := (true, "02097ccb5233c65db46c4a71d4f06157719ad7664f4b5f3592c43d2c68844594"), looks := false }, kinds := [], alts := [], laidByText := true, laidKinds := [.data], laidTests := true, laidLooks := .later }
def ForestChecksUptoCardSaid : Prop := Claim7.holds Tryz.pinned (.plain (OpenSpec.upto forestChecksSpec)) forestChecksUptoCard

/-- THE SECOND FORM's CARD OF 'abaculuslaw20.ForestTells'. -/
def forestTellsUptoCard : Claim7 := { stood := { row := forestTellsUptoRow, standIns := [], harness := (true, "02097ccb5233c65db46c4a71d4f06157719ad7664f4b5f3592c43d2c68844594"), looks := false }, kinds := [], alts := [], laidByText := true, laidKinds := [.data], laidTests := true, laidLooks := .later }
def ForestTellsUptoCardSaid : Prop := Claim7.holds Tryz.pinned (.plain (OpenSpec.upto forestTellsSpec)) forestTellsUptoCard
end Rows
end Go.Proofs.YtgjepkeeeemppaaGreatDoor
