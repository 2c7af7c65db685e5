/-
  DERIVED. GIVEN WITH THE SEED: THE CARDS: each row of YtplhljjljnkhpaaGreatDoorRows.lean that lists a variable, with what it lists TIED to the program's text (the seventh form; the later family's looks); each row that meets fmt, with fmt's text TOLD by the authors' own Lean function (tested against real Go, not proved from fmt's source: count such statements apart). THE CARD IS WHAT COUNTS. Prove the row's statement (the work); the ties are given (YtplhljjljnkhpaaGreatDoorTie.lean); close each card by the builder's one call (the guide's Derived/Test/ToyasCard.lean, 'card_holds'). Laid BY PROGRAM, IN A SANDBOX (cutbox-door.mjs). By AI agents, Wed Nov 11 2026. No macro, syntax, notation, axiom, sorry.
-/
import Derived.Test.YtplhljjljnkhpaaGreatDoorRows
import GoSem.ClaimSeven
namespace Go.Proofs.YtplhljjljnkhpaaGreatDoor
namespace Rows

/-- THE TIED CARD OF 'abaculuslaw20.ForestGrows'. -/
def forestGrowsCard : Claim7 := { stood := { row := forestGrowsRow, standIns := [], harness := (true, "9ca6b8e7071dd2eda0036b23f3af416605fef00bfbb9be1ad82520c57c791fde"), looks := false }, kinds := [], alts := [], laidByText := true, laidKinds := [.data], laidTests := true, laidLooks := .later }
def ForestGrowsCardSaid : Prop := Claim7.holds Tryz.pinned (.plain (OpenSpec.ofChange forestGrowsSpec)) forestGrowsCard

/-- THE TIED CARD OF 'abaculuslaw20.ForestFew'. -/
def forestFewCard : Claim7 := { stood := { row := forestFewRow, standIns := [], harness := (true, "9ca6b8e7071dd2eda0036b23f3af416605fef00bfbb9be1ad82520c57c791fde"), looks := false }, kinds := [], alts := [], laidByText := true, laidKinds := [.data], laidTests := true, laidLooks := .later }
def ForestFewCardSaid : Prop := Claim7.holds Tryz.pinned (.plain (OpenSpec.ofChange forestFewSpec)) forestFewCard

/-- THE TIED CARD OF 'abaculuslaw20.ForestMeans'. -/
def forestMeansCard : Claim7 := { stood := { row := forestMeansRow, standIns := [], harness := (true, "9ca6b8e7071dd2eda0036b23f3af416605fef00bfbb9be1ad82520c57c791fde"), looks := false }, kinds := [], alts := [], laidByText := true, laidKinds := [.data], laidTests := true, laidLooks := .later }
def ForestMeansCardSaid : Prop := Claim7.holds Tryz.pinned (.plain (OpenSpec.ofChange forestMeansSpec)) forestMeansCard

/-- THE SECOND FORM's CARD OF 'abaculuslaw20.ForestGrows'. -/
def forestGrowsUptoCard : Claim7 := { stood := { row := forestGrowsUptoRow, standIns := [], harness := (true, "9ca6b8e7071dd2eda0036b23f3af416605fef00bfbb9be1ad82520c57c791fde"), looks := false }, kinds := [], alts := [], laidByText := true, laidKinds := [.data], laidTests := true, laidLooks := .later }
def ForestGrowsUptoCardSaid : Prop := Claim7.holds Tryz.pinned (.plain (OpenSpec.upto forestGrowsSpec)) forestGrowsUptoCard

/-- THE SECOND FORM's CARD OF 'abaculuslaw20.ForestFew'. -/
def forestFewUptoCard : Claim7 := { stood := { row := forestFewUptoRow, standIns := [], harness := (true, "9ca6b8e7071dd2eda0036b23f3af416605fef00bfbb9be1ad82520c57c791fde"), looks := false }, kinds := [], alts := [], laidByText := true, laidKinds := [.data], laidTests := true, laidLooks := .later }
def ForestFewUptoCardSaid : Prop := Claim7.holds Tryz.pinned (.plain (OpenSpec.upto forestFewSpec)) forestFewUptoCard

/-- THE SECOND FORM's CARD OF 'abaculuslaw20.ForestMeans'. -/
def forestMeansUptoCard : Claim7 := { stood := { row := forestMeansUptoRow, standIns := [], harness := (true, "9ca6b8e7071dd2eda0036b23f3af416605fef00bfbb9be1ad82520c57c791fde"), looks := false }, kinds := [], alts := [], laidByText := true, laidKinds := [.data], laidTests := true, laidLooks := .later }
def ForestMeansUptoCardSaid : Prop := Claim7.holds Tryz.pinned (.plain (OpenSpec.upto forestMeansSpec)) forestMeansUptoCard
end Rows
end Go.Proofs.YtplhljjljnkhpaaGreatDoor
