/-
  DERIVED. GIVEN WITH THE SEED: THE CARDS: each row of YteoollbcdpfkpaaGreatDoorRows.lean that lists a variable, with what it lists TIED to the program's text (the seventh form; the later family's looks); each row that meets fmt, with fmt's text TOLD by the authors' own Lean function (tested against real Go, not proved from fmt's source: count such statements apart). THE CARD IS WHAT COUNTS. Prove the row's statement (the work); the ties are given (YteoollbcdpfkpaaGreatDoorTie.lean); close each card by the builder's one call (the guide's Derived/Test/ToyasCard.lean, 'card_holds'). Laid BY PROGRAM, IN A SANDBOX (cutbox-door.mjs). By AI agents, Wed Nov 11 2026. No macro, syntax, notation, axiom, sorry.
-/
import Derived.Test.YteoollbcdpfkpaaGreatDoorRows
import GoSem.ClaimSeven
namespace Go.Proofs.YteoollbcdpfkpaaGreatDoor
namespace Rows

/-- THE TIED CARD OF 'abaculuslaw21.BoostFits'. -/
def boostFitsCard : Claim7 := { stood := { row := boostFitsRow, standIns := [], harness := (true, "e2748f182fed244fd69555e88ffd4b2bad852108c2a16a6c75db235886b2dfb9"), looks := false }, kinds := [], alts := [], laidByText := true, laidKinds := [.data], laidTests := true, laidLooks := .later }
def BoostFitsCardSaid : Prop := Claim7.holds Tryz.pinned (.plain (OpenSpec.ofChange boostFitsSpec)) boostFitsCard

/-- THE TIED CARD OF 'abaculuslaw21.BoostMoves'. -/
def boostMovesCard : Claim7 := { stood := { row := boostMovesRow, standIns := [], harness := (true, "e2748f182fed244fd69555e88ffd4b2bad852108c2a16a6c75db235886b2dfb9"), looks := false }, kinds := [], alts := [], laidByText := true, laidKinds := [.data], laidTests := true, laidLooks := .later }
def BoostMovesCardSaid : Prop := Claim7.holds Tryz.pinned (.plain (OpenSpec.ofChange boostMovesSpec)) boostMovesCard

/-- THE TIED CARD OF 'abaculuslaw21.BoostFalls'. -/
def boostFallsCard : Claim7 := { stood := { row := boostFallsRow, standIns := [], harness := (true, "e2748f182fed244fd69555e88ffd4b2bad852108c2a16a6c75db235886b2dfb9"), looks := false }, kinds := [], alts := [], laidByText := true, laidKinds := [.data], laidTests := true, laidLooks := .later }
def BoostFallsCardSaid : Prop := Claim7.holds Tryz.pinned (.plain (OpenSpec.ofChange boostFallsSpec)) boostFallsCard

/-- THE TIED CARD OF 'abaculuslaw21.BoostOrder'. -/
def boostOrderCard : Claim7 := { stood := { row := boostOrderRow, standIns := [], harness := (true, "e2748f182fed244fd69555e88ffd4b2bad852108c2a16a6c75db235886b2dfb9"), looks := false }, kinds := [], alts := [], laidByText := true, laidKinds := [.data], laidTests := true, laidLooks := .later }
def BoostOrderCardSaid : Prop := Claim7.holds Tryz.pinned (.plain (OpenSpec.ofChange boostOrderSpec)) boostOrderCard

/-- THE SECOND FORM's CARD OF 'abaculuslaw21.BoostFits'. -/
def boostFitsUptoCard : Claim7 := { stood := { row := boostFitsUptoRow, standIns := [], harness := (true, "e2748f182fed244fd69555e88ffd4b2bad852108c2a16a6c75db235886b2dfb9"), looks := false }, kinds := [], alts := [], laidByText := true, laidKinds := [.data], laidTests := true, laidLooks := .later }
def BoostFitsUptoCardSaid : Prop := Claim7.holds Tryz.pinned (.plain (OpenSpec.upto boostFitsSpec)) boostFitsUptoCard

/-- THE SECOND FORM's CARD OF 'abaculuslaw21.BoostMoves'. -/
def boostMovesUptoCard : Claim7 := { stood := { row := boostMovesUptoRow, standIns := [], harness := (true, "e2748f182fed244fd69555e88ffd4b2bad852108c2a16a6c75db235886b2dfb9"), looks := false }, kinds := [], alts := [], laidByText := true, laidKinds := [.data], laidTests := true, laidLooks := .later }
def BoostMovesUptoCardSaid : Prop := Claim7.holds Tryz.pinned (.plain (OpenSpec.upto boostMovesSpec)) boostMovesUptoCard

/-- THE SECOND FORM's CARD OF 'abaculuslaw21.BoostFalls'. -/
def boostFallsUptoCard : Claim7 := { stood := { row := boostFallsUptoRow, standIns := [], harness := (true, "e2748f182fed244fd69555e88ffd4b2bad852108c2a16a6c75db235886b2dfb9"), looks := false }, kinds := [], alts := [], laidByText := true, laidKinds := [.data], laidTests := true, laidLooks := .later }
def BoostFallsUptoCardSaid : Prop := Claim7.holds Tryz.pinned (.plain (OpenSpec.upto boostFallsSpec)) boostFallsUptoCard

/-- THE SECOND FORM's CARD OF 'abaculuslaw21.BoostOrder'. -/
def boostOrderUptoCard : Claim7 := { stood := { row := boostOrderUptoRow, standIns := [], harness := (true, "e2748f182fed244fd69555e88ffd4b2bad852108c2a16a6c75db235886b2dfb9"), looks := false }, kinds := [], alts := [], laidByText := true, laidKinds := [.data], laidTests := true, laidLooks := .later }
def BoostOrderUptoCardSaid : Prop := Claim7.holds Tryz.pinned (.plain (OpenSpec.upto boostOrderSpec)) boostOrderUptoCard
end Rows
end Go.Proofs.YteoollbcdpfkpaaGreatDoor
