/-
  DERIVED. GIVEN WITH THE SEED: THE CARDS: each row of YtnejmfoednmkhaaGreatDoorRows.lean that lists a variable, with what it lists TIED to the program's text (the seventh form; the later family's looks); each row that meets fmt, with fmt's text TOLD by the authors' own Lean function (tested against real Go, not proved from fmt's source: count such statements apart). THE CARD IS WHAT COUNTS. Prove the row's statement (the work); the ties are given (YtnejmfoednmkhaaGreatDoorTie.lean); close each card by the builder's one call (the guide's Derived/Test/ToyasCard.lean, 'card_holds'). Laid BY PROGRAM, IN A SANDBOX (cutbox-door.mjs). By AI agents, Wed Nov 11 2026. No macro, syntax, notation, axiom, sorry.
-/
import Derived.Test.YtnejmfoednmkhaaGreatDoorRows
import GoSem.ClaimSeven
namespace Go.Proofs.YtnejmfoednmkhaaGreatDoor
namespace Rows

/-- THE TIED CARD OF 'abaculuslaw21.BoostFits'. -/
def boostFitsCard : Claim7 := { stood := { row := boostFitsRow, standIns := [], harness := (true, "e5993dcbf73e88a97430632a1a7450a1880d21764470d6c80258f21d8a7da90c"), looks := false }, kinds := [], alts := [], laidByText := true, laidKinds := [.data], laidTests := true, laidLooks := .later }
def BoostFitsCardSaid : Prop := Claim7.holds Tryz.pinned (.plain (OpenSpec.ofChange boostFitsSpec)) boostFitsCard

/-- THE TIED CARD OF 'abaculuslaw21.BoostMoves'. -/
def boostMovesCard : Claim7 := { stood := { row := boostMovesRow, standIns := [], harness := (true, "e5993dcbf73e88a97430632a1a7450a1880d21764470d6c80258f21d8a7da90c"), looks := false }, kinds := [], alts := [], laidByText := true, laidKinds := [.data], laidTests := true, laidLooks := .later }
def BoostMovesCardSaid : Prop := Claim7.holds Tryz.pinned (.plain (OpenSpec.ofChange boostMovesSpec)) boostMovesCard

/-- THE TIED CARD OF 'abaculuslaw21.BoostFalls'. -/
def boostFallsCard : Claim7 := { stood := { row := boostFallsRow, standIns := [], harness := (true, "e5993dcbf73e88a97430632a1a7450a1880d21764470d6c80258f21d8a7da90c"), looks := false }, kinds := [], alts := [], laidByText := true, laidKinds := [.data], laidTests := true, laidLooks := .later }
def BoostFallsCardSaid : Prop := Claim7.holds Tryz.pinned (.plain (OpenSpec.ofChange boostFallsSpec)) boostFallsCard

/-- THE TIED CARD OF 'abaculuslaw21.BoostChecks'. -/
def boostChecksCard : Claim7 := { stood := { row := boostChecksRow, standIns := [], harness := (true, "e5993dcbf73e88a97430632a1a7450a1880d21764470d6c80258f21d8a7da90c"), looks := false }, kinds := [], alts := [], laidByText := true, laidKinds := [.data], laidTests := true, laidLooks := .later }
def BoostChecksCardSaid : Prop := Claim7.holds Tryz.pinned (.plain (OpenSpec.ofChange boostChecksSpec)) boostChecksCard

/-- THE TIED CARD OF 'abaculuslaw21.BoostTells'. -/
def boostTellsCard : Claim7 := { stood := { row := boostTellsRow, standIns := [], harness := (true, "e5993dcbf73e88a97430632a1a7450a1880d21764470d6c80258f21d8a7da90c"), looks := false }, kinds := [], alts := [], laidByText := true, laidKinds := [.data], laidTests := true, laidLooks := .later }
def BoostTellsCardSaid : Prop := Claim7.holds Tryz.pinned (.plain (OpenSpec.ofChange boostTellsSpec)) boostTellsCard

/-- THE TIED CARD OF 'abaculuslaw21.BoostOrder'. -/
def boostOrderCard : Claim7 := { stood := { row := boostOrderRow, standIns := [], harness := (true, "e5993dcbf73e88a97430632a1a7450a1880d21764470d6c80258f21d8a7da90c"), looks := false }, kinds := [], alts := [], laidByText := true, laidKinds := [.data], laidTests := true, laidLooks := .later }
def BoostOrderCardSaid : Prop := Claim7.holds Tryz.pinned (.plain (OpenSpec.ofChange boostOrderSpec)) boostOrderCard

/-- THE SECOND FORM's CARD OF 'abaculuslaw21.BoostFits'. -/
def boostFitsUptoCard : Claim7 := { stood := { row := boostFitsUptoRow, standIns := [], harness := (true, "e5993dcbf73e88a97430632a1a7450a1880d21764470d6c80258f21d8a7da90c"), looks := false }, kinds := [], alts := [], laidByText := true, laidKinds := [.data], laidTests := true, laidLooks := .later }
def BoostFitsUptoCardSaid : Prop := Claim7.holds Tryz.pinned (.plain (OpenSpec.upto boostFitsSpec)) boostFitsUptoCard

/-- THE SECOND FORM's CARD OF 'abaculuslaw21.BoostMoves'. -/
def boostMovesUptoCard : Claim7 := { stood := { row := boostMovesUptoRow, standIns := [], harness := (true, "e5993dcbf73e88a97430632a1a7450a1880d21764470d6c80258f21d8a7da90c"), looks := false }, kinds := [], alts := [], laidByText := true, laidKinds := [.data], laidTests := true, laidLooks := .later }
def BoostMovesUptoCardSaid : Prop := Claim7.holds Tryz.pinned (.plain (OpenSpec.upto boostMovesSpec)) boostMovesUptoCard

/-- THE SECOND FORM's CARD OF 'abaculuslaw21.BoostFalls'. -/
def boostFallsUptoCard : Claim7 := { stood := { row := boostFallsUptoRow, standIns := [], harness := (true, "e5993dcbf73e88a97430632a1a7450a1880d21764470d6c80258f21d8a7da90c"), looks := false }, kinds := [], alts := [], laidByText := true, laidKinds := [.data], laidTests := true, laidLooks := .later }
def BoostFallsUptoCardSaid : Prop := Claim7.holds Tryz.pinned (.plain (OpenSpec.upto boostFallsSpec)) boostFallsUptoCard

/-- THE SECOND FORM's CARD OF 'abaculuslaw21.BoostChecks'. -/
def boostChecksUptoCard : Claim7 := { stood := { row := boostChecksUptoRow, standIns := [], harness := (true, "e5993dcbf73e88a97430632a1a7450a1880d21764470d6c80258f21d8a7da90c"), looks := false }, kinds := [], alts := [], laidByText := true, laidKinds := [.data], laidTests := true, laidLooks := .later }
def BoostChecksUptoCardSaid : Prop := Claim7.holds Tryz.pinned (.plain (OpenSpec.upto boostChecksSpec)) boostChecksUptoCard

/-- THE SECOND FORM's CARD OF 'abaculuslaw21.BoostTells'. -/
def boostTellsUptoCard : Claim7 := { stood := { row := boostTellsUptoRow, standIns := [], harness := (true, "e5993dcbf73e88a97430632a1a7450a1880d21764470d6c80258f21d8a7da90c"), looks := false }, kinds := [], alts := [], laidByText := true, laidKinds := [.data], laidTests := true, laidLooks := .later }
def BoostTellsUptoCardSaid : Prop := Claim7.holds Tryz.pinned (.plain (OpenSpec.upto boostTellsSpec)) boostTellsUptoCard

/-- THE SECOND FORM's CARD OF 'abaculuslaw21.BoostOrder'. -/
def boostOrderUptoCard : Claim7 := { stood := { row := boostOrderUptoRow, standIns := [], harness := (true, "e5993dcbf73e88a97430632a1a7450a1880d21764470d6c80258f21d8a7da90c"), looks := false }, kinds := [], alts := [], laidByText := true, laidKinds := [.data], laidTests := true, laidLooks := .later }
def BoostOrderUptoCardSaid : Prop := Claim7.holds Tryz.pinned (.plain (OpenSpec.upto boostOrderSpec)) boostOrderUptoCard
end Rows
end Go.Proofs.YtnejmfoednmkhaaGreatDoor
