/-
  DERIVED. GIVEN WITH THE SEED: THE CARDS: each row of YtejljnlfgiifoaaGreatDoorRows.lean that lists a variable, with what it lists TIED to the program's text (the seventh form; the later family's looks); each row that meets fmt, with fmt's text TOLD by the authors' own Lean function (tested against real Go, not proved from fmt's source: count such statements apart). THE CARD IS WHAT COUNTS. Prove the row's statement (the work); the ties are given (YtejljnlfgiifoaaGreatDoorTie.lean); close each card by the builder's one call (the guide's Derived/Test/ToyasCard.lean, 'card_holds'). Laid BY PROGRAM, IN A SANDBOX (cutbox-door.mjs). By AI agents, Wed Nov 11 2026. No macro, syntax, notation, axiom, sorry.
-/
import Derived.Test.YtejljnlfgiifoaaGreatDoorRows
import GoSem.ClaimSeven
namespace Go.Proofs.YtejljnlfgiifoaaGreatDoor
namespace Rows

/-- THE TIED CARD OF 'abaculuslaw17.GainUnits'. -/
def gainUnitsCard : Claim7 := { stood := { row := gainUnitsRow, standIns := [], harness := (true, "a23932566bacb6f8ba2d626ac94888e3d18c479ef050240aa36e016957fe6a0a"), looks := false }, kinds := [], alts := [], laidByText := true, laidKinds := [.data], laidTests := true, laidLooks := .later }
def GainUnitsCardSaid : Prop := Claim7.holds Tryz.pinned (.plain (OpenSpec.ofChange gainUnitsSpec)) gainUnitsCard

/-- THE TIED CARD OF 'abaculuslaw17.GainCosts'. -/
def gainCostsCard : Claim7 := { stood := { row := gainCostsRow, standIns := [], harness := (true, "a23932566bacb6f8ba2d626ac94888e3d18c479ef050240aa36e016957fe6a0a"), looks := false }, kinds := [], alts := [], laidByText := true, laidKinds := [.data], laidTests := true, laidLooks := .later }
def GainCostsCardSaid : Prop := Claim7.holds Tryz.pinned (.plain (OpenSpec.ofChange gainCostsSpec)) gainCostsCard

/-- THE TIED CARD OF 'abaculuslaw17.GainGood'. -/
def gainGoodCard : Claim7 := { stood := { row := gainGoodRow, standIns := [], harness := (true, "a23932566bacb6f8ba2d626ac94888e3d18c479ef050240aa36e016957fe6a0a"), looks := false }, kinds := [], alts := [], laidByText := true, laidKinds := [.data], laidTests := true, laidLooks := .later }
def GainGoodCardSaid : Prop := Claim7.holds Tryz.pinned (.plain (OpenSpec.ofChange gainGoodSpec)) gainGoodCard

/-- THE TIED CARD OF 'abaculuslaw17.GainTells'. -/
def gainTellsCard : Claim7 := { stood := { row := gainTellsRow, standIns := [], harness := (true, "a23932566bacb6f8ba2d626ac94888e3d18c479ef050240aa36e016957fe6a0a"), looks := false }, kinds := [], alts := [], laidByText := true, laidKinds := [.data], laidTests := true, laidLooks := .later }
def GainTellsCardSaid : Prop := Claim7.holds Tryz.pinned (.plain (OpenSpec.ofChange gainTellsSpec)) gainTellsCard

/-- THE SECOND FORM's CARD OF 'abaculuslaw17.GainUnits'. -/
def gainUnitsUptoCard : Claim7 := { stood := { row := gainUnitsUptoRow, standIns := [], harness := (true, "a23932566bacb6f8ba2d626ac94888e3d18c479ef050240aa36e016957fe6a0a"), looks := false }, kinds := [], alts := [], laidByText := true, laidKinds := [.data], laidTests := true, laidLooks := .later }
def GainUnitsUptoCardSaid : Prop := Claim7.holds Tryz.pinned (.plain (OpenSpec.upto gainUnitsSpec)) gainUnitsUptoCard

/-- THE SECOND FORM's CARD OF 'abaculuslaw17.GainCosts'. -/
def gainCostsUptoCard : Claim7 := { stood := { row := gainCostsUptoRow, standIns := [], harness := (true, "a23932566bacb6f8ba2d626ac94888e3d18c479ef050240aa36e016957fe6a0a"), looks := false }, kinds := [], alts := [], laidByText := true, laidKinds := [.data], laidTests := true, laidLooks := .later }
def GainCostsUptoCardSaid : Prop := Claim7.holds Tryz.pinned (.plain (OpenSpec.upto gainCostsSpec)) gainCostsUptoCard

/-- THE SECOND FORM's CARD OF 'abaculuslaw17.GainGood'. -/
def gainGoodUptoCard : Claim7 := { stood := { row := gainGoodUptoRow, standIns := [], harness := (true, "a23932566bacb6f8ba2d626ac94888e3d18c479ef050240aa36e016957fe6a0a"), looks := false }, kinds := [], alts := [], laidByText := true, laidKinds := [.data], laidTests := true, laidLooks := .later }
def GainGoodUptoCardSaid : Prop := Claim7.holds Tryz.pinned (.plain (OpenSpec.upto gainGoodSpec)) gainGoodUptoCard

/-- THE SECOND FORM's CARD OF 'abaculuslaw17.GainTells'. -/
def gainTellsUptoCard : Claim7 := { stood := { row := gainTellsUptoRow, standIns := [], harness := (true, "a23932566bacb6f8ba2d626ac94888e3d18c479ef050240aa36e016957fe6a0a"), looks := false }, kinds := [], alts := [], laidByText := true, laidKinds := [.data], laidTests := true, laidLooks := .later }
def GainTellsUptoCardSaid : Prop := Claim7.holds Tryz.pinned (.plain (OpenSpec.upto gainTellsSpec)) gainTellsUptoCard
end Rows
end Go.Proofs.YtejljnlfgiifoaaGreatDoor
