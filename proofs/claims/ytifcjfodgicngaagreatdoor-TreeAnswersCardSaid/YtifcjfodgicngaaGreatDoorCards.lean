/-
  DERIVED. GIVEN WITH THE SEED: THE CARDS: each row of YtifcjfodgicngaaGreatDoorRows.lean that lists a variable, with what it lists TIED to the program's text (the seventh form; the later family's looks); each row that meets fmt, with fmt's text TOLD by the authors' own Lean function (tested against real Go, not proved from fmt's source: count such statements apart). THE CARD IS WHAT COUNTS. Prove the row's statement (the work); the ties are given (YtifcjfodgicngaaGreatDoorTie.lean); close each card by the builder's one call (the guide's Derived/Test/ToyasCard.lean, 'card_holds'). Laid BY PROGRAM, IN A SANDBOX (cutbox-door.mjs). By AI agents, Wed Nov 11 2026. No macro, syntax, notation, axiom, sorry.
-/
import Derived.Test.YtifcjfodgicngaaGreatDoorRows
import GoSem.ClaimSeven
namespace Go.Proofs.YtifcjfodgicngaaGreatDoor
namespace Rows

/-- THE TIED CARD OF 'abaculuslaw18.TreeFits'. -/
def treeFitsCard : Claim7 := { stood := { row := treeFitsRow, standIns := [], harness := (true, "fed07c788cc9bdaba899b136ef81c1da05e666d43429121f2f6133cccec37b41"), looks := false }, kinds := [], alts := [], laidByText := true, laidKinds := [.data, .data, .data], laidTests := true, laidLooks := .later }
def TreeFitsCardSaid : Prop := Claim7.holds Tryz.pinned (.plain (OpenSpec.ofChange treeFitsSpec)) treeFitsCard

/-- THE TIED CARD OF 'abaculuslaw18.TreeGrows'. -/
def treeGrowsCard : Claim7 := { stood := { row := treeGrowsRow, standIns := [], harness := (true, "fed07c788cc9bdaba899b136ef81c1da05e666d43429121f2f6133cccec37b41"), looks := false }, kinds := [], alts := [], laidByText := true, laidKinds := [.data, .data, .data], laidTests := true, laidLooks := .later }
def TreeGrowsCardSaid : Prop := Claim7.holds Tryz.pinned (.plain (OpenSpec.ofChange treeGrowsSpec)) treeGrowsCard

/-- THE TIED CARD OF 'abaculuslaw18.TreeChecks'. -/
def treeChecksCard : Claim7 := { stood := { row := treeChecksRow, standIns := [], harness := (true, "fed07c788cc9bdaba899b136ef81c1da05e666d43429121f2f6133cccec37b41"), looks := false }, kinds := [], alts := [], laidByText := true, laidKinds := [.data, .data, .data], laidTests := true, laidLooks := .later }
def TreeChecksCardSaid : Prop := Claim7.holds Tryz.pinned (.plain (OpenSpec.ofChange treeChecksSpec)) treeChecksCard

/-- THE TIED CARD OF 'abaculuslaw18.TreeAnswers'. -/
def treeAnswersCard : Claim7 := { stood := { row := treeAnswersRow, standIns := [], harness := (true, "fed07c788cc9bdaba899b136ef81c1da05e666d43429121f2f6133cccec37b41"), looks := false }, kinds := [], alts := [], laidByText := true, laidKinds := [.data, .data, .data], laidTests := true, laidLooks := .later }
def TreeAnswersCardSaid : Prop := Claim7.holds Tryz.pinned (.plain (OpenSpec.ofChange treeAnswersSpec)) treeAnswersCard

/-- THE TIED CARD OF 'abaculuslaw18.TreeOrder'. -/
def treeOrderCard : Claim7 := { stood := { row := treeOrderRow, standIns := [], harness := (true, "fed07c788cc9bdaba899b136ef81c1da05e666d43429121f2f6133cccec37b41"), looks := false }, kinds := [], alts := [], laidByText := true, laidKinds := [.data, .data, .data], laidTests := true, laidLooks := .later }
def TreeOrderCardSaid : Prop := Claim7.holds Tryz.pinned (.plain (OpenSpec.ofChange treeOrderSpec)) treeOrderCard

/-- THE TIED CARD OF 'abaculuslaw18.TreeDeeper'. -/
def treeDeeperCard : Claim7 := { stood := { row := treeDeeperRow, standIns := [], harness := (true, "fed07c788cc9bdaba899b136ef81c1da05e666d43429121f2f6133cccec37b41"), looks := false }, kinds := [], alts := [], laidByText := true, laidKinds := [.data, .data, .data], laidTests := true, laidLooks := .later }
def TreeDeeperCardSaid : Prop := Claim7.holds Tryz.pinned (.plain (OpenSpec.ofChange treeDeeperSpec)) treeDeeperCard

/-- THE SECOND FORM's CARD OF 'abaculuslaw18.TreeFits'. -/
def treeFitsUptoCard : Claim7 := { stood := { row := treeFitsUptoRow, standIns := [], harness := (true, "fed07c788cc9bdaba899b136ef81c1da05e666d43429121f2f6133cccec37b41"), looks := false }, kinds := [], alts := [], laidByText := true, laidKinds := [.data, .data, .data], laidTests := true, laidLooks := .later }
def TreeFitsUptoCardSaid : Prop := Claim7.holds Tryz.pinned (.plain (OpenSpec.upto treeFitsSpec)) treeFitsUptoCard

/-- THE SECOND FORM's CARD OF 'abaculuslaw18.TreeGrows'. -/
def treeGrowsUptoCard : Claim7 := { stood := { row := treeGrowsUptoRow, standIns := [], harness := (true, "fed07c788cc9bdaba899b136ef81c1da05e666d43429121f2f6133cccec37b41"), looks := false }, kinds := [], alts := [], laidByText := true, laidKinds := [.data, .data, .data], laidTests := true, laidLooks := .later }
def TreeGrowsUptoCardSaid : Prop := Claim7.holds Tryz.pinned (.plain (OpenSpec.upto treeGrowsSpec)) treeGrowsUptoCard

/-- THE SECOND FORM's CARD OF 'abaculuslaw18.TreeChecks'. -/
def treeChecksUptoCard : Claim7 := { stood := { row := treeChecksUptoRow, standIns := [], harness := (true, "fed07c788cc9bdaba899b136ef81c1da05e666d43429121f2f6133cccec37b41"), looks := false }, kinds := [], alts := [], laidByText := true, laidKinds := [.data, .data, .data], laidTests := true, laidLooks := .later }
def TreeChecksUptoCardSaid : Prop := Claim7.holds Tryz.pinned (.plain (OpenSpec.upto treeChecksSpec)) treeChecksUptoCard

/-- THE SECOND FORM's CARD OF 'abaculuslaw18.TreeAnswers'. -/
def treeAnswersUptoCard : Claim7 := { stood := { row := treeAnswersUptoRow, standIns := [], harness := (true, "fed07c788cc9bdaba899b136ef81c1da05e666d43429121f2f6133cccec37b41"), looks := false }, kinds := [], alts := [], laidByText := true, laidKinds := [.data, .data, .data], laidTests := true, laidLooks := .later }
def TreeAnswersUptoCardSaid : Prop := Claim7.holds Tryz.pinned (.plain (OpenSpec.upto treeAnswersSpec)) treeAnswersUptoCard

/-- THE SECOND FORM's CARD OF 'abaculuslaw18.TreeOrder'. -/
def treeOrderUptoCard : Claim7 := { stood := { row := treeOrderUptoRow, standIns := [], harness := (true, "fed07c788cc9bdaba899b136ef81c1da05e666d43429121f2f6133cccec37b41"), looks := false }, kinds := [], alts := [], laidByText := true, laidKinds := [.data, .data, .data], laidTests := true, laidLooks := .later }
def TreeOrderUptoCardSaid : Prop := Claim7.holds Tryz.pinned (.plain (OpenSpec.upto treeOrderSpec)) treeOrderUptoCard

/-- THE SECOND FORM's CARD OF 'abaculuslaw18.TreeDeeper'. -/
def treeDeeperUptoCard : Claim7 := { stood := { row := treeDeeperUptoRow, standIns := [], harness := (true, "fed07c788cc9bdaba899b136ef81c1da05e666d43429121f2f6133cccec37b41"), looks := false }, kinds := [], alts := [], laidByText := true, laidKinds := [.data, .data, .data], laidTests := true, laidLooks := .later }
def TreeDeeperUptoCardSaid : Prop := Claim7.holds Tryz.pinned (.plain (OpenSpec.upto treeDeeperSpec)) treeDeeperUptoCard
end Rows
end Go.Proofs.YtifcjfodgicngaaGreatDoor
