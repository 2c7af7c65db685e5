/-
  DERIVED. GIVEN WITH THE SEED: THE CARDS: each row of YtjifapjpgmmcnaaGreatDoorRows.lean that lists a variable, with what it lists TIED to the program's text (the seventh form; the later family's looks); each row that meets fmt, with fmt's text TOLD by the authors' own Lean function (tested against real Go, not proved from fmt's source: count such statements apart). THE CARD IS WHAT COUNTS. Prove the row's statement (the work); the ties are given (YtjifapjpgmmcnaaGreatDoorTie.lean); close each card by the builder's one call (the guide's Derived/Test/ToyasCard.lean, 'card_holds'). Laid BY PROGRAM, IN A SANDBOX (cutbox-door.mjs). By AI agents, Wed Nov 11 2026. No macro, syntax, notation, axiom, sorry.
-/
import Derived.Test.YtjifapjpgmmcnaaGreatDoorRows
import GoSem.ClaimSeven
namespace Go.Proofs.YtjifapjpgmmcnaaGreatDoor
namespace Rows

/-- THE TIED CARD OF 'abaculuslaw3.FracTexts'. -/
def fracTextsCard : Claim7 := { stood := { row := fracTextsRow, standIns := [], harness := (true, "ca05d794e6ab66cf58a429852bd648cee3dedd9cfdcc25db3dc1ae5d70d33860"), looks := false }, kinds := [], alts := [], laidByText := true, laidKinds := [.data, .data, .data, .data, .pinned], laidTests := true, laidLooks := .later }
def FracTextsCardSaid : Prop := Claim7.holds Tryz.pinned (.plain (OpenSpec.ofChange fracTextsSpec)) fracTextsCard

/-- THE TIED CARD OF 'abaculuslaw3.FracForms'. -/
def fracFormsCard : Claim7 := { stood := { row := fracFormsRow, standIns := [], harness := (true, "ca05d794e6ab66cf58a429852bd648cee3dedd9cfdcc25db3dc1ae5d70d33860"), looks := false }, kinds := [], alts := [], laidByText := true, laidKinds := [.data, .data, .data, .data, .pinned], laidTests := true, laidLooks := .later }
def FracFormsCardSaid : Prop := Claim7.holds Tryz.pinned (.plain (OpenSpec.ofChange fracFormsSpec)) fracFormsCard

/-- THE TIED CARD OF 'abaculuslaw3.FracOrder'. -/
def fracOrderCard : Claim7 := { stood := { row := fracOrderRow, standIns := [], harness := (true, "ca05d794e6ab66cf58a429852bd648cee3dedd9cfdcc25db3dc1ae5d70d33860"), looks := false }, kinds := [], alts := [], laidByText := true, laidKinds := [.data, .data, .data, .data, .pinned], laidTests := true, laidLooks := .later }
def FracOrderCardSaid : Prop := Claim7.holds Tryz.pinned (.plain (OpenSpec.ofChange fracOrderSpec)) fracOrderCard

/-- THE TIED CARD OF 'abaculuslaw3.FracSums'. -/
def fracSumsCard : Claim7 := { stood := { row := fracSumsRow, standIns := [], harness := (true, "ca05d794e6ab66cf58a429852bd648cee3dedd9cfdcc25db3dc1ae5d70d33860"), looks := false }, kinds := [], alts := [], laidByText := true, laidKinds := [.data, .data, .data, .data, .pinned], laidTests := true, laidLooks := .later }
def FracSumsCardSaid : Prop := Claim7.holds Tryz.pinned (.plain (OpenSpec.ofChange fracSumsSpec)) fracSumsCard

/-- THE TIED CARD OF 'abaculuslaw3.FracField'. -/
def fracFieldCard : Claim7 := { stood := { row := fracFieldRow, standIns := [], harness := (true, "ca05d794e6ab66cf58a429852bd648cee3dedd9cfdcc25db3dc1ae5d70d33860"), looks := false }, kinds := [], alts := [], laidByText := true, laidKinds := [.data, .data, .data, .data, .pinned], laidTests := true, laidLooks := .later }
def FracFieldCardSaid : Prop := Claim7.holds Tryz.pinned (.plain (OpenSpec.ofChange fracFieldSpec)) fracFieldCard

/-- THE TIED CARD OF 'abaculuslaw3.FracSimple'. -/
def fracSimpleCard : Claim7 := { stood := { row := fracSimpleRow, standIns := [], harness := (true, "ca05d794e6ab66cf58a429852bd648cee3dedd9cfdcc25db3dc1ae5d70d33860"), looks := false }, kinds := [], alts := [], laidByText := true, laidKinds := [.data, .data, .data, .data, .pinned], laidTests := true, laidLooks := .later }
def FracSimpleCardSaid : Prop := Claim7.holds Tryz.pinned (.plain (OpenSpec.ofChange fracSimpleSpec)) fracSimpleCard

/-- THE TIED CARD OF 'abaculuslaw3.FracNear'. -/
def fracNearCard : Claim7 := { stood := { row := fracNearRow, standIns := [], harness := (true, "ca05d794e6ab66cf58a429852bd648cee3dedd9cfdcc25db3dc1ae5d70d33860"), looks := false }, kinds := [], alts := [], laidByText := true, laidKinds := [.data, .data, .data, .data, .pinned], laidTests := true, laidLooks := .later }
def FracNearCardSaid : Prop := Claim7.holds Tryz.pinned (.plain (OpenSpec.ofChange fracNearSpec)) fracNearCard

/-- THE TIED CARD OF 'abaculuslaw3.FracLists'. -/
def fracListsCard : Claim7 := { stood := { row := fracListsRow, standIns := [], harness := (true, "ca05d794e6ab66cf58a429852bd648cee3dedd9cfdcc25db3dc1ae5d70d33860"), looks := false }, kinds := [], alts := [], laidByText := true, laidKinds := [.data, .data, .data, .data, .pinned], laidTests := true, laidLooks := .later }
def FracListsCardSaid : Prop := Claim7.holds Tryz.pinned (.plain (OpenSpec.ofChange fracListsSpec)) fracListsCard

/-- THE TIED CARD OF 'abaculuslaw3.FracKnown'. -/
def fracKnownCard : Claim7 := { stood := { row := fracKnownRow, standIns := [], harness := (true, "ca05d794e6ab66cf58a429852bd648cee3dedd9cfdcc25db3dc1ae5d70d33860"), looks := false }, kinds := [], alts := [], laidByText := true, laidKinds := [.data, .data, .data, .data, .pinned], laidTests := true, laidLooks := .later }
def FracKnownCardSaid : Prop := Claim7.holds Tryz.pinned (.plain (OpenSpec.ofChange fracKnownSpec)) fracKnownCard

/-- THE SECOND FORM's CARD OF 'abaculuslaw3.FracTexts'. -/
def fracTextsUptoCard : Claim7 := { stood := { row := fracTextsUptoRow, standIns := [], harness := (true, "ca05d794e6ab66cf58a429852bd648cee3dedd9cfdcc25db3dc1ae5d70d33860"), looks := false }, kinds := [], alts := [], laidByText := true, laidKinds := [.data, .data, .data, .data, .pinned], laidTests := true, laidLooks := .later }
def FracTextsUptoCardSaid : Prop := Claim7.holds Tryz.pinned (.plain (OpenSpec.upto fracTextsSpec)) fracTextsUptoCard

/-- THE SECOND FORM's CARD OF 'abaculuslaw3.FracForms'. -/
def fracFormsUptoCard : Claim7 := { stood := { row := fracFormsUptoRow, standIns := [], harness := (true, "ca05d794e6ab66cf58a429852bd648cee3dedd9cfdcc25db3dc1ae5d70d33860"), looks := false }, kinds := [], alts := [], laidByText := true, laidKinds := [.data, .data, .data, .data, .pinned], laidTests := true, laidLooks := .later }
def FracFormsUptoCardSaid : Prop := Claim7.holds Tryz.pinned (.plain (OpenSpec.upto fracFormsSpec)) fracFormsUptoCard

/-- THE SECOND FORM's CARD OF 'abaculuslaw3.FracOrder'. -/
def fracOrderUptoCard : Claim7 := { stood := { row := fracOrderUptoRow, standIns := [], harness := (true, "ca05d794e6ab66cf58a429852bd648cee3dedd9cfdcc25db3dc1ae5d70d33860"), looks := false }, kinds := [], alts := [], laidByText := true, laidKinds := [.data, .data, .data, .data, .pinned], laidTests := true, laidLooks := .later }
def FracOrderUptoCardSaid : Prop := Claim7.holds Tryz.pinned (.plain (OpenSpec.upto fracOrderSpec)) fracOrderUptoCard

/-- THE SECOND FORM's CARD OF 'abaculuslaw3.FracSums'. -/
def fracSumsUptoCard : Claim7 := { stood := { row := fracSumsUptoRow, standIns := [], harness := (true, "ca05d794e6ab66cf58a429852bd648cee3dedd9cfdcc25db3dc1ae5d70d33860"), looks := false }, kinds := [], alts := [], laidByText := true, laidKinds := [.data, .data, .data, .data, .pinned], laidTests := true, laidLooks := .later }
def FracSumsUptoCardSaid : Prop := Claim7.holds Tryz.pinned (.plain (OpenSpec.upto fracSumsSpec)) fracSumsUptoCard

/-- THE SECOND FORM's CARD OF 'abaculuslaw3.FracField'. -/
def fracFieldUptoCard : Claim7 := { stood := { row := fracFieldUptoRow, standIns := [], harness := (true, "ca05d794e6ab66cf58a429852bd648cee3dedd9cfdcc25db3dc1ae5d70d33860"), looks := false }, kinds := [], alts := [], laidByText := true, laidKinds := [.data, .data, .data, .data, .pinned], laidTests := true, laidLooks := .later }
def FracFieldUptoCardSaid : Prop := Claim7.holds Tryz.pinned (.plain (OpenSpec.upto fracFieldSpec)) fracFieldUptoCard

/-- THE SECOND FORM's CARD OF 'abaculuslaw3.FracSimple'. -/
def fracSimpleUptoCard : Claim7 := { stood := { row := fracSimpleUptoRow, standIns := [], harness := (true, "ca05d794e6ab66cf58a429852bd648cee3dedd9cfdcc25db3dc1ae5d70d33860"), looks := false }, kinds := [], alts := [], laidByText := true, laidKinds := [.data, .data, .data, .data, .pinned], laidTests := true, laidLooks := .later }
def FracSimpleUptoCardSaid : Prop := Claim7.holds Tryz.pinned (.plain (OpenSpec.upto fracSimpleSpec)) fracSimpleUptoCard

/-- THE SECOND FORM's CARD OF 'abaculuslaw3.FracNear'. -/
def fracNearUptoCard : Claim7 := { stood := { row := fracNearUptoRow, standIns := [], harness := (true, "ca05d794e6ab66cf58a429852bd648cee3dedd9cfdcc25db3dc1ae5d70d33860"), looks := false }, kinds := [], alts := [], laidByText := true, laidKinds := [.data, .data, .data, .data, .pinned], laidTests := true, laidLooks := .later }
def FracNearUptoCardSaid : Prop := Claim7.holds Tryz.pinned (.plain (OpenSpec.upto fracNearSpec)) fracNearUptoCard

/-- THE SECOND FORM's CARD OF 'abaculuslaw3.FracLists'. -/
def fracListsUptoCard : Claim7 := { stood := { row := fracListsUptoRow, standIns := [], harness := (true, "ca05d794e6ab66cf58a429852bd648cee3dedd9cfdcc25db3dc1ae5d70d33860"), looks := false }, kinds := [], alts := [], laidByText := true, laidKinds := [.data, .data, .data, .data, .pinned], laidTests := true, laidLooks := .later }
def FracListsUptoCardSaid : Prop := Claim7.holds Tryz.pinned (.plain (OpenSpec.upto fracListsSpec)) fracListsUptoCard

/-- THE SECOND FORM's CARD OF 'abaculuslaw3.FracKnown'. -/
def fracKnownUptoCard : Claim7 := { stood := { row := fracKnownUptoRow, standIns := [], harness := (true, "ca05d794e6ab66cf58a429852bd648cee3dedd9cfdcc25db3dc1ae5d70d33860"), looks := false }, kinds := [], alts := [], laidByText := true, laidKinds := [.data, .data, .data, .data, .pinned], laidTests := true, laidLooks := .later }
def FracKnownUptoCardSaid : Prop := Claim7.holds Tryz.pinned (.plain (OpenSpec.upto fracKnownSpec)) fracKnownUptoCard
end Rows
end Go.Proofs.YtjifapjpgmmcnaaGreatDoor
