/- FracLists: the tied card. -/
import Derived.Test.YtjifapjpgmmcnaaGreatDoorPFracListsOver
namespace Go.Proofs.YtjifapjpgmmcnaaGreatDoor.fracLists
open Go.ChangeShapes Go.WideShapes Go.ChangeAt Go.RowKit
open Go.ChangeMaps (open_string shut_string)
set_option linter.unusedVariables false
set_option linter.unusedSimpArgs false

theorem proved : Rows.FracListsCardSaid :=
  Claim7.holds_tied_plain_at .later [] [.data, .data, .data, .data, .pinned] true (true, "ca05d794e6ab66cf58a429852bd648cee3dedd9cfdcc25db3dc1ae5d70d33860") false over (fun _ h => by cases h) (by kernel_rfl) (fun _ h => by cases h) fracLists_row_tie rfl ⟨rfl, rfl⟩ (by kernel_rfl) rfl
    (fun f fn hf hfn => by
      obtain rfl : f = 10 := Option.some.inj ((show Tryz.prog.funcNamed Rows.fracListsRow.func = some 10 by kernel_rfl).symm.trans hf) |>.symm
      obtain rfl : fn = Tryz.f10 := (Option.some.inj (Tryz.func10.symm.trans hfn)).symm
      exact ⟨by kernel_rfl, fun j t ht => by
        rw [Tryz.params10] at ht
        rcases j with _ | _ | j
        · obtain rfl := Option.some.inj (show some 89 = some t from ht); kernel_rfl
        · obtain rfl := Option.some.inj (show some 89 = some t from ht); kernel_rfl
        · simp at ht⟩)
    (by kernel_rfl)
#print axioms proved
end Go.Proofs.YtjifapjpgmmcnaaGreatDoor.fracLists
