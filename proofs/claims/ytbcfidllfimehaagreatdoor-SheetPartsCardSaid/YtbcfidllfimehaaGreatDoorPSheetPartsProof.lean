/- SheetParts: the tied card. -/
import Derived.Test.YtbcfidllfimehaaGreatDoorPSheetPartsOver
namespace Go.Proofs.YtbcfidllfimehaaGreatDoor.sheetParts
open Go.ChangeShapes Go.WideShapes Go.ChangeAt Go.RowKit
open Go.ChangeMaps (open_string shut_string)
set_option linter.unusedVariables false
set_option linter.unusedSimpArgs false

theorem proved : Rows.SheetPartsCardSaid :=
  Claim7.holds_tied_plain_at .later [] [.data, .data, .pinned] true (true, "57e04eb047e57c156f2f5add37495bf3d322813fb278f38b01a66282fd699ffd") false over (fun _ h => by cases h) (by kernel_rfl) (fun _ h => by cases h) sheetParts_row_tie rfl ⟨rfl, rfl⟩ (by kernel_rfl) rfl
    (fun f fn hf hfn => by
      obtain rfl : f = 5 := Option.some.inj ((show Tryz.prog.funcNamed Rows.sheetPartsRow.func = some 5 by kernel_rfl).symm.trans hf) |>.symm
      obtain rfl : fn = Tryz.f5 := (Option.some.inj (Tryz.func5.symm.trans hfn)).symm
      exact ⟨by kernel_rfl, fun j t ht => by
        rw [Tryz.params5] at ht
        rcases j with _ | _ | _ | _ | _ | _ | j
        · obtain rfl := Option.some.inj (show some 24 = some t from ht); kernel_rfl
        · obtain rfl := Option.some.inj (show some 24 = some t from ht); kernel_rfl
        · obtain rfl := Option.some.inj (show some 22 = some t from ht); kernel_rfl
        · obtain rfl := Option.some.inj (show some 3 = some t from ht); kernel_rfl
        · obtain rfl := Option.some.inj (show some 9 = some t from ht); kernel_rfl
        · obtain rfl := Option.some.inj (show some 4 = some t from ht); kernel_rfl
        · simp at ht⟩)
    (by kernel_rfl)
#print axioms proved
end Go.Proofs.YtbcfidllfimehaaGreatDoor.sheetParts
