/- ForestTells: the tied card. -/
import Derived.Test.YtgjepkeeeemppaaGreatDoorTForestTellsOver
namespace Go.Proofs.YtgjepkeeeemppaaGreatDoor.forestTells
open Go.ChangeShapes Go.WideShapes Go.ChangeAt Go.RowKit
open Go.ChangeMaps (open_string shut_string)
set_option linter.unusedVariables false
set_option linter.unusedSimpArgs false

theorem proved : Rows.ForestTellsCardSaid :=
  Claim7.holds_tied_plain_at .later [] [.data] true (true, "02097ccb5233c65db46c4a71d4f06157719ad7664f4b5f3592c43d2c68844594") false over (fun _ h => by cases h) (by kernel_rfl) (fun _ h => by cases h) forestTells_row_tie rfl ⟨rfl, rfl⟩ (by kernel_rfl) rfl
    (fun f fn hf hfn => by
      obtain rfl : f = 4 := Option.some.inj ((show Tryz.prog.funcNamed Rows.forestTellsRow.func = some 4 by kernel_rfl).symm.trans hf) |>.symm
      obtain rfl : fn = Tryz.f4 := (Option.some.inj (Tryz.func4.symm.trans hfn)).symm
      exact ⟨by kernel_rfl, fun j t ht => by
        rw [Tryz.params4] at ht
        rcases j with _ | _ | _ | _ | _ | j
        · obtain rfl := Option.some.inj (show some 25 = some t from ht); kernel_rfl
        · obtain rfl := Option.some.inj (show some 25 = some t from ht); kernel_rfl
        · obtain rfl := Option.some.inj (show some 23 = some t from ht); kernel_rfl
        · obtain rfl := Option.some.inj (show some 3 = some t from ht); kernel_rfl
        · obtain rfl := Option.some.inj (show some 4 = some t from ht); kernel_rfl
        · simp at ht⟩)
    (by kernel_rfl)
#print axioms proved
end Go.Proofs.YtgjepkeeeemppaaGreatDoor.forestTells
