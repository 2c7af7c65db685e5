/- BoostTells: the tied card. -/
import Derived.Test.YtnejmfoednmkhaaGreatDoorLBoostTellsOver
namespace Go.Proofs.YtnejmfoednmkhaaGreatDoor.boostTells
open Go.ChangeShapes Go.WideShapes Go.ChangeAt Go.RowKit
open Go.ChangeMaps (open_string shut_string)
set_option linter.unusedVariables false
set_option linter.unusedSimpArgs false

theorem proved : Rows.BoostTellsCardSaid :=
  Claim7.holds_tied_plain_at .later [] [.data] true (true, "e5993dcbf73e88a97430632a1a7450a1880d21764470d6c80258f21d8a7da90c") false over (fun _ h => by cases h) (by kernel_rfl) (fun _ h => by cases h) boostTells_row_tie rfl ⟨rfl, rfl⟩ (by kernel_rfl) rfl
    (fun f fn hf hfn => by
      obtain rfl : f = 7 := Option.some.inj ((show Tryz.prog.funcNamed Rows.boostTellsRow.func = some 7 by kernel_rfl).symm.trans hf) |>.symm
      obtain rfl : fn = Tryz.f7 := (Option.some.inj (Tryz.func7.symm.trans hfn)).symm
      exact ⟨by kernel_rfl, fun j t ht => by
        rw [Tryz.params7] at ht
        rcases j with _ | _ | _ | _ | j
        · obtain rfl := Option.some.inj (show some 24 = some t from ht); kernel_rfl
        · obtain rfl := Option.some.inj (show some 24 = some t from ht); kernel_rfl
        · obtain rfl := Option.some.inj (show some 22 = some t from ht); kernel_rfl
        · obtain rfl := Option.some.inj (show some 3 = some t from ht); kernel_rfl
        · simp at ht⟩)
    (by kernel_rfl)
#print axioms proved
end Go.Proofs.YtnejmfoednmkhaaGreatDoor.boostTells
