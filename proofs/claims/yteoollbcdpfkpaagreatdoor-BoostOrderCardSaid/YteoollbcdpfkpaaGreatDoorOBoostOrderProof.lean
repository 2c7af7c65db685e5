/- BoostOrder: the tied card. -/
import Derived.Test.YteoollbcdpfkpaaGreatDoorOBoostOrderOver
namespace Go.Proofs.YteoollbcdpfkpaaGreatDoor.boostOrder
open Go.ChangeShapes Go.WideShapes Go.ChangeAt Go.RowKit
open Go.ChangeMaps (open_string shut_string)
set_option linter.unusedVariables false
set_option linter.unusedSimpArgs false

theorem proved : Rows.BoostOrderCardSaid :=
  Claim7.holds_tied_plain_at .later [] [.data] true (true, "e2748f182fed244fd69555e88ffd4b2bad852108c2a16a6c75db235886b2dfb9") false over (fun _ h => by cases h) (by kernel_rfl) (fun _ h => by cases h) boostOrder_row_tie rfl ⟨rfl, rfl⟩ (by kernel_rfl) rfl
    (fun f fn hf hfn => by
      obtain rfl : f = 6 := Option.some.inj ((show Tryz.prog.funcNamed Rows.boostOrderRow.func = some 6 by kernel_rfl).symm.trans hf) |>.symm
      obtain rfl : fn = Tryz.f6 := (Option.some.inj (Tryz.func6.symm.trans hfn)).symm
      exact ⟨by kernel_rfl, fun j t ht => by
        rw [Tryz.params6] at ht
        rcases j with _ | _ | _ | _ | _ | j
        · obtain rfl := Option.some.inj (show some 24 = some t from ht); kernel_rfl
        · obtain rfl := Option.some.inj (show some 3 = some t from ht); kernel_rfl
        · obtain rfl := Option.some.inj (show some 3 = some t from ht); kernel_rfl
        · obtain rfl := Option.some.inj (show some 45 = some t from ht); kernel_rfl
        · obtain rfl := Option.some.inj (show some 22 = some t from ht); kernel_rfl
        · simp at ht⟩)
    (by kernel_rfl)
#print axioms proved
end Go.Proofs.YteoollbcdpfkpaaGreatDoor.boostOrder
