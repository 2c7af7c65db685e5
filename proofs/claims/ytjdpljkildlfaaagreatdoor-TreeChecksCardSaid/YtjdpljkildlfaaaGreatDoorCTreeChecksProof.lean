/- TreeChecks: the tied card. -/
import Derived.Test.YtjdpljkildlfaaaGreatDoorCTreeChecksOver
namespace Go.Proofs.YtjdpljkildlfaaaGreatDoor.treeChecks
open Go.ChangeShapes Go.WideShapes Go.ChangeAt Go.RowKit
open Go.ChangeMaps (open_string shut_string)
set_option linter.unusedVariables false
set_option linter.unusedSimpArgs false

theorem proved : Rows.TreeChecksCardSaid :=
  Claim7.holds_tied_plain_at .later [] [.data, .data, .data] true (true, "0e10138a43ec33ebe7e2e5a31dc5b9d0f411baf0d94b16c93ae7370d5e108eef") false over (fun _ h => by cases h) (by kernel_rfl) (fun _ h => by cases h) treeChecks_row_tie rfl ⟨rfl, rfl⟩ (by kernel_rfl) rfl
    (fun f fn hf hfn => by
      obtain rfl : f = 3 := Option.some.inj ((show Tryz.prog.funcNamed Rows.treeChecksRow.func = some 3 by kernel_rfl).symm.trans hf) |>.symm
      obtain rfl : fn = Tryz.f3 := (Option.some.inj (Tryz.func3.symm.trans hfn)).symm
      exact ⟨by kernel_rfl, fun j t ht => by
        rw [Tryz.params3] at ht
        rcases j with _ | _ | _ | _ | _ | j
        · obtain rfl := Option.some.inj (show some 24 = some t from ht); kernel_rfl
        · obtain rfl := Option.some.inj (show some 3 = some t from ht); kernel_rfl
        · obtain rfl := Option.some.inj (show some 3 = some t from ht); kernel_rfl
        · obtain rfl := Option.some.inj (show some 3 = some t from ht); kernel_rfl
        · obtain rfl := Option.some.inj (show some 22 = some t from ht); kernel_rfl
        · simp at ht⟩)
    (by kernel_rfl)
#print axioms proved
end Go.Proofs.YtjdpljkildlfaaaGreatDoor.treeChecks
