/- BoostKnown: the tied card. -/
import Derived.Test.YtcimgilfogeebaaGreatDoorBoostKnownOver
namespace Go.Proofs.YtcimgilfogeebaaGreatDoor.boostKnown
open Go.ChangeShapes Go.WideShapes Go.ChangeAt Go.RowKit
set_option linter.unusedVariables false
set_option linter.unusedSimpArgs false

theorem proved : Rows.BoostKnownCardSaid :=
  Claim7.holds_tied_plain_at .later [] [.data] true (true, "9a43a04df37a2b81691f62ee4ca91917f665d319e007672ff77f25aa94cbd82b") false over (fun _ h => by cases h) (by kernel_rfl) (fun _ h => by cases h) boostKnown_row_tie rfl ⟨rfl, rfl⟩ (by kernel_rfl) rfl
    (fun f fn hf hfn => by
      obtain rfl : f = 3 := Option.some.inj ((show Tryz.prog.funcNamed Rows.boostKnownRow.func = some 3 by kernel_rfl).symm.trans hf) |>.symm
      obtain rfl : fn = Tryz.f3 := (Option.some.inj (Tryz.func3.symm.trans hfn)).symm
      exact ⟨by kernel_rfl, fun j t ht => by
        rw [Tryz.params3] at ht
        simp at ht⟩)
    (by kernel_rfl)
#print axioms proved
end Go.Proofs.YtcimgilfogeebaaGreatDoor.boostKnown
