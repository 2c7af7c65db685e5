/- BoostKnown: the row. -/
import Derived.Test.YtcimgilfogeebaaGreatDoorBoostKnownLift
namespace Go.Proofs.YtcimgilfogeebaaGreatDoor.boostKnown
open Go.ChangeShapes Go.WideShapes Go.ChangeAt Go.RowKit
set_option linter.unusedVariables false
set_option linter.unusedSimpArgs false

theorem over : Rows.boostKnownRow.holds Tryz.pinned (OpenSpec.ofChange Rows.boostKnownSpec) :=
  OpenClaim.holds_of_wide 3 Tryz.f3 rfl rfl rfl rfl rfl rfl rfl ⟨rfl, rfl, rfl, rfl, rfl⟩ rfl rfl rfl rfl rfl (by kernel_rfl) Tryz.func3 (by kernel_rfl)
    (of_decide_eq_true (by kernel_rfl)) (by unfold Func.isWrapper; first | (rw [if_pos (by decide +kernel)]; kernel_rfl) | (rw [if_neg (by decide +kernel)]; exact ⟨rfl, rfl⟩))
    (fun os started H enc _ => lifted os started H enc)

end Go.Proofs.YtcimgilfogeebaaGreatDoor.boostKnown
