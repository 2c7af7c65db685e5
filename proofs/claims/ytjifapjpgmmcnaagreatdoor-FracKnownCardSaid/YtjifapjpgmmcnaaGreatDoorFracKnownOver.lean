/- FracKnown: the row. -/
import Derived.Test.YtjifapjpgmmcnaaGreatDoorFracKnownLift
namespace Go.Proofs.YtjifapjpgmmcnaaGreatDoor.fracKnown
open Go.ChangeShapes Go.WideShapes Go.ChangeAt Go.RowKit
set_option linter.unusedVariables false

theorem over : Rows.fracKnownRow.holds Tryz.pinned (OpenSpec.ofChange Rows.fracKnownSpec) :=
  OpenClaim.holds_of_wide 11 Tryz.f11 rfl rfl rfl rfl rfl rfl rfl ⟨rfl, rfl, rfl, rfl, rfl⟩ rfl rfl rfl rfl rfl (by kernel_rfl) Tryz.func11 (by kernel_rfl)
    (of_decide_eq_true (by kernel_rfl)) (by unfold Func.isWrapper; first | (rw [if_pos (by decide +kernel)]; kernel_rfl) | (rw [if_neg (by decide +kernel)]; exact ⟨rfl, rfl⟩))
    (fun os started H enc _ => lifted os started H enc)

end Go.Proofs.YtjifapjpgmmcnaaGreatDoor.fracKnown
