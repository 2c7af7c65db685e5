/- ForestGrows: the row. -/
import Derived.Test.YtplhljjljnkhpaaGreatDoorCForestGrowsLift
namespace Go.Proofs.YtplhljjljnkhpaaGreatDoor.forestGrows
open Go.ChangeShapes Go.WideShapes Go.ChangeAt Go.RowKit
open Go.ChangeMaps (open_string shut_string)
set_option linter.unusedVariables false
set_option linter.unusedSimpArgs false

theorem over : Rows.forestGrowsRow.holds Tryz.pinned (OpenSpec.ofChange Rows.forestGrowsSpec) :=
  OpenClaim.holds_of_wide 3 Tryz.f3 rfl rfl rfl rfl rfl rfl rfl ⟨rfl, rfl, rfl, rfl, rfl⟩ rfl rfl rfl rfl rfl (by kernel_rfl) Tryz.func3 (by kernel_rfl)
    (of_decide_eq_true (by kernel_rfl)) (by unfold Func.isWrapper; first | (rw [if_pos (by decide +kernel)]; kernel_rfl) | (rw [if_neg (by decide +kernel)]; exact ⟨rfl, rfl⟩))
    (fun os started H enc _ => lifted os started H enc)

end Go.Proofs.YtplhljjljnkhpaaGreatDoor.forestGrows
