/- SheetParts: the row. -/
import Derived.Test.YtbcfidllfimehaaGreatDoorPSheetPartsLift
namespace Go.Proofs.YtbcfidllfimehaaGreatDoor.sheetParts
open Go.ChangeShapes Go.WideShapes Go.ChangeAt Go.RowKit
open Go.ChangeMaps (open_string shut_string)
set_option linter.unusedVariables false
set_option linter.unusedSimpArgs false

theorem and2 {a b : Bool} (h1 : a = true) (h2 : b = true) : (a && b) = true := by rw [h1, h2]; rfl
set_option maxHeartbeats 400000000 in
theorem closed : joinedFacts Tryz.pinned.checked.prog 5 Tryz.f5 Rows.sheetPartsSpec Rows.sheetPartsRow = true := by
  unfold joinedFacts
  repeat' with_reducible apply and2
  all_goals (as_aux_lemma => kernel_rfl)
theorem over : Rows.sheetPartsRow.holds Tryz.pinned (OpenSpec.ofChange Rows.sheetPartsSpec) :=
  OpenClaim.holds_of_wide 5 Tryz.f5 rfl rfl rfl rfl rfl rfl rfl ⟨rfl, rfl, rfl, rfl, rfl⟩ rfl rfl rfl rfl rfl (by kernel_rfl) Tryz.func5 closed
    (of_decide_eq_true (by kernel_rfl)) (by unfold Func.isWrapper; first | (rw [if_pos (by decide +kernel)]; kernel_rfl) | (rw [if_neg (by decide +kernel)]; exact ⟨rfl, rfl⟩))
    (fun os started H enc _ => lifted os started H enc)

end Go.Proofs.YtbcfidllfimehaaGreatDoor.sheetParts
