/- TreeKnown: the tied card. -/
import Derived.Test.YtdkdjmnhjhgdoaaGreatDoorTreeKnownOver
namespace Go.Proofs.YtdkdjmnhjhgdoaaGreatDoor.treeKnown
open Go.ChangeShapes Go.WideShapes Go.ChangeAt Go.RowKit
set_option linter.unusedVariables false
set_option linter.unusedSimpArgs false

theorem proved : Rows.TreeKnownCardSaid :=
  Claim7.holds_tied_plain_at .later [] [.data, .data, .data] true (true, "427fca0dddcea0b4b4efb87994ffc09f0a2da1f9c00133e6c913f251cc8c2d86") false over (fun _ h => by cases h) (by kernel_rfl) (fun _ h => by cases h) treeKnown_row_tie rfl ⟨rfl, rfl⟩ (by kernel_rfl) rfl
    (fun f fn hf hfn => by
      obtain rfl : f = 3 := Option.some.inj ((show Tryz.prog.funcNamed Rows.treeKnownRow.func = some 3 by kernel_rfl).symm.trans hf) |>.symm
      obtain rfl : fn = Tryz.f3 := (Option.some.inj (Tryz.func3.symm.trans hfn)).symm
      exact ⟨by kernel_rfl, fun j t ht => by
        rw [Tryz.params3] at ht
        simp at ht⟩)
    (by kernel_rfl)
#print axioms proved
end Go.Proofs.YtdkdjmnhjhgdoaaGreatDoor.treeKnown
