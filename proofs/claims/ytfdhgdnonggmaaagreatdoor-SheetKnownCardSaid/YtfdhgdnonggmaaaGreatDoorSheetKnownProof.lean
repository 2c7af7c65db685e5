/- SheetKnown: the tied card. -/
import Derived.Test.YtfdhgdnonggmaaaGreatDoorSheetKnownOver
namespace Go.Proofs.YtfdhgdnonggmaaaGreatDoor.sheetKnown
open Go.ChangeShapes Go.WideShapes Go.ChangeAt Go.RowKit
set_option linter.unusedVariables false
set_option linter.unusedSimpArgs false

theorem proved : Rows.SheetKnownCardSaid :=
  Claim7.holds_tied_plain_at .later [] [.data, .data, .pinned] true (true, "f9cc93457342618a5069b4323c5719e9f50e110c5bf4d043200396aa2d34a78c") false over (fun _ h => by cases h) (by kernel_rfl) (fun _ h => by cases h) sheetKnown_row_tie rfl ⟨rfl, rfl⟩ (by kernel_rfl) rfl
    (fun f fn hf hfn => by
      obtain rfl : f = 3 := Option.some.inj ((show Tryz.prog.funcNamed Rows.sheetKnownRow.func = some 3 by kernel_rfl).symm.trans hf) |>.symm
      obtain rfl : fn = Tryz.f3 := (Option.some.inj (Tryz.func3.symm.trans hfn)).symm
      exact ⟨by kernel_rfl, fun j t ht => by
        rw [Tryz.params3] at ht
        simp at ht⟩)
    (by kernel_rfl)
#print axioms proved
end Go.Proofs.YtfdhgdnonggmaaaGreatDoor.sheetKnown
