/- ForestKnown: the tied card. -/
import Derived.Test.YthnpcjcafkbnmaaGreatDoorForestKnownOver
namespace Go.Proofs.YthnpcjcafkbnmaaGreatDoor.forestKnown
open Go.ChangeShapes Go.WideShapes Go.ChangeAt Go.RowKit
set_option linter.unusedVariables false
set_option linter.unusedSimpArgs false

theorem proved : Rows.ForestKnownCardSaid :=
  Claim7.holds_tied_plain_at .later [] [.data] true (true, "6b56f243f848b934ce5c47e1fb1c82c00deae50dc05e6372d226b3cd4e49035d") false over (fun _ h => by cases h) (by kernel_rfl) (fun _ h => by cases h) forestKnown_row_tie rfl ⟨rfl, rfl⟩ (by kernel_rfl) rfl
    (fun f fn hf hfn => by
      obtain rfl : f = 3 := Option.some.inj ((show Tryz.prog.funcNamed Rows.forestKnownRow.func = some 3 by kernel_rfl).symm.trans hf) |>.symm
      obtain rfl : fn = Tryz.f3 := (Option.some.inj (Tryz.func3.symm.trans hfn)).symm
      exact ⟨by kernel_rfl, fun j t ht => by
        rw [Tryz.params3] at ht
        simp at ht⟩)
    (by kernel_rfl)
#print axioms proved
end Go.Proofs.YthnpcjcafkbnmaaGreatDoor.forestKnown
