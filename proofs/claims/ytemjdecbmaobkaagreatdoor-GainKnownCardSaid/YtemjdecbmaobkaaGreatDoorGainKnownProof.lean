/- GainKnown: the tied card. -/
import Derived.Test.YtemjdecbmaobkaaGreatDoorGainKnownOver
namespace Go.Proofs.YtemjdecbmaobkaaGreatDoor.gainKnown
open Go.ChangeShapes Go.WideShapes Go.ChangeAt Go.RowKit
set_option linter.unusedVariables false
set_option linter.unusedSimpArgs false

theorem proved : Rows.GainKnownCardSaid :=
  Claim7.holds_tied_plain_at .later [] [.data] true (true, "32a512e9eb0490d32e55568c5fcba9c63e6037e3daf059242b71df2af15b435a") false over (fun _ h => by cases h) (by kernel_rfl) (fun _ h => by cases h) gainKnown_row_tie rfl ⟨rfl, rfl⟩ (by kernel_rfl) rfl
    (fun f fn hf hfn => by
      obtain rfl : f = 3 := Option.some.inj ((show Tryz.prog.funcNamed Rows.gainKnownRow.func = some 3 by kernel_rfl).symm.trans hf) |>.symm
      obtain rfl : fn = Tryz.f3 := (Option.some.inj (Tryz.func3.symm.trans hfn)).symm
      exact ⟨by kernel_rfl, fun j t ht => by
        rw [Tryz.params3] at ht
        simp at ht⟩)
    (by kernel_rfl)
#print axioms proved
end Go.Proofs.YtemjdecbmaobkaaGreatDoor.gainKnown
