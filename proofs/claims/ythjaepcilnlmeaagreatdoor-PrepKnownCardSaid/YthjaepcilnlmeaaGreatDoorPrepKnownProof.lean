/- PrepKnown: the tied card. -/
import Derived.Test.YthjaepcilnlmeaaGreatDoorPrepKnownOver
namespace Go.Proofs.YthjaepcilnlmeaaGreatDoor.prepKnown
open Go.ChangeShapes Go.WideShapes Go.ChangeAt Go.RowKit
set_option linter.unusedVariables false
set_option linter.unusedSimpArgs false

theorem proved : Rows.PrepKnownCardSaid :=
  Claim7.holds_tied_plain_at .later [] [.data, .data, .pinned] true (true, "83e8a7452ef7a6a0a8aa77003f8240ff95532bf866f4dd1b687e8726dce78607") false over (fun _ h => by cases h) (by kernel_rfl) (fun _ h => by cases h) prepKnown_row_tie rfl ⟨rfl, rfl⟩ (by kernel_rfl) rfl
    (fun f fn hf hfn => by
      obtain rfl : f = 3 := Option.some.inj ((show Tryz.prog.funcNamed Rows.prepKnownRow.func = some 3 by kernel_rfl).symm.trans hf) |>.symm
      obtain rfl : fn = Tryz.f3 := (Option.some.inj (Tryz.func3.symm.trans hfn)).symm
      exact ⟨by kernel_rfl, fun j t ht => by
        rw [Tryz.params3] at ht
        simp at ht⟩)
    (by kernel_rfl)
#print axioms proved
end Go.Proofs.YthjaepcilnlmeaaGreatDoor.prepKnown
