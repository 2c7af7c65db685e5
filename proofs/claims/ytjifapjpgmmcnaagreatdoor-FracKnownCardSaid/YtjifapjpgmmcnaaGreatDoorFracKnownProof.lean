/- FracKnown: the tied card. -/
import Derived.Test.YtjifapjpgmmcnaaGreatDoorFracKnownOver
namespace Go.Proofs.YtjifapjpgmmcnaaGreatDoor.fracKnown
open Go.ChangeShapes Go.WideShapes Go.ChangeAt Go.RowKit
set_option linter.unusedVariables false

theorem proved : Rows.FracKnownCardSaid :=
  Claim7.holds_tied_plain_at .later [] [.data, .data, .data, .data, .pinned] true (true, "ca05d794e6ab66cf58a429852bd648cee3dedd9cfdcc25db3dc1ae5d70d33860") false over (fun _ h => by cases h) (by kernel_rfl) (fun _ h => by cases h) fracKnown_row_tie rfl ⟨rfl, rfl⟩ (by kernel_rfl) rfl
    (fun f fn hf hfn => by
      obtain rfl : f = 11 := Option.some.inj ((show Tryz.prog.funcNamed "abaculus/abaculuslaw3.FracKnown" = some 11 by kernel_rfl).symm.trans hf) |>.symm
      obtain rfl : fn = Tryz.f11 := (Option.some.inj (Tryz.func11.symm.trans hfn)).symm
      exact ⟨by kernel_rfl, fun j t ht => by
        rw [Tryz.params11] at ht
        simp at ht⟩)
    (by kernel_rfl)
#print axioms proved
end Go.Proofs.YtjifapjpgmmcnaaGreatDoor.fracKnown
