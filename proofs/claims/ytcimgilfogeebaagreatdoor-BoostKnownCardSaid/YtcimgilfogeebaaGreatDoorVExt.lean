/- VM: the library's functions without a text, at this translation. -/
import Derived.Test.YtcimgilfogeebaaGreatDoorProg
import Derived.Test.YtcimgilfogeebaaGreatDoorV18
import Derived.Lib.Builder
import Derived.Lib.Bytealg
import Derived.Lib.MakeNoZero
import Derived.Laws.Externs
import Derived.Shelf.Spec.BitsCarry
import Derived.Laws.AppendOwn
import Derived.WalkLawsBesides
import Derived.Laws.IdiomCopy
set_option linter.unusedVariables false
set_option linter.unusedSimpArgs false
namespace Go.Proofs.YtcimgilfogeebaaGreatDoor.VM
open Go Go.RowKit Go.Proofs.YtcimgilfogeebaaGreatDoor

theorem ext_add64 : ExtOk Tryz.prog 135 .add64 := fun x y c w hc => by
  rw [run_callFunc_extern Tryz.func135 (by kernel_rfl) (by kernel_rfl) (by kernel_rfl) (e := add64Entry) (by kernel_rfl), run_add64 x y c (by omega) (by omega) (by omega) (by omega)]
  simp only [Result.andThen]
  rfl
theorem ext_sub64 : ExtOk Tryz.prog 136 .sub64 := fun x y b w hb => by
  rw [run_callFunc_extern Tryz.func136 (by kernel_rfl) (by kernel_rfl) (by kernel_rfl) (e := sub64Entry) (by kernel_rfl), run_sub64 x y b hb]
  rfl
theorem ext_same : ExtOk Tryz.prog 180 .same := fun v w => by
  rw [run_callFunc_extern Tryz.func180 (by kernel_rfl) (by kernel_rfl) (by kernel_rfl) (e := Extern.AbiNoEscape.same) (by kernel_rfl), Lib.run_noEscape]
  rfl
theorem ext_mkNoZero : ExtOk Tryz.prog 181 (.mkNoZero 5) := fun m w hm => by
  obtain ⟨cs, hrun, hle, _⟩ := Lib.run_makeNoZero (P := Tryz.prog) w #[3] 138 5 Tryz.underlying138 m (by omega)
  refine ⟨cs.size, cs.toList, w.drew.drew.alloc (.cells cs 5), hle, by simp, ?_, ⟨rfl, rfl, rfl, (by show w.heap.size ≤ (w.heap.push _).size; simp), fun k hk => ?_⟩, ?_⟩
  · rw [run_callFunc_extern Tryz.func181 (by kernel_rfl) (by kernel_rfl) (by kernel_rfl) (e := Extern.BytealgMakeNoZero.makeNoZero #[3] #[138]) (by kernel_rfl), hrun]
    rfl
  · show (w.heap.push _)[k]? = _
    rw [Array.getElem?_push, if_neg (by omega)]
  · show (w.heap.push _)[w.heap.size]? = _
    simp

theorem Tryz.sizeBuilder : (Tryz.prog.info? 196).map (·.size) = some 2 := by kernel_rfl
theorem Tryz.liesBuilder : liesAt Tryz.prog Tryz.prog.depth 196 (2 / Tryz.prog.cellsOf 196) 0 196 1 = true := by kernel_rfl

set_option maxRecDepth 100000 in
set_option maxHeartbeats 400000 in
theorem bldCheck_used (b : Nat) (w : World) (h0 : w.cell? ⟨b, 0, none⟩ = some (.pointer (some ⟨b, 0, none⟩))) :
    Calls Tryz.prog 165 #[.pointer (some ⟨b, 0, none⟩)] w fun e w' => e = .returned (.tuple #[]) ∧ w = w' := by
  obtain ⟨j, hj, _⟩ := Option.map_eq_some_iff.1 Tryz.sizeBuilder
  go_enter Tryz.func165, Tryz.ntmps165
  go_wp2
  rw [Lib.run_neq_ptr_same w _ Tryz.underlying194 hj]
  go_wp2
  go_end0
  exact ⟨rfl, rfl⟩

set_option maxRecDepth 100000 in
set_option maxHeartbeats 400000 in
theorem bldCheck_fresh (b : Nat) (w : World) (h0 : w.cell? ⟨b, 0, none⟩ = some (.pointer none)) (hsh : w.shape? b = some (196, 2)) (hfz : w.frozen? ⟨b, 0, none⟩ = false) :
    Calls Tryz.prog 165 #[.pointer (some ⟨b, 0, none⟩)] w fun e w' => e = .returned (.tuple #[]) ∧ w' = w.setCell ⟨b, 0, none⟩ (.pointer (some ⟨b, 0, none⟩)) := by
  obtain ⟨j, hj, hjs⟩ := Option.map_eq_some_iff.1 Tryz.sizeBuilder
  go_enter Tryz.func165, Tryz.ntmps165
  go_wp2
  rw [Lib.run_to_unsafe w ⟨b, 0, none⟩ Tryz.underlying194 Tryz.underlying248 hj (by rw [hjs]; decide) hsh (Nat.zero_lt_succ 1)]
  simp only [Result.andThen]
  rw [Oper.upon_value]
  go_wp2
  rw [run_callFunc_extern Tryz.func180 (by kernel_rfl) (by kernel_rfl) (by kernel_rfl) (e := Extern.AbiNoEscape.same) (by kernel_rfl), Lib.run_noEscape]
  simp only [Result.andThen]
  rw [Oper.upon_value]
  go_wp2
  rw [Lib.run_from_unsafe w ⟨b, 0, none⟩ Tryz.underlying248 Tryz.underlying194 hj hsh Tryz.liesBuilder]
  simp only [Result.andThen]
  rw [Oper.upon_value]
  go_wp2
  go_end0
  exact ⟨rfl, rfl⟩
theorem ext_copyCheck : ExtOk Tryz.prog 165 (.copyCheck 196) :=
  ⟨fun args w => by unfold callFunc; simp [Tryz.func165, Tryz.f165], fun b w h => bldCheck_used b w h, fun b w h1 h2 h3 => bldCheck_fresh b w h1 h2 h3⟩
theorem indexByte_idxOf : ∀ (l : List UInt8) (c : UInt8), Lib.indexByte l c = match idxOf (l.map UInt8.toNat) c.toNat with | some i => (i : Int) | none => -1
  | [], c => rfl
  | b :: l, c => by
    unfold Lib.indexByte
    have e : idxOf ((b :: l).map UInt8.toNat) c.toNat = if Nat.beq b.toNat c.toNat then some 0 else (idxOf (l.map UInt8.toNat) c.toNat).map (· + 1) := by
      unfold idxOf
      rw [List.map_cons, List.findIdx?_cons]
    rw [e, indexByte_idxOf l c]
    by_cases h : b = c
    · subst h
      simp only [beq_self_eq_true, Nat.beq_refl, if_true]
      rfl
    · have h1 : (b == c) = false := by simpa using h
      have h2 : Nat.beq b.toNat c.toNat = false := by
        cases hc : Nat.beq b.toNat c.toNat with
        | false => rfl
        | true => exact absurd (UInt8.toNat_inj.1 (Nat.eq_of_beq_eq_true hc)) h
      rw [h1, h2]
      cases idxOf (l.map UInt8.toNat) c.toNat with
      | none => rfl
      | some i =>
        have : ((i : Int) == -1) = false := by simp
        simp [this]
end Go.Proofs.YtcimgilfogeebaaGreatDoor.VM
