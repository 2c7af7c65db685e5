/- law8.PartKnown returns true. -/
import Derived.Test.YtiodofijcghpaaaRefuse
namespace Go.Proofs.Ytiodofijcghpaaa
open Go.RowKit

theorem cells_ints2 (x y : Int) : (#[Value.int .i64 x, Value.int .i64 y] : Array Value) = cellsOf i64 [x, y] := rfl
theorem cells_ints1 (x : Int) : (#[Value.int .i64 x] : Array Value) = cellsOf i64 [x] := rfl

set_option maxRecDepth 100000 in
set_option maxHeartbeats 1600000 in
theorem partKnown_any (w : World) :
    Calls Try.prog 5 #[] w fun e w' => e = .returned (.bool true) ∧ Below w.heap.size w w' := by
  go_enter Try.func5, Try.ntmps5
  go_wp2_with fail
  refine (dnew_any 1 w).mono ?_
  rintro e w1 ⟨rfl, hw1⟩
  have hd : Die w1 w.heap.size 1 := by rw [hw1]; exact Die.new w 1 _ (by omega)
  have hk : Below w.heap.size w w1 := by rw [hw1]; exact (Below.refl _ _).alloc (Nat.le_refl _) _
  clear hw1
  go_wp2_with fail
  refine (known_any w1).mono ?_
  rintro e w2 ⟨rfl, hb⟩
  have hd := hd.below hb
  have hk := hk.trans (hb.mono hk.size)
  clear hb
  go_wp2_with fail
  refine (dstate_any _ _ w2 hd.cell).mono ?_
  rintro e w3 ⟨rfl, rfl⟩
  go_wp2_with fail
  refine (halves_err _ 3 4 w2 (by omega)).mono ?_
  rintro e w3 ⟨rfl, rfl⟩
  go_wp2_with fail
  refine (folds_err _ 3 1 w2 (by omega)).mono ?_
  rintro e w3 ⟨rfl, rfl⟩
  go_wp2_with fail
  refine (folds_err _ 3 4 w2 (by omega)).mono ?_
  rintro e w3 ⟨rfl, rfl⟩
  go_wp2_with fail
  rw [cells_ints2]
  have hbe : Below w2.heap.size w2 (w2.alloc (.cells (cellsOf i64 [0, 12]) 3)) := (Below.refl _ _).alloc (Nat.le_refl _) _
  have hc := even_err2 w.heap.size (.slice (some ⟨w2.heap.size, 0, none⟩) 2 2) [0, 12] 2 (w2.alloc (.cells (cellsOf i64 [0, 12]) 3)) ((Blk.new i64 w2 [0, 12] 3).sl 2) (by omega) (by simp) (by simp) ⟨12, by simp, by omega⟩
  rw [show ((2 : Nat) : Int) = 2 from rfl] at hc
  refine hc.mono ?_
  clear hc
  rintro e w3 ⟨rfl, hb⟩
  have hb := hbe.trans (hb.mono hbe.size)
  have hd := hd.below hb
  have hk := hk.trans (hb.mono hk.size)
  clear hb hbe
  go_wp2_with fail
  rw [cells_ints1]
  have hbe : Below w3.heap.size w3 (w3.alloc (.cells (cellsOf i64 [0]) 3)) := (Below.refl _ _).alloc (Nat.le_refl _) _
  have hc := even_err1 w.heap.size (.slice (some ⟨w3.heap.size, 0, none⟩) 1 1) [0] 2 (w3.alloc (.cells (cellsOf i64 [0]) 3)) ((Blk.new i64 w3 [0] 3).sl 1) (by simp) (by simp)
  refine hc.mono ?_
  clear hc
  rintro e w4 ⟨rfl, hb⟩
  have hb := hbe.trans (hb.mono hbe.size)
  have hd := hd.below hb
  have hk := hk.trans (hb.mono hk.size)
  clear hb hbe
  go_wp2_with fail
  refine (boot_none _ 0 w4 (by omega)).mono ?_
  rintro e w5 ⟨rfl, rfl⟩
  go_wp2_with fail
  refine (halves_err _ 301 0 w4 (by omega)).mono ?_
  rintro e w5 ⟨rfl, rfl⟩
  go_wp2_with fail
  refine (dstate_any _ _ w4 hd.cell).mono ?_
  rintro e w5 ⟨rfl, rfl⟩
  go_wp2_with fail
  have hc := halves_ok w.heap.size 2 2 1 w4 hd (by omega) (by omega) (by omega)
  rw [show ((2 : Nat) : Int) = 2 from rfl] at hc
  refine hc.mono ?_
  clear hc
  rintro e w5 ⟨va, vb, rfl, hoa, hob, hd5, hk5⟩
  have hq : sortI ((orderL 2 1).1.take 2) = [0, 1] := by
    rw [List.take_of_length_le (by rw [orderL_length]; omega)]
    exact sortI_of_perm (orderL_perm 2 1 (by omega)) (by decide)
  rw [hq] at hob
  have hp : sortI ((orderL 2 1).1.drop 2) = [] := by
    rw [List.drop_eq_nil_of_le (by rw [orderL_length]; omega)]
    simp [sortI]
  rw [hp] at hoa
  have hsa := Sl.of_owns hoa
  have hsb := Sl.of_owns hob
  obtain ⟨a1, cap1, rfl⟩ := hsa.len
  clear hq hp hoa hob
  go_wp2_with fail
  rw [cells_ints2]
  have hbe : Below w5.heap.size w5 (w5.alloc (.cells (cellsOf i64 [0, 1]) 3)) := (Below.refl _ _).alloc (Nat.le_refl _) _
  refine (sameInts_any _ _ [0, 1] [0, 1] _ (hsb.below hbe) ((Blk.new i64 w5 [0, 1] 3).sl 2) (by simp) (by simp)).mono ?_
  rintro e w6 ⟨rfl, hb6⟩
  simp only [decide_true]
  go_wp2_with fail
  refine (rest_none 301 _ _ _ w6 (by omega)).mono ?_
  rintro e w7 ⟨rfl, rfl⟩
  go_wp2
  go_ret
  refine ⟨rfl, ?_⟩
  have h5 : Below w.heap.size w w5 := hk.trans (hk5.below w.heap.size hk.size (fun k hk e => by omega))
  have h6 := h5.trans (hbe.mono h5.size)
  exact h6.trans (hb6.mono h6.size)

end Go.Proofs.Ytiodofijcghpaaa
