/- Sorted lists of integers, plainly. -/
import Derived.Test.YtiodofijcghpaaaDicePlain
import Derived.Test.YtiodofijcghpaaaLists
namespace Go.Proofs.Ytiodofijcghpaaa

def sortI (l : List Int) : List Int := l.mergeSort fun x y => decide (x ≤ y)
theorem sortI_length (l : List Int) : (sortI l).length = l.length := by simp [sortI]
theorem sortI_perm (l : List Int) : (sortI l).Perm l := List.mergeSort_perm _ _
theorem sortI_sorted (l : List Int) : (sortI l).Pairwise (· ≤ ·) := by
  have := List.pairwise_mergeSort (le := fun x y : Int => decide (x ≤ y)) (by intro a b c; simp; omega) (by intro a b; simp; omega) l
  unfold sortI
  exact this.imp (by intro a b h; simpa using h)
theorem sorted_unique {a b : List Int} (h : a.Perm b) (ha : a.Pairwise (· ≤ ·)) (hb : b.Pairwise (· ≤ ·)) : a = b :=
  List.Perm.eq_of_pairwise (fun x y _ _ h1 h2 => Int.le_antisymm h1 h2) ha hb h
theorem sortI_of_perm {l m : List Int} (h : l.Perm m) (hm : m.Pairwise (· ≤ ·)) : sortI l = m := sorted_unique ((sortI_perm l).trans h) (sortI_sorted l) hm
theorem sortI_congr {l m : List Int} (h : l.Perm m) : sortI l = sortI m := sortI_of_perm (h.trans (sortI_perm m).symm) (sortI_sorted m)
theorem upTo_sorted (n : Nat) : (upTo n).Pairwise (· ≤ ·) := by
  unfold upTo
  rw [List.pairwise_map]
  exact List.pairwise_lt_range.imp (by intro a b h; simp; omega)
theorem upTo_mem (n : Nat) (x : Int) : x ∈ upTo n ↔ 0 ≤ x ∧ x < n := by
  unfold upTo
  simp only [List.mem_map, List.mem_range]
  constructor
  · rintro ⟨a, h, rfl⟩; simp; omega
  · rintro ⟨h1, h2⟩; exact ⟨x.toNat, by omega, by simp; omega⟩
theorem orderL_length (n : Nat) (s : Int) : (orderL n s).1.length = n := by unfold orderL; rw [orderGo_length, upTo_length]
theorem orderL_perm (n : Nat) (s : Int) (hn : n ≤ 65536) : (orderL n s).1.Perm (upTo n) := by
  unfold orderL
  cases n with
  | zero => exact List.Perm.refl _
  | succ n => exact orderGo_perm _ _ _ (by rw [upTo_length]; omega) (by rw [upTo_length]; omega)

end Go.Proofs.Ytiodofijcghpaaa
