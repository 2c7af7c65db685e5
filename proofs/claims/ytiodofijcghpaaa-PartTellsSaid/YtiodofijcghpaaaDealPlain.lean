/- deal, plainly. -/
import Derived.Test.YtiodofijcghpaaaSortPlain
namespace Go.Proofs.Ytiodofijcghpaaa

/-- what part i has when j elements of l have been dealt to k parts -/
def dealt (l : List Int) (k i j : Nat) : List Int := ((List.range j).filter fun p => p % k == i).map fun p => l.getD p 0
theorem dealt_zero (l : List Int) (k i : Nat) : dealt l k i 0 = [] := by simp [dealt]
theorem dealt_succ (l : List Int) (k i j : Nat) : dealt l k i (j + 1) = if i = j % k then dealt l k i j ++ [l.getD j 0] else dealt l k i j := by
  unfold dealt
  rw [List.range_succ, List.filter_append, List.map_append]
  by_cases h : i = j % k
  · subst h; simp
  · rw [if_neg h]
    have : ((j % k) == i) = false := by simp; omega
    simp [this]
theorem dealt_le (l : List Int) (k i j : Nat) : (dealt l k i j).length ≤ j := by
  unfold dealt
  rw [List.length_map]
  have := List.length_filter_le (fun p => p % k == i) (List.range j)
  simpa using this
def dealL (l : List Int) (k : Nat) : List (List Int) := (List.range k).map fun i => sortI (dealt l k i l.length)
theorem dealL_length (l : List Int) (k : Nat) : (dealL l k).length = k := by simp [dealL]
theorem dealL_get (l : List Int) (k i : Nat) (h : i < (dealL l k).length) : (dealL l k)[i] = sortI (dealt l k i l.length) := by simp [dealL]

theorem upTo_nodup (n : Nat) : (upTo n).Nodup := by
  unfold upTo
  exact List.Pairwise.map _ (by intro a b h; simp; omega) (List.pairwise_lt_range (n := n))

end Go.Proofs.Ytiodofijcghpaaa
