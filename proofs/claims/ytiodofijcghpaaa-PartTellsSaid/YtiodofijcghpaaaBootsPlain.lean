/- PartBoots in plain lists: counting. -/
import Derived.Test.YtiodofijcghpaaaDicePlain
import Derived.Test.YtiodofijcghpaaaLists
namespace Go.Proofs.Ytiodofijcghpaaa

def cntL (N : Nat) (p q : List Int) : List Int := (List.range N).map fun x : Nat => (p.count (x : Int) : Int) - (q.count (x : Int) : Int)
theorem cntL_length (N : Nat) (p q : List Int) : (cntL N p q).length = N := by simp [cntL]
theorem cntL_get (N : Nat) (p q : List Int) (y : Nat) (h : y < N) : (cntL N p q)[y]? = some ((p.count (y : Int) : Int) - (q.count (y : Int) : Int)) := by simp [cntL, h]
theorem cntL_zero (N : Nat) : cntL N [] [] = List.replicate N 0 := by
  apply List.ext_getElem
  · simp [cntL]
  · intro i h1 h2; simp [cntL]
theorem cntL_inc (N : Nat) (p q : List Int) (y : Nat) (v : Int) (h : y < N) (hv : (cntL N p q)[y]? = some v) : (cntL N p q).set y (v + 1) = cntL N (p ++ [(y : Int)]) q := by
  rw [cntL_get N p q y h] at hv
  simp only [Option.some.injEq] at hv
  apply List.ext_getElem
  · simp [cntL]
  · intro i h1 h2
    rw [List.getElem_set]
    simp only [cntL, List.getElem_map, List.getElem_range, List.count_append, List.count_singleton]
    split
    · rename_i e; subst e; simp; omega
    · rename_i e
      have : ((y : Int) == (i : Int)) = false := by simp; omega
      rw [this]; simp
theorem cntL_dec (N : Nat) (p q : List Int) (y : Nat) (v : Int) (h : y < N) (hv : (cntL N p q)[y]? = some v) : (cntL N p q).set y (v - 1) = cntL N p (q ++ [(y : Int)]) := by
  rw [cntL_get N p q y h] at hv
  simp only [Option.some.injEq] at hv
  apply List.ext_getElem
  · simp [cntL]
  · intro i h1 h2
    rw [List.getElem_set]
    simp only [cntL, List.getElem_map, List.getElem_range, List.count_append, List.count_singleton]
    split
    · rename_i e; subst e; simp; omega
    · rename_i e
      have : ((y : Int) == (i : Int)) = false := by simp; omega
      rw [this]; simp
theorem cntL_bound (N : Nat) (p q : List Int) (y : Nat) (v : Int) (h : y < N) (hv : (cntL N p q)[y]? = some v) : -(q.length : Int) ≤ v ∧ v ≤ p.length := by
  rw [cntL_get N p q y h] at hv
  simp only [Option.some.injEq] at hv
  have h1 := List.count_le_length (a := (y : Int)) (l := p)
  have h2 := List.count_le_length (a := (y : Int)) (l := q)
  omega
theorem cntL_perm (N : Nat) (p q : List Int) (h : p.Perm q) (y : Nat) (hy : y < N) : (cntL N p q)[y]? = some 0 := by
  rw [cntL_get N p q y hy, h.count_eq]; simp

end Go.Proofs.Ytiodofijcghpaaa
