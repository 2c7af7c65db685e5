/- Rest in plain lists. -/
import Derived.Test.YtiodofijcghpaaaDicePlain
import Derived.Test.YtiodofijcghpaaaLists
namespace Go.Proofs.Ytiodofijcghpaaa
open Go.RowKit

def mark (n : Nat) (m : List Bool) (x : Int) : List Bool := if 0 ≤ x ∧ x < n then m.set x.toNat true else m
def marks (n : Nat) (l : List Int) : List Bool := l.foldl (mark n) (List.replicate n false)
theorem marks_snoc (n : Nat) (l : List Int) (x : Int) : marks n (l ++ [x]) = mark n (marks n l) x := by simp [marks]
theorem marks_length (n : Nat) (l : List Int) : (marks n l).length = n := by
  unfold marks
  suffices H : ∀ m : List Bool, (l.foldl (mark n) m).length = m.length by rw [H]; simp
  induction l with
  | nil => intro m; rfl
  | cons x l ih =>
    intro m
    rw [List.foldl_cons, ih]
    unfold mark; split <;> simp
theorem marks_get (n : Nat) (l : List Int) (x : Nat) (hx : x < n) : (marks n l)[x]? = some (decide ((x : Int) ∈ l)) := by
  induction l using rev_ind with
  | nil => simp [marks, hx]
  | snoc l y ih =>
    rw [marks_snoc]
    unfold mark
    split
    · rename_i h
      rw [List.getElem?_set]
      have hl := marks_length n l
      by_cases e : y.toNat = x
      · rw [if_pos e, if_pos (by omega)]
        simp; right; omega
      · rw [if_neg e, ih]
        congr 1
        simp
        intro hy; omega
    · rename_i h
      rw [ih]
      congr 1
      simp
      intro hy
      omega
def restL (n : Nat) (l : List Int) : List Int := (upTo n).filter fun x => decide (x ∉ l)
theorem restL_succ (n : Nat) (l : List Int) : restL (n + 1) l = restL n l ++ (if (n : Int) ∈ l then [] else [(n : Int)]) := by
  unfold restL
  rw [upTo_succ, List.filter_append]
  congr 1
  by_cases h : (n : Int) ∈ l <;> simp [h]
theorem restL_le (n : Nat) (l : List Int) : (restL n l).length ≤ n := by
  unfold restL
  have := List.length_filter_le (fun x => decide (x ∉ l)) (upTo n)
  rw [upTo_length] at this
  exact this

end Go.Proofs.Ytiodofijcghpaaa
