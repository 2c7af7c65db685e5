/- The dice in plain numbers: the next state, the mixed number, Below, Order and Draw as functions of the state. -/
import Derived.WalkKit
namespace Go.Proofs.Ytiodofijcghpaaa
open Go.RowKit

def nxt (s : Int) : Int := IntKind.u64.wrap (s + 11400714819323198485)
def mixA (z : Int) : Int := IntKind.u64.wrap (bits .xor .u64 z (z / 1073741824) * 13787848793156543929)
def mixB (z : Int) : Int := IntKind.u64.wrap (bits .xor .u64 z (z / 134217728) * 10723151780598845931)
def mixC (z : Int) : Int := bits .xor .u64 z (z / 2147483648)
def mix (z : Int) : Int := mixC (mixB (mixA z))
/-- the greatest number that Below takes -/
def last (n : Int) : Int := 18446744073709551615 - 18446744073709551616 % n
def two64 : Int := 18446744073709551616
/-- how many steps until the state is 0 -/
def dist (s : Int) : Int := (-s * 17428512612931826493) % 18446744073709551616
def left (s : Int) : Nat := (dist (nxt s)).toNat
def belowGo (n : Int) : Nat → Int → Int × Int
  | 0, s => (0, s)
  | k + 1, s => if mix (nxt s) ≤ last n then (mix (nxt s) % n, nxt s) else belowGo n k (nxt s)
def below (n s : Int) : Int × Int := belowGo n (left s + 1) s

theorem wrap_u64 (n : Int) : IntKind.u64.wrap n = n % 18446744073709551616 := by simp [IntKind.wrap, IntKind.bits, IntKind.signed]

theorem nxt_range (s : Int) : 0 ≤ nxt s ∧ nxt s < two64 := by unfold nxt two64; rw [wrap_u64]; omega

theorem mix_zero : mix 0 = 0 := by decide +kernel
theorem last_nonneg (n : Int) (h : 1 ≤ n) (h2 : n ≤ 9223372036854775807) : 0 ≤ last n := by
  unfold last
  have := Int.emod_lt_of_pos 18446744073709551616 (show 0 < n by omega)
  omega
theorem last_lt (n : Int) (h : 1 ≤ n) : last n < two64 := by
  unfold last two64
  have := Int.emod_nonneg 18446744073709551616 (show n ≠ 0 by omega)
  omega

theorem wrap_u64_range (x : Int) : 0 ≤ IntKind.u64.wrap x ∧ IntKind.u64.wrap x < two64 := by rw [wrap_u64]; unfold two64; omega
theorem bits_range (op : BinOp) (x y : Int) : 0 ≤ bits op .u64 x y ∧ bits op .u64 x y < two64 := by
  unfold bits; split <;> exact wrap_u64_range _
theorem mix_range (z : Int) : 0 ≤ mix z ∧ mix z < two64 := by unfold mix mixC; exact bits_range _ _ _

theorem dist_gen (M g i q s : Int) (e : g*i = 1 + M*q) : (-((s+g) % M) * i) % M = ((-s*i) % M - 1) % M := by
  have h1 : (s+g) % M = s + g - M * ((s+g)/M) := Int.emod_def _ _
  rw [h1]
  generalize (s+g)/M = r
  have : -(s + g - M*r) * i = (-s*i - 1) + M*(r*i - q) := by grind
  rw [this, Int.add_mul_emod_self_left, Int.emod_sub_emod]

theorem dist_nxt (s : Int) : dist (nxt s) = (dist s - 1) % 18446744073709551616 := by
  unfold dist nxt
  rw [wrap_u64]
  exact dist_gen 18446744073709551616 11400714819323198485 17428512612931826493 10771413168148108919 s (by decide +kernel)

theorem zero_gen (M g i q s : Int) (e : g*i = 1 + M*q) (h0 : 0 ≤ s) (h1 : s < M) (h : (-s*i) % M = 0) : s = 0 := by
  obtain ⟨k, hk⟩ := Int.dvd_of_emod_eq_zero h
  have h2 : s = M * (-(k * g) - s * q) := by
    have h3 : s * (g * i) = -(M * k) * g := by rw [← hk]; grind
    rw [e] at h3; grind
  generalize -(k * g) - s * q = t at h2
  by_cases ht : t = 0
  · rw [h2, ht, Int.mul_zero]
  · exfalso
    by_cases hp : 1 ≤ t
    · have : M * 1 ≤ M * t := Int.mul_le_mul_of_nonneg_left hp (by omega)
      omega
    · have : M * t ≤ M * (-1) := Int.mul_le_mul_of_nonneg_left (by omega) (by omega)
      omega

theorem dist_zero (s : Int) (h0 : 0 ≤ s) (h1 : s < two64) (h : dist s = 0) : s = 0 := by
  unfold dist at h
  exact zero_gen 18446744073709551616 11400714819323198485 17428512612931826493 10771413168148108919 s (by decide +kernel) h0 h1 h

theorem dist_range (s : Int) : 0 ≤ dist s ∧ dist s < 18446744073709551616 := by unfold dist; omega

/-- A round that does not take the number comes nearer to the state 0. -/
theorem left_lt (s : Int) (h : nxt s ≠ 0) : left (nxt s) < left s := by
  unfold left
  have r := nxt_range s
  have d := dist_nxt (nxt s)
  have z := dist_range (nxt s)
  have : dist (nxt s) ≠ 0 := fun e => h (dist_zero _ r.1 r.2 e)
  omega

theorem belowGo_enough (n : Int) (h : 1 ≤ n) (h2 : n ≤ 9223372036854775807) : ∀ (k k' : Nat) (s : Int), left s < k → left s < k' → belowGo n k s = belowGo n k' s := by
  intro k
  induction k with
  | zero => intro k' s hs; omega
  | succ k ih =>
    intro k' s hs hs'
    cases k' with
    | zero => omega
    | succ k' =>
      simp only [belowGo]
      by_cases hc : mix (nxt s) ≤ last n
      · rw [if_pos hc, if_pos hc]
      · rw [if_neg hc, if_neg hc]
        have hz : nxt s ≠ 0 := fun e => hc (by rw [e, mix_zero]; exact last_nonneg n h h2)
        have hl := left_lt s hz
        exact ih _ _ (by omega) (by omega)

theorem left_of_not (n s : Int) (h : 1 ≤ n) (h2 : n ≤ 9223372036854775807) (hc : ¬ mix (nxt s) ≤ last n) : left (nxt s) < left s :=
  left_lt s fun e => hc (by rw [e, mix_zero]; exact last_nonneg n h h2)

theorem below_step (n s : Int) (h : 1 ≤ n) (h2 : n ≤ 9223372036854775807) (hc : ¬ mix (nxt s) ≤ last n) : below n s = below n (nxt s) := by
  have hl := left_of_not n s h h2 hc
  unfold below
  rw [show belowGo n (left s + 1) s = belowGo n (left s) (nxt s) by simp only [belowGo]; rw [if_neg hc]]
  exact belowGo_enough n h h2 _ _ _ hl (by omega)

theorem below_take (n s : Int) (h : mix (nxt s) ≤ last n) : below n s = (mix (nxt s) % n, nxt s) := by
  unfold below; simp only [belowGo]; rw [if_pos h]

theorem below_range (n s : Int) (h : 1 ≤ n) (h2 : n ≤ 9223372036854775807) : 0 ≤ (below n s).1 ∧ (below n s).1 < n ∧ 0 ≤ (below n s).2 ∧ (below n s).2 < two64 := by
  suffices H : ∀ k s, left s < k → 0 ≤ (below n s).1 ∧ (below n s).1 < n ∧ 0 ≤ (below n s).2 ∧ (below n s).2 < two64 from H _ s (Nat.lt_succ_self _)
  intro k
  induction k with
  | zero => intro s hs; omega
  | succ k ih =>
    intro s hs
    by_cases hc : mix (nxt s) ≤ last n
    · rw [below_take n s hc]
      have := nxt_range s
      exact ⟨Int.emod_nonneg _ (by omega), Int.emod_lt_of_pos _ (by omega), this.1, this.2⟩
    · rw [below_step n s h h2 hc]
      exact ih _ (by have := left_of_not n s h h2 hc; omega)

/-- what Draw draws: k numbers below n, and the state behind them -/
def drawL (n : Int) : Nat → Int → List Int × Int
  | 0, s => ([], s)
  | k + 1, s => ((drawL n k s).1 ++ [(below n (drawL n k s).2).1], (below n (drawL n k s).2).2)
theorem drawL_length (n : Int) (k : Nat) (s : Int) : (drawL n k s).1.length = k := by
  induction k with
  | zero => rfl
  | succ k ih => simp [drawL, ih]
theorem drawL_range (n : Int) (k : Nat) (s : Int) (h : 1 ≤ n) (h2 : n ≤ 9223372036854775807) : ∀ x ∈ (drawL n k s).1, 0 ≤ x ∧ x < n := by
  induction k with
  | zero => simp [drawL]
  | succ k ih =>
    intro x hx
    simp only [drawL, List.mem_append, List.mem_singleton] at hx
    rcases hx with hx | rfl
    · exact ih x hx
    · have := below_range n (drawL n k s).2 h h2
      exact ⟨this.1, this.2.1⟩

def swapL (l : List Int) (i j : Nat) : List Int := (l.set i (l.getD j 0)).set j (l.getD i 0)
theorem swapL_length (l : List Int) (i j : Nat) : (swapL l i j).length = l.length := by simp [swapL]
/-- the numbers from 0 to n - 1 -/
def upTo (n : Nat) : List Int := (List.range n).map Int.ofNat
theorem upTo_length (n : Nat) : (upTo n).length = n := by simp [upTo]
theorem upTo_succ (n : Nat) : upTo (n + 1) = upTo n ++ [(n : Int)] := by simp [upTo, List.range_succ]
/-- Order: behind the rounds from i down to 1 -/
def orderGo : Nat → List Int → Int → List Int × Int
  | 0, l, s => (l, s)
  | i + 1, l, s => orderGo i (swapL l (i + 1) (below (i + 2) s).1.toNat) (below (i + 2) s).2
def orderL (n : Nat) (s : Int) : List Int × Int := orderGo (n - 1) (upTo n) s
theorem swapL_perm (l : List Int) (i j : Nat) (hi : i < l.length) (hj : j < l.length) : (swapL l i j).Perm l := by
  unfold swapL
  rw [List.getD_eq_getElem?_getD, List.getD_eq_getElem?_getD]
  simp only [hi, hj, List.getElem?_eq_getElem, Option.getD_some]
  have := Array.swap_perm (xs := l.toArray) (i := i) (j := j) (by simpa) (by simpa)
  rw [Array.perm_iff_toList_perm] at this
  simpa [Array.swap] using this
theorem orderGo_length (i : Nat) (l : List Int) (s : Int) : (orderGo i l s).1.length = l.length := by
  induction i generalizing l s with
  | zero => rfl
  | succ i ih => simp [orderGo, ih, swapL_length]
theorem orderGo_perm (i : Nat) (l : List Int) (s : Int) (h : i < l.length) (hl : l.length ≤ 1000000) : (orderGo i l s).1.Perm l := by
  induction i generalizing l s with
  | zero => exact List.Perm.refl _
  | succ i ih =>
    simp only [orderGo]
    have r := below_range (i + 2) s (by omega) (by omega)
    exact (ih _ _ (by rw [swapL_length]; omega) (by rw [swapL_length]; omega)).trans (swapL_perm _ _ _ h (by omega))

end Go.Proofs.Ytiodofijcghpaaa
