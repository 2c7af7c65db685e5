/- part.Folds, part.Even, part.Boot, part.Rest: what is refused; contracts. -/
import Derived.Test.YtiodofijcghpaaaPart
namespace Go.Proofs.Ytiodofijcghpaaa
open Go.RowKit

set_option maxHeartbeats 400000 in
theorem folds_err (b : Nat) (n k : Int) (w : World) (h : k < 2 ∨ n < k ∨ 300 < n) :
    Calls Try.prog 16 #[.int .i64 n, .int .i64 k, .pointer (some ⟨b, 0, none⟩)] w fun e w' => e = .returned (.tuple #[.slice none 0 0, .int .i64 1]) ∧ w = w' := by
  by_cases h1 : k < 2
  · have d1 : decide (k < 2) = true := by simpa using h1
    go_enter Try.func16, Try.ntmps16
    go_wp2
    go_ret2
    exact ⟨rfl, rfl⟩
  · have d1 : decide (k < 2) = false := by simpa using h1
    by_cases h2 : n < k
    · have d2 : decide (n < k) = true := by simpa using h2
      go_enter Try.func16, Try.ntmps16
      go_wp2
      go_ret2
      exact ⟨rfl, rfl⟩
    · have d2 : decide (n < k) = false := by simpa using h2
      have h3 : 300 < n := by omega
      clear h
      go_enter Try.func16, Try.ntmps16
      go_wp2
      go_ret2
      exact ⟨rfl, rfl⟩

set_option maxHeartbeats 400000 in
theorem even_err1 (b : Nat) (v : Value) (l : List Int) (k : Int) (w : World) (hS : Sl i64 w v l) (hl : l.length ≤ 1000000) (h : k < 2 ∨ l.length < k ∨ 300 < l.length) :
    Calls Try.prog 17 #[v, .int .i64 k, .pointer (some ⟨b, 0, none⟩)] w fun e w' => e = .returned (.tuple #[.slice none 0 0, .int .i64 1]) ∧ Below w.heap.size w w' := by
  obtain ⟨a, cap, rfl⟩ := hS.len
  clear hS
  generalize l.length = n at *
  by_cases h1 : k < 2
  · have d1 : decide (k < 2) = true := by simpa using h1
    go_enter Try.func17, Try.ntmps17
    go_wp2
    go_ret2
    exact ⟨rfl, (Below.refl _ _).alloc (Nat.le_refl _) _⟩
  · have d1 : decide (k < 2) = false := by simpa using h1
    by_cases h2 : (n : Int) < k
    · have d2 : decide ((n : Int) < k) = true := by simpa using h2
      go_enter Try.func17, Try.ntmps17
      go_wp2
      go_ret2
      exact ⟨rfl, (Below.refl _ _).alloc (Nat.le_refl _) _⟩
    · have d2 : decide ((n : Int) < k) = false := by simpa using h2
      have h3 : 300 < n := by omega
      clear h
      go_enter Try.func17, Try.ntmps17
      go_wp2
      go_ret2
      exact ⟨rfl, (Below.refl _ _).alloc (Nat.le_refl _) _⟩

set_option maxHeartbeats 800000 in
theorem even_err2 (b : Nat) (v : Value) (l : List Int) (k : Nat) (w : World) (hS : Sl i64 w v l) (hk : 2 ≤ k) (hkl : k ≤ l.length) (hl : l.length ≤ 300) (h : ∃ x ∈ l, x < 0 ∨ 12 ≤ x) :
    Calls Try.prog 17 #[v, .int .i64 k, .pointer (some ⟨b, 0, none⟩)] w fun e w' => e = .returned (.tuple #[.slice none 0 0, .int .i64 1]) ∧ Below w.heap.size w w' := by
  have hS1 := hS
  obtain ⟨a, cap, rfl⟩ := hS.len
  have HH := hid h
  clear h
  have hd1 : decide (l.length < k) = false := by simp; omega
  go_enter Try.func17, Try.ntmps17
  go_wp2
  have hb0 : Below w.heap.size w (w.alloc (.cells #[.slice a l.length cap] 27)) := (Below.refl _ _).alloc (Nat.le_refl _) _
  generalize w.alloc (.cells #[.slice a l.length cap] 27) = w1 at *
  have hS2 := hS.below hb0
  go_loopg [27] l.length (fun g i wr => ∃ j : Nat, j + g = l.length ∧ i = .int .i64 j ∧ (∀ x ∈ l.take j, 0 ≤ x ∧ x < 12) ∧ wr = w1)
  case atStart => exact ⟨0, by omega, rfl, by simp, rfl⟩
  case round =>
    obtain ⟨j, hj, rfl, hr, rfl⟩ := hrel
    have HR := hid hr
    clear hr
    by_cases hlt : j < l.length
    · obtain ⟨b', off, rfl, hb, hc⟩ := hS2.at j hlt
      have hts : Hid (l.take (j + 1) = l.take j ++ [l[j]]) := List.take_succ_eq_append_getElem hlt
      generalize l[j] = x at *
      have HJ := hid hj
      clear hj
      by_cases h1 : x < 0
      · have t1 : decide (x < 0) = true := by simpa using h1
        go_wp2
        go_ret2
        exact ⟨rfl, hb0⟩
      · have t1 : decide (x < 0) = false := by simpa using h1
        by_cases h2 : 12 ≤ x
        · have t2 : decide (12 ≤ x) = true := by simpa using h2
          go_wp2
          go_ret2
          exact ⟨rfl, hb0⟩
        · have t2 : decide (12 ≤ x) = false := by simpa using h2
          go_wp2
          go_roundg (gk - 1)
          case measure => have := HJ.out; omega
          case rel =>
            refine ⟨j + 1, by have := HJ.out; omega, by go_num, ?_, rfl⟩
            rw [hts.out]
            intro y hy
            rw [List.mem_append, List.mem_singleton] at hy
            rcases hy with hy | rfl
            · exact HR.out y hy
            · omega
    · exfalso
      obtain rfl : j = l.length := by omega
      obtain ⟨x, hx, hbad⟩ := HH.out
      have := HR.out x (by rw [List.take_length]; exact hx)
      omega

set_option maxHeartbeats 400000 in
theorem boot_none (b : Nat) (n : Int) (w : World) (hn : n < 1 ∨ 300 < n) :
    Calls Try.prog 10 #[.int .i64 n, .pointer (some ⟨b, 0, none⟩)] w fun e w' => e = .returned (.tuple #[.slice none 0 0, .slice none 0 0]) ∧ w = w' := by
  by_cases h1 : n < 1
  · have d1 : decide (n < 1) = true := by simpa using h1
    go_enter Try.func10, Try.ntmps10
    go_wp2
    go_ret2
    exact ⟨rfl, rfl⟩
  · have d1 : decide (n < 1) = false := by simpa using h1
    have h2 : 300 < n := by omega
    clear hn
    go_enter Try.func10, Try.ntmps10
    go_wp2
    go_ret2
    exact ⟨rfl, rfl⟩

set_option maxHeartbeats 400000 in
theorem rest_none (n : Int) (a : Option Addr) (len cap : Nat) (w : World) (hn : n < 1 ∨ 300 < n) :
    Calls Try.prog 13 #[.int .i64 n, .slice a len cap] w fun e w' => e = .returned (.slice none 0 0) ∧ w = w' := by
  by_cases h1 : n < 1
  · have d1 : decide (n < 1) = true := by simpa using h1
    go_enter Try.func13, Try.ntmps13
    go_wp2
    go_ret
    exact ⟨rfl, rfl⟩
  · have d1 : decide (n < 1) = false := by simpa using h1
    have h2 : 300 < n := by omega
    clear hn
    go_enter Try.func13, Try.ntmps13
    go_wp2
    go_ret
    exact ⟨rfl, rfl⟩

end Go.Proofs.Ytiodofijcghpaaa
