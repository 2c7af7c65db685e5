/- abaculusref6.Folds, Rest, Boot; contracts. -/
import Derived.Test.YtiodofijcghpaaaRefDeal
import Derived.Test.YtiodofijcghpaaaBucket
namespace Go.Proofs.Ytiodofijcghpaaa
open Go.RowKit

set_option maxHeartbeats 400000 in
theorem rfolds_ok (b n k : Nat) (s : Int) (w : World) (h : Die w b s) (hk : 2 ≤ k) (hkn : k ≤ n) (hn2 : n ≤ 300) :
    Calls Try.prog 20 #[.int .i64 n, .int .i64 k, .pointer (some ⟨b, 0, none⟩)] w fun e w' => ∃ v, e = .returned (.tuple #[v, .int .i64 0]) ∧
      Sl2b w.heap.size w' v (dealL (orderL n s).1 k) ∧ Die w' b (orderL n s).2 ∧ Kept (· = b) w w' := by
  have d1 : decide (n < k) = false := by simp; omega
  go_enter Try.func20, Try.ntmps20
  go_wp2_with fail
  refine (rorder_die b n s w h (by omega) (by omega)).mono ?_
  rintro e w1 ⟨B, hB, rfl, hblk, hd1, hk1⟩
  have hlen := orderL_length n s
  have hsl := hblk.sl n
  rw [hlen] at hsl
  have HL := hid hlen
  clear hlen
  go_wp2_with fail
  refine (rdeal_any k _ _ w1 hsl (by omega) (by omega) (by have := HL.out; omega)).mono ?_
  rintro e w2 ⟨v, rfl, hv, hb2⟩
  go_wp2
  go_ret2
  exact ⟨v, rfl, hv.lower hk1.size, hd1.below hb2, hk1.trans (Kept.of_below hb2 _)⟩

set_option maxHeartbeats 400000 in
theorem rfolds_err (b : Nat) (n k : Int) (w : World) (h : k < 2 ∨ n < k ∨ 300 < n) :
    Calls Try.prog 20 #[.int .i64 n, .int .i64 k, .pointer (some ⟨b, 0, none⟩)] w fun e w' => e = .returned (.tuple #[.slice none 0 0, .int .i64 1]) ∧ w = w' := by
  by_cases h1 : k < 2
  · have d1 : decide (k < 2) = true := by simpa using h1
    go_enter Try.func20, Try.ntmps20
    go_wp2
    go_ret2
    exact ⟨rfl, rfl⟩
  · have d1 : decide (k < 2) = false := by simpa using h1
    by_cases h2 : n < k
    · have d2 : decide (n < k) = true := by simpa using h2
      go_enter Try.func20, Try.ntmps20
      go_wp2
      go_ret2
      exact ⟨rfl, rfl⟩
    · have d2 : decide (n < k) = false := by simpa using h2
      have h3 : 300 < n := by omega
      clear h
      go_enter Try.func20, Try.ntmps20
      go_wp2
      go_ret2
      exact ⟨rfl, rfl⟩

end Go.Proofs.Ytiodofijcghpaaa
