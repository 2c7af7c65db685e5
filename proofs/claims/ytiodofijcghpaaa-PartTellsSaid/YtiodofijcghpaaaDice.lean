/- The dice: New, Next, Below, State of abaculus/dice; contracts. -/
import Derived.Test.YtiodofijcghpaaaRows
import Derived.Test.YtiodofijcghpaaaBase
import Derived.Test.YtiodofijcghpaaaDicePlain
import Derived.WalkLawsBesides
import Derived.Deep.LoopGhost

namespace Go.Proofs.Ytiodofijcghpaaa
open Go.RowKit

theorem tmod_pick (n m : Int) (hm : 1 ≤ m) : (if n.tmod m < 0 then n.tmod m + m else n.tmod m) = n % m := by
  by_cases h : 0 ≤ n
  · have e : n.tmod m = n % m := Int.tmod_eq_emod_of_nonneg h
    have := Int.emod_nonneg n (show m ≠ 0 by omega)
    rw [e, if_neg (by omega)]
  · have e : n.tmod m = -((-n) % m) := by
      rw [show n = -(-n) by omega, Int.neg_tmod, Int.tmod_eq_emod_of_nonneg (by omega)]; simp
    have h1 := Int.emod_nonneg (-n) (show m ≠ 0 by omega)
    have h2 := Int.emod_lt_of_pos (-n) (show 0 < m by omega)
    have h4 := Int.emod_nonneg n (show m ≠ 0 by omega)
    have h5 := Int.emod_lt_of_pos n (show 0 < m by omega)
    have h6 := Int.mul_ediv_add_emod n m
    have h7 := Int.mul_ediv_add_emod (-n) m
    have h8 : m * (n / m + -n / m) = -(n % m + -n % m) := by rw [Int.mul_add]; omega
    generalize n / m + -n / m = t at h8
    have h9 : t = 0 ∨ t = -1 := by
      by_cases a : t ≤ -2
      · have : m * t ≤ m * (-2) := Int.mul_le_mul_of_nonneg_left a (by omega)
        omega
      · by_cases b : 1 ≤ t
        · have : m * 1 ≤ m * t := Int.mul_le_mul_of_nonneg_left b (by omega)
          omega
        · omega
    rcases h9 with rfl | rfl
    · rw [e, if_neg (by omega)]; omega
    · rw [e, if_pos (by omega)]; omega

set_option maxHeartbeats 400000 in
theorem pick_any (n m : Int) (w : World) (hm : 1 ≤ m) (hm2 : m ≤ 1000000) :
    Calls Try.prog 9 #[.int .i64 n, .int .i64 m] w fun e w' => e = .returned (.int .i64 (n % m)) ∧ w = w' := by
  have hp := hid (tmod_pick n m hm)
  have hr : n.tmod m < m := Int.tmod_lt_of_pos _ (by omega)
  have hr2 : -m < n.tmod m := by have := Int.lt_tmod_of_pos n (show 0 < m by omega); omega
  by_cases hn : n.tmod m < 0
  · go_enter Try.func9, Try.ntmps9
    go_wp2
    go_ret
    have := hp.out
    rw [if_pos hn] at this
    exact ⟨ret_int this, rfl⟩
  · go_enter Try.func9, Try.ntmps9
    go_wp2
    go_ret
    have := hp.out
    rw [if_neg (by omega)] at this
    exact ⟨ret_int this, rfl⟩

set_option maxHeartbeats 400000 in
theorem dnew_any (s : Int) (w : World) :
    Calls Try.prog 7 #[.int .u64 s] w fun e w' => e = .returned (.pointer (some ⟨w.heap.size, 0, none⟩)) ∧ w' = w.alloc (.cells #[.int .u64 s] 55) := by
  go_enter Try.func7, Try.ntmps7
  go_wp2
  go_ret
  exact ⟨rfl, rfl⟩

set_option maxHeartbeats 400000 in
theorem dnext_any (b : Nat) (s : Int) (w : World) (hc : w.cell? ⟨b, 0, none⟩ = some (.int .u64 s)) (hf : w.frozen? ⟨b, 0, none⟩ = false) :
    Calls Try.prog 38 #[.pointer (some ⟨b, 0, none⟩)] w fun e w' => e = .returned (.int .u64 (mix (nxt s))) ∧ w' = w.setCell ⟨b, 0, none⟩ (.int .u64 (nxt s)) := by
  go_enter Try.func38, Try.ntmps38
  go_wp2
  go_ret
  exact ⟨rfl, rfl⟩

theorem dnext_die (b : Nat) (s : Int) (w : World) (h : Die w b s) :
    Calls Try.prog 38 #[.pointer (some ⟨b, 0, none⟩)] w fun e w' => e = .returned (.int .u64 (mix (nxt s))) ∧ Die w' b (nxt s) ∧ Kept (· = b) w w' ∧ w'.heap.size = w.heap.size := by
  refine (dnext_any b s w h.cell h.free).mono ?_
  rintro e w' ⟨rfl, rfl⟩
  exact ⟨rfl, h.set (nxt_range s).1, (Kept.refl (fun x => x = b) w).setCell (p := ⟨b, 0, none⟩) (fun _ => rfl) _, by simp⟩

set_option maxHeartbeats 400000 in
theorem dstate_any (b : Nat) (s : Int) (w : World) (hc : w.cell? ⟨b, 0, none⟩ = some (.int .u64 s)) :
    Calls Try.prog 14 #[.pointer (some ⟨b, 0, none⟩)] w fun e w' => e = .returned (.int .u64 s) ∧ w = w' := by
  go_enter Try.func14, Try.ntmps14
  go_wp2
  go_ret
  exact ⟨rfl, rfl⟩

theorem last_walk (n : Int) (h : 1 ≤ n) (h2 : n ≤ 1000000) : IntKind.u64.wrap (18446744073709551615 - (IntKind.u64.wrap (18446744073709551615 % n + 1)).tmod n) = last n := by
  have h1 := Int.emod_nonneg 18446744073709551615 (show n ≠ 0 by omega)
  have h3 := Int.emod_lt_of_pos 18446744073709551615 (show 0 < n by omega)
  rw [wrap_u64 (18446744073709551615 % n + 1), Int.emod_eq_of_lt (by omega) (by omega), Int.tmod_eq_emod_of_nonneg (by omega), Int.emod_add_emod]
  have h4 := Int.emod_nonneg (18446744073709551615 + 1) (show n ≠ 0 by omega)
  have h5 := Int.emod_lt_of_pos (18446744073709551615 + 1) (show 0 < n by omega)
  rw [wrap_u64, Int.emod_eq_of_lt (by omega) (by omega)]
  rfl

set_option maxHeartbeats 400000 in
theorem dbelow_die (b : Nat) (n s : Int) (w : World) (h : Die w b s) (hn : 1 ≤ n) (hn2 : n ≤ 1000000) :
    Calls Try.prog 26 #[.pointer (some ⟨b, 0, none⟩), .int .i64 n] w fun e w' => e = .returned (.int .i64 (below n s).1) ∧ Die w' b (below n s).2 ∧ Kept (· = b) w w' ∧ w'.heap.size = w.heap.size := by
  go_enter Try.func26, Try.ntmps26
  go_wp2
  rw [last_walk n hn hn2]
  go_loopg [7] (left s) (fun k _ wr => ∃ t, left t = k ∧ Die wr b t ∧ below n s = below n t ∧ Kept (· = b) w wr ∧ wr.heap.size = w.heap.size)
  case atStart => exact ⟨s, rfl, h, rfl, Kept.refl _ _, rfl⟩
  case round =>
    obtain ⟨t, hl, hd, hb, hk, hz⟩ := hrel
    have HB := hid hb
    have HZ := hid hz
    have HL := hid hl
    clear hb hz hl
    by_cases hc : mix (nxt t) ≤ last n
    · have HT := hid (below_take n t hc)
      have hm := (mix_range (nxt t)).1
      go_wp2_with fail
      refine (dnext_die b t wr hd).mono ?_
      rintro e w1 ⟨rfl, hd1, hk1, hz1⟩
      have HZ1 := hid hz1
      clear hz1
      go_wp2
      go_ret
      rw [HB.out, HT.out]
      have := Int.emod_lt_of_pos (mix (nxt t)) (show 0 < n by omega)
      have := Int.emod_nonneg (mix (nxt t)) (show n ≠ 0 by omega)
      exact ⟨ret_int (IntWalk.wrap64_in _ ⟨by omega, by omega⟩), hd1, hk.trans hk1, by rw [HZ1.out, HZ.out]⟩
    · have HT := hid (below_step n t hn (by omega) hc)
      have HW := hid (left_of_not n t hn (by omega) hc)
      have hc' : decide (mix (nxt t) ≤ last n) = false := by simpa using hc
      go_wp2_with fail
      refine (dnext_die b t wr hd).mono ?_
      rintro e w1 ⟨rfl, hd1, hk1, hz1⟩
      have HZ1 := hid hz1
      clear hz1
      go_wp2
      go_roundg (left (nxt t))
      case measure => rw [← HL.out]; exact HW.out
      case rel => exact ⟨_, rfl, hd1, by rw [HB.out, HT.out], hk.trans hk1, by rw [HZ1.out, HZ.out]⟩

end Go.Proofs.Ytiodofijcghpaaa
