/- part.Halves, the refusals of Folds, Even, Boot, Rest; contracts. -/
import Derived.Test.YtiodofijcghpaaaSame
import Derived.Deep.RegionWith
namespace Go.Proofs.Ytiodofijcghpaaa
open Go.RowKit

set_option maxHeartbeats 400000 in
theorem dorder_zero (b : Nat) (n : Int) (w : World) (hn : n < 1) :
    Calls Try.prog 27 #[.pointer (some ⟨b, 0, none⟩), .int .i64 n] w fun e w' => e = .returned (.slice none 0 0) ∧ w = w' := by
  have h1 : decide (n < 1) = true := by simpa using hn
  go_enter Try.func27, Try.ntmps27
  go_wp2
  go_ret
  exact ⟨rfl, rfl⟩

set_option maxHeartbeats 400000 in
theorem halves_err (b : Nat) (n t : Int) (w : World) (h : t < 0 ∨ n < t ∨ 300 < n) :
    Calls Try.prog 15 #[.int .i64 n, .int .i64 t, .pointer (some ⟨b, 0, none⟩)] w fun e w' => e = .returned (.tuple #[.slice none 0 0, .slice none 0 0, .int .i64 1]) ∧ w = w' := by
  by_cases h1 : t < 0
  · have d1 : decide (t < 0) = true := by simpa using h1
    go_enter Try.func15, Try.ntmps15
    go_wp2
    go_ret3
    exact ⟨rfl, rfl⟩
  · have d1 : decide (t < 0) = false := by simpa using h1
    by_cases h2 : n < t
    · have d2 : decide (n < t) = true := by simpa using h2
      go_enter Try.func15, Try.ntmps15
      go_wp2
      go_ret3
      exact ⟨rfl, rfl⟩
    · have d2 : decide (n < t) = false := by simpa using h2
      have h3 : 300 < n := by omega
      clear h
      go_enter Try.func15, Try.ntmps15
      go_wp2
      go_ret3
      exact ⟨rfl, rfl⟩

/-- a part of a block, as a slice -/
theorem Blk.part {α : Type} {enc : α → Value} {w : World} {b : Nat} {l : List α} (h : Blk enc w b l) (i k cap : Nat) (hk : i + k ≤ l.length) : Sl enc w (.slice (some ⟨b, i, none⟩) k cap) ((l.drop i).take k) := by
  have hl : ((l.drop i).take k).length = k := by simp; omega
  right
  refine ⟨b, i, cap, by rw [hl], h.lt, fun j hj => ?_⟩
  rw [h.cell (i + j) (by omega)]
  simp

set_option maxHeartbeats 400000 in
theorem halves_ok (b n t : Nat) (s : Int) (w : World) (h : Die w b s) (hn : 1 ≤ n) (hn2 : n ≤ 300) (ht : t ≤ n) :
    Calls Try.prog 15 #[.int .i64 n, .int .i64 t, .pointer (some ⟨b, 0, none⟩)] w fun e w' => ∃ va vb, e = .returned (.tuple #[va, vb, .int .i64 0]) ∧
      w'.ownsRow w.heap.size 3 1 va (n - t) ((sortI ((orderL n s).1.drop t)).map i64) ∧ w'.ownsRow w.heap.size 3 1 vb t ((sortI ((orderL n s).1.take t)).map i64) ∧ Die w' b (orderL n s).2 ∧ Kept (· = b) w w' := by
  go_enter Try.func15, Try.ntmps15
  go_wp2_with fail
  refine (dorder_die b n s w h hn (by omega)).mono ?_
  rintro e w1 ⟨B, hB, rfl, hblk, hd1, hk1⟩
  have hlen := orderL_length n s
  have hp2 : Sl i64 w1 (.slice (some ⟨B, 0, none⟩) t n) ((orderL n s).1.take t) := by simpa using hblk.part 0 t n (by omega)
  generalize hL : (orderL n s).1 = L at *
  generalize hS : (orderL n s).2 = s' at *
  have HL := hid hL
  have HS := hid hS
  clear hL hS
  by_cases htn : t < n
  · have hp1 : Sl i64 w1 (.slice (some ⟨B, t, none⟩) (n - t) (n - t)) (L.drop t) := by
      have := hblk.part t (n - t) (n - t) (by omega)
      rwa [List.take_of_length_le (by simp; omega)] at this
    go_wp2_with fail
    have q1 : Below w1.heap.size w1 w1.drew := (Below.refl _ _).drew
    have hp1' := hp1.below q1
    have hp2' := hp2.below q1
    have b1 : (L.drop t).length * 8 ≤ 140737488351232 := by simp; omega
    have b2 : (L.take t).length * 8 ≤ 140737488351232 := by simp; omega
    go_region_with (first
      | (go_at_call_of 25 (Value.slice (some ⟨B, t, none⟩) (n - t) (n - t)); refine (ascending_any _ (L.drop t) b1 _ hp1').mono ?_; rintro e w2 ⟨va, rfl, hoa, hb2⟩)
      | (go_at_call_of 25 (Value.slice (some ⟨B, 0, none⟩) t n); refine (ascending_any _ (L.take t) b2 _ (hp2'.below hb2)).mono ?_; rintro e w3 ⟨vb, rfl, hob, hb3⟩))
    have hb2 : Below w1.heap.size w1 w2 := q1.trans hb2
    go_wp2
    go_ret3
    rw [HL.out, HS.out]
    refine ⟨va, vb, rfl, ?_, ?_, (hd1.below hb2).below hb3, (hk1.trans (Kept.of_below hb2 _)).trans (Kept.of_below hb3 _)⟩
    · rw [show n - t = (L.drop t).length by simp; omega]
      exact owns_lower (owns_below hoa hb3) hk1.size
    · rw [show (sortI (L.take t)).map i64 = (sortI (L.take t)).map (Value.int .i64) from rfl]
      have := owns_lower hob (Nat.le_trans hk1.size hb2.size)
      rwa [List.length_take, Nat.min_eq_left (by omega)] at this
  · obtain rfl : n = t := by omega
    go_wp2_with fail
    have q1 : Below w1.heap.size w1 w1.drew := (Below.refl _ _).drew
    have hp2' := hp2.below q1
    have b2 : (L.take n).length * 8 ≤ 140737488351232 := by simp; omega
    go_region_with (first
      | (go_at_call_of 25 (Value.slice (some ⟨B, 0, none⟩) n n); refine (ascending_any _ (L.take n) b2 _ (hp2'.below hb2)).mono ?_; rintro e w3 ⟨vb, rfl, hob, hb3⟩)
      | (go_at_call 25; refine (ascending_any _ [] (by simp) w1.drew (.inl ⟨rfl, _, _, rfl⟩)).mono ?_; rintro e w2 ⟨va, rfl, hoa, hb2⟩))
    have hb2 : Below w1.heap.size w1 w2 := q1.trans hb2
    go_wp2
    go_ret3
    rw [HL.out, HS.out]
    refine ⟨va, vb, rfl, ?_, ?_, (hd1.below hb2).below hb3, (hk1.trans (Kept.of_below hb2 _)).trans (Kept.of_below hb3 _)⟩
    · rw [show n - n = ([] : List Int).length by simp, List.drop_eq_nil_of_le (by omega)]
      exact owns_lower (owns_below hoa hb3) hk1.size
    · have := owns_lower hob (Nat.le_trans hk1.size hb2.size)
      rwa [List.length_take, Nat.min_eq_left (by omega)] at this

/-- no rows at all -/
theorem halves_none (b : Nat) (w : World) :
    Calls Try.prog 15 #[.int .i64 0, .int .i64 0, .pointer (some ⟨b, 0, none⟩)] w fun e w' => ∃ va vb, e = .returned (.tuple #[va, vb, .int .i64 0]) ∧ Sl i64 w' va [] ∧ Sl i64 w' vb [] ∧ Below w.heap.size w w' := by
  go_enter Try.func15, Try.ntmps15
  go_wp2_with fail
  refine (dorder_zero b 0 w (by omega)).mono ?_
  rintro e w1 ⟨rfl, rfl⟩
  go_wp2_with fail
  have q1 : Below w.heap.size w w.drew := (Below.refl _ _).drew
  obtain ⟨ww, hww⟩ : ∃ ww, ww = w.drew := ⟨_, rfl⟩
  have tok : True := trivial
  go_region_with (first
      | (go_at_call 25; have _t := tok; refine (ascending_any _ [] (by simp) _ (.inl ⟨rfl, _, _, rfl⟩)).mono ?_; clear tok; rintro e w2 ⟨va, rfl, hoa, hb2⟩)
      | (go_at_call 25; refine (ascending_any _ [] (by simp) _ (.inl ⟨rfl, _, _, rfl⟩)).mono ?_; rintro e w3 ⟨vb, rfl, hob, hb3⟩))
  have hb2 : Below w.heap.size w w2 := q1.trans hb2
  have e0 : sortI [] = [] := by simp [sortI]
  rw [e0] at hoa hob
  clear e0
  go_wp2
  go_ret3
  exact ⟨va, vb, rfl, (Sl.of_owns (l := []) hoa).below hb3, Sl.of_owns (l := []) hob, hb2.trans (hb3.mono hb2.size)⟩

end Go.Proofs.Ytiodofijcghpaaa
