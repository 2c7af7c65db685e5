/- The document's dice: Next, Below, Order, Draw of abaculusref1; contracts. -/
import Derived.Test.YtiodofijcghpaaaDraw
import Derived.Test.YtiodofijcghpaaaAppend
namespace Go.Proofs.Ytiodofijcghpaaa
open Go.RowKit

set_option maxHeartbeats 400000 in
theorem rnext_any (b : Nat) (s : Int) (w : World) (hc : w.cell? ⟨b, 0, none⟩ = some (.int .u64 s)) (hf : w.frozen? ⟨b, 0, none⟩ = false) :
    Calls Try.prog 47 #[.pointer (some ⟨b, 0, none⟩)] w fun e w' => e = .returned (.int .u64 (mix (nxt s))) ∧ w' = w.setCell ⟨b, 0, none⟩ (.int .u64 (nxt s)) := by
  go_enter Try.func47, Try.ntmps47
  go_wp2
  go_ret
  exact ⟨rfl, rfl⟩

theorem rnext_die (b : Nat) (s : Int) (w : World) (h : Die w b s) :
    Calls Try.prog 47 #[.pointer (some ⟨b, 0, none⟩)] w fun e w' => e = .returned (.int .u64 (mix (nxt s))) ∧ Die w' b (nxt s) ∧ Kept (· = b) w w' ∧ w'.heap.size = w.heap.size := by
  refine (rnext_any b s w h.cell h.free).mono ?_
  rintro e w' ⟨rfl, rfl⟩
  exact ⟨rfl, h.set (nxt_range s).1, (Kept.refl (fun x => x = b) w).setCell (p := ⟨b, 0, none⟩) (fun _ => rfl) _, by simp⟩

theorem rest_walk (n : Int) (h : 1 ≤ n) (h2 : n ≤ 1000000) : (IntKind.u64.wrap (-n)).tmod n = 18446744073709551616 % n := by
  rw [wrap_u64, show -n % 18446744073709551616 = 18446744073709551616 - n by omega, Int.tmod_eq_emod_of_nonneg (by omega), Int.sub_emod_right]

set_option maxHeartbeats 400000 in
theorem rbelow_die (b : Nat) (n s : Int) (w : World) (h : Die w b s) (hn : 1 ≤ n) (hn2 : n ≤ 1000000) :
    Calls Try.prog 41 #[.pointer (some ⟨b, 0, none⟩), .int .i64 n] w fun e w' => e = .returned (.int .i64 (below n s).1) ∧ Die w' b (below n s).2 ∧ Kept (· = b) w w' ∧ w'.heap.size = w.heap.size := by
  go_enter Try.func41, Try.ntmps41
  go_wp2
  rw [rest_walk n hn hn2]
  have hR1 := Int.emod_nonneg 18446744073709551616 (show n ≠ 0 by omega)
  have hR2 := Int.emod_lt_of_pos 18446744073709551616 (show 0 < n by omega)
  have hRl : last n = 18446744073709551615 - 18446744073709551616 % n := rfl
  generalize (18446744073709551616 : Int) % n = R at *
  have HR := hid hRl
  clear hRl
  have hR3 : R ≤ 1000000 := by omega
  go_loopg [7] (left s) (fun k _ wr => ∃ t, left t = k ∧ Die wr b t ∧ below n s = below n t ∧ Kept (· = b) w wr ∧ wr.heap.size = w.heap.size)
  case atStart => exact ⟨s, rfl, h, rfl, Kept.refl _ _, rfl⟩
  case round =>
    obtain ⟨t, hl, hd, hb, hk, hz⟩ := hrel
    have HB := hid hb
    have HZ := hid hz
    have HL := hid hl
    clear hb hz hl
    by_cases hc : mix (nxt t) ≤ last n
    · have HT := hid (below_take n t hc)
      have hm := (mix_range (nxt t)).1
      rw [HR.out] at hc
      go_wp2_with fail
      refine (rnext_die b t wr hd).mono ?_
      rintro e w1 ⟨rfl, hd1, hk1, hz1⟩
      have HZ1 := hid hz1
      clear hz1
      go_wp2
      go_ret
      rw [HB.out, HT.out]
      have := Int.emod_lt_of_pos (mix (nxt t)) (show 0 < n by omega)
      have := Int.emod_nonneg (mix (nxt t)) (show n ≠ 0 by omega)
      exact ⟨ret_int (IntWalk.wrap64_in _ ⟨by omega, by omega⟩), hd1, hk.trans hk1, by rw [HZ1.out, HZ.out]⟩
    · have HT := hid (below_step n t hn (by omega) hc)
      have HW := hid (left_of_not n t hn (by omega) hc)
      rw [HR.out] at hc
      have hc' : decide (mix (nxt t) ≤ 18446744073709551615 - R) = false := by simpa using hc
      go_wp2_with fail
      refine (rnext_die b t wr hd).mono ?_
      rintro e w1 ⟨rfl, hd1, hk1, hz1⟩
      have HZ1 := hid hz1
      clear hz1
      go_wp2
      go_roundg (left (nxt t))
      case measure => rw [← HL.out]; exact HW.out
      case rel => exact ⟨_, rfl, hd1, by rw [HB.out, HT.out], hk.trans hk1, by rw [HZ1.out, HZ.out]⟩

set_option maxHeartbeats 800000 in
theorem rorder_die (b : Nat) (n : Nat) (s : Int) (w : World) (h : Die w b s) (hn : 1 ≤ n) (hn2 : n ≤ 65536) :
    Calls Try.prog 32 #[.pointer (some ⟨b, 0, none⟩), .int .i64 n] w fun e w' =>
      ∃ B, w.heap.size ≤ B ∧ e = .returned (.slice (some ⟨B, 0, none⟩) n n) ∧ Blk i64 w' B (orderL n s).1 ∧ Die w' b (orderL n s).2 ∧ Kept (· = b) w w' := by
  have hmk := fun w => make_ints n w (by omega)
  go_enter Try.func32, Try.ntmps32
  go_wp2
  go_loopg [6] n (fun g i wr => ∃ j : Nat, j + g = n ∧ i = .int .i64 j ∧ Blk i64 wr w.heap.size (upTo j ++ List.replicate g 0) ∧ Die wr b s ∧ Kept (· = b) w wr)
  case atStart => exact ⟨0, by omega, rfl, Blk.new _ _ _ _, h.below ((Below.refl _ _).alloc (Nat.le_refl _) _), (Kept.refl _ _).alloc _⟩
  case round =>
    obtain ⟨j, hj, rfl, hB, hd, hK⟩ := hrel
    have hlen := upTo_length j
    by_cases hlt : j < n
    · have hjk := hid hj
      clear hj
      have hl := hid hlen
      clear hlen
      have hll : (upTo j ++ List.replicate gk 0).length = n := by have := hl.out; have := hjk.out; simp; omega
      obtain ⟨v0, hc⟩ := hB.has j (by omega)
      have hf := hB.free j
      have HL := hid hll
      clear hll
      go_wp2
      go_roundg (gk - 1)
      case measure => have := hjk.out; omega
      case rel =>
        refine ⟨j + 1, by have := hjk.out; omega, by go_num, ?_, ?_, ?_⟩
        · have := hB.set j (j : Int)
          have e : (upTo j ++ List.replicate gk 0).set j (j : Int) = upTo (j + 1) ++ List.replicate (gk - 1) 0 := by
            have := hjk.out
            obtain ⟨g, rfl⟩ : ∃ g, gk = g + 1 := ⟨gk - 1, by omega⟩
            rw [List.set_append_right _ _ (by rw [hl.out]; omega), hl.out, upTo_succ]
            simp [List.replicate_succ]
          rw [e] at this
          exact this
        · exact hd.other ⟨w.heap.size, j, none⟩ _ (by have := h.lt; simp; omega)
        · exact hK.setCell (p := ⟨w.heap.size, j, none⟩) (fun x => absurd x (Nat.lt_irrefl _)) _
    · obtain rfl : j = n := by omega
      obtain rfl : gk = 0 := by omega
      rw [List.replicate_zero, List.append_nil] at hB
      obtain ⟨wo, hwo⟩ : ∃ wo : World, wo = wr := ⟨_, rfl⟩
      rw [← hwo] at hB hd hK
      subst hwo
      go_wp2
      go_loopg [7] (j - 1) (fun g i wr => ∃ (l : List Int) (t : Int), g < j ∧ i = .int .i64 g ∧ Blk i64 wr w.heap.size l ∧ l.length = j ∧ Die wr b t ∧ orderGo g l t = orderL j s ∧ Kept (· = b) w wr)
      case atStart => exact ⟨upTo j, s, by omega, by congr 1; omega, hB, hlen, hd, rfl, hK⟩
      case round =>
        obtain ⟨l, t, hg, rfl, hB, hlen, hd, ho, hK⟩ := hrel
        have HO := hid ho
        have HN := hid hlen
        clear ho hlen
        by_cases hlt : 1 ≤ gk
        · go_wp2_with fail
          refine (rbelow_die b _ _ wr hd (by omega) (by omega)).mono ?_
          have hr := below_range (gk + 1) t (by omega) (by omega)
          generalize hbe : below (gk + 1) t = be at *
          obtain ⟨x, t'⟩ := be
          obtain ⟨r1, r2, r3, r4⟩ := hr
          simp only at r1 r2
          clear r3 r4
          obtain ⟨x, rfl⟩ := Int.eq_ofNat_of_zero_le r1
          rintro e w1 ⟨rfl, hd1, hk1, hz1⟩
          have HZ := hid hz1
          have HBE := hid hbe
          clear hz1 hbe
          have hB1 := hB.kept hk1 (by have := h.lt; omega)
          have hx : x < l.length := by have := HN.out; omega
          have hgl : gk < l.length := by have := HN.out; omega
          obtain ⟨v, hv⟩ : ∃ v, v = l.getD x 0 := ⟨_, rfl⟩
          obtain ⟨u, hu⟩ : ∃ v, v = l.getD gk 0 := ⟨_, rfl⟩
          have c1 : w1.cell? ⟨w.heap.size, x, none⟩ = some (.int .i64 v) := by rw [hv, hB1.cell x hx]; simp [hx]
          have c2 : w1.cell? ⟨w.heap.size, gk, none⟩ = some (.int .i64 u) := by rw [hu, hB1.cell gk hgl]; simp [hgl]
          have f1 := hB1.free x
          have f2 := hB1.free gk
          have hx' : x < j := by omega
          have HV := hid hv
          have HU := hid hu
          clear hv hu hx hgl
          obtain ⟨v', hy'⟩ := cell?_setCell_some (w := w1) (p := ⟨w.heap.size, gk, none⟩) (x := .int .i64 v) (q := ⟨w.heap.size, x, none⟩) (v := .int .i64 v) c1
          go_wp2
          go_region
          all_goals go_wp2
          all_goals go_roundg (gk - 1)
          case measure => omega
          case rel =>
            refine ⟨swapL l gk x, t', by omega, by congr 1; omega, ?_, by rw [swapL_length]; exact HN.out, ?_, ?_, ?_⟩
            · have := ((hB1.set gk v).set x u).drew
              rw [HV.out, HU.out] at this
              rw [HV.out, HU.out]
              exact this
            · exact ((hd1.other ⟨w.heap.size, gk, none⟩ _ (by have := h.lt; simp; omega)).other ⟨w.heap.size, x, none⟩ _ (by have := h.lt; simp; omega)).drew
            · rw [← HO.out]
              obtain ⟨g, rfl⟩ : ∃ g, gk = g + 1 := ⟨gk - 1, by omega⟩
              have hh := HBE.out
              rw [show ((g + 1 : Nat) : Int) + 1 = (g : Int) + 2 by omega] at hh
              simp [orderGo, hh]
            · exact (((hK.trans hk1).setCell (p := ⟨w.heap.size, gk, none⟩) (fun x => absurd x (Nat.lt_irrefl _)) _).setCell (p := ⟨w.heap.size, x, none⟩) (fun x => absurd x (Nat.lt_irrefl _)) _).drew
        · obtain rfl : gk = 0 := by omega
          go_wp2
          go_ret
          have := HO.out
          simp only [orderGo] at this
          rw [← this]
          exact ⟨w.heap.size, Nat.le_refl _, rfl, hB, hd, hK⟩

set_option maxHeartbeats 400000 in
theorem rorder_zero (b : Nat) (n : Int) (w : World) (hn : n < 1) :
    Calls Try.prog 32 #[.pointer (some ⟨b, 0, none⟩), .int .i64 n] w fun e w' => e = .returned (.slice none 0 0) ∧ w = w' := by
  have h1 : decide (n < 1) = true := by simpa using hn
  go_enter Try.func32, Try.ntmps32
  go_wp2
  go_ret
  exact ⟨rfl, rfl⟩

set_option maxHeartbeats 800000 in
theorem rdraw_die (b : Nat) (n : Int) (k : Nat) (s : Int) (w : World) (h : Die w b s) (hn : 1 ≤ n) (hn2 : n ≤ 1000000) (hk2 : k ≤ 65536) :
    Calls Try.prog 35 #[.pointer (some ⟨b, 0, none⟩), .int .i64 n, .int .i64 k] w fun e w' =>
      ∃ v, e = .returned v ∧ w'.ownsRow w.heap.size 3 1 v k ((drawL n k s).1.map i64) ∧ Die w' b (drawL n k s).2 ∧ Kept (· = b) w w' := by
  go_enter Try.func35, Try.ntmps35
  go_wp2
  go_loopg [7, 8] k (fun g v i wr => ∃ j : Nat, j + g = k ∧ i = .int .i64 j ∧ wr.ownsRow w.heap.size 3 1 v j ((drawL n j s).1.map i64) ∧ Die wr b (drawL n j s).2 ∧ Kept (· = b) w wr)
  case atStart => exact ⟨0, by omega, rfl, World.ownsRow_nil _ _ _ _, h, Kept.refl _ _⟩
  case round =>
    obtain ⟨j, hj, rfl, hown, hd, hK⟩ := hrel
    by_cases hlt : j < k
    · have HJ := hid hj
      clear hj
      go_wp2_with fail
      refine (rbelow_die b n _ wr hd hn hn2).mono ?_
      rintro e w1 ⟨rfl, hd1, hk1, hz1⟩
      have hbl := h.lt
      have hown1 : w1.ownsRow w.heap.size 3 1 u7 j ((drawL n j s).1.map i64) := by
        refine ⟨hown.1, ?_⟩
        rcases hown.2 with hh | ⟨g, cap, cur, e1, e2, e3, e4⟩
        · exact .inl hh
        · exact .inr ⟨g, cap, cur, e1, e2, by rw [hk1.block g (lt_of_block e3) (by omega)]; exact e3, e4⟩
      have hsz : w.heap.size ≤ w1.heap.size := Nat.le_trans hK.size hk1.size
      have HZ := hid hz1
      clear hz1 hown
      go_wp2_with (at_builtin; refine app1 rfl _ _ 27 rfl w.heap.size 3 (.int .i64 0) 8 Try.infoInt Try.underlying27 rfl _ _ _ rfl hown1 _ rfl rfl (by omega) (by omega) hsz ?_; intro g' cap' w4 hown4 hk4)
      have hne : ∀ k, u7.ownBlock = some k → w.heap.size ≤ k := fun k e => (hown1.lt k e).1
      go_roundg (gk - 1)
      case measure => have := HJ.out; omega
      case rel =>
        refine ⟨j + 1, by have := HJ.out; omega, by go_num, by simpa [drawL] using hown4, ?_, ?_⟩
        · exact hd1.kept hk4 (fun e => by have := hne _ e; omega)
        · exact (hK.trans hk1).then hk4 (fun i hi e => by have := hne _ e; omega)
    · obtain rfl : k = j := by omega
      go_wp2
      go_ret
      exact ⟨_, rfl, hown, hd, hK⟩

end Go.Proofs.Ytiodofijcghpaaa
