/- Draw and Order of abaculus/dice; contracts. -/
import Derived.Test.YtiodofijcghpaaaDice
namespace Go.Proofs.Ytiodofijcghpaaa
open Go.RowKit

theorem Try.infoInt : (Try.prog.info? 3).map (fun i => (i.zero, i.size, i.bytes)) = some (some (.int .i64 0), 1, 8) := by kernel_rfl
theorem make_ints (n : Nat) (w : World) (h : n ≤ 1000000) : (Instr.makeSlice 27 (.int .i64 n) (.int .i64 n)).run Try.prog w = .ok (.slice (some ⟨w.heap.size, 0, none⟩) n n) (w.alloc (.cells (cellsOf i64 (List.replicate n 0)) 3)) := by
  obtain ⟨i0, hi, hz0, hz1, hz2⟩ := info_parts Try.infoInt
  have := run_make (P := Try.prog) w 27 3 i0 (.int .i64 0) Try.underlying27 hi hz0 .i64 .i64 n n (by omega) (by omega) (by rw [hz2]; omega) (by omega)
  rw [this, hz1]
  simp only [Int.toNat_natCast, Nat.mul_one, Value.cells]
  rw [show (#[Value.int .i64 0]) = #[i64 0] from rfl, madeCells_of]

set_option maxHeartbeats 400000 in
theorem ddraw_die (b : Nat) (n : Int) (k : Nat) (s : Int) (w : World) (h : Die w b s) (hn : 1 ≤ n) (hn2 : n ≤ 1000000) (hk : 1 ≤ k) (hk2 : k ≤ 65536) :
    Calls Try.prog 11 #[.pointer (some ⟨b, 0, none⟩), .int .i64 n, .int .i64 k] w fun e w' =>
      ∃ B, w.heap.size ≤ B ∧ e = .returned (.slice (some ⟨B, 0, none⟩) k k) ∧ Blk i64 w' B (drawL n k s).1 ∧ Die w' b (drawL n k s).2 ∧ Kept (· = b) w w' := by
  have hmk := fun w => make_ints k w (by omega)
  go_enter Try.func11, Try.ntmps11
  go_wp2
  go_loopg [26] k (fun g i wr => ∃ j : Nat, j + g = k ∧ i = .int .i64 j ∧ Blk i64 wr w.heap.size ((drawL n j s).1 ++ List.replicate g 0) ∧ Die wr b (drawL n j s).2 ∧ Kept (· = b) w wr)
  case atStart => exact ⟨0, by omega, rfl, Blk.new _ _ _ _, h.below ((Below.refl _ _).alloc (Nat.le_refl _) _), (Kept.refl _ _).alloc _⟩
  case round =>
    obtain ⟨j, hj, rfl, hB, hd, hK⟩ := hrel
    have hlen := drawL_length n j s
    by_cases hlt : j < k
    · have hjk := hid hj
      clear hj
      have hl := hid hlen
      clear hlen
      go_wp2_with fail
      refine (dbelow_die b n _ wr hd hn hn2).mono ?_
      rintro e w1 ⟨rfl, hd1, hk1, hz1⟩
      have hB1 := hB.kept hk1 (by have := h.lt; omega)
      have hZ := hid hz1
      clear hz1 hB
      have hll : ((drawL n j s).1 ++ List.replicate gk 0).length = k := by have := hl.out; have := hjk.out; simp; omega
      obtain ⟨v0, hc⟩ : ∃ v, w1.cell? ⟨w.heap.size, j, none⟩ = some v := ⟨_, hB1.cell j (by omega)⟩
      have hf := hB1.free j
      have HL := hid hll
      clear hll
      go_wp2
      go_roundg (gk - 1)
      case measure => have := hjk.out; omega
      case rel =>
        refine ⟨j + 1, by have := hjk.out; omega, by go_num, ?_, ?_, ?_⟩
        · have := hB1.set j (below n (drawL n j s).2).1
          have e : ((drawL n j s).1 ++ List.replicate gk 0).set j (below n (drawL n j s).2).1 = (drawL n (j + 1) s).1 ++ List.replicate (gk - 1) 0 := by
            have := hjk.out
            obtain ⟨g, rfl⟩ : ∃ g, gk = g + 1 := ⟨gk - 1, by omega⟩
            rw [List.set_append_right _ _ (by rw [hl.out]; omega), hl.out]
            simp [drawL, List.replicate_succ]
          rw [e] at this
          exact this
        · exact hd1.other ⟨w.heap.size, j, none⟩ _ (by have := h.lt; simp; omega)
        · exact (hK.trans hk1).setCell (p := ⟨w.heap.size, j, none⟩) (fun x => absurd x (Nat.lt_irrefl _)) _
    · obtain rfl : j = k := by omega
      obtain rfl : gk = 0 := by omega
      go_wp2
      go_ret
      exact ⟨w.heap.size, Nat.le_refl _, rfl, by simpa using hB, hd, hK⟩

set_option maxHeartbeats 400000 in
theorem dorder_die (b : Nat) (n : Nat) (s : Int) (w : World) (h : Die w b s) (hn : 1 ≤ n) (hn2 : n ≤ 65536) :
    Calls Try.prog 27 #[.pointer (some ⟨b, 0, none⟩), .int .i64 n] w fun e w' =>
      ∃ B, w.heap.size ≤ B ∧ e = .returned (.slice (some ⟨B, 0, none⟩) n n) ∧ Blk i64 w' B (orderL n s).1 ∧ Die w' b (orderL n s).2 ∧ Kept (· = b) w w' := by
  have hmk := fun w => make_ints n w (by omega)
  go_enter Try.func27, Try.ntmps27
  go_wp2
  go_loopg [20] n (fun g i wr => ∃ j : Nat, j + g = n ∧ i = .int .i64 j ∧ Blk i64 wr w.heap.size (upTo j ++ List.replicate g 0) ∧ Die wr b s ∧ Kept (· = b) w wr)
  case atStart => exact ⟨0, by omega, rfl, Blk.new _ _ _ _, h.below ((Below.refl _ _).alloc (Nat.le_refl _) _), (Kept.refl _ _).alloc _⟩
  case round =>
    obtain ⟨j, hj, rfl, hB, hd, hK⟩ := hrel
    have hlen := upTo_length j
    by_cases hlt : j < n
    · have hjk := hid hj
      clear hj
      have hl := hid hlen
      clear hlen
      have hll : (upTo j ++ List.replicate gk 0).length = n := by have := hl.out; have := hjk.out; simp; omega
      obtain ⟨v0, hc⟩ := hB.has j (by omega)
      have hf := hB.free j
      have HL := hid hll
      clear hll
      go_wp2
      go_roundg (gk - 1)
      case measure => have := hjk.out; omega
      case rel =>
        refine ⟨j + 1, by have := hjk.out; omega, by go_num, ?_, ?_, ?_⟩
        · have := hB.set j (j : Int)
          have e : (upTo j ++ List.replicate gk 0).set j (j : Int) = upTo (j + 1) ++ List.replicate (gk - 1) 0 := by
            have := hjk.out
            obtain ⟨g, rfl⟩ : ∃ g, gk = g + 1 := ⟨gk - 1, by omega⟩
            rw [List.set_append_right _ _ (by rw [hl.out]; omega), hl.out, upTo_succ]
            simp [List.replicate_succ]
          rw [e] at this
          exact this
        · exact hd.other ⟨w.heap.size, j, none⟩ _ (by have := h.lt; simp; omega)
        · exact hK.setCell (p := ⟨w.heap.size, j, none⟩) (fun x => absurd x (Nat.lt_irrefl _)) _
    · obtain rfl : j = n := by omega
      obtain rfl : gk = 0 := by omega
      rw [List.replicate_zero, List.append_nil] at hB
      obtain ⟨wo, hwo⟩ : ∃ wo : World, wo = wr := ⟨_, rfl⟩
      rw [← hwo] at hB hd hK
      subst hwo
      go_wp2
      go_loopg [8] (j - 1) (fun g i wr => ∃ (l : List Int) (t : Int), g < j ∧ i = .int .i64 g ∧ Blk i64 wr w.heap.size l ∧ l.length = j ∧ Die wr b t ∧ orderGo g l t = orderL j s ∧ Kept (· = b) w wr)
      case atStart => exact ⟨upTo j, s, by omega, by congr 1; omega, hB, hlen, hd, rfl, hK⟩
      case round =>
        obtain ⟨l, t, hg, rfl, hB, hlen, hd, ho, hK⟩ := hrel
        have HO := hid ho
        have HN := hid hlen
        clear ho hlen
        by_cases hlt : 1 ≤ gk
        · go_wp2_with fail
          refine (dbelow_die b _ _ wr hd (by omega) (by omega)).mono ?_
          have hr := below_range (gk + 1) t (by omega) (by omega)
          generalize hbe : below (gk + 1) t = be at *
          obtain ⟨x, t'⟩ := be
          obtain ⟨r1, r2, r3, r4⟩ := hr
          simp only at r1 r2
          clear r3 r4
          obtain ⟨x, rfl⟩ := Int.eq_ofNat_of_zero_le r1
          rintro e w1 ⟨rfl, hd1, hk1, hz1⟩
          have HZ := hid hz1
          have HBE := hid hbe
          clear hz1 hbe
          have hB1 := hB.kept hk1 (by have := h.lt; omega)
          have hx : x < l.length := by have := HN.out; omega
          have hgl : gk < l.length := by have := HN.out; omega
          obtain ⟨v, hv⟩ : ∃ v, v = l.getD x 0 := ⟨_, rfl⟩
          obtain ⟨u, hu⟩ : ∃ v, v = l.getD gk 0 := ⟨_, rfl⟩
          have c1 : w1.cell? ⟨w.heap.size, x, none⟩ = some (.int .i64 v) := by rw [hv, hB1.cell x hx]; simp [hx]
          have c2 : w1.cell? ⟨w.heap.size, gk, none⟩ = some (.int .i64 u) := by rw [hu, hB1.cell gk hgl]; simp [hgl]
          have f1 := hB1.free x
          have f2 := hB1.free gk
          have hx' : x < j := by omega
          have HV := hid hv
          have HU := hid hu
          clear hv hu hx hgl
          obtain ⟨v', hy'⟩ := cell?_setCell_some (w := w1) (p := ⟨w.heap.size, gk, none⟩) (x := .int .i64 v) (q := ⟨w.heap.size, x, none⟩) (v := .int .i64 v) c1
          go_wp2
          go_region
          all_goals go_wp2
          all_goals go_roundg (gk - 1)
          case measure => omega
          case rel =>
            refine ⟨swapL l gk x, t', by omega, by congr 1; omega, ?_, by rw [swapL_length]; exact HN.out, ?_, ?_, ?_⟩
            · have := ((hB1.set gk v).set x u).drew
              rw [HV.out, HU.out] at this
              rw [HV.out, HU.out]
              exact this
            · exact ((hd1.other ⟨w.heap.size, gk, none⟩ _ (by have := h.lt; simp; omega)).other ⟨w.heap.size, x, none⟩ _ (by have := h.lt; simp; omega)).drew
            · rw [← HO.out]
              obtain ⟨g, rfl⟩ : ∃ g, gk = g + 1 := ⟨gk - 1, by omega⟩
              have hh := HBE.out
              rw [show ((g + 1 : Nat) : Int) + 1 = (g : Int) + 2 by omega] at hh
              simp [orderGo, hh]
            · exact (((hK.trans hk1).setCell (p := ⟨w.heap.size, gk, none⟩) (fun x => absurd x (Nat.lt_irrefl _)) _).setCell (p := ⟨w.heap.size, x, none⟩) (fun x => absurd x (Nat.lt_irrefl _)) _).drew
        · obtain rfl : gk = 0 := by omega
          go_wp2
          go_ret
          have := HO.out
          simp only [orderGo] at this
          rw [← this]
          exact ⟨w.heap.size, Nat.le_refl _, rfl, hB, hd, hK⟩

end Go.Proofs.Ytiodofijcghpaaa
