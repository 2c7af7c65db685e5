/- part.Folds, part.Even where nothing is refused; contracts. -/
import Derived.Test.YtiodofijcghpaaaDeal
import Derived.Test.YtiodofijcghpaaaRefuse
import Derived.Test.YtiodofijcghpaaaStableSort
namespace Go.Proofs.Ytiodofijcghpaaa
open Go.RowKit

theorem Blk.rw {α : Type} {enc : α → Value} {w : World} {B : Nat} {l : List α} (h : Blk enc w B l) : ∃ T, Rw enc w B T l.length l := by
  obtain ⟨T, h⟩ := h
  exact ⟨T, Nat.le_refl _, _, h, cellsOf_size enc l, by rw [List.take_of_length_le (by simp [cellsOf])]; simp [cellsOf]⟩

set_option maxHeartbeats 400000 in
theorem folds_ok (b n k : Nat) (s : Int) (w : World) (h : Die w b s) (hk : 2 ≤ k) (hkn : k ≤ n) (hn2 : n ≤ 300) :
    Calls Try.prog 16 #[.int .i64 n, .int .i64 k, .pointer (some ⟨b, 0, none⟩)] w fun e w' => ∃ v, e = .returned (.tuple #[v, .int .i64 0]) ∧
      Sl2b w.heap.size w' v (dealL (orderL n s).1 k) ∧ Die w' b (orderL n s).2 ∧ Kept (· = b) w w' := by
  have d1 : decide (n < k) = false := by simp; omega
  go_enter Try.func16, Try.ntmps16
  go_wp2_with fail
  refine (dorder_die b n s w h (by omega) (by omega)).mono ?_
  rintro e w1 ⟨B, hB, rfl, hblk, hd1, hk1⟩
  have hlen := orderL_length n s
  have hsl := hblk.sl n
  rw [hlen] at hsl
  have HL := hid hlen
  clear hlen
  go_wp2_with fail
  refine (deal_any k _ _ w1 hsl (by omega) (by omega) (by have := HL.out; omega)).mono ?_
  rintro e w2 ⟨v, rfl, hv, hb2⟩
  go_wp2
  go_ret2
  exact ⟨v, rfl, hv.lower hk1.size, hd1.below hb2, hk1.trans (Kept.of_below hb2 _)⟩

/-- rows in the order of their labels -/
def labLt (lab : List Int) (x y : Int) : Bool := decide (lab.getD x.toNat 0 < lab.getD y.toNat 0)
theorem labLt_weak (lab S : List Int) : WeakOrd (labLt lab) S := by
  refine ⟨fun x _ y _ h => ?_, fun x _ y _ z _ h1 h2 => ?_⟩
  · simp only [labLt, decide_eq_true_eq, decide_eq_false_iff_not] at *; omega
  · simp only [labLt, decide_eq_false_iff_not] at *; omega

set_option maxHeartbeats 800000 in
theorem even1_any (Bx : Nat) (a : Option Addr) (cap : Nat) (lab : List Int) (x y : Nat) (w : World) (hbox : w.cell? ⟨Bx, 0, none⟩ = some (.slice a lab.length cap)) (hS : Sl i64 w (.slice a lab.length cap) lab) (hx : x < lab.length) (hy : y < lab.length) (hl : lab.length ≤ 1000000) :
    Calls Try.prog 30 #[.int .i64 x, .int .i64 y, .pointer (some ⟨Bx, 0, none⟩)] w fun e w' => ∃ c : Int, e = .returned (.int .i64 c) ∧ decide (c < 0) = labLt lab x y ∧ Below w.heap.size w w' := by
  obtain ⟨b, off, rfl, hb, hc1⟩ := hS.at x hx
  obtain ⟨b2, off2, he, hb2, hc2⟩ := hS.at y hy
  cases he
  have hlt : labLt lab x y = decide (lab[x] < lab[y]) := by simp [labLt, hx, hy]
  rw [hlt]
  generalize lab[x] = u at *
  generalize lab[y] = v at *
  clear hlt hS
  go_enter Try.func30, Try.ntmps30
  go_wp2
  go_still_tail 8, (by kernel_rfl)
  change wpList _ _ _ _ _ w.drew
  go_wp2_with fail
  refine (Try.cmp_Compare_int u v w.drew).mono ?_
  rintro e w1 ⟨rfl, rfl⟩
  go_wp2
  go_ret
  refine ⟨_, rfl, ?_, (Below.refl _ _).drew⟩
  show decide (Lib.compareInt u v < 0) = decide (u < v)
  unfold Lib.compareInt
  by_cases h1 : u < v
  · simp [h1]
  · by_cases h2 : v < u <;> simp [h1, h2]

theorem even1_enters (args : Array Value) (w : World) : (callFunc 30 args).run Try.prog w = .ok (.enter 30 args) w := enters_of Try.func30 (by kernel_rfl) rfl args w

set_option maxRecDepth 100000 in
set_option maxHeartbeats 1600000 in
theorem even_ok (b k : Nat) (v : Value) (lab : List Int) (s : Int) (w : World) (hS : Sl i64 w v lab) (h : Die w b s) (hk : 2 ≤ k) (hkl : k ≤ lab.length) (hl : lab.length ≤ 300) (hlab : ∀ x ∈ lab, 0 ≤ x ∧ x < 12) (hne : ∀ b' off len cap, v = .slice (some ⟨b', off, none⟩) len cap → b' ≠ b) :
    Calls Try.prog 17 #[v, .int .i64 k, .pointer (some ⟨b, 0, none⟩)] w fun e w' => ∃ v' l', e = .returned (.tuple #[v', .int .i64 0]) ∧ StableOf (labLt lab) (orderL lab.length s).1 l' ∧
      Sl2b w.heap.size w' v' (dealL l' k) ∧ Die w' b (orderL lab.length s).2 ∧ Kept (· = b) w w' := by
  obtain ⟨a, cap, rfl⟩ := hS.len
  have HLB := hid hlab
  have HNE := hid hne
  clear hlab hne
  have hd1 : decide (lab.length < k) = false := by simp; omega
  go_enter Try.func17, Try.ntmps17
  go_wp2
  have hb0 : Below w.heap.size w (w.alloc (.cells #[.slice a lab.length cap] 27)) := (Below.refl _ _).alloc (Nat.le_refl _) _
  have hbox : (w.alloc (.cells #[.slice a lab.length cap] 27)).cell? ⟨w.heap.size, 0, none⟩ = some (.slice a lab.length cap) := World.cell?_alloc_new _ _ _ _
  have hbsz : w.heap.size < (w.alloc (.cells #[.slice a lab.length cap] 27)).heap.size := by simp
  generalize w.alloc (.cells #[.slice a lab.length cap] 27) = w1 at *
  have hS2 := hS.below hb0
  have hd2 := h.below hb0
  go_loopg [27] lab.length (fun g i wr => ∃ j : Nat, j + g = lab.length ∧ i = .int .i64 j ∧ w1 = wr)
  case atStart => exact ⟨0, by omega, rfl, rfl⟩
  case round =>
    obtain ⟨j, hj, rfl, rfl⟩ := hrel
    by_cases hlt : j < lab.length
    · obtain ⟨b', off, rfl, hb, hc⟩ := hS2.at j hlt
      have hxr := HLB.out lab[j] (List.getElem_mem hlt)
      generalize lab[j] = x at *
      obtain ⟨x1, x2⟩ := hxr
      have HJ := hid hj
      clear hj
      have t1 : decide (x < 0) = false := by simpa using x1
      have t2 : decide (12 ≤ x) = false := by simpa using x2
      go_wp2
      go_roundg (gk - 1)
      case measure => have := HJ.out; omega
      case rel => exact ⟨j + 1, by have := HJ.out; omega, by go_num, rfl⟩
    · obtain rfl : j = lab.length := by omega
      clear hj
      go_wp2_with fail
      refine (dorder_die b lab.length s w1 hd2 (by omega) (by omega)).mono ?_
      rintro e w2 ⟨B, hB, rfl, hblk, hd3, hk3⟩
      have hlen := orderL_length lab.length s
      have hperm := orderL_perm lab.length s (by omega)
      obtain ⟨T, hR⟩ := hblk.rw
      rw [hlen] at hR
      generalize hL : (orderL lab.length s).1 = L at *
      have HL := hid (And.intro hL (And.intro hlen hperm))
      clear hL hlen hperm
      have hC : CmpOk Try.prog 30 #[.pointer (some ⟨w.heap.size, 0, none⟩)] B w2 (labLt lab) L := by
        refine ⟨even1_enters, fun W hW x hx y hy => ?_⟩
        obtain ⟨hL, hlen, hperm⟩ := HL.out
        have hx' := (upTo_mem _ _).1 (hperm.mem_iff.1 hx)
        have hy' := (upTo_mem _ _).1 (hperm.mem_iff.1 hy)
        obtain ⟨x, rfl⟩ := Int.eq_ofNat_of_zero_le hx'.1
        obtain ⟨y, rfl⟩ := Int.eq_ofNat_of_zero_le hy'.1
        have hbne : w.heap.size ≠ b := by have := h.lt; omega
        have hWc : W.cell? ⟨w.heap.size, 0, none⟩ = some (.slice a lab.length cap) := by
          rw [hW.cell (p := ⟨w.heap.size, 0, none⟩) (by have := hk3.size; simp; omega) (by simp; omega), hk3.cell (p := ⟨w.heap.size, 0, none⟩) hbsz hbne]; exact hbox
        have hS3 := (hS2.kept hk3 (fun b' off len cap e => HNE.out b' off len cap e)).kept hW (fun b' off len cap' e => by
          have := hS.low b' off len cap' e (by intro h0; simp [h0] at hkl; omega)
          have := hb0.size; omega)
        exact even1_any w.heap.size a cap lab x y W hWc hS3 (by omega) (by omega) (by omega)
      have HC := hid (sortStable_any B lab.length lab.length T 30 #[.pointer (some ⟨w.heap.size, 0, none⟩)] (labLt lab) L w2 hR HL.out.2.1.symm (by omega) hC (labLt_weak lab L))
      clear hC
      go_wp2_with fail
      refine HC.out.mono ?_
      rintro e w3 ⟨rfl, l', hst, hR3, hk4⟩
      have hl' : l'.length = lab.length := by rw [hst.perm.length_eq]; exact HL.out.2.1
      have hsl := hR3.sl lab.length
      rw [hl'] at hsl
      have HLL := hid hl'
      clear hl' HC
      go_wp2_with fail
      refine (deal_any k _ _ w3 hsl (by omega) (by omega) (by have := HLL.out; omega)).mono ?_
      rintro e w4 ⟨v', rfl, hv', hb5⟩
      go_wp2
      go_ret2
      rw [HL.out.1]
      have hdB : b ≠ B := by have := hd3.lt; have := h.lt; have := hb0.size; omega
      refine ⟨v', l', rfl, hst, hv'.lower (by have := hb0.size; have := hk3.size; have := hk4.size; omega), (hd3.kept hk4 hdB).below hb5, ?_⟩
      have k1 : Kept (· = b) w w1 := Kept.of_below hb0 _
      have k2 := k1.trans hk3
      have k3 : Kept (· = b) w w3 := k2.then hk4 (fun i hi e => by subst e; have := hb0.size; omega)
      exact k3.trans (Kept.of_below hb5 _)

end Go.Proofs.Ytiodofijcghpaaa
