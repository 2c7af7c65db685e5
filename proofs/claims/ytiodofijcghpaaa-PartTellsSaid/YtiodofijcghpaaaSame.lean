/- hand.SameInts, law8's known, part.Boot; contracts. -/
import Derived.Test.YtiodofijcghpaaaRest
import Derived.Test.YtiodofijcghpaaaAsc
namespace Go.Proofs.Ytiodofijcghpaaa
open Go.RowKit

set_option maxHeartbeats 800000 in
theorem sameInts_any (va vb : Value) (la lb : List Int) (w : World) (ha : Sl i64 w va la) (hb : Sl i64 w vb lb) (h1 : la.length ≤ 1000000) (h2 : lb.length ≤ 1000000) :
    Calls Try.prog 12 #[va, vb] w fun e w' => e = .returned (.bool (decide (la = lb))) ∧ Below w.heap.size w w' := by
  obtain ⟨a, cap, rfl⟩ := ha.len
  obtain ⟨b, cap', rfl⟩ := hb.len
  by_cases hl : la.length = lb.length
  · have hne : ((la.length : Int) != (lb.length : Int)) = false := by simp; omega
    have HL := hid hl
    clear hl
    go_enter Try.func12, Try.ntmps12
    go_wp2
    go_loopg [5] la.length (fun g i wr => ∃ j : Nat, j + g = la.length ∧ i = .int .i64 j ∧ la.take j = lb.take j ∧ Below w.heap.size w wr)
    case atStart => exact ⟨0, by omega, rfl, rfl, Below.refl _ _⟩
    case round =>
      obtain ⟨j, hj, rfl, ht, hK⟩ := hrel
      have HT := hid ht
      clear ht
      by_cases hlt : j < la.length
      · have hlt2 : j < lb.length := by have := HL.out; omega
        obtain ⟨b1, off1, rfl, hb1, hc1⟩ := ha.at j hlt
        obtain ⟨b2, off2, rfl, hb2, hc2⟩ := hb.at j hlt2
        have hc1' := (hK.cell (p := ⟨b1, off1 + j, none⟩) hb1).trans hc1
        have hc2' := (hK.cell (p := ⟨b2, off2 + j, none⟩) hb2).trans hc2
        clear hc1 hc2
        have hx : Hid (la.take (j + 1) = la.take j ++ [la[j]]) := List.take_succ_eq_append_getElem hlt
        have hy : Hid (lb.take (j + 1) = lb.take j ++ [lb[j]]) := List.take_succ_eq_append_getElem hlt2
        have hgx : Hid (la[j]? = some la[j]) := List.getElem?_eq_getElem hlt
        have hgy : Hid (lb[j]? = some lb[j]) := List.getElem?_eq_getElem hlt2
        generalize la[j] = x at *
        generalize lb[j] = y at *
        have HJ := hid hj
        clear hj
        by_cases he : x = y
        · subst he
          have hxx : (x != x) = false := by simp
          go_wp2
          go_quiet (fail)
          go_wp2
          go_roundg (gk - 1)
          case measure => have := HJ.out; omega
          case rel =>
            refine ⟨j + 1, by have := HJ.out; omega, by go_num, by rw [hx.out, hy.out, HT.out], below_drewN' hK _⟩
        · have hxx : (x != y) = true := by simpa using he
          have HE := hid he
          clear he
          go_wp2
          go_quiet (fail)
          go_wp2
          go_ret
          refine ⟨?_, ?_⟩
          · have : ¬ la = lb := fun e => HE.out (by have a := hgx.out; have b := hgy.out; rw [e, b] at a; simpa using a.symm)
            simp [this]
          · exact below_drewN' hK _
      · obtain rfl : j = la.length := by omega
        go_wp2
        go_ret
        refine ⟨?_, hK⟩
        have : la = lb := by
          have := HT.out
          rw [List.take_length] at this
          rw [this, HL.out, List.take_length]
        simp [this]
  · have hne : ((la.length : Int) != (lb.length : Int)) = true := by simp; omega
    have HL := hid hl
    clear hl
    go_enter Try.func12, Try.ntmps12
    go_wp2
    go_ret
    refine ⟨?_, Below.refl _ _⟩
    have : ¬ la = lb := fun e => HL.out (by rw [e])
    simp [this]

theorem rest_known : restL 4 [2, 0, 2] = [1, 3] := by decide +kernel

set_option maxHeartbeats 800000 in
theorem known_any (w : World) : Calls Try.prog 8 #[] w fun e w' => e = .returned (.bool true) ∧ Below w.heap.size w w' := by
  go_enter Try.func8, Try.ntmps8
  go_wp2_with fail
  have hb0 : Below w.heap.size w (w.alloc (.cells #[.int .i64 2, .int .i64 0, .int .i64 2] 3)) := (Below.refl _ _).alloc (Nat.le_refl _) _
  have hr := rest_any 4 (.slice (some ⟨w.heap.size, 0, none⟩) 3 3) [2, 0, 2] (w.alloc (.cells #[.int .i64 2, .int .i64 0, .int .i64 2] 3)) ((Blk.new i64 w [2, 0, 2] 3).sl 3) (by omega) (by omega) (by simp)
  rw [rest_known, show ((4 : Nat) : Int) = 4 from rfl] at hr
  refine hr.mono ?_
  clear hr
  rintro e w1 ⟨v, rfl, hown, hb⟩
  have hS := Sl.of_owns hown
  obtain ⟨a, cap, rfl⟩ := hS.len
  obtain ⟨b0, off, rfl, hb1, hc0⟩ := hS.at 0 (by simp)
  obtain ⟨b2, off2, he, hb2, hc1⟩ := hS.at 1 (by simp)
  cases he
  simp at hc0 hc1
  clear hS hown
  go_wp2
  go_ret
  exact ⟨rfl, hb0.trans (hb.mono (by simp))⟩

/-- the bag that Boot draws -/
def bagL (n : Nat) (s : Int) : List Int := sortI (drawL n n s).1
theorem bagL_length (n : Nat) (s : Int) : (bagL n s).length = n := by unfold bagL; rw [sortI_length, drawL_length]

set_option maxHeartbeats 800000 in
theorem boot_any (b n : Nat) (s : Int) (w : World) (h : Die w b s) (hn : 1 ≤ n) (hn2 : n ≤ 300) :
    Calls Try.prog 10 #[.int .i64 n, .pointer (some ⟨b, 0, none⟩)] w fun e w' => ∃ va vb, e = .returned (.tuple #[va, vb]) ∧
      w'.ownsRow w.heap.size 3 1 va n ((bagL n s).map i64) ∧ w'.ownsRow w.heap.size 3 1 vb (restL n (bagL n s)).length ((restL n (bagL n s)).map i64) ∧ Die w' b (drawL n n s).2 ∧ Kept (· = b) w w' := by
  go_enter Try.func10, Try.ntmps10
  go_wp2_with fail
  refine (ddraw_die b n n s w h (by omega) (by omega) hn (by omega)).mono ?_
  rintro e w1 ⟨B, hB, rfl, hblk, hd1, hk1⟩
  go_wp2_with fail
  have hlen := drawL_length n n s
  have hsl := hblk.sl n
  rw [hlen] at hsl
  refine (ascending_any _ _ (by omega) w1 hsl).mono ?_
  rintro e w2 ⟨va, rfl, hown, hb2⟩
  rw [hlen] at hown
  have HL := hid hlen
  clear hlen
  go_wp2_with fail
  refine (rest_any n va (bagL n s) w2 (Sl.of_owns hown) hn hn2 (by rw [bagL_length]; omega)).mono ?_
  rintro e w3 ⟨vb, rfl, hown3, hb3⟩
  go_wp2
  go_ret2
  exact ⟨va, vb, rfl, owns_lower (owns_below hown hb3) hk1.size, owns_lower hown3 (Nat.le_trans hk1.size hb2.size), (hd1.below hb2).below hb3, hk1.trans ((Kept.of_below hb2 _).trans (Kept.of_below hb3 _))⟩

end Go.Proofs.Ytiodofijcghpaaa
