/- abaculusref6.Rest, Boot; contracts. -/
import Derived.Test.YtiodofijcghpaaaRefFolds
namespace Go.Proofs.Ytiodofijcghpaaa
open Go.RowKit

theorem Kept.below_of {B : Nat} {w w' : World} (h : Below B w w') : Kept (fun k => B ≤ k) w w' := ⟨h.os, h.tape, h.output, h.size, fun k _ hx => h.block k (by omega)⟩

set_option maxRecDepth 100000 in
set_option maxHeartbeats 1600000 in
theorem rrest_any (n : Int) (v : Value) (l : List Int) (w : World) (hS : Sl i64 w v l) (hn2 : n ≤ 300) (hl : l.length ≤ 100000) :
    Calls Try.prog 24 #[.int .i64 n, v] w fun e w' => ∃ v', e = .returned v' ∧ w'.ownsRow w.heap.size 3 1 v' (restL n.toNat l).length ((restL n.toNat l).map i64) ∧ Below w.heap.size w w' := by
  obtain ⟨a, cap, rfl⟩ := hS.len
  go_enter Try.func24, Try.ntmps24
  go_wp2
  go_loopg [5, 6, 7, 8] n.toNat (fun g v i _ _ wr => ∃ j : Nat, j + g = n.toNat ∧ i = .int .i64 j ∧ wr.ownsRow w.heap.size 3 1 v (restL j l).length ((restL j l).map i64) ∧ Below w.heap.size w wr)
  case atStart => exact ⟨0, by omega, rfl, World.ownsRow_nil _ _ _ _, Below.refl _ _⟩
  case round =>
    obtain ⟨j, hj, rfl, hown, hB⟩ := hrel
    by_cases hlt : (j : Int) < n
    · have hrs := restL_succ j l
      have hrl := restL_le j l
      have hS2 := hS.below hB
      have HR := hid hrs
      have HJ := hid hj
      clear hrs hj
      have hsz := hB.size
      go_wp2
      go_loopg [7, 8] l.length (fun g b i w2 => ∃ m : Nat, m + g = l.length ∧ i = .int .i64 m ∧ b = .bool (decide ((j : Int) ∈ l.take m)) ∧ w2 = wr)
      case atStart => exact ⟨0, by omega, rfl, by simp, rfl⟩
      case round =>
        obtain ⟨m, hm, rfl, rfl, rfl⟩ := hrel
        by_cases hml : m < l.length
        · obtain ⟨b, off, rfl, hb, hc⟩ := hS2.at m hml
          have hts : Hid (l.take (m + 1) = l.take m ++ [l[m]]) := List.take_succ_eq_append_getElem hml
          generalize l[m] = x at *
          have HM := hid hm
          clear hm
          by_cases hin : (j : Int) ∈ l.take m
          · have hd : decide ((j : Int) ∈ l.take m) = true := by simpa using hin
            rw [hd]
            have HIN := hid hin
            clear hin hd
            go_wp2
            go_roundg (gk - 1)
            case measure => have := HM.out; omega
            case rel => exact ⟨m + 1, by have := HM.out; omega, by go_num, by rw [hts.out]; simp [HIN.out], rfl⟩
          · have hd : decide ((j : Int) ∈ l.take m) = false := by simpa using hin
            rw [hd]
            have HIN := hid hin
            clear hin hd
            go_wp2
            go_roundg (gk - 1)
            case measure => have := HM.out; omega
            case rel => exact ⟨m + 1, by have := HM.out; omega, by go_num, by rw [hts.out]; simp [HIN.out, eq_comm]; by_cases e : x = (j : Int) <;> simp [e], rfl⟩
        · obtain rfl : m = l.length := by omega
          rw [List.take_length]
          by_cases hm : (j : Int) ∈ l
          · have hd : decide ((j : Int) ∈ l) = true := by simpa using hm
            rw [hd]
            clear hd
            have HM := hid hm
            clear hm
            go_wp2
            go_roundg (n.toNat - (j + 1))
            case measure => have := HJ.out; omega
            case rel =>
              refine ⟨j + 1, by omega, by go_num, ?_, hB⟩
              rw [HR.out, if_pos HM.out, List.append_nil]
              exact hown
          · have hd : decide ((j : Int) ∈ l) = false := by simpa using hm
            rw [hd]
            clear hd
            have HM := hid hm
            clear hm
            go_wp2_with (at_builtin; refine app1 rfl _ _ 27 rfl w.heap.size 3 (.int .i64 0) 8 Try.infoInt Try.underlying27 rfl _ _ _ rfl hown _ rfl rfl (by omega) (by omega) hsz ?_; intro g' cap' w1 hown1 hk1)
            have hne : ∀ k, u5.ownBlock = some k → w.heap.size ≤ k := fun k e => (hown.lt k e).1
            go_roundg (n.toNat - (j + 1))
            case measure => have := HJ.out; omega
            case rel =>
              refine ⟨j + 1, by omega, by go_num, ?_, ?_⟩
              · rw [HR.out, if_neg HM.out]
                simpa using hown1
              · exact hB.trans (hk1.below _ hB.size (fun k hk e => by have := hne _ e; omega))
    · obtain rfl : j = n.toNat := by omega
      go_wp2
      go_ret
      exact ⟨_, rfl, hown, hB⟩

set_option maxHeartbeats 400000 in
theorem rboot_any (b n : Nat) (s : Int) (w : World) (h : Die w b s) (hn : 1 ≤ n) (hn2 : n ≤ 300) :
    Calls Try.prog 23 #[.int .i64 n, .pointer (some ⟨b, 0, none⟩)] w fun e w' => ∃ va vb, e = .returned (.tuple #[va, vb]) ∧
      w'.ownsRow w.heap.size 3 1 va n ((bagL n s).map i64) ∧ w'.ownsRow w.heap.size 3 1 vb (restL n (bagL n s)).length ((restL n (bagL n s)).map i64) ∧ Die w' b (drawL n n s).2 ∧ Kept (· = b) w w' := by
  go_enter Try.func23, Try.ntmps23
  go_wp2_with fail
  refine (rdraw_die b n n s w h (by omega) (by omega) (by omega)).mono ?_
  rintro e w1 ⟨vd, rfl, hown0, hd1, hk1⟩
  go_wp2_with fail
  have hlen := drawL_length n n s
  refine (rising_at _ _ (by omega) w1 (Sl.of_owns hown0)).mono ?_
  rintro e w2 ⟨va, rfl, hown, hb2⟩
  rw [hlen] at hown
  have HL := hid hlen
  clear hlen
  go_wp2_with fail
  refine (rrest_any n va (bagL n s) w2 (Sl.of_owns hown) (by omega) (by rw [bagL_length]; omega)).mono ?_
  rintro e w3 ⟨vb, rfl, hown3, hb3⟩
  rw [Int.toNat_natCast] at hown3
  go_wp2
  go_ret2
  exact ⟨va, vb, rfl, owns_lower (owns_below hown hb3) hk1.size, owns_lower hown3 (Nat.le_trans hk1.size hb2.size), (hd1.below hb2).below hb3, hk1.trans ((Kept.of_below hb2 _).trans (Kept.of_below hb3 _))⟩

set_option maxHeartbeats 400000 in
theorem rboot_none (b : Nat) (n : Int) (w : World) (hn : n < 1 ∨ 300 < n) :
    Calls Try.prog 23 #[.int .i64 n, .pointer (some ⟨b, 0, none⟩)] w fun e w' => e = .returned (.tuple #[.slice none 0 0, .slice none 0 0]) ∧ w = w' := by
  by_cases h1 : n < 1
  · have d1 : decide (n < 1) = true := by simpa using h1
    go_enter Try.func23, Try.ntmps23
    go_wp2
    go_ret2
    exact ⟨rfl, rfl⟩
  · have d1 : decide (n < 1) = false := by simpa using h1
    have h2 : 300 < n := by omega
    clear hn
    go_enter Try.func23, Try.ntmps23
    go_wp2
    go_ret2
    exact ⟨rfl, rfl⟩

end Go.Proofs.Ytiodofijcghpaaa
