/- law8.once; contract. -/
import Derived.Test.YtiodofijcghpaaaFolds
import Derived.Test.YtiodofijcghpaaaBootsPlain
namespace Go.Proofs.Ytiodofijcghpaaa
open Go.RowKit

theorem Sl2.len {w : World} {v : Value} {ll : List (List Int)} (h : Sl2 w v ll) : ∃ a cap, v = .slice a ll.length cap := by
  obtain ⟨V, hs, _⟩ := h
  have := hs.len
  rwa [tab_length] at this
theorem Sl2.at {w : World} {a : Option Addr} {n c : Nat} {ll : List (List Int)} (h : Sl2 w (.slice a n c) ll) (i : Nat) (hi : i < ll.length) :
    ∃ b off a' cap, a = some ⟨b, off, none⟩ ∧ b < w.heap.size ∧ w.cell? ⟨b, off + i, none⟩ = some (.slice a' ll[i].length cap) ∧ Sl i64 w (.slice a' ll[i].length cap) ll[i] := by
  obtain ⟨V, hs, hr⟩ := h
  obtain ⟨b, off, ha, hb, hc⟩ := hs.at i (by rw [tab_length]; exact hi)
  rw [tab_get] at hc
  have hri := hr i hi
  obtain ⟨a', cap, e⟩ := hri.len
  rw [e] at hri
  exact ⟨b, off, a', cap, ha, hb, by rw [hc, e]; rfl, hri⟩
theorem Sl2.below {w w' : World} {v : Value} {ll : List (List Int)} (h : Sl2 w v ll) (k : Below w.heap.size w w') : Sl2 w' v ll := by
  obtain ⟨V, hs, hr⟩ := h
  exact ⟨V, hs.below k, fun i hi => (hr i hi).below k⟩

theorem nodup_take {α : Type} {l : List α} (h : l.Nodup) (j : Nat) (hj : j < l.length) : l[j] ∉ l.take j := by
  intro hm
  obtain ⟨i, hi, e⟩ := List.mem_take_iff_getElem.1 hm
  have := List.pairwise_iff_getElem.1 h i j (by omega) hj (by omega)
  exact this e

set_option maxRecDepth 100000 in
set_option maxHeartbeats 3200000 in
theorem once_true (n : Nat) (v : Value) (ll : List (List Int)) (w : World) (hS : Sl2 w v ll) (hn : n ≤ 1000) (hll : ll.length ≤ 1000) (hp : ll.flatten.Perm (upTo n)) (hs : ∀ p ∈ ll, p.Pairwise (· < ·)) :
    Calls Try.prog 18 #[v, .int .i64 n] w fun e w' => e = .returned (.bool true) ∧ Below w.heap.size w w' := by
  obtain ⟨a, cap, rfl⟩ := hS.len
  have hmk := fun w => make_ints n w (by omega)
  have hfl : ll.flatten.length = n := by rw [hp.length_eq, upTo_length]
  have hnd : ll.flatten.Nodup := hp.nodup_iff.2 (upTo_nodup n)
  have hr : ∀ x ∈ ll.flatten, 0 ≤ x ∧ x < n := fun x hx => (upTo_mem n x).1 (hp.mem_iff.1 hx)
  have HP := hid (And.intro hfl (And.intro hnd (And.intro hr hs)))
  clear hfl hnd hr hs hp
  go_enter Try.func18, Try.ntmps18
  go_wp2
  have hS1 := hS.below ((Below.refl _ w).alloc (Nat.le_refl _) (.cells (cellsOf i64 (List.replicate n 0)) 3))
  go_loopg [6, 7, 8, 9] ll.length (fun g vc vi vk vx wr => ∃ i : Nat, i + g = ll.length ∧ vi = .int .i64 i ∧ vc = .int .i64 (ll.take i).flatten.length ∧ Blk i64 wr w.heap.size (cntL n (ll.take i).flatten []) ∧ Below w.heap.size w wr)
  case atStart => exact ⟨0, by omega, rfl, rfl, by rw [List.take_zero, List.flatten_nil, cntL_zero]; exact Blk.new _ _ _ _, (Below.refl _ _).alloc (Nat.le_refl _) _⟩
  case round =>
    obtain ⟨i, hi, rfl, rfl, hB, hK⟩ := hrel
    have hfi : (ll.take i).flatten.length ≤ n := by
      rw [← HP.out.1]
      conv => rhs; rw [← List.take_append_drop i ll]
      rw [List.flatten_append, List.length_append]; omega
    by_cases hlt : i < ll.length
    · obtain ⟨b, off, a', cap', rfl, hb, hc, hsl⟩ := hS.at i hlt
      have hts : ll.take (i + 1) = ll.take i ++ [ll[i]] := List.take_succ_eq_append_getElem hlt
      have hdec : ll = ll.take i ++ ll[i] :: ll.drop (i + 1) := by rw [← List.drop_eq_getElem_cons hlt, List.take_append_drop]
      have hfd : ll.flatten = (ll.take i).flatten ++ (ll[i] ++ (ll.drop (i + 1)).flatten) := by
        conv => lhs; rw [hdec]
        rw [List.flatten_append, List.flatten_cons]
      have hss := HP.out.2.2.2 ll[i] (List.getElem_mem hlt)
      have hft : (ll.take (i + 1)).flatten = (ll.take i).flatten ++ ll[i] := by rw [hts, List.flatten_append]; simp
      generalize ll[i] = q at *
      generalize (ll.take i).flatten = pre at *
      generalize (ll.drop (i + 1)).flatten = post at *
      have hql : q.length ≤ 1000 := by have := HP.out.1; rw [hfd] at this; simp at this; omega
      have HF := hid (And.intro hfd (And.intro hft (And.intro hss hi)))
      clear hts hdec hfd hft hss hi
      obtain ⟨wo, hwo⟩ : ∃ wo : World, wo = wr := ⟨_, rfl⟩
      rw [← hwo] at hB hK ⊢
      subst hwo
      go_wp2
      go_loopg [6, 8, 9] q.length (fun g vc vk vx wr => ∃ k : Nat, k + g = q.length ∧ vk = .int .i64 k ∧ vc = .int .i64 ((pre.length + k : Nat) : Int) ∧ Blk i64 wr w.heap.size (cntL n (pre ++ q.take k) []) ∧ Below w.heap.size w wr)
      case atStart => exact ⟨0, by omega, rfl, rfl, by simpa using hB, hK⟩
      case round =>
        obtain ⟨k, hk, rfl, rfl, hB2, hK2⟩ := hrel
        have hcl := (hK2.cell (p := ⟨b, off + i, none⟩) hb).trans hc
        by_cases hkq : k < q.length
        · obtain ⟨hfd, hft, hss, hi⟩ := HF.out
          obtain ⟨hfl, hnd, hrr, hsa⟩ := HP.out
          obtain ⟨b1, off1, rfl, hb1, hc1⟩ := hsl.at k hkq
          have hcx := (hK2.cell (p := ⟨b1, off1 + k, none⟩) hb1).trans hc1
          have hqd : q = q.take k ++ q[k] :: q.drop (k + 1) := by rw [← List.drop_eq_getElem_cons hkq, List.take_append_drop]
          have htk : q.take (k + 1) = q.take k ++ [q[k]] := List.take_succ_eq_append_getElem hkq
          have hxr := hrr q[k] (by rw [hfd]; simp)
          have hprev : 0 < k → ∃ y, y < q[k] ∧ wr.cell? ⟨b1, off1 + (k - 1), none⟩ = some (.int .i64 y) := fun hp => by
            have hq1 : k - 1 < q.length := by omega
            refine ⟨q[k - 1], List.pairwise_iff_getElem.1 hss (k - 1) k hq1 hkq (by omega), ?_⟩
            obtain ⟨b', off', he, hbl', hc0'⟩ := hsl.at (k - 1) hq1
            cases he
            exact (hK2.cell (p := ⟨b1, off1 + (k - 1), none⟩) hb1).trans hc0'
          have hnot : q[k] ∉ pre ++ q.take k := by
            rw [hfd] at hnd
            have e : pre ++ (q ++ post) = (pre ++ q.take k) ++ q[k] :: (q.drop (k + 1) ++ post) := by
              conv => lhs; rw [hqd]
              simp only [List.append_assoc, List.cons_append]
            rw [e] at hnd
            intro hm
            exact (List.nodup_append.1 hnd).2.2 _ hm _ (by simp) rfl
          generalize q[k] = x at *
          obtain ⟨x1, x2⟩ := hxr
          obtain ⟨x, rfl⟩ := Int.eq_ofNat_of_zero_le x1
          have hxn : x < n := by omega
          have hv : (cntL n (pre ++ q.take k) [])[x]? = some 0 := by
            rw [cntL_get _ _ _ _ hxn, List.count_eq_zero.2 hnot]; simp
          have hc2 : wr.cell? ⟨w.heap.size, x, none⟩ = some (.int .i64 0) := by
            have hl : x < (cntL n (pre ++ q.take k) []).length := by rw [cntL_length]; exact hxn
            rw [hB2.cell x hl]
            rw [List.getElem?_eq_getElem hl] at hv
            simp only [Option.some.injEq] at hv
            rw [hv]
          have hf2 := hB2.free x
          have hinc := cntL_inc n (pre ++ q.take k) [] x 0 hxn hv
          have HI := hid (And.intro hinc (And.intro htk hk))
          have hplk : pre.length + k ≤ n := by have := hfl; rw [hfd] at this; simp at this; omega
          clear hinc htk hk hv hnot hqd hfd hft hss hi hfl hnd hrr hsa hc1
          have t1 : decide ((x : Int) < 0) = false := by simp
          have t2 : decide (n ≤ x) = false := by simp; omega
          have hset := hB2.set x 1
          by_cases hp : 0 < k
          · obtain ⟨y, hy1, hy2⟩ := hprev hp
            clear hprev
            have t3 : decide ((x : Int) ≤ y) = false := by simp; omega
            have t4 : ((k : Int) - 1).toNat = k - 1 := by omega
            have t5 : 1 ≤ k := by omega
            have t6 : k - 1 < q.length := by omega
            go_wp2
            go_roundg (gk - 1)
            case measure => obtain ⟨_, _, hk⟩ := HI.out; omega
            case rel =>
              obtain ⟨hinc, htk, hk⟩ := HI.out
              refine ⟨k + 1, by omega, by go_num, by congr 1, ?_, hK2.setCell (p := ⟨w.heap.size, x, none⟩) (Nat.le_refl _) _⟩
              rw [htk, ← List.append_assoc, ← hinc]
              exact hset
          · clear hprev
            have t3 : decide (0 < k) = false := by simp; omega
            go_wp2
            go_roundg (gk - 1)
            case measure => obtain ⟨_, _, hk⟩ := HI.out; omega
            case rel =>
              obtain ⟨hinc, htk, hk⟩ := HI.out
              refine ⟨k + 1, by omega, by go_num, by congr 1, ?_, hK2.setCell (p := ⟨w.heap.size, x, none⟩) (Nat.le_refl _) _⟩
              rw [htk, ← List.append_assoc, ← hinc]
              exact hset
        · obtain rfl : k = q.length := by omega
          rw [List.take_length] at hB2
          clear hk
          go_wp2
          go_roundg (ll.length - (i + 1))
          case measure => obtain ⟨_, _, _, hi⟩ := HF.out; omega
          case rel =>
            obtain ⟨hfd, hft, hss, hi⟩ := HF.out
            refine ⟨i + 1, by omega, by go_num, ?_, ?_, hK2⟩
            · rw [hft, List.length_append]
            · rw [hft]; exact hB2
    · obtain rfl : i = ll.length := by omega
      rw [List.take_length, HP.out.1]
      clear hi hB
      go_wp2
      go_ret
      exact ⟨rfl, hK⟩

end Go.Proofs.Ytiodofijcghpaaa
