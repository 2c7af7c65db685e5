/- slices.symMergeCmpFunc at int, one element behind the run; contract. -/
import Derived.Test.YtiodofijcghpaaaSym
namespace Go.Proofs.Ytiodofijcghpaaa
open Go.RowKit

theorem merge_right {S u : List Int} {y : Int} {lt : Int → Int → Bool} (hw : WeakOrd lt S) (hy : y ∈ S) (hu : ∀ x ∈ u, x ∈ S) (hs : SortedBy lt u) (k : Nat) (h1 : ∀ x ∈ u.take k, lt y x = false) (h2 : ∀ x ∈ u.drop k, lt y x = true) :
    StableOf lt (u ++ [y]) (u.take k ++ y :: u.drop k) := by
  refine insert_stable hw hu hy ?_ h2 h1
  rw [List.take_append_drop]; exact StableOf.refl hs

set_option maxRecDepth 100000 in
set_option maxHeartbeats 1000000 in
theorem sym_right (B cap n : Nat) (T : TypeId) (a m g : Nat) (lb : Array Value) (lt : Int → Int → Bool) (p u : List Int) (y : Int) (q : List Int) (w : World) (hR : Rw i64 w B T cap (p ++ u ++ [y] ++ q)) (hn : n = (p ++ u ++ [y] ++ q).length) (hn2 : n ≤ 500000)
    (ha : p.length = a) (hm : a + u.length = m) (hu1 : 2 ≤ u.length) (hC : CmpOk Try.prog g lb B w lt (p ++ u ++ [y] ++ q)) (hw : WeakOrd lt (p ++ u ++ [y] ++ q)) (hsu : SortedBy lt u) :
    Calls Try.prog 46 #[.slice (some ⟨B, 0, none⟩) n cap, .int .i64 a, .int .i64 m, .int .i64 ((m + 1 : Nat) : Int), .func (.func g) #[] lb] w fun e w' => e = .returned (.tuple #[]) ∧ ∃ s, StableOf lt (u ++ [y]) s ∧ Rw i64 w' B T cap (p ++ s ++ q) ∧ Kept (· = B) w w' := by
  have hbn : m < n := by rw [hn]; simp; omega
  have ham : a + 2 ≤ m := by omega
  have hmy : y ∈ p ++ u ++ [y] ++ q := by simp
  have hmu : ∀ x ∈ u, x ∈ p ++ u ++ [y] ++ q := by intro x hx; simp [hx]
  have H := hid (And.intro hn (And.intro ha hm))
  have hen := hC.enters
  have hd1 : ((m : Int) - (a : Int) == 1) = false := by simp; omega
  have hd2 : (((m + 1 : Nat) : Int) - (m : Int) == 1) = true := by simp; omega
  obtain ⟨b, hb⟩ : ∃ b, b = m + 1 := ⟨_, rfl⟩
  rw [← hb] at hd2 ⊢
  have hmb : m < b := by omega
  have hbb : b ≤ n := by omega
  clear hb
  clear hn ha hm
  go_enter Try.func46, Try.ntmps46
  go_wp2
  go_loopg [14, 15, 16] (m - a) (fun gg vi vj vh wr => ∃ i j : Nat, j - i = gg ∧ a ≤ i ∧ i ≤ j ∧ j ≤ m ∧ vi = .int .i64 i ∧ vj = .int .i64 j ∧ (∀ x ∈ u.take (i - a), lt y x = false) ∧ (∀ x ∈ u.drop (j - a), lt y x = true) ∧ Rw i64 wr B T cap (p ++ u ++ [y] ++ q) ∧ Kept (· = B) w wr)
  case atStart =>
    exact ⟨a, m, rfl, by omega, by omega, by omega, rfl, rfl, by simp, by obtain ⟨hn, ha, hm⟩ := H.out; rw [List.drop_eq_nil_of_le (by omega)]; simp, hR, Kept.refl _ _⟩
  case round =>
    obtain ⟨i, j, hg, h1, h2, h3, rfl, rfl, hlo, hhi, hR1, hK⟩ := hrel
    have HG := hid hg
    clear hg
    by_cases hlt : i < j
    · obtain ⟨h, hh⟩ : ∃ h, h = (i + j) / 2 := ⟨_, rfl⟩
      have hh1 : i ≤ h := by omega
      have hh2 : h < j := by omega
      have hhd : ((i : Int) + (j : Int)) / 2 = (h : Int) := by omega
      have HH := hid hhd
      clear hh hhd
      go_wp2
      rw [HH.out]
      obtain ⟨hn, ha, hm⟩ := H.out
      have hk : h - a < u.length := by omega
      have hgy : (p ++ u ++ [y] ++ q).getD h 0 = u[h - a] := by
        rw [List.getD_eq_getElem?_getD, List.getElem?_append_left (by simp; omega), List.getElem?_append_left (by simp; omega), List.getElem?_append_right (by omega)]
        simp [show h - p.length = h - a by omega, hk]
      have hgx : (p ++ u ++ [y] ++ q).getD m 0 = y := by
        rw [show p ++ u ++ [y] ++ q = (p ++ u) ++ y :: q by simp]; exact getD_mid _ _ _ _ (by simp; omega)
      have hmx := hmu u[h - a] (List.getElem_mem hk)
      have c1 := hR1.cellD h u[h - a] (by omega) hgy
      have c2 := hR1.cellD m y (by omega) hgx
      have hT := take_le hw hmy hmu hsu (h - a) hk
      have hD := drop_gt hw hmy hmu hsu (h - a) hk
      generalize u[h - a] = x at *
      have hL : h < n := by omega
      have HC := hid (hC.call wr.drew hK.drew y hmy x hmx)
      have HT := hid (And.intro hT hD)
      clear hn ha hm hk hgy hgx hT hD HH
      cases hxy : lt y x with
      | false =>
        go_still_tail 9, (by kernel_rfl)
        change wpList _ _ _ _ _ wr.drew
        go_wp2_with fail
        refine HC.out.mono ?_
        rintro e w1 ⟨c, rfl, hc, hb1⟩
        rw [hxy] at hc
        clear HC
        go_wp2
        go_roundg (j - (h + 1))
        case measure => have := HG.out; omega
        case rel =>
          refine ⟨h + 1, j, rfl, by omega, by omega, h3, by go_num, rfl, ?_, hhi, hR1.drew.below hb1, hK.drew.trans (Kept.of_below hb1 _)⟩
          rw [show h + 1 - a = h - a + 1 by omega]
          exact HT.out.1 hxy
      | true =>
        go_still_tail 9, (by kernel_rfl)
        change wpList _ _ _ _ _ wr.drew
        go_wp2_with fail
        refine HC.out.mono ?_
        rintro e w1 ⟨c, rfl, hc, hb1⟩
        rw [hxy] at hc
        clear HC
        go_wp2
        go_roundg (h - i)
        case measure => have := HG.out; omega
        case rel => exact ⟨i, h, rfl, h1, by omega, by omega, rfl, rfl, hlo, HT.out.2 hxy, hR1.drew.below hb1, hK.drew.trans (Kept.of_below hb1 _)⟩
    · obtain rfl : i = j := by omega
      obtain ⟨wo, hwo⟩ : ∃ wo : World, wo = wr := ⟨_, rfl⟩
      rw [← hwo] at hR1 hK
      subst hwo
      have hst : StableOf lt (u ++ [y]) (u.take (i - a) ++ y :: u.drop (i - a)) := merge_right hw hmy hmu hsu (i - a) hlo hhi
      go_wp2
      go_loopg [17] (m - i) (fun gg vk wr => ∃ k : Nat, i + gg = k ∧ k ≤ m ∧ vk = .int .i64 k ∧ Rw i64 wr B T cap (p ++ u.take (k - a) ++ y :: (u.drop (k - a) ++ q)) ∧ Kept (· = B) w wr)
      case atStart =>
        obtain ⟨hn, ha, hm⟩ := H.out
        refine ⟨m, by omega, Nat.le_refl _, rfl, ?_, hK⟩
        rw [List.take_of_length_le (by omega), List.drop_eq_nil_of_le (by omega)]
        simpa using hR1
      case round =>
        obtain ⟨k, hg, hka, rfl, hR2, hK2⟩ := hrel
        obtain ⟨hn, ha, hm⟩ := H.out
        by_cases hki : i < k
        · obtain ⟨t, ht⟩ : ∃ t, k - a = t + 1 := ⟨k - a - 1, by omega⟩
          have htl : t < u.length := by omega
          have e1 : u.drop t = u[t] :: u.drop (t + 1) := List.drop_eq_getElem_cons htl
          have t1 : u.take (t + 1) = u.take t ++ [u[t]] := List.take_succ_eq_append_getElem htl
          generalize u[t] = x at *
          have hLL : p ++ u.take (k - a) ++ y :: (u.drop (k - a) ++ q) = (p ++ u.take t) ++ x :: ([] ++ y :: (u.drop (t + 1) ++ q)) := by rw [ht, t1]; simp
          rw [hLL] at hR2
          have hsw := swap_mid (p ++ u.take t) [] (u.drop (t + 1) ++ q) x y
          have i1 : (p ++ u.take t).length = k - 1 := by simp; omega
          have i2 : (p ++ u.take t).length + 1 + ([] : List Int).length = k := by simp; omega
          rw [i2, i1, swap_comm _ _ _ (by omega)] at hsw
          have hLn : ((p ++ u.take t) ++ x :: ([] ++ y :: (u.drop (t + 1) ++ q))).length = n := by rw [hn]; simp; omega
          have g1 : ((p ++ u.take t) ++ x :: ([] ++ y :: (u.drop (t + 1) ++ q))).getD (k - 1) 0 = x := getD_mid _ _ _ _ i1.symm
          have g2 : ((p ++ u.take t) ++ x :: ([] ++ y :: (u.drop (t + 1) ++ q))).getD k 0 = y := by
            rw [show (p ++ u.take t) ++ x :: ([] ++ y :: (u.drop (t + 1) ++ q)) = (p ++ u.take t ++ [x]) ++ y :: (u.drop (t + 1) ++ q) by simp]
            exact getD_mid _ _ _ _ (by simp; omega)
          have hsp := hR2.swap k (k - 1)
          rw [g1, g2, hsw] at hsp
          have c1 := hR2.cellD (k - 1) x (by omega) g1
          have c2 := hR2.cellD k y (by omega) g2
          have f1 := hR2.free (k - 1)
          have f2 := hR2.free k
          have hk1n : k < n := by omega
          have hk2n : k - 1 < n := by omega
          have q1 : (1 : Int) ≤ k := by omega
          have q2 : ((k : Int) - 1).toNat = k - 1 := by omega
          obtain ⟨v', hy'⟩ := cell?_setCell_some (w := wr) (p := ⟨B, k, none⟩) (x := .int .i64 x) (q := ⟨B, k - 1, none⟩) (v := .int .i64 x) c1
          have HT := hid (And.intro hsp (And.intro e1 (And.intro ht hg)))
          clear hsp t1 hg e1 hLL hsw i1 i2 hLn g1 g2 hn ha hm ht
          go_wp2
          go_region
          all_goals go_wp2
          all_goals go_roundg (gk - 1)
          case measure => obtain ⟨_, _, _, hg⟩ := HT.out; omega
          case rel =>
            obtain ⟨hsp, e1, ht, hg⟩ := HT.out
            refine ⟨k - 1, by omega, by omega, by congr 1; omega, ?_, ?_⟩
            · rw [show k - 1 - a = t by omega, e1]
              have := hsp.drew
              simpa using this
            · exact ((hK2.setCell (p := ⟨B, k, none⟩) (fun _ => rfl) _).setCell (p := ⟨B, k - 1, none⟩) (fun _ => rfl) _).drew
        · have hki' : k = i := by omega
          have HH := hid hki'
          have hge : k ≤ i := by omega
          clear hg hki' hn ha hm
          go_wp2
          refine bodyPost_ret (results_none rfl _ _ _) rfl ?_
          refine ⟨rfl, _, hst, ?_, hK2⟩
          rw [← HH.out]
          simpa using hR2

end Go.Proofs.Ytiodofijcghpaaa
