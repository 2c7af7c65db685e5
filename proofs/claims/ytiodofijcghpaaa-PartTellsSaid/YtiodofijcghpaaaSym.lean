/- slices.symMergeCmpFunc at int; contract. -/
import Derived.Test.YtiodofijcghpaaaInsert
namespace Go.Proofs.Ytiodofijcghpaaa
open Go.RowKit

theorem getD_mid (P Q : List Int) (x : Int) (j : Nat) (h : j = P.length) : (P ++ x :: Q).getD j 0 = x := by
  subst h; rw [List.getD_eq_getElem?_getD, List.getElem?_append_right (Nat.le_refl _)]; simp
theorem half_sum (i j : Nat) : (IntKind.u64.wrap ((i : Int) + (j : Int))) / 2 = (((i + j) / 2 : Nat) : Int) ∨ 1000000 < i + j := by
  by_cases h : i + j ≤ 1000000
  · left; rw [IntKind.wrap_u64]; omega
  · right; omega

/-- one element, and a run behind it -/
theorem merge_left {S v : List Int} {x : Int} {lt : Int → Int → Bool} (hw : WeakOrd lt S) (hx : x ∈ S) (hv : ∀ y ∈ v, y ∈ S) (hs : SortedBy lt v) (k : Nat) (h1 : ∀ y ∈ v.take k, lt y x = true) (h2 : ∀ y ∈ v.drop k, lt y x = false) :
    StableOf lt ([x] ++ v) (v.take k ++ x :: v.drop k) := by
  have hs' : SortedBy lt (v.take k ++ v.drop k) := by rw [List.take_append_drop]; exact hs
  have m := merge_step (lt := lt) (u1 := []) (u2 := [x]) (v1 := v.take k) (v2 := v.drop k) (w1 := v.take k) (w2 := [x] ++ v.drop k)
    (hw.sub (by intro y hy; simp only [List.nil_append, List.take_append_drop, List.mem_append, List.mem_singleton] at hy; rcases hy with rfl | h; exact hx; exact hv y h))
    (sortedBy_one x) hs' (by intro z hz y hy; simp at hz; subst hz; exact h1 y hy) (by simp) (by simpa using StableOf.refl hs'.left)
    (StableOf.refl ((sortedBy_one x).append hs'.right (by intro z hz y hy; simp at hz; subst hz; exact h2 y hy)))
  simpa [List.take_append_drop] using m

set_option maxRecDepth 100000 in
set_option maxHeartbeats 1000000 in
theorem sym_left (B cap n : Nat) (T : TypeId) (a b g : Nat) (lb : Array Value) (lt : Int → Int → Bool) (p : List Int) (x : Int) (v q : List Int) (w : World) (hR : Rw i64 w B T cap (p ++ [x] ++ v ++ q)) (hn : n = (p ++ [x] ++ v ++ q).length) (hn2 : n ≤ 500000)
    (ha : p.length = a) (hb : a + 1 + v.length = b) (hC : CmpOk Try.prog g lb B w lt (p ++ [x] ++ v ++ q)) (hw : WeakOrd lt (p ++ [x] ++ v ++ q)) (hsv : SortedBy lt v) :
    Calls Try.prog 46 #[.slice (some ⟨B, 0, none⟩) n cap, .int .i64 a, .int .i64 ((a + 1 : Nat) : Int), .int .i64 b, .func (.func g) #[] lb] w fun e w' => e = .returned (.tuple #[]) ∧ ∃ s, StableOf lt ([x] ++ v) s ∧ Rw i64 w' B T cap (p ++ s ++ q) ∧ Kept (· = B) w w' := by
  have hbn : b ≤ n := by rw [hn]; simp; omega
  have hab : a + 1 ≤ b := by omega
  have hmx : x ∈ p ++ [x] ++ v ++ q := by simp
  have hmv : ∀ y ∈ v, y ∈ p ++ [x] ++ v ++ q := by intro y hy; simp [hy]
  have H := hid (And.intro hn (And.intro ha hb))
  have hen := hC.enters
  have hd1 : (((a + 1 : Nat) : Int) - (a : Int) == 1) = true := by simp; omega
  obtain ⟨m, hm⟩ : ∃ m, m = a + 1 := ⟨_, rfl⟩
  rw [← hm] at hd1 ⊢
  have hma : a < m := by omega
  have hmb : m ≤ b := by omega
  have HM := hid hm
  clear hm
  clear hn ha hb
  go_enter Try.func46, Try.ntmps46
  go_wp2
  go_loopg [10, 11, 12] (b - m) (fun gg vi vj vh wr => ∃ i j : Nat, j - i = gg ∧ m ≤ i ∧ i ≤ j ∧ j ≤ b ∧ vi = .int .i64 i ∧ vj = .int .i64 j ∧ (∀ y ∈ v.take (i - m), lt y x = true) ∧ (∀ y ∈ v.drop (j - m), lt y x = false) ∧ Rw i64 wr B T cap (p ++ [x] ++ v ++ q) ∧ Kept (· = B) w wr)
  case atStart =>
    exact ⟨m, b, rfl, by omega, by omega, by omega, rfl, rfl, by simp, by obtain ⟨hn, ha, hb⟩ := H.out; have := HM.out; rw [List.drop_eq_nil_of_le (by omega)]; simp, hR, Kept.refl _ _⟩
  case round =>
    obtain ⟨i, j, hg, h1, h2, h3, rfl, rfl, hlo, hhi, hR1, hK⟩ := hrel
    have HG := hid hg
    clear hg
    by_cases hlt : i < j
    · obtain ⟨h, hh⟩ : ∃ h, h = (i + j) / 2 := ⟨_, rfl⟩
      have hh1 : i ≤ h := by omega
      have hh2 : h < j := by omega
      have hhd : ((i : Int) + (j : Int)) / 2 = (h : Int) := by omega
      have HH := hid hhd
      clear hh hhd
      go_wp2
      rw [HH.out]
      obtain ⟨hn, ha, hb⟩ := H.out
      have hm := HM.out
      have hk : h - m < v.length := by omega
      have hgy : (p ++ [x] ++ v ++ q).getD h 0 = v[h - m] := by
        rw [List.getD_eq_getElem?_getD, List.getElem?_append_left (by simp; omega), List.getElem?_append_right (by simp; omega)]
        simp [show h - (p.length + 1) = h - m by omega, hk]
      have hgx : (p ++ [x] ++ v ++ q).getD a 0 = x := by
        rw [show p ++ [x] ++ v ++ q = p ++ x :: (v ++ q) by simp]; exact getD_mid _ _ _ _ ha.symm
      have hmy := hmv v[h - m] (List.getElem_mem hk)
      have c1 := hR1.cellD h v[h - m] (by omega) hgy
      have c2 := hR1.cellD a x (by omega) hgx
      have hT := take_lt hw hmx hmv hsv (h - m) hk
      have hD := drop_ge hw hmx hmv hsv (h - m) hk
      generalize v[h - m] = y at *
      have hL : h < n := by omega
      have haL : a < n := by omega
      have HC := hid (hC.call wr.drew hK.drew y hmy x hmx)
      have HT := hid (And.intro hT hD)
      clear hn ha hb hm hk hgy hgx hT hD HH
      cases hxy : lt y x with
      | true =>
        go_still_tail 9, (by kernel_rfl)
        change wpList _ _ _ _ _ wr.drew
        go_wp2_with fail
        refine HC.out.mono ?_
        rintro e w1 ⟨c, rfl, hc, hb1⟩
        rw [hxy] at hc
        clear HC
        go_wp2
        go_roundg (j - (h + 1))
        case measure => have := HG.out; omega
        case rel =>
          refine ⟨h + 1, j, rfl, by omega, by omega, h3, by go_num, rfl, ?_, hhi, hR1.drew.below hb1, hK.drew.trans (Kept.of_below hb1 _)⟩
          rw [show h + 1 - m = h - m + 1 by omega]
          exact HT.out.1 hxy
      | false =>
        go_still_tail 9, (by kernel_rfl)
        change wpList _ _ _ _ _ wr.drew
        go_wp2_with fail
        refine HC.out.mono ?_
        rintro e w1 ⟨c, rfl, hc, hb1⟩
        rw [hxy] at hc
        clear HC
        go_wp2
        go_roundg (h - i)
        case measure => have := HG.out; omega
        case rel => exact ⟨i, h, rfl, h1, by omega, by omega, rfl, rfl, hlo, HT.out.2 hxy, hR1.drew.below hb1, hK.drew.trans (Kept.of_below hb1 _)⟩
    · obtain rfl : i = j := by omega
      obtain ⟨wo, hwo⟩ : ∃ wo : World, wo = wr := ⟨_, rfl⟩
      rw [← hwo] at hR1 hK
      subst hwo
      have hst : StableOf lt ([x] ++ v) (v.take (i - m) ++ x :: v.drop (i - m)) := merge_left hw hmx hmv hsv (i - m) hlo hhi
      go_wp2
      go_loopg [13] (i - m) (fun gg vk wr => ∃ k : Nat, k + gg + 1 = i ∧ a ≤ k ∧ vk = .int .i64 k ∧ Rw i64 wr B T cap (p ++ v.take (k - a) ++ x :: (v.drop (k - a) ++ q)) ∧ Kept (· = B) w wr)
      case atStart => exact ⟨a, by have := HM.out; omega, Nat.le_refl _, rfl, by simpa using hR1, hK⟩
      case round =>
        obtain ⟨k, hg, hka, rfl, hR2, hK2⟩ := hrel
        obtain ⟨hn, ha, hb⟩ := H.out
        have hm := HM.out
        by_cases hki : k + 1 < i
        · have ht : k - a < v.length := by omega
          have e1 : v.drop (k - a) = v[k - a] :: v.drop (k - a + 1) := List.drop_eq_getElem_cons ht
          have t1 : v.take (k - a + 1) = v.take (k - a) ++ [v[k - a]] := List.take_succ_eq_append_getElem ht
          generalize v[k - a] = y at *
          have hLL : p ++ v.take (k - a) ++ x :: (v.drop (k - a) ++ q) = (p ++ v.take (k - a)) ++ x :: ([] ++ y :: (v.drop (k - a + 1) ++ q)) := by rw [e1]; simp
          rw [hLL] at hR2
          have hsw := swap_mid (p ++ v.take (k - a)) [] (v.drop (k - a + 1) ++ q) x y
          have i1 : (p ++ v.take (k - a)).length = k := by simp; omega
          have i2 : (p ++ v.take (k - a)).length + 1 + ([] : List Int).length = k + 1 := by simp; omega
          rw [i2, i1] at hsw
          have hLn : ((p ++ v.take (k - a)) ++ x :: ([] ++ y :: (v.drop (k - a + 1) ++ q))).length = n := by rw [hn]; simp; omega
          have g1 : ((p ++ v.take (k - a)) ++ x :: ([] ++ y :: (v.drop (k - a + 1) ++ q))).getD k 0 = x := getD_mid _ _ _ _ i1.symm
          have g2 : ((p ++ v.take (k - a)) ++ x :: ([] ++ y :: (v.drop (k - a + 1) ++ q))).getD (k + 1) 0 = y := by
            rw [show (p ++ v.take (k - a)) ++ x :: ([] ++ y :: (v.drop (k - a + 1) ++ q)) = (p ++ v.take (k - a) ++ [x]) ++ y :: (v.drop (k - a + 1) ++ q) by simp]
            exact getD_mid _ _ _ _ (by simp; omega)
          have hsp := hR2.swap k (k + 1)
          rw [g1, g2, hsw] at hsp
          have c1 := hR2.cellD k x (by omega) g1
          have c2 := hR2.cellD (k + 1) y (by omega) g2
          have f1 := hR2.free k
          have f2 := hR2.free (k + 1)
          have hk1n : k + 1 < n := by omega
          obtain ⟨v', hy'⟩ := cell?_setCell_some (w := wr) (p := ⟨B, k, none⟩) (x := .int .i64 y) (q := ⟨B, k + 1, none⟩) (v := .int .i64 y) c2
          have HT := hid (And.intro hsp (And.intro t1 hg))
          clear hsp t1 hg e1 hLL hsw i1 i2 hLn g1 g2 hn ha hb hm
          go_wp2
          go_region
          all_goals go_wp2
          all_goals go_roundg (gk - 1)
          case measure => obtain ⟨_, _, hg⟩ := HT.out; omega
          case rel =>
            obtain ⟨hsp, t1, hg⟩ := HT.out
            refine ⟨k + 1, by omega, by omega, by go_num, ?_, ?_⟩
            · rw [show k + 1 - a = k - a + 1 by omega, t1]
              have := hsp.drew
              simpa using this
            · exact ((hK2.setCell (p := ⟨B, k, none⟩) (fun _ => rfl) _).setCell (p := ⟨B, k + 1, none⟩) (fun _ => rfl) _).drew
        · have hki' : k + 1 = i ∨ i ≤ k := by omega
          have e : k - a = i - m ∨ (i = m) := by omega
          have hge : (i : Int) - 1 ≤ k := by omega
          have HH := hid (And.intro hg (And.intro hm hki'))
          clear hg hm hki' e hn ha hb
          go_wp2
          refine bodyPost_ret (results_none rfl _ _ _) rfl ?_
          refine ⟨rfl, _, hst, ?_, hK2⟩
          obtain ⟨hg, hm, hki'⟩ := HH.out
          rw [show i - m = k - a by omega]
          simpa using hR2

end Go.Proofs.Ytiodofijcghpaaa
