/- slices.insertionSortCmpFunc at int, with whatever comparison reads memory and makes new memory; contract. -/
import Derived.Test.YtiodofijcghpaaaSwaps
import Derived.StillTailTactics
import Derived.BigQuiet
import Derived.Deep.RegionWith
namespace Go.Proofs.Ytiodofijcghpaaa
open Go.RowKit

/-- The function value g with the captured lb compares as lt does, in every world that differs from w0 in block B and in new blocks alone. -/
structure CmpOk (P : Program) (g : Nat) (lb : Array Value) (B : Nat) (w0 : World) (lt : Int → Int → Bool) (S : List Int) : Prop where
  enters : ∀ args w, (callFunc g args).run P w = .ok (.enter g args) w
  call : ∀ W, Kept (· = B) w0 W → ∀ x ∈ S, ∀ y ∈ S, Calls P g (#[.int .i64 x, .int .i64 y] ++ lb) W fun e W' => ∃ c : Int, e = .returned (.int .i64 c) ∧ decide (c < 0) = lt x y ∧ Below W.heap.size W W'

theorem CmpOk.later {P : Program} {g : Nat} {lb : Array Value} {B : Nat} {w0 w1 : World} {lt : Int → Int → Bool} {S : List Int} (h : CmpOk P g lb B w0 lt S) (k : Kept (· = B) w0 w1) : CmpOk P g lb B w1 lt S :=
  ⟨h.enters, fun W hW => h.call W (k.trans hW)⟩

set_option maxRecDepth 100000 in
set_option maxHeartbeats 1000000 in
theorem insertion_any (B cap n : Nat) (T : TypeId) (a b g : Nat) (lb : Array Value) (lt : Int → Int → Bool) (p u q : List Int) (w : World) (hR : Rw i64 w B T cap (p ++ u ++ q)) (hn : n = (p ++ u ++ q).length) (hn2 : n ≤ 1000000)
    (ha : p.length = a) (hb : a + u.length = b) (hC : CmpOk Try.prog g lb B w lt (p ++ u ++ q)) (hw : WeakOrd lt (p ++ u ++ q)) :
    Calls Try.prog 45 #[.slice (some ⟨B, 0, none⟩) n cap, .int .i64 a, .int .i64 b, .func (.func g) #[] lb] w fun e w' => e = .returned (.tuple #[]) ∧ ∃ u', StableOf lt u u' ∧ Rw i64 w' B T cap (p ++ u' ++ q) ∧ Kept (· = B) w w' := by
  have hbn : b ≤ n := by rw [hn]; simp; omega
  have hab : a ≤ b := by omega
  have H := hid (And.intro hn (And.intro ha hb))
  have hen := hC.enters
  clear hn ha hb
  go_enter Try.func45, Try.ntmps45
  go_wp2
  go_loopg [8] (b - a) (fun gg i wr => ∃ (k : Nat) (s : List Int), k + gg = b - a ∧ i = .int .i64 (a + 1 + k) ∧ s.length = min (k + 1) u.length ∧ StableOf lt (u.take (k + 1)) s ∧ Rw i64 wr B T cap (p ++ s ++ u.drop (k + 1) ++ q) ∧ Kept (· = B) w wr)
  case atStart =>
    obtain ⟨hn, ha, hb⟩ := H.out
    refine ⟨0, u.take 1, by omega, by simp, by simp [Nat.min_comm], ?_, ?_, Kept.refl _ _⟩
    · refine StableOf.refl ?_
      cases u with
      | nil => exact List.Pairwise.nil
      | cons x u => simp [SortedBy]
    · rw [List.append_assoc p, List.take_append_drop]; exact hR
  case round =>
    obtain ⟨k, s, hk, rfl, hsl, hst, hR1, hK⟩ := hrel
    obtain ⟨hn, ha, hb⟩ := H.out
    by_cases hlt : a + 1 + k < b
    · have hlt' : ((a : Int) + 1 + (k : Int)) < (b : Int) := by omega
      obtain ⟨wo, hwo⟩ : ∃ wo : World, wo = wr := ⟨_, rfl⟩
      rw [← hwo] at hR1 hK
      subst hwo
      have hku : k + 1 < u.length := by omega
      have hsl' : s.length = k + 1 := by rw [hsl]; omega
      have hx : u.drop (k + 1) = u[k + 1] :: u.drop (k + 1 + 1) := List.drop_eq_getElem_cons hku
      have ht : u.take (k + 1 + 1) = u.take (k + 1) ++ [u[k + 1]] := List.take_succ_eq_append_getElem hku
      generalize u[k + 1] = x at *
      have HS := hid (And.intro hst (And.intro hsl' (And.intro hx (And.intro ht hk))))
      clear hst hsl hsl' hx ht hk hn ha hb
      go_wp2
      go_loopg [9] (k + 1) (fun gg j wr => ∃ (s1 s2 : List Int) (jn : Nat), s1.length = gg ∧ s = s1 ++ s2 ∧ j = .int .i64 jn ∧ jn = a + gg ∧ (∀ y ∈ s2, lt x y = true) ∧ Rw i64 wr B T cap (p ++ s1 ++ x :: (s2 ++ u.drop (k + 1 + 1) ++ q)) ∧ Kept (· = B) w wr)
      case atStart =>
        obtain ⟨hst, hsl', hx, ht, hk⟩ := HS.out
        refine ⟨s, [], a + 1 + k, hsl', by simp, by congr 1, by omega, by simp, ?_, hK⟩
        rw [hx] at hR1
        simpa using hR1
      case round =>
        obtain ⟨s1, s2, jn, hs1, hs, rfl, hjn, hall, hR2, hK2⟩ := hrel
        obtain ⟨hn, ha, hb⟩ := H.out
        obtain ⟨hst, hsl', hx, ht, hk⟩ := HS.out
        have hmx : x ∈ p ++ u ++ q := by
          have : x ∈ u.take (k + 1 + 1) := by rw [ht]; simp
          simp [List.mem_of_mem_take this]
        have hms : ∀ y ∈ s, y ∈ p ++ u ++ q := fun y hy => by
          have : y ∈ u.take (k + 1) := hst.perm.mem_iff.1 hy
          simp [List.mem_of_mem_take this]
        by_cases hg : 0 < gk
        · obtain ⟨s0, y, rfl⟩ : ∃ s0 y, s1 = s0 ++ [y] := exists_snoc s1 (by omega)
          have hmy : y ∈ p ++ u ++ q := hms y (by rw [hs]; simp)
          simp only [List.length_append, List.length_cons, List.length_nil] at hs1
          have hLL : p ++ (s0 ++ [y]) ++ x :: (s2 ++ u.drop (k + 1 + 1) ++ q) = (p ++ s0) ++ y :: ([] ++ x :: (s2 ++ u.drop (k + 1 + 1) ++ q)) := by simp
          rw [hLL] at hR2
          have hsw := swap_mid (p ++ s0) [] (s2 ++ u.drop (k + 1 + 1) ++ q) y x
          have i1 : (p ++ s0).length = jn - 1 := by simp; omega
          have i2 : (p ++ s0).length + 1 + ([] : List Int).length = jn := by simp; omega
          rw [i2, i1, swap_comm _ _ _ (by omega)] at hsw
          have hLn : ((p ++ s0) ++ y :: ([] ++ x :: (s2 ++ u.drop (k + 1 + 1) ++ q))).length = n := by
            have h3 : s0.length + 1 + s2.length = k + 1 := by rw [← hsl', hs]; simp; omega
            rw [hn]; simp; omega
          have g1 : ((p ++ s0) ++ y :: ([] ++ x :: (s2 ++ u.drop (k + 1 + 1) ++ q))).getD (jn) 0 = x := by
            rw [List.getD_eq_getElem?_getD, List.getElem?_append_right (by omega), i1, show jn - (jn - 1) = 1 by omega]; simp
          have g2 : ((p ++ s0) ++ y :: ([] ++ x :: (s2 ++ u.drop (k + 1 + 1) ++ q))).getD (jn - 1) 0 = y := by
            rw [List.getD_eq_getElem?_getD, List.getElem?_append_right (by omega), i1, Nat.sub_self]; simp
          have hsp := hR2.swap (jn) (jn - 1)
          rw [g1, g2, hsw] at hsp
          have hgk : gk ≤ k + 1 := by rw [← hsl', hs]; simp; omega
          have hag : jn < n := by omega
          have c1 := hR2.cellD (jn) x (by omega) g1
          have c2 := hR2.cellD (jn - 1) y (by omega) g2
          have f1 := hR2.free (jn)
          have f2 := hR2.free (jn - 1)
          have HB := hid (And.intro hs1 (And.intro hs (And.intro g1 (And.intro g2 hsw))))
          clear hs1 hs g1 g2 hLn hsw i1 i2 hLL hst hsl' hx ht hk hn ha hb
          have HC := hid (hC.call wr.drew (hK2.drew) x hmx y hmy)
          have t0 : decide (a < jn) = true := by simp; omega
          have t2 : ((jn : Int) - 1).toNat = jn - 1 := by omega
          have t3 : IntKind.i64.wrap ((jn : Int) - 1) = (jn : Int) - 1 := by rw [IntKind.wrap_i64]; omega
          have t4 : 0 ≤ (jn : Int) - 1 := by omega
          have t5 : (jn : Int) - 1 < n := by omega
          have t6 : 1 ≤ jn := by omega
          have t7 : jn - 1 < n := by omega
          have t8 : a < jn := by omega
          have t9 : (1 : Int) ≤ jn := by omega
          have HJN := hid hjn
          clear hjn
          cases hxy : lt x y with
          | true =>
            go_wp2
            go_still_tail 14, (by kernel_rfl)
            change wpList _ _ _ _ _ wr.drew
            go_wp2_with fail
            refine HC.out.mono ?_
            rintro e w1 ⟨c, rfl, hc, hb1⟩
            rw [hxy] at hc
            have hK3 : Kept (· = B) w w1 := hK2.drew.trans (Kept.of_below hb1 _)
            have c1 := (hb1.cell (p := ⟨B, jn, none⟩) hR2.lt).trans c1
            have c2 := (hb1.cell (p := ⟨B, jn - 1, none⟩) hR2.lt).trans c2
            have f1 := (hb1.frozen (p := ⟨B, jn, none⟩) hR2.lt).trans f1
            have f2 := (hb1.frozen (p := ⟨B, jn - 1, none⟩) hR2.lt).trans f2
            have hR3 := hR2.drew.below hb1
            clear HC
            obtain ⟨v', hy'⟩ := cell?_setCell_some (w := w1) (p := ⟨B, jn, none⟩) (x := .int .i64 y) (q := ⟨B, jn - 1, none⟩) (v := .int .i64 y) c2
            go_wp2
            go_region
            all_goals go_wp2
            all_goals go_roundg (gk - 1)
            case measure => omega
            case rel =>
              obtain ⟨hs1, hs, g1, g2, hsw⟩ := HB.out
              have hsp := hR3.swap jn (jn - 1)
              rw [g1, g2, hsw] at hsp
              refine ⟨s0, y :: s2, jn - 1, by omega, by rw [hs]; simp, by congr 1; omega, by have := HJN.out; omega, ?_, ?_, ?_⟩
              · intro z hz
                rcases List.mem_cons.1 hz with rfl | hz
                · exact hxy
                · exact hall z hz
              · have := hsp.drew
                simpa using this
              · exact ((hK3.setCell (p := ⟨B, jn, none⟩) (fun _ => rfl) _).setCell (p := ⟨B, jn - 1, none⟩) (fun _ => rfl) _).drew
          | false =>
            go_wp2
            go_still_tail 14, (by kernel_rfl)
            change wpList _ _ _ _ _ wr.drew
            go_wp2_with fail
            refine HC.out.mono ?_
            rintro e w1 ⟨c, rfl, hc, hb1⟩
            rw [hxy] at hc
            have hK3 : Kept (· = B) w w1 := hK2.drew.trans (Kept.of_below hb1 _)
            have hR3 := hR2.drew.below hb1
            clear HC
            go_wp2
            go_roundg (b - a - (k + 1))
            case measure => obtain ⟨_, _, _, _, hk⟩ := HS.out; omega
            case rel =>
              obtain ⟨hs1, hs, g1, g2, hsw⟩ := HB.out
              obtain ⟨hst, hsl', hx, ht, hk⟩ := HS.out
              rw [hs] at hst
              refine ⟨k + 1, s0 ++ [y] ++ x :: s2, by omega, by congr 1, ?_, ?_, ?_, hK3⟩
              · have : (s0 ++ [y] ++ s2).length = k + 1 := by rw [← hs]; exact hsl'
                simp at this ⊢; omega
              · rw [ht]
                refine insert_stable hw (fun z hz => by simp [List.mem_of_mem_take hz]) hmx hst hall ?_
                intro z hz
                rw [List.mem_append, List.mem_singleton] at hz
                rcases hz with hz | rfl
                · exact hw.trans x hmx y hmy z (hms z (by rw [hs]; simp [hz])) hxy (hst.sorted.left.cross z hz y (by simp))
                · exact hxy
              · simpa using hR3
        · have hg0 : gk = 0 := by omega
          have hs10 : s1 = [] := List.eq_nil_of_length_eq_zero (by omega)
          subst hs10
          have t0 : decide (a < jn) = false := by simp; omega
          have HB := hid hs
          clear hs hs1 hst hsl' hx ht hk hn ha hb
          go_wp2
          go_quiet (fail)
          go_wp2
          go_roundg (b - a - (k + 1))
          case measure => obtain ⟨_, _, _, _, hk⟩ := HS.out; omega
          case rel =>
            obtain ⟨hst, hsl', hx, ht, hk⟩ := HS.out
            have hs := HB.out
            rw [hs] at hst
            refine ⟨k + 1, x :: s2, by omega, by congr 1, ?_, ?_, ?_, hK2.drewN _⟩
            · have : ([] ++ s2).length = k + 1 := by rw [← hs]; exact hsl'
              simp at this ⊢; omega
            · rw [ht]
              exact insert_stable (s1 := []) hw (fun z hz => by simp [List.mem_of_mem_take hz]) hmx hst hall (by simp)
            · have : Rw i64 (wr.drewN nq) B T cap (p ++ [] ++ x :: (s2 ++ u.drop (k + 1 + 1) ++ q)) := hR2
              simpa using this
    · have hku : u.length ≤ k + 1 := by omega
      have e1 : u.take (k + 1) = u := List.take_of_length_le hku
      have e2 : u.drop (k + 1) = [] := List.drop_eq_nil_of_le hku
      rw [e1] at hst
      rw [e2, List.append_nil] at hR1
      have hge : (b : Int) ≤ (a : Int) + 1 + k := by omega
      clear hsl hk hn ha hb e1 e2
      go_wp2
      go_end0
      exact ⟨rfl, s, hst, hR1, hK⟩

end Go.Proofs.Ytiodofijcghpaaa
