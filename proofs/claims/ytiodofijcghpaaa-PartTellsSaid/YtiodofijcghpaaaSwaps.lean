/- slices.swapRangeCmpFunc, slices.rotateCmpFunc at int; contracts. -/
import Derived.Test.YtiodofijcghpaaaBase
import Derived.Test.YtiodofijcghpaaaDicePlain
import Derived.Test.YtiodofijcghpaaaStable
import Derived.Test.YtiodofijcghpaaaRows
import Derived.WalkLawsBesides
import Derived.Deep.LoopGhost
namespace Go.Proofs.Ytiodofijcghpaaa
open Go.RowKit

/-- Block B (of cap cells of type T) begins with the list l. -/
def Rw {α : Type} (enc : α → Value) (w : World) (B : Nat) (T : TypeId) (cap : Nat) (l : List α) : Prop :=
  l.length ≤ cap ∧ ∃ cur, w.heap[B]? = some (.cells cur T (0, 0)) ∧ cur.size = cap ∧ cur.toList.take l.length = l.map enc
section
variable {α : Type} {enc : α → Value} {w w' : World} {B : Nat} {T : TypeId} {cap : Nat} {l : List α}
theorem Rw.lt (h : Rw enc w B T cap l) : B < w.heap.size := by obtain ⟨_, cur, h, _⟩ := h; exact lt_of_block h
theorem Rw.cell (h : Rw enc w B T cap l) (j : Nat) (hj : j < l.length) : w.cell? ⟨B, j, none⟩ = some (enc l[j]) := by
  obtain ⟨hl, cur, hb, hs, ht⟩ := h
  rw [cell_of_row w B j cur T (0, 0) hb]
  have : (cur.toList.take l.length)[j]? = (l.map enc)[j]? := by rw [ht]
  rw [List.getElem?_take_of_lt hj] at this
  rw [← Array.getElem?_toList, this]; simp [hj]
theorem Rw.free (h : Rw enc w B T cap l) (j : Nat) : w.frozen? ⟨B, j, none⟩ = false := by
  obtain ⟨hl, cur, hb, hs, ht⟩ := h
  simp [World.frozen?, hb]
theorem Rw.set (h : Rw enc w B T cap l) (j : Nat) (x : α) : Rw enc (w.setCell ⟨B, j, none⟩ (enc x)) B T cap (l.set j x) := by
  have hlt := h.lt
  obtain ⟨hl, cur, hb, hs, ht⟩ := h
  refine ⟨by simpa using hl, cur.setIfInBounds j (enc x), ?_, by simpa using hs, ?_⟩
  · show (w.heap.modify B _)[B]? = _
    rw [Array.getElem?_modify, if_pos rfl, hb]
    simp
  · rw [List.length_set, Array.toList_setIfInBounds, List.take_set, ht, List.map_set]
theorem Rw.kept {X : Nat → Prop} (h : Rw enc w B T cap l) (k : Kept X w w') (hx : ¬ X B) : Rw enc w' B T cap l := by
  have := h.lt
  obtain ⟨hl, cur, hb, r⟩ := h
  exact ⟨hl, cur, by rw [k.block B this hx]; exact hb, r⟩
theorem Rw.below (h : Rw enc w B T cap l) (k : Below w.heap.size w w') : Rw enc w' B T cap l := h.kept (Kept.of_below k (fun _ => False)) (fun x => x)
theorem Rw.drew (h : Rw enc w B T cap l) : Rw enc w.drew B T cap l := h
theorem Rw.sl (h : Rw enc w B T cap l) (c : Nat) : Sl enc w (.slice (some ⟨B, 0, none⟩) l.length c) l := .inr ⟨B, 0, c, rfl, h.lt, fun j hj => by rw [Nat.zero_add]; exact h.cell j hj⟩
theorem Rw.owns (h : Rw enc w B T cap l) (base : Nat) (hb : base ≤ B) (hc : cap ≤ maxLen) : w.ownsRow base T 1 (.slice (some ⟨B, 0, none⟩) l.length cap) l.length (l.map enc) := by
  obtain ⟨hl, cur, hh, hs, ht⟩ := h
  exact ⟨by simp, .inr ⟨B, cap, cur, rfl, hb, hh, hl, hc, by omega, by rw [Nat.mul_one]; exact ht⟩⟩
end
theorem Rw.cellD {w : World} {B : Nat} {T : TypeId} {cap : Nat} {l : List Int} (h : Rw i64 w B T cap l) (j : Nat) (x : Int) (hj : j < l.length) (hx : l.getD j 0 = x) : w.cell? ⟨B, j, none⟩ = some (.int .i64 x) := by
  rw [h.cell j hj, ← hx]; simp [hj]
theorem Rw.swap {w : World} {B : Nat} {T : TypeId} {cap : Nat} {l : List Int} (h : Rw i64 w B T cap l) (i j : Nat) :
    Rw i64 ((w.setCell ⟨B, i, none⟩ (.int .i64 (l.getD j 0))).setCell ⟨B, j, none⟩ (.int .i64 (l.getD i 0))) B T cap (swapL l i j) := (h.set i (l.getD j 0)).set j (l.getD i 0)

theorem swap_mid (P Q R : List Int) (x y : Int) : swapL (P ++ x :: (Q ++ y :: R)) P.length (P.length + 1 + Q.length) = P ++ y :: (Q ++ x :: R) := by
  have e1 : (P ++ x :: (Q ++ y :: R)).getD (P.length + 1 + Q.length) 0 = y := by
    rw [List.getD_eq_getElem?_getD, List.getElem?_append_right (by omega), show P.length + 1 + Q.length - P.length = Q.length + 1 by omega, List.getElem?_cons_succ, List.getElem?_append_right (by omega)]
    simp
  have e2 : (P ++ x :: (Q ++ y :: R)).getD P.length 0 = x := by
    rw [List.getD_eq_getElem?_getD, List.getElem?_append_right (by omega)]; simp
  unfold swapL
  rw [e1, e2, List.set_append_right _ _ (by omega), Nat.sub_self, List.set_cons_zero, List.set_append_right _ _ (by omega), show P.length + 1 + Q.length - P.length = Q.length + 1 by omega, List.set_cons_succ, List.set_append_right _ _ (by omega)]
  simp
theorem swap_comm (l : List Int) (i j : Nat) (h : i ≠ j) : swapL l i j = swapL l j i := by
  unfold swapL; rw [List.set_comm _ _ h]

/-- a slice over the whole list -/
def rowV (B n cap : Nat) : Value := .slice (some ⟨B, 0, none⟩) n cap

set_option maxHeartbeats 1000000 in
theorem swapRange_any (B cap n : Nat) (T : TypeId) (a b k : Nat) (f : Value) (p U M V q : List Int) (w : World) (hR : Rw i64 w B T cap (p ++ U ++ M ++ V ++ q)) (hn : n = (p ++ U ++ M ++ V ++ q).length) (hn2 : n ≤ 1000000)
    (ha : p.length = a) (hk : U.length = k) (hk2 : V.length = k) (hb : a + k + M.length = b) :
    Calls Try.prog 63 #[.slice (some ⟨B, 0, none⟩) n cap, .int .i64 a, .int .i64 b, .int .i64 k, f] w fun e w' => e = .returned (.tuple #[]) ∧ Rw i64 w' B T cap (p ++ V ++ M ++ U ++ q) ∧ Kept (· = B) w w' := by
  have hnn : a + k + M.length + k + q.length = n := by rw [hn]; simp; omega
  have H := hid (And.intro hn (And.intro ha (And.intro hk (And.intro hk2 hb))))
  have hbn : b + k ≤ n := by omega
  have habk : a + k ≤ b := by omega
  clear hn ha hk hk2 hb hnn
  go_enter Try.func63, Try.ntmps63
  go_wp2
  go_loopg [10] k (fun g i wr => ∃ j : Nat, j + g = k ∧ i = .int .i64 j ∧ Rw i64 wr B T cap (p ++ V.take j ++ U.drop j ++ M ++ U.take j ++ V.drop j ++ q) ∧ Kept (· = B) w wr)
  case atStart => exact ⟨0, by omega, rfl, by simpa using hR, Kept.refl _ _⟩
  case round =>
    obtain ⟨j, hj, rfl, hR1, hK⟩ := hrel
    obtain ⟨hn, ha, hk, hk2, hb⟩ := H.out
    by_cases hlt : j < k
    · have e1 : U.drop j = U[j] :: U.drop (j + 1) := List.drop_eq_getElem_cons (by omega)
      have e2 : V.drop j = V[j] :: V.drop (j + 1) := List.drop_eq_getElem_cons (by omega)
      have t1 : U.take (j + 1) = U.take j ++ [U[j]] := List.take_succ_eq_append_getElem (by omega)
      have t2 : V.take (j + 1) = V.take j ++ [V[j]] := List.take_succ_eq_append_getElem (by omega)
      have hl : p ++ V.take j ++ U.drop j ++ M ++ U.take j ++ V.drop j ++ q = (p ++ V.take j) ++ U[j] :: ((U.drop (j + 1) ++ M ++ U.take j) ++ V[j] :: (V.drop (j + 1) ++ q)) := by rw [e1, e2]; simp only [List.append_assoc, List.cons_append, List.nil_append]
      rw [hl] at hR1
      have hsw := swap_mid (p ++ V.take j) (U.drop (j + 1) ++ M ++ U.take j) (V.drop (j + 1) ++ q) U[j] V[j]
      have i1 : (p ++ V.take j).length = a + j := by simp; omega
      have i2 : (p ++ V.take j).length + 1 + (U.drop (j + 1) ++ M ++ U.take j).length = b + j := by simp; omega
      rw [i2, i1] at hsw
      have hres : (p ++ V.take j) ++ V[j] :: ((U.drop (j + 1) ++ M ++ U.take j) ++ U[j] :: (V.drop (j + 1) ++ q)) = p ++ V.take (j + 1) ++ U.drop (j + 1) ++ M ++ U.take (j + 1) ++ V.drop (j + 1) ++ q := by rw [t1, t2]; simp only [List.append_assoc, List.cons_append, List.nil_append]
      rw [hres] at hsw
      have hLn : ((p ++ V.take j) ++ U[j] :: ((U.drop (j + 1) ++ M ++ U.take j) ++ V[j] :: (V.drop (j + 1) ++ q))).length = n := by rw [← hl, hn]; simp; omega
      generalize (p ++ V.take j) ++ U[j] :: ((U.drop (j + 1) ++ M ++ U.take j) ++ V[j] :: (V.drop (j + 1) ++ q)) = L at *
      have HS := hid hsw
      have HJ := hid hj
      clear hsw hj e1 e2 t1 t2 hl i1 i2 hres hn ha hk hk2 hb
      obtain ⟨v, hv⟩ : ∃ v, v = L.getD (b + j) 0 := ⟨_, rfl⟩
      obtain ⟨u, hu⟩ : ∃ v, v = L.getD (a + j) 0 := ⟨_, rfl⟩
      have c1 : wr.cell? ⟨B, b + j, none⟩ = some (.int .i64 v) := by rw [hv, hR1.cell (b + j) (by omega)]; simp [show b + j < L.length by omega]
      have c2 : wr.cell? ⟨B, a + j, none⟩ = some (.int .i64 u) := by rw [hu, hR1.cell (a + j) (by omega)]; simp [show a + j < L.length by omega]
      have f1 := hR1.free (b + j)
      have f2 := hR1.free (a + j)
      have hsp := hR1.swap (a + j) (b + j)
      rw [← hv, ← hu, HS.out] at hsp
      clear hv hu hLn
      obtain ⟨v', hy'⟩ := cell?_setCell_some (w := wr) (p := ⟨B, a + j, none⟩) (x := .int .i64 v) (q := ⟨B, b + j, none⟩) (v := .int .i64 v) c1
      have hbj : b + j < n := by omega
      have haj : a + j < n := by omega
      go_wp2
      go_region
      all_goals go_wp2
      all_goals go_roundg (gk - 1)
      case measure => have := HJ.out; omega
      case rel =>
        refine ⟨j + 1, by have := HJ.out; omega, by go_num, hsp.drew, ?_⟩
        exact ((hK.setCell (p := ⟨B, a + j, none⟩) (fun _ => rfl) _).setCell (p := ⟨B, b + j, none⟩) (fun _ => rfl) _).drew
    · obtain rfl : k = j := by omega
      have e : p ++ V.take k ++ U.drop k ++ M ++ U.take k ++ V.drop k ++ q = p ++ V ++ M ++ U ++ q := by
        rw [List.take_of_length_le (by omega), List.take_of_length_le (by omega), List.drop_eq_nil_of_le (by omega), List.drop_eq_nil_of_le (by omega)]
        simp
      rw [e] at hR1
      clear e hn ha hk hk2 hb
      go_wp2
      go_end0
      exact ⟨rfl, hR1, hK⟩

set_option maxHeartbeats 1000000 in
theorem rotate_any (B cap n : Nat) (T : TypeId) (a m b : Nat) (f : Value) (p u v q : List Int) (w : World) (hR : Rw i64 w B T cap (p ++ u ++ v ++ q)) (hn : n = (p ++ u ++ v ++ q).length) (hn2 : n ≤ 1000000)
    (ha : p.length = a) (hu : a + u.length = m) (hv : m + v.length = b) (hu1 : 1 ≤ u.length) (hv1 : 1 ≤ v.length) :
    Calls Try.prog 51 #[.slice (some ⟨B, 0, none⟩) n cap, .int .i64 a, .int .i64 m, .int .i64 b, f] w fun e w' => e = .returned (.tuple #[]) ∧ Rw i64 w' B T cap (p ++ v ++ u ++ q) ∧ Kept (· = B) w w' := by
  have hmn : b ≤ n := by rw [hn]; simp; omega
  have ham : a ≤ m := by omega
  have hmb : m ≤ b := by omega
  have e1 : ((m : Int) - (a : Int)) = ((u.length : Nat) : Int) := by omega
  have e2 : ((b : Int) - (m : Int)) = ((v.length : Nat) : Int) := by omega
  have H := hid (And.intro hn (And.intro ha (And.intro hu hv)))
  have E1 := hid e1
  have E2 := hid e2
  clear hn ha hu hv e1 e2
  go_enter Try.func51, Try.ntmps51
  go_wp2
  rw [E1.out, E2.out]
  go_loopg [10, 11] (u.length + v.length) (fun g i j wr => ∃ P U V Q : List Int, U.length + V.length = g ∧ i = .int .i64 U.length ∧ j = .int .i64 V.length ∧ 1 ≤ U.length ∧ 1 ≤ V.length ∧ P.length + U.length = m ∧ (P ++ U ++ V ++ Q).length = n ∧ Rw i64 wr B T cap (P ++ U ++ V ++ Q) ∧ P ++ V ++ U ++ Q = p ++ v ++ u ++ q ∧ Kept (· = B) w wr)
  case atStart =>
    obtain ⟨hn, ha, hu, hv⟩ := H.out
    exact ⟨p, u, v, q, rfl, rfl, rfl, hu1, hv1, by omega, hn.symm, hR, rfl, Kept.refl _ _⟩
  case round =>
    obtain ⟨P, U, V, Q, hg, rfl, rfl, hU1, hV1, hP, hL, hR1, hT, hK⟩ := hrel
    have HP := hid hP
    have HL := hid hL
    have HT := hid hT
    have HG := hid hg
    have hPm : P.length + U.length ≤ n := by simp at hL; omega
    have hVn : P.length + U.length + V.length ≤ n := by simp at hL; omega
    have hPU : U.length ≤ m := by omega
    have hmV : m + V.length ≤ n := by omega
    clear hP hL hT hg
    by_cases hij : U.length = V.length
    · have t1 : ((U.length : Int) != (V.length : Int)) = false := by simp; omega
      have HI := hid hij
      clear hij
      go_wp2_with fail
      rw [show (m : Int) - (U.length : Int) = ((P.length : Nat) : Int) by have := HP.out; omega]
      refine (swapRange_any B cap n T P.length m U.length f P U [] V Q wr (by simpa using hR1) (by rw [← HL.out]; simp) hn2 rfl rfl HI.out.symm (by have := HP.out; simp; omega)).mono ?_
      rintro e w1 ⟨rfl, hR2, hk2⟩
      go_wp2
      go_end0
      refine ⟨rfl, ?_, hK.trans hk2⟩
      rw [← HT.out]
      simpa using hR2
    · have t1 : ((U.length : Int) != (V.length : Int)) = true := by simp; omega
      by_cases hgt : V.length < U.length
      · have t2 : decide (V.length < U.length) = true := by simpa using hgt
        have HI := hid hij
        clear hij
        go_wp2_with fail
        rw [show (m : Int) - (U.length : Int) = ((P.length : Nat) : Int) by have := HP.out; omega]
        have hs : P ++ U ++ V ++ Q = P ++ U.take V.length ++ U.drop V.length ++ V ++ Q := by rw [List.append_assoc P (U.take V.length), List.take_append_drop]
        refine (swapRange_any B cap n T P.length m V.length f P (U.take V.length) (U.drop V.length) V Q wr (by rw [← hs]; exact hR1) (by rw [← HL.out, hs]) hn2 rfl (by simp; omega) rfl (by have := HP.out; simp; omega)).mono ?_
        rintro e w1 ⟨rfl, hR2, hk2⟩
        go_wp2
        go_roundg (gk - V.length)
        case measure => have := HG.out; omega
        case rel =>
          refine ⟨P ++ V, U.drop V.length, U.take V.length, Q, by have := HG.out; simp; omega, ?_, ?_, by simp; omega, by simp; omega, by have := HP.out; simp; omega, ?_, ?_, ?_, hK.trans hk2⟩
          · rw [List.length_drop]; congr 1; omega
          · rw [List.length_take]; congr 1; omega
          · rw [← HL.out]; simp; omega
          · simpa using hR2
          · rw [← HT.out, List.append_assoc (P ++ V) (U.take V.length), List.take_append_drop]
      · have t2 : decide (V.length < U.length) = false := by simpa using hgt
        have HI := hid hij
        clear hij
        go_wp2_with fail
        rw [show (m : Int) - (U.length : Int) = ((P.length : Nat) : Int) by have := HP.out; omega]
        rw [show (m : Int) + (V.length : Int) - (U.length : Int) = ((m + V.length - U.length : Nat) : Int) by omega]
        have hij := HI.out
        have hs : P ++ U ++ V ++ Q = P ++ U ++ V.take (V.length - U.length) ++ V.drop (V.length - U.length) ++ Q := by rw [List.append_assoc (P ++ U) (V.take (V.length - U.length)), List.take_append_drop]
        refine (swapRange_any B cap n T P.length (m + V.length - U.length) U.length f P U (V.take (V.length - U.length)) (V.drop (V.length - U.length)) Q wr (by rw [← hs]; exact hR1) (by rw [← HL.out, hs]) hn2 rfl rfl (by simp; omega) (by have := HP.out; simp; omega)).mono ?_
        clear hij
        rintro e w1 ⟨rfl, hR2, hk2⟩
        go_wp2
        go_roundg (gk - U.length)
        case measure => have := HG.out; omega
        case rel =>
          have hij := HI.out
          refine ⟨P, V.drop (V.length - U.length), V.take (V.length - U.length), U ++ Q, by have := HG.out; simp; omega, ?_, ?_, by simp; omega, by simp; omega, by have := HP.out; simp; omega, ?_, ?_, ?_, hK.trans hk2⟩
          · rw [List.length_drop]; congr 1; omega
          · rw [List.length_take]; congr 1; omega
          · rw [← HL.out]; simp; omega
          · simpa using hR2
          · rw [← HT.out]
            simp only [← List.append_assoc]
            rw [List.append_assoc P (V.take (V.length - U.length)), List.take_append_drop]

end Go.Proofs.Ytiodofijcghpaaa
