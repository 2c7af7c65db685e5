/- Texts of ours in one: NatC, Str2, NatD, NatDK, NatDL, NatE, NatF, Oct, NatG, Gcd, Gc0, Rp1, DivR, Wr, Ev12, Ev13, Ev14, Ev15, Str1, Re1, Re2, Re3, Re4, Re5, Gs32, Re6, Re7, Re8, Rat, Ht, Wh1, Rf1, Wh2, Wh3, Rf2, Rf3, Gc1, Gc2, Tz, Gc3, Gc4, Gc5, GcdS, Fr1, Fr2, Fr3, Ha1, Ha2, Ev16, Ls1, LsP, Ls2, Ls3, Fr4, NearP, NearQ, SimpP, SimpS, Lw1, Lw2, Lw3, Lw4, Simp, Simp2, Simp3, Simp4, Ls4, Str3, DgP, PaP, Ev17, Ev18, Ev19, Ev20, Ev24, Ev25, Tx1, PaA, DicePlain, Dice, Draw, RefDice, Seq, Sorted, Lists, SortPlain, Asc, GnC, Ev21, Ev22, Ev23, Ls5, Ls6, Gn1, GnP, Gn2, Gn3, Gn7, Gn8, Gn4, Gn5, Gn9, Gn12, Dg1. -/
import Derived.Test.YtjekjlaokjhhgaaGreatDoorW0
import Derived.Test.YtjekjlaokjhhgaaGreatDoorW1
import Derived.Lib.ItoaMem
import Derived.Lib.AppendIntMem
import Derived.Lib.ItoaWalk
import Derived.WalkKit
import Derived.BigCall
import Derived.BigGuard
import Derived.Lib.TrailingZeros
import Derived.Deep.Upon
import Derived.Shelf.Spec.TrailingZeros
import Derived.Laws.Concat
import Derived.Test.YtjekjlaokjhhgaaGreatDoorRows
import Derived.WalkLawsBesides
import Derived.Deep.LoopGhost
import Derived.Test.YtjekjlaokjhhgaaGreatDoorProg
import Derived.RangeFuncBox
import Derived.RangeFuncLeaves
import Derived.Shelf.Abstract
import Derived.OwnWalkIn
import Derived.TacticsInMore
import Derived.LoopNIn
import Derived.LoopIn
import Derived.Maps.AppendAt
import Derived.Sort.OwnSortedInts
import Derived.Lib.SlicesCompact
set_option linter.unusedVariables false
set_option linter.unusedSimpArgs false

namespace Go.Proofs.YtjekjlaokjhhgaaGreatDoor
open Go.RowKit
theorem words_po (n : Nat) (hn : big n) (H : Hp) : PO Tryz.prog 84 #[natV n] H fun v ow => OwnL 39 1 v (dig W64 n).length ((dig W64 n).map n64) ow := by
 by_cases h : n = 0
 ·subst h
  refine ⟨(cOf Tryz.func84 rfl (by kernel_rfl)), fun W hW _ => (words_zero W).mono fun e W' ⟨he, hb⟩ => ?_⟩
  rw [dig_zero]
  exact ⟨_, [], he, OwnL.nil _ _, ⟨by simp, fun b T cs hm => by cases hm⟩, hb⟩
 ·refine ⟨(cOf Tryz.func84 rfl (by kernel_rfl)), fun W hW _ => (words_any n W h hn).mono fun e W' ⟨g, hg, he, hB, hb⟩ => ?_⟩
  have hl := dig_len_big hn
  refine ⟨_, [(g, 39, (dig W64 n).map n64)], he, OwnL.full (by simp) (by omega), ⟨by simp, fun b T cs hm => ?_⟩, hb⟩
  simp at hm
  obtain ⟨rfl, rfl, rfl⟩ := hm
  exact ⟨hg, hB⟩
theorem natAdd_small (a b : Nat) (ha : a < W64) (hb : b < W64) : PV Tryz.prog 71 #[natV a, natV b] (natV (a + b)) := by
 have hp := add_parts ha hb (Nat.zero_le 1)
 refine PV.of_pc ?_
 refine PC.body Tryz.tab_ok Tryz.func71 rfl (by kernel_rfl) Tryz.ntmps71 rfl rfl ?_
 (try refine RUN ?_)
 rw [more_lt ha]
 (try refine RUN ?_)
 rw [more_lt hb]
 (try refine RUN ?_)
 refine EVL.ext rfl rfl rfl rfl rfl (add64_run0 (lo a) (lo b)) ?_
 rw [lo_of_lt ha, lo_of_lt hb]
 (try refine RUN ?_)
 generalize addLo a b 0 = s at *
 generalize hc : addHi a b 0 = c at *
 by_cases h0 : c = 0
 ·rw [show (((c : Nat) : Int) == 0) = true by simp [h0]]
  (try refine RUN ?_)
  have e : a + b = s := by rw [h0] at hp; omega
  rw [e, natV_small hp.2.1]
 ·have h1 : c = 1 := by omega
  rw [show (((c : Nat) : Int) == 0) = false by simp [h0]]
  (try refine RUN ?_)
  refine EVL.lit Tryz.tab_ok rfl rfl rfl rfl rfl rfl rfl rfl rfl rfl rfl fun g => ?_
  refine EVL.publish [] [] rfl fun G hG hg => ?_
  have hs : SlN n64 G (.slice (some ⟨g, 0, none⟩) 2 2) [s, c] := ⟨rfl, .inr ⟨g, 0, 2, _, rfl, Nat.le_refl _, hg, fun j x hj => by simpa using hj⟩⟩
  have hf := fromWords_pc hs (Dig.cons hp.2.1 (Dig.cons (by rw [h1]; decide) (Dig.nil _))) (by simp)
  rw [show val W64 [s, c] = a + b by simp only [val]; rw [Nat.mul_zero, Nat.add_zero, Nat.mul_comm]; omega] at hf
  refine EVL.call rfl rfl rfl rfl rfl hf ?_
  rintro v H' rfl hle
  (try refine RUN ?_)
  rfl
structure AddInv (x y cur : List Nat) (i c : Nat) : Prop where
 len : cur.length = x.length
 dig : Dig W64 cur
 keep : ∀ k, i ≤ k → cur.getD k 0 = x.getD k 0
 sum : val W64 (cur.take i) + c * W64 ^ i = val W64 (x.take i) + val W64 (y.take i)
 carry : c ≤ 1
theorem val_take_getD (l : List Nat) (i : Nat) : val W64 (l.take (i + 1)) = val W64 (l.take i) + l.getD i 0 * W64 ^ i := by
 by_cases h : i < l.length
 ·rw [List.take_succ_eq_append_getElem h, val_snoc, List.length_take, Nat.min_eq_left (Nat.le_of_lt h)]
  simp [h, Nat.mul_comm]
 ·rw [List.take_of_length_le (by omega), List.take_of_length_le (by omega)]
  simp [Nat.not_lt.1 h]
theorem AddInv.step {x y cur : List Nat} {i c : Nat} (h : AddInv x y cur i c) (hi : i < x.length) (hy : Dig W64 y) : AddInv x y (cur.set i (addLo (cur.getD i 0) (y.getD i 0) c)) (i + 1) (addHi (cur.getD i 0) (y.getD i 0) c) := by
 have hil : i < cur.length := by rw [h.len]; exact hi
 have hx : cur.getD i 0 < W64 := by simp only [List.getD_eq_getElem?_getD, List.getElem?_eq_getElem hil, Option.getD_some]; exact h.dig.get i hil
 have hyi : y.getD i 0 < W64 := by
  by_cases hl : i < y.length
  ·simp only [List.getD_eq_getElem?_getD, List.getElem?_eq_getElem hl, Option.getD_some]; exact hy.get i hl
  ·simp [Nat.not_lt.1 hl]; decide
 obtain ⟨h1, h2, h3⟩ := add_parts hx hyi h.carry
 refine ⟨by simp [h.len], h.dig.set _ _ h2, fun k hk => ?_, ?_, h3⟩
 ·rw [← h.keep k (by omega)]
  simp [List.getD_eq_getElem?_getD, List.getElem?_set_ne (show i ≠ k by omega)]
 ·have e1 : val W64 ((cur.set i (addLo (cur.getD i 0) (y.getD i 0) c)).take (i + 1)) = val W64 (cur.take i) + addLo (cur.getD i 0) (y.getD i 0) c * W64 ^ i := by
   rw [val_take_getD, List.take_set_of_le (Nat.le_refl _)]
   simp [List.getD_eq_getElem?_getD, hil]
  have e2 := val_take_getD x i
  have e3 := val_take_getD y i
  have e4 := h.keep i (Nat.le_refl _)
  rw [e1, e2, e3, ← e4, Nat.pow_succ]
  have hs := h.sum
  generalize addLo (cur.getD i 0) (y.getD i 0) c = s at *
  generalize addHi (cur.getD i 0) (y.getD i 0) c = c' at *
  generalize cur.getD i 0 = u at *
  generalize y.getD i 0 = w at *
  generalize W64 ^ i = p at *
  have h5 : (s + c' * W64) * p = (u + w + c) * p := by rw [h1]
  grind
theorem natAdd_big (a b : Nat) (h : ¬ (a < W64 ∧ b < W64)) (ha : big a) (hb : big b) : PV Tryz.prog 71 #[natV a, natV b] (natV (a + b)) := by
 refine PV.of_pc ?_
 refine PC.body Tryz.tab_ok Tryz.func71 rfl (by kernel_rfl) Tryz.ntmps71 rfl rfl ?_
 (try refine RUN ?_)
 have hpa := fun G => words_po a ha G
 have hpb := fun G => words_po b hb G
 refine EVL.meet (fun env' bx' H' => SubL env' [(4, .p 4 0), (3, .p 3 0), (2, .p 2 0), (19, .v (.bool false))] ∧ SubX bx' [(4, 41, Tryz.te41.zero), (3, 41, [.int .u64 (lo b : Int), .string (moreB b)]), (2, 41, [.int .u64 (lo a : Int), .string (moreB a)])] ∧ H' = ⟨fun _ => none, [], ⟨fun _ => none, []⟩⟩) ?_ ?_
 ·rintro env' bx' H' _ ⟨he, hbx, rfl⟩
  refine EV.less _ _ he hbx rfl ?_
  (try refine RUN ?_)
  apply EV.drawn 6 (by kernel_rfl) (by kernel_rfl)
  intro x y
  refine' DJ.val Tryz.tab_ok rfl rfl rfl rfl rfl ?_; rotate_left
  refine' DJ.callO rfl rfl rfl rfl rfl (hpa gH).can (fun G _ _ => hpa G) ?_; rotate_left
  refine' DJ.val Tryz.tab_ok rfl rfl rfl rfl rfl ?_; rotate_left
  refine' DJ.callO rfl rfl rfl rfl rfl (hpb gH).can (fun G _ _ => hpb G) ?_; rotate_left
  refine' DJ.copy (0 + 1) (.inr rfl) rfl rfl rfl id rfl (by kernel_rfl) ?_; rotate_left
  refine' DJ.copy (0 + 1 + 1 + 1) (.inr rfl) rfl rfl rfl id rfl (by kernel_rfl) ?_; rotate_left
  refine DJ.nil (fun G hG hF => ?_)
  case hS => rfl
  case hS2 => rfl
  obtain ⟨hob, hoa, _⟩ := hF
  change OwnL _ _ _ _ _ _ at hob hoa
  generalize x (0 + 1 + 1 + 1) = vb at *
  generalize x (0 + 1) = va at *
  generalize y (0 + 1 + 1 + 1) = ob at *
  generalize y (0 + 1) = oa at *
  obtain ⟨aa, ca, rfl⟩ := hoa.val
  obtain ⟨ab, cb, rfl⟩ := hob.val
  have la := dig_len_big ha
  have lb := dig_len_big hb
  have vla := dig_val W64_two a
  have vlb := dig_val W64_two b
  have da := (dig_norm W64_two a).1
  have db := (dig_norm W64_two b).1
  have pos : 0 < (dig W64 a).length ∨ 0 < (dig W64 b).length := by
   rcases Nat.eq_zero_or_pos (dig W64 a).length with e | e
   ·rcases Nat.eq_zero_or_pos (dig W64 b).length with e' | e'
    ·have h1 := dig_len_zero W64_two e
     have h2 := dig_len_zero W64_two e'
     exact absurd ⟨by rw [h1]; decide, by rw [h2]; decide⟩ h
    ·exact .inr e'
   ·exact .inl e
  have hab : val W64 (dig W64 a) + val W64 (dig W64 b) = a + b := by rw [vla, vlb]
  have hba : val W64 (dig W64 b) + val W64 (dig W64 a) = a + b := by rw [vla, vlb, Nat.add_comm]
  generalize dig W64 a = xa at *
  generalize dig W64 b = xb at *
  clear hpa hpb ha hb h he hbx vla vlb
  (try refine RUN ?_)
  refine EV.meet (fun env' bx' H' => ∃ (g cap : Nat) (sp : List Value) (ay : Option Addr) (cy : Nat) (x y : List Nat), SubL env' [(4, .p 4 0), (7, .v (.slice (some ⟨g, 0, none⟩) x.length cap)), (8, .v (.slice ay y.length cy))] ∧ SubX bx' [(4, 41, Tryz.te41.zero)] ∧ H'.ow = [(g, 39, x.map n64 ++ sp)] ∧ (x.map n64 ++ sp).length = cap * 1 ∧ x.length ≤ cap ∧ cap ≤ maxLen ∧ SlN n64 H'.ro (.slice ay y.length cy) y ∧ y.length ≤ x.length ∧ Dig W64 x ∧ Dig W64 y ∧ x.length ≤ 15625001 ∧ val W64 x + val W64 y = a + b) ?_ ?_
  ·rintro env' bx' ⟨G1, ow1, base1⟩ hbsbase1 ⟨g, cap, sp, ay, cy, x, y, he, hbx, h1, h2, h3, h4, hs, hyx, dx, dy, lx, hsum⟩
   obtain rfl : base1 = ⟨fun _ => none, []⟩ := hbsbase1
   refine EV.less _ _ he hbx rfl ?_
   have h1' : ow1 = [(g, 39, x.map n64 ++ sp)] := h1
   subst h1'
   (try refine RUN ?_)
   change SlN n64 G1 _ _ at hs
   clear hoa hob hab hba he hbx pos la lb da db h1
   refine EV.loop (ι := Nat × Nat × List Nat) (fun q => [(4, .p 4 0), (7, .v (.slice (some ⟨g, 0, none⟩) x.length cap)), (8, .v (.slice ay y.length cy)), (9, .v (n64 q.2.1)), (48, .v (.int .i64 (x.length : Int))), (49, .v (.int .i64 (q.1 : Int)))]) (fun _ => [(4, 41, Tryz.te41.zero)]) (fun q => [(g, 39, q.2.2.map n64 ++ sp)])
    (fun q G => q.1 ≤ x.length ∧ AddInv x y q.2.2 q.1 q.2.1 ∧ SlN n64 G (.slice ay y.length cy) y) (fun q => x.length - q.1) (0, 0, x) ⟨rfl, rfl, rfl, rfl, rfl, rfl, trivial⟩ ⟨rfl, trivial⟩ rfl (fun _ => rfl) ⟨Nat.zero_le _, ⟨rfl, dx, fun _ _ => rfl, by simp [val], Nat.zero_le _⟩, hs⟩ ?_
   rintro ⟨i, c, cur⟩ G2 hG2 ⟨hi, hinv, hs2⟩
   dsimp only at hi hinv
   (try refine RUN ?_)
   by_cases hlt : i < x.length
   ·rw [show decide ((i : Int) < (x.length : Int)) = true by simpa using hlt]
    (try refine RUN ?_)
    refine EV.meet (fun env' bx' H' => SubL env' [(4, .p 4 0), (7, .v (.slice (some ⟨g, 0, none⟩) x.length cap)), (8, .v (.slice ay y.length cy)), (9, .v (n64 c)), (48, .v (.int .i64 (x.length : Int))), (49, .v (.int .i64 (i : Int))), (10, .v (.int .i64 (i : Int))), (11, .v (n64 (y.getD i 0)))] ∧ SubX bx' [(4, 41, Tryz.te41.zero)] ∧ H'.ow = [(g, 39, cur.map n64 ++ sp)] ∧ G2.Le H'.ro) ?_ ?_
    ·rintro env' bx' ⟨G3, ow3, base3⟩ hbsbase3 ⟨he, hbx, h1, hle⟩
     obtain rfl : base3 = ⟨fun _ => none, []⟩ := hbsbase3
     refine EV.less _ _ he hbx rfl ?_
     have h1' : ow3 = [(g, 39, cur.map n64 ++ sp)] := h1
     subst h1'
     have hil : i < cur.length := by rw [hinv.len]; exact hlt
     have hci : (cur.map n64 ++ sp)[i]? = some (n64 (cur.getD i 0)) := by
      rw [List.getElem?_append_left (by simpa using hil)]; simp [hil]
     (try refine RUN ?_)
     refine EVL.ofVal (ValOk.idxP1 Tryz.tab_ok rfl rfl rfl rfl rfl rfl rfl rfl i rfl hlt) rfl rfl rfl fun G4 hG4 => ?_
     refine EVL.load1 Tryz.tab_ok rfl rfl rfl rfl rfl rfl rfl rfl 0 rfl hci ?_
     (try refine RUN ?_)
     refine EVL.ext rfl rfl rfl rfl rfl (fun W => add64_run (cur.getD i 0) (y.getD i 0) c W hinv.carry) ?_
     (try refine RUN ?_)
     refine EVL.ofVal (ValOk.idxP1 Tryz.tab_ok rfl rfl rfl rfl rfl rfl rfl rfl i rfl hlt) rfl rfl rfl fun G5 hG5 => ?_
     refine EVL.set1 Tryz.tab_ok rfl rfl rfl rfl rfl rfl rfl rfl rfl rfl (by simp; omega) ?_
     (try refine RUN ?_)
     refine ⟨(i + 1, addHi (cur.getD i 0) (y.getD i 0) c, cur.set i (addLo (cur.getD i 0) (y.getD i 0) c)), ⟨rfl, rfl, rfl, rfl, rfl, ?_, trivial⟩, ⟨rfl, trivial⟩, ?_, ⟨by dsimp only; omega, hinv.step hlt dy, hs2.mono (hle.trans (hG4.trans hG5))⟩, hle.trans (hG4.trans hG5), by dsimp only; omega⟩
     ·have e : IntKind.i64.wrap ((i : Int) + 1) = ((i + 1 : Nat) : Int) := by rw [IntKind.wrap_i64]; omega
      rw [e]; rfl
     ·dsimp only
      rw [List.set_append_left _ _ (by simpa using hil), List.map_set]
    ·by_cases hly : i < y.length
     ·rw [show decide ((i : Int) < (y.length : Int)) = true by simpa using hly]
      have hcy : (y.map n64)[i]? = some (n64 (y.getD i 0)) := by simp [hly]
      (try refine RUN ?_)
      refine EVL.ofVal (ValOk.idx1 Tryz.tab_ok rfl rfl rfl rfl rfl rfl rfl rfl hs2 i rfl hly hcy) rfl rfl rfl fun G4 hG4 => ?_
      (try refine RUN ?_)
      exact ⟨⟨rfl, rfl, rfl, rfl, rfl, rfl, rfl, rfl, trivial⟩, ⟨rfl, trivial⟩, rfl, hG4⟩
     ·rw [show decide ((i : Int) < (y.length : Int)) = false by simpa using hly]
      (try refine RUN ?_)
      refine ⟨⟨rfl, rfl, rfl, rfl, rfl, rfl, rfl, ?_, trivial⟩, ⟨rfl, trivial⟩, rfl, Hp.Le.refl _⟩
      rw [show y.getD i 0 = 0 by simp [Nat.not_lt.1 hly]]
      rfl
   ·rw [show decide ((i : Int) < (x.length : Int)) = false by simpa using hlt]
    obtain rfl : i = x.length := by omega
    have hlen := hinv.len
    have hfin := hinv.sum
    rw [List.take_of_length_le (by omega), List.take_of_length_le (Nat.le_refl _), List.take_of_length_le (by omega), hsum] at hfin
    have hown : OwnL 39 1 (.slice (some ⟨g, 0, none⟩) x.length cap) x.length (cur.map n64) [(g, 39, cur.map n64 ++ sp)] :=
     ⟨by simp [hlen], .inr ⟨g, cap, sp, rfl, rfl, by rw [← h2]; simp [hlen], h3, h4⟩⟩
    (try refine RUN ?_)
    refine EV.meet (fun env' bx' H' => ∃ (v : Value) (l : List Nat), SubL env' [(4, .p 4 0), (7, .v v)] ∧ SubX bx' [(4, 41, Tryz.te41.zero)] ∧ SlN n64 H'.ro v l ∧ Dig W64 l ∧ val W64 l = a + b ∧ l.length ≤ 15625002) ?_ ?_
    ·rintro env' bx' H3 _ ⟨v, l, he, hbx, hl, hD, hv, hll⟩
     refine EV.less _ _ he hbx rfl ?_
     have hf := fromWords_pc hl hD (by omega)
     rw [hv] at hf
     (try refine RUN ?_)
     refine EVL.call rfl rfl rfl rfl rfl hf ?_
     rintro v' H' rfl hle
     (try refine RUN ?_)
     rfl
    ·by_cases hc : c = 0
     ·rw [show (((c : Nat) : Int) != 0) = false by simp [hc]]
      refine EV.publishL [] [(g, 39, cur.map n64 ++ sp)] [] rfl hown fun G' hG' hs' => ?_
      (try refine RUN ?_)
      rw [hc] at hfin
      refine ⟨_, cur, ⟨rfl, rfl, trivial⟩, ⟨rfl, trivial⟩, ?_, hinv.dig, by omega, by omega⟩
      unfold SlN
      rw [hlen]; exact hs'
     ·have hc1 : c = 1 := by have := hinv.carry; omega
      rw [show (((c : Nat) : Int) != 0) = true by simp [hc]]
      (try refine RUN ?_)
      refine EVL.lit Tryz.tab_ok rfl rfl rfl rfl rfl rfl rfl rfl rfl rfl rfl fun gt => ?_
      refine EVL.append Tryz.tab_ok rfl rfl rfl rfl rfl rfl rfl rfl rfl rfl rfl rfl [(gt, 39, [n64 c])] [(g, 39, cur.map n64 ++ sp)] [] rfl hown (SrcAt.own 0 rfl rfl) rfl (by omega) ?_
      intro v' ow' hown'
      refine EVL.publishL [(gt, 39, [n64 c])] ow' [] rfl hown' fun G' hG' hs' => ?_
      (try refine RUN ?_)
      refine ⟨_, cur ++ [c], ⟨rfl, rfl, trivial⟩, ⟨rfl, trivial⟩, ?_, hinv.dig.append (Dig.cons (by rw [hc1]; decide) (Dig.nil _)), ?_, by simp; omega⟩
      ·change SlC G' v' (x.length + 1) 1 (cur.map n64 ++ [n64 c]) at hs'
       unfold SlN
       simpa [hlen] using hs'
      ·rw [val_append, hlen]
       simp only [val]
       rw [Nat.mul_zero, Nat.add_zero, Nat.mul_comm]; exact hfin
  ·refine EV.cond rfl (fun hlt => ?_) (fun hlt => ?_)
   ·have hlt' : xa.length < xb.length := by simpa using hlt
    obtain ⟨g, cap, sp, e1, rfl, h2, h3, h4⟩ := hob.block (by omega)
    cases e1
    refine EV.publishL [(g, 39, xb.map n64 ++ sp)] oa [] rfl hoa fun G' hG' hs => ?_
    (try refine RUN ?_)
    exact ⟨g, cb, sp, aa, ca, xb, xa, ⟨rfl, rfl, rfl, trivial⟩, ⟨rfl, trivial⟩, rfl, h2, h3, h4, hs, by omega, db, da, lb, hba⟩
   ·have hlt' : xb.length ≤ xa.length := by simpa using hlt
    obtain ⟨g, cap, sp, e1, rfl, h2, h3, h4⟩ := hoa.block (by omega)
    cases e1
    refine EV.publishL [] ob [(g, 39, xa.map n64 ++ sp)] rfl hob fun G' hG' hs => ?_
    (try refine RUN ?_)
    exact ⟨g, ca, sp, ab, cb, xa, xb, ⟨rfl, rfl, rfl, trivial⟩, ⟨rfl, trivial⟩, rfl, h2, h3, h4, hs, by omega, da, db, la, hab⟩
 ·by_cases h1 : a < W64
  ·have h2 : ¬ b < W64 := fun h2 => h ⟨h1, h2⟩
   rw [more_lt h1]
   (try refine RUN ?_)
   rw [more_ge h2]
   (try refine RUN ?_)
   exact ⟨⟨rfl, rfl, rfl, rfl, trivial⟩, ⟨rfl, rfl, rfl, trivial⟩, rfl⟩
  ·rw [more_ge h1]
   (try refine RUN ?_)
   exact ⟨⟨rfl, rfl, rfl, rfl, trivial⟩, ⟨rfl, rfl, rfl, trivial⟩, rfl⟩
theorem natAdd_pv (a b : Nat) (ha : big a) (hb : big b) : PV Tryz.prog 71 #[natV a, natV b] (natV (a + b)) := by
 by_cases h : a < W64 ∧ b < W64
 ·exact natAdd_small a b h.1 h.2
 ·exact natAdd_big a b h ha hb
end Go.Proofs.YtjekjlaokjhhgaaGreatDoor
namespace Go.Proofs.YtjekjlaokjhhgaaGreatDoor
open Go.RowKit Go.Sort Go.Lib
set_option maxHeartbeats 6400000 in
set_option maxRecDepth 100000 in
theorem formatUint_any (u : Nat) (hu64 : u < 18446744073709551616) (w : World) (htab : Lib.TabIs Tryz.prog w "internal/strconv.uint64pow10" .u64 Lib.pow10Tab) :
  Calls Tryz.prog 116 #[.int .u64 (u : Int), .int .i64 10] w fun e w' => e = .returned (.string ⟨(Lib.decDigits u).toArray⟩) ∧ ∃ k os, w' = grow (w.drewN k) os := by
 by_cases hs : u < 100
 ·have hs' : (u : Int) < 100 := by omega
  go_enter Tryz.func116, Tryz.ntmps116
  go_wp2_with fail
  refine (Tryz.internal_strconv_small u hs _).mono ?_
  rintro e w' ⟨rfl, rfl⟩
  go_wp2
  go_ret
  exact ⟨rfl, 0, #[], by simp [World.drewN_zero]⟩
 ·have hs' : ¬ (u : Int) < 100 := by omega
  have hu1 : 1 ≤ u := by omega
  have hnd20 : Lib.nDigits u ≤ 20 := by have := Lib.numDigits_eq u hu1 hu64; split at this <;> omega
  have hal : Tryz.prog.arrayLen 180 = 24 := by kernel_rfl
  have hund : Tryz.prog.underlying 180 = some (.array 24 5) := by kernel_rfl
  have hsl1 : ∀ W, (Instr.sliceAt 180 (.pointer (some ⟨w.heap.size, 0, none⟩)) none (some (.int .i64 (Lib.nDigits u : Int))) none).run Tryz.prog W = .ok (.slice (some ⟨w.heap.size, 0, none⟩) (Lib.nDigits u) 24) W := fun W => by
   rw [run_sliceAt_array_h W 180 ⟨w.heap.size, 0, none⟩ (by simp [Program.arrayLen, Program.elem, hund]) .i64 (Lib.nDigits u : Int) (by omega) (by rw [hal]; omega)]
   rw [show Tryz.prog.elem 180 = 5 by kernel_rfl, hal]
   go_simp
  have hH0 := Lib.holds_zero0 w 180 (Lib.nDigits u) (by omega)
  have hfmt := Tryz.internal_strconv_formatBase10 w.heap.size 0 24 u (Array.replicate (Lib.nDigits u) 0) (w.alloc (.cells Lib.zeros24 180)) hH0 (by rw [Array.size_replicate]; exact Lib.lt_pow_nDigits u) hu64 (by rw [Array.size_replicate]; omega)
  rw [Array.size_replicate] at hfmt
  have HH0 := Lib.hid hH0
  clear hH0 hal hund
  go_enter Tryz.func116, Tryz.ntmps116
  go_wp2_with fail
  refine (Tryz.internal_strconv_numDigits u hu1 hu64 _ (Lib.tabIs_alloc htab _)).mono ?_
  rintro e w' ⟨rfl, rfl⟩
  go_wp2_with fail
  refine hfmt.mono ?_
  rintro e w' ⟨rfl, k, v', dk, rfl, hF⟩
  have hcv : (convert 22 9 (.slice (some ⟨w.heap.size, 0, none⟩) (Lib.nDigits u) 24)).run Tryz.prog ((putRow (fun (b : UInt8) => Value.int .u8 (b.toNat : Int)) (w.alloc (.cells Lib.zeros24 180)) w.heap.size 0 dk).drewN k) = .ok (.string ⟨(Lib.decDigits u).toArray⟩) ((putRow (fun (b : UInt8) => Value.int .u8 (b.toNat : Int)) (w.alloc (.cells Lib.zeros24 180)) w.heap.size 0 dk).drewN k) := by
   have h := run_convert_bytes_back (P := Tryz.prog) ((putRow (fun (b : UInt8) => Value.int .u8 (b.toNat : Int)) (w.alloc (.cells Lib.zeros24 180)) w.heap.size 0 dk).drewN k) 22 9 5 ⟨w.heap.size, 0, none⟩ 24 (Lib.decDigits u) (by kernel_rfl) (by kernel_rfl) (by kernel_rfl) (fun j hj => by
    rw [Lib.row_is_numeral hF j hj, Lib.add_plain, World.cell?_drewN]
    exact cell?_putRow (fun (b : UInt8) => Value.int .u8 (b.toNat : Int)) _ w.heap.size 0 _ dk HH0.out (by rw [hF.size, Array.size_replicate]) j (by rw [hF.size]; rw [Lib.decDigits_length] at hj; exact hj))
   rw [Lib.decDigits_length] at h
   exact h
  go_wp2
  go_ret
  obtain ⟨os, eo⟩ := Lib.fin_at w (.cells Lib.zeros24 180) dk k 0
  exact ⟨rfl, k, os, eo⟩
abbrev decS (n : Nat) : ByteArray := ⟨(Lib.decDigits n).toArray⟩
def powC : Array Value := (Lib.pow10Tab.map fun z => Value.int .u64 z).toArray
theorem tab_of {H : Hp} {W : World} (hT : H 3 = some powC) (hf : Fits H W) : Lib.TabIs Tryz.prog W "internal/strconv.uint64pow10" .u64 Lib.pow10Tab := by
 obtain ⟨T, fz, hW⟩ := hf _ _ hT
 have hg : Tryz.prog.globalNamed "internal/strconv.uint64pow10" = some 3 := by kernel_rfl
 unfold Lib.TabIs World.var?
 simp only [hg, Option.bind_some, hW]
 rfl
theorem below_grow (w : World) (k : Nat) (os : Array Obj) : Below w.heap.size w (grow (w.drewN k) os) := ⟨rfl, rfl, rfl, Lib.size_grow w k os, fun j hj => by
  show (w.heap ++ os)[j]? = w.heap[j]?
  exact Array.getElem?_append_left hj⟩
theorem fmt_pc {H : Hp} (u : Nat) (hu : u < 18446744073709551616) (hT : H 3 = some powC) : PC Tryz.prog 85 #[.int .u64 (u : Int), .int .i64 10] H fun r _ => r = .string (decS u) := by
 have h1 : PC Tryz.prog 116 #[.int .u64 (u : Int), .int .i64 10] H fun r _ => r = .string (decS u) :=
  PC.ofPure (cOf Tryz.func116 rfl (by kernel_rfl)) fun W hf _ => (formatUint_any u hu W (tab_of hT hf)).mono fun e W' ⟨he, k, os, hw⟩ => ⟨he, by rw [hw]; exact below_grow W k os⟩
 refine PC.body Tryz.tab_ok Tryz.func85 rfl (by kernel_rfl) Tryz.ntmps85 rfl rfl ?_
 repeat (first | refine RUN ?_ | refine CV (h1) ?_ | refine CE (h1) ?_)
 rfl
end Go.Proofs.YtjekjlaokjhhgaaGreatDoor
namespace Go.Proofs.YtjekjlaokjhhgaaGreatDoor
open Go.RowKit
structure SubInv (x y cur : List Nat) (i c : Nat) : Prop where
 len : cur.length = x.length
 dig : Dig W64 cur
 keep : ∀ k, i ≤ k → cur.getD k 0 = x.getD k 0
 sum : val W64 (cur.take i) + val W64 (y.take i) = val W64 (x.take i) + c * W64 ^ i
 carry : c ≤ 1
theorem sub_sum {s w c u c' p B vc vy vx : Nat} (h1 : s + w + c = u + c' * B) (hs : vc + vy = vx + c * p) : vc + s * p + (vy + w * p) = vx + u * p + c' * (p * B) := by
 have h5 : s * p + w * p + c * p = u * p + c' * (p * B) := by
  have := congrArg (· * p) h1
  simp only [Nat.add_mul] at this
  rw [this, Nat.mul_assoc c' B p, Nat.mul_comm B p]
 generalize s * p = A1 at *
 generalize w * p = A2 at *
 generalize c * p = A3 at *
 generalize u * p = A4 at *
 generalize c' * (p * B) = A5 at *
 omega
theorem getD_set_l (l : List Nat) (i x : Nat) (h : i < l.length) : (l.set i x).getD i 0 = x := by
 rw [List.getD_eq_getElem?_getD, List.getElem?_set_self h]; rfl
theorem SubInv.step {x y cur : List Nat} {i c : Nat} (h : SubInv x y cur i c) (hi : i < x.length) (hy : Dig W64 y) : SubInv x y (cur.set i (subLo (cur.getD i 0) (y.getD i 0) c)) (i + 1) (subHi (cur.getD i 0) (y.getD i 0) c) := by
 have hil : i < cur.length := by rw [h.len]; exact hi
 have hx : cur.getD i 0 < W64 := by simp only [List.getD_eq_getElem?_getD, List.getElem?_eq_getElem hil, Option.getD_some]; exact h.dig.get i hil
 have hyi : y.getD i 0 < W64 := by
  by_cases hl : i < y.length
  ·simp only [List.getD_eq_getElem?_getD, List.getElem?_eq_getElem hl, Option.getD_some]; exact hy.get i hl
  ·simp [Nat.not_lt.1 hl]; decide
 obtain ⟨h1, h2, h3⟩ := sub_parts hx hyi h.carry
 refine ⟨by simp [h.len], h.dig.set _ _ h2, fun k hk => ?_, ?_, h3⟩
 ·rw [← h.keep k (by omega)]
  simp [List.getD_eq_getElem?_getD, List.getElem?_set_ne (show i ≠ k by omega)]
 ·have e1 : val W64 ((cur.set i (subLo (cur.getD i 0) (y.getD i 0) c)).take (i + 1)) = val W64 (cur.take i) + subLo (cur.getD i 0) (y.getD i 0) c * W64 ^ i := by
   rw [val_take_getD, List.take_set_of_le (Nat.le_refl _), getD_set_l _ _ _ hil]
  have e2 := val_take_getD x i
  have e3 := val_take_getD y i
  have e4 := h.keep i (Nat.le_refl _)
  rw [e1, e2, e3, ← e4, Nat.pow_succ]
  exact sub_sum h1 h.sum
theorem natSub_less (a b : Nat) (h : a < b) (ha : big a) (hb : big b) : PV Tryz.prog 92 #[natV a, natV b] (.tuple #[natV 0, .bool false]) := by
 refine PV.of_pc ?_
 rw [natV_small (n := 0) (by decide)]
 refine PC.body Tryz.tab_ok Tryz.func92 rfl (by kernel_rfl) Tryz.ntmps92 rfl rfl ?_
 repeat (first | refine RUN ?_ | refine CV (natCmp_pv _ _ ha hb) ?_ | refine CE (natCmp_pv _ _ ha hb) ?_)
 rw [show decide (ordN a b < 0) = true by rw [ordN_lt h]; rfl]
 (try refine RUN ?_)
 rfl
theorem natSub_small (a b : Nat) (h : b ≤ a) (ha : a < W64) : PV Tryz.prog 92 #[natV a, natV b] (.tuple #[natV (a - b), .bool true]) := by
 have hb : b < W64 := by omega
 have h1 : big a := Nat.le_trans (bl_le (k := 64) (by rw [← W64_pow]; exact ha)) (by omega)
 have h2 : big b := Nat.le_trans (bl_le (k := 64) (by rw [← W64_pow]; exact hb)) (by omega)
 refine PV.of_pc ?_
 rw [natV_small (n := a - b) (by omega)]
 refine PC.body Tryz.tab_ok Tryz.func92 rfl (by kernel_rfl) Tryz.ntmps92 rfl rfl ?_
 repeat (first | refine RUN ?_ | refine CV (natCmp_pv _ _ h1 h2) ?_ | refine CE (natCmp_pv _ _ h1 h2) ?_)
 rw [show decide (ordN a b < 0) = false by rcases Nat.lt_or_eq_of_le h with h | h; (rw [ordN_gt h]; rfl); (subst h; simp [ordN])]
 (try refine RUN ?_)
 rw [more_lt ha]
 (try refine RUN ?_)
 rw [lo_of_lt ha, lo_of_lt hb, show IntKind.u64.wrap ((a : Int) - (b : Int)) = ((a - b : Nat) : Int) by rw [wrapU64]; simp only [W64_val] at *; omega]
theorem natSub_big (a b : Nat) (h : b ≤ a) (h0 : ¬ a < W64) (ha : big a) (hb : big b) : PV Tryz.prog 92 #[natV a, natV b] (.tuple #[natV (a - b), .bool true]) := by
 refine PV.of_pc ?_
 refine PC.body Tryz.tab_ok Tryz.func92 rfl (by kernel_rfl) Tryz.ntmps92 rfl rfl ?_
 repeat (first | refine RUN ?_ | refine CV (natCmp_pv _ _ ha hb) ?_ | refine CE (natCmp_pv _ _ ha hb) ?_)
 rw [show decide (ordN a b < 0) = false by rcases Nat.lt_or_eq_of_le h with h | h; (rw [ordN_gt h]; rfl); (subst h; simp [ordN])]
 (try refine RUN ?_)
 rw [more_ge h0]
 (try refine RUN ?_)
 have hpa := fun G => words_po a ha G
 have hpb := fun G => words_po b hb G
 apply EV.drawn 6 (by kernel_rfl) (by kernel_rfl)
 intro x y
 refine' DJ.val Tryz.tab_ok rfl rfl rfl rfl rfl ?_; rotate_left
 refine' DJ.callO rfl rfl rfl rfl rfl (hpa gH).can (fun G _ _ => hpa G) ?_; rotate_left
 refine' DJ.val Tryz.tab_ok rfl rfl rfl rfl rfl ?_; rotate_left
 refine' DJ.callO rfl rfl rfl rfl rfl (hpb gH).can (fun G _ _ => hpb G) ?_; rotate_left
 refine' DJ.copy (0 + 1) (.inr rfl) rfl rfl rfl id rfl (by kernel_rfl) ?_; rotate_left
 refine' DJ.copy (0 + 1 + 1 + 1) (.inr rfl) rfl rfl rfl id rfl (by kernel_rfl) ?_; rotate_left
 refine DJ.nil (fun G hG hF => ?_)
 case hS => rfl
 case hS2 => rfl
 obtain ⟨hob, hoa, _⟩ := hF
 change OwnL _ _ _ _ _ _ at hob hoa
 change EVL _ _ _ _ ((7, .v (x (0 + 1 + 1 + 1))) :: (6, .v (x (0 + 1))) :: _) _ _ _
 generalize x (0 + 1 + 1 + 1) = vb at *
 generalize x (0 + 1) = va at *
 generalize y (0 + 1 + 1 + 1) = ob at *
 generalize y (0 + 1) = oa at *
 obtain ⟨ab, cb, rfl⟩ := hob.val
 have la := dig_len_big ha
 have vla := dig_val W64_two a
 have vlb := dig_val W64_two b
 have da := (dig_norm W64_two a).1
 have db := (dig_norm W64_two b).1
 have hlen : (dig W64 b).length ≤ (dig W64 a).length := dig_len_mono W64_two h
 have pos : 0 < (dig W64 a).length := by
  rcases Nat.eq_zero_or_pos (dig W64 a).length with e | e
  ·have h1 := dig_len_zero W64_two e
   exact absurd (by rw [h1]; decide) h0
  ·exact e
 obtain ⟨g, cap, sp, rfl, rfl, h2, h3, h4⟩ := hoa.block pos
 generalize dig W64 a = xa at *
 generalize dig W64 b = xb at *
 clear hpa hpb ha hb hoa
 refine EVL.publishL [] ob [(g, 39, xa.map n64 ++ sp)] rfl hob fun G1 hG1 hs => ?_
 (try refine RUN ?_)
 refine EV.loop (ι := Nat × Nat × List Nat) (fun q => [(4, .p 4 0), (6, .v (.slice (some ⟨g, 0, none⟩) xa.length cap)), (7, .v (.slice ab xb.length cb)), (8, .v (n64 q.2.1)), (30, .v (.int .i64 (xa.length : Int))), (31, .v (.int .i64 (q.1 : Int)))]) (fun _ => [(4, 41, Tryz.te41.zero)]) (fun q => [(g, 39, q.2.2.map n64 ++ sp)])
  (fun q G => q.1 ≤ xa.length ∧ SubInv xa xb q.2.2 q.1 q.2.1 ∧ SlN n64 G (.slice ab xb.length cb) xb) (fun q => xa.length - q.1) (0, 0, xa) ⟨rfl, rfl, rfl, rfl, rfl, rfl, trivial⟩ ⟨rfl, trivial⟩ rfl (fun _ => rfl) ⟨Nat.zero_le _, ⟨rfl, da, fun _ _ => rfl, by simp [val], Nat.zero_le _⟩, hs⟩ ?_
 rintro ⟨i, c, cur⟩ G2 hG2 ⟨hi, hinv, hs2⟩
 dsimp only at hi hinv
 (try refine RUN ?_)
 by_cases hlt : i < xa.length
 ·rw [show decide ((i : Int) < (xa.length : Int)) = true by simpa using hlt]
  (try refine RUN ?_)
  refine EV.meet (fun env' bx' H' => SubL env' [(4, .p 4 0), (6, .v (.slice (some ⟨g, 0, none⟩) xa.length cap)), (7, .v (.slice ab xb.length cb)), (8, .v (n64 c)), (30, .v (.int .i64 (xa.length : Int))), (31, .v (.int .i64 (i : Int))), (9, .v (.int .i64 (i : Int))), (10, .v (n64 (xb.getD i 0)))] ∧ SubX bx' [(4, 41, Tryz.te41.zero)] ∧ H'.ow = [(g, 39, cur.map n64 ++ sp)] ∧ G2.Le H'.ro) ?_ ?_
  ·rintro env' bx' ⟨G3, ow3, base3⟩ hbsbase3 ⟨he, hbx, h1, hle⟩
   obtain rfl : base3 = ⟨fun _ => none, []⟩ := hbsbase3
   refine EV.less _ _ he hbx rfl ?_
   have h1' : ow3 = [(g, 39, cur.map n64 ++ sp)] := h1
   subst h1'
   have hil : i < cur.length := by rw [hinv.len]; exact hlt
   have hci : (cur.map n64 ++ sp)[i]? = some (n64 (cur.getD i 0)) := by
    rw [List.getElem?_append_left (by simpa using hil)]; simp [hil]
   (try refine RUN ?_)
   refine EVL.ofVal (ValOk.idxP1 Tryz.tab_ok rfl rfl rfl rfl rfl rfl rfl rfl i rfl hlt) rfl rfl rfl fun G4 hG4 => ?_
   refine EVL.load1 Tryz.tab_ok rfl rfl rfl rfl rfl rfl rfl rfl 0 rfl hci ?_
   (try refine RUN ?_)
   refine EVL.ext rfl rfl rfl rfl rfl (fun W => sub64_run (cur.getD i 0) (xb.getD i 0) c W hinv.carry) ?_
   (try refine RUN ?_)
   refine EVL.ofVal (ValOk.idxP1 Tryz.tab_ok rfl rfl rfl rfl rfl rfl rfl rfl i rfl hlt) rfl rfl rfl fun G5 hG5 => ?_
   refine EVL.set1 Tryz.tab_ok rfl rfl rfl rfl rfl rfl rfl rfl rfl rfl (by simp; omega) ?_
   (try refine RUN ?_)
   refine ⟨(i + 1, subHi (cur.getD i 0) (xb.getD i 0) c, cur.set i (subLo (cur.getD i 0) (xb.getD i 0) c)), ⟨rfl, rfl, rfl, rfl, rfl, ?_, trivial⟩, ⟨rfl, trivial⟩, ?_, ⟨by dsimp only; omega, hinv.step hlt db, hs2.mono (hle.trans (hG4.trans hG5))⟩, hle.trans (hG4.trans hG5), by dsimp only; omega⟩
   ·have e : IntKind.i64.wrap ((i : Int) + 1) = ((i + 1 : Nat) : Int) := by rw [IntKind.wrap_i64]; omega
    rw [e]; rfl
   ·dsimp only
    rw [List.set_append_left _ _ (by simpa using hil), List.map_set]
  ·by_cases hly : i < xb.length
   ·rw [show decide ((i : Int) < (xb.length : Int)) = true by simpa using hly]
    have hcy : (xb.map n64)[i]? = some (n64 (xb.getD i 0)) := by simp [hly]
    (try refine RUN ?_)
    refine EVL.ofVal (ValOk.idx1 Tryz.tab_ok rfl rfl rfl rfl rfl rfl rfl rfl hs2 i rfl hly hcy) rfl rfl rfl fun G4 hG4 => ?_
    (try refine RUN ?_)
    exact ⟨⟨rfl, rfl, rfl, rfl, rfl, rfl, rfl, rfl, trivial⟩, ⟨rfl, trivial⟩, rfl, hG4⟩
   ·rw [show decide ((i : Int) < (xb.length : Int)) = false by simpa using hly]
    (try refine RUN ?_)
    refine ⟨⟨rfl, rfl, rfl, rfl, rfl, rfl, rfl, ?_, trivial⟩, ⟨rfl, trivial⟩, rfl, Hp.Le.refl _⟩
    rw [show xb.getD i 0 = 0 by simp [Nat.not_lt.1 hly]]
    rfl
 ·rw [show decide ((i : Int) < (xa.length : Int)) = false by simpa using hlt]
  obtain rfl : i = xa.length := by omega
  have hcl := hinv.len
  have hfin := hinv.sum
  rw [List.take_of_length_le (by omega), List.take_of_length_le (by omega), List.take_of_length_le (by omega), vla, vlb] at hfin
  have hown : OwnL 39 1 (.slice (some ⟨g, 0, none⟩) xa.length cap) xa.length (cur.map n64) [(g, 39, cur.map n64 ++ sp)] :=
   ⟨by simp [hcl], .inr ⟨g, cap, sp, rfl, rfl, by rw [← h2]; simp [hcl], h3, h4⟩⟩
  have hcv := val_lt hinv.dig
  rw [hcl] at hcv
  have hc0 : c = 0 := by
   rcases Nat.eq_zero_or_pos c with e | e
   ·exact e
   ·have : W64 ^ xa.length * 1 ≤ W64 ^ xa.length * c := Nat.mul_le_mul_left _ e
    rw [Nat.mul_comm c] at hfin
    omega
  rw [hc0] at hfin
  refine EV.publishL [] [(g, 39, cur.map n64 ++ sp)] [] rfl hown fun G' hG' hs' => ?_
  have hl : SlN n64 G' (.slice (some ⟨g, 0, none⟩) xa.length cap) cur := by unfold SlN; rw [hcl]; exact hs'
  have hf := fromWords_pc hl hinv.dig (by omega)
  rw [show val W64 cur = a - b by omega] at hf
  (try refine RUN ?_)
  refine EVL.call rfl rfl rfl rfl rfl hf ?_
  rintro v' H' rfl hle
  (try refine RUN ?_)
  rfl
theorem natSub_pv (a b : Nat) (ha : big a) (hb : big b) : PV Tryz.prog 92 #[natV a, natV b] (.tuple #[natV (a - b), .bool (decide (b ≤ a))]) := by
 by_cases h : b ≤ a
 ·rw [decide_eq_true h]
  by_cases h0 : a < W64
  ·exact natSub_small a b h h0
  ·exact natSub_big a b h h0 ha hb
 ·rw [decide_eq_false h, show a - b = 0 by omega]
  exact natSub_less a b (by omega) ha hb
theorem bl_zero_iff (n : Nat) : ((bl n : Int) == 0) = decide (n = 0) := by
 by_cases h : n = 0
 ·subst h; rw [bl_zero]; rfl
 ·have : bl n ≠ 0 := fun e => h (bl_eq_zero.1 e)
  simp [h]; omega
theorem four_new (w w1 : World) (o1 o2 o3 o4 : Obj) (n : Nat) (hn : n = w.heap.size) (hb : Below ((((w.alloc o1).alloc o2).alloc o3).alloc o4).heap.size ((((w.alloc o1).alloc o2).alloc o3).alloc o4) w1) :
  w1.heap[n]? = some o1 ∧ w1.heap[n + 1]? = some o2 ∧ w1.heap[n + 1 + 1]? = some o3 ∧ w1.heap[n + 1 + 1 + 1]? = some o4 ∧ n + 4 ≤ w1.heap.size := by
 subst hn
 have hs := hb.size
 simp at hs
 have a2 : ((w.alloc o1).alloc o2).heap[w.heap.size + 1]? = some o2 := by have := heap_alloc_new (w.alloc o1) o2; simpa using this
 have a3 : (((w.alloc o1).alloc o2).alloc o3).heap[w.heap.size + 1 + 1]? = some o3 := by have := heap_alloc_new ((w.alloc o1).alloc o2) o3; simpa using this
 have a4 : ((((w.alloc o1).alloc o2).alloc o3).alloc o4).heap[w.heap.size + 1 + 1 + 1]? = some o4 := by have := heap_alloc_new (((w.alloc o1).alloc o2).alloc o3) o4; simpa using this
 refine ⟨?_, ?_, ?_, ?_, by omega⟩
 ·rw [hb.block _ (by simp <;> omega), Below.heap_alloc _ _ _ (by simp <;> omega), Below.heap_alloc _ _ _ (by simp <;> omega), Below.heap_alloc _ _ _ (by simp)]; exact heap_alloc_new w o1
 ·rw [hb.block _ (by simp <;> omega), Below.heap_alloc _ _ _ (by simp <;> omega), Below.heap_alloc _ _ _ (by simp)]; exact a2
 ·rw [hb.block _ (by simp <;> omega), Below.heap_alloc _ _ _ (by simp)]; exact a3
 ·rw [hb.block _ (by simp)]; exact a4
theorem cell_at {W : World} {b : Nat} {cs : Array Value} {T : TypeId} (h : W.heap[b]? = some (.cells cs T (0, 0))) (j : Nat) : W.cell? ⟨b, j, none⟩ = cs[j]? := by
 rw [cell_of_row W b j cs T (0, 0) h]
theorem free_at {W : World} {b : Nat} {cs : Array Value} {T : TypeId} (h : W.heap[b]? = some (.cells cs T (0, 0))) (j : Nat) : W.frozen? ⟨b, j, none⟩ = false := by
 simp [World.frozen?, h]
theorem two_set {W : World} {b : Nat} {x y x' y' : Value} {T : TypeId} (h : W.heap[b]? = some (.cells #[x, y] T (0, 0))) : ((W.setCell ⟨b, 0, none⟩ x').setCell ⟨b, 1, none⟩ y').heap[b]? = some (.cells #[x', y'] T (0, 0)) := by
 simp [World.setCell, Array.getElem?_modify, h]
theorem two_other {W : World} {b c : Nat} {x' y' : Value} (hne : b ≠ c) : ((W.setCell ⟨b, 0, none⟩ x').setCell ⟨b, 1, none⟩ y').heap[c]? = W.heap[c]? := by
 simp [World.setCell, Array.getElem?_modify, hne]
theorem two_kept (W : World) (b : Nat) (x' y' : Value) : Kept (fun k => k = b) W ((W.setCell ⟨b, 0, none⟩ x').setCell ⟨b, 1, none⟩ y') :=
 ⟨rfl, rfl, rfl, by simp [World.setCell], fun k _ hk => two_other (fun e => hk e.symm)⟩
set_option maxRecDepth 100000 in
set_option maxHeartbeats 400000 in
theorem div_one (a b : Nat) (w : World) (h : b ≠ 0) (ha : a < W64) (hb : b < W64) :
  Calls Tryz.prog 93 #[natV a, natV b] w fun e w' => e = .returned (.tuple #[natV (a / b), natV (a % b), .bool true]) ∧ Below w.heap.size w w' := by
 have h2 : big b := Nat.le_trans (bl_le (k := 64) (by rw [← W64_pow]; exact hb)) (by omega)
 have q1 : a / b < W64 := Nat.lt_of_le_of_lt (Nat.div_le_self a b) ha
 have q2 : a % b < W64 := Nat.lt_of_le_of_lt (Nat.mod_le a b) ha
 have hz : (b : Int) ≠ 0 := by omega
 have hbits := fun w => bits_any b w h2
 rw [natV_small hb] at hbits
 rw [natV_small ha, natV_small hb, natV_small q1, natV_small q2]
 have e1 : ((bl b : Int) == 0) = false := by rw [bl_zero_iff, decide_eq_false h]
 have HB := hid hbits
 clear hbits h2
 go_enter Tryz.func93, Tryz.ntmps93
 go_wp2_with fail
 refine (HB.out _).mono ?_
 rintro e w1 ⟨rfl, hb1⟩
 obtain ⟨n, hn⟩ : ∃ n, n = w.heap.size := ⟨_, rfl⟩
 obtain ⟨r1, r2, r3, r4, hs⟩ := four_new w w1 _ _ _ _ n hn hb1
 have hbw : Below w.heap.size w w1 := ((((((Below.refl _ w).alloc (Nat.le_refl _) _).alloc (by simp) _).alloc (by simp; omega) _).alloc (by simp; omega) _)).trans (hb1.mono (by simp; omega))
 rw [← hn]
 have HB1 := hid (And.intro hb1 (And.intro hn hbw))
 clear hb1 hn hbw
 have c10 := cell_at r1 0
 have c11 := cell_at r1 1
 have c20 := cell_at r2 0
 have c21 := cell_at r2 1
 have c30 := cell_at r3 0
 have c31 := cell_at r3 1
 have c40 := cell_at r4 0
 have c41 := cell_at r4 1
 have f30 := free_at r3 0
 have f31 := free_at r3 1
 have f40 := free_at r4 0
 have f41 := free_at r4 1
 simp only [List.getElem?_toArray, List.getElem?_cons_zero, List.getElem?_cons_succ] at c10 c11 c20 c21 c30 c31 c40 c41
 have R := hid (And.intro r1 (And.intro r2 (And.intro r3 r4)))
 clear r1 r2 r3 r4
 go_wp2_with fail
 go_region
 go_wp2
 have e2 : IntKind.u64.wrap ((a : Int) / (b : Int)) = ((a / b : Nat) : Int) := by
  rw [show ((a : Int) / (b : Int)) = ((a / b : Nat) : Int) by simp, wrapU64]
  simp only [W64_val] at q1
  generalize a / b = q at *
  omega
 have e3 : ((a : Int) % (b : Int)) = ((a % b : Nat) : Int) := by simp
 rw [e2, e3]
 obtain ⟨r1, r2, r3, r4⟩ := R.out
 obtain ⟨hb1, hn, hbw⟩ := HB1.out
 have k3 := two_kept w1 (n + 1 + 1) (.int .u64 ((a / b : Nat) : Int)) (.string ⟨#[]⟩)
 have s3 := two_set (x' := .int .u64 ((a / b : Nat) : Int)) (y' := .string ⟨#[]⟩) r3
 have s4 := (k3.block _ (lt_of_block r4) (by omega)).trans r4
 generalize ((w1.setCell ⟨n + 1 + 1, 0, none⟩ (.int .u64 ((a / b : Nat) : Int))).setCell ⟨n + 1 + 1, 1, none⟩ (.string ⟨#[]⟩)) = w2 at *
 have k4 := two_kept w2 (n + 1 + 1 + 1) (.int .u64 ((a % b : Nat) : Int)) (.string ⟨#[]⟩)
 have s5 := two_set (x' := .int .u64 ((a % b : Nat) : Int)) (y' := .string ⟨#[]⟩) s4
 have s6 := (k4.block _ (lt_of_block s3) (by omega)).trans s3
 generalize ((w2.setCell ⟨n + 1 + 1 + 1, 0, none⟩ (.int .u64 ((a % b : Nat) : Int))).setCell ⟨n + 1 + 1 + 1, 1, none⟩ (.string ⟨#[]⟩)) = w3 at *
 have t30 := cell_at s6 0
 have t31 := cell_at s6 1
 have t40 := cell_at s5 0
 have t41 := cell_at s5 1
 simp only [List.getElem?_toArray, List.getElem?_cons_zero, List.getElem?_cons_succ] at t30 t31 t40 t41
 refine bodyPost_ret (v := .tuple #[.agg #[.int .u64 ((a / b : Nat) : Int), .string ⟨#[]⟩], .agg #[.int .u64 ((a % b : Nat) : Int), .string ⟨#[]⟩], .bool true]) (by simp [results, Tryz.results93, go_sem, t30, t31, t40, t41]) rfl ⟨rfl, ?_⟩
 have hb3 : Below w.heap.size w w3 := by
  refine hbw.trans ((k3.below _ hbw.size fun j hj e => by omega).trans (k4.below _ ?_ fun j hj e => by omega))
  have := k3.size; have := hbw.size; omega
 exact ⟨hb3.os, hb3.tape, hb3.output, hb3.size, hb3.block⟩
theorem more_isEmpty (n : Nat) : (moreB n).toList.isEmpty = decide (n < W64) := by
 by_cases h : n < W64
 ·rw [moreB_empty h, decide_eq_true h]; simp
 ·rw [moreB_ne h, decide_eq_false h]
set_option maxRecDepth 100000 in
set_option maxHeartbeats 400000 in
theorem div_less (a b : Nat) (w : World) (h : a < b) (hs : ¬ (a < W64 ∧ b < W64)) (ha : big a) (h2 : big b) :
  Calls Tryz.prog 93 #[natV a, natV b] w fun e w' => e = .returned (.tuple #[natV 0, natV a, .bool true]) ∧ Below w.heap.size w w' := by
 have hbits := fun w => bits_any b w h2
 have hcmp := fun w => cmp_any a b w ha h2
 rw [ordN_lt h] at hcmp
 have e1 : ((bl b : Int) == 0) = false := by rw [bl_zero_iff, decide_eq_false (by omega)]
 have hm : ((moreB a).toList.isEmpty = true ∧ (moreB b).toList.isEmpty = false) ∨ (moreB a).toList.isEmpty = false := by
  rw [more_isEmpty, more_isEmpty]
  by_cases h1 : a < W64
  ·exact .inl ⟨decide_eq_true h1, decide_eq_false fun h2 => hs ⟨h1, h2⟩⟩
  ·exact .inr (decide_eq_false h1)
 rw [natV_small (show 0 < W64 by decide)]
 unfold natV at *
 generalize lo a = la at *
 generalize lo b = lb at *
 generalize moreB a = ma at *
 generalize moreB b = mb at *
 have HB := hid (And.intro hbits hcmp)
 clear hbits hcmp h2 ha
 go_enter Tryz.func93, Tryz.ntmps93
 go_wp2_with fail
 refine (HB.out.1 _).mono ?_
 rintro e w1 ⟨rfl, hb1⟩
 obtain ⟨n, hn⟩ : ∃ n, n = w.heap.size := ⟨_, rfl⟩
 obtain ⟨r1, r2, r3, r4, hs⟩ := four_new w w1 _ _ _ _ n hn hb1
 have hbw : Below w.heap.size w w1 := ((((((Below.refl _ w).alloc (Nat.le_refl _) _).alloc (by simp) _).alloc (by simp; omega) _).alloc (by simp; omega) _)).trans (hb1.mono (by simp; omega))
 rw [← hn]
 have HB1 := hid (And.intro hb1 (And.intro hn hbw))
 clear hb1 hn hbw
 have c10 := cell_at r1 0
 have c11 := cell_at r1 1
 have c20 := cell_at r2 0
 have c21 := cell_at r2 1
 have c30 := cell_at r3 0
 have c31 := cell_at r3 1
 have c40 := cell_at r4 0
 have c41 := cell_at r4 1
 have f30 := free_at r3 0
 have f31 := free_at r3 1
 have f40 := free_at r4 0
 have f41 := free_at r4 1
 simp only [List.getElem?_toArray, List.getElem?_cons_zero, List.getElem?_cons_succ] at c10 c11 c20 c21 c30 c31 c40 c41
 have R := hid (And.intro r1 (And.intro r2 (And.intro r3 r4)))
 clear r1 r2 r3 r4
 clear hs
 rcases hm with ⟨m1, m2⟩ | m1
 all_goals
  go_wp2_with fail
  refine (HB.out.2 _).mono ?_
  rintro e w2 ⟨rfl, hb2⟩
  clear c10 c11 c20 c21 c30 c31 c40 c41 f30 f31 f40 f41
  obtain ⟨r1, r2, r3, r4⟩ := R.out
  obtain ⟨hb1, hn, hbw⟩ := HB1.out
  have r1 := (hb2.block _ (lt_of_block r1)).trans r1
  have r2 := (hb2.block _ (lt_of_block r2)).trans r2
  have r3 := (hb2.block _ (lt_of_block r3)).trans r3
  have r4 := (hb2.block _ (lt_of_block r4)).trans r4
  have hbw := hbw.trans (hb2.mono hbw.size)
  have HB2 := hid (And.intro hn hbw)
  clear R HB1 hb1 hn hbw hb2
  have c10 := cell_at r1 0
  have c11 := cell_at r1 1
  have c20 := cell_at r2 0
  have c21 := cell_at r2 1
  have c30 := cell_at r3 0
  have c31 := cell_at r3 1
  have c40 := cell_at r4 0
  have c41 := cell_at r4 1
  have f30 := free_at r3 0
  have f31 := free_at r3 1
  have f40 := free_at r4 0
  have f41 := free_at r4 1
  simp only [List.getElem?_toArray, List.getElem?_cons_zero, List.getElem?_cons_succ] at c10 c11 c20 c21 c30 c31 c40 c41
  have R := hid (And.intro r1 (And.intro r2 (And.intro r3 r4)))
  clear r1 r2 r3 r4
  go_wp2_with fail
  go_region
  go_wp2
  obtain ⟨r1, r2, r3, r4⟩ := R.out
  obtain ⟨hn, hbw⟩ := HB2.out
  have k3 := two_kept w2 (n + 1 + 1) (.int .u64 0) (.string ⟨#[]⟩)
  have s3 := two_set (x' := .int .u64 0) (y' := .string ⟨#[]⟩) r3
  have s4 := (k3.block _ (lt_of_block r4) (by omega)).trans r4
  generalize ((w2.setCell ⟨n + 1 + 1, 0, none⟩ (.int .u64 0)).setCell ⟨n + 1 + 1, 1, none⟩ (.string ⟨#[]⟩)) = w3 at *
  have k4 := two_kept w3 (n + 1 + 1 + 1) (.int .u64 (la : Int)) (.string ma)
  have s5 := two_set (x' := .int .u64 (la : Int)) (y' := .string ma) s4
  have s6 := (k4.block _ (lt_of_block s3) (by omega)).trans s3
  generalize ((w3.setCell ⟨n + 1 + 1 + 1, 0, none⟩ (.int .u64 (la : Int))).setCell ⟨n + 1 + 1 + 1, 1, none⟩ (.string ma)) = w4 at *
  have t30 := cell_at s6 0
  have t31 := cell_at s6 1
  have t40 := cell_at s5 0
  have t41 := cell_at s5 1
  simp only [List.getElem?_toArray, List.getElem?_cons_zero, List.getElem?_cons_succ] at t30 t31 t40 t41
  refine bodyPost_ret (v := .tuple #[.agg #[.int .u64 0, .string ⟨#[]⟩], .agg #[.int .u64 (la : Int), .string ma], .bool true]) (by simp [results, Tryz.results93, go_sem, t30, t31, t40, t41]) rfl ⟨rfl, ?_⟩
  have hb3 : Below w.heap.size w w4 := by
   refine hbw.trans ((k3.below _ hbw.size fun j hj e => by omega).trans (k4.below _ ?_ fun j hj e => by omega))
   have := k3.size; have := hbw.size; omega
  exact ⟨hb3.os, hb3.tape, hb3.output, hb3.size, hb3.block⟩
theorem pc_new2 {α : Type} {enc : α → Value} {H : Hp} {W W' : World} (hf : Fits H W) (hb : Below W.heap.size W W') {g h : Nat} (hg : W.heap.size ≤ g) (hgh : g < h) {l m : List α} (hB : Blk enc W' g l) (hC : Blk enc W' h m) :
  ∃ H' : Hp, H.Le H' ∧ Fits H' W' ∧ Nw H W.heap.size H' W' ∧ SlN enc H' (.slice (some ⟨g, 0, none⟩) l.length l.length) l ∧ SlN enc H' (.slice (some ⟨h, 0, none⟩) m.length m.length) m := by
 have hn : ∀ k, W.heap.size ≤ k → H k = none := fun k hk => by
  cases hc : H k with
  | none => rfl
  | some c => have := hf.lt (b := k) (by rw [hc]; simp); omega
 obtain ⟨T, hT⟩ := hB
 obtain ⟨U, hU⟩ := hC
 refine ⟨(H.put g (cellsOf enc l)).put h (cellsOf enc m), fun b c e => ?_, fun b c e => ?_, fun b c e => ?_, ⟨by simp, .inr ⟨g, 0, l.length, cellsOf enc l, rfl, Nat.le_refl _, ?_, fun j x hj => by simpa [cellsOf] using hj⟩⟩, ⟨by simp, .inr ⟨h, 0, m.length, cellsOf enc m, rfl, Nat.le_refl _, ?_, fun j x hj => by simpa [cellsOf] using hj⟩⟩⟩
 ·have h1 : b ≠ g := fun e' => by subst e'; rw [hn _ hg] at e; cases e
  have h2 : b ≠ h := fun e' => by subst e'; rw [hn _ (by omega)] at e; cases e
  simp only [Hp.put, if_neg h1, if_neg h2]; exact e
 ·simp only [Hp.put] at e
  split at e
  ·rename_i e'; subst e'; cases e; exact ⟨U, (0, 0), hU⟩
  ·split at e
   ·rename_i e'; subst e'; cases e; exact ⟨T, (0, 0), hT⟩
   ·exact hf.below hb b c e
 ·simp only [Hp.put] at e
  split at e
  ·rename_i e'; subst e'; cases e; exact .inr ⟨by omega, U, hU⟩
  ·split at e
   ·rename_i e'; subst e'; cases e; exact .inr ⟨hg, T, hT⟩
   ·exact .inl e
 ·simp only [Hp.put, if_neg (show g ≠ h by omega), if_true]
 ·simp only [Hp.put, if_true]
theorem sln_pre {H : Hp} {g cap : Nat} {q : List Nat} (h : H g = some (q.map n64).toArray) (k : Nat) (hk : k ≤ q.length) (hc : k ≤ cap) : SlN n64 H (.slice (some ⟨g, 0, none⟩) k cap) (q.take k) := by
 have e : (q.take k).length = k := by simp; omega
 unfold SlN
 rw [e]
 refine ⟨by simp; omega, .inr ⟨g, 0, cap, _, rfl, hc, h, fun j x hj => ?_⟩⟩
 rw [List.getElem?_map, List.getElem?_take] at hj
 split at hj
 ·simpa using hj
 ·cases hj
theorem words_full (n : Nat) (h : n ≠ 0) (hn : big n) (H : Hp) : PO Tryz.prog 84 #[natV n] H fun v ow => ∃ g, v = .slice (some ⟨g, 0, none⟩) (dig W64 n).length (dig W64 n).length ∧ ow = [(g, 39, (dig W64 n).map n64)] := by
 refine ⟨(cOf Tryz.func84 rfl (by kernel_rfl)), fun W hW _ => (words_any n W h hn).mono fun e W' ⟨g, hg, he, hB, hb⟩ => ?_⟩
 refine ⟨_, [(g, 39, (dig W64 n).map n64)], he, ⟨g, rfl, rfl⟩, ⟨by simp, fun b T cs hm => ?_⟩, hb⟩
 simp at hm
 obtain ⟨rfl, rfl, rfl⟩ := hm
 exact ⟨hg, hB⟩
theorem divWord_pm (B cap d : Nat) (l : List Nat) (H : Hp) (hD : Dig W64 l) (hl : l.length ≤ 100000000) (hcap : l.length ≤ cap) (hd0 : 0 < d) (hd : d < W64) :
  PM Tryz.prog 86 #[.slice (some ⟨B, 0, none⟩) l.length cap, n64 d] H B (l.map n64) fun v cs => ∃ q, v = .tuple #[.slice (some ⟨B, 0, none⟩) (trimL q).length cap, n64 (val W64 l % d)] ∧ cs = q.map n64 ∧ q.length = l.length ∧ Dig W64 q ∧ val W64 q = val W64 l / d :=
 ⟨(cOf Tryz.func86 rfl (by kernel_rfl)), fun W T _ _ hB => (divWord_any T B cap d l W hB hD hl hcap hd0 hd).mono fun e W' ⟨q, he, hq, h1, h2, h3, hk⟩ => ⟨_, _, he, ⟨q, rfl, rfl, h1, h2, h3⟩, hq, hk⟩⟩
theorem divWords_pc {u v : Value} {x y : List Nat} {H : Hp} (hu : SlN n64 H u x) (hv : SlN n64 H v y) (hDx : Dig W64 x) (hNy : Norm W64 y) (hx : x.length ≤ 100000000) (hy2 : 2 ≤ y.length) (hxy : y.length ≤ x.length) :
  PC Tryz.prog 126 #[u, v] H fun r H' => ∃ a b q m, r = .tuple #[a, b] ∧ SlN n64 H' a q ∧ SlN n64 H' b m ∧ Dig W64 q ∧ Dig W64 m ∧ q.length ≤ x.length ∧ m.length ≤ x.length ∧ val W64 q = val W64 x / val W64 y ∧ val W64 m = val W64 x % val W64 y := by
 refine ⟨(cOf Tryz.func126 rfl (by kernel_rfl)), fun W hW _ => ?_⟩
 obtain ⟨a, cap, rfl, hS, _⟩ := hu.sl hW
 obtain ⟨a', cap', rfl, hS', _⟩ := hv.sl hW
 refine (divWords_any a a' cap cap' x y W hS hS' hDx hNy hx hy2 hxy).mono ?_
 rintro e W' ⟨q, r, g, h, he, hBq, hBr, hDq, hDr, hql, hrl, hvq, hvr, hb, hg, hgh⟩
 obtain ⟨H', h1, h2, h3, h4, h5⟩ := pc_new2 hW hb hg hgh hBq hBr
 exact ⟨_, H', he, ⟨_, _, q, r, rfl, h4, h5, hDq, hDr, hql, hrl, hvq, hvr⟩, h1, h2, hb, h3⟩
theorem natDiv_small (a b : Nat) (h : b ≠ 0) (ha : a < W64) (hb : b < W64) : PV Tryz.prog 93 #[natV a, natV b] (.tuple #[natV (a / b), natV (a % b), .bool true]) :=
 ⟨(cOf Tryz.func93 rfl (by kernel_rfl)), fun W _ => div_one a b W h ha hb⟩
theorem natDiv_less (a b : Nat) (h : a < b) (hs : ¬ (a < W64 ∧ b < W64)) (ha : big a) (hb : big b) : PV Tryz.prog 93 #[natV a, natV b] (.tuple #[natV (a / b), natV (a % b), .bool true]) := by
 rw [Nat.div_eq_of_lt h, Nat.mod_eq_of_lt h]
 exact ⟨(cOf Tryz.func93 rfl (by kernel_rfl)), fun W _ => div_less a b W h hs ha hb⟩
theorem natDiv_word (a b : Nat) (h : b ≠ 0) (h1 : ¬ a < W64) (h2 : b < W64) (ha : big a) : PV Tryz.prog 93 #[natV a, natV b] (.tuple #[natV (a / b), natV (a % b), .bool true]) := by
 have hb : big b := Nat.le_trans (bl_le (k := 64) (by rw [← W64_pow]; exact h2)) (by omega)
 have q2 : a % b < W64 := Nat.lt_trans (Nat.mod_lt _ (by omega)) h2
 have hge : decide (ordN a b < 0) = false := by rw [ordN_gt (by omega)]; rfl
 have la := dig_len_big ha
 have vla := dig_val W64_two a
 have da := (dig_norm W64_two a).1
 have hpa := fun G => words_full a (by have := W64_two; omega) ha G
 refine PV.of_pc ?_
 rw [natV_small q2]
 refine PC.body Tryz.tab_ok Tryz.func93 rfl (by kernel_rfl) Tryz.ntmps93 rfl rfl ?_
 repeat (first | refine RUN ?_ | refine CV (bits_pv b hb) ?_ | refine CE (bits_pv b hb) ?_)
 rw [bl_zero_iff, decide_eq_false h]
 (try refine RUN ?_)
 rw [more_ge h1]
 repeat (first | refine RUN ?_ | refine CV (natCmp_pv _ _ ha hb) ?_ | refine CE (natCmp_pv _ _ ha hb) ?_)
 rw [hge]
 (try refine RUN ?_)
 rw [more_lt h2]
 (try refine RUN ?_)
 refine EVD.start (by kernel_rfl) ?_
 apply EVD.head0 4 (by kernel_rfl); intro x y
 (repeat refine' DD ?_)
 refine' DJ.callO rfl rfl rfl rfl rfl (hpa gH).can (fun G _ _ => hpa G) ?_; rotate_left
 (repeat refine' DD ?_)
 (refine DJ.nil (fun G hG hF => ?_); (case hS => rfl); (case hS2 => rfl))
 obtain ⟨⟨g, hv, how⟩, _⟩ := hF
 rw [hv, how]
 rw [lo_of_lt h2]
 refine EVL.nil ⟨rfl, ?_⟩
 refine EVD.one (by kernel_rfl) rfl ?_
 have hpm := divWord_pm g (dig W64 a).length b (dig W64 a) G da (by omega) (Nat.le_refl _) (by omega) h2
 rw [vla] at hpm
 refine EVL.callM rfl rfl rfl rfl rfl [] [] rfl hpm ?_
 rintro v cs ⟨q, rfl, rfl, hql, hqD, hqv⟩
 refine EVL.nil ⟨rfl, ?_⟩
 refine EVD.one (by kernel_rfl) rfl ?_
 (try refine RUN ?_)
 refine ⟨rfl, ?_⟩
 refine EVD.shift 6 (by kernel_rfl) (by decide) ?_
 apply EVD.drawn 3 (by kernel_rfl); intro x y
 (repeat refine' DD ?_)
 (refine DJ.nil (fun G hG hF => ?_); (case hS => rfl); (case hS2 => rfl))
 (try refine RUN ?_)
 refine EVL.publish [] [] rfl fun G2 hle2 hG2 => ?_
 have hsl := sln_pre (cap := (dig W64 a).length) hG2 (trimL q).length (trimL_length_le q) (by rw [← hql]; exact trimL_length_le q)
 rw [trimL_take] at hsl
 have f1 := fromWords_pc hsl (trimL_norm hqD).1 (by have := trimL_length_le q; omega)
 rw [trimL_val, hqv] at f1
 refine EVL.call rfl rfl rfl rfl rfl f1 ?_
 rintro v' H1 rfl hle
 (try refine RUN ?_)
 rfl
theorem natDiv_words (a b : Nat) (hab : b ≤ a) (h2 : ¬ b < W64) (ha : big a) (hb : big b) : PV Tryz.prog 93 #[natV a, natV b] (.tuple #[natV (a / b), natV (a % b), .bool true]) := by
 have hb0 : b ≠ 0 := by have := W64_two; omega
 have h1 : ¬ a < W64 := by omega
 have hge : decide (ordN a b < 0) = false := by
  rcases Nat.lt_or_eq_of_le hab with h | h
  ·rw [ordN_gt h]; rfl
  ·subst h; simp [ordN]
 have la := dig_len_big ha
 have lb := dig_len_big hb
 have hlb : 2 ≤ (dig W64 b).length := by
  rw [dig_lo_hi b hb0]
  have : hiW b ≠ [] := fun e => h2 (hiW_nil.1 e)
  have := List.length_pos_iff.2 this
  simp; omega
 have hlab : (dig W64 b).length ≤ (dig W64 a).length := dig_len_mono W64_two hab
 have hpa := fun G => words_pc a ha G
 have hpb := fun G => words_pc b hb G
 refine PV.of_pc ?_
 refine PC.body Tryz.tab_ok Tryz.func93 rfl (by kernel_rfl) Tryz.ntmps93 rfl rfl ?_
 repeat (first | refine RUN ?_ | refine CV (bits_pv b hb) ?_ | refine CE (bits_pv b hb) ?_)
 rw [bl_zero_iff, decide_eq_false hb0]
 (try refine RUN ?_)
 rw [more_ge h1]
 repeat (first | refine RUN ?_ | refine CV (natCmp_pv _ _ ha hb) ?_ | refine CE (natCmp_pv _ _ ha hb) ?_)
 rw [hge]
 (try refine RUN ?_)
 rw [more_ge h2]
 (try refine RUN ?_)
 apply EV.drawn 9 (by kernel_rfl) (by kernel_rfl); intro xv yw
 (repeat refine' DD ?_)
 refine' DJ.call rfl rfl rfl rfl rfl (hpa gH).can (fun G _ _ => hpa G) (fun v G G' h k => h.mono k) ?_; rotate_left
 (repeat refine' DD ?_)
 refine' DJ.call rfl rfl rfl rfl rfl (hpb gH).can (fun G _ _ => hpb G) (fun v G G' h k => h.mono k) ?_; rotate_left
 refine' DJ.call rfl rfl rfl rfl rfl (cOf Tryz.func126 rfl (by kernel_rfl)) (fun G _ hd => divWords_pc (hd.tail.head (by kernel_rfl)) (hd.head (by kernel_rfl)) (dig_norm W64_two a).1 (dig_norm W64_two b) (by omega) hlb hlab) (fun v G G' ⟨u, w, q, m, e, h1, h2, r⟩ k => ⟨u, w, q, m, e, h1.mono k, h2.mono k, r⟩) ?_; rotate_left
 refine' DJ.copy (0 + 1 + 1 + 1 + 1) (.inl rfl) rfl rfl rfl id rfl (by kernel_rfl) ?_; rotate_left
 refine' DJ.extract (0 + 1 + 1 + 1 + 1) (k := 0) rfl rfl rfl rfl rfl (by kernel_rfl) (fun G hd => ?e1) ?_
 case e1 => obtain ⟨u, w, q, m, e, _⟩ := hd.head (by kernel_rfl); exact ⟨_, e, by simp⟩
 rotate_left
 refine' DJ.extract (0 + 1 + 1 + 1 + 1) (k := 1) rfl rfl rfl rfl rfl (by kernel_rfl) (fun G hd => ?e2) ?_
 case e2 => obtain ⟨u, w, q, m, e, _⟩ := hd.head (by kernel_rfl); exact ⟨_, e, by simp⟩
 rotate_left
 refine' DJ.copy (0 + 1 + 1 + 1 + 1) (.inr rfl) rfl rfl rfl (tupAt 0) rfl (by kernel_rfl) ?_; rotate_left
 (refine DJ.nil (fun G hG hF => ?_); (case hS => rfl); (case hS2 => rfl))
 obtain ⟨⟨u, w, q, m, e, hq, hm, hDq, hDm, hlq, hlm, hvq, hvm⟩, _⟩ := hF
 rw [e]
 rw [dig_val W64_two, dig_val W64_two] at hvq hvm
 have f1 := fun G => fromWords_pc (H := G) (v := u) (l := q)
 have f2 := fun G => fromWords_pc (H := G) (v := w) (l := m)
 rw [hvq] at f1
 rw [hvm] at f2
 (try refine RUN ?_)
 refine EVL.call rfl rfl rfl rfl rfl (f1 _ hq hDq (by omega)) ?_
 rintro v' H1 rfl hle
 (try refine RUN ?_)
 refine EVL.call rfl rfl rfl rfl rfl (f2 _ (hm.mono hle) hDm (by omega)) ?_
 rintro v' H2 rfl hle2
 (try refine RUN ?_)
 rfl
theorem natDiv_pv (a b : Nat) (h : b ≠ 0) (ha : big a) (hb : big b) : PV Tryz.prog 93 #[natV a, natV b] (.tuple #[natV (a / b), natV (a % b), .bool true]) := by
 by_cases hs : a < W64 ∧ b < W64
 ·exact natDiv_small a b h hs.1 hs.2
 ·rcases Nat.lt_or_ge a b with hl | hge
  ·exact natDiv_less a b hl hs ha hb
  ·by_cases h2 : b < W64
   ·exact natDiv_word a b h (fun h1 => hs ⟨h1, h2⟩) h2 ha
   ·exact natDiv_words a b hge h2 ha hb
theorem natShift_up (a k : Nat) (hk : k ≤ 65536) (ha : big a) : PV Tryz.prog 75 #[natV a, .int .i64 (k : Int)] (natV (a * 2 ^ k)) := by
 have la := dig_len_big ha
 have hs := fun v H h => shiftUp_pc (v := v) (l := dig W64 a) (H := H) h (dig_norm W64_two a).1 (by omega) k (by omega)
 rw [dig_val W64_two] at hs
 refine PV.of_pc ?_
 refine PC.body Tryz.tab_ok Tryz.func75 rfl (by kernel_rfl) Tryz.ntmps75 rfl rfl ?_
 (try refine RUN ?_)
 rw [show (if (if (65536 : Int) < k then 65536 else (k : Int)) > -65536 then (if (65536 : Int) < k then 65536 else (k : Int)) else -65536) = (k : Int) by (repeat split) <;> omega]
 (try refine RUN ?_)
 rw [show decide ((k : Int) < 0) = false by simp]
 (try refine RUN ?_)
 refine EVL.call rfl rfl rfl rfl rfl (words_pc a ha _) ?_
 rintro v H1 hv hle
 (try refine RUN ?_)
 refine EVL.call rfl rfl rfl rfl rfl (hs _ _ hv) ?_
 rintro v2 H2 ⟨out, h1, h2, h3, h4⟩ hle2
 (try refine RUN ?_)
 have hf := fromWords_pc h1 h3 (by omega)
 rw [h4] at hf
 refine EVL.call rfl rfl rfl rfl rfl hf ?_
 rintro v3 H3 rfl hle3
 (try refine RUN ?_)
 rfl
end Go.Proofs.YtjekjlaokjhhgaaGreatDoor
namespace Go.Proofs.YtjekjlaokjhhgaaGreatDoor
def pk (K B : Nat) (l : List Nat) (m : Nat) : List Nat := (List.range m).map fun j => val B ((l.drop (K * j)).take K)
theorem pk_length (K B : Nat) (l : List Nat) (m : Nat) : (pk K B l m).length = m := by simp [pk]
theorem pk_nil (K B m : Nat) : pk K B [] m = List.replicate m 0 := by
 apply List.ext_getElem?
 intro i
 rw [pk, List.getElem?_map, List.getElem?_replicate]
 by_cases h : i < m
 ·rw [List.getElem?_range h, if_pos h]; simp [val]
 ·rw [if_neg h, List.getElem?_eq_none (by simp; omega)]; rfl
theorem pk_getD (K B : Nat) (l : List Nat) (m j : Nat) (h : j < m) : (pk K B l m).getD j 0 = val B ((l.drop (K * j)).take K) := by
 rw [List.getD_eq_getElem?_getD, pk, List.getElem?_map, List.getElem?_range h]; rfl
theorem pk_dig {K B : Nat} {l : List Nat} (hB : 0 < B) (hD : Dig B l) (m : Nat) : Dig (B ^ K) (pk K B l m) := by
 intro x hx
 rw [pk, List.mem_map] at hx
 obtain ⟨j, _, rfl⟩ := hx
 refine Nat.lt_of_lt_of_le (val_lt ((hD.drop _).take _)) (Nat.pow_le_pow_right hB ?_)
 rw [List.length_take]; omega
theorem pk_low {K B : Nat} {l : List Nat} (hK : 0 < K) (hD : Dig B l) (m : Nat) (h : l.length < K * m) : (pk K B l m).getD (l.length / K) 0 < B ^ (l.length % K) := by
 rw [pk_getD _ _ _ _ _ (Nat.div_lt_of_lt_mul h)]
 have h1 := val_lt ((hD.drop (K * (l.length / K))).take K)
 have h2 := Nat.div_add_mod l.length K
 have h3 := Nat.mod_lt l.length hK
 rwa [List.length_take, List.length_drop, Nat.min_eq_right (by omega), show l.length - K * (l.length / K) = l.length % K by omega] at h1
theorem pk_snoc {K B : Nat} {l : List Nat} (hK : 0 < K) (m x : Nat) (h : l.length < K * m) :
  pk K B (l ++ [x]) m = (pk K B l m).set (l.length / K) ((pk K B l m).getD (l.length / K) 0 + x * B ^ (l.length % K)) := by
 have hq : l.length / K < m := Nat.div_lt_of_lt_mul h
 have h2 := Nat.div_add_mod l.length K
 have h3 := Nat.mod_lt l.length hK
 apply List.ext_getElem?
 intro i
 by_cases hi : i < m
 ·have e1 : (pk K B (l ++ [x]) m)[i]? = some (val B (((l ++ [x]).drop (K * i)).take K)) := by rw [pk, List.getElem?_map, List.getElem?_range hi]; rfl
  rw [e1]
  by_cases e : l.length / K = i
  ·subst e
   rw [List.getElem?_set_self (by rw [pk_length]; exact hi), pk_getD _ _ _ _ _ hq]
   congr 1
   rw [List.drop_append_of_le_length (by omega), List.take_of_length_le (by rw [List.length_append, List.length_drop, List.length_singleton]; omega), List.take_of_length_le (by rw [List.length_drop]; omega), val_snoc, List.length_drop, show l.length - K * (l.length / K) = l.length % K by omega]
  ·rw [List.getElem?_set_ne e, pk, List.getElem?_map, List.getElem?_range hi]
   simp only [Option.map_some]
   congr 2
   by_cases hlt : i < l.length / K
   ·have : K * (i + 1) ≤ K * (l.length / K) := Nat.mul_le_mul_left K hlt
    rw [Nat.mul_add] at this
    rw [List.drop_append_of_le_length (by omega), List.take_append_of_le_length (by rw [List.length_drop]; omega)]
   ·have : K * (l.length / K + 1) ≤ K * i := Nat.mul_le_mul_left K (by omega)
    rw [Nat.mul_add] at this
    rw [List.drop_of_length_le (by rw [List.length_append, List.length_singleton]; omega), List.drop_of_length_le (by omega)]
 ·rw [List.getElem?_eq_none (by rw [pk_length]; omega), List.getElem?_eq_none (by rw [List.length_set, pk_length]; omega)]
theorem pk_val (K B : Nat) (hK : 0 < K) (m : Nat) : ∀ l : List Nat, l.length ≤ K * m → val (B ^ K) (pk K B l m) = val B l := by
 intro l
 generalize hn : l.length = n
 induction n generalizing l with
 | zero => intro _; rw [List.eq_nil_of_length_eq_zero hn, pk_nil, val_zeros]; rfl
 | succ n ih =>
  intro h
  have hne : l ≠ [] := by intro e; rw [e] at hn; cases hn
  have hd := List.dropLast_concat_getLast hne
  have hl : l.dropLast.length = n := by rw [List.length_dropLast, hn]; rfl
  have h1 := ih l.dropLast hl (by omega)
  rw [← hd]
  generalize l.dropLast = s at *
  generalize l.getLast hne = x at *
  rw [pk_snoc hK m x (by omega), val_snoc]
  have h2 := val_set (B ^ K) (pk K B s m) (s.length / K) ((pk K B s m).getD (s.length / K) 0 + x * B ^ (s.length % K)) (by rw [pk_length]; exact Nat.div_lt_of_lt_mul (by omega))
  have h3 : x * B ^ s.length = x * B ^ (s.length % K) * (B ^ K) ^ (s.length / K) := by
   rw [← Nat.pow_mul, Nat.mul_assoc, ← Nat.pow_add, Nat.add_comm, Nat.div_add_mod]
  rw [Nat.add_mul, ← h3, h1] at h2
  omega
def octs (n : Nat) : List Nat := (dig 256 n).reverse
theorem octs_length (n : Nat) : (octs n).length = (dig 256 n).length := by simp [octs]
theorem octs_dig (n : Nat) : Dig 256 (octs n) := fun x hx => (dig_norm (by decide) n).1 x (by simpa [octs] using hx)
theorem octs_of (n N : Nat) (hN : N = (dig 256 n).length) (out : List Nat) (h : out.length = N) (hj : ∀ j, j < N → out.getD (N - 1 - j) 0 = n / 256 ^ j % 256) : out = octs n := by
 apply List.ext_getElem?
 intro i
 by_cases hi : i < N
 ·have h1 := hj (N - 1 - i) (by omega)
  rw [show N - 1 - (N - 1 - i) = i by omega, ← dig_getD (by decide)] at h1
  rw [octs, List.getElem?_reverse (by omega), ← hN]
  rw [List.getD_eq_getElem?_getD, List.getD_eq_getElem?_getD, List.getElem?_eq_getElem (by omega), List.getElem?_eq_getElem (by omega)] at h1
  rw [List.getElem?_eq_getElem (by omega), List.getElem?_eq_getElem (by omega)]
  exact congrArg some h1
 ·rw [List.getElem?_eq_none (by omega), List.getElem?_eq_none (by rw [octs_length]; omega)]
end Go.Proofs.YtjekjlaokjhhgaaGreatDoor
namespace Go.Proofs.YtjekjlaokjhhgaaGreatDoor
open Go.RowKit
theorem q8 (i : Nat) (h : i ≤ 2000000000) : IntKind.i64.wrap ((i : Int).tdiv 8) = ((i / 8 : Nat) : Int) := by
 rw [IntKind.wrap_i64, Int.tdiv_eq_ediv_of_nonneg (by omega)]; omega
theorem r8 (i : Nat) : IntKind.i64.wrap (8 * (i : Int).tmod 8) = ((8 * (i % 8) : Nat) : Int) := by
 rw [IntKind.wrap_i64, Int.tmod_eq_emod_of_nonneg (by omega)]; omega
theorem back (n i : Nat) (h : i < n) (hn : n ≤ 2000000000) : IntKind.i64.wrap (IntKind.i64.wrap ((n : Int) - 1) - (i : Int)) = ((n - 1 - i : Nat) : Int) := by
 rw [IntKind.wrap_i64, IntKind.wrap_i64]; omega
theorem byte_or (c x p : Nat) (hc : c < 2 ^ p) (hx : x < 256) (hp : p ≤ 56) :
  IntKind.u64.wrap (((BitVec.ofInt IntKind.u64.bits (c : Int) ||| BitVec.ofInt IntKind.u64.bits (IntKind.u64.wrap (IntKind.u64.wrap (x : Int) * 2 ^ (min p IntKind.u64.bits)))).toNat : Nat) : Int) = ((c + x * 2 ^ p : Nat) : Int) := by
 have h56 : (2 : Nat) ^ p ≤ 2 ^ 56 := Nat.pow_le_pow_right (by omega) hp
 have h1 : x * 2 ^ p ≤ 255 * 2 ^ 56 := Nat.mul_le_mul (by omega) h56
 have e1 : IntKind.u64.wrap (IntKind.u64.wrap (x : Int) * 2 ^ (min p IntKind.u64.bits)) = ((x * 2 ^ p : Nat) : Int) := by
  rw [show min p IntKind.u64.bits = p from Nat.min_eq_left (by show p ≤ 64; omega), wrapU64_nat, Nat.mod_eq_of_lt (by omega), show ((x : Int) * 2 ^ p) = ((x * 2 ^ p : Nat) : Int) by push_cast; rfl, wrapU64_nat, Nat.mod_eq_of_lt (by omega)]
 rw [e1]
 refine (u64_or_nat _ _ (by omega) (by omega)).trans ?_
 rw [or_mul _ _ p (2 ^ p) rfl hc]
theorem Dig.rev {B : Nat} {l : List Nat} (h : Dig B l) : Dig B l.reverse := fun x hx => h x (List.mem_reverse.1 hx)
theorem natFromBytes_pc {v : Value} {l : List Nat} {H : Hp} (h : SlN n8 H v l) (hD : Dig 256 l) (hl : l.length ≤ 200000000) : PC Tryz.prog 82 #[v] H fun r _ => r = natV (val 256 l.reverse) := by
 obtain ⟨a, cap, rfl⟩ := SlC.val h
 generalize hm : (l.length + 7) / 8 = m
 refine PC.body Tryz.tab_ok Tryz.func82 rfl (by kernel_rfl) Tryz.ntmps82 rfl rfl ?_
 (try refine RUN ?_)
 refine EVL.make Tryz.tab_ok rfl rfl rfl rfl rfl rfl rfl rfl rfl m ?_ (by omega) (by rfl) (by rfl) fun g => ?_
 ·rw [show IntKind.i64.wrap ((l.length : Int) + 7) = ((l.length + 7 : Nat) : Int) by rw [IntKind.wrap_i64]; omega, q8 _ (by omega), hm]
 (try refine RUN ?_)
 have e0 : (List.replicate m (Tryz.te39.zero)).flatten = (pk 8 256 (l.reverse.take 0) m).map n64 := by
  rw [List.take_zero, pk_nil, List.map_replicate]; rw [show (Tryz.te39.zero) = [n64 0] from rfl]; simp
 rw [e0]
 refine EV.loop (ι := Nat) (fun i => [(2, .p 2 0), (0, .v (.slice a l.length cap)), (3, .v (.slice (some ⟨g, 0, none⟩) m m)), (11, .v (.int .i64 (l.length : Int))), (12, .v (.int .i64 (i : Int)))]) (fun _ => [(2, 41, Tryz.te41.zero)]) (fun i => [(g, 39, (pk 8 256 (l.reverse.take i) m).map n64)])
  (fun i G => i ≤ l.length ∧ SlN n8 G (.slice a l.length cap) l) (fun i => l.length - i) 0 ⟨rfl, rfl, rfl, rfl, rfl, trivial⟩ ⟨rfl, trivial⟩ rfl (fun _ => rfl) ⟨Nat.zero_le _, h⟩ ?_
 rintro i G hG ⟨hi, hs⟩
 (try refine RUN ?_)
 by_cases hlt : i < l.length
 ·have him : i / 8 < m := by omega
  have hrl : (l.reverse.take i).length = i := by rw [List.length_take, List.length_reverse]; omega
  have hx : l.getD (l.length - 1 - i) 0 < 256 := hD.getD (by decide) _
  have hxs : (l.map n8)[l.length - 1 - i]? = some (n8 (l.getD (l.length - 1 - i) 0)) := by
   rw [List.getElem?_map, List.getD_eq_getElem?_getD, List.getElem?_eq_getElem (show l.length - 1 - i < l.length by omega)]; rfl
  have hcur : ((pk 8 256 (l.reverse.take i) m).map n64)[i / 8]? = some (n64 ((pk 8 256 (l.reverse.take i) m).getD (i / 8) 0)) := by
   rw [List.getElem?_map, List.getD_eq_getElem?_getD, List.getElem?_eq_getElem (by rw [pk_length]; exact him)]; rfl
  have hlow := pk_low (K := 8) (B := 256) (by decide) ((hD.rev).take i) m (by rw [hrl]; omega)
  rw [hrl] at hlow
  have hsn := pk_snoc (K := 8) (B := 256) (l := l.reverse.take i) (by decide) m (l.getD (l.length - 1 - i) 0) (by rw [hrl]; omega)
  rw [hrl] at hsn
  rw [show decide ((i : Int) < (l.length : Int)) = true by simpa using hlt]
  (try refine RUN ?_)
  apply EV.drawn 18 (by kernel_rfl) (by kernel_rfl); intro xv yw
  (repeat refine' DD ?_)
  refine' DJ.ofVal (ValOk.idxP1 Tryz.tab_ok rfl rfl rfl rfl rfl rfl rfl rfl (i / 8) (q8 i (by omega)) him) rfl rfl rfl ?_; rotate_left
  refine' DJ.ofVal (ValOk.load1 Tryz.tab_ok rfl rfl rfl rfl rfl rfl 0 rfl hcur) rfl rfl rfl ?_; rotate_left
  (repeat refine' DD ?_)
  refine' DJ.ofVal (ValOk.idx1 Tryz.tab_ok rfl rfl rfl rfl rfl rfl rfl rfl hs (l.length - 1 - i) (back _ _ hlt (by omega)) (by omega) hxs) rfl rfl rfl ?_; rotate_left
  (repeat refine' DD ?_)
  refine' DJ.ofVal (ValOk.shl rfl rfl rfl rfl (by rw [r8]; omega)) rfl rfl rfl ?_; rotate_left
  (refine DJ.nil (fun G hG hF => ?_); (case hS => rfl); (case hS2 => rfl))
  rw [r8, Int.toNat_natCast]
  (try refine RUN ?_)
  rw [byte_or _ _ _ (by rw [Nat.pow_mul]; exact hlow) hx (by omega)]
  refine EVL.ofVal (ValOk.idxP1 Tryz.tab_ok rfl rfl rfl rfl rfl rfl rfl rfl (i / 8) (q8 i (by omega)) him) rfl rfl rfl fun G4 hG4 => ?_
  refine EVL.set1 Tryz.tab_ok rfl rfl rfl rfl rfl rfl rfl rfl rfl rfl (by rw [List.length_map, pk_length]; exact him) ?_
  (try refine RUN ?_)
  have hnext : l.reverse.take (i + 1) = l.reverse.take i ++ [l.getD (l.length - 1 - i) 0] := by
   rw [List.take_succ_eq_append_getElem (by rw [List.length_reverse]; exact hlt), List.getElem_reverse, List.getD_eq_getElem?_getD, List.getElem?_eq_getElem (show l.length - 1 - i < l.length by omega)]; rfl
  refine ⟨i + 1, ⟨rfl, rfl, rfl, rfl, ?_, trivial⟩, ⟨rfl, trivial⟩, ?_, ⟨by omega, hs.mono (hG.trans hG4)⟩, hG.trans hG4, by omega⟩
  ·rw [show IntKind.i64.wrap ((i : Int) + 1) = ((i + 1 : Nat) : Int) by rw [IntKind.wrap_i64]; omega]; rfl
  ·rw [hnext, hsn, List.map_set, show (256 : Nat) ^ (i % 8) = 2 ^ (8 * (i % 8)) by rw [Nat.pow_mul]]
 ·rw [show decide ((i : Int) < (l.length : Int)) = false by simpa using hlt]
  obtain rfl : i = l.length := by omega
  rw [List.take_of_length_le (by rw [List.length_reverse]; exact Nat.le_refl _)]
  (try refine RUN ?_)
  refine EVL.publish [] [] rfl fun G2 hG2 hg => ?_
  have hpl : (pk 8 256 l.reverse m).length = m := pk_length _ _ _ _
  have hsl : SlN n64 G2 (.slice (some ⟨g, 0, none⟩) m m) (pk 8 256 l.reverse m) := by
   unfold SlN
   rw [hpl]
   exact ⟨by simp [hpl], .inr ⟨g, 0, m, _, rfl, Nat.le_refl _, hg, fun j x hj => by simpa using hj⟩⟩
  have hf := fromWords_pc hsl (by rw [W64_256]; exact pk_dig (by decide) hD.rev m) (by omega)
  rw [W64_256, pk_val 8 256 (by decide) m l.reverse (by rw [List.length_reverse]; omega)] at hf
  refine EVL.call rfl rfl rfl rfl rfl hf ?_
  rintro v' H' rfl hle
  (try refine RUN ?_)
  rfl
theorem sub_byte (c p : Nat) (hc : c < W64) (hp : p ≤ 63) : IntKind.u8.wrap ((c : Int).fdiv (2 ^ (min p IntKind.u64.bits))) = ((c / 2 ^ p % 256 : Nat) : Int) := by
 rw [show min p IntKind.u64.bits = p from Nat.min_eq_left (by show p ≤ 64; omega), show ((2 : Int) ^ p) = ((2 ^ p : Nat) : Int) by push_cast; rfl, Int.fdiv_eq_ediv_of_nonneg _ (Int.natCast_nonneg _), ← Int.natCast_ediv, wrapU8]
 omega
theorem natBytes_pc (n : Nat) (hn : big n) (H : Hp) : PC Tryz.prog 115 #[natV n] H fun r H' => SlN n8 H' r (octs n) := by
 have hN : (dig 256 n).length = (bl n + 7) / 8 := by have := dig_len_bits 8 n (by omega); rw [show (2 : Nat) ^ 8 = 256 by decide] at this; rw [this]; omega
 generalize hNe : (bl n + 7) / 8 = N at *
 have hwp := fun G => words_pc n hn G
 refine PC.body Tryz.tab_ok Tryz.func115 rfl (by kernel_rfl) Tryz.ntmps115 rfl rfl ?_
 repeat (first | refine RUN ?_ | refine CV (bits_pv n hn) ?_ | refine CE (bits_pv n hn) ?_)
 rw [show IntKind.i64.wrap ((bl n : Int) + 7) = ((bl n + 7 : Nat) : Int) by rw [IntKind.wrap_i64]; omega, q8 _ (by omega), hNe]
 (try refine RUN ?_)
 refine EVL.make Tryz.tab_ok rfl rfl rfl rfl rfl rfl rfl rfl rfl N rfl (by omega) (by rfl) (by rfl) fun g => ?_
 (try refine RUN ?_)
 have e0 : (List.replicate N (Tryz.te5.zero)).flatten = (List.replicate N 0).map n8 := by
  rw [List.map_replicate, show (Tryz.te5.zero) = [n8 0] from rfl]; simp
 rw [e0]
 refine EVL.call rfl rfl rfl rfl rfl (hwp _) ?_
 rintro v H1 hv hle
 (try refine RUN ?_)
 refine EV.loop (ι := Nat × List Nat) (fun q => [(3, .v (.int .i64 (N : Int))), (4, .v (.slice (some ⟨g, 0, none⟩) N N)), (5, .v v), (15, .v (.int .i64 (N : Int))), (16, .v (.int .i64 (q.1 : Int)))]) (fun _ => []) (fun q => [(g, 5, q.2.map n8)])
  (fun q G => q.1 ≤ N ∧ q.2.length = N ∧ (∀ j, j < q.1 → q.2.getD (N - 1 - j) 0 = n / 256 ^ j % 256) ∧ SlN n64 G v (dig W64 n)) (fun q => N - q.1) (0, List.replicate N 0) ⟨rfl, rfl, rfl, rfl, rfl, trivial⟩ trivial rfl (fun _ => rfl) ⟨Nat.zero_le _, by simp, fun j hj => absurd hj (Nat.not_lt_zero _), hv⟩ ?_
 rintro ⟨i, cur⟩ G hG ⟨hi, hlen, hcs, hs⟩
 dsimp only at hi hlen hcs
 (try refine RUN ?_)
 by_cases hlt : i < N
 ·have hwl : i / 8 < (dig W64 n).length := by
   have := dig_len_bits 64 n (by omega)
   rw [← W64_pow] at this
   rw [this]; omega
  have hxs : ((dig W64 n).map n64)[i / 8]? = some (n64 ((dig W64 n).getD (i / 8) 0)) := by
   rw [List.getElem?_map, List.getD_eq_getElem?_getD, List.getElem?_eq_getElem hwl]; rfl
  have hsub := val_subdigit (C := 256) (k := 8) (by decide) (by decide) (l := dig W64 n) (by rw [← W64_256]; exact (dig_norm W64_two n).1) i
  rw [← W64_256, dig_val W64_two, show (256 : Nat) ^ (i % 8) = 2 ^ (8 * (i % 8)) by rw [Nat.pow_mul]] at hsub
  have hw := ((dig_norm W64_two n).1).getD (by decide) (i / 8)
  rw [show decide ((i : Int) < (N : Int)) = true by simpa using hlt]
  (try refine RUN ?_)
  refine EVL.ofVal (ValOk.idx1 Tryz.tab_ok rfl rfl rfl rfl rfl rfl rfl rfl hs (i / 8) (q8 i (by omega)) hwl hxs) rfl rfl rfl fun G4 hG4 => ?_
  (try refine RUN ?_)
  refine EVL.ofVal (ValOk.shr rfl rfl rfl rfl (by rw [r8]; omega)) rfl rfl rfl fun G5 hG5 => ?_
  (try refine RUN ?_)
  rw [r8, Int.toNat_natCast, sub_byte _ _ hw (by omega), hsub, back N i hlt (by omega)]
  refine EVL.ofVal (ValOk.idxP1 Tryz.tab_ok rfl rfl rfl rfl rfl rfl rfl rfl (N - 1 - i) rfl (by omega)) rfl rfl rfl fun G6 hG6 => ?_
  refine EVL.set1 Tryz.tab_ok rfl rfl rfl rfl rfl rfl rfl rfl rfl rfl (by rw [List.length_map, hlen]; omega) ?_
  (try refine RUN ?_)
  refine ⟨(i + 1, cur.set (N - 1 - i) (n / 256 ^ i % 256)), ⟨rfl, rfl, rfl, rfl, ?_, trivial⟩, trivial, ?_, ⟨by dsimp only; omega, by dsimp only; rw [List.length_set]; exact hlen, fun j hj => ?_, hs.mono (hG4.trans (hG5.trans hG6))⟩, hG4.trans (hG5.trans hG6), by dsimp only; omega⟩
  ·rw [show IntKind.i64.wrap ((i : Int) + 1) = ((i + 1 : Nat) : Int) by rw [IntKind.wrap_i64]; omega]; rfl
  ·dsimp only
   rw [List.map_set]
  ·dsimp only at hj ⊢
   by_cases e : j = i
   ·subst e
    rw [List.getD_eq_getElem?_getD, List.getElem?_set_self (by omega)]; rfl
   ·rw [List.getD_eq_getElem?_getD, List.getElem?_set_ne (by omega), ← List.getD_eq_getElem?_getD]
    exact hcs j (by omega)
 ·rw [show decide ((i : Int) < (N : Int)) = false by simpa using hlt]
  obtain rfl : i = N := by omega
  have ho := octs_of n i hN.symm cur hlen hcs
  subst ho
  first | refine EVL.publish [] [] rfl fun G2 hG2 hg => ?_ | refine EV.publish [] [] rfl fun G2 hG2 hg => ?_
  (try refine RUN ?_)
  unfold SlN
  rw [hlen]
  exact ⟨by simp [hlen], .inr ⟨g, 0, i, _, rfl, Nat.le_refl _, hg, fun j x hj => by simpa using hj⟩⟩
end Go.Proofs.YtjekjlaokjhhgaaGreatDoor
namespace Go.Proofs.YtjekjlaokjhhgaaGreatDoor
theorem coprime_two_pow (k w : Nat) (hw : w % 2 = 1) : Nat.Coprime (2 ^ k) w := by
 apply Nat.Coprime.pow_left
 rw [Nat.coprime_comm]
 show Nat.gcd w 2 = 1
 rw [Nat.gcd_comm, Nat.gcd_rec, hw]
 decide
theorem gcd_two_pow (k m w : Nat) (hw : w % 2 = 1) : Nat.gcd (2 ^ k * m) w = Nat.gcd m w := Nat.Coprime.gcd_mul_left_cancel m (coprime_two_pow k w hw)
theorem gcd_binary (x y zx zy v w : Nat) (hx : x = 2 ^ zx * v) (hy : y = 2 ^ zy * w) (hv : v % 2 = 1) (hw : w % 2 = 1) : Nat.gcd x y = 2 ^ min zx zy * Nat.gcd v w := by
 subst hx hy
 by_cases h : zx ≤ zy
 ·rw [Nat.min_eq_left h]
  obtain ⟨k, rfl⟩ : ∃ k, zy = zx + k := ⟨zy - zx, by omega⟩
  rw [Nat.pow_add, Nat.mul_assoc, Nat.gcd_mul_left, Nat.gcd_comm v, gcd_two_pow k w v hv, Nat.gcd_comm]
 ·rw [Nat.min_eq_right (by omega)]
  obtain ⟨k, rfl⟩ : ∃ k, zx = zy + k := ⟨zx - zy, by omega⟩
  rw [Nat.pow_add, Nat.mul_assoc, Nat.gcd_mul_left, gcd_two_pow k v w hw]
theorem gcd_round (v w z m : Nat) (hw : w % 2 = 1) (hle : w ≤ v) (h : v - w = 2 ^ z * m) : Nat.gcd m w = Nat.gcd v w := by
 rw [← gcd_two_pow z m w hw, ← h, Nat.gcd_sub_self_left hle]
end Go.Proofs.YtjekjlaokjhhgaaGreatDoor
namespace Go.Proofs.YtjekjlaokjhhgaaGreatDoor
open Go.RowKit
theorem val_take_zero {B : Nat} {l : List Nat} : ∀ i, (∀ j, j < i → l.getD j 0 = 0) → val B (l.take i) = 0
 | 0, _ => rfl
 | i + 1, h => by rw [val_take_succ, val_take_zero i (fun j hj => h j (by omega)), h i (by omega)]; simp
theorem zeros_val {l : List Nat} (hD : Dig W64 l) {i : Nat} (hz : ∀ j, j < i → l.getD j 0 = 0) (h0 : l.getD i 0 ≠ 0) :
  ∃ m, val W64 l = 2 ^ (64 * i + Lib.ctz 64 (l.getD i 0)) * m ∧ m % 2 = 1 ∧ Lib.ctz 64 (l.getD i 0) < 64 := by
 have hi : i < l.length := by
  refine Nat.lt_of_not_le fun h => h0 ?_
  rw [List.getD_eq_getElem?_getD, List.getElem?_eq_none h]; rfl
 have hx := hD.getD (by decide) i
 have hv : val W64 l = W64 ^ i * (l.getD i 0 + W64 * val W64 (l.drop (i + 1))) := by
  rw [val_split W64 l i (by omega), val_take_zero i hz, val_drop, Nat.zero_add]
 rw [hv]
 clear hz hv
 generalize val W64 (l.drop (i + 1)) = V
 generalize l.getD i 0 = x at *
 obtain ⟨m, h1, h2⟩ := Lib.ctzFrom_spec 64 x (by omega) (by rw [← W64_pow]; exact hx)
 have e : Lib.ctz 64 x = Lib.ctzFrom 64 x := by unfold Lib.ctz; rw [if_neg h0]
 rw [e]
 generalize Lib.ctzFrom 64 x = k at *
 have hp : W64 = 2 ^ k * 2 ^ (64 - k) := by rw [← Nat.pow_add, W64_pow]; congr 1; omega
 refine ⟨2 * m + 1 + 2 ^ (64 - k) * V, ?_, ?_, h2⟩
 ·rw [W64_pw, Nat.mul_assoc]
  congr 1
  rw [h1]
  generalize 2 ^ k = a at *
  generalize 2 ^ (64 - k) = b at *
  rw [hp, Nat.mul_add, Nat.mul_assoc, Nat.mul_add, Nat.mul_add a]
 ·rw [show 64 - k = (63 - k) + 1 by omega, Nat.pow_succ, Nat.mul_comm (2 ^ (63 - k)) 2, Nat.mul_assoc]
  omega
theorem list_ext {B : Nat} (hB : 0 < B) : ∀ {l m : List Nat}, Dig B l → Dig B m → l.length = m.length → val B l = val B m → l = m
 | [], [], _, _, _, _ => rfl
 | [], _ :: _, _, _, h, _ => by cases h
 | _ :: _, [], _, _, h, _ => by cases h
 | x :: l, y :: m, hl, hm, h, e => by
  have hx := hl x (List.mem_cons_self ..)
  have hy := hm y (List.mem_cons_self ..)
  rw [val_cons, val_cons] at e
  have e1 : x = y := by
   have h1 : (x + B * val B l) % B = x := by rw [Nat.add_mul_mod_self_left, Nat.mod_eq_of_lt hx]
   have h2 : (y + B * val B m) % B = y := by rw [Nat.add_mul_mod_self_left, Nat.mod_eq_of_lt hy]
   rw [← h1, ← h2, e]
  subst e1
  have e2 : val B l = val B m := Nat.eq_of_mul_eq_mul_left hB (by omega)
  rw [list_ext hB (fun z hz => hl z (List.mem_cons_of_mem _ hz)) (fun z hz => hm z (List.mem_cons_of_mem _ hz)) (by simpa using h) e2]
theorem pk_octs (n : Nat) (m : Nat) (hm : m = (dig W64 n).length) (hl : (dig 256 n).length ≤ 8 * m) : pk 8 256 (octs n).reverse m = dig W64 n := by
 rw [octs, List.reverse_reverse]
 refine list_ext (B := W64) (by decide) ?_ (dig_norm W64_two n).1 (by rw [pk_length, hm]) ?_
 ·rw [W64_256]; exact pk_dig (by decide) (dig_norm (by decide) n).1 m
 ·rw [dig_val W64_two, W64_256, pk_val 8 256 (by decide) m _ hl, dig_val (by decide)]
theorem odd_part {z z' m m' : Nat} (h : 2 ^ z * m = 2 ^ z' * m') (hm : m % 2 = 1) (hm' : m' % 2 = 1) : z = z' := by
 have key : ∀ (z z' m m' : Nat), z < z' → 2 ^ z * m = 2 ^ z' * m' → m % 2 = 1 → False := fun z z' m m' hlt h hm => by
  obtain ⟨k, rfl⟩ : ∃ k, z' = z + (k + 1) := ⟨z' - z - 1, by omega⟩
  rw [Nat.pow_add, Nat.mul_assoc] at h
  have := Nat.eq_of_mul_eq_mul_left (Nat.pow_pos (by decide)) h
  rw [this, Nat.pow_succ, Nat.mul_comm (2 ^ k) 2, Nat.mul_assoc] at hm
  omega
 rcases Nat.lt_trichotomy z z' with h1 | h1 | h1
 ·exact (key z z' m m' h1 h hm).elim
 ·exact h1
 ·exact (key z' z m' m h1 h.symm hm').elim
theorem len_less {B : Nat} (hB : 2 ≤ B) {l m : List Nat} (hl : Dig B l) (hm : Norm B m) (h : l.length < m.length) : val B l < val B m := by
 have h1 := val_lt hl
 have h2 := norm_val_pos (by omega) hm (by intro e; rw [e] at h; cases h)
 have h3 : B ^ l.length ≤ B ^ (m.length - 1) := Nat.pow_le_pow_right (by omega) (by omega)
 omega
theorem bytes_back (n N : Nat) (out : List Nat) (hN : n < 256 ^ N) (h : out.length = N) (hj : ∀ j, j < N → out.getD (N - 1 - j) 0 = n / 256 ^ j % 256) : val 256 out.reverse = n := by
 have e : out.reverse = digN 256 n N := by
  apply List.ext_getElem?
  intro i
  by_cases hi : i < N
  ·rw [List.getElem?_reverse (by omega), h, digN, List.getElem?_map, List.getElem?_range hi]
   have := hj i hi
   rw [List.getD_eq_getElem?_getD, List.getElem?_eq_getElem (by omega)] at this
   rw [List.getElem?_eq_getElem (by omega)]
   exact congrArg some this
  ·rw [List.getElem?_eq_none (by rw [List.length_reverse]; omega), List.getElem?_eq_none (by rw [digN_length]; omega)]
 rw [e, digN_val, Nat.mod_eq_of_lt hN]
end Go.Proofs.YtjekjlaokjhhgaaGreatDoor
namespace Go.Proofs.YtjekjlaokjhhgaaGreatDoor
end Go.Proofs.YtjekjlaokjhhgaaGreatDoor
namespace Go.Proofs.YtjekjlaokjhhgaaGreatDoor
open Go.RowKit
def B32 : Nat := 4294967296
theorem B32_two : 2 ≤ B32 := by decide
theorem B32_val : B32 = 4294967296 := rfl
theorem B32_pow : B32 = 2 ^ 32 := by decide
namespace L32
def addLo (x y c : Nat) : Nat := (x + y + c) % B32
def addHi (x y c : Nat) : Nat := (x + y + c) / B32
def subLo (x y b : Nat) : Nat := (x + B32 - y - b) % B32
def subHi (x y b : Nat) : Nat := if x < y + b then 1 else 0
theorem add_parts {x y c : Nat} (hx : x < B32) (hy : y < B32) (hc : c ≤ 1) : addLo x y c + addHi x y c * B32 = x + y + c ∧ addLo x y c < B32 ∧ addHi x y c ≤ 1 := by
 unfold addLo addHi
 have := B32_val
 simp only [B32_val] at *
 omega
theorem sub_parts {x y b : Nat} (hx : x < B32) (hy : y < B32) (hb : b ≤ 1) : subLo x y b + y + b = x + subHi x y b * B32 ∧ subLo x y b < B32 ∧ subHi x y b ≤ 1 := by
 unfold subLo subHi
 simp only [B32_val] at *
 split <;> omega
def mid (l : List Nat) (j k : Nat) : List Nat := (l.drop j).take k
theorem val_mid (l : List Nat) (j k : Nat) (h : j + k ≤ l.length) : val B32 l = val B32 (l.take j) + B32 ^ j * (val B32 (mid l j k) + B32 ^ k * val B32 (l.drop (j + k))) := by
 rw [val_split B32 l j (by omega), val_split B32 (l.drop j) k (by simp; omega), List.drop_drop]
 rfl
theorem mid_length (l : List Nat) (j k : Nat) (h : j + k ≤ l.length) : (mid l j k).length = k := by simp [mid]; omega
theorem mid_dig {l : List Nat} (h : Dig B32 l) (j k : Nat) : Dig B32 (mid l j k) := (h.drop j).take k
def Alike (l m : List Nat) (j k : Nat) : Prop := l.length = m.length ∧ ∀ i, (i < j ∨ j + k ≤ i) → l.getD i 0 = m.getD i 0
theorem Alike.refl (l : List Nat) (j k : Nat) : Alike l l j k := ⟨rfl, fun _ _ => rfl⟩
theorem Alike.set {l m : List Nat} {j k : Nat} (h : Alike l m j k) (i v : Nat) (hi : j ≤ i) (hi2 : i < j + k) : Alike (l.set i v) m j k :=
 ⟨by simpa using h.1, fun x hx => by rw [getD_set_ne _ _ _ _ (by omega)]; exact h.2 x hx⟩
theorem ext_getD {l m : List Nat} (hl : l.length = m.length) (h : ∀ i, l.getD i 0 = m.getD i 0) : l = m := by
 apply List.ext_getElem hl
 intro i h1 h2
 have := h i
 simpa [List.getD_eq_getElem?_getD, h1, h2] using this
theorem getD_take (l : List Nat) (j i : Nat) : (l.take j).getD i 0 = if i < j then l.getD i 0 else 0 := by
 simp only [List.getD_eq_getElem?_getD, List.getElem?_take]
 split <;> simp
theorem getD_drop (l : List Nat) (j i : Nat) : (l.drop j).getD i 0 = l.getD (j + i) 0 := by
 simp [List.getD_eq_getElem?_getD]
theorem Alike.take {l m : List Nat} {j k : Nat} (h : Alike l m j k) : l.take j = m.take j :=
 ext_getD (by simp [h.1]) (fun i => by
  rw [getD_take, getD_take]
  split
  ·exact h.2 i (by omega)
  ·rfl)
theorem Alike.drop {l m : List Nat} {j k : Nat} (h : Alike l m j k) : l.drop (j + k) = m.drop (j + k) :=
 ext_getD (by simp [h.1]) (fun i => by rw [getD_drop, getD_drop]; exact h.2 _ (by omega))
theorem Alike.mid_eq {l m : List Nat} {j k : Nat} (h : Alike l m j k) (hk : j + k ≤ l.length) {a b : Nat} (e : val B32 l + a * B32 ^ j = val B32 m + b * B32 ^ (j + k)) :
  val B32 (mid l j k) + a = val B32 (mid m j k) + b * B32 ^ k := by
 rw [val_mid l j k hk, val_mid m j k (by rw [← h.1]; exact hk), h.take, h.drop] at e
 have hp : 0 < B32 ^ j := Nat.pow_pos (by decide)
 rw [Nat.pow_add] at e
 generalize val B32 (mid l j k) = x at *
 generalize val B32 (mid m j k) = y at *
 generalize val B32 (m.drop (j + k)) = z at *
 generalize val B32 (m.take j) = t at *
 generalize B32 ^ j = P at *
 generalize B32 ^ k = Q at *
 have e2 : P * (x + a + Q * z) = P * (y + b * Q + Q * z) := by
  have h1 : t + P * (x + Q * z) + a * P = t + P * (x + a + Q * z) := by grind
  have h2 : t + P * (y + Q * z) + b * (P * Q) = t + P * (y + b * Q + Q * z) := by grind
  omega
 have := Nat.eq_of_mul_eq_mul_left hp e2
 omega
theorem sub_round (U U0 v : List Nat) (j i k g c b x vi hi lw : Nat) (hk : k = j + i) (hlen : k < U.length) (hx : x < B32) (hU : U.getD k 0 = x) (hvi : v.getD i 0 = vi) (hlo : lw < B32) (hhl : hi * B32 + lw = g * vi) (hgv : g * vi + c < B32 * B32) (hc : c < B32) (hb : b ≤ 1)
  (hv : val B32 U + g * val B32 (v.take i) * B32 ^ j = val B32 U0 + (b + c) * B32 ^ k) :
  hi + addHi lw c 0 < B32 ∧ subHi x (addLo lw c 0) b ≤ 1 ∧ subLo x (addLo lw c 0) b < B32 ∧
  val B32 (U.set k (subLo x (addLo lw c 0) b)) + g * val B32 (v.take (i + 1)) * B32 ^ j = val B32 U0 + (subHi x (addLo lw c 0) b + (hi + addHi lw c 0)) * B32 ^ (k + 1) := by
 have ap := add_parts hlo hc (show 0 ≤ 1 by omega)
 have sp := sub_parts hx ap.2.1 hb
 generalize addLo lw c 0 = s at *
 generalize addHi lw c 0 = a at *
 generalize subLo x s b = u' at *
 generalize subHi x s b = b' at *
 have hca : hi + a < B32 := by
  have : (hi + a) * B32 < B32 * B32 := by rw [Nat.add_mul]; omega
  exact Nat.lt_of_mul_lt_mul_right this
 refine ⟨hca, sp.2.2, sp.2.1, ?_⟩
 ·have v1 := val_set B32 U k u' hlen
  rw [hU] at v1
  rw [val_take_succ, hvi, Nat.pow_succ]
  have e1 : g * (val B32 (v.take i) + vi * B32 ^ i) * B32 ^ j = g * val B32 (v.take i) * B32 ^ j + (g * vi) * B32 ^ k := by
   rw [hk, Nat.pow_add]; grind
  rw [e1]
  generalize B32 ^ k = P at *
  generalize g * val B32 (v.take i) * B32 ^ j = G at *
  generalize val B32 (U.set k u') = A at *
  generalize val B32 U = A0 at *
  generalize val B32 U0 = Z at *
  have e2 : (u' + s + b) * P = (x + b' * B32) * P := by rw [sp.1]
  have e3 : (s + a * B32) * P = (lw + c) * P := by rw [← Nat.add_zero (lw + c), ← ap.1]
  have e4 : (hi * B32 + lw) * P = (g * vi) * P := by rw [hhl]
  grind
theorem add_round (U U0 v : List Nat) (j i k c x vi : Nat) (hk : k = j + i) (hlen : k < U.length) (hx : x < B32) (hU : U.getD k 0 = x) (hvi : v.getD i 0 = vi) (hvW : vi < B32) (hc : c ≤ 1)
  (hv : val B32 U + c * B32 ^ k = val B32 U0 + val B32 (v.take i) * B32 ^ j) :
  addLo x vi c < B32 ∧ addHi x vi c ≤ 1 ∧ val B32 (U.set k (addLo x vi c)) + addHi x vi c * B32 ^ (k + 1) = val B32 U0 + val B32 (v.take (i + 1)) * B32 ^ j := by
 have ap := add_parts hx hvW hc
 generalize addLo x vi c = s at *
 generalize addHi x vi c = a at *
 refine ⟨ap.2.1, ap.2.2, ?_⟩
 have v1 := val_set B32 U k s hlen
 rw [hU] at v1
 rw [val_take_succ, hvi, Nat.pow_succ]
 have e1 : (val B32 (v.take i) + vi * B32 ^ i) * B32 ^ j = val B32 (v.take i) * B32 ^ j + vi * B32 ^ k := by
  rw [hk, Nat.pow_add]; grind
 rw [e1]
 generalize B32 ^ k = P at *
 generalize val B32 (v.take i) * B32 ^ j = G at *
 generalize val B32 (U.set k s) = A at *
 generalize val B32 U = A0 at *
 generalize val B32 U0 = Z at *
 have e2 : (s + a * B32) * P = (x + vi + c) * P := by rw [ap.1]
 grind
structure Long (X V n g : Nat) (U q : List Nat) : Prop where
 dU : Dig B32 U
 dq : Dig B32 q
 top : val B32 (U.drop g) < V
 sum : X = val B32 U + V * val B32 q
 low : ∀ k, k < g → q.getD k 0 = 0
theorem Long.rem {X V n j : Nat} {U q : List Nat} (h : Long X V n (j + 1) U q) (hj : j + (n + 1) ≤ U.length) (hV : V < B32 ^ n) :
  val B32 (mid U j (n + 1)) < B32 * V ∧ val B32 (U.drop j) = val B32 (mid U j (n + 1)) ∧ val B32 (U.drop (j + (n + 1))) = 0 := by
 have h1 := val_drop B32 U j
 have h2 := h.dU.getD (show 0 < B32 by decide) j
 have h3 := h.top
 have h0 : val B32 (U.drop (j + (n + 1))) = 0 := by
  have e := val_split B32 (U.drop (j + 1)) n (by simp; omega)
  rw [List.drop_drop, show j + 1 + n = j + (n + 1) by omega] at e
  rcases Nat.eq_zero_or_pos (val B32 (U.drop (j + (n + 1)))) with h | h
  ·exact h
  ·exfalso
   have : B32 ^ n * 1 ≤ B32 ^ n * val B32 (U.drop (j + (n + 1))) := Nat.mul_le_mul_left _ h
   omega
 have h4 : val B32 (U.drop j) = val B32 (mid U j (n + 1)) := by
  have e := val_split B32 (U.drop j) (n + 1) (by simp; omega)
  rw [List.drop_drop, h0, Nat.mul_zero, Nat.add_zero] at e
  exact e
 refine ⟨?_, h4, h0⟩
 rw [← h4, h1]
 have : B32 * (val B32 (U.drop (j + 1)) + 1) ≤ B32 * V := Nat.mul_le_mul_left _ h3
 rw [Nat.mul_add] at this; omega
theorem Long.next {X V n j : Nat} {U q U' : List Nat} (h : Long X V n (j + 1) U q) (hj : j + (n + 1) ≤ U.length) (hV : V < B32 ^ n) (hV0 : 0 < V) (hjq : j < q.length) (ha : Alike U' U j (n + 1)) (hD : Dig B32 U')
  (hm : val B32 (mid U' j (n + 1)) = val B32 (mid U j (n + 1)) % V) : Long X V n j U' (q.set j (val B32 (mid U j (n + 1)) / V)) := by
 obtain ⟨r1, r2, r3⟩ := h.rem hj hV
 have hlt := Nat.mod_lt (val B32 (mid U j (n + 1))) hV0
 have e := Nat.div_add_mod (val B32 (mid U j (n + 1))) V
 have hdg : val B32 (mid U j (n + 1)) / V < B32 := Nat.div_lt_of_lt_mul (by rw [Nat.mul_comm]; exact r1)
 have hj' : j + (n + 1) ≤ U'.length := by rw [ha.1]; exact hj
 refine ⟨hD, h.dq.set _ _ hdg, ?_, ?_, fun k hk => by rw [getD_set_ne _ _ _ _ (by omega)]; exact h.low k (by omega)⟩
 ·have e2 := val_split B32 (U'.drop j) (n + 1) (by simp; omega)
  rw [List.drop_drop, ha.drop, r3, Nat.mul_zero, Nat.add_zero] at e2
  rw [e2]
  show val B32 (mid U' j (n + 1)) < V
  rw [hm]; exact hlt
 ·have v1 := val_set B32 q j (val B32 (mid U j (n + 1)) / V) hjq
  rw [h.low j (by omega), Nat.zero_mul, Nat.add_zero] at v1
  rw [v1, h.sum, val_mid U j (n + 1) hj, val_mid U' j (n + 1) hj', ha.take, ha.drop, r3, hm]
  generalize val B32 (mid U j (n + 1)) / V = d at *
  generalize val B32 (mid U j (n + 1)) % V = m at *
  generalize val B32 (mid U j (n + 1)) = R at *
  subst e
  grind
theorem divisor_facts (y' : List Nat) (t s k : Nat) (hD : Dig B32 y') (h1 : t < 2 ^ k) (h2 : 2 ^ (k - 1) ≤ t) (hk : 0 < k) (hs : s + k = 32) :
  (val B32 y' + t * B32 ^ y'.length) * 2 ^ s < B32 ^ (y'.length + 1) ∧ B32 ^ (y'.length + 1) ≤ 2 * ((val B32 y' + t * B32 ^ y'.length) * 2 ^ s) := by
 have hv := val_lt hD
 have e : B32 = 2 ^ k * 2 ^ s := by rw [B32_pow, ← Nat.pow_add]; congr 1; omega
 have e2 : B32 = 2 * (2 ^ (k - 1) * 2 ^ s) := by rw [e, ← Nat.mul_assoc, Nat.mul_comm 2, ← Nat.pow_succ]; congr 2; omega
 rw [Nat.pow_succ]
 generalize val B32 y' = v at *
 generalize B32 ^ y'.length = P at *
 have hs0 : 0 < 2 ^ s := Nat.pow_pos (by omega)
 constructor
 ·have h3 : (v + t * P) < 2 ^ k * P := by
   have : (t + 1) * P ≤ 2 ^ k * P := Nat.mul_le_mul_right _ h1
   rw [Nat.add_mul] at this; omega
  have := Nat.mul_lt_mul_of_pos_right h3 hs0
  have e3 : 2 ^ k * P * 2 ^ s = P * B32 := by rw [e]; grind
  omega
 ·have h3 : 2 ^ (k - 1) * P ≤ v + t * P := by
   have : 2 ^ (k - 1) * P ≤ t * P := Nat.mul_le_mul_right _ h2
   omega
  have := Nat.mul_le_mul_right (2 ^ s) h3
  have e3 : P * B32 = 2 * (2 ^ (k - 1) * P * 2 ^ s) := by
   have : P * B32 = P * (2 * (2 ^ (k - 1) * 2 ^ s)) := by rw [← e2]
   rw [this]; grind
  omega
theorem top_words (l : List Nat) (n : Nat) (h : Dig B32 l) (hl : l.length = n) (hn : 2 ≤ n) : val B32 l = (l.getD (n - 1) 0 * B32 + l.getD (n - 2) 0) * B32 ^ (n - 2) + val B32 (l.take (n - 2)) ∧ val B32 (l.take (n - 2)) < B32 ^ (n - 2) := by
 have e := val_split B32 l (n - 2) (by omega)
 have hlt := val_lt (h.take (n - 2))
 rw [List.length_take, Nat.min_eq_left (by omega)] at hlt
 refine ⟨?_, hlt⟩
 rw [e, val_drop, val_drop B32 l (n - 2 + 1), show n - 2 + 1 = n - 1 by omega, List.drop_of_length_le (show l.length ≤ n - 1 + 1 by omega), val_nil]
 grind
theorem top_half (l : List Nat) (n : Nat) (h : Dig B32 l) (hl : l.length = n) (hn : 1 ≤ n) (hV : B32 ^ n ≤ 2 * val B32 l) : B32 ≤ 2 * l.getD (n - 1) 0 := by
 have e := val_split B32 l (n - 1) (by omega)
 have hlt := val_lt (h.take (n - 1))
 rw [List.length_take, Nat.min_eq_left (by omega)] at hlt
 rw [val_drop, show n - 1 + 1 = n by omega, List.drop_of_length_le (show l.length ≤ n by omega), val_nil, Nat.mul_zero, Nat.add_zero] at e
 generalize l.getD (n - 1) 0 = v1 at *
 obtain ⟨m, rfl⟩ : ∃ m, n = m + 1 := ⟨n - 1, by omega⟩
 rw [Nat.add_sub_cancel] at *
 rw [Nat.pow_succ] at hV
 generalize val B32 (l.take m) = a at *
 generalize val B32 l = b at *
 generalize B32 ^ m = P at *
 have h1 : P * B32 < P * (2 * (v1 + 1)) := by
  have : P * (2 * (v1 + 1)) = 2 * (P * v1) + 2 * P := by grind
  omega
 have h2 := Nat.lt_of_mul_lt_mul_left h1
 simp only [B32_val] at *
 omega
theorem top3_words (l : List Nat) (n : Nat) (h : Dig B32 l) (hl : l.length = n + 1) (hn : 2 ≤ n) : val B32 l = ((l.getD n 0 * B32 + l.getD (n - 1) 0) * B32 + l.getD (n - 2) 0) * B32 ^ (n - 2) + val B32 (l.take (n - 2)) ∧ val B32 (l.take (n - 2)) < B32 ^ (n - 2) := by
 have e := val_split B32 l (n - 2) (by omega)
 have hlt := val_lt (h.take (n - 2))
 rw [List.length_take, Nat.min_eq_left (by omega)] at hlt
 refine ⟨?_, hlt⟩
 rw [e, val_drop, val_drop B32 l (n - 2 + 1), show n - 2 + 1 = n - 1 by omega, val_drop B32 l (n - 1 + 1), show n - 1 + 1 = n by omega, List.drop_of_length_le (show l.length ≤ n + 1 by omega), val_nil]
 grind
theorem getD_mid (l : List Nat) (j k i : Nat) (hi : i < k) : (mid l j k).getD i 0 = l.getD (j + i) 0 := by
 unfold mid; rw [getD_take, if_pos hi, getD_drop]
theorem Long.guess {X V n j : Nat} {U q vl : List Nat} (h : Long X V n (j + 1) U q) (hj : j + (n + 1) ≤ U.length) (hn : 2 ≤ n) (hV : V < B32 ^ n) (hVh : B32 ^ n ≤ 2 * V) (hvl : vl.length = n) (hvD : Dig B32 vl) (hvV : val B32 vl = V) :
  U.getD (j + n) 0 ≤ vl.getD (n - 1) 0 ∧ ∀ g, g < B32 → g * (vl.getD (n - 1) 0 * B32 + vl.getD (n - 2) 0) ≤ (U.getD (j + n) 0 * B32 + U.getD (j + (n - 1)) 0) * B32 + U.getD (j + (n - 2)) 0 →
   ((U.getD (j + n) 0 * B32 + U.getD (j + (n - 1)) 0) * B32 + U.getD (j + (n - 2)) 0 < (g + 1) * (vl.getD (n - 1) 0 * B32 + vl.getD (n - 2) 0) ∨ g = B32 - 1) →
   val B32 (mid U j (n + 1)) / V ≤ g ∧ g ≤ val B32 (mid U j (n + 1)) / V + 1 := by
 obtain ⟨r1, r2, r3⟩ := h.rem hj hV
 have htw := top_words vl n hvD hvl hn
 have h3 := top3_words (mid U j (n + 1)) n (mid_dig h.dU _ _) (mid_length _ _ _ hj) hn
 rw [getD_mid _ _ _ _ (by omega), getD_mid _ _ _ _ (by omega), getD_mid _ _ _ _ (by omega)] at h3
 rw [hvV] at htw
 have hP : B32 * B32 ^ (n - 2) ≤ V := by
  have e : B32 ^ n = B32 * (B32 * B32 ^ (n - 2)) := by rw [← Nat.mul_assoc, Nat.mul_comm, ← Nat.pow_two, ← Nat.pow_add]; congr 1; omega
  have : 2 * (B32 * B32 ^ (n - 2)) ≤ B32 * (B32 * B32 ^ (n - 2)) := Nat.mul_le_mul_right _ B32_two
  omega
 constructor
 ·have e1 : (mid U j (n + 1)).length = n + 1 := mid_length _ _ _ hj
  have h4 := h.top
  have h5 : val B32 (U.drop (j + 1)) ≥ U.getD (j + n) 0 * B32 ^ (n - 1) := by
   have e := val_split B32 (U.drop (j + 1)) (n - 1) (by simp; omega)
   rw [List.drop_drop, val_drop B32 U (j + 1 + (n - 1)), show j + 1 + (n - 1) = j + n by omega] at e
   have : U.getD (j + n) 0 * B32 ^ (n - 1) ≤ B32 ^ (n - 1) * (U.getD (j + n) 0 + B32 * val B32 (U.drop (j + n + 1))) := by
    rw [Nat.mul_comm]; exact Nat.mul_le_mul_left _ (by omega)
   omega
  have h6 : V < (vl.getD (n - 1) 0 + 1) * B32 ^ (n - 1) := by
   have e := val_split B32 vl (n - 1) (by omega)
   have hlt := val_lt (hvD.take (n - 1))
   rw [List.length_take, Nat.min_eq_left (by omega)] at hlt
   rw [val_drop, show n - 1 + 1 = n by omega, List.drop_of_length_le (show vl.length ≤ n by omega), val_nil, Nat.mul_zero, Nat.add_zero, hvV] at e
   rw [e, Nat.add_mul, Nat.mul_comm (vl.getD (n - 1) 0)]; omega
  have h7 : U.getD (j + n) 0 * B32 ^ (n - 1) < (vl.getD (n - 1) 0 + 1) * B32 ^ (n - 1) := by omega
  have := Nat.lt_of_mul_lt_mul_right h7
  omega
 ·intro g hg h1 h2
  exact knuth_guess h3.1 h3.2 htw.1 htw.2 (by decide) r1 hP h1 hg h2
theorem sub_end (U U1 : List Nat) (V g c b xu j n : Nat) (hjx : j + (n + 1) ≤ U.length) (hal : Alike U1 U j (n + 1)) (hD : Dig B32 U) (hD1 : Dig B32 U1) (hxu : U1.getD (j + n) 0 = xu) (hc : c < B32) (hb : b ≤ 1)
  (hv : val B32 U1 + g * V * B32 ^ j = val B32 U + (b + c) * B32 ^ (j + n)) (hV0 : 0 < V) (hV : V < B32 ^ n) (h1 : val B32 (mid U j (n + 1)) / V ≤ g) (h2 : g ≤ val B32 (mid U j (n + 1)) / V + 1) :
  Alike (U1.set (j + n) (subLo xu c b)) U j (n + 1) ∧ Dig B32 (U1.set (j + n) (subLo xu c b)) ∧ subHi xu c b ≤ 1 ∧
  (subHi xu c b = 0 → g = val B32 (mid U j (n + 1)) / V ∧ val B32 (mid (U1.set (j + n) (subLo xu c b)) j (n + 1)) = val B32 (mid U j (n + 1)) % V) ∧
  (subHi xu c b = 1 → g = val B32 (mid U j (n + 1)) / V + 1 ∧ val B32 (mid (U1.set (j + n) (subLo xu c b)) j (n + 1)) + V = val B32 (mid U j (n + 1)) % V + B32 ^ (n + 1)) := by
 have hku : j + n < U1.length := by rw [hal.1]; omega
 have hxW : xu < B32 := by rw [← hxu]; exact hD1.getD (by decide) _
 have sp := sub_parts hxW hc hb
 have hvs := val_set B32 U1 (j + n) (subLo xu c b) hku
 rw [hxu] at hvs
 have hU2 : val B32 (U1.set (j + n) (subLo xu c b)) + g * V * B32 ^ j = val B32 U + subHi xu c b * B32 ^ (j + (n + 1)) := by
  rw [show j + (n + 1) = j + n + 1 by omega, Nat.pow_succ]
  have e2 : (subLo xu c b + c + b) * B32 ^ (j + n) = (xu + subHi xu c b * B32) * B32 ^ (j + n) := by rw [sp.1]
  generalize B32 ^ (j + n) = P at *
  generalize g * V * B32 ^ j = G at *
  generalize val B32 (U1.set (j + n) (subLo xu c b)) = A at *
  generalize subLo xu c b = s at *
  generalize subHi xu c b = t at *
  grind
 have hal2 := hal.set (j + n) (subLo xu c b) (by omega) (by omega)
 have hD2 := hD1.set (j + n) (subLo xu c b) sp.2.1
 have hl2 : j + (n + 1) ≤ (U1.set (j + n) (subLo xu c b)).length := by rw [hal2.1]; exact hjx
 have hme := hal2.mid_eq hl2 hU2
 have hVM : V ≤ B32 ^ (n + 1) := by
  have h2 : B32 ^ n ≤ B32 ^ (n + 1) := Nat.pow_le_pow_right (by decide) (by omega)
  omega
 have hRM : val B32 (mid U j (n + 1)) < B32 ^ (n + 1) := by
  have := val_lt (mid_dig hD j (n + 1)); rwa [mid_length _ _ _ hjx] at this
 have hdM : val B32 (mid (U1.set (j + n) (subLo xu c b)) j (n + 1)) < B32 ^ (n + 1) := by
  have := val_lt (mid_dig hD2 j (n + 1)); rwa [mid_length _ _ _ hl2] at this
 have hks := knuth_sub hV0 hVM hme hdM hRM h1 h2
 exact ⟨hal2, hD2, sp.2.2, hks.1, fun h => (hks.2 (by omega)).2⟩
theorem add_end (U2 U3 : List Nat) (V c xu j n m : Nat) (hjx : j + (n + 1) ≤ U2.length) (hal : Alike U3 U2 j n) (hD3 : Dig B32 U3) (hxu : U3.getD (j + n) 0 = xu) (hc : c ≤ 1)
  (hv : val B32 U3 + c * B32 ^ (j + n) = val B32 U2 + V * B32 ^ j) (hm : val B32 (mid U2 j (n + 1)) + V = m + B32 ^ (n + 1)) (hmM : m < B32 ^ (n + 1)) :
  Alike (U3.set (j + n) ((xu + c) % B32)) U2 j (n + 1) ∧ Dig B32 (U3.set (j + n) ((xu + c) % B32)) ∧ val B32 (mid (U3.set (j + n) ((xu + c) % B32)) j (n + 1)) = m := by
 have hku : j + n < U3.length := by rw [hal.1]; omega
 have hxW : xu < B32 := by rw [← hxu]; exact hD3.getD (by decide) _
 have hal1 : Alike U3 U2 j (n + 1) := ⟨hal.1, fun i hi => hal.2 i (by omega)⟩
 have hal2 := hal1.set (j + n) ((xu + c) % B32) (by omega) (by omega)
 have hD2 := hD3.set (j + n) ((xu + c) % B32) (Nat.mod_lt _ (by decide))
 have hl2 : j + (n + 1) ≤ (U3.set (j + n) ((xu + c) % B32)).length := by rw [hal2.1]; exact hjx
 refine ⟨hal2, hD2, ?_⟩
 have hvs := val_set B32 U3 (j + n) ((xu + c) % B32) hku
 rw [hxu] at hvs
 have e := Nat.div_add_mod (xu + c) B32
 have hU : val B32 U2 + V * B32 ^ j = val B32 (U3.set (j + n) ((xu + c) % B32)) + (xu + c) / B32 * B32 ^ (j + (n + 1)) := by
  rw [show j + (n + 1) = j + n + 1 by omega, Nat.pow_succ]
  generalize (xu + c) / B32 = a at *
  generalize (xu + c) % B32 = s at *
  have e2 : (B32 * a + s) * B32 ^ (j + n) = (xu + c) * B32 ^ (j + n) := by rw [e]
  generalize B32 ^ (j + n) = P at *
  generalize val B32 (U3.set (j + n) s) = A at *
  grind
 have hal3 : Alike U2 (U3.set (j + n) ((xu + c) % B32)) j (n + 1) := ⟨hal2.1.symm, fun i hi => (hal2.2 i hi).symm⟩
 have hme := hal3.mid_eq hjx hU
 have hdM : val B32 (mid (U3.set (j + n) ((xu + c) % B32)) j (n + 1)) < B32 ^ (n + 1) := by
  have := val_lt (mid_dig hD2 j (n + 1)); rwa [mid_length _ _ _ hl2] at this
 rw [hm] at hme
 generalize val B32 (mid (U3.set (j + n) ((xu + c) % B32)) j (n + 1)) = d at *
 generalize (xu + c) / B32 = a at *
 generalize B32 ^ (n + 1) = M at *
 have ha : a = 1 := by
  rcases Nat.lt_or_ge a 1 with h | h
  ·have : a = 0 := by omega
   subst this; omega
  ·rcases Nat.lt_or_ge a 2 with h2 | h2
   ·omega
   ·have : 2 * M ≤ a * M := Nat.mul_le_mul_right M h2
    omega
 subst ha; omega
theorem Long.final {X V n xv yv s : Nat} {U q : List Nat} (h : Long X V n 0 U q) (hX : X = xv * 2 ^ s) (hVv : V = yv * 2 ^ s) (hV : V < B32 ^ n) (hn : n ≤ U.length) :
  val B32 q = xv / yv ∧ val B32 (U.take n) / 2 ^ s = xv % yv := by
 have htop := h.top
 rw [List.drop_zero] at htop
 have hsum := h.sum
 have hV0 : 0 < V := by omega
 have hs0 : 0 < 2 ^ s := Nat.pow_pos (by omega)
 have e1 : X / V = val B32 q := by rw [hsum, Nat.add_mul_div_left _ _ hV0, Nat.div_eq_of_lt htop, Nat.zero_add]
 have e2 : X % V = val B32 U := by rw [hsum, Nat.add_mul_mod_self_left, Nat.mod_eq_of_lt htop]
 have hUt : val B32 (U.take n) = val B32 U := by
  have e := val_split B32 U n hn
  rcases Nat.eq_zero_or_pos (val B32 (U.drop n)) with h0 | h0
  ·rw [h0, Nat.mul_zero, Nat.add_zero] at e; exact e.symm
  ·exfalso
   have : B32 ^ n * 1 ≤ B32 ^ n * val B32 (U.drop n) := Nat.mul_le_mul_left _ h0
   omega
 rw [hX, hVv, Nat.mul_div_mul_right _ _ hs0] at e1
 rw [hX, hVv, Nat.mul_mod_mul_right] at e2
 refine ⟨e1.symm, ?_⟩
 rw [hUt, ← e2, Nat.mul_div_cancel _ hs0]
end L32
theorem wi_inc (i : Nat) (h : i ≤ 4000000000000) : IntKind.i64.wrap ((i : Int) + 1) = ((i + 1 : Nat) : Int) := by rw [IntKind.wrap_i64]; omega
theorem wi_dec (i : Nat) (h0 : 0 < i) (h : i ≤ 4000000000000) : IntKind.i64.wrap ((i : Int) - 1) = ((i - 1 : Nat) : Int) := by rw [IntKind.wrap_i64]; omega
theorem wi_add (i j : Nat) (h : i + j ≤ 4000000000000) : IntKind.i64.wrap ((i : Int) + (j : Int)) = ((i + j : Nat) : Int) := by rw [IntKind.wrap_i64]; omega
theorem wi_mul (k i : Nat) (h : k * i ≤ 4000000000000) : IntKind.i64.wrap ((k : Int) * (i : Int)) = ((k * i : Nat) : Int) := by
 rw [← Int.natCast_mul, IntKind.wrap_i64]
 generalize k * i = q at *
 omega
theorem wi_quo (i k : Nat) (h : i ≤ 4000000000000) : IntKind.i64.wrap ((i : Int).tdiv (k : Int)) = ((i / k : Nat) : Int) := by
 rw [Int.tdiv_eq_ediv_of_nonneg (by omega), ← Int.natCast_ediv, IntKind.wrap_i64]
 have := Nat.div_le_self i k
 generalize i / k = q at *
 omega
theorem wi_rem (i k : Nat) : (i : Int).tmod (k : Int) = ((i % k : Nat) : Int) := by
 rw [Int.tmod_eq_emod_of_nonneg (by omega), Int.natCast_emod]
theorem wu_shr (x p : Nat) : (x : Int).fdiv (2 ^ p) = ((x / 2 ^ p : Nat) : Int) := by
 rw [show ((2 : Int) ^ p) = ((2 ^ p : Nat) : Int) by push_cast; rfl, Int.fdiv_eq_ediv_of_nonneg _ (Int.natCast_nonneg _), ← Int.natCast_ediv]
theorem lt_dec (a b : Nat) (h : a < b) : decide ((a : Int) < (b : Int)) = true := by simpa using h
theorem lt_dec' (a b : Nat) (h : ¬ a < b) : decide ((a : Int) < (b : Int)) = false := by simpa using h
theorem map_at {enc : Nat → Value} {l : List Nat} {i : Nat} (h : i < l.length) : (l.map enc)[i]? = some (enc (l.getD i 0)) := by
 rw [List.getElem?_map, List.getD_eq_getElem?_getD, List.getElem?_eq_getElem h]; rfl
def pickE {α : Type} (env : Env) : List Nat → (Env → Option α) → Option α
 | [], k => k []
 | t :: ts, k => match env.get t with
  | some s => pickE env ts fun r => k ((t, s) :: r)
  | none => none
def pickX {α : Type} (bx : Bxs) : List Nat → (Bxs → Option α) → Option α
 | [], k => k []
 | t :: ts, k => match bx.get t with
  | some s => pickX bx ts fun r => k ((t, s) :: r)
  | none => none
theorem pickE_spec {α : Type} {env : Env} : ∀ {ts : List Nat} {k : Env → Option α} {r : α}, pickE env ts k = some r → ∃ K, k K = some r ∧ SubL env K
 | [], k, r, h => ⟨[], h, trivial⟩
 | t :: ts, k, r, h => by
  unfold pickE at h
  split at h
  ·rename_i s hs
   obtain ⟨K, h1, h2⟩ := pickE_spec h
   exact ⟨_, h1, hs, h2⟩
  ·cases h
theorem pickX_spec {α : Type} {bx : Bxs} : ∀ {ts : List Nat} {k : Bxs → Option α} {r : α}, pickX bx ts k = some r → ∃ K, k K = some r ∧ SubX bx K
 | [], k, r, h => ⟨[], h, trivial⟩
 | t :: ts, k, r, h => by
  unfold pickX at h
  split at h
  ·rename_i s hs
   obtain ⟨K, h1, h2⟩ := pickX_spec h
   exact ⟨_, h1, hs, h2⟩
  ·cases h
theorem pickE_some {env : Env} {ts : List Nat} {K : Env} (h : pickE env ts some = some K) : SubL env K := by
 obtain ⟨K', h1, h2⟩ := pickE_spec h; cases h1; exact h2
theorem pickX_some {bx : Bxs} {ts : List Nat} {K : Bxs} (h : pickX bx ts some = some K) : SubX bx K := by
 obtain ⟨K', h1, h2⟩ := pickX_spec h; cases h1; exact h2
theorem SubL.app {env : Env} : ∀ {M K : Env}, SubL env M → SubL env K → SubL env (M ++ K)
 | [], _, _, h => h
 | (_, _) :: _, _, h, k => ⟨h.1, SubL.app h.2 k⟩
theorem SubX.app {bx : Bxs} : ∀ {M K : Bxs}, SubX bx M → SubX bx K → SubX bx (M ++ K)
 | [], _, _, h => h
 | (_, _) :: _, _, h, k => ⟨h.1, SubX.app h.2 k⟩
section
variable {P : Program} {n : Nat} {ops : Array Oper} {o : Oper} {rest : List Oper} {env : Env} {bx : Bxs} {sb : Bxs} {ow : Ows} {H : Hs} {Q : EQ} {τ : Tab} {d : Nat} {s : SV}
theorem EV.loopK {c : Code} {ι : Type} (ks kb : List Nat) (M : ι → Env) (MB : ι → Bxs) (O : ι → Ows) (I : ι → Hp → Prop) (μ : ι → Nat) (i0 : ι) {K : Env} {KB : Bxs}
  (hk : pickE env ks some = some K) (hkb : pickX bx kb some = some KB) (he : SubL env (M i0)) (hb : SubX bx (MB i0)) (ho : H.ow = O i0) (hp : ∀ i, pinAll (M i ++ K) (MB i ++ KB) = true) (h0 : I i0 H.ro)
  (h : ∀ i G, H.ro.Le G → I i G → EV P n c (M i ++ K) (MB i ++ KB) ⟨G, O i, H.base⟩ (thenQ (fun env' bx' G' => ∃ i', SubL env' (M i') ∧ SubL env' K ∧ SubX bx' (MB i') ∧ SubX bx' KB ∧ G'.ow = O i' ∧ I i' G'.ro ∧ G.Le G'.ro ∧ μ i' < μ i) Q)) : EV P n (.loop c) env bx H Q := by
 refine EV.loop (fun i => M i ++ K) (fun i => MB i ++ KB) O I μ i0 (he.app (pickE_some hk)) (hb.app (pickX_some hkb)) ho hp h0 fun i G hG hI => ?_
 refine EV.meet _ ?_ (h i G hG hI)
 rintro env' bx' G' _ ⟨i', h1, h2, h3, h4, h5⟩
 exact ⟨i', h1.app h2, h3.app h4, h5⟩
theorem EV.meetK {c c' : Code} {Q' : EQ} {ι : Type} (ks kb : List Nat) (M : ι → Env) (MB : ι → Bxs) (O : ι → Ows) (I : ι → Hp → Prop) {K : Env} {KB : Bxs}
  (hk : pickE env ks some = some K) (hkb : pickX bx kb some = some KB) (hp : ∀ i, pinAll (M i ++ K) (MB i ++ KB) = true)
  (h : EV P n c env bx H (thenQ (fun env' bx' G' => ∃ i, SubL env' (M i) ∧ SubL env' K ∧ SubX bx' (MB i) ∧ SubX bx' KB ∧ G'.ow = O i ∧ I i G'.ro) Q))
  (hR : ∀ i G, I i G → EV P n c' (M i ++ K) (MB i ++ KB) ⟨G, O i, H.base⟩ Q') : EV P n c env bx H (thenQ (fun env bx H => EV P n c' env bx H Q') Q) := by
 refine EV.meet _ ?_ h
 rintro env' bx' ⟨ro, ow, base⟩ hb ⟨i, h1, h2, h3, h4, h5, h6⟩
 have hb' : base = H.base := hb
 have h5' : ow = O i := h5
 subst hb' h5'
 exact EV.less _ _ (h1.app h2) (h3.app h4) (hp i) (hR i ro h6)
theorem EVL.meetK {c' : Code} {Q' : EQ} {ι : Type} (ks kb : List Nat) (M : ι → Env) (MB : ι → Bxs) (O : ι → Ows) (I : ι → Hp → Prop) {K : Env} {KB : Bxs}
  (hk : pickE env ks some = some K) (hkb : pickX bx kb some = some KB) (hp : ∀ i, pinAll (M i ++ K) (MB i ++ KB) = true)
  (h : EVL P n ops rest env bx H (thenQ (fun env' bx' G' => ∃ i, SubL env' (M i) ∧ SubL env' K ∧ SubX bx' (MB i) ∧ SubX bx' KB ∧ G'.ow = O i ∧ I i G'.ro) Q))
  (hR : ∀ i G, I i G → EV P n c' (M i ++ K) (MB i ++ KB) ⟨G, O i, H.base⟩ Q') : EVL P n ops rest env bx H (thenQ (fun env bx H => EV P n c' env bx H Q') Q) := by
 refine EVL.meet _ ?_ h
 rintro env' bx' ⟨ro, ow, base⟩ hb ⟨i, h1, h2, h3, h4, h5, h6⟩
 have hb' : base = H.base := hb
 have h5' : ow = O i := h5
 subst hb' h5'
 exact EV.less _ _ (h1.app h2) (h3.app h4) (hp i) (hR i ro h6)
theorem EVL.app1 {o1 o2 : Oper} {d1 : Nat} (hτ : TabOk P τ) {T : TypeId} {len : Nat} {parts : Array (Nat × Operand)} {x : Operand} (ho1 : o1.op = .buildSlice T len parts) (hg1 : o1.guard = none) (hd1 : o1.dst = some d1) (hn1 : Nat.blt d1 n = true)
  (ho2 : o2.op = .call { callee := .builtin .append, args := #[x, .tmp d1], argTypes := #[T, T] }) (hg2 : o2.guard = none) (hd2 : o2.dst = some d) (hn2 : Nat.blt d n = true) {te te' : TE} {e : TypeId} (ht : τ.get T = some te) (hk : te.kind = .slice e) (ht' : τ.get e = some te')
  (hsz : Nat.beq te'.zero.length te'.size = true) (hpos : Nat.ble 1 (len * te'.size) = true) (hsm : Nat.ble (len * te'.size) 10000 = true) {cs : List Value} (hc : zerosK te'.zero len (fun zs => litK env te'.size parts.toList zs some) = some cs)
  (hpos' : Nat.ble 1 te'.size = true) (hby : Nat.ble te'.bytes 10000 = true) (h1 : oneB cs = true) (hcl : cs.length = len * te'.size)
  {v : Value} (hx : ∀ b, Env.op ((d1, .v (.slice (some ⟨b, 0, none⟩) len len)) :: env) x = some (.v v)) (ow post : Ows) (he : H.ow = ow ++ post) {m1 : Nat} {xs : List Value} (hown : OwnL e te'.size v m1 xs ow) (hm : m1 + len ≤ 1000000000)
  (h : ∀ b v' ow', OwnL e te'.size v' (m1 + len) (xs ++ cs) ow' → EVL P n ops rest ((d, .v v') :: (d1, .v (.slice (some ⟨b, 0, none⟩) len len)) :: env) bx ⟨H.ro, ow' ++ post, H.base⟩ Q) : EVL P n ops (o1 :: o2 :: rest) env bx H Q := by
 refine EVL.lit hτ ho1 hg1 hd1 hn1 ht hk ht' hsz hpos hsm hc fun b => ?_
 refine EVL.append hτ ho2 hg2 hd2 hn2 ht hk ht' hsz hpos' hby (hx b) (u := .slice (some ⟨b, 0, none⟩) len len) (m2 := len) (ys := cs) ?_ [(b, e, cs)] ow post (by rw [he]; rfl) hown (SrcAt.own 0 rfl hcl) h1 hm fun v' ow' hown' => ?_
 ·simp only [Env.op, Env.get_cons, if_pos]
 ·exact EVL.subOw [] [(b, e, cs)] (ow' ++ post) rfl (h b v' ow' hown')
end
section
variable {P : Program} {n : Nat} {ops : Array Oper} {o : Oper} {rest : List Oper} {env : Env} {bx : Bxs} {H : Hs} {Q : EQ}
end
section
variable {P : Program} {n : Nat} {ops : Array Oper} {o : Oper} {rest : List Oper} {env : Env} {bx : Bxs} {H : Hs} {Q : EQ} {τ : Tab} {d : Nat}
end
section
variable {P : Program} {n : Nat} {ops : Array Oper} {o : Oper} {rest : List Oper} {env : Env} {bx : Bxs} {H : Hs} {Q : EQ} {τ : Tab} {d : Nat}
end
section
variable {P : Program} {n : Nat} {ops : Array Oper} {o : Oper} {rest : List Oper} {env : Env} {bx : Bxs} {H : Hs} {Q : EQ} {τ : Tab} {d : Nat}
end
end Go.Proofs.YtjekjlaokjhhgaaGreatDoor
namespace Go.Proofs.YtjekjlaokjhhgaaGreatDoor
structure G2 (B v1 v0 u c q r : Nat) : Prop where
 eq : q * v1 + r = u
 up : u * B + c < (q + 1) * (v1 * B + v0) ∨ q = B - 1
end Go.Proofs.YtjekjlaokjhhgaaGreatDoor
namespace Go.Proofs.YtjekjlaokjhhgaaGreatDoor
open Go.RowKit
theorem r4 (i : Nat) : IntKind.u64.wrap (IntKind.i64.wrap (8 * (i : Int).tmod 4)) = ((8 * (i % 4) : Nat) : Int) := by
 rw [wrapU64, IntKind.wrap_i64, Int.tmod_eq_emod_of_nonneg (by omega)]; omega
end Go.Proofs.YtjekjlaokjhhgaaGreatDoor
namespace Go.Proofs.YtjekjlaokjhhgaaGreatDoor
theorem rat_lowest (n : Int) (d : Nat) (hd : d ≠ 0) : (mkRat n d).num = n / (Nat.gcd n.natAbs d : Nat) ∧ (mkRat n d).den = d / Nat.gcd n.natAbs d := by
 rw [Rat.num_mkRat, Rat.den_mkRat, if_neg hd, if_neg hd, Nat.gcd_comm]
 exact ⟨rfl, rfl⟩
theorem rat_add (a b : Rat) (g down other h : Nat) (up : Int) (hg : g = Nat.gcd a.den b.den) (hdown : down = a.den / g) (hother : other = b.den / g) (hup : up = a.num * other + b.num * down) (hh : h = Nat.gcd up.natAbs g) :
  (a + b).num = up / (h : Nat) ∧ (a + b).den = down * (b.den / h) := by
 have ae : down * g = a.den := by rw [hdown]; exact Nat.div_mul_cancel (hg ▸ Nat.gcd_dvd_left ..)
 have be : other * g = b.den := by rw [hother]; exact Nat.div_mul_cancel (hg ▸ Nat.gcd_dvd_right ..)
 have hg0 : g ≠ 0 := by rw [hg]; exact Nat.gcd_ne_zero_left a.den_nz
 have hd0 : down * b.den ≠ 0 := by
  refine Nat.mul_ne_zero (fun e => ?_) b.den_nz
  rw [e, Nat.zero_mul] at ae; exact a.den_nz ae.symm
 have e1 : a + b = mkRat up (down * b.den) := by
  rw [Rat.add_def', ← Rat.mkRat_mul_right (n := up) (d := down * b.den) hg0]
  congr 1
  ·rw [hup, ← ae, ← be]; simp only [Int.natCast_mul]; grind
  ·rw [← ae]; grind
 have e2 : Nat.gcd up.natAbs (down * b.den) = h := by rw [hh, hup]; exact (Rat.add.aux a b hg hdown hother).symm
 have h1 := rat_lowest up (down * b.den) hd0
 rw [e2] at h1
 rw [e1]
 refine ⟨h1.1, h1.2.trans ?_⟩
 refine Nat.mul_div_assoc _ ?_
 rw [hh]
 exact Nat.dvd_trans (Nat.gcd_dvd_right ..) (hg ▸ Nat.gcd_dvd_right ..)
theorem part_eq (n : Int) (g : Nat) (h : g ∣ n.natAbs) : n / (g : Nat) = if n < 0 then -((n.natAbs / g : Nat) : Int) else ((n.natAbs / g : Nat) : Int) := by
 obtain ⟨k, hk⟩ := h
 by_cases h0 : g = 0
 ·subst h0
  have : n = 0 := by omega
  subst this; simp
 ·have hg : 0 < g := by omega
  rw [hk, Nat.mul_div_cancel_left k hg]
  by_cases hn : n < 0
  ·rw [if_pos hn]
   have : n = g * (-(k : Int)) := by rw [Int.mul_neg, ← Int.natCast_mul, ← hk]; omega
   rw [this, Int.mul_ediv_cancel_left _ (by omega)]
  ·rw [if_neg hn]
   have : n = g * (k : Int) := by rw [← Int.natCast_mul, ← hk]; omega
   rw [this, Int.mul_ediv_cancel_left _ (by omega)]
def ordR (a b : Rat) : Int := if a < b then -1 else if b < a then 1 else 0
def ordZ (a b : Int) : Int := if a < b then -1 else if b < a then 1 else 0
theorem ordR_eq (a b : Rat) : ordR a b = ordZ (a.num * b.den) (b.num * a.den) := by
 unfold ordR ordZ
 simp only [Rat.lt_iff]
end Go.Proofs.YtjekjlaokjhhgaaGreatDoor
namespace Go.Proofs.YtjekjlaokjhhgaaGreatDoor
def ht (q : Rat) : Nat := max (bl q.num.natAbs) (bl q.den)
theorem bl_num_le (q : Rat) : bl q.num.natAbs ≤ ht q := Nat.le_max_left ..
theorem bl_den_le (q : Rat) : bl q.den ≤ ht q := Nat.le_max_right ..
theorem natAbs_ediv_le (n : Int) (g : Nat) : (n / (g : Int)).natAbs ≤ n.natAbs := by
 exact Int.natAbs_ediv_le_natAbs n g
theorem ht_mk (n : Int) (d : Nat) (hd : d ≠ 0) : ht (mkRat n d) ≤ max (bl n.natAbs) (bl d) := by
 have := rat_lowest n d hd
 unfold ht
 rw [this.1, this.2]
 have h1 := bl_mono (natAbs_ediv_le n (Nat.gcd n.natAbs d))
 have h2 := bl_div d (Nat.gcd n.natAbs d)
 omega
theorem bl_natAbs_add (a b : Int) : bl (a + b).natAbs ≤ max (bl a.natAbs) (bl b.natAbs) + 1 :=
 Nat.le_trans (bl_mono (Int.natAbs_add_le a b)) (bl_add _ _)
theorem ht_int (n : Int) : ht (n : Rat) ≤ bl n.natAbs + 1 := by
 unfold ht
 have : bl 1 = 1 := bl_pow2 0
 simp only [Rat.num_intCast, Rat.den_intCast]
 omega
theorem ht_zero : ht 0 = 1 := by
 unfold ht
 have : bl 1 = 1 := bl_pow2 0
 simp only [Rat.zero_num, Rat.zero_den, Int.natAbs_zero, bl_zero]; omega
end Go.Proofs.YtjekjlaokjhhgaaGreatDoor
namespace Go.Proofs.YtjekjlaokjhhgaaGreatDoor
open Go.RowKit
def sg (b : Bool) (n : Nat) : Int := if b then -(n : Int) else n
abbrev intV (z : Int) : Value := .agg #[.bool (decide (z < 0)), .int .u64 (lo z.natAbs : Int), .string (moreB z.natAbs)]
abbrev bigI (z : Int) : Prop := big z.natAbs
theorem bl_pos_iff (n : Nat) : (0 < bl n) ↔ n ≠ 0 := by
 constructor
 ·intro h e; subst e; rw [bl_zero] at h; omega
 ·exact bl_pos
theorem bl_gt (n : Nat) : decide ((bl n : Int) > 0) = decide (n ≠ 0) := by rw [decide_eq_decide, ← bl_pos_iff]; omega
theorem sg_natAbs (b : Bool) (n : Nat) : (sg b n).natAbs = n := by unfold sg; cases b <;> simp
theorem intV_mk (b : Bool) (n : Nat) : intV (sg b n) = .agg #[.bool (b && decide (n ≠ 0)), .int .u64 (lo n : Int), .string (moreB n)] := by
 unfold sg
 cases b
 ·simp
 ·have : (-(n : Int)).natAbs = n := by omega
  simp only [if_true, intV, this, Bool.true_and]
  have e : decide (-(n : Int) < 0) = decide (n ≠ 0) := by by_cases h : n = 0 <;> simp [h]; omega
  rw [e]
theorem from_pv (b : Bool) (n : Nat) (hn : big n) : PV Tryz.prog 48 #[.bool b, natV n] (intV (sg b n)) := by
 rw [intV_mk]
 refine PV.of_pc ?_
 refine PC.body Tryz.tab_ok Tryz.func48 rfl (by kernel_rfl) Tryz.ntmps48 rfl rfl ?_
 cases b
 ·(try refine RUN ?_)
  (apply EV.drawn 8 (by kernel_rfl) (by kernel_rfl); intro xv yw; (repeat (first | refine' DD ?_)); refine DJ.nil (fun G hG hF => ?_); (case hS => rfl); (case hS2 => rfl))
  (try refine RUN ?_)
  rfl
 ·(try refine RUN ?_)
  (apply EV.drawn 8 (by kernel_rfl) (by kernel_rfl); intro xv yw; (repeat (first | refine' DD ?_ | (refine' DC (bits_pv _ hn) (h := ?_); rotate_left))); refine DJ.nil (fun G hG hF => ?_); (case hS => rfl); (case hS2 => rfl))
  (try refine RUN ?_)
  rw [bl_gt]; rfl
theorem wholeAbs_pv (z : Int) : PV Tryz.prog 81 #[intV z] (natV z.natAbs) := by
 refine PV.of_pc ?_
 refine PC.body Tryz.tab_ok Tryz.func81 rfl (by kernel_rfl) Tryz.ntmps81 rfl rfl ?_
 (try refine RUN ?_)
 rfl
theorem wholeNeg_pv (z : Int) (hz : bigI z) : PV Tryz.prog 80 #[intV z] (intV (-z)) := by
 have e : sg (!decide (z < 0)) z.natAbs = -z := by
  unfold sg
  by_cases h : z < 0
  ·simp only [h, decide_true, Bool.not_true, Bool.false_eq_true, if_false]; omega
  ·simp only [h, decide_false, Bool.not_false, if_true]; omega
 have hf := from_pv (!decide (z < 0)) z.natAbs hz
 rw [e] at hf
 refine PV.of_pc ?_
 refine PC.body Tryz.tab_ok Tryz.func80 rfl (by kernel_rfl) Tryz.ntmps80 rfl rfl ?_
 repeat (first | refine RUN ?_ | refine CV (hf) ?_ | refine CE (hf) ?_)
 rfl
theorem wholeSign_pv (z : Int) (hz : bigI z) : PV Tryz.prog 45 #[intV z] (.int .i64 z.sign) := by
 refine PV.of_pc ?_
 refine PC.body Tryz.tab_ok Tryz.func45 rfl (by kernel_rfl) Tryz.ntmps45 rfl rfl ?_
 (try refine RUN ?_)
 by_cases h : z < 0
 ·rw [decide_eq_true h]
  (try refine RUN ?_)
  rw [Int.sign_eq_neg_one_of_neg h]
 ·rw [decide_eq_false h]
  repeat (first | refine RUN ?_ | refine CV (bits_pv _ hz) ?_ | refine CE (bits_pv _ hz) ?_)
  rw [bl_gt]
  by_cases h0 : z = 0
  ·subst h0
   rw [show decide ((0 : Int).natAbs ≠ 0) = false from rfl]
   (try refine RUN ?_)
   rfl
  ·rw [show decide (z.natAbs ≠ 0) = true by simp; omega]
   (try refine RUN ?_)
   rw [Int.sign_eq_one_of_pos (by omega)]
theorem wholeCmp_pv (a b : Int) (ha : bigI a) (hb : bigI b) : PV Tryz.prog 53 #[intV a, intV b] (.int .i64 (ordZ a b)) := by
 refine PV.of_pc ?_
 refine PC.body Tryz.tab_ok Tryz.func53 rfl (by kernel_rfl) Tryz.ntmps53 rfl rfl ?_
 (try refine RUN ?_)
 by_cases h : a < 0
 ·rw [decide_eq_true h]
  (try refine RUN ?_)
  by_cases h' : b < 0
  ·rw [decide_eq_true h']
   repeat (first | refine RUN ?_ | refine CV (natCmp_pv _ _ hb ha) ?_ | refine CE (natCmp_pv _ _ hb ha) ?_)
   have e : ordN b.natAbs a.natAbs = ordZ a b := by unfold ordN ordZ; repeat' split <;> omega
   rw [e]
  ·rw [decide_eq_false h']
   (try refine RUN ?_)
   rw [show ordZ a b = -1 by unfold ordZ; rw [if_pos (by omega)]]
 ·rw [decide_eq_false h]
  (try refine RUN ?_)
  by_cases h' : b < 0
  ·rw [decide_eq_true h']
   (try refine RUN ?_)
   rw [show ordZ a b = 1 by unfold ordZ; rw [if_neg (by omega), if_pos (by omega)]]
  ·rw [decide_eq_false h']
   repeat (first | refine RUN ?_ | refine CV (natCmp_pv _ _ ha hb) ?_ | refine CE (natCmp_pv _ _ ha hb) ?_)
   have e : ordN a.natAbs b.natAbs = ordZ a b := by unfold ordN ordZ; repeat' split <;> omega
   rw [e]
theorem wholeOf_pv (z : Int) (h1 : -9223372036854775808 ≤ z) (h2 : z < 9223372036854775808) : PV Tryz.prog 22 #[.int .i64 z] (intV z) := by
 refine PV.of_pc ?_
 refine PC.body Tryz.tab_ok Tryz.func22 rfl (by kernel_rfl) Tryz.ntmps22 rfl rfl ?_
 (try refine RUN ?_)
 have hn : z.natAbs < W64 := by rw [W64_val]; omega
 by_cases h : z < 0
 ·rw [decide_eq_true h]
  (try refine RUN ?_)
  rw [show IntKind.u64.wrap (0 - IntKind.u64.wrap z) = (z.natAbs : Int) by rw [wrapU64, wrapU64]; omega]
  repeat (first | refine RUN ?_ | refine CV (natOf_pv z.natAbs hn) ?_ | refine CE (natOf_pv z.natAbs hn) ?_)
  simp only [intV, decide_eq_true h]
 ·rw [decide_eq_false h]
  (try refine RUN ?_)
  rw [show IntKind.u64.wrap z = (z.natAbs : Int) by rw [wrapU64]; omega]
  repeat (first | refine RUN ?_ | refine CV (natOf_pv z.natAbs hn) ?_ | refine CE (natOf_pv z.natAbs hn) ?_)
  simp only [intV, decide_eq_false h]
theorem sg_mul (a b : Int) : sg (!(decide (a < 0) == decide (b < 0))) (a.natAbs * b.natAbs) = a * b := by
 rw [← Int.natAbs_mul]
 unfold sg
 by_cases ha : a < 0 <;> by_cases hb : b < 0
 ·have := Int.mul_pos_of_neg_of_neg ha hb; simp [ha, hb]; omega
 ·have := Int.mul_nonpos_of_nonpos_of_nonneg (Int.le_of_lt ha) (Int.not_lt.1 hb); simp [ha, hb]; omega
 ·have := Int.mul_nonpos_of_nonneg_of_nonpos (Int.not_lt.1 ha) (Int.le_of_lt hb); simp [ha, hb]; omega
 ·have := Int.mul_nonneg (Int.not_lt.1 ha) (Int.not_lt.1 hb); simp [ha, hb]; omega
theorem wholeMul_pv (a b : Int) (ha : bigI a) (hb : bigI b) (hab : bigI (a * b)) : PV Tryz.prog 91 #[intV a, intV b] (intV (a * b)) := by
 have hf := from_pv (!(decide (a < 0) == decide (b < 0))) (a.natAbs * b.natAbs) (by rw [← Int.natAbs_mul]; exact hab)
 rw [sg_mul] at hf
 refine PV.of_pc ?_
 refine PC.body Tryz.tab_ok Tryz.func91 rfl (by kernel_rfl) Tryz.ntmps91 rfl rfl ?_
 (try refine RUN ?_)
 apply EV.drawn 10 (by kernel_rfl) (by kernel_rfl); intro xv yw
 (repeat refine' DD ?_)
 refine' DJ.ofVal (ValOk.neb rfl rfl rfl rfl (by kernel_rfl)) rfl rfl rfl ?_; rotate_left
 (repeat (first | refine' DD ?_ | (refine' DC (natMul_pv _ _ ha hb) (h := ?_); rotate_left)))
 (refine DJ.nil (fun G hG hF => ?_); (case hS => rfl); (case hS2 => rfl))
 repeat (first | refine RUN ?_ | refine CV (hf) ?_ | refine CE (hf) ?_)
 rfl
theorem wholeAdd_pv (a b : Int) (ha : bigI a) (hb : bigI b) (hs : big (a.natAbs + b.natAbs)) : PV Tryz.prog 56 #[intV a, intV b] (intV (a + b)) := by
 have hm : big (a.natAbs - b.natAbs) := Nat.le_trans (bl_mono (Nat.sub_le _ _)) ha
 have hm' : big (b.natAbs - a.natAbs) := Nat.le_trans (bl_mono (Nat.sub_le _ _)) hb
 have f1 := from_pv (decide (a < 0)) _ hs
 have f2 := from_pv (decide (a < 0)) _ hm
 have f3 := from_pv (decide (b < 0)) _ hm'
 refine PV.of_pc ?_
 refine PC.body Tryz.tab_ok Tryz.func56 rfl (by kernel_rfl) Tryz.ntmps56 rfl rfl ?_
 (try refine RUN ?_)
 refine EVL.eqb rfl rfl rfl rfl rfl rfl (by kernel_rfl) ?_
 (try refine RUN ?_)
 by_cases h : decide (a < 0) = decide (b < 0)
 ·have e : sg (decide (a < 0)) (a.natAbs + b.natAbs) = a + b := by
   rw [decide_eq_decide] at h; unfold sg; by_cases ha : a < 0 <;> simp [ha] <;> omega
  rw [e] at f1
  rw [beq_iff_eq.2 h]
  (try refine RUN ?_)
  apply EV.drawn 8 (by kernel_rfl) (by kernel_rfl); intro xv yw
  (repeat (first | refine' DD ?_ | (refine' DC (natAdd_pv _ _ ha hb) (h := ?_); rotate_left) | (refine' DC (f1) (h := ?_); rotate_left)))
  (refine DJ.nil (fun G hG hF => ?_); (case hS => rfl); (case hS2 => rfl))
  (try refine RUN ?_)
  rfl
 ·rw [beq_eq_false_iff_ne.2 h]
  rw [decide_eq_decide] at h
  repeat (first | refine RUN ?_ | refine CV (natSub_pv _ _ ha hb) ?_ | refine CE (natSub_pv _ _ ha hb) ?_)
  by_cases hle : b.natAbs ≤ a.natAbs
  ·have e : sg (decide (a < 0)) (a.natAbs - b.natAbs) = a + b := by
    unfold sg; by_cases ha : a < 0 <;> simp [ha] <;> omega
   rw [e] at f2
   rw [decide_eq_true hle]
   repeat (first | refine RUN ?_ | refine CV (f2) ?_ | refine CE (f2) ?_)
   rfl
  ·have e : sg (decide (b < 0)) (b.natAbs - a.natAbs) = a + b := by
    unfold sg; by_cases ha : b < 0 <;> simp [ha] <;> omega
   rw [e] at f3
   rw [decide_eq_false hle]
   repeat (first | refine RUN ?_ | refine CV (natSub_pv _ _ hb ha) ?_ | refine CV (f3) ?_ | refine CE (natSub_pv _ _ hb ha) ?_ | refine CE (f3) ?_)
   rfl
theorem floor_cases (a b : Int) (hb : b ≠ 0) :
  if (!(decide (a < 0) == decide (b < 0)) && decide (a.natAbs % b.natAbs ≠ 0)) = true
  then sg (!(decide (a < 0) == decide (b < 0))) (a.natAbs / b.natAbs + 1) = a.fdiv b ∧ sg (decide (b < 0)) (b.natAbs - a.natAbs % b.natAbs) = a.fmod b
  else sg (!(decide (a < 0) == decide (b < 0))) (a.natAbs / b.natAbs) = a.fdiv b ∧ sg (decide (b < 0)) (a.natAbs % b.natAbs) = a.fmod b := by
 have hB : 0 < b.natAbs := by omega
 have h1 := Nat.div_add_mod a.natAbs b.natAbs
 have h2 := Nat.mod_lt a.natAbs hB
 generalize a.natAbs / b.natAbs = n at *
 generalize a.natAbs % b.natAbs = r at *
 have h1' : (b.natAbs : Int) * (n : Int) + (r : Int) = (a.natAbs : Int) := by exact_mod_cast h1
 rcases Int.lt_or_lt_of_ne hb with h | h
 ·have eb : (b.natAbs : Int) = -b := by omega
  rw [eb] at h1'
  rw [decide_eq_true h]
  by_cases ha : a < 0
  ·rw [decide_eq_true ha]
   simp only [BEq.rfl, Bool.not_true, Bool.false_and, Bool.false_eq_true, if_false, sg, if_true]
   refine (fun x => ⟨x.1.symm, x.2.symm⟩) ((Int.fdiv_fmod_unique' h).2 ⟨?_, by omega, by omega⟩)
   have : (a.natAbs : Int) = -a := by omega
   rw [Int.neg_mul] at h1'; omega
  ·rw [decide_eq_false ha]
   have : (a.natAbs : Int) = a := by omega
   by_cases hr : r = 0
   ·simp only [show ((false == true) = false) from rfl, Bool.not_false, hr, ne_eq, not_true_eq_false, decide_false, Bool.and_false, Bool.false_eq_true, if_false, sg, if_true]
    refine (fun x => ⟨x.1.symm, x.2.symm⟩) ((Int.fdiv_fmod_unique' h).2 ⟨?_, by omega, by omega⟩)
    rw [Int.neg_mul] at h1'; rw [Int.mul_neg]; omega
   ·simp only [show ((false == true) = false) from rfl, Bool.not_false, hr, ne_eq, not_false_eq_true, decide_true, Bool.and_true, if_true, sg]
    refine (fun x => ⟨x.1.symm, x.2.symm⟩) ((Int.fdiv_fmod_unique' h).2 ⟨?_, by omega, by omega⟩)
    rw [Int.neg_mul] at h1'; rw [Int.mul_neg, Int.natCast_add, Int.mul_add]; omega
 ·have eb : (b.natAbs : Int) = b := by omega
  rw [eb] at h1'
  rw [decide_eq_false (show ¬ b < 0 by omega)]
  by_cases ha : a < 0
  ·rw [decide_eq_true ha]
   have : (a.natAbs : Int) = -a := by omega
   by_cases hr : r = 0
   ·simp only [show ((true == false) = false) from rfl, Bool.not_false, hr, ne_eq, not_true_eq_false, decide_false, Bool.and_false, Bool.false_eq_true, if_false, sg, if_true]
    refine (fun x => ⟨x.1.symm, x.2.symm⟩) ((Int.fdiv_fmod_unique h).2 ⟨?_, by omega, by omega⟩)
    rw [Int.mul_neg]; omega
   ·simp only [show ((true == false) = false) from rfl, Bool.not_false, hr, ne_eq, not_false_eq_true, decide_true, Bool.and_true, if_true, Bool.false_eq_true, if_false, sg]
    refine (fun x => ⟨x.1.symm, x.2.symm⟩) ((Int.fdiv_fmod_unique h).2 ⟨?_, by omega, by omega⟩)
    rw [Int.mul_neg, Int.natCast_add, Int.mul_add]; omega
  ·rw [decide_eq_false ha]
   simp only [BEq.rfl, Bool.not_true, Bool.false_and, Bool.false_eq_true, if_false, sg]
   refine (fun x => ⟨x.1.symm, x.2.symm⟩) ((Int.fdiv_fmod_unique h).2 ⟨?_, by omega, by omega⟩)
   have : (a.natAbs : Int) = a := by omega
   omega
theorem wholeDiv_pv (a b : Int) (hb : b ≠ 0) (ha : big (a.natAbs + 1)) (hB : bigI b) : PV Tryz.prog 76 #[intV a, intV b] (.tuple #[intV (a.fdiv b), intV (a.fmod b), .bool true]) := by
 have ha' : bigI a := Nat.le_trans (bl_mono (by omega)) ha
 have hbn : b.natAbs ≠ 0 := by omega
 have hq : big (a.natAbs / b.natAbs + 1) := Nat.le_trans (bl_mono (Nat.add_le_add_right (Nat.div_le_self _ _) 1)) ha
 have hq' : big (a.natAbs / b.natAbs) := Nat.le_trans (bl_mono (Nat.div_le_self _ _)) ha'
 have hr : big (a.natAbs % b.natAbs) := Nat.le_trans (bl_mod _ _) ha'
 have hr' : big (b.natAbs - a.natAbs % b.natAbs) := Nat.le_trans (bl_mono (Nat.sub_le _ _)) hB
 have f1 := from_pv (!(decide (a < 0) == decide (b < 0))) _ hq
 have f2 := from_pv (!(decide (a < 0) == decide (b < 0))) _ hq'
 have f3 := from_pv (decide (b < 0)) _ hr
 have f4 := from_pv (decide (b < 0)) _ hr'
 have h1 := natOf_pv 1 (by decide)
 have hb1 : big 1 := by decide +kernel
 have hle : a.natAbs % b.natAbs ≤ b.natAbs := Nat.le_of_lt (Nat.mod_lt _ (by omega))
 have hsub := natSub_pv b.natAbs (a.natAbs % b.natAbs) hB hr
 rw [decide_eq_true hle] at hsub
 have hfc := floor_cases a b hb
 refine PV.of_pc ?_
 refine PC.body Tryz.tab_ok Tryz.func76 rfl (by kernel_rfl) Tryz.ntmps76 rfl rfl ?_
 repeat (first | refine RUN ?_ | refine CV (natDiv_pv a.natAbs b.natAbs hbn ha' hB) ?_ | refine CE (natDiv_pv a.natAbs b.natAbs hbn ha' hB) ?_)
 refine EVL.neb rfl rfl rfl rfl rfl rfl (by kernel_rfl) ?_
 generalize hs : (!(decide (a < 0) == decide (b < 0))) = s at *
 cases s
 ·simp only [Bool.false_and, Bool.false_eq_true, if_false] at hfc
  rw [hfc.1] at f2
  rw [hfc.2] at f3
  (try refine RUN ?_)
  apply EV.drawn 10 (by kernel_rfl) (by kernel_rfl); intro xv yw
  (repeat refine' DD ?_)
  refine' DJ.ofVal (ValOk.neb rfl rfl rfl rfl (by kernel_rfl)) rfl rfl rfl ?_; rotate_left
  rw [hs]
  (repeat (first | refine' DD ?_ | (refine' DC (f2) (h := ?_); rotate_left) | (refine' DC (f3) (h := ?_); rotate_left)))
  (refine DJ.nil (fun G hG hF => ?_); (case hS => rfl); (case hS2 => rfl))
  repeat (first | refine RUN ?_ | refine CV (f2) ?_ | refine CV (f3) ?_ | refine CE (f2) ?_ | refine CE (f3) ?_)
  rfl
 ·repeat (first | refine RUN ?_ | refine CV (bits_pv _ hr) ?_ | refine CE (bits_pv _ hr) ?_)
  rw [bl_gt]
  by_cases h0 : a.natAbs % b.natAbs ≠ 0
  ·rw [decide_eq_true h0] at hfc ⊢
   simp only [Bool.and_true, if_true] at hfc
   rw [hfc.1] at f1
   rw [hfc.2] at f4
   (try refine RUN ?_)
   apply EV.drawn 2 (by kernel_rfl) (by kernel_rfl); intro xv yw
   (repeat (first | refine' DD ?_ | (refine' DC (h1) (h := ?_); rotate_left)))
   (refine DJ.nil (fun G hG hF => ?_); (case hS => rfl); (case hS2 => rfl))
   repeat (first | refine RUN ?_ | refine CV (natAdd_pv _ _ hq' hb1) ?_ | refine CV (hsub) ?_ | refine CE (natAdd_pv _ _ hq' hb1) ?_ | refine CE (hsub) ?_)
   apply EV.drawn 10 (by kernel_rfl) (by kernel_rfl); intro xv yw
   (repeat refine' DD ?_)
   refine' DJ.ofVal (ValOk.neb rfl rfl rfl rfl (by kernel_rfl)) rfl rfl rfl ?_; rotate_left
   rw [hs]
   (repeat (first | refine' DD ?_ | (refine' DC (f1) (h := ?_); rotate_left) | (refine' DC (f4) (h := ?_); rotate_left)))
   (refine DJ.nil (fun G hG hF => ?_); (case hS => rfl); (case hS2 => rfl))
   repeat (first | refine RUN ?_ | refine CV (f1) ?_ | refine CV (f4) ?_ | refine CE (f1) ?_ | refine CE (f4) ?_)
   rfl
  ·rw [decide_eq_false h0] at hfc ⊢
   simp only [Bool.and_false, Bool.false_eq_true, if_false] at hfc
   rw [hfc.1] at f2
   rw [hfc.2] at f3
   (try refine RUN ?_)
   apply EV.drawn 10 (by kernel_rfl) (by kernel_rfl); intro xv yw
   (repeat refine' DD ?_)
   refine' DJ.ofVal (ValOk.neb rfl rfl rfl rfl (by kernel_rfl)) rfl rfl rfl ?_; rotate_left
   rw [hs]
   (repeat (first | refine' DD ?_ | (refine' DC (f2) (h := ?_); rotate_left) | (refine' DC (f3) (h := ?_); rotate_left)))
   (refine DJ.nil (fun G hG hF => ?_); (case hS => rfl); (case hS2 => rfl))
   repeat (first | refine RUN ?_ | refine CV (f2) ?_ | refine CV (f3) ?_ | refine CE (f2) ?_ | refine CE (f3) ?_)
   rfl
def Wn (cs : List Value) (off : Nat) (l : List Nat) : Prop := off + l.length ≤ cs.length ∧ ∀ j, j < l.length → cs[off + j]? = some (n64 (l.getD j 0))
theorem Wn.of (l : List Nat) : Wn (l.map n64) 0 l := ⟨by simp, fun j hj => by rw [Nat.zero_add]; exact map_at hj⟩
theorem Wn.take {cs : List Value} {off : Nat} {l : List Nat} (h : Wn cs off l) (k : Nat) : Wn cs off (l.take k) := by
 refine ⟨by have := h.1; rw [List.length_take]; omega, fun j hj => ?_⟩
 rw [List.length_take] at hj
 rw [h.2 j (by omega), getD_take, if_pos (by omega)]
theorem Wn.drop {cs : List Value} {off : Nat} {l : List Nat} (h : Wn cs off l) (k : Nat) (hk : k ≤ l.length) : Wn cs (off + k) (l.drop k) := by
 refine ⟨by have := h.1; rw [List.length_drop]; omega, fun j hj => ?_⟩
 rw [List.length_drop] at hj
 rw [Nat.add_assoc, h.2 (k + j) (by omega), getD_drop]
theorem Wn.set {cs : List Value} {off : Nat} {l : List Nat} (h : Wn cs off l) (k x : Nat) (hk : k < l.length) : Wn (cs.set (off + k) (n64 x)) off (l.set k x) := by
 refine ⟨by rw [List.length_set, List.length_set]; exact h.1, fun j hj => ?_⟩
 rw [List.length_set] at hj
 by_cases e : k = j
 ·subst e
  rw [List.getElem?_set_self (by have := h.1; omega), getD_set_eq _ _ _ hk]
 ·rw [List.getElem?_set_ne (by omega), getD_set_ne _ _ _ _ (Ne.symm e)]; exact h.2 j hj
theorem slc_pre (b off n cap : Nat) (hc : cap ≠ 0) : Value.slice (if cap = 0 then some ⟨b, off, none⟩ else (some (⟨b, off, none⟩ : Addr)).map (·.add (0 * 1))) (n - 0) (cap - 0) = .slice (some ⟨b, off, none⟩) n cap := by
 rw [if_neg hc]; simp [Addr.add_mid]
theorem slc_suf (b off k m cap : Nat) (hc : k < cap) : Value.slice (if cap = k then some ⟨b, off, none⟩ else (some (⟨b, off, none⟩ : Addr)).map (·.add (k * 1))) (m - k) (cap - k) = .slice (some ⟨b, off + k, none⟩) (m - k) (cap - k) := by
 rw [if_neg (by omega)]; simp [Addr.add_mid]
theorem wtrim_pw {H : Hp} {b off cap : Nat} {T : TypeId} {cs : List Value} {l : List Nat} (hw : Wn cs off l) (hc : l.length ≤ cap) (hl : l.length ≤ 1000000000) :
  PW Tryz.prog 153 #[.slice (some ⟨b, off, none⟩) l.length cap] H [(b, T, cs)] fun v ow _ => ow = [(b, T, cs)] ∧ v = .slice (some ⟨b, off, none⟩) (trimL l).length cap := by
 refine PW.body Tryz.tab_ok Tryz.func153 rfl (by kernel_rfl) Tryz.ntmps153 rfl rfl ?_
 (try refine RUN ?_)
 refine EV.loop (ι := Nat) (fun n => [(0, .v (.slice (some ⟨b, off, none⟩) n cap))]) (fun _ => []) (fun _ => [(b, T, cs)])
  (fun n _ => n ≤ l.length ∧ trimL (l.take n) = trimL l) (fun n => n) l.length ⟨rfl, trivial⟩ trivial rfl (fun _ => rfl) ⟨Nat.le_refl _, by rw [List.take_length]⟩ ?_
 rintro n G hG ⟨hn, ht⟩
 have fin : trimL (l.take n) = l.take n → (trimL l).length = n := fun e => by rw [← ht, e, List.length_take]; omega
 (try refine RUN ?_)
 by_cases h0 : n = 0
 ·subst h0
  rw [show decide (((0 : Nat) : Int) > 0) = false from rfl]
  (try refine RUN ?_)
  rw [fin (by simp [trimL])]
  exact ⟨rfl, rfl⟩
 ·rw [show decide ((n : Int) > 0) = true by simp; omega]
  have hsnoc : l.take n = l.take (n - 1) ++ [l.getD (n - 1) 0] := by
   have := List.take_succ_eq_append_getElem (show n - 1 < l.length by omega)
   rw [show n - 1 + 1 = n by omega] at this
   rw [this, List.getD_eq_getElem?_getD, List.getElem?_eq_getElem (show n - 1 < l.length by omega)]; rfl
  (try refine RUN ?_)
  refine EVL.asI (((n - 1 : Nat) : Int)) (wi_dec n (by omega) (by omega)) ?_
  refine EVL.idxO Tryz.tab_ok rfl rfl rfl rfl rfl rfl rfl rfl rfl rfl (n - 1) (rfl) (by omega) ?_
  refine EVL.load1 Tryz.tab_ok rfl rfl rfl rfl rfl rfl rfl rfl (0) rfl (hw.2 (n - 1) (by omega)) ?_
  (try refine RUN ?_)
  by_cases hz : l.getD (n - 1) 0 = 0
  ·rw [hz, show (((0 : Nat) : Int) == 0) = true from rfl]
   (try refine RUN ?_)
   refine EVL.asI (((n - 1 : Nat) : Int)) (wi_dec n (by omega) (by omega)) ?_
   refine EVL.slc Tryz.tab_ok rfl rfl rfl rfl rfl rfl rfl rfl 0 (n - 1) (.inl ⟨rfl, rfl⟩) (.inr ⟨_, IntKind.i64, rfl, rfl⟩) (Nat.zero_le _) (by omega) (by omega) ?_
   refine EVL.as (congrArg SV.v (slc_pre b off (n - 1) cap (by omega))) ?_
   (try refine RUN ?_)
   exact ⟨n - 1, ⟨rfl, trivial⟩, trivial, rfl, ⟨by omega, by rw [← ht, hsnoc, hz, trimL_snoc_zero]⟩, Hp.Le.refl _, by omega⟩
  ·rw [show (((l.getD (n - 1) 0 : Nat) : Int) == 0) = false by simpa using hz]
   (try refine RUN ?_)
   rw [fin (by rw [hsnoc, trimL_snoc_ne _ _ hz])]
   exact ⟨rfl, rfl⟩
theorem wcompare_pw {H : Hp} {b off cap b' off' cap' : Nat} {T T' : TypeId} {cs cs' : List Value} {l m : List Nat} (hw : Wn cs off l) (hw' : Wn cs' off' m) (hl : Norm W64 l) (hm : Norm W64 m) (hll : l.length ≤ 1000000000) :
  PW Tryz.prog 130 #[.slice (some ⟨b, off, none⟩) l.length cap, .slice (some ⟨b', off', none⟩) m.length cap'] H [(b, T, cs), (b', T', cs')] fun v ow _ => ow = [(b, T, cs), (b', T', cs')] ∧ v = .int .i64 (ordN (val W64 l) (val W64 m)) := by
 refine PW.body Tryz.tab_ok Tryz.func130 rfl (by kernel_rfl) Tryz.ntmps130 rfl rfl ?_
 (try refine RUN ?_)
 by_cases he : l.length = m.length
 ·rw [show (((l.length : Nat) : Int) != (m.length : Int)) = false by simp [he]]
  (try refine RUN ?_)
  refine EV.loop (ι := Nat) (fun n => [(0, .v (.slice (some ⟨b, off, none⟩) l.length cap)), (1, .v (.slice (some ⟨b', off', none⟩) m.length cap')), (5, .v (.int .i64 ((n : Int) - 1)))]) (fun _ => []) (fun _ => [(b, T, cs), (b', T', cs')])
   (fun n _ => n ≤ l.length ∧ l.drop n = m.drop n) (fun n => n) l.length ⟨rfl, rfl, ?_, trivial⟩ trivial rfl (fun _ => rfl) ⟨Nat.le_refl _, by rw [List.drop_of_length_le (Nat.le_refl _), List.drop_of_length_le (by omega)]⟩ ?_
  ·rw [show IntKind.i64.wrap ((l.length : Int) - 1) = (l.length : Int) - 1 by rw [IntKind.wrap_i64]; omega]; rfl
  rintro n G hG ⟨hn, hd⟩
  (try refine RUN ?_)
  by_cases h0 : n = 0
  ·subst h0
   rw [show decide ((((0 : Nat) : Int) - 1) ≥ 0) = false from rfl]
   (try refine RUN ?_)
   rw [List.drop_zero, List.drop_zero] at hd
   subst hd
   exact ⟨rfl, by rw [ordN_eq rfl]⟩
  ·rw [show decide (((n : Int) - 1) ≥ 0) = true by simp; omega]
   have hx := hw.2 (n - 1) (by omega)
   have hy := hw'.2 (n - 1) (by omega)
   have hvo := val_ord (l := l) (m := m) (n - 1) hl.1 hm.1 he (by omega) (by rw [show n - 1 + 1 = n by omega]; exact hd)
   have hdx := val_drop 0 l (n - 1)
   have hdl : l.drop (n - 1) = l.getD (n - 1) 0 :: l.drop n := by
    rw [List.drop_eq_getElem_cons (show n - 1 < l.length by omega), List.getD_eq_getElem?_getD, List.getElem?_eq_getElem (show n - 1 < l.length by omega), show n - 1 + 1 = n by omega]; rfl
   have hdm : m.drop (n - 1) = m.getD (n - 1) 0 :: m.drop n := by
    rw [List.drop_eq_getElem_cons (show n - 1 < m.length by omega), List.getD_eq_getElem?_getD, List.getElem?_eq_getElem (show n - 1 < m.length by omega), show n - 1 + 1 = n by omega]; rfl
   generalize l.getD (n - 1) 0 = u at *
   generalize m.getD (n - 1) 0 = w at *
   (try refine RUN ?_)
   apply EV.drawn 9 (by kernel_rfl) (by kernel_rfl); intro xv yw
   (repeat refine' DD ?_)
   refine' DJ.ofVal (ValOk.idxO Tryz.tab_ok rfl rfl rfl rfl rfl rfl rfl rfl (n - 1) (by omega) (by omega)) rfl rfl rfl ?_; rotate_left
   refine' DJ.ofVal (ValOk.load1 Tryz.tab_ok rfl rfl rfl rfl rfl rfl (0) rfl (hx)) rfl rfl rfl ?_; rotate_left
   (repeat refine' DD ?_)
   refine' DJ.ofVal (ValOk.idxO Tryz.tab_ok rfl rfl rfl rfl rfl rfl rfl rfl (n - 1) (by omega) (by omega)) rfl rfl rfl ?_; rotate_left
   refine' DJ.ofVal (ValOk.load1 Tryz.tab_ok rfl rfl rfl rfl rfl rfl (1) rfl (hy)) rfl rfl rfl ?_; rotate_left
   (repeat refine' DD ?_)
   (refine DJ.nil (fun G hG hF => ?_); (case hS => rfl); (case hS2 => rfl))
   (try refine RUN ?_)
   by_cases hxy : u = w
   ·subst hxy
    rw [show (((u : Nat) : Int) != (u : Int)) = false by simp]
    (try refine RUN ?_)
    refine ⟨n - 1, ⟨rfl, rfl, ?_, trivial⟩, trivial, rfl, ⟨by omega, by rw [hdl, hdm, hd]⟩, hG, by omega⟩
    rw [show IntKind.i64.wrap ((n : Int) - 1 - 1) = ((n - 1 : Nat) : Int) - 1 by rw [IntKind.wrap_i64]; omega]; rfl
   ·rw [show (((u : Nat) : Int) != (w : Int)) = true by simp; omega]
    have ho := hvo hxy
    (try refine RUN ?_)
    apply EV.drawn 9 (by kernel_rfl) (by kernel_rfl); intro xv yw
    (repeat refine' DD ?_)
    refine' DJ.ofVal (ValOk.idxO Tryz.tab_ok rfl rfl rfl rfl rfl rfl rfl rfl (n - 1) (by omega) (by omega)) rfl rfl rfl ?_; rotate_left
    refine' DJ.ofVal (ValOk.load1 Tryz.tab_ok rfl rfl rfl rfl rfl rfl (0) rfl (hx)) rfl rfl rfl ?_; rotate_left
    (repeat refine' DD ?_)
    refine' DJ.ofVal (ValOk.idxO Tryz.tab_ok rfl rfl rfl rfl rfl rfl rfl rfl (n - 1) (by omega) (by omega)) rfl rfl rfl ?_; rotate_left
    refine' DJ.ofVal (ValOk.load1 Tryz.tab_ok rfl rfl rfl rfl rfl rfl (1) rfl (hy)) rfl rfl rfl ?_; rotate_left
    (repeat refine' DD ?_)
    (refine DJ.nil (fun G hG hF => ?_); (case hS => rfl); (case hS2 => rfl))
    (try refine RUN ?_)
    rw [ho]
    by_cases hlt : u < w
    ·rw [lt_dec u w hlt, ordN_lt hlt]
     (try refine RUN ?_)
     exact ⟨rfl, rfl⟩
    ·rw [lt_dec' u w hlt, ordN_gt (by omega)]
     (try refine RUN ?_)
     exact ⟨rfl, rfl⟩
 ·rw [show (((l.length : Nat) : Int) != (m.length : Int)) = true by simp; omega]
  (try refine RUN ?_)
  by_cases hlt : l.length < m.length
  ·rw [lt_dec _ _ hlt, ordN_lt (len_less W64_two hl.1 hm hlt)]
   (try refine RUN ?_)
   exact ⟨rfl, rfl⟩
  ·rw [lt_dec' _ _ hlt, ordN_gt (len_less W64_two hm.1 hl (by omega))]
   (try refine RUN ?_)
   exact ⟨rfl, rfl⟩
theorem wsubtract_pw {H : Hp} {b off cap b' off' cap' : Nat} {T T' : TypeId} {cs cs' : List Value} {l m : List Nat} (hw : Wn cs off l) (hw' : Wn cs' off' m) (hl : Dig W64 l) (hm : Dig W64 m) (hll : l.length ≤ 1000000000) (hml : m.length ≤ l.length) (hc : l.length ≤ cap) (hge : val W64 m ≤ val W64 l) :
  PW Tryz.prog 131 #[.slice (some ⟨b, off, none⟩) l.length cap, .slice (some ⟨b', off', none⟩) m.length cap'] H [(b, T, cs), (b', T', cs')] fun v ow _ => ∃ cs1 r, ow = [(b, T, cs1), (b', T', cs')] ∧ Wn cs1 off r ∧ Norm W64 r ∧ r.length ≤ l.length ∧ v = .slice (some ⟨b, off, none⟩) r.length cap ∧ val W64 r = val W64 l - val W64 m := by
 refine PW.body Tryz.tab_ok Tryz.func131 rfl (by kernel_rfl) Tryz.ntmps131 rfl rfl ?_
 (try refine RUN ?_)
 refine EV.loop (ι := Nat × Nat × List Nat × List Value) (fun q => [(0, .v (.slice (some ⟨b, off, none⟩) l.length cap)), (1, .v (.slice (some ⟨b', off', none⟩) m.length cap')), (5, .v (n64 q.2.1)), (9, .v (.int .i64 (l.length : Int))), (10, .v (.int .i64 (q.1 : Int)))]) (fun _ => []) (fun q => [(b, T, q.2.2.2), (b', T', cs')])
  (fun q _ => q.1 ≤ l.length ∧ SubInv l m q.2.2.1 q.1 q.2.1 ∧ Wn q.2.2.2 off q.2.2.1) (fun q => l.length - q.1) (0, 0, l, cs) ⟨rfl, rfl, rfl, rfl, rfl, trivial⟩ trivial rfl (fun _ => rfl) ⟨Nat.zero_le _, ⟨rfl, hl, fun _ _ => rfl, by simp [val], Nat.zero_le _⟩, hw⟩ ?_
 rintro ⟨i, c, cur, cu⟩ G hG ⟨hi, hinv, hcu⟩
 dsimp only at hi hinv hcu
 (try refine RUN ?_)
 by_cases hlt : i < l.length
 ·rw [lt_dec _ _ hlt]
  have hil : i < cur.length := by rw [hinv.len]; exact hlt
  have hcx := hcu.2 i hil
  (try refine RUN ?_)
  refine EV.meet (fun env' bx' H' => SubL env' [(0, .v (.slice (some ⟨b, off, none⟩) l.length cap)), (1, .v (.slice (some ⟨b', off', none⟩) m.length cap')), (5, .v (n64 c)), (6, .v (.int .i64 (i : Int))), (7, .v (n64 (m.getD i 0))), (9, .v (.int .i64 (l.length : Int))), (10, .v (.int .i64 (i : Int)))] ∧ H' = ⟨G, [(b, T, cu), (b', T', cs')], ⟨H, [b, b']⟩⟩) ?_ ?_
  ·rintro env' bx' H' _ ⟨he, rfl⟩
   refine EV.less _ [] he trivial rfl ?_
   (try refine RUN ?_)
   refine EVL.idxO Tryz.tab_ok rfl rfl rfl rfl rfl rfl rfl rfl rfl rfl (i) (rfl) (hlt) ?_
   refine EVL.load1 Tryz.tab_ok rfl rfl rfl rfl rfl rfl rfl rfl (0) rfl (hcx) ?_
   (try refine RUN ?_)
   refine EVL.ext rfl rfl rfl rfl rfl (fun W => sub64_run (cur.getD i 0) (m.getD i 0) c W hinv.carry) ?_
   (try refine RUN ?_)
   refine EVL.idxO Tryz.tab_ok rfl rfl rfl rfl rfl rfl rfl rfl rfl rfl (i) (rfl) (hlt) ?_
   refine EVL.setO Tryz.tab_ok rfl rfl rfl rfl rfl rfl rfl ([]) rfl rfl rfl ((by have := hcu.1; omega)) ?_
   (try refine RUN ?_)
   refine ⟨(i + 1, subHi (cur.getD i 0) (m.getD i 0) c, cur.set i (subLo (cur.getD i 0) (m.getD i 0) c), cu.set (off + i) (n64 (subLo (cur.getD i 0) (m.getD i 0) c))), ⟨rfl, rfl, rfl, rfl, ?_, trivial⟩, trivial, rfl, ⟨by dsimp only; omega, hinv.step hlt hm, hcu.set i _ hil⟩, Hp.Le.refl _, by dsimp only; omega⟩
   rw [wi_inc i (by omega)]; rfl
  ·by_cases hlm : i < m.length
   ·rw [lt_dec _ _ hlm]
    (try refine RUN ?_)
    refine EVL.idxO Tryz.tab_ok rfl rfl rfl rfl rfl rfl rfl rfl rfl rfl (i) (rfl) (hlm) ?_
    refine EVL.load1 Tryz.tab_ok rfl rfl rfl rfl rfl rfl rfl rfl (1) rfl (hw'.2 i hlm) ?_
    (try refine RUN ?_)
    exact ⟨⟨rfl, rfl, rfl, rfl, rfl, rfl, rfl, trivial⟩, rfl⟩
   ·rw [lt_dec' _ _ hlm]
    (try refine RUN ?_)
    refine ⟨⟨rfl, rfl, rfl, rfl, ?_, rfl, rfl, trivial⟩, rfl⟩
    rw [show m.getD i 0 = 0 by simp [Nat.not_lt.1 hlm]]
    rfl
 ·rw [lt_dec' _ _ hlt]
  obtain rfl : i = l.length := by omega
  have hfin := hinv.sum
  have hlen := hinv.len
  rw [List.take_of_length_le (by omega), List.take_of_length_le (Nat.le_refl _), List.take_of_length_le (by omega)] at hfin
  have hlt2 := val_lt hinv.dig
  rw [hlen] at hlt2
  have hc0 : c = 0 := by
   have := hinv.carry
   rcases Nat.eq_zero_or_pos c with e | e
   ·exact e
   ·exfalso
    have h1 : c = 1 := by omega
    rw [h1, Nat.one_mul] at hfin
    have h2 := val_lt hm
    have h3 : W64 ^ m.length ≤ W64 ^ l.length := Nat.pow_le_pow_right (by decide) hml
    omega
  rw [hc0, Nat.zero_mul, Nat.add_zero] at hfin
  (try refine RUN ?_)
  have ht := wtrim_pw (H := G) (b := b) (T := T) (cap := cap) hcu (by omega) (by omega)
  rw [hlen] at ht
  refine EVL.callW rfl rfl rfl rfl rfl ([(b, T, cu)]) ([(b', T', cs')]) rfl (ht) ?_
  rintro v ow H' ⟨rfl, rfl⟩ hle
  (try refine RUN ?_)
  refine ⟨cu, trimL cur, rfl, ?_, trimL_norm hinv.dig, ?_, rfl, ?_⟩
  ·have := hcu.take (trimL cur).length
   rwa [trimL_take] at this
  ·have := trimL_length_le cur; omega
  ·rw [trimL_val]; omega
def Tryz.lays7n29_ren : Go.Shelf.Ren := ⟨fun | 29 => 152 | n => n, fun | 0 => 0 | 3 => 3 | 4 => 4 | 5 => 5 | 22 => 39 | 25 => 71 | 54 => 196 | n => n, fun | 1 => 4 | n => n⟩
theorem Tryz.lays7n29 : Go.Proofs.Lays7.n29 Tryz.prog Tryz.lays7n29_ren := {
 mixed := by kernel_rfl
 f29 := Tryz.func152.trans (congrArg some (by kernel_rfl))
 t0 := by kernel_rfl
 a0 := fun _ => by kernel_rfl
 z0 := fun _ => by kernel_rfl
 v0 := fun _ => by kernel_rfl
 i0 := by kernel_rfl
 t3 := by kernel_rfl
 a3 := fun _ => by kernel_rfl
 z3 := fun _ => by kernel_rfl
 v3 := fun _ => by kernel_rfl
 i3 := by kernel_rfl
 t4 := by kernel_rfl
 a4 := fun _ => by kernel_rfl
 z4 := fun _ => by kernel_rfl
 v4 := fun _ => by kernel_rfl
 i4 := by kernel_rfl
 t5 := by kernel_rfl
 a5 := fun _ => by kernel_rfl
 z5 := fun _ => by kernel_rfl
 v5 := fun _ => by kernel_rfl
 i5 := by kernel_rfl
 t22 := by kernel_rfl
 a22 := fun _ => by kernel_rfl
 z22 := fun _ => by kernel_rfl
 v22 := fun _ => by kernel_rfl
 i22 := by kernel_rfl
 t25 := by kernel_rfl
 a25 := fun _ => by kernel_rfl
 z25 := fun _ => by kernel_rfl
 v25 := fun _ => by kernel_rfl
 i25 := by kernel_rfl
 t54 := by kernel_rfl
 a54 := fun _ => by kernel_rfl
 z54 := fun _ => by kernel_rfl
 g1 := by kernel_rfl }
theorem tz_pv (x : Nat) (hx : x < W64) : PV Tryz.prog 152 #[n64 x] (.int .i64 (Lib.ctz 64 x : Int)) := by
 refine ⟨(cOf Tryz.func152 rfl (by kernel_rfl)), fun W hg => ?_⟩
 refine (Any7.bits_TrailingZeros64 Tryz.lays7n29 x hx W (fun _ j hj => ?_)).mono fun e W' ⟨he, hW⟩ => ⟨he, by rw [hW]; exact Below.refl _ _⟩
 have hgH : gH 4 = some (Lib.deBruijn64tab.map fun (z : Nat) => Value.int .u8 (z : Int)).toArray := by unfold gH; rw [Nat.beq_refl]
 obtain ⟨T, fz, hc⟩ := hg _ _ hgH
 have := cell_of_row W 4 j _ T fz hc
 refine this.trans ?_
 simp only [List.getElem?_toArray, List.getElem?_map, List.getD_eq_getElem?_getD, List.getElem?_eq_getElem hj]
 rfl
theorem wzeros_pw {H : Hp} {b off cap : Nat} {T : TypeId} {cs : List Value} {l : List Nat} (hw : Wn cs off l) (hl : Dig W64 l) (hll : l.length ≤ 100000000) (h0 : val W64 l ≠ 0) :
  PW Tryz.prog 128 #[.slice (some ⟨b, off, none⟩) l.length cap] H [(b, T, cs)] fun v ow _ => ow = [(b, T, cs)] ∧ ∃ z m : Nat, v = .int .i64 (z : Int) ∧ val W64 l = 2 ^ z * m ∧ m % 2 = 1 ∧ z < 64 * l.length := by
 refine PW.body Tryz.tab_ok Tryz.func128 rfl (by kernel_rfl) Tryz.ntmps128 rfl rfl ?_
 (try refine RUN ?_)
 refine EV.loop (ι := Nat) (fun i => [(0, .v (.slice (some ⟨b, off, none⟩) l.length cap)), (3, .v (.int .i64 (i : Int)))]) (fun _ => []) (fun _ => [(b, T, cs)])
  (fun i _ => ∀ j, j < i → l.getD j 0 = 0) (fun i => l.length - i) 0 ⟨rfl, rfl, trivial⟩ trivial rfl (fun _ => rfl) (fun j hj => absurd hj (Nat.not_lt_zero _)) ?_
 rintro i G hG hz
 have hi : i < l.length := by
  refine Nat.lt_of_not_le fun h => h0 ?_
  have := val_take_zero (B := W64) i hz
  rwa [List.take_of_length_le h] at this
 have hx := hw.2 i hi
 (try refine RUN ?_)
 refine EVL.idxO Tryz.tab_ok rfl rfl rfl rfl rfl rfl rfl rfl rfl rfl (i) (rfl) (hi) ?_
 refine EVL.load1 Tryz.tab_ok rfl rfl rfl rfl rfl rfl rfl rfl (0) rfl (hx) ?_
 (try refine RUN ?_)
 by_cases hxz : l.getD i 0 = 0
 ·rw [hxz, show (((0 : Nat) : Int) == 0) = true from rfl]
  (try refine RUN ?_)
  refine ⟨i + 1, ⟨rfl, ?_, trivial⟩, trivial, rfl, fun j hj => ?_, Hp.Le.refl _, by omega⟩
  ·rw [wi_inc i (by omega)]; rfl
  ·by_cases e : j = i
   ·subst e; exact hxz
   ·exact hz j (by omega)
 ·rw [show (((l.getD i 0 : Nat) : Int) == 0) = false by simpa using hxz]
  obtain ⟨m, hv, hm, hc⟩ := zeros_val hl hz hxz
  have htz := tz_pv (l.getD i 0) (hl.getD (by decide) i)
  (try refine RUN ?_)
  refine EVL.idxO Tryz.tab_ok rfl rfl rfl rfl rfl rfl rfl rfl rfl rfl (i) (rfl) (hi) ?_
  refine EVL.load1 Tryz.tab_ok rfl rfl rfl rfl rfl rfl rfl rfl (0) rfl (hx) ?_
  repeat (first | refine RUN ?_ | refine CV (htz) ?_ | refine CE (htz) ?_)
  refine ⟨rfl, 64 * i + Lib.ctz 64 (l.getD i 0), m, ?_, hv, hm, by omega⟩
  rw [show IntKind.i64.wrap (64 * (i : Int)) = ((64 * i : Nat) : Int) from wi_mul 64 i (by omega), wi_add _ _ (by omega)]
theorem take_set_drop {α : Type} (s m : List α) (i : Nat) (h : i < s.length) (hl : s.length = m.length) : (s.take i ++ m.drop i).set i s[i] = s.take (i + 1) ++ m.drop (i + 1) := by
 have hm : i < m.length := by omega
 rw [List.set_append_right _ _ (by rw [List.length_take]; omega), List.length_take, Nat.min_eq_left (by omega), Nat.sub_self, List.drop_eq_getElem_cons hm, List.set_cons_zero, List.take_succ_eq_append_getElem h, List.append_assoc]; rfl
theorem mix_getD (s m : List Nat) (i j : Nat) (hl : s.length = m.length) (h : i ≤ j) : (s.take i ++ m.drop i).getD j 0 = m.getD j 0 := by
 by_cases hi : i ≤ s.length
 ·rw [List.getD_eq_getElem?_getD, List.getElem?_append_right (by rw [List.length_take]; omega), List.length_take, Nat.min_eq_left hi, List.getElem?_drop, show i + (j - i) = j by omega, ← List.getD_eq_getElem?_getD]
 ·rw [List.getD_eq_getElem?_getD, List.getElem?_eq_none (by simp; omega), List.getD_eq_getElem?_getD, List.getElem?_eq_none (by omega)]
theorem wdown_pw {H : Hp} {b off cap : Nat} {T : TypeId} {cs : List Value} {l : List Nat} (hw : Wn cs off l) (hl : Dig W64 l) (hll : l.length ≤ 100000000) (hc : l.length ≤ cap) (h0 : val W64 l ≠ 0) :
  PW Tryz.prog 129 #[.slice (some ⟨b, off, none⟩) l.length cap] H [(b, T, cs)] fun v ow _ => ∃ cs1 off1 cap1 r z, ow = [(b, T, cs1)] ∧ Wn cs1 off1 r ∧ Norm W64 r ∧ r.length ≤ l.length ∧ r.length ≤ cap1 ∧ v = .slice (some ⟨b, off1, none⟩) r.length cap1 ∧ val W64 l = 2 ^ z * val W64 r ∧ val W64 r % 2 = 1 := by
 refine PW.body Tryz.tab_ok Tryz.func129 rfl (by kernel_rfl) Tryz.ntmps129 rfl rfl ?_
 (try refine RUN ?_)
 refine EVL.callW rfl rfl rfl rfl rfl ([(b, T, cs)]) ([]) rfl (wzeros_pw hw hl hll h0) ?_
 rintro v ow H' ⟨rfl, z, m, rfl, hv, hm, hz⟩ hle
 have hz0 : z / 64 < l.length := by omega
 (try refine RUN ?_)
 refine EVL.asI (((z / 64 : Nat) : Int)) (wi_quo z 64 (by omega)) ?_
 (try refine RUN ?_)
 refine EVL.slc Tryz.tab_ok rfl rfl rfl rfl rfl rfl rfl rfl (z / 64) l.length (.inr ⟨_, IntKind.i64, rfl, rfl⟩) (.inl ⟨rfl, rfl⟩) (by omega) hc hc ?_
 refine EVL.as (congrArg SV.v (slc_suf b off (z / 64) l.length cap (by omega))) ?_
 (try refine RUN ?_)
 rw [show (z : Int).tmod 64 = ((z % 64 : Nat) : Int) from wi_rem z 64]
 generalize hq : z / 64 = q at *
 generalize hp : z % 64 = p at *
 have hpz : z = 64 * q + p := by omega
 have hp64 : p < 64 := by omega
 have hlen : (l.drop q).length = l.length - q := List.length_drop ..
 have hwd := hw.drop q (by omega)
 have hld : Dig W64 (l.drop q) := hl.drop q
 have hvs := val_shr l q p hl hp64 (by omega)
 rw [← hpz] at hvs
 have hdiv : val W64 l / 2 ^ z = m := by rw [hv]; exact Nat.mul_div_cancel_left _ (Nat.pow_pos (by decide))
 rw [hdiv] at hvs
 rw [← hlen]
 generalize l.drop q = d at *
 have hsl := shrL_length p d
 have hsD := shrL_dig p hp64 hld
 refine EV.loop (ι := Nat × List Value) (fun s => [(0, .v (.slice (some ⟨b, off + q, none⟩) d.length (cap - q))), (4, .v (.int .i64 (p : Int))), (15, .v (.int .i64 (d.length : Int))), (16, .v (.int .i64 (s.1 : Int)))]) (fun _ => []) (fun s => [(b, T, s.2)])
  (fun s _ => s.1 ≤ d.length ∧ Wn s.2 (off + q) ((shrL p d).take s.1 ++ d.drop s.1)) (fun s => d.length - s.1) (0, cs) ⟨rfl, rfl, rfl, rfl, trivial⟩ trivial rfl (fun _ => rfl) ⟨Nat.zero_le _, by simpa using hwd⟩ ?_
 rintro ⟨i, cu⟩ G hG ⟨hi, hcu⟩
 dsimp only at hi hcu
 (try refine RUN ?_)
 by_cases hlt : i < d.length
 ·rw [lt_dec _ _ hlt]
  have hil : i < ((shrL p d).take i ++ d.drop i).length := by simp; omega
  have hcx := hcu.2 i hil
  rw [mix_getD _ _ i i hsl (Nat.le_refl _)] at hcx
  have hx := hld.getD (by decide) i
  have hnew := shrL_get p d i (by omega)
  have hset := take_set_drop (shrL p d) d i (by omega) hsl
  have hb1 : off + q + i < cu.length := by have := hcu.1; omega
  rw [hnew] at hset
  (try refine RUN ?_)
  refine EVL.idxO Tryz.tab_ok rfl rfl rfl rfl rfl rfl rfl rfl rfl rfl (i) (rfl) (hlt) ?_
  refine EVL.load1 Tryz.tab_ok rfl rfl rfl rfl rfl rfl rfl rfl (0) rfl (hcx) ?_
  (try refine RUN ?_)
  rw [show min p IntKind.u64.bits = p from Nat.min_eq_left (by show p ≤ 64; omega), wu_shr]
  refine EVL.idxO Tryz.tab_ok rfl rfl rfl rfl rfl rfl rfl rfl rfl rfl (i) (rfl) (hlt) ?_
  refine EVL.setO Tryz.tab_ok rfl rfl rfl rfl rfl rfl rfl ([]) rfl rfl rfl (hb1) ?_
  have hcu1 := hcu.set i (d.getD i 0 / 2 ^ p) hil
  (try refine RUN ?_)
  rw [wi_inc i (by omega)]
  by_cases hl1 : i + 1 < d.length
  ·rw [lt_dec _ _ hl1]
   have hy := hcu1.2 (i + 1) (by simp; omega)
   rw [getD_set_ne _ _ _ _ (by omega), mix_getD _ _ i (i + 1) hsl (by omega)] at hy
   have hx1 := hcu1.2 i (by simp; omega)
   rw [getD_set_eq _ _ _ hil] at hx1
   (try refine RUN ?_)
   apply EV.drawn 13 (by kernel_rfl) (by kernel_rfl); intro xv yw
   (repeat refine' DD ?_)
   refine' DJ.ofVal (ValOk.idxO Tryz.tab_ok rfl rfl rfl rfl rfl rfl rfl rfl (i) (rfl) (hlt)) rfl rfl rfl ?_; rotate_left
   refine' DJ.ofVal (ValOk.load1 Tryz.tab_ok rfl rfl rfl rfl rfl rfl (0) rfl (hx1)) rfl rfl rfl ?_; rotate_left
   (repeat refine' DD ?_)
   refine' DJ.ofVal (ValOk.idxO Tryz.tab_ok rfl rfl rfl rfl rfl rfl rfl rfl (i + 1) (wi_inc i (by omega)) (hl1)) rfl rfl rfl ?_; rotate_left
   refine' DJ.ofVal (ValOk.load1 Tryz.tab_ok rfl rfl rfl rfl rfl rfl (0) rfl (hy)) rfl rfl rfl ?_; rotate_left
   (repeat refine' DD ?_)
   refine' DJ.ofVal (ValOk.shl rfl rfl rfl rfl (by rw [IntKind.wrap_i64]; omega)) rfl rfl rfl ?_; rotate_left
   (repeat refine' DD ?_)
   (refine DJ.nil (fun G hG hF => ?_); (case hS => rfl); (case hS2 => rfl))
   (try refine RUN ?_)
   rw [show IntKind.i64.wrap (64 - (p : Int)) = ((64 - p : Nat) : Int) by rw [IntKind.wrap_i64]; omega, Int.toNat_natCast, show min (64 - p) IntKind.u64.bits = 64 - p from Nat.min_eq_left (by show _ ≤ 64; omega)]
   refine EVL.idxO Tryz.tab_ok rfl rfl rfl rfl rfl rfl rfl rfl rfl rfl (i) (rfl) (hlt) ?_
   refine EVL.setO Tryz.tab_ok rfl rfl rfl rfl rfl rfl rfl ([]) rfl rfl rfl ((by rw [List.length_set]; exact hb1)) ?_
   (try refine RUN ?_)
   have hw2 := (shr_word (d.getD i 0) (d.getD (i + 1) 0) p hp64 hx).1
   have hcu2 := hcu1.set i (d.getD i 0 / 2 ^ p + d.getD (i + 1) 0 * 2 ^ (64 - p) % W64) (by simpa using hil)
   rw [List.set_set, List.set_set, hset] at hcu2
   refine ⟨(i + 1, cu.set (off + q + i) (n64 (d.getD i 0 / 2 ^ p + d.getD (i + 1) 0 * 2 ^ (64 - p) % W64))), ⟨rfl, rfl, rfl, ?_, trivial⟩, trivial, ?_, ⟨by dsimp only; omega, hcu2⟩, hG, by dsimp only; omega⟩
   ·rw [wi_inc i (by omega)]; rfl
   ·dsimp only
    refine (congrArg (fun c => [(b, T, c)]) (List.set_set ..)).trans ?_
    exact congrArg (fun v => [(b, T, cu.set (off + q + i) v)]) (congrArg (Value.int .u64) hw2)
  ·rw [lt_dec' _ _ hl1]
   (try refine RUN ?_)
   rw [show d.getD (i + 1) 0 = 0 by simp [Nat.not_lt.1 hl1], Nat.zero_mul, Nat.zero_mod, Nat.add_zero] at hset
   rw [hset] at hcu1
   refine ⟨(i + 1, cu.set (off + q + i) (n64 (d.getD i 0 / 2 ^ p))), ⟨rfl, rfl, rfl, ?_, trivial⟩, trivial, rfl, ⟨by dsimp only; omega, hcu1⟩, Hp.Le.refl _, by dsimp only; omega⟩
   rw [wi_inc i (by omega)]; rfl
 ·rw [lt_dec' _ _ hlt]
  obtain rfl : i = d.length := by omega
  rw [List.take_of_length_le (by omega), List.drop_of_length_le (Nat.le_refl _), List.append_nil] at hcu
  have ht := wtrim_pw (H := G) (b := b) (T := T) (cap := cap - q) hcu (by omega) (by omega)
  rw [hsl] at ht
  (try refine RUN ?_)
  refine EVL.callW rfl rfl rfl rfl rfl ([(b, T, cu)]) ([]) rfl (ht) ?_
  rintro v ow H2 ⟨rfl, rfl⟩ hle2
  (try refine RUN ?_)
  have htl := trimL_length_le (shrL p d)
  refine ⟨cu, off + q, cap - q, trimL (shrL p d), z, rfl, ?_, trimL_norm hsD, by omega, by omega, rfl, ?_, ?_⟩
  ·have := hcu.take (trimL (shrL p d)).length
   rwa [trimL_take] at this
  ·rw [trimL_val, hvs, hv]
  ·rw [trimL_val, hvs, hm]
theorem wwords_pw (n : Nat) (hn : big n) (H : Hp) : PW Tryz.prog 127 #[natV n] H [] fun v ow _ => ∃ g, v = .slice (some ⟨g, 0, none⟩) (dig W64 n).length (dig W64 n).length ∧ ow = [(g, 39, (dig W64 n).map n64)] := by
 have hol : (octs n).length = (bl n + 7) / 8 := by
  have := dig_len_bits 8 n (by omega); rw [show (2 : Nat) ^ 8 = 256 by decide] at this; rw [octs_length, this]; omega
 have hwl : (dig W64 n).length = ((octs n).length + 7) / 8 := by
  have := dig_len_bits 64 n (by omega)
  rw [← W64_pow] at this
  rw [this, hol]; omega
 have hD := octs_dig n
 have hfin : pk 8 256 (octs n).reverse (dig W64 n).length = dig W64 n := pk_octs n _ rfl (by rw [← octs_length]; omega)
 have hb := natBytes_pc n hn
 refine PW.body Tryz.tab_ok Tryz.func127 rfl (by kernel_rfl) Tryz.ntmps127 rfl rfl ?_
 (try refine RUN ?_)
 refine EVL.call rfl rfl rfl rfl rfl (hb _) ?_
 rintro v H1 hs hle
 generalize hm : (dig W64 n).length = m at *
 generalize dig W64 n = dn at *
 generalize octs n = l at *
 obtain ⟨a, cap, rfl⟩ := SlC.val hs
 (try refine RUN ?_)
 rw [show IntKind.i64.wrap ((l.length : Int) + 7) = ((l.length + 7 : Nat) : Int) from wi_add _ 7 (by omega)]
 refine EVL.asI ((m : Int)) ((by rw [hwl]; exact wi_quo _ 8 (by omega))) ?_
 refine EVL.make Tryz.tab_ok rfl rfl rfl rfl rfl rfl rfl rfl rfl (m) (rfl) (by omega) (by rfl) (by rfl) fun g => ?_
 (try refine RUN ?_)
 have e0 : (List.replicate m (Tryz.te39.zero)).flatten = (pk 8 256 (l.reverse.take 0) m).map n64 := by
  rw [List.take_zero, pk_nil, List.map_replicate]; rw [show (Tryz.te39.zero) = [n64 0] from rfl]; simp
 rw [e0]
 refine EV.loop (ι := Nat) (fun i => [(3, .v (.slice a l.length cap)), (4, .v (.slice (some ⟨g, 0, none⟩) m m)), (14, .v (.int .i64 (l.length : Int))), (15, .v (.int .i64 (i : Int)))]) (fun _ => []) (fun i => [(g, 39, (pk 8 256 (l.reverse.take i) m).map n64)])
  (fun i G => i ≤ l.length ∧ SlN n8 G (.slice a l.length cap) l) (fun i => l.length - i) 0 ⟨rfl, rfl, rfl, rfl, trivial⟩ trivial rfl (fun _ => rfl) ⟨Nat.zero_le _, hs⟩ ?_
 rintro i G hG ⟨hi, hs⟩
 (try refine RUN ?_)
 by_cases hlt : i < l.length
 ·have him : i / 8 < m := by omega
  have hrl : (l.reverse.take i).length = i := by rw [List.length_take, List.length_reverse]; omega
  have hx : l.getD (l.length - 1 - i) 0 < 256 := hD.getD (by decide) _
  have hxs : (l.map n8)[l.length - 1 - i]? = some (n8 (l.getD (l.length - 1 - i) 0)) := map_at (by omega)
  have hcur : ((pk 8 256 (l.reverse.take i) m).map n64)[i / 8]? = some (n64 ((pk 8 256 (l.reverse.take i) m).getD (i / 8) 0)) := map_at (by rw [pk_length]; exact him)
  have hlow := pk_low (K := 8) (B := 256) (by decide) ((hD.rev).take i) m (by rw [hrl]; omega)
  rw [hrl] at hlow
  have hsn := pk_snoc (K := 8) (B := 256) (l := l.reverse.take i) (by decide) m (l.getD (l.length - 1 - i) 0) (by rw [hrl]; omega)
  rw [hrl] at hsn
  rw [lt_dec _ _ hlt]
  (try refine RUN ?_)
  apply EV.drawn 18 (by kernel_rfl) (by kernel_rfl); intro xv yw
  (repeat refine' DD ?_)
  refine' DJ.ofVal (ValOk.idxP1 Tryz.tab_ok rfl rfl rfl rfl rfl rfl rfl rfl (i / 8) (q8 i (by omega)) him) rfl rfl rfl ?_; rotate_left
  refine' DJ.ofVal (ValOk.load1 Tryz.tab_ok rfl rfl rfl rfl rfl rfl (0) rfl (hcur)) rfl rfl rfl ?_; rotate_left
  (repeat refine' DD ?_)
  refine' DJ.ofVal (ValOk.idx1 Tryz.tab_ok rfl rfl rfl rfl rfl rfl rfl rfl (hs) (l.length - 1 - i) (back _ _ hlt (by omega)) (by omega) (hxs)) rfl rfl rfl ?_; rotate_left
  (repeat refine' DD ?_)
  refine' DJ.ofVal (ValOk.shl rfl rfl rfl rfl (by rw [r8]; omega)) rfl rfl rfl ?_; rotate_left
  (refine DJ.nil (fun G hG hF => ?_); (case hS => rfl); (case hS2 => rfl))
  rw [r8, Int.toNat_natCast]
  (try refine RUN ?_)
  rw [byte_or _ _ _ (by rw [Nat.pow_mul]; exact hlow) hx (by omega)]
  refine EVL.idx0 Tryz.tab_ok rfl rfl rfl rfl rfl rfl rfl rfl rfl rfl (i / 8) (q8 i (by omega)) (him) ?_
  refine EVL.setO Tryz.tab_ok rfl rfl rfl rfl rfl rfl rfl ([]) rfl rfl rfl ((by rw [List.length_map, pk_length]; exact him)) ?_
  (try refine RUN ?_)
  have hnext : l.reverse.take (i + 1) = l.reverse.take i ++ [l.getD (l.length - 1 - i) 0] := by
   rw [List.take_succ_eq_append_getElem (by rw [List.length_reverse]; exact hlt), List.getElem_reverse, List.getD_eq_getElem?_getD, List.getElem?_eq_getElem (show l.length - 1 - i < l.length by omega)]; rfl
  refine ⟨i + 1, ⟨rfl, rfl, rfl, ?_, trivial⟩, trivial, ?_, ⟨by omega, hs.mono hG⟩, hG, by omega⟩
  ·rw [wi_inc i (by omega)]; rfl
  ·rw [hnext, hsn, List.map_set, show (256 : Nat) ^ (i % 8) = 2 ^ (8 * (i % 8)) by rw [Nat.pow_mul]]; rfl
 ·rw [lt_dec' _ _ hlt]
  obtain rfl : i = l.length := by omega
  rw [List.take_of_length_le (by rw [List.length_reverse]; exact Nat.le_refl _), hfin]
  (try refine RUN ?_)
  exact ⟨g, rfl, rfl⟩
theorem wnumber_pw {H : Hp} {b off cap : Nat} {T : TypeId} {cs : List Value} {l : List Nat} (hw : Wn cs off l) (hl : Dig W64 l) (hll : l.length ≤ 20000000) :
  PW Tryz.prog 132 #[.slice (some ⟨b, off, none⟩) l.length cap] H [(b, T, cs)] fun v ow _ => ow = [(b, T, cs)] ∧ v = natV (val W64 l) := by
 refine PW.body Tryz.tab_ok Tryz.func132 rfl (by kernel_rfl) Tryz.ntmps132 rfl rfl ?_
 (try refine RUN ?_)
 rw [show IntKind.i64.wrap (8 * (l.length : Int)) = ((8 * l.length : Nat) : Int) from wi_mul 8 l.length (by omega)]
 generalize hN : 8 * l.length = N at *
 refine EVL.make Tryz.tab_ok rfl rfl rfl rfl rfl rfl rfl rfl rfl (N) (rfl) (by omega) (by rfl) (by rfl) fun g => ?_
 refine EVL.apart fun hdist => ?_
 have hgb : b ≠ g := fun e => by
  subst e
  have := hdist 0 1 b _ _ _ _ rfl rfl
  cases this
 (try refine RUN ?_)
 have e0 : (List.replicate N (Tryz.te5.zero)).flatten = (List.replicate N 0).map n8 := by
  rw [List.map_replicate, show (Tryz.te5.zero) = [n8 0] from rfl]; simp
 rw [e0]
 refine EV.loop (ι := Nat × List Nat) (fun q => [(2, .p 2 0), (0, .v (.slice (some ⟨b, off, none⟩) l.length cap)), (3, .v (.slice (some ⟨g, 0, none⟩) N N)), (10, .v (.int .i64 (N : Int))), (11, .v (.int .i64 (q.1 : Int)))]) (fun _ => [(2, 41, Tryz.te41.zero)]) (fun q => [(g, 5, q.2.map n8), (b, T, cs)])
  (fun q _ => q.1 ≤ N ∧ q.2.length = N ∧ Dig 256 q.2 ∧ ∀ j, j < q.1 → q.2.getD (N - 1 - j) 0 = val W64 l / 256 ^ j % 256) (fun q => N - q.1) (0, List.replicate N 0) ⟨rfl, rfl, rfl, rfl, rfl, trivial⟩ ⟨rfl, trivial⟩ rfl (fun _ => rfl) ⟨Nat.zero_le _, by simp, Dig.zeros (by decide) _, fun j hj => absurd hj (Nat.not_lt_zero _)⟩ ?_
 rintro ⟨i, cur⟩ G hG ⟨hi, hlen, hcD, hcs⟩
 dsimp only at hi hlen hcs hcD
 (try refine RUN ?_)
 by_cases hlt : i < N
 ·have hwl : i / 8 < l.length := by omega
  have hsub := val_subdigit (C := 256) (k := 8) (by decide) (by decide) (l := l) (by rw [← W64_256]; exact hl) i
  rw [← W64_256, show (256 : Nat) ^ (i % 8) = 2 ^ (8 * (i % 8)) by rw [Nat.pow_mul]] at hsub
  have hwd := hl.getD (by decide) (i / 8)
  rw [lt_dec _ _ hlt]
  (try refine RUN ?_)
  rw [back N i hlt (by omega)]
  refine EVL.asI (((i / 8 : Nat) : Int)) (q8 i (by omega)) ?_
  refine EVL.idxO Tryz.tab_ok rfl rfl rfl rfl rfl rfl rfl rfl rfl rfl (i / 8) (rfl) (hwl) ?_
  refine EVL.load1 Tryz.tab_ok rfl rfl rfl rfl rfl rfl rfl rfl (1) rfl (hw.2 (i / 8) hwl) ?_
  (try refine RUN ?_)
  rw [r8]
  (try refine RUN ?_)
  rw [sub_byte _ _ hwd (by omega), hsub]
  refine EVL.idx0 Tryz.tab_ok rfl rfl rfl rfl rfl rfl rfl rfl rfl rfl (N - 1 - i) (rfl) (by omega) ?_
  refine EVL.setO Tryz.tab_ok rfl rfl rfl rfl rfl rfl rfl ([]) rfl rfl rfl ((by rw [List.length_map, hlen]; omega)) ?_
  (try refine RUN ?_)
  refine ⟨(i + 1, cur.set (N - 1 - i) (val W64 l / 256 ^ i % 256)), ⟨rfl, rfl, rfl, rfl, ?_, trivial⟩, ⟨rfl, trivial⟩, ?_, ⟨by dsimp only; omega, by dsimp only; rw [List.length_set]; exact hlen, hcD.set _ _ (Nat.mod_lt _ (by decide)), fun j hj => ?_⟩, Hp.Le.refl _, by dsimp only; omega⟩
  ·rw [wi_inc i (by omega)]; rfl
  ·dsimp only
   rw [List.map_set]; rfl
  ·dsimp only at hj ⊢
   by_cases e : j = i
   ·subst e
    exact getD_set_eq _ _ _ (by omega)
   ·rw [getD_set_ne _ _ _ _ (by omega)]
    exact hcs j (by omega)
 ·rw [lt_dec' _ _ hlt]
  obtain rfl : i = N := by omega
  have hlv := val_lt hl
  have hb := bytes_back (val W64 l) i cur (by rw [← hN, Nat.pow_mul, ← W64_256]; exact hlv) hlen hcs
  (try refine RUN ?_)
  refine EVL.publish [] [(b, T, cs)] rfl (fun G2 hG2 hg => ?_) (fun k hk => by
   obtain rfl : k = b := by simpa [Ows.bs] using hk
   exact hgb)
  have hsl : SlN n8 G2 (.slice (some ⟨g, 0, none⟩) i i) cur := by
   unfold SlN
   rw [hlen]
   exact ⟨by simp [hlen], .inr ⟨g, 0, i, _, rfl, Nat.le_refl _, hg, fun j x hj => by simpa using hj⟩⟩
  have hf := natFromBytes_pc hsl hcD (by omega)
  rw [hb] at hf
  refine EVL.call rfl rfl rfl rfl rfl (hf) ?_
  rintro v H2 rfl hle
  (try refine RUN ?_)
  exact ⟨rfl, rfl⟩
structure OW (b off cap : Nat) (cs : List Value) (l : List Nat) : Prop where
 at_ : Wn cs off l
 norm : Norm W64 l
 cap : l.length ≤ cap
 len : l.length ≤ 20000000
 odd : val W64 l % 2 = 1
structure BSt where
 (bv ov cv : Nat) (lv : List Nat) (sv : List Value)
 (bw ow cw : Nat) (lw : List Nat) (sw : List Value)
def BSt.env (q : BSt) (t : Int) : Env := [(4, .p 4 0), (5, .v (.slice (some ⟨q.bv, q.ov, none⟩) q.lv.length q.cv)), (6, .v (.slice (some ⟨q.bw, q.ow, none⟩) q.lw.length q.cw)), (7, .v (.int .i64 t))]
def BSt.own (q : BSt) : Ows := [(q.bv, 39, q.sv), (q.bw, 39, q.sw)]
structure BSt.ok (q : BSt) (g : Nat) : Prop where
 v : OW q.bv q.ov q.cv q.sv q.lv
 w : OW q.bw q.ow q.cw q.sw q.lw
 gcd : Nat.gcd (val W64 q.lv) (val W64 q.lw) = g
theorem odd_pos {n : Nat} (h : n % 2 = 1) : n ≠ 0 := by omega
theorem two_swap {α : Type} (a b : α) : List.Perm [a, b] [b, a] := List.Perm.swap b a []
theorem ordN_zero {a b : Nat} (h : ordN a b = 0) : a = b := by
 unfold ordN at h; split at h
 ·cases h
 ·split at h
  ·cases h
  ·omega
theorem natV_cells (n : Nat) : natV n = .agg #[.int .u64 (lo n : Int), .string (moreB n)] := rfl
theorem wbinary_pv (x y : Nat) (hx : x ≠ 0) (hy : y ≠ 0) (hbx' : big x) (hby' : big y) : PV Tryz.prog 95 #[natV x, natV y] (natV (Nat.gcd x y)) := by
 have lx : (dig W64 x).length ≤ 20000000 := Nat.le_trans (dig_len_big hbx') (by decide)
 have ly : (dig W64 y).length ≤ 20000000 := Nat.le_trans (dig_len_big hby') (by decide)
 have hpx := fun G => PO.of_pw ((wwords_pw x hbx' G).mono (Ψ := fun v ow _ => ow.length ≤ 1 ∧ ∃ g, v = .slice (some ⟨g, 0, none⟩) (dig W64 x).length (dig W64 x).length ∧ ow = [(g, 39, (dig W64 x).map n64)]) fun v ow H' _ ⟨g, h1, h2⟩ => ⟨by rw [h2]; simp, g, h1, h2⟩)
 have hpy := fun G => PO.of_pw ((wwords_pw y hby' G).mono (Ψ := fun v ow _ => ow.length ≤ 1 ∧ ∃ g, v = .slice (some ⟨g, 0, none⟩) (dig W64 y).length (dig W64 y).length ∧ ow = [(g, 39, (dig W64 y).map n64)]) fun v ow H' _ ⟨g, h1, h2⟩ => ⟨by rw [h2]; simp, g, h1, h2⟩)
 have dx := dig_norm W64_two x
 have dy := dig_norm W64_two y
 have vx := dig_val W64_two x
 have vy := dig_val W64_two y
 generalize dig W64 x = dgx at *
 generalize dig W64 y = dgy at *
 have hvx0 : val W64 dgx ≠ 0 := by rw [vx]; exact hx
 have hvy0 : val W64 dgy ≠ 0 := by rw [vy]; exact hy
 refine PV.of_pc ?_
 refine PC.body Tryz.tab_ok Tryz.func95 rfl (by kernel_rfl) Tryz.ntmps95 rfl rfl ?_
 (try refine RUN ?_)
 apply EV.drawn 6 (by kernel_rfl) (by kernel_rfl); intro x1 y1
 (repeat refine' DD ?_)
 refine' DJ.callO rfl rfl rfl rfl rfl (hpx gH).can (fun G _ _ => hpx G) ?_; rotate_left
 (repeat refine' DD ?_)
 refine' DJ.callO rfl rfl rfl rfl rfl (hpy gH).can (fun G _ _ => hpy G) ?_; rotate_left
 refine' DJ.copy (0 + 1) (.inr rfl) rfl rfl rfl id rfl (by kernel_rfl) ?_; rotate_left
 refine' DJ.copy (0 + 1 + 1 + 1) (.inr rfl) rfl rfl rfl id rfl (by kernel_rfl) ?_; rotate_left
 (refine DJ.nil (fun G hG hF => ?_); (case hS => rfl); (case hS2 => rfl))
 obtain ⟨⟨gy, ey, oy⟩, ⟨gx, ex, ox⟩, _⟩ := hF
 simp only [ex, ey, ox, oy, id]
 clear hpx hpy ex ey ox oy
 (try refine RUN ?_)
 refine EVL.permOw [(gx, 39, dgx.map n64), (gy, 39, dgy.map n64)] (two_swap _ _) ?_
 refine EVL.callW rfl rfl rfl rfl rfl ([(gx, 39, dgx.map n64)]) ([(gy, 39, dgy.map n64)]) rfl (wzeros_pw (Wn.of dgx) dx.1 (by omega) hvx0) ?_
 rintro v ow H1 ⟨rfl, zx, mx, rfl, hzx, hmx, hzx2⟩ hle1
 (try refine RUN ?_)
 refine EVL.permOw [(gy, 39, dgy.map n64), (gx, 39, dgx.map n64)] (two_swap _ _) ?_
 refine EVL.callW rfl rfl rfl rfl rfl ([(gy, 39, dgy.map n64)]) ([(gx, 39, dgx.map n64)]) rfl (wzeros_pw (Wn.of dgy) dy.1 (by omega) hvy0) ?_
 rintro v ow H2 ⟨rfl, zy, my, rfl, hzy, hmy, hzy2⟩ hle2
 (try refine RUN ?_)
 rw [show (if (zy : Int) < (zx : Int) then (zy : Int) else (zx : Int)) = ((min zx zy : Nat) : Int) by split <;> omega]
 (try refine RUN ?_)
 refine EVL.permOw [(gx, 39, dgx.map n64), (gy, 39, dgy.map n64)] (two_swap _ _) ?_
 refine EVL.callW rfl rfl rfl rfl rfl ([(gx, 39, dgx.map n64)]) ([(gy, 39, dgy.map n64)]) rfl (wdown_pw (Wn.of dgx) dx.1 (by omega) (Nat.le_refl _) hvx0) ?_
 rintro v ow H3 ⟨sx, ox, cx, rx, zx', rfl, hwx, hnx, hlx, hcx, rfl, hdx, hox⟩ hle3
 (try refine RUN ?_)
 refine EVL.permOw [(gy, 39, dgy.map n64), (gx, 39, sx)] (two_swap _ _) ?_
 refine EVL.callW rfl rfl rfl rfl rfl ([(gy, 39, dgy.map n64)]) ([(gx, 39, sx)]) rfl (wdown_pw (Wn.of dgy) dy.1 (by omega) (Nat.le_refl _) hvy0) ?_
 rintro v ow H4 ⟨sy, oy, cy, ry, zy', rfl, hwy, hny, hly, hcy, rfl, hdy, hoy⟩ hle4
 refine EVL.permOw [(gx, 39, sx), (gy, 39, sy)] (two_swap _ _) ?_
 have hgcd : Nat.gcd x y = 2 ^ min zx zy * Nat.gcd (val W64 rx) (val W64 ry) := by
  have e1 : zx = zx' := odd_part (by rw [← hzx, hdx]) hmx hox
  have e2 : zy = zy' := odd_part (by rw [← hzy, hdy]) hmy hoy
  subst e1 e2
  rw [← vx, ← vy]
  exact gcd_binary _ _ zx zy _ _ hdx hdy hox hoy
 have htw : min zx zy ≤ 1300000000 := by omega
 generalize min zx zy = tw at *
 generalize hg : Nat.gcd (val W64 rx) (val W64 ry) = g at *
 have hbg : big (Nat.gcd x y) := Nat.le_trans (bl_gcd_left x y hx) hbx'
 generalize Nat.gcd x y = gg at *
 (try refine RUN ?_)
 refine EV.loop (ι := BSt) (fun q => q.env (tw : Int)) (fun _ => [(4, 41, Tryz.te41.zero)]) (fun q => q.own) (fun q _ => q.ok g) (fun q => val W64 q.lv + val W64 q.lw) ⟨gx, ox, cx, rx, sx, gy, oy, cy, ry, sy⟩
  ⟨rfl, rfl, rfl, rfl, trivial⟩ ⟨rfl, trivial⟩ rfl (fun _ => rfl) ⟨⟨hwx, hnx, hcx, Nat.le_trans hlx lx, hox⟩, ⟨hwy, hny, hcy, Nat.le_trans hly ly, hoy⟩, hg⟩ ?_
 clear hdx hdy hzx hzy hwx hnx hlx hcx hwy hny hly hcy hox hoy hle1 hle2 hle3 hle4 hg
 rintro ⟨bv, ov, cv, lv, sv, bw, ow, cw, lw, sw⟩ G hG ⟨⟨v1, v2, v3, v4, v5⟩, ⟨w1, w2, w3, w4, w5⟩, hgq⟩
 dsimp only at v1 v2 v3 v4 v5 w1 w2 w3 w4 w5 hgq
 unfold BSt.env BSt.own
 dsimp only
 (try refine RUN ?_)
 refine EVL.callW rfl rfl rfl rfl rfl ([(bv, 39, sv), (bw, 39, sw)]) ([]) rfl (wcompare_pw v1 w1 v2 w2 (by omega)) ?_
 rintro v ow1 H5 ⟨rfl, rfl⟩ hle5
 (try refine RUN ?_)
 by_cases hc0 : ordN (val W64 lv) (val W64 lw) = 0
 ·rw [show (ordN (val W64 lv) (val W64 lw) == 0) = true by rw [hc0]; rfl]
  have hvw := ordN_zero hc0
  rw [← hvw, Nat.gcd_self] at hgq
  (try refine RUN ?_)
  refine EVL.callW rfl rfl rfl rfl rfl ([(bv, 39, sv)]) ([(bw, 39, sw)]) rfl (wnumber_pw v1 v2.1 v4) ?_
  rintro v ow2 H6 ⟨rfl, rfl⟩ hle6
  rw [hgq, natV_cells]
  (try refine RUN ?_)
  refine EV.loop (ι := Int × Nat) (fun q => [(4, .p 4 0), (9, .p 9 0), (7, .v (.int .i64 q.1))]) (fun q => [(9, 41, [.int .u64 (lo q.2 : Int), .string (moreB q.2)]), (4, 41, Tryz.te41.zero)]) (fun _ => [(bv, 39, sv), (bw, 39, sw)])
   (fun q _ => q.2 * 2 ^ q.1.toNat = gg ∧ q.1 ≤ 1300000000 ∧ -100000 ≤ q.1) (fun q => q.1.toNat) ((tw : Int), g) ⟨rfl, rfl, rfl, trivial⟩ ⟨rfl, rfl, trivial⟩ rfl (fun _ => rfl) ⟨by dsimp only; rw [Int.toNat_natCast, hgcd, Nat.mul_comm], by dsimp only; omega, by dsimp only; omega⟩ ?_
  rintro ⟨t, o⟩ G2 hG2 ⟨ht, ht1, ht2⟩
  dsimp only at ht ht1 ht2
  (try refine RUN ?_)
  by_cases htp : t > 0
  ·rw [show decide (t > 0) = true by simpa using htp]
   obtain ⟨k, hk, hkt⟩ : ∃ k : Nat, (if (65536 : Int) < t then (65536 : Int) else t) = (k : Int) ∧ k = min t.toNat 65536 := ⟨min t.toNat 65536, by split <;> omega, rfl⟩
   have hbo : big o := by
    refine Nat.le_trans (bl_mono ?_) hbg
    rw [← ht]; exact Nat.le_mul_of_pos_right _ (Nat.pow_pos (by decide))
   have hsh := natShift_up o k (by omega) hbo
   (try refine RUN ?_)
   rw [hk]
   repeat (first | refine RUN ?_ | refine CV (hsh) ?_ | refine CE (hsh) ?_)
   refine ⟨(t - 65536, o * 2 ^ k), ⟨rfl, rfl, ?_, trivial⟩, ⟨rfl, rfl, trivial⟩, rfl, ⟨?_, by dsimp only; omega, by dsimp only; omega⟩, Hp.Le.refl _, by dsimp only; omega⟩
   ·rw [show IntKind.i64.wrap (t - 65536) = t - 65536 by rw [IntKind.wrap_i64]; omega]; rfl
   ·dsimp only
    rw [← ht, Nat.mul_assoc, ← Nat.pow_add]
    congr 2
    omega
  ·rw [show decide (t > 0) = false by simpa using htp]
   rw [show t.toNat = 0 by omega, Nat.pow_zero, Nat.mul_one] at ht
   subst ht
   (try refine RUN ?_)
   rfl
 ·rw [show (ordN (val W64 lv) (val W64 lw) == 0) = false by simpa using hc0]
  (try refine RUN ?_)
  refine EV.meet (fun env' bx' H' => ∃ q : BSt, SubL env' (q.env (tw : Int)) ∧ SubX bx' [(4, 41, Tryz.te41.zero)] ∧ H'.ow = q.own ∧ G.Le H'.ro ∧ q.ok g ∧ val W64 q.lw < val W64 q.lv ∧ val W64 q.lv + val W64 q.lw = val W64 lv + val W64 lw) ?_ ?_
  ·rintro env' bx' ⟨G6, ow6, base6⟩ _ ⟨⟨bv, ov, cv, lv, sv, bw, ow, cw, lw, sw⟩, he, hbx6, how, hleG, ⟨⟨v1, v2, v3, v4, v5⟩, ⟨w1, w2, w3, w4, w5⟩, hgq⟩, hlt, hsum⟩
   dsimp only at v1 v2 v3 v4 v5 w1 w2 w3 w4 w5 hgq hlt hsum
   refine EV.less _ _ he hbx6 rfl ?_
   unfold BSt.own at how
   dsimp only at how
   subst how
   unfold BSt.env
   dsimp only
   have hlen : lw.length ≤ lv.length := by
    refine Nat.le_of_not_lt fun h => ?_
    have := len_less W64_two v2.1 w2 h
    omega
   (try refine RUN ?_)
   refine EVL.callW rfl rfl rfl rfl rfl ([(bv, 39, sv), (bw, 39, sw)]) ([]) rfl (wsubtract_pw v1 w1 v2.1 w2.1 (by omega) hlen v3 (by omega)) ?_
   rintro v ow7 H7 ⟨s7, r7, rfl, hw7, hn7, hl7, rfl, hv7⟩ hle7
   (try refine RUN ?_)
   refine EVL.callW rfl rfl rfl rfl rfl ([(bv, 39, s7)]) ([(bw, 39, sw)]) rfl (wdown_pw hw7 hn7.1 (by omega) (by omega) (by omega)) ?_
   rintro v ow8 H8 ⟨s8, o8, c8, r8, z8, rfl, hw8, hn8, hl8, hc8, rfl, hd8, ho8⟩ hle8
   (try refine RUN ?_)
   have hr := gcd_round (val W64 lv) (val W64 lw) z8 (val W64 r8) w5 (by omega) (by rw [← hv7]; exact hd8)
   have hle9 : val W64 r8 ≤ val W64 r7 := by rw [hd8]; exact Nat.le_mul_of_pos_left _ (Nat.pow_pos (by decide))
   refine ⟨⟨bv, o8, c8, r8, s8, bw, ow, cw, lw, sw⟩, ⟨rfl, rfl, rfl, rfl, trivial⟩, ⟨rfl, trivial⟩, rfl, ⟨⟨hw8, hn8, hc8, by dsimp only; omega, ho8⟩, ⟨w1, w2, w3, w4, w5⟩, by dsimp only; rw [hr]; exact hgq⟩, (hleG.trans hle7).trans hle8, ?_⟩
   dsimp only
   have := odd_pos w5
   omega
  ·by_cases hlt : ordN (val W64 lv) (val W64 lw) < 0
   ·rw [show decide (ordN (val W64 lv) (val W64 lw) < 0) = true by simpa using hlt]
    have hvl : val W64 lv < val W64 lw := by
     unfold ordN at hlt
     split at hlt
     ·assumption
     ·split at hlt <;> simp at hlt
    refine EV.permOw [(bw, 39, sw), (bv, 39, sv)] (two_swap _ _) ?_
    (try refine RUN ?_)
    exact ⟨⟨bw, ow, cw, lw, sw, bv, ov, cv, lv, sv⟩, ⟨rfl, rfl, rfl, rfl, trivial⟩, ⟨rfl, trivial⟩, rfl, hle5, ⟨⟨w1, w2, w3, w4, w5⟩, ⟨v1, v2, v3, v4, v5⟩, by dsimp only; rw [Nat.gcd_comm]; exact hgq⟩, hvl, Nat.add_comm _ _⟩
   ·rw [show decide (ordN (val W64 lv) (val W64 lw) < 0) = false by simpa using hlt]
    have hvl : val W64 lw < val W64 lv := by
     unfold ordN at hlt hc0
     split at hlt
     ·simp at hlt
     ·rename_i h1
      rw [if_neg h1] at hc0
      split at hc0
      ·assumption
      ·simp at hc0
    (try refine RUN ?_)
    exact ⟨⟨bv, ov, cv, lv, sv, bw, ow, cw, lw, sw⟩, ⟨rfl, rfl, rfl, rfl, trivial⟩, ⟨rfl, trivial⟩, rfl, hle5, ⟨⟨v1, v2, v3, v4, v5⟩, ⟨w1, w2, w3, w4, w5⟩, hgq⟩, hvl, rfl⟩
theorem gcdN_pv (c1 c2 : Nat) (h1 : big c1) (h2 : big c2) (sx sy : Bool) (hsx : c1 = 0 → sx = false) (hsy : c2 = 0 → sy = false) :
  PV Tryz.prog 57 #[.agg #[.bool sx, .int .u64 (lo c1 : Int), .string (moreB c1)], .agg #[.bool sy, .int .u64 (lo c2 : Int), .string (moreB c2)]] (natV (Nat.gcd c1 c2)) := by
 refine PV.of_pc ?_
 refine PC.body Tryz.tab_ok Tryz.func57 rfl (by kernel_rfl) Tryz.ntmps57 rfl rfl ?_
 (try refine RUN ?_)
 (apply EV.drawn 7 (by kernel_rfl) (by kernel_rfl); intro xv yw; (repeat (first | refine' DD ?_)); refine DJ.nil (fun G hG hF => ?_); (case hS => rfl); (case hS2 => rfl))
 repeat (first | refine RUN ?_ | refine CV (natCmp_pv c1 c2 h1 h2) ?_ | refine CE (natCmp_pv c1 c2 h1 h2) ?_)
 refine EV.meet (fun env' bx' H' => ∃ u w : Nat, SubL env' [(4, .p 4 0), (5, .p 5 0), (6, .p 6 0)] ∧ SubX bx' [(4, 41, Tryz.te41.zero), (5, 41, [.int .u64 (lo u : Int), .string (moreB u)]), (6, 41, [.int .u64 (lo w : Int), .string (moreB w)])] ∧ H'.ow = [] ∧ w ≤ u ∧ big u ∧ big w ∧ Nat.gcd u w = Nat.gcd c1 c2) ?_ ?_
 ·rintro env' bx' ⟨G1, ow1, base1⟩ hb ⟨u, w, he, hbx, how, hwu, hu, hw, hg⟩
  obtain rfl : base1 = ⟨fun _ => none, []⟩ := hb
  obtain rfl : ow1 = [] := how
  refine EV.less _ _ he hbx rfl ?_
  clear h1 h2 hsx hsy hbx he
  generalize Nat.gcd c1 c2 = gg at *
  subst hg
  repeat (first | refine RUN ?_ | refine CV (bits_pv w hw) ?_ | refine CE (bits_pv w hw) ?_)
  rw [bl_zero_iff]
  by_cases hw0 : w = 0
  ·subst hw0
   rw [decide_eq_true rfl, Nat.gcd_zero_right]
   (try refine RUN ?_)
   rfl
  ·rw [decide_eq_false hw0]
   repeat (first | refine RUN ?_ | refine CV (natDiv_pv u w hw0 hu hw) ?_ | refine CE (natDiv_pv u w hw0 hu hw) ?_)
   have hm : u % w < w := Nat.mod_lt _ (by omega)
   have hgr : Nat.gcd u w = Nat.gcd w (u % w) := by rw [Nat.gcd_comm, Nat.gcd_rec, Nat.gcd_comm]
   have hbm : big (u % w) := Nat.le_trans (bl_mod u w) hu
   rw [hgr]
   generalize u % w = r at *
   generalize u / w = qq at *
   clear hgr hwu hu
   rw [natV_cells, natV_cells]
   (try refine RUN ?_)
   refine EV.less [(4, .p 4 0), (5, .p 5 0), (6, .p 6 0), (8, .p 8 0)] ([(5, 41, [.int .u64 (lo u : Int), .string (moreB u)]), (4, 41, Tryz.te41.zero), (6, 41, [.int .u64 (lo w : Int), .string (moreB w)]), (8, 41, [.int .u64 (lo r : Int), .string (moreB r)])]) ⟨rfl, rfl, rfl, rfl, trivial⟩ ⟨rfl, rfl, rfl, rfl, trivial⟩ rfl ?_
   apply EV.drawnS ([(5, 41, [.int .u64 (lo u : Int), .string (moreB u)])]) 3 (by kernel_rfl) (by kernel_rfl); intro xv yw
   (repeat refine' DD ?_)
   (refine DJ.nil (fun G hG hF => ?_); (case hS => rfl); (case hS2 => rfl); (case hD => rfl))
   repeat (first | refine RUN ?_ | refine CV (bits_pv r hbm) ?_ | refine CE (bits_pv r hbm) ?_)
   rw [bl_zero_iff]
   by_cases hr0 : r = 0
   ·subst hr0
    rw [decide_eq_true rfl, Nat.gcd_zero_right]
    (try refine RUN ?_)
    rfl
   ·rw [decide_eq_false hr0]
    repeat (first | refine RUN ?_ | refine CV (natSmall_pv w) ?_ | refine CE (natSmall_pv w) ?_)
    by_cases hws : w < W64
    ·have hrs : r < W64 := by omega
     rw [decide_eq_true hws, if_pos hws]
     repeat (first | refine RUN ?_ | refine CV (natSmall_pv r) ?_ | refine CE (natSmall_pv r) ?_)
     rw [decide_eq_true hrs, if_pos hrs]
     (try refine RUN ?_)
     refine EV.loop (ι := Nat × Nat) (fun q => [(4, .p 4 0), (10, .v (n64 q.1)), (12, .v (n64 q.2))]) (fun _ => [(4, 41, Tryz.te41.zero)]) (fun _ => []) (fun q _ => q.1 < W64 ∧ q.2 < W64 ∧ Nat.gcd q.1 q.2 = Nat.gcd w r) (fun q => q.2) (w, r) ⟨rfl, rfl, rfl, trivial⟩ ⟨rfl, trivial⟩ rfl (fun _ => rfl) ⟨hws, hrs, rfl⟩ ?_
     rintro ⟨m, k⟩ G2 hG2 ⟨hms, hks, hgk⟩
     dsimp only at hms hks hgk
     (try refine RUN ?_)
     by_cases hk0 : k = 0
     ·subst hk0
      rw [show decide ((((m, 0) : Nat × Nat).2 : Int) > 0) = false from rfl]
      rw [Nat.gcd_zero_right] at hgk
      repeat (first | refine RUN ?_ | refine CV (natOf_pv m hms) ?_ | refine CE (natOf_pv m hms) ?_)
      rw [hgk]
     ·rw [show decide ((((m, k) : Nat × Nat).2 : Int) > 0) = true by simp; omega]
      (try refine RUN ?_)
      apply EV.drawn 6 (by kernel_rfl) (by kernel_rfl); intro xv yw
      (repeat refine' DD ?_)
      refine' DJ.ofVal (ValOk.rem rfl rfl rfl rfl (show ((k : Nat) : Int) ≠ 0 by omega)) rfl rfl rfl ?_; rotate_left
      (repeat refine' DD ?_)
      (refine DJ.nil (fun G hG hF => ?_); (case hS => rfl); (case hS2 => rfl))
      rw [show (((m, k) : Nat × Nat).1 : Int).tmod (((m, k) : Nat × Nat).2 : Int) = ((m % k : Nat) : Int) from wi_rem m k]
      (try refine RUN ?_)
      refine ⟨(k, m % k), ⟨rfl, rfl, rfl, trivial⟩, ⟨rfl, trivial⟩, rfl, ⟨hks, Nat.lt_of_le_of_lt (Nat.mod_le m k) hms, ?_⟩, hG, Nat.mod_lt _ (by omega)⟩
      ·dsimp only
       rw [← hgk, Nat.gcd_comm m k, Nat.gcd_rec k m, Nat.gcd_comm]
    ·rw [decide_eq_false hws]
     repeat (first | refine RUN ?_ | refine CV (wbinary_pv w r hw0 hr0 hw hbm) ?_ | refine CE (wbinary_pv w r hw0 hr0 hw hbm) ?_)
     rfl
 ·by_cases hlt : c1 < c2
  ·rw [ordN_lt hlt, show decide ((-1 : Int) < 0) = true from rfl]
   (try refine RUN ?_)
   exact ⟨c2, c1, ⟨rfl, rfl, rfl, trivial⟩, ⟨rfl, rfl, rfl, trivial⟩, rfl, by omega, h2, h1, Nat.gcd_comm _ _⟩
  ·rw [show decide (ordN c1 c2 < 0) = false by unfold ordN; rw [if_neg hlt]; split <;> rfl]
   (try refine RUN ?_)
   exact ⟨c1, c2, ⟨rfl, rfl, rfl, trivial⟩, ⟨rfl, rfl, rfl, trivial⟩, rfl, by omega, h1, h2, rfl⟩
theorem gcd_pv (a b : Int) (ha : bigI a) (hb : bigI b) : PV Tryz.prog 57 #[intV a, intV b] (natV (Nat.gcd a.natAbs b.natAbs)) :=
 gcdN_pv a.natAbs b.natAbs ha hb _ _ (fun h => by simp; omega) (fun h => by simp; omega)
abbrev frV (n : Int) (d : Nat) : Value := .agg #[.bool (decide (n < 0)), .int .u64 (lo n.natAbs : Int), .string (moreB n.natAbs), .int .u64 (lo d : Int), .string (moreB d)]
def dk (d : Nat) : Nat := if d = 1 then 0 else d
abbrev fracV (q : Rat) : Value := frV q.num (dk q.den)
theorem dk_one : dk 1 = 0 := rfl
theorem dk_ne {d : Nat} (h : d ≠ 1) : dk d = d := if_neg h
theorem dk_bl (d : Nat) : bl (dk d) ≤ bl d := by
 unfold dk; split
 ·rw [bl_zero]; omega
 ·exact Nat.le_refl _
theorem dk_zero (q : Rat) : dk q.den = 0 ↔ q.den = 1 := by
 have := q.den_nz
 unfold dk; split <;> omega
theorem bl_one : bl 1 = 1 := by have := bl_pow2 0; simpa using this
theorem bl_eq_one {n : Nat} : bl n = 1 ↔ n = 1 := by
 constructor
 ·intro h
  have h1 := lt_bl n
  rw [h] at h1
  have : n ≠ 0 := fun e => by rw [e, bl_zero] at h; omega
  omega
 ·rintro rfl; exact bl_one
theorem beq_bl_one (n : Nat) : (((bl n : Nat) : Int) == 1) = decide (n = 1) := by
 by_cases h : n = 1
 ·rw [decide_eq_true h, bl_eq_one.2 h]; rfl
 ·rw [decide_eq_false h]
  have : bl n ≠ 1 := fun e => h (bl_eq_one.1 e)
  simp; omega
theorem frV_zero (n : Int) : frV n 0 = .agg #[.bool (decide (n < 0)), .int .u64 (lo n.natAbs : Int), .string (moreB n.natAbs), .int .u64 0, .string ⟨#[]⟩] := by
 unfold frV
 rw [moreB_empty (n := 0) (by decide)]; rfl
theorem pack_pv (n : Int) (d : Nat) (hd : big d) : PV Tryz.prog 59 #[intV n, natV d] (frV n (dk d)) := by
 refine PV.of_pc ?_
 refine PC.body Tryz.tab_ok Tryz.func59 rfl (by kernel_rfl) Tryz.ntmps59 rfl rfl ?_
 repeat (first | refine RUN ?_ | refine CV (bits_pv d hd) ?_ | refine CE (bits_pv d hd) ?_)
 rw [beq_bl_one]
 by_cases h : d = 1
 ·rw [decide_eq_true h]
  (try refine RUN ?_)
  rw [h, dk_one, frV_zero]
 ·rw [decide_eq_false h]
  (try refine RUN ?_)
  rw [dk_ne h]
theorem over_pv (a b : Nat) (ha : big a) (hb : big b) (h0 : b ≠ 0) : PV Tryz.prog 58 #[natV a, natV b] (natV (a / b)) := by
 refine PV.of_pc ?_
 refine PC.body Tryz.tab_ok Tryz.func58 rfl (by kernel_rfl) Tryz.ntmps58 rfl rfl ?_
 repeat (first | refine RUN ?_ | refine CV (bits_pv b hb) ?_ | refine CE (bits_pv b hb) ?_)
 rw [beq_bl_one]
 by_cases h : b = 1
 ·rw [decide_eq_true h]
  (try refine RUN ?_)
  rw [h, Nat.div_one]
 ·rw [decide_eq_false h]
  repeat (first | refine RUN ?_ | refine CV (natDiv_pv a b h0 ha hb) ?_ | refine CE (natDiv_pv a b h0 ha hb) ?_)
  rfl
theorem part_pv (n : Int) (b : Nat) (hn : bigI n) (hb : big b) (h0 : b ≠ 0) (hdv : b ∣ n.natAbs) : PV Tryz.prog 60 #[intV n, natV b] (intV (n / (b : Int))) := by
 have hs : decide (n.sign < 0) = decide (n < 0) := by rw [decide_eq_decide]; exact Int.sign_neg_iff
 have hf := from_pv (decide (n < 0)) (n.natAbs / b) (Nat.le_trans (bl_div _ _) hn)
 have e : sg (decide (n < 0)) (n.natAbs / b) = n / (b : Int) := by
  rw [part_eq n b hdv]; unfold sg
  by_cases h : n < 0 <;> simp [h]
 rw [e] at hf
 refine PV.of_pc ?_
 refine PC.body Tryz.tab_ok Tryz.func60 rfl (by kernel_rfl) Tryz.ntmps60 rfl rfl ?_
 (try refine RUN ?_)
 apply EV.drawn 7 (by kernel_rfl) (by kernel_rfl); intro xv yw
 (repeat (first | refine' DD ?_ | (refine' DC (wholeSign_pv n hn) (h := ?_); rotate_left)))
 rw [hs]
 (repeat (first | refine' DD ?_ | (refine' DC (wholeAbs_pv n) (h := ?_); rotate_left) | (refine' DC (over_pv _ _ hn hb h0) (h := ?_); rotate_left)))
 (refine DJ.nil (fun G hG hF => ?_); (case hS => rfl); (case hS2 => rfl))
 repeat (first | refine RUN ?_ | refine CV (hf) ?_ | refine CE (hf) ?_)
 rfl
theorem times_pv (n : Int) (d : Nat) (hn : bigI n) (hd : big d) (hnd : big (n.natAbs * d)) : PV Tryz.prog 54 #[intV n, natV d] (intV (n * d)) := by
 have hm := wholeMul_pv n (d : Int) hn hd (by show big (n * (d : Int)).natAbs; rw [Int.natAbs_mul]; exact hnd)
 refine PV.of_pc ?_
 refine PC.body Tryz.tab_ok Tryz.func54 rfl (by kernel_rfl) Tryz.ntmps54 rfl rfl ?_
 (try refine RUN ?_)
 apply EV.drawn 3 (by kernel_rfl) (by kernel_rfl); intro xv yw
 (repeat (first | refine' DD ?_ | (refine' DC (from_pv false d hd) (h := ?_); rotate_left)))
 (refine DJ.nil (fun G hG hF => ?_); (case hS => rfl); (case hS2 => rfl))
 repeat (first | refine RUN ?_ | refine CV (hm) ?_ | refine CE (hm) ?_)
 rfl
theorem isWhole_pv (q : Rat) (h : big q.den) : PV Tryz.prog 50 #[fracV q] (.bool (decide (q.den = 1))) := by
 refine PV.of_pc ?_
 refine PC.body Tryz.tab_ok Tryz.func50 rfl (by kernel_rfl) Tryz.ntmps50 rfl rfl ?_
 repeat (first | refine RUN ?_ | refine CV (bits_pv (dk q.den) (Nat.le_trans (dk_bl _) h)) ?_ | refine CE (bits_pv (dk q.den) (Nat.le_trans (dk_bl _) h)) ?_)
 have e : (((bl (dk q.den) : Nat) : Int) == 0) = decide (q.den = 1) := by
  by_cases h1 : q.den = 1
  ·rw [decide_eq_true h1, (dk_zero q).2 h1, bl_zero]; rfl
  ·rw [decide_eq_false h1]
   have h2 : bl (dk q.den) ≠ 0 := fun e => h1 ((dk_zero q).1 (bl_eq_zero.1 e))
   simp; omega
 rw [e]
theorem den_pv (q : Rat) (h : big q.den) : PV Tryz.prog 55 #[fracV q] (natV q.den) := by
 refine PV.of_pc ?_
 refine PC.body Tryz.tab_ok Tryz.func55 rfl (by kernel_rfl) Tryz.ntmps55 rfl rfl ?_
 repeat (first | refine RUN ?_ | refine CV (isWhole_pv q h) ?_ | refine CE (isWhole_pv q h) ?_)
 by_cases h1 : q.den = 1
 ·rw [decide_eq_true h1]
  repeat (first | refine RUN ?_ | refine CV (natOf_pv 1 (by decide)) ?_ | refine CE (natOf_pv 1 (by decide)) ?_)
  rw [h1]
 ·rw [decide_eq_false h1]
  (try refine RUN ?_)
  rw [dk_ne h1]
theorem sign_pv (q : Rat) (h : bigI q.num) : PV Tryz.prog 17 #[fracV q] (.int .i64 q.num.sign) := by
 refine PV.of_pc ?_
 refine PC.body Tryz.tab_ok Tryz.func17 rfl (by kernel_rfl) Tryz.ntmps17 rfl rfl ?_
 repeat (first | refine RUN ?_ | refine CV (wholeSign_pv q.num h) ?_ | refine CE (wholeSign_pv q.num h) ?_)
 rfl
theorem of_pv (z : Int) (h1 : -9223372036854775808 ≤ z) (h2 : z < 9223372036854775808) : PV Tryz.prog 26 #[.int .i64 z] (fracV (z : Rat)) := by
 refine PV.of_pc ?_
 refine PC.body Tryz.tab_ok Tryz.func26 rfl (by kernel_rfl) Tryz.ntmps26 rfl rfl ?_
 repeat (first | refine RUN ?_ | refine CV (wholeOf_pv z h1 h2) ?_ | refine CE (wholeOf_pv z h1 h2) ?_)
 show _ = frV z 0
 rw [frV_zero]
theorem lowest_pv (n : Int) (d : Nat) (hn : bigI n) (hd : big d) (h0 : d ≠ 0) : PV Tryz.prog 70 #[intV n, natV d] (fracV (mkRat n d)) := by
 have hl := rat_lowest n d h0
 have hg0 : Nat.gcd n.natAbs d ≠ 0 := Nat.gcd_ne_zero_right h0
 have hgb : big (Nat.gcd n.natAbs d) := Nat.le_trans (bl_gcd_right _ _ h0) hd
 have hg := gcd_pv n (d : Int) hn hd
 have f1 := part_pv n (Nat.gcd n.natAbs d) hn hgb hg0 (Nat.gcd_dvd_left ..)
 have f2 := over_pv d (Nat.gcd n.natAbs d) hd hgb hg0
 have f3 := pack_pv (n / (Nat.gcd n.natAbs d : Nat)) (d / Nat.gcd n.natAbs d) (Nat.le_trans (bl_div _ _) hd)
 rw [← hl.1] at f1
 rw [← hl.2] at f2
 rw [← hl.1, ← hl.2] at f3
 refine PV.of_pc ?_
 refine PC.body Tryz.tab_ok Tryz.func70 rfl (by kernel_rfl) Tryz.ntmps70 rfl rfl ?_
 (try refine RUN ?_)
 (apply EV.drawn 5 (by kernel_rfl) (by kernel_rfl); intro xv yw; (repeat (first | refine' DD ?_ | (refine' DC (from_pv false d hd) (h := ?_); rotate_left) | (refine' DC (hg) (h := ?_); rotate_left))); refine DJ.nil (fun G hG hF => ?_); (case hS => rfl); (case hS2 => rfl))
 (try refine RUN ?_)
 (apply EV.drawn 7 (by kernel_rfl) (by kernel_rfl); intro xv yw; (repeat (first | refine' DD ?_ | (refine' DC (f1) (h := ?_); rotate_left) | (refine' DC (f2) (h := ?_); rotate_left) | (refine' DC (f3) (h := ?_); rotate_left))); refine DJ.nil (fun G hG hF => ?_); (case hS => rfl); (case hS2 => rfl))
 (try refine RUN ?_)
 rfl
theorem make_pv (n d : Int) (hn : bigI n) (hd : bigI d) (h0 : d ≠ 0) : PV Tryz.prog 46 #[intV n, intV d] (.tuple #[fracV (mkRat (if d < 0 then -n else n) d.natAbs), .bool true]) := by
 have l1 := lowest_pv (-n) d.natAbs (by show big (-n).natAbs; rw [Int.natAbs_neg]; exact hn) hd (by omega)
 have l2 := lowest_pv n d.natAbs hn hd (by omega)
 refine PV.of_pc ?_
 refine PC.body Tryz.tab_ok Tryz.func46 rfl (by kernel_rfl) Tryz.ntmps46 rfl rfl ?_
 repeat (first | refine RUN ?_ | refine CV (wholeSign_pv d hd) ?_ | refine CE (wholeSign_pv d hd) ?_)
 rw [show (d.sign == 0) = false by simp [Int.sign_eq_zero_iff_zero, h0]]
 repeat (first | refine RUN ?_ | refine CV (wholeSign_pv d hd) ?_ | refine CE (wholeSign_pv d hd) ?_)
 by_cases h : d < 0
 ·rw [decide_eq_true (Int.sign_neg_iff.2 h), if_pos h]
  repeat (first | refine RUN ?_ | refine CV (wholeNeg_pv n hn) ?_ | refine CE (wholeNeg_pv n hn) ?_)
  apply EV.drawn 3 (by kernel_rfl) (by kernel_rfl); intro xv yw
  (repeat (first | refine' DD ?_ | (refine' DC (wholeAbs_pv d) (h := ?_); rotate_left)))
  (refine DJ.nil (fun G hG hF => ?_); (case hS => rfl); (case hS2 => rfl))
  repeat (first | refine RUN ?_ | refine CV (l1) ?_ | refine CE (l1) ?_)
  rfl
 ·rw [decide_eq_false (fun e => h (Int.sign_neg_iff.1 e)), if_neg h]
  (try refine RUN ?_)
  apply EV.drawn 3 (by kernel_rfl) (by kernel_rfl); intro xv yw
  (repeat (first | refine' DD ?_ | (refine' DC (wholeAbs_pv d) (h := ?_); rotate_left)))
  (refine DJ.nil (fun G hG hF => ?_); (case hS => rfl); (case hS2 => rfl))
  repeat (first | refine RUN ?_ | refine CV (l2) ?_ | refine CE (l2) ?_)
  rfl
abbrev frL (n : Int) (d : Nat) : List Value := [.bool (decide (n < 0)), .int .u64 (lo n.natAbs : Int), .string (moreB n.natAbs), .int .u64 (lo d : Int), .string (moreB d)]
abbrev sm (q : Rat) : Prop := ht q ≤ 100000000
theorem sm.num {q : Rat} (h : sm q) : bl q.num.natAbs ≤ 100000000 := Nat.le_trans (bl_num_le q) h
theorem sm.den {q : Rat} (h : sm q) : bl q.den ≤ 100000000 := Nat.le_trans (bl_den_le q) h
theorem add_pv (a b : Rat) (ha : sm a) (hb : sm b) : PV Tryz.prog 25 #[fracV a, fracV b] (fracV (a + b)) := by
 have na := ha.num; have da := ha.den; have nb := hb.num; have db := hb.den
 have bna : bigI a.num := Nat.le_trans na (by omega)
 have bnb : bigI b.num := Nat.le_trans nb (by omega)
 have bda : big a.den := Nat.le_trans da (by omega)
 have bdb : big b.den := Nat.le_trans db (by omega)
 have hm := rat_add a b _ _ _ _ _ rfl rfl rfl rfl rfl
 generalize hg : Nat.gcd a.den b.den = g at hm
 have hg0 : g ≠ 0 := by rw [← hg]; exact Nat.gcd_ne_zero_right b.den_nz
 have bgl : bl g ≤ 100000000 := by rw [← hg]; exact Nat.le_trans (bl_gcd_right _ _ b.den_nz) db
 have bg : big g := Nat.le_trans bgl (by omega)
 have g1 := gcd_pv (a.den : Int) (b.den : Int) bda bdb
 rw [Int.natAbs_natCast, Int.natAbs_natCast, hg] at g1
 have o1 := over_pv a.den g bda bg hg0
 have o2 := over_pv b.den g bdb bg hg0
 have b1 : bl (a.den / g) ≤ 100000000 := Nat.le_trans (bl_div _ _) da
 have b2 : bl (b.den / g) ≤ 100000000 := Nat.le_trans (bl_div _ _) db
 have hone : a.den = 1 ∧ b.den = 1 → g = 1 ∧ a.den / g = 1 ∧ b.den / g = 1 := fun h => by
  have : g = 1 := by rw [← hg, h.1, h.2]; rfl
  rw [this, h.1, h.2]; exact ⟨rfl, rfl, rfl⟩
 generalize hdown : a.den / g = down at *
 generalize hother : b.den / g = other at *
 have c1 := bl_mul a.num.natAbs other
 have c2 := bl_mul b.num.natAbs down
 have t1 := times_pv a.num other bna (Nat.le_trans b2 (by omega)) (by show bl _ ≤ _; omega)
 have t2 := times_pv b.num down bnb (Nat.le_trans b1 (by omega)) (by show bl _ ≤ _; omega)
 have c1' : bl (a.num * (other : Int)).natAbs ≤ 200000000 := by rw [Int.natAbs_mul]; simp; omega
 have c2' : bl (b.num * (down : Int)).natAbs ≤ 200000000 := by rw [Int.natAbs_mul]; simp; omega
 have c3 := bl_add (a.num * (other : Int)).natAbs (b.num * (down : Int)).natAbs
 have ad := wholeAdd_pv (a.num * (other : Int)) (b.num * (down : Int)) (Nat.le_trans c1' (by omega)) (Nat.le_trans c2' (by omega)) (by show bl _ ≤ _; omega)
 have bup : bl (a.num * (other : Int) + b.num * (down : Int)).natAbs ≤ 200000001 := by
  have := bl_natAbs_add (a.num * (other : Int)) (b.num * (down : Int)); omega
 generalize hup : a.num * (other : Int) + b.num * (down : Int) = up at *
 generalize hh : Nat.gcd up.natAbs g = h at hm
 have hh0 : h ≠ 0 := by rw [← hh]; exact Nat.gcd_ne_zero_right hg0
 have bh : big h := by rw [← hh]; exact Nat.le_trans (bl_gcd_right _ _ hg0) bg
 have g2 := gcd_pv up (g : Int) (Nat.le_trans bup (by omega)) bg
 rw [Int.natAbs_natCast, hh] at g2
 have p1 := part_pv up h (Nat.le_trans bup (by omega)) bh hh0 (by rw [← hh]; exact Nat.gcd_dvd_left ..)
 have o3 := over_pv b.den h bdb bh hh0
 have b4 : bl (b.den / h) ≤ 100000000 := Nat.le_trans (bl_div _ _) db
 have m2 := natMul_pv down (b.den / h) (Nat.le_trans b1 (by omega)) (Nat.le_trans b4 (by omega))
 have pk := pack_pv (a + b).num (a + b).den (by rw [hm.2]; have := bl_mul down (b.den / h); show bl _ ≤ _; omega)
 rw [← hm.1] at p1
 rw [← hm.2] at m2
 have w1 := isWhole_pv a bda
 have w2 := isWhole_pv b bdb
 refine PV.of_pc ?_
 refine PC.body Tryz.tab_ok Tryz.func25 rfl (by kernel_rfl) Tryz.ntmps25 rfl rfl ?_
 repeat (first | refine RUN ?_ | refine CV (w1) ?_ | refine CE (w1) ?_)
 refine EVL.meet (fun env' bx' H' => SubL env' [(15, .v (.bool (decide (a.den = 1 ∧ b.den = 1)))), (4, .p 4 0), (3, .p 3 0), (2, .p 2 0)] ∧ SubX bx' [(4, 45, Tryz.te45.zero), (3, 45, frL b.num (dk b.den)), (2, 45, frL a.num (dk a.den))] ∧ H' = ⟨fun _ => none, [], ⟨fun _ => none, []⟩⟩) ?_ ?_
 ·rintro env' bx' H' _ ⟨he, hbx, rfl⟩
  refine EV.less _ _ he hbx rfl ?_
  by_cases hab : a.den = 1 ∧ b.den = 1
  ·rw [decide_eq_true hab]
   obtain ⟨e1, e2, e3⟩ := hone hab
   have e4 : h = 1 := by rw [← hh, e1, Nat.gcd_one_right]
   have e5 : (a + b).den = 1 := by rw [hm.2, e2, hab.2, e4]
   have e6 : (a + b).num = a.num + b.num := by rw [hm.1, e4, ← hup, e2, e3]; simp
   have c4 := bl_add a.num.natAbs b.num.natAbs
   have ad' := wholeAdd_pv a.num b.num bna bnb (by show bl _ ≤ _; omega)
   repeat (first | refine RUN ?_ | refine CV (ad') ?_ | refine CE (ad') ?_)
   show _ = frV (a + b).num (dk (a + b).den)
   rw [e5, dk_one, frV_zero, e6]
  ·rw [decide_eq_false hab]
   (try refine RUN ?_)
   have d1 := den_pv a bda
   have d2 := den_pv b bdb
   have s1 := from_pv false a.den bda
   have s2 := from_pv false b.den bdb
   have s3 := from_pv false g bg
   (apply EV.drawn 8 (by kernel_rfl) (by kernel_rfl); intro xv yw; (repeat (first | refine' DD ?_ | (refine' DC (d1) (h := ?_); rotate_left) | (refine' DC (s1) (h := ?_); rotate_left) | (refine' DC (d2) (h := ?_); rotate_left) | (refine' DC (s2) (h := ?_); rotate_left) | (refine' DC (g1) (h := ?_); rotate_left))); refine DJ.nil (fun G hG hF => ?_); (case hS => rfl); (case hS2 => rfl))
   (try refine RUN ?_)
   (apply EV.drawn 10 (by kernel_rfl) (by kernel_rfl); intro xv yw; (repeat (first | refine' DD ?_ | (refine' DC (d1) (h := ?_); rotate_left) | (refine' DC (d2) (h := ?_); rotate_left) | (refine' DC (o1) (h := ?_); rotate_left) | (refine' DC (o2) (h := ?_); rotate_left))); refine DJ.nil (fun G hG hF => ?_); (case hS => rfl); (case hS2 => rfl))
   (try refine RUN ?_)
   (apply EV.drawn 10 (by kernel_rfl) (by kernel_rfl); intro xv yw; (repeat (first | refine' DD ?_ | (refine' DC (t1) (h := ?_); rotate_left) | (refine' DC (t2) (h := ?_); rotate_left) | (refine' DC (ad) (h := ?_); rotate_left))); refine DJ.nil (fun G hG hF => ?_); (case hS => rfl); (case hS2 => rfl))
   (try refine RUN ?_)
   (apply EV.drawn 5 (by kernel_rfl) (by kernel_rfl); intro xv yw; (repeat (first | refine' DD ?_ | (refine' DC (s3) (h := ?_); rotate_left) | (refine' DC (g2) (h := ?_); rotate_left))); refine DJ.nil (fun G hG hF => ?_); (case hS => rfl); (case hS2 => rfl))
   (try refine RUN ?_)
   (apply EV.drawn 10 (by kernel_rfl) (by kernel_rfl); intro xv yw; (repeat (first | refine' DD ?_ | (refine' DC (p1) (h := ?_); rotate_left) | (refine' DC (d2) (h := ?_); rotate_left) | (refine' DC (o3) (h := ?_); rotate_left) | (refine' DC (m2) (h := ?_); rotate_left) | (refine' DC (pk) (h := ?_); rotate_left))); refine DJ.nil (fun G hG hF => ?_); (case hS => rfl); (case hS2 => rfl))
   (try refine RUN ?_)
   rfl
 ·by_cases ha1 : a.den = 1
  ·rw [decide_eq_true ha1]
   repeat (first | refine RUN ?_ | refine CV (w2) ?_ | refine CE (w2) ?_)
   refine ⟨⟨?_, rfl, rfl, rfl, trivial⟩, ⟨rfl, rfl, rfl, trivial⟩, rfl⟩
   simp [ha1]; rfl
  ·rw [decide_eq_false ha1]
   (try refine RUN ?_)
   refine ⟨⟨?_, rfl, rfl, rfl, trivial⟩, ⟨rfl, rfl, rfl, trivial⟩, rfl⟩
   simp [ha1]; rfl
theorem ordZ_scale (x y p q : Int) (hp : 0 < p) (hq : 0 < q) (h : x.sign ≠ y.sign) : ordZ x y = ordZ (x * p) (y * q) := by
 have f1 : x < 0 → x * p < 0 := fun h => Int.mul_neg_of_neg_of_pos h hp
 have f2 : 0 < x → 0 < x * p := fun h => Int.mul_pos h hp
 have f3 : y < 0 → y * q < 0 := fun h => Int.mul_neg_of_neg_of_pos h hq
 have f4 : 0 < y → 0 < y * q := fun h => Int.mul_pos h hq
 have f5 : x = 0 → x * p = 0 := fun h => by rw [h, Int.zero_mul]
 have f6 : y = 0 → y * q = 0 := fun h => by rw [h, Int.zero_mul]
 generalize x * p = u at *
 generalize y * q = v at *
 rcases Int.lt_trichotomy x 0 with hx | hx | hx <;> rcases Int.lt_trichotomy y 0 with hy | hy | hy
 ·exact absurd (by rw [Int.sign_eq_neg_one_of_neg hx, Int.sign_eq_neg_one_of_neg hy]) h
 ·unfold ordZ; rw [if_pos (by omega), if_pos (by have := f1 hx; have := f6 hy; omega)]
 ·unfold ordZ; rw [if_pos (by omega), if_pos (by have := f1 hx; have := f4 hy; omega)]
 ·unfold ordZ; rw [if_neg (by omega), if_pos (by omega), if_neg (by have := f5 hx; have := f3 hy; omega), if_pos (by have := f5 hx; have := f3 hy; omega)]
 ·exact absurd (by rw [hx, hy]) h
 ·unfold ordZ; rw [if_pos (by omega), if_pos (by have := f5 hx; have := f4 hy; omega)]
 ·unfold ordZ; rw [if_neg (by omega), if_pos (by omega), if_neg (by have := f2 hx; have := f3 hy; omega), if_pos (by have := f2 hx; have := f3 hy; omega)]
 ·unfold ordZ; rw [if_neg (by omega), if_pos (by omega), if_neg (by have := f2 hx; have := f6 hy; omega), if_pos (by have := f2 hx; have := f6 hy; omega)]
 ·exact absurd (by rw [Int.sign_eq_one_of_pos hx, Int.sign_eq_one_of_pos hy]) h
theorem sign_ne (a b : Rat) (h : a.num.sign ≠ b.num.sign) : ordZ a.num b.num = ordR a b := by
 have := Nat.pos_of_ne_zero a.den_nz
 have := Nat.pos_of_ne_zero b.den_nz
 rw [ordR_eq]; exact ordZ_scale _ _ _ _ (by omega) (by omega) h
theorem cmp_pv (a b : Rat) (ha : sm a) (hb : sm b) : PV Tryz.prog 24 #[fracV a, fracV b] (.int .i64 (ordR a b)) := by
 have na := ha.num; have da := ha.den; have nb := hb.num; have db := hb.den
 have bna : bigI a.num := Nat.le_trans na (by omega)
 have bnb : bigI b.num := Nat.le_trans nb (by omega)
 have bda : big a.den := Nat.le_trans da (by omega)
 have bdb : big b.den := Nat.le_trans db (by omega)
 have w1 := isWhole_pv a bda
 have w2 := isWhole_pv b bdb
 have s1 := sign_pv a bna
 have s2 := sign_pv b bnb
 have d1 := den_pv a bda
 have d2 := den_pv b bdb
 have c1 := bl_mul a.num.natAbs b.den
 have c2 := bl_mul b.num.natAbs a.den
 have t1 := times_pv a.num b.den bna bdb (by show bl _ ≤ _; omega)
 have t2 := times_pv b.num a.den bnb bda (by show bl _ ≤ _; omega)
 have k1 := wholeCmp_pv a.num b.num bna bnb
 have k2 := wholeCmp_pv (a.num * (b.den : Int)) (b.num * (a.den : Int)) (by show bl _ ≤ _; rw [Int.natAbs_mul]; simp; omega) (by show bl _ ≤ _; rw [Int.natAbs_mul]; simp; omega)
 rw [← ordR_eq] at k2
 refine PV.of_pc ?_
 refine PC.body Tryz.tab_ok Tryz.func24 rfl (by kernel_rfl) Tryz.ntmps24 rfl rfl ?_
 (try refine RUN ?_)
 by_cases ha1 : a.den = 1
 ·rw [decide_eq_true ha1] at w1
  by_cases hb1 : b.den = 1
  ·rw [decide_eq_true hb1] at w2
   have e : ordZ a.num b.num = ordR a b := by rw [ordR_eq, ha1, hb1]; simp
   rw [e] at k1
   apply EV.drawn 10 (by kernel_rfl) (by kernel_rfl); intro xv yw
   (repeat (first | refine' DD ?_ | (refine' DC (w1) (h := ?_); rotate_left) | (refine' DC (w2) (h := ?_); rotate_left) | (refine' DC (s1) (h := ?_); rotate_left) | (refine' DC (s2) (h := ?_); rotate_left)))
   (refine DJ.nil (fun G hG hF => ?_); (case hS => rfl); (case hS2 => rfl))
   repeat (first | refine RUN ?_ | refine CV (k1) ?_ | refine CE (k1) ?_)
   rfl
  ·rw [decide_eq_false hb1] at w2
   apply EV.drawn 10 (by kernel_rfl) (by kernel_rfl); intro xv yw
   (repeat (first | refine' DD ?_ | (refine' DC (w1) (h := ?_); rotate_left) | (refine' DC (w2) (h := ?_); rotate_left) | (refine' DC (s1) (h := ?_); rotate_left) | (refine' DC (s2) (h := ?_); rotate_left)))
   (refine DJ.nil (fun G hG hF => ?_); (case hS => rfl); (case hS2 => rfl))
   repeat (first | refine RUN ?_ | refine CV (s1) ?_ | refine CV (s2) ?_ | refine CE (s1) ?_ | refine CE (s2) ?_)
   by_cases hs : a.num.sign = b.num.sign
   ·rw [show (a.num.sign != b.num.sign) = false by simp [hs]]
    (try refine RUN ?_)
    apply EV.drawn 9 (by kernel_rfl) (by kernel_rfl); intro xv yw
    (repeat (first | refine' DD ?_ | (refine' DC (d2) (h := ?_); rotate_left) | (refine' DC (t1) (h := ?_); rotate_left) | (refine' DC (d1) (h := ?_); rotate_left)))
    (refine DJ.nil (fun G hG hF => ?_); (case hS => rfl); (case hS2 => rfl))
    repeat (first | refine RUN ?_ | refine CV (t2) ?_ | refine CV (k2) ?_ | refine CE (t2) ?_ | refine CE (k2) ?_)
    rfl
   ·rw [show (a.num.sign != b.num.sign) = true by simp [hs]]
    repeat (first | refine RUN ?_ | refine CV (k1) ?_ | refine CE (k1) ?_)
    rw [sign_ne a b hs]
 ·rw [decide_eq_false ha1] at w1
  apply EV.drawn 10 (by kernel_rfl) (by kernel_rfl); intro xv yw
  (repeat (first | refine' DD ?_ | (refine' DC (w1) (h := ?_); rotate_left) | (refine' DC (w2) (h := ?_); rotate_left) | (refine' DC (s1) (h := ?_); rotate_left) | (refine' DC (s2) (h := ?_); rotate_left)))
  (refine DJ.nil (fun G hG hF => ?_); (case hS => rfl); (case hS2 => rfl))
  repeat (first | refine RUN ?_ | refine CV (s1) ?_ | refine CV (s2) ?_ | refine CE (s1) ?_ | refine CE (s2) ?_)
  by_cases hs : a.num.sign = b.num.sign
  ·rw [show (a.num.sign != b.num.sign) = false by simp [hs]]
   (try refine RUN ?_)
   apply EV.drawn 9 (by kernel_rfl) (by kernel_rfl); intro xv yw
   (repeat (first | refine' DD ?_ | (refine' DC (d2) (h := ?_); rotate_left) | (refine' DC (t1) (h := ?_); rotate_left) | (refine' DC (d1) (h := ?_); rotate_left)))
   (refine DJ.nil (fun G hG hF => ?_); (case hS => rfl); (case hS2 => rfl))
   repeat (first | refine RUN ?_ | refine CV (t2) ?_ | refine CV (k2) ?_ | refine CE (t2) ?_ | refine CE (k2) ?_)
   rfl
  ·rw [show (a.num.sign != b.num.sign) = true by simp [hs]]
   repeat (first | refine RUN ?_ | refine CV (k1) ?_ | refine CE (k1) ?_)
   rw [sign_ne a b hs]
theorem pick_pv (z m : Int) (hz : -9223372036854775808 ≤ z ∧ z < 9223372036854775808) (h0 : 0 < m) (hm : m < 4611686018427387904) : PV Tryz.prog 6 #[.int .i64 z, .int .i64 m] (.int .i64 (z % m)) := by
 have h1 := Int.tmod_lt_of_pos z h0
 have h2 := Int.lt_tmod_of_pos z h0
 have e : z % m = if z.tmod m < 0 then z.tmod m + m else z.tmod m := by
  have hq := Int.mul_tdiv_add_tmod z m
  have e1 : z % m = z.tmod m % m := by
   conv => lhs; rw [← hq]
   rw [Int.mul_add_emod_self_left]
  rw [e1]
  by_cases ht : z.tmod m < 0
  ·rw [if_pos ht, ← Int.add_emod_right, Int.emod_eq_of_lt (by omega) (by omega)]
  ·rw [if_neg ht, Int.emod_eq_of_lt (by omega) h1]
 refine PV.of_pc ?_
 refine PC.body Tryz.tab_ok Tryz.func6 rfl (by kernel_rfl) Tryz.ntmps6 rfl rfl ?_
 (try refine RUN ?_)
 refine EVL.remI rfl rfl rfl rfl rfl rfl (by omega) ?_
 generalize z.tmod m = t at *
 (try refine RUN ?_)
 by_cases ht : t < 0
 ·rw [if_pos ht] at e
  rw [decide_eq_true ht]
  (try refine RUN ?_)
  rw [e, IntKind.wrap_i64]; congr 1; omega
 ·rw [if_neg ht] at e
  rw [decide_eq_false ht]
  (try refine RUN ?_)
  rw [e]
section
variable {P : Program} {n : Nat} {ops : Array Oper} {o : Oper} {rest : List Oper} {env : Env} {bx : Bxs} {sb : Bxs} {ow : Ows} {H : Hs} {Q : EQ} {τ : Tab} {d : Nat} {s : SV}
end
theorem take_snoc {α : Type} {l : List α} {i : Nat} {x : α} (h : l[i]? = some x) : l.take (i + 1) = l.take i ++ [x] := by
 obtain ⟨hl, rfl⟩ := List.getElem?_eq_some_iff.1 h
 exact List.take_succ_eq_append_getElem hl
end Go.Proofs.YtjekjlaokjhhgaaGreatDoor
namespace Go.Proofs.YtjekjlaokjhhgaaGreatDoor
end Go.Proofs.YtjekjlaokjhhgaaGreatDoor
namespace Go.Proofs.YtjekjlaokjhhgaaGreatDoor
open Go.RowKit
def nearN (n : Int) (d : Nat) : Int :=
 let q := n / (d : Int)
 let r := n % (d : Int)
 if ordZ (r + r) d = 0 then (if q % 2 = 0 then q else q + 1) else if 0 < ordZ (r + r) d then q + 1 else q
def kb (z : Int) : Nat := (max 0 (min z 256)).toNat
theorem near_pv (a : Rat) (ha : sm a) (z : Int) (hz : -9223372036854775808 ≤ z ∧ z < 9223372036854775808) : PV Tryz.prog 42 #[fracV a, .int .i64 z] (fracV (mkRat (nearN (a.num * (2 ^ kb z : Nat)) a.den) (2 ^ kb z))) := by
 have hk : kb z ≤ 256 := by unfold kb; omega
 have na := ha.num; have da := ha.den
 have bna : bigI a.num := Nat.le_trans na (by omega)
 have bda : big a.den := Nat.le_trans da (by omega)
 have hn1 := natOf_pv 1 (by decide)
 have hb1 : big 1 := by show bl 1 ≤ _; rw [bl_one]; omega
 have sh := natShift_up 1 (kb z) (by omega) hb1
 rw [Nat.one_mul] at sh
 have hkz : (if (if (256 : Int) < z then 256 else z) > 0 then (if (256 : Int) < z then 256 else z) else 0) = ((kb z : Nat) : Int) := by unfold kb; split <;> split <;> omega
 have hp := bl_pow2 (kb z)
 have bu : big (2 ^ kb z) := by show bl _ ≤ _; omega
 have d1 := den_pv a bda
 have s1 := from_pv false a.den bda
 generalize hN : a.num * ((2 ^ kb z : Nat) : Int) = N at *
 have cN := bl_mul a.num.natAbs (2 ^ kb z)
 have bN : bl N.natAbs ≤ 200000000 := by rw [← hN, Int.natAbs_mul, Int.natAbs_natCast]; omega
 have t1 := times_pv a.num (2 ^ kb z) bna bu (by show bl _ ≤ _; omega)
 rw [hN] at t1
 have dn0 := a.den_nz
 have hd := wholeDiv_pv N (a.den : Int) (by omega) (by have := bl_add N.natAbs 1; have := bl_one; show bl _ ≤ _; omega) bda
 rw [Int.fdiv_eq_ediv_of_nonneg _ (Int.natCast_nonneg _), Int.fmod_eq_emod_of_nonneg _ (Int.natCast_nonneg _)] at hd
 have hr1 := Int.emod_nonneg N (show (a.den : Int) ≠ 0 by omega)
 have hr2 := Int.emod_lt_of_pos N (show (0 : Int) < a.den by omega)
 have br : bl (N % (a.den : Int)).natAbs ≤ 100000000 := Nat.le_trans (bl_mono (by omega)) da
 have cr := bl_add (N % (a.den : Int)).natAbs (N % (a.den : Int)).natAbs
 have ad := wholeAdd_pv (N % (a.den : Int)) (N % (a.den : Int)) (Nat.le_trans br (by omega)) (Nat.le_trans br (by omega)) (by show bl _ ≤ _; omega)
 have brr : bl (N % (a.den : Int) + N % (a.den : Int)).natAbs ≤ 100000001 := by have := bl_natAbs_add (N % (a.den : Int)) (N % (a.den : Int)); omega
 have ck := wholeCmp_pv (N % (a.den : Int) + N % (a.den : Int)) (a.den : Int) (Nat.le_trans brr (by omega)) bda
 have bq : bl (N / (a.den : Int)).natAbs ≤ 200000000 := Nat.le_trans (bl_mono (natAbs_ediv_le _ _)) bN
 have w1 := wholeOf_pv 1 (by omega) (by omega)
 have w2 := wholeOf_pv 2 (by omega) (by omega)
 have cq := bl_add (N / (a.den : Int)).natAbs 1
 have hd2 := wholeDiv_pv (N / (a.den : Int)) 2 (by omega) (by have := bl_one; show bl _ ≤ _; omega) (by decide +kernel)
 rw [Int.fdiv_eq_ediv_of_nonneg _ (by omega), Int.fmod_eq_emod_of_nonneg _ (by omega)] at hd2
 have sg2 := wholeSign_pv (N / (a.den : Int) % 2) (Nat.le_trans (bl_mono (show _ ≤ 1 by omega)) hb1)
 have bq1 : bl (N / (a.den : Int) + 1).natAbs ≤ 200000001 := by have := bl_natAbs_add (N / (a.den : Int)) 1; rw [show (1 : Int).natAbs = 1 from rfl, bl_one] at this; omega
 have ad1 := wholeAdd_pv (N / (a.den : Int)) 1 (Nat.le_trans bq (by omega)) hb1 (by have := bl_one; show bl (_ + 1) ≤ _; omega)
 have l0 := lowest_pv (N / (a.den : Int)) (2 ^ kb z) (Nat.le_trans bq (by omega)) bu (Nat.ne_of_gt (Nat.pow_pos (by omega)))
 have l1 := lowest_pv (N / (a.den : Int) + 1) (2 ^ kb z) (Nat.le_trans bq1 (by omega)) bu (Nat.ne_of_gt (Nat.pow_pos (by omega)))
 refine PV.of_pc ?_
 refine PC.body Tryz.tab_ok Tryz.func42 rfl (by kernel_rfl) Tryz.ntmps42 rfl rfl ?_
 (try refine RUN ?_)
 rw [hkz]
 repeat (first | refine RUN ?_ | refine CV (hn1) ?_ | refine CV (sh) ?_ | refine CV (d1) ?_ | refine CV (s1) ?_ | refine CE (hn1) ?_ | refine CE (sh) ?_ | refine CE (d1) ?_ | refine CE (s1) ?_)
 (apply EV.drawn 14 (by kernel_rfl) (by kernel_rfl); intro xv yw; (repeat (first | refine' DD ?_ | (refine' DC (t1) (h := ?_); rotate_left) | (refine' DC (hd) (h := ?_); rotate_left))); refine DJ.nil (fun G hG hF => ?_); (case hS => rfl); (case hS2 => rfl))
 (try refine RUN ?_)
 (apply EV.drawn 4 (by kernel_rfl) (by kernel_rfl); intro xv yw; (repeat (first | refine' DD ?_ | (refine' DC (ad) (h := ?_); rotate_left))); refine DJ.nil (fun G hG hF => ?_); (case hS => rfl); (case hS2 => rfl))
 repeat (first | refine RUN ?_ | refine CV (ck) ?_ | refine CE (ck) ?_)
 generalize ho : ordZ (N % (a.den : Int) + N % (a.den : Int)) (a.den : Int) = o at *
 have nh : nearN N a.den = if o = 0 then (if (N / (a.den : Int)) % 2 = 0 then N / (a.den : Int) else N / (a.den : Int) + 1) else if 0 < o then N / (a.den : Int) + 1 else N / (a.den : Int) := by unfold nearN; simp only [ho]
 rw [nh]
 by_cases h0 : o = 0
 ·rw [if_pos h0, show (o == 0) = true by simp [h0]]
  (try refine RUN ?_)
  (apply EV.drawn 11 (by kernel_rfl) (by kernel_rfl); intro xv yw; (repeat (first | refine' DD ?_ | (refine' DC (w2) (h := ?_); rotate_left) | (refine' DC (hd2) (h := ?_); rotate_left))); refine DJ.nil (fun G hG hF => ?_); (case hS => rfl); (case hS2 => rfl))
  repeat (first | refine RUN ?_ | refine CV (sg2) ?_ | refine CE (sg2) ?_)
  by_cases h2 : (N / (a.den : Int)) % 2 = 0
  ·rw [if_pos h2, show decide ((N / (a.den : Int) % 2).sign > 0) = false by rw [h2]; rfl]
   repeat (first | refine RUN ?_ | refine CV (l0) ?_ | refine CE (l0) ?_)
   rfl
  ·rw [if_neg h2, show decide ((N / (a.den : Int) % 2).sign > 0) = true by rw [show N / (a.den : Int) % 2 = 1 by omega]; rfl]
   (try refine RUN ?_)
   (apply EV.drawn 2 (by kernel_rfl) (by kernel_rfl); intro xv yw; (repeat (first | refine' DD ?_ | (refine' DC (w1) (h := ?_); rotate_left))); refine DJ.nil (fun G hG hF => ?_); (case hS => rfl); (case hS2 => rfl))
   repeat (first | refine RUN ?_ | refine CV (ad1) ?_ | refine CV (l1) ?_ | refine CE (ad1) ?_ | refine CE (l1) ?_)
   rfl
 ·rw [if_neg h0, show (o == 0) = false by simp [h0]]
  (try refine RUN ?_)
  by_cases h2 : 0 < o
  ·rw [if_pos h2, show decide (o > 0) = true by simpa using h2]
   (try refine RUN ?_)
   (apply EV.drawn 2 (by kernel_rfl) (by kernel_rfl); intro xv yw; (repeat (first | refine' DD ?_ | (refine' DC (w1) (h := ?_); rotate_left))); refine DJ.nil (fun G hG hF => ?_); (case hS => rfl); (case hS2 => rfl))
   repeat (first | refine RUN ?_ | refine CV (ad1) ?_ | refine CV (l1) ?_ | refine CE (ad1) ?_ | refine CE (l1) ?_)
   rfl
  ·rw [if_neg h2, show decide (o > 0) = false by simpa using h2]
   repeat (first | refine RUN ?_ | refine CV (l0) ?_ | refine CE (l0) ?_)
   rfl
abbrev sb (l : List UInt8) : ByteArray := ⟨l.toArray⟩
section
variable {P : Program} {n : Nat} {ops : Array Oper} {o : Oper} {rest : List Oper} {env : Env} {bx : Bxs} {sb' : Bxs} {ow : Ows} {H : Hs} {Q : EQ} {τ : Tab} {d : Nat} {s : SV}
theorem run_cat {T T' : TypeId} {x y : Operand} (ho : o.op = .binOp .add T x y T') (a b : List UInt8) (hx : env.op x = some (.v (.string (sb a)))) (hy : env.op y = some (.v (.string (sb b)))) (ha : a.length ≤ 8388608) (hb : b.length ≤ 8388608) (ev : Operand → Value) (W : World) (he : ∀ y x, y ∈ o.op.operands → env.op y = some (.v x) → ev y = x) :
  (execOp ev o).run P W = .ok (.value (.string (sb (a ++ b)))) W := by
 have ex := he x _ (by simp [ho, Op.operands]) hx
 have ey := he y _ (by simp [ho, Op.operands]) hy
 unfold execOp
 simp [ho, ex, ey, eqGuard, binOp, run_string_add_lists W a b (by omega) (by omega)]
theorem EVL.cat {T T' : TypeId} {x y : Operand} (a b : List UInt8) (ho : o.op = .binOp .add T x y T') (hw : wantB ops env o = some true) (hd : o.dst = some d) (hn : Nat.blt d n = true) (hx : env.op x = some (.v (.string (sb a)))) (hy : env.op y = some (.v (.string (sb b)))) (ha : a.length ≤ 8388608) (hb : b.length ≤ 8388608)
  (h : EVL P n ops rest ((d, .v (.string (sb (a ++ b)))) :: env) bx H Q) : EVL P n ops (o :: rest) env bx H Q := EVL.gen hw hd hn (run_cat ho a b hx hy ha hb) h
theorem DJ.cat {tail l : List Oper} {x : Nat → Value} {y : Nat → Ows} {ow' : Ows} {kl ks : List DK} {i : Nat} {bx' : Bxs} {Γ : Fcts} {T T' : TypeId} {u w : Operand} (a b : List UInt8) (ho : o.op = .binOp .add T u w T') (hw : wantB ops env o = some true) (hd : o.dst = some d) (hn : Nat.blt d n = true) (hx : env.op u = some (.v (.string (sb a)))) (hy : env.op w = some (.v (.string (sb b)))) (ha : a.length ≤ 8388608) (hb : b.length ≤ 8388608)
  (h : DJ P n ops tail sb' bx H Q x y kl (i + 1) l ks ((d, .v (.string (sb (a ++ b)))) :: env) bx' Γ ow') : DJ P n ops tail sb' bx H Q x y kl i (o :: l) (.sv (.v (.string (sb (a ++ b)))) :: ks) env bx' Γ ow' :=
 DJ.ofVal (ValOk.gen hw (run_cat ho a b hx hy ha hb)) hd hn rfl h
end
abbrev PowT (H : Hp) : Prop := H 3 = some powC
theorem PowT.mono {H G : Hp} (h : PowT H) (k : H.Le G) : PowT G := k _ _ h
theorem dig_small {n : Nat} (h0 : n ≠ 0) (h : n < W64) : dig W64 n = [n] := by
 rw [dig_pos W64_two (by omega), Nat.mod_eq_of_lt h, Nat.div_eq_of_lt h, dig_zero]
theorem natText_pc {H : Hp} (n : Nat) (hn : n < 18446744073709551616) (hT : PowT H) : PC Tryz.prog 51 #[natV n] H fun r _ => r = .string (decS n) := by
 have hb : big n := by
  show bl n ≤ _
  have := bl_le (n := n) (k := 64) (by omega)
  omega
 have hw := fun H => words_pc n hb H
 have hlen : (dig W64 n).length ≤ 1 := by
  by_cases h0 : n = 0
  ·subst h0; rw [dig_zero]; simp
  ·rw [dig_small h0 hn]; simp
 have hlo : lo n = n := lo_of_lt hn
 generalize dig W64 n = L at *
 refine PC.body Tryz.tab_ok Tryz.func51 rfl (by kernel_rfl) Tryz.ntmps51 rfl rfl ?_
 (try refine RUN ?_)
 refine EVL.call rfl rfl rfl rfl rfl (hw _) ?_
 rintro v G hv hG
 obtain ⟨a, c, rfl⟩ := SlC.val hv
 have hfmt := fmt_pc n hn (hT.mono hG)
 rw [hlo]
 (try refine RUN ?_)
 rw [decide_eq_true (show (L.length : Int) ≤ 1 by omega)]
 repeat (first | refine RUN ?_ | refine CV (hfmt) ?_ | refine CE (hfmt) ?_)
 rfl
def wtL (z : Int) : List UInt8 := (if z < 0 then [45] else []) ++ Lib.decDigits z.natAbs
end Go.Proofs.YtjekjlaokjhhgaaGreatDoor
namespace Go.Proofs.YtjekjlaokjhhgaaGreatDoor
theorem decD_step {n : Nat} (h : 10 ≤ n) : Lib.decDigits n = Lib.decDigits (n / 10) ++ [UInt8.ofNat (48 + n % 10)] := by
 rw [Lib.decDigits, dif_neg (by omega)]
theorem decD_low {n : Nat} (h : n < 10) : Lib.decDigits n = [UInt8.ofNat (48 + n)] := by
 rw [Lib.decDigits, dif_pos h]
theorem decD_ne (n : Nat) : Lib.decDigits n ≠ [] := by
 by_cases h : n < 10
 ·rw [decD_low h]; simp
 ·rw [decD_step (by omega)]; simp
def padD : Nat → Nat → List UInt8
 | 0, _ => []
 | k + 1, x => padD k (x / 10) ++ [UInt8.ofNat (48 + x % 10)]
theorem padD_len : ∀ k x, (padD k x).length = k
 | 0, _ => rfl
 | k + 1, x => by unfold padD; rw [List.length_append, padD_len k]; rfl
theorem padD_zero : ∀ k, padD k 0 = List.replicate k 48
 | 0 => rfl
 | k + 1 => by
  unfold padD
  rw [Nat.zero_div, padD_zero k, List.replicate_succ']; rfl
theorem decD_pad : ∀ (k q r : Nat), 0 < q → r < 10 ^ k → Lib.decDigits (q * 10 ^ k + r) = Lib.decDigits q ++ padD k r
 | 0, q, r, _, hr => by
  have : r = 0 := by simpa using hr
  subst this
  simp [padD]
 | k + 1, q, r, hq, hr => by
  rw [Nat.pow_succ] at hr ⊢
  have h1 : 1 ≤ 10 ^ k := Nat.one_le_pow _ _ (by omega)
  have h2 : 10 ^ k ≤ q * 10 ^ k := Nat.le_mul_of_pos_left _ hq
  have e : q * (10 ^ k * 10) + r = q * 10 ^ k * 10 + r := by rw [Nat.mul_assoc]
  rw [e, decD_step (by omega), show (q * 10 ^ k * 10 + r) / 10 = q * 10 ^ k + r / 10 by omega, show (q * 10 ^ k * 10 + r) % 10 = r % 10 by omega, decD_pad k q (r / 10) hq (by omega), List.append_assoc]
  rfl
theorem padD_zeros : ∀ (k r : Nat), r < 10 ^ (k + 1) → padD (k + 1) r = List.replicate (k + 1 - (Lib.decDigits r).length) 48 ++ Lib.decDigits r ∧ (Lib.decDigits r).length ≤ k + 1
 | 0, r, h => by
  have h : r < 10 := by simpa using h
  rw [decD_low h]
  unfold padD padD
  rw [Nat.mod_eq_of_lt h]
  exact ⟨rfl, Nat.le_refl _⟩
 | k + 1, r, h => by
  by_cases h10 : r < 10
  ·rw [decD_low h10]
   unfold padD
   rw [Nat.div_eq_of_lt h10, padD_zero, Nat.mod_eq_of_lt h10]
   exact ⟨rfl, by simp⟩
  ·rw [Nat.pow_succ] at h
   obtain ⟨e1, e2⟩ := padD_zeros k (r / 10) (by omega)
   rw [decD_step (by omega)]
   unfold padD
   rw [e1, List.length_append, List.length_singleton, List.append_assoc]
   refine ⟨?_, by omega⟩
   rw [show k + 1 + 1 - ((Lib.decDigits (r / 10)).length + 1) = k + 1 - (Lib.decDigits (r / 10)).length by omega]
def Ten19 : Nat := 10000000000000000000
theorem Ten_two : 2 ≤ Ten19 := by decide
theorem Ten_pow : Ten19 = 10 ^ 19 := by decide
def textP : List Nat → List UInt8
 | [] => []
 | [x] => Lib.decDigits x
 | x :: y :: l => textP (y :: l) ++ padD 19 x
theorem textP_dig : ∀ n : Nat, n ≠ 0 → textP (dig Ten19 n) = Lib.decDigits n := by
 intro n
 induction n using Nat.strongRecOn with
 | _ n ih =>
  intro h0
  rw [dig_pos Ten_two h0]
  by_cases hq : n / Ten19 = 0
  ·have hlt : n < Ten19 := by
    rcases Nat.div_eq_zero_iff.1 hq with h | h
    ·exact absurd h (by decide)
    ·exact h
   rw [hq, dig_zero, Nat.mod_eq_of_lt hlt]; rfl
  ·have h2 := ih (n / Ten19) (Nat.div_lt_self (by omega) (by decide)) hq
   obtain ⟨y, l, e⟩ : ∃ y l, dig Ten19 (n / Ten19) = y :: l := ⟨_, _, dig_pos Ten_two hq⟩
   rw [e] at h2 ⊢
   show textP (y :: l) ++ padD 19 (n % Ten19) = _
   rw [h2, ← decD_pad 19 (n / Ten19) (n % Ten19) (Nat.pos_of_ne_zero hq) (by rw [← Ten_pow]; exact Nat.mod_lt _ (by decide)), ← Ten_pow]
   congr 1
   rw [Nat.mul_comm]; exact Nat.div_add_mod n Ten19
theorem textP_cons {x : Nat} {l : List Nat} (h : l ≠ []) : textP (x :: l) = textP l ++ padD 19 x := by
 cases l with
 | nil => exact absurd rfl h
 | cons y l => rfl
end Go.Proofs.YtjekjlaokjhhgaaGreatDoor
namespace Go.Proofs.YtjekjlaokjhhgaaGreatDoor
def dV (c : UInt8) : Nat := c.toNat - 48
def isDg (c : UInt8) : Bool := decide (48 ≤ c.toNat) && decide (c.toNat ≤ 57)
def valD (l : List UInt8) : Nat := l.foldl (fun a c => a * 10 + dV c) 0
theorem valD_snoc (l : List UInt8) (c : UInt8) : valD (l ++ [c]) = valD l * 10 + dV c := by unfold valD; rw [List.foldl_append]; rfl
theorem dV_lt {c : UInt8} (h : isDg c = true) : dV c < 10 := by
 unfold isDg at h
 rw [Bool.and_eq_true] at h
 have h1 := of_decide_eq_true h.1
 have h2 := of_decide_eq_true h.2
 unfold dV
 omega
theorem valD_lt : ∀ l : List UInt8, l.all isDg = true → valD l.reverse < 10 ^ l.length
 | [], _ => by decide
 | c :: l, h => by
  rw [List.all_cons, Bool.and_eq_true] at h
  have h1 := valD_lt l h.2
  have h2 := dV_lt h.1
  rw [List.reverse_cons, valD_snoc, List.length_cons, Nat.pow_succ]
  omega
theorem valD_lt' {l : List UInt8} (h : l.all isDg = true) : valD l < 10 ^ l.length := by
 have := valD_lt l.reverse (by rw [List.all_reverse]; exact h)
 rwa [List.reverse_reverse, List.length_reverse] at this
theorem dV_dig {x : Nat} (h : x < 10) : dV (UInt8.ofNat (48 + x)) = x ∧ isDg (UInt8.ofNat (48 + x)) = true ∧ (UInt8.ofNat (48 + x) = 48 → x = 0) := by
 have : ∀ x : Fin 10, dV (UInt8.ofNat (48 + x.val)) = x.val ∧ isDg (UInt8.ofNat (48 + x.val)) = true ∧ (UInt8.ofNat (48 + x.val) = 48 → x.val = 0) := by decide
 exact this ⟨x, h⟩
theorem valD_dec (n : Nat) : valD (Lib.decDigits n) = n ∧ (Lib.decDigits n).all isDg = true := by
 induction n using Nat.strongRecOn with
 | _ n ih =>
  by_cases h : n < 10
  ·obtain ⟨a, b, _⟩ := dV_dig h
   rw [decD_low h]
   exact ⟨by show 0 * 10 + dV _ = n; rw [a]; omega, by rw [List.all_cons, b]; rfl⟩
  ·obtain ⟨a, b⟩ := ih (n / 10) (by omega)
   obtain ⟨c, d, _⟩ := dV_dig (x := n % 10) (by omega)
   rw [decD_step (by omega), valD_snoc, a, c, List.all_append, b, List.all_cons, d]
   exact ⟨by omega, rfl⟩
theorem decD_head (n : Nat) : ∃ c t, Lib.decDigits n = c :: t ∧ (n ≠ 0 → c ≠ 48) := by
 induction n using Nat.strongRecOn with
 | _ n ih =>
  by_cases h : n < 10
  ·obtain ⟨_, _, c⟩ := dV_dig h
   exact ⟨_, [], decD_low h, fun k e => k (c e)⟩
  ·obtain ⟨c, t, e, k⟩ := ih (n / 10) (by omega)
   exact ⟨c, t ++ [UInt8.ofNat (48 + n % 10)], by rw [decD_step (by omega), e]; rfl, fun _ => k (by omega)⟩
def okN (l : List UInt8) : Prop := 1 ≤ l.length ∧ l.length ≤ 200 ∧ ¬ (1 < l.length ∧ l.head? = some 48) ∧ l.all isDg = true
instance (l : List UInt8) : Decidable (okN l) := by unfold okN; exact inferInstance
def pN (l : List UInt8) : Option Nat := if okN l then some (valD l) else none
def pI (l : List UInt8) : Option Int := if l.head? = some 45 then (match pN l.tail with | some n => if n = 0 then none else some (-(n : Int)) | none => none) else Option.map (fun n : Nat => (n : Int)) (pN l)
def okD (t : List UInt8) : Prop := 1 ≤ t.length ∧ t.length ≤ 200 ∧ t.all isDg = true
instance (l : List UInt8) : Decidable (okD l) := by unfold okD; exact inferInstance
def signZ (neg : Prop) [Decidable neg] (n : Nat) : Int := if neg then -(n : Int) else (n : Int)
def pDec (s t : List UInt8) : Option Rat := match pN (if s.head? = some 45 then s.tail else s) with
 | none => none
 | some n => if okD t then some (mkRat (signZ (s.head? = some 45) (n * 10 ^ t.length + valD t)) (10 ^ t.length)) else none
def pOver (s t : List UInt8) : Option Rat := match pI s, pN t with
 | some z, some d => if d = 0 then none else some (mkRat z d)
 | _, _ => none
def bef (c : UInt8) (l : List UInt8) : List UInt8 := l.takeWhile (· != c)
def aft (c : UInt8) (l : List UInt8) : List UInt8 := (l.dropWhile (· != c)).drop 1
def pQ (l : List UInt8) : Option Rat := if l.contains 47 then pOver (bef 47 l) (aft 47 l) else if l.contains 46 then pDec (bef 46 l) (aft 46 l) else Option.map (fun z : Int => (z : Rat)) (pI l)
theorem pN_dec {n : Nat} (h : (Lib.decDigits n).length ≤ 200) : pN (Lib.decDigits n) = some n := by
 obtain ⟨a, b⟩ := valD_dec n
 obtain ⟨c, t, e, k⟩ := decD_head n
 have hok : okN (Lib.decDigits n) := ⟨by rw [e]; simp, h, fun ⟨h1, h2⟩ => (by
  by_cases h0 : n = 0
  ·subst h0
   rw [decD_low (by omega)] at h1
   simp at h1
  ·rw [e] at h2
   exact k h0 (Option.some.inj h2)), b⟩
 unfold pN
 rw [if_pos hok, a]
theorem pN_bad {l : List UInt8} {c : UInt8} (h : c ∈ l) (hc : isDg c = false) : pN l = none := by
 unfold pN
 rw [if_neg fun k => by
  have := List.all_eq_true.1 k.2.2.2 c h
  rw [hc] at this; cases this]
theorem okD_bad {l : List UInt8} {c : UInt8} (h : c ∈ l) (hc : isDg c = false) : ¬ okD l := fun k => by
 have := List.all_eq_true.1 k.2.2 c h
 rw [hc] at this; cases this
theorem head_mem {l : List UInt8} {c d : UInt8} (h : c ∈ l) (hd : l.head? = some d) (hne : c ≠ d) : c ∈ l.tail := by
 cases l with
 | nil => cases h
 | cons x l =>
  cases hd
  rcases List.mem_cons.1 h with e | e
  ·exact absurd e hne
  ·exact e
theorem pI_bad {l : List UInt8} {c : UInt8} (h : c ∈ l) (hc : isDg c = false) (h45 : c ≠ 45) : pI l = none := by
 unfold pI
 by_cases e : l.head? = some 45
 ·rw [if_pos e, pN_bad (head_mem h e h45) hc]
 ·rw [if_neg e, pN_bad h hc]; rfl
theorem pDec_bad {s t : List UInt8} {c : UInt8} (h : c ∈ t) (hc : isDg c = false) : pDec s t = none := by
 unfold pDec
 generalize pN _ = o
 cases o with
 | none => rfl
 | some n => show (if okD t then _ else _) = none; rw [if_neg (okD_bad h hc)]
theorem cut_at {c : UInt8} : ∀ {l : List UInt8} {i : Nat}, l[i]? = some c → (∀ j, j < i → l[j]? ≠ some c) → bef c l = l.take i ∧ aft c l = l.drop (i + 1)
 | [], i, h, _ => by cases h
 | x :: l, 0, h, _ => by
  cases h
  unfold bef aft
  rw [List.takeWhile_cons, List.dropWhile_cons, if_neg (by simp), if_neg (by simp)]
  exact ⟨rfl, rfl⟩
 | x :: l, i + 1, h, hb => by
  have hx : x ≠ c := fun e => hb 0 (by omega) (by rw [e]; rfl)
  obtain ⟨e1, e2⟩ := cut_at (l := l) (i := i) (by simpa using h) fun j hj => by
   have := hb (j + 1) (by omega)
   simpa using this
  unfold bef aft at *
  rw [List.takeWhile_cons, List.dropWhile_cons, if_pos (by simpa using hx), if_pos (by simpa using hx), e1, e2]
  exact ⟨rfl, rfl⟩
theorem take_has {l : List UInt8} {i j : Nat} {c : UInt8} (h : l[j]? = some c) (hj : j < i) : c ∈ l.take i := List.mem_of_getElem? (i := j) (by rw [List.getElem?_take, if_pos hj]; exact h)
theorem drop_has {l : List UInt8} {i j : Nat} {c : UInt8} (h : l[j]? = some c) (hj : i ≤ j) : c ∈ l.drop i := List.mem_of_getElem? (i := j - i) (by rw [List.getElem?_drop, show i + (j - i) = j by omega]; exact h)
theorem first_at {c : UInt8} : ∀ {l : List UInt8}, c ∈ l → ∃ i : Nat, l[i]? = some c ∧ ∀ j, j < i → l[j]? ≠ some c
 | [], h => by cases h
 | x :: l, h => by
  by_cases e : x = c
  ·exact ⟨0, by rw [e]; rfl, fun j hj => by omega⟩
  ·obtain ⟨i, h1, h2⟩ := first_at (l := l) ((List.mem_cons.1 h).resolve_left fun k => e k.symm)
   refine ⟨i + 1, by simpa using h1, fun j hj => ?_⟩
   cases j with
   | zero => intro k; exact e (Option.some.inj (by simpa using k))
   | succ j =>
    have := h2 j (by omega)
    simpa using this
theorem pQ_over {l : List UInt8} {i : Nat} (h : l[i]? = some 47) (hb : ∀ j, j < i → l[j]? ≠ some 47) : pQ l = pOver (l.take i) (l.drop (i + 1)) := by
 obtain ⟨e1, e2⟩ := cut_at h hb
 unfold pQ
 rw [if_pos (List.contains_iff_mem.2 (List.mem_of_getElem? h)), e1, e2]
theorem pQ_dec {l : List UInt8} {i : Nat} (h : l[i]? = some 46) (hb : ∀ j, j < i → l[j]? ≠ some 47 ∧ l[j]? ≠ some 46) : pQ l = pDec (l.take i) (l.drop (i + 1)) := by
 by_cases h47 : (47 : UInt8) ∈ l
 ·obtain ⟨k, hk, hkb⟩ := first_at h47
  have hik : i < k := by
   rcases Nat.lt_trichotomy i k with q | q | q
   ·exact q
   ·subst q; rw [h] at hk; cases hk
   ·exact absurd hk (hb k q).1
  rw [pQ_over hk hkb, pDec_bad (drop_has hk (by omega)) (by decide)]
  unfold pOver
  rw [pI_bad (take_has h hik) (by decide) (by decide)]
 ·obtain ⟨e1, e2⟩ := cut_at h fun j hj => (hb j hj).2
  unfold pQ
  rw [if_neg (fun k => h47 (List.contains_iff_mem.1 k)), if_pos (List.contains_iff_mem.2 (List.mem_of_getElem? h)), e1, e2]
theorem wt_mem {z : Int} {c : UInt8} (h : c ∈ wtL z) : c ≠ 47 ∧ c ≠ 46 := by
 unfold wtL at h
 rcases List.mem_append.1 h with k | k
 ·split at k
  ·rw [List.mem_singleton.1 k]; decide
  ·cases k
 ·have := List.all_eq_true.1 (valD_dec z.natAbs).2 c k
  refine ⟨?_, ?_⟩
  ·rintro rfl; revert this; decide
  ·rintro rfl; revert this; decide
theorem pQ_dec' {s t : List UInt8} (h : ∀ c, c ∈ s → c ≠ 47 ∧ c ≠ 46) : pQ (s ++ [46] ++ t) = pDec s t := by
 have h1 : (s ++ [46] ++ t)[s.length]? = some 46 := by rw [List.append_assoc, List.getElem?_append_right (Nat.le_refl _), Nat.sub_self]; rfl
 rw [pQ_dec h1 fun j hj => by
  rw [List.append_assoc, List.getElem?_append_left hj]
  exact ⟨fun k => (h _ (List.mem_of_getElem? k)).1 rfl, fun k => (h _ (List.mem_of_getElem? k)).2 rfl⟩]
 rw [List.append_assoc, List.take_left' rfl, show s ++ ([46] ++ t) = (s ++ [46]) ++ t by rw [List.append_assoc], List.drop_left' (by rw [List.length_append]; rfl)]
end Go.Proofs.YtjekjlaokjhhgaaGreatDoor
namespace Go.Proofs.YtjekjlaokjhhgaaGreatDoor
open Go.RowKit
section
variable {P : Program} {ops : Array Oper} {md : Region.Mode} {Q Q' : Exit → Act → World → Prop}
end
section
variable {P : Program} {n : Nat} {ops : Array Oper} {fuel : Nat} {L : Array Bool} {env : Env} {bx : Bxs} {H : Hs} {K : Env → Bxs → Hs → Prop} {τ : Tab} {d : Nat} {o : Oper} {v : Value}
end
section
variable {P : Program} {n : Nat} {ops : Array Oper} {o : Oper} {rest : List Oper} {env : Env} {bx : Bxs} {sb : Bxs} {ow : Ows} {H : Hs} {Q : EQ} {τ : Tab} {d : Nat} {s : SV}
theorem run_idxP (hτ : TabOk P τ) {T : TypeId} {x y : Operand} (ho : o.op = .indexAddr T x y) {te te' : TE} {e : TypeId} (ht : τ.get T = some te) (hk : te.kind = .slice e) (ht' : τ.get e = some te')
  {b m cap : Nat} (hx : env.op x = some (.v (.slice (some ⟨b, 0, none⟩) m cap))) {k : IntKind} {z : Int} (hy : env.op y = some (.v (.int k z))) (j q : Nat) (hz : z = j) (hj : j < m) (hq : j * te'.size = q) (ev : Operand → Value) (W : World) (he : ∀ y x, y ∈ o.op.operands → env.op y = some (.v x) → ev y = x) :
  (execOp ev o).run P W = .ok (.value (.pointer (some ⟨b, q, none⟩))) W := by
 have ex := he x _ (by simp [ho, Op.operands]) hx
 have ey := he y _ (by simp [ho, Op.operands]) hy
 have hkd := (hτ.get ht).kind
 rw [hk] at hkd
 have hkd' : P.underlying T = some (.slice e) := hkd
 unfold execOp
 simp [ho, ex, ey, Instr.indexAt, asIntOf, run_underlying hkd', hz, (hτ.get ht').size, Addr.add_mid, hj, hq]
theorem EVL.idxB (hτ : TabOk P τ) {T : TypeId} {x y : Operand} (ho : o.op = .indexAddr T x y) (hw : wantB ops env o = some true) (hd : o.dst = some d) (hn : Nat.blt d n = true) {te te' : TE} {e : TypeId} (ht : τ.get T = some te) (hk : te.kind = .slice e) (ht' : τ.get e = some te')
  {b m cap : Nat} (hx : env.op x = some (.v (.slice (some ⟨b, 0, none⟩) m cap))) {k : IntKind} {z : Int} (hy : env.op y = some (.v (.int k z))) (j q : Nat) (hz : z = j) (hj : j < m) (hq : j * te'.size = q)
  (h : EVL P n ops rest ((d, .v (.pointer (some ⟨b, q, none⟩))) :: env) bx H Q) : EVL P n ops (o :: rest) env bx H Q := EVL.gen hw hd hn (run_idxP hτ ho ht hk ht' hx hy j q hz hj hq) h
end
def unS (d b : Nat) : SV → SV
 | .p i off => match Nat.beq i d with
  | true => .v (.pointer (some ⟨b, off, none⟩))
  | false => .p i off
 | s => s
theorem unS_hit (d b off : Nat) : unS d b (.p d off) = .v (.pointer (some ⟨b, off, none⟩)) := by
 unfold unS; simp only [Nat.beq_refl]
theorem unS_miss {d b i off : Nat} (h : i ≠ d) : unS d b (.p i off) = .p i off := by
 have : Nat.beq i d = false := by cases hb : Nat.beq i d with | false => rfl | true => exact absurd (Nat.eq_of_beq_eq_true hb) h
 unfold unS; simp only [this]
def unP (d b : Nat) : Env → Env
 | [] => []
 | (t, s) :: e => (t, unS d b s) :: unP d b e
def unB (d : Nat) : Bxs → Bxs
 | [] => []
 | (i, x) :: e => match Nat.beq i d with
  | true => unB d e
  | false => (i, x) :: unB d e
theorem unB_get (d : Nat) : ∀ (e : Bxs) (i : Nat), (unB d e).get i = if i = d then none else e.get i
 | [], i => by simp [unB, Bxs.get]
 | (j, x) :: e, i => by
  have ih := unB_get d e i
  unfold unB
  cases hb : Nat.beq j d with
  | true =>
   obtain rfl := Nat.eq_of_beq_eq_true hb
   simp only
   rw [ih, Bxs.get_cons]
   by_cases h : i = j
   ·rw [if_pos h, if_pos h]
   ·rw [if_neg h, if_neg h, if_neg (fun k => h k.symm)]
  | false =>
   have hne : j ≠ d := fun h => by subst h; rw [Nat.beq_refl] at hb; cases hb
   simp only
   rw [Bxs.get_cons, Bxs.get_cons, ih]
   by_cases h : j = i
   ·subst h; rw [if_pos rfl, if_pos rfl, if_neg hne]
   ·rw [if_neg h, if_neg h]
theorem unP_get (d b : Nat) : ∀ (e : Env) (t : Nat), (unP d b e).get t = (e.get t).map (unS d b)
 | [], t => rfl
 | (u, s) :: e, t => by
  have ih := unP_get d b e t
  have key : unP d b ((u, s) :: e) = (u, unS d b s) :: unP d b e := rfl
  rw [key, Env.get_cons, Env.get_cons, ih]
  by_cases h : u = t
  ·rw [if_pos h, if_pos h]; rfl
  ·rw [if_neg h, if_neg h]
theorem Rel.unbox {n : Nat} {W0 : World} {H0 : Bs} {β : Nat → Nat} {env : Env} {bx : Bxs} {H : Hs} {a : Act} {W : World} (r : Rel n W0 H0 β env bx H a W) (d : Nat) {T : TypeId} {cs : List Value} (hg : bx.get d = some (T, cs)) :
  Rel n W0 H0 β (unP d (β d) env) (unB d bx) ⟨H.ro, (β d, T, cs) :: H.ow, H.base⟩ a W := by
 have hdS : (bx.get d).isSome = true := by rw [hg]; rfl
 have gt : ∀ i x, (unB d bx).get i = some x → i ≠ d ∧ bx.get i = some x := fun i x hi => by
  rw [unB_get] at hi
  by_cases h : i = d
  ·rw [if_pos h] at hi; cases hi
  ·rw [if_neg h] at hi; exact ⟨h, hi⟩
 have gs : ∀ i, ((unB d bx).get i).isSome = true → i ≠ d ∧ (bx.get i).isSome = true := fun i hi => by
  obtain ⟨x, hx⟩ := Option.isSome_iff_exists.1 hi
  obtain ⟨h1, h2⟩ := gt i x hx
  exact ⟨h1, by rw [h2]; rfl⟩
 refine ⟨r.size, r.defers, fun t u hu => ?_, fun i T' cs' hi => r.box i T' cs' (gt i _ hi).2, fun i hi => r.low i (gs i hi).2, fun i j hi hj hij => r.inj i j (gs i hi).2 (gs j hj).2 hij, fun t i off hu => ?_, r.fits, r.le, r.new, r.bel, r.glob, fun j b T' cs' hj => ?_, fun j j' b T1 T2 c1 c2 hj hj' => ?_⟩
 ·rw [unP_get] at hu
  obtain ⟨s, hs, rfl⟩ := Option.map_eq_some_iff.1 hu
  obtain ⟨y, hy, hr⟩ := r.slot t s hs
  refine ⟨y, hy, ?_⟩
  cases s with
  | v x => exact hr
  | ro cs => exact hr
  | p i off =>
   by_cases h : i = d
   ·subst h; rw [unS_hit]; exact hr
   ·rw [unS_miss h]; exact hr
 ·rw [unP_get] at hu
  obtain ⟨s, hs, he⟩ := Option.map_eq_some_iff.1 hu
  cases s with
  | v x => cases he
  | ro cs => cases he
  | p i' off' =>
   by_cases h : i' = d
   ·subst h; rw [unS_hit] at he; cases he
   ·rw [unS_miss h] at he
    cases he
    have := r.pin t i off hs
    rw [unB_get, if_neg h]
    exact this
 ·cases j with
  | zero =>
   simp at hj
   obtain ⟨rfl, rfl, rfl⟩ := hj
   exact ⟨r.box d T cs hg, .inl (r.low d hdS).1, (r.low d hdS).2, fun i hi e => (gs i hi).1 (r.inj i d (gs i hi).2 hdS e)⟩
  | succ j =>
   obtain ⟨h1, h2, h3, h4⟩ := r.own j b T' cs' (by simpa using hj)
   exact ⟨h1, h2, h3, fun i hi => h4 i (gs i hi).2⟩
 ·have lt : ∀ j T c, H.ow[j]? = some (β d, T, c) → False := fun j T c hj => (r.own j _ T c hj).2.2.2 d hdS rfl
  cases j with
  | zero =>
   simp at hj
   cases j' with
   | zero => rfl
   | succ j' => exact (lt j' T2 c2 (by rw [hj.1]; simpa using hj')).elim
  | succ j =>
   cases j' with
   | zero => simp at hj'; exact (lt j T1 c1 (by rw [hj'.1]; simpa using hj)).elim
   | succ j' => rw [r.one j j' b T1 T2 c1 c2 (by simpa using hj) (by simpa using hj')]
section
variable {P : Program} {n : Nat} {ops : Array Oper} {o : Oper} {rest : List Oper} {env : Env} {bx : Bxs} {sb : Bxs} {ow : Ows} {H : Hs} {Q : EQ} {τ : Tab} {d : Nat} {s : SV}
theorem EVL.unbox (i : Nat) {T : TypeId} {cs : List Value} (hg : bx.get i = some (T, cs)) (h : ∀ b, EVL P n ops rest (unP i b env) (unB i bx) ⟨H.ro, (b, T, cs) :: H.ow, H.base⟩ Q) : EVL P n ops rest env bx H Q :=
 fun W0 β a W r => h (β i) W0 β a W (r.unbox i hg)
theorem EV.unbox {c : Code} (i : Nat) {T : TypeId} {cs : List Value} (hg : bx.get i = some (T, cs)) (h : ∀ b, EV P n c (unP i b env) (unB i bx) ⟨H.ro, (b, T, cs) :: H.ow, H.base⟩ Q) : EV P n c env bx H Q :=
 fun W0 β a W r => h (β i) W0 β a W (r.unbox i hg)
end
section
variable {P : Program} {n : Nat} {ops : Array Oper} {o : Oper} {rest : List Oper} {env : Env} {bx : Bxs} {sb : Bxs} {ow : Ows} {H : Hs} {Q : EQ} {τ : Tab} {d : Nat} {s : SV}
variable {tail l : List Oper} {x : Nat → Value} {y : Nat → Ows} {ow' : Ows} {kl ks : List DK} {i : Nat} {bx' : Bxs} {Γ : Fcts}
end
section
variable {P : Program} {n : Nat} {ops : Array Oper} {o : Oper} {rest : List Oper} {env : Env} {bx : Bxs} {sb : Bxs} {ow : Ows} {H : Hs} {Q : EQ} {τ : Tab} {d : Nat} {s : SV}
end
section
variable {P : Program} {n : Nat} {ops : Array Oper} {tail : List Oper} {sb bx : Bxs} {H : Hs} {Q : EQ} {x : Nat → Value} {y : Nat → Ows} {ow' : Ows} {kl : List DK} {i : Nat} {o : Oper} {l : List Oper} {ks : List DK} {env : Env} {bx' : Bxs} {Γ : Fcts} {τ : Tab} {d : Nat}
end
section
variable {n : Nat} {ops : Array Oper} {fuel : Nat} {L : Array Bool} {env : Env} {bx : Bxs} {H : Hs} {K : Env → Bxs → Hs → Prop} {d : Nat} {o : Oper} {v : Value}
end
section
variable {P : Program} {n : Nat} {ops : Array Oper} {o : Oper} {rest : List Oper} {env : Env} {bx : Bxs} {H : Hs} {Q : EQ} {d : Nat}
end
theorem div64_pv (h l y : Nat) (hhy : h < y) (hl : l < W64) (hy : y < W64) : PV Tryz.prog 117 #[n64 h, n64 l, n64 y] (.tuple #[n64 ((h * W64 + l) / y), n64 ((h * W64 + l) % y)]) :=
 ⟨(cOf Tryz.func117 rfl (by kernel_rfl)), fun W _ => div64_any h l y W hhy hl hy⟩
theorem trimL_zero {l : List Nat} {m : Nat} (h : l[m]? = some 0) : trimL (l.take (m + 1)) = trimL (l.take m) := by
 rw [take_snoc h, trimL_snoc_zero]
theorem trimL_keep {l : List Nat} {m x : Nat} (h : l[m]? = some x) (hx : x ≠ 0) : trimL (l.take (m + 1)) = l.take (m + 1) := by
 rw [take_snoc h, trimL_snoc_ne _ _ hx]
set_option maxHeartbeats 8000000 in
theorem trim_pw {H : Hp} {b cap : Nat} {T : TypeId} {l junk : List Nat} (hl : l.length ≤ 100000000) (hcap : l.length ≤ cap) (hc0 : 0 < cap) :
  PW Tryz.prog 118 #[.slice (some ⟨b, 0, none⟩) l.length cap] H [(b, T, (l ++ junk).map n64)] fun v ow _ => v = .slice (some ⟨b, 0, none⟩) (trimL l).length cap ∧ ow = [(b, T, (l ++ junk).map n64)] := by
 refine PW.body Tryz.tab_ok Tryz.func118 rfl (by kernel_rfl) Tryz.ntmps118 rfl rfl ?_
 (try refine RUN ?_)
 refine EV.loopK (ι := Nat) [] [] (fun m => [(0, .v (.slice (some ⟨b, 0, none⟩) m cap))]) (fun _ => []) (fun _ => [(b, T, (l ++ junk).map n64)]) (fun m _ => m ≤ l.length ∧ trimL (l.take m) = trimL l) (fun m => m) (l.length) rfl rfl ⟨rfl, trivial⟩ trivial rfl (fun _ => rfl) (⟨Nat.le_refl _, by rw [List.take_length]⟩) ?_
 rintro m G1 hG1 ⟨hm, ht⟩
 by_cases h0 : m = 0
 ·subst h0
  (try refine RUN ?_)
  rw [List.take_zero] at ht
  rw [← ht]
  exact ⟨rfl, rfl⟩
 obtain ⟨k, rfl⟩ : ∃ k, m = k + 1 := ⟨m - 1, by omega⟩
 obtain ⟨x, hx⟩ : ∃ x, l[k]? = some x := ⟨_, List.getElem?_eq_getElem (by omega)⟩
 have hcell : ((l ++ junk).map n64)[k]? = some (n64 x) := by rw [List.getElem?_map, List.getElem?_append_left (by omega), hx]; rfl
 have wk : IntKind.i64.wrap (((k + 1 : Nat) : Int) - 1) = (k : Int) := by rw [IntKind.wrap_i64]; omega
 (try refine RUN ?_)
 rw [decide_eq_true (show ((k + 1 : Nat) : Int) > 0 by omega)]
 (try refine RUN ?_)
 rw [wk]
 refine EVL.idxB Tryz.tab_ok rfl rfl rfl rfl rfl rfl rfl rfl rfl (k) (k * 1) (rfl) ((by omega)) (rfl) ?_
 rw [Nat.mul_one]
 refine EVL.load1 Tryz.tab_ok rfl rfl rfl rfl rfl rfl rfl rfl (0) rfl (hcell) ?_
 (try refine RUN ?_)
 by_cases hx0 : x = 0
 ·subst hx0
  rw [show (((0 : Nat) : Int) == 0) = true from rfl]
  (try refine RUN ?_)
  rw [wk]
  refine EVL.slc (te' := Tryz.te39) Tryz.tab_ok rfl rfl rfl rfl rfl rfl rfl rfl 0 k (.inl ⟨rfl, rfl⟩) (.inr ⟨_, IntKind.i64, rfl, rfl⟩) (Nat.zero_le _) (by omega) (by omega) ?_
  rw [if_neg (by omega)]
  (try refine RUN ?_)
  exact ⟨k, ⟨rfl, trivial⟩, trivial, trivial, trivial, rfl, ⟨by omega, by rw [← trimL_zero hx]; exact ht⟩, Hp.Le.refl _, by omega⟩
 ·rw [show ((x : Int) == 0) = false from beq_eq_false_iff_ne.2 (by omega)]
  (try refine RUN ?_)
  rw [trimL_keep hx hx0] at ht
  rw [← ht, List.length_take, Nat.min_eq_left (by omega)]
  exact ⟨rfl, rfl⟩
theorem quo_lt64 {r x d : Nat} (hr : r < d) (hx : x < W64) : (r * W64 + x) / d < W64 := by
 apply Nat.div_lt_of_lt_mul
 have : (r + 1) * W64 ≤ d * W64 := Nat.mul_le_mul_right _ hr
 rw [Nat.add_mul] at this; omega
theorem map_set64 {q junk : List Nat} {i z : Nat} (h : i < q.length) : ((q ++ junk).map n64).set i (n64 z) = (q.set i z ++ junk).map n64 := by
 rw [← List.map_set, List.set_append_left _ _ h]
set_option maxHeartbeats 16000000 in
theorem divWordP_pw {H : Hp} {b cap d : Nat} {T : TypeId} {l junk : List Nat} (hD : Dig W64 l) (hl : l.length ≤ 100000000) (hcap : l.length ≤ cap) (hc0 : 0 < cap) (hd0 : 0 < d) (hd : d < W64) :
  PW Tryz.prog 86 #[.slice (some ⟨b, 0, none⟩) l.length cap, n64 d] H [(b, T, (l ++ junk).map n64)] fun v ow _ => ∃ q, v = .tuple #[.slice (some ⟨b, 0, none⟩) (trimL q).length cap, n64 (val W64 l % d)] ∧ ow = [(b, T, (q ++ junk).map n64)] ∧ q.length = l.length ∧ Dig W64 q ∧ val W64 q = val W64 l / d := by
 refine PW.body Tryz.tab_ok Tryz.func86 rfl (by kernel_rfl) Tryz.ntmps86 rfl rfl ?_
 (try refine RUN ?_)
 refine EV.loopK (ι := Nat × Nat × List Nat) [0, 1] [] (fun s => [(6, .v (n64 s.2.1)), (7, .v (.int .i64 ((s.1 : Int) - 1)))]) (fun _ => []) (fun s => [(b, T, (s.2.2 ++ junk).map n64)]) (fun s _ => s.1 ≤ l.length ∧ s.2.1 < d ∧ s.2.2.length = l.length ∧ Dig W64 s.2.2 ∧ (∀ k, k < s.1 → s.2.2.getD k 0 = l.getD k 0) ∧ val W64 (l.drop s.1) = d * val W64 (s.2.2.drop s.1) + s.2.1) (fun s => s.1) ((l.length, 0, l)) rfl rfl ⟨rfl, (by dsimp only; rw [show IntKind.i64.wrap ((l.length : Int) - 1) = (l.length : Int) - 1 by rw [IntKind.wrap_i64]; omega]; rfl), trivial⟩ trivial rfl (fun _ => rfl) (⟨Nat.le_refl _, hd0, rfl, hD, fun _ _ => rfl, by simp [val]⟩) ?_
 rintro ⟨g, r, q⟩ G1 hG1 ⟨hg, hr, hql, hqD, hqs, hqv⟩
 dsimp only at hg hr hql hqD hqs hqv
 by_cases h0 : g = 0
 ·subst h0
  rw [List.drop_zero, List.drop_zero] at hqv
  have e1 : val W64 l / d = val W64 q := by rw [hqv, Nat.mul_add_div hd0, Nat.div_eq_of_lt hr, Nat.add_zero]
  have e2 : val W64 l % d = r := by rw [hqv, Nat.mul_add_mod, Nat.mod_eq_of_lt hr]
  have ht := trim_pw (H := G1) (b := b) (cap := cap) (T := T) (l := q) (junk := junk) (by omega) (by omega) hc0
  rw [hql] at ht
  (try refine RUN ?_)
  refine EVL.callW rfl rfl rfl rfl rfl ([(b, T, (q ++ junk).map n64)]) ([]) rfl (ht) ?_
  rintro _ _ G2 ⟨rfl, rfl⟩ hG2
  (try refine RUN ?_)
  rw [e2, e1]
  exact ⟨q, rfl, rfl, hql, hqD, rfl⟩
 ·obtain ⟨i, rfl⟩ : ∃ i, g = i + 1 := ⟨g - 1, by omega⟩
  obtain ⟨x, hx⟩ : ∃ x, q[i]? = some x := ⟨_, List.getElem?_eq_getElem (by omega)⟩
  have hxD : x < W64 := hqD x (List.mem_of_getElem? hx)
  have hgx : q.getD i 0 = x := by rw [List.getD_eq_getElem?_getD, hx]; rfl
  have hcell : ((q ++ junk).map n64)[i]? = some (n64 x) := by rw [List.getElem?_map, List.getElem?_append_left (by omega), hx]; rfl
  have hdv := div64_pv r x d hr hxD hd
  have hqW := quo_lt64 hr hxD
  have hlx : l.getD i 0 = x := by rw [← hqs i (by omega), hgx]
  have hrd := divW_round l q i d r (by omega) hql hd0 hqv (hqs i (by omega))
  rw [hlx] at hrd
  have hrm : (r * W64 + x) % d < d := Nat.mod_lt _ hd0
  generalize hqq : (r * W64 + x) / d = qq at *
  generalize hrr : (r * W64 + x) % d = rr at *
  rw [show ((i + 1 : Nat) : Int) - 1 = (i : Int) by omega]
  have wi : IntKind.i64.wrap ((i : Int) - 1) = (i : Int) - 1 := by rw [IntKind.wrap_i64]; omega
  (try refine RUN ?_)
  rw [decide_eq_true (show (i : Int) ≥ 0 by omega)]
  (try refine RUN ?_)
  refine EVL.idxB Tryz.tab_ok rfl rfl rfl rfl rfl rfl rfl rfl rfl (i) (i * 1) (rfl) ((show i < l.length by omega)) (rfl) ?_
  rw [Nat.mul_one]
  refine EVL.load1 Tryz.tab_ok rfl rfl rfl rfl rfl rfl rfl rfl (0) rfl (hcell) ?_
  repeat (first | refine RUN ?_ | refine CV (hdv) ?_ | refine CE (hdv) ?_)
  refine EVL.idxB Tryz.tab_ok rfl rfl rfl rfl rfl rfl rfl rfl rfl (i) (i * 1) (rfl) ((show i < l.length by omega)) (rfl) ?_
  rw [Nat.mul_one]
  (try refine RUN ?_)
  refine EVL.set1 Tryz.tab_ok rfl rfl rfl rfl rfl rfl rfl rfl rfl rfl ((show i < ((q ++ junk).map n64).length by rw [List.length_map, List.length_append]; omega)) ?_
  rw [map_set64 (show i < q.length by omega)]
  (try refine RUN ?_)
  refine ⟨(i, rr, q.set i qq), ⟨rfl, by dsimp only; rw [wi]; rfl, trivial⟩, (by repeat (first | exact trivial | refine And.intro rfl ?_)), trivial, trivial, rfl, ⟨by dsimp only; omega, hrm, by dsimp only; rw [List.length_set]; exact hql, hqD.set _ _ hqW, fun k hk => ?_, hrd⟩, Hp.Le.refl _, by dsimp only; omega⟩
  dsimp only at hk ⊢
  rw [show (q.set i qq).getD k 0 = q.getD k 0 by simp [List.getD_eq_getElem?_getD, List.getElem?_set_ne (show i ≠ k by omega)]]
  exact hqs k (by omega)
section
variable {P : Program} {n : Nat} {ops : Array Oper} {o : Oper} {rest : List Oper} {env : Env} {bx : Bxs} {H : Hs} {Q : EQ} {d : Nat}
theorem sb_at {l : List UInt8} {j : Nat} {c : UInt8} (h : l[j]? = some c) : (sb l)[j]? = some c := by
 obtain ⟨h1, h2⟩ := List.getElem?_eq_some_iff.1 h
 have hs : j < (sb l).size := by show j < l.toArray.size; simpa using h1
 rw [getElem?_pos (sb l) j hs]
 congr 1
theorem run_strAt {T : TypeId} {x y : Operand} (ho : o.op = .index T x y) (hT : P.underlying T = some .string) {l : List UInt8} (hx : env.op x = some (.v (.string (sb l)))) {k : IntKind} {z : Int} (hy : env.op y = some (.v (.int k z))) (j : Nat) (hz : z = j) {c : UInt8} (hc : l[j]? = some c) (ev : Operand → Value) (W : World) (he : ∀ y x, y ∈ o.op.operands → env.op y = some (.v x) → ev y = x) :
  (execOp ev o).run P W = .ok (.value (.int .u8 (c.toNat : Int))) W := by
 have ex := he x _ (by simp [ho, Op.operands]) hx
 have ey := he y _ (by simp [ho, Op.operands]) hy
 subst hz
 have hs := sb_at hc
 unfold execOp
 simp [ho, ex, ey, Instr.index, asIntOf, run_underlying hT, hs]
theorem EVL.strAt {T : TypeId} {x y : Operand} (ho : o.op = .index T x y) (hw : wantB ops env o = some true) (hd : o.dst = some d) (hn : Nat.blt d n = true) (hT : P.underlying T = some .string) {l : List UInt8} (hx : env.op x = some (.v (.string (sb l)))) {k : IntKind} {z : Int} (hy : env.op y = some (.v (.int k z))) (j : Nat) (hz : z = j) {c : UInt8} (hc : l[j]? = some c)
  (h : EVL P n ops rest ((d, .v (.int .u8 (c.toNat : Int))) :: env) bx H Q) : EVL P n ops (o :: rest) env bx H Q := EVL.gen hw hd hn (run_strAt ho hT hx hy j hz hc) h
end
theorem mul64_pv (x y : Nat) (hx : x < W64) (hy : y < W64) : PV Tryz.prog 96 #[n64 x, n64 y] (.tuple #[n64 (x * y / W64), n64 (x * y % W64)]) :=
 ⟨(cOf Tryz.func96 rfl (by kernel_rfl)), fun W _ => (Tryz.bits_Mul64 x y hx hy W).mono fun e W' ⟨h1, h2⟩ => ⟨h1, by rw [h2]; exact Below.refl _ _⟩⟩
structure MulInv (l q : List Nat) (m a i c : Nat) : Prop where
 len : q.length = l.length
 dig : Dig W64 q
 keep : ∀ k, i ≤ k → q.getD k 0 = l.getD k 0
 sum : val W64 (q.take i) + c * W64 ^ i = val W64 (l.take i) * m + a
 carry : c < W64
theorem mul_parts {x m c : Nat} (hx : x < W64) (hm : m < W64) (hc : c < W64) : x * m / W64 + addHi (x * m % W64) c 0 < W64 ∧ addLo (x * m % W64) c 0 < W64 ∧ addLo (x * m % W64) c 0 + (x * m / W64 + addHi (x * m % W64) c 0) * W64 = x * m + c := by
 have h0 : x * m % W64 < W64 := Nat.mod_lt _ (by decide)
 obtain ⟨p1, p2, p3⟩ := add_parts h0 hc (Nat.zero_le 1)
 have h1 := Nat.div_add_mod (x * m) W64
 have e : addLo (x * m % W64) c 0 + (x * m / W64 + addHi (x * m % W64) c 0) * W64 = x * m + c := by
  rw [Nat.add_mul, Nat.mul_comm (x * m / W64)]
  omega
 refine ⟨?_, p2, e⟩
 have h2 : x * m ≤ (W64 - 1) * (W64 - 1) := Nat.mul_le_mul (by omega) (by omega)
 have hW : (W64 - 1) * (W64 - 1) + (W64 - 1) < W64 * W64 := by decide
 refine Nat.lt_of_mul_lt_mul_right (a := W64) ?_
 omega
theorem mul_lin {A s c' Pw B x m a c : Nat} (hs : A + c * Pw = B * m + a) (h3 : s + c' * W64 = x * m + c) : A + s * Pw + c' * (Pw * W64) = (B + x * Pw) * m + a := by
 have e : s * Pw + c' * (Pw * W64) = (x * m + c) * Pw := by
  rw [← h3, Nat.add_mul, Nat.mul_assoc, Nat.mul_comm W64]
 rw [Nat.add_assoc, e, Nat.add_mul, Nat.add_mul]
 have e2 : x * Pw * m = x * m * Pw := by rw [Nat.mul_assoc, Nat.mul_assoc, Nat.mul_comm Pw]
 omega
theorem MulInv.step {l q : List Nat} {m a i c : Nat} (h : MulInv l q m a i c) (hi : i < l.length) (hm : m < W64) : MulInv l (q.set i (addLo (q.getD i 0 * m % W64) c 0)) m a (i + 1) (q.getD i 0 * m / W64 + addHi (q.getD i 0 * m % W64) c 0) := by
 have hil : i < q.length := by rw [h.len]; exact hi
 have hx : q.getD i 0 < W64 := h.dig.getD (by decide) i
 obtain ⟨h1, h2, h3⟩ := mul_parts hx hm h.carry
 have hk := h.keep i (Nat.le_refl _)
 have hs := h.sum
 have hv : val W64 ((q.set i (addLo (q.getD i 0 * m % W64) c 0)).take (i + 1)) = val W64 (q.take i) + addLo (q.getD i 0 * m % W64) c 0 * W64 ^ i := by
  rw [val_take_getD, List.take_set_of_le (Nat.le_refl i)]
  congr 2
  rw [List.getD_eq_getElem?_getD, List.getElem?_set_self hil]; rfl
 have hl := val_take_getD l i
 refine ⟨by rw [List.length_set]; exact h.len, h.dig.set _ _ h2, fun k hk' => ?_, ?_, h1⟩
 ·rw [← h.keep k (by omega)]
  simp [List.getD_eq_getElem?_getD, List.getElem?_set_ne (show i ≠ k by omega)]
 ·rw [hv, hl, ← hk, Nat.pow_succ]
  exact mul_lin hs h3
theorem n64_cell {q : List Nat} {sp : List Value} {i x : Nat} (h : q[i]? = some x) : (q.map n64 ++ sp)[i]? = some (n64 x) := by
 rw [List.getElem?_append_left (by rw [List.length_map]; exact (List.getElem?_eq_some_iff.1 h).1), List.getElem?_map, h]; rfl
theorem n64_set {q : List Nat} {sp : List Value} {i z : Nat} (h : i < q.length) : (q.map n64 ++ sp).set i (n64 z) = (q.set i z).map n64 ++ sp := by
 rw [List.map_set, List.set_append_left _ _ (by rw [List.length_map]; exact h)]
set_option maxHeartbeats 16000000 in
theorem mulAdd_pw {H : Hp} {v : Value} {l : List Nat} {ow : Ows} {m a : Nat} (hown : OwnL 39 1 v l.length (l.map n64) ow) (hD : Dig W64 l) (hl : l.length ≤ 1000) (hm : m < W64) (ha : a < W64) :
  PW Tryz.prog 102 #[v, n64 m, n64 a] H ow fun v' ow' _ => ∃ l', OwnL 39 1 v' l'.length (l'.map n64) ow' ∧ Dig W64 l' ∧ val W64 l' = val W64 l * m + a ∧ l'.length ≤ l.length + 1 := by
 rcases hown.2 with ⟨rfl, h0, rfl⟩ | ⟨b, cap, sp, rfl, rfl, k1, k2, k3⟩
 ·obtain rfl := List.length_eq_zero_iff.1 h0
  refine PW.body Tryz.tab_ok Tryz.func102 rfl (by kernel_rfl) Tryz.ntmps102 rfl rfl ?_
  (try refine RUN ?_)
  refine EV.loopK (ι := Unit) [0, 1, 15] [] (fun _ => [(7, .v (n64 a)), (16, .v (.int .i64 0))]) (fun _ => []) (fun _ => []) (fun _ _ => True) (fun _ => 0) (()) rfl rfl ⟨rfl, rfl, trivial⟩ trivial rfl (fun _ => rfl) (trivial) ?_
  rintro _ G1 hG1 _
  (try refine RUN ?_)
  by_cases e : a = 0
  ·subst e
   (try refine RUN ?_)
   exact ⟨[], OwnL.nil _ _, Dig.nil _, by rw [val_nil, Nat.zero_mul], Nat.zero_le _⟩
  ·rw [show ((a : Int) != 0) = true from bne_iff_ne.2 (by omega)]
   (try refine RUN ?_)
   refine EVL.app1 Tryz.tab_ok rfl rfl rfl rfl rfl rfl rfl rfl rfl rfl rfl rfl rfl rfl rfl rfl rfl rfl rfl (fun _ => rfl) ([]) ([]) (rfl) (OwnL.nil _ _) (by omega) fun _ => ?_
   intro v' ow' hown'
   (try refine RUN ?_)
   refine ⟨[a], (by simpa [show Tryz.te39.size = 1 from rfl] using hown'), Dig.cons ha (Dig.nil _), by rw [val_cons, val_nil]; simp [val_nil], Nat.le_refl _⟩
 ·refine PW.body Tryz.tab_ok Tryz.func102 rfl (by kernel_rfl) Tryz.ntmps102 rfl rfl ?_
  (try refine RUN ?_)
  refine EV.loopK (ι := Nat × Nat × List Nat) [0, 1, 15] [] (fun s => [(7, .v (n64 s.2.1)), (16, .v (.int .i64 (s.1 : Int)))]) (fun _ => []) (fun s => [(b, 39, s.2.2.map n64 ++ sp)]) (fun s _ => s.1 ≤ l.length ∧ MulInv l s.2.2 m a s.1 s.2.1) (fun s => l.length - s.1) ((0, a, l)) rfl rfl ⟨rfl, rfl, trivial⟩ trivial rfl (fun _ => rfl) (⟨Nat.zero_le _, ⟨rfl, hD, fun _ _ => rfl, by simp [val_nil], ha⟩⟩) ?_
  rintro ⟨i, c, q⟩ G1 hG1 ⟨hi, hinv⟩
  dsimp only at hi hinv
  have hql := hinv.len
  (try refine RUN ?_)
  refine EV.cond rfl (fun hlt => ?_) (fun hlt => ?_)
  ·simp only [decide_eq_true_eq, decide_eq_false_iff_not, Int.not_lt, Int.not_le, beq_iff_eq, beq_eq_false_iff_ne, bne_iff_ne, bne_eq_false_iff_eq, ne_eq, Int.ofNat_lt, Int.ofNat_le, Int.natCast_inj, ge_iff_le, gt_iff_lt, Decidable.not_not, Bool.not_eq_true', Bool.not_eq_false', Bool.not_eq_eq_eq_not, Bool.not_true, Bool.not_false] at hlt
   obtain ⟨x, hx⟩ : ∃ x, q[i]? = some x := ⟨_, List.getElem?_eq_getElem (by omega)⟩
   have hxD : x < W64 := hinv.dig x (List.mem_of_getElem? hx)
   have hgx : q.getD i 0 = x := by rw [List.getD_eq_getElem?_getD, hx]; rfl
   have hcell := n64_cell (sp := sp) hx
   have hmu := mul64_pv x m hxD hm
   have hst := hinv.step hlt hm
   obtain ⟨h1, h2, h3⟩ := mul_parts hxD hm hinv.carry
   rw [hgx] at hst
   have hw : IntKind.u64.wrap (((x * m / W64 : Nat) : Int) + ((addHi (x * m % W64) c 0 : Nat) : Int)) = ((x * m / W64 + addHi (x * m % W64) c 0 : Nat) : Int) := by
    rw [← Int.natCast_add]
    generalize x * m / W64 + addHi (x * m % W64) c 0 = z at *
    rw [W64_val] at h1
    rw [IntKind.wrap_u64]
    omega
   have hset := fun z => n64_set (sp := sp) (z := z) (show i < q.length by omega)
   have hlen : i < (q.map n64 ++ sp).length := by rw [List.length_append, List.length_map]; omega
   (try refine RUN ?_)
   refine EVL.idxB Tryz.tab_ok rfl rfl rfl rfl rfl rfl rfl rfl rfl (i) (i * 1) (rfl) (hlt) (rfl) ?_
   rw [Nat.mul_one]
   refine EVL.load1 Tryz.tab_ok rfl rfl rfl rfl rfl rfl rfl rfl (0) rfl (hcell) ?_
   repeat (first | refine RUN ?_ | refine CV (hmu) ?_ | refine CE (hmu) ?_)
   refine EVL.ext rfl rfl rfl rfl rfl (add64_run0 (x * m % W64) c) ?_
   generalize hlo : addLo (x * m % W64) c 0 = s at *
   generalize hhi : addHi (x * m % W64) c 0 = c2 at *
   generalize x * m / W64 = hh at *
   (try refine RUN ?_)
   rw [hw]
   (try refine RUN ?_)
   refine EVL.idxB Tryz.tab_ok rfl rfl rfl rfl rfl rfl rfl rfl rfl (i) (i * 1) (rfl) (hlt) (rfl) ?_
   rw [Nat.mul_one]
   (try refine RUN ?_)
   refine EVL.set1 Tryz.tab_ok rfl rfl rfl rfl rfl rfl rfl rfl rfl rfl (hlen) ?_
   rw [hset]
   (try refine RUN ?_)
   exact ⟨(i + 1, hh + c2, q.set i s), ⟨rfl, by rw [wi_inc i (by omega)]; rfl, trivial⟩, (by repeat (first | exact trivial | refine And.intro rfl ?_)), trivial, (by repeat (first | exact trivial | refine And.intro rfl ?_)), rfl, ⟨hlt, hst⟩, Hp.Le.refl _, by dsimp only; omega⟩
  ·simp only [decide_eq_true_eq, decide_eq_false_iff_not, Int.not_lt, Int.not_le, beq_iff_eq, beq_eq_false_iff_ne, bne_iff_ne, bne_eq_false_iff_eq, ne_eq, Int.ofNat_lt, Int.ofNat_le, Int.natCast_inj, ge_iff_le, gt_iff_lt, Decidable.not_not, Bool.not_eq_true', Bool.not_eq_false', Bool.not_eq_eq_eq_not, Bool.not_true, Bool.not_false] at hlt
   obtain rfl : i = l.length := by omega
   have hs := hinv.sum
   rw [List.take_of_length_le (by omega), List.take_length] at hs
   have hownq : OwnL 39 1 (.slice (some ⟨b, 0, none⟩) l.length cap) q.length (q.map n64) [(b, 39, q.map n64 ++ sp)] := ⟨by rw [List.length_map, Nat.mul_one], .inr ⟨b, cap, sp, by rw [hql], rfl, by rw [← k1, List.length_append, List.length_append, List.length_map, List.length_map, hql], by omega, k3⟩⟩
   (try refine RUN ?_)
   by_cases e : c = 0
   ·subst e
    (try refine RUN ?_)
    exact ⟨q, hownq, hinv.dig, by rw [← hs, Nat.zero_mul, Nat.add_zero], by omega⟩
   ·rw [show ((c : Int) != 0) = true from bne_iff_ne.2 (by omega)]
    rw [hql] at hownq
    (try refine RUN ?_)
    refine EVL.app1 Tryz.tab_ok rfl rfl rfl rfl rfl rfl rfl rfl rfl rfl rfl rfl rfl rfl rfl rfl rfl rfl rfl (fun _ => rfl) ([(b, 39, q.map n64 ++ sp)]) ([]) (rfl) (hownq) (by omega) fun _ => ?_
    intro v' ow' hown'
    (try refine RUN ?_)
    refine ⟨q ++ [c], ?_, hinv.dig.snoc hinv.carry, by rw [val_snoc, hql, hs], by rw [List.length_append, List.length_singleton]; omega⟩
    rw [List.length_append, List.length_singleton, List.map_append, hql]
    simpa [show Tryz.te39.size = 1 from rfl] using hown'
def nxt (s : Int) : Int := IntKind.u64.wrap (s + 11400714819323198485)
def mixA (z : Int) : Int := IntKind.u64.wrap (bits .xor .u64 z (z / 1073741824) * 13787848793156543929)
def mixB (z : Int) : Int := IntKind.u64.wrap (bits .xor .u64 z (z / 134217728) * 10723151780598845931)
def mixC (z : Int) : Int := bits .xor .u64 z (z / 2147483648)
def mix (z : Int) : Int := mixC (mixB (mixA z))
def last (n : Int) : Int := 18446744073709551615 - 18446744073709551616 % n
def dist (s : Int) : Int := (-s * 17428512612931826493) % 18446744073709551616
def left (s : Int) : Nat := (dist (nxt s)).toNat
def belowGo (n : Int) : Nat → Int → Int × Int
 | 0, s => (0, s)
 | k + 1, s => if mix (nxt s) ≤ last n then (mix (nxt s) % n, nxt s) else belowGo n k (nxt s)
def below (n s : Int) : Int × Int := belowGo n (left s + 1) s
end Go.Proofs.YtjekjlaokjhhgaaGreatDoor
namespace Go.Proofs.YtjekjlaokjhhgaaGreatDoor
open Go.RowKit Go.Shelf
attribute [local go_sem] Oper.semAt_some
end Go.Proofs.YtjekjlaokjhhgaaGreatDoor
namespace Go.Proofs.YtjekjlaokjhhgaaGreatDoor
open Go.RowKit Go.Shelf
attribute [local go_sem] Oper.semAt_some
end Go.Proofs.YtjekjlaokjhhgaaGreatDoor
namespace Go.Proofs.YtjekjlaokjhhgaaGreatDoor
end Go.Proofs.YtjekjlaokjhhgaaGreatDoor
namespace Go.Proofs.YtjekjlaokjhhgaaGreatDoor
end Go.Proofs.YtjekjlaokjhhgaaGreatDoor
namespace Go.Proofs.YtjekjlaokjhhgaaGreatDoor
open Go.RowKit Go.Shelf
end Go.Proofs.YtjekjlaokjhhgaaGreatDoor
namespace Go.Proofs.YtjekjlaokjhhgaaGreatDoor
end Go.Proofs.YtjekjlaokjhhgaaGreatDoor
namespace Go.Proofs.YtjekjlaokjhhgaaGreatDoor
open Go.RowKit
section
variable {P : Program} {n : Nat} {ops : Array Oper} {o : Oper} {rest : List Oper} {env : Env} {bx : Bxs} {sb : Bxs} {ow : Ows} {H : Hs} {Q : EQ} {τ : Tab} {d : Nat} {s : SV}
end
section
variable {P : Program} {n : Nat} {ops : Array Oper} {rest : List Oper} {env : Env} {bx : Bxs} {H : Hs} {Q : EQ}
theorem EVL.swapOw (a b : Ows) (e : H.ow = a ++ b) (h : EVL P n ops rest env bx ⟨H.ro, b ++ a, H.base⟩ Q) : EVL P n ops rest env bx H Q :=
 fun W0 β x W r => h W0 β x W (r.permOw (by rw [e]; exact List.perm_append_comm))
theorem EV.swapOw {c : Code} (a b : Ows) (e : H.ow = a ++ b) (h : EV P n c env bx ⟨H.ro, b ++ a, H.base⟩ Q) : EV P n c env bx H Q :=
 fun W0 β x W r => h W0 β x W (r.permOw (by rw [e]; exact List.perm_append_comm))
end
section
variable {P : Program} {n : Nat} {ops : Array Oper} {o : Oper} {rest : List Oper} {env : Env} {bx : Bxs} {sb : Bxs} {ow : Ows} {H : Hs} {Q : EQ} {τ : Tab} {d : Nat} {s : SV}
end
end Go.Proofs.YtjekjlaokjhhgaaGreatDoor
namespace Go.Proofs.YtjekjlaokjhhgaaGreatDoor
end Go.Proofs.YtjekjlaokjhhgaaGreatDoor
namespace Go.Proofs.YtjekjlaokjhhgaaGreatDoor
open Go.RowKit
def inR (n : Nat) (r : Int) : Bool := decide (0 ≤ r) && decide (r < (n : Int))
theorem ownL_of_row {W : World} {base : Nat} {e : TypeId} {size : Nat} {v : Value} {n : Nat} {xs : List Value} (h : W.ownsRow base e size v n xs) : ∃ ow, OwnL e size v n xs ow ∧ OwNew base W ow := by
 obtain ⟨h1, ⟨rfl, rfl⟩ | ⟨g, cap, cur, rfl, hb, hh, hc, hm, hs, ht⟩⟩ := h
 ·exact ⟨[], ⟨h1, .inl ⟨rfl, rfl, rfl⟩⟩, by simp, fun b T cs h => by cases h⟩
 ·have hcur : cur.toList = xs ++ cur.toList.drop (n * size) := by rw [← ht, List.take_append_drop]
  refine ⟨[(g, e, xs ++ cur.toList.drop (n * size))], ⟨h1, .inr ⟨g, cap, _, rfl, rfl, by rw [← hcur]; simpa using hs, hc, hm⟩⟩, by simp, fun b T cs h => ?_⟩
  rw [List.mem_singleton] at h
  cases h
  refine ⟨hb, ?_⟩
  rw [← hcur]
  exact hh
end Go.Proofs.YtjekjlaokjhhgaaGreatDoor
