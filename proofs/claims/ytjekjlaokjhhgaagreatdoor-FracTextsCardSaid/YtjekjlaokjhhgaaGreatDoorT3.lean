/- Texts of ours in one: Gc3, Gc4, Gc5, GcdS, Fr1, Fr2, Fr3, Ha1, Ha2, Ev16, Ls1, LsP, Ls2, Ls3, Fr4, NearP, NearQ, SimpP, SimpS, Lw1, Lw2, Lw3, Lw4, Simp, Simp2, Simp3, Simp4, Ls4, Str3, DgP, PaP, Ev17, Ev18, Ev19, Ev20, Ev24, Ev25, Tx1, PaA, DicePlain, Dice, Draw, RefDice, Seq, Sorted, Lists, SortPlain, Asc, GnC, Ev21, Ev22, Ev23, Ls5, Ls6, Gn1, GnP, Gn2, Gn3, Gn7, Gn8, Gn4, Gn5, Gn9, Gn12, Dg1, Bd1, Bd2, Tx2, PaB, PaC, PaD, PaE, PaF, PaG, PaH, PaI, PaJ, Tx3, Tx4, Tx5, PaK. -/
import Derived.Test.YtjekjlaokjhhgaaGreatDoorT0
import Derived.Test.YtjekjlaokjhhgaaGreatDoorT1
import Derived.Test.YtjekjlaokjhhgaaGreatDoorT2
import Derived.Laws.Concat
import Derived.WalkKit
import Derived.Test.YtjekjlaokjhhgaaGreatDoorRows
import Derived.WalkLawsBesides
import Derived.Deep.LoopGhost
import Derived.Test.YtjekjlaokjhhgaaGreatDoorProg
import Derived.RangeFuncBox
import Derived.RangeFuncLeaves
import Derived.Shelf.Abstract
import Derived.OwnWalkIn
import Derived.TacticsInMore
import Derived.LoopNIn
import Derived.LoopIn
import Derived.Maps.AppendAt
import Derived.Sort.OwnSortedInts
import Derived.Lib.SlicesCompact
import Derived.Lib.AppendStr
import Derived.Lib.UnsafeStr
import Derived.Laws.IdiomStrings
set_option linter.unusedVariables false
set_option linter.unusedSimpArgs false

namespace Go.Proofs.YtjekjlaokjhhgaaGreatDoor
open Go.RowKit
theorem wzeros_pw {H : Hp} {b off cap : Nat} {T : TypeId} {cs : List Value} {l : List Nat} (hw : Wn cs off l) (hl : Dig W64 l) (hll : l.length ≤ 100000000) (h0 : val W64 l ≠ 0) :
  PW Tryz.prog 128 #[.slice (some ⟨b, off, none⟩) l.length cap] H [(b, T, cs)] fun v ow _ => ow = [(b, T, cs)] ∧ ∃ z m : Nat, v = .int .i64 (z : Int) ∧ val W64 l = 2 ^ z * m ∧ m % 2 = 1 ∧ z < 64 * l.length := by
 refine PW.body Tryz.tab_ok Tryz.func128 rfl (by kernel_rfl) Tryz.ntmps128 rfl rfl ?_
 (try refine RUN ?_)
 refine EV.loop (ι := Nat) (fun i => [(0, .v (.slice (some ⟨b, off, none⟩) l.length cap)), (3, .v (.int .i64 (i : Int)))]) (fun _ => []) (fun _ => [(b, T, cs)])
  (fun i _ => ∀ j, j < i → l.getD j 0 = 0) (fun i => l.length - i) 0 ⟨rfl, rfl, trivial⟩ trivial rfl (fun _ => rfl) (fun j hj => absurd hj (Nat.not_lt_zero _)) ?_
 rintro i G hG hz
 have hi : i < l.length := by
  refine Nat.lt_of_not_le fun h => h0 ?_
  have := val_take_zero (B := W64) i hz
  rwa [List.take_of_length_le h] at this
 have hx := hw.2 i hi
 (try refine RUN ?_)
 refine EVL.idxO Tryz.tab_ok rfl rfl rfl rfl rfl rfl rfl rfl rfl rfl (i) (rfl) (hi) ?_
 refine EVL.load1 Tryz.tab_ok rfl rfl rfl rfl rfl rfl rfl rfl (0) rfl (hx) ?_
 (try refine RUN ?_)
 by_cases hxz : l.getD i 0 = 0
 ·rw [hxz, show (((0 : Nat) : Int) == 0) = true from rfl]
  (try refine RUN ?_)
  refine ⟨i + 1, ⟨rfl, ?_, trivial⟩, trivial, rfl, fun j hj => ?_, Hp.Le.refl _, by omega⟩
  ·rw [wi_inc i (by omega)]; rfl
  ·by_cases e : j = i
   ·subst e; exact hxz
   ·exact hz j (by omega)
 ·rw [show (((l.getD i 0 : Nat) : Int) == 0) = false by simpa using hxz]
  obtain ⟨m, hv, hm, hc⟩ := zeros_val hl hz hxz
  have htz := tz_pv (l.getD i 0) (hl.getD (by decide) i)
  (try refine RUN ?_)
  refine EVL.idxO Tryz.tab_ok rfl rfl rfl rfl rfl rfl rfl rfl rfl rfl (i) (rfl) (hi) ?_
  refine EVL.load1 Tryz.tab_ok rfl rfl rfl rfl rfl rfl rfl rfl (0) rfl (hx) ?_
  repeat (first | refine RUN ?_ | refine CV (htz) ?_ | refine CE (htz) ?_)
  refine ⟨rfl, 64 * i + Lib.ctz 64 (l.getD i 0), m, ?_, hv, hm, by omega⟩
  rw [show IntKind.i64.wrap (64 * (i : Int)) = ((64 * i : Nat) : Int) from wi_mul 64 i (by omega), wi_add _ _ (by omega)]
theorem take_set_drop {α : Type} (s m : List α) (i : Nat) (h : i < s.length) (hl : s.length = m.length) : (s.take i ++ m.drop i).set i s[i] = s.take (i + 1) ++ m.drop (i + 1) := by
 have hm : i < m.length := by omega
 rw [List.set_append_right _ _ (by rw [List.length_take]; omega), List.length_take, Nat.min_eq_left (by omega), Nat.sub_self, List.drop_eq_getElem_cons hm, List.set_cons_zero, List.take_succ_eq_append_getElem h, List.append_assoc]; rfl
theorem mix_getD (s m : List Nat) (i j : Nat) (hl : s.length = m.length) (h : i ≤ j) : (s.take i ++ m.drop i).getD j 0 = m.getD j 0 := by
 by_cases hi : i ≤ s.length
 ·rw [List.getD_eq_getElem?_getD, List.getElem?_append_right (by rw [List.length_take]; omega), List.length_take, Nat.min_eq_left hi, List.getElem?_drop, show i + (j - i) = j by omega, ← List.getD_eq_getElem?_getD]
 ·rw [List.getD_eq_getElem?_getD, List.getElem?_eq_none (by simp; omega), List.getD_eq_getElem?_getD, List.getElem?_eq_none (by omega)]
theorem wdown_pw {H : Hp} {b off cap : Nat} {T : TypeId} {cs : List Value} {l : List Nat} (hw : Wn cs off l) (hl : Dig W64 l) (hll : l.length ≤ 100000000) (hc : l.length ≤ cap) (h0 : val W64 l ≠ 0) :
  PW Tryz.prog 129 #[.slice (some ⟨b, off, none⟩) l.length cap] H [(b, T, cs)] fun v ow _ => ∃ cs1 off1 cap1 r z, ow = [(b, T, cs1)] ∧ Wn cs1 off1 r ∧ Norm W64 r ∧ r.length ≤ l.length ∧ r.length ≤ cap1 ∧ v = .slice (some ⟨b, off1, none⟩) r.length cap1 ∧ val W64 l = 2 ^ z * val W64 r ∧ val W64 r % 2 = 1 := by
 refine PW.body Tryz.tab_ok Tryz.func129 rfl (by kernel_rfl) Tryz.ntmps129 rfl rfl ?_
 (try refine RUN ?_)
 refine EVL.callW rfl rfl rfl rfl rfl ([(b, T, cs)]) ([]) rfl (wzeros_pw hw hl hll h0) ?_
 rintro v ow H' ⟨rfl, z, m, rfl, hv, hm, hz⟩ hle
 have hz0 : z / 64 < l.length := by omega
 (try refine RUN ?_)
 refine EVL.asI (((z / 64 : Nat) : Int)) (wi_quo z 64 (by omega)) ?_
 (try refine RUN ?_)
 refine EVL.slc Tryz.tab_ok rfl rfl rfl rfl rfl rfl rfl rfl (z / 64) l.length (.inr ⟨_, IntKind.i64, rfl, rfl⟩) (.inl ⟨rfl, rfl⟩) (by omega) hc hc ?_
 refine EVL.as (congrArg SV.v (slc_suf b off (z / 64) l.length cap (by omega))) ?_
 (try refine RUN ?_)
 rw [show (z : Int).tmod 64 = ((z % 64 : Nat) : Int) from wi_rem z 64]
 generalize hq : z / 64 = q at *
 generalize hp : z % 64 = p at *
 have hpz : z = 64 * q + p := by omega
 have hp64 : p < 64 := by omega
 have hlen : (l.drop q).length = l.length - q := List.length_drop ..
 have hwd := hw.drop q (by omega)
 have hld : Dig W64 (l.drop q) := hl.drop q
 have hvs := val_shr l q p hl hp64 (by omega)
 rw [← hpz] at hvs
 have hdiv : val W64 l / 2 ^ z = m := by rw [hv]; exact Nat.mul_div_cancel_left _ (Nat.pow_pos (by decide))
 rw [hdiv] at hvs
 rw [← hlen]
 generalize l.drop q = d at *
 have hsl := shrL_length p d
 have hsD := shrL_dig p hp64 hld
 refine EV.loop (ι := Nat × List Value) (fun s => [(0, .v (.slice (some ⟨b, off + q, none⟩) d.length (cap - q))), (4, .v (.int .i64 (p : Int))), (15, .v (.int .i64 (d.length : Int))), (16, .v (.int .i64 (s.1 : Int)))]) (fun _ => []) (fun s => [(b, T, s.2)])
  (fun s _ => s.1 ≤ d.length ∧ Wn s.2 (off + q) ((shrL p d).take s.1 ++ d.drop s.1)) (fun s => d.length - s.1) (0, cs) ⟨rfl, rfl, rfl, rfl, trivial⟩ trivial rfl (fun _ => rfl) ⟨Nat.zero_le _, by simpa using hwd⟩ ?_
 rintro ⟨i, cu⟩ G hG ⟨hi, hcu⟩
 dsimp only at hi hcu
 (try refine RUN ?_)
 by_cases hlt : i < d.length
 ·rw [lt_dec _ _ hlt]
  have hil : i < ((shrL p d).take i ++ d.drop i).length := by simp; omega
  have hcx := hcu.2 i hil
  rw [mix_getD _ _ i i hsl (Nat.le_refl _)] at hcx
  have hx := hld.getD (by decide) i
  have hnew := shrL_get p d i (by omega)
  have hset := take_set_drop (shrL p d) d i (by omega) hsl
  have hb1 : off + q + i < cu.length := by have := hcu.1; omega
  rw [hnew] at hset
  (try refine RUN ?_)
  refine EVL.idxO Tryz.tab_ok rfl rfl rfl rfl rfl rfl rfl rfl rfl rfl (i) (rfl) (hlt) ?_
  refine EVL.load1 Tryz.tab_ok rfl rfl rfl rfl rfl rfl rfl rfl (0) rfl (hcx) ?_
  (try refine RUN ?_)
  rw [show min p IntKind.u64.bits = p from Nat.min_eq_left (by show p ≤ 64; omega), wu_shr]
  refine EVL.idxO Tryz.tab_ok rfl rfl rfl rfl rfl rfl rfl rfl rfl rfl (i) (rfl) (hlt) ?_
  refine EVL.setO Tryz.tab_ok rfl rfl rfl rfl rfl rfl rfl ([]) rfl rfl rfl (hb1) ?_
  have hcu1 := hcu.set i (d.getD i 0 / 2 ^ p) hil
  (try refine RUN ?_)
  rw [wi_inc i (by omega)]
  by_cases hl1 : i + 1 < d.length
  ·rw [lt_dec _ _ hl1]
   have hy := hcu1.2 (i + 1) (by simp; omega)
   rw [getD_set_ne _ _ _ _ (by omega), mix_getD _ _ i (i + 1) hsl (by omega)] at hy
   have hx1 := hcu1.2 i (by simp; omega)
   rw [getD_set_eq _ _ _ hil] at hx1
   (try refine RUN ?_)
   apply EV.drawn 13 (by kernel_rfl) (by kernel_rfl); intro xv yw
   (repeat refine' DD ?_)
   refine' DJ.ofVal (ValOk.idxO Tryz.tab_ok rfl rfl rfl rfl rfl rfl rfl rfl (i) (rfl) (hlt)) rfl rfl rfl ?_; rotate_left
   refine' DJ.ofVal (ValOk.load1 Tryz.tab_ok rfl rfl rfl rfl rfl rfl (0) rfl (hx1)) rfl rfl rfl ?_; rotate_left
   (repeat refine' DD ?_)
   refine' DJ.ofVal (ValOk.idxO Tryz.tab_ok rfl rfl rfl rfl rfl rfl rfl rfl (i + 1) (wi_inc i (by omega)) (hl1)) rfl rfl rfl ?_; rotate_left
   refine' DJ.ofVal (ValOk.load1 Tryz.tab_ok rfl rfl rfl rfl rfl rfl (0) rfl (hy)) rfl rfl rfl ?_; rotate_left
   (repeat refine' DD ?_)
   refine' DJ.ofVal (ValOk.shl rfl rfl rfl rfl (by rw [IntKind.wrap_i64]; omega)) rfl rfl rfl ?_; rotate_left
   (repeat refine' DD ?_)
   (refine DJ.nil (fun G hG hF => ?_); (case hS => rfl); (case hS2 => rfl))
   (try refine RUN ?_)
   rw [show IntKind.i64.wrap (64 - (p : Int)) = ((64 - p : Nat) : Int) by rw [IntKind.wrap_i64]; omega, Int.toNat_natCast, show min (64 - p) IntKind.u64.bits = 64 - p from Nat.min_eq_left (by show _ ≤ 64; omega)]
   refine EVL.idxO Tryz.tab_ok rfl rfl rfl rfl rfl rfl rfl rfl rfl rfl (i) (rfl) (hlt) ?_
   refine EVL.setO Tryz.tab_ok rfl rfl rfl rfl rfl rfl rfl ([]) rfl rfl rfl ((by rw [List.length_set]; exact hb1)) ?_
   (try refine RUN ?_)
   have hw2 := (shr_word (d.getD i 0) (d.getD (i + 1) 0) p hp64 hx).1
   have hcu2 := hcu1.set i (d.getD i 0 / 2 ^ p + d.getD (i + 1) 0 * 2 ^ (64 - p) % W64) (by simpa using hil)
   rw [List.set_set, List.set_set, hset] at hcu2
   refine ⟨(i + 1, cu.set (off + q + i) (n64 (d.getD i 0 / 2 ^ p + d.getD (i + 1) 0 * 2 ^ (64 - p) % W64))), ⟨rfl, rfl, rfl, ?_, trivial⟩, trivial, ?_, ⟨by dsimp only; omega, hcu2⟩, hG, by dsimp only; omega⟩
   ·rw [wi_inc i (by omega)]; rfl
   ·dsimp only
    refine (congrArg (fun c => [(b, T, c)]) (List.set_set ..)).trans ?_
    exact congrArg (fun v => [(b, T, cu.set (off + q + i) v)]) (congrArg (Value.int .u64) hw2)
  ·rw [lt_dec' _ _ hl1]
   (try refine RUN ?_)
   rw [show d.getD (i + 1) 0 = 0 by simp [Nat.not_lt.1 hl1], Nat.zero_mul, Nat.zero_mod, Nat.add_zero] at hset
   rw [hset] at hcu1
   refine ⟨(i + 1, cu.set (off + q + i) (n64 (d.getD i 0 / 2 ^ p))), ⟨rfl, rfl, rfl, ?_, trivial⟩, trivial, rfl, ⟨by dsimp only; omega, hcu1⟩, Hp.Le.refl _, by dsimp only; omega⟩
   rw [wi_inc i (by omega)]; rfl
 ·rw [lt_dec' _ _ hlt]
  obtain rfl : i = d.length := by omega
  rw [List.take_of_length_le (by omega), List.drop_of_length_le (Nat.le_refl _), List.append_nil] at hcu
  have ht := wtrim_pw (H := G) (b := b) (T := T) (cap := cap - q) hcu (by omega) (by omega)
  rw [hsl] at ht
  (try refine RUN ?_)
  refine EVL.callW rfl rfl rfl rfl rfl ([(b, T, cu)]) ([]) rfl (ht) ?_
  rintro v ow H2 ⟨rfl, rfl⟩ hle2
  (try refine RUN ?_)
  have htl := trimL_length_le (shrL p d)
  refine ⟨cu, off + q, cap - q, trimL (shrL p d), z, rfl, ?_, trimL_norm hsD, by omega, by omega, rfl, ?_, ?_⟩
  ·have := hcu.take (trimL (shrL p d)).length
   rwa [trimL_take] at this
  ·rw [trimL_val, hvs, hv]
  ·rw [trimL_val, hvs, hm]
theorem wwords_pw (n : Nat) (hn : big n) (H : Hp) : PW Tryz.prog 127 #[natV n] H [] fun v ow _ => ∃ g, v = .slice (some ⟨g, 0, none⟩) (dig W64 n).length (dig W64 n).length ∧ ow = [(g, 39, (dig W64 n).map n64)] := by
 have hol : (octs n).length = (bl n + 7) / 8 := by
  have := dig_len_bits 8 n (by omega); rw [show (2 : Nat) ^ 8 = 256 by decide] at this; rw [octs_length, this]; omega
 have hwl : (dig W64 n).length = ((octs n).length + 7) / 8 := by
  have := dig_len_bits 64 n (by omega)
  rw [← W64_pow] at this
  rw [this, hol]; omega
 have hD := octs_dig n
 have hfin : pk 8 256 (octs n).reverse (dig W64 n).length = dig W64 n := pk_octs n _ rfl (by rw [← octs_length]; omega)
 have hb := natBytes_pc n hn
 refine PW.body Tryz.tab_ok Tryz.func127 rfl (by kernel_rfl) Tryz.ntmps127 rfl rfl ?_
 (try refine RUN ?_)
 refine EVL.call rfl rfl rfl rfl rfl (hb _) ?_
 rintro v H1 hs hle
 generalize hm : (dig W64 n).length = m at *
 generalize dig W64 n = dn at *
 generalize octs n = l at *
 obtain ⟨a, cap, rfl⟩ := SlC.val hs
 (try refine RUN ?_)
 rw [show IntKind.i64.wrap ((l.length : Int) + 7) = ((l.length + 7 : Nat) : Int) from wi_add _ 7 (by omega)]
 refine EVL.asI ((m : Int)) ((by rw [hwl]; exact wi_quo _ 8 (by omega))) ?_
 refine EVL.make Tryz.tab_ok rfl rfl rfl rfl rfl rfl rfl rfl rfl (m) (rfl) (by omega) (by rfl) (by rfl) fun g => ?_
 (try refine RUN ?_)
 have e0 : (List.replicate m (Tryz.te39.zero)).flatten = (pk 8 256 (l.reverse.take 0) m).map n64 := by
  rw [List.take_zero, pk_nil, List.map_replicate]; rw [show (Tryz.te39.zero) = [n64 0] from rfl]; simp
 rw [e0]
 refine EV.loop (ι := Nat) (fun i => [(3, .v (.slice a l.length cap)), (4, .v (.slice (some ⟨g, 0, none⟩) m m)), (14, .v (.int .i64 (l.length : Int))), (15, .v (.int .i64 (i : Int)))]) (fun _ => []) (fun i => [(g, 39, (pk 8 256 (l.reverse.take i) m).map n64)])
  (fun i G => i ≤ l.length ∧ SlN n8 G (.slice a l.length cap) l) (fun i => l.length - i) 0 ⟨rfl, rfl, rfl, rfl, trivial⟩ trivial rfl (fun _ => rfl) ⟨Nat.zero_le _, hs⟩ ?_
 rintro i G hG ⟨hi, hs⟩
 (try refine RUN ?_)
 by_cases hlt : i < l.length
 ·have him : i / 8 < m := by omega
  have hrl : (l.reverse.take i).length = i := by rw [List.length_take, List.length_reverse]; omega
  have hx : l.getD (l.length - 1 - i) 0 < 256 := hD.getD (by decide) _
  have hxs : (l.map n8)[l.length - 1 - i]? = some (n8 (l.getD (l.length - 1 - i) 0)) := map_at (by omega)
  have hcur : ((pk 8 256 (l.reverse.take i) m).map n64)[i / 8]? = some (n64 ((pk 8 256 (l.reverse.take i) m).getD (i / 8) 0)) := map_at (by rw [pk_length]; exact him)
  have hlow := pk_low (K := 8) (B := 256) (by decide) ((hD.rev).take i) m (by rw [hrl]; omega)
  rw [hrl] at hlow
  have hsn := pk_snoc (K := 8) (B := 256) (l := l.reverse.take i) (by decide) m (l.getD (l.length - 1 - i) 0) (by rw [hrl]; omega)
  rw [hrl] at hsn
  rw [lt_dec _ _ hlt]
  (try refine RUN ?_)
  apply EV.drawn 18 (by kernel_rfl) (by kernel_rfl); intro xv yw
  (repeat refine' DD ?_)
  refine' DJ.ofVal (ValOk.idxP1 Tryz.tab_ok rfl rfl rfl rfl rfl rfl rfl rfl (i / 8) (q8 i (by omega)) him) rfl rfl rfl ?_; rotate_left
  refine' DJ.ofVal (ValOk.load1 Tryz.tab_ok rfl rfl rfl rfl rfl rfl (0) rfl (hcur)) rfl rfl rfl ?_; rotate_left
  (repeat refine' DD ?_)
  refine' DJ.ofVal (ValOk.idx1 Tryz.tab_ok rfl rfl rfl rfl rfl rfl rfl rfl (hs) (l.length - 1 - i) (back _ _ hlt (by omega)) (by omega) (hxs)) rfl rfl rfl ?_; rotate_left
  (repeat refine' DD ?_)
  refine' DJ.ofVal (ValOk.shl rfl rfl rfl rfl (by rw [r8]; omega)) rfl rfl rfl ?_; rotate_left
  (refine DJ.nil (fun G hG hF => ?_); (case hS => rfl); (case hS2 => rfl))
  rw [r8, Int.toNat_natCast]
  (try refine RUN ?_)
  rw [byte_or _ _ _ (by rw [Nat.pow_mul]; exact hlow) hx (by omega)]
  refine EVL.idx0 Tryz.tab_ok rfl rfl rfl rfl rfl rfl rfl rfl rfl rfl (i / 8) (q8 i (by omega)) (him) ?_
  refine EVL.setO Tryz.tab_ok rfl rfl rfl rfl rfl rfl rfl ([]) rfl rfl rfl ((by rw [List.length_map, pk_length]; exact him)) ?_
  (try refine RUN ?_)
  have hnext : l.reverse.take (i + 1) = l.reverse.take i ++ [l.getD (l.length - 1 - i) 0] := by
   rw [List.take_succ_eq_append_getElem (by rw [List.length_reverse]; exact hlt), List.getElem_reverse, List.getD_eq_getElem?_getD, List.getElem?_eq_getElem (show l.length - 1 - i < l.length by omega)]; rfl
  refine ⟨i + 1, ⟨rfl, rfl, rfl, ?_, trivial⟩, trivial, ?_, ⟨by omega, hs.mono hG⟩, hG, by omega⟩
  ·rw [wi_inc i (by omega)]; rfl
  ·rw [hnext, hsn, List.map_set, show (256 : Nat) ^ (i % 8) = 2 ^ (8 * (i % 8)) by rw [Nat.pow_mul]]; rfl
 ·rw [lt_dec' _ _ hlt]
  obtain rfl : i = l.length := by omega
  rw [List.take_of_length_le (by rw [List.length_reverse]; exact Nat.le_refl _), hfin]
  (try refine RUN ?_)
  exact ⟨g, rfl, rfl⟩
theorem wnumber_pw {H : Hp} {b off cap : Nat} {T : TypeId} {cs : List Value} {l : List Nat} (hw : Wn cs off l) (hl : Dig W64 l) (hll : l.length ≤ 20000000) :
  PW Tryz.prog 132 #[.slice (some ⟨b, off, none⟩) l.length cap] H [(b, T, cs)] fun v ow _ => ow = [(b, T, cs)] ∧ v = natV (val W64 l) := by
 refine PW.body Tryz.tab_ok Tryz.func132 rfl (by kernel_rfl) Tryz.ntmps132 rfl rfl ?_
 (try refine RUN ?_)
 rw [show IntKind.i64.wrap (8 * (l.length : Int)) = ((8 * l.length : Nat) : Int) from wi_mul 8 l.length (by omega)]
 generalize hN : 8 * l.length = N at *
 refine EVL.make Tryz.tab_ok rfl rfl rfl rfl rfl rfl rfl rfl rfl (N) (rfl) (by omega) (by rfl) (by rfl) fun g => ?_
 refine EVL.apart fun hdist => ?_
 have hgb : b ≠ g := fun e => by
  subst e
  have := hdist 0 1 b _ _ _ _ rfl rfl
  cases this
 (try refine RUN ?_)
 have e0 : (List.replicate N (Tryz.te5.zero)).flatten = (List.replicate N 0).map n8 := by
  rw [List.map_replicate, show (Tryz.te5.zero) = [n8 0] from rfl]; simp
 rw [e0]
 refine EV.loop (ι := Nat × List Nat) (fun q => [(2, .p 2 0), (0, .v (.slice (some ⟨b, off, none⟩) l.length cap)), (3, .v (.slice (some ⟨g, 0, none⟩) N N)), (10, .v (.int .i64 (N : Int))), (11, .v (.int .i64 (q.1 : Int)))]) (fun _ => [(2, 41, Tryz.te41.zero)]) (fun q => [(g, 5, q.2.map n8), (b, T, cs)])
  (fun q _ => q.1 ≤ N ∧ q.2.length = N ∧ Dig 256 q.2 ∧ ∀ j, j < q.1 → q.2.getD (N - 1 - j) 0 = val W64 l / 256 ^ j % 256) (fun q => N - q.1) (0, List.replicate N 0) ⟨rfl, rfl, rfl, rfl, rfl, trivial⟩ ⟨rfl, trivial⟩ rfl (fun _ => rfl) ⟨Nat.zero_le _, by simp, Dig.zeros (by decide) _, fun j hj => absurd hj (Nat.not_lt_zero _)⟩ ?_
 rintro ⟨i, cur⟩ G hG ⟨hi, hlen, hcD, hcs⟩
 dsimp only at hi hlen hcs hcD
 (try refine RUN ?_)
 by_cases hlt : i < N
 ·have hwl : i / 8 < l.length := by omega
  have hsub := val_subdigit (C := 256) (k := 8) (by decide) (by decide) (l := l) (by rw [← W64_256]; exact hl) i
  rw [← W64_256, show (256 : Nat) ^ (i % 8) = 2 ^ (8 * (i % 8)) by rw [Nat.pow_mul]] at hsub
  have hwd := hl.getD (by decide) (i / 8)
  rw [lt_dec _ _ hlt]
  (try refine RUN ?_)
  rw [back N i hlt (by omega)]
  refine EVL.asI (((i / 8 : Nat) : Int)) (q8 i (by omega)) ?_
  refine EVL.idxO Tryz.tab_ok rfl rfl rfl rfl rfl rfl rfl rfl rfl rfl (i / 8) (rfl) (hwl) ?_
  refine EVL.load1 Tryz.tab_ok rfl rfl rfl rfl rfl rfl rfl rfl (1) rfl (hw.2 (i / 8) hwl) ?_
  (try refine RUN ?_)
  rw [r8]
  (try refine RUN ?_)
  rw [sub_byte _ _ hwd (by omega), hsub]
  refine EVL.idx0 Tryz.tab_ok rfl rfl rfl rfl rfl rfl rfl rfl rfl rfl (N - 1 - i) (rfl) (by omega) ?_
  refine EVL.setO Tryz.tab_ok rfl rfl rfl rfl rfl rfl rfl ([]) rfl rfl rfl ((by rw [List.length_map, hlen]; omega)) ?_
  (try refine RUN ?_)
  refine ⟨(i + 1, cur.set (N - 1 - i) (val W64 l / 256 ^ i % 256)), ⟨rfl, rfl, rfl, rfl, ?_, trivial⟩, ⟨rfl, trivial⟩, ?_, ⟨by dsimp only; omega, by dsimp only; rw [List.length_set]; exact hlen, hcD.set _ _ (Nat.mod_lt _ (by decide)), fun j hj => ?_⟩, Hp.Le.refl _, by dsimp only; omega⟩
  ·rw [wi_inc i (by omega)]; rfl
  ·dsimp only
   rw [List.map_set]; rfl
  ·dsimp only at hj ⊢
   by_cases e : j = i
   ·subst e
    exact getD_set_eq _ _ _ (by omega)
   ·rw [getD_set_ne _ _ _ _ (by omega)]
    exact hcs j (by omega)
 ·rw [lt_dec' _ _ hlt]
  obtain rfl : i = N := by omega
  have hlv := val_lt hl
  have hb := bytes_back (val W64 l) i cur (by rw [← hN, Nat.pow_mul, ← W64_256]; exact hlv) hlen hcs
  (try refine RUN ?_)
  refine EVL.publish [] [(b, T, cs)] rfl (fun G2 hG2 hg => ?_) (fun k hk => by
   obtain rfl : k = b := by simpa [Ows.bs] using hk
   exact hgb)
  have hsl : SlN n8 G2 (.slice (some ⟨g, 0, none⟩) i i) cur := by
   unfold SlN
   rw [hlen]
   exact ⟨by simp [hlen], .inr ⟨g, 0, i, _, rfl, Nat.le_refl _, hg, fun j x hj => by simpa using hj⟩⟩
  have hf := natFromBytes_pc hsl hcD (by omega)
  rw [hb] at hf
  refine EVL.call rfl rfl rfl rfl rfl (hf) ?_
  rintro v H2 rfl hle
  (try refine RUN ?_)
  exact ⟨rfl, rfl⟩
structure OW (b off cap : Nat) (cs : List Value) (l : List Nat) : Prop where
 at_ : Wn cs off l
 norm : Norm W64 l
 cap : l.length ≤ cap
 len : l.length ≤ 20000000
 odd : val W64 l % 2 = 1
structure BSt where
 (bv ov cv : Nat) (lv : List Nat) (sv : List Value)
 (bw ow cw : Nat) (lw : List Nat) (sw : List Value)
def BSt.env (q : BSt) (t : Int) : Env := [(4, .p 4 0), (5, .v (.slice (some ⟨q.bv, q.ov, none⟩) q.lv.length q.cv)), (6, .v (.slice (some ⟨q.bw, q.ow, none⟩) q.lw.length q.cw)), (7, .v (.int .i64 t))]
def BSt.own (q : BSt) : Ows := [(q.bv, 39, q.sv), (q.bw, 39, q.sw)]
structure BSt.ok (q : BSt) (g : Nat) : Prop where
 v : OW q.bv q.ov q.cv q.sv q.lv
 w : OW q.bw q.ow q.cw q.sw q.lw
 gcd : Nat.gcd (val W64 q.lv) (val W64 q.lw) = g
theorem odd_pos {n : Nat} (h : n % 2 = 1) : n ≠ 0 := by omega
theorem two_swap {α : Type} (a b : α) : List.Perm [a, b] [b, a] := List.Perm.swap b a []
theorem ordN_zero {a b : Nat} (h : ordN a b = 0) : a = b := by
 unfold ordN at h; split at h
 ·cases h
 ·split at h
  ·cases h
  ·omega
theorem natV_cells (n : Nat) : natV n = .agg #[.int .u64 (lo n : Int), .string (moreB n)] := rfl
theorem wbinary_pv (x y : Nat) (hx : x ≠ 0) (hy : y ≠ 0) (hbx' : big x) (hby' : big y) : PV Tryz.prog 95 #[natV x, natV y] (natV (Nat.gcd x y)) := by
 have lx : (dig W64 x).length ≤ 20000000 := Nat.le_trans (dig_len_big hbx') (by decide)
 have ly : (dig W64 y).length ≤ 20000000 := Nat.le_trans (dig_len_big hby') (by decide)
 have hpx := fun G => PO.of_pw ((wwords_pw x hbx' G).mono (Ψ := fun v ow _ => ow.length ≤ 1 ∧ ∃ g, v = .slice (some ⟨g, 0, none⟩) (dig W64 x).length (dig W64 x).length ∧ ow = [(g, 39, (dig W64 x).map n64)]) fun v ow H' _ ⟨g, h1, h2⟩ => ⟨by rw [h2]; simp, g, h1, h2⟩)
 have hpy := fun G => PO.of_pw ((wwords_pw y hby' G).mono (Ψ := fun v ow _ => ow.length ≤ 1 ∧ ∃ g, v = .slice (some ⟨g, 0, none⟩) (dig W64 y).length (dig W64 y).length ∧ ow = [(g, 39, (dig W64 y).map n64)]) fun v ow H' _ ⟨g, h1, h2⟩ => ⟨by rw [h2]; simp, g, h1, h2⟩)
 have dx := dig_norm W64_two x
 have dy := dig_norm W64_two y
 have vx := dig_val W64_two x
 have vy := dig_val W64_two y
 generalize dig W64 x = dgx at *
 generalize dig W64 y = dgy at *
 have hvx0 : val W64 dgx ≠ 0 := by rw [vx]; exact hx
 have hvy0 : val W64 dgy ≠ 0 := by rw [vy]; exact hy
 refine PV.of_pc ?_
 refine PC.body Tryz.tab_ok Tryz.func95 rfl (by kernel_rfl) Tryz.ntmps95 rfl rfl ?_
 (try refine RUN ?_)
 apply EV.drawn 6 (by kernel_rfl) (by kernel_rfl); intro x1 y1
 (repeat refine' DD ?_)
 refine' DJ.callO rfl rfl rfl rfl rfl (hpx gH).can (fun G _ _ => hpx G) ?_; rotate_left
 (repeat refine' DD ?_)
 refine' DJ.callO rfl rfl rfl rfl rfl (hpy gH).can (fun G _ _ => hpy G) ?_; rotate_left
 refine' DJ.copy (0 + 1) (.inr rfl) rfl rfl rfl id rfl (by kernel_rfl) ?_; rotate_left
 refine' DJ.copy (0 + 1 + 1 + 1) (.inr rfl) rfl rfl rfl id rfl (by kernel_rfl) ?_; rotate_left
 (refine DJ.nil (fun G hG hF => ?_); (case hS => rfl); (case hS2 => rfl))
 obtain ⟨⟨gy, ey, oy⟩, ⟨gx, ex, ox⟩, _⟩ := hF
 simp only [ex, ey, ox, oy, id]
 clear hpx hpy ex ey ox oy
 (try refine RUN ?_)
 refine EVL.permOw [(gx, 39, dgx.map n64), (gy, 39, dgy.map n64)] (two_swap _ _) ?_
 refine EVL.callW rfl rfl rfl rfl rfl ([(gx, 39, dgx.map n64)]) ([(gy, 39, dgy.map n64)]) rfl (wzeros_pw (Wn.of dgx) dx.1 (by omega) hvx0) ?_
 rintro v ow H1 ⟨rfl, zx, mx, rfl, hzx, hmx, hzx2⟩ hle1
 (try refine RUN ?_)
 refine EVL.permOw [(gy, 39, dgy.map n64), (gx, 39, dgx.map n64)] (two_swap _ _) ?_
 refine EVL.callW rfl rfl rfl rfl rfl ([(gy, 39, dgy.map n64)]) ([(gx, 39, dgx.map n64)]) rfl (wzeros_pw (Wn.of dgy) dy.1 (by omega) hvy0) ?_
 rintro v ow H2 ⟨rfl, zy, my, rfl, hzy, hmy, hzy2⟩ hle2
 (try refine RUN ?_)
 rw [show (if (zy : Int) < (zx : Int) then (zy : Int) else (zx : Int)) = ((min zx zy : Nat) : Int) by split <;> omega]
 (try refine RUN ?_)
 refine EVL.permOw [(gx, 39, dgx.map n64), (gy, 39, dgy.map n64)] (two_swap _ _) ?_
 refine EVL.callW rfl rfl rfl rfl rfl ([(gx, 39, dgx.map n64)]) ([(gy, 39, dgy.map n64)]) rfl (wdown_pw (Wn.of dgx) dx.1 (by omega) (Nat.le_refl _) hvx0) ?_
 rintro v ow H3 ⟨sx, ox, cx, rx, zx', rfl, hwx, hnx, hlx, hcx, rfl, hdx, hox⟩ hle3
 (try refine RUN ?_)
 refine EVL.permOw [(gy, 39, dgy.map n64), (gx, 39, sx)] (two_swap _ _) ?_
 refine EVL.callW rfl rfl rfl rfl rfl ([(gy, 39, dgy.map n64)]) ([(gx, 39, sx)]) rfl (wdown_pw (Wn.of dgy) dy.1 (by omega) (Nat.le_refl _) hvy0) ?_
 rintro v ow H4 ⟨sy, oy, cy, ry, zy', rfl, hwy, hny, hly, hcy, rfl, hdy, hoy⟩ hle4
 refine EVL.permOw [(gx, 39, sx), (gy, 39, sy)] (two_swap _ _) ?_
 have hgcd : Nat.gcd x y = 2 ^ min zx zy * Nat.gcd (val W64 rx) (val W64 ry) := by
  have e1 : zx = zx' := odd_part (by rw [← hzx, hdx]) hmx hox
  have e2 : zy = zy' := odd_part (by rw [← hzy, hdy]) hmy hoy
  subst e1 e2
  rw [← vx, ← vy]
  exact gcd_binary _ _ zx zy _ _ hdx hdy hox hoy
 have htw : min zx zy ≤ 1300000000 := by omega
 generalize min zx zy = tw at *
 generalize hg : Nat.gcd (val W64 rx) (val W64 ry) = g at *
 have hbg : big (Nat.gcd x y) := Nat.le_trans (bl_gcd_left x y hx) hbx'
 generalize Nat.gcd x y = gg at *
 (try refine RUN ?_)
 refine EV.loop (ι := BSt) (fun q => q.env (tw : Int)) (fun _ => [(4, 41, Tryz.te41.zero)]) (fun q => q.own) (fun q _ => q.ok g) (fun q => val W64 q.lv + val W64 q.lw) ⟨gx, ox, cx, rx, sx, gy, oy, cy, ry, sy⟩
  ⟨rfl, rfl, rfl, rfl, trivial⟩ ⟨rfl, trivial⟩ rfl (fun _ => rfl) ⟨⟨hwx, hnx, hcx, Nat.le_trans hlx lx, hox⟩, ⟨hwy, hny, hcy, Nat.le_trans hly ly, hoy⟩, hg⟩ ?_
 clear hdx hdy hzx hzy hwx hnx hlx hcx hwy hny hly hcy hox hoy hle1 hle2 hle3 hle4 hg
 rintro ⟨bv, ov, cv, lv, sv, bw, ow, cw, lw, sw⟩ G hG ⟨⟨v1, v2, v3, v4, v5⟩, ⟨w1, w2, w3, w4, w5⟩, hgq⟩
 dsimp only at v1 v2 v3 v4 v5 w1 w2 w3 w4 w5 hgq
 unfold BSt.env BSt.own
 dsimp only
 (try refine RUN ?_)
 refine EVL.callW rfl rfl rfl rfl rfl ([(bv, 39, sv), (bw, 39, sw)]) ([]) rfl (wcompare_pw v1 w1 v2 w2 (by omega)) ?_
 rintro v ow1 H5 ⟨rfl, rfl⟩ hle5
 (try refine RUN ?_)
 by_cases hc0 : ordN (val W64 lv) (val W64 lw) = 0
 ·rw [show (ordN (val W64 lv) (val W64 lw) == 0) = true by rw [hc0]; rfl]
  have hvw := ordN_zero hc0
  rw [← hvw, Nat.gcd_self] at hgq
  (try refine RUN ?_)
  refine EVL.callW rfl rfl rfl rfl rfl ([(bv, 39, sv)]) ([(bw, 39, sw)]) rfl (wnumber_pw v1 v2.1 v4) ?_
  rintro v ow2 H6 ⟨rfl, rfl⟩ hle6
  rw [hgq, natV_cells]
  (try refine RUN ?_)
  refine EV.loop (ι := Int × Nat) (fun q => [(4, .p 4 0), (9, .p 9 0), (7, .v (.int .i64 q.1))]) (fun q => [(9, 41, [.int .u64 (lo q.2 : Int), .string (moreB q.2)]), (4, 41, Tryz.te41.zero)]) (fun _ => [(bv, 39, sv), (bw, 39, sw)])
   (fun q _ => q.2 * 2 ^ q.1.toNat = gg ∧ q.1 ≤ 1300000000 ∧ -100000 ≤ q.1) (fun q => q.1.toNat) ((tw : Int), g) ⟨rfl, rfl, rfl, trivial⟩ ⟨rfl, rfl, trivial⟩ rfl (fun _ => rfl) ⟨by dsimp only; rw [Int.toNat_natCast, hgcd, Nat.mul_comm], by dsimp only; omega, by dsimp only; omega⟩ ?_
  rintro ⟨t, o⟩ G2 hG2 ⟨ht, ht1, ht2⟩
  dsimp only at ht ht1 ht2
  (try refine RUN ?_)
  by_cases htp : t > 0
  ·rw [show decide (t > 0) = true by simpa using htp]
   obtain ⟨k, hk, hkt⟩ : ∃ k : Nat, (if (65536 : Int) < t then (65536 : Int) else t) = (k : Int) ∧ k = min t.toNat 65536 := ⟨min t.toNat 65536, by split <;> omega, rfl⟩
   have hbo : big o := by
    refine Nat.le_trans (bl_mono ?_) hbg
    rw [← ht]; exact Nat.le_mul_of_pos_right _ (Nat.pow_pos (by decide))
   have hsh := natShift_up o k (by omega) hbo
   (try refine RUN ?_)
   rw [hk]
   repeat (first | refine RUN ?_ | refine CV (hsh) ?_ | refine CE (hsh) ?_)
   refine ⟨(t - 65536, o * 2 ^ k), ⟨rfl, rfl, ?_, trivial⟩, ⟨rfl, rfl, trivial⟩, rfl, ⟨?_, by dsimp only; omega, by dsimp only; omega⟩, Hp.Le.refl _, by dsimp only; omega⟩
   ·rw [show IntKind.i64.wrap (t - 65536) = t - 65536 by rw [IntKind.wrap_i64]; omega]; rfl
   ·dsimp only
    rw [← ht, Nat.mul_assoc, ← Nat.pow_add]
    congr 2
    omega
  ·rw [show decide (t > 0) = false by simpa using htp]
   rw [show t.toNat = 0 by omega, Nat.pow_zero, Nat.mul_one] at ht
   subst ht
   (try refine RUN ?_)
   rfl
 ·rw [show (ordN (val W64 lv) (val W64 lw) == 0) = false by simpa using hc0]
  (try refine RUN ?_)
  refine EV.meet (fun env' bx' H' => ∃ q : BSt, SubL env' (q.env (tw : Int)) ∧ SubX bx' [(4, 41, Tryz.te41.zero)] ∧ H'.ow = q.own ∧ G.Le H'.ro ∧ q.ok g ∧ val W64 q.lw < val W64 q.lv ∧ val W64 q.lv + val W64 q.lw = val W64 lv + val W64 lw) ?_ ?_
  ·rintro env' bx' ⟨G6, ow6, base6⟩ _ ⟨⟨bv, ov, cv, lv, sv, bw, ow, cw, lw, sw⟩, he, hbx6, how, hleG, ⟨⟨v1, v2, v3, v4, v5⟩, ⟨w1, w2, w3, w4, w5⟩, hgq⟩, hlt, hsum⟩
   dsimp only at v1 v2 v3 v4 v5 w1 w2 w3 w4 w5 hgq hlt hsum
   refine EV.less _ _ he hbx6 rfl ?_
   unfold BSt.own at how
   dsimp only at how
   subst how
   unfold BSt.env
   dsimp only
   have hlen : lw.length ≤ lv.length := by
    refine Nat.le_of_not_lt fun h => ?_
    have := len_less W64_two v2.1 w2 h
    omega
   (try refine RUN ?_)
   refine EVL.callW rfl rfl rfl rfl rfl ([(bv, 39, sv), (bw, 39, sw)]) ([]) rfl (wsubtract_pw v1 w1 v2.1 w2.1 (by omega) hlen v3 (by omega)) ?_
   rintro v ow7 H7 ⟨s7, r7, rfl, hw7, hn7, hl7, rfl, hv7⟩ hle7
   (try refine RUN ?_)
   refine EVL.callW rfl rfl rfl rfl rfl ([(bv, 39, s7)]) ([(bw, 39, sw)]) rfl (wdown_pw hw7 hn7.1 (by omega) (by omega) (by omega)) ?_
   rintro v ow8 H8 ⟨s8, o8, c8, r8, z8, rfl, hw8, hn8, hl8, hc8, rfl, hd8, ho8⟩ hle8
   (try refine RUN ?_)
   have hr := gcd_round (val W64 lv) (val W64 lw) z8 (val W64 r8) w5 (by omega) (by rw [← hv7]; exact hd8)
   have hle9 : val W64 r8 ≤ val W64 r7 := by rw [hd8]; exact Nat.le_mul_of_pos_left _ (Nat.pow_pos (by decide))
   refine ⟨⟨bv, o8, c8, r8, s8, bw, ow, cw, lw, sw⟩, ⟨rfl, rfl, rfl, rfl, trivial⟩, ⟨rfl, trivial⟩, rfl, ⟨⟨hw8, hn8, hc8, by dsimp only; omega, ho8⟩, ⟨w1, w2, w3, w4, w5⟩, by dsimp only; rw [hr]; exact hgq⟩, (hleG.trans hle7).trans hle8, ?_⟩
   dsimp only
   have := odd_pos w5
   omega
  ·by_cases hlt : ordN (val W64 lv) (val W64 lw) < 0
   ·rw [show decide (ordN (val W64 lv) (val W64 lw) < 0) = true by simpa using hlt]
    have hvl : val W64 lv < val W64 lw := by
     unfold ordN at hlt
     split at hlt
     ·assumption
     ·split at hlt <;> simp at hlt
    refine EV.permOw [(bw, 39, sw), (bv, 39, sv)] (two_swap _ _) ?_
    (try refine RUN ?_)
    exact ⟨⟨bw, ow, cw, lw, sw, bv, ov, cv, lv, sv⟩, ⟨rfl, rfl, rfl, rfl, trivial⟩, ⟨rfl, trivial⟩, rfl, hle5, ⟨⟨w1, w2, w3, w4, w5⟩, ⟨v1, v2, v3, v4, v5⟩, by dsimp only; rw [Nat.gcd_comm]; exact hgq⟩, hvl, Nat.add_comm _ _⟩
   ·rw [show decide (ordN (val W64 lv) (val W64 lw) < 0) = false by simpa using hlt]
    have hvl : val W64 lw < val W64 lv := by
     unfold ordN at hlt hc0
     split at hlt
     ·simp at hlt
     ·rename_i h1
      rw [if_neg h1] at hc0
      split at hc0
      ·assumption
      ·simp at hc0
    (try refine RUN ?_)
    exact ⟨⟨bv, ov, cv, lv, sv, bw, ow, cw, lw, sw⟩, ⟨rfl, rfl, rfl, rfl, trivial⟩, ⟨rfl, trivial⟩, rfl, hle5, ⟨⟨v1, v2, v3, v4, v5⟩, ⟨w1, w2, w3, w4, w5⟩, hgq⟩, hvl, rfl⟩
theorem gcdN_pv (c1 c2 : Nat) (h1 : big c1) (h2 : big c2) (sx sy : Bool) (hsx : c1 = 0 → sx = false) (hsy : c2 = 0 → sy = false) :
  PV Tryz.prog 57 #[.agg #[.bool sx, .int .u64 (lo c1 : Int), .string (moreB c1)], .agg #[.bool sy, .int .u64 (lo c2 : Int), .string (moreB c2)]] (natV (Nat.gcd c1 c2)) := by
 refine PV.of_pc ?_
 refine PC.body Tryz.tab_ok Tryz.func57 rfl (by kernel_rfl) Tryz.ntmps57 rfl rfl ?_
 (try refine RUN ?_)
 (apply EV.drawn 7 (by kernel_rfl) (by kernel_rfl); intro xv yw; (repeat (first | refine' DD ?_)); refine DJ.nil (fun G hG hF => ?_); (case hS => rfl); (case hS2 => rfl))
 repeat (first | refine RUN ?_ | refine CV (natCmp_pv c1 c2 h1 h2) ?_ | refine CE (natCmp_pv c1 c2 h1 h2) ?_)
 refine EV.meet (fun env' bx' H' => ∃ u w : Nat, SubL env' [(4, .p 4 0), (5, .p 5 0), (6, .p 6 0)] ∧ SubX bx' [(4, 41, Tryz.te41.zero), (5, 41, [.int .u64 (lo u : Int), .string (moreB u)]), (6, 41, [.int .u64 (lo w : Int), .string (moreB w)])] ∧ H'.ow = [] ∧ w ≤ u ∧ big u ∧ big w ∧ Nat.gcd u w = Nat.gcd c1 c2) ?_ ?_
 ·rintro env' bx' ⟨G1, ow1, base1⟩ hb ⟨u, w, he, hbx, how, hwu, hu, hw, hg⟩
  obtain rfl : base1 = ⟨fun _ => none, []⟩ := hb
  obtain rfl : ow1 = [] := how
  refine EV.less _ _ he hbx rfl ?_
  clear h1 h2 hsx hsy hbx he
  generalize Nat.gcd c1 c2 = gg at *
  subst hg
  repeat (first | refine RUN ?_ | refine CV (bits_pv w hw) ?_ | refine CE (bits_pv w hw) ?_)
  rw [bl_zero_iff]
  by_cases hw0 : w = 0
  ·subst hw0
   rw [decide_eq_true rfl, Nat.gcd_zero_right]
   (try refine RUN ?_)
   rfl
  ·rw [decide_eq_false hw0]
   repeat (first | refine RUN ?_ | refine CV (natDiv_pv u w hw0 hu hw) ?_ | refine CE (natDiv_pv u w hw0 hu hw) ?_)
   have hm : u % w < w := Nat.mod_lt _ (by omega)
   have hgr : Nat.gcd u w = Nat.gcd w (u % w) := by rw [Nat.gcd_comm, Nat.gcd_rec, Nat.gcd_comm]
   have hbm : big (u % w) := Nat.le_trans (bl_mod u w) hu
   rw [hgr]
   generalize u % w = r at *
   generalize u / w = qq at *
   clear hgr hwu hu
   rw [natV_cells, natV_cells]
   (try refine RUN ?_)
   refine EV.less [(4, .p 4 0), (5, .p 5 0), (6, .p 6 0), (8, .p 8 0)] ([(5, 41, [.int .u64 (lo u : Int), .string (moreB u)]), (4, 41, Tryz.te41.zero), (6, 41, [.int .u64 (lo w : Int), .string (moreB w)]), (8, 41, [.int .u64 (lo r : Int), .string (moreB r)])]) ⟨rfl, rfl, rfl, rfl, trivial⟩ ⟨rfl, rfl, rfl, rfl, trivial⟩ rfl ?_
   apply EV.drawnS ([(5, 41, [.int .u64 (lo u : Int), .string (moreB u)])]) 3 (by kernel_rfl) (by kernel_rfl); intro xv yw
   (repeat refine' DD ?_)
   (refine DJ.nil (fun G hG hF => ?_); (case hS => rfl); (case hS2 => rfl); (case hD => rfl))
   repeat (first | refine RUN ?_ | refine CV (bits_pv r hbm) ?_ | refine CE (bits_pv r hbm) ?_)
   rw [bl_zero_iff]
   by_cases hr0 : r = 0
   ·subst hr0
    rw [decide_eq_true rfl, Nat.gcd_zero_right]
    (try refine RUN ?_)
    rfl
   ·rw [decide_eq_false hr0]
    repeat (first | refine RUN ?_ | refine CV (natSmall_pv w) ?_ | refine CE (natSmall_pv w) ?_)
    by_cases hws : w < W64
    ·have hrs : r < W64 := by omega
     rw [decide_eq_true hws, if_pos hws]
     repeat (first | refine RUN ?_ | refine CV (natSmall_pv r) ?_ | refine CE (natSmall_pv r) ?_)
     rw [decide_eq_true hrs, if_pos hrs]
     (try refine RUN ?_)
     refine EV.loop (ι := Nat × Nat) (fun q => [(4, .p 4 0), (10, .v (n64 q.1)), (12, .v (n64 q.2))]) (fun _ => [(4, 41, Tryz.te41.zero)]) (fun _ => []) (fun q _ => q.1 < W64 ∧ q.2 < W64 ∧ Nat.gcd q.1 q.2 = Nat.gcd w r) (fun q => q.2) (w, r) ⟨rfl, rfl, rfl, trivial⟩ ⟨rfl, trivial⟩ rfl (fun _ => rfl) ⟨hws, hrs, rfl⟩ ?_
     rintro ⟨m, k⟩ G2 hG2 ⟨hms, hks, hgk⟩
     dsimp only at hms hks hgk
     (try refine RUN ?_)
     by_cases hk0 : k = 0
     ·subst hk0
      rw [show decide ((((m, 0) : Nat × Nat).2 : Int) > 0) = false from rfl]
      rw [Nat.gcd_zero_right] at hgk
      repeat (first | refine RUN ?_ | refine CV (natOf_pv m hms) ?_ | refine CE (natOf_pv m hms) ?_)
      rw [hgk]
     ·rw [show decide ((((m, k) : Nat × Nat).2 : Int) > 0) = true by simp; omega]
      (try refine RUN ?_)
      apply EV.drawn 6 (by kernel_rfl) (by kernel_rfl); intro xv yw
      (repeat refine' DD ?_)
      refine' DJ.ofVal (ValOk.rem rfl rfl rfl rfl (show ((k : Nat) : Int) ≠ 0 by omega)) rfl rfl rfl ?_; rotate_left
      (repeat refine' DD ?_)
      (refine DJ.nil (fun G hG hF => ?_); (case hS => rfl); (case hS2 => rfl))
      rw [show (((m, k) : Nat × Nat).1 : Int).tmod (((m, k) : Nat × Nat).2 : Int) = ((m % k : Nat) : Int) from wi_rem m k]
      (try refine RUN ?_)
      refine ⟨(k, m % k), ⟨rfl, rfl, rfl, trivial⟩, ⟨rfl, trivial⟩, rfl, ⟨hks, Nat.lt_of_le_of_lt (Nat.mod_le m k) hms, ?_⟩, hG, Nat.mod_lt _ (by omega)⟩
      ·dsimp only
       rw [← hgk, Nat.gcd_comm m k, Nat.gcd_rec k m, Nat.gcd_comm]
    ·rw [decide_eq_false hws]
     repeat (first | refine RUN ?_ | refine CV (wbinary_pv w r hw0 hr0 hw hbm) ?_ | refine CE (wbinary_pv w r hw0 hr0 hw hbm) ?_)
     rfl
 ·by_cases hlt : c1 < c2
  ·rw [ordN_lt hlt, show decide ((-1 : Int) < 0) = true from rfl]
   (try refine RUN ?_)
   exact ⟨c2, c1, ⟨rfl, rfl, rfl, trivial⟩, ⟨rfl, rfl, rfl, trivial⟩, rfl, by omega, h2, h1, Nat.gcd_comm _ _⟩
  ·rw [show decide (ordN c1 c2 < 0) = false by unfold ordN; rw [if_neg hlt]; split <;> rfl]
   (try refine RUN ?_)
   exact ⟨c1, c2, ⟨rfl, rfl, rfl, trivial⟩, ⟨rfl, rfl, rfl, trivial⟩, rfl, by omega, h1, h2, rfl⟩
theorem gcd_pv (a b : Int) (ha : bigI a) (hb : bigI b) : PV Tryz.prog 57 #[intV a, intV b] (natV (Nat.gcd a.natAbs b.natAbs)) :=
 gcdN_pv a.natAbs b.natAbs ha hb _ _ (fun h => by simp; omega) (fun h => by simp; omega)
abbrev frV (n : Int) (d : Nat) : Value := .agg #[.bool (decide (n < 0)), .int .u64 (lo n.natAbs : Int), .string (moreB n.natAbs), .int .u64 (lo d : Int), .string (moreB d)]
def dk (d : Nat) : Nat := if d = 1 then 0 else d
abbrev fracV (q : Rat) : Value := frV q.num (dk q.den)
theorem dk_one : dk 1 = 0 := rfl
theorem dk_ne {d : Nat} (h : d ≠ 1) : dk d = d := if_neg h
theorem dk_bl (d : Nat) : bl (dk d) ≤ bl d := by
 unfold dk; split
 ·rw [bl_zero]; omega
 ·exact Nat.le_refl _
theorem dk_zero (q : Rat) : dk q.den = 0 ↔ q.den = 1 := by
 have := q.den_nz
 unfold dk; split <;> omega
theorem bl_one : bl 1 = 1 := by have := bl_pow2 0; simpa using this
theorem bl_eq_one {n : Nat} : bl n = 1 ↔ n = 1 := by
 constructor
 ·intro h
  have h1 := lt_bl n
  rw [h] at h1
  have : n ≠ 0 := fun e => by rw [e, bl_zero] at h; omega
  omega
 ·rintro rfl; exact bl_one
theorem beq_bl_one (n : Nat) : (((bl n : Nat) : Int) == 1) = decide (n = 1) := by
 by_cases h : n = 1
 ·rw [decide_eq_true h, bl_eq_one.2 h]; rfl
 ·rw [decide_eq_false h]
  have : bl n ≠ 1 := fun e => h (bl_eq_one.1 e)
  simp; omega
theorem frV_zero (n : Int) : frV n 0 = .agg #[.bool (decide (n < 0)), .int .u64 (lo n.natAbs : Int), .string (moreB n.natAbs), .int .u64 0, .string ⟨#[]⟩] := by
 unfold frV
 rw [moreB_empty (n := 0) (by decide)]; rfl
theorem pack_pv (n : Int) (d : Nat) (hd : big d) : PV Tryz.prog 59 #[intV n, natV d] (frV n (dk d)) := by
 refine PV.of_pc ?_
 refine PC.body Tryz.tab_ok Tryz.func59 rfl (by kernel_rfl) Tryz.ntmps59 rfl rfl ?_
 repeat (first | refine RUN ?_ | refine CV (bits_pv d hd) ?_ | refine CE (bits_pv d hd) ?_)
 rw [beq_bl_one]
 by_cases h : d = 1
 ·rw [decide_eq_true h]
  (try refine RUN ?_)
  rw [h, dk_one, frV_zero]
 ·rw [decide_eq_false h]
  (try refine RUN ?_)
  rw [dk_ne h]
theorem over_pv (a b : Nat) (ha : big a) (hb : big b) (h0 : b ≠ 0) : PV Tryz.prog 58 #[natV a, natV b] (natV (a / b)) := by
 refine PV.of_pc ?_
 refine PC.body Tryz.tab_ok Tryz.func58 rfl (by kernel_rfl) Tryz.ntmps58 rfl rfl ?_
 repeat (first | refine RUN ?_ | refine CV (bits_pv b hb) ?_ | refine CE (bits_pv b hb) ?_)
 rw [beq_bl_one]
 by_cases h : b = 1
 ·rw [decide_eq_true h]
  (try refine RUN ?_)
  rw [h, Nat.div_one]
 ·rw [decide_eq_false h]
  repeat (first | refine RUN ?_ | refine CV (natDiv_pv a b h0 ha hb) ?_ | refine CE (natDiv_pv a b h0 ha hb) ?_)
  rfl
theorem part_pv (n : Int) (b : Nat) (hn : bigI n) (hb : big b) (h0 : b ≠ 0) (hdv : b ∣ n.natAbs) : PV Tryz.prog 60 #[intV n, natV b] (intV (n / (b : Int))) := by
 have hs : decide (n.sign < 0) = decide (n < 0) := by rw [decide_eq_decide]; exact Int.sign_neg_iff
 have hf := from_pv (decide (n < 0)) (n.natAbs / b) (Nat.le_trans (bl_div _ _) hn)
 have e : sg (decide (n < 0)) (n.natAbs / b) = n / (b : Int) := by
  rw [part_eq n b hdv]; unfold sg
  by_cases h : n < 0 <;> simp [h]
 rw [e] at hf
 refine PV.of_pc ?_
 refine PC.body Tryz.tab_ok Tryz.func60 rfl (by kernel_rfl) Tryz.ntmps60 rfl rfl ?_
 (try refine RUN ?_)
 apply EV.drawn 7 (by kernel_rfl) (by kernel_rfl); intro xv yw
 (repeat (first | refine' DD ?_ | (refine' DC (wholeSign_pv n hn) (h := ?_); rotate_left)))
 rw [hs]
 (repeat (first | refine' DD ?_ | (refine' DC (wholeAbs_pv n) (h := ?_); rotate_left) | (refine' DC (over_pv _ _ hn hb h0) (h := ?_); rotate_left)))
 (refine DJ.nil (fun G hG hF => ?_); (case hS => rfl); (case hS2 => rfl))
 repeat (first | refine RUN ?_ | refine CV (hf) ?_ | refine CE (hf) ?_)
 rfl
theorem times_pv (n : Int) (d : Nat) (hn : bigI n) (hd : big d) (hnd : big (n.natAbs * d)) : PV Tryz.prog 54 #[intV n, natV d] (intV (n * d)) := by
 have hm := wholeMul_pv n (d : Int) hn hd (by show big (n * (d : Int)).natAbs; rw [Int.natAbs_mul]; exact hnd)
 refine PV.of_pc ?_
 refine PC.body Tryz.tab_ok Tryz.func54 rfl (by kernel_rfl) Tryz.ntmps54 rfl rfl ?_
 (try refine RUN ?_)
 apply EV.drawn 3 (by kernel_rfl) (by kernel_rfl); intro xv yw
 (repeat (first | refine' DD ?_ | (refine' DC (from_pv false d hd) (h := ?_); rotate_left)))
 (refine DJ.nil (fun G hG hF => ?_); (case hS => rfl); (case hS2 => rfl))
 repeat (first | refine RUN ?_ | refine CV (hm) ?_ | refine CE (hm) ?_)
 rfl
theorem isWhole_pv (q : Rat) (h : big q.den) : PV Tryz.prog 50 #[fracV q] (.bool (decide (q.den = 1))) := by
 refine PV.of_pc ?_
 refine PC.body Tryz.tab_ok Tryz.func50 rfl (by kernel_rfl) Tryz.ntmps50 rfl rfl ?_
 repeat (first | refine RUN ?_ | refine CV (bits_pv (dk q.den) (Nat.le_trans (dk_bl _) h)) ?_ | refine CE (bits_pv (dk q.den) (Nat.le_trans (dk_bl _) h)) ?_)
 have e : (((bl (dk q.den) : Nat) : Int) == 0) = decide (q.den = 1) := by
  by_cases h1 : q.den = 1
  ·rw [decide_eq_true h1, (dk_zero q).2 h1, bl_zero]; rfl
  ·rw [decide_eq_false h1]
   have h2 : bl (dk q.den) ≠ 0 := fun e => h1 ((dk_zero q).1 (bl_eq_zero.1 e))
   simp; omega
 rw [e]
theorem den_pv (q : Rat) (h : big q.den) : PV Tryz.prog 55 #[fracV q] (natV q.den) := by
 refine PV.of_pc ?_
 refine PC.body Tryz.tab_ok Tryz.func55 rfl (by kernel_rfl) Tryz.ntmps55 rfl rfl ?_
 repeat (first | refine RUN ?_ | refine CV (isWhole_pv q h) ?_ | refine CE (isWhole_pv q h) ?_)
 by_cases h1 : q.den = 1
 ·rw [decide_eq_true h1]
  repeat (first | refine RUN ?_ | refine CV (natOf_pv 1 (by decide)) ?_ | refine CE (natOf_pv 1 (by decide)) ?_)
  rw [h1]
 ·rw [decide_eq_false h1]
  (try refine RUN ?_)
  rw [dk_ne h1]
theorem sign_pv (q : Rat) (h : bigI q.num) : PV Tryz.prog 17 #[fracV q] (.int .i64 q.num.sign) := by
 refine PV.of_pc ?_
 refine PC.body Tryz.tab_ok Tryz.func17 rfl (by kernel_rfl) Tryz.ntmps17 rfl rfl ?_
 repeat (first | refine RUN ?_ | refine CV (wholeSign_pv q.num h) ?_ | refine CE (wholeSign_pv q.num h) ?_)
 rfl
theorem num_pv (q : Rat) : PV Tryz.prog 78 #[fracV q] (intV q.num) := by
 refine PV.of_pc ?_
 refine PC.body Tryz.tab_ok Tryz.func78 rfl (by kernel_rfl) Tryz.ntmps78 rfl rfl ?_
 (try refine RUN ?_)
 rfl
theorem lowest_pv (n : Int) (d : Nat) (hn : bigI n) (hd : big d) (h0 : d ≠ 0) : PV Tryz.prog 70 #[intV n, natV d] (fracV (mkRat n d)) := by
 have hl := rat_lowest n d h0
 have hg0 : Nat.gcd n.natAbs d ≠ 0 := Nat.gcd_ne_zero_right h0
 have hgb : big (Nat.gcd n.natAbs d) := Nat.le_trans (bl_gcd_right _ _ h0) hd
 have hg := gcd_pv n (d : Int) hn hd
 have f1 := part_pv n (Nat.gcd n.natAbs d) hn hgb hg0 (Nat.gcd_dvd_left ..)
 have f2 := over_pv d (Nat.gcd n.natAbs d) hd hgb hg0
 have f3 := pack_pv (n / (Nat.gcd n.natAbs d : Nat)) (d / Nat.gcd n.natAbs d) (Nat.le_trans (bl_div _ _) hd)
 rw [← hl.1] at f1
 rw [← hl.2] at f2
 rw [← hl.1, ← hl.2] at f3
 refine PV.of_pc ?_
 refine PC.body Tryz.tab_ok Tryz.func70 rfl (by kernel_rfl) Tryz.ntmps70 rfl rfl ?_
 (try refine RUN ?_)
 (apply EV.drawn 5 (by kernel_rfl) (by kernel_rfl); intro xv yw; (repeat (first | refine' DD ?_ | (refine' DC (from_pv false d hd) (h := ?_); rotate_left) | (refine' DC (hg) (h := ?_); rotate_left))); refine DJ.nil (fun G hG hF => ?_); (case hS => rfl); (case hS2 => rfl))
 (try refine RUN ?_)
 (apply EV.drawn 7 (by kernel_rfl) (by kernel_rfl); intro xv yw; (repeat (first | refine' DD ?_ | (refine' DC (f1) (h := ?_); rotate_left) | (refine' DC (f2) (h := ?_); rotate_left) | (refine' DC (f3) (h := ?_); rotate_left))); refine DJ.nil (fun G hG hF => ?_); (case hS => rfl); (case hS2 => rfl))
 (try refine RUN ?_)
 rfl
theorem make_pv (n d : Int) (hn : bigI n) (hd : bigI d) (h0 : d ≠ 0) : PV Tryz.prog 46 #[intV n, intV d] (.tuple #[fracV (mkRat (if d < 0 then -n else n) d.natAbs), .bool true]) := by
 have l1 := lowest_pv (-n) d.natAbs (by show big (-n).natAbs; rw [Int.natAbs_neg]; exact hn) hd (by omega)
 have l2 := lowest_pv n d.natAbs hn hd (by omega)
 refine PV.of_pc ?_
 refine PC.body Tryz.tab_ok Tryz.func46 rfl (by kernel_rfl) Tryz.ntmps46 rfl rfl ?_
 repeat (first | refine RUN ?_ | refine CV (wholeSign_pv d hd) ?_ | refine CE (wholeSign_pv d hd) ?_)
 rw [show (d.sign == 0) = false by simp [Int.sign_eq_zero_iff_zero, h0]]
 repeat (first | refine RUN ?_ | refine CV (wholeSign_pv d hd) ?_ | refine CE (wholeSign_pv d hd) ?_)
 by_cases h : d < 0
 ·rw [decide_eq_true (Int.sign_neg_iff.2 h), if_pos h]
  repeat (first | refine RUN ?_ | refine CV (wholeNeg_pv n hn) ?_ | refine CE (wholeNeg_pv n hn) ?_)
  apply EV.drawn 3 (by kernel_rfl) (by kernel_rfl); intro xv yw
  (repeat (first | refine' DD ?_ | (refine' DC (wholeAbs_pv d) (h := ?_); rotate_left)))
  (refine DJ.nil (fun G hG hF => ?_); (case hS => rfl); (case hS2 => rfl))
  repeat (first | refine RUN ?_ | refine CV (l1) ?_ | refine CE (l1) ?_)
  rfl
 ·rw [decide_eq_false (fun e => h (Int.sign_neg_iff.1 e)), if_neg h]
  (try refine RUN ?_)
  apply EV.drawn 3 (by kernel_rfl) (by kernel_rfl); intro xv yw
  (repeat (first | refine' DD ?_ | (refine' DC (wholeAbs_pv d) (h := ?_); rotate_left)))
  (refine DJ.nil (fun G hG hF => ?_); (case hS => rfl); (case hS2 => rfl))
  repeat (first | refine RUN ?_ | refine CV (l2) ?_ | refine CE (l2) ?_)
  rfl
abbrev sm (q : Rat) : Prop := ht q ≤ 100000000
theorem sm.num {q : Rat} (h : sm q) : bl q.num.natAbs ≤ 100000000 := Nat.le_trans (bl_num_le q) h
theorem sm.den {q : Rat} (h : sm q) : bl q.den ≤ 100000000 := Nat.le_trans (bl_den_le q) h
theorem pick_pv (z m : Int) (hz : -9223372036854775808 ≤ z ∧ z < 9223372036854775808) (h0 : 0 < m) (hm : m < 4611686018427387904) : PV Tryz.prog 6 #[.int .i64 z, .int .i64 m] (.int .i64 (z % m)) := by
 have h1 := Int.tmod_lt_of_pos z h0
 have h2 := Int.lt_tmod_of_pos z h0
 have e : z % m = if z.tmod m < 0 then z.tmod m + m else z.tmod m := by
  have hq := Int.mul_tdiv_add_tmod z m
  have e1 : z % m = z.tmod m % m := by
   conv => lhs; rw [← hq]
   rw [Int.mul_add_emod_self_left]
  rw [e1]
  by_cases ht : z.tmod m < 0
  ·rw [if_pos ht, ← Int.add_emod_right, Int.emod_eq_of_lt (by omega) (by omega)]
  ·rw [if_neg ht, Int.emod_eq_of_lt (by omega) h1]
 refine PV.of_pc ?_
 refine PC.body Tryz.tab_ok Tryz.func6 rfl (by kernel_rfl) Tryz.ntmps6 rfl rfl ?_
 (try refine RUN ?_)
 refine EVL.remI rfl rfl rfl rfl rfl rfl (by omega) ?_
 generalize z.tmod m = t at *
 (try refine RUN ?_)
 by_cases ht : t < 0
 ·rw [if_pos ht] at e
  rw [decide_eq_true ht]
  (try refine RUN ?_)
  rw [e, IntKind.wrap_i64]; congr 1; omega
 ·rw [if_neg ht] at e
  rw [decide_eq_false ht]
  (try refine RUN ?_)
  rw [e]
theorem min_int (a b : Nat) : (if (b : Int) < (a : Int) then (b : Int) else (a : Int)) = ((min a b : Nat) : Int) := by split <;> omega
theorem oneB_n8 : ∀ l : List Nat, oneB (l.map n8) = true
 | [] => rfl
 | _ :: l => by rw [List.map_cons]; unfold oneB; rw [oneB_n8 l]; rfl
theorem few_pc {v : Value} {l : List Nat} {H : Hp} (h : SlN n8 H v l) (k : Nat) (hk : k ≤ 1000000000) : PC Tryz.prog 29 #[v, .int .i64 (k : Int)] H fun r H' => SlN n8 H' r (l.take k) := by
 obtain ⟨a, cap, rfl⟩ := SlC.val h
 have hcap : l.length ≤ cap := SlN.le h
 have hsub := SlC.sub h 0 (min l.length k) (Nat.zero_le _) (Nat.min_le_left _ _) hcap
 have hmk : min l.length k ≤ 1000000000 := Nat.le_trans (Nat.min_le_right _ _) hk
 have htk : ((l.map n8).drop (0 * 1)).take ((min l.length k - 0) * 1) = (l.take k).map n8 := by
  rw [Nat.zero_mul, List.drop_zero, Nat.sub_zero, Nat.mul_one, ← List.map_take]
  congr 1
  rw [List.take_eq_take_iff]; omega
 have hlk : (l.take k).length = min l.length k := by rw [List.length_take, Nat.min_comm]
 have hml : min l.length k ≤ l.length := Nat.min_le_left _ _
 rw [htk] at hsub
 have hmi := min_int l.length k
 generalize min l.length k = m at *
 refine PC.body Tryz.tab_ok Tryz.func29 rfl (by kernel_rfl) Tryz.ntmps29 rfl rfl ?_
 (try refine RUN ?_)
 refine EVL.lit0 Tryz.tab_ok rfl rfl rfl rfl rfl rfl rfl fun g0 => ?_
 (try refine RUN ?_)
 rw [hmi]
 refine EVL.slc (te' := Tryz.te5) Tryz.tab_ok rfl rfl rfl rfl rfl rfl rfl rfl 0 m (.inl ⟨rfl, rfl⟩) (.inr ⟨_, IntKind.i64, rfl, rfl⟩) (Nat.zero_le _) (by omega) hcap ?_
 rcases Nat.eq_zero_or_pos m with e | e
 ·subst e
  have hnil : l.take k = [] := List.length_eq_zero_iff.1 hlk
  refine EVL.append0 Tryz.tab_ok rfl rfl rfl rfl rfl rfl rfl rfl rfl (Nat.le_refl _) ?_
  (try refine RUN ?_)
  rw [hnil]
  exact ⟨rfl, .inl ⟨rfl, _, _, rfl⟩⟩
 ·refine EVL.append Tryz.tab_ok rfl rfl rfl rfl rfl rfl rfl rfl rfl rfl rfl rfl [] [(g0, 5, [])] [] rfl (OwnL.full (m := 0) rfl (by omega)) (SrcAt.ro hsub e) (oneB_n8 _) (by omega) ?_
  intro v1 ow1 hown1
  (first | refine EVL.publishL [] ow1 [] (rfl) hown1 fun G hG hs => ?_ | refine EV.publishL [] ow1 [] (rfl) hown1 fun G hG hs => ?_)
  (try refine RUN ?_)
  rw [Nat.zero_add] at hs
  exact own_sl hs hlk
theorem refNatH_pc {H : Hp} {v : Value} {n : Nat} (h : RN H v n) (hn : rsm n) : PC Tryz.prog 49 #[v] H fun r _ => r = natV n := by
 have hol : (octs n).length ≤ 200000000 := by
  rw [octs_length]
  have := dig_len_bits 8 n (by omega); rw [show (2 : Nat) ^ 8 = 256 by decide] at this; rw [this]
  have : bl n ≤ 800000000 := hn
  omega
 refine PC.body Tryz.tab_ok Tryz.func49 rfl (by kernel_rfl) Tryz.ntmps49 rfl rfl ?_
 (try refine RUN ?_)
 refine EVL.call rfl rfl rfl rfl rfl (refBytes_pc h hn) ?_
 rintro r G hr hG
 have hf := natFromBytes_pc hr (octs_dig n) hol
 rw [octs_val] at hf
 repeat (first | refine RUN ?_ | refine CV (hf) ?_ | refine CE (hf) ?_)
 rfl
theorem outNat_pc {H : Hp} (n : Nat) (hn : rsm n) : PC Tryz.prog 79 #[natV n] H fun r H' => RN H' r n := by
 have hol : (octs n).length ≤ 200000000 := by
  rw [octs_length]
  have := dig_len_bits 8 n (by omega); rw [show (2 : Nat) ^ 8 = 256 by decide] at this; rw [this]
  have : bl n ≤ 800000000 := hn
  omega
 refine PC.body Tryz.tab_ok Tryz.func79 rfl (by kernel_rfl) Tryz.ntmps79 rfl rfl ?_
 (try refine RUN ?_)
 refine EVL.call rfl rfl rfl rfl rfl (natBytes_pc n (Nat.le_trans hn (by omega)) H) ?_
 rintro r G hr hG
 have hf := refFrom_pc hr (octs_dig n) hol
 rw [octs_val] at hf
 (try refine RUN ?_)
 refine EVL.call rfl rfl rfl rfl rfl (hf) ?_
 rintro s G2 hs hG2
 (try refine RUN ?_)
 exact hs
theorem intH_pc {H : Hp} {v : Value} {z : Int} (h : RI H v z) (hz : rsm z.natAbs) : PC Tryz.prog 47 #[v] H fun r _ => r = intV z := by
 obtain ⟨sa, sl, sc, rfl, hs⟩ := id h
 have hf := from_pv (decide (z < 0)) z.natAbs (Nat.le_trans hz (by omega))
 rw [sg_dec] at hf
 refine PC.body Tryz.tab_ok Tryz.func47 rfl (by kernel_rfl) Tryz.ntmps47 rfl rfl ?_
 (try refine RUN ?_)
 apply EV.drawn 6 (by kernel_rfl) (by kernel_rfl); intro xv yw
 (repeat refine' DD ?_)
 refine' DJ.callS rfl rfl rfl rfl rfl (cOf Tryz.func49 rfl (by kernel_rfl)) (fun G hG hd => refNatH_pc (RN.mono hs hG) hz) ?_; rotate_left
 (repeat (first | refine' DD ?_ | (refine' DC (hf) (h := ?_); rotate_left)))
 (refine DJ.nil (fun G hG hF => ?_); (case hS => rfl); (case hS2 => rfl))
 (try refine RUN ?_)
 rfl
theorem outInt_pc {H : Hp} (z : Int) (hz : rsm z.natAbs) : PC Tryz.prog 77 #[intV z] H fun r H' => RI H' r z := by
 have hb : bigI z := Nat.le_trans hz (by omega)
 have e1 : decide (z.sign < 0) = decide (z < 0) := by rw [decide_eq_decide, Int.sign_neg_iff]
 refine PC.body Tryz.tab_ok Tryz.func77 rfl (by kernel_rfl) Tryz.ntmps77 rfl rfl ?_
 (try refine RUN ?_)
 apply EV.drawn 7 (by kernel_rfl) (by kernel_rfl); intro xv yw
 (repeat (first | refine' DD ?_ | (refine' DC (wholeSign_pv z hb) (h := ?_); rotate_left) | (refine' DC (wholeAbs_pv z) (h := ?_); rotate_left)))
 refine' DJ.call rfl rfl rfl rfl rfl (cOf Tryz.func79 rfl (by kernel_rfl)) (fun G hG hd => outNat_pc z.natAbs hz) (fun _ _ _ h k => RN.mono h k) ?_; rotate_left
 rw [e1]
 refine' DJ.call rfl rfl rfl rfl rfl (cOf Tryz.func31 rfl (by kernel_rfl)) (fun G hG hd => refI_pc (decide (z < 0)) (hd.head (by kernel_rfl))) (fun _ _ _ h k => RI.mono h k) ?_; rotate_left
 (refine DJ.nil (fun G hG hF => ?_); (case hS => rfl); (case hS2 => rfl))
 obtain ⟨⟨ra, rl, rc, hr, h1⟩, _⟩ := hF
 rw [sg_dec] at hr h1
 rw [hr]
 (try refine RUN ?_)
 exact ⟨ra, rl, rc, rfl, h1⟩
theorem in_pc {H : Hp} {v : Value} {q : Rat} (h : RQ H v q) (hq : rq q) : PC Tryz.prog 18 #[v] H fun r _ => r = fracV q := by
 obtain ⟨sa, sl, sc, ta, tl, tc, rfl, hs, ht⟩ := id h
 have hn := hq.num
 have hd' := hq.den
 have hf := from_pv false q.den (Nat.le_trans hd' (by omega))
 rw [show sg false q.den = (q.den : Int) from rfl] at hf
 have hm := make_pv q.num (q.den : Int) (Nat.le_trans hn (by omega)) (Nat.le_trans hd' (by omega)) (by have := q.den_nz; omega)
 rw [if_neg (by omega), Int.natAbs_natCast, Rat.mkRat_self] at hm
 refine PC.body Tryz.tab_ok Tryz.func18 rfl (by kernel_rfl) Tryz.ntmps18 rfl rfl ?_
 (try refine RUN ?_)
 apply EV.drawn 14 (by kernel_rfl) (by kernel_rfl); intro xv yw
 (repeat refine' DD ?_)
 refine' DJ.callS rfl rfl rfl rfl rfl (cOf Tryz.func47 rfl (by kernel_rfl)) (fun G hG hd => intH_pc (RQ.rnum (RN.mono hs hG)) hn) ?_; rotate_left
 (repeat refine' DD ?_)
 refine' DJ.callS rfl rfl rfl rfl rfl (cOf Tryz.func49 rfl (by kernel_rfl)) (fun G hG hd => refNatH_pc (RN.mono ht hG) hd') ?_; rotate_left
 (repeat (first | refine' DD ?_ | (refine' DC (hf) (h := ?_); rotate_left) | (refine' DC (hm) (h := ?_); rotate_left)))
 (refine DJ.nil (fun G hG hF => ?_); (case hS => rfl); (case hS2 => rfl))
 (try refine RUN ?_)
 rfl
theorem out_pc {H : Hp} (q : Rat) (hq : rq q) : PC Tryz.prog 43 #[fracV q] H fun r H' => RQ H' r q := by
 have hn := hq.num
 have hd' := hq.den
 refine PC.body Tryz.tab_ok Tryz.func43 rfl (by kernel_rfl) Tryz.ntmps43 rfl rfl ?_
 (try refine RUN ?_)
 apply EV.drawn 6 (by kernel_rfl) (by kernel_rfl); intro xv yw
 (repeat (first | refine' DD ?_ | (refine' DC (num_pv q) (h := ?_); rotate_left) | (refine' DC (den_pv q (Nat.le_trans hd' (by omega))) (h := ?_); rotate_left)))
 refine' DJ.call rfl rfl rfl rfl rfl (cOf Tryz.func77 rfl (by kernel_rfl)) (fun G hG hd => outInt_pc q.num hn) (fun _ _ _ h k => RI.mono h k) ?_; rotate_left
 (repeat (first | refine' DD ?_ | (refine' DC (num_pv q) (h := ?_); rotate_left) | (refine' DC (den_pv q (Nat.le_trans hd' (by omega))) (h := ?_); rotate_left)))
 refine' DJ.call rfl rfl rfl rfl rfl (cOf Tryz.func79 rfl (by kernel_rfl)) (fun G hG hd => outNat_pc q.den hd') (fun _ _ _ h k => RN.mono h k) ?_; rotate_left
 (refine DJ.nil (fun G hG hF => ?_); (case hS => rfl); (case hS2 => rfl))
 obtain ⟨hN, ⟨ra, rl, rc, hr, h1⟩, _⟩ := hF
 obtain ⟨xa, xc, hx⟩ := SlC.val hN
 rw [hx] at hN
 rw [hx, hr]
 (try refine RUN ?_)
 exact ⟨ra, rl, rc, xa, _, xc, rfl, h1, hN⟩
theorem refCmpN_pc {H : Hp} {u v : Value} {a b : Nat} (hu : RN H u a) (hv : RN H v b) (ha : rsm a) : PC Tryz.prog 44 #[u, v] H fun r _ => r = .int .i64 (ordN a b) := by
 have la := ha.len
 have := refCmpL_pc hu hv (dig_norm B32_two _) (dig_norm B32_two _) (by omega)
 rwa [dig_val B32_two, dig_val B32_two] at this
theorem ordN_eqb (a b : Nat) : (ordN a b == 0) = decide (a = b) := by
 unfold ordN
 rcases Nat.lt_trichotomy a b with h | h | h
 ·rw [if_pos h, decide_eq_false (by omega)]; rfl
 ·rw [if_neg (by omega), if_neg (by omega), decide_eq_true h]; rfl
 ·rw [if_neg (by omega), if_pos h, decide_eq_false (by omega)]; rfl
theorem same_pc {H : Hp} {w : Value} {p q : Rat} (hw : RQ H w q) (hp : rq p) (hq : rq q) : PC Tryz.prog 16 #[fracV p, w] H fun r _ => r = .bool (decide (p = q)) := by
 obtain ⟨sa, sl, sc, ta, tl, tc, rfl, hs, ht⟩ := id hw
 have hl : (tl : Int) ≠ 0 := by
  have h1 := SlN.cap ht
  have h2 := dig_ne_nil B32_two q.den_nz
  have h3 := List.length_pos_iff.2 h2
  omega
 refine PC.body Tryz.tab_ok Tryz.func16 rfl (by kernel_rfl) Tryz.ntmps16 rfl rfl ?_
 (try refine RUN ?_)
 refine EVL.call rfl rfl rfl rfl rfl (out_pc p hp) ?_
 rintro r G ⟨sa', sl', sc', ta', tl', tc', rfl, hs', ht'⟩ hG
 have c1 := refCmpN_pc hs' (RN.mono hs hG) hp.num
 have c2 := refCmpN_pc ht' (RN.mono ht hG) hp.den
 (try refine RUN ?_)
 rw [show ((tl : Int) == 0) = false by simpa using hl]
 repeat (first | refine RUN ?_ | refine CV (c1) ?_ | refine CE (c1) ?_)
 rw [ordN_eqb]
 by_cases h1 : p.num.natAbs = q.num.natAbs
 ·rw [decide_eq_true h1]
  (try refine RUN ?_)
  refine EVL.eqb rfl rfl rfl rfl rfl rfl (by kernel_rfl) ?_
  by_cases h2 : decide (p.num < 0) = decide (q.num < 0)
  ·rw [show (decide (p.num < 0) == decide (q.num < 0)) = true by simp [h2]]
   repeat (first | refine RUN ?_ | refine CV (c2) ?_ | refine CE (c2) ?_)
   rw [ordN_eqb]
   congr 1
   have hn : p.num = q.num := by
    rw [decide_eq_decide] at h2; omega
   by_cases h3 : p.den = q.den
   ·rw [decide_eq_true h3, decide_eq_true (Rat.ext hn h3)]
   ·rw [decide_eq_false h3, decide_eq_false (fun e => h3 (by rw [e]))]
  ·rw [show (decide (p.num < 0) == decide (q.num < 0)) = false by simpa using h2]
   (try refine RUN ?_)
   rw [decide_eq_false (fun e => h2 (by rw [e]))]
 ·rw [decide_eq_false h1]
  (try refine RUN ?_)
  rw [decide_eq_false (fun e => h1 (by rw [e]))]
def rDen (j : Nat) : Int := [1, 1, 1, 2, 3, 4].getD j 1
def rNum (z : Int) : Rat := Rat.divInt (z % 41 - 20) (rDen (z.tdiv 41 % 6).toNat)
theorem rDen_range (j : Nat) : 1 ≤ rDen j ∧ rDen j ≤ 4 := by
 unfold rDen
 rcases j with _ | _ | _ | _ | _ | _ | j <;> simp [List.getD_eq_getElem?_getD]
theorem r_pc {H : Hp} (z : Int) (hz : -9223372036854775808 ≤ z ∧ z < 9223372036854775808) : PC Tryz.prog 27 #[.int .i64 z] H fun r H' => RQ H' r (rNum z) := by
 have hq : -9223372036854775808 ≤ z.tdiv 41 ∧ z.tdiv 41 < 9223372036854775808 := by
  by_cases h : 0 ≤ z
  ·rw [Int.tdiv_eq_ediv_of_nonneg h]; omega
  ·have e : z.tdiv 41 = -((-z) / 41) := by rw [← Int.tdiv_eq_ediv_of_nonneg (by omega), Int.neg_tdiv, Int.neg_neg]
   rw [e]; omega
 have hqw : IntKind.i64.wrap (z.tdiv 41) = z.tdiv 41 := by rw [IntKind.wrap_i64]; omega
 have h1 := pick_pv z 41 hz (by omega) (by omega)
 have h2 := pick_pv (z.tdiv 41) 6 hq (by omega) (by omega)
 have m1 := Int.emod_nonneg z (show (41 : Int) ≠ 0 by omega)
 have m2 := Int.emod_lt_of_pos z (show (0 : Int) < 41 by omega)
 obtain ⟨j, hj⟩ := Int.eq_ofNat_of_zero_le (Int.emod_nonneg (z.tdiv 41) (show (6 : Int) ≠ 0 by omega))
 have m3 := Int.emod_lt_of_pos (z.tdiv 41) (show (0 : Int) < 6 by omega)
 have hsub : IntKind.i64.wrap (z % 41 - 20) = z % 41 - 20 := by rw [IntKind.wrap_i64]; omega
 have hrd := rDen_range j
 have hrn : rNum z = Rat.divInt (z % 41 - 20) (rDen j) := by unfold rNum; rw [hj]; rfl
 rw [hrn]
 have hidx : ([.int .i64 1, .int .i64 1, .int .i64 1, .int .i64 2, .int .i64 3, .int .i64 4] : List Value)[j]? = some (.int .i64 (rDen j)) := by
  have hj6 : j < 6 := by omega
  rcases j with _ | _ | _ | _ | _ | _ | j <;> first | rfl | omega
 have ho := fun G : Hp => refOver_pc (H := G) (z % 41 - 20) (rDen j) (by omega) (by omega) (by omega) (by omega) (by omega)
 rw [hj] at h2
 refine PC.body Tryz.tab_ok Tryz.func27 rfl (by kernel_rfl) Tryz.ntmps27 rfl rfl ?_
 repeat (first | refine RUN ?_ | refine CV (h1) ?_ | refine CE (h1) ?_)
 rw [hsub]
 refine EVL.buildArr rfl rfl rfl rfl rfl (cs := [.int .i64 1, .int .i64 1, .int .i64 1, .int .i64 2, .int .i64 3, .int .i64 4]) (by kernel_rfl) ?_
 (try refine RUN ?_)
 rw [hqw]
 repeat (first | refine RUN ?_ | refine CV (h2) ?_ | refine CE (h2) ?_)
 refine EVL.indexArr (e := 2) (len := 6) Tryz.tab_ok rfl rfl rfl rfl (by kernel_rfl) rfl rfl rfl rfl rfl j rfl (show j < 6 by omega) hidx ?_
 refine EVL.call rfl rfl rfl rfl rfl (ho H) ?_
 rintro r G ⟨ra, rl, rc, xa, xl, xc, rfl, hn, hd⟩ hG
 (try refine RUN ?_)
 exact ⟨ra, rl, rc, xa, xl, xc, rfl, hn, hd⟩
section
variable {P : Program} {n : Nat} {ops : Array Oper} {o : Oper} {rest : List Oper} {env : Env} {bx : Bxs} {sb : Bxs} {ow : Ows} {H : Hs} {Q : EQ} {τ : Tab} {d : Nat} {s : SV}
end
theorem take_snoc {α : Type} {l : List α} {i : Nat} {x : α} (h : l[i]? = some x) : l.take (i + 1) = l.take i ++ [x] := by
 obtain ⟨hl, rfl⟩ := List.getElem?_eq_some_iff.1 h
 exact List.take_succ_eq_append_getElem hl
end Go.Proofs.YtjekjlaokjhhgaaGreatDoor
namespace Go.Proofs.YtjekjlaokjhhgaaGreatDoor
end Go.Proofs.YtjekjlaokjhhgaaGreatDoor
namespace Go.Proofs.YtjekjlaokjhhgaaGreatDoor
open Go.RowKit
def nearN (n : Int) (d : Nat) : Int :=
 let q := n / (d : Int)
 let r := n % (d : Int)
 if ordZ (r + r) d = 0 then (if q % 2 = 0 then q else q + 1) else if 0 < ordZ (r + r) d then q + 1 else q
def kb (z : Int) : Nat := (max 0 (min z 256)).toNat
theorem near_pv (a : Rat) (ha : sm a) (z : Int) (hz : -9223372036854775808 ≤ z ∧ z < 9223372036854775808) : PV Tryz.prog 42 #[fracV a, .int .i64 z] (fracV (mkRat (nearN (a.num * (2 ^ kb z : Nat)) a.den) (2 ^ kb z))) := by
 have hk : kb z ≤ 256 := by unfold kb; omega
 have na := ha.num; have da := ha.den
 have bna : bigI a.num := Nat.le_trans na (by omega)
 have bda : big a.den := Nat.le_trans da (by omega)
 have hn1 := natOf_pv 1 (by decide)
 have hb1 : big 1 := by show bl 1 ≤ _; rw [bl_one]; omega
 have sh := natShift_up 1 (kb z) (by omega) hb1
 rw [Nat.one_mul] at sh
 have hkz : (if (if (256 : Int) < z then 256 else z) > 0 then (if (256 : Int) < z then 256 else z) else 0) = ((kb z : Nat) : Int) := by unfold kb; split <;> split <;> omega
 have hp := bl_pow2 (kb z)
 have bu : big (2 ^ kb z) := by show bl _ ≤ _; omega
 have d1 := den_pv a bda
 have s1 := from_pv false a.den bda
 generalize hN : a.num * ((2 ^ kb z : Nat) : Int) = N at *
 have cN := bl_mul a.num.natAbs (2 ^ kb z)
 have bN : bl N.natAbs ≤ 200000000 := by rw [← hN, Int.natAbs_mul, Int.natAbs_natCast]; omega
 have t1 := times_pv a.num (2 ^ kb z) bna bu (by show bl _ ≤ _; omega)
 rw [hN] at t1
 have dn0 := a.den_nz
 have hd := wholeDiv_pv N (a.den : Int) (by omega) (by have := bl_add N.natAbs 1; have := bl_one; show bl _ ≤ _; omega) bda
 rw [Int.fdiv_eq_ediv_of_nonneg _ (Int.natCast_nonneg _), Int.fmod_eq_emod_of_nonneg _ (Int.natCast_nonneg _)] at hd
 have hr1 := Int.emod_nonneg N (show (a.den : Int) ≠ 0 by omega)
 have hr2 := Int.emod_lt_of_pos N (show (0 : Int) < a.den by omega)
 have br : bl (N % (a.den : Int)).natAbs ≤ 100000000 := Nat.le_trans (bl_mono (by omega)) da
 have cr := bl_add (N % (a.den : Int)).natAbs (N % (a.den : Int)).natAbs
 have ad := wholeAdd_pv (N % (a.den : Int)) (N % (a.den : Int)) (Nat.le_trans br (by omega)) (Nat.le_trans br (by omega)) (by show bl _ ≤ _; omega)
 have brr : bl (N % (a.den : Int) + N % (a.den : Int)).natAbs ≤ 100000001 := by have := bl_natAbs_add (N % (a.den : Int)) (N % (a.den : Int)); omega
 have ck := wholeCmp_pv (N % (a.den : Int) + N % (a.den : Int)) (a.den : Int) (Nat.le_trans brr (by omega)) bda
 have bq : bl (N / (a.den : Int)).natAbs ≤ 200000000 := Nat.le_trans (bl_mono (natAbs_ediv_le _ _)) bN
 have w1 := wholeOf_pv 1 (by omega) (by omega)
 have w2 := wholeOf_pv 2 (by omega) (by omega)
 have cq := bl_add (N / (a.den : Int)).natAbs 1
 have hd2 := wholeDiv_pv (N / (a.den : Int)) 2 (by omega) (by have := bl_one; show bl _ ≤ _; omega) (by decide +kernel)
 rw [Int.fdiv_eq_ediv_of_nonneg _ (by omega), Int.fmod_eq_emod_of_nonneg _ (by omega)] at hd2
 have sg2 := wholeSign_pv (N / (a.den : Int) % 2) (Nat.le_trans (bl_mono (show _ ≤ 1 by omega)) hb1)
 have bq1 : bl (N / (a.den : Int) + 1).natAbs ≤ 200000001 := by have := bl_natAbs_add (N / (a.den : Int)) 1; rw [show (1 : Int).natAbs = 1 from rfl, bl_one] at this; omega
 have ad1 := wholeAdd_pv (N / (a.den : Int)) 1 (Nat.le_trans bq (by omega)) hb1 (by have := bl_one; show bl (_ + 1) ≤ _; omega)
 have l0 := lowest_pv (N / (a.den : Int)) (2 ^ kb z) (Nat.le_trans bq (by omega)) bu (Nat.ne_of_gt (Nat.pow_pos (by omega)))
 have l1 := lowest_pv (N / (a.den : Int) + 1) (2 ^ kb z) (Nat.le_trans bq1 (by omega)) bu (Nat.ne_of_gt (Nat.pow_pos (by omega)))
 refine PV.of_pc ?_
 refine PC.body Tryz.tab_ok Tryz.func42 rfl (by kernel_rfl) Tryz.ntmps42 rfl rfl ?_
 (try refine RUN ?_)
 rw [hkz]
 repeat (first | refine RUN ?_ | refine CV (hn1) ?_ | refine CV (sh) ?_ | refine CV (d1) ?_ | refine CV (s1) ?_ | refine CE (hn1) ?_ | refine CE (sh) ?_ | refine CE (d1) ?_ | refine CE (s1) ?_)
 (apply EV.drawn 14 (by kernel_rfl) (by kernel_rfl); intro xv yw; (repeat (first | refine' DD ?_ | (refine' DC (t1) (h := ?_); rotate_left) | (refine' DC (hd) (h := ?_); rotate_left))); refine DJ.nil (fun G hG hF => ?_); (case hS => rfl); (case hS2 => rfl))
 (try refine RUN ?_)
 (apply EV.drawn 4 (by kernel_rfl) (by kernel_rfl); intro xv yw; (repeat (first | refine' DD ?_ | (refine' DC (ad) (h := ?_); rotate_left))); refine DJ.nil (fun G hG hF => ?_); (case hS => rfl); (case hS2 => rfl))
 repeat (first | refine RUN ?_ | refine CV (ck) ?_ | refine CE (ck) ?_)
 generalize ho : ordZ (N % (a.den : Int) + N % (a.den : Int)) (a.den : Int) = o at *
 have nh : nearN N a.den = if o = 0 then (if (N / (a.den : Int)) % 2 = 0 then N / (a.den : Int) else N / (a.den : Int) + 1) else if 0 < o then N / (a.den : Int) + 1 else N / (a.den : Int) := by unfold nearN; simp only [ho]
 rw [nh]
 by_cases h0 : o = 0
 ·rw [if_pos h0, show (o == 0) = true by simp [h0]]
  (try refine RUN ?_)
  (apply EV.drawn 11 (by kernel_rfl) (by kernel_rfl); intro xv yw; (repeat (first | refine' DD ?_ | (refine' DC (w2) (h := ?_); rotate_left) | (refine' DC (hd2) (h := ?_); rotate_left))); refine DJ.nil (fun G hG hF => ?_); (case hS => rfl); (case hS2 => rfl))
  repeat (first | refine RUN ?_ | refine CV (sg2) ?_ | refine CE (sg2) ?_)
  by_cases h2 : (N / (a.den : Int)) % 2 = 0
  ·rw [if_pos h2, show decide ((N / (a.den : Int) % 2).sign > 0) = false by rw [h2]; rfl]
   repeat (first | refine RUN ?_ | refine CV (l0) ?_ | refine CE (l0) ?_)
   rfl
  ·rw [if_neg h2, show decide ((N / (a.den : Int) % 2).sign > 0) = true by rw [show N / (a.den : Int) % 2 = 1 by omega]; rfl]
   (try refine RUN ?_)
   (apply EV.drawn 2 (by kernel_rfl) (by kernel_rfl); intro xv yw; (repeat (first | refine' DD ?_ | (refine' DC (w1) (h := ?_); rotate_left))); refine DJ.nil (fun G hG hF => ?_); (case hS => rfl); (case hS2 => rfl))
   repeat (first | refine RUN ?_ | refine CV (ad1) ?_ | refine CV (l1) ?_ | refine CE (ad1) ?_ | refine CE (l1) ?_)
   rfl
 ·rw [if_neg h0, show (o == 0) = false by simp [h0]]
  (try refine RUN ?_)
  by_cases h2 : 0 < o
  ·rw [if_pos h2, show decide (o > 0) = true by simpa using h2]
   (try refine RUN ?_)
   (apply EV.drawn 2 (by kernel_rfl) (by kernel_rfl); intro xv yw; (repeat (first | refine' DD ?_ | (refine' DC (w1) (h := ?_); rotate_left))); refine DJ.nil (fun G hG hF => ?_); (case hS => rfl); (case hS2 => rfl))
   repeat (first | refine RUN ?_ | refine CV (ad1) ?_ | refine CV (l1) ?_ | refine CE (ad1) ?_ | refine CE (l1) ?_)
   rfl
  ·rw [if_neg h2, show decide (o > 0) = false by simpa using h2]
   repeat (first | refine RUN ?_ | refine CV (l0) ?_ | refine CE (l0) ?_)
   rfl
theorem ht_divInt (n d : Int) (h : d ≠ 0) : ht (Rat.divInt n d) ≤ max (bl n.natAbs) (bl d.natAbs) := by
 rw [divInt_mk n d h]
 refine Nat.le_trans (ht_mk _ _ (by omega)) ?_
 have : (if d < 0 then -n else n).natAbs = n.natAbs := by split <;> simp
 rw [this]; exact Nat.le_refl _
theorem ht_rNum (z : Int) : ht (rNum z) ≤ 5 := by
 unfold rNum
 have hrd := rDen_range (z.tdiv 41 % 6).toNat
 have m1 := Int.emod_nonneg z (show (41 : Int) ≠ 0 by omega)
 have m2 := Int.emod_lt_of_pos z (show (0 : Int) < 41 by omega)
 refine Nat.le_trans (ht_divInt _ _ (by omega)) (Nat.max_le.2 ⟨bl_le (by omega), bl_le (by omega)⟩)
theorem bl_few {l : List Nat} (hD : Dig 256 l) : bl (val 256 (l.take 12).reverse) ≤ 96 := by
 apply bl_le
 have h1 := val_lt (hD.take 12).rev
 have h2 : (l.take 12).reverse.length ≤ 12 := by rw [List.length_reverse, List.length_take]; omega
 calc val 256 (l.take 12).reverse < 256 ^ (l.take 12).reverse.length := h1
  _ ≤ 256 ^ 12 := Nat.pow_le_pow_right (by decide) h2
  _ = 2 ^ 96 := by decide
structure RawQ (H : Hp) (v : Value) : Prop where
 ex : ∃ (z : Int) (sa sb : Value) (la lb : List Nat) (neg : Bool), v = .agg #[.int .i64 z, sa, sb, .bool neg] ∧ (-9223372036854775808 ≤ z ∧ z < 9223372036854775808) ∧ SlN n8 H sa la ∧ SlN n8 H sb lb ∧ Dig 256 la ∧ Dig 256 lb
theorem one_pc {H : Hp} {v : Value} (h : RawQ H v) : PC Tryz.prog 5 #[v] H fun r H' => ∃ q, ht q ≤ 200 ∧ RQ H' r q := by
 obtain ⟨z, sa, sb, la, lb, neg, rfl, hz, ha, hb, hDa, hDb⟩ := h.ex
 obtain ⟨aa, ca, rfl⟩ := SlC.val ha
 obtain ⟨ab, cb, rfl⟩ := SlC.val hb
 refine PC.body Tryz.tab_ok Tryz.func5 rfl (by kernel_rfl) Tryz.ntmps5 rfl rfl ?_
 (try refine RUN ?_)
 refine EV.cond rfl (fun h0 => ?_) (fun h0 => ?_)
 ·simp only [decide_eq_true_eq, decide_eq_false_iff_not, Int.not_lt, Int.not_le, beq_iff_eq, beq_eq_false_iff_ne, bne_iff_ne, bne_eq_false_iff_eq, ne_eq, Int.ofNat_lt, Int.ofNat_le, Int.natCast_inj, ge_iff_le, gt_iff_lt, Decidable.not_not, Bool.not_eq_true', Bool.not_eq_false', Bool.not_eq_eq_eq_not, Bool.not_true, Bool.not_false] at h0
  (try refine RUN ?_)
  refine EVL.call rfl rfl rfl rfl rfl (r_pc z hz) ?_
  rintro r G ⟨ra, rl, rc, xa, xl, xc, rfl, hn, hd⟩ hG
  (try refine RUN ?_)
  exact ⟨rNum z, Nat.le_trans (ht_rNum z) (by omega), ra, rl, rc, xa, xl, xc, rfl, hn, hd⟩
 ·simp only [decide_eq_true_eq, decide_eq_false_iff_not, Int.not_lt, Int.not_le, beq_iff_eq, beq_eq_false_iff_ne, bne_iff_ne, bne_eq_false_iff_eq, ne_eq, Int.ofNat_lt, Int.ofNat_le, Int.natCast_inj, ge_iff_le, gt_iff_lt, Decidable.not_not, Bool.not_eq_true', Bool.not_eq_false', Bool.not_eq_eq_eq_not, Bool.not_true, Bool.not_false] at h0
  (try refine RUN ?_)
  refine EVL.call rfl rfl rfl rfl rfl (few_pc hb 12 (by omega)) ?_
  rintro s G1 hs hG1
  (try refine RUN ?_)
  refine EVL.call rfl rfl rfl rfl rfl (refFrom_pc hs (hDb.take 12) (by rw [List.length_take]; omega)) ?_
  rintro t G2 ht hG2
  have hbl := bl_few hDb
  generalize val 256 (lb.take 12).reverse = D at *
  have hlz : (dig B32 D).length = 0 ↔ D = 0 := ⟨dig_len_zero B32_two, fun e => by rw [e, dig_zero]; rfl⟩
  have hcp := fun a l c (e : t = .slice a l c) => SlN.cap (e ▸ ht)
  obtain ⟨ta, tc, hte⟩ := SlC.val ht
  generalize hle : (dig B32 D).length = l at *
  subst hte
  (try refine RUN ?_)
  refine EV.meetK (ι := Value × Nat) [1, 2] [1, 2] (fun i => [(3, .v i.1)]) (fun _ => []) (fun _ => []) (fun i G => G2.Le G ∧ RN G i.1 i.2 ∧ i.2 ≠ 0 ∧ bl i.2 ≤ 96) rfl rfl (fun _ => rfl) ?_ ?_
  ·refine EV.cond rfl (fun hz0 => ?_) (fun hz0 => ?_)
   ·simp only [decide_eq_true_eq, decide_eq_false_iff_not, Int.not_lt, Int.not_le, beq_iff_eq, beq_eq_false_iff_ne, bne_iff_ne, bne_eq_false_iff_eq, ne_eq, Int.ofNat_lt, Int.ofNat_le, Int.natCast_inj, ge_iff_le, gt_iff_lt, Decidable.not_not, Bool.not_eq_true', Bool.not_eq_false', Bool.not_eq_eq_eq_not, Bool.not_true, Bool.not_false] at hz0
    (try refine RUN ?_)
    refine EVL.call rfl rfl rfl rfl rfl (refNatOf_pc 1 (by decide) G2) ?_
    rintro u G3 hu hG3
    (try refine RUN ?_)
    exact ⟨(u, 1), ⟨rfl, trivial⟩, (by repeat (first | exact trivial | refine And.intro rfl ?_)), trivial, (by repeat (first | exact trivial | refine And.intro rfl ?_)), rfl, hG3, hu, Nat.one_ne_zero, by rw [bl_one']; omega⟩
   ·simp only [decide_eq_true_eq, decide_eq_false_iff_not, Int.not_lt, Int.not_le, beq_iff_eq, beq_eq_false_iff_ne, bne_iff_ne, bne_eq_false_iff_eq, ne_eq, Int.ofNat_lt, Int.ofNat_le, Int.natCast_inj, ge_iff_le, gt_iff_lt, Decidable.not_not, Bool.not_eq_true', Bool.not_eq_false', Bool.not_eq_eq_eq_not, Bool.not_true, Bool.not_false] at hz0
    (try refine RUN ?_)
    exact ⟨(_, D), ⟨rfl, trivial⟩, (by repeat (first | exact trivial | refine And.intro rfl ?_)), trivial, (by repeat (first | exact trivial | refine And.intro rfl ?_)), rfl, Hp.Le.refl _, ht, fun e => hz0 (by have := hlz.2 e; omega), hbl⟩
  ·rintro ⟨u, D'⟩ G3 ⟨hG3, hu, hD0, hDb'⟩
   dsimp only at hu hD0 hDb'
   have h03 : H.Le G3 := (hG1.trans hG2).trans hG3
   have hbA := bl_few hDa
   (try refine RUN ?_)
   apply EV.drawn 10 (by kernel_rfl) (by kernel_rfl); intro xv yw
   (repeat refine' DD ?_)
   refine' DJ.call rfl rfl rfl rfl rfl (cOf Tryz.func29 rfl (by kernel_rfl)) (fun G hG hd => few_pc (SlN.mono ha (h03.trans hG)) 12 (by omega)) (fun _ _ _ h k => SlN.mono h k) ?_; rotate_left
   refine' DJ.call rfl rfl rfl rfl rfl (cOf Tryz.func28 rfl (by kernel_rfl)) (fun G hG hd => refFrom_pc (hd.head (by kernel_rfl)) (hDa.take 12) (by rw [List.length_take]; omega)) (fun _ _ _ h k => RN.mono h k) ?_; rotate_left
   refine' DJ.call rfl rfl rfl rfl rfl (cOf Tryz.func31 rfl (by kernel_rfl)) (fun G hG hd => refI_pc neg (hd.head (by kernel_rfl))) (fun _ _ _ h k => RI.mono h k) ?_; rotate_left
   (repeat refine' DD ?_)
   refine' DJ.call rfl rfl rfl rfl rfl (cOf Tryz.func31 rfl (by kernel_rfl)) (fun G hG hd => refI_pc false (RN.mono hu hG)) (fun _ _ _ h k => RI.mono h k) ?_; rotate_left
   refine' DJ.call rfl rfl rfl rfl rfl (cOf Tryz.func30 rfl (by kernel_rfl)) (fun G hG hd => refMake_pc (hd.tail.head (by kernel_rfl)) (hd.head (by kernel_rfl)) (by rw [sg_natAbs]; exact Nat.le_trans hbA (by omega)) (by rw [sg_natAbs]; exact Nat.le_trans hDb' (by omega)) (by show ((D' : Nat) : Int) ≠ 0; omega)) (fun _ _ _ h k => RQ.mono h k) ?_; rotate_left
   (refine DJ.nil (fun G5 hG5 hF5 => ?_); (case hS => rfl); (case hS2 => rfl))
   obtain ⟨⟨ra, rl, rc, xa, xl, xc, hr, h1, h2⟩, _⟩ := hF5
   rw [hr]
   (try refine RUN ?_)
   refine ⟨_, ?_, ra, rl, rc, xa, xl, xc, rfl, h1, h2⟩
   refine Nat.le_trans (ht_divInt _ _ (by show ((D' : Nat) : Int) ≠ 0; omega)) ?_
   rw [sg_natAbs, sg_natAbs]
   omega
theorem rq_small {q : Rat} {k : Nat} (h : ht q ≤ k) (hk : k ≤ 100000000) : rq q := Nat.le_trans h hk
abbrev sb (l : List UInt8) : ByteArray := ⟨l.toArray⟩
section
variable {P : Program} {n : Nat} {ops : Array Oper} {o : Oper} {rest : List Oper} {env : Env} {bx : Bxs} {sb' : Bxs} {ow : Ows} {H : Hs} {Q : EQ} {τ : Tab} {d : Nat} {s : SV}
theorem run_cat {T T' : TypeId} {x y : Operand} (ho : o.op = .binOp .add T x y T') (a b : List UInt8) (hx : env.op x = some (.v (.string (sb a)))) (hy : env.op y = some (.v (.string (sb b)))) (ha : a.length ≤ 8388608) (hb : b.length ≤ 8388608) (ev : Operand → Value) (W : World) (he : ∀ y x, y ∈ o.op.operands → env.op y = some (.v x) → ev y = x) :
  (execOp ev o).run P W = .ok (.value (.string (sb (a ++ b)))) W := by
 have ex := he x _ (by simp [ho, Op.operands]) hx
 have ey := he y _ (by simp [ho, Op.operands]) hy
 unfold execOp
 simp [ho, ex, ey, eqGuard, binOp, run_string_add_lists W a b (by omega) (by omega)]
theorem EVL.cat {T T' : TypeId} {x y : Operand} (a b : List UInt8) (ho : o.op = .binOp .add T x y T') (hw : wantB ops env o = some true) (hd : o.dst = some d) (hn : Nat.blt d n = true) (hx : env.op x = some (.v (.string (sb a)))) (hy : env.op y = some (.v (.string (sb b)))) (ha : a.length ≤ 8388608) (hb : b.length ≤ 8388608)
  (h : EVL P n ops rest ((d, .v (.string (sb (a ++ b)))) :: env) bx H Q) : EVL P n ops (o :: rest) env bx H Q := EVL.gen hw hd hn (run_cat ho a b hx hy ha hb) h
theorem DJ.cat {tail l : List Oper} {x : Nat → Value} {y : Nat → Ows} {ow' : Ows} {kl ks : List DK} {i : Nat} {bx' : Bxs} {Γ : Fcts} {T T' : TypeId} {u w : Operand} (a b : List UInt8) (ho : o.op = .binOp .add T u w T') (hw : wantB ops env o = some true) (hd : o.dst = some d) (hn : Nat.blt d n = true) (hx : env.op u = some (.v (.string (sb a)))) (hy : env.op w = some (.v (.string (sb b)))) (ha : a.length ≤ 8388608) (hb : b.length ≤ 8388608)
  (h : DJ P n ops tail sb' bx H Q x y kl (i + 1) l ks ((d, .v (.string (sb (a ++ b)))) :: env) bx' Γ ow') : DJ P n ops tail sb' bx H Q x y kl i (o :: l) (.sv (.v (.string (sb (a ++ b)))) :: ks) env bx' Γ ow' :=
 DJ.ofVal (ValOk.gen hw (run_cat ho a b hx hy ha hb)) hd hn rfl h
end
abbrev PowT (H : Hp) : Prop := H 3 = some powC
theorem PowT.mono {H G : Hp} (h : PowT H) (k : H.Le G) : PowT G := k _ _ h
theorem dig_small {n : Nat} (h0 : n ≠ 0) (h : n < W64) : dig W64 n = [n] := by
 rw [dig_pos W64_two (by omega), Nat.mod_eq_of_lt h, Nat.div_eq_of_lt h, dig_zero]
theorem natText_pc {H : Hp} (n : Nat) (hn : n < 18446744073709551616) (hT : PowT H) : PC Tryz.prog 51 #[natV n] H fun r _ => r = .string (decS n) := by
 have hb : big n := by
  show bl n ≤ _
  have := bl_le (n := n) (k := 64) (by omega)
  omega
 have hw := fun H => words_pc n hb H
 have hlen : (dig W64 n).length ≤ 1 := by
  by_cases h0 : n = 0
  ·subst h0; rw [dig_zero]; simp
  ·rw [dig_small h0 hn]; simp
 have hlo : lo n = n := lo_of_lt hn
 generalize dig W64 n = L at *
 refine PC.body Tryz.tab_ok Tryz.func51 rfl (by kernel_rfl) Tryz.ntmps51 rfl rfl ?_
 (try refine RUN ?_)
 refine EVL.call rfl rfl rfl rfl rfl (hw _) ?_
 rintro v G hv hG
 obtain ⟨a, c, rfl⟩ := SlC.val hv
 have hfmt := fmt_pc n hn (hT.mono hG)
 rw [hlo]
 (try refine RUN ?_)
 rw [decide_eq_true (show (L.length : Int) ≤ 1 by omega)]
 repeat (first | refine RUN ?_ | refine CV (hfmt) ?_ | refine CE (hfmt) ?_)
 rfl
def wtL (z : Int) : List UInt8 := (if z < 0 then [45] else []) ++ Lib.decDigits z.natAbs
end Go.Proofs.YtjekjlaokjhhgaaGreatDoor
namespace Go.Proofs.YtjekjlaokjhhgaaGreatDoor
theorem decD_step {n : Nat} (h : 10 ≤ n) : Lib.decDigits n = Lib.decDigits (n / 10) ++ [UInt8.ofNat (48 + n % 10)] := by
 rw [Lib.decDigits, dif_neg (by omega)]
theorem decD_low {n : Nat} (h : n < 10) : Lib.decDigits n = [UInt8.ofNat (48 + n)] := by
 rw [Lib.decDigits, dif_pos h]
theorem decD_ne (n : Nat) : Lib.decDigits n ≠ [] := by
 by_cases h : n < 10
 ·rw [decD_low h]; simp
 ·rw [decD_step (by omega)]; simp
def padD : Nat → Nat → List UInt8
 | 0, _ => []
 | k + 1, x => padD k (x / 10) ++ [UInt8.ofNat (48 + x % 10)]
theorem padD_len : ∀ k x, (padD k x).length = k
 | 0, _ => rfl
 | k + 1, x => by unfold padD; rw [List.length_append, padD_len k]; rfl
theorem padD_zero : ∀ k, padD k 0 = List.replicate k 48
 | 0 => rfl
 | k + 1 => by
  unfold padD
  rw [Nat.zero_div, padD_zero k, List.replicate_succ']; rfl
theorem decD_pad : ∀ (k q r : Nat), 0 < q → r < 10 ^ k → Lib.decDigits (q * 10 ^ k + r) = Lib.decDigits q ++ padD k r
 | 0, q, r, _, hr => by
  have : r = 0 := by simpa using hr
  subst this
  simp [padD]
 | k + 1, q, r, hq, hr => by
  rw [Nat.pow_succ] at hr ⊢
  have h1 : 1 ≤ 10 ^ k := Nat.one_le_pow _ _ (by omega)
  have h2 : 10 ^ k ≤ q * 10 ^ k := Nat.le_mul_of_pos_left _ hq
  have e : q * (10 ^ k * 10) + r = q * 10 ^ k * 10 + r := by rw [Nat.mul_assoc]
  rw [e, decD_step (by omega), show (q * 10 ^ k * 10 + r) / 10 = q * 10 ^ k + r / 10 by omega, show (q * 10 ^ k * 10 + r) % 10 = r % 10 by omega, decD_pad k q (r / 10) hq (by omega), List.append_assoc]
  rfl
theorem padD_zeros : ∀ (k r : Nat), r < 10 ^ (k + 1) → padD (k + 1) r = List.replicate (k + 1 - (Lib.decDigits r).length) 48 ++ Lib.decDigits r ∧ (Lib.decDigits r).length ≤ k + 1
 | 0, r, h => by
  have h : r < 10 := by simpa using h
  rw [decD_low h]
  unfold padD padD
  rw [Nat.mod_eq_of_lt h]
  exact ⟨rfl, Nat.le_refl _⟩
 | k + 1, r, h => by
  by_cases h10 : r < 10
  ·rw [decD_low h10]
   unfold padD
   rw [Nat.div_eq_of_lt h10, padD_zero, Nat.mod_eq_of_lt h10]
   exact ⟨rfl, by simp⟩
  ·rw [Nat.pow_succ] at h
   obtain ⟨e1, e2⟩ := padD_zeros k (r / 10) (by omega)
   rw [decD_step (by omega)]
   unfold padD
   rw [e1, List.length_append, List.length_singleton, List.append_assoc]
   refine ⟨?_, by omega⟩
   rw [show k + 1 + 1 - ((Lib.decDigits (r / 10)).length + 1) = k + 1 - (Lib.decDigits (r / 10)).length by omega]
theorem padD_cons : ∀ (k x : Nat), padD (k + 1) x = UInt8.ofNat (48 + x / 10 ^ k % 10) :: padD k x
 | 0, x => by unfold padD padD; simp
 | k + 1, x => by
  rw [padD, padD_cons k (x / 10), Nat.div_div_eq_div_mul, show 10 * 10 ^ k = 10 ^ (k + 1) by rw [Nat.pow_succ, Nat.mul_comm], List.cons_append]
  rfl
theorem padD_exact : ∀ (k r : Nat), 10 ^ k ≤ r → r < 10 ^ (k + 1) → padD (k + 1) r = Lib.decDigits r
 | 0, r, h1, h2 => by
  have h : r < 10 := by simpa using h2
  rw [decD_low h]
  unfold padD padD
  rw [Nat.mod_eq_of_lt h]; rfl
 | k + 1, r, h1, h2 => by
  rw [Nat.pow_succ] at h1 h2
  have h0 : 1 ≤ 10 ^ k := Nat.one_le_pow _ _ (by omega)
  have h3 : 10 ^ (k + 1) * 10 = 10 ^ k * 10 * 10 := by rw [Nat.pow_succ]
  rw [decD_step (by omega), padD, padD_exact k (r / 10) (by omega) (by rw [Nat.pow_succ]; omega)]
def Ten19 : Nat := 10000000000000000000
theorem Ten_two : 2 ≤ Ten19 := by decide
theorem Ten_pow : Ten19 = 10 ^ 19 := by decide
def textP : List Nat → List UInt8
 | [] => []
 | [x] => Lib.decDigits x
 | x :: y :: l => textP (y :: l) ++ padD 19 x
theorem textP_dig : ∀ n : Nat, n ≠ 0 → textP (dig Ten19 n) = Lib.decDigits n := by
 intro n
 induction n using Nat.strongRecOn with
 | _ n ih =>
  intro h0
  rw [dig_pos Ten_two h0]
  by_cases hq : n / Ten19 = 0
  ·have hlt : n < Ten19 := by
    rcases Nat.div_eq_zero_iff.1 hq with h | h
    ·exact absurd h (by decide)
    ·exact h
   rw [hq, dig_zero, Nat.mod_eq_of_lt hlt]; rfl
  ·have h2 := ih (n / Ten19) (Nat.div_lt_self (by omega) (by decide)) hq
   obtain ⟨y, l, e⟩ : ∃ y l, dig Ten19 (n / Ten19) = y :: l := ⟨_, _, dig_pos Ten_two hq⟩
   rw [e] at h2 ⊢
   show textP (y :: l) ++ padD 19 (n % Ten19) = _
   rw [h2, ← decD_pad 19 (n / Ten19) (n % Ten19) (Nat.pos_of_ne_zero hq) (by rw [← Ten_pow]; exact Nat.mod_lt _ (by decide)), ← Ten_pow]
   congr 1
   rw [Nat.mul_comm]; exact Nat.div_add_mod n Ten19
theorem textP_cons {x : Nat} {l : List Nat} (h : l ≠ []) : textP (x :: l) = textP l ++ padD 19 x := by
 cases l with
 | nil => exact absurd rfl h
 | cons y l => rfl
end Go.Proofs.YtjekjlaokjhhgaaGreatDoor
namespace Go.Proofs.YtjekjlaokjhhgaaGreatDoor
def dV (c : UInt8) : Nat := c.toNat - 48
def isDg (c : UInt8) : Bool := decide (48 ≤ c.toNat) && decide (c.toNat ≤ 57)
def valD (l : List UInt8) : Nat := l.foldl (fun a c => a * 10 + dV c) 0
theorem valD_snoc (l : List UInt8) (c : UInt8) : valD (l ++ [c]) = valD l * 10 + dV c := by unfold valD; rw [List.foldl_append]; rfl
theorem dV_lt {c : UInt8} (h : isDg c = true) : dV c < 10 := by
 unfold isDg at h
 rw [Bool.and_eq_true] at h
 have h1 := of_decide_eq_true h.1
 have h2 := of_decide_eq_true h.2
 unfold dV
 omega
theorem valD_lt : ∀ l : List UInt8, l.all isDg = true → valD l.reverse < 10 ^ l.length
 | [], _ => by decide
 | c :: l, h => by
  rw [List.all_cons, Bool.and_eq_true] at h
  have h1 := valD_lt l h.2
  have h2 := dV_lt h.1
  rw [List.reverse_cons, valD_snoc, List.length_cons, Nat.pow_succ]
  omega
theorem valD_lt' {l : List UInt8} (h : l.all isDg = true) : valD l < 10 ^ l.length := by
 have := valD_lt l.reverse (by rw [List.all_reverse]; exact h)
 rwa [List.reverse_reverse, List.length_reverse] at this
theorem dV_dig {x : Nat} (h : x < 10) : dV (UInt8.ofNat (48 + x)) = x ∧ isDg (UInt8.ofNat (48 + x)) = true ∧ (UInt8.ofNat (48 + x) = 48 → x = 0) := by
 have : ∀ x : Fin 10, dV (UInt8.ofNat (48 + x.val)) = x.val ∧ isDg (UInt8.ofNat (48 + x.val)) = true ∧ (UInt8.ofNat (48 + x.val) = 48 → x.val = 0) := by decide
 exact this ⟨x, h⟩
theorem valD_dec (n : Nat) : valD (Lib.decDigits n) = n ∧ (Lib.decDigits n).all isDg = true := by
 induction n using Nat.strongRecOn with
 | _ n ih =>
  by_cases h : n < 10
  ·obtain ⟨a, b, _⟩ := dV_dig h
   rw [decD_low h]
   exact ⟨by show 0 * 10 + dV _ = n; rw [a]; omega, by rw [List.all_cons, b]; rfl⟩
  ·obtain ⟨a, b⟩ := ih (n / 10) (by omega)
   obtain ⟨c, d, _⟩ := dV_dig (x := n % 10) (by omega)
   rw [decD_step (by omega), valD_snoc, a, c, List.all_append, b, List.all_cons, d]
   exact ⟨by omega, rfl⟩
theorem decD_head (n : Nat) : ∃ c t, Lib.decDigits n = c :: t ∧ (n ≠ 0 → c ≠ 48) := by
 induction n using Nat.strongRecOn with
 | _ n ih =>
  by_cases h : n < 10
  ·obtain ⟨_, _, c⟩ := dV_dig h
   exact ⟨_, [], decD_low h, fun k e => k (c e)⟩
  ·obtain ⟨c, t, e, k⟩ := ih (n / 10) (by omega)
   exact ⟨c, t ++ [UInt8.ofNat (48 + n % 10)], by rw [decD_step (by omega), e]; rfl, fun _ => k (by omega)⟩
def okN (l : List UInt8) : Prop := 1 ≤ l.length ∧ l.length ≤ 200 ∧ ¬ (1 < l.length ∧ l.head? = some 48) ∧ l.all isDg = true
instance (l : List UInt8) : Decidable (okN l) := by unfold okN; exact inferInstance
def pN (l : List UInt8) : Option Nat := if okN l then some (valD l) else none
def pI (l : List UInt8) : Option Int := if l.head? = some 45 then (match pN l.tail with | some n => if n = 0 then none else some (-(n : Int)) | none => none) else Option.map (fun n : Nat => (n : Int)) (pN l)
def okD (t : List UInt8) : Prop := 1 ≤ t.length ∧ t.length ≤ 200 ∧ t.all isDg = true
instance (l : List UInt8) : Decidable (okD l) := by unfold okD; exact inferInstance
def signZ (neg : Prop) [Decidable neg] (n : Nat) : Int := if neg then -(n : Int) else (n : Int)
def pDec (s t : List UInt8) : Option Rat := match pN (if s.head? = some 45 then s.tail else s) with
 | none => none
 | some n => if okD t then some (mkRat (signZ (s.head? = some 45) (n * 10 ^ t.length + valD t)) (10 ^ t.length)) else none
def pOver (s t : List UInt8) : Option Rat := match pI s, pN t with
 | some z, some d => if d = 0 then none else some (mkRat z d)
 | _, _ => none
def bef (c : UInt8) (l : List UInt8) : List UInt8 := l.takeWhile (· != c)
def aft (c : UInt8) (l : List UInt8) : List UInt8 := (l.dropWhile (· != c)).drop 1
def pQ (l : List UInt8) : Option Rat := if l.contains 47 then pOver (bef 47 l) (aft 47 l) else if l.contains 46 then pDec (bef 46 l) (aft 46 l) else Option.map (fun z : Int => (z : Rat)) (pI l)
theorem pN_dec {n : Nat} (h : (Lib.decDigits n).length ≤ 200) : pN (Lib.decDigits n) = some n := by
 obtain ⟨a, b⟩ := valD_dec n
 obtain ⟨c, t, e, k⟩ := decD_head n
 have hok : okN (Lib.decDigits n) := ⟨by rw [e]; simp, h, fun ⟨h1, h2⟩ => (by
  by_cases h0 : n = 0
  ·subst h0
   rw [decD_low (by omega)] at h1
   simp at h1
  ·rw [e] at h2
   exact k h0 (Option.some.inj h2)), b⟩
 unfold pN
 rw [if_pos hok, a]
theorem pN_bad {l : List UInt8} {c : UInt8} (h : c ∈ l) (hc : isDg c = false) : pN l = none := by
 unfold pN
 rw [if_neg fun k => by
  have := List.all_eq_true.1 k.2.2.2 c h
  rw [hc] at this; cases this]
theorem okD_bad {l : List UInt8} {c : UInt8} (h : c ∈ l) (hc : isDg c = false) : ¬ okD l := fun k => by
 have := List.all_eq_true.1 k.2.2 c h
 rw [hc] at this; cases this
theorem head_mem {l : List UInt8} {c d : UInt8} (h : c ∈ l) (hd : l.head? = some d) (hne : c ≠ d) : c ∈ l.tail := by
 cases l with
 | nil => cases h
 | cons x l =>
  cases hd
  rcases List.mem_cons.1 h with e | e
  ·exact absurd e hne
  ·exact e
theorem pI_bad {l : List UInt8} {c : UInt8} (h : c ∈ l) (hc : isDg c = false) (h45 : c ≠ 45) : pI l = none := by
 unfold pI
 by_cases e : l.head? = some 45
 ·rw [if_pos e, pN_bad (head_mem h e h45) hc]
 ·rw [if_neg e, pN_bad h hc]; rfl
theorem pDec_bad {s t : List UInt8} {c : UInt8} (h : c ∈ t) (hc : isDg c = false) : pDec s t = none := by
 unfold pDec
 generalize pN _ = o
 cases o with
 | none => rfl
 | some n => show (if okD t then _ else _) = none; rw [if_neg (okD_bad h hc)]
theorem pI_wt {z : Int} (h : (Lib.decDigits z.natAbs).length ≤ 200) : pI (wtL z) = some z := by
 unfold pI wtL
 by_cases hz : z < 0
 ·rw [if_pos hz]
  rw [if_pos (show (([45] : List UInt8) ++ Lib.decDigits z.natAbs).head? = some 45 from rfl), show (([45] : List UInt8) ++ Lib.decDigits z.natAbs).tail = Lib.decDigits z.natAbs from rfl, pN_dec h]
  show (if z.natAbs = 0 then none else some (-((z.natAbs : Nat) : Int))) = _
  rw [if_neg (by omega)]
  congr 1
  omega
 ·rw [if_neg hz, List.nil_append]
  obtain ⟨c, t, e, _⟩ := decD_head z.natAbs
  have hc : ¬ (Lib.decDigits z.natAbs).head? = some 45 := fun k => by
   have := List.all_eq_true.1 (valD_dec z.natAbs).2 c (by rw [e]; exact List.mem_cons_self ..)
   rw [e] at k
   cases k
   revert this
   decide
  rw [if_neg hc, pN_dec h]
  show some ((z.natAbs : Nat) : Int) = _
  congr 1
  omega
theorem cut_at {c : UInt8} : ∀ {l : List UInt8} {i : Nat}, l[i]? = some c → (∀ j, j < i → l[j]? ≠ some c) → bef c l = l.take i ∧ aft c l = l.drop (i + 1)
 | [], i, h, _ => by cases h
 | x :: l, 0, h, _ => by
  cases h
  unfold bef aft
  rw [List.takeWhile_cons, List.dropWhile_cons, if_neg (by simp), if_neg (by simp)]
  exact ⟨rfl, rfl⟩
 | x :: l, i + 1, h, hb => by
  have hx : x ≠ c := fun e => hb 0 (by omega) (by rw [e]; rfl)
  obtain ⟨e1, e2⟩ := cut_at (l := l) (i := i) (by simpa using h) fun j hj => by
   have := hb (j + 1) (by omega)
   simpa using this
  unfold bef aft at *
  rw [List.takeWhile_cons, List.dropWhile_cons, if_pos (by simpa using hx), if_pos (by simpa using hx), e1, e2]
  exact ⟨rfl, rfl⟩
theorem take_has {l : List UInt8} {i j : Nat} {c : UInt8} (h : l[j]? = some c) (hj : j < i) : c ∈ l.take i := List.mem_of_getElem? (i := j) (by rw [List.getElem?_take, if_pos hj]; exact h)
theorem drop_has {l : List UInt8} {i j : Nat} {c : UInt8} (h : l[j]? = some c) (hj : i ≤ j) : c ∈ l.drop i := List.mem_of_getElem? (i := j - i) (by rw [List.getElem?_drop, show i + (j - i) = j by omega]; exact h)
theorem first_at {c : UInt8} : ∀ {l : List UInt8}, c ∈ l → ∃ i : Nat, l[i]? = some c ∧ ∀ j, j < i → l[j]? ≠ some c
 | [], h => by cases h
 | x :: l, h => by
  by_cases e : x = c
  ·exact ⟨0, by rw [e]; rfl, fun j hj => by omega⟩
  ·obtain ⟨i, h1, h2⟩ := first_at (l := l) ((List.mem_cons.1 h).resolve_left fun k => e k.symm)
   refine ⟨i + 1, by simpa using h1, fun j hj => ?_⟩
   cases j with
   | zero => intro k; exact e (Option.some.inj (by simpa using k))
   | succ j =>
    have := h2 j (by omega)
    simpa using this
theorem pQ_over {l : List UInt8} {i : Nat} (h : l[i]? = some 47) (hb : ∀ j, j < i → l[j]? ≠ some 47) : pQ l = pOver (l.take i) (l.drop (i + 1)) := by
 obtain ⟨e1, e2⟩ := cut_at h hb
 unfold pQ
 rw [if_pos (List.contains_iff_mem.2 (List.mem_of_getElem? h)), e1, e2]
theorem pQ_dec {l : List UInt8} {i : Nat} (h : l[i]? = some 46) (hb : ∀ j, j < i → l[j]? ≠ some 47 ∧ l[j]? ≠ some 46) : pQ l = pDec (l.take i) (l.drop (i + 1)) := by
 by_cases h47 : (47 : UInt8) ∈ l
 ·obtain ⟨k, hk, hkb⟩ := first_at h47
  have hik : i < k := by
   rcases Nat.lt_trichotomy i k with q | q | q
   ·exact q
   ·subst q; rw [h] at hk; cases hk
   ·exact absurd hk (hb k q).1
  rw [pQ_over hk hkb, pDec_bad (drop_has hk (by omega)) (by decide)]
  unfold pOver
  rw [pI_bad (take_has h hik) (by decide) (by decide)]
 ·obtain ⟨e1, e2⟩ := cut_at h fun j hj => (hb j hj).2
  unfold pQ
  rw [if_neg (fun k => h47 (List.contains_iff_mem.1 k)), if_pos (List.contains_iff_mem.2 (List.mem_of_getElem? h)), e1, e2]
theorem pQ_int {l : List UInt8} (h : ∀ c, c ∈ l → c ≠ 47 ∧ c ≠ 46) : pQ l = Option.map (fun z : Int => (z : Rat)) (pI l) := by
 unfold pQ
 rw [if_neg (fun k => (h _ (List.contains_iff_mem.1 k)).1 rfl), if_neg (fun k => (h _ (List.contains_iff_mem.1 k)).2 rfl)]
theorem wt_mem {z : Int} {c : UInt8} (h : c ∈ wtL z) : c ≠ 47 ∧ c ≠ 46 := by
 unfold wtL at h
 rcases List.mem_append.1 h with k | k
 ·split at k
  ·rw [List.mem_singleton.1 k]; decide
  ·cases k
 ·have := List.all_eq_true.1 (valD_dec z.natAbs).2 c k
  refine ⟨?_, ?_⟩
  ·rintro rfl; revert this; decide
  ·rintro rfl; revert this; decide
theorem pQ_over' {s t : List UInt8} (h : (47 : UInt8) ∉ s) : pQ (s ++ [47] ++ t) = pOver s t := by
 have h1 : (s ++ [47] ++ t)[s.length]? = some 47 := by rw [List.append_assoc, List.getElem?_append_right (Nat.le_refl _), Nat.sub_self]; rfl
 rw [pQ_over h1 fun j hj k => h (List.mem_of_getElem? (i := j) (by rw [List.append_assoc, List.getElem?_append_left hj] at k; exact k))]
 rw [List.append_assoc, List.take_left' rfl, show s ++ ([47] ++ t) = (s ++ [47]) ++ t by rw [List.append_assoc], List.drop_left' (by rw [List.length_append]; rfl)]
end Go.Proofs.YtjekjlaokjhhgaaGreatDoor
namespace Go.Proofs.YtjekjlaokjhhgaaGreatDoor
open Go.RowKit
section
variable {P : Program} {ops : Array Oper} {md : Region.Mode} {Q Q' : Exit → Act → World → Prop}
end
section
variable {P : Program} {n : Nat} {ops : Array Oper} {fuel : Nat} {L : Array Bool} {env : Env} {bx : Bxs} {H : Hs} {K : Env → Bxs → Hs → Prop} {τ : Tab} {d : Nat} {o : Oper} {v : Value}
end
section
variable {P : Program} {n : Nat} {ops : Array Oper} {o : Oper} {rest : List Oper} {env : Env} {bx : Bxs} {sb : Bxs} {ow : Ows} {H : Hs} {Q : EQ} {τ : Tab} {d : Nat} {s : SV}
theorem run_idxP (hτ : TabOk P τ) {T : TypeId} {x y : Operand} (ho : o.op = .indexAddr T x y) {te te' : TE} {e : TypeId} (ht : τ.get T = some te) (hk : te.kind = .slice e) (ht' : τ.get e = some te')
  {b m cap : Nat} (hx : env.op x = some (.v (.slice (some ⟨b, 0, none⟩) m cap))) {k : IntKind} {z : Int} (hy : env.op y = some (.v (.int k z))) (j q : Nat) (hz : z = j) (hj : j < m) (hq : j * te'.size = q) (ev : Operand → Value) (W : World) (he : ∀ y x, y ∈ o.op.operands → env.op y = some (.v x) → ev y = x) :
  (execOp ev o).run P W = .ok (.value (.pointer (some ⟨b, q, none⟩))) W := by
 have ex := he x _ (by simp [ho, Op.operands]) hx
 have ey := he y _ (by simp [ho, Op.operands]) hy
 have hkd := (hτ.get ht).kind
 rw [hk] at hkd
 have hkd' : P.underlying T = some (.slice e) := hkd
 unfold execOp
 simp [ho, ex, ey, Instr.indexAt, asIntOf, run_underlying hkd', hz, (hτ.get ht').size, Addr.add_mid, hj, hq]
theorem EVL.idxB (hτ : TabOk P τ) {T : TypeId} {x y : Operand} (ho : o.op = .indexAddr T x y) (hw : wantB ops env o = some true) (hd : o.dst = some d) (hn : Nat.blt d n = true) {te te' : TE} {e : TypeId} (ht : τ.get T = some te) (hk : te.kind = .slice e) (ht' : τ.get e = some te')
  {b m cap : Nat} (hx : env.op x = some (.v (.slice (some ⟨b, 0, none⟩) m cap))) {k : IntKind} {z : Int} (hy : env.op y = some (.v (.int k z))) (j q : Nat) (hz : z = j) (hj : j < m) (hq : j * te'.size = q)
  (h : EVL P n ops rest ((d, .v (.pointer (some ⟨b, q, none⟩))) :: env) bx H Q) : EVL P n ops (o :: rest) env bx H Q := EVL.gen hw hd hn (run_idxP hτ ho ht hk ht' hx hy j q hz hj hq) h
end
def unS (d b : Nat) : SV → SV
 | .p i off => match Nat.beq i d with
  | true => .v (.pointer (some ⟨b, off, none⟩))
  | false => .p i off
 | s => s
theorem unS_hit (d b off : Nat) : unS d b (.p d off) = .v (.pointer (some ⟨b, off, none⟩)) := by
 unfold unS; simp only [Nat.beq_refl]
theorem unS_miss {d b i off : Nat} (h : i ≠ d) : unS d b (.p i off) = .p i off := by
 have : Nat.beq i d = false := by cases hb : Nat.beq i d with | false => rfl | true => exact absurd (Nat.eq_of_beq_eq_true hb) h
 unfold unS; simp only [this]
def unP (d b : Nat) : Env → Env
 | [] => []
 | (t, s) :: e => (t, unS d b s) :: unP d b e
def unB (d : Nat) : Bxs → Bxs
 | [] => []
 | (i, x) :: e => match Nat.beq i d with
  | true => unB d e
  | false => (i, x) :: unB d e
theorem unB_get (d : Nat) : ∀ (e : Bxs) (i : Nat), (unB d e).get i = if i = d then none else e.get i
 | [], i => by simp [unB, Bxs.get]
 | (j, x) :: e, i => by
  have ih := unB_get d e i
  unfold unB
  cases hb : Nat.beq j d with
  | true =>
   obtain rfl := Nat.eq_of_beq_eq_true hb
   simp only
   rw [ih, Bxs.get_cons]
   by_cases h : i = j
   ·rw [if_pos h, if_pos h]
   ·rw [if_neg h, if_neg h, if_neg (fun k => h k.symm)]
  | false =>
   have hne : j ≠ d := fun h => by subst h; rw [Nat.beq_refl] at hb; cases hb
   simp only
   rw [Bxs.get_cons, Bxs.get_cons, ih]
   by_cases h : j = i
   ·subst h; rw [if_pos rfl, if_pos rfl, if_neg hne]
   ·rw [if_neg h, if_neg h]
theorem unP_get (d b : Nat) : ∀ (e : Env) (t : Nat), (unP d b e).get t = (e.get t).map (unS d b)
 | [], t => rfl
 | (u, s) :: e, t => by
  have ih := unP_get d b e t
  have key : unP d b ((u, s) :: e) = (u, unS d b s) :: unP d b e := rfl
  rw [key, Env.get_cons, Env.get_cons, ih]
  by_cases h : u = t
  ·rw [if_pos h, if_pos h]; rfl
  ·rw [if_neg h, if_neg h]
theorem Rel.unbox {n : Nat} {W0 : World} {H0 : Bs} {β : Nat → Nat} {env : Env} {bx : Bxs} {H : Hs} {a : Act} {W : World} (r : Rel n W0 H0 β env bx H a W) (d : Nat) {T : TypeId} {cs : List Value} (hg : bx.get d = some (T, cs)) :
  Rel n W0 H0 β (unP d (β d) env) (unB d bx) ⟨H.ro, (β d, T, cs) :: H.ow, H.base⟩ a W := by
 have hdS : (bx.get d).isSome = true := by rw [hg]; rfl
 have gt : ∀ i x, (unB d bx).get i = some x → i ≠ d ∧ bx.get i = some x := fun i x hi => by
  rw [unB_get] at hi
  by_cases h : i = d
  ·rw [if_pos h] at hi; cases hi
  ·rw [if_neg h] at hi; exact ⟨h, hi⟩
 have gs : ∀ i, ((unB d bx).get i).isSome = true → i ≠ d ∧ (bx.get i).isSome = true := fun i hi => by
  obtain ⟨x, hx⟩ := Option.isSome_iff_exists.1 hi
  obtain ⟨h1, h2⟩ := gt i x hx
  exact ⟨h1, by rw [h2]; rfl⟩
 refine ⟨r.size, r.defers, fun t u hu => ?_, fun i T' cs' hi => r.box i T' cs' (gt i _ hi).2, fun i hi => r.low i (gs i hi).2, fun i j hi hj hij => r.inj i j (gs i hi).2 (gs j hj).2 hij, fun t i off hu => ?_, r.fits, r.le, r.new, r.bel, r.glob, fun j b T' cs' hj => ?_, fun j j' b T1 T2 c1 c2 hj hj' => ?_⟩
 ·rw [unP_get] at hu
  obtain ⟨s, hs, rfl⟩ := Option.map_eq_some_iff.1 hu
  obtain ⟨y, hy, hr⟩ := r.slot t s hs
  refine ⟨y, hy, ?_⟩
  cases s with
  | v x => exact hr
  | ro cs => exact hr
  | p i off =>
   by_cases h : i = d
   ·subst h; rw [unS_hit]; exact hr
   ·rw [unS_miss h]; exact hr
 ·rw [unP_get] at hu
  obtain ⟨s, hs, he⟩ := Option.map_eq_some_iff.1 hu
  cases s with
  | v x => cases he
  | ro cs => cases he
  | p i' off' =>
   by_cases h : i' = d
   ·subst h; rw [unS_hit] at he; cases he
   ·rw [unS_miss h] at he
    cases he
    have := r.pin t i off hs
    rw [unB_get, if_neg h]
    exact this
 ·cases j with
  | zero =>
   simp at hj
   obtain ⟨rfl, rfl, rfl⟩ := hj
   exact ⟨r.box d T cs hg, .inl (r.low d hdS).1, (r.low d hdS).2, fun i hi e => (gs i hi).1 (r.inj i d (gs i hi).2 hdS e)⟩
  | succ j =>
   obtain ⟨h1, h2, h3, h4⟩ := r.own j b T' cs' (by simpa using hj)
   exact ⟨h1, h2, h3, fun i hi => h4 i (gs i hi).2⟩
 ·have lt : ∀ j T c, H.ow[j]? = some (β d, T, c) → False := fun j T c hj => (r.own j _ T c hj).2.2.2 d hdS rfl
  cases j with
  | zero =>
   simp at hj
   cases j' with
   | zero => rfl
   | succ j' => exact (lt j' T2 c2 (by rw [hj.1]; simpa using hj')).elim
  | succ j =>
   cases j' with
   | zero => simp at hj'; exact (lt j T1 c1 (by rw [hj'.1]; simpa using hj)).elim
   | succ j' => rw [r.one j j' b T1 T2 c1 c2 (by simpa using hj) (by simpa using hj')]
section
variable {P : Program} {n : Nat} {ops : Array Oper} {o : Oper} {rest : List Oper} {env : Env} {bx : Bxs} {sb : Bxs} {ow : Ows} {H : Hs} {Q : EQ} {τ : Tab} {d : Nat} {s : SV}
theorem EVL.unbox (i : Nat) {T : TypeId} {cs : List Value} (hg : bx.get i = some (T, cs)) (h : ∀ b, EVL P n ops rest (unP i b env) (unB i bx) ⟨H.ro, (b, T, cs) :: H.ow, H.base⟩ Q) : EVL P n ops rest env bx H Q :=
 fun W0 β a W r => h (β i) W0 β a W (r.unbox i hg)
theorem EV.unbox {c : Code} (i : Nat) {T : TypeId} {cs : List Value} (hg : bx.get i = some (T, cs)) (h : ∀ b, EV P n c (unP i b env) (unB i bx) ⟨H.ro, (b, T, cs) :: H.ow, H.base⟩ Q) : EV P n c env bx H Q :=
 fun W0 β a W r => h (β i) W0 β a W (r.unbox i hg)
end
theorem newBlk {H : Hp} {W W' : World} (hf : Fits H W) (hb : Below W.heap.size W W') {c : Array Value} {T : TypeId} (hT : W'.heap[W.heap.size]? = some (.cells c T (0, 0))) :
  H.Le (H.put W.heap.size c) ∧ Fits (H.put W.heap.size c) W' ∧ Nw H W.heap.size (H.put W.heap.size c) W' := by
 have hn : H W.heap.size = none := by
  cases hc : H W.heap.size with
  | none => rfl
  | some c => have := hf.lt (b := W.heap.size) (by rw [hc]; simp); omega
 refine ⟨fun b c h => ?_, fun b c h => ?_, fun b c h => ?_⟩
 ·have : b ≠ W.heap.size := fun e => by subst e; rw [hn] at h; cases h
  simp only [Hp.put, if_neg this]; exact h
 ·by_cases e : b = W.heap.size
  ·subst e; simp only [Hp.put, if_true] at h; cases h; exact ⟨T, (0, 0), hT⟩
  ·simp only [Hp.put, if_neg e] at h; exact hf.below hb b c h
 ·by_cases e : b = W.heap.size
  ·subst e; simp only [Hp.put, if_true] at h; cases h; exact .inr ⟨Nat.le_refl _, T, hT⟩
  ·simp only [Hp.put, if_neg e] at h; exact .inl h
section
variable {P : Program} {n : Nat} {ops : Array Oper} {o : Oper} {rest : List Oper} {env : Env} {bx : Bxs} {sb : Bxs} {ow : Ows} {H : Hs} {Q : EQ} {τ : Tab} {d : Nat} {s : SV}
theorem ValOk.newSl {R : Hp} {F : Hp → Prop} {m size : Nat} {ys : List Value} (hw : wantB ops env o = some true) (hl : ys.length = m * size)
  (h : ∀ (β : Nat → Nat) (a : Act) (W : World) (G : Hp), R.Le G → Fits G W → (∀ y s, y ∈ o.op.operands → env.op y = some s → s.rep β G (a.eval y)) → F G → ∃ (cap : Nat) (c : Array Value) (e : TypeId) (W1 : World),
   (execOp a.eval o).run P W = .ok (.value (.slice (some ⟨W.heap.size, 0, none⟩) m cap)) W1 ∧ Below W.heap.size W W1 ∧ W1.heap[W.heap.size]? = some (.cells c e (0, 0)) ∧ m ≤ cap ∧ ∀ (q : Nat) (x : Value), ys[q]? = some x → c[q]? = some x) :
  ValOk P ops o env bx ow R F (fun _ v G' => SlC G' v m size ys) := fun β a W G hle hf _ hb _ hs hF => by
 rw [if_pos (hs.want hw)]
 obtain ⟨cap, c, e, W1, hr, hB, hT, hc, hx⟩ := h β a W G hle hf (fun y s hm hy => hs.op hm hy) hF
 obtain ⟨h1, h2, h3⟩ := newBlk hf hB hT
 unfold Oper.wp
 rw [hr, Oper.upon_value]
 exact ⟨_, _, rfl, ⟨hl, .inr ⟨W.heap.size, 0, cap, c, rfl, hc, by simp [Hp.put], fun j x hj => by rw [Nat.zero_add]; exact hx j x hj⟩⟩, h1, h2, hB, h3⟩
variable {tail l : List Oper} {x : Nat → Value} {y : Nat → Ows} {ow' : Ows} {kl ks : List DK} {i : Nat} {bx' : Bxs} {Γ : Fcts}
theorem DJ.lit (hτ : TabOk P τ) {T : TypeId} {len : Nat} {parts : Array (Nat × Operand)} (ho : o.op = .buildSlice T len parts) (hw : wantB ops env o = some true) (hd : o.dst = some d) (hn : Nat.blt d n = true) {te te' : TE} {e : TypeId} (ht : τ.get T = some te) (hk : te.kind = .slice e) (ht' : τ.get e = some te')
  (hsz : Nat.beq te'.zero.length te'.size = true) (hpos : Nat.ble 1 (len * te'.size) = true) (hsm : Nat.ble (len * te'.size) 10000 = true) {cs : List Value} (hc : zerosK te'.zero len (fun zs => litK env te'.size parts.toList zs some) = some cs) (hcl : Nat.beq cs.length (len * te'.size) = true)
  (h : DJ P n ops tail sb bx H Q x y kl (i + 1) l ks ((d, .v (x i)) :: env) bx' ((i, fun G => SlC G (x i) len te'.size cs) :: Γ) ow') : DJ P n ops tail sb bx H Q x y kl i (o :: l) (.call (fun v G => SlC G v len te'.size cs) :: ks) env bx' Γ ow' := by
 have hkd := (hτ.get ht).kind
 rw [hk] at hkd
 have hkd' : P.underlying T = some (.slice e) := hkd
 obtain ⟨zv, hinfo, hzc⟩ := (hτ.get ht').info
 obtain ⟨i0, hi, hz0, hz1, hz2⟩ := info_parts hinfo
 have hl := Nat.eq_of_beq_eq_true hsz
 have hp := Nat.le_of_ble_eq_true hpos
 have hm := Nat.le_of_ble_eq_true hsm
 rw [zerosK_eq] at hc
 obtain ⟨cs', hcs, hfill⟩ := litK_spec _ _ _ _ hc
 cases hcs
 refine DJ.ofCall (ValOk.newSl hw (Nat.eq_of_beq_eq_true hcl) fun β a W G hle hf hs hF => ?_) hd hn (fun _ _ _ h k => SlC.mono h k) h
 have hff := hfill β G a.eval (fun y s' hm hy => hs y s' (by simpa [ho, Op.operands] using hm) hy)
 have hrun := run_buildSlice (P := P) W T e len (parts.map fun (i, x) => (i, a.eval x)) cs.toArray i0 zv hkd' hi hz0 (by rw [hz1]; omega) (by rw [hz1]; omega) (by
  rw [hz1, hzc, made_flat te'.zero te'.size len hl, ← hff]
  congr 1
  simp)
 refine ⟨len, cs.toArray, e, W.alloc (.cells cs.toArray e), ?_, (Below.refl _ _).alloc (Nat.le_refl _) _, (Box.new W cs.toArray e), Nat.le_refl _, fun q x hq => by simpa using hq⟩
 unfold execOp
 simp only [ho, Sem.run_bind, hrun, Result.andThen_ok, Sem.run_pure]
end
section
variable {P : Program} {n : Nat} {ops : Array Oper} {o : Oper} {rest : List Oper} {env : Env} {bx : Bxs} {sb : Bxs} {ow : Ows} {H : Hs} {Q : EQ} {τ : Tab} {d : Nat} {s : SV}
end
section
variable {P : Program} {n : Nat} {ops : Array Oper} {tail : List Oper} {sb bx : Bxs} {H : Hs} {Q : EQ} {x : Nat → Value} {y : Nat → Ows} {ow' : Ows} {kl : List DK} {i : Nat} {o : Oper} {l : List Oper} {ks : List DK} {env : Env} {bx' : Bxs} {Γ : Fcts} {τ : Tab} {d : Nat}
end
section
variable {n : Nat} {ops : Array Oper} {fuel : Nat} {L : Array Bool} {env : Env} {bx : Bxs} {H : Hs} {K : Env → Bxs → Hs → Prop} {d : Nat} {o : Oper} {v : Value}
end
section
variable {P : Program} {n : Nat} {ops : Array Oper} {o : Oper} {rest : List Oper} {env : Env} {bx : Bxs} {H : Hs} {Q : EQ} {d : Nat}
end
theorem div64_pv (h l y : Nat) (hhy : h < y) (hl : l < W64) (hy : y < W64) : PV Tryz.prog 117 #[n64 h, n64 l, n64 y] (.tuple #[n64 ((h * W64 + l) / y), n64 ((h * W64 + l) % y)]) :=
 ⟨(cOf Tryz.func117 rfl (by kernel_rfl)), fun W _ => div64_any h l y W hhy hl hy⟩
theorem trimL_zero {l : List Nat} {m : Nat} (h : l[m]? = some 0) : trimL (l.take (m + 1)) = trimL (l.take m) := by
 rw [take_snoc h, trimL_snoc_zero]
theorem trimL_keep {l : List Nat} {m x : Nat} (h : l[m]? = some x) (hx : x ≠ 0) : trimL (l.take (m + 1)) = l.take (m + 1) := by
 rw [take_snoc h, trimL_snoc_ne _ _ hx]
set_option maxHeartbeats 8000000 in
theorem trim_pw {H : Hp} {b cap : Nat} {T : TypeId} {l junk : List Nat} (hl : l.length ≤ 100000000) (hcap : l.length ≤ cap) (hc0 : 0 < cap) :
  PW Tryz.prog 118 #[.slice (some ⟨b, 0, none⟩) l.length cap] H [(b, T, (l ++ junk).map n64)] fun v ow _ => v = .slice (some ⟨b, 0, none⟩) (trimL l).length cap ∧ ow = [(b, T, (l ++ junk).map n64)] := by
 refine PW.body Tryz.tab_ok Tryz.func118 rfl (by kernel_rfl) Tryz.ntmps118 rfl rfl ?_
 (try refine RUN ?_)
 refine EV.loopK (ι := Nat) [] [] (fun m => [(0, .v (.slice (some ⟨b, 0, none⟩) m cap))]) (fun _ => []) (fun _ => [(b, T, (l ++ junk).map n64)]) (fun m _ => m ≤ l.length ∧ trimL (l.take m) = trimL l) (fun m => m) (l.length) rfl rfl ⟨rfl, trivial⟩ trivial rfl (fun _ => rfl) (⟨Nat.le_refl _, by rw [List.take_length]⟩) ?_
 rintro m G1 hG1 ⟨hm, ht⟩
 by_cases h0 : m = 0
 ·subst h0
  (try refine RUN ?_)
  rw [List.take_zero] at ht
  rw [← ht]
  exact ⟨rfl, rfl⟩
 obtain ⟨k, rfl⟩ : ∃ k, m = k + 1 := ⟨m - 1, by omega⟩
 obtain ⟨x, hx⟩ : ∃ x, l[k]? = some x := ⟨_, List.getElem?_eq_getElem (by omega)⟩
 have hcell : ((l ++ junk).map n64)[k]? = some (n64 x) := by rw [List.getElem?_map, List.getElem?_append_left (by omega), hx]; rfl
 have wk : IntKind.i64.wrap (((k + 1 : Nat) : Int) - 1) = (k : Int) := by rw [IntKind.wrap_i64]; omega
 (try refine RUN ?_)
 rw [decide_eq_true (show ((k + 1 : Nat) : Int) > 0 by omega)]
 (try refine RUN ?_)
 rw [wk]
 refine EVL.idxB Tryz.tab_ok rfl rfl rfl rfl rfl rfl rfl rfl rfl (k) (k * 1) (rfl) ((by omega)) (rfl) ?_
 rw [Nat.mul_one]
 refine EVL.load1 Tryz.tab_ok rfl rfl rfl rfl rfl rfl rfl rfl (0) rfl (hcell) ?_
 (try refine RUN ?_)
 by_cases hx0 : x = 0
 ·subst hx0
  rw [show (((0 : Nat) : Int) == 0) = true from rfl]
  (try refine RUN ?_)
  rw [wk]
  refine EVL.slc (te' := Tryz.te39) Tryz.tab_ok rfl rfl rfl rfl rfl rfl rfl rfl 0 k (.inl ⟨rfl, rfl⟩) (.inr ⟨_, IntKind.i64, rfl, rfl⟩) (Nat.zero_le _) (by omega) (by omega) ?_
  rw [if_neg (by omega)]
  (try refine RUN ?_)
  exact ⟨k, ⟨rfl, trivial⟩, trivial, trivial, trivial, rfl, ⟨by omega, by rw [← trimL_zero hx]; exact ht⟩, Hp.Le.refl _, by omega⟩
 ·rw [show ((x : Int) == 0) = false from beq_eq_false_iff_ne.2 (by omega)]
  (try refine RUN ?_)
  rw [trimL_keep hx hx0] at ht
  rw [← ht, List.length_take, Nat.min_eq_left (by omega)]
  exact ⟨rfl, rfl⟩
theorem quo_lt64 {r x d : Nat} (hr : r < d) (hx : x < W64) : (r * W64 + x) / d < W64 := by
 apply Nat.div_lt_of_lt_mul
 have : (r + 1) * W64 ≤ d * W64 := Nat.mul_le_mul_right _ hr
 rw [Nat.add_mul] at this; omega
theorem map_set64 {q junk : List Nat} {i z : Nat} (h : i < q.length) : ((q ++ junk).map n64).set i (n64 z) = (q.set i z ++ junk).map n64 := by
 rw [← List.map_set, List.set_append_left _ _ h]
set_option maxHeartbeats 16000000 in
theorem divWordP_pw {H : Hp} {b cap d : Nat} {T : TypeId} {l junk : List Nat} (hD : Dig W64 l) (hl : l.length ≤ 100000000) (hcap : l.length ≤ cap) (hc0 : 0 < cap) (hd0 : 0 < d) (hd : d < W64) :
  PW Tryz.prog 86 #[.slice (some ⟨b, 0, none⟩) l.length cap, n64 d] H [(b, T, (l ++ junk).map n64)] fun v ow _ => ∃ q, v = .tuple #[.slice (some ⟨b, 0, none⟩) (trimL q).length cap, n64 (val W64 l % d)] ∧ ow = [(b, T, (q ++ junk).map n64)] ∧ q.length = l.length ∧ Dig W64 q ∧ val W64 q = val W64 l / d := by
 refine PW.body Tryz.tab_ok Tryz.func86 rfl (by kernel_rfl) Tryz.ntmps86 rfl rfl ?_
 (try refine RUN ?_)
 refine EV.loopK (ι := Nat × Nat × List Nat) [0, 1] [] (fun s => [(6, .v (n64 s.2.1)), (7, .v (.int .i64 ((s.1 : Int) - 1)))]) (fun _ => []) (fun s => [(b, T, (s.2.2 ++ junk).map n64)]) (fun s _ => s.1 ≤ l.length ∧ s.2.1 < d ∧ s.2.2.length = l.length ∧ Dig W64 s.2.2 ∧ (∀ k, k < s.1 → s.2.2.getD k 0 = l.getD k 0) ∧ val W64 (l.drop s.1) = d * val W64 (s.2.2.drop s.1) + s.2.1) (fun s => s.1) ((l.length, 0, l)) rfl rfl ⟨rfl, (by dsimp only; rw [show IntKind.i64.wrap ((l.length : Int) - 1) = (l.length : Int) - 1 by rw [IntKind.wrap_i64]; omega]; rfl), trivial⟩ trivial rfl (fun _ => rfl) (⟨Nat.le_refl _, hd0, rfl, hD, fun _ _ => rfl, by simp [val]⟩) ?_
 rintro ⟨g, r, q⟩ G1 hG1 ⟨hg, hr, hql, hqD, hqs, hqv⟩
 dsimp only at hg hr hql hqD hqs hqv
 by_cases h0 : g = 0
 ·subst h0
  rw [List.drop_zero, List.drop_zero] at hqv
  have e1 : val W64 l / d = val W64 q := by rw [hqv, Nat.mul_add_div hd0, Nat.div_eq_of_lt hr, Nat.add_zero]
  have e2 : val W64 l % d = r := by rw [hqv, Nat.mul_add_mod, Nat.mod_eq_of_lt hr]
  have ht := trim_pw (H := G1) (b := b) (cap := cap) (T := T) (l := q) (junk := junk) (by omega) (by omega) hc0
  rw [hql] at ht
  (try refine RUN ?_)
  refine EVL.callW rfl rfl rfl rfl rfl ([(b, T, (q ++ junk).map n64)]) ([]) rfl (ht) ?_
  rintro _ _ G2 ⟨rfl, rfl⟩ hG2
  (try refine RUN ?_)
  rw [e2, e1]
  exact ⟨q, rfl, rfl, hql, hqD, rfl⟩
 ·obtain ⟨i, rfl⟩ : ∃ i, g = i + 1 := ⟨g - 1, by omega⟩
  obtain ⟨x, hx⟩ : ∃ x, q[i]? = some x := ⟨_, List.getElem?_eq_getElem (by omega)⟩
  have hxD : x < W64 := hqD x (List.mem_of_getElem? hx)
  have hgx : q.getD i 0 = x := by rw [List.getD_eq_getElem?_getD, hx]; rfl
  have hcell : ((q ++ junk).map n64)[i]? = some (n64 x) := by rw [List.getElem?_map, List.getElem?_append_left (by omega), hx]; rfl
  have hdv := div64_pv r x d hr hxD hd
  have hqW := quo_lt64 hr hxD
  have hlx : l.getD i 0 = x := by rw [← hqs i (by omega), hgx]
  have hrd := divW_round l q i d r (by omega) hql hd0 hqv (hqs i (by omega))
  rw [hlx] at hrd
  have hrm : (r * W64 + x) % d < d := Nat.mod_lt _ hd0
  generalize hqq : (r * W64 + x) / d = qq at *
  generalize hrr : (r * W64 + x) % d = rr at *
  rw [show ((i + 1 : Nat) : Int) - 1 = (i : Int) by omega]
  have wi : IntKind.i64.wrap ((i : Int) - 1) = (i : Int) - 1 := by rw [IntKind.wrap_i64]; omega
  (try refine RUN ?_)
  rw [decide_eq_true (show (i : Int) ≥ 0 by omega)]
  (try refine RUN ?_)
  refine EVL.idxB Tryz.tab_ok rfl rfl rfl rfl rfl rfl rfl rfl rfl (i) (i * 1) (rfl) ((show i < l.length by omega)) (rfl) ?_
  rw [Nat.mul_one]
  refine EVL.load1 Tryz.tab_ok rfl rfl rfl rfl rfl rfl rfl rfl (0) rfl (hcell) ?_
  repeat (first | refine RUN ?_ | refine CV (hdv) ?_ | refine CE (hdv) ?_)
  refine EVL.idxB Tryz.tab_ok rfl rfl rfl rfl rfl rfl rfl rfl rfl (i) (i * 1) (rfl) ((show i < l.length by omega)) (rfl) ?_
  rw [Nat.mul_one]
  (try refine RUN ?_)
  refine EVL.set1 Tryz.tab_ok rfl rfl rfl rfl rfl rfl rfl rfl rfl rfl ((show i < ((q ++ junk).map n64).length by rw [List.length_map, List.length_append]; omega)) ?_
  rw [map_set64 (show i < q.length by omega)]
  (try refine RUN ?_)
  refine ⟨(i, rr, q.set i qq), ⟨rfl, by dsimp only; rw [wi]; rfl, trivial⟩, (by repeat (first | exact trivial | refine And.intro rfl ?_)), trivial, trivial, rfl, ⟨by dsimp only; omega, hrm, by dsimp only; rw [List.length_set]; exact hql, hqD.set _ _ hqW, fun k hk => ?_, hrd⟩, Hp.Le.refl _, by dsimp only; omega⟩
  dsimp only at hk ⊢
  rw [show (q.set i qq).getD k 0 = q.getD k 0 by simp [List.getD_eq_getElem?_getD, List.getElem?_set_ne (show i ≠ k by omega)]]
  exact hqs k (by omega)
section
variable {P : Program} {n : Nat} {ops : Array Oper} {o : Oper} {rest : List Oper} {env : Env} {bx : Bxs} {H : Hs} {Q : EQ} {d : Nat}
theorem sb_at {l : List UInt8} {j : Nat} {c : UInt8} (h : l[j]? = some c) : (sb l)[j]? = some c := by
 obtain ⟨h1, h2⟩ := List.getElem?_eq_some_iff.1 h
 have hs : j < (sb l).size := by show j < l.toArray.size; simpa using h1
 rw [getElem?_pos (sb l) j hs]
 congr 1
theorem run_strAt {T : TypeId} {x y : Operand} (ho : o.op = .index T x y) (hT : P.underlying T = some .string) {l : List UInt8} (hx : env.op x = some (.v (.string (sb l)))) {k : IntKind} {z : Int} (hy : env.op y = some (.v (.int k z))) (j : Nat) (hz : z = j) {c : UInt8} (hc : l[j]? = some c) (ev : Operand → Value) (W : World) (he : ∀ y x, y ∈ o.op.operands → env.op y = some (.v x) → ev y = x) :
  (execOp ev o).run P W = .ok (.value (.int .u8 (c.toNat : Int))) W := by
 have ex := he x _ (by simp [ho, Op.operands]) hx
 have ey := he y _ (by simp [ho, Op.operands]) hy
 subst hz
 have hs := sb_at hc
 unfold execOp
 simp [ho, ex, ey, Instr.index, asIntOf, run_underlying hT, hs]
theorem EVL.strAt {T : TypeId} {x y : Operand} (ho : o.op = .index T x y) (hw : wantB ops env o = some true) (hd : o.dst = some d) (hn : Nat.blt d n = true) (hT : P.underlying T = some .string) {l : List UInt8} (hx : env.op x = some (.v (.string (sb l)))) {k : IntKind} {z : Int} (hy : env.op y = some (.v (.int k z))) (j : Nat) (hz : z = j) {c : UInt8} (hc : l[j]? = some c)
  (h : EVL P n ops rest ((d, .v (.int .u8 (c.toNat : Int))) :: env) bx H Q) : EVL P n ops (o :: rest) env bx H Q := EVL.gen hw hd hn (run_strAt ho hT hx hy j hz hc) h
end
theorem mul64_pv (x y : Nat) (hx : x < W64) (hy : y < W64) : PV Tryz.prog 96 #[n64 x, n64 y] (.tuple #[n64 (x * y / W64), n64 (x * y % W64)]) :=
 ⟨(cOf Tryz.func96 rfl (by kernel_rfl)), fun W _ => (Tryz.bits_Mul64 x y hx hy W).mono fun e W' ⟨h1, h2⟩ => ⟨h1, by rw [h2]; exact Below.refl _ _⟩⟩
structure MulInv (l q : List Nat) (m a i c : Nat) : Prop where
 len : q.length = l.length
 dig : Dig W64 q
 keep : ∀ k, i ≤ k → q.getD k 0 = l.getD k 0
 sum : val W64 (q.take i) + c * W64 ^ i = val W64 (l.take i) * m + a
 carry : c < W64
theorem mul_parts {x m c : Nat} (hx : x < W64) (hm : m < W64) (hc : c < W64) : x * m / W64 + addHi (x * m % W64) c 0 < W64 ∧ addLo (x * m % W64) c 0 < W64 ∧ addLo (x * m % W64) c 0 + (x * m / W64 + addHi (x * m % W64) c 0) * W64 = x * m + c := by
 have h0 : x * m % W64 < W64 := Nat.mod_lt _ (by decide)
 obtain ⟨p1, p2, p3⟩ := add_parts h0 hc (Nat.zero_le 1)
 have h1 := Nat.div_add_mod (x * m) W64
 have e : addLo (x * m % W64) c 0 + (x * m / W64 + addHi (x * m % W64) c 0) * W64 = x * m + c := by
  rw [Nat.add_mul, Nat.mul_comm (x * m / W64)]
  omega
 refine ⟨?_, p2, e⟩
 have h2 : x * m ≤ (W64 - 1) * (W64 - 1) := Nat.mul_le_mul (by omega) (by omega)
 have hW : (W64 - 1) * (W64 - 1) + (W64 - 1) < W64 * W64 := by decide
 refine Nat.lt_of_mul_lt_mul_right (a := W64) ?_
 omega
theorem mul_lin {A s c' Pw B x m a c : Nat} (hs : A + c * Pw = B * m + a) (h3 : s + c' * W64 = x * m + c) : A + s * Pw + c' * (Pw * W64) = (B + x * Pw) * m + a := by
 have e : s * Pw + c' * (Pw * W64) = (x * m + c) * Pw := by
  rw [← h3, Nat.add_mul, Nat.mul_assoc, Nat.mul_comm W64]
 rw [Nat.add_assoc, e, Nat.add_mul, Nat.add_mul]
 have e2 : x * Pw * m = x * m * Pw := by rw [Nat.mul_assoc, Nat.mul_assoc, Nat.mul_comm Pw]
 omega
theorem MulInv.step {l q : List Nat} {m a i c : Nat} (h : MulInv l q m a i c) (hi : i < l.length) (hm : m < W64) : MulInv l (q.set i (addLo (q.getD i 0 * m % W64) c 0)) m a (i + 1) (q.getD i 0 * m / W64 + addHi (q.getD i 0 * m % W64) c 0) := by
 have hil : i < q.length := by rw [h.len]; exact hi
 have hx : q.getD i 0 < W64 := h.dig.getD (by decide) i
 obtain ⟨h1, h2, h3⟩ := mul_parts hx hm h.carry
 have hk := h.keep i (Nat.le_refl _)
 have hs := h.sum
 have hv : val W64 ((q.set i (addLo (q.getD i 0 * m % W64) c 0)).take (i + 1)) = val W64 (q.take i) + addLo (q.getD i 0 * m % W64) c 0 * W64 ^ i := by
  rw [val_take_getD, List.take_set_of_le (Nat.le_refl i)]
  congr 2
  rw [List.getD_eq_getElem?_getD, List.getElem?_set_self hil]; rfl
 have hl := val_take_getD l i
 refine ⟨by rw [List.length_set]; exact h.len, h.dig.set _ _ h2, fun k hk' => ?_, ?_, h1⟩
 ·rw [← h.keep k (by omega)]
  simp [List.getD_eq_getElem?_getD, List.getElem?_set_ne (show i ≠ k by omega)]
 ·rw [hv, hl, ← hk, Nat.pow_succ]
  exact mul_lin hs h3
theorem n64_cell {q : List Nat} {sp : List Value} {i x : Nat} (h : q[i]? = some x) : (q.map n64 ++ sp)[i]? = some (n64 x) := by
 rw [List.getElem?_append_left (by rw [List.length_map]; exact (List.getElem?_eq_some_iff.1 h).1), List.getElem?_map, h]; rfl
theorem n64_set {q : List Nat} {sp : List Value} {i z : Nat} (h : i < q.length) : (q.map n64 ++ sp).set i (n64 z) = (q.set i z).map n64 ++ sp := by
 rw [List.map_set, List.set_append_left _ _ (by rw [List.length_map]; exact h)]
set_option maxHeartbeats 16000000 in
theorem mulAdd_pw {H : Hp} {v : Value} {l : List Nat} {ow : Ows} {m a : Nat} (hown : OwnL 39 1 v l.length (l.map n64) ow) (hD : Dig W64 l) (hl : l.length ≤ 1000) (hm : m < W64) (ha : a < W64) :
  PW Tryz.prog 102 #[v, n64 m, n64 a] H ow fun v' ow' _ => ∃ l', OwnL 39 1 v' l'.length (l'.map n64) ow' ∧ Dig W64 l' ∧ val W64 l' = val W64 l * m + a ∧ l'.length ≤ l.length + 1 := by
 rcases hown.2 with ⟨rfl, h0, rfl⟩ | ⟨b, cap, sp, rfl, rfl, k1, k2, k3⟩
 ·obtain rfl := List.length_eq_zero_iff.1 h0
  refine PW.body Tryz.tab_ok Tryz.func102 rfl (by kernel_rfl) Tryz.ntmps102 rfl rfl ?_
  (try refine RUN ?_)
  refine EV.loopK (ι := Unit) [0, 1, 15] [] (fun _ => [(7, .v (n64 a)), (16, .v (.int .i64 0))]) (fun _ => []) (fun _ => []) (fun _ _ => True) (fun _ => 0) (()) rfl rfl ⟨rfl, rfl, trivial⟩ trivial rfl (fun _ => rfl) (trivial) ?_
  rintro _ G1 hG1 _
  (try refine RUN ?_)
  by_cases e : a = 0
  ·subst e
   (try refine RUN ?_)
   exact ⟨[], OwnL.nil _ _, Dig.nil _, by rw [val_nil, Nat.zero_mul], Nat.zero_le _⟩
  ·rw [show ((a : Int) != 0) = true from bne_iff_ne.2 (by omega)]
   (try refine RUN ?_)
   refine EVL.app1 Tryz.tab_ok rfl rfl rfl rfl rfl rfl rfl rfl rfl rfl rfl rfl rfl rfl rfl rfl rfl rfl rfl (fun _ => rfl) ([]) ([]) (rfl) (OwnL.nil _ _) (by omega) fun _ => ?_
   intro v' ow' hown'
   (try refine RUN ?_)
   refine ⟨[a], (by simpa [show Tryz.te39.size = 1 from rfl] using hown'), Dig.cons ha (Dig.nil _), by rw [val_cons, val_nil]; simp [val_nil], Nat.le_refl _⟩
 ·refine PW.body Tryz.tab_ok Tryz.func102 rfl (by kernel_rfl) Tryz.ntmps102 rfl rfl ?_
  (try refine RUN ?_)
  refine EV.loopK (ι := Nat × Nat × List Nat) [0, 1, 15] [] (fun s => [(7, .v (n64 s.2.1)), (16, .v (.int .i64 (s.1 : Int)))]) (fun _ => []) (fun s => [(b, 39, s.2.2.map n64 ++ sp)]) (fun s _ => s.1 ≤ l.length ∧ MulInv l s.2.2 m a s.1 s.2.1) (fun s => l.length - s.1) ((0, a, l)) rfl rfl ⟨rfl, rfl, trivial⟩ trivial rfl (fun _ => rfl) (⟨Nat.zero_le _, ⟨rfl, hD, fun _ _ => rfl, by simp [val_nil], ha⟩⟩) ?_
  rintro ⟨i, c, q⟩ G1 hG1 ⟨hi, hinv⟩
  dsimp only at hi hinv
  have hql := hinv.len
  (try refine RUN ?_)
  refine EV.cond rfl (fun hlt => ?_) (fun hlt => ?_)
  ·simp only [decide_eq_true_eq, decide_eq_false_iff_not, Int.not_lt, Int.not_le, beq_iff_eq, beq_eq_false_iff_ne, bne_iff_ne, bne_eq_false_iff_eq, ne_eq, Int.ofNat_lt, Int.ofNat_le, Int.natCast_inj, ge_iff_le, gt_iff_lt, Decidable.not_not, Bool.not_eq_true', Bool.not_eq_false', Bool.not_eq_eq_eq_not, Bool.not_true, Bool.not_false] at hlt
   obtain ⟨x, hx⟩ : ∃ x, q[i]? = some x := ⟨_, List.getElem?_eq_getElem (by omega)⟩
   have hxD : x < W64 := hinv.dig x (List.mem_of_getElem? hx)
   have hgx : q.getD i 0 = x := by rw [List.getD_eq_getElem?_getD, hx]; rfl
   have hcell := n64_cell (sp := sp) hx
   have hmu := mul64_pv x m hxD hm
   have hst := hinv.step hlt hm
   obtain ⟨h1, h2, h3⟩ := mul_parts hxD hm hinv.carry
   rw [hgx] at hst
   have hw : IntKind.u64.wrap (((x * m / W64 : Nat) : Int) + ((addHi (x * m % W64) c 0 : Nat) : Int)) = ((x * m / W64 + addHi (x * m % W64) c 0 : Nat) : Int) := by
    rw [← Int.natCast_add]
    generalize x * m / W64 + addHi (x * m % W64) c 0 = z at *
    rw [W64_val] at h1
    rw [IntKind.wrap_u64]
    omega
   have hset := fun z => n64_set (sp := sp) (z := z) (show i < q.length by omega)
   have hlen : i < (q.map n64 ++ sp).length := by rw [List.length_append, List.length_map]; omega
   (try refine RUN ?_)
   refine EVL.idxB Tryz.tab_ok rfl rfl rfl rfl rfl rfl rfl rfl rfl (i) (i * 1) (rfl) (hlt) (rfl) ?_
   rw [Nat.mul_one]
   refine EVL.load1 Tryz.tab_ok rfl rfl rfl rfl rfl rfl rfl rfl (0) rfl (hcell) ?_
   repeat (first | refine RUN ?_ | refine CV (hmu) ?_ | refine CE (hmu) ?_)
   refine EVL.ext rfl rfl rfl rfl rfl (add64_run0 (x * m % W64) c) ?_
   generalize hlo : addLo (x * m % W64) c 0 = s at *
   generalize hhi : addHi (x * m % W64) c 0 = c2 at *
   generalize x * m / W64 = hh at *
   (try refine RUN ?_)
   rw [hw]
   (try refine RUN ?_)
   refine EVL.idxB Tryz.tab_ok rfl rfl rfl rfl rfl rfl rfl rfl rfl (i) (i * 1) (rfl) (hlt) (rfl) ?_
   rw [Nat.mul_one]
   (try refine RUN ?_)
   refine EVL.set1 Tryz.tab_ok rfl rfl rfl rfl rfl rfl rfl rfl rfl rfl (hlen) ?_
   rw [hset]
   (try refine RUN ?_)
   exact ⟨(i + 1, hh + c2, q.set i s), ⟨rfl, by rw [wi_inc i (by omega)]; rfl, trivial⟩, (by repeat (first | exact trivial | refine And.intro rfl ?_)), trivial, (by repeat (first | exact trivial | refine And.intro rfl ?_)), rfl, ⟨hlt, hst⟩, Hp.Le.refl _, by dsimp only; omega⟩
  ·simp only [decide_eq_true_eq, decide_eq_false_iff_not, Int.not_lt, Int.not_le, beq_iff_eq, beq_eq_false_iff_ne, bne_iff_ne, bne_eq_false_iff_eq, ne_eq, Int.ofNat_lt, Int.ofNat_le, Int.natCast_inj, ge_iff_le, gt_iff_lt, Decidable.not_not, Bool.not_eq_true', Bool.not_eq_false', Bool.not_eq_eq_eq_not, Bool.not_true, Bool.not_false] at hlt
   obtain rfl : i = l.length := by omega
   have hs := hinv.sum
   rw [List.take_of_length_le (by omega), List.take_length] at hs
   have hownq : OwnL 39 1 (.slice (some ⟨b, 0, none⟩) l.length cap) q.length (q.map n64) [(b, 39, q.map n64 ++ sp)] := ⟨by rw [List.length_map, Nat.mul_one], .inr ⟨b, cap, sp, by rw [hql], rfl, by rw [← k1, List.length_append, List.length_append, List.length_map, List.length_map, hql], by omega, k3⟩⟩
   (try refine RUN ?_)
   by_cases e : c = 0
   ·subst e
    (try refine RUN ?_)
    exact ⟨q, hownq, hinv.dig, by rw [← hs, Nat.zero_mul, Nat.add_zero], by omega⟩
   ·rw [show ((c : Int) != 0) = true from bne_iff_ne.2 (by omega)]
    rw [hql] at hownq
    (try refine RUN ?_)
    refine EVL.app1 Tryz.tab_ok rfl rfl rfl rfl rfl rfl rfl rfl rfl rfl rfl rfl rfl rfl rfl rfl rfl rfl rfl (fun _ => rfl) ([(b, 39, q.map n64 ++ sp)]) ([]) (rfl) (hownq) (by omega) fun _ => ?_
    intro v' ow' hown'
    (try refine RUN ?_)
    refine ⟨q ++ [c], ?_, hinv.dig.snoc hinv.carry, by rw [val_snoc, hql, hs], by rw [List.length_append, List.length_singleton]; omega⟩
    rw [List.length_append, List.length_singleton, List.map_append, hql]
    simpa [show Tryz.te39.size = 1 from rfl] using hown'
def nxt (s : Int) : Int := IntKind.u64.wrap (s + 11400714819323198485)
def mixA (z : Int) : Int := IntKind.u64.wrap (bits .xor .u64 z (z / 1073741824) * 13787848793156543929)
def mixB (z : Int) : Int := IntKind.u64.wrap (bits .xor .u64 z (z / 134217728) * 10723151780598845931)
def mixC (z : Int) : Int := bits .xor .u64 z (z / 2147483648)
def mix (z : Int) : Int := mixC (mixB (mixA z))
def last (n : Int) : Int := 18446744073709551615 - 18446744073709551616 % n
def dist (s : Int) : Int := (-s * 17428512612931826493) % 18446744073709551616
def left (s : Int) : Nat := (dist (nxt s)).toNat
def belowGo (n : Int) : Nat → Int → Int × Int
 | 0, s => (0, s)
 | k + 1, s => if mix (nxt s) ≤ last n then (mix (nxt s) % n, nxt s) else belowGo n k (nxt s)
def below (n s : Int) : Int × Int := belowGo n (left s + 1) s
end Go.Proofs.YtjekjlaokjhhgaaGreatDoor
namespace Go.Proofs.YtjekjlaokjhhgaaGreatDoor
open Go.RowKit Go.Shelf
attribute [local go_sem] Oper.semAt_some
end Go.Proofs.YtjekjlaokjhhgaaGreatDoor
namespace Go.Proofs.YtjekjlaokjhhgaaGreatDoor
open Go.RowKit Go.Shelf
attribute [local go_sem] Oper.semAt_some
end Go.Proofs.YtjekjlaokjhhgaaGreatDoor
namespace Go.Proofs.YtjekjlaokjhhgaaGreatDoor
end Go.Proofs.YtjekjlaokjhhgaaGreatDoor
namespace Go.Proofs.YtjekjlaokjhhgaaGreatDoor
end Go.Proofs.YtjekjlaokjhhgaaGreatDoor
namespace Go.Proofs.YtjekjlaokjhhgaaGreatDoor
open Go.RowKit Go.Shelf
end Go.Proofs.YtjekjlaokjhhgaaGreatDoor
namespace Go.Proofs.YtjekjlaokjhhgaaGreatDoor
end Go.Proofs.YtjekjlaokjhhgaaGreatDoor
namespace Go.Proofs.YtjekjlaokjhhgaaGreatDoor
open Go.RowKit
section
variable {P : Program} {n : Nat} {ops : Array Oper} {o : Oper} {rest : List Oper} {env : Env} {bx : Bxs} {sb : Bxs} {ow : Ows} {H : Hs} {Q : EQ} {τ : Tab} {d : Nat} {s : SV}
end
section
variable {P : Program} {n : Nat} {ops : Array Oper} {rest : List Oper} {env : Env} {bx : Bxs} {H : Hs} {Q : EQ}
theorem EVL.swapOw (a b : Ows) (e : H.ow = a ++ b) (h : EVL P n ops rest env bx ⟨H.ro, b ++ a, H.base⟩ Q) : EVL P n ops rest env bx H Q :=
 fun W0 β x W r => h W0 β x W (r.permOw (by rw [e]; exact List.perm_append_comm))
theorem EV.swapOw {c : Code} (a b : Ows) (e : H.ow = a ++ b) (h : EV P n c env bx ⟨H.ro, b ++ a, H.base⟩ Q) : EV P n c env bx H Q :=
 fun W0 β x W r => h W0 β x W (r.permOw (by rw [e]; exact List.perm_append_comm))
end
section
variable {P : Program} {n : Nat} {ops : Array Oper} {o : Oper} {rest : List Oper} {env : Env} {bx : Bxs} {sb : Bxs} {ow : Ows} {H : Hs} {Q : EQ} {τ : Tab} {d : Nat} {s : SV}
end
end Go.Proofs.YtjekjlaokjhhgaaGreatDoor
namespace Go.Proofs.YtjekjlaokjhhgaaGreatDoor
end Go.Proofs.YtjekjlaokjhhgaaGreatDoor
namespace Go.Proofs.YtjekjlaokjhhgaaGreatDoor
open Go.RowKit
def inR (n : Nat) (r : Int) : Bool := decide (0 ≤ r) && decide (r < (n : Int))
theorem ownL_of_row {W : World} {base : Nat} {e : TypeId} {size : Nat} {v : Value} {n : Nat} {xs : List Value} (h : W.ownsRow base e size v n xs) : ∃ ow, OwnL e size v n xs ow ∧ OwNew base W ow := by
 obtain ⟨h1, ⟨rfl, rfl⟩ | ⟨g, cap, cur, rfl, hb, hh, hc, hm, hs, ht⟩⟩ := h
 ·exact ⟨[], ⟨h1, .inl ⟨rfl, rfl, rfl⟩⟩, by simp, fun b T cs h => by cases h⟩
 ·have hcur : cur.toList = xs ++ cur.toList.drop (n * size) := by rw [← ht, List.take_append_drop]
  refine ⟨[(g, e, xs ++ cur.toList.drop (n * size))], ⟨h1, .inr ⟨g, cap, _, rfl, rfl, by rw [← hcur]; simpa using hs, hc, hm⟩⟩, by simp, fun b T cs h => ?_⟩
  rw [List.mem_singleton] at h
  cases h
  refine ⟨hb, ?_⟩
  rw [← hcur]
  exact hh
theorem run_appendS_place {P : Program} (w : World) (t u ty e : TypeId) (i : TypeInfo) (ht : P.underlying t = some (.slice e)) (hu : P.underlying u = some .string) (hi : P.info? e = some i) (hz : i.zero = some (.int .u8 0)) (hsize : i.size = 1) (hby : i.bytes = 1)
  (v : Value) (n : Nat) (xs : List Value) (hown : w.ownsRow 0 e 1 v n xs) (s : ByteArray) (hb : n + s.size ≤ 140737488355328) :
  ∃ v' w', (Builtin.append_ #[t, u] ty #[v, .string s]).run P w = .ok v' w' ∧ w'.ownsRow 0 e 1 v' (n + s.size) (xs ++ Lib.strCells s) ∧ w.grownBy w' v.ownBlock ∧ ∀ g, v'.ownBlock = some g → v.ownBlock = some g ∨ w.heap.size ≤ g := by
 obtain ⟨v', w', hr, h2, h3, h4⟩ := Lib.run_append_own_string (P := P) w 0 t u ty e i ht hu hi hz hsize hby v n xs hown s (by simp only [maxLen]; omega) hb (Nat.zero_le _)
 refine ⟨v', w', hr, h2, h3, fun g hg => ?_⟩
 have hxl : xs.length = n := by simpa using hown.1
 rcases hown.2 with ⟨rfl, rfl⟩ | ⟨g0, cap, cur, rfl, hbg, hgb, hnc, hcm, hcs, htake⟩
 ·have hx : xs = [] := List.eq_nil_of_length_eq_zero hxl
  subst hx
  obtain ⟨v2, w2, hr2, h22, _⟩ := Lib.run_append_own_string (P := P) w w.heap.size t u ty e i ht hu hi hz hsize hby (.slice none 0 0) 0 [] (World.ownsRow_nil w w.heap.size e 1) s (by simp only [maxLen]; omega) hb (Nat.le_refl _)
  rw [hr] at hr2
  cases hr2
  exact .inr ((h22.lt g hg).1)
 ·by_cases hroom : n + s.size ≤ cap
  ·have hr2 := Lib.run_append_room_string (P := P) w t u ty e i ht hu hi hsize g0 n cap cur hgb s hroom (by simp at hcs; omega)
   rw [hr] at hr2
   cases hr2
   left; exact hg
  ·have holds : ∀ j u, xs[j]? = some u → w.cell? ((⟨g0, 0, none⟩ : Addr).add j) = some u := hown.cells (g := g0) rfl
   have hr2 := Lib.run_append_grow_string (P := P) w t u ty e i (.int .u8 0) ht hu hi hz ⟨g0, 0, none⟩ n cap xs (by rw [hsize]; simpa using hxl) holds s (by omega) (by omega) (by rw [hby]; exact growslice_fits (by omega) (by omega))
   rw [hr] at hr2
   cases hr2
   right
   have : w.heap.size = g := by simpa [Value.ownBlock] using hg
   omega
theorem appS {P : Program} {w0 : World} {ops : Array Oper} {rest : List Oper} {o : Oper} {a : Act} {Q : Exit → Act → World → Prop} (hgd : o.guard = none) (s x : Operand) (t u : TypeId)
  (ho : o.op = .call { callee := .builtin .append, args := #[s, x], argTypes := #[t, u] })
  (e : TypeId) (hinfo : (P.info? e).map (fun i => (i.zero, i.size, i.bytes)) = some (some (.int .u8 0), 1, 1)) (ht : P.underlying t = some (.slice e)) (hu : P.underlying u = some .string)
  (v : Value) (n : Nat) (xs : List Value) (hs : a.eval s = v) (hown : w0.ownsRow 0 e 1 v n xs) (y : ByteArray) (hx : a.eval x = .string y) (hb : n + y.size ≤ 140737488355328)
  (h : ∀ v' w', w'.ownsRow 0 e 1 v' (n + y.size) (xs ++ Lib.strCells y) → Kept (fun k => v.ownBlock = some k) w0 w' → (∀ g, v'.ownBlock = some g → v.ownBlock = some g ∨ w0.heap.size ≤ g) → wpList P ops Q rest (a.put o.dst v') w') : wpList P ops Q (o :: rest) a w0 := by
 obtain ⟨i0, hi, hz0, hz1, hz2⟩ := info_parts hinfo
 refine wpList_plain hgd fun K hK => ?_
 obtain ⟨v', w', hr, h2, h3, h4⟩ := run_appendS_place (P := P) w0 t u o.type e i0 ht hu hi hz0 hz1 hz2 v n xs hown y hb
 unfold Oper.wp execOp
 simp only [ho, resolve, invoke, builtin, Sem.run_bind, Sem.run_pure, Result.andThen_ok, List.map_toArray, List.map_cons, List.map_nil, hs, hx, hr]
 exact hK _ _ (h v' w' h2 ((Kept.refl _ w0).grown h3 (fun k e _ => e)) h4)
def BldO (b : Nat) (l : List UInt8) (L : Ows) : Prop := ∃ p v ow, L = (b, 126, [p, v]) :: ow ∧ (p = .pointer none ∨ p = .pointer (some ⟨b, 0, none⟩)) ∧ OwnL 5 1 v l.length (Lib.byteCells l) ow
theorem BldO.new (b : Nat) : BldO b [] [(b, 126, [.pointer none, .slice none 0 0])] := ⟨_, _, [], rfl, .inl rfl, OwnL.nil _ _⟩
theorem bldCheck_box (b : Nat) (p v : Value) (w : World) (hp : p = .pointer none ∨ p = .pointer (some ⟨b, 0, none⟩)) (hB : Box w b #[p, v] 126) :
  Calls Tryz.prog 119 #[.pointer (some ⟨b, 0, none⟩)] w fun e w' => e = .returned (.tuple #[]) ∧ Box w' b #[.pointer (some ⟨b, 0, none⟩), v] 126 ∧ Kept (· = b) w w' := by
 have c0 : w.cell? ⟨b, 0, none⟩ = some p := by rw [Lib.cell_of_heap hB]; rfl
 rcases hp with rfl | rfl
 ·refine (bldCheck_fresh b w c0 (by have h := hB; unfold Box at h; simp [World.shape?, h]) (Lib.frozen_of_heap hB 0)).mono ?_
  rintro e w' ⟨rfl, rfl⟩
  refine ⟨rfl, ?_, Kept.setCell (X := (· = b)) (p := ⟨b, 0, none⟩) (Kept.refl _ w) (fun _ => rfl) _⟩
  have h := hB; unfold Box at h ⊢
  simp [World.setCell, Array.getElem?_modify, h]
 ·refine (bldCheck_used b w c0).mono ?_
  rintro e w' ⟨rfl, rfl⟩
  exact ⟨rfl, hB, Kept.refl _ _⟩
theorem row_of_ownL {H : Hp} {W : World} {L pre post : Ows} {e : TypeId} {v : Value} {m : Nat} {xs : List Value} {ow : Ows} (h : OwnL e 1 v m xs ow) (he : L = pre ++ (ow ++ post)) (hL : ∀ (j b : Nat) (T : TypeId) (cs : List Value), L[j]? = some (b, T, cs) → Box W b cs.toArray T ∧ H b = none ∧ gH b = none) : W.ownsRow 0 e 1 v m xs := by
 refine ⟨h.1, ?_⟩
 rcases h.2 with ⟨h2, h3, _⟩ | ⟨g, cap, sp, h2, h3, h4, h5, h6⟩
 ·exact .inl ⟨h2, h3⟩
 ·have hjg : L[pre.length]? = some (g, e, xs ++ sp) := by rw [he, h3]; simp
  exact .inr ⟨g, cap, (xs ++ sp).toArray, h2, Nat.zero_le _, (hL _ _ _ _ hjg).1, h5, h6, by simpa using h4, by simp only [List.toList_toArray]; rw [← h.1]; exact List.take_left⟩
set_option maxRecDepth 100000 in
set_option maxHeartbeats 800000 in
theorem bldWrite_any {H : Hp} {W : World} {b : Nat} {p v : Value} {l : List UInt8} {ow : Ows} (s : ByteArray) (hp : p = .pointer none ∨ p = .pointer (some ⟨b, 0, none⟩)) (hown : OwnL 5 1 v l.length (Lib.byteCells l) ow) (hlen : l.length + s.size ≤ 100000000000)
  (hL : ∀ (j k : Nat) (T : TypeId) (cs : List Value), ((b, 126, [p, v]) :: ow)[j]? = some (k, T, cs) → Box W k cs.toArray T ∧ H k = none ∧ gH k = none) :
  Calls Tryz.prog 87 #[.pointer (some ⟨b, 0, none⟩), .string s] W fun e W' => e = .returned (.tuple #[.int .i64 s.size, .nilIface]) ∧ ∃ v', Box W' b #[.pointer (some ⟨b, 0, none⟩), v'] 126 ∧ W'.ownsRow 0 5 1 v' (l.length + s.size) (Lib.byteCells l ++ Lib.strCells s) ∧ Kept (fun k => k = b ∨ v.ownBlock = some k) W W' ∧ ∀ g, v'.ownBlock = some g → v.ownBlock = some g ∨ W.heap.size ≤ g := by
 have hB := (hL 0 b _ _ rfl).1
 have hrow : W.ownsRow 0 5 1 v l.length (Lib.byteCells l) := row_of_ownL (pre := [(b, 126, [p, v])]) (post := []) hown (by simp) hL
 go_enter Tryz.func87, Tryz.ntmps87
 go_wp2_with fail
 refine (bldCheck_box b p v _ hp hB).mono ?_
 rintro e w1 ⟨rfl, hB1, hk1⟩
 have hbk : w1.heap[b]? = some (.cells #[.pointer (some ⟨b, 0, none⟩), v] 126 (0, 0)) := hB1
 have c1 : w1.cell? ⟨b, 1, none⟩ = some v := by rw [Lib.cell_of_heap hbk]; rfl
 have hne : v.ownBlock ≠ some b := Lib.ownBlock_ne hrow hB (by decide)
 have hrow1 : w1.ownsRow 0 5 1 v l.length (Lib.byteCells l) := by
  refine hrow.kept (row := some b) ⟨hk1.os, hk1.tape, hk1.output, hk1.size, fun k hk hne => hk1.block k hk (fun e => hne (by rw [e]))⟩ (.inr hne)
 have hs1 := hk1.size
 go_wp2_with (at_builtin; refine appS rfl _ _ _ _ rfl 5 Tryz.infoU8 Tryz.underlying22 Tryz.underlying9 _ _ _ rfl hrow1 s rfl (by omega) ?_)
 intro v' w2 hown2 hk2 hpl
 have hlt := hB.lt
 have hb2 : w2.heap[b]? = some (.cells #[.pointer (some ⟨b, 0, none⟩), v] 126 (0, 0)) := by rw [hk2.block b (by omega) hne]; exact hbk
 have d1 : w2.cell? ⟨b, 1, none⟩ = some v := by rw [Lib.cell_of_heap hb2]; rfl
 have f1 : w2.frozen? ⟨b, 1, none⟩ = false := Lib.frozen_of_heap hb2 1
 obtain ⟨ao, n', cap, rfl⟩ : ∃ ao n' cap, v' = .slice ao n' cap := by
  rcases hown2.2 with ⟨hv, _⟩ | ⟨g, cap, cur, hv, _⟩
  ·exact ⟨_, _, _, hv⟩
  ·exact ⟨_, _, _, hv⟩
 go_wp2
 go_ret2
 have hne2 : (Value.slice ao n' cap).ownBlock ≠ some b := Lib.ownBlock_ne hown2 hb2 (by decide)
 refine ⟨rfl, .slice ao n' cap, ?_, ?_, ?_, fun g hg => (hpl g hg).imp id fun h => by omega⟩
 ·unfold Box
  simp [World.setCell, Array.getElem?_modify, hb2]
 ·exact hown2.kept (row := some b) ⟨rfl, rfl, rfl, by simp [World.setCell], fun k _ hk => Below.heap_setCell _ _ _ _ (fun e => hk (by simp [e]))⟩ (.inr hne2)
 ·exact ((hk1.mono fun k _ e => .inl e).trans (hk2.mono fun k _ e => .inr e)).setCell (p := ⟨b, 1, none⟩) (fun _ => .inl rfl) _
theorem bldWrite_pw {H : Hp} {b : Nat} {l : List UInt8} {L : Ows} (s : List UInt8) (h : BldO b l L) (hlen : l.length + s.length ≤ 100000000000) :
  PW Tryz.prog 87 #[.pointer (some ⟨b, 0, none⟩), .string (sb s)] H L fun r ow _ => r = .tuple #[.int .i64 s.length, .nilIface] ∧ BldO b (l ++ s) ow := by
 obtain ⟨p, v, ow, rfl, hp, hown⟩ := h
 refine ⟨(cOf Tryz.func87 rfl (by kernel_rfl)), fun W hf hg hL hd => ?_⟩
 have hsz : (sb s).size = s.length := by simp [sb, ByteArray.size]
 refine (bldWrite_any (sb s) hp hown (by rw [hsz]; exact hlen) hL).mono ?_
 rw [hsz]
 rintro e W' ⟨rfl, v', hB', hrow', hk, hpl⟩
 obtain ⟨ow', how', hl1, hnew⟩ := ownL_of_row hrow'
 have vb : ∀ k, v.ownBlock = some k → ∃ xs, ow = [(k, 5, xs)] := fun k hk => by
  rcases hown.2 with ⟨h2, _, _⟩ | ⟨g, cap, sp, h2, h3, _⟩
  ·rw [h2] at hk; cases hk
  ·rw [h2] at hk; cases hk; exact ⟨_, h3⟩
 have vH : ∀ k, v.ownBlock = some k → H k = none ∧ k ∈ Ows.bs ((b, 126, [p, v]) :: ow) := fun k hk => by
  obtain ⟨xs, h2⟩ := vb k hk
  exact ⟨(hL 1 k _ xs (by rw [h2]; rfl)).2.1, Ows.bs_mem (j := 1) (T := 5) (cs := xs) (by rw [h2]; rfl)⟩
 obtain ⟨hB, hHb, _⟩ := hL 0 b _ _ rfl
 have hbt : Lib.strCells (sb s) = Lib.byteCells s := by rw [Lib.strCells_eq]
 rw [hbt, ← Lib.byteCells_append, show l.length + s.length = (l ++ s).length by simp] at how'
 have hob : ∀ k T cs, (k, T, cs) ∈ ow' → v'.ownBlock = some k := fun k T cs hm => by
  rcases how'.2 with ⟨_, _, h3⟩ | ⟨g, cap, sp, h2, h3, _⟩
  ·rw [h3] at hm; cases hm
  ·rw [h3] at hm
   rw [h2]
   simp at hm
   simp [Value.ownBlock, hm.1]
 have hneb : v'.ownBlock ≠ some b := Lib.ownBlock_ne hrow' hB' (by decide)
 refine ⟨_, (b, 126, [.pointer (some ⟨b, 0, none⟩), v']) :: ow', H, rfl, ⟨rfl, _, v', ow', rfl, .inr rfl, how'⟩, Hp.Le.refl _, fun k c hc => ?_, Nw.refl _ _ _, hk.mono (fun k _ e => ?_), fun j k T1 cs hj => ?_, ?_⟩
 ·obtain ⟨T3, fz, hW⟩ := hf k c hc
  refine ⟨T3, fz, ?_⟩
  rw [hk.block k (hf.lt (by rw [hc]; simp)) (fun e => ?_)]
  ·exact hW
  ·rcases e with e | e
   ·subst e; rw [hHb] at hc; cases hc
   ·rw [(vH k e).1] at hc; cases hc
 ·rcases e with e | e
  ·subst e; exact Ows.bs_mem (j := 0) rfl
  ·exact (vH k e).2
 ·cases j with
  | zero =>
   cases (show some (b, 126, [Value.pointer (some ⟨b, 0, none⟩), v']) = some (k, T1, cs) from hj)
   exact ⟨hB', .inr (Ows.bs_mem (j := 0) rfl), hHb⟩
  | succ j =>
   have hm : (k, T1, cs) ∈ ow' := List.mem_of_getElem? (by simpa using hj)
   refine ⟨(hnew _ _ _ hm).2, ?_, ?_⟩
   ·rcases hpl k (hob _ _ _ hm) with e | e
    ·exact .inr (vH k e).2
    ·exact .inl e
   ·rcases hpl k (hob _ _ _ hm) with e | e
    ·exact (vH k e).1
    ·cases hc : H k with
     | none => rfl
     | some c => have := hf.lt (b := k) (by rw [hc]; simp); omega
 ·intro j j' k T1 T2 c1 c2 h1 h2
  have nb : ∀ (j : Nat) (T : TypeId) (cs : List Value), ow'[j]? = some (b, T, cs) → False := fun j T cs hj => hneb (hob _ _ _ (List.mem_of_getElem? hj))
  cases j with
  | zero =>
   simp only [List.getElem?_cons_zero, Option.some.injEq, Prod.mk.injEq] at h1
   cases j' with
   | zero => rfl
   | succ j' => rw [← h1.1] at h2; exact (nb j' _ _ (by simpa using h2)).elim
  | succ j =>
   cases j' with
   | zero =>
    simp only [List.getElem?_cons_zero, Option.some.injEq, Prod.mk.injEq] at h2
    rw [← h2.1] at h1; exact (nb j _ _ (by simpa using h1)).elim
   | succ j' =>
    have e1 := (List.getElem?_eq_some_iff.1 (show ow'[j]? = some (k, T1, c1) by simpa using h1)).1
    have e2 := (List.getElem?_eq_some_iff.1 (show ow'[j']? = some (k, T2, c2) by simpa using h2)).1
    omega
theorem Kept.freeze {X : Nat → Prop} {a w : World} (h : Kept X a w) {p : Addr} (hp : p.block < a.heap.size → X p.block) (n : Nat) : Kept X a (w.freeze p n) := by
 unfold World.freeze
 split
 ·exact h
 ·refine ⟨h.os, h.tape, h.output, by simpa using h.size, fun k hk hx => ?_⟩
  simp only [Array.getElem?_modify]
  rw [if_neg (fun e => hx (by rw [← e]; exact hp (by rw [e]; exact hk)))]
  exact h.block k hk hx
theorem Tryz.cellsU8 : Tryz.prog.cellsOf 5 = 1 := by kernel_rfl
set_option maxHeartbeats 1000000 in
set_option maxRecDepth 100000 in
theorem bldString_any {W : World} {b g cap : Nat} {p : Value} {l : List UInt8} {cur : Array Value} (h0 : l ≠ []) (hB : Box W b #[p, .slice (some ⟨g, 0, none⟩) l.length cap] 126) (hg : Box W g cur 5) (hnc : l.length ≤ cap) (hcm : cap ≤ maxLen) (hcs : cur.size = cap) (htake : cur.toList.take l.length = Lib.byteCells l) :
  Calls Tryz.prog 89 #[.pointer (some ⟨b, 0, none⟩)] W fun e W' => e = .returned (.string ⟨l.toArray⟩) ∧ W' = W.drew.freeze ⟨g, 0, none⟩ l.length := by
 have hl0 : l.length ≠ 0 := by simpa using h0
 have hg' : W.drew.heap[g]? = some (.cells cur 5 (0, 0)) := hg
 have c1 : W.drew.cell? ⟨b, 1, none⟩ = some (.slice (some ⟨g, 0, none⟩) l.length cap) := by
  have : W.drew.heap[b]? = some (.cells #[p, .slice (some ⟨g, 0, none⟩) l.length cap] 126 (0, 0)) := hB
  rw [Lib.cell_of_heap this]; rfl
 have hSD : (Builtin.unsafeSliceData_ #[22] 164 #[.slice (some ⟨g, 0, none⟩) l.length cap]).run Tryz.prog W.drew = .ok (.pointer (some ⟨g, 0, none⟩)) W.drew :=
  Lib.run_unsafeSliceData_row _ _ _ _ _ _ (by omega)
 have hUS : (Builtin.unsafeString_ #[164, 3] 9 #[.pointer (some ⟨g, 0, none⟩), .int .i64 l.length]).run Tryz.prog W.drew = .ok (.string ⟨l.toArray⟩) (W.drew.freeze ⟨g, 0, none⟩ l.length) := by
  refine Lib.run_unsafeString_row W.drew 164 3 9 5 Tryz.underlying164 Tryz.cellsU8 g cur.size (by simp [World.shape?, hg']) l h0 (by omega) (by simp only [maxLen] at hcm; omega) ?_
  intro j x hx
  have hj := (List.getElem?_eq_some_iff.1 hx).1
  have e1 : cur.toList[j]? = some (.int .u8 x.toNat) := by
   have : (cur.toList.take l.length)[j]? = some (.int .u8 x.toNat) := by rw [htake]; simp [Lib.byteCells, hx]
   rwa [List.getElem?_take_of_lt hj] at this
  rw [Addr.add_mid, Nat.zero_add, Lib.cell_of_heap hg']
  simpa using e1
 have mixed : Tryz.prog.follows Departure.mixedOrders = true := by kernel_rfl
 go_enter Tryz.func89, Tryz.ntmps89
 go_wp2
 go_region_o
 all_goals (go_wp2; go_ret; exact ⟨rfl, rfl⟩)
theorem bldString_pw {H : Hp} {b : Nat} {l : List UInt8} {L : Ows} (h : BldO b l L) (h0 : l ≠ []) : PW Tryz.prog 89 #[.pointer (some ⟨b, 0, none⟩)] H L fun r ow _ => r = .string (sb l) ∧ ow = [] := by
 obtain ⟨p, v, ow, rfl, hp, hown⟩ := h
 have hl : 0 < l.length := List.length_pos_iff.2 h0
 refine ⟨(cOf Tryz.func89 rfl (by kernel_rfl)), fun W hf hg hL hd => ?_⟩
 obtain ⟨g, cap, sp, rfl, rfl, hsp, hnc, hcm⟩ := hown.block hl
 obtain ⟨hB, hHb, _⟩ := hL 0 b _ _ rfl
 obtain ⟨hG, hHg, _⟩ := hL 1 g _ _ rfl
 refine (bldString_any (cur := (Lib.byteCells l ++ sp).toArray) h0 hB hG hnc hcm (by simpa using hsp) (by simp only [List.toList_toArray]; rw [show l.length = (Lib.byteCells l).length by rw [Lib.byteCells_length]]; exact List.take_left)).mono ?_
 rintro e W' ⟨rfl, rfl⟩
 have hk : Kept (fun k => k ∈ Ows.bs [(b, 126, [p, .slice (some ⟨g, 0, none⟩) l.length cap]), (g, 5, Lib.byteCells l ++ sp)]) W (W.drew.freeze ⟨g, 0, none⟩ l.length) :=
  Kept.freeze (p := ⟨g, 0, none⟩) (Kept.refl _ W).drew (fun _ => Ows.bs_mem (j := 1) rfl) _
 refine ⟨_, [], H, rfl, ⟨rfl, rfl⟩, Hp.Le.refl _, fun k c hc => ?_, Nw.refl _ _ _, hk, fun j k T1 cs hj => (by simp at hj), fun j j' k T1 T2 c1 c2 h1 h2 => (by simp at h1)⟩
 obtain ⟨T3, fz, hW⟩ := hf k c hc
 refine ⟨T3, fz, ?_⟩
 rw [hk.block k (hf.lt (by rw [hc]; simp)) (fun e => ?_)]
 ·exact hW
 ·simp [Ows.bs] at e
  rcases e with e | e
  ·subst e; rw [hHb] at hc; cases hc
  ·subst e; rw [hHg] at hc; cases hc
theorem repeat_pv (s : List UInt8) (c : Nat) (hc : c ≤ 1000000) (hs : s.length ≤ 1000000) : PV Tryz.prog 88 #[.string (sb s), .int .i64 (c : Int)] (.string (sb (Lib.repeatL s c))) :=
 ⟨(cOf Tryz.func88 rfl (by kernel_rfl)), fun W _ => Tryz.strings_Repeat (sb s) c W (by omega) (by
  have e : (sb s).size = s.length := by simp [sb, ByteArray.size]
  rw [e]
  have := Nat.mul_le_mul hs hc
  omega)⟩
theorem ten64 : n64 Ten19 = .int .u64 10000000000000000000 := rfl
theorem sb_size (l : List UInt8) : (sb l).size = l.length := by simp [sb, ByteArray.size]
theorem rep48 (c : Nat) : Lib.repeatL [48] c = List.replicate c 48 := by
 induction c with
 | zero => rfl
 | succ c ih => rw [Lib.repeatL, ih, List.replicate_succ]; rfl
theorem trimL_split (q junk : List Nat) : q ++ junk = trimL q ++ (q.drop (trimL q).length ++ junk) := by
 rw [← List.append_assoc]
 congr 1
 exact (List.take_append_drop (trimL q).length q).symm.trans (by rw [trimL_take])
theorem textP_len : ∀ l : List Nat, (∀ x, x ∈ l → x < Ten19) → (textP l).length ≤ l.length * 19
 | [], _ => Nat.le_refl _
 | [x], h => by
  have := (padD_zeros 18 x (h x (List.mem_singleton.2 rfl))).2
  show (Lib.decDigits x).length ≤ 1 * 19
  omega
 | x :: y :: l, h => by
  have := textP_len (y :: l) fun z hz => h z (List.mem_cons_of_mem _ hz)
  show (textP (y :: l) ++ padD 19 x).length ≤ (l.length + 1 + 1) * 19
  rw [List.length_append, padD_len]
  rw [List.length_cons] at this
  omega
set_option maxRecDepth 100000 in
set_option maxHeartbeats 16000000 in
theorem natTextA_pc {H : Hp} (n : Nat) (hn : big n) (hT : PowT H) : PC Tryz.prog 51 #[natV n] H fun r _ => r = .string (decS n) := by
 by_cases h64 : n < 18446744073709551616
 ·exact natText_pc n h64 hT
 have hn0 : n ≠ 0 := by omega
 have hdl : 2 ≤ (dig W64 n).length := by
  have h1 : n / W64 ≠ 0 := Nat.pos_iff_ne_zero.1 (Nat.div_pos (show 18446744073709551616 ≤ n by omega) (by decide))
  rw [dig_pos W64_two hn0, dig_pos W64_two h1]
  simp
 have hlb := dig_len_big hn
 have hDn := dig_norm W64_two n
 have hvn : val W64 (dig W64 n) = n := dig_val W64_two n
 have hwf := fun G => words_full n hn0 hn G
 have hTl : (dig Ten19 n).length ≤ 1000000000 := Nat.le_trans (dig_len_le Ten_two n (bl n) (Nat.lt_of_lt_of_le (lt_bl n) (Nat.pow_le_pow_left Ten_two _))) hn
 generalize hLe : dig W64 n = L at *
 refine PC.body Tryz.tab_ok Tryz.func51 rfl (by kernel_rfl) Tryz.ntmps51 rfl rfl ?_
 (try refine RUN ?_)
 refine EVL.callO rfl rfl rfl rfl rfl (hwf _) ?_
 rintro _ _ ⟨g, rfl, rfl⟩
 (try refine RUN ?_)
 rw [decide_eq_false (show ¬ (L.length : Int) ≤ 1 by omega)]
 (first | refine EVL.swapOw ([(g, 39, (L ++ []).map n64)]) ([]) ((by rw [show (L ++ ([] : List Nat)) = L from List.append_nil L])) ?_ | refine EV.swapOw ([(g, 39, (L ++ []).map n64)]) ([]) ((by rw [show (L ++ ([] : List Nat)) = L from List.append_nil L])) ?_)
 (try refine RUN ?_)
 refine EV.loopK (ι := List Nat × List Nat × List Nat × Value × Ows) [] [] (fun s => [(3, .v (.slice (some ⟨g, 0, none⟩) s.1.length L.length)), (4, .v s.2.2.2.1)]) (fun _ => []) (fun s => (g, 39, (s.1 ++ s.2.1).map n64) :: s.2.2.2.2) (fun s _ => Norm W64 s.1 ∧ s.1.length ≤ L.length ∧ OwnL 39 1 s.2.2.2.1 s.2.2.1.length (s.2.2.1.map n64) s.2.2.2.2 ∧ s.2.2.1 ++ dig Ten19 (val W64 s.1) = dig Ten19 n ∧ ∀ x, x ∈ s.2.2.1 → x < Ten19) (fun s => val W64 s.1) ((L, [], [], .slice none 0 0, [])) rfl rfl ⟨rfl, rfl, trivial⟩ trivial rfl (fun _ => rfl) (⟨hDn, Nat.le_refl _, OwnL.nil _ _, by rw [List.nil_append, hvn], fun x hx => by cases hx⟩) ?_
 rintro ⟨w, junk, ps, vp, op⟩ G1 hG1 ⟨hw, hwl, hop, hps, hpb⟩
 dsimp only at hw hwl hop hps hpb
 obtain ⟨pa, pc, rfl⟩ := hop.val
 have hD := hw.1
 by_cases h0 : w = []
 ·subst h0
  have hpe : ps = dig Ten19 n := by
   rw [← hps]
   show ps = ps ++ dig Ten19 0
   rw [dig_zero, List.append_nil]
  have hpn : ps ≠ [] := fun e => by
   have := textP_dig n hn0
   rw [← hpe, e] at this
   exact decD_ne n this.symm
  have htx : textP ps = Lib.decDigits n := by rw [hpe]; exact textP_dig n hn0
  have hdn : (Lib.decDigits n).length ≤ 20000000000 := by
   rw [← htx, hpe]
   exact Nat.le_trans (textP_len _ fun x hx => by rw [← hpe] at hx; exact hpb x hx) (by omega)
  rw [← hpe] at hTl
  have hpl : 0 < ps.length := List.length_pos_iff.2 hpn
  clear hpe hps
  (try refine RUN ?_)
  (first | refine EVL.subOw [] [(g, _, _)] op rfl ?_ | refine EV.subOw [] [(g, _, _)] op rfl ?_)
  (first | refine EVL.publishL [] op [] ((List.append_nil _).symm) hop fun G2 hG2 hs2 => ?_ | refine EV.publishL [] op [] ((List.append_nil _).symm) hop fun G2 hG2 hs2 => ?_)
  (try refine RUN ?_)
  (first | refine EVL.unbox (6) rfl fun gb => ?_ | refine EV.unbox (6) rfl fun gb => ?_)
  (try refine RUN ?_)
  refine EV.loopK (ι := Nat × Ows) [4, 6] [] (fun s => [(7, .v (.int .i64 ((s.1 : Int) - 1)))]) (fun _ => []) (fun s => s.2) (fun s _ => s.1 ≤ ps.length ∧ BldO gb (textP (ps.drop s.1)) s.2) (fun s => s.1) ((ps.length, [(gb, 126, [.pointer none, .slice none 0 0])])) rfl rfl ⟨(by dsimp only; rw [show IntKind.i64.wrap ((ps.length : Int) - 1) = (ps.length : Int) - 1 by rw [IntKind.wrap_i64]; omega]; rfl), trivial⟩ trivial rfl (fun _ => rfl) (⟨Nat.le_refl _, by dsimp only; rw [List.drop_length]; exact BldO.new gb⟩) ?_
  rintro ⟨j, Lb⟩ G3 hG3 ⟨hj, hb⟩
  dsimp only at hj hb
  by_cases hj0 : j = 0
  ·subst hj0
   rw [List.drop_zero, htx] at hb
   (try refine RUN ?_)
   refine EVL.callW rfl rfl rfl rfl rfl Lb [] (List.append_nil _).symm (bldString_pw hb (decD_ne n)) ?_
   rintro _ _ G4 ⟨rfl, rfl⟩ hG4
   (try refine RUN ?_)
   rfl
  ·obtain ⟨i, rfl⟩ : ∃ i, j = i + 1 := ⟨j - 1, by omega⟩
   obtain ⟨x, hx⟩ : ∃ x, ps[i]? = some x := ⟨_, List.getElem?_eq_getElem (by omega)⟩
   have hxb := hpb x (List.mem_of_getElem? hx)
   have hxl : x < 10 ^ (18 + 1) := hxb
   obtain ⟨hp1, hp2⟩ := padD_zeros 18 x hxl
   have hdrop : ps.drop i = x :: ps.drop (i + 1) := by
    rw [List.drop_eq_getElem_cons (by omega)]
    congr 1
    exact (List.getElem?_eq_some_iff.1 hx).2
   have htl : (textP (ps.drop (i + 1))).length ≤ 20000000000 := Nat.le_trans (textP_len _ fun y hy => hpb y (List.mem_of_mem_drop hy)) (by rw [List.length_drop]; omega)
   have hfmt := fmt_pc (H := G3) x (Nat.lt_trans hxb (by decide)) ((hT.mono (hG1.trans hG2)).mono hG3)
   have hrep := repeat_pv [48] (19 - (Lib.decDigits x).length) (by omega) (by simp)
   have wi : IntKind.i64.wrap ((i : Int) - 1) = (i : Int) - 1 := by rw [IntKind.wrap_i64]; omega
   have wl : IntKind.i64.wrap ((ps.length : Int) - 1) = (ps.length : Int) - 1 := by rw [IntKind.wrap_i64]; omega
   rw [show ((i + 1 : Nat) : Int) - 1 = (i : Int) by omega]
   (try refine RUN ?_)
   rw [decide_eq_true (show (i : Int) ≥ 0 by omega)]
   (try refine RUN ?_)
   refine EVL.idxR Tryz.tab_ok rfl rfl rfl rfl rfl rfl rfl rfl rfl rfl ((SlC.mono hs2 hG3)) (i) (rfl) ((by omega)) ((by rw [List.getElem?_map, hx]; rfl)) ?_
   repeat (first | refine RUN ?_ | refine CV (hfmt) ?_ | refine CE (hfmt) ?_)
   rw [wl]
   refine EV.meetK (ι := Ows) [4, 6, 7, 8] [] (fun _ => []) (fun _ => []) (fun L => L) (fun L G => G3.Le G ∧ BldO gb (if i + 1 < ps.length then textP (ps.drop (i + 1)) ++ List.replicate (19 - (Lib.decDigits x).length) 48 else []) L) rfl rfl (fun _ => rfl) ?_ ?_
   ·by_cases hlast : i + 1 < ps.length
    ·rw [decide_eq_true (show (i : Int) < (ps.length : Int) - 1 by omega)]
     rw [if_pos hlast]
     rw [rep48] at hrep
     (try refine RUN ?_)
     rw [sb_size, show IntKind.i64.wrap (19 - ((Lib.decDigits x).length : Int)) = ((19 - (Lib.decDigits x).length : Nat) : Int) by rw [IntKind.wrap_i64]; omega]
     repeat (first | refine RUN ?_ | refine CV (hrep) ?_ | refine CE (hrep) ?_)
     refine EVL.callW rfl rfl rfl rfl rfl Lb [] (List.append_nil _).symm (bldWrite_pw (List.replicate (19 - (Lib.decDigits x).length) 48) hb (by rw [List.length_replicate]; omega)) ?_
     rintro _ ow1 G4 ⟨rfl, hb1⟩ hG4
     (try refine RUN ?_)
     exact ⟨ow1, trivial, (by repeat (first | exact trivial | refine And.intro rfl ?_)), trivial, trivial, List.append_nil _, hG4, hb1⟩
    ·rw [decide_eq_false (show ¬ (i : Int) < (ps.length : Int) - 1 by omega)]
     rw [if_neg hlast]
     have hbn : BldO gb [] Lb := by
      rw [List.drop_of_length_le (by omega)] at hb
      exact hb
     (try refine RUN ?_)
     exact ⟨Lb, trivial, (by repeat (first | exact trivial | refine And.intro rfl ?_)), trivial, trivial, rfl, Hp.Le.refl _, hbn⟩
   ·rintro Lc G5 ⟨hG5, hbc⟩
    (try refine RUN ?_)
    refine EVL.callW rfl rfl rfl rfl rfl Lc [] (List.append_nil _).symm (bldWrite_pw (Lib.decDigits x) hbc (by
     split
     ·rw [List.length_append, List.length_replicate]; omega
     ·rw [List.length_nil]; omega)) ?_
    rintro _ ow1 G6 ⟨rfl, hb1⟩ hG6
    (try refine RUN ?_)
    refine ⟨(i, ow1), ⟨by dsimp only; rw [wi]; rfl, trivial⟩, (by repeat (first | exact trivial | refine And.intro rfl ?_)), trivial, trivial, List.append_nil _, ⟨by dsimp only; omega, ?_⟩, hG5.trans hG6, by dsimp only; omega⟩
    dsimp only
    rw [hdrop]
    by_cases hlast : i + 1 < ps.length
    ·rw [if_pos hlast, List.append_assoc, ← hp1] at hb1
     rw [textP_cons (fun e => by have := congrArg List.length e; rw [List.length_drop, List.length_nil] at this; omega)]
     exact hb1
    ·rw [if_neg hlast, List.nil_append] at hb1
     rw [List.drop_of_length_le (by omega)]
     exact hb1
 ·have hwp := List.length_pos_iff.2 h0
  have hdv := fun (G : Hp) => divWordP_pw (H := G) (b := g) (cap := L.length) (T := 39) (l := w) (junk := junk) (d := Ten19) hD (by omega) hwl (by omega) (by decide) (by decide)
  rw [ten64] at hdv
  have hvp : 0 < val W64 w := Nat.lt_of_lt_of_le (Nat.pow_pos (by decide)) (norm_val_pos (by decide) hw h0)
  (try refine RUN ?_)
  rw [decide_eq_true (show (w.length : Int) > 0 by omega)]
  (try refine RUN ?_)
  refine EVL.callW rfl rfl rfl rfl rfl ([(g, 39, (w ++ junk).map n64)]) (op) rfl (hdv _) ?_
  rintro _ _ G2 ⟨q, rfl, rfl, hql, hqD, hqv⟩ hG2
  (first | refine EVL.swapOw ([(g, 39, (q ++ junk).map n64)]) (op) (rfl) ?_ | refine EV.swapOw ([(g, 39, (q ++ junk).map n64)]) (op) (rfl) ?_)
  (try refine RUN ?_)
  refine EVL.app1 Tryz.tab_ok rfl rfl rfl rfl rfl rfl rfl rfl rfl rfl rfl rfl rfl rfl rfl rfl rfl rfl rfl (fun _ => rfl) (op) ([(g, 39, (q ++ junk).map n64)]) (rfl) (hop) ((by have h1 := congrArg List.length hps; rw [List.length_append, dig_pos Ten_two (show val W64 w ≠ 0 by omega), List.length_cons] at h1; omega)) fun _ => ?_
  intro v' op' hop'
  (first | refine EVL.swapOw (op') ([(g, 39, (q ++ junk).map n64)]) (rfl) ?_ | refine EV.swapOw (op') ([(g, 39, (q ++ junk).map n64)]) (rfl) ?_)
  (try refine RUN ?_)
  have htl := trimL_length_le q
  refine ⟨(trimL q, q.drop (trimL q).length ++ junk, ps ++ [val W64 w % Ten19], v', op'), ⟨rfl, rfl, trivial⟩, trivial, trivial, trivial, ?_, ⟨trimL_norm hqD, ?_, ?_, ?_, ?_⟩, hG2, ?_⟩
  ·dsimp only; rw [trimL_split q junk]; rfl
  ·dsimp only; omega
  ·dsimp only; rw [List.length_append, List.map_append]; exact hop'
  ·dsimp only
   rw [trimL_val, hqv, ← hps, List.append_assoc, dig_pos Ten_two (show val W64 w ≠ 0 by omega)]; rfl
  ·intro x hx
   rcases List.mem_append.1 hx with h | h
   ·exact hpb x h
   ·rw [List.mem_singleton.1 h]; exact Nat.mod_lt _ (by decide)
  ·dsimp only
   rw [trimL_val, hqv]
   exact Nat.div_lt_self hvp (by decide)
theorem isDg_iff {c : UInt8} : isDg c = true ↔ 48 ≤ c.toNat ∧ c.toNat ≤ 57 := by
 unfold isDg
 rw [Bool.and_eq_true, decide_eq_true_eq, decide_eq_true_eq]
theorem dgv {c : UInt8} (h : isDg c = true) : IntKind.u64.wrap (IntKind.u8.wrap ((c.toNat : Int) - 48)) = (dV c : Int) := by
 obtain ⟨h1, h2⟩ := isDg_iff.1 h
 rw [IntKind.wrap_u8, IntKind.wrap_u64]
 unfold dV
 omega
structure ParInv (s : List UInt8) (i : Nat) (l : List Nat) (part unit : Nat) : Prop where
 le : i ≤ s.length
 dig : Dig W64 l
 len : l.length ≤ i
 pow : ∃ c, c ≤ 18 ∧ unit = 10 ^ c ∧ part < 10 ^ c
 sum : val W64 l * unit + part = valD (s.take i)
 all : (s.take i).all isDg = true
 last : i = s.length → 1 ≤ i → part = 0 ∧ unit = 1
def startOk (s : List UInt8) : Prop := 1 ≤ s.length ∧ s.length ≤ 200 ∧ ¬ (1 < s.length ∧ s.head? = some 48)
instance (s : List UInt8) : Decidable (startOk s) := by unfold startOk; exact inferInstance
theorem pow_le19 {c : Nat} (h : c ≤ 18) : 10 ^ c ≤ 1000000000000000000 := Nat.le_trans (Nat.pow_le_pow_right (by omega) h) (by decide)
theorem pow_19 {c : Nat} (h : c ≤ 18) : 10 ^ c * 10 = 10000000000000000000 ↔ c = 18 := by
 constructor
 ·intro e
  by_cases h2 : c ≤ 17
  ·have : 10 ^ c ≤ 10 ^ 17 := Nat.pow_le_pow_right (by omega) h2
   have h3 : (10 : Nat) ^ 17 = 100000000000000000 := by decide
   omega
  ·omega
 ·rintro rfl; decide
set_option maxRecDepth 100000 in
set_option maxHeartbeats 16000000 in
theorem natParse_pc {H : Hp} (s : List UInt8) : PC Tryz.prog 66 #[.string (sb s)] H fun r _ => r = .tuple #[natV ((pN s).getD 0), .bool (pN s).isSome] := by
 have hz : natV 0 = .agg #[.int .u64 0, .string ⟨#[]⟩] := natV_small (by decide)
 have bad : pN s = none → Value.tuple #[.agg #[.int .u64 0, .string ⟨#[]⟩], .bool false] = Value.tuple #[natV ((pN s).getD 0), .bool (pN s).isSome] := fun e => by rw [e, ← hz]; rfl
 have hsz := sb_size s
 generalize hB : (!decide (startOk s)) = B
 refine PC.body Tryz.tab_ok Tryz.func66 rfl (by kernel_rfl) Tryz.ntmps66 rfl rfl ?_
 (try refine RUN ?_)
 refine EVL.meetK (ι := Unit) [0, 2] [2] (fun _ => [(25, .v (.bool B))]) (fun _ => []) (fun _ => []) (fun _ G => H.Le G) rfl rfl (fun _ => rfl) ?_ ?_
 ·rw [hsz]
  by_cases c1 : s.length = 0
  ·rw [show ((s.length : Int) == 0) = true from beq_iff_eq.2 (by omega)]
   rw [decide_eq_false (fun k => by have := k.1; omega)] at hB
   subst hB
   (try refine RUN ?_)
   exact ⟨(), ⟨rfl, trivial⟩, (by repeat (first | exact trivial | refine And.intro rfl ?_)), trivial, (by repeat (first | exact trivial | refine And.intro rfl ?_)), rfl, Hp.Le.refl _⟩
  rw [show ((s.length : Int) == 0) = false from beq_eq_false_iff_ne.2 (by omega)]
  (try refine RUN ?_)
  rw [hsz]
  by_cases c2 : s.length > 200
  ·rw [decide_eq_true (show (s.length : Int) > 200 by omega)]
   rw [decide_eq_false (fun k => by have := k.2.1; omega)] at hB
   subst hB
   (try refine RUN ?_)
   exact ⟨(), ⟨rfl, trivial⟩, (by repeat (first | exact trivial | refine And.intro rfl ?_)), trivial, (by repeat (first | exact trivial | refine And.intro rfl ?_)), rfl, Hp.Le.refl _⟩
  rw [decide_eq_false (show ¬ (s.length : Int) > 200 by omega)]
  (try refine RUN ?_)
  rw [hsz]
  by_cases c3 : 1 < s.length
  ·rw [decide_eq_true (show (s.length : Int) > 1 by omega)]
   obtain ⟨c, hc⟩ : ∃ c, s[0]? = some c := ⟨_, List.getElem?_eq_getElem (by omega)⟩
   have hh : s.head? = some c := by rw [List.head?_eq_getElem?]; exact hc
   (try refine RUN ?_)
   refine EVL.strAt rfl rfl rfl rfl (by kernel_rfl) rfl rfl 0 rfl hc ?_
   (try refine RUN ?_)
   by_cases c4 : c = 48
   ·rw [show ((c.toNat : Int) == 48) = true by rw [c4]; rfl]
    rw [decide_eq_false (fun k => k.2.2 ⟨c3, by rw [hh, c4]⟩)] at hB
    subst hB
    (try refine RUN ?_)
    exact ⟨(), ⟨rfl, trivial⟩, (by repeat (first | exact trivial | refine And.intro rfl ?_)), trivial, (by repeat (first | exact trivial | refine And.intro rfl ?_)), rfl, Hp.Le.refl _⟩
   ·rw [show ((c.toNat : Int) == 48) = false from beq_eq_false_iff_ne.2 fun k => c4 (by
     have h48 : c.toNat = (48 : UInt8).toNat := by show c.toNat = 48; omega
     exact UInt8.toNat_inj.1 h48)]
    rw [decide_eq_true (show startOk s from ⟨by omega, by omega, fun k => c4 (Option.some.inj (hh.symm.trans k.2))⟩)] at hB
    subst hB
    (try refine RUN ?_)
    exact ⟨(), ⟨rfl, trivial⟩, (by repeat (first | exact trivial | refine And.intro rfl ?_)), trivial, (by repeat (first | exact trivial | refine And.intro rfl ?_)), rfl, Hp.Le.refl _⟩
  ·rw [decide_eq_false (show ¬ (s.length : Int) > 1 by omega)]
   rw [decide_eq_true (show startOk s from ⟨by omega, by omega, fun k => c3 k.1⟩)] at hB
   subst hB
   (try refine RUN ?_)
   exact ⟨(), ⟨rfl, trivial⟩, (by repeat (first | exact trivial | refine And.intro rfl ?_)), trivial, (by repeat (first | exact trivial | refine And.intro rfl ?_)), rfl, Hp.Le.refl _⟩
 rintro _ G0 hG0
 cases B with
 | true =>
  (try refine RUN ?_)
  refine bad ?_
  unfold pN
  rw [if_neg fun k => by
   have : startOk s := ⟨k.1, k.2.1, k.2.2.1⟩
   rw [decide_eq_true this] at hB
   cases hB]
 | false =>
 have hst : startOk s := by
  by_cases k : startOk s
  ·exact k
  ·rw [decide_eq_false k] at hB; cases hB
 obtain ⟨s1, s2, s3⟩ := hst
 (try refine RUN ?_)
 rw [hsz]
 refine EV.loopK (ι := Nat × List Nat × Value × Ows × Nat × Nat) [0, 2, 28] [2] (fun q => [(4, .v q.2.2.1), (5, .v (n64 q.2.2.2.2.1)), (6, .v (n64 q.2.2.2.2.2)), (29, .v (.int .i64 (q.1 : Int)))]) (fun _ => []) (fun q => q.2.2.2.1) (fun q G => G0.Le G ∧ OwnL 39 1 q.2.2.1 q.2.1.length (q.2.1.map n64) q.2.2.2.1 ∧ ParInv s q.1 q.2.1 q.2.2.2.2.1 q.2.2.2.2.2) (fun q => s.length - q.1) ((0, [], .slice none 0 0, [], 0, 1)) rfl rfl ⟨rfl, rfl, rfl, rfl, trivial⟩ trivial rfl (fun _ => rfl) (⟨Hp.Le.refl _, OwnL.nil _ _, ⟨Nat.zero_le _, Dig.nil _, Nat.le_refl _, ⟨0, by omega, rfl, by decide⟩, by rw [val_nil]; rfl, rfl, fun _ k => by omega⟩⟩) ?_
 rintro ⟨i, l, v, ow, part, unit⟩ G1 hG1 ⟨hG01, hown, hinv⟩
 dsimp only at hown hinv hG01
 (try refine RUN ?_)
 refine EV.cond rfl (fun hlt => ?_) (fun hlt => ?_)
 case refine_2 =>
  simp only [decide_eq_true_eq, decide_eq_false_iff_not, Int.not_lt, Int.not_le, beq_iff_eq, beq_eq_false_iff_ne, bne_iff_ne, bne_eq_false_iff_eq, ne_eq, Int.ofNat_lt, Int.ofNat_le, Int.natCast_inj, ge_iff_le, gt_iff_lt, Decidable.not_not, Bool.not_eq_true', Bool.not_eq_false', Bool.not_eq_eq_eq_not, Bool.not_true, Bool.not_false] at hlt
  have hi : i = s.length := by have := hinv.le; omega
  obtain ⟨e1, e2⟩ := hinv.last hi (by omega)
  have hv := hinv.sum
  have hall := hinv.all
  rw [e1, e2, hi, List.take_length, Nat.mul_one, Nat.add_zero] at hv
  rw [hi, List.take_length] at hall
  have hlen := hinv.len
  have hle := hinv.le
  (first | refine EVL.publishL [] ow [] ((List.append_nil _).symm) hown fun G2 hG2 hs2 => ?_ | refine EV.publishL [] ow [] ((List.append_nil _).symm) hown fun G2 hG2 hs2 => ?_)
  have hsN : SlN n64 G2 v l := hs2
  (try refine RUN ?_)
  refine EVL.call rfl rfl rfl rfl rfl (fromWords_pc hsN hinv.dig (by omega)) ?_
  rintro _ G3 rfl hG3
  (try refine RUN ?_)
  have hp : pN s = some (valD s) := if_pos ⟨s1, s2, s3, hall⟩
  rw [hp, hv]
  rfl
 simp only [decide_eq_true_eq, decide_eq_false_iff_not, Int.not_lt, Int.not_le, beq_iff_eq, beq_eq_false_iff_ne, bne_iff_ne, bne_eq_false_iff_eq, ne_eq, Int.ofNat_lt, Int.ofNat_le, Int.natCast_inj, ge_iff_le, gt_iff_lt, Decidable.not_not, Bool.not_eq_true', Bool.not_eq_false', Bool.not_eq_eq_eq_not, Bool.not_true, Bool.not_false] at hlt
 have hlt2 : i < s.length := by omega
 obtain ⟨c, hc⟩ : ∃ c, s[i]? = some c := ⟨_, List.getElem?_eq_getElem hlt2⟩
 obtain ⟨p1, p2, p3, ⟨k, p4, p5, p6⟩, p7, p8, _⟩ := hinv
 have hnone : isDg c = false → pN s = none := fun k => pN_bad (List.mem_of_getElem? hc) k
 have htk := take_snoc hc
 (try refine RUN ?_)
 refine EVL.strAt rfl rfl rfl rfl (by kernel_rfl) rfl rfl i rfl hc ?_
 (try refine RUN ?_)
 by_cases d1 : c.toNat < 48
 ·rw [decide_eq_true (show (c.toNat : Int) < 48 by omega)]
  (try refine RUN ?_)
  refine bad (hnone ?_)
  rw [← Bool.not_eq_true, isDg_iff]
  omega
 rw [decide_eq_false (show ¬ (c.toNat : Int) < 48 by omega)]
 (try refine RUN ?_)
 refine EVL.strAt rfl rfl rfl rfl (by kernel_rfl) rfl rfl i rfl hc ?_
 (try refine RUN ?_)
 by_cases d2 : c.toNat > 57
 ·rw [decide_eq_true (show (c.toNat : Int) > 57 by omega)]
  (try refine RUN ?_)
  refine bad (hnone ?_)
  rw [← Bool.not_eq_true, isDg_iff]
  omega
 rw [decide_eq_false (show ¬ (c.toNat : Int) > 57 by omega)]
 have hdg : isDg c = true := isDg_iff.2 ⟨by omega, by omega⟩
 have hdv := dgv hdg
 have hdl := dV_lt hdg
 have hpow := pow_le19 p4
 have h19 := pow_19 p4
 have hsum : val W64 l * (unit * 10) + (part * 10 + dV c) = valD (s.take (i + 1)) := by
  rw [htk, valD_snoc, ← p7, Nat.add_mul, Nat.mul_assoc]; omega
 have hall : (s.take (i + 1)).all isDg = true := by rw [htk, List.all_append, p8, List.all_cons, hdg]; rfl
 have w1 : IntKind.u64.wrap ((part : Int) * 10) = ((part * 10 : Nat) : Int) := by rw [IntKind.wrap_u64]; omega
 have w2 : IntKind.u64.wrap (((part * 10 : Nat) : Int) + (dV c : Int)) = ((part * 10 + dV c : Nat) : Int) := by rw [IntKind.wrap_u64]; omega
 have w3 : IntKind.u64.wrap ((unit : Int) * 10) = ((unit * 10 : Nat) : Int) := by rw [IntKind.wrap_u64]; omega
 have hu : unit * 10 < W64 := by rw [W64_val]; omega
 have hp : part * 10 + dV c < W64 := by rw [W64_val]; omega
 (try refine RUN ?_)
 refine EVL.strAt rfl rfl rfl rfl (by kernel_rfl) rfl rfl i rfl hc ?_
 (try refine RUN ?_)
 rw [hdv, w1, w2, w3]
 have hunit : unit * 10 = 10 ^ (k + 1) := by rw [p5, Nat.pow_succ]
 have hpart : part * 10 + dV c < 10 ^ (k + 1) := by rw [Nat.pow_succ]; omega
 generalize hU : unit * 10 = U at *
 generalize hP : part * 10 + dV c = Pt at *
 have hflush : (U = 10000000000000000000 ∨ i + 1 = s.length) → True := fun _ => trivial
 generalize hF : decide (U = 10000000000000000000 ∨ i + 1 = s.length) = F
 (try refine RUN ?_)
 refine EVL.meetK (ι := Unit) [0, 2, 4, 5, 6, 7, 28, 29] [2] (fun _ => [(61, .v (.bool F))]) (fun _ => []) (fun _ => ow) (fun _ G => G1.Le G) rfl rfl (fun _ => rfl) ?_ ?_
 ·by_cases f1 : U = 10000000000000000000
  ·rw [show ((U : Int) == 10000000000000000000) = true from beq_iff_eq.2 (by omega)]
   rw [decide_eq_true (Or.inl f1)] at hF
   subst hF
   (try refine RUN ?_)
   exact ⟨(), ⟨rfl, trivial⟩, (by repeat (first | exact trivial | refine And.intro rfl ?_)), trivial, (by repeat (first | exact trivial | refine And.intro rfl ?_)), rfl, Hp.Le.refl _⟩
  ·rw [show ((U : Int) == 10000000000000000000) = false from beq_eq_false_iff_ne.2 (by omega)]
   (try refine RUN ?_)
   rw [hsz, show IntKind.i64.wrap ((s.length : Int) - 1) = (s.length : Int) - 1 by rw [IntKind.wrap_i64]; omega]
   by_cases f2 : i + 1 = s.length
   ·rw [show ((i : Int) == (s.length : Int) - 1) = true from beq_iff_eq.2 (by omega)]
    rw [decide_eq_true (Or.inr f2)] at hF
    subst hF
    (try refine RUN ?_)
    exact ⟨(), ⟨rfl, trivial⟩, (by repeat (first | exact trivial | refine And.intro rfl ?_)), trivial, (by repeat (first | exact trivial | refine And.intro rfl ?_)), rfl, Hp.Le.refl _⟩
   ·rw [show ((i : Int) == (s.length : Int) - 1) = false from beq_eq_false_iff_ne.2 (by omega)]
    rw [decide_eq_false (fun k => k.elim f1 f2)] at hF
    subst hF
    (try refine RUN ?_)
    exact ⟨(), ⟨rfl, trivial⟩, (by repeat (first | exact trivial | refine And.intro rfl ?_)), trivial, (by repeat (first | exact trivial | refine And.intro rfl ?_)), rfl, Hp.Le.refl _⟩
 rintro _ G2 hG2
 cases F with
 | true =>
  (try refine RUN ?_)
  refine EVL.callW rfl rfl rfl rfl rfl ow [] (List.append_nil _).symm (mulAdd_pw hown p2 (by omega) hu hp) ?_
  rintro v' ow' G3 ⟨l', hown', hD', hv', hl'⟩ hG3
  (try refine RUN ?_)
  exact ⟨(i + 1, l', v', ow', 0, 1), ⟨rfl, rfl, rfl, by rw [wi_inc i (by omega)]; rfl, trivial⟩, (by repeat (first | exact trivial | refine And.intro rfl ?_)), trivial, (by repeat (first | exact trivial | refine And.intro rfl ?_)), List.append_nil _, ⟨hG01.trans (hG2.trans hG3), hown', ⟨hlt2, hD', by dsimp only; omega, ⟨0, by omega, rfl, (show 0 < 10 ^ 0 by decide)⟩, by dsimp only; rw [Nat.mul_one, Nat.add_zero, hv']; exact hsum, hall, fun _ _ => ⟨rfl, rfl⟩⟩⟩, hG2.trans hG3, by dsimp only; omega⟩
 | false =>
  have hF2 := of_decide_eq_false hF
  have hk : k + 1 ≤ 18 := by
   by_cases e : k = 18
   ·exact absurd (Or.inl (by rw [← hU, p5]; exact h19.2 e)) hF2
   ·omega
  (try refine RUN ?_)
  exact ⟨(i + 1, l, v, ow, Pt, U), ⟨rfl, rfl, rfl, by rw [wi_inc i (by omega)]; rfl, trivial⟩, (by repeat (first | exact trivial | refine And.intro rfl ?_)), trivial, (by repeat (first | exact trivial | refine And.intro rfl ?_)), rfl, ⟨hG01.trans hG2, hown, ⟨hlt2, p2, by dsimp only; omega, ⟨k + 1, hk, hunit, hpart⟩, hsum, hall, fun k => absurd (Or.inr k) hF2⟩⟩, hG2, by dsimp only; omega⟩
theorem sb_list (l : List UInt8) : (sb l).toList = l := by rw [Lib.toList_data]
theorem sb_cut (l : List UInt8) (a b : Nat) : (sb l).extract a b = sb ((l.drop a).take (b - a)) := Lib.extract_eq (sb l) a b
def hasMinus (l : List UInt8) : Prop := l.head? = some 45
instance (l : List UInt8) : Decidable (hasMinus l) := by unfold hasMinus; exact inferInstance
def unMinus (l : List UInt8) : List UInt8 := if l.head? = some 45 then l.tail else l
theorem unMinus_lib (l : List UInt8) : Lib.trimPrefix l [45] = unMinus l ∧ Lib.hasPrefix l [45] = decide (l.head? = some 45) := by
 cases l with
 | nil => exact ⟨rfl, rfl⟩
 | cons c l =>
  by_cases h : c = 45
  ·subst h; exact ⟨rfl, rfl⟩
  ·have hh : Lib.hasPrefix (c :: l) [45] = false := by
    show ((45 : UInt8) == c && _) = false
    rw [show ((45 : UInt8) == c) = false from beq_eq_false_iff_ne.2 fun k => h k.symm]; rfl
   have hn : ¬ (c :: l).head? = some 45 := fun k => h (Option.some.inj k)
   refine ⟨?_, by rw [hh, decide_eq_false hn]⟩
   unfold Lib.trimPrefix unMinus
   rw [hh, if_neg hn]
   rfl
theorem cutPrefix_pv (l : List UInt8) : PV Tryz.prog 67 #[.string (sb l), .string (sb [45])] (.tuple #[.string (sb (unMinus l)), .bool (decide (l.head? = some 45))]) :=
 ⟨(cOf Tryz.func67 rfl (by kernel_rfl)), fun W _ => (Tryz.strings_CutPrefix (sb l) (sb [45]) W).mono fun e W' ⟨h1, h2⟩ => ⟨by
  rw [h1, ← (unMinus_lib l).1, ← (unMinus_lib l).2], by rw [h2]; exact Below.refl _ _⟩⟩
theorem ten_16 (n : Nat) : 10 ^ n ≤ 2 ^ (4 * n) := by
 rw [Nat.pow_mul]
 exact Nat.pow_le_pow_left (by decide) n
theorem valD_bl {l : List UInt8} (h : l.all isDg = true) (hl : l.length ≤ 200) : bl (valD l) ≤ 800 :=
 Nat.le_trans (bl_le (Nat.lt_of_lt_of_le (valD_lt' h) (ten_16 _))) (by omega)
theorem pN_bl {l : List UInt8} {n : Nat} (h : pN l = some n) : bl n ≤ 800 := by
 unfold pN at h
 split at h
 ·rename_i k
  cases h
  exact valD_bl k.2.2.2 k.2.1
 ·cases h
theorem bl_eq0 {n : Nat} : bl n = 0 ↔ n = 0 := by
 constructor
 ·intro h
  have := lt_bl n
  rw [h] at this
  simpa using this
 ·rintro rfl; exact bl_zero
set_option maxHeartbeats 4000000 in
theorem wholeParse_pc {H : Hp} (l : List UInt8) : PC Tryz.prog 37 #[.string (sb l)] H fun r _ => r = .tuple #[intV ((pI l).getD 0), .bool (pI l).isSome] := by
 have hcp := cutPrefix_pv l
 have hnp := fun G : Hp => natParse_pc (H := G) (unMinus l)
 have hz : natV 0 = .agg #[.int .u64 0, .string ⟨#[]⟩] := natV_small (by decide)
 have hz2 : intV 0 = .agg #[.bool false, .int .u64 0, .string ⟨#[]⟩] := by
  show Value.agg #[.bool (decide ((0 : Int) < 0)), _, _] = _
  have e : natV 0 = .agg #[.int .u64 (lo 0 : Int), .string (moreB 0)] := rfl
  rw [hz] at e
  injection e with e
  have e1 : Value.int .u64 (0 : Int) = .int .u64 (lo 0 : Int) := by injection e with e; injection e with e1 e2
  have e2 : Value.string ⟨#[]⟩ = .string (moreB 0) := by injection e with e; injection e with e1 e2; injection e2 with e2 e3
  rw [show ((0 : Int)).natAbs = 0 from rfl, ← e1, ← e2]
  rfl
 have bad : pI l = none → Value.tuple #[.agg #[.bool false, .int .u64 0, .string ⟨#[]⟩], .bool false] = Value.tuple #[intV ((pI l).getD 0), .bool (pI l).isSome] := fun e => by rw [e, ← hz2]; rfl
 refine PC.body Tryz.tab_ok Tryz.func37 rfl (by kernel_rfl) Tryz.ntmps37 rfl rfl ?_
 repeat (first | refine RUN ?_ | refine CV (hcp) ?_ | refine CE (hcp) ?_)
 refine EVL.call rfl rfl rfl rfl rfl (hnp _) ?_
 rintro _ G1 rfl hG1
 (try refine RUN ?_)
 cases hpn : pN (unMinus l) with
 | none =>
  (try refine RUN ?_)
  refine bad ?_
  unfold pI unMinus at *
  split
  ·rename_i k; rw [if_pos k] at hpn; rw [hpn]
  ·rename_i k; rw [if_neg k] at hpn; rw [hpn]; rfl
 | some n =>
  have hbn := pN_bl hpn
  have hbits := bits_pv n (by omega)
  have hfr := from_pv (decide (l.head? = some 45)) n (by omega)
  by_cases h : l.head? = some 45
  ·rw [decide_eq_true h] at hfr ⊢
   have hpn' : pN l.tail = some n := by unfold unMinus at hpn; rwa [if_pos h] at hpn
   have hpI : pI l = if n = 0 then none else some (-(n : Int)) := by
    unfold pI
    rw [if_pos h, hpn']
   repeat (first | refine RUN ?_ | refine CV (hbits) ?_ | refine CE (hbits) ?_)
   by_cases h0 : n = 0
   ·rw [show (((bl n : Nat) : Int) == 0) = true from beq_iff_eq.2 (by rw [bl_eq0.2 h0]; rfl)]
    (try refine RUN ?_)
    exact bad (by rw [hpI, if_pos h0])
   ·rw [show (((bl n : Nat) : Int) == 0) = false from beq_eq_false_iff_ne.2 (fun k => h0 (bl_eq0.1 (by omega)))]
    repeat (first | refine RUN ?_ | refine CV (hfr) ?_ | refine CE (hfr) ?_)
    rw [hpI, if_neg h0]
    rfl
  ·rw [decide_eq_false h] at hfr ⊢
   have hpn' : pN l = some n := by unfold unMinus at hpn; rwa [if_neg h] at hpn
   have hpI : pI l = some (n : Int) := by
    unfold pI
    rw [if_neg h, hpn']; rfl
   repeat (first | refine RUN ?_ | refine CV (hfr) ?_ | refine CE (hfr) ?_)
   rw [hpI]
   rfl
theorem fracV_z : fracV 0 = .agg #[.bool false, .int .u64 0, .string ⟨#[]⟩, .int .u64 0, .string ⟨#[]⟩] := by
 show frV 0 0 = _
 rw [frV_zero, show (0 : Int).natAbs = 0 from rfl, moreB_empty (n := 0) (by decide)]; rfl
theorem make0_pv (n : Int) : PV Tryz.prog 46 #[intV n, intV 0] (.tuple #[fracV 0, .bool false]) := by
 have hs := wholeSign_pv 0 (by show bl 0 ≤ _; rw [bl_zero]; omega)
 refine PV.of_pc ?_
 refine PC.body Tryz.tab_ok Tryz.func46 rfl (by kernel_rfl) Tryz.ntmps46 rfl rfl ?_
 repeat (first | refine RUN ?_ | refine CV (hs) ?_ | refine CE (hs) ?_)
 rw [fracV_z]
section
variable {P : Program} {n : Nat} {ops : Array Oper} {o : Oper} {rest : List Oper} {env : Env} {bx : Bxs} {sb' : Bxs} {H : Hs} {Q : EQ} {d : Nat}
theorem run_strSlc {T : TypeId} {x : Operand} {lo hi : Option Operand} (ho : o.op = .slice T x lo hi none) (hT : P.underlying T = some .string)
  {s : ByteArray} (hx : env.op x = some (.v (.string s))) (l h : Nat) (hlo : lo = none ∧ l = 0 ∨ ∃ y k, lo = some y ∧ env.op y = some (.v (.int k (l : Int)))) (hhi : hi = none ∧ h = s.size ∨ ∃ y k, hi = some y ∧ env.op y = some (.v (.int k (h : Int)))) (hlh : l ≤ h) (hhs : h ≤ s.size)
  (ev : Operand → Value) (W : World) (he : ∀ y x, y ∈ o.op.operands → env.op y = some (.v x) → ev y = x) : (execOp ev o).run P W = .ok (.value (.string (s.extract l h))) W := by
 have h1 : ev x = .string s := he x _ (by simp [ho, Op.operands]) hx
 unfold execOp
 simp only [ho, Instr.sliceAt, h1, Option.map_none]
 rcases hlo with ⟨rfl, rfl⟩ | ⟨y, k, rfl, hy⟩
 ·rcases hhi with ⟨rfl, rfl⟩ | ⟨y', k', rfl, hy'⟩
  ·simp [run_underlying hT, Instr.slice, Instr.sliceBounds]
  ·have h2 : ev y' = .int k' h := he y' _ (by simp [ho, Op.operands]) hy'
   simp [run_underlying hT, Instr.slice, Instr.sliceBounds, Instr.sliceBound, h2, asIntOf, hhs]
 ·have h3 : ev y = .int k l := he y _ (by simp [ho, Op.operands]) hy
  rcases hhi with ⟨rfl, rfl⟩ | ⟨y', k', rfl, hy'⟩
  ·simp [run_underlying hT, Instr.slice, Instr.sliceBounds, Instr.sliceBound, h3, asIntOf, hlh]
  ·have h2 : ev y' = .int k' h := he y' _ (by simp [ho, Op.operands]) hy'
   simp [run_underlying hT, Instr.slice, Instr.sliceBounds, Instr.sliceBound, h2, h3, asIntOf, hhs, hlh]
theorem DJ.strSlc {tail l : List Oper} {x : Nat → Value} {y : Nat → Ows} {ow' : Ows} {kl ks : List DK} {i : Nat} {bx' : Bxs} {Γ : Fcts} {T : TypeId} {u : Operand} {lo hi : Option Operand} (ho : o.op = .slice T u lo hi none) (hw : wantB ops env o = some true) (hd : o.dst = some d) (hn : Nat.blt d n = true) (hT : P.underlying T = some .string)
  {s : ByteArray} (hx : env.op u = some (.v (.string s))) (a b : Nat) (hlo : lo = none ∧ a = 0 ∨ ∃ y k, lo = some y ∧ env.op y = some (.v (.int k (a : Int)))) (hhi : hi = none ∧ b = s.size ∨ ∃ y k, hi = some y ∧ env.op y = some (.v (.int k (b : Int)))) (hlh : a ≤ b) (hhs : b ≤ s.size)
  (h : DJ P n ops tail sb' bx H Q x y kl (i + 1) l ks ((d, .v (.string (s.extract a b))) :: env) bx' Γ ow') : DJ P n ops tail sb' bx H Q x y kl i (o :: l) (.sv (.v (.string (s.extract a b))) :: ks) env bx' Γ ow' :=
 DJ.ofVal (ValOk.gen hw (run_strSlc ho hT hx a b hlo hhi hlh hhs)) hd hn rfl h
end
theorem idxB : ∀ (l : List UInt8) (c : UInt8), (c ∉ l ∧ Lib.indexByte l c = -1) ∨ ∃ i : Nat, i < l.length ∧ Lib.indexByte l c = (i : Int) ∧ l[i]? = some c ∧ ∀ j, j < i → l[j]? ≠ some c
 | [], c => .inl ⟨List.not_mem_nil, rfl⟩
 | b :: l, c => by
  unfold Lib.indexByte
  by_cases h : b = c
  ·refine .inr ⟨0, by simp, ?_, by rw [h]; rfl, fun j hj => by omega⟩
   rw [if_pos (by simpa using h)]; rfl
  ·rw [if_neg (by simpa using h)]
   rcases idxB l c with ⟨h1, h2⟩ | ⟨i, h1, h2, h3, h4⟩
   ·refine .inl ⟨fun k => (List.mem_cons.1 k).elim (fun e => h e.symm) h1, ?_⟩
    rw [h2]; rfl
   ·refine .inr ⟨i + 1, by simp <;> omega, ?_, by simpa using h3, fun j hj => ?_⟩
    ·rw [h2, if_neg (by simp <;> omega)]; omega
    ·cases j with
     | zero => intro k; exact h (Option.some.inj (by simpa using k))
     | succ j =>
      have := h4 j (by omega)
      simpa using this
theorem not_cut {c : UInt8} {l : List UInt8} (h : c ∉ l) : bef c l = l ∧ aft c l = [] := by
 have h1 : ∀ m : List UInt8, c ∉ m → m.takeWhile (· != c) = m ∧ m.dropWhile (· != c) = [] := by
  intro m
  induction m with
  | nil => intro _; exact ⟨rfl, rfl⟩
  | cons x m ih =>
   intro hm
   have hx : x ≠ c := fun e => hm (by rw [e]; exact List.mem_cons_self ..)
   obtain ⟨e1, e2⟩ := ih fun k => hm (List.mem_cons_of_mem _ k)
   rw [List.takeWhile_cons, List.dropWhile_cons, if_pos (by simpa using hx), if_pos (by simpa using hx), e1, e2]
   exact ⟨rfl, rfl⟩
 obtain ⟨e1, e2⟩ := h1 l h
 exact ⟨e1, by unfold aft; rw [e2]; rfl⟩
theorem index_pv (l : List UInt8) (c : UInt8) : PV Tryz.prog 101 #[.string (sb l), .string (sb [c])] (.int .i64 (Lib.indexByte l c)) :=
 ⟨(cOf Tryz.func101 rfl (by kernel_rfl)), fun W _ => (Tryz.stringslite_Index_one (sb l) c W).mono fun e W' ⟨h1, h2⟩ => ⟨by rw [h1], by rw [h2]; exact Below.refl _ _⟩⟩
set_option maxHeartbeats 1000000 in
theorem cutS_pv (l : List UInt8) (c : UInt8) (hl : l.length ≤ 9223372036854775807) : PV Tryz.prog 65 #[.string (sb l), .string (sb [c])] (.tuple #[.string (sb (bef c l)), .string (sb (aft c l)), .bool (l.contains c)]) := by
 have hi := index_pv l c
 have hs1 : (sb [c]).size = 1 := rfl
 have hsz := sb_size l
 refine PV.of_pc ?_
 refine PC.body Tryz.tab_ok Tryz.func65 rfl (by kernel_rfl) Tryz.ntmps65 rfl rfl ?_
 rcases idxB l c with ⟨h1, h2⟩ | ⟨i, h1, h2, h3, h4⟩
 ·rw [h2] at hi
  obtain ⟨e1, e2⟩ := not_cut h1
  rw [e1, e2, show l.contains c = false from by rw [← Bool.not_eq_true, List.contains_iff_mem]; exact h1]
  repeat (first | refine RUN ?_ | refine CV (hi) ?_ | refine CE (hi) ?_)
  rfl
 ·rw [h2] at hi
  obtain ⟨e1, e2⟩ := cut_at h3 h4
  rw [e1, e2, show l.contains c = true from List.contains_iff_mem.2 (List.mem_of_getElem? h3)]
  repeat (first | refine RUN ?_ | refine CV (hi) ?_ | refine CE (hi) ?_)
  rw [decide_eq_true (show (i : Int) ≥ 0 by omega)]
  (try refine RUN ?_)
  apply EV.drawn 11 (by kernel_rfl) (by kernel_rfl); intro xv yw
  (repeat refine' DD ?_)
  refine' DJ.strSlc rfl rfl rfl rfl (by kernel_rfl) rfl 0 i (.inl ⟨rfl, rfl⟩) (.inr ⟨_, IntKind.i64, rfl, rfl⟩) (by omega) (by rw [hsz]; omega) ?_; rotate_left
  (repeat refine' DD ?_)
  rw [show IntKind.i64.wrap ((i : Int) + (((sb [c]).size : Nat) : Int)) = ((i + 1 : Nat) : Int) by rw [hs1, IntKind.wrap_i64]; omega]
  refine' DJ.strSlc rfl rfl rfl rfl (by kernel_rfl) rfl (i + 1) l.length (.inr ⟨_, IntKind.i64, rfl, rfl⟩) (.inl ⟨rfl, hsz.symm⟩) (by omega) (by rw [hsz]; omega) ?_; rotate_left
  rw [sb_cut, sb_cut]
  (repeat refine' DD ?_)
  (refine DJ.nil (fun G hG hF => ?_); (case hS => rfl); (case hS2 => rfl))
  (try refine RUN ?_)
  rw [Nat.sub_zero, List.drop_zero, List.take_of_length_le (l := l.drop (i + 1)) (by rw [List.length_drop]; omega)]
theorem cut_pv (l : List UInt8) (c : UInt8) (hl : l.length ≤ 9223372036854775807) : PV Tryz.prog 34 #[.string (sb l), .string (sb [c])] (.tuple #[.string (sb (bef c l)), .string (sb (aft c l)), .bool (l.contains c)]) := by
 have hc := cutS_pv l c hl
 refine PV.of_pc ?_
 refine PC.body Tryz.tab_ok Tryz.func34 rfl (by kernel_rfl) Tryz.ntmps34 rfl rfl ?_
 repeat (first | refine RUN ?_ | refine CV (hc) ?_ | refine CE (hc) ?_)
 rfl
theorem trimL_pv (l : List UInt8) (c : UInt8) (hc : c.toNat < 128) : PV Tryz.prog 69 #[.string (sb l), .string (sb [c])] (.string (sb (Lib.trimLeftB l c))) :=
 ⟨(cOf Tryz.func69 rfl (by kernel_rfl)), fun W _ => (Tryz.strings_TrimLeft_one (sb l) c hc W).mono fun e W' ⟨h1, h2⟩ => ⟨by rw [h1], by rw [h2]; exact Below.refl _ _⟩⟩
theorem ten_bl {e : Nat} (h : e ≤ 200) : bl (10 ^ e) ≤ 801 :=
 Nat.le_trans (bl_le (k := 4 * e + 1) (Nat.lt_of_le_of_lt (ten_16 e) (Nat.pow_lt_pow_right (by omega) (by omega)))) (by omega)
theorem bitsLenN_pv (n : Nat) (h : n < W64) : PV Tryz.prog 104 #[.int .u64 (n : Int)] (.int .i64 (bl n : Int)) :=
 ⟨(cOf Tryz.func104 rfl (by kernel_rfl)), fun W _ => (Tryz.bits_Len (n : Int) W (by omega) (by rw [W64_val] at h; omega)).mono fun e W' ⟨h1, h2⟩ => ⟨by rw [h1, ← bl_bitLen n h]; rfl, by rw [h2]; exact Below.refl _ _⟩⟩
theorem and_one (x : Nat) (h : x < 256) : IntKind.i64.wrap (((BitVec.ofInt IntKind.i64.bits (x : Int) &&& BitVec.ofInt IntKind.i64.bits 1).toNat : Nat) : Int) = ((x % 2 : Nat) : Int) := by
 have : ∀ y : Fin 256, IntKind.i64.wrap (((BitVec.ofInt IntKind.i64.bits ((y.val : Nat) : Int) &&& BitVec.ofInt IntKind.i64.bits 1).toNat : Nat) : Int) = ((y.val % 2 : Nat) : Int) := by decide +kernel
 exact this ⟨x, h⟩
theorem fdiv_two (k r : Nat) : ((k : Int)).fdiv (2 ^ r) = ((k / 2 ^ r : Nat) : Int) := by
 rw [Int.fdiv_eq_ediv_of_nonneg _ (by exact_mod_cast Nat.zero_le _)]
 norm_cast
theorem half_step (k r : Nat) : k / 2 ^ r = 2 * (k / 2 ^ (r + 1)) + (k / 2 ^ r) % 2 := by
 have h : k / 2 ^ (r + 1) = k / 2 ^ r / 2 := by rw [Nat.pow_succ, Nat.div_div_eq_div_mul]
 rw [h]
 generalize k / 2 ^ r = a
 omega
set_option maxHeartbeats 4000000 in
theorem pow10_pv (k : Nat) (hk : k ≤ 200) : PV Tryz.prog 68 #[natV 10, .int .i64 (k : Int)] (.tuple #[natV (10 ^ k), .bool true]) := by
 have hlen := bitsLenN_pv k (by rw [W64_val]; omega)
 have hb8 : bl k ≤ 8 := bl_le (by omega)
 have hlt := lt_bl k
 have hmul : ∀ a b : Nat, a ≤ 200 → b ≤ 200 → PV Tryz.prog 61 #[natV (10 ^ a), natV (10 ^ b)] (natV (10 ^ (a + b))) := fun a b ha hb => by
  rw [Nat.pow_add]
  exact natMul_pv _ _ (Nat.le_trans (ten_bl ha) (by omega)) (Nat.le_trans (ten_bl hb) (by omega))
 refine PV.of_pc ?_
 refine PC.body Tryz.tab_ok Tryz.func68 rfl (by kernel_rfl) Tryz.ntmps68 rfl rfl ?_
 (try refine RUN ?_)
 rw [decide_eq_false (show ¬ (k : Int) < 0 by omega)]
 (try refine RUN ?_)
 rw [decide_eq_false (show ¬ (k : Int) > 65536 by omega)]
 repeat (first | refine RUN ?_ | refine CV (natOf_pv 1 (by decide)) ?_ | refine CE (natOf_pv 1 (by decide)) ?_)
 rw [show IntKind.u64.wrap (k : Int) = (k : Int) by rw [IntKind.wrap_u64]; omega]
 repeat (first | refine RUN ?_ | refine CV (hlen) ?_ | refine CE (hlen) ?_)
 rw [show IntKind.i64.wrap ((bl k : Int) - 1) = (bl k : Int) - 1 by rw [IntKind.wrap_i64]; omega]
 refine EV.loopK (ι := Nat) [0, 1, 2, 4, 6] [2, 4] (fun r => [(7, .v (.int .i64 ((r : Int) - 1)))]) (fun r => [(6, 41, [.int .u64 (lo (10 ^ (k / 2 ^ r)) : Int), .string (moreB (10 ^ (k / 2 ^ r)))])]) (fun _ => []) (fun r _ => r ≤ 8) (fun r => r) (bl k) rfl rfl ⟨rfl, trivial⟩ ⟨by rw [Nat.div_eq_of_lt hlt]; rfl, trivial⟩ rfl (fun _ => rfl) (hb8) ?_
 rintro r G1 hG1 hr
 (try refine RUN ?_)
 cases r with
 | zero =>
  rw [show decide ((((0 : Nat) : Int)) - 1 ≥ 0) = false from rfl]
  (try refine RUN ?_)
  rw [Nat.pow_zero, Nat.div_one]
 | succ r =>
  have e1 : (((r + 1 : Nat) : Int)) - 1 = (r : Int) := by omega
  have hq : k / 2 ^ (r + 1) ≤ 100 := by
   have h2 : 2 ≤ 2 ^ (r + 1) := by rw [Nat.pow_succ]; have := Nat.one_le_two_pow (n := r); omega
   have := Nat.div_le_div_left (a := k) h2 (by omega)
   omega
  have hx : k / 2 ^ r ≤ 200 := Nat.le_trans (Nat.div_le_self _ _) hk
  have hs := half_step k r
  have hm1 := hmul (k / 2 ^ (r + 1)) (k / 2 ^ (r + 1)) (by omega) (by omega)
  have hm2 := hmul (k / 2 ^ (r + 1) + k / 2 ^ (r + 1)) 1 (by omega) (by omega)
  have hand := and_one (k / 2 ^ r) (by omega)
  have hf := fdiv_two k r
  have hw : IntKind.i64.wrap ((r : Int) - 1) = (r : Int) - 1 := by rw [IntKind.wrap_i64]; omega
  rw [e1]
  rw [decide_eq_true (show (r : Int) ≥ 0 by omega)]
  repeat (first | refine RUN ?_ | refine CV (hm1) ?_ | refine CE (hm1) ?_)
  rw [Nat.min_eq_left (show r ≤ IntKind.i64.bits by show r ≤ 64; omega), hf, hand]
  have hdone : ∀ t, k / 2 ^ r = t → 10 ^ (k / 2 ^ r) = 10 ^ t := fun t h => by rw [h]
  generalize hX : k / 2 ^ r = X at *
  generalize hY : k / 2 ^ (r + 1) = Y at *
  by_cases hodd : X % 2 = 1
  ·rw [show (((X % 2 : Nat) : Int) == 1) = true from beq_iff_eq.2 (by omega)]
   repeat (first | refine RUN ?_ | refine CV (hm2) ?_ | refine CE (hm2) ?_)
   refine ⟨r, ⟨by rw [hw]; rfl, trivial⟩, (by repeat (first | exact trivial | refine And.intro rfl ?_)), ⟨by rw [hX, show X = Y + Y + 1 by omega]; rfl, trivial⟩, (by repeat (first | exact trivial | refine And.intro rfl ?_)), rfl, by omega, Hp.Le.refl _, by omega⟩
  ·rw [show (((X % 2 : Nat) : Int) == 1) = false from beq_eq_false_iff_ne.2 (by omega)]
   (try refine RUN ?_)
   refine ⟨r, ⟨by rw [hw]; rfl, trivial⟩, (by repeat (first | exact trivial | refine And.intro rfl ?_)), ⟨by rw [hX, show X = Y + Y by omega]; rfl, trivial⟩, (by repeat (first | exact trivial | refine And.intro rfl ?_)), rfl, by omega, Hp.Le.refl _, by omega⟩
theorem trim_facts : ∀ t : List UInt8, t.all isDg = true → valD (Lib.trimLeftB t 48) = valD t ∧ (Lib.trimLeftB t 48).all isDg = true ∧ (Lib.trimLeftB t 48).length ≤ t.length ∧ (Lib.trimLeftB t 48).head? ≠ some 48
 | [], _ => ⟨rfl, rfl, Nat.le_refl _, by simp [Lib.trimLeftB]⟩
 | c :: t, h => by
  rw [List.all_cons, Bool.and_eq_true] at h
  by_cases e : c = 48
  ·subst e
   obtain ⟨a, b, c, d⟩ := trim_facts t h.2
   have e1 : Lib.trimLeftB (48 :: t) 48 = Lib.trimLeftB t 48 := by unfold Lib.trimLeftB; rw [List.dropWhile_cons, if_pos (by simp)]
   have e2 : valD (48 :: t) = valD t := by
    unfold valD
    rw [List.foldl_cons, show 0 * 10 + dV 48 = 0 by decide]
   rw [e1, e2]
   exact ⟨a, b, by rw [List.length_cons]; omega, d⟩
  ·have e1 : Lib.trimLeftB (c :: t) 48 = c :: t := by unfold Lib.trimLeftB; rw [List.dropWhile_cons, if_neg (by simpa using e)]
   rw [e1]
   exact ⟨rfl, by rw [List.all_cons, h.1, h.2]; rfl, Nat.le_refl _, fun k => e (Option.some.inj k)⟩
theorem trim_pN {t : List UInt8} (h : okD t) (hne : Lib.trimLeftB t 48 ≠ []) : pN (Lib.trimLeftB t 48) = some (valD t) := by
 obtain ⟨a, b, c, d⟩ := trim_facts t h.2.2
 have h0 : 1 ≤ (Lib.trimLeftB t 48).length := by
  rcases e : Lib.trimLeftB t 48 with _ | ⟨x, m⟩
  ·exact absurd e hne
  ·simp
 have h2 := h.2.1
 unfold pN
 rw [if_pos ⟨h0, by omega, fun k => d k.2, b⟩, a]
theorem pI_bl {l : List UInt8} {z : Int} (h : pI l = some z) : bl z.natAbs ≤ 800 := by
 unfold pI at h
 split at h
 ·cases hp : pN l.tail with
  | none => rw [hp] at h; cases h
  | some n =>
   have hb := pN_bl hp
   rw [hp] at h
   have h' : (if n = 0 then none else some (-(n : Int))) = some z := h
   by_cases h0 : n = 0
   ·rw [if_pos h0] at h'
    cases h'
   ·rw [if_neg h0] at h'
    cases h'
    rw [show (-(n : Int)).natAbs = n by omega]
    exact hb
 ·cases hp : pN l with
  | none => rw [hp] at h; cases h
  | some n =>
   have hb := pN_bl hp
   rw [hp] at h
   cases h
   exact hb
set_option maxHeartbeats 4000000 in
theorem parseOver_pc {H : Hp} (s t : List UInt8) : PC Tryz.prog 35 #[.string (sb s), .string (sb t)] H fun r _ => r = .tuple #[fracV ((pOver s t).getD 0), .bool (pOver s t).isSome] := by
 have hI := fun G : Hp => wholeParse_pc (H := G) s
 have hN := fun G : Hp => natParse_pc (H := G) t
 have bad : pOver s t = none → Value.tuple #[Value.agg #[.bool false, .int .u64 0, .string ⟨#[]⟩, .int .u64 0, .string ⟨#[]⟩], .bool false] = .tuple #[fracV ((pOver s t).getD 0), .bool (pOver s t).isSome] := fun e => by rw [e, ← fracV_z]; rfl
 refine PC.body Tryz.tab_ok Tryz.func35 rfl (by kernel_rfl) Tryz.ntmps35 rfl rfl ?_
 (try refine RUN ?_)
 refine EVL.call rfl rfl rfl rfl rfl (hI _) ?_
 rintro _ G1 rfl hG1
 cases hz : pI s with
 | none =>
  (try refine RUN ?_)
  exact bad (by unfold pOver; rw [hz])
 | some z =>
  have bz := pI_bl hz
  (try refine RUN ?_)
  refine EVL.call rfl rfl rfl rfl rfl (hN _) ?_
  rintro _ G2 rfl hG2
  cases hd : pN t with
  | none =>
   (try refine RUN ?_)
   exact bad (by unfold pOver; rw [hz, hd])
  | some n =>
   have bn := pN_bl hd
   have hfr := from_pv false n (by omega)
   have ho : pOver s t = if n = 0 then none else some (mkRat z n) := by unfold pOver; rw [hz, hd]
   (try refine RUN ?_)
   by_cases h0 : n = 0
   ·subst h0
    (apply EV.drawn 6 (by kernel_rfl) (by kernel_rfl); intro xv yw; (repeat (first | refine' DD ?_ | (refine' DC (hfr) (h := ?_); rotate_left) | (refine' DC (make0_pv z) (h := ?_); rotate_left))); refine DJ.nil (fun G hG hF => ?_); (case hS => rfl); (case hS2 => rfl))
    (try refine RUN ?_)
    rw [ho, if_pos rfl]
    rfl
   ·have hm := make_pv z (n : Int) (by show bl _ ≤ _; omega) (by show bl n ≤ _; omega) (by omega)
    rw [if_neg (show ¬ (n : Int) < 0 by omega), show ((n : Int)).natAbs = n from rfl] at hm
    (apply EV.drawn 6 (by kernel_rfl) (by kernel_rfl); intro xv yw; (repeat (first | refine' DD ?_ | (refine' DC (hfr) (h := ?_); rotate_left) | (refine' DC (hm) (h := ?_); rotate_left))); refine DJ.nil (fun G hG hF => ?_); (case hS => rfl); (case hS2 => rfl))
    (try refine RUN ?_)
    rw [ho, if_neg h0]
    rfl
theorem okD_any {t : List UInt8} (h1 : t ≠ []) (h2 : t.length ≤ 200) (h3 : t.all isDg = true) : okD t := ⟨by
 rcases t with _ | ⟨x, m⟩
 ·exact absurd rfl h1
 ·simp, h2, h3⟩
set_option maxHeartbeats 16000000 in
theorem parseDec_pc {H : Hp} (s t : List UInt8) : PC Tryz.prog 36 #[.string (sb s), .string (sb t)] H fun r _ => r = .tuple #[fracV ((pDec s t).getD 0), .bool (pDec s t).isSome] := by
 have hcp := cutPrefix_pv s
 have hN := fun G : Hp => natParse_pc (H := G) (unMinus s)
 have bad : pDec s t = none → Value.tuple #[Value.agg #[.bool false, .int .u64 0, .string ⟨#[]⟩, .int .u64 0, .string ⟨#[]⟩], .bool false] = .tuple #[fracV ((pDec s t).getD 0), .bool (pDec s t).isSome] := fun e => by rw [e, ← fracV_z]; rfl
 have hsz := sb_size t
 have hbad : ¬ okD t → pDec s t = none := fun k => by
  unfold pDec
  generalize pN _ = o
  cases o with
  | none => rfl
  | some n => show (if okD t then _ else _) = none; rw [if_neg k]
 refine PC.body Tryz.tab_ok Tryz.func36 rfl (by kernel_rfl) Tryz.ntmps36 rfl rfl ?_
 repeat (first | refine RUN ?_ | refine CV (hcp) ?_ | refine CE (hcp) ?_)
 refine EVL.call rfl rfl rfl rfl rfl (hN _) ?_
 rintro _ G1 rfl hG1
 cases hp : pN (unMinus s) with
 | none =>
  (try refine RUN ?_)
  exact bad (by
   unfold pDec
   rw [show pN (if s.head? = some 45 then s.tail else s) = none from hp])
 | some n =>
 have bn := pN_bl hp
 have hdec : okD t → pDec s t = some (mkRat (signZ (s.head? = some 45) (n * 10 ^ t.length + valD t)) (10 ^ t.length)) := fun k => by
  unfold pDec
  rw [show pN (if s.head? = some 45 then s.tail else s) = some n from hp]
  show (if okD t then _ else _) = _
  rw [if_pos k]
 (try refine RUN ?_)
 have hnil : (⟨#[]⟩ : ByteArray).toList = ([] : List UInt8) := sb_list []
 rw [sb_list, hnil]
 by_cases ht : t = []
 ·subst ht
  (try refine RUN ?_)
  exact bad (hbad fun k => by have := k.1; simp at this)
 rw [show (t == ([] : List UInt8)) = false from beq_eq_false_iff_ne.2 ht]
 (try refine RUN ?_)
 rw [hsz]
 by_cases hlen : t.length > 200
 ·rw [decide_eq_true (show (t.length : Int) > 200 by omega)]
  (try refine RUN ?_)
  exact bad (hbad fun k => by have := k.2.1; omega)
 rw [decide_eq_false (show ¬ (t.length : Int) > 200 by omega)]
 (try refine RUN ?_)
 rw [hsz]
 refine EV.loopK (ι := Nat) [0, 1, 4, 7, 8, 38] [4, 8] (fun i => [(39, .v (.int .i64 (i : Int)))]) (fun _ => []) (fun _ => []) (fun i _ => i ≤ t.length ∧ (t.take i).all isDg = true) (fun i => t.length - i) (0) rfl rfl ⟨rfl, trivial⟩ trivial rfl (fun _ => rfl) (⟨Nat.zero_le _, rfl⟩) ?_
 rintro i G2 hG2 ⟨hi, hall⟩
 (try refine RUN ?_)
 refine EV.cond rfl (fun hlt => ?_) (fun hlt => ?_)
 ·simp only [decide_eq_true_eq, decide_eq_false_iff_not, Int.not_lt, Int.not_le, beq_iff_eq, beq_eq_false_iff_ne, bne_iff_ne, bne_eq_false_iff_eq, ne_eq, Int.ofNat_lt, Int.ofNat_le, Int.natCast_inj, ge_iff_le, gt_iff_lt, Decidable.not_not, Bool.not_eq_true', Bool.not_eq_false', Bool.not_eq_eq_eq_not, Bool.not_true, Bool.not_false] at hlt
  obtain ⟨c, hc⟩ : ∃ c, t[i]? = some c := ⟨_, List.getElem?_eq_getElem (by omega)⟩
  have hnone : isDg c = false → pDec s t = none := fun k => hbad (okD_bad (List.mem_of_getElem? hc) k)
  have htk := take_snoc hc
  (try refine RUN ?_)
  refine EVL.strAt rfl rfl rfl rfl (by kernel_rfl) rfl rfl i rfl hc ?_
  (try refine RUN ?_)
  by_cases d1 : c.toNat < 48
  ·rw [decide_eq_true (show (c.toNat : Int) < 48 by omega)]
   (try refine RUN ?_)
   refine bad (hnone ?_)
   rw [← Bool.not_eq_true, isDg_iff]
   omega
  rw [decide_eq_false (show ¬ (c.toNat : Int) < 48 by omega)]
  (try refine RUN ?_)
  refine EVL.strAt rfl rfl rfl rfl (by kernel_rfl) rfl rfl i rfl hc ?_
  (try refine RUN ?_)
  by_cases d2 : c.toNat > 57
  ·rw [decide_eq_true (show (c.toNat : Int) > 57 by omega)]
   (try refine RUN ?_)
   refine bad (hnone ?_)
   rw [← Bool.not_eq_true, isDg_iff]
   omega
  rw [decide_eq_false (show ¬ (c.toNat : Int) > 57 by omega)]
  have hdg : isDg c = true := isDg_iff.2 ⟨by omega, by omega⟩
  (try refine RUN ?_)
  exact ⟨i + 1, ⟨by rw [wi_inc i (by omega)]; rfl, trivial⟩, (by repeat (first | exact trivial | refine And.intro rfl ?_)), trivial, (by repeat (first | exact trivial | refine And.intro rfl ?_)), rfl, ⟨by omega, by rw [htk, List.all_append, hall, List.all_cons, hdg]; rfl⟩, Hp.Le.refl _, by omega⟩
 ·simp only [decide_eq_true_eq, decide_eq_false_iff_not, Int.not_lt, Int.not_le, beq_iff_eq, beq_eq_false_iff_ne, bne_iff_ne, bne_eq_false_iff_eq, ne_eq, Int.ofNat_lt, Int.ofNat_le, Int.natCast_inj, ge_iff_le, gt_iff_lt, Decidable.not_not, Bool.not_eq_true', Bool.not_eq_false', Bool.not_eq_eq_eq_not, Bool.not_true, Bool.not_false] at hlt
  obtain rfl : i = t.length := by omega
  rw [List.take_length] at hall
  have hok : okD t := okD_any ht (by omega) hall
  have hpow := pow10_pv t.length (by omega)
  have htr := trimL_pv t 48 (by decide)
  have b10 := ten_bl (e := t.length) (by omega)
  have h10 : 10 ^ t.length ≠ 0 := Nat.ne_of_gt (Nat.pow_pos (by omega))
  have hm := natMul_pv n (10 ^ t.length) (by show bl n ≤ _; omega) (by show bl _ ≤ _; omega)
  have bm : bl (n * 10 ^ t.length) ≤ 1700 := Nat.le_trans (bl_mul _ _) (by omega)
  have bv : bl (valD t) ≤ 800 := valD_bl hall (by omega)
  have ha := natAdd_pv (n * 10 ^ t.length) (valD t) (by show bl _ ≤ _; omega) (by show bl _ ≤ _; omega)
  have bs : bl (n * 10 ^ t.length + valD t) ≤ 1701 := Nat.le_trans (bl_add _ _) (by omega)
  have hf := from_pv (decide (s.head? = some 45)) (n * 10 ^ t.length + valD t) (by omega)
  have hl := lowest_pv (sg (decide (s.head? = some 45)) (n * 10 ^ t.length + valD t)) (10 ^ t.length) (by show bl _ ≤ _; rw [sg_natAbs]; omega) (by show bl _ ≤ _; omega) h10
  have hsgn : sg (decide (s.head? = some 45)) (n * 10 ^ t.length + valD t) = signZ (s.head? = some 45) (n * 10 ^ t.length + valD t) := by
   unfold sg signZ
   by_cases k : s.head? = some 45
   ·rw [if_pos k, if_pos (decide_eq_true k)]
   ·rw [if_neg k, if_neg (by rw [decide_eq_false k]; decide)]
  have hr := hdec hok
  rw [← hsgn] at hr
  generalize sg (decide (s.head? = some 45)) (n * 10 ^ t.length + valD t) = Z at *
  generalize hS : n * 10 ^ t.length + valD t = S at *
  generalize hM : n * 10 ^ t.length = M at *
  generalize hT : 10 ^ t.length = T at *
  rw [hr]
  repeat (first | refine RUN ?_ | refine CV (natOf_pv 10 (by decide)) ?_ | refine CE (natOf_pv 10 (by decide)) ?_)
  rw [hsz]
  repeat (first | refine RUN ?_ | refine CV (hpow) ?_ | refine CV (htr) ?_ | refine CE (hpow) ?_ | refine CE (htr) ?_)
  refine EV.meetK (ι := Unit) [4, 7, 8, 11, 13] [4, 8, 11] (fun _ => []) (fun _ => [(13, 41, [.int .u64 (lo (valD t) : Int), .string (moreB (valD t))])]) (fun _ => []) (fun _ G => G2.Le G) rfl rfl (fun _ => rfl) ?_ ?_
  ·rw [sb_list, hnil]
   by_cases hne : Lib.trimLeftB t 48 = []
   ·have h0 : valD t = 0 := by rw [← (trim_facts t hall).1, hne]; rfl
    have hz : natV 0 = .agg #[.int .u64 0, .string ⟨#[]⟩] := natV_small (by decide)
    rw [hne]
    (try refine RUN ?_)
    refine ⟨(), trivial, (by repeat (first | exact trivial | refine And.intro rfl ?_)), ⟨?_, trivial⟩, (by repeat (first | exact trivial | refine And.intro rfl ?_)), rfl, Hp.Le.refl _⟩
    rw [h0]
    injection hz with hz
    injection hz with hz
    exact congrArg some (Prod.ext rfl hz.symm)
   ·have hpn := trim_pN hok hne
    have hN2 := fun G : Hp => natParse_pc (H := G) (Lib.trimLeftB t 48)
    rw [hpn] at hN2
    rw [show (Lib.trimLeftB t 48 == ([] : List UInt8)) = false from beq_eq_false_iff_ne.2 hne]
    (try refine RUN ?_)
    refine EVL.call rfl rfl rfl rfl rfl (hN2 _) ?_
    rintro _ G3 rfl hG3
    (try refine RUN ?_)
    exact ⟨(), trivial, (by repeat (first | exact trivial | refine And.intro rfl ?_)), ⟨rfl, trivial⟩, (by repeat (first | exact trivial | refine And.intro rfl ?_)), rfl, hG3⟩
  rintro _ G3 hG3
  (try refine RUN ?_)
  (apply EV.drawn 9 (by kernel_rfl) (by kernel_rfl); intro xv yw; (repeat (first | refine' DD ?_ | (refine' DC (hm) (h := ?_); rotate_left) | (refine' DC (ha) (h := ?_); rotate_left) | (refine' DC (hf) (h := ?_); rotate_left) | (refine' DC (hl) (h := ?_); rotate_left))); refine DJ.nil (fun G hG hF => ?_); (case hS => rfl); (case hS2 => rfl))
  (try refine RUN ?_)
  rfl
set_option maxHeartbeats 4000000 in
theorem fracParse_pc {H : Hp} (l : List UInt8) (hl : l.length ≤ 9223372036854775807) : PC Tryz.prog 13 #[.string (sb l)] H fun r _ => r = .tuple #[fracV ((pQ l).getD 0), .bool (pQ l).isSome] := by
 have c1 := cut_pv l 47 hl
 have c2 := cut_pv l 46 hl
 have hO := fun G : Hp => parseOver_pc (H := G) (bef 47 l) (aft 47 l)
 have hD := fun G : Hp => parseDec_pc (H := G) (bef 46 l) (aft 46 l)
 have hI := fun G : Hp => wholeParse_pc (H := G) l
 have hq : pQ l = if l.contains 47 then pOver (bef 47 l) (aft 47 l) else if l.contains 46 then pDec (bef 46 l) (aft 46 l) else Option.map (fun z : Int => (z : Rat)) (pI l) := rfl
 refine PC.body Tryz.tab_ok Tryz.func13 rfl (by kernel_rfl) Tryz.ntmps13 rfl rfl ?_
 cases h1 : l.contains 47 with
 | true =>
  rw [h1] at c1 hq
  rw [if_pos rfl] at hq
  rw [hq]
  repeat (first | refine RUN ?_ | refine CV (c1) ?_ | refine CE (c1) ?_)
  refine EVL.call rfl rfl rfl rfl rfl (hO _) ?_
  rintro _ G1 rfl hG1
  (try refine RUN ?_)
  rfl
 | false =>
 rw [h1] at c1 hq
 rw [if_neg (by decide)] at hq
 repeat (first | refine RUN ?_ | refine CV (c1) ?_ | refine CE (c1) ?_)
 cases h2 : l.contains 46 with
 | true =>
  rw [h2] at c2 hq
  rw [if_pos rfl] at hq
  rw [hq]
  repeat (first | refine RUN ?_ | refine CV (c2) ?_ | refine CE (c2) ?_)
  refine EVL.call rfl rfl rfl rfl rfl (hD _) ?_
  rintro _ G1 rfl hG1
  (try refine RUN ?_)
  rfl
 | false =>
 rw [h2] at c2 hq
 rw [if_neg (by decide)] at hq
 rw [hq]
 repeat (first | refine RUN ?_ | refine CV (c2) ?_ | refine CE (c2) ?_)
 refine EVL.call rfl rfl rfl rfl rfl (hI _) ?_
 rintro _ G1 rfl hG1
 (try refine RUN ?_)
 cases hz : pI l with
 | none =>
  show Value.tuple #[.agg #[.bool (decide ((0 : Int) < 0)), .int .u64 (lo (0 : Int).natAbs : Int), .string (moreB (0 : Int).natAbs), .int .u64 0, .string ⟨#[]⟩], .bool false] = .tuple #[frV 0 0, .bool false]
  rw [frV_zero]
 | some z =>
  show Value.tuple #[.agg #[.bool (decide (z < 0)), .int .u64 (lo z.natAbs : Int), .string (moreB z.natAbs), .int .u64 0, .string ⟨#[]⟩], .bool true] = .tuple #[frV z 0, .bool true]
  rw [frV_zero]
section
variable {P : Program} {n : Nat} {ops : Array Oper} {o : Oper} {rest : List Oper} {env : Env} {bx : Bxs} {sb' : Bxs} {H : Hs} {Q : EQ} {d : Nat}
theorem DJ.strAt {tail l : List Oper} {x : Nat → Value} {y : Nat → Ows} {ow' : Ows} {kl ks : List DK} {i : Nat} {bx' : Bxs} {Γ : Fcts} {T : TypeId} {u w : Operand} (ho : o.op = .index T u w) (hw : wantB ops env o = some true) (hd : o.dst = some d) (hn : Nat.blt d n = true) (hT : P.underlying T = some .string) {s : List UInt8} (hx : env.op u = some (.v (.string (sb s)))) {k : IntKind} {z : Int} (hy : env.op w = some (.v (.int k z))) (j : Nat) (hz : z = j) {c : UInt8} (hc : s[j]? = some c)
  (h : DJ P n ops tail sb' bx H Q x y kl (i + 1) l ks ((d, .v (.int .u8 (c.toNat : Int))) :: env) bx' Γ ow') : DJ P n ops tail sb' bx H Q x y kl i (o :: l) (.sv (.v (.int .u8 (c.toNat : Int))) :: ks) env bx' Γ ow' :=
 DJ.ofVal (ValOk.gen hw (run_strAt ho hT hx hy j hz hc)) hd hn rfl h
end
theorem ten_rn {G : Hp} {v : Value} (h : SlC G v 1 1 [.int .u32 10]) : RN G v 10 := by
 have e : dig B32 10 = [10] := by rw [dig_pos B32_two (by decide)]; simp [dig_zero, B32_val]
 show SlN n32 G v (dig B32 10)
 rw [e]
 exact h
theorem refAddN_pc {H : Hp} {u v : Value} {a b : Nat} (hu : RN H u a) (hv : RN H v b) (ha : rsm a) (hb : rsm b) : PC Tryz.prog 73 #[u, v] H fun r H' => RN H' r (a + b) := by
 have la := ha.len
 have lb := hb.len
 have := refAddL_pc hu hv (digB_dig _) (digB_dig _) (by omega) (by omega)
 rwa [dig_val B32_two, dig_val B32_two] at this
theorem rsm_of {n k : Nat} (h : bl n ≤ k) (hk : k ≤ 800000000) : rsm n := Nat.le_trans h hk
theorem rn_nil (G : Hp) : RN G (.slice none 0 0) 0 := by
 show SlN n32 G _ (dig B32 0)
 rw [dig_zero]; exact nil_sl _ _
set_option maxRecDepth 100000 in
set_option maxHeartbeats 16000000 in
theorem rnatParse_pc {H : Hp} (s : List UInt8) : PC Tryz.prog 39 #[.string (sb s)] H fun r H' => ∃ v, r = .tuple #[v, .bool (pN s).isSome] ∧ RN H' v ((pN s).getD 0) := by
 have hsz := sb_size s
 have bad : ∀ G : Hp, pN s = none → ∃ v, Value.tuple #[.slice none 0 0, .bool false] = .tuple #[v, .bool (pN s).isSome] ∧ RN G v ((pN s).getD 0) := fun G e => ⟨.slice none 0 0, by rw [e]; rfl, by rw [e]; exact rn_nil G⟩
 generalize hB : (!decide (startOk s)) = B
 refine PC.body Tryz.tab_ok Tryz.func39 rfl (by kernel_rfl) Tryz.ntmps39 rfl rfl ?_
 (try refine RUN ?_)
 refine EVL.meetK (ι := Unit) [0] [] (fun _ => [(23, .v (.bool B))]) (fun _ => []) (fun _ => []) (fun _ G => H.Le G) rfl rfl (fun _ => rfl) ?_ ?_
 ·rw [hsz]
  by_cases c1 : s.length < 1
  ·rw [decide_eq_true (show (s.length : Int) < 1 by omega)]
   rw [decide_eq_false (fun k => by have := k.1; omega)] at hB
   subst hB
   (try refine RUN ?_)
   exact ⟨(), ⟨rfl, trivial⟩, (by repeat (first | exact trivial | refine And.intro rfl ?_)), trivial, (by repeat (first | exact trivial | refine And.intro rfl ?_)), rfl, Hp.Le.refl _⟩
  rw [decide_eq_false (show ¬ (s.length : Int) < 1 by omega)]
  (try refine RUN ?_)
  rw [hsz]
  by_cases c2 : s.length > 200
  ·rw [decide_eq_true (show (s.length : Int) > 200 by omega)]
   rw [decide_eq_false (fun k => by have := k.2.1; omega)] at hB
   subst hB
   (try refine RUN ?_)
   exact ⟨(), ⟨rfl, trivial⟩, (by repeat (first | exact trivial | refine And.intro rfl ?_)), trivial, (by repeat (first | exact trivial | refine And.intro rfl ?_)), rfl, Hp.Le.refl _⟩
  rw [decide_eq_false (show ¬ (s.length : Int) > 200 by omega)]
  obtain ⟨c, hc⟩ : ∃ c, s[0]? = some c := ⟨_, List.getElem?_eq_getElem (by omega)⟩
  have hh : s.head? = some c := by rw [List.head?_eq_getElem?]; exact hc
  (try refine RUN ?_)
  refine EVL.strAt rfl rfl rfl rfl (by kernel_rfl) rfl rfl 0 rfl hc ?_
  (try refine RUN ?_)
  by_cases c4 : c = 48
  ·rw [show ((c.toNat : Int) == 48) = true by rw [c4]; rfl]
   (try refine RUN ?_)
   rw [hsz]
   by_cases c3 : 1 < s.length
   ·rw [decide_eq_true (show (s.length : Int) > 1 by omega)]
    rw [decide_eq_false (fun k => k.2.2 ⟨c3, by rw [hh, c4]⟩)] at hB
    subst hB
    (try refine RUN ?_)
    exact ⟨(), ⟨rfl, trivial⟩, (by repeat (first | exact trivial | refine And.intro rfl ?_)), trivial, (by repeat (first | exact trivial | refine And.intro rfl ?_)), rfl, Hp.Le.refl _⟩
   ·rw [decide_eq_false (show ¬ (s.length : Int) > 1 by omega)]
    rw [decide_eq_true (show startOk s from ⟨by omega, by omega, fun k => c3 k.1⟩)] at hB
    subst hB
    (try refine RUN ?_)
    exact ⟨(), ⟨rfl, trivial⟩, (by repeat (first | exact trivial | refine And.intro rfl ?_)), trivial, (by repeat (first | exact trivial | refine And.intro rfl ?_)), rfl, Hp.Le.refl _⟩
  ·rw [show ((c.toNat : Int) == 48) = false from beq_eq_false_iff_ne.2 fun k => c4 (by
    have h48 : c.toNat = (48 : UInt8).toNat := by show c.toNat = 48; omega
    exact UInt8.toNat_inj.1 h48)]
   rw [decide_eq_true (show startOk s from ⟨by omega, by omega, fun k => c4 (Option.some.inj (hh.symm.trans k.2))⟩)] at hB
   subst hB
   (try refine RUN ?_)
   exact ⟨(), ⟨rfl, trivial⟩, (by repeat (first | exact trivial | refine And.intro rfl ?_)), trivial, (by repeat (first | exact trivial | refine And.intro rfl ?_)), rfl, Hp.Le.refl _⟩
 rintro _ G0 hG0
 cases B with
 | true =>
  (try refine RUN ?_)
  refine bad _ ?_
  unfold pN
  rw [if_neg fun k => by
   have : startOk s := ⟨k.1, k.2.1, k.2.2.1⟩
   rw [decide_eq_true this] at hB
   cases hB]
 | false =>
 have hst : startOk s := by
  by_cases k : startOk s
  ·exact k
  ·rw [decide_eq_false k] at hB; cases hB
 obtain ⟨s1, s2, s3⟩ := hst
 (try refine RUN ?_)
 refine EV.loopK (ι := Nat × Value) [0] [] (fun q => [(4, .v q.2), (5, .v (.int .i64 (q.1 : Int)))]) (fun _ => []) (fun _ => []) (fun q G => q.1 ≤ s.length ∧ (s.take q.1).all isDg = true ∧ RN G q.2 (valD (s.take q.1))) (fun q => s.length - q.1) ((0, .slice none 0 0)) rfl rfl ⟨rfl, rfl, trivial⟩ trivial rfl (fun _ => rfl) (⟨Nat.zero_le _, rfl, rn_nil _⟩) ?_
 rintro ⟨i, v⟩ G1 hG1 ⟨hi, hall, hv⟩
 dsimp only at hi hall hv
 obtain ⟨va, vc, rfl⟩ := SlC.val hv
 (try refine RUN ?_)
 rw [hsz]
 refine EV.cond rfl (fun hlt => ?_) (fun hlt => ?_)
 case refine_2 =>
  simp only [decide_eq_true_eq, decide_eq_false_iff_not, Int.not_lt, Int.not_le, beq_iff_eq, beq_eq_false_iff_ne, bne_iff_ne, bne_eq_false_iff_eq, ne_eq, Int.ofNat_lt, Int.ofNat_le, Int.natCast_inj, ge_iff_le, gt_iff_lt, Decidable.not_not, Bool.not_eq_true', Bool.not_eq_false', Bool.not_eq_eq_eq_not, Bool.not_true, Bool.not_false] at hlt
  obtain rfl : i = s.length := by omega
  rw [List.take_length] at hall hv ⊢
  (try refine RUN ?_)
  have hp : pN s = some (valD s) := if_pos ⟨s1, s2, s3, hall⟩
  rw [hp]
  exact ⟨_, rfl, hv⟩
 simp only [decide_eq_true_eq, decide_eq_false_iff_not, Int.not_lt, Int.not_le, beq_iff_eq, beq_eq_false_iff_ne, bne_iff_ne, bne_eq_false_iff_eq, ne_eq, Int.ofNat_lt, Int.ofNat_le, Int.natCast_inj, ge_iff_le, gt_iff_lt, Decidable.not_not, Bool.not_eq_true', Bool.not_eq_false', Bool.not_eq_eq_eq_not, Bool.not_true, Bool.not_false] at hlt
 have hlt2 : i < s.length := by omega
 obtain ⟨c, hc⟩ : ∃ c, s[i]? = some c := ⟨_, List.getElem?_eq_getElem hlt2⟩
 have hnone : isDg c = false → pN s = none := fun k => pN_bad (List.mem_of_getElem? hc) k
 have htk := take_snoc hc
 (try refine RUN ?_)
 refine EVL.strAt rfl rfl rfl rfl (by kernel_rfl) rfl rfl i rfl hc ?_
 (try refine RUN ?_)
 by_cases d1 : c.toNat < 48
 ·rw [decide_eq_true (show (c.toNat : Int) < 48 by omega)]
  (try refine RUN ?_)
  refine bad _ (hnone ?_)
  rw [← Bool.not_eq_true, isDg_iff]
  omega
 rw [decide_eq_false (show ¬ (c.toNat : Int) < 48 by omega)]
 (try refine RUN ?_)
 refine EVL.strAt rfl rfl rfl rfl (by kernel_rfl) rfl rfl i rfl hc ?_
 (try refine RUN ?_)
 by_cases d2 : c.toNat > 57
 ·rw [decide_eq_true (show (c.toNat : Int) > 57 by omega)]
  (try refine RUN ?_)
  refine bad _ (hnone ?_)
  rw [← Bool.not_eq_true, isDg_iff]
  omega
 rw [decide_eq_false (show ¬ (c.toNat : Int) > 57 by omega)]
 have hdg : isDg c = true := isDg_iff.2 ⟨by omega, by omega⟩
 have hdv := dgv hdg
 have hdl := dV_lt hdg
 have hall2 : (s.take (i + 1)).all isDg = true := by rw [htk, List.all_append, hall, List.all_cons, hdg]; rfl
 have hsum : valD (s.take i) * 10 + dV c = valD (s.take (i + 1)) := by rw [htk, valD_snoc]
 have b1 : bl (valD (s.take i)) ≤ 800 := valD_bl hall (by rw [List.length_take]; omega)
 have b2 : bl (valD (s.take i) * 10) ≤ 804 := Nat.le_trans (bl_mul _ _) (by have : bl 10 ≤ 4 := bl_le (by decide); omega)
 have b3 : bl (dV c) ≤ 4 := bl_le (by omega)
 have r10 : rsm 10 := rsm_of (bl_le (k := 4) (by decide)) (by omega)
 have hdW : dV c < W64 := by rw [W64_val]; omega
 generalize valD (s.take i) = A at *
 generalize hD : dV c = D at *
 (try refine RUN ?_)
 apply EV.drawn 10 (by kernel_rfl) (by kernel_rfl); intro xv yw
 (repeat refine' DD ?_)
 (refine' DJ.lit Tryz.tab_ok rfl rfl rfl rfl rfl rfl rfl rfl rfl rfl rfl rfl ?_; rotate_left)
 refine' DJ.call rfl rfl rfl rfl rfl (cOf Tryz.func11 rfl (by kernel_rfl)) (fun G hG hd => refMul_pc (hv.mono hG) (ten_rn (hd.head (by kernel_rfl))) (rsm_of b1 (by omega)) r10) (fun _ _ _ h k => SlN.mono h k) ?_; rotate_left
 (repeat refine' DD ?_)
 refine' DJ.strAt rfl rfl rfl rfl (by kernel_rfl) rfl rfl i rfl hc ?_; rotate_left
 (repeat refine' DD ?_)
 rw [hdv]
 refine' DJ.call rfl rfl rfl rfl rfl (cOf Tryz.func12 rfl (by kernel_rfl)) (fun G hG hd => refNatOf_pc D hdW _) (fun _ _ _ h k => SlN.mono h k) ?_; rotate_left
 refine' DJ.call rfl rfl rfl rfl rfl (cOf Tryz.func73 rfl (by kernel_rfl)) (fun G hG hd => refAddN_pc (hd.tail.head (by kernel_rfl)) (hd.head (by kernel_rfl)) (rsm_of b2 (by omega)) (rsm_of b3 (by omega))) (fun _ _ _ h k => SlN.mono h k) ?_; rotate_left
 (refine DJ.nil (fun G hG hF => ?_); (case hS => rfl); (case hS2 => rfl))
 obtain ⟨hf, _⟩ := hF
 rw [hsum] at hf
 (try refine RUN ?_)
 exact ⟨(i + 1, xv 9), ⟨rfl, by rw [wi_inc i (by omega)]; rfl, trivial⟩, (by repeat (first | exact trivial | refine And.intro rfl ?_)), trivial, (by repeat (first | exact trivial | refine And.intro rfl ?_)), rfl, ⟨hlt2, hall2, hf⟩, hG, by dsimp only; omega⟩
theorem unMinus_cut {s : List UInt8} (h : s.head? = some 45) : ((s.drop 1).take (s.length - 1)) = unMinus s ∧ 1 ≤ s.length := by
 cases s with
 | nil => cases h
 | cons c s =>
  unfold unMinus
  rw [if_pos h]
  exact ⟨by rw [List.drop_one]; exact List.take_of_length_le (Nat.le_refl _), by rw [List.length_cons]; omega⟩
theorem is45 {s : List UInt8} {c : UInt8} (h : s.head? = some c) : ((c.toNat : Int) == 45) = decide (s.head? = some 45) := by
 by_cases k : c = 45
 ·subst k; rw [h]; rfl
 ·rw [decide_eq_false fun e => k (Option.some.inj (h.symm.trans e))]
  refine beq_eq_false_iff_ne.2 fun e => k ?_
  have h45 : c.toNat = (45 : UInt8).toNat := by show c.toNat = 45; omega
  exact UInt8.toNat_inj.1 h45
theorem digB_nz {n : Nat} : (((dig B32 n).length : Nat) : Int) == 0 ↔ n = 0 := by
 have hz : (dig B32 n).length = 0 ↔ n = 0 := ⟨dig_len_zero B32_two, fun e => by rw [e, dig_zero]; rfl⟩
 rw [beq_iff_eq, ← hz]; omega
set_option maxRecDepth 100000 in
set_option maxHeartbeats 16000000 in
theorem rintParse_pc {H : Hp} (s : List UInt8) : PC Tryz.prog 38 #[.string (sb s)] H fun r H' => ∃ v, r = .tuple #[v, .bool (pI s).isSome] ∧ RI H' v ((pI s).getD 0) := by
 have hsz := sb_size s
 have hN := fun G : Hp => rnatParse_pc (H := G) (unMinus s)
 have hnil : ∀ G : Hp, RI G (.agg #[.bool false, .slice none 0 0]) 0 := fun G => ⟨none, 0, 0, rfl, rn_nil G⟩
 have bad : ∀ G : Hp, pI s = none → ∃ v, Value.tuple #[.agg #[.bool false, .slice none 0 0], .bool false] = .tuple #[v, .bool (pI s).isSome] ∧ RI G v ((pI s).getD 0) := fun G e => ⟨_, by rw [e]; rfl, by rw [e]; exact hnil G⟩
 refine PC.body Tryz.tab_ok Tryz.func38 rfl (by kernel_rfl) Tryz.ntmps38 rfl rfl ?_
 (try refine RUN ?_)
 refine EVL.meetK (ι := Unit) [0, 2] [2] (fun _ => [(4, .v (.bool (decide (s.head? = some 45))))]) (fun _ => []) (fun _ => []) (fun _ G => H.Le G) rfl rfl (fun _ => rfl) ?_ ?_
 ·rw [hsz]
  by_cases c1 : s.length > 0
  ·rw [decide_eq_true (show (s.length : Int) > 0 by omega)]
   obtain ⟨c, hc⟩ : ∃ c, s[0]? = some c := ⟨_, List.getElem?_eq_getElem (by omega)⟩
   have hh : s.head? = some c := by rw [List.head?_eq_getElem?]; exact hc
   (try refine RUN ?_)
   refine EVL.strAt rfl rfl rfl rfl (by kernel_rfl) rfl rfl 0 rfl hc ?_
   (try refine RUN ?_)
   rw [is45 hh]
   exact ⟨(), ⟨rfl, trivial⟩, (by repeat (first | exact trivial | refine And.intro rfl ?_)), trivial, (by repeat (first | exact trivial | refine And.intro rfl ?_)), rfl, Hp.Le.refl _⟩
  ·rw [decide_eq_false (show ¬ (s.length : Int) > 0 by omega), decide_eq_false (show ¬ s.head? = some 45 from fun k => c1 (by have := (unMinus_cut k).2; omega))]
   (try refine RUN ?_)
   exact ⟨(), ⟨rfl, trivial⟩, (by repeat (first | exact trivial | refine And.intro rfl ?_)), trivial, (by repeat (first | exact trivial | refine And.intro rfl ?_)), rfl, Hp.Le.refl _⟩
 rintro _ G0 hG0
 (try refine RUN ?_)
 refine EV.meetK (ι := Unit) [2, 4] [2] (fun _ => [(0, .v (.string (sb (unMinus s))))]) (fun _ => []) (fun _ => []) (fun _ G => G0.Le G) rfl rfl (fun _ => rfl) ?_ ?_
 ·by_cases h : s.head? = some 45
  ·rw [decide_eq_true h]
   obtain ⟨h1, h2⟩ := unMinus_cut h
   (try refine RUN ?_)
   refine EVL.strSlc rfl rfl rfl rfl (by kernel_rfl) rfl 1 s.length (.inr ⟨_, IntKind.i64, rfl, rfl⟩) (.inl ⟨rfl, hsz.symm⟩) h2 (by rw [hsz]; exact Nat.le_refl _) ?_
   rw [sb_cut, h1]
   (try refine RUN ?_)
   exact ⟨(), ⟨rfl, trivial⟩, (by repeat (first | exact trivial | refine And.intro rfl ?_)), trivial, (by repeat (first | exact trivial | refine And.intro rfl ?_)), rfl, Hp.Le.refl _⟩
  ·rw [decide_eq_false h]
   have h1 : unMinus s = s := if_neg h
   rw [h1]
   (try refine RUN ?_)
   exact ⟨(), ⟨rfl, trivial⟩, (by repeat (first | exact trivial | refine And.intro rfl ?_)), trivial, (by repeat (first | exact trivial | refine And.intro rfl ?_)), rfl, Hp.Le.refl _⟩
 rintro _ G1 hG1
 (try refine RUN ?_)
 refine EVL.call rfl rfl rfl rfl rfl (hN _) ?_
 rintro _ G2 ⟨v, rfl, hv⟩ hG2
 cases hp : pN (unMinus s) with
 | none =>
  (try refine RUN ?_)
  refine bad _ ?_
  unfold pI unMinus at *
  split
  ·rename_i k; rw [if_pos k] at hp; rw [hp]
  ·rename_i k; rw [if_neg k] at hp; rw [hp]; rfl
 | some n =>
  rw [hp] at hv
  have hv2 : RN G2 v n := hv
  have hI := fun b : Bool => refI_pc (b := b) hv2
  obtain ⟨va, vc, rfl⟩ := SlC.val hv2
  by_cases h : s.head? = some 45
  ·have hI1 := hI true
   have hpn' : pN s.tail = some n := by unfold unMinus at hp; rwa [if_pos h] at hp
   have hpI : pI s = if n = 0 then none else some (-(n : Int)) := by
    unfold pI
    rw [if_pos h, hpn']
   rw [decide_eq_true h]
   (try refine RUN ?_)
   by_cases h0 : n = 0
   ·rw [show ((((dig B32 n).length : Nat) : Int) == 0) = true from digB_nz.2 h0]
    (try refine RUN ?_)
    exact bad _ (by rw [hpI, if_pos h0])
   ·rw [show ((((dig B32 n).length : Nat) : Int) == 0) = false from by rw [← Bool.not_eq_true]; exact fun k => h0 (digB_nz.1 k)]
    (try refine RUN ?_)
    refine EVL.call rfl rfl rfl rfl rfl (hI1) ?_
    rintro w G3 hw hG3
    obtain ⟨ra, rl, rc, rfl, hr⟩ := id hw
    (try refine RUN ?_)
    rw [hpI, if_neg h0]
    exact ⟨_, rfl, hw⟩
  ·have hI1 := hI false
   have hpn' : pN s = some n := by unfold unMinus at hp; rwa [if_neg h] at hp
   have hpI : pI s = some (n : Int) := by
    unfold pI
    rw [if_neg h, hpn']; rfl
   rw [decide_eq_false h]
   (try refine RUN ?_)
   refine EVL.call rfl rfl rfl rfl rfl (hI1) ?_
   rintro w G3 hw hG3
   obtain ⟨ra, rl, rc, rfl, hr⟩ := id hw
   (try refine RUN ?_)
   rw [hpI]
   exact ⟨_, rfl, hw⟩
theorem rten {e : Nat} (h : e ≤ 400) : rsm (10 ^ e) :=
 Nat.le_trans (bl_le (k := 4 * e + 1) (Nat.lt_of_le_of_lt (ten_16 e) (Nat.pow_lt_pow_right (by omega) (by omega)))) (by omega)
set_option maxHeartbeats 8000000 in
theorem rnatPow_pc {H : Hp} {v : Value} (hv : RN H v 10) (k : Nat) (hk : k ≤ 200) : PC Tryz.prog 74 #[v, .int .i64 (k : Int)] H fun r H' => RN H' r (10 ^ k) := by
 refine PC.body Tryz.tab_ok Tryz.func74 rfl (by kernel_rfl) Tryz.ntmps74 rfl rfl ?_
 (try refine RUN ?_)
 refine EVL.call rfl rfl rfl rfl rfl (refNatOf_pc 1 (by decide) _) ?_
 rintro w G0 hw hG0
 (try refine RUN ?_)
 refine EV.loopK (ι := Nat × Nat × Nat × Value × Value) [] [] (fun q => [(0, .v q.2.2.2.1), (1, .v (.int .i64 (q.1 : Int))), (5, .v q.2.2.2.2)]) (fun _ => []) (fun _ => []) (fun q G => q.1 ≤ 200 ∧ q.2.2.1 + q.2.1 * q.1 = k ∧ q.2.1 ≤ 400 ∧ RN G q.2.2.2.1 (10 ^ q.2.1) ∧ RN G q.2.2.2.2 (10 ^ q.2.2.1)) (fun q => q.1) ((k, 1, 0, v, w)) rfl rfl ⟨rfl, rfl, rfl, trivial⟩ trivial rfl (fun _ => rfl) (⟨hk, by dsimp only; omega, (show 1 ≤ 400 by decide), hv.mono hG0, hw⟩) ?_
 rintro ⟨e, b, o, vb, vo⟩ G1 hG1 ⟨he, hs, hb, hvb, hvo⟩
 dsimp only at he hs hb hvb hvo
 (try refine RUN ?_)
 by_cases h0 : e = 0
 ·subst h0
  rw [show decide ((((0 : Nat) : Int)) > 0) = false from rfl]
  rw [show o = k by omega] at hvo
  (try refine RUN ?_)
  exact hvo
 rw [decide_eq_true (show (e : Int) > 0 by omega)]
 have hb2 : b ≤ 200 := by
  have : b * 1 ≤ b * e := Nat.mul_le_mul_left _ (by omega)
  omega
 have ho2 : o ≤ 200 := by omega
 (try refine RUN ?_)
 rw [show (e : Int).tmod 2 = ((e % 2 : Nat) : Int) from wi_rem e 2]
 refine EV.meetK (ι := Nat × Value) [0, 1] [] (fun q => [(5, .v q.2)]) (fun _ => []) (fun _ => []) (fun q G => G1.Le G ∧ q.1 = o + b * (e % 2) ∧ RN G q.2 (10 ^ q.1)) rfl rfl (fun _ => rfl) ?_ ?_
 ·by_cases hodd : e % 2 = 1
  ·rw [show (((e % 2 : Nat) : Int) == 1) = true from beq_iff_eq.2 (by omega)]
   (try refine RUN ?_)
   refine EVL.call rfl rfl rfl rfl rfl (refMul_pc hvo hvb (rten (by omega)) (rten (by omega))) ?_
   rintro x G2 hx hG2
   (try refine RUN ?_)
   exact ⟨(o + b, x), ⟨rfl, trivial⟩, (by repeat (first | exact trivial | refine And.intro rfl ?_)), trivial, (by repeat (first | exact trivial | refine And.intro rfl ?_)), rfl, ⟨hG2, by rw [hodd, Nat.mul_one], by rw [Nat.pow_add]; exact hx⟩⟩
  ·rw [show (((e % 2 : Nat) : Int) == 1) = false from beq_eq_false_iff_ne.2 (by omega)]
   (try refine RUN ?_)
   exact ⟨(o, vo), ⟨rfl, trivial⟩, (by repeat (first | exact trivial | refine And.intro rfl ?_)), trivial, (by repeat (first | exact trivial | refine And.intro rfl ?_)), rfl, ⟨Hp.Le.refl _, by rw [show e % 2 = 0 by omega]; rfl, hvo⟩⟩
 rintro ⟨o2, x⟩ G2 ⟨hG2, ho, hx⟩
 dsimp only at ho hx
 (try refine RUN ?_)
 refine EVL.call rfl rfl rfl rfl rfl (refMul_pc (hvb.mono hG2) (hvb.mono hG2) (rten (by omega)) (rten (by omega))) ?_
 rintro y G3 hy hG3
 (try refine RUN ?_)
 refine ⟨(e / 2, b + b, o2, y, x), ⟨rfl, by rw [show IntKind.i64.wrap ((e : Int).tdiv 2) = ((e / 2 : Nat) : Int) from wi_quo e 2 (by omega)]; rfl, rfl, trivial⟩, (by repeat (first | exact trivial | refine And.intro rfl ?_)), trivial, (by repeat (first | exact trivial | refine And.intro rfl ?_)), rfl, ⟨by dsimp only; omega, ?_, by dsimp only; omega, by dsimp only; rw [Nat.pow_add]; exact hy, hx.mono hG3⟩, hG2.trans hG3, by dsimp only; omega⟩
 dsimp only
 rw [ho, ← hs]
 have h2 := Nat.div_add_mod e 2
 have h3 : (b + b) * (e / 2) + b * (e % 2) = b * e := by
  rw [← Nat.two_mul, Nat.mul_comm 2 b, Nat.mul_assoc, ← Nat.mul_add, h2]
 omega
theorem lit_rn {G : Hp} {b : Nat} (h : G b = some #[.int .u32 10]) : RN G (.slice (some ⟨b, 0, none⟩) 1 1) 10 :=
 ten_rn ⟨rfl, .inr ⟨b, 0, 1, _, rfl, Nat.le_refl _, h, fun j x hj => by rw [Nat.zero_add]; simpa using hj⟩⟩
theorem mkRat_sg (b : Bool) (n d : Nat) : Rat.divInt (sg b n) (sg false d) = mkRat (sg b n) d := by
 show Rat.divInt (sg b n) (d : Int) = _
 rw [Rat.divInt_ofNat]
theorem rq_form {G : Hp} {w : Value} {q : Rat} (h : RQ G w q) : ∃ ra rl rc xa xl xc, w = .agg #[.bool (decide (q.num < 0)), .slice ra rl rc, .slice xa xl xc] := by
 obtain ⟨ra, rl, rc, xa, xl, xc, e, _, _⟩ := h
 exact ⟨ra, rl, rc, xa, xl, xc, e⟩
set_option maxRecDepth 100000 in
set_option maxHeartbeats 32000000 in
theorem rdec_pc {H : Hp} (s t : List UInt8) : PC Tryz.prog 41 #[.string (sb s), .string (sb t)] H fun r H' => ∃ v, r = .tuple #[v, .bool (pDec s t).isSome] ∧ RQ H' v ((pDec s t).getD 0) := by
 have hsz := sb_size s
 have hst := sb_size t
 have hN := fun G : Hp => rnatParse_pc (H := G) (unMinus s)
 have hbad : ¬ okD t → pDec s t = none := fun k => by
  unfold pDec
  generalize pN _ = o
  cases o with
  | none => rfl
  | some n => show (if okD t then _ else _) = none; rw [if_neg k]
 have hof := fun G : Hp => refOf_pc (H := G) 0 (by omega) (by omega)
 have bad : ∀ (G : Hp) (v : Value), pDec s t = none → RQ G v ((0 : Int) : Rat) → ∃ w, Value.tuple #[v, .bool false] = .tuple #[w, .bool (pDec s t).isSome] ∧ RQ G w ((pDec s t).getD 0) := fun G v e h => ⟨v, by rw [e]; rfl, by rw [e]; exact h⟩
 refine PC.body Tryz.tab_ok Tryz.func41 rfl (by kernel_rfl) Tryz.ntmps41 rfl rfl ?_
 (try refine RUN ?_)
 refine EVL.meetK (ι := Unit) [0, 1, 4] [4] (fun _ => [(6, .v (.bool (decide (s.head? = some 45))))]) (fun _ => []) (fun _ => []) (fun _ G => H.Le G) rfl rfl (fun _ => rfl) ?_ ?_
 ·rw [hsz]
  by_cases c1 : s.length > 0
  ·rw [decide_eq_true (show (s.length : Int) > 0 by omega)]
   obtain ⟨c, hc⟩ : ∃ c, s[0]? = some c := ⟨_, List.getElem?_eq_getElem (by omega)⟩
   have hh : s.head? = some c := by rw [List.head?_eq_getElem?]; exact hc
   (try refine RUN ?_)
   refine EVL.strAt rfl rfl rfl rfl (by kernel_rfl) rfl rfl 0 rfl hc ?_
   (try refine RUN ?_)
   rw [is45 hh]
   exact ⟨(), ⟨rfl, trivial⟩, (by repeat (first | exact trivial | refine And.intro rfl ?_)), trivial, (by repeat (first | exact trivial | refine And.intro rfl ?_)), rfl, Hp.Le.refl _⟩
  ·rw [decide_eq_false (show ¬ (s.length : Int) > 0 by omega), decide_eq_false (show ¬ s.head? = some 45 from fun k => c1 (by have := (unMinus_cut k).2; omega))]
   (try refine RUN ?_)
   exact ⟨(), ⟨rfl, trivial⟩, (by repeat (first | exact trivial | refine And.intro rfl ?_)), trivial, (by repeat (first | exact trivial | refine And.intro rfl ?_)), rfl, Hp.Le.refl _⟩
 rintro _ G0 hG0
 (try refine RUN ?_)
 refine EV.meetK (ι := Unit) [1, 4, 6] [4] (fun _ => [(0, .v (.string (sb (unMinus s))))]) (fun _ => []) (fun _ => []) (fun _ G => G0.Le G) rfl rfl (fun _ => rfl) ?_ ?_
 ·by_cases h : s.head? = some 45
  ·rw [decide_eq_true h]
   obtain ⟨h1, h2⟩ := unMinus_cut h
   (try refine RUN ?_)
   refine EVL.strSlc rfl rfl rfl rfl (by kernel_rfl) rfl 1 s.length (.inr ⟨_, IntKind.i64, rfl, rfl⟩) (.inl ⟨rfl, hsz.symm⟩) h2 (by rw [hsz]; exact Nat.le_refl _) ?_
   rw [sb_cut, h1]
   (try refine RUN ?_)
   exact ⟨(), ⟨rfl, trivial⟩, (by repeat (first | exact trivial | refine And.intro rfl ?_)), trivial, (by repeat (first | exact trivial | refine And.intro rfl ?_)), rfl, Hp.Le.refl _⟩
  ·rw [decide_eq_false h]
   have h1 : unMinus s = s := if_neg h
   rw [h1]
   (try refine RUN ?_)
   exact ⟨(), ⟨rfl, trivial⟩, (by repeat (first | exact trivial | refine And.intro rfl ?_)), trivial, (by repeat (first | exact trivial | refine And.intro rfl ?_)), rfl, Hp.Le.refl _⟩
 rintro _ G1 hG1
 (try refine RUN ?_)
 refine EVL.call rfl rfl rfl rfl rfl (hN _) ?_
 rintro _ G2 ⟨v, rfl, hv⟩ hG2
 cases hp : pN (unMinus s) with
 | none =>
  have hno : pDec s t = none := by
   unfold pDec
   rw [show pN (if s.head? = some 45 then s.tail else s) = none from hp]
  (try refine RUN ?_)
  refine EVL.call rfl rfl rfl rfl rfl (hof _) ?_
  rintro w G3 hw hG3
  obtain ⟨ra, rl, rc, xa, xl, xc, rfl⟩ := rq_form hw
  (try refine RUN ?_)
  exact bad _ _ hno hw
 | some n =>
 have bn := pN_bl hp
 rw [hp] at hv
 have hv2 : RN G2 v n := hv
 have hdec : okD t → pDec s t = some (mkRat (signZ (s.head? = some 45) (n * 10 ^ t.length + valD t)) (10 ^ t.length)) := fun k => by
  unfold pDec
  rw [show pN (if s.head? = some 45 then s.tail else s) = some n from hp]
  show (if okD t then _ else _) = _
  rw [if_pos k]
 clear hv hp hN
 (try refine RUN ?_)
 rw [hst]
 by_cases c1 : t.length < 1
 ·rw [decide_eq_true (show (t.length : Int) < 1 by omega)]
  (try refine RUN ?_)
  refine EVL.call rfl rfl rfl rfl rfl (hof _) ?_
  rintro w G3 hw hG3
  obtain ⟨ra, rl, rc, xa, xl, xc, rfl⟩ := rq_form hw
  (try refine RUN ?_)
  exact bad _ _ (hbad fun k => by have := k.1; omega) hw
 rw [decide_eq_false (show ¬ (t.length : Int) < 1 by omega)]
 (try refine RUN ?_)
 rw [hst]
 by_cases c2 : t.length > 200
 ·rw [decide_eq_true (show (t.length : Int) > 200 by omega)]
  (try refine RUN ?_)
  refine EVL.call rfl rfl rfl rfl rfl (hof _) ?_
  rintro w G3 hw hG3
  obtain ⟨ra, rl, rc, xa, xl, xc, rfl⟩ := rq_form hw
  (try refine RUN ?_)
  exact bad _ _ (hbad fun k => by have := k.2.1; omega) hw
 rw [decide_eq_false (show ¬ (t.length : Int) > 200 by omega)]
 (try refine RUN ?_)
 refine EV.loopK (ι := Nat × Value) [1, 4, 6] [4] (fun q => [(7, .v q.2), (9, .v (.int .i64 (q.1 : Int)))]) (fun _ => []) (fun _ => []) (fun q G => q.1 ≤ t.length ∧ (t.take q.1).all isDg = true ∧ RN G q.2 (n * 10 ^ q.1 + valD (t.take q.1))) (fun q => t.length - q.1) ((0, v)) rfl rfl ⟨rfl, rfl, trivial⟩ trivial rfl (fun _ => rfl) (⟨Nat.zero_le _, rfl, by rw [Nat.pow_zero, Nat.mul_one]; exact hv2⟩) ?_
 rintro ⟨i, v⟩ G3 hG3 ⟨hi, hall, hv⟩
 dsimp only at hi hall hv
 (try refine RUN ?_)
 rw [hst]
 have b0 := ten_bl (e := i) (by omega)
 have b1 : bl (valD (t.take i)) ≤ 800 := valD_bl hall (by rw [List.length_take]; omega)
 have b2 : bl (n * 10 ^ i) ≤ 1700 := Nat.le_trans (bl_mul _ _) (by omega)
 have b3 : bl (n * 10 ^ i + valD (t.take i)) ≤ 1701 := Nat.le_trans (bl_add _ _) (by omega)
 refine EV.cond rfl (fun hlt => ?_) (fun hlt => ?_)
 ·simp only [decide_eq_true_eq, decide_eq_false_iff_not, Int.not_lt, Int.not_le, beq_iff_eq, beq_eq_false_iff_ne, bne_iff_ne, bne_eq_false_iff_eq, ne_eq, Int.ofNat_lt, Int.ofNat_le, Int.natCast_inj, ge_iff_le, gt_iff_lt, Decidable.not_not, Bool.not_eq_true', Bool.not_eq_false', Bool.not_eq_eq_eq_not, Bool.not_true, Bool.not_false] at hlt
  obtain ⟨c, hc⟩ : ∃ c, t[i]? = some c := ⟨_, List.getElem?_eq_getElem (by omega)⟩
  have hnone : isDg c = false → pDec s t = none := fun k => hbad (okD_bad (List.mem_of_getElem? hc) k)
  have htk := take_snoc hc
  (try refine RUN ?_)
  refine EVL.strAt rfl rfl rfl rfl (by kernel_rfl) rfl rfl i rfl hc ?_
  (try refine RUN ?_)
  by_cases d1 : c.toNat < 48
  ·rw [decide_eq_true (show (c.toNat : Int) < 48 by omega)]
   (try refine RUN ?_)
   refine EVL.call rfl rfl rfl rfl rfl (hof _) ?_
   rintro w G4 hw hG4
   obtain ⟨ra, rl, rc, xa, xl, xc, rfl⟩ := rq_form hw
   (try refine RUN ?_)
   refine bad _ _ (hnone ?_) hw
   rw [← Bool.not_eq_true, isDg_iff]
   omega
  rw [decide_eq_false (show ¬ (c.toNat : Int) < 48 by omega)]
  (try refine RUN ?_)
  refine EVL.strAt rfl rfl rfl rfl (by kernel_rfl) rfl rfl i rfl hc ?_
  (try refine RUN ?_)
  by_cases d2 : c.toNat > 57
  ·rw [decide_eq_true (show (c.toNat : Int) > 57 by omega)]
   (try refine RUN ?_)
   refine EVL.call rfl rfl rfl rfl rfl (hof _) ?_
   rintro w G4 hw hG4
   obtain ⟨ra, rl, rc, xa, xl, xc, rfl⟩ := rq_form hw
   (try refine RUN ?_)
   refine bad _ _ (hnone ?_) hw
   rw [← Bool.not_eq_true, isDg_iff]
   omega
  rw [decide_eq_false (show ¬ (c.toNat : Int) > 57 by omega)]
  have hdg : isDg c = true := isDg_iff.2 ⟨by omega, by omega⟩
  have hdv := dgv hdg
  have hdl := dV_lt hdg
  have hall2 : (t.take (i + 1)).all isDg = true := by rw [htk, List.all_append, hall, List.all_cons, hdg]; rfl
  have hsum : (n * 10 ^ i + valD (t.take i)) * 10 + dV c = n * 10 ^ (i + 1) + valD (t.take (i + 1)) := by rw [htk, valD_snoc, Nat.pow_succ, Nat.add_mul, Nat.mul_assoc]; omega
  have b4 : bl ((n * 10 ^ i + valD (t.take i)) * 10) ≤ 1705 := Nat.le_trans (bl_mul _ _) (by have : bl 10 ≤ 4 := bl_le (by decide); omega)
  have b5 : bl (dV c) ≤ 4 := bl_le (by omega)
  have r10 : rsm 10 := rsm_of (bl_le (k := 4) (by decide)) (by omega)
  have hdW : dV c < W64 := by rw [W64_val]; omega
  generalize n * 10 ^ i + valD (t.take i) = A at *
  generalize hD : dV c = D at *
  (try refine RUN ?_)
  apply EV.drawn 10 (by kernel_rfl) (by kernel_rfl); intro xv yw
  (repeat refine' DD ?_)
  (refine' DJ.lit Tryz.tab_ok rfl rfl rfl rfl rfl rfl rfl rfl rfl rfl rfl rfl ?_; rotate_left)
  refine' DJ.call rfl rfl rfl rfl rfl (cOf Tryz.func11 rfl (by kernel_rfl)) (fun G hG hd => refMul_pc (hv.mono hG) (ten_rn (hd.head (by kernel_rfl))) (rsm_of b3 (by omega)) r10) (fun _ _ _ h k => SlN.mono h k) ?_; rotate_left
  (repeat refine' DD ?_)
  refine' DJ.strAt rfl rfl rfl rfl (by kernel_rfl) rfl rfl i rfl hc ?_; rotate_left
  (repeat refine' DD ?_)
  rw [hdv]
  refine' DJ.call rfl rfl rfl rfl rfl (cOf Tryz.func12 rfl (by kernel_rfl)) (fun G hG hd => refNatOf_pc D hdW _) (fun _ _ _ h k => SlN.mono h k) ?_; rotate_left
  refine' DJ.call rfl rfl rfl rfl rfl (cOf Tryz.func73 rfl (by kernel_rfl)) (fun G hG hd => refAddN_pc (hd.tail.head (by kernel_rfl)) (hd.head (by kernel_rfl)) (rsm_of b4 (by omega)) (rsm_of b5 (by omega))) (fun _ _ _ h k => SlN.mono h k) ?_; rotate_left
  (refine DJ.nil (fun G hG hF => ?_); (case hS => rfl); (case hS2 => rfl))
  obtain ⟨hf, _⟩ := hF
  rw [hsum] at hf
  (try refine RUN ?_)
  exact ⟨(i + 1, xv 9), ⟨rfl, by rw [wi_inc i (by omega)]; rfl, trivial⟩, (by repeat (first | exact trivial | refine And.intro rfl ?_)), trivial, (by repeat (first | exact trivial | refine And.intro rfl ?_)), rfl, ⟨hlt, hall2, hf⟩, hG, by dsimp only; omega⟩
 ·simp only [decide_eq_true_eq, decide_eq_false_iff_not, Int.not_lt, Int.not_le, beq_iff_eq, beq_eq_false_iff_ne, bne_iff_ne, bne_eq_false_iff_eq, ne_eq, Int.ofNat_lt, Int.ofNat_le, Int.natCast_inj, ge_iff_le, gt_iff_lt, Decidable.not_not, Bool.not_eq_true', Bool.not_eq_false', Bool.not_eq_eq_eq_not, Bool.not_true, Bool.not_false] at hlt
  obtain rfl : i = t.length := by omega
  rw [List.take_length] at hall hv b1 b3
  have hok : okD t := ⟨by omega, by omega, hall⟩
  have hr := hdec hok
  have hsgn : sg (decide (s.head? = some 45)) (n * 10 ^ t.length + valD t) = signZ (s.head? = some 45) (n * 10 ^ t.length + valD t) := by
   unfold sg signZ
   by_cases k : s.head? = some 45
   ·rw [if_pos k, if_pos (decide_eq_true k)]
   ·rw [if_neg k, if_neg (by rw [decide_eq_false k]; decide)]
  rw [← hsgn] at hr
  have h10 : 10 ^ t.length ≠ 0 := Nat.ne_of_gt (Nat.pow_pos (by omega))
  rw [← mkRat_sg] at hr
  have hI := fun {G : Hp} {w : Value} (h : RN G w (n * 10 ^ t.length + valD t)) => refI_pc (decide (s.head? = some 45)) h
  have r1 : rsm (sg (decide (s.head? = some 45)) (n * 10 ^ t.length + valD t)).natAbs := by rw [sg_natAbs]; exact rsm_of b3 (by omega)
  have r2 : rsm (sg false (10 ^ t.length)).natAbs := by rw [sg_natAbs]; exact rsm_of b0 (by omega)
  have r3 : sg false (10 ^ t.length) ≠ 0 := by unfold sg; rw [if_neg (by decide)]; omega
  have hpw := fun {G : Hp} {w : Value} (h : RN G w 10) => rnatPow_pc h t.length (by omega)
  generalize hZ : sg (decide (s.head? = some 45)) (n * 10 ^ t.length + valD t) = Z at *
  generalize n * 10 ^ t.length + valD t = S at *
  (try refine RUN ?_)
  refine EVL.call rfl rfl rfl rfl rfl (hI hv) ?_
  rintro x G4 hx hG4
  (try refine RUN ?_)
  refine EVL.lit Tryz.tab_ok rfl rfl rfl rfl rfl rfl rfl rfl rfl rfl rfl fun b1 => ?_
  (first | refine EVL.publish [] [] rfl fun G5 hG5 hb1 => ?_ | refine EV.publish [] [] rfl fun G5 hG5 hb1 => ?_)
  (try refine RUN ?_)
  rw [hst]
  refine EVL.call rfl rfl rfl rfl rfl (hpw (lit_rn hb1)) ?_
  rintro y G6 hy hG6
  (try refine RUN ?_)
  refine EVL.call rfl rfl rfl rfl rfl (refI_pc false hy) ?_
  rintro z G7 hz hG7
  (try refine RUN ?_)
  refine EVL.call rfl rfl rfl rfl rfl (refMake_pc (hx.mono ((hG5.trans hG6).trans hG7)) hz r1 r2 r3) ?_
  rintro w G8 hw hG8
  obtain ⟨ra, rl, rc, xa, xl, xc, rfl⟩ := rq_form hw
  (try refine RUN ?_)
  rw [hr]
  exact ⟨_, rfl, hw⟩
theorem pI_Q (s : List UInt8) : (Option.map (fun z : Int => (z : Rat)) (pI s)).getD 0 = (((pI s).getD 0 : Int) : Rat) := by
 cases pI s <;> rfl
theorem ri_form {G : Hp} {w : Value} {z : Int} (h : RI G w z) : ∃ ra rl rc, w = .agg #[.bool (decide (z < 0)), .slice ra rl rc] := by
 obtain ⟨ra, rl, rc, e, _⟩ := h
 exact ⟨ra, rl, rc, e⟩
theorem isByte {c : UInt8} (k : UInt8) : ((c.toNat : Int) == (k.toNat : Int)) = decide (c = k) := by
 by_cases h : c = k
 ·subst h; rw [decide_eq_true rfl]; exact beq_self_eq_true _
 ·rw [decide_eq_false h]
  refine beq_eq_false_iff_ne.2 fun e => h (UInt8.toNat_inj.1 (by omega))
set_option maxRecDepth 100000 in
set_option maxHeartbeats 32000000 in
theorem rparse_pc {H : Hp} (s : List UInt8) (hl : s.length ≤ 9223372036854775807) : PC Tryz.prog 14 #[.string (sb s)] H fun r H' => ∃ v, r = .tuple #[v, .bool (pQ s).isSome] ∧ RQ H' v ((pQ s).getD 0) := by
 have hsz := sb_size s
 have hof := fun G : Hp => refOf_pc (H := G) 0 (by omega) (by omega)
 have hIP := fun (G : Hp) (l : List UInt8) => rintParse_pc (H := G) l
 have hNP := fun (G : Hp) (l : List UInt8) => rnatParse_pc (H := G) l
 have hDP := fun (G : Hp) (l m : List UInt8) => rdec_pc (H := G) l m
 have bad : ∀ (G : Hp) (v : Value), pQ s = none → RQ G v ((0 : Int) : Rat) → ∃ w, Value.tuple #[v, .bool false] = .tuple #[w, .bool (pQ s).isSome] ∧ RQ G w ((pQ s).getD 0) := fun G v e h => ⟨v, by rw [e]; rfl, by rw [e]; exact h⟩
 refine PC.body Tryz.tab_ok Tryz.func14 rfl (by kernel_rfl) Tryz.ntmps14 rfl rfl ?_
 (try refine RUN ?_)
 refine EV.loopK (ι := Nat) [0, 2] [2] (fun i => [(4, .v (.int .i64 (i : Int)))]) (fun _ => []) (fun _ => []) (fun i _ => i ≤ s.length ∧ ∀ (j : Nat), j < i → s[j]? ≠ some 47 ∧ s[j]? ≠ some 46) (fun i => s.length - i) (0) rfl rfl ⟨rfl, trivial⟩ trivial rfl (fun _ => rfl) (⟨Nat.zero_le _, fun j hj => absurd hj (Nat.not_lt_zero _)⟩) ?_
 rintro i G1 hG1 ⟨hi, hb⟩
 (try refine RUN ?_)
 rw [hsz]
 refine EV.cond rfl (fun hlt => ?_) (fun hlt => ?_)
 case refine_2 =>
  simp only [decide_eq_true_eq, decide_eq_false_iff_not, Int.not_lt, Int.not_le, beq_iff_eq, beq_eq_false_iff_ne, bne_iff_ne, bne_eq_false_iff_eq, ne_eq, Int.ofNat_lt, Int.ofNat_le, Int.natCast_inj, ge_iff_le, gt_iff_lt, Decidable.not_not, Bool.not_eq_true', Bool.not_eq_false', Bool.not_eq_eq_eq_not, Bool.not_true, Bool.not_false] at hlt
  obtain rfl : i = s.length := by omega
  have hq : pQ s = Option.map (fun z : Int => (z : Rat)) (pI s) := pQ_int fun c hc => by
   obtain ⟨j, hj, e⟩ := List.getElem_of_mem hc
   have := hb j hj
   rw [List.getElem?_eq_getElem hj, e] at this
   exact ⟨fun k => this.1 (by rw [k]), fun k => this.2 (by rw [k])⟩
  (try refine RUN ?_)
  refine EVL.call rfl rfl rfl rfl rfl (hIP _ s) ?_
  rintro _ G2 ⟨v, rfl, hv⟩ hG2
  have hp : (pQ s).isSome = (pI s).isSome := by rw [hq]; cases pI s <;> rfl
  have hg : (pQ s).getD 0 = (((pI s).getD 0 : Int) : Rat) := by rw [hq]; exact pI_Q s
  rw [hp, hg]
  generalize (pI s).isSome = bb at *
  generalize (pI s).getD 0 = z at *
  obtain ⟨ra, rl, rc, rfl, hr⟩ := id hv
  (try refine RUN ?_)
  refine EV.less [(10, .v (.bool bb)), (9, .p 9 0), (2, .p 2 0)] [(2, 30, Tryz.te30.zero), (9, 28, [.bool (decide (z < 0)), .slice ra rl rc])] ⟨rfl, rfl, rfl, trivial⟩ ⟨rfl, rfl, trivial⟩ rfl ?_
  apply EV.drawnS ([(2, 30, Tryz.te30.zero)]) 5 (by kernel_rfl) (by kernel_rfl); intro xv yw
  (repeat refine' DD ?_)
  refine' DJ.call rfl rfl rfl rfl rfl (cOf Tryz.func12 rfl (by kernel_rfl)) (fun G hG hd => refNatOf_pc 1 (by decide) _) (fun _ _ _ h k => SlN.mono h k) ?_; rotate_left
  refine' DJ.fnP Tryz.tab_ok (1) (fun w => .agg #[.bool (decide (z < 0)), .slice ra rl rc, w]) rfl rfl rfl (by kernel_rfl) (fun G hd => (by obtain ⟨xa, xc, e⟩ := SlC.val (hd.head (by kernel_rfl)); rw [e]; rfl)) ?_; rotate_left
  (repeat refine' DD ?_)
  refine' DJ.setbD Tryz.tab_ok rfl rfl rfl rfl (1) (fun w => .agg #[.bool (decide (z < 0)), .slice ra rl rc, w]) rfl rfl rfl (by kernel_rfl) rfl (fun G hd => (by obtain ⟨xa, xc, e⟩ := SlC.val (hd.head (by kernel_rfl)); rw [e]; exact ⟨rfl, rfl⟩)) ?_; rotate_left
  (refine DJ.nil (fun G hG hF => ?_); (case hS => rfl); (case hS2 => rfl); (case hD => rfl))
  obtain ⟨hf, _⟩ := hF
  obtain ⟨xa, xc, he⟩ := SlC.val hf
  rw [he] at hf ⊢
  dsimp only
  (try refine RUN ?_)
  exact ⟨_, rfl, ra, rl, rc, xa, _, xc, rfl, RN.mono hr hG, hf⟩
 simp only [decide_eq_true_eq, decide_eq_false_iff_not, Int.not_lt, Int.not_le, beq_iff_eq, beq_eq_false_iff_ne, bne_iff_ne, bne_eq_false_iff_eq, ne_eq, Int.ofNat_lt, Int.ofNat_le, Int.natCast_inj, ge_iff_le, gt_iff_lt, Decidable.not_not, Bool.not_eq_true', Bool.not_eq_false', Bool.not_eq_eq_eq_not, Bool.not_true, Bool.not_false] at hlt
 have hlt2 : i < s.length := by omega
 obtain ⟨c, hc⟩ : ∃ c, s[i]? = some c := ⟨_, List.getElem?_eq_getElem hlt2⟩
 have hi1 : IntKind.i64.wrap ((i : Int) + 1) = ((i + 1 : Nat) : Int) := by rw [IntKind.wrap_i64]; omega
 (try refine RUN ?_)
 refine EVL.strAt rfl rfl rfl rfl (by kernel_rfl) rfl rfl i rfl hc ?_
 (try refine RUN ?_)
 rw [show ((c.toNat : Int) == 47) = decide (c = 47) from isByte 47]
 by_cases c1 : c = 47
 ·subst c1
  have hq := pQ_over hc fun j hj => (hb j hj).1
  rw [decide_eq_true rfl]
  (try refine RUN ?_)
  refine EVL.strSlc rfl rfl rfl rfl (by kernel_rfl) rfl 0 i (.inl ⟨rfl, rfl⟩) (.inr ⟨_, IntKind.i64, rfl, rfl⟩) (by omega) (by rw [hsz]; omega) ?_
  rw [sb_cut, List.drop_zero, Nat.sub_zero]
  (try refine RUN ?_)
  refine EVL.call rfl rfl rfl rfl rfl (hIP _ (s.take i)) ?_
  rintro _ G2 ⟨v, rfl, hv⟩ hG2
  obtain ⟨ra, rl, rc, rfl⟩ := ri_form hv
  (try refine RUN ?_)
  rw [hi1]
  refine EVL.strSlc rfl rfl rfl rfl (by kernel_rfl) rfl (i + 1) s.length (.inr ⟨_, IntKind.i64, rfl, rfl⟩) (.inl ⟨rfl, hsz.symm⟩) (by omega) (by rw [hsz]; exact Nat.le_refl _) ?_
  rw [sb_cut, List.take_of_length_le (l := s.drop (i + 1)) (by rw [List.length_drop]; exact Nat.le_refl _)]
  (try refine RUN ?_)
  refine EVL.call rfl rfl rfl rfl rfl (hNP _ (s.drop (i + 1))) ?_
  rintro _ G3 ⟨w, rfl, hw⟩ hG3
  cases hz : pI (s.take i) with
  | none =>
   (try refine RUN ?_)
   refine EVL.call rfl rfl rfl rfl rfl (hof _) ?_
   rintro x G4 hx hG4
   obtain ⟨ya, yl, yc, yd, ye, yf, rfl⟩ := rq_form hx
   (try refine RUN ?_)
   exact bad _ _ (by rw [hq]; unfold pOver; rw [hz]) hx
  | some z =>
  have bz := pI_bl hz
  cases hd : pN (s.drop (i + 1)) with
  | none =>
   (try refine RUN ?_)
   refine EVL.call rfl rfl rfl rfl rfl (hof _) ?_
   rintro x G4 hx hG4
   obtain ⟨ya, yl, yc, yd, ye, yf, rfl⟩ := rq_form hx
   (try refine RUN ?_)
   exact bad _ _ (by rw [hq]; unfold pOver; rw [hz, hd]) hx
  | some n =>
  have bn := pN_bl hd
  have ho : pQ s = if n = 0 then none else some (mkRat z n) := by rw [hq]; unfold pOver; rw [hz, hd]
  rw [hz] at hv
  have hv2 : RI G2 (.agg #[.bool (decide (z < 0)), .slice ra rl rc]) z := hv
  rw [hd] at hw
  have hw2 : RN G3 w n := hw
  have hnI := fun {G : Hp} (k : G3.Le G) => refI_pc false (RN.mono hw2 k)
  obtain ⟨wa, wc, rfl⟩ := SlC.val hw2
  clear hv hw
  (try refine RUN ?_)
  by_cases h0 : n = 0
  ·rw [show ((((dig B32 n).length : Nat) : Int) == 0) = true from digB_nz.2 h0]
   (try refine RUN ?_)
   refine EVL.call rfl rfl rfl rfl rfl (hof _) ?_
   rintro x G4 hx hG4
   obtain ⟨ya, yl, yc, yd, ye, yf, rfl⟩ := rq_form hx
   (try refine RUN ?_)
   exact bad _ _ (by rw [ho, if_pos h0]) hx
  ·rw [show ((((dig B32 n).length : Nat) : Int) == 0) = false from by rw [← Bool.not_eq_true]; exact fun k => h0 (digB_nz.1 k)]
   have r1 : rsm z.natAbs := rsm_of bz (by omega)
   have r2 : rsm (sg false n).natAbs := by rw [sg_natAbs]; exact rsm_of bn (by omega)
   have r3 : sg false n ≠ 0 := by unfold sg; rw [if_neg (by decide)]; omega
   have hmk : Rat.divInt z (sg false n) = mkRat z n := by
    show Rat.divInt z (n : Int) = _
    rw [Rat.divInt_ofNat]
   rw [ho, if_neg h0, ← hmk]
   generalize sg false n = D at *
   (try refine RUN ?_)
   apply EV.drawn 4 (by kernel_rfl) (by kernel_rfl); intro xv yw
   (repeat refine' DD ?_)
   refine' DJ.call rfl rfl rfl rfl rfl (cOf Tryz.func31 rfl (by kernel_rfl)) (fun G hG hd => hnI hG) (fun _ _ _ h k => RI.mono h k) ?_; rotate_left
   refine' DJ.call rfl rfl rfl rfl rfl (cOf Tryz.func30 rfl (by kernel_rfl)) (fun G hG hd => refMake_pc (RI.mono hv2 (hG3.trans hG)) (hd.head (by kernel_rfl)) r1 r2 r3) (fun _ _ _ h k => RQ.mono h k) ?_; rotate_left
   (refine DJ.nil (fun G hG hF => ?_); (case hS => rfl); (case hS2 => rfl))
   obtain ⟨hf, _⟩ := hF
   obtain ⟨ya, yl, yc, yd, ye, yf, he⟩ := rq_form hf
   rw [he] at hf ⊢
   (try refine RUN ?_)
   exact ⟨_, rfl, hf⟩
 rw [decide_eq_false c1]
 (try refine RUN ?_)
 refine EVL.strAt rfl rfl rfl rfl (by kernel_rfl) rfl rfl i rfl hc ?_
 (try refine RUN ?_)
 rw [show ((c.toNat : Int) == 46) = decide (c = 46) from isByte 46]
 by_cases c2 : c = 46
 ·subst c2
  have hq := pQ_dec hc hb
  rw [decide_eq_true rfl]
  (try refine RUN ?_)
  apply EV.drawn 10 (by kernel_rfl) (by kernel_rfl); intro xv yw
  (repeat refine' DD ?_)
  refine' DJ.strSlc rfl rfl rfl rfl (by kernel_rfl) rfl 0 i (.inl ⟨rfl, rfl⟩) (.inr ⟨_, IntKind.i64, rfl, rfl⟩) (by omega) (by rw [hsz]; omega) ?_; rotate_left
  (repeat refine' DD ?_)
  rw [hi1]
  refine' DJ.strSlc rfl rfl rfl rfl (by kernel_rfl) rfl (i + 1) s.length (.inr ⟨_, IntKind.i64, rfl, rfl⟩) (.inl ⟨rfl, hsz.symm⟩) (by omega) (by rw [hsz]; exact Nat.le_refl _) ?_; rotate_left
  rw [sb_cut, sb_cut, List.drop_zero, Nat.sub_zero, List.take_of_length_le (l := s.drop (i + 1)) (by rw [List.length_drop]; exact Nat.le_refl _)]
  refine' DJ.call rfl rfl rfl rfl rfl (cOf Tryz.func41 rfl (by kernel_rfl)) (fun G hG hd => hDP _ (s.take i) (s.drop (i + 1))) (fun _ _ _ h k => (by obtain ⟨v, e, hv⟩ := h; exact ⟨v, e, RQ.mono hv k⟩)) ?_; rotate_left
  refine' DJ.extract (7) rfl rfl rfl rfl rfl (by kernel_rfl) (fun G hd => (by obtain ⟨v, e, _⟩ := hd.head (by kernel_rfl); exact ⟨_, e, Nat.zero_lt_succ _⟩)) ?_; rotate_left
  refine' DJ.extract (7) rfl rfl rfl rfl rfl (by kernel_rfl) (fun G hd => (by obtain ⟨v, e, _⟩ := hd.head (by kernel_rfl); exact ⟨_, e, Nat.lt_succ_self _⟩)) ?_; rotate_left
  (refine DJ.nil (fun G hG hF => ?_); (case hS => rfl); (case hS2 => rfl))
  obtain ⟨⟨v, e, hv⟩, _⟩ := hF
  rw [← hq] at e hv
  obtain ⟨ya, yl, yc, yd, ye, yf, rfl⟩ := rq_form hv
  rw [e]
  (try refine RUN ?_)
  exact ⟨_, rfl, hv⟩
 ·rw [decide_eq_false c2]
  (try refine RUN ?_)
  exact ⟨i + 1, ⟨by rw [hi1]; rfl, trivial⟩, (by repeat (first | exact trivial | refine And.intro rfl ?_)), trivial, (by repeat (first | exact trivial | refine And.intro rfl ?_)), rfl, ⟨by omega, fun j hj => by
   by_cases e : j = i
   ·subst e
    rw [hc]
    exact ⟨fun k => c1 (Option.some.inj k), fun k => c2 (Option.some.inj k)⟩
   ·exact hb j (by omega)⟩, Hp.Le.refl _, by omega⟩
theorem decD_bits : ∀ (k n : Nat), n < 2 ^ k → (Lib.decDigits n).length ≤ k + 1
 | 0, n, h => by
  have : n = 0 := by simpa using h
  rw [this, decD_low (by omega)]; simp
 | k + 1, n, h => by
  by_cases h10 : n < 10
  ·rw [decD_low h10]; simp
  ·rw [decD_step (by omega), List.length_append, List.length_singleton]
   rw [Nat.pow_succ] at h
   have := decD_bits k (n / 10) (by omega)
   omega
theorem decD_bl (n : Nat) : (Lib.decDigits n).length ≤ bl n + 1 := decD_bits _ _ (lt_bl n)
def fracT (q : Rat) : List UInt8 := if q.den = 1 then wtL q.num else wtL q.num ++ [47] ++ Lib.decDigits q.den
theorem wtL_bl (z : Int) : (wtL z).length ≤ bl z.natAbs + 2 := by
 have := decD_bl z.natAbs
 unfold wtL
 split
 ·rw [List.length_append, List.length_singleton]; omega
 ·rw [List.nil_append]; omega
section
variable {P : Program} {n : Nat} {ops : Array Oper} {o : Oper} {rest : List Oper} {env : Env} {bx : Bxs} {H : Hs} {Q : EQ} {d : Nat}
theorem EVL.strOf {src dst e : TypeId} {x : Operand} (ho : o.op = .convert src dst x) (hw : wantB ops env o = some true) (hd : o.dst = some d) (hn : Nat.blt d n = true) (hs : P.underlying src = some (.slice e)) (he : P.underlying e = some (.int .u8)) (hdt : P.underlying dst = some .string)
  {b cap : Nat} (l : List UInt8) (hx : env.op x = some (.v (.slice (some ⟨b, 0, none⟩) l.length cap))) (jj : Nat) {T' : TypeId} {cs : List Value} (hj : H.ow[jj]? = some (b, T', cs)) (hc : ∀ j (hj : j < l.length), cs[j]? = some (.int .u8 (l[j].toNat : Int)))
  (h : EVL P n ops rest ((d, .v (.string (sb l))) :: env) bx H Q) : EVL P n ops (o :: rest) env bx H Q := fun W0 β a W r => by
 obtain ⟨hB, _⟩ := r.own jj b T' cs hj
 have ex : a.eval x = .slice (some ⟨b, 0, none⟩) l.length cap := r.op hx
 have hrun := run_convert_bytes_back (P := P) W src dst e ⟨b, 0, none⟩ cap l hs he hdt (fun j hj => by
  rw [Lib.add_plain]
  rw [Lib.cell_of_heap hB, Nat.zero_add, List.getElem?_toArray]
  exact hc j hj)
 unfold wpList
 rw [if_pos (r.want hw)]
 refine .inl ?_
 have hx' : (execOp a.eval o).run P W = .ok (.value (.string (sb l))) W := by
  unfold execOp
  simp only [ho, ex, Sem.run_bind, hrun, Result.andThen_ok, Sem.run_pure]
 unfold Oper.wp
 rw [hx', Oper.upon_value, hd]
 exact h W0 β _ W (r.put hn rfl rfl)
end
theorem wholeTextA_pc {H : Hp} (z : Int) (hz : bl z.natAbs ≤ 8000000) (hT : PowT H) : PC Tryz.prog 23 #[intV z] H fun r _ => r = .string (sb (wtL z)) := by
 have hl := decD_bl z.natAbs
 have hn := natTextA_pc z.natAbs (Nat.le_trans hz (by decide)) hT
 refine PC.body Tryz.tab_ok Tryz.func23 rfl (by kernel_rfl) Tryz.ntmps23 rfl rfl ?_
 (try refine RUN ?_)
 by_cases h : z < 0
 ·rw [decide_eq_true h]
  repeat (first | refine RUN ?_ | refine CV (hn) ?_ | refine CE (hn) ?_)
  refine EVL.cat [45] (Lib.decDigits z.natAbs) rfl rfl rfl rfl rfl rfl (by decide) (by omega) ?_
  (try refine RUN ?_)
  unfold wtL; rw [if_pos h]
 ·rw [decide_eq_false h]
  repeat (first | refine RUN ?_ | refine CV (hn) ?_ | refine CE (hn) ?_)
  unfold wtL; rw [if_neg h]; rfl
theorem fracTextA_pc {H : Hp} (q : Rat) (hq : ht q ≤ 8000) (hT : PowT H) : PC Tryz.prog 19 #[fracV q] H fun r _ => r = .string (sb (fracT q)) := by
 have h1 := bl_num_le q
 have h2 := bl_den_le q
 have hl1 := wtL_bl q.num
 have hl2 := decD_bl q.den
 have hn := fun G (h : H.Le G) => wholeTextA_pc (H := G) q.num (by omega) (hT.mono h)
 have hdt := fun G (h : H.Le G) => natTextA_pc (H := G) (dk q.den) (Nat.le_trans (show bl (dk q.den) ≤ 8000 by have := dk_bl q.den; omega) (by decide)) (hT.mono h)
 have hw := isWhole_pv q (Nat.le_trans (show bl q.den ≤ 8000 by omega) (by decide))
 refine PC.body Tryz.tab_ok Tryz.func19 rfl (by kernel_rfl) Tryz.ntmps19 rfl rfl ?_
 repeat (first | refine RUN ?_ | refine CV (hw) ?_ | refine CE (hw) ?_)
 by_cases h : q.den = 1
 ·rw [decide_eq_true h]
  (try refine RUN ?_)
  refine EVL.call rfl rfl rfl rfl rfl (hn _ (Hp.Le.refl _)) ?_
  rintro _ G rfl hG
  (try refine RUN ?_)
  unfold fracT; rw [if_pos h]
 ·rw [decide_eq_false h]
  (try refine RUN ?_)
  apply EV.drawn 8 (by kernel_rfl) (by kernel_rfl); intro xv yw
  (repeat refine' DD ?_)
  refine' DJ.callS rfl rfl rfl rfl rfl (cOf Tryz.func23 rfl (by kernel_rfl)) (fun G hG hd => hn G hG) ?_; rotate_left
  refine' DJ.cat (wtL q.num) [47] rfl rfl rfl rfl rfl rfl (by omega) (by decide) ?_; rotate_left
  (repeat refine' DD ?_)
  refine' DJ.callS rfl rfl rfl rfl rfl (cOf Tryz.func51 rfl (by kernel_rfl)) (fun G hG hd => hdt G hG) ?_; rotate_left
  refine' DJ.cat (wtL q.num ++ [47]) (Lib.decDigits (dk q.den)) rfl rfl rfl rfl rfl rfl (by rw [List.length_append, List.length_singleton]; omega) (by rw [dk_ne h]; omega) ?_; rotate_left
  (refine DJ.nil (fun G2 hG2 hF2 => ?_); (case hS => rfl); (case hS2 => rfl))
  (try refine RUN ?_)
  unfold fracT; rw [if_neg h, dk_ne h]
def decN (n : Nat) : List UInt8 := if n = 0 then [] else Lib.decDigits n
theorem decN_bl (n : Nat) : (decN n).length ≤ bl n + 1 := by
 unfold decN; split
 ·exact Nat.zero_le _
 ·exact decD_bl n
def Ten9 : Nat := 1000000000
theorem Ten9_pow : Ten9 = 10 ^ 9 := rfl
theorem decN_step {m : Nat} (hq : m / Ten9 ≠ 0) : decN m = decN (m / Ten9) ++ padD 9 (m % Ten9) := by
 have hm : m ≠ 0 := fun e => hq (by rw [e, Nat.zero_div])
 unfold decN
 rw [if_neg hm, if_neg hq, ← decD_pad 9 (m / Ten9) (m % Ten9) (Nat.pos_of_ne_zero hq) (by rw [← Ten9_pow]; exact Nat.mod_lt _ (by decide)), ← Ten9_pow]
 congr 1
 rw [Nat.mul_comm]; exact (Nat.div_add_mod m Ten9).symm
theorem part_end {m k : Nat} (hm : m ≠ 0) (hk : k ≤ 9) (hlow : m / Ten9 = 0 → 0 < k → 10 ^ (k - 1) ≤ m) (hend : ¬ (k < 9 ∧ (m % Ten9 / 10 ^ k > 0 ∨ m / Ten9 ≠ 0))) : decN m = decN (m / Ten9) ++ padD k (m % Ten9) := by
 by_cases hq : m / Ten9 = 0
 ·have hlt : m < Ten9 := by
   rcases Nat.div_eq_zero_iff.1 hq with h | h
   ·exact absurd h (by decide)
   ·exact h
  have hmm : m % Ten9 = m := Nat.mod_eq_of_lt hlt
  rw [hmm] at hend ⊢
  have hz : m < 10 ^ k := by
   by_cases h9 : k < 9
   ·have h0 : m / 10 ^ k = 0 := by
     apply Nat.eq_zero_of_not_pos
     exact fun h => hend ⟨h9, .inl h⟩
    rcases Nat.div_eq_zero_iff.1 h0 with h | h
    ·have := Nat.pow_pos (n := k) (show 0 < 10 by omega)
     omega
    ·exact h
   ·have : k = 9 := by omega
    subst this
    exact hlt
  have hk0 : 0 < k := by
   apply Nat.pos_of_ne_zero
   intro e
   subst e
   simp at hz
   exact hm hz
  have hl := hlow hq hk0
  obtain ⟨j, rfl⟩ : ∃ j, k = j + 1 := ⟨k - 1, by omega⟩
  rw [Nat.add_sub_cancel] at hl
  rw [hq]
  unfold decN
  rw [if_neg hm, if_pos rfl, List.nil_append, padD_exact j m hl hz]
 ·have : k = 9 := by
   by_cases h9 : k < 9
   ·exact absurd ⟨h9, .inr hq⟩ hend
   ·omega
  subst this
  exact decN_step hq
theorem sb_eq_nil (l : List UInt8) : ((sb l).toList == (⟨#[]⟩ : ByteArray).toList) = decide (l = []) := by
 rw [Lib.toList_data, Lib.toList_data]
 cases l with
 | nil => rfl
 | cons a l => rfl
theorem digit8 (r : Nat) : IntKind.u8.wrap (IntKind.u32.wrap (48 + ((r : Nat) : Int).tmod 10)) = ((UInt8.ofNat (48 + r % 10)).toNat : Int) := by
 rw [show (10 : Int) = ((10 : Nat) : Int) from rfl, wi_rem, wrapU8, wrapU32, UInt8.toNat_ofNat']
 have := Nat.mod_lt r (show 10 > 0 by omega)
 omega
theorem q32 (a b : Nat) (h : a < Ten9) : IntKind.u32.wrap ((a : Int).tdiv (b : Int)) = ((a / b : Nat) : Int) := by
 rw [show (a : Int).tdiv (b : Int) = ((a / b : Nat) : Int) from rfl, wu32, Nat.mod_eq_of_lt]
 have := Nat.div_le_self a b
 exact Nat.lt_of_le_of_lt this (Nat.lt_trans h (by decide))
theorem ten32 : n32 Ten9 = .int .u32 1000000000 := rfl
set_option maxRecDepth 100000 in
set_option maxHeartbeats 16000000 in
theorem refNatText_pc {H : Hp} {v : Value} (n : Nat) (hn : bl n ≤ 8000000) (hv : RN H v n) : PC Tryz.prog 8 #[v] H fun r _ => r = .string (sb (Lib.decDigits n)) := by
 have hlb := decN_bl n
 obtain ⟨va, vc, rfl⟩ := SlC.val hv
 refine PC.body Tryz.tab_ok Tryz.func8 rfl (by kernel_rfl) Tryz.ntmps8 rfl rfl ?_
 (try refine RUN ?_)
 refine EV.loopK (ι := Nat × List UInt8 × Option Addr × Nat) [] [] (fun s => [(0, .v (.slice s.2.2.1 (dig B32 s.1).length s.2.2.2)), (3, .v (.string (sb s.2.1)))]) (fun _ => []) (fun _ => []) (fun s G => RN G (.slice s.2.2.1 (dig B32 s.1).length s.2.2.2) s.1 ∧ decN s.1 ++ s.2.1 = decN n ∧ s.1 ≤ n) (fun s => s.1) ((n, [], va, vc)) rfl rfl ⟨rfl, rfl, trivial⟩ trivial rfl (fun _ => rfl) (⟨hv, List.append_nil _, Nat.le_refl _⟩) ?_
 rintro ⟨m, s, a, c⟩ G1 hG1 ⟨hm, hs, hmn⟩
 dsimp only at hm hs hmn
 by_cases h0 : m = 0
 ·subst h0
  have hs' : s = decN n := hs
  subst hs'
  dsimp only
  (try refine RUN ?_)
  rw [decide_eq_false (show ¬ ((dig B32 0).length : Int) > 0 by rw [dig_zero]; decide)]
  (try refine RUN ?_)
  rw [sb_eq_nil]
  by_cases hn0 : n = 0
  ·have e : decN n = [] := if_pos hn0
   rw [decide_eq_true e]
   (try refine RUN ?_)
   rw [hn0, decD_low (by omega)]; rfl
  ·have e : decN n = Lib.decDigits n := if_neg hn0
   rw [decide_eq_false (show ¬ decN n = [] by rw [e]; exact decD_ne n)]
   (try refine RUN ?_)
   rw [e]
 ·have hm0 : 0 < (dig B32 m).length := List.length_pos_iff.2 (by rw [dig_pos B32_two h0]; simp)
  have hl32 : (dig B32 n).length ≤ 100000000 := Nat.le_trans (dig_len_le B32_two n (bl n) (Nat.lt_of_lt_of_le (lt_bl n) (Nat.pow_le_pow_left B32_two _))) (by omega)
  have hlm : (dig B32 m).length ≤ 100000000 := Nat.le_trans (dig_len_le B32_two m (bl n) (Nat.lt_of_le_of_lt hmn (Nat.lt_of_lt_of_le (lt_bl n) (Nat.pow_le_pow_left B32_two _)))) (by omega)
  have hone := refOne_pc hm (dig_norm B32_two m).1 hlm Ten9 (by decide) (by decide)
  rw [dig_val B32_two m, ten32] at hone
  (try refine RUN ?_)
  rw [decide_eq_true (show ((dig B32 m).length : Int) > 0 by omega)]
  (try refine RUN ?_)
  refine EVL.call rfl rfl rfl rfl rfl (hone) ?_
  rintro _ G2 ⟨q, rfl, hq⟩ hG2
  obtain ⟨qa, qc, rfl⟩ := SlC.val hq
  have hrl : m % Ten9 < Ten9 := Nat.mod_lt _ (by decide)
  have hql : (dig B32 (m / Ten9)).length > 0 ↔ m / Ten9 ≠ 0 := by
   constructor
   ·intro h e; rw [e, dig_zero] at h; exact absurd h (by decide)
   ·intro h; exact List.length_pos_iff.2 (by rw [dig_pos B32_two h]; simp)
  (try refine RUN ?_)
  refine EV.loopK (ι := Nat) [3, 4] [] (fun k => [(5, .v (n32 (m % Ten9 / 10 ^ k))), (6, .v (.string (sb (padD k (m % Ten9))))), (7, .v (.int .i64 (k : Int)))]) (fun _ => []) (fun _ => []) (fun k _ => k ≤ 9 ∧ (m / Ten9 = 0 → 0 < k → 10 ^ (k - 1) ≤ m)) (fun k => 9 - k) (0) rfl rfl ⟨by rw [Nat.pow_zero, Nat.div_one]; rfl, rfl, rfl, trivial⟩ trivial rfl (fun _ => rfl) (⟨by omega, fun _ h => absurd h (by decide)⟩) ?_
  rintro k G3 hG3 ⟨hk, hlow⟩
  have hr9 : m % Ten9 / 10 ^ k < Ten9 := Nat.lt_of_le_of_lt (Nat.div_le_self _ _) hrl
  by_cases hend : k < 9 ∧ (m % Ten9 / 10 ^ k > 0 ∨ m / Ten9 ≠ 0)
  ·have hrd : padD (k + 1) (m % Ten9) = UInt8.ofNat (48 + m % Ten9 / 10 ^ k % 10) :: padD k (m % Ten9) := padD_cons k _
   have hdv : m % Ten9 / 10 ^ k / 10 = m % Ten9 / 10 ^ (k + 1) := by rw [Nat.div_div_eq_div_mul, Nat.pow_succ]
   have hnx : m / Ten9 = 0 → 0 < k + 1 → 10 ^ (k + 1 - 1) ≤ m := by
    intro h1 _
    rw [Nat.add_sub_cancel]
    rcases hend.2 with h | h
    ·have h2 : 0 < 10 ^ k := Nat.pow_pos (by omega)
     have h3 : 1 * 10 ^ k ≤ m % Ten9 := (Nat.le_div_iff_mul_le h2).1 h
     have h4 := Nat.mod_le m Ten9
     omega
    ·exact absurd h1 h
   have hpl := padD_len k (m % Ten9)
   by_cases hr0 : m % Ten9 / 10 ^ k > 0
   ·generalize hrr : m % Ten9 / 10 ^ k = r at *
    (try refine RUN ?_)
    rw [decide_eq_true (show (k : Int) < 9 by omega)]
    (try refine RUN ?_)
    rw [decide_eq_true (show (r : Int) > 0 by omega)]
    (try refine RUN ?_)
    rw [digit8 r]
    refine EVL.lit Tryz.tab_ok rfl rfl rfl rfl rfl rfl rfl rfl rfl rfl rfl fun g => ?_
    refine EVL.strOf rfl rfl rfl rfl rfl rfl rfl (b := g) (cap := 1) [UInt8.ofNat (48 + r % 10)] rfl 0 rfl (fun j hj => ?_) ?_
    ·obtain rfl : j = 0 := by simpa using hj
     rfl
    (first | refine EVL.subOw [] [(g, _, _)] [] rfl ?_ | refine EV.subOw [] [(g, _, _)] [] rfl ?_)
    (try refine RUN ?_)
    refine EVL.cat [UInt8.ofNat (48 + r % 10)] (padD k (m % Ten9)) rfl rfl rfl rfl rfl rfl (by simp) (by omega) ?_
    (try refine RUN ?_)
    refine ⟨k + 1, ⟨?_, ?_, ?_, trivial⟩, (by repeat (first | exact trivial | refine And.intro rfl ?_)), trivial, trivial, rfl, ⟨by omega, hnx⟩, Hp.Le.refl _, by omega⟩
    ·rw [show (10 : Int) = ((10 : Nat) : Int) from rfl, q32 r 10 hr9, hdv]; rfl
    ·rw [hrd]; rfl
    ·rw [show IntKind.i64.wrap ((k : Int) + 1) = ((k + 1 : Nat) : Int) by rw [IntKind.wrap_i64]; omega]; rfl
   ·obtain ⟨hr00, hqn⟩ : m % Ten9 / 10 ^ k = 0 ∧ m / Ten9 ≠ 0 := ⟨Nat.eq_zero_of_not_pos hr0, hend.2.resolve_left hr0⟩
    have hqp := hql.2 hqn
    generalize hrr : m % Ten9 / 10 ^ k = r at *
    (try refine RUN ?_)
    rw [decide_eq_true (show (k : Int) < 9 by omega)]
    (try refine RUN ?_)
    rw [decide_eq_false (show ¬ (r : Int) > 0 by omega)]
    (try refine RUN ?_)
    rw [decide_eq_true (show ((dig B32 (m / Ten9)).length : Int) > 0 by omega)]
    (try refine RUN ?_)
    rw [digit8 r]
    refine EVL.lit Tryz.tab_ok rfl rfl rfl rfl rfl rfl rfl rfl rfl rfl rfl fun g => ?_
    refine EVL.strOf rfl rfl rfl rfl rfl rfl rfl (b := g) (cap := 1) [UInt8.ofNat (48 + r % 10)] rfl 0 rfl (fun j hj => ?_) ?_
    ·obtain rfl : j = 0 := by simpa using hj
     rfl
    (first | refine EVL.subOw [] [(g, _, _)] [] rfl ?_ | refine EV.subOw [] [(g, _, _)] [] rfl ?_)
    (try refine RUN ?_)
    refine EVL.cat [UInt8.ofNat (48 + r % 10)] (padD k (m % Ten9)) rfl rfl rfl rfl rfl rfl (by simp) (by omega) ?_
    (try refine RUN ?_)
    refine ⟨k + 1, ⟨?_, ?_, ?_, trivial⟩, (by repeat (first | exact trivial | refine And.intro rfl ?_)), trivial, trivial, rfl, ⟨by omega, hnx⟩, Hp.Le.refl _, by omega⟩
    ·rw [show (10 : Int) = ((10 : Nat) : Int) from rfl, q32 r 10 hr9, hdv]; rfl
    ·rw [hrd]; rfl
    ·rw [show IntKind.i64.wrap ((k : Int) + 1) = ((k + 1 : Nat) : Int) by rw [IntKind.wrap_i64]; omega]; rfl
  ·have hfin := part_end h0 hk hlow hend
   rw [hfin, List.append_assoc] at hs
   have hsl : (padD k (m % Ten9)).length ≤ 8388608 := by rw [padD_len]; omega
   have hsl2 : s.length ≤ 8388608 := by
    have := congrArg List.length hs
    rw [List.length_append, List.length_append] at this
    omega
   have hm9 : m / Ten9 < m := Nat.div_lt_self (by omega) (by decide)
   (try refine RUN ?_)
   by_cases hk9 : k < 9
   ·have hr0 : m % Ten9 / 10 ^ k = 0 := Nat.eq_zero_of_not_pos fun h => hend ⟨hk9, .inl h⟩
    have hq0 : m / Ten9 = 0 := by
     by_cases h : m / Ten9 = 0
     ·exact h
     ·exact absurd ⟨hk9, .inr h⟩ hend
    generalize m % Ten9 / 10 ^ k = r at *
    rw [decide_eq_true (show (k : Int) < 9 by omega)]
    (try refine RUN ?_)
    rw [decide_eq_false (show ¬ (r : Int) > 0 by omega)]
    (try refine RUN ?_)
    rw [decide_eq_false (show ¬ ((dig B32 (m / Ten9)).length : Int) > 0 by rw [hq0, dig_zero]; decide)]
    (try refine RUN ?_)
    refine EVL.cat (padD k (m % Ten9)) s rfl rfl rfl rfl rfl rfl hsl hsl2 ?_
    (try refine RUN ?_)
    exact ⟨(m / Ten9, padD k (m % Ten9) ++ s, qa, qc), ⟨rfl, rfl, trivial⟩, (by repeat (first | exact trivial | refine And.intro rfl ?_)), trivial, trivial, rfl, ⟨SlN.mono hq hG3, hs, by dsimp only; omega⟩, hG2.trans hG3, hm9⟩
   ·rw [decide_eq_false (show ¬ (k : Int) < 9 by omega)]
    (try refine RUN ?_)
    refine EVL.cat (padD k (m % Ten9)) s rfl rfl rfl rfl rfl rfl hsl hsl2 ?_
    (try refine RUN ?_)
    exact ⟨(m / Ten9, padD k (m % Ten9) ++ s, qa, qc), ⟨rfl, rfl, trivial⟩, (by repeat (first | exact trivial | refine And.intro rfl ?_)), trivial, trivial, rfl, ⟨SlN.mono hq hG3, hs, by dsimp only; omega⟩, hG2.trans hG3, hm9⟩
theorem refIntText_pc {H : Hp} {v : Value} (z : Int) (hz : bl z.natAbs ≤ 8000000) (hv : RI H v z) : PC Tryz.prog 7 #[v] H fun r _ => r = .string (sb (wtL z)) := by
 obtain ⟨a, l, c, rfl, hn⟩ := hv
 have hl := decD_bl z.natAbs
 have ht := refNatText_pc z.natAbs hz hn
 refine PC.body Tryz.tab_ok Tryz.func7 rfl (by kernel_rfl) Tryz.ntmps7 rfl rfl ?_
 (try refine RUN ?_)
 by_cases h : z < 0
 ·rw [decide_eq_true h]
  (try refine RUN ?_)
  refine EVL.call rfl rfl rfl rfl rfl (ht) ?_
  rintro _ G rfl hG
  refine EVL.cat [45] (Lib.decDigits z.natAbs) rfl rfl rfl rfl rfl rfl (by decide) (by omega) ?_
  (try refine RUN ?_)
  unfold wtL; rw [if_pos h]
 ·rw [decide_eq_false h]
  (try refine RUN ?_)
  refine EVL.call rfl rfl rfl rfl rfl (ht) ?_
  rintro _ G rfl hG
  (try refine RUN ?_)
  unfold wtL; rw [if_neg h]; rfl
theorem dig32_one {n : Nat} (h : n ≠ 0) : ((dig B32 n).length = 1 ∧ (dig B32 n).getD 0 0 = 1) ↔ n = 1 := by
 constructor
 ·rintro ⟨h1, h2⟩
  have e := dig_val B32_two n
  obtain ⟨x, hx⟩ := List.length_eq_one_iff.1 h1
  rw [hx] at e h2
  simp only [List.getD_cons_zero] at h2
  rw [h2] at e
  simp only [val] at e
  omega
 ·rintro rfl
  have e : dig B32 1 = [1] := by
   rw [dig_pos B32_two (by decide), Nat.mod_eq_of_lt (by decide), Nat.div_eq_of_lt (by decide), dig_zero]
  rw [e]; exact ⟨rfl, rfl⟩
set_option maxRecDepth 100000 in
set_option maxHeartbeats 16000000 in
theorem refText_pc {H : Hp} {v : Value} (q : Rat) (hq : ht q ≤ 8000) (hv : RQ H v q) : PC Tryz.prog 20 #[v] H fun r _ => r = .string (sb (fracT q)) := by
 have h1 := bl_num_le q
 have h2 := bl_den_le q
 have hl1 := wtL_bl q.num
 have hl2 := decD_bl q.den
 obtain ⟨a, l, c, a', l', c', rfl, hN, hD⟩ := hv
 have hl' : l' = (dig B32 q.den).length := by
  obtain ⟨x, y, e⟩ := SlC.val hD
  injection e
 subst hl'
 have hnt := fun G (h : H.Le G) => refIntText_pc (H := G) q.num (by omega) ⟨a, l, c, rfl, RN.mono hN h⟩
 have hdt := fun G (h : H.Le G) => refNatText_pc (H := G) q.den (by omega) (RN.mono hD h)
 have hone := dig32_one q.den_nz
 have hpos : 0 < (dig B32 q.den).length := List.length_pos_iff.2 (by rw [dig_pos B32_two q.den_nz]; simp)
 have hget : (dig B32 q.den)[0]? = some ((dig B32 q.den).getD 0 0) := by
  rw [List.getD_eq_getElem?_getD, List.getElem?_eq_getElem hpos]; rfl
 have hcell : ((dig B32 q.den).map n32)[0]? = some (n32 ((dig B32 q.den).getD 0 0)) := by rw [List.getElem?_map, hget]; rfl
 refine PC.body Tryz.tab_ok Tryz.func20 rfl (by kernel_rfl) Tryz.ntmps20 rfl rfl ?_
 (try refine RUN ?_)
 by_cases hlen : (dig B32 q.den).length = 1
 ·rw [show ((((dig B32 q.den).length : Nat) : Int) == 1) = true by rw [hlen]; rfl]
  (try refine RUN ?_)
  refine EVL.idxR Tryz.tab_ok rfl rfl rfl rfl rfl rfl rfl rfl rfl rfl (hD) (0) (rfl) (hpos) (hcell) ?_
  (try refine RUN ?_)
  by_cases h : q.den = 1
  ·rw [(hone.2 h).2, show (((1 : Nat) : Int) == 1) = true from rfl]
   (try refine RUN ?_)
   refine EVL.call rfl rfl rfl rfl rfl (hnt _ (Hp.Le.refl _)) ?_
   rintro _ G rfl hG
   (try refine RUN ?_)
   unfold fracT; rw [if_pos h]
  ·rw [show (((((dig B32 q.den).getD 0 0 : Nat)) : Int) == 1) = false from beq_eq_false_iff_ne.2 (fun e => h (hone.1 ⟨hlen, by omega⟩))]
   (try refine RUN ?_)
   apply EV.drawn 8 (by kernel_rfl) (by kernel_rfl); intro xv yw
   (repeat refine' DD ?_)
   refine' DJ.callS rfl rfl rfl rfl rfl (cOf Tryz.func7 rfl (by kernel_rfl)) (fun G hG hd => hnt G hG) ?_; rotate_left
   refine' DJ.cat (wtL q.num) [47] rfl rfl rfl rfl rfl rfl (by omega) (by decide) ?_; rotate_left
   (repeat refine' DD ?_)
   refine' DJ.callS rfl rfl rfl rfl rfl (cOf Tryz.func8 rfl (by kernel_rfl)) (fun G hG hd => hdt G hG) ?_; rotate_left
   refine' DJ.cat (wtL q.num ++ [47]) (Lib.decDigits q.den) rfl rfl rfl rfl rfl rfl (by rw [List.length_append, List.length_singleton]; omega) (by omega) ?_; rotate_left
   (refine DJ.nil (fun G2 hG2 hF2 => ?_); (case hS => rfl); (case hS2 => rfl))
   (try refine RUN ?_)
   unfold fracT; rw [if_neg h]
 ·have h : ¬ q.den = 1 := fun h => hlen (hone.2 h).1
  rw [show ((((dig B32 q.den).length : Nat) : Int) == 1) = false from beq_eq_false_iff_ne.2 (fun e => hlen (by omega))]
  (try refine RUN ?_)
  apply EV.drawn 8 (by kernel_rfl) (by kernel_rfl); intro xv yw
  (repeat refine' DD ?_)
  refine' DJ.callS rfl rfl rfl rfl rfl (cOf Tryz.func7 rfl (by kernel_rfl)) (fun G hG hd => hnt G hG) ?_; rotate_left
  refine' DJ.cat (wtL q.num) [47] rfl rfl rfl rfl rfl rfl (by omega) (by decide) ?_; rotate_left
  (repeat refine' DD ?_)
  refine' DJ.callS rfl rfl rfl rfl rfl (cOf Tryz.func8 rfl (by kernel_rfl)) (fun G hG hd => hdt G hG) ?_; rotate_left
  refine' DJ.cat (wtL q.num ++ [47]) (Lib.decDigits q.den) rfl rfl rfl rfl rfl rfl (by rw [List.length_append, List.length_singleton]; omega) (by omega) ?_; rotate_left
  (refine DJ.nil (fun G2 hG2 hF2 => ?_); (case hS => rfl); (case hS2 => rfl))
  (try refine RUN ?_)
  unfold fracT; rw [if_neg h]
theorem decD_len10 : ∀ (k n : Nat), n < 10 ^ k → (Lib.decDigits n).length ≤ k + 1
 | 0, n, h => by rw [decD_low (by omega)]; exact Nat.le_refl _
 | k + 1, n, h => by
  by_cases h1 : n < 10
  ·rw [decD_low h1, List.length_singleton]; omega
  ·have := decD_len10 k (n / 10) (by rw [Nat.pow_succ] at h; omega)
   rw [decD_step (by omega), List.length_append, List.length_singleton]
   omega
theorem oct_ten (k : Nat) : 2 ^ (3 * k) ≤ 10 ^ k := by rw [Nat.pow_mul]; exact Nat.pow_le_pow_left (by decide) k
theorem decD_lt (k n : Nat) (h : bl n ≤ 3 * k) : n < 10 ^ (k + 1) :=
 Nat.lt_of_lt_of_le (lt_bl n) (Nat.le_trans (Nat.pow_le_pow_right (by omega) h) (Nat.le_trans (oct_ten k) (Nat.pow_le_pow_right (by omega) (by omega))))
theorem decD_bl200 {n : Nat} (h : bl n ≤ 594) : (Lib.decDigits n).length ≤ 200 := decD_len10 199 n (decD_lt 198 n (by omega))
theorem pQ_fracT (q : Rat) (h : ht q ≤ 500) : pQ (fracT q) = some q := by
 have h1 : bl q.num.natAbs ≤ 500 := Nat.le_trans (Nat.le_max_left _ _) h
 have h2 : bl q.den ≤ 500 := Nat.le_trans (Nat.le_max_right _ _) h
 have e1 := pI_wt (z := q.num) (decD_bl200 (by omega))
 have e2 := pN_dec (n := q.den) (decD_bl200 (by omega))
 unfold fracT
 by_cases hd : q.den = 1
 ·rw [if_pos hd, pQ_int fun c hc => wt_mem hc, e1]
  show some ((q.num : Int) : Rat) = some q
  congr 1
  rw [← Rat.mkRat_self q, hd, Rat.mkRat_one]
  simp
 ·rw [if_neg hd, pQ_over' fun k => (wt_mem k).1 rfl]
  unfold pOver
  rw [e1, e2]
  show (if q.den = 0 then none else some (mkRat q.num q.den)) = _
  rw [if_neg q.den_nz, Rat.mkRat_self]
theorem ht_mkRat (n : Int) (d k : Nat) (hd : d ≠ 0) (h1 : bl n.natAbs ≤ k) (h2 : bl d ≤ k) : ht (mkRat n d) ≤ k := Nat.le_trans (ht_mk n d hd) (Nat.max_le.2 ⟨h1, h2⟩)
theorem pDec_ht {s t : List UInt8} {q : Rat} (h : pDec s t = some q) : ht q ≤ 2000 := by
 unfold pDec at h
 cases hp : pN (if s.head? = some 45 then s.tail else s) with
 | none => rw [hp] at h; cases h
 | some n =>
  have bn := pN_bl hp
  rw [hp] at h
  have h' : (if okD t then some (mkRat (signZ (s.head? = some 45) (n * 10 ^ t.length + valD t)) (10 ^ t.length)) else none) = some q := h
  by_cases hk : okD t
  ·rw [if_pos hk] at h'
   cases h'
   have b0 := ten_bl (e := t.length) hk.2.1
   have b1 : bl (valD t) ≤ 800 := valD_bl hk.2.2 hk.2.1
   have b2 : bl (n * 10 ^ t.length) ≤ 1700 := Nat.le_trans (bl_mul _ _) (by omega)
   have b3 : bl (n * 10 ^ t.length + valD t) ≤ 1701 := Nat.le_trans (bl_add _ _) (by omega)
   refine ht_mkRat _ _ _ (Nat.ne_of_gt (Nat.pow_pos (by omega))) ?_ (by omega)
   unfold signZ
   split
   ·rw [Int.natAbs_neg, Int.natAbs_natCast]; exact Nat.le_trans b3 (by omega)
   ·rw [Int.natAbs_natCast]; exact Nat.le_trans b3 (by omega)
  ·rw [if_neg hk] at h'; cases h'
theorem pOver_ht {s t : List UInt8} {q : Rat} (h : pOver s t = some q) : ht q ≤ 2000 := by
 unfold pOver at h
 cases hz : pI s with
 | none => rw [hz] at h; cases h
 | some z =>
  cases hd : pN t with
  | none => rw [hz, hd] at h; cases h
  | some n =>
   have bz := pI_bl hz
   have bn := pN_bl hd
   rw [hz, hd] at h
   have h' : (if n = 0 then none else some (mkRat z n)) = some q := h
   by_cases h0 : n = 0
   ·rw [if_pos h0] at h'; cases h'
   ·rw [if_neg h0] at h'
    cases h'
    exact ht_mkRat _ _ _ h0 (by omega) (by omega)
theorem pQ_ht {l : List UInt8} {q : Rat} (h : pQ l = some q) : ht q ≤ 2000 := by
 unfold pQ at h
 split at h
 ·exact pOver_ht h
 ·split at h
  ·exact pDec_ht h
  ·cases hz : pI l with
   | none => rw [hz] at h; cases h
   | some z =>
    rw [hz] at h
    cases h
    have := pI_bl hz
    exact Nat.le_trans (ht_int z) (by omega)
theorem overZ_pv (a b : Int) (ha : -4611686018427387904 ≤ a ∧ a ≤ 4611686018427387904) (hb : -4611686018427387904 ≤ b ∧ b ≤ 4611686018427387904) (h0 : b ≠ 0) : PV Tryz.prog 21 #[.int .i64 a, .int .i64 b] (.tuple #[fracV (mkRat (if b < 0 then -a else a) b.natAbs), .bool true]) := by
 have h1 := wholeOf_pv a (by omega) (by omega)
 have h2 := wholeOf_pv b (by omega) (by omega)
 have b1 : bl a.natAbs ≤ 64 := bl_le (by omega)
 have b2 : bl b.natAbs ≤ 64 := bl_le (by omega)
 have h3 := make_pv a b (by show bl a.natAbs ≤ _; omega) (by show bl b.natAbs ≤ _; omega) h0
 refine PV.of_pc ?_
 refine PC.body Tryz.tab_ok Tryz.func21 rfl (by kernel_rfl) Tryz.ntmps21 rfl rfl ?_
 repeat (first | refine RUN ?_ | refine CV (h1) ?_ | refine CV (h2) ?_ | refine CV (h3) ?_ | refine CE (h1) ?_ | refine CE (h2) ?_ | refine CE (h3) ?_)
 rfl
theorem half_q : pQ [45, 48, 46, 53, 48] = some (Rat.divInt (-1) 2) := by
 show pDec [45, 48] [53, 48] = _
 unfold pDec
 have e : pN [48] = some 0 := by unfold pN; rw [if_pos (by decide)]; rfl
 rw [if_pos (by decide)]
 rw [show ([45, 48] : List UInt8).tail = [48] from rfl, e]
 show (if okD [53, 48] then _ else _) = _
 rw [if_pos (by decide)]
 congr 1
theorem half_t : fracT (Rat.divInt (-1) 2) = [45, 49, 47, 50] := by
 have e1 : (Rat.divInt (-1) 2).num = -1 := by decide +kernel
 have e2 : (Rat.divInt (-1) 2).den = 2 := by decide +kernel
 unfold fracT wtL
 rw [e1, e2, if_neg (by decide), if_pos (by decide), decD_low (by decide), decD_low (by decide)]
 rfl
theorem near_4 : mkRat (nearN ((mkRat 7 2).num * (2 ^ kb 0 : Nat)) (mkRat 7 2).den) (2 ^ kb 0) = 4 := by decide +kernel
theorem four_t : fracT 4 = [52] := by
 unfold fracT wtL
 rw [if_pos (by decide), if_neg (by decide), decD_low (by decide)]
 rfl
set_option maxHeartbeats 8000000 in
theorem known3_pc {H : Hp} (hT : PowT H) : PC Tryz.prog 15 #[] H fun r _ => r = .bool true := by
 have hP := fun G : Hp => fracParse_pc (H := G) [45, 48, 46, 53, 48] (by decide)
 rw [half_q] at hP
 have ho : PV Tryz.prog 21 #[.int .i64 7, .int .i64 2] (.tuple #[fracV (mkRat 7 2), .bool true]) := overZ_pv 7 2 (by omega) (by omega) (by omega)
 have hn := near_pv (mkRat 7 2) (Nat.le_trans (ht_mkRat 7 2 64 (by omega) (bl_le (by decide)) (bl_le (by decide))) (by omega)) 0 (by omega)
 rw [near_4] at hn
 have t1 := fun (G : Hp) (k : H.Le G) => fracTextA_pc (H := G) (Rat.divInt (-1) 2) (Nat.le_trans (ht_mkRat (-1) 2 64 (by omega) (bl_le (by decide)) (bl_le (by decide))) (by omega)) (hT.mono k)
 have t2 := fun (G : Hp) (k : H.Le G) => fracTextA_pc (H := G) 4 (Nat.le_trans (ht_int 4) (by have : bl (4 : Int).natAbs ≤ 64 := bl_le (by decide); omega)) (hT.mono k)
 rw [half_t] at t1
 rw [four_t] at t2
 generalize Rat.divInt (-1) 2 = q1 at *
 generalize mkRat 7 2 = q2 at *
 generalize (4 : Rat) = q3 at *
 refine PC.body Tryz.tab_ok Tryz.func15 rfl (by kernel_rfl) Tryz.ntmps15 rfl rfl ?_
 (try refine RUN ?_)
 refine EVL.call rfl rfl rfl rfl rfl (hP _) ?_
 rintro _ G1 rfl hG1
 repeat (first | refine RUN ?_ | refine CV (ho) ?_ | refine CE (ho) ?_)
 refine EVL.call rfl rfl rfl rfl rfl (t1 _ hG1) ?_
 rintro _ G2 rfl hG2
 (try refine RUN ?_)
 rw [sb_list]
 repeat (first | refine RUN ?_ | refine CV (hn) ?_ | refine CE (hn) ?_)
 refine EVL.call rfl rfl rfl rfl rfl (t2 _ (hG1.trans hG2)) ?_
 rintro _ G3 rfl hG3
 (try refine RUN ?_)
 rw [sb_list]
 rfl
end Go.Proofs.YtjekjlaokjhhgaaGreatDoor
