/- Texts of ours in one: Gc4, Gc5, GcdS, Fr1, Fr2, Fr3, Ha1, Ev15, Ha2, Lw1, Fr4, Lw2, LaidE, Kn, Opn. -/
import Derived.Test.YtjifapjpgmmcnaaGreatDoorZ2
import Derived.Test.YtjifapjpgmmcnaaGreatDoorZ3
import Derived.Test.YtjifapjpgmmcnaaGreatDoorZ4
import Derived.Test.YtjifapjpgmmcnaaGreatDoorZ5
import Derived.WalkKit
import Derived.ProofKit
import Derived.OpenShut
set_option linter.unusedVariables false
set_option linter.unusedSimpArgs false

namespace Go.Proofs.YtjifapjpgmmcnaaGreatDoor
open Go.RowKit
theorem wwords_pw (n : Nat) (hn : big n) (H : Hp) : PW Tryz.prog 175 #[natV n] H [] fun v ow _ => ∃ g, v = .slice (some ⟨g, 0, none⟩) (dig W64 n).length (dig W64 n).length ∧ ow = [(g, 39, (dig W64 n).map n64)] := by
 have hol : (octs n).length = (bl n + 7) / 8 := by
  have := dig_len_bits 8 n (by omega); rw [show (2 : Nat) ^ 8 = 256 by decide] at this; rw [octs_length, this]; omega
 have hwl : (dig W64 n).length = ((octs n).length + 7) / 8 := by
  have := dig_len_bits 64 n (by omega)
  rw [← W64_pow] at this
  rw [this, hol]; omega
 have hD := octs_dig n
 have hfin : pk 8 256 (octs n).reverse (dig W64 n).length = dig W64 n := pk_octs n _ rfl (by rw [← octs_length]; omega)
 have hb := natBytes_pc n hn
 refine PW.body Tryz.tab_ok Tryz.func175 rfl (by kernel_rfl) Tryz.ntmps175 rfl rfl ?_
 (try refine RUN ?_)
 refine EVL.call rfl rfl rfl rfl rfl (hb _) ?_
 rintro v H1 hs hle
 generalize hm : (dig W64 n).length = m at *
 generalize dig W64 n = dn at *
 generalize octs n = l at *
 obtain ⟨a, cap, rfl⟩ := SlC.val hs
 (try refine RUN ?_)
 rw [show IntKind.i64.wrap ((l.length : Int) + 7) = ((l.length + 7 : Nat) : Int) from wi_add _ 7 (by omega)]
 refine EVL.asI ((m : Int)) ((by rw [hwl]; exact wi_quo _ 8 (by omega))) ?_
 refine EVL.make Tryz.tab_ok rfl rfl rfl rfl rfl rfl rfl rfl rfl (m) (rfl) (by omega) (by rfl) (by rfl) fun g => ?_
 (try refine RUN ?_)
 have e0 : (List.replicate m (Tryz.te39.zero)).flatten = (pk 8 256 (l.reverse.take 0) m).map n64 := by
  rw [List.take_zero, pk_nil, List.map_replicate]; rw [show (Tryz.te39.zero) = [n64 0] from rfl]; simp
 rw [e0]
 refine EV.loop (ι := Nat) (fun i => [(3, .v (.slice a l.length cap)), (4, .v (.slice (some ⟨g, 0, none⟩) m m)), (14, .v (.int .i64 (l.length : Int))), (15, .v (.int .i64 (i : Int)))]) (fun _ => []) (fun i => [(g, 39, (pk 8 256 (l.reverse.take i) m).map n64)])
  (fun i G => i ≤ l.length ∧ SlN n8 G (.slice a l.length cap) l) (fun i => l.length - i) 0 ⟨rfl, rfl, rfl, rfl, trivial⟩ trivial rfl (fun _ => rfl) ⟨Nat.zero_le _, hs⟩ ?_
 rintro i G hG ⟨hi, hs⟩
 (try refine RUN ?_)
 by_cases hlt : i < l.length
 ·have him : i / 8 < m := by omega
  have hrl : (l.reverse.take i).length = i := by rw [List.length_take, List.length_reverse]; omega
  have hx : l.getD (l.length - 1 - i) 0 < 256 := hD.getD (by decide) _
  have hxs : (l.map n8)[l.length - 1 - i]? = some (n8 (l.getD (l.length - 1 - i) 0)) := map_at (by omega)
  have hcur : ((pk 8 256 (l.reverse.take i) m).map n64)[i / 8]? = some (n64 ((pk 8 256 (l.reverse.take i) m).getD (i / 8) 0)) := map_at (by rw [pk_length]; exact him)
  have hlow := pk_low (K := 8) (B := 256) (by decide) ((hD.rev).take i) m (by rw [hrl]; omega)
  rw [hrl] at hlow
  have hsn := pk_snoc (K := 8) (B := 256) (l := l.reverse.take i) (by decide) m (l.getD (l.length - 1 - i) 0) (by rw [hrl]; omega)
  rw [hrl] at hsn
  rw [lt_dec _ _ hlt]
  (try refine RUN ?_)
  apply EV.drawn 18 (by kernel_rfl) (by kernel_rfl); intro xv yw
  (repeat (first | refine' DV (h := ?_) | refine' DA (h := ?_) | refine' DK0 (h := ?_) | (refine' DJ.setb Tryz.tab_ok rfl rfl rfl rfl rfl rfl rfl rfl rfl rfl rfl ?_; rotate_left) | refine' DS (h := ?_)))
  refine' DJ.ofVal (ValOk.idxP1 Tryz.tab_ok rfl rfl rfl rfl rfl rfl rfl rfl (i / 8) (q8 i (by omega)) him) rfl rfl rfl ?_; rotate_left
  refine' DJ.ofVal (ValOk.load1 Tryz.tab_ok rfl rfl rfl rfl rfl rfl (0) rfl (hcur)) rfl rfl rfl ?_; rotate_left
  (repeat (first | refine' DV (h := ?_) | refine' DA (h := ?_) | refine' DK0 (h := ?_) | (refine' DJ.setb Tryz.tab_ok rfl rfl rfl rfl rfl rfl rfl rfl rfl rfl rfl ?_; rotate_left) | refine' DS (h := ?_)))
  refine' DJ.ofVal (ValOk.idx1 Tryz.tab_ok rfl rfl rfl rfl rfl rfl rfl rfl (hs) (l.length - 1 - i) (back _ _ hlt (by omega)) (by omega) (hxs)) rfl rfl rfl ?_; rotate_left
  (repeat (first | refine' DV (h := ?_) | refine' DA (h := ?_) | refine' DK0 (h := ?_) | (refine' DJ.setb Tryz.tab_ok rfl rfl rfl rfl rfl rfl rfl rfl rfl rfl rfl ?_; rotate_left) | refine' DS (h := ?_)))
  refine' DJ.ofVal (ValOk.shl rfl rfl rfl rfl (by rw [r8]; omega)) rfl rfl rfl ?_; rotate_left
  (refine DJ.nil (fun G hG hF => ?_); (case hS => rfl); (case hS2 => rfl))
  rw [r8, Int.toNat_natCast]
  (try refine RUN ?_)
  rw [byte_or _ _ _ (by rw [Nat.pow_mul]; exact hlow) hx (by omega)]
  refine EVL.idx0 Tryz.tab_ok rfl rfl rfl rfl rfl rfl rfl rfl rfl rfl (i / 8) (q8 i (by omega)) (him) ?_
  refine EVL.setO Tryz.tab_ok rfl rfl rfl rfl rfl rfl rfl ([]) rfl rfl rfl ((by rw [List.length_map, pk_length]; exact him)) ?_
  (try refine RUN ?_)
  have hnext : l.reverse.take (i + 1) = l.reverse.take i ++ [l.getD (l.length - 1 - i) 0] := by
   rw [List.take_succ_eq_append_getElem (by rw [List.length_reverse]; exact hlt), List.getElem_reverse, List.getD_eq_getElem?_getD, List.getElem?_eq_getElem (show l.length - 1 - i < l.length by omega)]; rfl
  refine ⟨i + 1, ⟨rfl, rfl, rfl, ?_, trivial⟩, trivial, ?_, ⟨by omega, hs.mono hG⟩, hG, by omega⟩
  ·rw [wi_inc i (by omega)]; rfl
  ·rw [hnext, hsn, List.map_set, show (256 : Nat) ^ (i % 8) = 2 ^ (8 * (i % 8)) by rw [Nat.pow_mul]]; rfl
 ·rw [lt_dec' _ _ hlt]
  obtain rfl : i = l.length := by omega
  rw [List.take_of_length_le (by rw [List.length_reverse]; exact Nat.le_refl _), hfin]
  (try refine RUN ?_)
  exact ⟨g, rfl, rfl⟩
theorem wnumber_pw {H : Hp} {b off cap : Nat} {T : TypeId} {cs : List Value} {l : List Nat} (hw : Wn cs off l) (hl : Dig W64 l) (hll : l.length ≤ 20000000) :
  PW Tryz.prog 180 #[.slice (some ⟨b, off, none⟩) l.length cap] H [(b, T, cs)] fun v ow _ => ow = [(b, T, cs)] ∧ v = natV (val W64 l) := by
 refine PW.body Tryz.tab_ok Tryz.func180 rfl (by kernel_rfl) Tryz.ntmps180 rfl rfl ?_
 (try refine RUN ?_)
 rw [show IntKind.i64.wrap (8 * (l.length : Int)) = ((8 * l.length : Nat) : Int) from wi_mul 8 l.length (by omega)]
 generalize hN : 8 * l.length = N at *
 refine EVL.make Tryz.tab_ok rfl rfl rfl rfl rfl rfl rfl rfl rfl (N) (rfl) (by omega) (by rfl) (by rfl) fun g => ?_
 refine EVL.apart fun hdist => ?_
 have hgb : b ≠ g := fun e => by
  subst e
  have := hdist 0 1 b _ _ _ _ rfl rfl
  cases this
 (try refine RUN ?_)
 have e0 : (List.replicate N (Tryz.te5.zero)).flatten = (List.replicate N 0).map n8 := by
  rw [List.map_replicate, show (Tryz.te5.zero) = [n8 0] from rfl]; simp
 rw [e0]
 refine EV.loop (ι := Nat × List Nat) (fun q => [(2, .p 2 0), (0, .v (.slice (some ⟨b, off, none⟩) l.length cap)), (3, .v (.slice (some ⟨g, 0, none⟩) N N)), (10, .v (.int .i64 (N : Int))), (11, .v (.int .i64 (q.1 : Int)))]) (fun _ => [(2, 41, Tryz.te41.zero)]) (fun q => [(g, 5, q.2.map n8), (b, T, cs)])
  (fun q _ => q.1 ≤ N ∧ q.2.length = N ∧ Dig 256 q.2 ∧ ∀ j, j < q.1 → q.2.getD (N - 1 - j) 0 = val W64 l / 256 ^ j % 256) (fun q => N - q.1) (0, List.replicate N 0) ⟨rfl, rfl, rfl, rfl, rfl, trivial⟩ ⟨rfl, trivial⟩ rfl (fun _ => rfl) ⟨Nat.zero_le _, by simp, Dig.zeros (by decide) _, fun j hj => absurd hj (Nat.not_lt_zero _)⟩ ?_
 rintro ⟨i, cur⟩ G hG ⟨hi, hlen, hcD, hcs⟩
 dsimp only at hi hlen hcs hcD
 (try refine RUN ?_)
 by_cases hlt : i < N
 ·have hwl : i / 8 < l.length := by omega
  have hsub := val_subdigit (C := 256) (k := 8) (by decide) (by decide) (l := l) (by rw [← W64_256]; exact hl) i
  rw [← W64_256, show (256 : Nat) ^ (i % 8) = 2 ^ (8 * (i % 8)) by rw [Nat.pow_mul]] at hsub
  have hwd := hl.getD (by decide) (i / 8)
  rw [lt_dec _ _ hlt]
  (try refine RUN ?_)
  rw [back N i hlt (by omega)]
  refine EVL.asI (((i / 8 : Nat) : Int)) (q8 i (by omega)) ?_
  refine EVL.idxO Tryz.tab_ok rfl rfl rfl rfl rfl rfl rfl rfl rfl rfl (i / 8) (rfl) (hwl) ?_
  refine EVL.load1 Tryz.tab_ok rfl rfl rfl rfl rfl rfl rfl rfl (1) rfl (hw.2 (i / 8) hwl) ?_
  (try refine RUN ?_)
  rw [r8]
  (try refine RUN ?_)
  rw [sub_byte _ _ hwd (by omega), hsub]
  refine EVL.idx0 Tryz.tab_ok rfl rfl rfl rfl rfl rfl rfl rfl rfl rfl (N - 1 - i) (rfl) (by omega) ?_
  refine EVL.setO Tryz.tab_ok rfl rfl rfl rfl rfl rfl rfl ([]) rfl rfl rfl ((by rw [List.length_map, hlen]; omega)) ?_
  (try refine RUN ?_)
  refine ⟨(i + 1, cur.set (N - 1 - i) (val W64 l / 256 ^ i % 256)), ⟨rfl, rfl, rfl, rfl, ?_, trivial⟩, ⟨rfl, trivial⟩, ?_, ⟨by dsimp only; omega, by dsimp only; rw [List.length_set]; exact hlen, hcD.set _ _ (Nat.mod_lt _ (by decide)), fun j hj => ?_⟩, Hp.Le.refl _, by dsimp only; omega⟩
  ·rw [wi_inc i (by omega)]; rfl
  ·dsimp only
   rw [List.map_set]; rfl
  ·dsimp only at hj ⊢
   by_cases e : j = i
   ·subst e
    exact getD_set_eq _ _ _ (by omega)
   ·rw [getD_set_ne _ _ _ _ (by omega)]
    exact hcs j (by omega)
 ·rw [lt_dec' _ _ hlt]
  obtain rfl : i = N := by omega
  have hlv := val_lt hl
  have hb := bytes_back (val W64 l) i cur (by rw [← hN, Nat.pow_mul, ← W64_256]; exact hlv) hlen hcs
  (try refine RUN ?_)
  refine EVL.publish [] [(b, T, cs)] rfl (fun G2 hG2 hg => ?_) (fun k hk => by
   obtain rfl : k = b := by simpa [Ows.bs] using hk
   exact hgb)
  have hsl : SlN n8 G2 (.slice (some ⟨g, 0, none⟩) i i) cur := by
   unfold SlN
   rw [hlen]
   exact ⟨by simp [hlen], .inr ⟨g, 0, i, _, rfl, Nat.le_refl _, hg, fun j x hj => by simpa using hj⟩⟩
  have hf := natFromBytes_pc hsl hcD (by omega)
  rw [hb] at hf
  refine EVL.call rfl rfl rfl rfl rfl (hf) ?_
  rintro v H2 rfl hle
  (try refine RUN ?_)
  exact ⟨rfl, rfl⟩
structure OW (b off cap : Nat) (cs : List Value) (l : List Nat) : Prop where
 at_ : Wn cs off l
 norm : Norm W64 l
 cap : l.length ≤ cap
 len : l.length ≤ 20000000
 odd : val W64 l % 2 = 1
structure BSt where
 (bv ov cv : Nat) (lv : List Nat) (sv : List Value)
 (bw ow cw : Nat) (lw : List Nat) (sw : List Value)
def BSt.env (q : BSt) (t : Int) : Env := [(4, .p 4 0), (5, .v (.slice (some ⟨q.bv, q.ov, none⟩) q.lv.length q.cv)), (6, .v (.slice (some ⟨q.bw, q.ow, none⟩) q.lw.length q.cw)), (7, .v (.int .i64 t))]
def BSt.own (q : BSt) : Ows := [(q.bv, 39, q.sv), (q.bw, 39, q.sw)]
structure BSt.ok (q : BSt) (g : Nat) : Prop where
 v : OW q.bv q.ov q.cv q.sv q.lv
 w : OW q.bw q.ow q.cw q.sw q.lw
 gcd : Nat.gcd (val W64 q.lv) (val W64 q.lw) = g
theorem odd_pos {n : Nat} (h : n % 2 = 1) : n ≠ 0 := by omega
theorem two_swap {α : Type} (a b : α) : List.Perm [a, b] [b, a] := List.Perm.swap b a []
theorem ordN_zero {a b : Nat} (h : ordN a b = 0) : a = b := by
 unfold ordN at h; split at h
 ·cases h
 ·split at h
  ·cases h
  ·omega
theorem natV_cells (n : Nat) : natV n = .agg #[.int .u64 (lo n : Int), .string (moreB n)] := rfl
theorem wbinary_pv (x y : Nat) (hx : x ≠ 0) (hy : y ≠ 0) (hbx' : big x) (hby' : big y) : PV Tryz.prog 134 #[natV x, natV y] (natV (Nat.gcd x y)) := by
 have lx : (dig W64 x).length ≤ 20000000 := Nat.le_trans (dig_len_big hbx') (by decide)
 have ly : (dig W64 y).length ≤ 20000000 := Nat.le_trans (dig_len_big hby') (by decide)
 have hpx := fun G => PO.of_pw ((wwords_pw x hbx' G).mono (Ψ := fun v ow _ => ow.length ≤ 1 ∧ ∃ g, v = .slice (some ⟨g, 0, none⟩) (dig W64 x).length (dig W64 x).length ∧ ow = [(g, 39, (dig W64 x).map n64)]) fun v ow H' _ ⟨g, h1, h2⟩ => ⟨by rw [h2]; simp, g, h1, h2⟩)
 have hpy := fun G => PO.of_pw ((wwords_pw y hby' G).mono (Ψ := fun v ow _ => ow.length ≤ 1 ∧ ∃ g, v = .slice (some ⟨g, 0, none⟩) (dig W64 y).length (dig W64 y).length ∧ ow = [(g, 39, (dig W64 y).map n64)]) fun v ow H' _ ⟨g, h1, h2⟩ => ⟨by rw [h2]; simp, g, h1, h2⟩)
 have dx := dig_norm W64_two x
 have dy := dig_norm W64_two y
 have vx := dig_val W64_two x
 have vy := dig_val W64_two y
 generalize dig W64 x = dgx at *
 generalize dig W64 y = dgy at *
 have hvx0 : val W64 dgx ≠ 0 := by rw [vx]; exact hx
 have hvy0 : val W64 dgy ≠ 0 := by rw [vy]; exact hy
 refine PV.of_pc ?_
 refine PC.body Tryz.tab_ok Tryz.func134 rfl (by kernel_rfl) Tryz.ntmps134 rfl rfl ?_
 (try refine RUN ?_)
 apply EV.drawn 6 (by kernel_rfl) (by kernel_rfl); intro x1 y1
 (repeat (first | refine' DV (h := ?_) | refine' DA (h := ?_) | refine' DK0 (h := ?_) | (refine' DJ.setb Tryz.tab_ok rfl rfl rfl rfl rfl rfl rfl rfl rfl rfl rfl ?_; rotate_left) | refine' DS (h := ?_)))
 refine' DJ.callO rfl rfl rfl rfl rfl (hpx gH).can (fun G _ _ => hpx G) ?_; rotate_left
 (repeat (first | refine' DV (h := ?_) | refine' DA (h := ?_) | refine' DK0 (h := ?_) | (refine' DJ.setb Tryz.tab_ok rfl rfl rfl rfl rfl rfl rfl rfl rfl rfl rfl ?_; rotate_left) | refine' DS (h := ?_)))
 refine' DJ.callO rfl rfl rfl rfl rfl (hpy gH).can (fun G _ _ => hpy G) ?_; rotate_left
 refine' DJ.copy (0 + 1) (.inr rfl) rfl rfl rfl id rfl (by kernel_rfl) ?_; rotate_left
 refine' DJ.copy (0 + 1 + 1 + 1) (.inr rfl) rfl rfl rfl id rfl (by kernel_rfl) ?_; rotate_left
 (refine DJ.nil (fun G hG hF => ?_); (case hS => rfl); (case hS2 => rfl))
 obtain ⟨⟨gy, ey, oy⟩, ⟨gx, ex, ox⟩, _⟩ := hF
 simp only [ex, ey, ox, oy, id]
 clear hpx hpy ex ey ox oy
 (try refine RUN ?_)
 refine EVL.permOw [(gx, 39, dgx.map n64), (gy, 39, dgy.map n64)] (two_swap _ _) ?_
 refine EVL.callW rfl rfl rfl rfl rfl ([(gx, 39, dgx.map n64)]) ([(gy, 39, dgy.map n64)]) rfl (wzeros_pw (Wn.of dgx) dx.1 (by omega) hvx0) ?_
 rintro v ow H1 ⟨rfl, zx, mx, rfl, hzx, hmx, hzx2⟩ hle1
 (try refine RUN ?_)
 refine EVL.permOw [(gy, 39, dgy.map n64), (gx, 39, dgx.map n64)] (two_swap _ _) ?_
 refine EVL.callW rfl rfl rfl rfl rfl ([(gy, 39, dgy.map n64)]) ([(gx, 39, dgx.map n64)]) rfl (wzeros_pw (Wn.of dgy) dy.1 (by omega) hvy0) ?_
 rintro v ow H2 ⟨rfl, zy, my, rfl, hzy, hmy, hzy2⟩ hle2
 (try refine RUN ?_)
 rw [show (if (zy : Int) < (zx : Int) then (zy : Int) else (zx : Int)) = ((min zx zy : Nat) : Int) by split <;> omega]
 (try refine RUN ?_)
 refine EVL.permOw [(gx, 39, dgx.map n64), (gy, 39, dgy.map n64)] (two_swap _ _) ?_
 refine EVL.callW rfl rfl rfl rfl rfl ([(gx, 39, dgx.map n64)]) ([(gy, 39, dgy.map n64)]) rfl (wdown_pw (Wn.of dgx) dx.1 (by omega) (Nat.le_refl _) hvx0) ?_
 rintro v ow H3 ⟨sx, ox, cx, rx, zx', rfl, hwx, hnx, hlx, hcx, rfl, hdx, hox⟩ hle3
 (try refine RUN ?_)
 refine EVL.permOw [(gy, 39, dgy.map n64), (gx, 39, sx)] (two_swap _ _) ?_
 refine EVL.callW rfl rfl rfl rfl rfl ([(gy, 39, dgy.map n64)]) ([(gx, 39, sx)]) rfl (wdown_pw (Wn.of dgy) dy.1 (by omega) (Nat.le_refl _) hvy0) ?_
 rintro v ow H4 ⟨sy, oy, cy, ry, zy', rfl, hwy, hny, hly, hcy, rfl, hdy, hoy⟩ hle4
 refine EVL.permOw [(gx, 39, sx), (gy, 39, sy)] (two_swap _ _) ?_
 have hgcd : Nat.gcd x y = 2 ^ min zx zy * Nat.gcd (val W64 rx) (val W64 ry) := by
  have e1 : zx = zx' := odd_part (by rw [← hzx, hdx]) hmx hox
  have e2 : zy = zy' := odd_part (by rw [← hzy, hdy]) hmy hoy
  subst e1 e2
  rw [← vx, ← vy]
  exact gcd_binary _ _ zx zy _ _ hdx hdy hox hoy
 have htw : min zx zy ≤ 1300000000 := by omega
 generalize min zx zy = tw at *
 generalize hg : Nat.gcd (val W64 rx) (val W64 ry) = g at *
 have hbg : big (Nat.gcd x y) := Nat.le_trans (bl_gcd_left x y hx) hbx'
 generalize Nat.gcd x y = gg at *
 (try refine RUN ?_)
 refine EV.loop (ι := BSt) (fun q => q.env (tw : Int)) (fun _ => [(4, 41, Tryz.te41.zero)]) (fun q => q.own) (fun q _ => q.ok g) (fun q => val W64 q.lv + val W64 q.lw) ⟨gx, ox, cx, rx, sx, gy, oy, cy, ry, sy⟩
  ⟨rfl, rfl, rfl, rfl, trivial⟩ ⟨rfl, trivial⟩ rfl (fun _ => rfl) ⟨⟨hwx, hnx, hcx, Nat.le_trans hlx lx, hox⟩, ⟨hwy, hny, hcy, Nat.le_trans hly ly, hoy⟩, hg⟩ ?_
 clear hdx hdy hzx hzy hwx hnx hlx hcx hwy hny hly hcy hox hoy hle1 hle2 hle3 hle4 hg
 rintro ⟨bv, ov, cv, lv, sv, bw, ow, cw, lw, sw⟩ G hG ⟨⟨v1, v2, v3, v4, v5⟩, ⟨w1, w2, w3, w4, w5⟩, hgq⟩
 dsimp only at v1 v2 v3 v4 v5 w1 w2 w3 w4 w5 hgq
 unfold BSt.env BSt.own
 dsimp only
 (try refine RUN ?_)
 refine EVL.callW rfl rfl rfl rfl rfl ([(bv, 39, sv), (bw, 39, sw)]) ([]) rfl (wcompare_pw v1 w1 v2 w2 (by omega)) ?_
 rintro v ow1 H5 ⟨rfl, rfl⟩ hle5
 (try refine RUN ?_)
 by_cases hc0 : ordN (val W64 lv) (val W64 lw) = 0
 ·rw [show (ordN (val W64 lv) (val W64 lw) == 0) = true by rw [hc0]; rfl]
  have hvw := ordN_zero hc0
  rw [← hvw, Nat.gcd_self] at hgq
  (try refine RUN ?_)
  refine EVL.callW rfl rfl rfl rfl rfl ([(bv, 39, sv)]) ([(bw, 39, sw)]) rfl (wnumber_pw v1 v2.1 v4) ?_
  rintro v ow2 H6 ⟨rfl, rfl⟩ hle6
  rw [hgq, natV_cells]
  (try refine RUN ?_)
  refine EV.loop (ι := Int × Nat) (fun q => [(4, .p 4 0), (9, .p 9 0), (7, .v (.int .i64 q.1))]) (fun q => [(9, 41, [.int .u64 (lo q.2 : Int), .string (moreB q.2)]), (4, 41, Tryz.te41.zero)]) (fun _ => [(bv, 39, sv), (bw, 39, sw)])
   (fun q _ => q.2 * 2 ^ q.1.toNat = gg ∧ q.1 ≤ 1300000000 ∧ -100000 ≤ q.1) (fun q => q.1.toNat) ((tw : Int), g) ⟨rfl, rfl, rfl, trivial⟩ ⟨rfl, rfl, trivial⟩ rfl (fun _ => rfl) ⟨by dsimp only; rw [Int.toNat_natCast, hgcd, Nat.mul_comm], by dsimp only; omega, by dsimp only; omega⟩ ?_
  rintro ⟨t, o⟩ G2 hG2 ⟨ht, ht1, ht2⟩
  dsimp only at ht ht1 ht2
  (try refine RUN ?_)
  by_cases htp : t > 0
  ·rw [show decide (t > 0) = true by simpa using htp]
   obtain ⟨k, hk, hkt⟩ : ∃ k : Nat, (if (65536 : Int) < t then (65536 : Int) else t) = (k : Int) ∧ k = min t.toNat 65536 := ⟨min t.toNat 65536, by split <;> omega, rfl⟩
   have hbo : big o := by
    refine Nat.le_trans (bl_mono ?_) hbg
    rw [← ht]; exact Nat.le_mul_of_pos_right _ (Nat.pow_pos (by decide))
   have hsh := natShift_up o k (by omega) hbo
   (try refine RUN ?_)
   rw [hk]
   repeat (first | refine RUN ?_ | refine CV (hsh) ?_ | refine CE (hsh) ?_)
   refine ⟨(t - 65536, o * 2 ^ k), ⟨rfl, rfl, ?_, trivial⟩, ⟨rfl, rfl, trivial⟩, rfl, ⟨?_, by dsimp only; omega, by dsimp only; omega⟩, Hp.Le.refl _, by dsimp only; omega⟩
   ·rw [show IntKind.i64.wrap (t - 65536) = t - 65536 by rw [IntKind.wrap_i64]; omega]; rfl
   ·dsimp only
    rw [← ht, Nat.mul_assoc, ← Nat.pow_add]
    congr 2
    omega
  ·rw [show decide (t > 0) = false by simpa using htp]
   rw [show t.toNat = 0 by omega, Nat.pow_zero, Nat.mul_one] at ht
   subst ht
   (try refine RUN ?_)
   rfl
 ·rw [show (ordN (val W64 lv) (val W64 lw) == 0) = false by simpa using hc0]
  (try refine RUN ?_)
  refine EV.meet (fun env' bx' H' => ∃ q : BSt, SubL env' (q.env (tw : Int)) ∧ SubX bx' [(4, 41, Tryz.te41.zero)] ∧ H'.ow = q.own ∧ G.Le H'.ro ∧ q.ok g ∧ val W64 q.lw < val W64 q.lv ∧ val W64 q.lv + val W64 q.lw = val W64 lv + val W64 lw) ?_ ?_
  ·rintro env' bx' ⟨G6, ow6, base6⟩ _ ⟨⟨bv, ov, cv, lv, sv, bw, ow, cw, lw, sw⟩, he, hbx6, how, hleG, ⟨⟨v1, v2, v3, v4, v5⟩, ⟨w1, w2, w3, w4, w5⟩, hgq⟩, hlt, hsum⟩
   dsimp only at v1 v2 v3 v4 v5 w1 w2 w3 w4 w5 hgq hlt hsum
   refine EV.less _ _ he hbx6 rfl ?_
   unfold BSt.own at how
   dsimp only at how
   subst how
   unfold BSt.env
   dsimp only
   have hlen : lw.length ≤ lv.length := by
    refine Nat.le_of_not_lt fun h => ?_
    have := len_less W64_two v2.1 w2 h
    omega
   (try refine RUN ?_)
   refine EVL.callW rfl rfl rfl rfl rfl ([(bv, 39, sv), (bw, 39, sw)]) ([]) rfl (wsubtract_pw v1 w1 v2.1 w2.1 (by omega) hlen v3 (by omega)) ?_
   rintro v ow7 H7 ⟨s7, r7, rfl, hw7, hn7, hl7, rfl, hv7⟩ hle7
   (try refine RUN ?_)
   refine EVL.callW rfl rfl rfl rfl rfl ([(bv, 39, s7)]) ([(bw, 39, sw)]) rfl (wdown_pw hw7 hn7.1 (by omega) (by omega) (by omega)) ?_
   rintro v ow8 H8 ⟨s8, o8, c8, r8, z8, rfl, hw8, hn8, hl8, hc8, rfl, hd8, ho8⟩ hle8
   (try refine RUN ?_)
   have hr := gcd_round (val W64 lv) (val W64 lw) z8 (val W64 r8) w5 (by omega) (by rw [← hv7]; exact hd8)
   have hle9 : val W64 r8 ≤ val W64 r7 := by rw [hd8]; exact Nat.le_mul_of_pos_left _ (Nat.pow_pos (by decide))
   refine ⟨⟨bv, o8, c8, r8, s8, bw, ow, cw, lw, sw⟩, ⟨rfl, rfl, rfl, rfl, trivial⟩, ⟨rfl, trivial⟩, rfl, ⟨⟨hw8, hn8, hc8, by dsimp only; omega, ho8⟩, ⟨w1, w2, w3, w4, w5⟩, by dsimp only; rw [hr]; exact hgq⟩, (hleG.trans hle7).trans hle8, ?_⟩
   dsimp only
   have := odd_pos w5
   omega
  ·by_cases hlt : ordN (val W64 lv) (val W64 lw) < 0
   ·rw [show decide (ordN (val W64 lv) (val W64 lw) < 0) = true by simpa using hlt]
    have hvl : val W64 lv < val W64 lw := by
     unfold ordN at hlt
     split at hlt
     ·assumption
     ·split at hlt <;> simp at hlt
    refine EV.permOw [(bw, 39, sw), (bv, 39, sv)] (two_swap _ _) ?_
    (try refine RUN ?_)
    exact ⟨⟨bw, ow, cw, lw, sw, bv, ov, cv, lv, sv⟩, ⟨rfl, rfl, rfl, rfl, trivial⟩, ⟨rfl, trivial⟩, rfl, hle5, ⟨⟨w1, w2, w3, w4, w5⟩, ⟨v1, v2, v3, v4, v5⟩, by dsimp only; rw [Nat.gcd_comm]; exact hgq⟩, hvl, Nat.add_comm _ _⟩
   ·rw [show decide (ordN (val W64 lv) (val W64 lw) < 0) = false by simpa using hlt]
    have hvl : val W64 lw < val W64 lv := by
     unfold ordN at hlt hc0
     split at hlt
     ·simp at hlt
     ·rename_i h1
      rw [if_neg h1] at hc0
      split at hc0
      ·assumption
      ·simp at hc0
    (try refine RUN ?_)
    exact ⟨⟨bv, ov, cv, lv, sv, bw, ow, cw, lw, sw⟩, ⟨rfl, rfl, rfl, rfl, trivial⟩, ⟨rfl, trivial⟩, rfl, hle5, ⟨⟨v1, v2, v3, v4, v5⟩, ⟨w1, w2, w3, w4, w5⟩, hgq⟩, hvl, rfl⟩
theorem gcdN_pv (c1 c2 : Nat) (h1 : big c1) (h2 : big c2) (sx sy : Bool) (hsx : c1 = 0 → sx = false) (hsy : c2 = 0 → sy = false) :
  PV Tryz.prog 54 #[.agg #[.bool sx, .int .u64 (lo c1 : Int), .string (moreB c1)], .agg #[.bool sy, .int .u64 (lo c2 : Int), .string (moreB c2)]] (natV (Nat.gcd c1 c2)) := by
 refine PV.of_pc ?_
 refine PC.body Tryz.tab_ok Tryz.func54 rfl (by kernel_rfl) Tryz.ntmps54 rfl rfl ?_
 (try refine RUN ?_)
 (apply EV.drawn 7 (by kernel_rfl) (by kernel_rfl); intro xv yw; (repeat (first | refine' DV (h := ?_) | refine' DA (h := ?_) | refine' DK0 (h := ?_) | refine' DS (h := ?_))); refine DJ.nil (fun G hG hF => ?_); (case hS => rfl); (case hS2 => rfl))
 repeat (first | refine RUN ?_ | refine CV (natCmp_pv c1 c2 h1 h2) ?_ | refine CE (natCmp_pv c1 c2 h1 h2) ?_)
 refine EV.meet (fun env' bx' H' => ∃ u w : Nat, SubL env' [(4, .p 4 0), (5, .p 5 0), (6, .p 6 0)] ∧ SubX bx' [(4, 41, Tryz.te41.zero), (5, 41, [.int .u64 (lo u : Int), .string (moreB u)]), (6, 41, [.int .u64 (lo w : Int), .string (moreB w)])] ∧ H'.ow = [] ∧ w ≤ u ∧ big u ∧ big w ∧ Nat.gcd u w = Nat.gcd c1 c2) ?_ ?_
 ·rintro env' bx' ⟨G1, ow1, base1⟩ hb ⟨u, w, he, hbx, how, hwu, hu, hw, hg⟩
  obtain rfl : base1 = ⟨fun _ => none, []⟩ := hb
  obtain rfl : ow1 = [] := how
  refine EV.less _ _ he hbx rfl ?_
  clear h1 h2 hsx hsy hbx he
  generalize Nat.gcd c1 c2 = gg at *
  subst hg
  repeat (first | refine RUN ?_ | refine CV (bits_pv w hw) ?_ | refine CE (bits_pv w hw) ?_)
  rw [bl_zero_iff]
  by_cases hw0 : w = 0
  ·subst hw0
   rw [decide_eq_true rfl, Nat.gcd_zero_right]
   (try refine RUN ?_)
   rfl
  ·rw [decide_eq_false hw0]
   repeat (first | refine RUN ?_ | refine CV (natDiv_pv u w hw0 hu hw) ?_ | refine CE (natDiv_pv u w hw0 hu hw) ?_)
   have hm : u % w < w := Nat.mod_lt _ (by omega)
   have hgr : Nat.gcd u w = Nat.gcd w (u % w) := by rw [Nat.gcd_comm, Nat.gcd_rec, Nat.gcd_comm]
   have hbm : big (u % w) := Nat.le_trans (bl_mod u w) hu
   rw [hgr]
   generalize u % w = r at *
   generalize u / w = qq at *
   clear hgr hwu hu
   rw [natV_cells, natV_cells]
   (try refine RUN ?_)
   refine EV.less [(4, .p 4 0), (5, .p 5 0), (6, .p 6 0), (8, .p 8 0)] ([(5, 41, [.int .u64 (lo u : Int), .string (moreB u)]), (4, 41, Tryz.te41.zero), (6, 41, [.int .u64 (lo w : Int), .string (moreB w)]), (8, 41, [.int .u64 (lo r : Int), .string (moreB r)])]) ⟨rfl, rfl, rfl, rfl, trivial⟩ ⟨rfl, rfl, rfl, rfl, trivial⟩ rfl ?_
   apply EV.drawnS ([(5, 41, [.int .u64 (lo u : Int), .string (moreB u)])]) 3 (by kernel_rfl) (by kernel_rfl); intro xv yw
   (repeat (first | refine' DV (h := ?_) | refine' DA (h := ?_) | refine' DK0 (h := ?_) | (refine' DJ.setb Tryz.tab_ok rfl rfl rfl rfl rfl rfl rfl rfl rfl rfl rfl ?_; rotate_left) | refine' DS (h := ?_)))
   (refine DJ.nil (fun G hG hF => ?_); (case hS => rfl); (case hS2 => rfl); (case hD => rfl))
   repeat (first | refine RUN ?_ | refine CV (bits_pv r hbm) ?_ | refine CE (bits_pv r hbm) ?_)
   rw [bl_zero_iff]
   by_cases hr0 : r = 0
   ·subst hr0
    rw [decide_eq_true rfl, Nat.gcd_zero_right]
    (try refine RUN ?_)
    rfl
   ·rw [decide_eq_false hr0]
    repeat (first | refine RUN ?_ | refine CV (natSmall_pv w) ?_ | refine CE (natSmall_pv w) ?_)
    by_cases hws : w < W64
    ·have hrs : r < W64 := by omega
     rw [decide_eq_true hws, if_pos hws]
     repeat (first | refine RUN ?_ | refine CV (natSmall_pv r) ?_ | refine CE (natSmall_pv r) ?_)
     rw [decide_eq_true hrs, if_pos hrs]
     (try refine RUN ?_)
     refine EV.loop (ι := Nat × Nat) (fun q => [(4, .p 4 0), (10, .v (n64 q.1)), (12, .v (n64 q.2))]) (fun _ => [(4, 41, Tryz.te41.zero)]) (fun _ => []) (fun q _ => q.1 < W64 ∧ q.2 < W64 ∧ Nat.gcd q.1 q.2 = Nat.gcd w r) (fun q => q.2) (w, r) ⟨rfl, rfl, rfl, trivial⟩ ⟨rfl, trivial⟩ rfl (fun _ => rfl) ⟨hws, hrs, rfl⟩ ?_
     rintro ⟨m, k⟩ G2 hG2 ⟨hms, hks, hgk⟩
     dsimp only at hms hks hgk
     (try refine RUN ?_)
     by_cases hk0 : k = 0
     ·subst hk0
      rw [show decide ((((m, 0) : Nat × Nat).2 : Int) > 0) = false from rfl]
      rw [Nat.gcd_zero_right] at hgk
      repeat (first | refine RUN ?_ | refine CV (natOf_pv m hms) ?_ | refine CE (natOf_pv m hms) ?_)
      rw [hgk]
     ·rw [show decide ((((m, k) : Nat × Nat).2 : Int) > 0) = true by simp; omega]
      (try refine RUN ?_)
      apply EV.drawn 6 (by kernel_rfl) (by kernel_rfl); intro xv yw
      (repeat (first | refine' DV (h := ?_) | refine' DA (h := ?_) | refine' DK0 (h := ?_) | (refine' DJ.setb Tryz.tab_ok rfl rfl rfl rfl rfl rfl rfl rfl rfl rfl rfl ?_; rotate_left) | refine' DS (h := ?_)))
      refine' DJ.ofVal (ValOk.rem rfl rfl rfl rfl (show ((k : Nat) : Int) ≠ 0 by omega)) rfl rfl rfl ?_; rotate_left
      (repeat (first | refine' DV (h := ?_) | refine' DA (h := ?_) | refine' DK0 (h := ?_) | (refine' DJ.setb Tryz.tab_ok rfl rfl rfl rfl rfl rfl rfl rfl rfl rfl rfl ?_; rotate_left) | refine' DS (h := ?_)))
      (refine DJ.nil (fun G hG hF => ?_); (case hS => rfl); (case hS2 => rfl))
      rw [show (((m, k) : Nat × Nat).1 : Int).tmod (((m, k) : Nat × Nat).2 : Int) = ((m % k : Nat) : Int) from wi_rem m k]
      (try refine RUN ?_)
      refine ⟨(k, m % k), ⟨rfl, rfl, rfl, trivial⟩, ⟨rfl, trivial⟩, rfl, ⟨hks, Nat.lt_of_le_of_lt (Nat.mod_le m k) hms, ?_⟩, hG, Nat.mod_lt _ (by omega)⟩
      ·dsimp only
       rw [← hgk, Nat.gcd_comm m k, Nat.gcd_rec k m, Nat.gcd_comm]
    ·rw [decide_eq_false hws]
     repeat (first | refine RUN ?_ | refine CV (wbinary_pv w r hw0 hr0 hw hbm) ?_ | refine CE (wbinary_pv w r hw0 hr0 hw hbm) ?_)
     rfl
 ·by_cases hlt : c1 < c2
  ·rw [ordN_lt hlt, show decide ((-1 : Int) < 0) = true from rfl]
   (try refine RUN ?_)
   exact ⟨c2, c1, ⟨rfl, rfl, rfl, trivial⟩, ⟨rfl, rfl, rfl, trivial⟩, rfl, by omega, h2, h1, Nat.gcd_comm _ _⟩
  ·rw [show decide (ordN c1 c2 < 0) = false by unfold ordN; rw [if_neg hlt]; split <;> rfl]
   (try refine RUN ?_)
   exact ⟨c1, c2, ⟨rfl, rfl, rfl, trivial⟩, ⟨rfl, rfl, rfl, trivial⟩, rfl, by omega, h1, h2, rfl⟩
theorem gcd_pv (a b : Int) (ha : bigI a) (hb : bigI b) : PV Tryz.prog 54 #[intV a, intV b] (natV (Nat.gcd a.natAbs b.natAbs)) :=
 gcdN_pv a.natAbs b.natAbs ha hb _ _ (fun h => by simp; omega) (fun h => by simp; omega)
abbrev frV (n : Int) (d : Nat) : Value := .agg #[.bool (decide (n < 0)), .int .u64 (lo n.natAbs : Int), .string (moreB n.natAbs), .int .u64 (lo d : Int), .string (moreB d)]
def dk (d : Nat) : Nat := if d = 1 then 0 else d
abbrev fracV (q : Rat) : Value := frV q.num (dk q.den)
theorem dk_one : dk 1 = 0 := rfl
theorem dk_ne {d : Nat} (h : d ≠ 1) : dk d = d := if_neg h
theorem dk_bl (d : Nat) : bl (dk d) ≤ bl d := by
 unfold dk; split
 ·rw [bl_zero]; omega
 ·exact Nat.le_refl _
theorem dk_zero (q : Rat) : dk q.den = 0 ↔ q.den = 1 := by
 have := q.den_nz
 unfold dk; split <;> omega
theorem bl_one : bl 1 = 1 := by have := bl_pow2 0; simpa using this
theorem bl_eq_one {n : Nat} : bl n = 1 ↔ n = 1 := by
 constructor
 ·intro h
  have h1 := lt_bl n
  rw [h] at h1
  have : n ≠ 0 := fun e => by rw [e, bl_zero] at h; omega
  omega
 ·rintro rfl; exact bl_one
theorem beq_bl_one (n : Nat) : (((bl n : Nat) : Int) == 1) = decide (n = 1) := by
 by_cases h : n = 1
 ·rw [decide_eq_true h, bl_eq_one.2 h]; rfl
 ·rw [decide_eq_false h]
  have : bl n ≠ 1 := fun e => h (bl_eq_one.1 e)
  simp; omega
theorem frV_zero (n : Int) : frV n 0 = .agg #[.bool (decide (n < 0)), .int .u64 (lo n.natAbs : Int), .string (moreB n.natAbs), .int .u64 0, .string ⟨#[]⟩] := by
 unfold frV
 rw [moreB_empty (n := 0) (by decide)]; rfl
theorem pack_pv (n : Int) (d : Nat) (hd : big d) : PV Tryz.prog 110 #[intV n, natV d] (frV n (dk d)) := by
 refine PV.of_pc ?_
 refine PC.body Tryz.tab_ok Tryz.func110 rfl (by kernel_rfl) Tryz.ntmps110 rfl rfl ?_
 repeat (first | refine RUN ?_ | refine CV (bits_pv d hd) ?_ | refine CE (bits_pv d hd) ?_)
 rw [beq_bl_one]
 by_cases h : d = 1
 ·rw [decide_eq_true h]
  (try refine RUN ?_)
  rw [h, dk_one, frV_zero]
 ·rw [decide_eq_false h]
  (try refine RUN ?_)
  rw [dk_ne h]
theorem over_pv (a b : Nat) (ha : big a) (hb : big b) (h0 : b ≠ 0) : PV Tryz.prog 109 #[natV a, natV b] (natV (a / b)) := by
 refine PV.of_pc ?_
 refine PC.body Tryz.tab_ok Tryz.func109 rfl (by kernel_rfl) Tryz.ntmps109 rfl rfl ?_
 repeat (first | refine RUN ?_ | refine CV (bits_pv b hb) ?_ | refine CE (bits_pv b hb) ?_)
 rw [beq_bl_one]
 by_cases h : b = 1
 ·rw [decide_eq_true h]
  (try refine RUN ?_)
  rw [h, Nat.div_one]
 ·rw [decide_eq_false h]
  repeat (first | refine RUN ?_ | refine CV (natDiv_pv a b h0 ha hb) ?_ | refine CE (natDiv_pv a b h0 ha hb) ?_)
  rfl
theorem part_pv (n : Int) (b : Nat) (hn : bigI n) (hb : big b) (h0 : b ≠ 0) (hdv : b ∣ n.natAbs) : PV Tryz.prog 111 #[intV n, natV b] (intV (n / (b : Int))) := by
 have hs : decide (n.sign < 0) = decide (n < 0) := by rw [decide_eq_decide]; exact Int.sign_neg_iff
 have hf := from_pv (decide (n < 0)) (n.natAbs / b) (Nat.le_trans (bl_div _ _) hn)
 have e : sg (decide (n < 0)) (n.natAbs / b) = n / (b : Int) := by
  rw [part_eq n b hdv]; unfold sg
  by_cases h : n < 0 <;> simp [h]
 rw [e] at hf
 refine PV.of_pc ?_
 refine PC.body Tryz.tab_ok Tryz.func111 rfl (by kernel_rfl) Tryz.ntmps111 rfl rfl ?_
 (try refine RUN ?_)
 apply EV.drawn 7 (by kernel_rfl) (by kernel_rfl); intro xv yw
 (repeat (first | refine' DV (h := ?_) | refine' DA (h := ?_) | refine' DK0 (h := ?_) | (refine' DJ.setb Tryz.tab_ok rfl rfl rfl rfl rfl rfl rfl rfl rfl rfl rfl ?_; rotate_left) | (refine' DC (wholeSign_pv n hn) (h := ?_); rotate_left) | refine' DS (h := ?_)))
 rw [hs]
 (repeat (first | refine' DV (h := ?_) | refine' DA (h := ?_) | refine' DK0 (h := ?_) | (refine' DJ.setb Tryz.tab_ok rfl rfl rfl rfl rfl rfl rfl rfl rfl rfl rfl ?_; rotate_left) | (refine' DC (wholeAbs_pv n) (h := ?_); rotate_left) | (refine' DC (over_pv _ _ hn hb h0) (h := ?_); rotate_left) | refine' DS (h := ?_)))
 (refine DJ.nil (fun G hG hF => ?_); (case hS => rfl); (case hS2 => rfl))
 repeat (first | refine RUN ?_ | refine CV (hf) ?_ | refine CE (hf) ?_)
 rfl
theorem times_pv (n : Int) (d : Nat) (hn : bigI n) (hd : big d) (hnd : big (n.natAbs * d)) : PV Tryz.prog 108 #[intV n, natV d] (intV (n * d)) := by
 have hm := wholeMul_pv n (d : Int) hn hd (by show big (n * (d : Int)).natAbs; rw [Int.natAbs_mul]; exact hnd)
 refine PV.of_pc ?_
 refine PC.body Tryz.tab_ok Tryz.func108 rfl (by kernel_rfl) Tryz.ntmps108 rfl rfl ?_
 (try refine RUN ?_)
 apply EV.drawn 3 (by kernel_rfl) (by kernel_rfl); intro xv yw
 (repeat (first | refine' DV (h := ?_) | refine' DA (h := ?_) | refine' DK0 (h := ?_) | (refine' DJ.setb Tryz.tab_ok rfl rfl rfl rfl rfl rfl rfl rfl rfl rfl rfl ?_; rotate_left) | (refine' DC (from_pv false d hd) (h := ?_); rotate_left) | refine' DS (h := ?_)))
 (refine DJ.nil (fun G hG hF => ?_); (case hS => rfl); (case hS2 => rfl))
 repeat (first | refine RUN ?_ | refine CV (hm) ?_ | refine CE (hm) ?_)
 rfl
theorem isWhole_pv (q : Rat) (h : big q.den) : PV Tryz.prog 106 #[fracV q] (.bool (decide (q.den = 1))) := by
 refine PV.of_pc ?_
 refine PC.body Tryz.tab_ok Tryz.func106 rfl (by kernel_rfl) Tryz.ntmps106 rfl rfl ?_
 repeat (first | refine RUN ?_ | refine CV (bits_pv (dk q.den) (Nat.le_trans (dk_bl _) h)) ?_ | refine CE (bits_pv (dk q.den) (Nat.le_trans (dk_bl _) h)) ?_)
 have e : (((bl (dk q.den) : Nat) : Int) == 0) = decide (q.den = 1) := by
  by_cases h1 : q.den = 1
  ·rw [decide_eq_true h1, (dk_zero q).2 h1, bl_zero]; rfl
  ·rw [decide_eq_false h1]
   have h2 : bl (dk q.den) ≠ 0 := fun e => h1 ((dk_zero q).1 (bl_eq_zero.1 e))
   simp; omega
 rw [e]
theorem den_pv (q : Rat) (h : big q.den) : PV Tryz.prog 43 #[fracV q] (natV q.den) := by
 refine PV.of_pc ?_
 refine PC.body Tryz.tab_ok Tryz.func43 rfl (by kernel_rfl) Tryz.ntmps43 rfl rfl ?_
 repeat (first | refine RUN ?_ | refine CV (isWhole_pv q h) ?_ | refine CE (isWhole_pv q h) ?_)
 by_cases h1 : q.den = 1
 ·rw [decide_eq_true h1]
  repeat (first | refine RUN ?_ | refine CV (natOf_pv 1 (by decide)) ?_ | refine CE (natOf_pv 1 (by decide)) ?_)
  rw [h1]
 ·rw [decide_eq_false h1]
  (try refine RUN ?_)
  rw [dk_ne h1]
theorem sign_pv (q : Rat) (h : bigI q.num) : PV Tryz.prog 24 #[fracV q] (.int .i64 q.num.sign) := by
 refine PV.of_pc ?_
 refine PC.body Tryz.tab_ok Tryz.func24 rfl (by kernel_rfl) Tryz.ntmps24 rfl rfl ?_
 repeat (first | refine RUN ?_ | refine CV (wholeSign_pv q.num h) ?_ | refine CE (wholeSign_pv q.num h) ?_)
 rfl
theorem num_pv (q : Rat) : PV Tryz.prog 55 #[fracV q] (intV q.num) := by
 refine PV.of_pc ?_
 refine PC.body Tryz.tab_ok Tryz.func55 rfl (by kernel_rfl) Tryz.ntmps55 rfl rfl ?_
 (try refine RUN ?_)
 rfl
theorem neg_pv (q : Rat) (h : bigI q.num) : PV Tryz.prog 45 #[fracV q] (fracV (-q)) := by
 refine PV.of_pc ?_
 refine PC.body Tryz.tab_ok Tryz.func45 rfl (by kernel_rfl) Tryz.ntmps45 rfl rfl ?_
 (try refine RUN ?_)
 (apply EV.drawn 5 (by kernel_rfl) (by kernel_rfl); intro xv yw; (repeat (first | refine' DV (h := ?_) | refine' DA (h := ?_) | refine' DK0 (h := ?_) | (refine' DC (wholeNeg_pv q.num h) (h := ?_); rotate_left) | refine' DS (h := ?_))); refine DJ.nil (fun G hG hF => ?_); (case hS => rfl); (case hS2 => rfl))
 (try refine RUN ?_)
 rfl
theorem abs_pv (q : Rat) (h : bigI q.num) : PV Tryz.prog 40 #[fracV q] (frV (q.num.natAbs : Int) (dk q.den)) := by
 refine PV.of_pc ?_
 refine PC.body Tryz.tab_ok Tryz.func40 rfl (by kernel_rfl) Tryz.ntmps40 rfl rfl ?_
 (try refine RUN ?_)
 (apply EV.drawn 6 (by kernel_rfl) (by kernel_rfl); intro xv yw; (repeat (first | refine' DV (h := ?_) | refine' DA (h := ?_) | refine' DK0 (h := ?_) | (refine' DC (wholeAbs_pv q.num) (h := ?_); rotate_left) | (refine' DC (from_pv false q.num.natAbs h) (h := ?_); rotate_left) | refine' DS (h := ?_))); refine DJ.nil (fun G hG hF => ?_); (case hS => rfl); (case hS2 => rfl))
 (try refine RUN ?_)
 rfl
theorem lowest_pv (n : Int) (d : Nat) (hn : bigI n) (hd : big d) (h0 : d ≠ 0) : PV Tryz.prog 114 #[intV n, natV d] (fracV (mkRat n d)) := by
 have hl := rat_lowest n d h0
 have hg0 : Nat.gcd n.natAbs d ≠ 0 := Nat.gcd_ne_zero_right h0
 have hgb : big (Nat.gcd n.natAbs d) := Nat.le_trans (bl_gcd_right _ _ h0) hd
 have hg := gcd_pv n (d : Int) hn hd
 have f1 := part_pv n (Nat.gcd n.natAbs d) hn hgb hg0 (Nat.gcd_dvd_left ..)
 have f2 := over_pv d (Nat.gcd n.natAbs d) hd hgb hg0
 have f3 := pack_pv (n / (Nat.gcd n.natAbs d : Nat)) (d / Nat.gcd n.natAbs d) (Nat.le_trans (bl_div _ _) hd)
 rw [← hl.1] at f1
 rw [← hl.2] at f2
 rw [← hl.1, ← hl.2] at f3
 refine PV.of_pc ?_
 refine PC.body Tryz.tab_ok Tryz.func114 rfl (by kernel_rfl) Tryz.ntmps114 rfl rfl ?_
 (try refine RUN ?_)
 (apply EV.drawn 5 (by kernel_rfl) (by kernel_rfl); intro xv yw; (repeat (first | refine' DV (h := ?_) | refine' DA (h := ?_) | refine' DK0 (h := ?_) | (refine' DC (from_pv false d hd) (h := ?_); rotate_left) | (refine' DC (hg) (h := ?_); rotate_left) | refine' DS (h := ?_))); refine DJ.nil (fun G hG hF => ?_); (case hS => rfl); (case hS2 => rfl))
 (try refine RUN ?_)
 (apply EV.drawn 7 (by kernel_rfl) (by kernel_rfl); intro xv yw; (repeat (first | refine' DV (h := ?_) | refine' DA (h := ?_) | refine' DK0 (h := ?_) | (refine' DC (f1) (h := ?_); rotate_left) | (refine' DC (f2) (h := ?_); rotate_left) | (refine' DC (f3) (h := ?_); rotate_left) | refine' DS (h := ?_))); refine DJ.nil (fun G hG hF => ?_); (case hS => rfl); (case hS2 => rfl))
 (try refine RUN ?_)
 rfl
theorem make_pv (n d : Int) (hn : bigI n) (hd : bigI d) (h0 : d ≠ 0) : PV Tryz.prog 34 #[intV n, intV d] (.tuple #[fracV (mkRat (if d < 0 then -n else n) d.natAbs), .bool true]) := by
 have l1 := lowest_pv (-n) d.natAbs (by show big (-n).natAbs; rw [Int.natAbs_neg]; exact hn) hd (by omega)
 have l2 := lowest_pv n d.natAbs hn hd (by omega)
 refine PV.of_pc ?_
 refine PC.body Tryz.tab_ok Tryz.func34 rfl (by kernel_rfl) Tryz.ntmps34 rfl rfl ?_
 repeat (first | refine RUN ?_ | refine CV (wholeSign_pv d hd) ?_ | refine CE (wholeSign_pv d hd) ?_)
 rw [show (d.sign == 0) = false by simp [Int.sign_eq_zero_iff_zero, h0]]
 repeat (first | refine RUN ?_ | refine CV (wholeSign_pv d hd) ?_ | refine CE (wholeSign_pv d hd) ?_)
 by_cases h : d < 0
 ·rw [decide_eq_true (Int.sign_neg_iff.2 h), if_pos h]
  repeat (first | refine RUN ?_ | refine CV (wholeNeg_pv n hn) ?_ | refine CE (wholeNeg_pv n hn) ?_)
  apply EV.drawn 3 (by kernel_rfl) (by kernel_rfl); intro xv yw
  (repeat (first | refine' DV (h := ?_) | refine' DA (h := ?_) | refine' DK0 (h := ?_) | (refine' DJ.setb Tryz.tab_ok rfl rfl rfl rfl rfl rfl rfl rfl rfl rfl rfl ?_; rotate_left) | (refine' DC (wholeAbs_pv d) (h := ?_); rotate_left) | refine' DS (h := ?_)))
  (refine DJ.nil (fun G hG hF => ?_); (case hS => rfl); (case hS2 => rfl))
  repeat (first | refine RUN ?_ | refine CV (l1) ?_ | refine CE (l1) ?_)
  rfl
 ·rw [decide_eq_false (fun e => h (Int.sign_neg_iff.1 e)), if_neg h]
  (try refine RUN ?_)
  apply EV.drawn 3 (by kernel_rfl) (by kernel_rfl); intro xv yw
  (repeat (first | refine' DV (h := ?_) | refine' DA (h := ?_) | refine' DK0 (h := ?_) | (refine' DJ.setb Tryz.tab_ok rfl rfl rfl rfl rfl rfl rfl rfl rfl rfl rfl ?_; rotate_left) | (refine' DC (wholeAbs_pv d) (h := ?_); rotate_left) | refine' DS (h := ?_)))
  (refine DJ.nil (fun G hG hF => ?_); (case hS => rfl); (case hS2 => rfl))
  repeat (first | refine RUN ?_ | refine CV (l2) ?_ | refine CE (l2) ?_)
  rfl
abbrev frL (n : Int) (d : Nat) : List Value := [.bool (decide (n < 0)), .int .u64 (lo n.natAbs : Int), .string (moreB n.natAbs), .int .u64 (lo d : Int), .string (moreB d)]
abbrev sm (q : Rat) : Prop := ht q ≤ 100000000
theorem sm.num {q : Rat} (h : sm q) : bl q.num.natAbs ≤ 100000000 := Nat.le_trans (bl_num_le q) h
theorem sm.den {q : Rat} (h : sm q) : bl q.den ≤ 100000000 := Nat.le_trans (bl_den_le q) h
theorem mul_pv (a b : Rat) (ha : sm a) (hb : sm b) : PV Tryz.prog 42 #[fracV a, fracV b] (fracV (a * b)) := by
 have na := ha.num; have da := ha.den; have nb := hb.num; have db := hb.den
 have bna : bigI a.num := Nat.le_trans na (by omega)
 have bnb : bigI b.num := Nat.le_trans nb (by omega)
 have bda : big a.den := Nat.le_trans da (by omega)
 have bdb : big b.den := Nat.le_trans db (by omega)
 have hm := rat_mul a b _ _ rfl rfl
 generalize hg : Nat.gcd a.num.natAbs b.den = g at hm
 generalize hh : Nat.gcd b.num.natAbs a.den = h at hm
 have hg0 : g ≠ 0 := by rw [← hg]; exact Nat.gcd_ne_zero_right b.den_nz
 have hh0 : h ≠ 0 := by rw [← hh]; exact Nat.gcd_ne_zero_right a.den_nz
 have bg : big g := by rw [← hg]; exact Nat.le_trans (bl_gcd_right _ _ b.den_nz) bdb
 have bh : big h := by rw [← hh]; exact Nat.le_trans (bl_gcd_right _ _ a.den_nz) bda
 have g1 := gcd_pv a.num (b.den : Int) bna bdb
 have g2 := gcd_pv b.num (a.den : Int) bnb bda
 rw [Int.natAbs_natCast, hg] at g1
 rw [Int.natAbs_natCast, hh] at g2
 have p1 := part_pv a.num g bna bg hg0 (by rw [← hg]; exact Nat.gcd_dvd_left ..)
 have p2 := part_pv b.num h bnb bh hh0 (by rw [← hh]; exact Nat.gcd_dvd_left ..)
 have b1 : bl (a.num / (g : Int)).natAbs ≤ 100000000 := Nat.le_trans (bl_mono (natAbs_ediv_le _ _)) na
 have b2 : bl (b.num / (h : Int)).natAbs ≤ 100000000 := Nat.le_trans (bl_mono (natAbs_ediv_le _ _)) nb
 have b3 : bl (a.den / h) ≤ 100000000 := Nat.le_trans (bl_div _ _) da
 have b4 : bl (b.den / g) ≤ 100000000 := Nat.le_trans (bl_div _ _) db
 have m1 := wholeMul_pv (a.num / (g : Int)) (b.num / (h : Int)) (Nat.le_trans b1 (by omega)) (Nat.le_trans b2 (by omega)) (by
  show big (_ * _ : Int).natAbs
  rw [Int.natAbs_mul]; have := bl_mul (a.num / (g : Int)).natAbs (b.num / (h : Int)).natAbs; show bl _ ≤ _; omega)
 have m2 := natMul_pv (a.den / h) (b.den / g) (Nat.le_trans b3 (by omega)) (Nat.le_trans b4 (by omega))
 have pk := pack_pv (a * b).num (a * b).den (by rw [hm.2]; have := bl_mul (a.den / h) (b.den / g); show bl _ ≤ _; omega)
 have o1 := over_pv a.den h bda bh hh0
 have o2 := over_pv b.den g bdb bg hg0
 rw [← hm.1] at m1
 rw [← hm.2] at m2
 have w1 := isWhole_pv a bda
 have w2 := isWhole_pv b bdb
 refine PV.of_pc ?_
 refine PC.body Tryz.tab_ok Tryz.func42 rfl (by kernel_rfl) Tryz.ntmps42 rfl rfl ?_
 repeat (first | refine RUN ?_ | refine CV (w1) ?_ | refine CE (w1) ?_)
 refine EVL.meet (fun env' bx' H' => SubL env' [(12, .v (.bool (decide (a.den = 1 ∧ b.den = 1)))), (4, .p 4 0), (3, .p 3 0), (2, .p 2 0)] ∧ SubX bx' [(4, 45, Tryz.te45.zero), (3, 45, frL b.num (dk b.den)), (2, 45, frL a.num (dk a.den))] ∧ H' = ⟨fun _ => none, [], ⟨fun _ => none, []⟩⟩) ?_ ?_
 ·rintro env' bx' H' _ ⟨he, hbx, rfl⟩
  refine EV.less _ _ he hbx rfl ?_
  by_cases hab : a.den = 1 ∧ b.den = 1
  ·rw [decide_eq_true hab]
   have e1 : g = 1 := by rw [← hg, hab.2, Nat.gcd_one_right]
   have e2 : h = 1 := by rw [← hh, hab.1, Nat.gcd_one_right]
   have e3 : (a * b).den = 1 := by rw [hm.2, hab.1, hab.2, e1, e2]
   rw [e1, e2] at m1
   simp only [Int.natCast_one, Int.ediv_one] at m1
   repeat (first | refine RUN ?_ | refine CV (m1) ?_ | refine CE (m1) ?_)
   show _ = frV (a * b).num (dk (a * b).den)
   rw [e3, dk_one, frV_zero]
  ·rw [decide_eq_false hab]
   (try refine RUN ?_)
   have d1 := den_pv a bda
   have d2 := den_pv b bdb
   have s1 := from_pv false a.den bda
   have s2 := from_pv false b.den bdb
   (apply EV.drawn 7 (by kernel_rfl) (by kernel_rfl); intro xv yw; (repeat (first | refine' DV (h := ?_) | refine' DA (h := ?_) | refine' DK0 (h := ?_) | (refine' DC (d2) (h := ?_); rotate_left) | (refine' DC (s2) (h := ?_); rotate_left) | (refine' DC (g1) (h := ?_); rotate_left) | refine' DS (h := ?_))); refine DJ.nil (fun G hG hF => ?_); (case hS => rfl); (case hS2 => rfl))
   (try refine RUN ?_)
   (apply EV.drawn 7 (by kernel_rfl) (by kernel_rfl); intro xv yw; (repeat (first | refine' DV (h := ?_) | refine' DA (h := ?_) | refine' DK0 (h := ?_) | (refine' DC (d1) (h := ?_); rotate_left) | (refine' DC (s1) (h := ?_); rotate_left) | (refine' DC (g2) (h := ?_); rotate_left) | refine' DS (h := ?_))); refine DJ.nil (fun G hG hF => ?_); (case hS => rfl); (case hS2 => rfl))
   (try refine RUN ?_)
   apply EV.drawn 16 (by kernel_rfl) (by kernel_rfl); intro xv yw
   (repeat (first | refine' DV (h := ?_) | refine' DA (h := ?_) | refine' DK0 (h := ?_) | (refine' DJ.setb Tryz.tab_ok rfl rfl rfl rfl rfl rfl rfl rfl rfl rfl rfl ?_; rotate_left) | (refine' DC (p1) (h := ?_); rotate_left) | (refine' DC (p2) (h := ?_); rotate_left) | (refine' DC (m1) (h := ?_); rotate_left) | (refine' DC (d1) (h := ?_); rotate_left) | (refine' DC (d2) (h := ?_); rotate_left) | (refine' DC (o1) (h := ?_); rotate_left) | (refine' DC (o2) (h := ?_); rotate_left) | refine' DS (h := ?_)))
   (refine DJ.nil (fun G hG hF => ?_); (case hS => rfl); (case hS2 => rfl))
   repeat (first | refine RUN ?_ | refine CV (o2) ?_ | refine CV (m2) ?_ | refine CV (pk) ?_ | refine CE (o2) ?_ | refine CE (m2) ?_ | refine CE (pk) ?_)
   rfl
 ·by_cases ha1 : a.den = 1
  ·rw [decide_eq_true ha1]
   repeat (first | refine RUN ?_ | refine CV (w2) ?_ | refine CE (w2) ?_)
   refine ⟨⟨?_, rfl, rfl, rfl, trivial⟩, ⟨rfl, rfl, rfl, trivial⟩, rfl⟩
   simp [ha1]; rfl
  ·rw [decide_eq_false ha1]
   (try refine RUN ?_)
   refine ⟨⟨?_, rfl, rfl, rfl, trivial⟩, ⟨rfl, rfl, rfl, trivial⟩, rfl⟩
   simp [ha1]; rfl
theorem add_pv (a b : Rat) (ha : sm a) (hb : sm b) : PV Tryz.prog 32 #[fracV a, fracV b] (fracV (a + b)) := by
 have na := ha.num; have da := ha.den; have nb := hb.num; have db := hb.den
 have bna : bigI a.num := Nat.le_trans na (by omega)
 have bnb : bigI b.num := Nat.le_trans nb (by omega)
 have bda : big a.den := Nat.le_trans da (by omega)
 have bdb : big b.den := Nat.le_trans db (by omega)
 have hm := rat_add a b _ _ _ _ _ rfl rfl rfl rfl rfl
 generalize hg : Nat.gcd a.den b.den = g at hm
 have hg0 : g ≠ 0 := by rw [← hg]; exact Nat.gcd_ne_zero_right b.den_nz
 have bgl : bl g ≤ 100000000 := by rw [← hg]; exact Nat.le_trans (bl_gcd_right _ _ b.den_nz) db
 have bg : big g := Nat.le_trans bgl (by omega)
 have g1 := gcd_pv (a.den : Int) (b.den : Int) bda bdb
 rw [Int.natAbs_natCast, Int.natAbs_natCast, hg] at g1
 have o1 := over_pv a.den g bda bg hg0
 have o2 := over_pv b.den g bdb bg hg0
 have b1 : bl (a.den / g) ≤ 100000000 := Nat.le_trans (bl_div _ _) da
 have b2 : bl (b.den / g) ≤ 100000000 := Nat.le_trans (bl_div _ _) db
 have hone : a.den = 1 ∧ b.den = 1 → g = 1 ∧ a.den / g = 1 ∧ b.den / g = 1 := fun h => by
  have : g = 1 := by rw [← hg, h.1, h.2]; rfl
  rw [this, h.1, h.2]; exact ⟨rfl, rfl, rfl⟩
 generalize hdown : a.den / g = down at *
 generalize hother : b.den / g = other at *
 have c1 := bl_mul a.num.natAbs other
 have c2 := bl_mul b.num.natAbs down
 have t1 := times_pv a.num other bna (Nat.le_trans b2 (by omega)) (by show bl _ ≤ _; omega)
 have t2 := times_pv b.num down bnb (Nat.le_trans b1 (by omega)) (by show bl _ ≤ _; omega)
 have c1' : bl (a.num * (other : Int)).natAbs ≤ 200000000 := by rw [Int.natAbs_mul]; simp; omega
 have c2' : bl (b.num * (down : Int)).natAbs ≤ 200000000 := by rw [Int.natAbs_mul]; simp; omega
 have c3 := bl_add (a.num * (other : Int)).natAbs (b.num * (down : Int)).natAbs
 have ad := wholeAdd_pv (a.num * (other : Int)) (b.num * (down : Int)) (Nat.le_trans c1' (by omega)) (Nat.le_trans c2' (by omega)) (by show bl _ ≤ _; omega)
 have bup : bl (a.num * (other : Int) + b.num * (down : Int)).natAbs ≤ 200000001 := by
  have := bl_natAbs_add (a.num * (other : Int)) (b.num * (down : Int)); omega
 generalize hup : a.num * (other : Int) + b.num * (down : Int) = up at *
 generalize hh : Nat.gcd up.natAbs g = h at hm
 have hh0 : h ≠ 0 := by rw [← hh]; exact Nat.gcd_ne_zero_right hg0
 have bh : big h := by rw [← hh]; exact Nat.le_trans (bl_gcd_right _ _ hg0) bg
 have g2 := gcd_pv up (g : Int) (Nat.le_trans bup (by omega)) bg
 rw [Int.natAbs_natCast, hh] at g2
 have p1 := part_pv up h (Nat.le_trans bup (by omega)) bh hh0 (by rw [← hh]; exact Nat.gcd_dvd_left ..)
 have o3 := over_pv b.den h bdb bh hh0
 have b4 : bl (b.den / h) ≤ 100000000 := Nat.le_trans (bl_div _ _) db
 have m2 := natMul_pv down (b.den / h) (Nat.le_trans b1 (by omega)) (Nat.le_trans b4 (by omega))
 have pk := pack_pv (a + b).num (a + b).den (by rw [hm.2]; have := bl_mul down (b.den / h); show bl _ ≤ _; omega)
 rw [← hm.1] at p1
 rw [← hm.2] at m2
 have w1 := isWhole_pv a bda
 have w2 := isWhole_pv b bdb
 refine PV.of_pc ?_
 refine PC.body Tryz.tab_ok Tryz.func32 rfl (by kernel_rfl) Tryz.ntmps32 rfl rfl ?_
 repeat (first | refine RUN ?_ | refine CV (w1) ?_ | refine CE (w1) ?_)
 refine EVL.meet (fun env' bx' H' => SubL env' [(15, .v (.bool (decide (a.den = 1 ∧ b.den = 1)))), (4, .p 4 0), (3, .p 3 0), (2, .p 2 0)] ∧ SubX bx' [(4, 45, Tryz.te45.zero), (3, 45, frL b.num (dk b.den)), (2, 45, frL a.num (dk a.den))] ∧ H' = ⟨fun _ => none, [], ⟨fun _ => none, []⟩⟩) ?_ ?_
 ·rintro env' bx' H' _ ⟨he, hbx, rfl⟩
  refine EV.less _ _ he hbx rfl ?_
  by_cases hab : a.den = 1 ∧ b.den = 1
  ·rw [decide_eq_true hab]
   obtain ⟨e1, e2, e3⟩ := hone hab
   have e4 : h = 1 := by rw [← hh, e1, Nat.gcd_one_right]
   have e5 : (a + b).den = 1 := by rw [hm.2, e2, hab.2, e4]
   have e6 : (a + b).num = a.num + b.num := by rw [hm.1, e4, ← hup, e2, e3]; simp
   have c4 := bl_add a.num.natAbs b.num.natAbs
   have ad' := wholeAdd_pv a.num b.num bna bnb (by show bl _ ≤ _; omega)
   repeat (first | refine RUN ?_ | refine CV (ad') ?_ | refine CE (ad') ?_)
   show _ = frV (a + b).num (dk (a + b).den)
   rw [e5, dk_one, frV_zero, e6]
  ·rw [decide_eq_false hab]
   (try refine RUN ?_)
   have d1 := den_pv a bda
   have d2 := den_pv b bdb
   have s1 := from_pv false a.den bda
   have s2 := from_pv false b.den bdb
   have s3 := from_pv false g bg
   (apply EV.drawn 8 (by kernel_rfl) (by kernel_rfl); intro xv yw; (repeat (first | refine' DV (h := ?_) | refine' DA (h := ?_) | refine' DK0 (h := ?_) | (refine' DC (d1) (h := ?_); rotate_left) | (refine' DC (s1) (h := ?_); rotate_left) | (refine' DC (d2) (h := ?_); rotate_left) | (refine' DC (s2) (h := ?_); rotate_left) | (refine' DC (g1) (h := ?_); rotate_left) | refine' DS (h := ?_))); refine DJ.nil (fun G hG hF => ?_); (case hS => rfl); (case hS2 => rfl))
   (try refine RUN ?_)
   (apply EV.drawn 10 (by kernel_rfl) (by kernel_rfl); intro xv yw; (repeat (first | refine' DV (h := ?_) | refine' DA (h := ?_) | refine' DK0 (h := ?_) | (refine' DC (d1) (h := ?_); rotate_left) | (refine' DC (d2) (h := ?_); rotate_left) | (refine' DC (o1) (h := ?_); rotate_left) | (refine' DC (o2) (h := ?_); rotate_left) | refine' DS (h := ?_))); refine DJ.nil (fun G hG hF => ?_); (case hS => rfl); (case hS2 => rfl))
   (try refine RUN ?_)
   (apply EV.drawn 10 (by kernel_rfl) (by kernel_rfl); intro xv yw; (repeat (first | refine' DV (h := ?_) | refine' DA (h := ?_) | refine' DK0 (h := ?_) | (refine' DC (t1) (h := ?_); rotate_left) | (refine' DC (t2) (h := ?_); rotate_left) | (refine' DC (ad) (h := ?_); rotate_left) | refine' DS (h := ?_))); refine DJ.nil (fun G hG hF => ?_); (case hS => rfl); (case hS2 => rfl))
   (try refine RUN ?_)
   (apply EV.drawn 5 (by kernel_rfl) (by kernel_rfl); intro xv yw; (repeat (first | refine' DV (h := ?_) | refine' DA (h := ?_) | refine' DK0 (h := ?_) | (refine' DC (s3) (h := ?_); rotate_left) | (refine' DC (g2) (h := ?_); rotate_left) | refine' DS (h := ?_))); refine DJ.nil (fun G hG hF => ?_); (case hS => rfl); (case hS2 => rfl))
   (try refine RUN ?_)
   (apply EV.drawn 10 (by kernel_rfl) (by kernel_rfl); intro xv yw; (repeat (first | refine' DV (h := ?_) | refine' DA (h := ?_) | refine' DK0 (h := ?_) | (refine' DC (p1) (h := ?_); rotate_left) | (refine' DC (d2) (h := ?_); rotate_left) | (refine' DC (o3) (h := ?_); rotate_left) | (refine' DC (m2) (h := ?_); rotate_left) | (refine' DC (pk) (h := ?_); rotate_left) | refine' DS (h := ?_))); refine DJ.nil (fun G hG hF => ?_); (case hS => rfl); (case hS2 => rfl))
   (try refine RUN ?_)
   rfl
 ·by_cases ha1 : a.den = 1
  ·rw [decide_eq_true ha1]
   repeat (first | refine RUN ?_ | refine CV (w2) ?_ | refine CE (w2) ?_)
   refine ⟨⟨?_, rfl, rfl, rfl, trivial⟩, ⟨rfl, rfl, rfl, trivial⟩, rfl⟩
   simp [ha1]; rfl
  ·rw [decide_eq_false ha1]
   (try refine RUN ?_)
   refine ⟨⟨?_, rfl, rfl, rfl, trivial⟩, ⟨rfl, rfl, rfl, trivial⟩, rfl⟩
   simp [ha1]; rfl
theorem sub_pv (a b : Rat) (ha : sm a) (hb : sm b) : PV Tryz.prog 39 #[fracV a, fracV b] (fracV (a - b)) := by
 have h1 := neg_pv b (Nat.le_trans hb.num (by omega))
 have h2 := add_pv a (-b) ha (by show ht (-b) ≤ _; rw [ht_neg]; exact hb)
 rw [← Rat.sub_eq_add_neg] at h2
 refine PV.of_pc ?_
 refine PC.body Tryz.tab_ok Tryz.func39 rfl (by kernel_rfl) Tryz.ntmps39 rfl rfl ?_
 (try refine RUN ?_)
 (apply EV.drawn 4 (by kernel_rfl) (by kernel_rfl); intro xv yw; (repeat (first | refine' DV (h := ?_) | refine' DA (h := ?_) | refine' DK0 (h := ?_) | (refine' DC (h1) (h := ?_); rotate_left) | (refine' DC (h2) (h := ?_); rotate_left) | refine' DS (h := ?_))); refine DJ.nil (fun G hG hF => ?_); (case hS => rfl); (case hS2 => rfl))
 (try refine RUN ?_)
 rfl
theorem inv_frV (b : Rat) (h : b.num ≠ 0) : frV (sg (decide (b.num < 0)) b.den) (dk b.num.natAbs) = fracV b⁻¹ := by
 have e1 : b⁻¹.num = sg (decide (b.num < 0)) b.den := by
  rw [Rat.num_inv]; unfold sg
  rcases Int.lt_or_lt_of_ne h with h1 | h1
  ·simp [h1, Int.sign_eq_neg_one_of_neg h1]
  ·rw [Int.sign_eq_one_of_pos h1, decide_eq_false (by omega)]; simp
 have e2 : b⁻¹.den = b.num.natAbs := by
  rw [Rat.den_inv, if_neg]
  exact h
 rw [← e1, ← e2]
theorem div_pv (a b : Rat) (ha : sm a) (hb : sm b) (h0 : b ≠ 0) : PV Tryz.prog 41 #[fracV a, fracV b] (.tuple #[fracV (a / b), .bool true]) := by
 have hn0 : b.num ≠ 0 := fun e => h0 (Rat.num_eq_zero.1 e)
 have bnb : bigI b.num := Nat.le_trans hb.num (by omega)
 have bdb : big b.den := Nat.le_trans hb.den (by omega)
 have hm := mul_pv a b⁻¹ ha (Nat.le_trans (ht_inv b) hb)
 rw [← Rat.div_def] at hm
 have hp := pack_pv (sg (decide (b.num < 0)) b.den) b.num.natAbs bnb
 rw [inv_frV b hn0] at hp
 have s1 := from_pv (decide (b.num < 0)) b.den bdb
 have sg1 := sign_pv b bnb
 have ab := wholeAbs_pv b.num
 have d2 := den_pv b bdb
 refine PV.of_pc ?_
 refine PC.body Tryz.tab_ok Tryz.func41 rfl (by kernel_rfl) Tryz.ntmps41 rfl rfl ?_
 repeat (first | refine RUN ?_ | refine CV (sg1) ?_ | refine CE (sg1) ?_)
 rw [show (b.num.sign == 0) = false by simp [Int.sign_eq_zero_iff_zero, hn0]]
 (try refine RUN ?_)
 apply EV.drawn 11 (by kernel_rfl) (by kernel_rfl); intro xv yw
 (repeat (first | refine' DV (h := ?_) | refine' DA (h := ?_) | refine' DK0 (h := ?_) | (refine' DJ.setb Tryz.tab_ok rfl rfl rfl rfl rfl rfl rfl rfl rfl rfl rfl ?_; rotate_left) | (refine' DC (sg1) (h := ?_); rotate_left) | refine' DS (h := ?_)))
 rw [show decide (b.num.sign < 0) = decide (b.num < 0) by rw [decide_eq_decide]; exact Int.sign_neg_iff]
 (repeat (first | refine' DV (h := ?_) | refine' DA (h := ?_) | refine' DK0 (h := ?_) | (refine' DJ.setb Tryz.tab_ok rfl rfl rfl rfl rfl rfl rfl rfl rfl rfl rfl ?_; rotate_left) | (refine' DC (d2) (h := ?_); rotate_left) | (refine' DC (s1) (h := ?_); rotate_left) | (refine' DC (ab) (h := ?_); rotate_left) | (refine' DC (hp) (h := ?_); rotate_left) | refine' DS (h := ?_)))
 (refine DJ.nil (fun G hG hF => ?_); (case hS => rfl); (case hS2 => rfl))
 repeat (first | refine RUN ?_ | refine CV (hm) ?_ | refine CE (hm) ?_)
 rfl
theorem div_zero_pv (a : Rat) : PV Tryz.prog 41 #[fracV a, fracV 0] (.tuple #[fracV 0, .bool false]) := by
 have sg1 := sign_pv 0 (by show bl 0 ≤ _; rw [bl_zero]; omega)
 refine PV.of_pc ?_
 refine PC.body Tryz.tab_ok Tryz.func41 rfl (by kernel_rfl) Tryz.ntmps41 rfl rfl ?_
 repeat (first | refine RUN ?_ | refine CV (sg1) ?_ | refine CE (sg1) ?_)
 show _ = Value.tuple #[frV 0 0, .bool false]
 rw [frV_zero, show (0 : Int).natAbs = 0 from rfl, moreB_empty (n := 0) (by decide)]; rfl
theorem ordZ_scale (x y p q : Int) (hp : 0 < p) (hq : 0 < q) (h : x.sign ≠ y.sign) : ordZ x y = ordZ (x * p) (y * q) := by
 have f1 : x < 0 → x * p < 0 := fun h => Int.mul_neg_of_neg_of_pos h hp
 have f2 : 0 < x → 0 < x * p := fun h => Int.mul_pos h hp
 have f3 : y < 0 → y * q < 0 := fun h => Int.mul_neg_of_neg_of_pos h hq
 have f4 : 0 < y → 0 < y * q := fun h => Int.mul_pos h hq
 have f5 : x = 0 → x * p = 0 := fun h => by rw [h, Int.zero_mul]
 have f6 : y = 0 → y * q = 0 := fun h => by rw [h, Int.zero_mul]
 generalize x * p = u at *
 generalize y * q = v at *
 rcases Int.lt_trichotomy x 0 with hx | hx | hx <;> rcases Int.lt_trichotomy y 0 with hy | hy | hy
 ·exact absurd (by rw [Int.sign_eq_neg_one_of_neg hx, Int.sign_eq_neg_one_of_neg hy]) h
 ·unfold ordZ; rw [if_pos (by omega), if_pos (by have := f1 hx; have := f6 hy; omega)]
 ·unfold ordZ; rw [if_pos (by omega), if_pos (by have := f1 hx; have := f4 hy; omega)]
 ·unfold ordZ; rw [if_neg (by omega), if_pos (by omega), if_neg (by have := f5 hx; have := f3 hy; omega), if_pos (by have := f5 hx; have := f3 hy; omega)]
 ·exact absurd (by rw [hx, hy]) h
 ·unfold ordZ; rw [if_pos (by omega), if_pos (by have := f5 hx; have := f4 hy; omega)]
 ·unfold ordZ; rw [if_neg (by omega), if_pos (by omega), if_neg (by have := f2 hx; have := f3 hy; omega), if_pos (by have := f2 hx; have := f3 hy; omega)]
 ·unfold ordZ; rw [if_neg (by omega), if_pos (by omega), if_neg (by have := f2 hx; have := f6 hy; omega), if_pos (by have := f2 hx; have := f6 hy; omega)]
 ·exact absurd (by rw [Int.sign_eq_one_of_pos hx, Int.sign_eq_one_of_pos hy]) h
theorem sign_ne (a b : Rat) (h : a.num.sign ≠ b.num.sign) : ordZ a.num b.num = ordR a b := by
 have := Nat.pos_of_ne_zero a.den_nz
 have := Nat.pos_of_ne_zero b.den_nz
 rw [ordR_eq]; exact ordZ_scale _ _ _ _ (by omega) (by omega) h
theorem cmp_pv (a b : Rat) (ha : sm a) (hb : sm b) : PV Tryz.prog 31 #[fracV a, fracV b] (.int .i64 (ordR a b)) := by
 have na := ha.num; have da := ha.den; have nb := hb.num; have db := hb.den
 have bna : bigI a.num := Nat.le_trans na (by omega)
 have bnb : bigI b.num := Nat.le_trans nb (by omega)
 have bda : big a.den := Nat.le_trans da (by omega)
 have bdb : big b.den := Nat.le_trans db (by omega)
 have w1 := isWhole_pv a bda
 have w2 := isWhole_pv b bdb
 have s1 := sign_pv a bna
 have s2 := sign_pv b bnb
 have d1 := den_pv a bda
 have d2 := den_pv b bdb
 have c1 := bl_mul a.num.natAbs b.den
 have c2 := bl_mul b.num.natAbs a.den
 have t1 := times_pv a.num b.den bna bdb (by show bl _ ≤ _; omega)
 have t2 := times_pv b.num a.den bnb bda (by show bl _ ≤ _; omega)
 have k1 := wholeCmp_pv a.num b.num bna bnb
 have k2 := wholeCmp_pv (a.num * (b.den : Int)) (b.num * (a.den : Int)) (by show bl _ ≤ _; rw [Int.natAbs_mul]; simp; omega) (by show bl _ ≤ _; rw [Int.natAbs_mul]; simp; omega)
 rw [← ordR_eq] at k2
 refine PV.of_pc ?_
 refine PC.body Tryz.tab_ok Tryz.func31 rfl (by kernel_rfl) Tryz.ntmps31 rfl rfl ?_
 (try refine RUN ?_)
 by_cases ha1 : a.den = 1
 ·rw [decide_eq_true ha1] at w1
  by_cases hb1 : b.den = 1
  ·rw [decide_eq_true hb1] at w2
   have e : ordZ a.num b.num = ordR a b := by rw [ordR_eq, ha1, hb1]; simp
   rw [e] at k1
   apply EV.drawn 10 (by kernel_rfl) (by kernel_rfl); intro xv yw
   (repeat (first | refine' DV (h := ?_) | refine' DA (h := ?_) | refine' DK0 (h := ?_) | (refine' DJ.setb Tryz.tab_ok rfl rfl rfl rfl rfl rfl rfl rfl rfl rfl rfl ?_; rotate_left) | (refine' DC (w1) (h := ?_); rotate_left) | (refine' DC (w2) (h := ?_); rotate_left) | (refine' DC (s1) (h := ?_); rotate_left) | (refine' DC (s2) (h := ?_); rotate_left) | refine' DS (h := ?_)))
   (refine DJ.nil (fun G hG hF => ?_); (case hS => rfl); (case hS2 => rfl))
   repeat (first | refine RUN ?_ | refine CV (k1) ?_ | refine CE (k1) ?_)
   rfl
  ·rw [decide_eq_false hb1] at w2
   apply EV.drawn 10 (by kernel_rfl) (by kernel_rfl); intro xv yw
   (repeat (first | refine' DV (h := ?_) | refine' DA (h := ?_) | refine' DK0 (h := ?_) | (refine' DJ.setb Tryz.tab_ok rfl rfl rfl rfl rfl rfl rfl rfl rfl rfl rfl ?_; rotate_left) | (refine' DC (w1) (h := ?_); rotate_left) | (refine' DC (w2) (h := ?_); rotate_left) | (refine' DC (s1) (h := ?_); rotate_left) | (refine' DC (s2) (h := ?_); rotate_left) | refine' DS (h := ?_)))
   (refine DJ.nil (fun G hG hF => ?_); (case hS => rfl); (case hS2 => rfl))
   repeat (first | refine RUN ?_ | refine CV (s1) ?_ | refine CV (s2) ?_ | refine CE (s1) ?_ | refine CE (s2) ?_)
   by_cases hs : a.num.sign = b.num.sign
   ·rw [show (a.num.sign != b.num.sign) = false by simp [hs]]
    (try refine RUN ?_)
    apply EV.drawn 9 (by kernel_rfl) (by kernel_rfl); intro xv yw
    (repeat (first | refine' DV (h := ?_) | refine' DA (h := ?_) | refine' DK0 (h := ?_) | (refine' DJ.setb Tryz.tab_ok rfl rfl rfl rfl rfl rfl rfl rfl rfl rfl rfl ?_; rotate_left) | (refine' DC (d2) (h := ?_); rotate_left) | (refine' DC (t1) (h := ?_); rotate_left) | (refine' DC (d1) (h := ?_); rotate_left) | refine' DS (h := ?_)))
    (refine DJ.nil (fun G hG hF => ?_); (case hS => rfl); (case hS2 => rfl))
    repeat (first | refine RUN ?_ | refine CV (t2) ?_ | refine CV (k2) ?_ | refine CE (t2) ?_ | refine CE (k2) ?_)
    rfl
   ·rw [show (a.num.sign != b.num.sign) = true by simp [hs]]
    repeat (first | refine RUN ?_ | refine CV (k1) ?_ | refine CE (k1) ?_)
    rw [sign_ne a b hs]
 ·rw [decide_eq_false ha1] at w1
  apply EV.drawn 10 (by kernel_rfl) (by kernel_rfl); intro xv yw
  (repeat (first | refine' DV (h := ?_) | refine' DA (h := ?_) | refine' DK0 (h := ?_) | (refine' DJ.setb Tryz.tab_ok rfl rfl rfl rfl rfl rfl rfl rfl rfl rfl rfl ?_; rotate_left) | (refine' DC (w1) (h := ?_); rotate_left) | (refine' DC (w2) (h := ?_); rotate_left) | (refine' DC (s1) (h := ?_); rotate_left) | (refine' DC (s2) (h := ?_); rotate_left) | refine' DS (h := ?_)))
  (refine DJ.nil (fun G hG hF => ?_); (case hS => rfl); (case hS2 => rfl))
  repeat (first | refine RUN ?_ | refine CV (s1) ?_ | refine CV (s2) ?_ | refine CE (s1) ?_ | refine CE (s2) ?_)
  by_cases hs : a.num.sign = b.num.sign
  ·rw [show (a.num.sign != b.num.sign) = false by simp [hs]]
   (try refine RUN ?_)
   apply EV.drawn 9 (by kernel_rfl) (by kernel_rfl); intro xv yw
   (repeat (first | refine' DV (h := ?_) | refine' DA (h := ?_) | refine' DK0 (h := ?_) | (refine' DJ.setb Tryz.tab_ok rfl rfl rfl rfl rfl rfl rfl rfl rfl rfl rfl ?_; rotate_left) | (refine' DC (d2) (h := ?_); rotate_left) | (refine' DC (t1) (h := ?_); rotate_left) | (refine' DC (d1) (h := ?_); rotate_left) | refine' DS (h := ?_)))
   (refine DJ.nil (fun G hG hF => ?_); (case hS => rfl); (case hS2 => rfl))
   repeat (first | refine RUN ?_ | refine CV (t2) ?_ | refine CV (k2) ?_ | refine CE (t2) ?_ | refine CE (k2) ?_)
   rfl
  ·rw [show (a.num.sign != b.num.sign) = true by simp [hs]]
   repeat (first | refine RUN ?_ | refine CV (k1) ?_ | refine CE (k1) ?_)
   rw [sign_ne a b hs]
theorem pick_pv (z m : Int) (hz : -9223372036854775808 ≤ z ∧ z < 9223372036854775808) (h0 : 0 < m) (hm : m < 4611686018427387904) : PV Tryz.prog 13 #[.int .i64 z, .int .i64 m] (.int .i64 (z % m)) := by
 have h1 := Int.tmod_lt_of_pos z h0
 have h2 := Int.lt_tmod_of_pos z h0
 have e : z % m = if z.tmod m < 0 then z.tmod m + m else z.tmod m := by
  have hq := Int.mul_tdiv_add_tmod z m
  have e1 : z % m = z.tmod m % m := by
   conv => lhs; rw [← hq]
   rw [Int.mul_add_emod_self_left]
  rw [e1]
  by_cases ht : z.tmod m < 0
  ·rw [if_pos ht, ← Int.add_emod_right, Int.emod_eq_of_lt (by omega) (by omega)]
  ·rw [if_neg ht, Int.emod_eq_of_lt (by omega) h1]
 refine PV.of_pc ?_
 refine PC.body Tryz.tab_ok Tryz.func13 rfl (by kernel_rfl) Tryz.ntmps13 rfl rfl ?_
 (try refine RUN ?_)
 refine EVL.remI rfl rfl rfl rfl rfl rfl (by omega) ?_
 generalize z.tmod m = t at *
 (try refine RUN ?_)
 by_cases ht : t < 0
 ·rw [if_pos ht] at e
  rw [decide_eq_true ht]
  (try refine RUN ?_)
  rw [e, IntKind.wrap_i64]; congr 1; omega
 ·rw [if_neg ht] at e
  rw [decide_eq_false ht]
  (try refine RUN ?_)
  rw [e]
theorem min_int (a b : Nat) : (if (b : Int) < (a : Int) then (b : Int) else (a : Int)) = ((min a b : Nat) : Int) := by split <;> omega
theorem oneB_n8 : ∀ l : List Nat, oneB (l.map n8) = true
 | [] => rfl
 | _ :: l => by rw [List.map_cons]; unfold oneB; rw [oneB_n8 l]; rfl
theorem few_pc {v : Value} {l : List Nat} {H : Hp} (h : SlN n8 H v l) (k : Nat) (hk : k ≤ 1000000000) : PC Tryz.prog 88 #[v, .int .i64 (k : Int)] H fun r H' => SlN n8 H' r (l.take k) := by
 obtain ⟨a, cap, rfl⟩ := SlC.val h
 have hcap : l.length ≤ cap := SlN.le h
 have hsub := SlC.sub h 0 (min l.length k) (Nat.zero_le _) (Nat.min_le_left _ _) hcap
 have hmk : min l.length k ≤ 1000000000 := Nat.le_trans (Nat.min_le_right _ _) hk
 have htk : ((l.map n8).drop (0 * 1)).take ((min l.length k - 0) * 1) = (l.take k).map n8 := by
  rw [Nat.zero_mul, List.drop_zero, Nat.sub_zero, Nat.mul_one, ← List.map_take]
  congr 1
  rw [List.take_eq_take_iff]; omega
 have hlk : (l.take k).length = min l.length k := by rw [List.length_take, Nat.min_comm]
 have hml : min l.length k ≤ l.length := Nat.min_le_left _ _
 rw [htk] at hsub
 have hmi := min_int l.length k
 generalize min l.length k = m at *
 refine PC.body Tryz.tab_ok Tryz.func88 rfl (by kernel_rfl) Tryz.ntmps88 rfl rfl ?_
 (try refine RUN ?_)
 refine EVL.lit0 Tryz.tab_ok rfl rfl rfl rfl rfl rfl rfl fun g0 => ?_
 (try refine RUN ?_)
 rw [hmi]
 refine EVL.slc (te' := Tryz.te5) Tryz.tab_ok rfl rfl rfl rfl rfl rfl rfl rfl 0 m (.inl ⟨rfl, rfl⟩) (.inr ⟨_, IntKind.i64, rfl, rfl⟩) (Nat.zero_le _) (by omega) hcap ?_
 rcases Nat.eq_zero_or_pos m with e | e
 ·subst e
  have hnil : l.take k = [] := List.length_eq_zero_iff.1 hlk
  refine EVL.append0 Tryz.tab_ok rfl rfl rfl rfl rfl rfl rfl rfl rfl (Nat.le_refl _) ?_
  (try refine RUN ?_)
  rw [hnil]
  exact ⟨rfl, .inl ⟨rfl, _, _, rfl⟩⟩
 ·refine EVL.append Tryz.tab_ok rfl rfl rfl rfl rfl rfl rfl rfl rfl rfl rfl rfl [] [(g0, 5, [])] [] rfl (OwnL.full (m := 0) rfl (by omega)) (SrcAt.ro hsub e) (oneB_n8 _) (by omega) ?_
  intro v1 ow1 hown1
  (first | refine EVL.publishL [] ow1 [] (rfl) hown1 fun G hG hs => ?_ | refine EV.publishL [] ow1 [] (rfl) hown1 fun G hG hs => ?_)
  (try refine RUN ?_)
  rw [Nat.zero_add] at hs
  exact own_sl hs hlk
theorem refNatH_pc {H : Hp} {v : Value} {n : Nat} (h : RN H v n) (hn : rsm n) : PC Tryz.prog 105 #[v] H fun r _ => r = natV n := by
 have hol : (octs n).length ≤ 200000000 := by
  rw [octs_length]
  have := dig_len_bits 8 n (by omega); rw [show (2 : Nat) ^ 8 = 256 by decide] at this; rw [this]
  have : bl n ≤ 800000000 := hn
  omega
 refine PC.body Tryz.tab_ok Tryz.func105 rfl (by kernel_rfl) Tryz.ntmps105 rfl rfl ?_
 (try refine RUN ?_)
 refine EVL.call rfl rfl rfl rfl rfl (refBytes_pc h hn) ?_
 rintro r G hr hG
 have hf := natFromBytes_pc hr (octs_dig n) hol
 rw [octs_val] at hf
 repeat (first | refine RUN ?_ | refine CV (hf) ?_ | refine CE (hf) ?_)
 rfl
theorem outNat_pc {H : Hp} (n : Nat) (hn : rsm n) : PC Tryz.prog 144 #[natV n] H fun r H' => RN H' r n := by
 have hol : (octs n).length ≤ 200000000 := by
  rw [octs_length]
  have := dig_len_bits 8 n (by omega); rw [show (2 : Nat) ^ 8 = 256 by decide] at this; rw [this]
  have : bl n ≤ 800000000 := hn
  omega
 refine PC.body Tryz.tab_ok Tryz.func144 rfl (by kernel_rfl) Tryz.ntmps144 rfl rfl ?_
 (try refine RUN ?_)
 refine EVL.call rfl rfl rfl rfl rfl (natBytes_pc n (Nat.le_trans hn (by omega)) H) ?_
 rintro r G hr hG
 have hf := refFrom_pc hr (octs_dig n) hol
 rw [octs_val] at hf
 (try refine RUN ?_)
 refine EVL.call rfl rfl rfl rfl rfl (hf) ?_
 rintro s G2 hs hG2
 (try refine RUN ?_)
 exact hs
theorem intH_pc {H : Hp} {v : Value} {z : Int} (h : RI H v z) (hz : rsm z.natAbs) : PC Tryz.prog 104 #[v] H fun r _ => r = intV z := by
 obtain ⟨sa, sl, sc, rfl, hs⟩ := id h
 have hf := from_pv (decide (z < 0)) z.natAbs (Nat.le_trans hz (by omega))
 rw [sg_dec] at hf
 refine PC.body Tryz.tab_ok Tryz.func104 rfl (by kernel_rfl) Tryz.ntmps104 rfl rfl ?_
 (try refine RUN ?_)
 apply EV.drawn 6 (by kernel_rfl) (by kernel_rfl); intro xv yw
 (repeat (first | refine' DV (h := ?_) | refine' DA (h := ?_) | refine' DK0 (h := ?_) | (refine' DJ.setb Tryz.tab_ok rfl rfl rfl rfl rfl rfl rfl rfl rfl rfl rfl ?_; rotate_left) | refine' DS (h := ?_)))
 refine' DJ.callS rfl rfl rfl rfl rfl (cOf Tryz.func105 rfl (by kernel_rfl)) (fun G hG hd => refNatH_pc (RN.mono hs hG) hz) ?_; rotate_left
 (repeat (first | refine' DV (h := ?_) | refine' DA (h := ?_) | refine' DK0 (h := ?_) | (refine' DJ.setb Tryz.tab_ok rfl rfl rfl rfl rfl rfl rfl rfl rfl rfl rfl ?_; rotate_left) | (refine' DC (hf) (h := ?_); rotate_left) | refine' DS (h := ?_)))
 (refine DJ.nil (fun G hG hF => ?_); (case hS => rfl); (case hS2 => rfl))
 (try refine RUN ?_)
 rfl
theorem outInt_pc {H : Hp} (z : Int) (hz : rsm z.natAbs) : PC Tryz.prog 64 #[intV z] H fun r H' => RI H' r z := by
 have hb : bigI z := Nat.le_trans hz (by omega)
 have e1 : decide (z.sign < 0) = decide (z < 0) := by rw [decide_eq_decide, Int.sign_neg_iff]
 refine PC.body Tryz.tab_ok Tryz.func64 rfl (by kernel_rfl) Tryz.ntmps64 rfl rfl ?_
 (try refine RUN ?_)
 apply EV.drawn 7 (by kernel_rfl) (by kernel_rfl); intro xv yw
 (repeat (first | refine' DV (h := ?_) | refine' DA (h := ?_) | refine' DK0 (h := ?_) | (refine' DJ.setb Tryz.tab_ok rfl rfl rfl rfl rfl rfl rfl rfl rfl rfl rfl ?_; rotate_left) | (refine' DC (wholeSign_pv z hb) (h := ?_); rotate_left) | (refine' DC (wholeAbs_pv z) (h := ?_); rotate_left) | refine' DS (h := ?_)))
 refine' DJ.call rfl rfl rfl rfl rfl (cOf Tryz.func144 rfl (by kernel_rfl)) (fun G hG hd => outNat_pc z.natAbs hz) (fun _ _ _ h k => RN.mono h k) ?_; rotate_left
 rw [e1]
 refine' DJ.call rfl rfl rfl rfl rfl (cOf Tryz.func90 rfl (by kernel_rfl)) (fun G hG hd => refI_pc (decide (z < 0)) (hd.head (by kernel_rfl))) (fun _ _ _ h k => RI.mono h k) ?_; rotate_left
 (refine DJ.nil (fun G hG hF => ?_); (case hS => rfl); (case hS2 => rfl))
 obtain ⟨⟨ra, rl, rc, hr, h1⟩, _⟩ := hF
 rw [sg_dec] at hr h1
 rw [hr]
 (try refine RUN ?_)
 exact ⟨ra, rl, rc, rfl, h1⟩
theorem in_pc {H : Hp} {v : Value} {q : Rat} (h : RQ H v q) (hq : rq q) : PC Tryz.prog 25 #[v] H fun r _ => r = fracV q := by
 obtain ⟨sa, sl, sc, ta, tl, tc, rfl, hs, ht⟩ := id h
 have hn := hq.num
 have hd' := hq.den
 have hf := from_pv false q.den (Nat.le_trans hd' (by omega))
 rw [show sg false q.den = (q.den : Int) from rfl] at hf
 have hm := make_pv q.num (q.den : Int) (Nat.le_trans hn (by omega)) (Nat.le_trans hd' (by omega)) (by have := q.den_nz; omega)
 rw [if_neg (by omega), Int.natAbs_natCast, Rat.mkRat_self] at hm
 refine PC.body Tryz.tab_ok Tryz.func25 rfl (by kernel_rfl) Tryz.ntmps25 rfl rfl ?_
 (try refine RUN ?_)
 apply EV.drawn 14 (by kernel_rfl) (by kernel_rfl); intro xv yw
 (repeat (first | refine' DV (h := ?_) | refine' DA (h := ?_) | refine' DK0 (h := ?_) | (refine' DJ.setb Tryz.tab_ok rfl rfl rfl rfl rfl rfl rfl rfl rfl rfl rfl ?_; rotate_left) | refine' DS (h := ?_)))
 refine' DJ.callS rfl rfl rfl rfl rfl (cOf Tryz.func104 rfl (by kernel_rfl)) (fun G hG hd => intH_pc (RQ.rnum (RN.mono hs hG)) hn) ?_; rotate_left
 (repeat (first | refine' DV (h := ?_) | refine' DA (h := ?_) | refine' DK0 (h := ?_) | (refine' DJ.setb Tryz.tab_ok rfl rfl rfl rfl rfl rfl rfl rfl rfl rfl rfl ?_; rotate_left) | refine' DS (h := ?_)))
 refine' DJ.callS rfl rfl rfl rfl rfl (cOf Tryz.func105 rfl (by kernel_rfl)) (fun G hG hd => refNatH_pc (RN.mono ht hG) hd') ?_; rotate_left
 (repeat (first | refine' DV (h := ?_) | refine' DA (h := ?_) | refine' DK0 (h := ?_) | (refine' DJ.setb Tryz.tab_ok rfl rfl rfl rfl rfl rfl rfl rfl rfl rfl rfl ?_; rotate_left) | (refine' DC (hf) (h := ?_); rotate_left) | (refine' DC (hm) (h := ?_); rotate_left) | refine' DS (h := ?_)))
 (refine DJ.nil (fun G hG hF => ?_); (case hS => rfl); (case hS2 => rfl))
 (try refine RUN ?_)
 rfl
theorem out_pc {H : Hp} (q : Rat) (hq : rq q) : PC Tryz.prog 101 #[fracV q] H fun r H' => RQ H' r q := by
 have hn := hq.num
 have hd' := hq.den
 refine PC.body Tryz.tab_ok Tryz.func101 rfl (by kernel_rfl) Tryz.ntmps101 rfl rfl ?_
 (try refine RUN ?_)
 apply EV.drawn 6 (by kernel_rfl) (by kernel_rfl); intro xv yw
 (repeat (first | refine' DV (h := ?_) | refine' DA (h := ?_) | refine' DK0 (h := ?_) | (refine' DJ.setb Tryz.tab_ok rfl rfl rfl rfl rfl rfl rfl rfl rfl rfl rfl ?_; rotate_left) | (refine' DC (num_pv q) (h := ?_); rotate_left) | (refine' DC (den_pv q (Nat.le_trans hd' (by omega))) (h := ?_); rotate_left) | refine' DS (h := ?_)))
 refine' DJ.call rfl rfl rfl rfl rfl (cOf Tryz.func64 rfl (by kernel_rfl)) (fun G hG hd => outInt_pc q.num hn) (fun _ _ _ h k => RI.mono h k) ?_; rotate_left
 (repeat (first | refine' DV (h := ?_) | refine' DA (h := ?_) | refine' DK0 (h := ?_) | (refine' DJ.setb Tryz.tab_ok rfl rfl rfl rfl rfl rfl rfl rfl rfl rfl rfl ?_; rotate_left) | (refine' DC (num_pv q) (h := ?_); rotate_left) | (refine' DC (den_pv q (Nat.le_trans hd' (by omega))) (h := ?_); rotate_left) | refine' DS (h := ?_)))
 refine' DJ.call rfl rfl rfl rfl rfl (cOf Tryz.func144 rfl (by kernel_rfl)) (fun G hG hd => outNat_pc q.den hd') (fun _ _ _ h k => RN.mono h k) ?_; rotate_left
 (refine DJ.nil (fun G hG hF => ?_); (case hS => rfl); (case hS2 => rfl))
 obtain ⟨hN, ⟨ra, rl, rc, hr, h1⟩, _⟩ := hF
 obtain ⟨xa, xc, hx⟩ := SlC.val hN
 rw [hx] at hN
 rw [hx, hr]
 (try refine RUN ?_)
 exact ⟨ra, rl, rc, xa, _, xc, rfl, h1, hN⟩
theorem argsK_vals {α : Type} {env : Env} : ∀ {l : List Operand} {k : List Value → Option α} {r : α}, argsK env l k = some r → ∃ vs, k vs = some r ∧ ∀ ev : Operand → Value, (∀ y x, y ∈ l → env.op y = some (.v x) → ev y = x) → l.map ev = vs
 | [], k, r, h => ⟨[], h, fun _ _ => rfl⟩
 | x :: l, k, r, h => by
  unfold argsK at h
  split at h
  ·rename_i v hv
   obtain ⟨vs, h1, h2⟩ := argsK_vals h
   exact ⟨v :: vs, h1, fun ev he => by rw [List.map_cons, he x v (by simp) hv, h2 ev fun y x hy => he y x (by simp [hy])]⟩
  ·cases h
section
variable {P : Program} {n : Nat} {ops : Array Oper} {o : Oper} {rest : List Oper} {env : Env} {bx : Bxs} {H : Hs} {Q : EQ} {τ : Tab} {d : Nat}
theorem EVL.buildArr {T : TypeId} {parts : Array (Nat × Operand)} (ho : o.op = .build T parts) (hw : wantB ops env o = some true) (hd : o.dst = some d) (hn : Nat.blt d n = true) {vs : List Value} (ha : argsK env (parts.toList.map (·.2)) some = some vs) {cs : List Value}
  (hb : P.built T ((parts.toList.map (·.1)).zip vs) = some cs.toArray) (h : EVL P n ops rest ((d, .v (.agg cs.toArray)) :: env) bx H Q) : EVL P n ops (o :: rest) env bx H Q := by
 refine EVL.gen hw hd hn (fun ev W he => ?_) h
 obtain ⟨vs', e1, h2⟩ := argsK_vals ha
 cases e1
 have h3 := h2 ev fun y x hy => he y x (by rw [ho]; simpa [Op.operands] using hy)
 have h4 : ((parts.map fun (i, x) => (i, ev x)) : Array (Nat × Value)).toList = (parts.toList.map (·.1)).zip vs := by
  rw [← h3, Array.toList_map]
  generalize parts.toList = l
  induction l with
  | nil => rfl
  | cons p l ih => simp only [List.map_cons, List.zip_cons_cons, ih]
 have := run_build (P := P) W T (parts.map fun (i, x) => (i, ev x)) cs.toArray (by rw [h4]; exact hb)
 unfold execOp
 rw [ho]
 simp [this]
theorem EVL.indexArr (hτ : TabOk P τ) {T e : TypeId} {x y : Operand} (ho : o.op = .index T x y) (hw : wantB ops env o = some true) (hd : o.dst = some d) (hn : Nat.blt d n = true) {len : Nat} (hu : P.underlying T = some (.array len e)) {te : TE} (ht : τ.get e = some te) (hag : te.agg = false) (hsz : te.size = 1)
  {cs : List Value} (hx : env.op x = some (.v (.agg cs.toArray))) {k : IntKind} {z : Int} (hy : env.op y = some (.v (.int k z))) (j : Nat) (hz : z = j) (hj : j < len) {v : Value} (hc : cs[j]? = some v)
  (h : EVL P n ops rest ((d, .v v) :: env) bx H Q) : EVL P n ops (o :: rest) env bx H Q := by
 refine EVL.gen hw hd hn (fun ev W he => ?_) h
 have e1 := he x _ (by rw [ho]; simp [Op.operands]) hx
 have e2 := he y _ (by rw [ho]; simp [Op.operands]) hy
 subst hz
 have hp : (part e cs.toArray j).run P W = .ok v W := by simp [part, (hτ.get ht).agg, hag, hc]
 unfold execOp
 simp only [ho, e1, e2, Instr.index, asIntOf, Sem.run_bind, Sem.run_pure, Result.andThen_ok, run_underlying hu]
 rw [if_pos ⟨by omega, by omega⟩]
 simp only [Sem.run_bind, (hτ.get ht).size, Result.andThen_ok, Int.toNat_natCast, hsz, Nat.mul_one, hp]
end
theorem refCmpN_pc {H : Hp} {u v : Value} {a b : Nat} (hu : RN H u a) (hv : RN H v b) (ha : rsm a) : PC Tryz.prog 102 #[u, v] H fun r _ => r = .int .i64 (ordN a b) := by
 have la := ha.len
 have := refCmpL_pc hu hv (dig_norm B32_two _) (dig_norm B32_two _) (by omega)
 rwa [dig_val B32_two, dig_val B32_two] at this
theorem ordN_eqb (a b : Nat) : (ordN a b == 0) = decide (a = b) := by
 unfold ordN
 rcases Nat.lt_trichotomy a b with h | h | h
 ·rw [if_pos h, decide_eq_false (by omega)]; rfl
 ·rw [if_neg (by omega), if_neg (by omega), decide_eq_true h]; rfl
 ·rw [if_neg (by omega), if_pos h, decide_eq_false (by omega)]; rfl
theorem same_pc {H : Hp} {w : Value} {p q : Rat} (hw : RQ H w q) (hp : rq p) (hq : rq q) : PC Tryz.prog 23 #[fracV p, w] H fun r _ => r = .bool (decide (p = q)) := by
 obtain ⟨sa, sl, sc, ta, tl, tc, rfl, hs, ht⟩ := id hw
 have hl : (tl : Int) ≠ 0 := by
  have h1 := SlN.cap ht
  have h2 := dig_ne_nil B32_two q.den_nz
  have h3 := List.length_pos_iff.2 h2
  omega
 refine PC.body Tryz.tab_ok Tryz.func23 rfl (by kernel_rfl) Tryz.ntmps23 rfl rfl ?_
 (try refine RUN ?_)
 refine EVL.call rfl rfl rfl rfl rfl (out_pc p hp) ?_
 rintro r G ⟨sa', sl', sc', ta', tl', tc', rfl, hs', ht'⟩ hG
 have c1 := refCmpN_pc hs' (RN.mono hs hG) hp.num
 have c2 := refCmpN_pc ht' (RN.mono ht hG) hp.den
 (try refine RUN ?_)
 rw [show ((tl : Int) == 0) = false by simpa using hl]
 repeat (first | refine RUN ?_ | refine CV (c1) ?_ | refine CE (c1) ?_)
 rw [ordN_eqb]
 by_cases h1 : p.num.natAbs = q.num.natAbs
 ·rw [decide_eq_true h1]
  (try refine RUN ?_)
  refine EVL.eqb rfl rfl rfl rfl rfl rfl (by kernel_rfl) ?_
  by_cases h2 : decide (p.num < 0) = decide (q.num < 0)
  ·rw [show (decide (p.num < 0) == decide (q.num < 0)) = true by simp [h2]]
   repeat (first | refine RUN ?_ | refine CV (c2) ?_ | refine CE (c2) ?_)
   rw [ordN_eqb]
   congr 1
   have hn : p.num = q.num := by
    rw [decide_eq_decide] at h2; omega
   by_cases h3 : p.den = q.den
   ·rw [decide_eq_true h3, decide_eq_true (Rat.ext hn h3)]
   ·rw [decide_eq_false h3, decide_eq_false (fun e => h3 (by rw [e]))]
  ·rw [show (decide (p.num < 0) == decide (q.num < 0)) = false by simpa using h2]
   (try refine RUN ?_)
   rw [decide_eq_false (fun e => h2 (by rw [e]))]
 ·rw [decide_eq_false h1]
  (try refine RUN ?_)
  rw [decide_eq_false (fun e => h1 (by rw [e]))]
def rDen (j : Nat) : Int := [1, 1, 1, 2, 3, 4].getD j 1
def rNum (z : Int) : Rat := Rat.divInt (z % 41 - 20) (rDen (z.tdiv 41 % 6).toNat)
theorem rDen_range (j : Nat) : 1 ≤ rDen j ∧ rDen j ≤ 4 := by
 unfold rDen
 rcases j with _ | _ | _ | _ | _ | _ | j <;> simp [List.getD_eq_getElem?_getD]
theorem r_pc {H : Hp} (z : Int) (hz : -9223372036854775808 ≤ z ∧ z < 9223372036854775808) : PC Tryz.prog 86 #[.int .i64 z] H fun r H' => RQ H' r (rNum z) := by
 have hq : -9223372036854775808 ≤ z.tdiv 41 ∧ z.tdiv 41 < 9223372036854775808 := by
  by_cases h : 0 ≤ z
  ·rw [Int.tdiv_eq_ediv_of_nonneg h]; omega
  ·have e : z.tdiv 41 = -((-z) / 41) := by rw [← Int.tdiv_eq_ediv_of_nonneg (by omega), Int.neg_tdiv, Int.neg_neg]
   rw [e]; omega
 have hqw : IntKind.i64.wrap (z.tdiv 41) = z.tdiv 41 := by rw [IntKind.wrap_i64]; omega
 have h1 := pick_pv z 41 hz (by omega) (by omega)
 have h2 := pick_pv (z.tdiv 41) 6 hq (by omega) (by omega)
 have m1 := Int.emod_nonneg z (show (41 : Int) ≠ 0 by omega)
 have m2 := Int.emod_lt_of_pos z (show (0 : Int) < 41 by omega)
 obtain ⟨j, hj⟩ := Int.eq_ofNat_of_zero_le (Int.emod_nonneg (z.tdiv 41) (show (6 : Int) ≠ 0 by omega))
 have m3 := Int.emod_lt_of_pos (z.tdiv 41) (show (0 : Int) < 6 by omega)
 have hsub : IntKind.i64.wrap (z % 41 - 20) = z % 41 - 20 := by rw [IntKind.wrap_i64]; omega
 have hrd := rDen_range j
 have hrn : rNum z = Rat.divInt (z % 41 - 20) (rDen j) := by unfold rNum; rw [hj]; rfl
 rw [hrn]
 have hidx : ([.int .i64 1, .int .i64 1, .int .i64 1, .int .i64 2, .int .i64 3, .int .i64 4] : List Value)[j]? = some (.int .i64 (rDen j)) := by
  have hj6 : j < 6 := by omega
  rcases j with _ | _ | _ | _ | _ | _ | j <;> first | rfl | omega
 have ho := fun G : Hp => refOver_pc (H := G) (z % 41 - 20) (rDen j) (by omega) (by omega) (by omega) (by omega) (by omega)
 rw [hj] at h2
 refine PC.body Tryz.tab_ok Tryz.func86 rfl (by kernel_rfl) Tryz.ntmps86 rfl rfl ?_
 repeat (first | refine RUN ?_ | refine CV (h1) ?_ | refine CE (h1) ?_)
 rw [hsub]
 refine EVL.buildArr rfl rfl rfl rfl rfl (cs := [.int .i64 1, .int .i64 1, .int .i64 1, .int .i64 2, .int .i64 3, .int .i64 4]) (by kernel_rfl) ?_
 (try refine RUN ?_)
 rw [hqw]
 repeat (first | refine RUN ?_ | refine CV (h2) ?_ | refine CE (h2) ?_)
 refine EVL.indexArr (e := 2) (len := 6) Tryz.tab_ok rfl rfl rfl rfl (by kernel_rfl) rfl rfl rfl rfl rfl j rfl (show j < 6 by omega) hidx ?_
 refine EVL.call rfl rfl rfl rfl rfl (ho H) ?_
 rintro r G ⟨ra, rl, rc, xa, xl, xc, rfl, hn, hd⟩ hG
 (try refine RUN ?_)
 exact ⟨ra, rl, rc, xa, xl, xc, rfl, hn, hd⟩
theorem ht_divInt (n d : Int) (h : d ≠ 0) : ht (Rat.divInt n d) ≤ max (bl n.natAbs) (bl d.natAbs) := by
 rw [divInt_mk n d h]
 refine Nat.le_trans (ht_mk _ _ (by omega)) ?_
 have : (if d < 0 then -n else n).natAbs = n.natAbs := by split <;> simp
 rw [this]; exact Nat.le_refl _
theorem ht_rNum (z : Int) : ht (rNum z) ≤ 5 := by
 unfold rNum
 have hrd := rDen_range (z.tdiv 41 % 6).toNat
 have m1 := Int.emod_nonneg z (show (41 : Int) ≠ 0 by omega)
 have m2 := Int.emod_lt_of_pos z (show (0 : Int) < 41 by omega)
 refine Nat.le_trans (ht_divInt _ _ (by omega)) (Nat.max_le.2 ⟨bl_le (by omega), bl_le (by omega)⟩)
theorem bl_few {l : List Nat} (hD : Dig 256 l) : bl (val 256 (l.take 12).reverse) ≤ 96 := by
 apply bl_le
 have h1 := val_lt (hD.take 12).rev
 have h2 : (l.take 12).reverse.length ≤ 12 := by rw [List.length_reverse, List.length_take]; omega
 calc val 256 (l.take 12).reverse < 256 ^ (l.take 12).reverse.length := h1
  _ ≤ 256 ^ 12 := Nat.pow_le_pow_right (by decide) h2
  _ = 2 ^ 96 := by decide
structure RawQ (H : Hp) (v : Value) : Prop where
 ex : ∃ (z : Int) (sa sb : Value) (la lb : List Nat) (neg : Bool), v = .agg #[.int .i64 z, sa, sb, .bool neg] ∧ (-9223372036854775808 ≤ z ∧ z < 9223372036854775808) ∧ SlN n8 H sa la ∧ SlN n8 H sb lb ∧ Dig 256 la ∧ Dig 256 lb
theorem RawQ.mono {H G : Hp} {v : Value} (h : RawQ H v) (k : H.Le G) : RawQ G v := by
 obtain ⟨z, sa, sb, la, lb, neg, e, hz, h1, h2, h3⟩ := h.ex
 exact ⟨z, sa, sb, la, lb, neg, e, hz, SlN.mono h1 k, SlN.mono h2 k, h3⟩
theorem one_pc {H : Hp} {v : Value} (h : RawQ H v) : PC Tryz.prog 12 #[v] H fun r H' => ∃ q, ht q ≤ 200 ∧ RQ H' r q := by
 obtain ⟨z, sa, sb, la, lb, neg, rfl, hz, ha, hb, hDa, hDb⟩ := h.ex
 obtain ⟨aa, ca, rfl⟩ := SlC.val ha
 obtain ⟨ab, cb, rfl⟩ := SlC.val hb
 refine PC.body Tryz.tab_ok Tryz.func12 rfl (by kernel_rfl) Tryz.ntmps12 rfl rfl ?_
 (try refine RUN ?_)
 refine EV.cond rfl (fun h0 => ?_) (fun h0 => ?_)
 ·simp only [decide_eq_true_eq, decide_eq_false_iff_not, Int.not_lt, Int.not_le, beq_iff_eq, beq_eq_false_iff_ne, bne_iff_ne, bne_eq_false_iff_eq, ne_eq, Int.ofNat_lt, Int.ofNat_le, Int.natCast_inj, ge_iff_le, gt_iff_lt, Decidable.not_not, Bool.not_eq_true', Bool.not_eq_false', Bool.not_eq_eq_eq_not, Bool.not_true, Bool.not_false] at h0
  (try refine RUN ?_)
  refine EVL.call rfl rfl rfl rfl rfl (r_pc z hz) ?_
  rintro r G ⟨ra, rl, rc, xa, xl, xc, rfl, hn, hd⟩ hG
  (try refine RUN ?_)
  exact ⟨rNum z, Nat.le_trans (ht_rNum z) (by omega), ra, rl, rc, xa, xl, xc, rfl, hn, hd⟩
 ·simp only [decide_eq_true_eq, decide_eq_false_iff_not, Int.not_lt, Int.not_le, beq_iff_eq, beq_eq_false_iff_ne, bne_iff_ne, bne_eq_false_iff_eq, ne_eq, Int.ofNat_lt, Int.ofNat_le, Int.natCast_inj, ge_iff_le, gt_iff_lt, Decidable.not_not, Bool.not_eq_true', Bool.not_eq_false', Bool.not_eq_eq_eq_not, Bool.not_true, Bool.not_false] at h0
  (try refine RUN ?_)
  refine EVL.call rfl rfl rfl rfl rfl (few_pc hb 12 (by omega)) ?_
  rintro s G1 hs hG1
  (try refine RUN ?_)
  refine EVL.call rfl rfl rfl rfl rfl (refFrom_pc hs (hDb.take 12) (by rw [List.length_take]; omega)) ?_
  rintro t G2 ht hG2
  have hbl := bl_few hDb
  generalize val 256 (lb.take 12).reverse = D at *
  have hlz : (dig B32 D).length = 0 ↔ D = 0 := ⟨dig_len_zero B32_two, fun e => by rw [e, dig_zero]; rfl⟩
  have hcp := fun a l c (e : t = .slice a l c) => SlN.cap (e ▸ ht)
  obtain ⟨ta, tc, hte⟩ := SlC.val ht
  generalize hle : (dig B32 D).length = l at *
  subst hte
  (try refine RUN ?_)
  refine EV.meetK (ι := Value × Nat) [1, 2] [1, 2] (fun i => [(3, .v i.1)]) (fun _ => []) (fun _ => []) (fun i G => G2.Le G ∧ RN G i.1 i.2 ∧ i.2 ≠ 0 ∧ bl i.2 ≤ 96) rfl rfl (fun _ => rfl) ?_ ?_
  ·refine EV.cond rfl (fun hz0 => ?_) (fun hz0 => ?_)
   ·simp only [decide_eq_true_eq, decide_eq_false_iff_not, Int.not_lt, Int.not_le, beq_iff_eq, beq_eq_false_iff_ne, bne_iff_ne, bne_eq_false_iff_eq, ne_eq, Int.ofNat_lt, Int.ofNat_le, Int.natCast_inj, ge_iff_le, gt_iff_lt, Decidable.not_not, Bool.not_eq_true', Bool.not_eq_false', Bool.not_eq_eq_eq_not, Bool.not_true, Bool.not_false] at hz0
    (try refine RUN ?_)
    refine EVL.call rfl rfl rfl rfl rfl (refNatOf_pc 1 (by decide) G2) ?_
    rintro u G3 hu hG3
    (try refine RUN ?_)
    exact ⟨(u, 1), ⟨rfl, trivial⟩, (by repeat (first | exact trivial | refine And.intro rfl ?_)), trivial, (by repeat (first | exact trivial | refine And.intro rfl ?_)), rfl, hG3, hu, Nat.one_ne_zero, by rw [bl_one']; omega⟩
   ·simp only [decide_eq_true_eq, decide_eq_false_iff_not, Int.not_lt, Int.not_le, beq_iff_eq, beq_eq_false_iff_ne, bne_iff_ne, bne_eq_false_iff_eq, ne_eq, Int.ofNat_lt, Int.ofNat_le, Int.natCast_inj, ge_iff_le, gt_iff_lt, Decidable.not_not, Bool.not_eq_true', Bool.not_eq_false', Bool.not_eq_eq_eq_not, Bool.not_true, Bool.not_false] at hz0
    (try refine RUN ?_)
    exact ⟨(_, D), ⟨rfl, trivial⟩, (by repeat (first | exact trivial | refine And.intro rfl ?_)), trivial, (by repeat (first | exact trivial | refine And.intro rfl ?_)), rfl, Hp.Le.refl _, ht, fun e => hz0 (by have := hlz.2 e; omega), hbl⟩
  ·rintro ⟨u, D'⟩ G3 ⟨hG3, hu, hD0, hDb'⟩
   dsimp only at hu hD0 hDb'
   have h03 : H.Le G3 := (hG1.trans hG2).trans hG3
   have hbA := bl_few hDa
   (try refine RUN ?_)
   apply EV.drawn 10 (by kernel_rfl) (by kernel_rfl); intro xv yw
   (repeat (first | refine' DV (h := ?_) | refine' DA (h := ?_) | refine' DK0 (h := ?_) | (refine' DJ.setb Tryz.tab_ok rfl rfl rfl rfl rfl rfl rfl rfl rfl rfl rfl ?_; rotate_left) | refine' DS (h := ?_)))
   refine' DJ.call rfl rfl rfl rfl rfl (cOf Tryz.func88 rfl (by kernel_rfl)) (fun G hG hd => few_pc (SlN.mono ha (h03.trans hG)) 12 (by omega)) (fun _ _ _ h k => SlN.mono h k) ?_; rotate_left
   refine' DJ.call rfl rfl rfl rfl rfl (cOf Tryz.func87 rfl (by kernel_rfl)) (fun G hG hd => refFrom_pc (hd.head (by kernel_rfl)) (hDa.take 12) (by rw [List.length_take]; omega)) (fun _ _ _ h k => RN.mono h k) ?_; rotate_left
   refine' DJ.call rfl rfl rfl rfl rfl (cOf Tryz.func90 rfl (by kernel_rfl)) (fun G hG hd => refI_pc neg (hd.head (by kernel_rfl))) (fun _ _ _ h k => RI.mono h k) ?_; rotate_left
   (repeat (first | refine' DV (h := ?_) | refine' DA (h := ?_) | refine' DK0 (h := ?_) | (refine' DJ.setb Tryz.tab_ok rfl rfl rfl rfl rfl rfl rfl rfl rfl rfl rfl ?_; rotate_left) | refine' DS (h := ?_)))
   refine' DJ.call rfl rfl rfl rfl rfl (cOf Tryz.func90 rfl (by kernel_rfl)) (fun G hG hd => refI_pc false (RN.mono hu hG)) (fun _ _ _ h k => RI.mono h k) ?_; rotate_left
   refine' DJ.call rfl rfl rfl rfl rfl (cOf Tryz.func89 rfl (by kernel_rfl)) (fun G hG hd => refMake_pc (hd.tail.head (by kernel_rfl)) (hd.head (by kernel_rfl)) (by rw [sg_natAbs]; exact Nat.le_trans hbA (by omega)) (by rw [sg_natAbs]; exact Nat.le_trans hDb' (by omega)) (by show ((D' : Nat) : Int) ≠ 0; omega)) (fun _ _ _ h k => RQ.mono h k) ?_; rotate_left
   (refine DJ.nil (fun G5 hG5 hF5 => ?_); (case hS => rfl); (case hS2 => rfl))
   obtain ⟨⟨ra, rl, rc, xa, xl, xc, hr, h1, h2⟩, _⟩ := hF5
   rw [hr]
   (try refine RUN ?_)
   refine ⟨_, ?_, ra, rl, rc, xa, xl, xc, rfl, h1, h2⟩
   refine Nat.le_trans (ht_divInt _ _ (by show ((D' : Nat) : Int) ≠ 0; omega)) ?_
   rw [sg_natAbs, sg_natAbs]
   omega
def kb (z : Int) : Nat := (max 0 (min z 256)).toNat
theorem same_self {H : Hp} {w : Value} {p : Rat} (hw : RQ H w p) (hp : rq p) : PC Tryz.prog 23 #[fracV p, w] H fun r _ => r = .bool true := by
 have := same_pc hw hp hp
 rwa [decide_eq_true rfl] at this
theorem rq_small {q : Rat} {k : Nat} (h : ht q ≤ k) (hk : k ≤ 100000000) : rq q := Nat.le_trans h hk
theorem rat_num_zero {q : Rat} : q = 0 ↔ q.num = 0 := Rat.num_eq_zero.symm
theorem absR (a : Rat) : frV (a.num.natAbs : Int) (dk a.den) = fracV (if a.num < 0 then -a else a) := by
 unfold fracV
 split
 ·rename_i h
  rw [Rat.neg_num, Rat.neg_den]
  congr 1; omega
 ·rename_i h
  congr 1; omega
theorem ht_absR (a : Rat) : ht (if a.num < 0 then -a else a) = ht a := by split; exact ht_neg a; rfl
set_option maxHeartbeats 4000000 in
theorem sums_pc {H : Hp} {u v : Value} (hu : RawQ H u) (hv : RawQ H v) (hkn : PV Tryz.prog 22 #[] (.bool true)) : PC Tryz.prog 6 #[u, v] H fun r _ => r = .bool true := by
 obtain ⟨z1, sa1, sb1, la1, lb1, n1, rfl, _, ha1, hb1, _⟩ := hu.ex
 obtain ⟨z2, sa2, sb2, la2, lb2, n2, rfl, _, ha2, hb2, _⟩ := hv.ex
 obtain ⟨a1, c1, rfl⟩ := SlC.val ha1
 obtain ⟨a2, c2, rfl⟩ := SlC.val hb1
 obtain ⟨a3, c3, rfl⟩ := SlC.val ha2
 obtain ⟨a4, c4, rfl⟩ := SlC.val hb2
 clear ha1 hb1 ha2 hb2
 refine PC.body Tryz.tab_ok Tryz.func6 rfl (by kernel_rfl) Tryz.ntmps6 rfl rfl ?_
 (try refine RUN ?_)
 refine EVL.call rfl rfl rfl rfl rfl (one_pc hu) ?_
 rintro r G1 ⟨p, hp, hP⟩ hG1
 obtain ⟨pa, pl, pc, pa', pl', pc', rfl, _, _⟩ := id hP
 (try refine RUN ?_)
 refine EVL.call rfl rfl rfl rfl rfl (one_pc (hv.mono hG1)) ?_
 rintro r G2 ⟨q, hq, hQ⟩ hG2
 obtain ⟨qa, ql, qc, qa', ql', qc', rfl, _, _⟩ := id hQ
 have hp8 : rq p := rq_small hp (by omega)
 have hq8 : rq q := rq_small hq (by omega)
 have hP2 := hP.mono hG2
 repeat (first | refine RUN ?_ | refine CV (in_pc hP2 hp8) ?_ | refine CE (in_pc hP2 hp8) ?_)
 repeat (first | refine RUN ?_ | refine CV (in_pc hQ hq8) ?_ | refine CE (in_pc hQ hq8) ?_)
 have hsum : rq (p + q) := rq_small (Nat.le_trans (ht_add p q) (Nat.add_le_add_right (Nat.add_le_add hp hq) 1)) (by omega)
 have hdif : rq (p - q) := rq_small (Nat.le_trans (ht_sub p q) (Nat.add_le_add_right (Nat.add_le_add hp hq) 1)) (by omega)
 have hprd : rq (p * q) := rq_small (Nat.le_trans (ht_mul p q) (Nat.add_le_add hp hq)) (by omega)
 have hneg : rq (-p) := rq_neg hp8
 have habs : rq (if p.num < 0 then -p else p) := by unfold rq; rw [ht_absR]; exact hp8
 have hap := abs_pv p (Nat.le_trans hp8.num (by omega))
 rw [absR] at hap
 have hsg := sign_pv p (Nat.le_trans hp8.num (by omega))
 have hng := neg_pv p (Nat.le_trans hp8.num (by omega))
 by_cases hq0 : q = 0
 ·have hdz := div_zero_pv p
  rw [← hq0] at hdz
  have hqs : (q.num.sign != 0) = false := by rw [hq0]; rfl
  have hs0 := sign_pv q (Nat.le_trans hq8.num (by omega))
  repeat (first | refine RUN ?_ | refine CV (hdz) ?_ | refine CE (hdz) ?_)
  apply EV.drawn 70 (by kernel_rfl) (by kernel_rfl); intro xv yw
  (repeat (first | refine' DV (h := ?_) | refine' DA (h := ?_) | refine' DK0 (h := ?_) | (refine' DJ.setb Tryz.tab_ok rfl rfl rfl rfl rfl rfl rfl rfl rfl rfl rfl ?_; rotate_left) | (refine' DC (hkn) (h := ?_); rotate_left) | (refine' DC (add_pv p q hp8 hq8) (h := ?_); rotate_left) | refine' DS (h := ?_)))
  refine' DJ.call rfl rfl rfl rfl rfl (cOf Tryz.func46 rfl (by kernel_rfl)) (fun G hG hd => refAdd_pc (hP2.mono hG) (hQ.mono hG) hp8 hq8) (fun _ _ _ h k => RQ.mono h k) ?_; rotate_left
  refine' DJ.callS rfl rfl rfl rfl rfl (cOf Tryz.func23 rfl (by kernel_rfl)) (fun G hG hd => same_self (hd.head (by kernel_rfl)) hsum) ?_; rotate_left
  (repeat (first | refine' DV (h := ?_) | refine' DA (h := ?_) | refine' DK0 (h := ?_) | (refine' DJ.setb Tryz.tab_ok rfl rfl rfl rfl rfl rfl rfl rfl rfl rfl rfl ?_; rotate_left) | (refine' DC (sub_pv p q hp8 hq8) (h := ?_); rotate_left) | refine' DS (h := ?_)))
  refine' DJ.call rfl rfl rfl rfl rfl (cOf Tryz.func47 rfl (by kernel_rfl)) (fun G hG hd => refSub_pc (hP2.mono hG) (hQ.mono hG) hp8 hq8) (fun _ _ _ h k => RQ.mono h k) ?_; rotate_left
  refine' DJ.callS rfl rfl rfl rfl rfl (cOf Tryz.func23 rfl (by kernel_rfl)) (fun G hG hd => same_self (hd.head (by kernel_rfl)) hdif) ?_; rotate_left
  (repeat (first | refine' DV (h := ?_) | refine' DA (h := ?_) | refine' DK0 (h := ?_) | (refine' DJ.setb Tryz.tab_ok rfl rfl rfl rfl rfl rfl rfl rfl rfl rfl rfl ?_; rotate_left) | (refine' DC (mul_pv p q hp8 hq8) (h := ?_); rotate_left) | refine' DS (h := ?_)))
  refine' DJ.call rfl rfl rfl rfl rfl (cOf Tryz.func48 rfl (by kernel_rfl)) (fun G hG hd => refMulQ_pc (hP2.mono hG) (hQ.mono hG) hp8 hq8) (fun _ _ _ h k => RQ.mono h k) ?_; rotate_left
  refine' DJ.callS rfl rfl rfl rfl rfl (cOf Tryz.func23 rfl (by kernel_rfl)) (fun G hG hd => same_self (hd.head (by kernel_rfl)) hprd) ?_; rotate_left
  (repeat (first | refine' DV (h := ?_) | refine' DA (h := ?_) | refine' DK0 (h := ?_) | (refine' DJ.setb Tryz.tab_ok rfl rfl rfl rfl rfl rfl rfl rfl rfl rfl rfl ?_; rotate_left) | (refine' DC (cmp_pv p q hp8 hq8) (h := ?_); rotate_left) | refine' DS (h := ?_)))
  refine' DJ.callS rfl rfl rfl rfl rfl (cOf Tryz.func49 rfl (by kernel_rfl)) (fun G hG hd => refCmp_pc (hP2.mono hG) (hQ.mono hG) hp8 hq8) ?_; rotate_left
  refine' DJ.val Tryz.tab_ok rfl rfl rfl rfl rfl ?_; rotate_left
  rw [show (ordR p q != ordR p q) = false by simp]
  (repeat (first | refine' DV (h := ?_) | refine' DA (h := ?_) | refine' DK0 (h := ?_) | (refine' DJ.setb Tryz.tab_ok rfl rfl rfl rfl rfl rfl rfl rfl rfl rfl rfl ?_; rotate_left) | (refine' DC (hsg) (h := ?_); rotate_left) | refine' DS (h := ?_)))
  refine' DJ.callS rfl rfl rfl rfl rfl (cOf Tryz.func50 rfl (by kernel_rfl)) (fun G hG hd => refSign_pc (hP2.mono hG)) ?_; rotate_left
  refine' DJ.val Tryz.tab_ok rfl rfl rfl rfl rfl ?_; rotate_left
  rw [show (p.num.sign != p.num.sign) = false by simp]
  (repeat (first | refine' DV (h := ?_) | refine' DA (h := ?_) | refine' DK0 (h := ?_) | (refine' DJ.setb Tryz.tab_ok rfl rfl rfl rfl rfl rfl rfl rfl rfl rfl rfl ?_; rotate_left) | (refine' DC (hng) (h := ?_); rotate_left) | refine' DS (h := ?_)))
  refine' DJ.call rfl rfl rfl rfl rfl (cOf Tryz.func51 rfl (by kernel_rfl)) (fun G hG hd => refNeg_pc (hP2.mono hG)) (fun _ _ _ h k => RQ.mono h k) ?_; rotate_left
  refine' DJ.callS rfl rfl rfl rfl rfl (cOf Tryz.func23 rfl (by kernel_rfl)) (fun G hG hd => same_self (hd.head (by kernel_rfl)) hneg) ?_; rotate_left
  (repeat (first | refine' DV (h := ?_) | refine' DA (h := ?_) | refine' DK0 (h := ?_) | (refine' DJ.setb Tryz.tab_ok rfl rfl rfl rfl rfl rfl rfl rfl rfl rfl rfl ?_; rotate_left) | (refine' DC (hap) (h := ?_); rotate_left) | refine' DS (h := ?_)))
  refine' DJ.call rfl rfl rfl rfl rfl (cOf Tryz.func52 rfl (by kernel_rfl)) (fun G hG hd => refAbs_pc (hP2.mono hG)) (fun _ _ _ h k => RQ.mono h k) ?_; rotate_left
  refine' DJ.callS rfl rfl rfl rfl rfl (cOf Tryz.func23 rfl (by kernel_rfl)) (fun G hG hd => same_self (hd.head (by kernel_rfl)) habs) ?_; rotate_left
  (repeat (first | refine' DV (h := ?_) | refine' DA (h := ?_) | refine' DK0 (h := ?_) | (refine' DJ.setb Tryz.tab_ok rfl rfl rfl rfl rfl rfl rfl rfl rfl rfl rfl ?_; rotate_left) | refine' DS (h := ?_)))
  refine' DJ.callS rfl rfl rfl rfl rfl (cOf Tryz.func50 rfl (by kernel_rfl)) (fun G hG hd => refSign_pc (hQ.mono hG)) ?_; rotate_left
  refine' DJ.val Tryz.tab_ok rfl rfl rfl rfl rfl ?_; rotate_left
  rw [hqs]
  refine' DJ.ofVal (ValOk.neb rfl rfl rfl rfl (by kernel_rfl)) rfl rfl rfl ?_; rotate_left
  (repeat (first | refine' DV (h := ?_) | refine' DA (h := ?_) | refine' DK0 (h := ?_) | (refine' DJ.setb Tryz.tab_ok rfl rfl rfl rfl rfl rfl rfl rfl rfl rfl rfl ?_; rotate_left) | refine' DS (h := ?_)))
  (refine DJ.nil (fun G4 hG4 hF4 => ?_); (case hS => rfl); (case hS2 => rfl))
  (try refine RUN ?_)
  apply EV.drawn 17 (by kernel_rfl) (by kernel_rfl); intro xv yw
  (repeat (first | refine' DV (h := ?_) | refine' DA (h := ?_) | refine' DK0 (h := ?_) | (refine' DJ.setb Tryz.tab_ok rfl rfl rfl rfl rfl rfl rfl rfl rfl rfl rfl ?_; rotate_left) | (refine' DC (hs0) (h := ?_); rotate_left) | refine' DS (h := ?_)))
  rw [show (q.num.sign == 0) = true by rw [hq0]; rfl]
  (repeat (first | refine' DV (h := ?_) | refine' DA (h := ?_) | refine' DK0 (h := ?_) | (refine' DJ.setb Tryz.tab_ok rfl rfl rfl rfl rfl rfl rfl rfl rfl rfl rfl ?_; rotate_left) | refine' DS (h := ?_)))
  (refine DJ.nil (fun G5 hG5 hF5 => ?_); (case hS => rfl); (case hS2 => rfl))
  (try refine RUN ?_)
  rfl
 ·have hqn : q.num ≠ 0 := fun e => hq0 (rat_num_zero.2 e)
  have hqs : (q.num.sign != 0) = true := by
   simp only [bne_iff_ne, ne_eq, Int.sign_eq_zero_iff_zero]; exact hqn
  have hquo : rq (p / q) := rq_small (Nat.le_trans (ht_div p q) (Nat.add_le_add hp hq)) (by omega)
  repeat (first | refine RUN ?_ | refine CV (div_pv p q hp8 hq8 hq0) ?_ | refine CE (div_pv p q hp8 hq8 hq0) ?_)
  apply EV.drawn 70 (by kernel_rfl) (by kernel_rfl); intro xv yw
  (repeat (first | refine' DV (h := ?_) | refine' DA (h := ?_) | refine' DK0 (h := ?_) | (refine' DJ.setb Tryz.tab_ok rfl rfl rfl rfl rfl rfl rfl rfl rfl rfl rfl ?_; rotate_left) | (refine' DC (hkn) (h := ?_); rotate_left) | (refine' DC (add_pv p q hp8 hq8) (h := ?_); rotate_left) | refine' DS (h := ?_)))
  refine' DJ.call rfl rfl rfl rfl rfl (cOf Tryz.func46 rfl (by kernel_rfl)) (fun G hG hd => refAdd_pc (hP2.mono hG) (hQ.mono hG) hp8 hq8) (fun _ _ _ h k => RQ.mono h k) ?_; rotate_left
  refine' DJ.callS rfl rfl rfl rfl rfl (cOf Tryz.func23 rfl (by kernel_rfl)) (fun G hG hd => same_self (hd.head (by kernel_rfl)) hsum) ?_; rotate_left
  (repeat (first | refine' DV (h := ?_) | refine' DA (h := ?_) | refine' DK0 (h := ?_) | (refine' DJ.setb Tryz.tab_ok rfl rfl rfl rfl rfl rfl rfl rfl rfl rfl rfl ?_; rotate_left) | (refine' DC (sub_pv p q hp8 hq8) (h := ?_); rotate_left) | refine' DS (h := ?_)))
  refine' DJ.call rfl rfl rfl rfl rfl (cOf Tryz.func47 rfl (by kernel_rfl)) (fun G hG hd => refSub_pc (hP2.mono hG) (hQ.mono hG) hp8 hq8) (fun _ _ _ h k => RQ.mono h k) ?_; rotate_left
  refine' DJ.callS rfl rfl rfl rfl rfl (cOf Tryz.func23 rfl (by kernel_rfl)) (fun G hG hd => same_self (hd.head (by kernel_rfl)) hdif) ?_; rotate_left
  (repeat (first | refine' DV (h := ?_) | refine' DA (h := ?_) | refine' DK0 (h := ?_) | (refine' DJ.setb Tryz.tab_ok rfl rfl rfl rfl rfl rfl rfl rfl rfl rfl rfl ?_; rotate_left) | (refine' DC (mul_pv p q hp8 hq8) (h := ?_); rotate_left) | refine' DS (h := ?_)))
  refine' DJ.call rfl rfl rfl rfl rfl (cOf Tryz.func48 rfl (by kernel_rfl)) (fun G hG hd => refMulQ_pc (hP2.mono hG) (hQ.mono hG) hp8 hq8) (fun _ _ _ h k => RQ.mono h k) ?_; rotate_left
  refine' DJ.callS rfl rfl rfl rfl rfl (cOf Tryz.func23 rfl (by kernel_rfl)) (fun G hG hd => same_self (hd.head (by kernel_rfl)) hprd) ?_; rotate_left
  (repeat (first | refine' DV (h := ?_) | refine' DA (h := ?_) | refine' DK0 (h := ?_) | (refine' DJ.setb Tryz.tab_ok rfl rfl rfl rfl rfl rfl rfl rfl rfl rfl rfl ?_; rotate_left) | (refine' DC (cmp_pv p q hp8 hq8) (h := ?_); rotate_left) | refine' DS (h := ?_)))
  refine' DJ.callS rfl rfl rfl rfl rfl (cOf Tryz.func49 rfl (by kernel_rfl)) (fun G hG hd => refCmp_pc (hP2.mono hG) (hQ.mono hG) hp8 hq8) ?_; rotate_left
  refine' DJ.val Tryz.tab_ok rfl rfl rfl rfl rfl ?_; rotate_left
  rw [show (ordR p q != ordR p q) = false by simp]
  (repeat (first | refine' DV (h := ?_) | refine' DA (h := ?_) | refine' DK0 (h := ?_) | (refine' DJ.setb Tryz.tab_ok rfl rfl rfl rfl rfl rfl rfl rfl rfl rfl rfl ?_; rotate_left) | (refine' DC (hsg) (h := ?_); rotate_left) | refine' DS (h := ?_)))
  refine' DJ.callS rfl rfl rfl rfl rfl (cOf Tryz.func50 rfl (by kernel_rfl)) (fun G hG hd => refSign_pc (hP2.mono hG)) ?_; rotate_left
  refine' DJ.val Tryz.tab_ok rfl rfl rfl rfl rfl ?_; rotate_left
  rw [show (p.num.sign != p.num.sign) = false by simp]
  (repeat (first | refine' DV (h := ?_) | refine' DA (h := ?_) | refine' DK0 (h := ?_) | (refine' DJ.setb Tryz.tab_ok rfl rfl rfl rfl rfl rfl rfl rfl rfl rfl rfl ?_; rotate_left) | (refine' DC (hng) (h := ?_); rotate_left) | refine' DS (h := ?_)))
  refine' DJ.call rfl rfl rfl rfl rfl (cOf Tryz.func51 rfl (by kernel_rfl)) (fun G hG hd => refNeg_pc (hP2.mono hG)) (fun _ _ _ h k => RQ.mono h k) ?_; rotate_left
  refine' DJ.callS rfl rfl rfl rfl rfl (cOf Tryz.func23 rfl (by kernel_rfl)) (fun G hG hd => same_self (hd.head (by kernel_rfl)) hneg) ?_; rotate_left
  (repeat (first | refine' DV (h := ?_) | refine' DA (h := ?_) | refine' DK0 (h := ?_) | (refine' DJ.setb Tryz.tab_ok rfl rfl rfl rfl rfl rfl rfl rfl rfl rfl rfl ?_; rotate_left) | (refine' DC (hap) (h := ?_); rotate_left) | refine' DS (h := ?_)))
  refine' DJ.call rfl rfl rfl rfl rfl (cOf Tryz.func52 rfl (by kernel_rfl)) (fun G hG hd => refAbs_pc (hP2.mono hG)) (fun _ _ _ h k => RQ.mono h k) ?_; rotate_left
  refine' DJ.callS rfl rfl rfl rfl rfl (cOf Tryz.func23 rfl (by kernel_rfl)) (fun G hG hd => same_self (hd.head (by kernel_rfl)) habs) ?_; rotate_left
  (repeat (first | refine' DV (h := ?_) | refine' DA (h := ?_) | refine' DK0 (h := ?_) | (refine' DJ.setb Tryz.tab_ok rfl rfl rfl rfl rfl rfl rfl rfl rfl rfl rfl ?_; rotate_left) | refine' DS (h := ?_)))
  refine' DJ.callS rfl rfl rfl rfl rfl (cOf Tryz.func50 rfl (by kernel_rfl)) (fun G hG hd => refSign_pc (hQ.mono hG)) ?_; rotate_left
  refine' DJ.val Tryz.tab_ok rfl rfl rfl rfl rfl ?_; rotate_left
  rw [hqs]
  refine' DJ.ofVal (ValOk.neb rfl rfl rfl rfl (by kernel_rfl)) rfl rfl rfl ?_; rotate_left
  (repeat (first | refine' DV (h := ?_) | refine' DA (h := ?_) | refine' DK0 (h := ?_) | (refine' DJ.setb Tryz.tab_ok rfl rfl rfl rfl rfl rfl rfl rfl rfl rfl rfl ?_; rotate_left) | refine' DS (h := ?_)))
  (refine DJ.nil (fun G4 hG4 hF4 => ?_); (case hS => rfl); (case hS2 => rfl))
  (try refine RUN ?_)
  apply EV.drawn 17 (by kernel_rfl) (by kernel_rfl); intro xv yw
  (repeat (first | refine' DV (h := ?_) | refine' DA (h := ?_) | refine' DK0 (h := ?_) | (refine' DJ.setb Tryz.tab_ok rfl rfl rfl rfl rfl rfl rfl rfl rfl rfl rfl ?_; rotate_left) | refine' DS (h := ?_)))
  refine' DJ.call rfl rfl rfl rfl rfl (cOf Tryz.func53 rfl (by kernel_rfl)) (fun G hG hd => refDivQ_pc ((hP2.mono hG4).mono hG) ((hQ.mono hG4).mono hG) hp8 hq8 hqn) (fun _ _ _ h k => RQ.mono h k) ?_; rotate_left
  refine' DJ.callS rfl rfl rfl rfl rfl (cOf Tryz.func23 rfl (by kernel_rfl)) (fun G hG hd => same_self (hd.head (by kernel_rfl)) hquo) ?_; rotate_left
  (repeat (first | refine' DV (h := ?_) | refine' DA (h := ?_) | refine' DK0 (h := ?_) | (refine' DJ.setb Tryz.tab_ok rfl rfl rfl rfl rfl rfl rfl rfl rfl rfl rfl ?_; rotate_left) | refine' DS (h := ?_)))
  (refine DJ.nil (fun G5 hG5 hF5 => ?_); (case hS => rfl); (case hS2 => rfl))
  (try refine RUN ?_)
  rfl
end Go.Proofs.YtjifapjpgmmcnaaGreatDoor
namespace Go.Proofs.YtjifapjpgmmcnaaGreatDoor
open Go Go.RowKit
theorem laid_gH {P : Program} {l : List (String × DataW Unit)} {W : World} (h : laidMet P l W) {n : String} {zs : List Nat} {g : Nat} {T e : TypeId} (hmem : (n, .agg (zs.map fun (z : Nat) => .lit (.int .u8 z))) ∈ l) (hg : P.globalNamed n = some g) (ht : (P.globals[g]?).map (·.type) = some T)
  (hT : P.underlying T = some (.array zs.length e)) (he : P.underlying e = some (.int .u8)) (hc : P.cellsOf e = 1) (hcT : P.cellsOf T = zs.length) :
  ∃ U fz, W.heap[g]? = some (.cells (zs.map fun (z : Nat) => Value.int .u8 (z : Int)).toArray U fz) := by
 obtain ⟨ps, hl, _⟩ := h
 obtain ⟨p0, g', t, cs, fuel, p, q, hg', ht', hv, hd, _, _⟩ := VM.laid_find hl hmem
 obtain rfl := Option.some.inj (hg.symm.trans hg')
 obtain rfl := Option.some.inj (ht.symm.trans ht')
 obtain ⟨xs, m, _, ex, hcl, hlen, hel⟩ := DataW.trod_array hT hd
 have hb : ∃ U fz, W.heap[g]? = some (.cells cs U fz) := by
  simp only [World.var?, hg, Option.bind_some] at hv
  split at hv
  ·rename_i c U fz hc'; cases hv; exact ⟨U, fz, hc'⟩
  ·cases hv
 obtain ⟨U, fz, hb⟩ := hb
 refine ⟨U, fz, ?_⟩
 rw [hb]
 congr 2
 apply Array.ext'
 rw [hcT] at hcl
 have e3 : (xs.map (·.1)) = zs.map fun (n : Nat) => .lit (.int .u8 n) := (DataW.agg.inj (Prod.mk.inj ex).1).symm
 apply List.ext_getElem?
 intro r
 rcases Nat.lt_or_ge r zs.length with hr | hr
 ·have hE := hel r hr
  rw [hc, Nat.mul_one, List.getElem?_eq_getElem (by omega)] at hE
  obtain ⟨z, e1, e2, _⟩ := DataW.trod_int he hE
  have e4 : (xs.map (·.1))[r]? = (zs.map fun (n : Nat) => (DataW.lit (.int .u8 n) : DataW Unit))[r]? := by rw [e3]
  rw [List.getElem?_map, List.getElem?_map, List.getElem?_eq_getElem (by omega : r < xs.length), List.getElem?_eq_getElem hr, e2] at e4
  simp only [Option.map_some, Option.some.injEq, DataW.lit.injEq, Lit.int.injEq, true_and] at e4
  have h0 : ((cs.toList.drop r).take 1)[0]? = some (.int .u8 z) := by rw [e1]; rfl
  simp only [List.getElem?_take, List.getElem?_drop, Nat.add_zero] at h0
  rw [if_pos (by omega)] at h0
  rw [h0, e4]
  simp [hr]
 ·rw [List.getElem?_eq_none (by omega), List.getElem?_eq_none (by simpa using hr)]
theorem fits_gH {l : List (String × DataW Unit)} {W : World} (h : laidMet Tryz.prog l W) (hmem : ("math/bits.deBruijn64tab", .agg (Lib.deBruijn64tab.map fun (z : Nat) => .lit (.int .u8 z))) ∈ l) : Fits gH W := fun b c hb => by
 unfold gH at hb
 split at hb
 ·rename_i hbb
  cases hb
  obtain rfl := Nat.eq_of_beq_eq_true hbb
  exact laid_gH h hmem (by kernel_rfl) (by kernel_rfl) Tryz.underlying247 Tryz.underlying5 (by kernel_rfl) (by kernel_rfl)
 ·cases hb
theorem gl_of_fits {W : World} (h : Fits gH W) : ∀ g cs, VM.ctx.gl g = some cs → ∃ c U fz, W.heap[g]? = some (.cells c U fz) ∧ VM.VL (fun _ => none) cs (c.toList.take cs.length) := fun g cs hg => by
 have hm := VM.assoc_mem hg
 unfold VM.glL at hm
 simp only [List.mem_cons, List.mem_nil_iff, or_false, Prod.mk.injEq] at hm
 obtain ⟨rfl, rfl⟩ := hm
 obtain ⟨U, fz, hW⟩ := h 4 (Lib.deBruijn64tab.map fun (z : Nat) => Value.int .u8 (z : Int)).toArray rfl
 refine ⟨_, U, fz, hW, ?_, fun j x y hx hy => ?_⟩
 ·rfl
 ·have hx' : (Lib.deBruijn64tab.map fun (z : Nat) => VM.AV.int .u8 (.ofNat z))[j]? = some x := hx
  have hy' : (Lib.deBruijn64tab.map fun (z : Nat) => Value.int .u8 (z : Int))[j]? = some y := by
   rw [List.getElem?_take] at hy
   split at hy
   ·exact hy
   ·cases hy
  rw [List.getElem?_map] at hx' hy'
  obtain ⟨z, e1, rfl⟩ := Option.map_eq_some_iff.1 hx'
  rw [e1] at hy'
  cases hy'
  exact .int _ _
theorem known_pv : PV Tryz.prog 22 #[] (.bool true) := ⟨(cOf Tryz.func22 rfl (by kernel_rfl)), fun W hW => (VM.walk22 W (gl_of_fits hW)).mono fun e W' ⟨he, hb⟩ => ⟨he, hb⟩⟩
end Go.Proofs.YtjifapjpgmmcnaaGreatDoor
namespace Go.Proofs.YtjifapjpgmmcnaaGreatDoor
open Go.ChangeShapes Go.WideShapes Go.ChangeAt Go.RowKit
def hpOf (W : World) : Hp := fun b => match W.heap[b]? with
 | some (.cells c _ _) => some c
 | _ => none
theorem fits_hpOf (W : World) : Fits (hpOf W) W := fun b c h => by
 unfold hpOf at h
 split at h
 ·rename_i c' T fz hb; cases h; exact ⟨T, fz, hb⟩
 ·cases h
section
variable {H : Type} {enc : TypeId × Value → H} {P : Program} {w : World} {base : Nat} {spare : Nat → Bool} {held : Bool}
theorem ints_open {t e : TypeId} {k : IntKind} {fuel : Nat} {cs : List Value} {x : DataW H × List MemPlace} (ht : P.underlying t = some (.slice e)) (he : P.underlying e = some (.int k)) (hc : P.cellsOf e = 1) (h : DataW.trod enc P w base spare held fuel t cs = some x) :
  ∃ a len cap zs, cs = [.slice a len cap] ∧ SlN (fun z : Int => Value.int k z) (hpOf w) (.slice a len cap) zs ∧ ∀ n ∈ zs, (Lit.int k n).wf = true := by
 rcases open_ints ht he hc h with ⟨rfl, _⟩ | ⟨x, len, cap, zs, rfl, _, hl, hm, hz, _, hcell, hw⟩
 ·exact ⟨none, 0, 0, [], rfl, nil_sl _ _, fun n hn => by cases hn⟩
 ·have hzl : len ≤ zs.length := by rw [hz]; split <;> omega
  refine ⟨some x, len, cap, zs.take len, rfl, ?_, fun n hn => hw n (List.mem_of_mem_take hn)⟩
  have hlen : (zs.take len).length = len := by rw [List.length_take]; omega
  unfold SlN
  rw [hlen]
  refine ⟨by rw [List.length_map, hlen, Nat.mul_one], ?_⟩
  by_cases h0 : len = 0
  ·subst h0; exact .inl ⟨rfl, some x, cap, rfl⟩
  ·right
   have h1 := hcell 0 (by omega)
   obtain ⟨b, off, sp⟩ := x
   have hsp : sp = none := by
    cases sp with
    | none => rfl
    | some s => simp only [World.cell?, Addr.add] at h1; split at h1 <;> simp_all
   subst hsp
   have hb : ∃ c, hpOf w b = some c ∧ ∀ i, i < zs.length → c[off + i]? = some (.int k (zs.getD i 0)) := by
    simp only [Addr.add_mid] at hcell
    unfold World.cell? at hcell
    unfold hpOf
    simp only at hcell
    cases hw' : w.heap[b]? with
    | none => have := hcell 0 (by omega); rw [hw'] at this; cases this
    | some o =>
     cases o with
     | cells c T fz => exact ⟨c, rfl, fun i hi => by have := hcell i hi; rw [hw'] at this; simpa using this⟩
     | _ => have := hcell 0 (by omega); rw [hw'] at this; cases this
   obtain ⟨c, hc1, hc2⟩ := hb
   refine ⟨b, off, cap, c, rfl, hl, hc1, fun j y hj => ?_⟩
   rw [List.getElem?_map, List.getElem?_take] at hj
   split at hj
   ·rename_i hjl
    rw [hc2 j (by omega), ← hj, List.getD_eq_getElem?_getD, List.getElem?_eq_getElem (by omega)]; rfl
   ·cases hj
theorem bytes_open {t e : TypeId} {fuel : Nat} {cs : List Value} {x : DataW H × List MemPlace} (ht : P.underlying t = some (.slice e)) (he : P.underlying e = some (.int .u8)) (hc : P.cellsOf e = 1) (h : DataW.trod enc P w base spare held fuel t cs = some x) :
  ∃ a len cap l, cs = [.slice a len cap] ∧ SlN n8 (hpOf w) (.slice a len cap) l ∧ Dig 256 l := by
 obtain ⟨a, len, cap, zs, rfl, hs, hw⟩ := ints_open ht he hc h
 have hz : ∀ n ∈ zs, 0 ≤ n ∧ n < 256 := fun n hn => by have := bounds_u8 (hw n hn); omega
 refine ⟨a, len, cap, zs.map Int.toNat, rfl, ?_, fun y hy => ?_⟩
 ·unfold SlN at hs ⊢
  rw [List.length_map, List.map_map]
  have : zs.map (n8 ∘ Int.toNat) = zs.map fun z : Int => Value.int .u8 z := List.map_congr_left fun z hzm => by
   show Value.int .u8 ((z.toNat : Nat) : Int) = _
   rw [Int.toNat_of_nonneg (hz z hzm).1]
  rw [this]; exact hs
 ·obtain ⟨z, hzm, rfl⟩ := List.mem_map.1 hy
  have := hz z hzm; omega
end
theorem i64_bounds {z : Int} (h : (Lit.int .i64 z).wf = true) : -9223372036854775808 ≤ z ∧ z < 9223372036854775808 := by
 have := bounds_i64 h; omega
theorem four_of {α : Type} : ∀ {l : List α}, l.length = 4 → ∃ a b c d, l = [a, b, c, d]
 | [a, b, c, d], _ => ⟨a, b, c, d, rfl⟩
theorem raw_open {H : Type} {enc : TypeId × Value → H} {w : World} {base : Nat} {spare : Nat → Bool} {held : Bool} {v : Value} {d : DataW H} {p : List MemPlace} (hv : ∃ cs, v = .agg cs) (h : DataW.Trod enc Tryz.prog w base spare held 24 v d p) : RawQ (hpOf w) v := by
 obtain ⟨cs, rfl⟩ := hv
 obtain ⟨fuel, h⟩ := h
 obtain ⟨xs, n, _, hx, hl, hlen, hf⟩ := DataW.trod_struct Tryz.underlying24 h
 rw [show Tryz.prog.cellsOf 24 = 4 from by kernel_rfl] at hl
 have hl4 : cs.toList.length = 4 := hl
 obtain ⟨l, rfl⟩ : ∃ l : List Value, cs = l.toArray := ⟨cs.toList, by simp⟩
 have hl4' : l.length = 4 := by simpa using hl4
 obtain ⟨c0, c1, c2, c3, rfl⟩ := four_of hl4'
 have hx4 : xs.length = 4 := hlen
 have f0 : DataW.trod enc Tryz.prog w base spare held n 3 (([c0, c1, c2, c3].drop 0).take (Tryz.prog.cellsOf 3)) = xs[0]? := hf 0 _ rfl
 have f1 : DataW.trod enc Tryz.prog w base spare held n 22 (([c0, c1, c2, c3].drop 1).take (Tryz.prog.cellsOf 22)) = xs[1]? := hf 1 _ rfl
 have f2 : DataW.trod enc Tryz.prog w base spare held n 22 (([c0, c1, c2, c3].drop 2).take (Tryz.prog.cellsOf 22)) = xs[2]? := hf 2 _ rfl
 have f3 : DataW.trod enc Tryz.prog w base spare held n 4 (([c0, c1, c2, c3].drop 3).take (Tryz.prog.cellsOf 4)) = xs[3]? := hf 3 _ rfl
 rw [show Tryz.prog.cellsOf 3 = 1 from by kernel_rfl] at f0
 rw [show Tryz.prog.cellsOf 22 = 1 from by kernel_rfl] at f1 f2
 rw [show Tryz.prog.cellsOf 4 = 1 from by kernel_rfl] at f3
 rw [List.getElem?_eq_getElem (by omega)] at f0 f1 f2 f3
 obtain ⟨z, e0, _, w0⟩ := DataW.trod_int Tryz.underlying3 f0
 obtain ⟨a1, l1, k1, b1, e1, s1, d1⟩ := bytes_open Tryz.underlying22 Tryz.underlying5 (by kernel_rfl) f1
 obtain ⟨a2, l2, k2, b2, e2, s2, d2⟩ := bytes_open Tryz.underlying22 Tryz.underlying5 (by kernel_rfl) f2
 obtain ⟨b, e3, _⟩ := DataW.trod_bool Tryz.underlying4 f3
 have g0 : [c0] = [.int .i64 z] := e0
 have g1 : [c1] = [.slice a1 l1 k1] := e1
 have g2 : [c2] = [.slice a2 l2 k2] := e2
 have g3 : [c3] = [.bool b] := e3
 cases g0; cases g1; cases g2; cases g3
 exact ⟨z, _, _, b1, b2, b, rfl, i64_bounds w0, s1, s2, d1, d2⟩
end Go.Proofs.YtjifapjpgmmcnaaGreatDoor
