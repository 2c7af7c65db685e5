/- Texts of ours in one: Gc5, GcdS, Fr1, Fr2, Fr3, Ha1, Ev15, Ha2, Lw1, Fr4, Lw2, Str1, Lw3, NearP, NearQ, Lw4, Rf4, SimpP, SimpS, Simp, Simp2, Simp3, Simp4, NearR, Rf5, LeastP, Rf6, Rf7, Rf8, Lw6, LaidE, Kn, Opn. -/
import Derived.Test.YtjifapjpgmmcnaaGreatDoorQ2
import Derived.Test.YtjifapjpgmmcnaaGreatDoorQ3
import Derived.Test.YtjifapjpgmmcnaaGreatDoorQ4
import Derived.Test.YtjifapjpgmmcnaaGreatDoorQ5
import Derived.WalkKit
import Derived.ProofKit
import Derived.OpenShut
set_option linter.unusedVariables false
set_option linter.unusedSimpArgs false

namespace Go.Proofs.YtjifapjpgmmcnaaGreatDoor
open Go.RowKit _root_.Go.Proofs.Tryz
structure OW (b off cap : Nat) (cs : List Value) (l : List Nat) : Prop where
 at_ : Wn cs off l
 norm : Norm W64 l
 cap : l.length ≤ cap
 len : l.length ≤ 20000000
 odd : val W64 l % 2 = 1
structure BSt where
 (bv ov cv : Nat) (lv : List Nat) (sv : List Value)
 (bw ow cw : Nat) (lw : List Nat) (sw : List Value)
def BSt.env (q : BSt) (t : Int) : Env := [(4, .p 4 0), (5, .v (.slice (some ⟨q.bv, q.ov, none⟩) q.lv.length q.cv)), (6, .v (.slice (some ⟨q.bw, q.ow, none⟩) q.lw.length q.cw)), (7, .v (.int .i64 t))]
def BSt.own (q : BSt) : Ows := [(q.bv, 39, q.sv), (q.bw, 39, q.sw)]
structure BSt.ok (q : BSt) (g : Nat) : Prop where
 v : OW q.bv q.ov q.cv q.sv q.lv
 w : OW q.bw q.ow q.cw q.sw q.lw
 gcd : Nat.gcd (val W64 q.lv) (val W64 q.lw) = g
theorem odd_pos {n : Nat} (h : n % 2 = 1) : n ≠ 0 := by omega
theorem two_swap {α : Type} (a b : α) : List.Perm [a, b] [b, a] := List.Perm.swap b a []
theorem ordN_zero {a b : Nat} (h : ordN a b = 0) : a = b := by
 unfold ordN at h; split at h
 ·cases h
 ·split at h
  ·cases h
  ·omega
theorem natV_cells (n : Nat) : natV n = .agg #[.int .u64 (lo n : Int), .string (moreB n)] := rfl
theorem wbinary_pv (x y : Nat) (hx : x ≠ 0) (hy : y ≠ 0) (hbx' : big x) (hby' : big y) : PV prog 134 #[natV x, natV y] (natV (Nat.gcd x y)) := by
 have lx : (dig W64 x).length ≤ 20000000 := Nat.le_trans (dig_len_big hbx') (by decide)
 have ly : (dig W64 y).length ≤ 20000000 := Nat.le_trans (dig_len_big hby') (by decide)
 have hpx := fun G => PO.of_pw ((wwords_pw x hbx' G).mono (Ψ := fun v ow _ => ow.length ≤ 1 ∧ ∃ g, v = .slice (some ⟨g, 0, none⟩) (dig W64 x).length (dig W64 x).length ∧ ow = [(g, 39, (dig W64 x).map n64)]) fun v ow H' _ ⟨g, h1, h2⟩ => ⟨by rw [h2]; simp, g, h1, h2⟩)
 have hpy := fun G => PO.of_pw ((wwords_pw y hby' G).mono (Ψ := fun v ow _ => ow.length ≤ 1 ∧ ∃ g, v = .slice (some ⟨g, 0, none⟩) (dig W64 y).length (dig W64 y).length ∧ ow = [(g, 39, (dig W64 y).map n64)]) fun v ow H' _ ⟨g, h1, h2⟩ => ⟨by rw [h2]; simp, g, h1, h2⟩)
 have dx := dig_norm W64_two x
 have dy := dig_norm W64_two y
 have vx := dig_val W64_two x
 have vy := dig_val W64_two y
 generalize dig W64 x = dgx at *
 generalize dig W64 y = dgy at *
 have hvx0 : val W64 dgx ≠ 0 := by rw [vx]; exact hx
 have hvy0 : val W64 dgy ≠ 0 := by rw [vy]; exact hy
 refine PV.of_pc ?_
 refine BD func134 ntmps134 ?_
 try refine RUN ?_
 apply EV.drawn 6 (by kernel_rfl) (by kernel_rfl); intro x1 y1
 (repeat (first | refine' DV ?_ | refine' DA ?_ | refine' DK0 ?_ | refine' DT ?_ | refine' DS ?_))
 refine' DJ.callO rfl rfl rfl rfl rfl (hpx gH).can (fun G _ _ => hpx G) ?_; rotate_left
 (repeat (first | refine' DV ?_ | refine' DA ?_ | refine' DK0 ?_ | refine' DT ?_ | refine' DS ?_))
 refine' DJ.callO rfl rfl rfl rfl rfl (hpy gH).can (fun G _ _ => hpy G) ?_; rotate_left
 refine' DJ.copy (0 + 1) (.inr rfl) rfl rfl rfl id rfl (by kernel_rfl) ?_; rotate_left
 refine' DJ.copy (0 + 1 + 1 + 1) (.inr rfl) rfl rfl rfl id rfl (by kernel_rfl) ?_; rotate_left
 (refine DJ.nil (fun G hG hF => ?_); (case hS => rfl); (case hS2 => rfl))
 obtain ⟨⟨gy, ey, oy⟩, ⟨gx, ex, ox⟩, _⟩ := hF
 simp only [ex, ey, ox, oy, id]
 clear hpx hpy ex ey ox oy
 try refine RUN ?_
 refine EVL.permOw [(gx, 39, dgx.map n64), (gy, 39, dgy.map n64)] (two_swap _ _) ?_
 refine EVL.callW rfl rfl rfl rfl rfl ([(gx, 39, dgx.map n64)]) ([(gy, 39, dgy.map n64)]) rfl (wzeros_pw (Wn.of dgx) dx.1 (by omega) hvx0) ?_
 rintro v ow H1 ⟨rfl, zx, mx, rfl, hzx, hmx, hzx2⟩ hle1
 try refine RUN ?_
 refine EVL.permOw [(gy, 39, dgy.map n64), (gx, 39, dgx.map n64)] (two_swap _ _) ?_
 refine EVL.callW rfl rfl rfl rfl rfl ([(gy, 39, dgy.map n64)]) ([(gx, 39, dgx.map n64)]) rfl (wzeros_pw (Wn.of dgy) dy.1 (by omega) hvy0) ?_
 rintro v ow H2 ⟨rfl, zy, my, rfl, hzy, hmy, hzy2⟩ hle2
 try refine RUN ?_
 rw [show (if (zy : Int) < (zx : Int) then (zy : Int) else (zx : Int)) = ((min zx zy : Nat) : Int) by split <;> omega]
 try refine RUN ?_
 refine EVL.permOw [(gx, 39, dgx.map n64), (gy, 39, dgy.map n64)] (two_swap _ _) ?_
 refine EVL.callW rfl rfl rfl rfl rfl ([(gx, 39, dgx.map n64)]) ([(gy, 39, dgy.map n64)]) rfl (wdown_pw (Wn.of dgx) dx.1 (by omega) (Nat.le_refl _) hvx0) ?_
 rintro v ow H3 ⟨sx, ox, cx, rx, zx', rfl, hwx, hnx, hlx, hcx, rfl, hdx, hox⟩ hle3
 try refine RUN ?_
 refine EVL.permOw [(gy, 39, dgy.map n64), (gx, 39, sx)] (two_swap _ _) ?_
 refine EVL.callW rfl rfl rfl rfl rfl ([(gy, 39, dgy.map n64)]) ([(gx, 39, sx)]) rfl (wdown_pw (Wn.of dgy) dy.1 (by omega) (Nat.le_refl _) hvy0) ?_
 rintro v ow H4 ⟨sy, oy, cy, ry, zy', rfl, hwy, hny, hly, hcy, rfl, hdy, hoy⟩ hle4
 refine EVL.permOw [(gx, 39, sx), (gy, 39, sy)] (two_swap _ _) ?_
 have hgcd : Nat.gcd x y = 2 ^ min zx zy * Nat.gcd (val W64 rx) (val W64 ry) := by
  have e1 : zx = zx' := odd_part (by rw [← hzx, hdx]) hmx hox
  have e2 : zy = zy' := odd_part (by rw [← hzy, hdy]) hmy hoy
  subst e1 e2
  rw [← vx, ← vy]
  exact gcd_binary _ _ zx zy _ _ hdx hdy hox hoy
 have htw : min zx zy ≤ 1300000000 := by omega
 generalize min zx zy = tw at *
 generalize hg : Nat.gcd (val W64 rx) (val W64 ry) = g at *
 have hbg : big (Nat.gcd x y) := Nat.le_trans (bl_gcd_left x y hx) hbx'
 generalize Nat.gcd x y = gg at *
 try refine RUN ?_
 refine EV.loop (ι := BSt) (fun q => q.env (tw : Int)) (fun _ => [(4, 41, Tryz.te41.zero)]) (fun q => q.own) (fun q _ => q.ok g) (fun q => val W64 q.lv + val W64 q.lw) ⟨gx, ox, cx, rx, sx, gy, oy, cy, ry, sy⟩
  ⟨rfl, rfl, rfl, rfl, trivial⟩ ⟨rfl, trivial⟩ rfl (fun _ => rfl) ⟨⟨hwx, hnx, hcx, Nat.le_trans hlx lx, hox⟩, ⟨hwy, hny, hcy, Nat.le_trans hly ly, hoy⟩, hg⟩ ?_
 clear hdx hdy hzx hzy hwx hnx hlx hcx hwy hny hly hcy hox hoy hle1 hle2 hle3 hle4 hg
 rintro ⟨bv, ov, cv, lv, sv, bw, ow, cw, lw, sw⟩ G hG ⟨⟨v1, v2, v3, v4, v5⟩, ⟨w1, w2, w3, w4, w5⟩, hgq⟩
 dsimp only at v1 v2 v3 v4 v5 w1 w2 w3 w4 w5 hgq
 unfold BSt.env BSt.own
 dsimp only
 try refine RUN ?_
 refine EVL.callW rfl rfl rfl rfl rfl ([(bv, 39, sv), (bw, 39, sw)]) ([]) rfl (wcompare_pw v1 w1 v2 w2 (by omega)) ?_
 rintro v ow1 H5 ⟨rfl, rfl⟩ hle5
 try refine RUN ?_
 by_cases hc0 : ordN (val W64 lv) (val W64 lw) = 0
 ·rw [show (ordN (val W64 lv) (val W64 lw) == 0) = true by rw [hc0]; rfl]
  have hvw := ordN_zero hc0
  rw [← hvw, Nat.gcd_self] at hgq
  try refine RUN ?_
  refine EVL.callW rfl rfl rfl rfl rfl ([(bv, 39, sv)]) ([(bw, 39, sw)]) rfl (wnumber_pw v1 v2.1 v4) ?_
  rintro v ow2 H6 ⟨rfl, rfl⟩ hle6
  rw [hgq, natV_cells]
  try refine RUN ?_
  refine EV.loop (ι := Int × Nat) (fun q => [(4, .p 4 0), (9, .p 9 0), (7, .v (.int .i64 q.1))]) (fun q => [(9, 41, [.int .u64 (lo q.2 : Int), .string (moreB q.2)]), (4, 41, Tryz.te41.zero)]) (fun _ => [(bv, 39, sv), (bw, 39, sw)])
   (fun q _ => q.2 * 2 ^ q.1.toNat = gg ∧ q.1 ≤ 1300000000 ∧ -100000 ≤ q.1) (fun q => q.1.toNat) ((tw : Int), g) ⟨rfl, rfl, rfl, trivial⟩ ⟨rfl, rfl, trivial⟩ rfl (fun _ => rfl) ⟨by dsimp only; rw [Int.toNat_natCast, hgcd, Nat.mul_comm], by dsimp only; omega, by dsimp only; omega⟩ ?_
  rintro ⟨t, o⟩ G2 hG2 ⟨ht, ht1, ht2⟩
  dsimp only at ht ht1 ht2
  try refine RUN ?_
  by_cases htp : t > 0
  ·rw [show decide (t > 0) = true by simpa using htp]
   obtain ⟨k, hk, hkt⟩ : ∃ k : Nat, (if (65536 : Int) < t then (65536 : Int) else t) = (k : Int) ∧ k = min t.toNat 65536 := ⟨min t.toNat 65536, by split <;> omega, rfl⟩
   have hbo : big o := by
    refine Nat.le_trans (bl_mono ?_) hbg
    rw [← ht]; exact Nat.le_mul_of_pos_right _ (Nat.pow_pos (by decide))
   have hsh := natShift_up o k (by omega) hbo
   try refine RUN ?_
   rw [hk]
   repeat (first | refine RUN ?_ | refine CV (hsh) ?_ | refine CE (hsh) ?_)
   refine ⟨(t - 65536, o * 2 ^ k), ⟨rfl, rfl, ?_, trivial⟩, ⟨rfl, rfl, trivial⟩, rfl, ⟨?_, by dsimp only; omega, by dsimp only; omega⟩, Hp.Le.refl _, by dsimp only; omega⟩
   ·rw [show IntKind.i64.wrap (t - 65536) = t - 65536 by rw [IntKind.wrap_i64]; omega]; rfl
   ·dsimp only
    rw [← ht, Nat.mul_assoc, ← Nat.pow_add]
    congr 2
    omega
  ·rw [show decide (t > 0) = false by simpa using htp]
   rw [show t.toNat = 0 by omega, Nat.pow_zero, Nat.mul_one] at ht
   subst ht
   try refine RUN ?_
   rfl
 ·rw [show (ordN (val W64 lv) (val W64 lw) == 0) = false by simpa using hc0]
  try refine RUN ?_
  refine EV.meet (fun env' bx' H' => ∃ q : BSt, SubL env' (q.env (tw : Int)) ∧ SubX bx' [(4, 41, Tryz.te41.zero)] ∧ H'.ow = q.own ∧ G.Le H'.ro ∧ q.ok g ∧ val W64 q.lw < val W64 q.lv ∧ val W64 q.lv + val W64 q.lw = val W64 lv + val W64 lw) ?_ ?_
  ·rintro env' bx' ⟨G6, ow6, base6⟩ _ ⟨⟨bv, ov, cv, lv, sv, bw, ow, cw, lw, sw⟩, he, hbx6, how, hleG, ⟨⟨v1, v2, v3, v4, v5⟩, ⟨w1, w2, w3, w4, w5⟩, hgq⟩, hlt, hsum⟩
   dsimp only at v1 v2 v3 v4 v5 w1 w2 w3 w4 w5 hgq hlt hsum
   refine EV.less _ _ he hbx6 rfl ?_
   unfold BSt.own at how
   dsimp only at how
   subst how
   unfold BSt.env
   dsimp only
   have hlen : lw.length ≤ lv.length := by
    refine Nat.le_of_not_lt fun h => ?_
    have := len_less W64_two v2.1 w2 h
    omega
   try refine RUN ?_
   refine EVL.callW rfl rfl rfl rfl rfl ([(bv, 39, sv), (bw, 39, sw)]) ([]) rfl (wsubtract_pw v1 w1 v2.1 w2.1 (by omega) hlen v3 (by omega)) ?_
   rintro v ow7 H7 ⟨s7, r7, rfl, hw7, hn7, hl7, rfl, hv7⟩ hle7
   try refine RUN ?_
   refine EVL.callW rfl rfl rfl rfl rfl ([(bv, 39, s7)]) ([(bw, 39, sw)]) rfl (wdown_pw hw7 hn7.1 (by omega) (by omega) (by omega)) ?_
   rintro v ow8 H8 ⟨s8, o8, c8, r8, z8, rfl, hw8, hn8, hl8, hc8, rfl, hd8, ho8⟩ hle8
   try refine RUN ?_
   have hr := gcd_round (val W64 lv) (val W64 lw) z8 (val W64 r8) w5 (by omega) (by rw [← hv7]; exact hd8)
   have hle9 : val W64 r8 ≤ val W64 r7 := by rw [hd8]; exact Nat.le_mul_of_pos_left _ (Nat.pow_pos (by decide))
   refine ⟨⟨bv, o8, c8, r8, s8, bw, ow, cw, lw, sw⟩, ⟨rfl, rfl, rfl, rfl, trivial⟩, ⟨rfl, trivial⟩, rfl, ⟨⟨hw8, hn8, hc8, by dsimp only; omega, ho8⟩, ⟨w1, w2, w3, w4, w5⟩, by dsimp only; rw [hr]; exact hgq⟩, (hleG.trans hle7).trans hle8, ?_⟩
   dsimp only
   have := odd_pos w5
   omega
  ·by_cases hlt : ordN (val W64 lv) (val W64 lw) < 0
   ·rw [show decide (ordN (val W64 lv) (val W64 lw) < 0) = true by simpa using hlt]
    have hvl : val W64 lv < val W64 lw := by
     unfold ordN at hlt
     split at hlt
     ·assumption
     ·split at hlt <;> simp at hlt
    refine EV.permOw [(bw, 39, sw), (bv, 39, sv)] (two_swap _ _) ?_
    try refine RUN ?_
    exact ⟨⟨bw, ow, cw, lw, sw, bv, ov, cv, lv, sv⟩, ⟨rfl, rfl, rfl, rfl, trivial⟩, ⟨rfl, trivial⟩, rfl, hle5, ⟨⟨w1, w2, w3, w4, w5⟩, ⟨v1, v2, v3, v4, v5⟩, by dsimp only; rw [Nat.gcd_comm]; exact hgq⟩, hvl, Nat.add_comm _ _⟩
   ·rw [show decide (ordN (val W64 lv) (val W64 lw) < 0) = false by simpa using hlt]
    have hvl : val W64 lw < val W64 lv := by
     unfold ordN at hlt hc0
     split at hlt
     ·simp at hlt
     ·rename_i h1
      rw [if_neg h1] at hc0
      split at hc0
      ·assumption
      ·simp at hc0
    try refine RUN ?_
    exact ⟨⟨bv, ov, cv, lv, sv, bw, ow, cw, lw, sw⟩, ⟨rfl, rfl, rfl, rfl, trivial⟩, ⟨rfl, trivial⟩, rfl, hle5, ⟨⟨v1, v2, v3, v4, v5⟩, ⟨w1, w2, w3, w4, w5⟩, hgq⟩, hvl, rfl⟩
theorem gcdN_pv (c1 c2 : Nat) (h1 : big c1) (h2 : big c2) (sx sy : Bool) (hsx : c1 = 0 → sx = false) (hsy : c2 = 0 → sy = false) :
  PV prog 54 #[.agg #[.bool sx, .int .u64 (lo c1 : Int), .string (moreB c1)], .agg #[.bool sy, .int .u64 (lo c2 : Int), .string (moreB c2)]] (natV (Nat.gcd c1 c2)) := by
 refine PV.of_pc ?_
 refine BD func54 ntmps54 ?_
 try refine RUN ?_
 (apply EV.drawn 7 (by kernel_rfl) (by kernel_rfl); intro xv yw; (repeat (first | refine' DV ?_ | refine' DA ?_ | refine' DK0 ?_ | refine' DS ?_)); refine DJ.nil (fun G hG hF => ?_); (case hS => rfl); (case hS2 => rfl))
 repeat (first | refine RUN ?_ | refine CV (natCmp_pv c1 c2 h1 h2) ?_ | refine CE (natCmp_pv c1 c2 h1 h2) ?_)
 refine EV.meet (fun env' bx' H' => ∃ u w : Nat, SubL env' [(4, .p 4 0), (5, .p 5 0), (6, .p 6 0)] ∧ SubX bx' [(4, 41, Tryz.te41.zero), (5, 41, [.int .u64 (lo u : Int), .string (moreB u)]), (6, 41, [.int .u64 (lo w : Int), .string (moreB w)])] ∧ H'.ow = [] ∧ w ≤ u ∧ big u ∧ big w ∧ Nat.gcd u w = Nat.gcd c1 c2) ?_ ?_
 ·rintro env' bx' ⟨G1, ow1, base1⟩ hb ⟨u, w, he, hbx, how, hwu, hu, hw, hg⟩
  obtain rfl : base1 = ⟨fun _ => none, []⟩ := hb
  obtain rfl : ow1 = [] := how
  refine EV.less _ _ he hbx rfl ?_
  clear h1 h2 hsx hsy hbx he
  generalize Nat.gcd c1 c2 = gg at *
  subst hg
  repeat (first | refine RUN ?_ | refine CV (bits_pv w hw) ?_ | refine CE (bits_pv w hw) ?_)
  rw [bl_zero_iff]
  by_cases hw0 : w = 0
  ·subst hw0
   rw [decide_eq_true rfl, Nat.gcd_zero_right]
   try refine RUN ?_
   rfl
  ·rw [decide_eq_false hw0]
   repeat (first | refine RUN ?_ | refine CV (natDiv_pv u w hw0 hu hw) ?_ | refine CE (natDiv_pv u w hw0 hu hw) ?_)
   have hm : u % w < w := Nat.mod_lt _ (by omega)
   have hgr : Nat.gcd u w = Nat.gcd w (u % w) := by rw [Nat.gcd_comm, Nat.gcd_rec, Nat.gcd_comm]
   have hbm : big (u % w) := Nat.le_trans (bl_mod u w) hu
   rw [hgr]
   generalize u % w = r at *
   generalize u / w = qq at *
   clear hgr hwu hu
   rw [natV_cells, natV_cells]
   try refine RUN ?_
   refine EV.less [(4, .p 4 0), (5, .p 5 0), (6, .p 6 0), (8, .p 8 0)] ([(5, 41, [.int .u64 (lo u : Int), .string (moreB u)]), (4, 41, Tryz.te41.zero), (6, 41, [.int .u64 (lo w : Int), .string (moreB w)]), (8, 41, [.int .u64 (lo r : Int), .string (moreB r)])]) ⟨rfl, rfl, rfl, rfl, trivial⟩ ⟨rfl, rfl, rfl, rfl, trivial⟩ rfl ?_
   apply EV.drawnS ([(5, 41, [.int .u64 (lo u : Int), .string (moreB u)])]) 3 (by kernel_rfl) (by kernel_rfl); intro xv yw
   (repeat (first | refine' DV ?_ | refine' DA ?_ | refine' DK0 ?_ | refine' DT ?_ | refine' DS ?_))
   (refine DJ.nil (fun G hG hF => ?_); (case hS => rfl); (case hS2 => rfl); (case hD => rfl))
   repeat (first | refine RUN ?_ | refine CV (bits_pv r hbm) ?_ | refine CE (bits_pv r hbm) ?_)
   rw [bl_zero_iff]
   by_cases hr0 : r = 0
   ·subst hr0
    rw [decide_eq_true rfl, Nat.gcd_zero_right]
    try refine RUN ?_
    rfl
   ·rw [decide_eq_false hr0]
    repeat (first | refine RUN ?_ | refine CV (natSmall_pv w) ?_ | refine CE (natSmall_pv w) ?_)
    by_cases hws : w < W64
    ·have hrs : r < W64 := by omega
     rw [decide_eq_true hws, if_pos hws]
     repeat (first | refine RUN ?_ | refine CV (natSmall_pv r) ?_ | refine CE (natSmall_pv r) ?_)
     rw [decide_eq_true hrs, if_pos hrs]
     try refine RUN ?_
     refine EV.loop (ι := Nat × Nat) (fun q => [(4, .p 4 0), (10, .v (n64 q.1)), (12, .v (n64 q.2))]) (fun _ => [(4, 41, Tryz.te41.zero)]) (fun _ => []) (fun q _ => q.1 < W64 ∧ q.2 < W64 ∧ Nat.gcd q.1 q.2 = Nat.gcd w r) (fun q => q.2) (w, r) ⟨rfl, rfl, rfl, trivial⟩ ⟨rfl, trivial⟩ rfl (fun _ => rfl) ⟨hws, hrs, rfl⟩ ?_
     rintro ⟨m, k⟩ G2 hG2 ⟨hms, hks, hgk⟩
     dsimp only at hms hks hgk
     try refine RUN ?_
     by_cases hk0 : k = 0
     ·subst hk0
      rw [show decide ((((m, 0) : Nat × Nat).2 : Int) > 0) = false from rfl]
      rw [Nat.gcd_zero_right] at hgk
      repeat (first | refine RUN ?_ | refine CV (natOf_pv m hms) ?_ | refine CE (natOf_pv m hms) ?_)
      rw [hgk]
     ·rw [show decide ((((m, k) : Nat × Nat).2 : Int) > 0) = true by simp; omega]
      try refine RUN ?_
      apply EV.drawn 6 (by kernel_rfl) (by kernel_rfl); intro xv yw
      (repeat (first | refine' DV ?_ | refine' DA ?_ | refine' DK0 ?_ | refine' DT ?_ | refine' DS ?_))
      refine' DJ.ofVal (ValOk.rem rfl rfl rfl rfl (show ((k : Nat) : Int) ≠ 0 by omega)) rfl rfl rfl ?_; rotate_left
      (repeat (first | refine' DV ?_ | refine' DA ?_ | refine' DK0 ?_ | refine' DT ?_ | refine' DS ?_))
      (refine DJ.nil (fun G hG hF => ?_); (case hS => rfl); (case hS2 => rfl))
      rw [show (((m, k) : Nat × Nat).1 : Int).tmod (((m, k) : Nat × Nat).2 : Int) = ((m % k : Nat) : Int) from wi_rem m k]
      try refine RUN ?_
      refine ⟨(k, m % k), ⟨rfl, rfl, rfl, trivial⟩, ⟨rfl, trivial⟩, rfl, ⟨hks, Nat.lt_of_le_of_lt (Nat.mod_le m k) hms, ?_⟩, hG, Nat.mod_lt _ (by omega)⟩
      ·dsimp only
       rw [← hgk, Nat.gcd_comm m k, Nat.gcd_rec k m, Nat.gcd_comm]
    ·rw [decide_eq_false hws]
     repeat (first | refine RUN ?_ | refine CV (wbinary_pv w r hw0 hr0 hw hbm) ?_ | refine CE (wbinary_pv w r hw0 hr0 hw hbm) ?_)
     rfl
 ·by_cases hlt : c1 < c2
  ·rw [ordN_lt hlt, show decide ((-1 : Int) < 0) = true from rfl]
   try refine RUN ?_
   exact ⟨c2, c1, ⟨rfl, rfl, rfl, trivial⟩, ⟨rfl, rfl, rfl, trivial⟩, rfl, by omega, h2, h1, Nat.gcd_comm _ _⟩
  ·rw [show decide (ordN c1 c2 < 0) = false by unfold ordN; rw [if_neg hlt]; split <;> rfl]
   try refine RUN ?_
   exact ⟨c1, c2, ⟨rfl, rfl, rfl, trivial⟩, ⟨rfl, rfl, rfl, trivial⟩, rfl, by omega, h1, h2, rfl⟩
theorem gcd_pv (a b : Int) (ha : bigI a) (hb : bigI b) : PV prog 54 #[intV a, intV b] (natV (Nat.gcd a.natAbs b.natAbs)) :=
 gcdN_pv a.natAbs b.natAbs ha hb _ _ (fun h => by simp; omega) (fun h => by simp; omega)
abbrev frV (n : Int) (d : Nat) : Value := .agg #[.bool (decide (n < 0)), .int .u64 (lo n.natAbs : Int), .string (moreB n.natAbs), .int .u64 (lo d : Int), .string (moreB d)]
def dk (d : Nat) : Nat := if d = 1 then 0 else d
abbrev fracV (q : Rat) : Value := frV q.num (dk q.den)
theorem dk_one : dk 1 = 0 := rfl
theorem dk_ne {d : Nat} (h : d ≠ 1) : dk d = d := if_neg h
theorem dk_bl (d : Nat) : bl (dk d) ≤ bl d := by
 unfold dk; split
 ·rw [bl_zero]; omega
 ·exact Nat.le_refl _
theorem dk_zero (q : Rat) : dk q.den = 0 ↔ q.den = 1 := by
 have := q.den_nz
 unfold dk; split <;> omega
theorem bl_one : bl 1 = 1 := by have := bl_pow2 0; simpa using this
theorem bl_eq_one {n : Nat} : bl n = 1 ↔ n = 1 := by
 constructor
 ·intro h
  have h1 := lt_bl n
  rw [h] at h1
  have : n ≠ 0 := fun e => by rw [e, bl_zero] at h; omega
  omega
 ·rintro rfl; exact bl_one
theorem beq_bl_one (n : Nat) : (((bl n : Nat) : Int) == 1) = decide (n = 1) := by
 by_cases h : n = 1
 ·rw [decide_eq_true h, bl_eq_one.2 h]; rfl
 ·rw [decide_eq_false h]
  have : bl n ≠ 1 := fun e => h (bl_eq_one.1 e)
  simp; omega
theorem frV_zero (n : Int) : frV n 0 = .agg #[.bool (decide (n < 0)), .int .u64 (lo n.natAbs : Int), .string (moreB n.natAbs), .int .u64 0, .string ⟨#[]⟩] := by
 unfold frV
 rw [moreB_empty (n := 0) (by decide)]; rfl
theorem pack_pv (n : Int) (d : Nat) (hd : big d) : PV prog 110 #[intV n, natV d] (frV n (dk d)) := by
 refine PV.of_pc ?_
 refine BD func110 ntmps110 ?_
 repeat (first | refine RUN ?_ | refine CV (bits_pv d hd) ?_ | refine CE (bits_pv d hd) ?_)
 rw [beq_bl_one]
 by_cases h : d = 1
 ·rw [decide_eq_true h]
  try refine RUN ?_
  rw [h, dk_one, frV_zero]
 ·rw [decide_eq_false h]
  try refine RUN ?_
  rw [dk_ne h]
theorem over_pv (a b : Nat) (ha : big a) (hb : big b) (h0 : b ≠ 0) : PV prog 109 #[natV a, natV b] (natV (a / b)) := by
 refine PV.of_pc ?_
 refine BD func109 ntmps109 ?_
 repeat (first | refine RUN ?_ | refine CV (bits_pv b hb) ?_ | refine CE (bits_pv b hb) ?_)
 rw [beq_bl_one]
 by_cases h : b = 1
 ·rw [decide_eq_true h]
  try refine RUN ?_
  rw [h, Nat.div_one]
 ·rw [decide_eq_false h]
  repeat (first | refine RUN ?_ | refine CV (natDiv_pv a b h0 ha hb) ?_ | refine CE (natDiv_pv a b h0 ha hb) ?_)
  rfl
theorem part_pv (n : Int) (b : Nat) (hn : bigI n) (hb : big b) (h0 : b ≠ 0) (hdv : b ∣ n.natAbs) : PV prog 111 #[intV n, natV b] (intV (n / (b : Int))) := by
 have hs : decide (n.sign < 0) = decide (n < 0) := by rw [decide_eq_decide]; exact Int.sign_neg_iff
 have hf := from_pv (decide (n < 0)) (n.natAbs / b) (Nat.le_trans (bl_div _ _) hn)
 have e : sg (decide (n < 0)) (n.natAbs / b) = n / (b : Int) := by
  rw [part_eq n b hdv]; unfold sg
  by_cases h : n < 0 <;> simp [h]
 rw [e] at hf
 refine PV.of_pc ?_
 refine BD func111 ntmps111 ?_
 try refine RUN ?_
 apply EV.drawn 7 (by kernel_rfl) (by kernel_rfl); intro xv yw
 (repeat (first | refine' DV ?_ | refine' DA ?_ | refine' DK0 ?_ | refine' DT ?_ | (refine' DC (wholeSign_pv n hn) (h := ?_); rotate_left) | refine' DS ?_))
 rw [hs]
 (repeat (first | refine' DV ?_ | refine' DA ?_ | refine' DK0 ?_ | refine' DT ?_ | (refine' DC (wholeAbs_pv n) (h := ?_); rotate_left) | (refine' DC (over_pv _ _ hn hb h0) (h := ?_); rotate_left) | refine' DS ?_))
 (refine DJ.nil (fun G hG hF => ?_); (case hS => rfl); (case hS2 => rfl))
 repeat (first | refine RUN ?_ | refine CV (hf) ?_ | refine CE (hf) ?_)
 rfl
theorem times_pv (n : Int) (d : Nat) (hn : bigI n) (hd : big d) (hnd : big (n.natAbs * d)) : PV prog 108 #[intV n, natV d] (intV (n * d)) := by
 have hm := wholeMul_pv n (d : Int) hn hd (by show big (n * (d : Int)).natAbs; rw [Int.natAbs_mul]; exact hnd)
 refine PV.of_pc ?_
 refine BD func108 ntmps108 ?_
 try refine RUN ?_
 apply EV.drawn 3 (by kernel_rfl) (by kernel_rfl); intro xv yw
 (repeat (first | refine' DV ?_ | refine' DA ?_ | refine' DK0 ?_ | refine' DT ?_ | (refine' DC (from_pv false d hd) (h := ?_); rotate_left) | refine' DS ?_))
 (refine DJ.nil (fun G hG hF => ?_); (case hS => rfl); (case hS2 => rfl))
 repeat (first | refine RUN ?_ | refine CV (hm) ?_ | refine CE (hm) ?_)
 rfl
theorem isWhole_pv (q : Rat) (h : big q.den) : PV prog 106 #[fracV q] (.bool (decide (q.den = 1))) := by
 refine PV.of_pc ?_
 refine BD func106 ntmps106 ?_
 repeat (first | refine RUN ?_ | refine CV (bits_pv (dk q.den) (Nat.le_trans (dk_bl _) h)) ?_ | refine CE (bits_pv (dk q.den) (Nat.le_trans (dk_bl _) h)) ?_)
 have e : (((bl (dk q.den) : Nat) : Int) == 0) = decide (q.den = 1) := by
  by_cases h1 : q.den = 1
  ·rw [decide_eq_true h1, (dk_zero q).2 h1, bl_zero]; rfl
  ·rw [decide_eq_false h1]
   have h2 : bl (dk q.den) ≠ 0 := fun e => h1 ((dk_zero q).1 (bl_eq_zero.1 e))
   simp; omega
 rw [e]
theorem den_pv (q : Rat) (h : big q.den) : PV prog 43 #[fracV q] (natV q.den) := by
 refine PV.of_pc ?_
 refine BD func43 ntmps43 ?_
 repeat (first | refine RUN ?_ | refine CV (isWhole_pv q h) ?_ | refine CE (isWhole_pv q h) ?_)
 by_cases h1 : q.den = 1
 ·rw [decide_eq_true h1]
  repeat (first | refine RUN ?_ | refine CV (natOf_pv 1 (by decide)) ?_ | refine CE (natOf_pv 1 (by decide)) ?_)
  rw [h1]
 ·rw [decide_eq_false h1]
  try refine RUN ?_
  rw [dk_ne h1]
theorem sign_pv (q : Rat) (h : bigI q.num) : PV prog 24 #[fracV q] (.int .i64 q.num.sign) := by
 refine PV.of_pc ?_
 refine BD func24 ntmps24 ?_
 repeat (first | refine RUN ?_ | refine CV (wholeSign_pv q.num h) ?_ | refine CE (wholeSign_pv q.num h) ?_)
 rfl
theorem num_pv (q : Rat) : PV prog 55 #[fracV q] (intV q.num) := by
 refine PV.of_pc ?_
 refine BD func55 ntmps55 ?_
 try refine RUN ?_
 rfl
theorem neg_pv (q : Rat) (h : bigI q.num) : PV prog 45 #[fracV q] (fracV (-q)) := by
 refine PV.of_pc ?_
 refine BD func45 ntmps45 ?_
 try refine RUN ?_
 (apply EV.drawn 5 (by kernel_rfl) (by kernel_rfl); intro xv yw; (repeat (first | refine' DV ?_ | refine' DA ?_ | refine' DK0 ?_ | (refine' DC (wholeNeg_pv q.num h) (h := ?_); rotate_left) | refine' DS ?_)); refine DJ.nil (fun G hG hF => ?_); (case hS => rfl); (case hS2 => rfl))
 try refine RUN ?_
 rfl
theorem of_pv (z : Int) (h1 : -9223372036854775808 ≤ z) (h2 : z < 9223372036854775808) : PV prog 33 #[.int .i64 z] (fracV (z : Rat)) := by
 refine PV.of_pc ?_
 refine BD func33 ntmps33 ?_
 repeat (first | refine RUN ?_ | refine CV (wholeOf_pv z h1 h2) ?_ | refine CE (wholeOf_pv z h1 h2) ?_)
 show _ = frV z 0
 rw [frV_zero]
theorem lowest_pv (n : Int) (d : Nat) (hn : bigI n) (hd : big d) (h0 : d ≠ 0) : PV prog 114 #[intV n, natV d] (fracV (mkRat n d)) := by
 have hl := rat_lowest n d h0
 have hg0 : Nat.gcd n.natAbs d ≠ 0 := Nat.gcd_ne_zero_right h0
 have hgb : big (Nat.gcd n.natAbs d) := Nat.le_trans (bl_gcd_right _ _ h0) hd
 have hg := gcd_pv n (d : Int) hn hd
 have f1 := part_pv n (Nat.gcd n.natAbs d) hn hgb hg0 (Nat.gcd_dvd_left ..)
 have f2 := over_pv d (Nat.gcd n.natAbs d) hd hgb hg0
 have f3 := pack_pv (n / (Nat.gcd n.natAbs d : Nat)) (d / Nat.gcd n.natAbs d) (Nat.le_trans (bl_div _ _) hd)
 rw [← hl.1] at f1
 rw [← hl.2] at f2
 rw [← hl.1, ← hl.2] at f3
 refine PV.of_pc ?_
 refine BD func114 ntmps114 ?_
 try refine RUN ?_
 (apply EV.drawn 5 (by kernel_rfl) (by kernel_rfl); intro xv yw; (repeat (first | refine' DV ?_ | refine' DA ?_ | refine' DK0 ?_ | (refine' DC (from_pv false d hd) (h := ?_); rotate_left) | (refine' DC (hg) (h := ?_); rotate_left) | refine' DS ?_)); refine DJ.nil (fun G hG hF => ?_); (case hS => rfl); (case hS2 => rfl))
 try refine RUN ?_
 (apply EV.drawn 7 (by kernel_rfl) (by kernel_rfl); intro xv yw; (repeat (first | refine' DV ?_ | refine' DA ?_ | refine' DK0 ?_ | (refine' DC (f1) (h := ?_); rotate_left) | (refine' DC (f2) (h := ?_); rotate_left) | (refine' DC (f3) (h := ?_); rotate_left) | refine' DS ?_)); refine DJ.nil (fun G hG hF => ?_); (case hS => rfl); (case hS2 => rfl))
 try refine RUN ?_
 rfl
theorem make_pv (n d : Int) (hn : bigI n) (hd : bigI d) (h0 : d ≠ 0) : PV prog 34 #[intV n, intV d] (.tuple #[fracV (mkRat (if d < 0 then -n else n) d.natAbs), .bool true]) := by
 have l1 := lowest_pv (-n) d.natAbs (by show big (-n).natAbs; rw [Int.natAbs_neg]; exact hn) hd (by omega)
 have l2 := lowest_pv n d.natAbs hn hd (by omega)
 refine PV.of_pc ?_
 refine BD func34 ntmps34 ?_
 repeat (first | refine RUN ?_ | refine CV (wholeSign_pv d hd) ?_ | refine CE (wholeSign_pv d hd) ?_)
 rw [show (d.sign == 0) = false by simp [Int.sign_eq_zero_iff_zero, h0]]
 repeat (first | refine RUN ?_ | refine CV (wholeSign_pv d hd) ?_ | refine CE (wholeSign_pv d hd) ?_)
 by_cases h : d < 0
 ·rw [decide_eq_true (Int.sign_neg_iff.2 h), if_pos h]
  repeat (first | refine RUN ?_ | refine CV (wholeNeg_pv n hn) ?_ | refine CE (wholeNeg_pv n hn) ?_)
  apply EV.drawn 3 (by kernel_rfl) (by kernel_rfl); intro xv yw
  (repeat (first | refine' DV ?_ | refine' DA ?_ | refine' DK0 ?_ | refine' DT ?_ | (refine' DC (wholeAbs_pv d) (h := ?_); rotate_left) | refine' DS ?_))
  (refine DJ.nil (fun G hG hF => ?_); (case hS => rfl); (case hS2 => rfl))
  repeat (first | refine RUN ?_ | refine CV (l1) ?_ | refine CE (l1) ?_)
  rfl
 ·rw [decide_eq_false (fun e => h (Int.sign_neg_iff.1 e)), if_neg h]
  try refine RUN ?_
  apply EV.drawn 3 (by kernel_rfl) (by kernel_rfl); intro xv yw
  (repeat (first | refine' DV ?_ | refine' DA ?_ | refine' DK0 ?_ | refine' DT ?_ | (refine' DC (wholeAbs_pv d) (h := ?_); rotate_left) | refine' DS ?_))
  (refine DJ.nil (fun G hG hF => ?_); (case hS => rfl); (case hS2 => rfl))
  repeat (first | refine RUN ?_ | refine CV (l2) ?_ | refine CE (l2) ?_)
  rfl
abbrev frL (n : Int) (d : Nat) : List Value := [.bool (decide (n < 0)), .int .u64 (lo n.natAbs : Int), .string (moreB n.natAbs), .int .u64 (lo d : Int), .string (moreB d)]
abbrev sm (q : Rat) : Prop := ht q ≤ 100000000
theorem sm.num {q : Rat} (h : sm q) : bl q.num.natAbs ≤ 100000000 := Nat.le_trans (bl_num_le q) h
theorem sm.den {q : Rat} (h : sm q) : bl q.den ≤ 100000000 := Nat.le_trans (bl_den_le q) h
theorem mul_pv (a b : Rat) (ha : sm a) (hb : sm b) : PV prog 42 #[fracV a, fracV b] (fracV (a * b)) := by
 have na := ha.num; have da := ha.den; have nb := hb.num; have db := hb.den
 have bna : bigI a.num := Nat.le_trans na (by omega)
 have bnb : bigI b.num := Nat.le_trans nb (by omega)
 have bda : big a.den := Nat.le_trans da (by omega)
 have bdb : big b.den := Nat.le_trans db (by omega)
 have hm := rat_mul a b _ _ rfl rfl
 generalize hg : Nat.gcd a.num.natAbs b.den = g at hm
 generalize hh : Nat.gcd b.num.natAbs a.den = h at hm
 have hg0 : g ≠ 0 := by rw [← hg]; exact Nat.gcd_ne_zero_right b.den_nz
 have hh0 : h ≠ 0 := by rw [← hh]; exact Nat.gcd_ne_zero_right a.den_nz
 have bg : big g := by rw [← hg]; exact Nat.le_trans (bl_gcd_right _ _ b.den_nz) bdb
 have bh : big h := by rw [← hh]; exact Nat.le_trans (bl_gcd_right _ _ a.den_nz) bda
 have g1 := gcd_pv a.num (b.den : Int) bna bdb
 have g2 := gcd_pv b.num (a.den : Int) bnb bda
 rw [Int.natAbs_natCast, hg] at g1
 rw [Int.natAbs_natCast, hh] at g2
 have p1 := part_pv a.num g bna bg hg0 (by rw [← hg]; exact Nat.gcd_dvd_left ..)
 have p2 := part_pv b.num h bnb bh hh0 (by rw [← hh]; exact Nat.gcd_dvd_left ..)
 have b1 : bl (a.num / (g : Int)).natAbs ≤ 100000000 := Nat.le_trans (bl_mono (natAbs_ediv_le _ _)) na
 have b2 : bl (b.num / (h : Int)).natAbs ≤ 100000000 := Nat.le_trans (bl_mono (natAbs_ediv_le _ _)) nb
 have b3 : bl (a.den / h) ≤ 100000000 := Nat.le_trans (bl_div _ _) da
 have b4 : bl (b.den / g) ≤ 100000000 := Nat.le_trans (bl_div _ _) db
 have m1 := wholeMul_pv (a.num / (g : Int)) (b.num / (h : Int)) (Nat.le_trans b1 (by omega)) (Nat.le_trans b2 (by omega)) (by
  show big (_ * _ : Int).natAbs
  rw [Int.natAbs_mul]; have := bl_mul (a.num / (g : Int)).natAbs (b.num / (h : Int)).natAbs; show bl _ ≤ _; omega)
 have m2 := natMul_pv (a.den / h) (b.den / g) (Nat.le_trans b3 (by omega)) (Nat.le_trans b4 (by omega))
 have pk := pack_pv (a * b).num (a * b).den (by rw [hm.2]; have := bl_mul (a.den / h) (b.den / g); show bl _ ≤ _; omega)
 have o1 := over_pv a.den h bda bh hh0
 have o2 := over_pv b.den g bdb bg hg0
 rw [← hm.1] at m1
 rw [← hm.2] at m2
 have w1 := isWhole_pv a bda
 have w2 := isWhole_pv b bdb
 refine PV.of_pc ?_
 refine BD func42 ntmps42 ?_
 repeat (first | refine RUN ?_ | refine CV (w1) ?_ | refine CE (w1) ?_)
 refine EVL.meet (fun env' bx' H' => SubL env' [(12, .v (.bool (decide (a.den = 1 ∧ b.den = 1)))), (4, .p 4 0), (3, .p 3 0), (2, .p 2 0)] ∧ SubX bx' [(4, 45, Tryz.te45.zero), (3, 45, frL b.num (dk b.den)), (2, 45, frL a.num (dk a.den))] ∧ H' = ⟨fun _ => none, [], ⟨fun _ => none, []⟩⟩) ?_ ?_
 ·rintro env' bx' H' _ ⟨he, hbx, rfl⟩
  refine EV.less _ _ he hbx rfl ?_
  by_cases hab : a.den = 1 ∧ b.den = 1
  ·rw [decide_eq_true hab]
   have e1 : g = 1 := by rw [← hg, hab.2, Nat.gcd_one_right]
   have e2 : h = 1 := by rw [← hh, hab.1, Nat.gcd_one_right]
   have e3 : (a * b).den = 1 := by rw [hm.2, hab.1, hab.2, e1, e2]
   rw [e1, e2] at m1
   simp only [Int.natCast_one, Int.ediv_one] at m1
   repeat (first | refine RUN ?_ | refine CV (m1) ?_ | refine CE (m1) ?_)
   show _ = frV (a * b).num (dk (a * b).den)
   rw [e3, dk_one, frV_zero]
  ·rw [decide_eq_false hab]
   try refine RUN ?_
   have d1 := den_pv a bda
   have d2 := den_pv b bdb
   have s1 := from_pv false a.den bda
   have s2 := from_pv false b.den bdb
   (apply EV.drawn 7 (by kernel_rfl) (by kernel_rfl); intro xv yw; (repeat (first | refine' DV ?_ | refine' DA ?_ | refine' DK0 ?_ | (refine' DC (d2) (h := ?_); rotate_left) | (refine' DC (s2) (h := ?_); rotate_left) | (refine' DC (g1) (h := ?_); rotate_left) | refine' DS ?_)); refine DJ.nil (fun G hG hF => ?_); (case hS => rfl); (case hS2 => rfl))
   try refine RUN ?_
   (apply EV.drawn 7 (by kernel_rfl) (by kernel_rfl); intro xv yw; (repeat (first | refine' DV ?_ | refine' DA ?_ | refine' DK0 ?_ | (refine' DC (d1) (h := ?_); rotate_left) | (refine' DC (s1) (h := ?_); rotate_left) | (refine' DC (g2) (h := ?_); rotate_left) | refine' DS ?_)); refine DJ.nil (fun G hG hF => ?_); (case hS => rfl); (case hS2 => rfl))
   try refine RUN ?_
   apply EV.drawn 16 (by kernel_rfl) (by kernel_rfl); intro xv yw
   (repeat (first | refine' DV ?_ | refine' DA ?_ | refine' DK0 ?_ | refine' DT ?_ | (refine' DC (p1) (h := ?_); rotate_left) | (refine' DC (p2) (h := ?_); rotate_left) | (refine' DC (m1) (h := ?_); rotate_left) | (refine' DC (d1) (h := ?_); rotate_left) | (refine' DC (d2) (h := ?_); rotate_left) | (refine' DC (o1) (h := ?_); rotate_left) | (refine' DC (o2) (h := ?_); rotate_left) | refine' DS ?_))
   (refine DJ.nil (fun G hG hF => ?_); (case hS => rfl); (case hS2 => rfl))
   repeat (first | refine RUN ?_ | refine CV (o2) ?_ | refine CV (m2) ?_ | refine CV (pk) ?_ | refine CE (o2) ?_ | refine CE (m2) ?_ | refine CE (pk) ?_)
   rfl
 ·by_cases ha1 : a.den = 1
  ·rw [decide_eq_true ha1]
   repeat (first | refine RUN ?_ | refine CV (w2) ?_ | refine CE (w2) ?_)
   refine ⟨⟨?_, rfl, rfl, rfl, trivial⟩, ⟨rfl, rfl, rfl, trivial⟩, rfl⟩
   simp [ha1]; rfl
  ·rw [decide_eq_false ha1]
   try refine RUN ?_
   refine ⟨⟨?_, rfl, rfl, rfl, trivial⟩, ⟨rfl, rfl, rfl, trivial⟩, rfl⟩
   simp [ha1]; rfl
theorem add_pv (a b : Rat) (ha : sm a) (hb : sm b) : PV prog 32 #[fracV a, fracV b] (fracV (a + b)) := by
 have na := ha.num; have da := ha.den; have nb := hb.num; have db := hb.den
 have bna : bigI a.num := Nat.le_trans na (by omega)
 have bnb : bigI b.num := Nat.le_trans nb (by omega)
 have bda : big a.den := Nat.le_trans da (by omega)
 have bdb : big b.den := Nat.le_trans db (by omega)
 have hm := rat_add a b _ _ _ _ _ rfl rfl rfl rfl rfl
 generalize hg : Nat.gcd a.den b.den = g at hm
 have hg0 : g ≠ 0 := by rw [← hg]; exact Nat.gcd_ne_zero_right b.den_nz
 have bgl : bl g ≤ 100000000 := by rw [← hg]; exact Nat.le_trans (bl_gcd_right _ _ b.den_nz) db
 have bg : big g := Nat.le_trans bgl (by omega)
 have g1 := gcd_pv (a.den : Int) (b.den : Int) bda bdb
 rw [Int.natAbs_natCast, Int.natAbs_natCast, hg] at g1
 have o1 := over_pv a.den g bda bg hg0
 have o2 := over_pv b.den g bdb bg hg0
 have b1 : bl (a.den / g) ≤ 100000000 := Nat.le_trans (bl_div _ _) da
 have b2 : bl (b.den / g) ≤ 100000000 := Nat.le_trans (bl_div _ _) db
 have hone : a.den = 1 ∧ b.den = 1 → g = 1 ∧ a.den / g = 1 ∧ b.den / g = 1 := fun h => by
  have : g = 1 := by rw [← hg, h.1, h.2]; rfl
  rw [this, h.1, h.2]; exact ⟨rfl, rfl, rfl⟩
 generalize hdown : a.den / g = down at *
 generalize hother : b.den / g = other at *
 have c1 := bl_mul a.num.natAbs other
 have c2 := bl_mul b.num.natAbs down
 have t1 := times_pv a.num other bna (Nat.le_trans b2 (by omega)) (by show bl _ ≤ _; omega)
 have t2 := times_pv b.num down bnb (Nat.le_trans b1 (by omega)) (by show bl _ ≤ _; omega)
 have c1' : bl (a.num * (other : Int)).natAbs ≤ 200000000 := by rw [Int.natAbs_mul]; simp; omega
 have c2' : bl (b.num * (down : Int)).natAbs ≤ 200000000 := by rw [Int.natAbs_mul]; simp; omega
 have c3 := bl_add (a.num * (other : Int)).natAbs (b.num * (down : Int)).natAbs
 have ad := wholeAdd_pv (a.num * (other : Int)) (b.num * (down : Int)) (Nat.le_trans c1' (by omega)) (Nat.le_trans c2' (by omega)) (by show bl _ ≤ _; omega)
 have bup : bl (a.num * (other : Int) + b.num * (down : Int)).natAbs ≤ 200000001 := by
  have := bl_natAbs_add (a.num * (other : Int)) (b.num * (down : Int)); omega
 generalize hup : a.num * (other : Int) + b.num * (down : Int) = up at *
 generalize hh : Nat.gcd up.natAbs g = h at hm
 have hh0 : h ≠ 0 := by rw [← hh]; exact Nat.gcd_ne_zero_right hg0
 have bh : big h := by rw [← hh]; exact Nat.le_trans (bl_gcd_right _ _ hg0) bg
 have g2 := gcd_pv up (g : Int) (Nat.le_trans bup (by omega)) bg
 rw [Int.natAbs_natCast, hh] at g2
 have p1 := part_pv up h (Nat.le_trans bup (by omega)) bh hh0 (by rw [← hh]; exact Nat.gcd_dvd_left ..)
 have o3 := over_pv b.den h bdb bh hh0
 have b4 : bl (b.den / h) ≤ 100000000 := Nat.le_trans (bl_div _ _) db
 have m2 := natMul_pv down (b.den / h) (Nat.le_trans b1 (by omega)) (Nat.le_trans b4 (by omega))
 have pk := pack_pv (a + b).num (a + b).den (by rw [hm.2]; have := bl_mul down (b.den / h); show bl _ ≤ _; omega)
 rw [← hm.1] at p1
 rw [← hm.2] at m2
 have w1 := isWhole_pv a bda
 have w2 := isWhole_pv b bdb
 refine PV.of_pc ?_
 refine BD func32 ntmps32 ?_
 repeat (first | refine RUN ?_ | refine CV (w1) ?_ | refine CE (w1) ?_)
 refine EVL.meet (fun env' bx' H' => SubL env' [(15, .v (.bool (decide (a.den = 1 ∧ b.den = 1)))), (4, .p 4 0), (3, .p 3 0), (2, .p 2 0)] ∧ SubX bx' [(4, 45, Tryz.te45.zero), (3, 45, frL b.num (dk b.den)), (2, 45, frL a.num (dk a.den))] ∧ H' = ⟨fun _ => none, [], ⟨fun _ => none, []⟩⟩) ?_ ?_
 ·rintro env' bx' H' _ ⟨he, hbx, rfl⟩
  refine EV.less _ _ he hbx rfl ?_
  by_cases hab : a.den = 1 ∧ b.den = 1
  ·rw [decide_eq_true hab]
   obtain ⟨e1, e2, e3⟩ := hone hab
   have e4 : h = 1 := by rw [← hh, e1, Nat.gcd_one_right]
   have e5 : (a + b).den = 1 := by rw [hm.2, e2, hab.2, e4]
   have e6 : (a + b).num = a.num + b.num := by rw [hm.1, e4, ← hup, e2, e3]; simp
   have c4 := bl_add a.num.natAbs b.num.natAbs
   have ad' := wholeAdd_pv a.num b.num bna bnb (by show bl _ ≤ _; omega)
   repeat (first | refine RUN ?_ | refine CV (ad') ?_ | refine CE (ad') ?_)
   show _ = frV (a + b).num (dk (a + b).den)
   rw [e5, dk_one, frV_zero, e6]
  ·rw [decide_eq_false hab]
   try refine RUN ?_
   have d1 := den_pv a bda
   have d2 := den_pv b bdb
   have s1 := from_pv false a.den bda
   have s2 := from_pv false b.den bdb
   have s3 := from_pv false g bg
   (apply EV.drawn 8 (by kernel_rfl) (by kernel_rfl); intro xv yw; (repeat (first | refine' DV ?_ | refine' DA ?_ | refine' DK0 ?_ | (refine' DC (d1) (h := ?_); rotate_left) | (refine' DC (s1) (h := ?_); rotate_left) | (refine' DC (d2) (h := ?_); rotate_left) | (refine' DC (s2) (h := ?_); rotate_left) | (refine' DC (g1) (h := ?_); rotate_left) | refine' DS ?_)); refine DJ.nil (fun G hG hF => ?_); (case hS => rfl); (case hS2 => rfl))
   try refine RUN ?_
   (apply EV.drawn 10 (by kernel_rfl) (by kernel_rfl); intro xv yw; (repeat (first | refine' DV ?_ | refine' DA ?_ | refine' DK0 ?_ | (refine' DC (d1) (h := ?_); rotate_left) | (refine' DC (d2) (h := ?_); rotate_left) | (refine' DC (o1) (h := ?_); rotate_left) | (refine' DC (o2) (h := ?_); rotate_left) | refine' DS ?_)); refine DJ.nil (fun G hG hF => ?_); (case hS => rfl); (case hS2 => rfl))
   try refine RUN ?_
   (apply EV.drawn 10 (by kernel_rfl) (by kernel_rfl); intro xv yw; (repeat (first | refine' DV ?_ | refine' DA ?_ | refine' DK0 ?_ | (refine' DC (t1) (h := ?_); rotate_left) | (refine' DC (t2) (h := ?_); rotate_left) | (refine' DC (ad) (h := ?_); rotate_left) | refine' DS ?_)); refine DJ.nil (fun G hG hF => ?_); (case hS => rfl); (case hS2 => rfl))
   try refine RUN ?_
   (apply EV.drawn 5 (by kernel_rfl) (by kernel_rfl); intro xv yw; (repeat (first | refine' DV ?_ | refine' DA ?_ | refine' DK0 ?_ | (refine' DC (s3) (h := ?_); rotate_left) | (refine' DC (g2) (h := ?_); rotate_left) | refine' DS ?_)); refine DJ.nil (fun G hG hF => ?_); (case hS => rfl); (case hS2 => rfl))
   try refine RUN ?_
   (apply EV.drawn 10 (by kernel_rfl) (by kernel_rfl); intro xv yw; (repeat (first | refine' DV ?_ | refine' DA ?_ | refine' DK0 ?_ | (refine' DC (p1) (h := ?_); rotate_left) | (refine' DC (d2) (h := ?_); rotate_left) | (refine' DC (o3) (h := ?_); rotate_left) | (refine' DC (m2) (h := ?_); rotate_left) | (refine' DC (pk) (h := ?_); rotate_left) | refine' DS ?_)); refine DJ.nil (fun G hG hF => ?_); (case hS => rfl); (case hS2 => rfl))
   try refine RUN ?_
   rfl
 ·by_cases ha1 : a.den = 1
  ·rw [decide_eq_true ha1]
   repeat (first | refine RUN ?_ | refine CV (w2) ?_ | refine CE (w2) ?_)
   refine ⟨⟨?_, rfl, rfl, rfl, trivial⟩, ⟨rfl, rfl, rfl, trivial⟩, rfl⟩
   simp [ha1]; rfl
  ·rw [decide_eq_false ha1]
   try refine RUN ?_
   refine ⟨⟨?_, rfl, rfl, rfl, trivial⟩, ⟨rfl, rfl, rfl, trivial⟩, rfl⟩
   simp [ha1]; rfl
theorem sub_pv (a b : Rat) (ha : sm a) (hb : sm b) : PV prog 39 #[fracV a, fracV b] (fracV (a - b)) := by
 have h1 := neg_pv b (Nat.le_trans hb.num (by omega))
 have h2 := add_pv a (-b) ha (by show ht (-b) ≤ _; rw [ht_neg]; exact hb)
 rw [← Rat.sub_eq_add_neg] at h2
 refine PV.of_pc ?_
 refine BD func39 ntmps39 ?_
 try refine RUN ?_
 (apply EV.drawn 4 (by kernel_rfl) (by kernel_rfl); intro xv yw; (repeat (first | refine' DV ?_ | refine' DA ?_ | refine' DK0 ?_ | (refine' DC (h1) (h := ?_); rotate_left) | (refine' DC (h2) (h := ?_); rotate_left) | refine' DS ?_)); refine DJ.nil (fun G hG hF => ?_); (case hS => rfl); (case hS2 => rfl))
 try refine RUN ?_
 rfl
theorem inv_frV (b : Rat) (h : b.num ≠ 0) : frV (sg (decide (b.num < 0)) b.den) (dk b.num.natAbs) = fracV b⁻¹ := by
 have e1 : b⁻¹.num = sg (decide (b.num < 0)) b.den := by
  rw [Rat.num_inv]; unfold sg
  rcases Int.lt_or_lt_of_ne h with h1 | h1
  ·simp [h1, Int.sign_eq_neg_one_of_neg h1]
  ·rw [Int.sign_eq_one_of_pos h1, decide_eq_false (by omega)]; simp
 have e2 : b⁻¹.den = b.num.natAbs := by
  rw [Rat.den_inv, if_neg]
  exact h
 rw [← e1, ← e2]
theorem div_pv (a b : Rat) (ha : sm a) (hb : sm b) (h0 : b ≠ 0) : PV prog 41 #[fracV a, fracV b] (.tuple #[fracV (a / b), .bool true]) := by
 have hn0 : b.num ≠ 0 := fun e => h0 (Rat.num_eq_zero.1 e)
 have bnb : bigI b.num := Nat.le_trans hb.num (by omega)
 have bdb : big b.den := Nat.le_trans hb.den (by omega)
 have hm := mul_pv a b⁻¹ ha (Nat.le_trans (ht_inv b) hb)
 rw [← Rat.div_def] at hm
 have hp := pack_pv (sg (decide (b.num < 0)) b.den) b.num.natAbs bnb
 rw [inv_frV b hn0] at hp
 have s1 := from_pv (decide (b.num < 0)) b.den bdb
 have sg1 := sign_pv b bnb
 have ab := wholeAbs_pv b.num
 have d2 := den_pv b bdb
 refine PV.of_pc ?_
 refine BD func41 ntmps41 ?_
 repeat (first | refine RUN ?_ | refine CV (sg1) ?_ | refine CE (sg1) ?_)
 rw [show (b.num.sign == 0) = false by simp [Int.sign_eq_zero_iff_zero, hn0]]
 try refine RUN ?_
 apply EV.drawn 11 (by kernel_rfl) (by kernel_rfl); intro xv yw
 (repeat (first | refine' DV ?_ | refine' DA ?_ | refine' DK0 ?_ | refine' DT ?_ | (refine' DC (sg1) (h := ?_); rotate_left) | refine' DS ?_))
 rw [show decide (b.num.sign < 0) = decide (b.num < 0) by rw [decide_eq_decide]; exact Int.sign_neg_iff]
 (repeat (first | refine' DV ?_ | refine' DA ?_ | refine' DK0 ?_ | refine' DT ?_ | (refine' DC (d2) (h := ?_); rotate_left) | (refine' DC (s1) (h := ?_); rotate_left) | (refine' DC (ab) (h := ?_); rotate_left) | (refine' DC (hp) (h := ?_); rotate_left) | refine' DS ?_))
 (refine DJ.nil (fun G hG hF => ?_); (case hS => rfl); (case hS2 => rfl))
 repeat (first | refine RUN ?_ | refine CV (hm) ?_ | refine CE (hm) ?_)
 rfl
theorem div_zero_pv (a : Rat) : PV prog 41 #[fracV a, fracV 0] (.tuple #[fracV 0, .bool false]) := by
 have sg1 := sign_pv 0 (by show bl 0 ≤ _; rw [bl_zero]; omega)
 refine PV.of_pc ?_
 refine BD func41 ntmps41 ?_
 repeat (first | refine RUN ?_ | refine CV (sg1) ?_ | refine CE (sg1) ?_)
 show _ = Value.tuple #[frV 0 0, .bool false]
 rw [frV_zero, show (0 : Int).natAbs = 0 from rfl, moreB_empty (n := 0) (by decide)]; rfl
theorem ordZ_scale (x y p q : Int) (hp : 0 < p) (hq : 0 < q) (h : x.sign ≠ y.sign) : ordZ x y = ordZ (x * p) (y * q) := by
 have f1 : x < 0 → x * p < 0 := fun h => Int.mul_neg_of_neg_of_pos h hp
 have f2 : 0 < x → 0 < x * p := fun h => Int.mul_pos h hp
 have f3 : y < 0 → y * q < 0 := fun h => Int.mul_neg_of_neg_of_pos h hq
 have f4 : 0 < y → 0 < y * q := fun h => Int.mul_pos h hq
 have f5 : x = 0 → x * p = 0 := fun h => by rw [h, Int.zero_mul]
 have f6 : y = 0 → y * q = 0 := fun h => by rw [h, Int.zero_mul]
 generalize x * p = u at *
 generalize y * q = v at *
 rcases Int.lt_trichotomy x 0 with hx | hx | hx <;> rcases Int.lt_trichotomy y 0 with hy | hy | hy
 ·exact absurd (by rw [Int.sign_eq_neg_one_of_neg hx, Int.sign_eq_neg_one_of_neg hy]) h
 ·unfold ordZ; rw [if_pos (by omega), if_pos (by have := f1 hx; have := f6 hy; omega)]
 ·unfold ordZ; rw [if_pos (by omega), if_pos (by have := f1 hx; have := f4 hy; omega)]
 ·unfold ordZ; rw [if_neg (by omega), if_pos (by omega), if_neg (by have := f5 hx; have := f3 hy; omega), if_pos (by have := f5 hx; have := f3 hy; omega)]
 ·exact absurd (by rw [hx, hy]) h
 ·unfold ordZ; rw [if_pos (by omega), if_pos (by have := f5 hx; have := f4 hy; omega)]
 ·unfold ordZ; rw [if_neg (by omega), if_pos (by omega), if_neg (by have := f2 hx; have := f3 hy; omega), if_pos (by have := f2 hx; have := f3 hy; omega)]
 ·unfold ordZ; rw [if_neg (by omega), if_pos (by omega), if_neg (by have := f2 hx; have := f6 hy; omega), if_pos (by have := f2 hx; have := f6 hy; omega)]
 ·exact absurd (by rw [Int.sign_eq_one_of_pos hx, Int.sign_eq_one_of_pos hy]) h
theorem sign_ne (a b : Rat) (h : a.num.sign ≠ b.num.sign) : ordZ a.num b.num = ordR a b := by
 have := Nat.pos_of_ne_zero a.den_nz
 have := Nat.pos_of_ne_zero b.den_nz
 rw [ordR_eq]; exact ordZ_scale _ _ _ _ (by omega) (by omega) h
theorem cmp_pv (a b : Rat) (ha : sm a) (hb : sm b) : PV prog 31 #[fracV a, fracV b] (.int .i64 (ordR a b)) := by
 have na := ha.num; have da := ha.den; have nb := hb.num; have db := hb.den
 have bna : bigI a.num := Nat.le_trans na (by omega)
 have bnb : bigI b.num := Nat.le_trans nb (by omega)
 have bda : big a.den := Nat.le_trans da (by omega)
 have bdb : big b.den := Nat.le_trans db (by omega)
 have w1 := isWhole_pv a bda
 have w2 := isWhole_pv b bdb
 have s1 := sign_pv a bna
 have s2 := sign_pv b bnb
 have d1 := den_pv a bda
 have d2 := den_pv b bdb
 have c1 := bl_mul a.num.natAbs b.den
 have c2 := bl_mul b.num.natAbs a.den
 have t1 := times_pv a.num b.den bna bdb (by show bl _ ≤ _; omega)
 have t2 := times_pv b.num a.den bnb bda (by show bl _ ≤ _; omega)
 have k1 := wholeCmp_pv a.num b.num bna bnb
 have k2 := wholeCmp_pv (a.num * (b.den : Int)) (b.num * (a.den : Int)) (by show bl _ ≤ _; rw [Int.natAbs_mul]; simp; omega) (by show bl _ ≤ _; rw [Int.natAbs_mul]; simp; omega)
 rw [← ordR_eq] at k2
 refine PV.of_pc ?_
 refine BD func31 ntmps31 ?_
 try refine RUN ?_
 by_cases ha1 : a.den = 1
 ·rw [decide_eq_true ha1] at w1
  by_cases hb1 : b.den = 1
  ·rw [decide_eq_true hb1] at w2
   have e : ordZ a.num b.num = ordR a b := by rw [ordR_eq, ha1, hb1]; simp
   rw [e] at k1
   apply EV.drawn 10 (by kernel_rfl) (by kernel_rfl); intro xv yw
   (repeat (first | refine' DV ?_ | refine' DA ?_ | refine' DK0 ?_ | refine' DT ?_ | (refine' DC (w1) (h := ?_); rotate_left) | (refine' DC (w2) (h := ?_); rotate_left) | (refine' DC (s1) (h := ?_); rotate_left) | (refine' DC (s2) (h := ?_); rotate_left) | refine' DS ?_))
   (refine DJ.nil (fun G hG hF => ?_); (case hS => rfl); (case hS2 => rfl))
   repeat (first | refine RUN ?_ | refine CV (k1) ?_ | refine CE (k1) ?_)
   rfl
  ·rw [decide_eq_false hb1] at w2
   apply EV.drawn 10 (by kernel_rfl) (by kernel_rfl); intro xv yw
   (repeat (first | refine' DV ?_ | refine' DA ?_ | refine' DK0 ?_ | refine' DT ?_ | (refine' DC (w1) (h := ?_); rotate_left) | (refine' DC (w2) (h := ?_); rotate_left) | (refine' DC (s1) (h := ?_); rotate_left) | (refine' DC (s2) (h := ?_); rotate_left) | refine' DS ?_))
   (refine DJ.nil (fun G hG hF => ?_); (case hS => rfl); (case hS2 => rfl))
   repeat (first | refine RUN ?_ | refine CV (s1) ?_ | refine CV (s2) ?_ | refine CE (s1) ?_ | refine CE (s2) ?_)
   by_cases hs : a.num.sign = b.num.sign
   ·rw [show (a.num.sign != b.num.sign) = false by simp [hs]]
    try refine RUN ?_
    apply EV.drawn 9 (by kernel_rfl) (by kernel_rfl); intro xv yw
    (repeat (first | refine' DV ?_ | refine' DA ?_ | refine' DK0 ?_ | refine' DT ?_ | (refine' DC (d2) (h := ?_); rotate_left) | (refine' DC (t1) (h := ?_); rotate_left) | (refine' DC (d1) (h := ?_); rotate_left) | refine' DS ?_))
    (refine DJ.nil (fun G hG hF => ?_); (case hS => rfl); (case hS2 => rfl))
    repeat (first | refine RUN ?_ | refine CV (t2) ?_ | refine CV (k2) ?_ | refine CE (t2) ?_ | refine CE (k2) ?_)
    rfl
   ·rw [show (a.num.sign != b.num.sign) = true by simp [hs]]
    repeat (first | refine RUN ?_ | refine CV (k1) ?_ | refine CE (k1) ?_)
    rw [sign_ne a b hs]
 ·rw [decide_eq_false ha1] at w1
  apply EV.drawn 10 (by kernel_rfl) (by kernel_rfl); intro xv yw
  (repeat (first | refine' DV ?_ | refine' DA ?_ | refine' DK0 ?_ | refine' DT ?_ | (refine' DC (w1) (h := ?_); rotate_left) | (refine' DC (w2) (h := ?_); rotate_left) | (refine' DC (s1) (h := ?_); rotate_left) | (refine' DC (s2) (h := ?_); rotate_left) | refine' DS ?_))
  (refine DJ.nil (fun G hG hF => ?_); (case hS => rfl); (case hS2 => rfl))
  repeat (first | refine RUN ?_ | refine CV (s1) ?_ | refine CV (s2) ?_ | refine CE (s1) ?_ | refine CE (s2) ?_)
  by_cases hs : a.num.sign = b.num.sign
  ·rw [show (a.num.sign != b.num.sign) = false by simp [hs]]
   try refine RUN ?_
   apply EV.drawn 9 (by kernel_rfl) (by kernel_rfl); intro xv yw
   (repeat (first | refine' DV ?_ | refine' DA ?_ | refine' DK0 ?_ | refine' DT ?_ | (refine' DC (d2) (h := ?_); rotate_left) | (refine' DC (t1) (h := ?_); rotate_left) | (refine' DC (d1) (h := ?_); rotate_left) | refine' DS ?_))
   (refine DJ.nil (fun G hG hF => ?_); (case hS => rfl); (case hS2 => rfl))
   repeat (first | refine RUN ?_ | refine CV (t2) ?_ | refine CV (k2) ?_ | refine CE (t2) ?_ | refine CE (k2) ?_)
   rfl
  ·rw [show (a.num.sign != b.num.sign) = true by simp [hs]]
   repeat (first | refine RUN ?_ | refine CV (k1) ?_ | refine CE (k1) ?_)
   rw [sign_ne a b hs]
theorem pick_pv (z m : Int) (hz : -9223372036854775808 ≤ z ∧ z < 9223372036854775808) (h0 : 0 < m) (hm : m < 4611686018427387904) : PV prog 13 #[.int .i64 z, .int .i64 m] (.int .i64 (z % m)) := by
 have h1 := Int.tmod_lt_of_pos z h0
 have h2 := Int.lt_tmod_of_pos z h0
 have e : z % m = if z.tmod m < 0 then z.tmod m + m else z.tmod m := by
  have hq := Int.mul_tdiv_add_tmod z m
  have e1 : z % m = z.tmod m % m := by
   conv => lhs; rw [← hq]
   rw [Int.mul_add_emod_self_left]
  rw [e1]
  by_cases ht : z.tmod m < 0
  ·rw [if_pos ht, ← Int.add_emod_right, Int.emod_eq_of_lt (by omega) (by omega)]
  ·rw [if_neg ht, Int.emod_eq_of_lt (by omega) h1]
 refine PV.of_pc ?_
 refine BD func13 ntmps13 ?_
 try refine RUN ?_
 refine EVL.remI rfl rfl rfl rfl rfl rfl (by omega) ?_
 generalize z.tmod m = t at *
 try refine RUN ?_
 by_cases ht : t < 0
 ·rw [if_pos ht] at e
  rw [decide_eq_true ht]
  try refine RUN ?_
  rw [e, IntKind.wrap_i64]; congr 1; omega
 ·rw [if_neg ht] at e
  rw [decide_eq_false ht]
  try refine RUN ?_
  rw [e]
theorem min_int (a b : Nat) : (if (b : Int) < (a : Int) then (b : Int) else (a : Int)) = ((min a b : Nat) : Int) := by split <;> omega
theorem oneB_n8 : ∀ l : List Nat, oneB (l.map n8) = true
 | [] => rfl
 | _ :: l => by rw [List.map_cons]; unfold oneB; rw [oneB_n8 l]; rfl
theorem few_pc {v : Value} {l : List Nat} {H : Hp} (h : SlN n8 H v l) (k : Nat) (hk : k ≤ 1000000000) : PC prog 88 #[v, .int .i64 (k : Int)] H fun r H' => SlN n8 H' r (l.take k) := by
 obtain ⟨a, cap, rfl⟩ := SlC.val h
 have hcap : l.length ≤ cap := SlN.le h
 have hsub := SlC.sub h 0 (min l.length k) (Nat.zero_le _) (Nat.min_le_left _ _) hcap
 have hmk : min l.length k ≤ 1000000000 := Nat.le_trans (Nat.min_le_right _ _) hk
 have htk : ((l.map n8).drop (0 * 1)).take ((min l.length k - 0) * 1) = (l.take k).map n8 := by
  rw [Nat.zero_mul, List.drop_zero, Nat.sub_zero, Nat.mul_one, ← List.map_take]
  congr 1
  rw [List.take_eq_take_iff]; omega
 have hlk : (l.take k).length = min l.length k := by rw [List.length_take, Nat.min_comm]
 have hml : min l.length k ≤ l.length := Nat.min_le_left _ _
 rw [htk] at hsub
 have hmi := min_int l.length k
 generalize min l.length k = m at *
 refine BD func88 ntmps88 ?_
 try refine RUN ?_
 refine EVL.lit0 tO rfl rfl rfl rfl rfl rfl rfl fun g0 => ?_
 try refine RUN ?_
 rw [hmi]
 refine EVL.slc (te' := Tryz.te5) tO rfl rfl rfl rfl rfl rfl rfl rfl 0 m (.inl ⟨rfl, rfl⟩) (.inr ⟨_, IntKind.i64, rfl, rfl⟩) (Nat.zero_le _) (by omega) hcap ?_
 rcases Nat.eq_zero_or_pos m with e | e
 ·subst e
  have hnil : l.take k = [] := List.length_eq_zero_iff.1 hlk
  refine EVL.append0 tO rfl rfl rfl rfl rfl rfl rfl rfl rfl (Nat.le_refl _) ?_
  try refine RUN ?_
  rw [hnil]
  exact ⟨rfl, .inl ⟨rfl, _, _, rfl⟩⟩
 ·refine EVL.append tO rfl rfl rfl rfl rfl rfl rfl rfl rfl rfl rfl rfl [] [(g0, 5, [])] [] rfl (OwnL.full (m := 0) rfl (by omega)) (SrcAt.ro hsub e) (oneB_n8 _) (by omega) ?_
  intro v1 ow1 hown1
  (first | refine EVL.publishL [] ow1 [] (rfl) hown1 fun G hG hs => ?_ | refine EV.publishL [] ow1 [] (rfl) hown1 fun G hG hs => ?_)
  try refine RUN ?_
  rw [Nat.zero_add] at hs
  exact own_sl hs hlk
theorem refNatH_pc {H : Hp} {v : Value} {n : Nat} (h : RN H v n) (hn : rsm n) : PC prog 105 #[v] H fun r _ => r = natV n := by
 have hol : (octs n).length ≤ 200000000 := by
  rw [octs_length]
  have := dig_len_bits 8 n (by omega); rw [show (2 : Nat) ^ 8 = 256 by decide] at this; rw [this]
  have : bl n ≤ 800000000 := hn
  omega
 refine BD func105 ntmps105 ?_
 try refine RUN ?_
 refine EVL.call rfl rfl rfl rfl rfl (refBytes_pc h hn) ?_
 rintro r G hr hG
 have hf := natFromBytes_pc hr (octs_dig n) hol
 rw [octs_val] at hf
 repeat (first | refine RUN ?_ | refine CV (hf) ?_ | refine CE (hf) ?_)
 rfl
theorem outNat_pc {H : Hp} (n : Nat) (hn : rsm n) : PC prog 144 #[natV n] H fun r H' => RN H' r n := by
 have hol : (octs n).length ≤ 200000000 := by
  rw [octs_length]
  have := dig_len_bits 8 n (by omega); rw [show (2 : Nat) ^ 8 = 256 by decide] at this; rw [this]
  have : bl n ≤ 800000000 := hn
  omega
 refine BD func144 ntmps144 ?_
 try refine RUN ?_
 refine EVL.call rfl rfl rfl rfl rfl (natBytes_pc n (Nat.le_trans hn (by omega)) H) ?_
 rintro r G hr hG
 have hf := refFrom_pc hr (octs_dig n) hol
 rw [octs_val] at hf
 try refine RUN ?_
 refine EVL.call rfl rfl rfl rfl rfl (hf) ?_
 rintro s G2 hs hG2
 try refine RUN ?_
 exact hs
theorem intH_pc {H : Hp} {v : Value} {z : Int} (h : RI H v z) (hz : rsm z.natAbs) : PC prog 104 #[v] H fun r _ => r = intV z := by
 obtain ⟨sa, sl, sc, rfl, hs⟩ := id h
 have hf := from_pv (decide (z < 0)) z.natAbs (Nat.le_trans hz (by omega))
 rw [sg_dec] at hf
 refine BD func104 ntmps104 ?_
 try refine RUN ?_
 apply EV.drawn 6 (by kernel_rfl) (by kernel_rfl); intro xv yw
 (repeat (first | refine' DV ?_ | refine' DA ?_ | refine' DK0 ?_ | refine' DT ?_ | refine' DS ?_))
 refine' DJ.callS rfl rfl rfl rfl rfl (cO func105) (fun G hG hd => refNatH_pc (RN.mono hs hG) hz) ?_; rotate_left
 (repeat (first | refine' DV ?_ | refine' DA ?_ | refine' DK0 ?_ | refine' DT ?_ | (refine' DC (hf) (h := ?_); rotate_left) | refine' DS ?_))
 (refine DJ.nil (fun G hG hF => ?_); (case hS => rfl); (case hS2 => rfl))
 try refine RUN ?_
 rfl
theorem outInt_pc {H : Hp} (z : Int) (hz : rsm z.natAbs) : PC prog 64 #[intV z] H fun r H' => RI H' r z := by
 have hb : bigI z := Nat.le_trans hz (by omega)
 have e1 : decide (z.sign < 0) = decide (z < 0) := by rw [decide_eq_decide, Int.sign_neg_iff]
 refine BD func64 ntmps64 ?_
 try refine RUN ?_
 apply EV.drawn 7 (by kernel_rfl) (by kernel_rfl); intro xv yw
 (repeat (first | refine' DV ?_ | refine' DA ?_ | refine' DK0 ?_ | refine' DT ?_ | (refine' DC (wholeSign_pv z hb) (h := ?_); rotate_left) | (refine' DC (wholeAbs_pv z) (h := ?_); rotate_left) | refine' DS ?_))
 refine' DJ.call rfl rfl rfl rfl rfl (cO func144) (fun G hG hd => outNat_pc z.natAbs hz) (fun _ _ _ h k => RN.mono h k) ?_; rotate_left
 rw [e1]
 refine' DJ.call rfl rfl rfl rfl rfl (cO func90) (fun G hG hd => refI_pc (decide (z < 0)) (hd.head (by kernel_rfl))) (fun _ _ _ h k => RI.mono h k) ?_; rotate_left
 (refine DJ.nil (fun G hG hF => ?_); (case hS => rfl); (case hS2 => rfl))
 obtain ⟨⟨ra, rl, rc, hr, h1⟩, _⟩ := hF
 rw [sg_dec] at hr h1
 rw [hr]
 try refine RUN ?_
 exact ⟨ra, rl, rc, rfl, h1⟩
theorem in_pc {H : Hp} {v : Value} {q : Rat} (h : RQ H v q) (hq : rq q) : PC prog 25 #[v] H fun r _ => r = fracV q := by
 obtain ⟨sa, sl, sc, ta, tl, tc, rfl, hs, ht⟩ := id h
 have hn := hq.num
 have hd' := hq.den
 have hf := from_pv false q.den (Nat.le_trans hd' (by omega))
 rw [show sg false q.den = (q.den : Int) from rfl] at hf
 have hm := make_pv q.num (q.den : Int) (Nat.le_trans hn (by omega)) (Nat.le_trans hd' (by omega)) (by have := q.den_nz; omega)
 rw [if_neg (by omega), Int.natAbs_natCast, Rat.mkRat_self] at hm
 refine BD func25 ntmps25 ?_
 try refine RUN ?_
 apply EV.drawn 14 (by kernel_rfl) (by kernel_rfl); intro xv yw
 (repeat (first | refine' DV ?_ | refine' DA ?_ | refine' DK0 ?_ | refine' DT ?_ | refine' DS ?_))
 refine' DJ.callS rfl rfl rfl rfl rfl (cO func104) (fun G hG hd => intH_pc (RQ.rnum (RN.mono hs hG)) hn) ?_; rotate_left
 (repeat (first | refine' DV ?_ | refine' DA ?_ | refine' DK0 ?_ | refine' DT ?_ | refine' DS ?_))
 refine' DJ.callS rfl rfl rfl rfl rfl (cO func105) (fun G hG hd => refNatH_pc (RN.mono ht hG) hd') ?_; rotate_left
 (repeat (first | refine' DV ?_ | refine' DA ?_ | refine' DK0 ?_ | refine' DT ?_ | (refine' DC (hf) (h := ?_); rotate_left) | (refine' DC (hm) (h := ?_); rotate_left) | refine' DS ?_))
 (refine DJ.nil (fun G hG hF => ?_); (case hS => rfl); (case hS2 => rfl))
 try refine RUN ?_
 rfl
theorem out_pc {H : Hp} (q : Rat) (hq : rq q) : PC prog 101 #[fracV q] H fun r H' => RQ H' r q := by
 have hn := hq.num
 have hd' := hq.den
 refine BD func101 ntmps101 ?_
 try refine RUN ?_
 apply EV.drawn 6 (by kernel_rfl) (by kernel_rfl); intro xv yw
 (repeat (first | refine' DV ?_ | refine' DA ?_ | refine' DK0 ?_ | refine' DT ?_ | (refine' DC (num_pv q) (h := ?_); rotate_left) | (refine' DC (den_pv q (Nat.le_trans hd' (by omega))) (h := ?_); rotate_left) | refine' DS ?_))
 refine' DJ.call rfl rfl rfl rfl rfl (cO func64) (fun G hG hd => outInt_pc q.num hn) (fun _ _ _ h k => RI.mono h k) ?_; rotate_left
 (repeat (first | refine' DV ?_ | refine' DA ?_ | refine' DK0 ?_ | refine' DT ?_ | (refine' DC (num_pv q) (h := ?_); rotate_left) | (refine' DC (den_pv q (Nat.le_trans hd' (by omega))) (h := ?_); rotate_left) | refine' DS ?_))
 refine' DJ.call rfl rfl rfl rfl rfl (cO func144) (fun G hG hd => outNat_pc q.den hd') (fun _ _ _ h k => RN.mono h k) ?_; rotate_left
 (refine DJ.nil (fun G hG hF => ?_); (case hS => rfl); (case hS2 => rfl))
 obtain ⟨hN, ⟨ra, rl, rc, hr, h1⟩, _⟩ := hF
 obtain ⟨xa, xc, hx⟩ := SlC.val hN
 rw [hx] at hN
 rw [hx, hr]
 try refine RUN ?_
 exact ⟨ra, rl, rc, xa, _, xc, rfl, h1, hN⟩
theorem argsK_vals {α : Type} {env : Env} : ∀ {l : List Operand} {k : List Value → Option α} {r : α}, argsK env l k = some r → ∃ vs, k vs = some r ∧ ∀ ev : Operand → Value, (∀ y x, y ∈ l → env.op y = some (.v x) → ev y = x) → l.map ev = vs
 | [], k, r, h => ⟨[], h, fun _ _ => rfl⟩
 | x :: l, k, r, h => by
  unfold argsK at h
  split at h
  ·rename_i v hv
   obtain ⟨vs, h1, h2⟩ := argsK_vals h
   exact ⟨v :: vs, h1, fun ev he => by rw [List.map_cons, he x v (by simp) hv, h2 ev fun y x hy => he y x (by simp [hy])]⟩
  ·cases h
section
variable {P : Program} {n : Nat} {ops : Array Oper} {o : Oper} {rest : List Oper} {env : Env} {bx : Bxs} {H : Hs} {Q : EQ} {τ : Tab} {d : Nat}
theorem EVL.buildArr {T : TypeId} {parts : Array (Nat × Operand)} (ho : o.op = .build T parts) (hw : wantB ops env o = some true) (hd : o.dst = some d) (hn : Nat.blt d n = true) {vs : List Value} (ha : argsK env (parts.toList.map (·.2)) some = some vs) {cs : List Value}
  (hb : P.built T ((parts.toList.map (·.1)).zip vs) = some cs.toArray) (h : EVL P n ops rest ((d, .v (.agg cs.toArray)) :: env) bx H Q) : EVL P n ops (o :: rest) env bx H Q := by
 refine EVL.gen hw hd hn (fun ev W he => ?_) h
 obtain ⟨vs', e1, h2⟩ := argsK_vals ha
 cases e1
 have h3 := h2 ev fun y x hy => he y x (by rw [ho]; simpa [Op.operands] using hy)
 have h4 : ((parts.map fun (i, x) => (i, ev x)) : Array (Nat × Value)).toList = (parts.toList.map (·.1)).zip vs := by
  rw [← h3, Array.toList_map]
  generalize parts.toList = l
  induction l with
  | nil => rfl
  | cons p l ih => simp only [List.map_cons, List.zip_cons_cons, ih]
 have := run_build (P := P) W T (parts.map fun (i, x) => (i, ev x)) cs.toArray (by rw [h4]; exact hb)
 unfold execOp
 rw [ho]
 simp [this]
theorem EVL.indexArr (hτ : TabOk P τ) {T e : TypeId} {x y : Operand} (ho : o.op = .index T x y) (hw : wantB ops env o = some true) (hd : o.dst = some d) (hn : Nat.blt d n = true) {len : Nat} (hu : P.underlying T = some (.array len e)) {te : TE} (ht : τ.get e = some te) (hag : te.agg = false) (hsz : te.size = 1)
  {cs : List Value} (hx : env.op x = some (.v (.agg cs.toArray))) {k : IntKind} {z : Int} (hy : env.op y = some (.v (.int k z))) (j : Nat) (hz : z = j) (hj : j < len) {v : Value} (hc : cs[j]? = some v)
  (h : EVL P n ops rest ((d, .v v) :: env) bx H Q) : EVL P n ops (o :: rest) env bx H Q := by
 refine EVL.gen hw hd hn (fun ev W he => ?_) h
 have e1 := he x _ (by rw [ho]; simp [Op.operands]) hx
 have e2 := he y _ (by rw [ho]; simp [Op.operands]) hy
 subst hz
 have hp : (part e cs.toArray j).run P W = .ok v W := by simp [part, (hτ.get ht).agg, hag, hc]
 unfold execOp
 simp only [ho, e1, e2, Instr.index, asIntOf, Sem.run_bind, Sem.run_pure, Result.andThen_ok, run_underlying hu]
 rw [if_pos ⟨by omega, by omega⟩]
 simp only [Sem.run_bind, (hτ.get ht).size, Result.andThen_ok, Int.toNat_natCast, hsz, Nat.mul_one, hp]
end
theorem refCmpN_pc {H : Hp} {u v : Value} {a b : Nat} (hu : RN H u a) (hv : RN H v b) (ha : rsm a) : PC prog 102 #[u, v] H fun r _ => r = .int .i64 (ordN a b) := by
 have la := ha.len
 have := refCmpL_pc hu hv (dig_norm B32_two _) (dig_norm B32_two _) (by omega)
 rwa [dig_val B32_two, dig_val B32_two] at this
theorem ordN_eqb (a b : Nat) : (ordN a b == 0) = decide (a = b) := by
 unfold ordN
 rcases Nat.lt_trichotomy a b with h | h | h
 ·rw [if_pos h, decide_eq_false (by omega)]; rfl
 ·rw [if_neg (by omega), if_neg (by omega), decide_eq_true h]; rfl
 ·rw [if_neg (by omega), if_pos h, decide_eq_false (by omega)]; rfl
theorem same_pc {H : Hp} {w : Value} {p q : Rat} (hw : RQ H w q) (hp : rq p) (hq : rq q) : PC prog 23 #[fracV p, w] H fun r _ => r = .bool (decide (p = q)) := by
 obtain ⟨sa, sl, sc, ta, tl, tc, rfl, hs, ht⟩ := id hw
 have hl : (tl : Int) ≠ 0 := by
  have h1 := SlN.cap ht
  have h2 := dig_ne_nil B32_two q.den_nz
  have h3 := List.length_pos_iff.2 h2
  omega
 refine BD func23 ntmps23 ?_
 try refine RUN ?_
 refine EVL.call rfl rfl rfl rfl rfl (out_pc p hp) ?_
 rintro r G ⟨sa', sl', sc', ta', tl', tc', rfl, hs', ht'⟩ hG
 have c1 := refCmpN_pc hs' (RN.mono hs hG) hp.num
 have c2 := refCmpN_pc ht' (RN.mono ht hG) hp.den
 try refine RUN ?_
 rw [show ((tl : Int) == 0) = false by simpa using hl]
 repeat (first | refine RUN ?_ | refine CV (c1) ?_ | refine CE (c1) ?_)
 rw [ordN_eqb]
 by_cases h1 : p.num.natAbs = q.num.natAbs
 ·rw [decide_eq_true h1]
  try refine RUN ?_
  refine EVL.eqb rfl rfl rfl rfl rfl rfl (by kernel_rfl) ?_
  by_cases h2 : decide (p.num < 0) = decide (q.num < 0)
  ·rw [show (decide (p.num < 0) == decide (q.num < 0)) = true by simp [h2]]
   repeat (first | refine RUN ?_ | refine CV (c2) ?_ | refine CE (c2) ?_)
   rw [ordN_eqb]
   congr 1
   have hn : p.num = q.num := by
    rw [decide_eq_decide] at h2; omega
   by_cases h3 : p.den = q.den
   ·rw [decide_eq_true h3, decide_eq_true (Rat.ext hn h3)]
   ·rw [decide_eq_false h3, decide_eq_false (fun e => h3 (by rw [e]))]
  ·rw [show (decide (p.num < 0) == decide (q.num < 0)) = false by simpa using h2]
   try refine RUN ?_
   rw [decide_eq_false (fun e => h2 (by rw [e]))]
 ·rw [decide_eq_false h1]
  try refine RUN ?_
  rw [decide_eq_false (fun e => h1 (by rw [e]))]
def rDen (j : Nat) : Int := [1, 1, 1, 2, 3, 4].getD j 1
def rNum (z : Int) : Rat := Rat.divInt (z % 41 - 20) (rDen (z.tdiv 41 % 6).toNat)
theorem rDen_range (j : Nat) : 1 ≤ rDen j ∧ rDen j ≤ 4 := by
 unfold rDen
 rcases j with _ | _ | _ | _ | _ | _ | j <;> simp [List.getD_eq_getElem?_getD]
theorem r_pc {H : Hp} (z : Int) (hz : -9223372036854775808 ≤ z ∧ z < 9223372036854775808) : PC prog 86 #[.int .i64 z] H fun r H' => RQ H' r (rNum z) := by
 have hq : -9223372036854775808 ≤ z.tdiv 41 ∧ z.tdiv 41 < 9223372036854775808 := by
  by_cases h : 0 ≤ z
  ·rw [Int.tdiv_eq_ediv_of_nonneg h]; omega
  ·have e : z.tdiv 41 = -((-z) / 41) := by rw [← Int.tdiv_eq_ediv_of_nonneg (by omega), Int.neg_tdiv, Int.neg_neg]
   rw [e]; omega
 have hqw : IntKind.i64.wrap (z.tdiv 41) = z.tdiv 41 := by rw [IntKind.wrap_i64]; omega
 have h1 := pick_pv z 41 hz (by omega) (by omega)
 have h2 := pick_pv (z.tdiv 41) 6 hq (by omega) (by omega)
 have m1 := Int.emod_nonneg z (show (41 : Int) ≠ 0 by omega)
 have m2 := Int.emod_lt_of_pos z (show (0 : Int) < 41 by omega)
 obtain ⟨j, hj⟩ := Int.eq_ofNat_of_zero_le (Int.emod_nonneg (z.tdiv 41) (show (6 : Int) ≠ 0 by omega))
 have m3 := Int.emod_lt_of_pos (z.tdiv 41) (show (0 : Int) < 6 by omega)
 have hsub : IntKind.i64.wrap (z % 41 - 20) = z % 41 - 20 := by rw [IntKind.wrap_i64]; omega
 have hrd := rDen_range j
 have hrn : rNum z = Rat.divInt (z % 41 - 20) (rDen j) := by unfold rNum; rw [hj]; rfl
 rw [hrn]
 have hidx : ([.int .i64 1, .int .i64 1, .int .i64 1, .int .i64 2, .int .i64 3, .int .i64 4] : List Value)[j]? = some (.int .i64 (rDen j)) := by
  have hj6 : j < 6 := by omega
  rcases j with _ | _ | _ | _ | _ | _ | j <;> first | rfl | omega
 have ho := fun G : Hp => refOver_pc (H := G) (z % 41 - 20) (rDen j) (by omega) (by omega) (by omega) (by omega) (by omega)
 rw [hj] at h2
 refine BD func86 ntmps86 ?_
 repeat (first | refine RUN ?_ | refine CV (h1) ?_ | refine CE (h1) ?_)
 rw [hsub]
 refine EVL.buildArr rfl rfl rfl rfl rfl (cs := [.int .i64 1, .int .i64 1, .int .i64 1, .int .i64 2, .int .i64 3, .int .i64 4]) (by kernel_rfl) ?_
 try refine RUN ?_
 rw [hqw]
 repeat (first | refine RUN ?_ | refine CV (h2) ?_ | refine CE (h2) ?_)
 refine EVL.indexArr (e := 2) (len := 6) tO rfl rfl rfl rfl (by kernel_rfl) rfl rfl rfl rfl rfl j rfl (show j < 6 by omega) hidx ?_
 refine EVL.call rfl rfl rfl rfl rfl (ho H) ?_
 rintro r G ⟨ra, rl, rc, xa, xl, xc, rfl, hn, hd⟩ hG
 try refine RUN ?_
 exact ⟨ra, rl, rc, xa, xl, xc, rfl, hn, hd⟩
theorem ht_divInt (n d : Int) (h : d ≠ 0) : ht (Rat.divInt n d) ≤ max (bl n.natAbs) (bl d.natAbs) := by
 rw [divInt_mk n d h]
 refine Nat.le_trans (ht_mk _ _ (by omega)) ?_
 have : (if d < 0 then -n else n).natAbs = n.natAbs := by split <;> simp
 rw [this]; exact Nat.le_refl _
theorem ht_rNum (z : Int) : ht (rNum z) ≤ 5 := by
 unfold rNum
 have hrd := rDen_range (z.tdiv 41 % 6).toNat
 have m1 := Int.emod_nonneg z (show (41 : Int) ≠ 0 by omega)
 have m2 := Int.emod_lt_of_pos z (show (0 : Int) < 41 by omega)
 refine Nat.le_trans (ht_divInt _ _ (by omega)) (Nat.max_le.2 ⟨bl_le (by omega), bl_le (by omega)⟩)
theorem bl_few {l : List Nat} (hD : Dig 256 l) : bl (val 256 (l.take 12).reverse) ≤ 96 := by
 apply bl_le
 have h1 := val_lt (hD.take 12).rev
 have h2 : (l.take 12).reverse.length ≤ 12 := by rw [List.length_reverse, List.length_take]; omega
 calc val 256 (l.take 12).reverse < 256 ^ (l.take 12).reverse.length := h1
  _ ≤ 256 ^ 12 := Nat.pow_le_pow_right (by decide) h2
  _ = 2 ^ 96 := by decide
structure RawQ (H : Hp) (v : Value) : Prop where
 ex : ∃ (z : Int) (sa sb : Value) (la lb : List Nat) (neg : Bool), v = .agg #[.int .i64 z, sa, sb, .bool neg] ∧ (-9223372036854775808 ≤ z ∧ z < 9223372036854775808) ∧ SlN n8 H sa la ∧ SlN n8 H sb lb ∧ Dig 256 la ∧ Dig 256 lb
theorem RawQ.mono {H G : Hp} {v : Value} (h : RawQ H v) (k : H.Le G) : RawQ G v := by
 obtain ⟨z, sa, sb, la, lb, neg, e, hz, h1, h2, h3⟩ := h.ex
 exact ⟨z, sa, sb, la, lb, neg, e, hz, SlN.mono h1 k, SlN.mono h2 k, h3⟩
theorem one_pc {H : Hp} {v : Value} (h : RawQ H v) : PC prog 12 #[v] H fun r H' => ∃ q, ht q ≤ 200 ∧ RQ H' r q := by
 obtain ⟨z, sa, sb, la, lb, neg, rfl, hz, ha, hb, hDa, hDb⟩ := h.ex
 obtain ⟨aa, ca, rfl⟩ := SlC.val ha
 obtain ⟨ab, cb, rfl⟩ := SlC.val hb
 refine BD func12 ntmps12 ?_
 try refine RUN ?_
 refine EV.cond rfl (fun h0 => ?_) (fun h0 => ?_)
 ·simp only [nN] at h0
  try refine RUN ?_
  refine EVL.call rfl rfl rfl rfl rfl (r_pc z hz) ?_
  rintro r G ⟨ra, rl, rc, xa, xl, xc, rfl, hn, hd⟩ hG
  try refine RUN ?_
  exact ⟨rNum z, Nat.le_trans (ht_rNum z) (by omega), ra, rl, rc, xa, xl, xc, rfl, hn, hd⟩
 ·simp only [nN] at h0
  try refine RUN ?_
  refine EVL.call rfl rfl rfl rfl rfl (few_pc hb 12 (by omega)) ?_
  rintro s G1 hs hG1
  try refine RUN ?_
  refine EVL.call rfl rfl rfl rfl rfl (refFrom_pc hs (hDb.take 12) (by rw [List.length_take]; omega)) ?_
  rintro t G2 ht hG2
  have hbl := bl_few hDb
  generalize val 256 (lb.take 12).reverse = D at *
  have hlz : (dig B32 D).length = 0 ↔ D = 0 := ⟨dig_len_zero B32_two, fun e => by rw [e, dig_zero]; rfl⟩
  have hcp := fun a l c (e : t = .slice a l c) => SlN.cap (e ▸ ht)
  obtain ⟨ta, tc, hte⟩ := SlC.val ht
  generalize hle : (dig B32 D).length = l at *
  subst hte
  try refine RUN ?_
  refine EV.meetK (ι := Value × Nat) [1, 2] [1, 2] (fun i => [(3, .v i.1)]) (fun _ => []) (fun _ => []) (fun i G => G2.Le G ∧ RN G i.1 i.2 ∧ i.2 ≠ 0 ∧ bl i.2 ≤ 96) rfl rfl (fun _ => rfl) ?_ ?_
  ·refine EV.cond rfl (fun hz0 => ?_) (fun hz0 => ?_)
   ·simp only [nN] at hz0
    try refine RUN ?_
    refine EVL.call rfl rfl rfl rfl rfl (refNatOf_pc 1 (by decide) G2) ?_
    rintro u G3 hu hG3
    try refine RUN ?_
    exact ⟨(u, 1), ⟨rfl, trivial⟩, (by repeat (first | exact trivial | refine And.intro rfl ?_)), trivial, (by repeat (first | exact trivial | refine And.intro rfl ?_)), rfl, hG3, hu, Nat.one_ne_zero, by rw [bl_one']; omega⟩
   ·simp only [nN] at hz0
    try refine RUN ?_
    exact ⟨(_, D), ⟨rfl, trivial⟩, (by repeat (first | exact trivial | refine And.intro rfl ?_)), trivial, (by repeat (first | exact trivial | refine And.intro rfl ?_)), rfl, Hp.Le.refl _, ht, fun e => hz0 (by have := hlz.2 e; omega), hbl⟩
  ·rintro ⟨u, D'⟩ G3 ⟨hG3, hu, hD0, hDb'⟩
   dsimp only at hu hD0 hDb'
   have h03 : H.Le G3 := (hG1.trans hG2).trans hG3
   have hbA := bl_few hDa
   try refine RUN ?_
   apply EV.drawn 10 (by kernel_rfl) (by kernel_rfl); intro xv yw
   (repeat (first | refine' DV ?_ | refine' DA ?_ | refine' DK0 ?_ | refine' DT ?_ | refine' DS ?_))
   refine' DJ.call rfl rfl rfl rfl rfl (cO func88) (fun G hG hd => few_pc (SlN.mono ha (h03.trans hG)) 12 (by omega)) (fun _ _ _ h k => SlN.mono h k) ?_; rotate_left
   refine' DJ.call rfl rfl rfl rfl rfl (cO func87) (fun G hG hd => refFrom_pc (hd.head (by kernel_rfl)) (hDa.take 12) (by rw [List.length_take]; omega)) (fun _ _ _ h k => RN.mono h k) ?_; rotate_left
   refine' DJ.call rfl rfl rfl rfl rfl (cO func90) (fun G hG hd => refI_pc neg (hd.head (by kernel_rfl))) (fun _ _ _ h k => RI.mono h k) ?_; rotate_left
   (repeat (first | refine' DV ?_ | refine' DA ?_ | refine' DK0 ?_ | refine' DT ?_ | refine' DS ?_))
   refine' DJ.call rfl rfl rfl rfl rfl (cO func90) (fun G hG hd => refI_pc false (RN.mono hu hG)) (fun _ _ _ h k => RI.mono h k) ?_; rotate_left
   refine' DJ.call rfl rfl rfl rfl rfl (cO func89) (fun G hG hd => refMake_pc (hd.tail.head (by kernel_rfl)) (hd.head (by kernel_rfl)) (by rw [sg_natAbs]; exact Nat.le_trans hbA (by omega)) (by rw [sg_natAbs]; exact Nat.le_trans hDb' (by omega)) (by show ((D' : Nat) : Int) ≠ 0; omega)) (fun _ _ _ h k => RQ.mono h k) ?_; rotate_left
   (refine DJ.nil (fun G5 hG5 hF5 => ?_); (case hS => rfl); (case hS2 => rfl))
   obtain ⟨⟨ra, rl, rc, xa, xl, xc, hr, h1, h2⟩, _⟩ := hF5
   rw [hr]
   try refine RUN ?_
   refine ⟨_, ?_, ra, rl, rc, xa, xl, xc, rfl, h1, h2⟩
   refine Nat.le_trans (ht_divInt _ _ (by show ((D' : Nat) : Int) ≠ 0; omega)) ?_
   rw [sg_natAbs, sg_natAbs]
   omega
theorem floor_pv (a : Rat) (ha : sm a) : PV prog 58 #[fracV a] (intV (a.num / (a.den : Int))) := by
 have na := ha.num
 have bda : big a.den := Nat.le_trans ha.den (by omega)
 have c := bl_add a.num.natAbs 1
 have hd := wholeDiv_pv a.num (a.den : Int) (by have := a.den_nz; omega) (by have := bl_one; show bl _ ≤ _; omega) bda
 rw [Int.fdiv_eq_ediv_of_nonneg _ (Int.natCast_nonneg _)] at hd
 have d1 := den_pv a bda
 have s1 := from_pv false a.den bda
 refine PV.of_pc ?_
 refine BD func58 ntmps58 ?_
 try refine RUN ?_
 (apply EV.drawn 14 (by kernel_rfl) (by kernel_rfl); intro xv yw; (repeat (first | refine' DV ?_ | refine' DA ?_ | refine' DK0 ?_ | (refine' DC (d1) (h := ?_); rotate_left) | (refine' DC (s1) (h := ?_); rotate_left) | (refine' DC (hd) (h := ?_); rotate_left) | refine' DS ?_)); refine DJ.nil (fun G hG hF => ?_); (case hS => rfl); (case hS2 => rfl))
 try refine RUN ?_
 rfl
def nearN (n : Int) (d : Nat) : Int :=
 let q := n / (d : Int)
 let r := n % (d : Int)
 if ordZ (r + r) d = 0 then (if q % 2 = 0 then q else q + 1) else if 0 < ordZ (r + r) d then q + 1 else q
def kb (z : Int) : Nat := (max 0 (min z 256)).toNat
theorem near_pv (a : Rat) (ha : sm a) (z : Int) (hz : -9223372036854775808 ≤ z ∧ z < 9223372036854775808) : PV prog 38 #[fracV a, .int .i64 z] (fracV (mkRat (nearN (a.num * (2 ^ kb z : Nat)) a.den) (2 ^ kb z))) := by
 have hk : kb z ≤ 256 := by unfold kb; omega
 have na := ha.num; have da := ha.den
 have bna : bigI a.num := Nat.le_trans na (by omega)
 have bda : big a.den := Nat.le_trans da (by omega)
 have hn1 := natOf_pv 1 (by decide)
 have hb1 : big 1 := by show bl 1 ≤ _; rw [bl_one]; omega
 have sh := natShift_up 1 (kb z) (by omega) hb1
 rw [Nat.one_mul] at sh
 have hkz : (if (if (256 : Int) < z then 256 else z) > 0 then (if (256 : Int) < z then 256 else z) else 0) = ((kb z : Nat) : Int) := by unfold kb; split <;> split <;> omega
 have hp := bl_pow2 (kb z)
 have bu : big (2 ^ kb z) := by show bl _ ≤ _; omega
 have d1 := den_pv a bda
 have s1 := from_pv false a.den bda
 generalize hN : a.num * ((2 ^ kb z : Nat) : Int) = N at *
 have cN := bl_mul a.num.natAbs (2 ^ kb z)
 have bN : bl N.natAbs ≤ 200000000 := by rw [← hN, Int.natAbs_mul, Int.natAbs_natCast]; omega
 have t1 := times_pv a.num (2 ^ kb z) bna bu (by show bl _ ≤ _; omega)
 rw [hN] at t1
 have dn0 := a.den_nz
 have hd := wholeDiv_pv N (a.den : Int) (by omega) (by have := bl_add N.natAbs 1; have := bl_one; show bl _ ≤ _; omega) bda
 rw [Int.fdiv_eq_ediv_of_nonneg _ (Int.natCast_nonneg _), Int.fmod_eq_emod_of_nonneg _ (Int.natCast_nonneg _)] at hd
 have hr1 := Int.emod_nonneg N (show (a.den : Int) ≠ 0 by omega)
 have hr2 := Int.emod_lt_of_pos N (show (0 : Int) < a.den by omega)
 have br : bl (N % (a.den : Int)).natAbs ≤ 100000000 := Nat.le_trans (bl_mono (by omega)) da
 have cr := bl_add (N % (a.den : Int)).natAbs (N % (a.den : Int)).natAbs
 have ad := wholeAdd_pv (N % (a.den : Int)) (N % (a.den : Int)) (Nat.le_trans br (by omega)) (Nat.le_trans br (by omega)) (by show bl _ ≤ _; omega)
 have brr : bl (N % (a.den : Int) + N % (a.den : Int)).natAbs ≤ 100000001 := by have := bl_natAbs_add (N % (a.den : Int)) (N % (a.den : Int)); omega
 have ck := wholeCmp_pv (N % (a.den : Int) + N % (a.den : Int)) (a.den : Int) (Nat.le_trans brr (by omega)) bda
 have bq : bl (N / (a.den : Int)).natAbs ≤ 200000000 := Nat.le_trans (bl_mono (natAbs_ediv_le _ _)) bN
 have w1 := wholeOf_pv 1 (by omega) (by omega)
 have w2 := wholeOf_pv 2 (by omega) (by omega)
 have cq := bl_add (N / (a.den : Int)).natAbs 1
 have hd2 := wholeDiv_pv (N / (a.den : Int)) 2 (by omega) (by have := bl_one; show bl _ ≤ _; omega) (by decide +kernel)
 rw [Int.fdiv_eq_ediv_of_nonneg _ (by omega), Int.fmod_eq_emod_of_nonneg _ (by omega)] at hd2
 have sg2 := wholeSign_pv (N / (a.den : Int) % 2) (Nat.le_trans (bl_mono (show _ ≤ 1 by omega)) hb1)
 have bq1 : bl (N / (a.den : Int) + 1).natAbs ≤ 200000001 := by have := bl_natAbs_add (N / (a.den : Int)) 1; rw [show (1 : Int).natAbs = 1 from rfl, bl_one] at this; omega
 have ad1 := wholeAdd_pv (N / (a.den : Int)) 1 (Nat.le_trans bq (by omega)) hb1 (by have := bl_one; show bl (_ + 1) ≤ _; omega)
 have l0 := lowest_pv (N / (a.den : Int)) (2 ^ kb z) (Nat.le_trans bq (by omega)) bu (Nat.ne_of_gt (Nat.pow_pos (by omega)))
 have l1 := lowest_pv (N / (a.den : Int) + 1) (2 ^ kb z) (Nat.le_trans bq1 (by omega)) bu (Nat.ne_of_gt (Nat.pow_pos (by omega)))
 refine PV.of_pc ?_
 refine BD func38 ntmps38 ?_
 try refine RUN ?_
 rw [hkz]
 repeat (first | refine RUN ?_ | refine CV (hn1) ?_ | refine CV (sh) ?_ | refine CV (d1) ?_ | refine CV (s1) ?_ | refine CE (hn1) ?_ | refine CE (sh) ?_ | refine CE (d1) ?_ | refine CE (s1) ?_)
 (apply EV.drawn 14 (by kernel_rfl) (by kernel_rfl); intro xv yw; (repeat (first | refine' DV ?_ | refine' DA ?_ | refine' DK0 ?_ | (refine' DC (t1) (h := ?_); rotate_left) | (refine' DC (hd) (h := ?_); rotate_left) | refine' DS ?_)); refine DJ.nil (fun G hG hF => ?_); (case hS => rfl); (case hS2 => rfl))
 try refine RUN ?_
 (apply EV.drawn 4 (by kernel_rfl) (by kernel_rfl); intro xv yw; (repeat (first | refine' DV ?_ | refine' DA ?_ | refine' DK0 ?_ | (refine' DC (ad) (h := ?_); rotate_left) | refine' DS ?_)); refine DJ.nil (fun G hG hF => ?_); (case hS => rfl); (case hS2 => rfl))
 repeat (first | refine RUN ?_ | refine CV (ck) ?_ | refine CE (ck) ?_)
 generalize ho : ordZ (N % (a.den : Int) + N % (a.den : Int)) (a.den : Int) = o at *
 have nh : nearN N a.den = if o = 0 then (if (N / (a.den : Int)) % 2 = 0 then N / (a.den : Int) else N / (a.den : Int) + 1) else if 0 < o then N / (a.den : Int) + 1 else N / (a.den : Int) := by unfold nearN; simp only [ho]
 rw [nh]
 by_cases h0 : o = 0
 ·rw [if_pos h0, show (o == 0) = true by simp [h0]]
  try refine RUN ?_
  (apply EV.drawn 11 (by kernel_rfl) (by kernel_rfl); intro xv yw; (repeat (first | refine' DV ?_ | refine' DA ?_ | refine' DK0 ?_ | (refine' DC (w2) (h := ?_); rotate_left) | (refine' DC (hd2) (h := ?_); rotate_left) | refine' DS ?_)); refine DJ.nil (fun G hG hF => ?_); (case hS => rfl); (case hS2 => rfl))
  repeat (first | refine RUN ?_ | refine CV (sg2) ?_ | refine CE (sg2) ?_)
  by_cases h2 : (N / (a.den : Int)) % 2 = 0
  ·rw [if_pos h2, show decide ((N / (a.den : Int) % 2).sign > 0) = false by rw [h2]; rfl]
   repeat (first | refine RUN ?_ | refine CV (l0) ?_ | refine CE (l0) ?_)
   rfl
  ·rw [if_neg h2, show decide ((N / (a.den : Int) % 2).sign > 0) = true by rw [show N / (a.den : Int) % 2 = 1 by omega]; rfl]
   try refine RUN ?_
   (apply EV.drawn 2 (by kernel_rfl) (by kernel_rfl); intro xv yw; (repeat (first | refine' DV ?_ | refine' DA ?_ | refine' DK0 ?_ | (refine' DC (w1) (h := ?_); rotate_left) | refine' DS ?_)); refine DJ.nil (fun G hG hF => ?_); (case hS => rfl); (case hS2 => rfl))
   repeat (first | refine RUN ?_ | refine CV (ad1) ?_ | refine CV (l1) ?_ | refine CE (ad1) ?_ | refine CE (l1) ?_)
   rfl
 ·rw [if_neg h0, show (o == 0) = false by simp [h0]]
  try refine RUN ?_
  by_cases h2 : 0 < o
  ·rw [if_pos h2, show decide (o > 0) = true by simpa using h2]
   try refine RUN ?_
   (apply EV.drawn 2 (by kernel_rfl) (by kernel_rfl); intro xv yw; (repeat (first | refine' DV ?_ | refine' DA ?_ | refine' DK0 ?_ | (refine' DC (w1) (h := ?_); rotate_left) | refine' DS ?_)); refine DJ.nil (fun G hG hF => ?_); (case hS => rfl); (case hS2 => rfl))
   repeat (first | refine RUN ?_ | refine CV (ad1) ?_ | refine CV (l1) ?_ | refine CE (ad1) ?_ | refine CE (l1) ?_)
   rfl
  ·rw [if_neg h2, show decide (o > 0) = false by simpa using h2]
   repeat (first | refine RUN ?_ | refine CV (l0) ?_ | refine CE (l0) ?_)
   rfl
theorem same_self {H : Hp} {w : Value} {p : Rat} (hw : RQ H w p) (hp : rq p) : PC prog 23 #[fracV p, w] H fun r _ => r = .bool true := by
 have := same_pc hw hp hp
 rwa [decide_eq_true rfl] at this
theorem rq_small {q : Rat} {k : Nat} (h : ht q ≤ k) (hk : k ≤ 100000000) : rq q := Nat.le_trans h hk
section
variable {P : Program} {n : Nat} {ops : Array Oper} {o : Oper} {rest : List Oper} {env : Env} {bx : Bxs} {H : Hs} {Q : EQ} {τ : Tab} {d : Nat}
end
structure Nrst (N n : Int) (d : Nat) : Prop where
 up : 2 * (N * d - n) ≤ d
 down : 2 * (n - N * d) ≤ d
 tieU : 2 * (N * d - n) = d → N % 2 = 0
 tieD : 2 * (n - N * d) = d → N % 2 = 0
theorem nearN_spec (n : Int) (d : Nat) (h : 0 < d) : Nrst (nearN n d) n d := by
 have h1 := Int.mul_ediv_add_emod n (d : Int)
 have h2 := Int.emod_nonneg n (show (d : Int) ≠ 0 by omega)
 have h3 := Int.emod_lt_of_pos n (show (0 : Int) < d by omega)
 unfold nearN
 simp only
 generalize n / (d : Int) = q at *
 generalize n % (d : Int) = r at *
 have e : ∀ N : Int, N * (d : Int) - n = (N - q) * d - r := fun N => by rw [Int.sub_mul, ← h1, Int.mul_comm (d : Int) q]; omega
 have e' : ∀ N : Int, n - N * (d : Int) = (q - N) * d + r := fun N => by rw [Int.sub_mul, ← h1, Int.mul_comm (d : Int) q]; omega
 have c0 : (q - q) * (d : Int) = 0 := by rw [Int.sub_self, Int.zero_mul]
 have c1 : (q + 1 - q) * (d : Int) = d := by rw [show q + 1 - q = 1 by omega, Int.one_mul]
 have c2 : (q - (q + 1)) * (d : Int) = -d := by rw [show q - (q + 1) = -1 by omega, Int.neg_one_mul]
 rcases Int.lt_trichotomy (r + r) d with hr | hr | hr
 ·rw [show ordZ (r + r) d = -1 by unfold ordZ; rw [if_pos hr], if_neg (by decide), if_neg (by decide)]
  exact ⟨by rw [e, c0]; omega, by rw [e', c0]; omega, fun h => by rw [e, c0] at h; omega, fun h => by rw [e', c0] at h; omega⟩
 ·rw [show ordZ (r + r) d = 0 by unfold ordZ; rw [if_neg (by omega), if_neg (by omega)], if_pos rfl]
  by_cases hq : q % 2 = 0
  ·rw [if_pos hq]
   exact ⟨by rw [e, c0]; omega, by rw [e', c0]; omega, fun _ => hq, fun _ => hq⟩
  ·rw [if_neg hq]
   exact ⟨by rw [e, c1]; omega, by rw [e', c2]; omega, fun _ => by omega, fun _ => by omega⟩
 ·rw [show ordZ (r + r) d = 1 by unfold ordZ; rw [if_neg (by omega), if_pos hr], if_neg (by decide), if_pos (by decide)]
  exact ⟨by rw [e, c1]; omega, by rw [e', c2]; omega, fun h => by rw [e, c1] at h; omega, fun h => by rw [e', c2] at h; omega⟩
theorem Nrst.le {N N' n n' : Int} {d d' : Nat} (h : Nrst N n d) (h' : Nrst N' n' d') (hd : 0 < d) (hd' : 0 < d') (hle : n * d' ≤ n' * d) : N ≤ N' := by
 rcases (by omega : N' < N ∨ N ≤ N') with hlt | hge
 ·exfalso
  have hdd : (0 : Int) < (d : Int) * d' := Int.mul_pos (by omega) (by omega)
  have a1 : (2 * N - 1) * d ≤ 2 * n := by have := h.up; rw [Int.sub_mul, Int.one_mul, Int.mul_assoc]; omega
  have a2 : 2 * n' ≤ (2 * N' + 1) * d' := by have := h'.down; rw [Int.add_mul, Int.one_mul, Int.mul_assoc]; omega
  have b1 : (2 * N - 1) * d * d' ≤ 2 * n * d' := Int.mul_le_mul_of_nonneg_right a1 (by omega)
  have b2 : 2 * n' * d ≤ (2 * N' + 1) * d' * d := Int.mul_le_mul_of_nonneg_right a2 (by omega)
  have b3 : 2 * n * d' ≤ 2 * n' * d := by rw [Int.mul_assoc, Int.mul_assoc]; omega
  have b4 : (2 * N' + 1) * d' * d = (2 * N' + 1) * (d * d') := by rw [Int.mul_assoc, Int.mul_comm (d' : Int)]
  have b5 : (2 * N - 1) * d * d' = (2 * N - 1) * (d * d') := by rw [Int.mul_assoc]
  have b6 : (2 * N' + 1) * ((d : Int) * d') ≤ (2 * N - 1) * (d * d') := Int.mul_le_mul_of_nonneg_right (by omega) (by omega)
  have t1 : (2 * N - 1) * d * d' = 2 * n * d' := by omega
  have t2 : 2 * n' * d = (2 * N' + 1) * d' * d := by omega
  have t3 : (2 * N - 1) * (d : Int) = 2 * n := Int.eq_of_mul_eq_mul_right (by omega) t1
  have t4 : 2 * n' = (2 * N' + 1) * (d' : Int) := Int.eq_of_mul_eq_mul_right (by omega) t2
  have t5 : (2 * N' + 1) * ((d : Int) * d') = (2 * N - 1) * (d * d') := by omega
  have t6 : 2 * N' + 1 = 2 * N - 1 := Int.eq_of_mul_eq_mul_right (by omega) t5
  have p1 := h.tieU (by rw [Int.sub_mul, Int.one_mul, Int.mul_assoc] at t3; omega)
  have p2 := h'.tieD (by rw [Int.add_mul, Int.one_mul, Int.mul_assoc] at t4; omega)
  omega
 ·exact hge
theorem Nrst.eq {N N' n n' : Int} {d d' : Nat} (h : Nrst N n d) (h' : Nrst N' n' d') (hd : 0 < d) (hd' : 0 < d') (he : n * d' = n' * d) : N = N' :=
 Int.le_antisymm (h.le h' hd hd' (by omega)) (h'.le h hd' hd (by omega))
def nr (k : Nat) (a : Rat) : Rat := mkRat (nearN (a.num * (2 ^ k : Nat)) a.den) (2 ^ k)
def nrN (k : Nat) (a : Rat) : Int := nearN (a.num * (2 ^ k : Nat)) a.den
theorem nrN_spec (k : Nat) (a : Rat) : Nrst (nrN k a) (a.num * (2 ^ k : Nat)) a.den := nearN_spec _ _ (Nat.pos_of_ne_zero a.den_nz)
theorem num_den (a : Rat) : (a.num : Rat) = a * (a.den : Rat) := by
 have h : (a.den : Rat) ≠ 0 := by exact_mod_cast a.den_nz
 have := Rat.num_divInt_den a
 rw [Rat.divInt_eq_div] at this
 have h2 : (a.num : Rat) / ((a.den : Int) : Rat) = a := this
 rw [show ((a.den : Int) : Rat) = (a.den : Rat) from rfl] at h2
 grind
theorem nrN_abs (k : Nat) (a : Rat) : (nrN k a).natAbs ≤ (a.num * (2 ^ k : Nat)).natAbs + 1 := by
 have h := nrN_spec k a
 have hd := Nat.pos_of_ne_zero a.den_nz
 have h1 := h.up
 have h2 := h.down
 generalize nrN k a = N at *
 generalize a.num * ((2 ^ k : Nat) : Int) = m at *
 generalize a.den = d at *
 rcases Int.lt_trichotomy N 0 with hN | hN | hN
 ·have h3 := Int.mul_le_mul_of_nonneg_left (show (1 : Int) ≤ d by omega) (show 0 ≤ -N - 1 by omega)
  rw [Int.mul_one, Int.sub_mul, Int.one_mul, Int.neg_mul] at h3
  omega
 ·subst hN; omega
 ·have h3 := Int.mul_le_mul_of_nonneg_left (show (1 : Int) ≤ d by omega) (show 0 ≤ N - 1 by omega)
  rw [Int.mul_one, Int.sub_mul, Int.one_mul] at h3
  omega
theorem ht_nr (k : Nat) (a : Rat) : ht (nr k a) ≤ ht a + k + 2 := by
 unfold nr
 refine Nat.le_trans (ht_mk _ _ (by have := Nat.two_pow_pos k; omega)) (Nat.max_le.2 ⟨?_, ?_⟩)
 ·have h1 := bl_mono (nrN_abs k a)
  have h2 := bl_add (a.num * ((2 ^ k : Nat) : Int)).natAbs 1
  rw [bl_one'] at h2
  have h3 : bl (a.num * ((2 ^ k : Nat) : Int)).natAbs ≤ bl a.num.natAbs + (k + 1) := by
   rw [Int.natAbs_mul, Int.natAbs_natCast, ← bl_pow2 k]; exact bl_mul _ _
  have h4 := bl_num_le a
  have h5 := bl_pos (n := 1) (by decide)
  change bl (nrN k a).natAbs ≤ _
  omega
 ·rw [bl_pow2]; omega
theorem ri_cells {H : Hp} {v : Value} {z : Int} (h : RI H v z) : (vlist v).length = 2 ∧ oneB (vlist v) = true := by
 obtain ⟨a, l, c, rfl, _⟩ := h
 exact ⟨rfl, rfl⟩
theorem refFloor_pc {H : Hp} {u : Value} {a : Rat} (hu : RQ H u a) (ha : rq a) : PC prog 61 #[u] H fun r H' => RI H' r (a.num / (a.den : Int)) := by
 obtain ⟨sa, sl, sc, ta, tl, tc, rfl, hs, ht⟩ := id hu
 have h1 : rsm (a.num.natAbs + 1) := by
  have := bl_num_le a; have := bl_add a.num.natAbs 1; rw [bl_one'] at this; unfold rq at ha; unfold rsm; omega
 have h2 : rsm (a.num.natAbs + (a.den : Int).natAbs) := by
  have := bl_num_le a; have := bl_den_le a; have := bl_add a.num.natAbs (a.den : Int).natAbs; rw [Int.natAbs_natCast] at *; unfold rq at ha; unfold rsm; omega
 have h3 : ((a.den : Nat) : Int) ≠ 0 := by have := a.den_nz; omega
 have hfd : a.num.fdiv (a.den : Int) = a.num / (a.den : Int) := Int.fdiv_eq_ediv_of_nonneg _ (by omega)
 rw [← hfd]
 refine BD func61 ntmps61 ?_
 try refine RUN ?_
 apply EV.drawn 12 (by kernel_rfl) (by kernel_rfl); intro xv yw
 (repeat (first | refine' DV ?_ | refine' DA ?_ | refine' DK0 ?_ | refine' DT ?_ | refine' DS ?_))
 refine' DJ.call rfl rfl rfl rfl rfl (cO func129) (fun G hG hd => refDen_pc (hu.mono hG)) (fun _ _ _ h k => RI.mono h k) ?_; rotate_left
 refine' DJ.call rfl rfl rfl rfl rfl (cO func140) (fun G hG hd => refIntDiv_pc (RQ.rnum (RN.mono hs hG)) (hd.head (by kernel_rfl)) h1 ha.den h2 h3) (fun _ _ _ h k => (by obtain ⟨x, y, e, hx, hy⟩ := h; exact ⟨x, y, e, hx.mono k, hy.mono k⟩)) ?_; rotate_left
 refine' DJ.copy (4) (by first | exact .inl rfl | exact .inr rfl) rfl rfl rfl id rfl (by kernel_rfl) ?_; rotate_left
 refine' DJ.extract (4) rfl rfl rfl rfl rfl (by kernel_rfl) (fun G hd => (by obtain ⟨x, y, e, _⟩ := hd.head (by kernel_rfl); exact ⟨_, e, Nat.zero_lt_succ _⟩)) ?_; rotate_left
 refine' DJ.extract (4) rfl rfl rfl rfl rfl (by kernel_rfl) (fun G hd => (by obtain ⟨x, y, e, _⟩ := hd.head (by kernel_rfl); exact ⟨_, e, Nat.lt_succ_self _⟩)) ?_; rotate_left
 (repeat (first | refine' DV ?_ | refine' DA ?_ | refine' DK0 ?_ | refine' DT ?_ | refine' DS ?_))
 refine' DJ.storeD tO rfl rfl rfl rfl (4) (tupAt 0) rfl rfl (8) rfl rfl (by kernel_rfl) (by kernel_rfl) rfl (fun G hd => (by obtain ⟨x, y, e, hx, _⟩ := hd.head (by kernel_rfl); rw [e]; exact ri_cells hx)) ?_; rotate_left
 refine' DJ.storeD tO rfl rfl rfl rfl (4) (tupAt 1) rfl rfl (9) rfl rfl (by kernel_rfl) (by kernel_rfl) rfl (fun G hd => (by obtain ⟨x, y, e, _, hy⟩ := hd.head (by kernel_rfl); rw [e]; exact ri_cells hy)) ?_; rotate_left
 (refine DJ.nil (fun G hG hF => ?_); (case hS => rfl); (case hS2 => rfl))
 obtain ⟨⟨x, y, e, ⟨ra, rl, rc, rfl, hr⟩, ⟨ra', rl', rc', rfl, hr'⟩⟩, _⟩ := hF
 rw [e]
 try refine RUN ?_
 exact ⟨ra, rl, rc, rfl, hr⟩
def InS (lo hi : Rat) (oL oH e : Bool) (t : Rat) : Prop := (if oL then lo < t else lo ≤ t) ∧ (e = true ∨ (if oH then t < hi else t ≤ hi))
structure Best (P : Rat → Prop) (r : Rat) : Prop where
 mem : P r
 den : ∀ t, P t → r.den ≤ t.den
 num : ∀ t, P t → r.num ≤ t.num
theorem flip_nd (f : Int) (u : Rat) (hu : 0 < u) : ((f : Rat) + 1 / u).den = u.num.toNat ∧ ((f : Rat) + 1 / u).num = f * u.num + (u.den : Int) := by
  have hn : 0 < u.num := by have h := (Rat.lt_iff 0 u).1 hu; simpa using h
  obtain ⟨n, hn'⟩ := Int.eq_ofNat_of_zero_le (Int.le_of_lt hn)
  have hpos : 0 < n := by omega
  have e1 : u = (u.num : Rat) / (u.den : Rat) := by
    have h : (u.den : Rat) ≠ 0 := by exact_mod_cast u.den_nz
    rw [num_den u]; grind
  have hd0 : (u.den : Rat) ≠ 0 := by exact_mod_cast u.den_nz
  have hc : Nat.Coprime (f * u.num + (u.den : Int)).natAbs n := by
    have := u.reduced
    rw [hn', Int.natAbs_natCast] at this
    rw [hn']
    show Int.gcd (f * (n : Int) + (u.den : Int)) (n : Int) = 1
    rw [Int.gcd_comm, show f * (n : Int) + (u.den : Int) = (u.den : Int) + (n : Int) * f by rw [Int.mul_comm]; omega, Int.gcd_add_mul_left_right]
    exact this
  have e2 : (f : Rat) + 1 / u = mkRat (f * u.num + (u.den : Int)) n := by
    rw [Rat.mkRat_eq_div]
    have hnr : ((n : Nat) : Rat) ≠ 0 := by have : n ≠ 0 := by omega
                                           exact_mod_cast this
    have hun : (u.num : Rat) = ((n : Nat) : Rat) := by rw [hn']; rfl
    have hu2 := num_den u
    rw [hun] at hu2
    push_cast
    rw [hun]
    have : u ≠ 0 := by grind
    grind
  have e3 : mkRat (f * u.num + (u.den : Int)) n = ⟨f * u.num + (u.den : Int), n, by omega, hc⟩ := by
    rw [← Rat.mk_eq_mkRat]
  rw [e2, e3]
  exact ⟨by show n = _; omega, rfl⟩
theorem ile {a b : Rat} (ha : 0 < a) (hb : 0 < b) : 1 / a ≤ 1 / b ↔ b ≤ a := by
 have e1 : 1 / a * (a * b) = b := by grind
 have e2 : 1 / b * (a * b) = a := by grind
 have hab : 0 < a * b := Rat.mul_pos ha hb
 constructor
 ·intro h
  have := Rat.mul_le_mul_of_nonneg_right h (Rat.le_of_lt hab)
  rwa [e1, e2] at this
 ·intro h
  refine Rat.le_of_mul_le_mul_right ?_ hab
  rwa [e1, e2]
theorem ilt {a b : Rat} (ha : 0 < a) (hb : 0 < b) : 1 / a < 1 / b ↔ b < a := by
 have := ile hb ha
 constructor
 ·intro h
  rcases Rat.le_total (a := a) (b := b) with k | k
  ·exact absurd h (Rat.not_lt.2 (this.2 k))
  ·rcases Rat.le_iff_lt_or_eq.1 k with k | k
   ·exact k
   ·subst k; exact absurd h Rat.lt_irrefl
 ·intro h
  refine Rat.not_le.1 (fun k => ?_)
  exact absurd (this.1 k) (Rat.not_le.2 h)
theorem ipos {a : Rat} (ha : 0 < a) : 0 < 1 / a := by
 refine Rat.not_le.1 (fun h => ?_)
 have := Rat.mul_le_mul_of_nonneg_right h (Rat.le_of_lt ha)
 have e : 1 / a * a = 1 := by grind
 rw [e] at this
 exact absurd this (by rw [Rat.zero_mul]; decide)
theorem npos {u : Rat} (hu : 0 < u) : 0 < u.num := by have h := (Rat.lt_iff 0 u).1 hu; simpa using h
theorem first_best (lo hi : Rat) (oL oH e : Bool) (h0 : 0 ≤ lo) (F : Int) (hF : InS lo hi oL oH e (F : Rat)) (hle : ((F : Rat) - 1) ≤ lo) (hlo : oL = false → (F : Rat) - 1 < lo) : Best (InS lo hi oL oH e) (F : Rat) := by
 refine ⟨hF, fun t _ => ?_, fun t ht => ?_⟩
 ·show 1 ≤ t.den
  exact Nat.pos_of_ne_zero t.den_nz
 ·show F ≤ t.num
  have hd := Nat.pos_of_ne_zero t.den_nz
  have hdr : (0 : Rat) < (t.den : Rat) := by exact_mod_cast hd
  have h1 : (F : Rat) - 1 < t := by
   have := ht.1
   cases oL
   ·have k := hlo rfl
    simp only [Bool.false_eq_true, if_false] at this
    grind
   ·simp only [if_true] at this
    grind
  have h2 : ((F : Rat) - 1) * (t.den : Rat) < (t.num : Rat) := by
   rw [num_den t]; exact Rat.mul_lt_mul_of_pos_right h1 hdr
  have h3 : (F - 1) * (t.den : Int) < t.num := by exact_mod_cast h2
  have h4 : 0 ≤ t.num := by
   have : (0 : Rat) ≤ t := by
    have := ht.1
    cases oL
    ·simp only [Bool.false_eq_true, if_false] at this; grind
    ·simp only [if_true] at this; grind
   exact Rat.num_nonneg.2 this
  rcases Int.lt_or_le 0 F with hp | hp
  ·have := Int.mul_le_mul_of_nonneg_left (show (1 : Int) ≤ (t.den : Int) by omega) (show 0 ≤ F - 1 by omega)
   rw [Int.mul_one] at this
   omega
  ·omega
theorem inner_iff (lo hi : Rat) (oL oH : Bool) (f : Int) (hf : (f : Rat) ≤ lo) (hh : (f : Rat) < hi) (u : Rat) (hu : 0 < u) (hs : (f : Rat) = lo → oL = true ∨ True) :
  InS lo hi oL oH false ((f : Rat) + 1 / u) ↔ InS (1 / (hi - f)) (1 / (lo - f)) oH oL (decide (lo = (f : Rat))) u := by
 have hp := ipos hu
 have huu : 1 / (1 / u) = u := by grind
 have hb : 0 < hi - f := by grind
 have k1 := ile (a := hi - f) (b := 1 / u) hb hp
 have k2 := ilt (a := hi - f) (b := 1 / u) hb hp
 rw [huu] at k1 k2
 have m1 : (f : Rat) + 1 / u ≤ hi ↔ 1 / u ≤ hi - f := by constructor <;> intro h <;> grind
 have m2 : (f : Rat) + 1 / u < hi ↔ 1 / u < hi - f := by constructor <;> intro h <;> grind
 have c2 : (false = true ∨ (if oH then (f : Rat) + 1 / u < hi else (f : Rat) + 1 / u ≤ hi)) ↔ (if oH then 1 / (hi - f) < u else 1 / (hi - f) ≤ u) := by
  cases oH
  ·simp only [Bool.false_eq_true, if_false, false_or]; rw [k1, m1]
  ·simp only [Bool.false_eq_true, if_true, false_or]; rw [k2, m2]
 have c1 : (if oL then lo < (f : Rat) + 1 / u else lo ≤ (f : Rat) + 1 / u) ↔ (decide (lo = (f : Rat)) = true ∨ (if oL then u < 1 / (lo - f) else u ≤ 1 / (lo - f))) := by
  by_cases he : lo = (f : Rat)
  ·rw [decide_eq_true he]
   simp only [true_or, iff_true]
   rw [he]
   cases oL
   ·simp only [Bool.false_eq_true, if_false]; grind
   ·simp only [if_true]; grind
  ·have ha : 0 < lo - f := by grind
   have j1 := ile (a := 1 / u) (b := lo - f) hp ha
   have j2 := ilt (a := 1 / u) (b := lo - f) hp ha
   rw [huu] at j1 j2
   have n1 : lo ≤ (f : Rat) + 1 / u ↔ lo - f ≤ 1 / u := by constructor <;> intro h <;> grind
   have n2 : lo < (f : Rat) + 1 / u ↔ lo - f < 1 / u := by constructor <;> intro h <;> grind
   rw [decide_eq_false he]
   cases oL
   ·simp only [Bool.false_eq_true, if_false, false_or]; rw [j1, n1]
   ·simp only [Bool.false_eq_true, if_true, false_or]; rw [j2, n2]
 unfold InS
 rw [c1, c2]
 exact And.comm
theorem step_best (lo hi : Rat) (oL oH : Bool) (f : Int) (h0 : 0 ≤ f) (hf : (f : Rat) ≤ lo) (hlh : lo < hi) (hno : ¬ InS lo hi oL oH false (f : Rat)) (y : Rat)
  (hy : Best (InS (1 / (hi - f)) (1 / (lo - f)) oH oL (decide (lo = (f : Rat)))) y) : Best (InS lo hi oL oH false) ((f : Rat) + 1 / y) := by
 have hh : (f : Rat) < hi := by grind
 have hpos : ∀ u, InS (1 / (hi - f)) (1 / (lo - f)) oH oL (decide (lo = (f : Rat))) u → 0 < u := fun u hu => by
  have hb : 0 < hi - f := by grind
  have := ipos hb
  have h1 := hu.1
  cases oH
  ·simp only [Bool.false_eq_true, if_false] at h1; grind
  ·simp only [if_true] at h1; grind
 have hy0 := hpos y hy.mem
 have nd := flip_nd f y hy0
 have key : ∀ t, InS lo hi oL oH false t → ∃ u, 0 < u ∧ t = (f : Rat) + 1 / u ∧ InS (1 / (hi - f)) (1 / (lo - f)) oH oL (decide (lo = (f : Rat))) u := fun t ht => by
  have hft : (f : Rat) < t := by
   refine Rat.not_le.1 (fun k => hno ?_)
   have : t = (f : Rat) := by
    have h1 := ht.1
    cases oL
    ·simp only [Bool.false_eq_true, if_false] at h1; grind
    ·simp only [if_true] at h1; grind
   rwa [← this]
  have hp : 0 < t - f := by grind
  refine ⟨1 / (t - f), ipos hp, by grind, ?_⟩
  have e : (f : Rat) + 1 / (1 / (t - f)) = t := by grind
  rw [← inner_iff lo hi oL oH f hf hh _ (ipos hp) (fun _ => Or.inr trivial), e]
  exact ht
 refine ⟨(inner_iff lo hi oL oH f hf hh y hy0 (fun _ => Or.inr trivial)).2 hy.mem, fun t ht => ?_, fun t ht => ?_⟩
 ·obtain ⟨u, hu0, rfl, hu⟩ := key t ht
  rw [nd.1, (flip_nd f u hu0).1]
  have := hy.num u hu
  omega
 ·obtain ⟨u, hu0, rfl, hu⟩ := key t ht
  rw [nd.2, (flip_nd f u hu0).2]
  have h1 := hy.num u hu
  have h2 := hy.den u hu
  have := Int.mul_le_mul_of_nonneg_left h1 h0
  omega
theorem simp_ht (lo hi : Rat) (oL oH : Bool) (h0 : 0 ≤ lo) (hlh : lo < hi) {r : Rat} (h : Best (InS lo hi oL oH false) r) : ht r ≤ max (ht lo) (ht hi) + 1 := by
 have hl := Nat.pos_of_ne_zero lo.den_nz
 have hh := Nat.pos_of_ne_zero hi.den_nz
 have a1 : (0 : Rat) < (lo.den : Rat) := by exact_mod_cast hl
 have a2 : (0 : Rat) < (hi.den : Rat) := by exact_mod_cast hh
 have e1 := num_den lo
 have e2 := num_den hi
 have hne : lo.den + hi.den ≠ 0 := by omega
 have hm : mkRat (lo.num + hi.num) (lo.den + hi.den) * ((lo.den : Rat) + (hi.den : Rat)) = lo * (lo.den : Rat) + hi * (hi.den : Rat) := by
  rw [Rat.mkRat_eq_div]
  push_cast
  rw [e1, e2]
  grind
 have hs : (0 : Rat) < (lo.den : Rat) + (hi.den : Rat) := by grind
 have p1 : 0 < (hi - lo) * (hi.den : Rat) := Rat.mul_pos (by grind) a2
 have p2 : 0 < (hi - lo) * (lo.den : Rat) := Rat.mul_pos (by grind) a1
 generalize hmd : mkRat (lo.num + hi.num) (lo.den + hi.den) = m at *
 have l1 : lo < m := Rat.lt_of_mul_lt_mul_right (c := (lo.den : Rat) + (hi.den : Rat)) (by rw [hm]; grind) (Rat.le_of_lt hs)
 have l2 : m < hi := Rat.lt_of_mul_lt_mul_right (c := (lo.den : Rat) + (hi.den : Rat)) (by rw [hm]; grind) (Rat.le_of_lt hs)
 have hin : InS lo hi oL oH false m := by
  unfold InS
  refine ⟨?_, Or.inr ?_⟩
  ·cases oL
   ·simp only [Bool.false_eq_true, if_false]; exact Rat.le_of_lt l1
   ·simp only [if_true]; exact l1
  ·cases oH
   ·simp only [Bool.false_eq_true, if_false]; exact Rat.le_of_lt l2
   ·simp only [if_true]; exact l2
 have d := h.den m hin
 have n := h.num m hin
 have r0 : 0 ≤ r.num := Rat.num_nonneg.2 (by
  have := h.mem.1
  cases oL
  ·simp only [Bool.false_eq_true, if_false] at this; grind
  ·simp only [if_true] at this; grind)
 have hb := ht_mk (lo.num + hi.num) (lo.den + hi.den) hne
 rw [hmd] at hb
 have g1 := bl_natAbs_add lo.num hi.num
 have g2 := bl_add lo.den hi.den
 have g3 : bl r.num.natAbs ≤ bl m.num.natAbs := bl_mono (by omega)
 have g4 : bl r.den ≤ bl m.den := bl_mono d
 unfold ht at *
 omega
theorem shift_nd (f : Int) (h : Rat) : (h - (f : Rat)).den = h.den ∧ (h - (f : Rat)).num = h.num - f * (h.den : Int) := by
 have hd0 : (h.den : Rat) ≠ 0 := by exact_mod_cast h.den_nz
 have hc : Nat.Coprime (h.num - f * (h.den : Int)).natAbs h.den := by
  have := h.reduced
  show Int.gcd (h.num - f * (h.den : Int)) (h.den : Int) = 1
  rw [show h.num - f * (h.den : Int) = h.num + (h.den : Int) * (-f) by rw [Int.mul_neg, Int.mul_comm]; omega, Int.gcd_comm, Int.gcd_add_mul_left_right, Int.gcd_comm]
  exact this
 have e2 : h - (f : Rat) = mkRat (h.num - f * (h.den : Int)) h.den := by
  rw [Rat.mkRat_eq_div]
  have := num_den h
  push_cast
  rw [this]
  grind
 have e3 : mkRat (h.num - f * (h.den : Int)) h.den = ⟨h.num - f * (h.den : Int), h.den, h.den_nz, hc⟩ := by
  rw [← Rat.mk_eq_mkRat]
 rw [e2, e3]
 exact ⟨rfl, rfl⟩
theorem inv_nd (u : Rat) (hu : 0 < u) : (1 / u).den = u.num.toNat ∧ (1 / u).num = (u.den : Int) := by
 have := flip_nd 0 u hu
 rw [show ((0 : Int) : Rat) + 1 / u = 1 / u by push_cast; grind] at this
 exact ⟨this.1, by rw [this.2]; omega⟩
theorem inner_nd (f : Int) (h : Rat) (h1 : (f : Rat) < h) : (1 / (h - f)).num = (h.den : Int) ∧ ((1 / (h - f)).den : Int) = h.num - f * (h.den : Int) := by
 have hp : 0 < h - (f : Rat) := by grind
 have s := shift_nd f h
 have v := inv_nd _ hp
 have := npos hp
 rw [v.2, v.1, s.1]
 rw [s.2] at this ⊢
 exact ⟨rfl, by omega⟩
theorem inner_den (f : Int) (h : Rat) (h1 : (f : Rat) < h) (h2 : h ≤ (f : Rat) + 1) : (1 / (h - f)).den ≤ h.den := by
 have n := inner_nd f h h1
 have hd := Nat.pos_of_ne_zero h.den_nz
 have hdr : (0 : Rat) ≤ (h.den : Rat) := by exact_mod_cast Nat.zero_le _
 have h3 := Rat.mul_le_mul_of_nonneg_right h2 hdr
 rw [← num_den h] at h3
 have h4 : h.num ≤ (f + 1) * (h.den : Int) := by exact_mod_cast h3
 rw [Int.add_mul, Int.one_mul] at h4
 omega
theorem inner_den_lt (f : Int) (h : Rat) (h1 : (f : Rat) < h) (h2 : h < (f : Rat) + 1) : (1 / (h - f)).den < h.den := by
 have n := inner_nd f h h1
 have hd := Nat.pos_of_ne_zero h.den_nz
 have hdr : (0 : Rat) < (h.den : Rat) := by exact_mod_cast hd
 have h3 := Rat.mul_lt_mul_of_pos_right h2 hdr
 rw [← num_den h] at h3
 have h4 : h.num < (f + 1) * (h.den : Int) := by exact_mod_cast h3
 rw [Int.add_mul, Int.one_mul] at h4
 omega
theorem inner_ht (f : Int) (h : Rat) (h1 : (f : Rat) < h) (h2 : h ≤ (f : Rat) + 1) : ht (1 / (h - f)) ≤ ht h := by
 have n := inner_nd f h h1
 have d := bl_mono (inner_den f h h1 h2)
 have k : ht (1 / (h - f)) = max (bl (1 / (h - f)).num.natAbs) (bl (1 / (h - f)).den) := rfl
 have k2 : ht h = max (bl h.num.natAbs) (bl h.den) := rfl
 rw [n.1, Int.natAbs_natCast] at k
 omega
def spanV (l h : Rat) (a b e : Bool) : Value := .agg #[.bool (decide (l.num < 0)), .int .u64 (lo l.num.natAbs : Int), .string (moreB l.num.natAbs), .int .u64 (lo (dk l.den) : Int), .string (moreB (dk l.den)), .bool (decide (h.num < 0)), .int .u64 (lo h.num.natAbs : Int), .string (moreB h.num.natAbs), .int .u64 (lo (dk h.den) : Int), .string (moreB (dk h.den)), .bool a, .bool b, .bool e]
theorem ordR_zero (a b : Rat) : ordR a b = 0 ↔ a = b := by
 unfold ordR
 constructor
 ·intro h
  split at h
  ·exact absurd h (by decide)
  ·split at h
   ·exact absurd h (by decide)
   ·rename_i h1 h2; exact Rat.le_antisymm (Rat.not_lt.1 h2) (Rat.not_lt.1 h1)
 ·rintro rfl; rw [if_neg Rat.lt_irrefl, if_neg Rat.lt_irrefl]
theorem cmp_int (f : Int) (l : Rat) (sf : sm (f : Rat)) (sl : sm l) : PV prog 31 #[.agg #[.bool (decide (f < 0)), .int .u64 (lo f.natAbs : Int), .string (moreB f.natAbs), .int .u64 0, .string ⟨#[]⟩], fracV l] (.int .i64 (ordR (f : Rat) l)) := by
 have := cmp_pv (f : Rat) l sf sl
 rwa [show fracV (f : Rat) = _ from frV_zero f] at this
theorem bl_ediv (n : Int) (d : Nat) : bl (n / (d : Int)).natAbs ≤ bl n.natAbs := bl_mono (natAbs_ediv_le n d)
theorem sm_int {f : Int} (h : bl f.natAbs ≤ 1000) : sm (f : Rat) := by
 show max (bl f.natAbs) (bl 1) ≤ _
 rw [bl_one']; omega
def firstZ (l : Rat) (a : Bool) : Int := if a || decide (((l.num / (l.den : Int) : Int) : Rat) ≠ l) then l.num / (l.den : Int) + 1 else l.num / (l.den : Int)
theorem simplest_end {H : Hp} (l : Rat) (hl : ht l ≤ 500) (a b : Bool) : PC prog 135 #[spanV l 0 a b true] H fun r _ => r = fracV (firstZ l a : Rat) := by
 have sl : sm l := by unfold sm; omega
 have hfl := floor_pv l sl
 have hb := bl_ediv l.num l.den
 unfold firstZ
 generalize l.num / (l.den : Int) = f at *
 have h1 := bl_num_le l
 have hf : bl f.natAbs ≤ 501 := by omega
 have hcmp := cmp_int f l (sm_int (by omega)) sl
 have hz := ordR_zero (f : Rat) l
 have hof := wholeOf_pv 1 (by omega) (by omega)
 have hadd := wholeAdd_pv f 1 (Nat.le_trans hf (by omega)) (by show bl 1 ≤ _; rw [bl_one']; omega) (by have := bl_add f.natAbs 1; rw [bl_one'] at this; show bl (f.natAbs + 1) ≤ _; omega)
 rw [show fracV (((if a || decide ((f : Rat) ≠ l) then f + 1 else f) : Int) : Rat) = _ from frV_zero _]
 generalize hFF : (if (a || decide ((f : Rat) ≠ l)) = true then f + 1 else f) = F
 generalize ordR (f : Rat) l = o at *
 refine BD func135 ntmps135 ?_
 cases a
 ·by_cases h : (f : Rat) = l
  ·rw [hz.2 h] at hcmp
   repeat (first | refine RUN ?_ | refine CV (hfl) ?_ | refine CV (hcmp) ?_ | refine CE (hfl) ?_ | refine CE (hcmp) ?_)
   rw [show F = f by rw [← hFF]; simp [h]]
   rfl
  ·have ho : o ≠ 0 := fun e => h (hz.1 e)
   repeat (first | refine RUN ?_ | refine CV (hfl) ?_ | refine CV (hcmp) ?_ | refine CE (hfl) ?_ | refine CE (hcmp) ?_)
   rw [show (o != 0) = true by simpa using ho]
   try refine RUN ?_
   apply EV.drawnK [1, 2, 3, 4] [4] [1, 2, 3] 6 rfl rfl rfl rfl (by kernel_rfl) (by kernel_rfl); intro xv yw
   (repeat (first | refine' DV ?_ | refine' DA ?_ | refine' DK0 ?_ | refine' DT ?_ | (refine' DC (hof) (h := ?_); rotate_left) | (refine' DC (hadd) (h := ?_); rotate_left) | refine' DS ?_))
   (refine DJ.nil (fun G hG hF => ?_); (case hS => rfl); (case hS2 => rfl); (case hD => rfl))
   try refine RUN ?_
   rw [show F = f + 1 by rw [← hFF]; simp [h]]
   rfl
 ·repeat (first | refine RUN ?_ | refine CV (hfl) ?_ | refine CE (hfl) ?_)
  apply EV.drawnK [1, 2, 3, 4] [4] [1, 2, 3] 6 rfl rfl rfl rfl (by kernel_rfl) (by kernel_rfl); intro xv yw
  (repeat (first | refine' DV ?_ | refine' DA ?_ | refine' DK0 ?_ | refine' DT ?_ | (refine' DC (hof) (h := ?_); rotate_left) | (refine' DC (hadd) (h := ?_); rotate_left) | refine' DS ?_))
  (refine DJ.nil (fun G hG hF => ?_); (case hS => rfl); (case hS2 => rfl); (case hD => rfl))
  try refine RUN ?_
  rw [show F = f + 1 by rw [← hFF]; simp]
  rfl
theorem simplest_in {H : Hp} (l h : Rat) (hl : ht l ≤ 400) (hh : ht h ≤ 400) (a b : Bool) (hin : if b then (firstZ l a : Rat) < h else (firstZ l a : Rat) ≤ h) : PC prog 135 #[spanV l h a b false] H fun r _ => r = fracV (firstZ l a : Rat) := by
 have sl : sm l := by unfold sm; omega
 have sh : sm h := by unfold sm; omega
 have hfl := floor_pv l sl
 have hb := bl_ediv l.num l.den
 unfold firstZ at hin ⊢
 generalize l.num / (l.den : Int) = f at *
 have h1 := bl_num_le l
 have hf : bl f.natAbs ≤ 400 := by omega
 have hcmp := cmp_int f l (sm_int (by omega)) sl
 have hz := ordR_zero (f : Rat) l
 have hof := wholeOf_pv 1 (by omega) (by omega)
 have hadd := wholeAdd_pv f 1 (Nat.le_trans hf (by omega)) (by show bl 1 ≤ _; rw [bl_one']; omega) (by have := bl_add f.natAbs 1; rw [bl_one'] at this; show bl (f.natAbs + 1) ≤ _; omega)
 have hf2 : bl (f + 1).natAbs ≤ 401 := by
  have k1 := bl_add f.natAbs 1
  rw [bl_one'] at k1
  have k2 := bl_mono (show (f + 1).natAbs ≤ f.natAbs + 1 by omega)
  have k3 := bl_pos (n := 1) (by decide)
  omega
 generalize hFF : (if (a || decide ((f : Rat) ≠ l)) = true then f + 1 else f) = F at *
 have hFb : bl F.natAbs ≤ 401 := by rw [← hFF]; split <;> omega
 have hc2 := cmp_int F h (sm_int (by omega)) sh
 have hlt : ordR (F : Rat) h < 0 ∨ (ordR (F : Rat) h = 0 ∧ b = false) := by
  have neg : (F : Rat) < h → ordR (F : Rat) h < 0 := fun k => by unfold ordR; rw [if_pos k]; decide
  cases b
  ·simp only [Bool.false_eq_true, if_false] at hin
   rcases Rat.le_iff_lt_or_eq.1 hin with k | k
   ·exact Or.inl (neg k)
   ·exact Or.inr ⟨(ordR_zero _ _).2 k, rfl⟩
  ·simp only [if_true] at hin
   exact Or.inl (neg hin)
 rw [show fracV (F : Rat) = _ from frV_zero F]
 generalize ordR (F : Rat) h = o2 at *
 generalize ordR (f : Rat) l = o at *
 refine BD func135 ntmps135 ?_
 cases a
 ·by_cases hfl2 : (f : Rat) = l
  ·rw [hz.2 hfl2] at hcmp
   have e : F = f := by rw [← hFF]; simp [hfl2]
   subst e
   repeat (first | refine RUN ?_ | refine CV (hfl) ?_ | refine CV (hcmp) ?_ | refine CV (hc2) ?_ | refine CE (hfl) ?_ | refine CE (hcmp) ?_ | refine CE (hc2) ?_)
   rcases hlt with ho | ⟨rfl, rfl⟩
   ·rw [decide_eq_true ho]
    try refine RUN ?_
    rfl
   ·(try refine RUN ?_)
    rfl
  ·have ho : o ≠ 0 := fun e => hfl2 (hz.1 e)
   have e : F = f + 1 := by rw [← hFF]; simp [hfl2]
   subst e
   repeat (first | refine RUN ?_ | refine CV (hfl) ?_ | refine CV (hcmp) ?_ | refine CE (hfl) ?_ | refine CE (hcmp) ?_)
   rw [show (o != 0) = true by simpa using ho]
   try refine RUN ?_
   apply EV.drawnK [1, 2, 3, 4] [4] [1, 2, 3] 6 rfl rfl rfl rfl (by kernel_rfl) (by kernel_rfl); intro xv yw
   (repeat (first | refine' DV ?_ | refine' DA ?_ | refine' DK0 ?_ | refine' DT ?_ | (refine' DC (hof) (h := ?_); rotate_left) | (refine' DC (hadd) (h := ?_); rotate_left) | refine' DS ?_))
   (refine DJ.nil (fun G hG hF => ?_); (case hS => rfl); (case hS2 => rfl); (case hD => rfl))
   repeat (first | refine RUN ?_ | refine CV (hc2) ?_ | refine CE (hc2) ?_)
   rcases hlt with ho | ⟨rfl, rfl⟩
   ·rw [decide_eq_true ho]
    try refine RUN ?_
    rfl
   ·(try refine RUN ?_)
    rfl
 ·have e : F = f + 1 := by rw [← hFF]; simp
  subst e
  repeat (first | refine RUN ?_ | refine CV (hfl) ?_ | refine CE (hfl) ?_)
  apply EV.drawnK [1, 2, 3, 4] [4] [1, 2, 3] 6 rfl rfl rfl rfl (by kernel_rfl) (by kernel_rfl); intro xv yw
  (repeat (first | refine' DV ?_ | refine' DA ?_ | refine' DK0 ?_ | refine' DT ?_ | (refine' DC (hof) (h := ?_); rotate_left) | (refine' DC (hadd) (h := ?_); rotate_left) | refine' DS ?_))
  (refine DJ.nil (fun G hG hF => ?_); (case hS => rfl); (case hS2 => rfl); (case hD => rfl))
  repeat (first | refine RUN ?_ | refine CV (hc2) ?_ | refine CE (hc2) ?_)
  rcases hlt with ho | ⟨rfl, rfl⟩
  ·rw [decide_eq_true ho]
   try refine RUN ?_
   rfl
  ·(try refine RUN ?_)
   rfl
theorem div1_pv (x : Rat) (sx : sm x) : PV prog 41 #[fracV 1, fracV x] (.tuple #[fracV (1 / x), .bool (!decide (x = 0))]) := by
 by_cases h : x = 0
 ·subst h
  have := div_zero_pv 1
  rwa [show (1 : Rat) / 0 = 0 by rw [Rat.div_def, Rat.inv_zero, Rat.mul_zero], decide_eq_true rfl]
 ·have := div_pv 1 x (by show max (bl 1) (bl 1) ≤ _; rw [bl_one']; omega) sx h
  rwa [decide_eq_false h]
theorem simplest_out (l h : Rat) (hl : ht l ≤ 400) (hh : ht h ≤ 400) (a b : Bool) (f : Int) (hfe : f = l.num / (l.den : Int)) (hF : a = true ∨ (f : Rat) ≠ l) (hno : h < ((f + 1 : Int) : Rat) ∨ (b = true ∧ h = ((f + 1 : Int) : Rat))) (u : Rat) (hu : ht u ≤ 500)
  (hin : PV prog 135 #[spanV (1 / (h - f)) (1 / (l - f)) b a (decide (l - f = 0))] (fracV u)) : PV prog 135 #[spanV l h a b false] (fracV ((f : Rat) + 1 / u)) := by
 refine PV.of_pc ?_
 have sl : sm l := by unfold sm; omega
 have sh : sm h := by unfold sm; omega
 have su : sm u := by unfold sm; omega
 have hfl := floor_pv l sl
 have hb := bl_ediv l.num l.den
 rw [← hfe] at hfl hb
 have h1 := bl_num_le l
 have hf : bl f.natAbs ≤ 400 := by omega
 have hff : ht (f : Rat) ≤ 401 := by
  show max (bl f.natAbs) (bl 1) ≤ _
  rw [bl_one']; omega
 have hcmp := cmp_int f l (sm_int (by omega)) sl
 have hz := ordR_zero (f : Rat) l
 have hof := wholeOf_pv 1 (by omega) (by omega)
 have hadd := wholeAdd_pv f 1 (Nat.le_trans hf (by omega)) (by show bl 1 ≤ _; rw [bl_one']; omega) (by have := bl_add f.natAbs 1; rw [bl_one'] at this; show bl (f.natAbs + 1) ≤ _; omega)
 have hf2 : bl (f + 1).natAbs ≤ 401 := by
  have k1 := bl_add f.natAbs 1
  rw [bl_one'] at k1
  have k2 := bl_mono (show (f + 1).natAbs ≤ f.natAbs + 1 by omega)
  have k3 := bl_pos (n := 1) (by decide)
  omega
 have hc2 := cmp_int (f + 1) h (sm_int (by omega)) sh
 have hge : ¬ ordR ((f + 1 : Int) : Rat) h < 0 := by
  unfold ordR
  rcases hno with k | ⟨_, k⟩
  ·rw [if_neg (by grind), if_pos k]; decide
  ·rw [if_neg (by grind), if_neg (by grind)]; decide
 have hz2 : ordR ((f + 1 : Int) : Rat) h = 0 → b = true := fun e => by
  rcases hno with k | ⟨k, _⟩
  ·have := (ordR_zero _ _).1 e
   rw [this] at k; exact absurd k Rat.lt_irrefl
  ·exact k
 have hone := of_pv 1 (by omega) (by omega)
 rw [show fracV ((1 : Int) : Rat) = fracV 1 from rfl] at hone
 have t1 := ht_sub h (f : Rat)
 have t2 := ht_sub l (f : Rat)
 have s1 := sub_pv h f sh (sm_int (by omega))
 have s2 := sub_pv l f sl (sm_int (by omega))
 have d1 := div1_pv (h - f) (by unfold sm; omega)
 have d2 := div1_pv (l - f) (by unfold sm; omega)
 have d3 := div1_pv u su
 have t3 : ht (1 / u) ≤ ht u := by rw [show (1 : Rat) / u = u⁻¹ by rw [Rat.div_def, Rat.one_mul]]; exact ht_inv u
 have ha := add_pv (f : Rat) (1 / u) (sm_int (by omega)) (by unfold sm; omega)
 rw [show fracV (f : Rat) = _ from frV_zero f] at s1 s2 ha
 have hin' := hin
 rw [show decide (l - (f : Rat) = 0) = !(!decide (l - (f : Rat) = 0)) by rw [Bool.not_not]] at hin'
 clear hin
 generalize (f : Rat) + 1 / u = R at *
 generalize 1 / u = v at *
 generalize h - (f : Rat) = x1 at *
 generalize l - (f : Rat) = x2 at *
 generalize (!decide (x1 = 0)) = z1 at *
 generalize (!decide (x2 = 0)) = z2 at *
 generalize (!decide (u = 0)) = z3 at *
 generalize 1 / x1 = y1 at *
 generalize 1 / x2 = y2 at *
 clear t1 t2 t3 hff
 generalize ordR ((f + 1 : Int) : Rat) h = o2 at *
 generalize ordR (f : Rat) l = o at *
 refine BD func135 ntmps135 ?_
 cases a
 case' false =>
  have ho : o ≠ 0 := fun e => by
   rcases hF with k | k
   ·cases k
   ·exact k (hz.1 e)
  repeat (first | refine RUN ?_ | refine CV (hfl) ?_ | refine CV (hcmp) ?_ | refine CE (hfl) ?_ | refine CE (hcmp) ?_)
  rw [show (o != 0) = true by simpa using ho]
  try refine RUN ?_
 case' true => repeat (first | refine RUN ?_ | refine CV (hfl) ?_ | refine CE (hfl) ?_)
 all_goals
  apply EV.drawnK [1, 2, 3, 4] [4] [1, 2, 3] 6 rfl rfl rfl rfl (by kernel_rfl) (by kernel_rfl); intro xv yw
  (repeat (first | refine' DV ?_ | refine' DA ?_ | refine' DK0 ?_ | refine' DT ?_ | (refine' DC (hof) (h := ?_); rotate_left) | (refine' DC (hadd) (h := ?_); rotate_left) | refine' DS ?_))
  (refine DJ.nil (fun G hG hF => ?_); (case hS => rfl); (case hS2 => rfl); (case hD => rfl))
  repeat (first | refine RUN ?_ | refine CV (hc2) ?_ | refine CE (hc2) ?_)
  rw [decide_eq_false hge]
  by_cases h0 : o2 = 0
  case' pos =>
   obtain rfl := hz2 h0
   subst h0
   repeat (first | refine RUN ?_ | refine CV (hone) ?_ | refine CE (hone) ?_)
  case' neg =>
   try refine RUN ?_
   rw [show (o2 == 0) = false by simpa using h0]
   repeat (first | refine RUN ?_ | refine CV (hone) ?_ | refine CE (hone) ?_)
  all_goals
   apply EV.drawnK [1, 2, 3, 6, 7] [7] [1, 2, 3, 6] 11 rfl rfl rfl rfl (by kernel_rfl) (by kernel_rfl); intro xv yw
   (repeat (first | refine' DV ?_ | refine' DA ?_ | refine' DK0 ?_ | refine' DT ?_ | (refine' DC (s1) (h := ?_); rotate_left) | (refine' DC (d1) (h := ?_); rotate_left) | refine' DS ?_))
   (refine DJ.nil (fun G hG hF => ?_); (case hS => rfl); (case hS2 => rfl); (case hD => rfl))
   try refine RUN ?_
   apply EV.drawnK [1, 2, 3, 6, 7] [7] [1, 2, 3, 6] 12 rfl rfl rfl rfl (by kernel_rfl) (by kernel_rfl); intro xv yw
   (repeat (first | refine' DV ?_ | refine' DA ?_ | refine' DK0 ?_ | refine' DT ?_ | (refine' DC (s2) (h := ?_); rotate_left) | (refine' DC (d2) (h := ?_); rotate_left) | refine' DS ?_))
   (refine DJ.nil (fun G hG hF => ?_); (case hS => rfl); (case hS2 => rfl); (case hD => rfl))
   try refine RUN ?_
   apply EV.drawn 10 (by kernel_rfl) (by kernel_rfl); intro xv yw
   (repeat (first | refine' DV ?_ | refine' DA ?_ | refine' DK0 ?_ | refine' DT ?_ | (refine' DC (hin') (h := ?_); rotate_left) | (refine' DC (d3) (h := ?_); rotate_left) | refine' DS ?_))
   (refine DJ.nil (fun G hG hF => ?_); (case hS => rfl); (case hS2 => rfl))
   repeat (first | refine RUN ?_ | refine CV (ha) ?_ | refine CE (ha) ?_)
   rfl
theorem floor_le (l : Rat) : ((l.num / (l.den : Int) : Int) : Rat) ≤ l ∧ l < ((l.num / (l.den : Int) : Int) : Rat) + 1 := by
 have hd := Nat.pos_of_ne_zero l.den_nz
 have hdr : (0 : Rat) < (l.den : Rat) := by exact_mod_cast hd
 have e := num_den l
 have k1 := Int.mul_ediv_self_le (x := l.num) (k := (l.den : Int)) (by omega)
 have k2 := Int.lt_mul_ediv_self_add (x := l.num) (k := (l.den : Int)) (by omega)
 generalize l.num / (l.den : Int) = f at *
 have k3 : ((l.den : Rat)) * (f : Rat) ≤ (l.num : Rat) := by exact_mod_cast k1
 have k4 : (l.num : Rat) < (l.den : Rat) * (f : Rat) + (l.den : Rat) := by exact_mod_cast k2
 rw [e] at k3 k4
 exact ⟨Rat.le_of_mul_le_mul_right (by grind) hdr, Rat.lt_of_mul_lt_mul_right (c := (l.den : Rat)) (by grind) (Rat.le_of_lt hdr)⟩
theorem firstZ_spec (l : Rat) (a : Bool) : (if a then l < (firstZ l a : Rat) else l ≤ (firstZ l a : Rat)) ∧ (firstZ l a : Rat) - 1 ≤ l ∧ (a = false → (firstZ l a : Rat) - 1 < l) := by
 have h := floor_le l
 unfold firstZ
 generalize l.num / (l.den : Int) = f at *
 by_cases hc : (a || decide ((f : Rat) ≠ l)) = true
 ·rw [if_pos hc]
  push_cast
  refine ⟨?_, by grind, fun ha => ?_⟩
  ·cases a <;> simp <;> grind
  ·subst ha
   have : (f : Rat) ≠ l := by simpa using hc
   grind
 ·rw [if_neg hc]
  cases a
  ·have : (f : Rat) = l := by simpa using hc
   refine ⟨by simp; grind, by grind, fun _ => by grind⟩
  ·exact absurd rfl hc
theorem ht_firstZ (l : Rat) (a : Bool) : ht (firstZ l a : Rat) ≤ ht l + 2 := by
 have hb := bl_ediv l.num l.den
 have h1 := bl_num_le l
 have k1 := bl_add (l.num / (l.den : Int)).natAbs 1
 rw [bl_one'] at k1
 have k2 := bl_mono (show (l.num / (l.den : Int) + 1).natAbs ≤ (l.num / (l.den : Int)).natAbs + 1 by omega)
 show max (bl (firstZ l a).natAbs) (bl 1) ≤ _
 have k3 : bl (firstZ l a).natAbs ≤ ht l + 2 := by
  unfold firstZ
  split <;> omega
 rw [bl_one']
 omega
theorem simplest_pv : ∀ (N : Nat) (l h : Rat) (a b : Bool), l.den + h.den ≤ N → 0 ≤ l → l < h → ht l ≤ 400 → ht h ≤ 400 →
  ∃ r, Best (InS l h a b false) r ∧ PV prog 135 #[spanV l h a b false] (fracV r)
 | 0, l, h, a, b, hN, _, _, _, _ => by have := Nat.pos_of_ne_zero l.den_nz; omega
 | N + 1, l, h, a, b, hN, h0, hlt, hl, hh => by
  have fz := firstZ_spec l a
  by_cases hin : if b then (firstZ l a : Rat) < h else (firstZ l a : Rat) ≤ h
  ·exact ⟨_, first_best l h a b false h0 _ ⟨fz.1, .inr hin⟩ fz.2.1 fz.2.2, PV.of_pc (simplest_in l h hl hh a b hin)⟩
  ·have fl := floor_le l
   have hF : a = true ∨ ((l.num / (l.den : Int) : Int) : Rat) ≠ l := by
    by_cases ha : a = true
    ·exact .inl ha
    ·refine .inr fun e => hin ?_
     have : firstZ l a = l.num / (l.den : Int) := by unfold firstZ; rw [if_neg (by simp [ha, e])]
     rw [this, e]
     cases b <;> simp <;> grind
   have hFZ : firstZ l a = l.num / (l.den : Int) + 1 := by
    unfold firstZ
    rw [if_pos (by rcases hF with k | k <;> simp [k])]
   rw [hFZ] at hin
   have hno : h < ((l.num / (l.den : Int) + 1 : Int) : Rat) ∨ (b = true ∧ h = ((l.num / (l.den : Int) + 1 : Int) : Rat)) := by
    cases b
    ·simp only [Bool.false_eq_true, if_false] at hin; exact .inl (Rat.not_le.1 hin)
    ·simp only [if_true] at hin
     rcases Rat.le_iff_lt_or_eq.1 (Rat.not_lt.1 hin) with k | k
     ·exact .inl k
     ·exact .inr ⟨rfl, k⟩
   have hf0 : 0 ≤ l.num / (l.den : Int) := Int.ediv_nonneg (Rat.num_nonneg.2 h0) (by omega)
   have hno' : ¬ InS l h a b false ((l.num / (l.den : Int) : Int) : Rat) := fun k => by
    have k1 := k.1
    rcases hF with e | e
    ·subst e; simp only [if_true] at k1; grind
    ·cases a
     ·simp only [Bool.false_eq_true, if_false] at k1; exact e (Rat.le_antisymm fl.1 k1)
     ·simp only [if_true] at k1; grind
   generalize hfe : l.num / (l.den : Int) = f at *
   have hh1 : h ≤ (f : Rat) + 1 := by
    rcases hno with k | ⟨_, k⟩ <;> push_cast at k <;> grind
   have hfh : (f : Rat) < h := by grind
   have hih := inner_ht f h hfh hh1
   have hid := inner_den f h hfh hh1
   have hip := ipos (show 0 < h - (f : Rat) by grind)
   have key : ∃ u, ht u ≤ 500 ∧ Best (InS (1 / (h - f)) (1 / (l - f)) b a (decide (l = (f : Rat)))) u ∧ PV prog 135 #[spanV (1 / (h - f)) (1 / (l - f)) b a (decide (l - f = 0))] (fracV u) := by
    by_cases he : l = (f : Rat)
    ·have z := firstZ_spec (1 / (h - f)) b
     rw [decide_eq_true he, show l - (f : Rat) = 0 by grind, show (1 : Rat) / 0 = 0 by rw [Rat.div_def, Rat.inv_zero, Rat.mul_zero], decide_eq_true rfl]
     exact ⟨_, by have := ht_firstZ (1 / (h - f)) b; omega, first_best _ _ _ _ true (Rat.le_of_lt hip) _ ⟨z.1, .inl rfl⟩ z.2.1 z.2.2, PV.of_pc (simplest_end _ (by omega) b a)⟩
    ·have hp : 0 < l - (f : Rat) := by grind
     have hl1 : l < (f : Rat) + 1 := fl.2
     have d1 := inner_den_lt f l (by grind) hl1
     have i1 := inner_ht f l (by grind) (by grind)
     have hlt' : 1 / (h - (f : Rat)) < 1 / (l - (f : Rat)) := (ilt (by grind) hp).2 (by grind)
     obtain ⟨u, hu, hpv⟩ := simplest_pv N (1 / (h - f)) (1 / (l - f)) b a (by omega) (Rat.le_of_lt hip) hlt' (by omega) (by omega)
     have := simp_ht _ _ _ _ (Rat.le_of_lt hip) hlt' hu
     rw [decide_eq_false he, decide_eq_false (by grind)]
     exact ⟨u, by omega, hu, hpv⟩
   obtain ⟨u, hu5, hu, hpv⟩ := key
   exact ⟨_, step_best l h a b f hf0 fl.1 hlt hno' u hu, simplest_out l h hl hh a b f hfe.symm hF hno u hu5 hpv⟩
structure Simplest (x y r : Rat) : Prop where
 lt : x < r
 le : r ≤ y
 den : ∀ t, x < t → t ≤ y → r.den ≤ t.den
 num : ∀ t, x < t → t ≤ y → r.num.natAbs ≤ t.num.natAbs
theorem Simplest.eq {x y r s : Rat} (h : Simplest x y r) (k : Simplest x y s) : r = s := by
 have hd : r.den = s.den := Nat.le_antisymm (h.den s k.lt k.le) (k.den r h.lt h.le)
 have hn : r.num.natAbs = s.num.natAbs := Nat.le_antisymm (h.num s k.lt k.le) (k.num r h.lt h.le)
 rcases Int.natAbs_eq_natAbs_iff.1 hn with e | e
 ·exact Rat.ext e hd
 ·by_cases h0 : x < 0 ∧ 0 ≤ y
  ·have := h.num 0 h0.1 h0.2
   have : r.num = 0 := by simpa using this
   exact Rat.ext (by omega) hd
  ·have sg : ∀ t, x < t → t ≤ y → (0 ≤ x → 0 < t.num) ∧ (y < 0 → t.num < 0) := fun t h1 h2 => ⟨fun hx => npos (by grind), fun hy => by
    have : 0 < (-t).num := npos (by grind)
    rw [Rat.neg_num] at this; omega⟩
   have g1 := sg r h.lt h.le
   have g2 := sg s k.lt k.le
   by_cases hx : 0 ≤ x
   ·have := g1.1 hx; have := g2.1 hx; omega
   ·have hy : y < 0 := by grind
    have := g1.2 hy; have := g2.2 hy; omega
theorem natAbs_le_of {a b : Int} (h0 : 0 ≤ a) (h : a ≤ b) : a.natAbs ≤ b.natAbs := by omega
theorem best_num0 {l h : Rat} {a b : Bool} {r : Rat} (h0 : 0 ≤ l) (hb : Best (InS l h a b false) r) : 0 ≤ r.num := Rat.num_nonneg.2 (by
 have := hb.mem.1
 cases a
 ·simp only [Bool.false_eq_true, if_false] at this; grind
 ·simp only [if_true] at this; grind)
theorem num_neg {x : Rat} (h : ¬ 0 ≤ x) : x.num < 0 := by
 have := mt Rat.num_nonneg.1 h
 omega
theorem fracV_zero : fracV 0 = .agg #[.bool false, .int .u64 0, .string ⟨#[]⟩, .int .u64 0, .string ⟨#[]⟩] := by
 show frV 0 0 = _
 rw [frV_zero, show (0 : Int).natAbs = 0 from rfl, moreB_empty (n := 0) (by decide)]; rfl
theorem simple_pv (x y : Rat) (hx : ht x ≤ 400) (hy : ht y ≤ 400) (hlt : x < y) : ∃ r, Simplest x y r ∧ ht r ≤ 401 ∧ PV prog 57 #[fracV x, fracV y] (.tuple #[fracV r, .bool true]) := by
 have sx : sm x := by unfold sm; omega
 have sy : sm y := by unfold sm; omega
 have hc := cmp_pv x y sx sy
 rw [show ordR x y = -1 by unfold ordR; rw [if_pos hlt]] at hc
 have bx : bigI x.num := Nat.le_trans (bl_num_le x) (by omega)
 have bY : bigI y.num := Nat.le_trans (bl_num_le y) (by omega)
 have sgx := sign_pv x bx
 have sgy := sign_pv y bY
 by_cases h0 : 0 ≤ x
 ·obtain ⟨r, hb, hpv⟩ := simplest_pv _ x y true false (Nat.le_refl _) h0 hlt hx hy
  have hr0 := best_num0 h0 hb
  refine ⟨r, ⟨by simpa using hb.mem.1, by simpa using hb.mem.2, fun t h1 h2 => hb.den t ⟨by simpa using h1, .inr (by simpa using h2)⟩, fun t h1 h2 => natAbs_le_of hr0 (hb.num t ⟨by simpa using h1, .inr (by simpa using h2)⟩)⟩, by have := simp_ht _ _ _ _ h0 hlt hb; omega, ?_⟩
  have hsg : x.num.sign ≥ 0 := Int.sign_nonneg_iff.2 (Rat.num_nonneg.2 h0)
  refine PV.of_pc ?_
  generalize x.num.sign = sx at *
  refine BD func57 ntmps57 ?_
  repeat (first | refine RUN ?_ | refine CV (hc) ?_ | refine CV (sgx) ?_ | refine CE (hc) ?_ | refine CE (sgx) ?_)
  rw [decide_eq_true hsg]
  repeat (first | refine RUN ?_ | refine CV (hpv) ?_ | refine CE (hpv) ?_)
  rfl
 ·have sx0 : ¬ x.num.sign ≥ 0 := by have := Int.sign_neg_iff.2 (num_neg h0); omega
  by_cases hy0 : y < 0
  ·have sy0 : y.num.sign < 0 := Int.sign_neg_iff.2 (num_neg (Rat.not_le.2 hy0))
   obtain ⟨r, hb, hpv⟩ := simplest_pv _ (-y) (-x) false true (Nat.le_refl _) (by grind) (by grind) (by rw [ht_neg]; exact hy) (by rw [ht_neg]; exact hx)
   have hr0 := best_num0 (by grind) hb
   have hht := simp_ht _ _ _ _ (by grind) (by grind) hb
   rw [ht_neg, ht_neg] at hht
   have e1 : (if False then -y < r else -y ≤ r) := by simpa using hb.mem.1
   have e2 : (if True then r < -x else r ≤ -x) := by simpa using hb.mem.2
   rw [if_neg not_false] at e1
   rw [if_pos trivial] at e2
   have up : ∀ t, x < t → t ≤ y → InS (-y) (-x) false true false (-t) := fun t h1 h2 => ⟨by simp; grind, .inr (by simp; grind)⟩
   refine ⟨-r, ⟨by grind, by grind, fun t h1 h2 => ?_, fun t h1 h2 => ?_⟩, by rw [ht_neg]; omega, PV.of_pc ?_⟩
   ·have := hb.den _ (up t h1 h2)
    rwa [Rat.neg_den, ] at *
   ·have := natAbs_le_of hr0 (hb.num _ (up t h1 h2))
    rwa [Rat.neg_num, Int.natAbs_neg] at *
   ·have n1 := neg_pv x bx
    have n2 := neg_pv y bY
    have n3 := neg_pv r (Nat.le_trans (bl_num_le r) (by omega))
    generalize x.num.sign = sx at *
    generalize y.num.sign = sy at *
    refine BD func57 ntmps57 ?_
    repeat (first | refine RUN ?_ | refine CV (hc) ?_ | refine CV (sgx) ?_ | refine CE (hc) ?_ | refine CE (sgx) ?_)
    rw [decide_eq_false sx0]
    repeat (first | refine RUN ?_ | refine CV (sgy) ?_ | refine CE (sgy) ?_)
    rw [decide_eq_true sy0]
    try refine RUN ?_
    apply EV.drawnK [2, 3, 4] [4] [2, 3] 9 rfl rfl rfl rfl (by kernel_rfl) (by kernel_rfl); intro xv yw
    (repeat (first | refine' DV ?_ | refine' DA ?_ | refine' DK0 ?_ | refine' DT ?_ | (refine' DC (n1) (h := ?_); rotate_left) | (refine' DC (n2) (h := ?_); rotate_left) | (refine' DC (hpv) (h := ?_); rotate_left) | (refine' DC (n3) (h := ?_); rotate_left) | refine' DS ?_))
    (refine DJ.nil (fun G hG hF => ?_); (case hS => rfl); (case hS2 => rfl); (case hD => rfl))
    try refine RUN ?_
    rfl
  ·refine ⟨0, ⟨by grind, by grind, fun t _ _ => Nat.pos_of_ne_zero t.den_nz, fun t _ _ => Nat.zero_le _⟩, by rw [ht_zero]; omega, PV.of_pc ?_⟩
   have sy0 : ¬ y.num.sign < 0 := by have := Int.sign_nonneg_iff.2 (Rat.num_nonneg.2 (Rat.not_lt.1 hy0)); omega
   generalize x.num.sign = sx at *
   generalize y.num.sign = sy at *
   refine BD func57 ntmps57 ?_
   repeat (first | refine RUN ?_ | refine CV (hc) ?_ | refine CV (sgx) ?_ | refine CE (hc) ?_ | refine CE (sgx) ?_)
   rw [decide_eq_false sx0]
   repeat (first | refine RUN ?_ | refine CV (sgy) ?_ | refine CE (sgy) ?_)
   rw [decide_eq_false sy0]
   try refine RUN ?_
   rw [fracV_zero]
theorem simple_no (x y : Rat) (sx : sm x) (sy : sm y) (h : y ≤ x) : PV prog 57 #[fracV x, fracV y] (.tuple #[fracV 0, .bool false]) := by
 have hc := cmp_pv x y sx sy
 have ho : ordR x y ≥ 0 := by unfold ordR; rw [if_neg (Rat.not_lt.2 h)]; split <;> decide
 refine PV.of_pc ?_
 generalize ordR x y = o at *
 refine BD func57 ntmps57 ?_
 repeat (first | refine RUN ?_ | refine CV (hc) ?_ | refine CE (hc) ?_)
 rw [decide_eq_true ho]
 try refine RUN ?_
 rw [fracV_zero]
theorem half_nd : (Rat.divInt 1 2).num = 1 ∧ (Rat.divInt 1 2).den = 2 := by decide +kernel
theorem half_ord (x : Rat) (f : Int) : ordR (x - (f : Rat)) (Rat.divInt 1 2) = if 2 * (x.num - f * (x.den : Int)) < x.den then -1 else if (x.den : Int) < 2 * (x.num - f * (x.den : Int)) then 1 else 0 := by
 obtain ⟨h1, h2⟩ := shift_nd f x
 obtain ⟨n1, n2⟩ := half_nd
 have e1 : (x - (f : Rat) < Rat.divInt 1 2) ↔ 2 * (x.num - f * (x.den : Int)) < x.den := by
  rw [Rat.lt_iff, h1, h2, n1, n2]; omega
 have e2 : (Rat.divInt 1 2 < x - (f : Rat)) ↔ (x.den : Int) < 2 * (x.num - f * (x.den : Int)) := by
  rw [Rat.lt_iff, h1, h2, n1, n2]; omega
 unfold ordR
 simp only [e1, e2]
def refN (f o : Int) : Int := if 0 < o ∨ (o = 0 ∧ f % 2 = 1) then f + 1 else f
theorem refN_nrst (x : Rat) : Nrst (refN (x.num / (x.den : Int)) (ordR (x - ((x.num / (x.den : Int) : Int) : Rat)) (Rat.divInt 1 2))) x.num x.den := by
 have hd := Nat.pos_of_ne_zero x.den_nz
 have k1 := Int.mul_ediv_self_le (x := x.num) (k := (x.den : Int)) (by omega)
 have k2 := Int.lt_mul_ediv_self_add (x := x.num) (k := (x.den : Int)) (by omega)
 rw [half_ord]
 generalize x.num / (x.den : Int) = f at *
 rw [Int.mul_comm (x.den : Int) f] at k1 k2
 have e : (f + 1) * (x.den : Int) = f * (x.den : Int) + x.den := by rw [Int.add_mul, Int.one_mul]
 unfold refN
 by_cases c1 : 2 * (x.num - f * (x.den : Int)) < x.den
 ·rw [if_pos c1, if_neg (by omega)]
  exact ⟨by omega, by omega, by omega, by omega⟩
 ·rw [if_neg c1]
  by_cases c2 : (x.den : Int) < 2 * (x.num - f * (x.den : Int))
  ·rw [if_pos c2, if_pos (by omega)]
   refine ⟨?_, ?_, ?_, ?_⟩ <;> rw [e] <;> omega
  ·rw [if_neg c2]
   by_cases c3 : f % 2 = 1
   ·rw [if_pos (.inr ⟨rfl, c3⟩)]
    refine ⟨?_, ?_, ?_, ?_⟩ <;> (try rw [e]) <;> omega
   ·rw [if_neg (by omega)]
    exact ⟨by omega, by omega, by omega, by omega⟩
theorem refN_eq (a : Rat) (k : Nat) : refN ((a * ((2 ^ k : Nat) : Rat)).num / ((a * ((2 ^ k : Nat) : Rat)).den : Int)) (ordR (a * ((2 ^ k : Nat) : Rat) - (((a * ((2 ^ k : Nat) : Rat)).num / ((a * ((2 ^ k : Nat) : Rat)).den : Int) : Int) : Rat)) (Rat.divInt 1 2)) = nrN k a := by
 have h1 := refN_nrst (a * ((2 ^ k : Nat) : Rat))
 have h2 := nrN_spec k a
 refine h1.eq h2 (Nat.pos_of_ne_zero (Rat.den_nz _)) (Nat.pos_of_ne_zero a.den_nz) ?_
 generalize hp : (2 ^ k : Nat) = p
 have e1 := num_den (a * ((p : Nat) : Rat))
 have e2 := num_den a
 have : ((((a * ((p : Nat) : Rat)).num * (a.den : Int) : Int)) : Rat) = (((a.num * (p : Int)) * ((a * ((p : Nat) : Rat)).den : Int) : Int) : Rat) := by
  push_cast
  rw [e1, e2]
  grind
 exact_mod_cast this
theorem refShift_pc {H : Hp} {v : Value} {n : Nat} (h : RN H v n) (hn : rsm n) (k : Nat) (hk : k ≤ 1000000000) : PC prog 141 #[v, .int .i64 (k : Int)] H fun r H' => RN H' r (n * 2 ^ k) := by
 have := refShlL_pc h (digB_dig n) (Nat.le_trans hn.len (by omega)) k hk
 rwa [dig_val B32_two] at this
theorem ordR_three (a b : Rat) : ordR a b = -1 ∨ ordR a b = 0 ∨ ordR a b = 1 := by
 unfold ordR; split
 ·exact .inl rfl
 ·split
  ·exact .inr (.inr rfl)
  ·exact .inr (.inl rfl)
theorem dig_zero_len (n : Nat) : (dig B32 n).length = 0 ↔ n = 0 := by
 constructor
 ·intro h
  have := dig_val B32_two n
  rw [List.length_eq_zero_iff.1 h] at this
  exact this.symm
 ·rintro rfl; rw [dig_zero]; rfl
theorem dig_low {n : Nat} (h : n ≠ 0) : ∃ x, (dig B32 n)[0]? = some x ∧ x % 2 = n % 2 ∧ x < B32 := by
 refine ⟨n % B32, by rw [dig_pos B32_two h]; rfl, by rw [B32_val]; omega, Nat.mod_lt _ (by rw [B32_val]; omega)⟩
theorem rem_two (x : Nat) : (x : Int).tmod 2 = ((x % 2 : Nat) : Int) := by
 rw [Int.tmod_eq_emod_of_nonneg (by omega)]; omega
theorem rq_int' {G : Hp} {b : Value} {a : Option Addr} {l c : Nat} {f : Int} {v : Value} (h : RI G (.agg #[b, .slice a l c]) f) (h1 : RN G v 1) : RQ G (.agg #[b, .slice a l c, v]) (f : Rat) := by
 obtain ⟨a1, l1, c1, e, hn⟩ := h
 obtain ⟨a2, c2, rfl⟩ := SlC.val h1
 cases e
 exact ⟨_, _, _, _, _, _, rfl, hn, h1⟩
set_option maxHeartbeats 4000000 in
theorem refNear_pc {H : Hp} {u : Value} {a : Rat} (hu : RQ H u a) (ha : ht a ≤ 1000) (z : Int) (hz : -9223372036854775808 ≤ z ∧ z < 9223372036854775808) : PC prog 62 #[u, .int .i64 z] H fun r H' => RQ H' r (nr (kb z) a) := by
 obtain ⟨sa, sl, sc, ta, tl, tc, rfl, hs, hts⟩ := id hu
 have hk : kb z ≤ 256 := by unfold kb; omega
 have hkz : (if (if (256 : Int) < z then 256 else z) > 0 then (if (256 : Int) < z then 256 else z) else 0) = ((kb z : Nat) : Int) := by unfold kb; split <;> split <;> omega
 have hqa : rq a := by unfold rq; omega
 have hp := bl_pow2 (kb z)
 have hn0 := refN_eq a (kb z)
 have hnr : nr (kb z) a = Rat.divInt (nrN (kb z) a) ((2 ^ kb z : Nat) : Int) := rfl
 rw [hnr]
 have hx : Rat.divInt (a.num * ((2 ^ kb z : Nat) : Int)) (a.den : Int) = a * ((2 ^ kb z : Nat) : Rat) := by
  have hd : (a.den : Rat) ≠ 0 := by exact_mod_cast a.den_nz
  rw [Rat.divInt_eq_div]
  push_cast
  rw [num_den a]
  grind
 have htx := ht_mul a ((2 ^ kb z : Nat) : Rat)
 have hti : ht ((2 ^ kb z : Nat) : Rat) ≤ 258 := by
  have := ht_int ((2 ^ kb z : Nat) : Int)
  rw [Int.natAbs_natCast] at this
  exact Nat.le_trans this (by omega)
 have hsh := fun G (v : Value) (h : RN G v 1) => refShift_pc h rsm_one (kb z) (by omega)
 rw [Nat.one_mul] at hsh
 have bp : rsm (2 ^ kb z) := by show bl _ ≤ _; omega
 have hmul : rsm (a.num * ((2 ^ kb z : Nat) : Int)).natAbs := by
  have := bl_mul a.num.natAbs (2 ^ kb z)
  have := bl_num_le a
  rw [Int.natAbs_mul, Int.natAbs_natCast]; show bl _ ≤ _; omega
 have hp0 : (((2 ^ kb z : Nat) : Nat) : Int) ≠ 0 := by have := Nat.pow_pos (n := kb z) (show 0 < 2 by omega); omega
 generalize (2 ^ kb z : Nat) = p at *
 generalize a * (p : Rat) = x at *
 have hqx : rq x := by unfold rq; omega
 have hfb := bl_ediv x.num x.den
 have hxb := bl_num_le x
 generalize hfe : x.num / (x.den : Int) = f at *
 have hff : ht (f : Rat) ≤ 2000 := by
  show max (bl f.natAbs) (bl 1) ≤ _
  rw [bl_one']; omega
 have t1 := ht_sub x (f : Rat)
 have h12 : rq (Rat.divInt 1 2) := by unfold rq; decide +kernel
 have hof := ordR_three (x - (f : Rat)) (Rat.divInt 1 2)
 generalize nrN (kb z) a = N at *
 have hfz : rsm f.natAbs := by show bl _ ≤ _; omega
 have hNz : rsm N.natAbs := by
  have k1 := bl_add f.natAbs 1
  rw [bl_one'] at k1
  have k2 := bl_mono (show (f + 1).natAbs ≤ f.natAbs + 1 by omega)
  rw [← hn0]; unfold refN; show bl _ ≤ _; split <;> omega
 refine BD func62 ntmps62 ?_
 try refine RUN ?_
 rw [hkz]
 try refine RUN ?_
 refine EVL.call rfl rfl rfl rfl rfl (refNatOf_pc 1 (by decide) H) ?_
 rintro r1 G1 h1 hG1
 try refine RUN ?_
 refine EVL.call rfl rfl rfl rfl rfl (hsh G1 r1 h1) ?_
 rintro r2 G2 h2 hG2
 try refine RUN ?_
 refine EVL.call rfl rfl rfl rfl rfl (refI_pc false h2) ?_
 rintro r3 G3 ⟨pa, pl, pc, rfl, h3⟩ hG3
 rw [show sg false p = (p : Int) from rfl, Int.natAbs_natCast, decide_eq_false (show ¬ (p : Int) < 0 by omega)] at *
 have hT : ∀ G, G3.Le G → RI G (.agg #[.bool false, .slice pa pl pc]) (p : Int) := fun G hG => ⟨pa, pl, pc, by rw [decide_eq_false (by omega)], by rw [Int.natAbs_natCast]; exact RN.mono h3 hG⟩
 try refine RUN ?_
 apply EV.drawn 8 (by kernel_rfl) (by kernel_rfl); intro xv yw
 (repeat (first | refine' DV ?_ | refine' DA ?_ | refine' DK0 ?_ | refine' DT ?_ | refine' DS ?_))
 refine' DJ.call rfl rfl rfl rfl rfl (cO func16) (fun G hG hd => refIntMul_pc (RQ.rnum (RN.mono hs (hG1.trans (hG2.trans (hG3.trans hG))))) (hT _ hG) hqa.num bp) (fun _ _ _ h k => RI.mono h k) ?_; rotate_left
 (repeat (first | refine' DV ?_ | refine' DA ?_ | refine' DK0 ?_ | refine' DT ?_ | refine' DS ?_))
 refine' DJ.call rfl rfl rfl rfl rfl (cO func129) (fun G hG hd => refDen_pc (hu.mono (hG1.trans (hG2.trans (hG3.trans hG))))) (fun _ _ _ h k => RI.mono h k) ?_; rotate_left
 refine' DJ.call rfl rfl rfl rfl rfl (cO func89) (fun G hG hd => refMake_pc (hd.tail.head (by kernel_rfl)) (hd.head (by kernel_rfl)) hmul hqa.den (by have := a.den_nz; omega)) (fun _ _ _ h k => RQ.mono h k) ?_; rotate_left
 (repeat (first | refine' DV ?_ | refine' DA ?_ | refine' DK0 ?_ | refine' DT ?_ | refine' DS ?_))
 (refine DJ.nil (fun G4 hG4 hF4 => ?_); (case hS => rfl); (case hS2 => rfl))
 have hX := hF4.1
 rw [hx] at hX
 obtain ⟨xa, xl, xc, ya, yl, yc, hr, h5, h6⟩ := id hX
 rw [hr] at hX ⊢
 clear hF4 hr
 try refine RUN ?_
 have hflo := refFloor_pc hX hqx
 rw [hfe] at hflo
 refine EVL.call rfl rfl rfl rfl rfl (hflo) ?_
 rintro r5 G5 ⟨fa, fl, fc, rfl, h7⟩ hG5
 have hfl : fl = (dig B32 f.natAbs).length := by obtain ⟨_, _, e⟩ := SlC.val h7; cases e; rfl
 have hX5 := hX.mono hG5
 have hF7 : ∀ G, G5.Le G → RI G (.agg #[.bool (decide (f < 0)), .slice fa fl fc]) f := fun G hG => ⟨fa, fl, fc, rfl, RN.mono h7 hG⟩
 clear hX hflo h5 h6
 have hT5 : ∀ G, G5.Le G → RI G (.agg #[.bool false, .slice pa pl pc]) (p : Int) := fun G hG => hT G ((hG4.trans hG5).trans hG)
 try refine RUN ?_
 apply EV.drawn 7 (by kernel_rfl) (by kernel_rfl); intro xv yw
 (repeat (first | refine' DV ?_ | refine' DA ?_ | refine' DK0 ?_ | refine' DT ?_ | refine' DS ?_))
 refine' DJ.call rfl rfl rfl rfl rfl (cO func19) (fun G hG hd => refNatOf_pc 1 (by decide) G) (fun _ _ _ h k => SlN.mono h k) ?_; rotate_left
 refine' DJ.fnP tO (2) (fun v => .agg #[.bool (decide (f < 0)), .slice fa fl fc, v]) rfl rfl rfl (by kernel_rfl) (fun G hd => (by obtain ⟨a1, c1, e⟩ := SlC.val (hd.head (by kernel_rfl)); rw [e]; rfl)) ?_; rotate_left
 refine' DJ.call rfl rfl rfl rfl rfl (cO func47) (fun G hG hd => refSub_pc (hX5.mono hG) (rq_int' (hF7 _ hG) (hd.head (by kernel_rfl))) hqx (by unfold rq; omega)) (fun _ _ _ h k => RQ.mono h k) ?_; rotate_left
 refine' DJ.call rfl rfl rfl rfl rfl (cO func142) (fun G hG hd => refOver_pc 1 2 (by omega) (by omega) (by omega) (by omega) (by omega)) (fun _ _ _ h k => RQ.mono h k) ?_; rotate_left
 refine' DJ.callS rfl rfl rfl rfl rfl (cO func49) (fun G hG hd => refCmp_pc (hd.tail.head (by kernel_rfl)) (hd.head (by kernel_rfl)) (by unfold rq; omega) h12) ?_; rotate_left
 (repeat (first | refine' DV ?_ | refine' DA ?_ | refine' DK0 ?_ | refine' DT ?_ | refine' DS ?_))
 (refine DJ.nil (fun G6 hG6 hF6 => ?_); (case hS => rfl); (case hS2 => rfl))
 clear hF6
 have hX6 := hX5
 clear hX5
 generalize ordR (x - (f : Rat)) (Rat.divInt 1 2) = o at *
 have hT6 := hT5 G6 hG6
 have hF6 := hF7 G6 hG6
 have hNf : N = refN f o := hn0.symm
 clear hn0 hX6 hT hT5 hF7 hsh hu hs hts h1 h2 h3 h7
 have hidx : SlC G6 (.slice fa fl fc) (dig B32 f.natAbs).length 1 ((dig B32 f.natAbs).map n32) := by
  obtain ⟨_, _, _, e, h⟩ := hF6
  cases e; exact h
 rcases hof with rfl | rfl | rfl
 ·have hN : N = f := hNf.trans (by unfold refN; rw [if_neg (by omega)])
  try refine RUN ?_
  refine EVL.call rfl rfl rfl rfl rfl (refMake_pc hF6 hT6 hfz bp hp0) ?_
  rintro r G7 ⟨ra, rl, rc, xa', xl', xc', rfl, k1, k2⟩ _
  try refine RUN ?_
  rw [hN]
  exact ⟨ra, rl, rc, xa', xl', xc', rfl, k1, k2⟩
 ·by_cases hf0 : f = 0
  ·subst hf0
   have hN : N = 0 := hNf.trans (by unfold refN; rw [if_neg (by omega)])
   obtain rfl : fl = 0 := by rw [hfl, dig_zero_len]; rfl
   try refine RUN ?_
   refine EVL.call rfl rfl rfl rfl rfl (refMake_pc hF6 hT6 hfz bp hp0) ?_
   rintro r G7 ⟨ra, rl, rc, xa', xl', xc', rfl, k1, k2⟩ _
   try refine RUN ?_
   rw [hN]
   exact ⟨ra, rl, rc, xa', xl', xc', rfl, k1, k2⟩
  ·obtain ⟨d0, hd0, hd1, hd2⟩ := dig_low (n := f.natAbs) (by omega)
   have hpos : 0 < fl := by rw [hfl]; have := mt (dig_zero_len f.natAbs).1 (by omega); omega
   have hcell : ((dig B32 f.natAbs).map n32)[0]? = some (n32 d0) := by rw [List.getElem?_map, hd0]; rfl
   try refine RUN ?_
   rw [decide_eq_true (show (fl : Int) > 0 by omega)]
   try refine RUN ?_
   refine EVL.idxR tO rfl rfl rfl rfl rfl rfl rfl rfl rfl rfl (hidx) (0) (rfl) ((by omega)) (hcell) ?_
   try refine RUN ?_
   rw [rem_two d0, hd1]
   by_cases hfo : f % 2 = 1
   ·have hN : N = f + 1 := hNf.trans (by unfold refN; rw [if_pos (by omega)])
    rw [show ((f.natAbs % 2 : Nat) : Int) = 1 by omega]
    try refine RUN ?_
    apply EV.drawn 2 (by kernel_rfl) (by kernel_rfl); intro xv yw
    (repeat (first | refine' DV ?_ | refine' DA ?_ | refine' DK0 ?_ | refine' DT ?_ | refine' DS ?_))
    refine' DJ.call rfl rfl rfl rfl rfl (cO func17) (fun G hG hd => refIntOf_pc 1 (by omega) (by omega)) (fun _ _ _ h k => RI.mono h k) ?_; rotate_left
    (refine DJ.nil (fun G7 hG7 hF7 => ?_); (case hS => rfl); (case hS2 => rfl))
    try refine RUN ?_
    refine EVL.call rfl rfl rfl rfl rfl (refIntAdd_pc (hF6.mono hG7) hF7.1 hfz rsm_one) ?_
    rintro r8 G8 ⟨ga, gl, gc, rfl, h8⟩ hG8
    try refine RUN ?_
    refine EVL.call rfl rfl rfl rfl rfl (refMake_pc (⟨ga, gl, gc, rfl, h8⟩ : RI G8 _ (f + 1)) (hT6.mono (hG7.trans hG8)) (hN ▸ hNz) bp hp0) ?_
    rintro r G9 ⟨ra, rl, rc, xa', xl', xc', rfl, k1, k2⟩ _
    try refine RUN ?_
    rw [hN]
    exact ⟨ra, rl, rc, xa', xl', xc', rfl, k1, k2⟩
   ·have hN : N = f := hNf.trans (by unfold refN; rw [if_neg (by omega)])
    rw [show ((f.natAbs % 2 : Nat) : Int) = 0 by omega]
    try refine RUN ?_
    refine EVL.call rfl rfl rfl rfl rfl (refMake_pc hF6 hT6 hfz bp hp0) ?_
    rintro r G7 ⟨ra, rl, rc, xa', xl', xc', rfl, k1, k2⟩ _
    try refine RUN ?_
    rw [hN]
    exact ⟨ra, rl, rc, xa', xl', xc', rfl, k1, k2⟩
 ·have hN : N = f + 1 := hNf.trans (by unfold refN; rw [if_pos (by omega)])
  try refine RUN ?_
  apply EV.drawn 2 (by kernel_rfl) (by kernel_rfl); intro xv yw
  (repeat (first | refine' DV ?_ | refine' DA ?_ | refine' DK0 ?_ | refine' DT ?_ | refine' DS ?_))
  refine' DJ.call rfl rfl rfl rfl rfl (cO func17) (fun G hG hd => refIntOf_pc 1 (by omega) (by omega)) (fun _ _ _ h k => RI.mono h k) ?_; rotate_left
  (refine DJ.nil (fun G7 hG7 hF7 => ?_); (case hS => rfl); (case hS2 => rfl))
  try refine RUN ?_
  refine EVL.call rfl rfl rfl rfl rfl (refIntAdd_pc (hF6.mono hG7) hF7.1 hfz rsm_one) ?_
  rintro r8 G8 ⟨ga, gl, gc, rfl, h8⟩ hG8
  try refine RUN ?_
  refine EVL.call rfl rfl rfl rfl rfl (refMake_pc (⟨ga, gl, gc, rfl, h8⟩ : RI G8 _ (f + 1)) (hT6.mono (hG7.trans hG8)) (hN ▸ hNz) bp hp0) ?_
  rintro r G9 ⟨ra, rl, rc, xa', xl', xc', rfl, k1, k2⟩ _
  try refine RUN ?_
  rw [hN]
  exact ⟨ra, rl, rc, xa', xl', xc', rfl, k1, k2⟩
theorem Simplest.pos {x y r : Rat} (h0 : 0 ≤ x) (hb : Best (InS x y true false false) r) : Simplest x y r := by
 have hr0 := best_num0 h0 hb
 exact ⟨by simpa using hb.mem.1, by simpa using hb.mem.2, fun t h1 h2 => hb.den t ⟨by simpa using h1, .inr (by simpa using h2)⟩, fun t h1 h2 => natAbs_le_of hr0 (hb.num t ⟨by simpa using h1, .inr (by simpa using h2)⟩)⟩
theorem Simplest.neg {x y r : Rat} (h0 : y < 0) (hb : Best (InS (-y) (-x) false true false) r) : Simplest x y (-r) := by
 have hr0 := best_num0 (by grind) hb
 have e1 : (if False then -y < r else -y ≤ r) := by simpa using hb.mem.1
 have e2 : (if True then r < -x else r ≤ -x) := by simpa using hb.mem.2
 rw [if_neg not_false] at e1
 rw [if_pos trivial] at e2
 have up : ∀ t, x < t → t ≤ y → InS (-y) (-x) false true false (-t) := fun t h1 h2 => ⟨by simp; grind, .inr (by simp; grind)⟩
 refine ⟨by grind, by grind, fun t h1 h2 => ?_, fun t h1 h2 => ?_⟩
 ·have := hb.den _ (up t h1 h2)
  rwa [Rat.neg_den] at *
 ·have := natAbs_le_of hr0 (hb.num _ (up t h1 h2))
  rwa [Rat.neg_num, Int.natAbs_neg] at *
theorem Simplest.zero {x y : Rat} (h1 : x < 0) (h2 : 0 ≤ y) : Simplest x y 0 := ⟨h1, h2, fun t _ _ => Nat.pos_of_ne_zero t.den_nz, fun t _ _ => Nat.zero_le _⟩
theorem firstZ_closed (l : Rat) : firstZ l false = if (l.num / (l.den : Int) : Int) = l then l.num / (l.den : Int) else l.num / (l.den : Int) + 1 := by
 unfold firstZ
 by_cases h : ((l.num / (l.den : Int) : Int) : Rat) = l <;> simp [h]
theorem least_out {l h : Rat} {low : Bool} {f : Int} (hfe : l.num / (l.den : Int) = f) (h0 : 0 ≤ l) (hlt : l < h)
  (hA : ¬ ((f : Rat) = l ∧ low = true)) (hB : ¬ ((f : Rat) + 1 < h ∨ ((f : Rat) + 1 = h ∧ low = false))) :
  0 ≤ f ∧ (f : Rat) ≤ l ∧ l < (f : Rat) + 1 ∧ h ≤ (f : Rat) + 1 ∧ (f : Rat) < h ∧ ¬ InS l h (!low) low false (f : Rat) := by
 have fl := floor_le l
 have hf0 : 0 ≤ l.num / (l.den : Int) := Int.ediv_nonneg (Rat.num_nonneg.2 h0) (by omega)
 rw [hfe] at fl hf0
 refine ⟨hf0, fl.1, fl.2, ?_, by grind, fun k => ?_⟩
 ·grind
 ·have k1 := k.1
  cases low
  ·simp at k1; grind
  ·simp at k1; exact hA ⟨Rat.le_antisymm fl.1 k1, rfl⟩
theorem inv_floor {b : Rat} (h0 : 0 < b) (h1 : b ≤ 1) {n : Int} (hn : (1 / b).num / ((1 / b).den : Int) = n) : 1 ≤ n ∧ (ordR (1 / (n : Rat)) b = 0 ↔ (n : Rat) = 1 / b) ∧ (ordR (1 / (n : Rat)) b = 1 ↔ (n : Rat) ≠ 1 / b) := by
 have fl := floor_le (1 / b)
 rw [hn] at fl
 have hp := ipos h0
 have k1 : (1 : Rat) ≤ 1 / b := by
  have := (ile (a := 1) (b := b) (by decide) h0).2 h1
  rwa [show (1 : Rat) / 1 = 1 by decide +kernel] at this
 have hn1 : 1 ≤ n := by
  have : (1 : Rat) < (n : Rat) + 1 := by grind
  have : ((1 : Int) : Rat) < ((n + 1 : Int) : Rat) := by push_cast; exact this
  have := Rat.intCast_lt_intCast.1 this
  omega
 have hnp : (0 : Rat) < (n : Rat) := by
  have : ((0 : Int) : Rat) < ((n : Int) : Rat) := Rat.intCast_lt_intCast.2 (by omega)
  exact_mod_cast this
 have hbb : 1 / (1 / b) = b := by grind
 have i1 := ile (a := 1 / b) (b := (n : Rat)) hp hnp
 rw [hbb] at i1
 have hle : b ≤ 1 / (n : Rat) := i1.2 fl.1
 have heq : 1 / (n : Rat) = b ↔ (n : Rat) = 1 / b := by constructor <;> intro h <;> grind
 refine ⟨hn1, ?_, ?_⟩
 ·rw [ordR_zero, heq]
 ·constructor
  ·intro h e
   have := (ordR_zero _ _).2 (heq.2 e)
   omega
  ·intro h
   have h2 : ¬ 1 / (n : Rat) = b := fun e => h (heq.1 e)
   unfold ordR
   rw [if_neg (Rat.not_lt.2 hle), if_pos (by grind)]
theorem rq_of_int {G : Hp} {b : Value} {a : Option Addr} {l c : Nat} {f : Int} {v : Value} (h : RI G (.agg #[b, .slice a l c]) f) (h1 : RN G v 1) : RQ G (.agg #[b, .slice a l c, v]) (f : Rat) := by
 obtain ⟨a1, l1, c1, e, hn⟩ := h
 obtain ⟨a2, c2, rfl⟩ := SlC.val h1
 cases e
 exact ⟨_, _, _, _, _, _, rfl, hn, h1⟩
theorem rq_le {a : Rat} (h : ht a ≤ 100000000) : rq a := h
theorem rq_cells {G : Hp} {b : Value} {a a' : Option Addr} {l l' c c' : Nat} {q : Rat} (h : RQ G (.agg #[b, .slice a l c, .slice a' l' c']) q) : RN G (.slice a l c) q.num.natAbs ∧ RN G (.slice a' l' c') q.den := by
 obtain ⟨_, _, _, _, _, _, e, h1, h2⟩ := h
 cases e
 exact ⟨h1, h2⟩
theorem ordR_neg {a b : Rat} : ordR a b = -1 ↔ a < b := by
 unfold ordR
 constructor
 ·intro h; split at h
  ·assumption
  ·split at h <;> omega
 ·intro h; rw [if_pos h]
theorem ordR_three' (a b : Rat) : ordR a b = -1 ∨ ordR a b = 0 ∨ ordR a b = 1 := by
 unfold ordR; split
 ·exact .inl rfl
 ·split
  ·exact .inr (.inr rfl)
  ·exact .inr (.inl rfl)
set_option maxHeartbeats 8000000 in
theorem least_walk {H : Hp} {u v : Value} {l h : Rat} {low : Bool} {f : Int} (hu : RQ H u l) (hv : RQ H v h) (hfe : l.num / (l.den : Int) = f) (hl : ht l ≤ 400) (hh : ht h ≤ 400) (hlt : l < h) (r : Rat)
  (hA : (f : Rat) = l → low = true → r = (f : Rat))
  (hB : ¬ ((f : Rat) = l ∧ low = true) → ((f : Rat) + 1 < h ∨ ((f : Rat) + 1 = h ∧ low = false)) → r = (f : Rat) + 1)
  (hC : ¬ ((f : Rat) + 1 < h ∨ ((f : Rat) + 1 = h ∧ low = false)) → (f : Rat) = l → low = false → 0 < h - (f : Rat) ∧ h - (f : Rat) ≤ 1 ∧ r = (f : Rat) + 1 / ((if (((1 / (h - (f : Rat))).num / ((1 / (h - (f : Rat))).den : Int) : Int) : Rat) = 1 / (h - (f : Rat)) then (1 / (h - (f : Rat))).num / ((1 / (h - (f : Rat))).den : Int) else (1 / (h - (f : Rat))).num / ((1 / (h - (f : Rat))).den : Int) + 1 : Int) : Rat))
  (hD : ¬ ((f : Rat) + 1 < h ∨ ((f : Rat) + 1 = h ∧ low = false)) → (f : Rat) ≠ l → ∃ w : Rat, ht w ≤ 500 ∧ w.num ≠ 0 ∧ (h - (f : Rat)).num ≠ 0 ∧ (l - (f : Rat)).num ≠ 0 ∧ r = (f : Rat) + 1 / w ∧
   ∀ (G : Hp) (u' v' : Value), RQ G u' (1 / (h - (f : Rat))) → RQ G v' (1 / (l - (f : Rat))) → PC prog 145 #[u', v', .bool (!low)] G fun x G' => RQ G' x w) :
  PC prog 145 #[u, v, .bool low] H fun x H' => RQ H' x r := by
 obtain ⟨la, ll, lc, ma, ml, mc, rfl, hl1, hl2⟩ := id hu
 obtain ⟨ha, hl', hc, ka, kl, kc, rfl, hh1, hh2⟩ := id hv
 have ql : rq l := rq_le (by omega)
 have qh : rq h := rq_le (by omega)
 have hbl := bl_ediv l.num l.den
 have hbn := bl_num_le l
 rw [hfe] at hbl
 have hbf : bl f.natAbs ≤ 400 := by omega
 have hff : ht (f : Rat) ≤ 401 := by
  show max (bl f.natAbs) (bl 1) ≤ _
  rw [bl_one']; omega
 have qf : rq (f : Rat) := rq_le (by omega)
 have hz1 := ordR_zero (f : Rat) l
 have hflo := refFloor_pc hu ql
 rw [hfe] at hflo
 have h1r : ht (1 : Rat) ≤ 2 := by have := ht_int 1; rw [show (1 : Int).natAbs = 1 from rfl, bl_one'] at this; exact this
 have q1 : rq (1 : Rat) := rq_le (by omega)
 have hy1 := ht_add (f : Rat) 1
 have qy : rq ((f : Rat) + 1) := rq_le (by omega)
 have hOf : ∀ G, PC prog 99 #[.int .i64 1] G fun r G' => RQ G' r (1 : Rat) := fun G => refOf_pc 1 (by omega) (by omega)
 have hsh := ht_sub h (f : Rat)
 have hsl := ht_sub l (f : Rat)
 have qsh : rq (h - (f : Rat)) := rq_le (by omega)
 have qsl : rq (l - (f : Rat)) := rq_le (by omega)
 have hih := ht_div 1 (h - (f : Rat))
 have hil := ht_div 1 (l - (f : Rat))
 refine BD func145 ntmps145 ?_
 try refine RUN ?_
 refine EVL.call rfl rfl rfl rfl rfl (hflo) ?_
 rintro r1 G1 ⟨fa, fl, fc, rfl, h1⟩ hG1
 have hF : ∀ G, G1.Le G → RI G (.agg #[.bool (decide (f < 0)), .slice fa fl fc]) f := fun G hG => ⟨fa, fl, fc, rfl, RN.mono h1 hG⟩
 clear hflo
 try refine RUN ?_
 apply EV.drawn 4 (by kernel_rfl) (by kernel_rfl); intro xv yw
 (repeat (first | refine' DV ?_ | refine' DA ?_ | refine' DK0 ?_ | refine' DT ?_ | refine' DS ?_))
 refine' DJ.call rfl rfl rfl rfl rfl (cO func19) (fun G hG hd => refNatOf_pc 1 (by decide) G) (fun _ _ _ h k => SlN.mono h k) ?_; rotate_left
 refine' DJ.fnP tO (1) (fun v => .agg #[.bool (decide (f < 0)), .slice fa fl fc, v]) rfl rfl rfl (by kernel_rfl) (fun G hd => (by obtain ⟨a1, c1, e⟩ := SlC.val (hd.head (by kernel_rfl)); rw [e]; rfl)) ?_; rotate_left
 (repeat (first | refine' DV ?_ | refine' DA ?_ | refine' DK0 ?_ | refine' DT ?_ | refine' DS ?_))
 (refine DJ.nil (fun G2 hG2 hF2 => ?_); (case hS => rfl); (case hS2 => rfl))
 have hx := rq_of_int (hF G2 hG2) hF2.1
 obtain ⟨a1, c1, e⟩ := SlC.val hF2.1
 rw [e] at hx ⊢
 clear hF2 e
 have hu2 := hu.mono (hG1.trans hG2)
 have hv2 := hv.mono (hG1.trans hG2)
 have cx := refCmp_pc hx hu2 qf ql
 generalize ordR (f : Rat) l = o1 at *
 by_cases e1 : (f : Rat) = l
 ·have := hz1.2 e1
  subst this
  cases low
  case true =>
   repeat (first | refine RUN ?_ | refine CV (cx) ?_ | refine CE (cx) ?_)
   rw [hA e1 rfl]
   exact ⟨_, _, _, _, _, _, rfl, (rq_cells hx).1, (rq_cells hx).2⟩
  case false =>
   repeat (first | refine RUN ?_ | refine CV (cx) ?_ | refine CE (cx) ?_)
   apply EV.drawn 4 (by kernel_rfl) (by kernel_rfl); intro xv yw
   (repeat (first | refine' DV ?_ | refine' DA ?_ | refine' DK0 ?_ | refine' DT ?_ | refine' DS ?_))
   refine' DJ.call rfl rfl rfl rfl rfl (cO func99) (fun G hG hd => hOf G) (fun _ _ _ h k => RQ.mono h k) ?_; rotate_left
   refine' DJ.call rfl rfl rfl rfl rfl (cO func46) (fun G hG hd => refAdd_pc (hx.mono hG) (hd.head (by kernel_rfl)) qf q1) (fun _ _ _ h k => RQ.mono h k) ?_; rotate_left
   (repeat (first | refine' DV ?_ | refine' DA ?_ | refine' DK0 ?_ | refine' DT ?_ | refine' DS ?_))
   (refine DJ.nil (fun G3 hG3 hF3 => ?_); (case hS => rfl); (case hS2 => rfl))
   have hy := hF3.1
   obtain ⟨ya, yl, yc, za, zl, zc, e, y1, y2⟩ := id hy
   rw [e] at hy ⊢
   clear hF3 e y1 y2
   have hx3 := hx.mono hG3
   have hu3 := hu2.mono hG3
   have hv3 := hv2.mono hG3
   have cy := refCmp_pc hy hv3 qy qh
   rcases ordR_three' ((f : Rat) + 1) h with o2 | o2 | o2
   ·rw [o2] at cy
    repeat (first | refine RUN ?_ | refine CV (cy) ?_ | refine CE (cy) ?_)
    rw [hB (fun k => absurd k.2 (by decide)) (.inl (ordR_neg.1 o2))]
    exact ⟨_, _, _, _, _, _, rfl, (rq_cells hy).1, (rq_cells hy).2⟩
   ·rw [o2] at cy
    repeat (first | refine RUN ?_ | refine CV (cy) ?_ | refine CE (cy) ?_)
    rw [hB (fun k => absurd k.2 (by decide)) (.inr ⟨(ordR_zero _ _).1 o2, rfl⟩)]
    exact ⟨_, _, _, _, _, _, rfl, (rq_cells hy).1, (rq_cells hy).2⟩
   ·rw [o2] at cy
    have hno : ¬ ((f : Rat) + 1 < h ∨ ((f : Rat) + 1 = h ∧ false = false)) := fun k => by
     rcases k with k | k
     ·rw [ordR_neg.2 k] at o2; omega
     ·rw [(ordR_zero _ _).2 k.1] at o2; omega
    obtain ⟨c1, c2, rfl⟩ := hC hno e1 rfl
    repeat (first | refine RUN ?_ | refine CV (cy) ?_ | refine CE (cy) ?_)
    try refine RUN ?_
    refine EVL.call rfl rfl rfl rfl rfl (refSub_pc hv3 hx3 qh qf) ?_
    rintro r4 G4 ⟨ba, bL, bc, ca, cl, cc, rfl, b1, b2⟩ hG4
    have hb : RQ G4 (.agg #[.bool (decide ((h - (f : Rat)).num < 0)), .slice ba bL bc, .slice ca cl cc]) (h - (f : Rat)) := ⟨_, _, _, _, _, _, rfl, b1, b2⟩
    have hnum : (h - (f : Rat)).num ≠ 0 := by have := npos c1; omega
    generalize h - (f : Rat) = b at *
    have qib : rq (1 / b) := rq_le (by omega)
    have hbn' := bl_num_le (1 / b)
    have hbe := bl_ediv (1 / b).num (1 / b).den
    generalize hn : (1 / b).num / ((1 / b).den : Int) = n at *
    obtain ⟨n1, n2, n3⟩ := inv_floor c1 c2 hn
    have hfb : ∀ (G : Hp) (v : Value), RQ G v (1 / b) → PC prog 61 #[v] G fun r G' => RI G' r n := fun G v h => hn ▸ refFloor_pc h qib
    have hnb : bl n.natAbs ≤ 2000 := by omega
    have hnh : ht (n : Rat) ≤ 2001 := by
     show max (bl n.natAbs) (bl 1) ≤ _
     rw [bl_one']; omega
    have hn1h : ht ((n + 1 : Int) : Rat) ≤ 2003 := by
     have k1 := bl_natAbs_add n 1
     rw [show (1 : Int).natAbs = 1 from rfl, bl_one'] at k1
     show max (bl (n + 1).natAbs) (bl 1) ≤ _
     rw [bl_one']; omega
    have qn : rq (n : Rat) := rq_le (by omega)
    have hin := ht_div 1 (n : Rat)
    have hin1 := ht_div 1 ((n + 1 : Int) : Rat)
    have qin : rq (1 / (n : Rat)) := rq_le (by omega)
    try refine RUN ?_
    apply EV.drawn 5 (by kernel_rfl) (by kernel_rfl); intro xv yw
    (repeat (first | refine' DV ?_ | refine' DA ?_ | refine' DK0 ?_ | refine' DT ?_ | refine' DS ?_))
    refine' DJ.call rfl rfl rfl rfl rfl (cO func99) (fun G hG hd => hOf G) (fun _ _ _ h k => RQ.mono h k) ?_; rotate_left
    (repeat (first | refine' DV ?_ | refine' DA ?_ | refine' DK0 ?_ | refine' DT ?_ | refine' DS ?_))
    refine' DJ.call rfl rfl rfl rfl rfl (cO func53) (fun G hG hd => refDivQ_pc (hd.head (by kernel_rfl)) (hb.mono hG) q1 qsh hnum) (fun _ _ _ h k => RQ.mono h k) ?_; rotate_left
    refine' DJ.call rfl rfl rfl rfl rfl (cO func61) (fun G hG hd => hfb _ _ (hd.head (by kernel_rfl))) (fun _ _ _ h k => RI.mono h k) ?_; rotate_left
    (repeat (first | refine' DV ?_ | refine' DA ?_ | refine' DK0 ?_ | refine' DT ?_ | refine' DS ?_))
    (refine DJ.nil (fun G5 hG5 hF5 => ?_); (case hS => rfl); (case hS2 => rfl))
    have hN := hF5.1
    obtain ⟨na, nl, nc, e, hN'⟩ := id hN
    rw [e] at hN ⊢
    clear hF5 e
    try refine RUN ?_
    apply EV.drawn 6 (by kernel_rfl) (by kernel_rfl); intro xv yw
    (repeat (first | refine' DV ?_ | refine' DA ?_ | refine' DK0 ?_ | refine' DT ?_ | refine' DS ?_))
    refine' DJ.call rfl rfl rfl rfl rfl (cO func99) (fun G hG hd => hOf G) (fun _ _ _ h k => RQ.mono h k) ?_; rotate_left
    (repeat (first | refine' DV ?_ | refine' DA ?_ | refine' DK0 ?_ | refine' DT ?_ | refine' DS ?_))
    refine' DJ.call rfl rfl rfl rfl rfl (cO func19) (fun G hG hd => refNatOf_pc 1 (by decide) G) (fun _ _ _ h k => SlN.mono h k) ?_; rotate_left
    refine' DJ.fnP tO (2) (fun v => .agg #[.bool (decide (n < 0)), .slice na nl nc, v]) rfl rfl rfl (by kernel_rfl) (fun G hd => (by obtain ⟨a1, c1, e⟩ := SlC.val (hd.head (by kernel_rfl)); rw [e]; rfl)) ?_; rotate_left
    refine' DJ.call rfl rfl rfl rfl rfl (cO func53) (fun G hG hd => refDivQ_pc (hd.tail.head (by kernel_rfl)) (rq_of_int (hN.mono hG) (hd.head (by kernel_rfl))) q1 qn (by show n ≠ 0; omega)) (fun _ _ _ h k => RQ.mono h k) ?_; rotate_left
    (repeat (first | refine' DV ?_ | refine' DA ?_ | refine' DK0 ?_ | refine' DT ?_ | refine' DS ?_))
    (refine DJ.nil (fun G6 hG6 hF6 => ?_); (case hS => rfl); (case hS2 => rfl))
    have hZ := hF6.1
    obtain ⟨ua, ul, uc, wa, wl, wc, e, z1, z2⟩ := id hZ
    rw [e] at hZ ⊢
    clear hF6 e z1 z2
    have hb6 := (hb.mono hG5).mono hG6
    have hN6 := hN.mono hG6
    have hx6 := ((hx3.mono hG4).mono hG5).mono hG6
    have cz := refCmp_pc hZ hb6 qin qsh
    by_cases hnq : (n : Rat) = 1 / b
    ·rw [n2.2 hnq] at cz
     rw [if_pos hnq] at *
     repeat (first | refine RUN ?_ | refine CV (cz) ?_ | refine CE (cz) ?_)
     refine EVL.call rfl rfl rfl rfl rfl (refAdd_pc hx6 hZ qf (rq_le (by omega))) ?_
     rintro r9 G9 ⟨_, _, _, _, _, _, rfl, d1, d2⟩ _
     try refine RUN ?_
     exact ⟨_, _, _, _, _, _, rfl, d1, d2⟩
    ·rw [n3.2 hnq] at cz
     rw [if_neg hnq] at *
     repeat (first | refine RUN ?_ | refine CV (cz) ?_ | refine CE (cz) ?_)
     apply EV.drawn 3 (by kernel_rfl) (by kernel_rfl); intro xv yw
     (repeat (first | refine' DV ?_ | refine' DA ?_ | refine' DK0 ?_ | refine' DT ?_ | refine' DS ?_))
     refine' DJ.call rfl rfl rfl rfl rfl (cO func99) (fun G hG hd => hOf G) (fun _ _ _ h k => RQ.mono h k) ?_; rotate_left
     (repeat (first | refine' DV ?_ | refine' DA ?_ | refine' DK0 ?_ | refine' DT ?_ | refine' DS ?_))
     refine' DJ.call rfl rfl rfl rfl rfl (cO func17) (fun G hG hd => refIntOf_pc 1 (by omega) (by omega)) (fun _ _ _ h k => RI.mono h k) ?_; rotate_left
     (refine DJ.nil (fun G7 hG7 hF7 => ?_); (case hS => rfl); (case hS2 => rfl))
     try refine RUN ?_
     refine EVL.call rfl rfl rfl rfl rfl (refIntAdd_pc (hN6.mono hG7) hF7.1 (Nat.le_trans hnb (by omega)) rsm_one) ?_
     rintro r8 G8 ⟨pa, pl, pc, rfl, p1⟩ hG8
     try refine RUN ?_
     refine EVL.call rfl rfl rfl rfl rfl (refNatOf_pc 1 (by decide) G8) ?_
     rintro r10 G10 p2 hG10
     obtain ⟨o1, o2, rfl⟩ := SlC.val p2
     try refine RUN ?_
     refine EVL.call rfl rfl rfl rfl rfl (refDivQ_pc ((hF7.2.1.mono hG8).mono hG10) (rq_of_int (RI.mono (H := G8) (z := n + 1) ⟨pa, pl, pc, rfl, p1⟩ hG10) p2) q1 (rq_le (Nat.le_trans hn1h (by omega))) (by show n + 1 ≠ 0; omega)) ?_
     rintro r11 G11 ⟨_, _, _, _, _, _, rfl, s1, s2⟩ hG11
     try refine RUN ?_
     refine EVL.call rfl rfl rfl rfl rfl (refAdd_pc (((hx6.mono hG7).mono hG8).mono (hG10.trans hG11)) ⟨_, _, _, _, _, _, rfl, s1, s2⟩ qf (rq_le (by omega))) ?_
     rintro r9 G9 ⟨_, _, _, _, _, _, rfl, d1, d2⟩ _
     try refine RUN ?_
     exact ⟨_, _, _, _, _, _, rfl, d1, d2⟩
 ·have h01 : o1 ≠ 0 := fun e => e1 (hz1.1 e)
  cases low
  case true =>
   repeat (first | refine RUN ?_ | refine CV (cx) ?_ | refine CE (cx) ?_)
   rw [show (o1 == 0) = false by simpa using h01]
   try refine RUN ?_
   apply EV.drawn 4 (by kernel_rfl) (by kernel_rfl); intro xv yw
   (repeat (first | refine' DV ?_ | refine' DA ?_ | refine' DK0 ?_ | refine' DT ?_ | refine' DS ?_))
   refine' DJ.call rfl rfl rfl rfl rfl (cO func99) (fun G hG hd => hOf G) (fun _ _ _ h k => RQ.mono h k) ?_; rotate_left
   refine' DJ.call rfl rfl rfl rfl rfl (cO func46) (fun G hG hd => refAdd_pc (hx.mono hG) (hd.head (by kernel_rfl)) qf q1) (fun _ _ _ h k => RQ.mono h k) ?_; rotate_left
   (repeat (first | refine' DV ?_ | refine' DA ?_ | refine' DK0 ?_ | refine' DT ?_ | refine' DS ?_))
   (refine DJ.nil (fun G3 hG3 hF3 => ?_); (case hS => rfl); (case hS2 => rfl))
   have hy := hF3.1
   obtain ⟨ya, yl, yc, za, zl, zc, e, y1, y2⟩ := id hy
   rw [e] at hy ⊢
   clear hF3 e y1 y2
   have hx3 := hx.mono hG3
   have hu3 := hu2.mono hG3
   have hv3 := hv2.mono hG3
   have cy := refCmp_pc hy hv3 qy qh
   rcases ordR_three' ((f : Rat) + 1) h with o2 | o2 | o2
   ·rw [o2] at cy
    repeat (first | refine RUN ?_ | refine CV (cy) ?_ | refine CE (cy) ?_)
    rw [hB (fun k => e1 k.1) (.inl (ordR_neg.1 o2))]
    exact ⟨_, _, _, _, _, _, rfl, (rq_cells hy).1, (rq_cells hy).2⟩
   all_goals
    rw [o2] at cy
    have hno : ¬ ((f : Rat) + 1 < h ∨ ((f : Rat) + 1 = h ∧ true = false)) := fun k => by
     rcases k with k | k
     ·rw [ordR_neg.2 k] at o2; omega
     ·exact absurd k.2 (by decide)
    repeat (first | refine RUN ?_ | refine CV (cy) ?_ | refine CE (cy) ?_)
    try refine RUN ?_
    refine EVL.call rfl rfl rfl rfl rfl (refSub_pc hv3 hx3 qh qf) ?_
    rintro r4 G4 ⟨ba, bL, bc, ca, cl, cc, rfl, b1, b2⟩ hG4
    have hb : RQ G4 (.agg #[.bool (decide ((h - (f : Rat)).num < 0)), .slice ba bL bc, .slice ca cl cc]) (h - (f : Rat)) := ⟨_, _, _, _, _, _, rfl, b1, b2⟩
    obtain ⟨w, hw1, hw2, hw3, hw4, rfl, hrec⟩ := hD hno e1
    have qw : rq w := rq_le (by omega)
    have hiw := ht_div 1 w
    try refine RUN ?_
    apply EV.drawn 14 (by kernel_rfl) (by kernel_rfl); intro xv yw
    (repeat (first | refine' DV ?_ | refine' DA ?_ | refine' DK0 ?_ | refine' DT ?_ | refine' DS ?_))
    refine' DJ.call rfl rfl rfl rfl rfl (cO func99) (fun G hG hd => hOf G) (fun _ _ _ h k => RQ.mono h k) ?_; rotate_left
    refine' DJ.call rfl rfl rfl rfl rfl (cO func99) (fun G hG hd => hOf G) (fun _ _ _ h k => RQ.mono h k) ?_; rotate_left
    (repeat (first | refine' DV ?_ | refine' DA ?_ | refine' DK0 ?_ | refine' DT ?_ | refine' DS ?_))
    refine' DJ.call rfl rfl rfl rfl rfl (cO func53) (fun G hG hd => refDivQ_pc (hd.head (by kernel_rfl)) (hb.mono hG) q1 qsh hw3) (fun _ _ _ h k => RQ.mono h k) ?_; rotate_left
    refine' DJ.call rfl rfl rfl rfl rfl (cO func99) (fun G hG hd => hOf G) (fun _ _ _ h k => RQ.mono h k) ?_; rotate_left
    (repeat (first | refine' DV ?_ | refine' DA ?_ | refine' DK0 ?_ | refine' DT ?_ | refine' DS ?_))
    refine' DJ.call rfl rfl rfl rfl rfl (cO func47) (fun G hG hd => refSub_pc ((hu3.mono hG4).mono hG) ((hx3.mono hG4).mono hG) ql qf) (fun _ _ _ h k => RQ.mono h k) ?_; rotate_left
    refine' DJ.call rfl rfl rfl rfl rfl (cO func53) (fun G hG hd => refDivQ_pc (hd.tail.head (by kernel_rfl)) (hd.head (by kernel_rfl)) q1 qsl hw4) (fun _ _ _ h k => RQ.mono h k) ?_; rotate_left
    (repeat (first | refine' DV ?_ | refine' DA ?_ | refine' DK0 ?_ | refine' DT ?_ | refine' DS ?_))
    refine' DJ.call rfl rfl rfl rfl rfl (cO func145) (fun G hG hd => hrec _ _ _ (hd.tail.tail.tail.head (by kernel_rfl)) (hd.head (by kernel_rfl))) (fun _ _ _ h k => RQ.mono h k) ?_; rotate_left
    refine' DJ.call rfl rfl rfl rfl rfl (cO func53) (fun G hG hd => refDivQ_pc (hd.tail.tail.tail.tail.tail.tail.head (by kernel_rfl)) (hd.head (by kernel_rfl)) q1 qw hw2) (fun _ _ _ h k => RQ.mono h k) ?_; rotate_left
    (refine DJ.nil (fun G5 hG5 hF5 => ?_); (case hS => rfl); (case hS2 => rfl))
    try refine RUN ?_
    refine EVL.call rfl rfl rfl rfl rfl (refAdd_pc ((hx3.mono hG4).mono hG5) hF5.1 qf (rq_le (by omega))) ?_
    rintro r6 G6 ⟨_, _, _, _, _, _, rfl, d1, d2⟩ _
    try refine RUN ?_
    exact ⟨_, _, _, _, _, _, rfl, d1, d2⟩
  case false =>
   repeat (first | refine RUN ?_ | refine CV (cx) ?_ | refine CE (cx) ?_)
   rw [show (o1 == 0) = false by simpa using h01]
   try refine RUN ?_
   apply EV.drawn 4 (by kernel_rfl) (by kernel_rfl); intro xv yw
   (repeat (first | refine' DV ?_ | refine' DA ?_ | refine' DK0 ?_ | refine' DT ?_ | refine' DS ?_))
   refine' DJ.call rfl rfl rfl rfl rfl (cO func99) (fun G hG hd => hOf G) (fun _ _ _ h k => RQ.mono h k) ?_; rotate_left
   refine' DJ.call rfl rfl rfl rfl rfl (cO func46) (fun G hG hd => refAdd_pc (hx.mono hG) (hd.head (by kernel_rfl)) qf q1) (fun _ _ _ h k => RQ.mono h k) ?_; rotate_left
   (repeat (first | refine' DV ?_ | refine' DA ?_ | refine' DK0 ?_ | refine' DT ?_ | refine' DS ?_))
   (refine DJ.nil (fun G3 hG3 hF3 => ?_); (case hS => rfl); (case hS2 => rfl))
   have hy := hF3.1
   obtain ⟨ya, yl, yc, za, zl, zc, e, y1, y2⟩ := id hy
   rw [e] at hy ⊢
   clear hF3 e y1 y2
   have hx3 := hx.mono hG3
   have hu3 := hu2.mono hG3
   have hv3 := hv2.mono hG3
   have cy := refCmp_pc hy hv3 qy qh
   rcases ordR_three' ((f : Rat) + 1) h with o2 | o2 | o2
   ·rw [o2] at cy
    repeat (first | refine RUN ?_ | refine CV (cy) ?_ | refine CE (cy) ?_)
    rw [hB (fun k => e1 k.1) (.inl (ordR_neg.1 o2))]
    exact ⟨_, _, _, _, _, _, rfl, (rq_cells hy).1, (rq_cells hy).2⟩
   ·rw [o2] at cy
    repeat (first | refine RUN ?_ | refine CV (cy) ?_ | refine CE (cy) ?_)
    rw [hB (fun k => e1 k.1) (.inr ⟨(ordR_zero _ _).1 o2, rfl⟩)]
    exact ⟨_, _, _, _, _, _, rfl, (rq_cells hy).1, (rq_cells hy).2⟩
   ·rw [o2] at cy
    have hno : ¬ ((f : Rat) + 1 < h ∨ ((f : Rat) + 1 = h ∧ false = false)) := fun k => by
     rcases k with k | k
     ·rw [ordR_neg.2 k] at o2; omega
     ·rw [(ordR_zero _ _).2 k.1] at o2; omega
    repeat (first | refine RUN ?_ | refine CV (cy) ?_ | refine CE (cy) ?_)
    try refine RUN ?_
    refine EVL.call rfl rfl rfl rfl rfl (refSub_pc hv3 hx3 qh qf) ?_
    rintro r4 G4 ⟨ba, bL, bc, ca, cl, cc, rfl, b1, b2⟩ hG4
    have hb : RQ G4 (.agg #[.bool (decide ((h - (f : Rat)).num < 0)), .slice ba bL bc, .slice ca cl cc]) (h - (f : Rat)) := ⟨_, _, _, _, _, _, rfl, b1, b2⟩
    obtain ⟨w, hw1, hw2, hw3, hw4, rfl, hrec⟩ := hD hno e1
    have qw : rq w := rq_le (by omega)
    have hiw := ht_div 1 w
    try refine RUN ?_
    apply EV.drawn 14 (by kernel_rfl) (by kernel_rfl); intro xv yw
    (repeat (first | refine' DV ?_ | refine' DA ?_ | refine' DK0 ?_ | refine' DT ?_ | refine' DS ?_))
    refine' DJ.call rfl rfl rfl rfl rfl (cO func99) (fun G hG hd => hOf G) (fun _ _ _ h k => RQ.mono h k) ?_; rotate_left
    refine' DJ.call rfl rfl rfl rfl rfl (cO func99) (fun G hG hd => hOf G) (fun _ _ _ h k => RQ.mono h k) ?_; rotate_left
    (repeat (first | refine' DV ?_ | refine' DA ?_ | refine' DK0 ?_ | refine' DT ?_ | refine' DS ?_))
    refine' DJ.call rfl rfl rfl rfl rfl (cO func53) (fun G hG hd => refDivQ_pc (hd.head (by kernel_rfl)) (hb.mono hG) q1 qsh hw3) (fun _ _ _ h k => RQ.mono h k) ?_; rotate_left
    refine' DJ.call rfl rfl rfl rfl rfl (cO func99) (fun G hG hd => hOf G) (fun _ _ _ h k => RQ.mono h k) ?_; rotate_left
    (repeat (first | refine' DV ?_ | refine' DA ?_ | refine' DK0 ?_ | refine' DT ?_ | refine' DS ?_))
    refine' DJ.call rfl rfl rfl rfl rfl (cO func47) (fun G hG hd => refSub_pc ((hu3.mono hG4).mono hG) ((hx3.mono hG4).mono hG) ql qf) (fun _ _ _ h k => RQ.mono h k) ?_; rotate_left
    refine' DJ.call rfl rfl rfl rfl rfl (cO func53) (fun G hG hd => refDivQ_pc (hd.tail.head (by kernel_rfl)) (hd.head (by kernel_rfl)) q1 qsl hw4) (fun _ _ _ h k => RQ.mono h k) ?_; rotate_left
    (repeat (first | refine' DV ?_ | refine' DA ?_ | refine' DK0 ?_ | refine' DT ?_ | refine' DS ?_))
    refine' DJ.call rfl rfl rfl rfl rfl (cO func145) (fun G hG hd => hrec _ _ _ (hd.tail.tail.tail.head (by kernel_rfl)) (hd.head (by kernel_rfl))) (fun _ _ _ h k => RQ.mono h k) ?_; rotate_left
    refine' DJ.call rfl rfl rfl rfl rfl (cO func53) (fun G hG hd => refDivQ_pc (hd.tail.tail.tail.tail.tail.tail.head (by kernel_rfl)) (hd.head (by kernel_rfl)) q1 qw hw2) (fun _ _ _ h k => RQ.mono h k) ?_; rotate_left
    (refine DJ.nil (fun G5 hG5 hF5 => ?_); (case hS => rfl); (case hS2 => rfl))
    try refine RUN ?_
    refine EVL.call rfl rfl rfl rfl rfl (refAdd_pc ((hx3.mono hG4).mono hG5) hF5.1 qf (rq_le (by omega))) ?_
    rintro r6 G6 ⟨_, _, _, _, _, _, rfl, d1, d2⟩ _
    try refine RUN ?_
    exact ⟨_, _, _, _, _, _, rfl, d1, d2⟩
theorem least_pc : ∀ (N : Nat) (l h : Rat) (low : Bool), l.den + h.den ≤ N → 0 ≤ l → l < h → ht l ≤ 400 → ht h ≤ 400 →
  ∃ r, Best (InS l h (!low) low false) r ∧ ∀ (H : Hp) (u v : Value), RQ H u l → RQ H v h → PC prog 145 #[u, v, .bool low] H fun x H' => RQ H' x r
 | 0, l, h, low, hN, _, _, _, _ => by have := Nat.pos_of_ne_zero l.den_nz; omega
 | N + 1, l, h, low, hN, h0, hlt, hl, hh => by
  have fl := floor_le l
  generalize hfe : l.num / (l.den : Int) = f at *
  by_cases cA : (f : Rat) = l ∧ low = true
  ·refine ⟨(f : Rat), ?_, fun H u v hu hv => least_walk hu hv hfe hl hh hlt _ (fun _ _ => rfl) (fun k => absurd cA k) (fun _ e1 e2 => by rw [e2] at cA; exact absurd cA.2 (by decide)) (fun _ k => absurd cA.1 k)⟩
   obtain ⟨e, rfl⟩ := cA
   exact first_best l h (!true) true false h0 f ⟨by simp; grind, .inr (by simp; grind)⟩ (by grind) (fun _ => by grind)
  ·by_cases cB : (f : Rat) + 1 < h ∨ ((f : Rat) + 1 = h ∧ low = false)
   ·refine ⟨(f : Rat) + 1, ?_, fun H u v hu hv => least_walk hu hv hfe hl hh hlt _ (fun e1 e2 => absurd ⟨e1, e2⟩ cA) (fun _ _ => rfl) (fun k => absurd cB k) (fun k => absurd cB k)⟩
    rw [show (f : Rat) + 1 = ((f + 1 : Int) : Rat) by push_cast; rfl]
    refine first_best l h (!low) low false h0 (f + 1) ⟨?_, .inr ?_⟩ (by push_cast; grind) (fun k => ?_)
    ·push_cast
     cases low <;> simp <;> grind
    ·push_cast
     cases low
     ·simp; grind
     ·simp; rcases cB with k | k
      ·exact k
      ·exact absurd k.2 (by decide)
    ·push_cast
     have hl' : low = true := by cases low with | false => cases k | true => rfl
     have : (f : Rat) ≠ l := fun e => cA ⟨e, hl'⟩
     grind
   ·obtain ⟨f0, f1, f2, f3, f4, f5⟩ := least_out hfe h0 hlt cA cB
    have hb0 : 0 < h - (f : Rat) := by grind
    have hb1 : h - (f : Rat) ≤ 1 := by grind
    by_cases e1 : (f : Rat) = l
    ·have hlow : low = false := by cases low with | false => rfl | true => exact absurd ⟨e1, rfl⟩ cA
     subst hlow
     refine ⟨(f : Rat) + 1 / (firstZ (1 / (h - (f : Rat))) false : Rat), ?_, fun H u v hu hv => least_walk hu hv hfe hl hh hlt _ (fun _ k => by cases k) (fun _ k => absurd k cB) (fun _ _ _ => ⟨hb0, hb1, by rw [firstZ_closed]⟩) (fun _ k => absurd e1 k)⟩
     refine step_best l h (!false) false f f0 f1 hlt f5 _ ?_
     have z := firstZ_spec (1 / (h - (f : Rat))) false
     rw [decide_eq_true e1.symm]
     exact first_best _ _ _ _ true (Rat.le_of_lt (ipos hb0)) _ ⟨by simpa using z.1, .inl rfl⟩ z.2.1 (fun _ => z.2.2 rfl)
    ·have hp : 0 < l - (f : Rat) := by grind
     have d1 := inner_den_lt f l (by grind) f2
     have d2 := inner_den f h f4 f3
     have i1 := inner_ht f l (by grind) (by grind)
     have i2 := inner_ht f h f4 f3
     have hlt' : 1 / (h - (f : Rat)) < 1 / (l - (f : Rat)) := (ilt (by grind) hp).2 (by grind)
     have hip := ipos hb0
     obtain ⟨w, hw, hpc⟩ := least_pc N (1 / (h - (f : Rat))) (1 / (l - (f : Rat))) (!low) (by omega) (Rat.le_of_lt hip) hlt' (by omega) (by omega)
     have hwt := simp_ht _ _ _ _ (Rat.le_of_lt hip) hlt' hw
     rw [Bool.not_not] at hw
     refine ⟨(f : Rat) + 1 / w, ?_, fun H u v hu hv => least_walk hu hv hfe hl hh hlt _ (fun a b => absurd ⟨a, b⟩ cA) (fun _ k => absurd k cB) (fun _ k => absurd k e1) (fun _ _ => ⟨w, by omega, ?_, ?_, ?_, rfl, fun G u' v' => hpc G u' v'⟩)⟩
     ·refine step_best l h (!low) low f f0 f1 hlt f5 w ?_
      rw [decide_eq_false (fun e => e1 e.symm)]
      exact hw
     ·have : 0 < w := by
       have h1 := hw.mem.1
       cases low
       ·simp at h1; grind
       ·simp at h1; grind
      have := npos this; omega
     ·have := npos hb0; omega
     ·have := npos hp; omega
theorem refSimple_pc (x y : Rat) (hx : ht x ≤ 400) (hy : ht y ≤ 400) (hlt : x < y) : ∃ r, Simplest x y r ∧ ht r ≤ 401 ∧ ∀ (H : Hp) (u v : Value), RQ H u x → RQ H v y → PC prog 65 #[u, v] H fun s H' => RQ H' s r := by
 by_cases h0 : 0 ≤ x
 ·obtain ⟨r, hb, hpc⟩ := least_pc _ x y false (Nat.le_refl _) h0 hlt hx hy
  have hht := simp_ht _ _ _ _ h0 hlt hb
  refine ⟨r, Simplest.pos h0 hb, by omega, fun H u v hu hv => ?_⟩
  obtain ⟨la, ll, lc, ma, ml, mc, rfl, hl1, hl2⟩ := id hu
  obtain ⟨ha, hl', hc, ka, kl, kc, rfl, hh1, hh2⟩ := id hv
  have s1 := refSign_pc hu
  have s2 := refSign_pc hv
  have n1 : ¬ x.num.sign < 0 := by have := Int.sign_nonneg_iff.2 (Rat.num_nonneg.2 h0); omega
  have n2 : ¬ y.num.sign < 0 := by have := Int.sign_nonneg_iff.2 (Rat.num_nonneg.2 (show 0 ≤ y by grind)); omega
  have hP := hpc H _ _ hu hv
  clear hpc hu hv
  generalize x.num.sign = o1 at *
  generalize y.num.sign = o2 at *
  refine BD func65 ntmps65 ?_
  repeat (first | refine RUN ?_ | refine CV (s1) ?_ | refine CE (s1) ?_)
  rw [decide_eq_false n1]
  repeat (first | refine RUN ?_ | refine CV (s2) ?_ | refine CE (s2) ?_)
  rw [decide_eq_false n2]
  try refine RUN ?_
  refine EVL.call rfl rfl rfl rfl rfl (hP) ?_
  rintro r1 G1 ⟨_, _, _, _, _, _, rfl, d1, d2⟩ _
  try refine RUN ?_
  exact ⟨_, _, _, _, _, _, rfl, d1, d2⟩
 ·have n1 : x.num.sign < 0 := Int.sign_neg_iff.2 (num_neg h0)
  by_cases hy0 : y < 0
  ·have n2 : y.num.sign < 0 := Int.sign_neg_iff.2 (num_neg (Rat.not_le.2 hy0))
   obtain ⟨r, hb, hpc⟩ := least_pc _ (-y) (-x) true (Nat.le_refl _) (by grind) (by grind) (by rw [ht_neg]; exact hy) (by rw [ht_neg]; exact hx)
   have hht := simp_ht _ _ _ _ (by grind) (by grind) hb
   rw [ht_neg, ht_neg] at hht
   refine ⟨-r, Simplest.neg hy0 hb, by rw [ht_neg]; omega, fun H u v hu hv => ?_⟩
   obtain ⟨la, ll, lc, ma, ml, mc, rfl, hl1, hl2⟩ := id hu
   obtain ⟨ha, hl', hc, ka, kl, kc, rfl, hh1, hh2⟩ := id hv
   have s1 := refSign_pc hu
   have s2 := refSign_pc hv
   generalize x.num.sign = o1 at *
   generalize y.num.sign = o2 at *
   refine BD func65 ntmps65 ?_
   repeat (first | refine RUN ?_ | refine CV (s1) ?_ | refine CV (s2) ?_ | refine CE (s1) ?_ | refine CE (s2) ?_)
   rw [decide_eq_true n1]
   repeat (first | refine RUN ?_ | refine CV (s2) ?_ | refine CE (s2) ?_)
   rw [decide_eq_false (show ¬ o2 ≥ 0 by omega)]
   repeat (first | refine RUN ?_ | refine CV (s2) ?_ | refine CE (s2) ?_)
   rw [decide_eq_true n2]
   try refine RUN ?_
   apply EV.drawn 6 (by kernel_rfl) (by kernel_rfl); intro xv yw
   (repeat (first | refine' DV ?_ | refine' DA ?_ | refine' DK0 ?_ | refine' DT ?_ | refine' DS ?_))
   refine' DJ.call rfl rfl rfl rfl rfl (cO func51) (fun G hG hd => refNeg_pc (hv.mono hG)) (fun _ _ _ h k => RQ.mono h k) ?_; rotate_left
   (repeat (first | refine' DV ?_ | refine' DA ?_ | refine' DK0 ?_ | refine' DT ?_ | refine' DS ?_))
   refine' DJ.call rfl rfl rfl rfl rfl (cO func51) (fun G hG hd => refNeg_pc (hu.mono hG)) (fun _ _ _ h k => RQ.mono h k) ?_; rotate_left
   refine' DJ.call rfl rfl rfl rfl rfl (cO func145) (fun G hG hd => hpc _ _ _ (hd.tail.head (by kernel_rfl)) (hd.head (by kernel_rfl))) (fun _ _ _ h k => RQ.mono h k) ?_; rotate_left
   refine' DJ.call rfl rfl rfl rfl rfl (cO func51) (fun G hG hd => refNeg_pc (hd.head (by kernel_rfl))) (fun _ _ _ h k => RQ.mono h k) ?_; rotate_left
   (refine DJ.nil (fun G hG hF => ?_); (case hS => rfl); (case hS2 => rfl))
   obtain ⟨⟨_, _, _, _, _, _, e, d1, d2⟩, _⟩ := hF
   rw [e]
   try refine RUN ?_
   exact ⟨_, _, _, _, _, _, rfl, d1, d2⟩
  ·have n2 : ¬ y.num.sign < 0 := by have := Int.sign_nonneg_iff.2 (Rat.num_nonneg.2 (Rat.not_lt.1 hy0)); omega
   refine ⟨0, Simplest.zero (by grind) (by grind), by rw [ht_zero]; omega, fun H u v hu hv => ?_⟩
   obtain ⟨la, ll, lc, ma, ml, mc, rfl, hl1, hl2⟩ := id hu
   obtain ⟨ha, hl', hc, ka, kl, kc, rfl, hh1, hh2⟩ := id hv
   have s1 := refSign_pc hu
   have s2 := refSign_pc hv
   have hOf := fun G => refOf_pc (H := G) 0 (by omega) (by omega)
   rw [show ((0 : Int) : Rat) = 0 from rfl] at hOf
   generalize x.num.sign = o1 at *
   generalize y.num.sign = o2 at *
   refine BD func65 ntmps65 ?_
   repeat (first | refine RUN ?_ | refine CV (s1) ?_ | refine CV (s2) ?_ | refine CE (s1) ?_ | refine CE (s2) ?_)
   rw [decide_eq_true n1]
   repeat (first | refine RUN ?_ | refine CV (s2) ?_ | refine CE (s2) ?_)
   rw [decide_eq_true (show o2 ≥ 0 by omega)]
   try refine RUN ?_
   refine EVL.call rfl rfl rfl rfl rfl (hOf _) ?_
   rintro r1 G1 ⟨_, _, _, _, _, _, rfl, d1, d2⟩ _
   try refine RUN ?_
   exact ⟨_, _, _, _, _, _, rfl, d1, d2⟩
theorem simple_any (x y : Rat) (hx : ht x ≤ 400) (hy : ht y ≤ 400) : ∃ s ok, ht s ≤ 401 ∧ PV prog 57 #[fracV x, fracV y] (.tuple #[fracV s, .bool ok]) ∧ ((ok = true ∧ x < y ∧ Simplest x y s) ∨ (ok = false ∧ y ≤ x ∧ s = 0)) := by
 by_cases h : x < y
 ·obtain ⟨r, hS, hr, hpv⟩ := simple_pv x y hx hy h
  exact ⟨r, true, hr, hpv, .inl ⟨rfl, h, hS⟩⟩
 ·exact ⟨0, false, by rw [ht_zero]; omega, simple_no x y (by unfold sm; omega) (by unfold sm; omega) (Rat.not_lt.1 h), .inr ⟨rfl, Rat.not_lt.1 h, rfl⟩⟩
theorem ordZ_self (a : Int) : ordZ a a = 0 := by unfold ordZ; rw [if_neg (by omega), if_neg (by omega)]
theorem intCmp_self {H : Hp} {u v : Value} {a : Int} (hu : RI H u a) (hv : RI H v a) (ha : rsm a.natAbs) : PC prog 63 #[u, v] H fun r _ => r = .int .i64 0 := by
 have := refIntCmp_pc hu hv ha ha
 rwa [ordZ_self] at this
set_option maxHeartbeats 8000000 in
theorem near_pc {H : Hp} {u v : Value} (hu : RawQ H u) (hv : RawQ H v) (z : Int) (hz : -9223372036854775808 ≤ z ∧ z < 9223372036854775808) (hkn : PV prog 22 #[] (.bool true)) : PC prog 9 #[u, v, .int .i64 z] H fun r _ => r = .bool true := by
 obtain ⟨z1, sa1, sb1, la1, lb1, n1, rfl, _, ha1, hb1, _⟩ := hu.ex
 obtain ⟨z2, sa2, sb2, la2, lb2, n2, rfl, _, ha2, hb2, _⟩ := hv.ex
 obtain ⟨a1, c1, rfl⟩ := SlC.val ha1
 obtain ⟨a2, c2, rfl⟩ := SlC.val hb1
 obtain ⟨a3, c3, rfl⟩ := SlC.val ha2
 obtain ⟨a4, c4, rfl⟩ := SlC.val hb2
 clear ha1 hb1 ha2 hb2
 have hpk := pick_pv z 12 hz (by omega) (by omega)
 have hzm : 0 ≤ z % 12 ∧ z % 12 < 12 := by omega
 generalize z % 12 = m at *
 refine BD func9 ntmps9 ?_
 try refine RUN ?_
 refine EVL.call rfl rfl rfl rfl rfl (one_pc hu) ?_
 rintro r G1 ⟨x, hx, hX⟩ hG1
 obtain ⟨xa, xl, xc, ya, yl, yc, rfl, x1, x2⟩ := id hX
 try refine RUN ?_
 refine EVL.call rfl rfl rfl rfl rfl (one_pc (hv.mono hG1)) ?_
 rintro r G2 ⟨y, hy, hY⟩ hG2
 obtain ⟨pa, pl, pc, qa, ql, qc, rfl, y1, y2⟩ := id hY
 have hX2 := hX.mono hG2
 clear hX x1 x2 y1 y2 hu hv
 have sx : sm x := rq_small hx (by omega)
 have sy : sm y := rq_small hy (by omega)
 have qx : rq x := rq_small hx (by omega)
 have qy : rq y := rq_small hy (by omega)
 obtain ⟨s, ok, hs, hsp, hcase⟩ := simple_any x y (by omega) (by omega)
 have ss : sm s := by unfold sm; omega
 have qs : rq s := rq_small hs (by omega)
 have hfl := floor_pv x sx
 have hfb := bl_ediv x.num x.den
 have hxn := bl_num_le x
 have hflo := fun (G : Hp) (w : Value) (h : RQ G w x) => refFloor_pc h qx
 generalize x.num / (x.den : Int) = f at *
 have hfs : rsm f.natAbs := by show bl _ ≤ _; omega
 repeat (first | refine RUN ?_ | refine CV (hpk) ?_ | refine CE (hpk) ?_)
 rw [show IntKind.i64.wrap (m - 2) = m - 2 by rw [IntKind.wrap_i64]; omega]
 refine EV.meetK (ι := Int) [7, 8] [7, 8] (fun b => [(2, .v (.int .i64 b))]) (fun _ => []) (fun _ => []) (fun b G => G2.Le G ∧ -9223372036854775808 ≤ b ∧ b < 9223372036854775808) rfl rfl (fun _ => rfl) ?_ ?_
 ·refine EV.cond rfl (fun hb => ?_) (fun hb => ?_)
  ·(try refine RUN ?_)
   exact ⟨300, ⟨rfl, trivial⟩, (by repeat (first | exact trivial | refine And.intro rfl ?_)), trivial, (by repeat (first | exact trivial | refine And.intro rfl ?_)), rfl, Hp.Le.refl _, by omega, by omega⟩
  ·(try refine RUN ?_)
   exact ⟨m - 2, ⟨rfl, trivial⟩, (by repeat (first | exact trivial | refine And.intro rfl ?_)), trivial, (by repeat (first | exact trivial | refine And.intro rfl ?_)), rfl, Hp.Le.refl _, by omega, by omega⟩
 ·rintro b G3 ⟨hG3, hb1, hb2⟩
  have hX3 := hX2.mono hG3
  have hY3 := hY.mono hG3
  have hnp : PV prog 38 #[fracV x, .int .i64 b] (fracV (nr (kb b) x)) := near_pv x sx b ⟨hb1, hb2⟩
  have hnh := ht_nr (kb b) x
  have hkb : kb b ≤ 256 := by unfold kb; omega
  have qnr : rq (nr (kb b) x) := rq_small (k := 1000) (by omega) (by omega)
  have hnr := fun (G : Hp) (w : Value) (h : RQ G w x) => refNear_pc h (by omega) b ⟨hb1, hb2⟩
  generalize nr (kb b) x = nx at *
  repeat (first | refine RUN ?_ | refine CV (in_pc hX3 qx) ?_ | refine CE (in_pc hX3 qx) ?_)
  apply EV.drawn 9 (by kernel_rfl) (by kernel_rfl); intro xv yw
  (repeat (first | refine' DV ?_ | refine' DA ?_ | refine' DK0 ?_ | refine' DT ?_ | refine' DS ?_))
  refine' DJ.callS rfl rfl rfl rfl rfl (cO func25) (fun G hG hd => in_pc (hY3.mono hG) qy) ?_; rotate_left
  (repeat (first | refine' DV ?_ | refine' DA ?_ | refine' DK0 ?_ | refine' DT ?_ | (refine' DC (hsp) (h := ?_); rotate_left) | refine' DS ?_))
  (refine DJ.nil (fun G4 hG4 hF4 => ?_); (case hS => rfl); (case hS2 => rfl))
  try refine RUN ?_
  refine EVL.call rfl rfl rfl rfl rfl (hflo _ _ (hX3.mono hG4)) ?_
  rintro r5 G5 ⟨fa, fl, fc, rfl, f1⟩ hG5
  have hF : ∀ G, G5.Le G → RI G (.agg #[.bool (decide (f < 0)), .slice fa fl fc]) f := fun G hG => ⟨fa, fl, fc, rfl, RN.mono f1 hG⟩
  have hX5 := (hX3.mono hG4).mono hG5
  have hY5 := (hY3.mono hG4).mono hG5
  try refine RUN ?_
  apply EV.drawn 19 (by kernel_rfl) (by kernel_rfl); intro xv yw
  (repeat (first | refine' DV ?_ | refine' DA ?_ | refine' DK0 ?_ | refine' DT ?_ | (refine' DC (hkn) (h := ?_); rotate_left) | (refine' DC (hnp) (h := ?_); rotate_left) | refine' DS ?_))
  refine' DJ.call rfl rfl rfl rfl rfl (cO func62) (fun G hG hd => hnr _ _ (hX5.mono hG)) (fun _ _ _ h k => RQ.mono h k) ?_; rotate_left
  refine' DJ.callS rfl rfl rfl rfl rfl (cO func23) (fun G hG hd => same_self (hd.head (by kernel_rfl)) qnr) ?_; rotate_left
  (repeat (first | refine' DV ?_ | refine' DA ?_ | refine' DK0 ?_ | refine' DT ?_ | (refine' DC (hfl) (h := ?_); rotate_left) | refine' DS ?_))
  refine' DJ.call rfl rfl rfl rfl rfl (cO func64) (fun G hG hd => outInt_pc f hfs) (fun _ _ _ h k => RI.mono h k) ?_; rotate_left
  (repeat (first | refine' DV ?_ | refine' DA ?_ | refine' DK0 ?_ | refine' DT ?_ | refine' DS ?_))
  refine' DJ.callS rfl rfl rfl rfl rfl (cO func63) (fun G hG hd => intCmp_self (hd.head (by kernel_rfl)) (hF _ hG) hfs) ?_; rotate_left
  (repeat (first | refine' DV ?_ | refine' DA ?_ | refine' DK0 ?_ | refine' DT ?_ | refine' DS ?_))
  (refine DJ.nil (fun G6 hG6 hF6 => ?_); (case hS => rfl); (case hS2 => rfl))
  clear hF6
  have hX6 := hX5.mono hG6
  have hY6 := hY5.mono hG6
  have cxy := refCmp_pc hX6 hY6 qx qy
  rcases hcase with ⟨rfl, hlt, hS⟩ | ⟨rfl, hle, rfl⟩
  ·rw [ordR_neg.2 hlt] at cxy
   obtain ⟨r', hS', _, hpc⟩ := refSimple_pc x y (by omega) (by omega) hlt
   obtain rfl := hS.eq hS'
   repeat (first | refine RUN ?_ | refine CV (cxy) ?_ | refine CE (cxy) ?_)
   apply EV.drawn 8 (by kernel_rfl) (by kernel_rfl); intro xv yw
   (repeat (first | refine' DV ?_ | refine' DA ?_ | refine' DK0 ?_ | refine' DT ?_ | refine' DS ?_))
   refine' DJ.call rfl rfl rfl rfl rfl (cO func65) (fun G hG hd => hpc _ _ _ (hX6.mono hG) (hY6.mono hG)) (fun _ _ _ h k => RQ.mono h k) ?_; rotate_left
   refine' DJ.callS rfl rfl rfl rfl rfl (cO func23) (fun G hG hd => same_self (hd.head (by kernel_rfl)) qs) ?_; rotate_left
   (repeat (first | refine' DV ?_ | refine' DA ?_ | refine' DK0 ?_ | refine' DT ?_ | refine' DS ?_))
   (refine DJ.nil (fun G7 hG7 hF7 => ?_); (case hS => rfl); (case hS2 => rfl))
   try refine RUN ?_
   rfl
  ·have ho : ordR x y ≥ 0 := by unfold ordR; rw [if_neg (Rat.not_lt.2 hle)]; split <;> omega
   generalize ordR x y = o at *
   have hs0 := sign_pv 0 (by show bl _ ≤ _; decide +kernel)
   rw [show (0 : Rat).num.sign = 0 from rfl] at hs0
   repeat (first | refine RUN ?_ | refine CV (cxy) ?_ | refine CE (cxy) ?_)
   rw [decide_eq_true ho]
   repeat (first | refine RUN ?_ | refine CV (hs0) ?_ | refine CE (hs0) ?_)
   rfl
end Go.Proofs.YtjifapjpgmmcnaaGreatDoor
namespace Go.Proofs.YtjifapjpgmmcnaaGreatDoor
open Go Go.RowKit
theorem laid_gH {P : Program} {l : List (String × DataW Unit)} {W : World} (h : laidMet P l W) {n : String} {zs : List Nat} {g : Nat} {T e : TypeId} (hmem : (n, .agg (zs.map fun (z : Nat) => .lit (.int .u8 z))) ∈ l) (hg : P.globalNamed n = some g) (ht : (P.globals[g]?).map (·.type) = some T)
  (hT : P.underlying T = some (.array zs.length e)) (he : P.underlying e = some (.int .u8)) (hc : P.cellsOf e = 1) (hcT : P.cellsOf T = zs.length) :
  ∃ U fz, W.heap[g]? = some (.cells (zs.map fun (z : Nat) => Value.int .u8 (z : Int)).toArray U fz) := by
 obtain ⟨ps, hl, _⟩ := h
 obtain ⟨p0, g', t, cs, fuel, p, q, hg', ht', hv, hd, _, _⟩ := VM.laid_find hl hmem
 obtain rfl := Option.some.inj (hg.symm.trans hg')
 obtain rfl := Option.some.inj (ht.symm.trans ht')
 obtain ⟨xs, m, _, ex, hcl, hlen, hel⟩ := DataW.trod_array hT hd
 have hb : ∃ U fz, W.heap[g]? = some (.cells cs U fz) := by
  simp only [World.var?, hg, Option.bind_some] at hv
  split at hv
  ·rename_i c U fz hc'; cases hv; exact ⟨U, fz, hc'⟩
  ·cases hv
 obtain ⟨U, fz, hb⟩ := hb
 refine ⟨U, fz, ?_⟩
 rw [hb]
 congr 2
 apply Array.ext'
 rw [hcT] at hcl
 have e3 : (xs.map (·.1)) = zs.map fun (n : Nat) => .lit (.int .u8 n) := (DataW.agg.inj (Prod.mk.inj ex).1).symm
 apply List.ext_getElem?
 intro r
 rcases Nat.lt_or_ge r zs.length with hr | hr
 ·have hE := hel r hr
  rw [hc, Nat.mul_one, List.getElem?_eq_getElem (by omega)] at hE
  obtain ⟨z, e1, e2, _⟩ := DataW.trod_int he hE
  have e4 : (xs.map (·.1))[r]? = (zs.map fun (n : Nat) => (DataW.lit (.int .u8 n) : DataW Unit))[r]? := by rw [e3]
  rw [List.getElem?_map, List.getElem?_map, List.getElem?_eq_getElem (by omega : r < xs.length), List.getElem?_eq_getElem hr, e2] at e4
  simp only [Option.map_some, Option.some.injEq, DataW.lit.injEq, Lit.int.injEq, true_and] at e4
  have h0 : ((cs.toList.drop r).take 1)[0]? = some (.int .u8 z) := by rw [e1]; rfl
  simp only [List.getElem?_take, List.getElem?_drop, Nat.add_zero] at h0
  rw [if_pos (by omega)] at h0
  rw [h0, e4]
  simp [hr]
 ·rw [List.getElem?_eq_none (by omega), List.getElem?_eq_none (by simpa using hr)]
theorem fits_gH {l : List (String × DataW Unit)} {W : World} (h : laidMet Tryz.prog l W) (hmem : ("math/bits.deBruijn64tab", .agg (Lib.deBruijn64tab.map fun (z : Nat) => .lit (.int .u8 z))) ∈ l) : Fits gH W := fun b c hb => by
 unfold gH at hb
 split at hb
 ·rename_i hbb
  cases hb
  obtain rfl := Nat.eq_of_beq_eq_true hbb
  exact laid_gH h hmem (by kernel_rfl) (by kernel_rfl) Tryz.underlying247 Tryz.underlying5 (by kernel_rfl) (by kernel_rfl)
 ·cases hb
theorem gl_of_fits {W : World} (h : Fits gH W) : ∀ g cs, VM.ctx.gl g = some cs → ∃ c U fz, W.heap[g]? = some (.cells c U fz) ∧ VM.VL (fun _ => none) cs (c.toList.take cs.length) := fun g cs hg => by
 have hm := VM.assoc_mem hg
 unfold VM.glL at hm
 simp only [List.mem_cons, List.mem_nil_iff, or_false, Prod.mk.injEq] at hm
 obtain ⟨rfl, rfl⟩ := hm
 obtain ⟨U, fz, hW⟩ := h 4 (Lib.deBruijn64tab.map fun (z : Nat) => Value.int .u8 (z : Int)).toArray rfl
 refine ⟨_, U, fz, hW, ?_, fun j x y hx hy => ?_⟩
 ·rfl
 ·have hx' : (Lib.deBruijn64tab.map fun (z : Nat) => VM.AV.int .u8 (.ofNat z))[j]? = some x := hx
  have hy' : (Lib.deBruijn64tab.map fun (z : Nat) => Value.int .u8 (z : Int))[j]? = some y := by
   rw [List.getElem?_take] at hy
   split at hy
   ·exact hy
   ·cases hy
  rw [List.getElem?_map] at hx' hy'
  obtain ⟨z, e1, rfl⟩ := Option.map_eq_some_iff.1 hx'
  rw [e1] at hy'
  cases hy'
  exact .int _ _
theorem known_pv : PV Tryz.prog 22 #[] (.bool true) := ⟨(cO Tryz.func22), fun W hW => (VM.walk22 W (gl_of_fits hW)).mono fun e W' ⟨he, hb⟩ => ⟨he, hb⟩⟩
end Go.Proofs.YtjifapjpgmmcnaaGreatDoor
namespace Go.Proofs.YtjifapjpgmmcnaaGreatDoor
open Go.ChangeShapes Go.WideShapes Go.ChangeAt Go.RowKit
def hpOf (W : World) : Hp := fun b => match W.heap[b]? with
 | some (.cells c _ _) => some c
 | _ => none
theorem fits_hpOf (W : World) : Fits (hpOf W) W := fun b c h => by
 unfold hpOf at h
 split at h
 ·rename_i c' T fz hb; cases h; exact ⟨T, fz, hb⟩
 ·cases h
section
variable {H : Type} {enc : TypeId × Value → H} {P : Program} {w : World} {base : Nat} {spare : Nat → Bool} {held : Bool}
theorem ints_open {t e : TypeId} {k : IntKind} {fuel : Nat} {cs : List Value} {x : DataW H × List MemPlace} (ht : P.underlying t = some (.slice e)) (he : P.underlying e = some (.int k)) (hc : P.cellsOf e = 1) (h : DataW.trod enc P w base spare held fuel t cs = some x) :
  ∃ a len cap zs, cs = [.slice a len cap] ∧ SlN (fun z : Int => Value.int k z) (hpOf w) (.slice a len cap) zs ∧ ∀ n ∈ zs, (Lit.int k n).wf = true := by
 rcases open_ints ht he hc h with ⟨rfl, _⟩ | ⟨x, len, cap, zs, rfl, _, hl, hm, hz, _, hcell, hw⟩
 ·exact ⟨none, 0, 0, [], rfl, nil_sl _ _, fun n hn => by cases hn⟩
 ·have hzl : len ≤ zs.length := by rw [hz]; split <;> omega
  refine ⟨some x, len, cap, zs.take len, rfl, ?_, fun n hn => hw n (List.mem_of_mem_take hn)⟩
  have hlen : (zs.take len).length = len := by rw [List.length_take]; omega
  unfold SlN
  rw [hlen]
  refine ⟨by rw [List.length_map, hlen, Nat.mul_one], ?_⟩
  by_cases h0 : len = 0
  ·subst h0; exact .inl ⟨rfl, some x, cap, rfl⟩
  ·right
   have h1 := hcell 0 (by omega)
   obtain ⟨b, off, sp⟩ := x
   have hsp : sp = none := by
    cases sp with
    | none => rfl
    | some s => simp only [World.cell?, Addr.add] at h1; split at h1 <;> simp_all
   subst hsp
   have hb : ∃ c, hpOf w b = some c ∧ ∀ i, i < zs.length → c[off + i]? = some (.int k (zs.getD i 0)) := by
    simp only [Addr.add_mid] at hcell
    unfold World.cell? at hcell
    unfold hpOf
    simp only at hcell
    cases hw' : w.heap[b]? with
    | none => have := hcell 0 (by omega); rw [hw'] at this; cases this
    | some o =>
     cases o with
     | cells c T fz => exact ⟨c, rfl, fun i hi => by have := hcell i hi; rw [hw'] at this; simpa using this⟩
     | _ => have := hcell 0 (by omega); rw [hw'] at this; cases this
   obtain ⟨c, hc1, hc2⟩ := hb
   refine ⟨b, off, cap, c, rfl, hl, hc1, fun j y hj => ?_⟩
   rw [List.getElem?_map, List.getElem?_take] at hj
   split at hj
   ·rename_i hjl
    rw [hc2 j (by omega), ← hj, List.getD_eq_getElem?_getD, List.getElem?_eq_getElem (by omega)]; rfl
   ·cases hj
theorem bytes_open {t e : TypeId} {fuel : Nat} {cs : List Value} {x : DataW H × List MemPlace} (ht : P.underlying t = some (.slice e)) (he : P.underlying e = some (.int .u8)) (hc : P.cellsOf e = 1) (h : DataW.trod enc P w base spare held fuel t cs = some x) :
  ∃ a len cap l, cs = [.slice a len cap] ∧ SlN n8 (hpOf w) (.slice a len cap) l ∧ Dig 256 l := by
 obtain ⟨a, len, cap, zs, rfl, hs, hw⟩ := ints_open ht he hc h
 have hz : ∀ n ∈ zs, 0 ≤ n ∧ n < 256 := fun n hn => by have := bounds_u8 (hw n hn); omega
 refine ⟨a, len, cap, zs.map Int.toNat, rfl, ?_, fun y hy => ?_⟩
 ·unfold SlN at hs ⊢
  rw [List.length_map, List.map_map]
  have : zs.map (n8 ∘ Int.toNat) = zs.map fun z : Int => Value.int .u8 z := List.map_congr_left fun z hzm => by
   show Value.int .u8 ((z.toNat : Nat) : Int) = _
   rw [Int.toNat_of_nonneg (hz z hzm).1]
  rw [this]; exact hs
 ·obtain ⟨z, hzm, rfl⟩ := List.mem_map.1 hy
  have := hz z hzm; omega
end
theorem i64_bounds {z : Int} (h : (Lit.int .i64 z).wf = true) : -9223372036854775808 ≤ z ∧ z < 9223372036854775808 := by
 have := bounds_i64 h; omega
theorem four_of {α : Type} : ∀ {l : List α}, l.length = 4 → ∃ a b c d, l = [a, b, c, d]
 | [a, b, c, d], _ => ⟨a, b, c, d, rfl⟩
theorem raw_open {H : Type} {enc : TypeId × Value → H} {w : World} {base : Nat} {spare : Nat → Bool} {held : Bool} {v : Value} {d : DataW H} {p : List MemPlace} (hv : ∃ cs, v = .agg cs) (h : DataW.Trod enc Tryz.prog w base spare held 24 v d p) : RawQ (hpOf w) v := by
 obtain ⟨cs, rfl⟩ := hv
 obtain ⟨fuel, h⟩ := h
 obtain ⟨xs, n, _, hx, hl, hlen, hf⟩ := DataW.trod_struct Tryz.underlying24 h
 rw [show Tryz.prog.cellsOf 24 = 4 from by kernel_rfl] at hl
 have hl4 : cs.toList.length = 4 := hl
 obtain ⟨l, rfl⟩ : ∃ l : List Value, cs = l.toArray := ⟨cs.toList, by simp⟩
 have hl4' : l.length = 4 := by simpa using hl4
 obtain ⟨c0, c1, c2, c3, rfl⟩ := four_of hl4'
 have hx4 : xs.length = 4 := hlen
 have f0 : DataW.trod enc Tryz.prog w base spare held n 3 (([c0, c1, c2, c3].drop 0).take (Tryz.prog.cellsOf 3)) = xs[0]? := hf 0 _ rfl
 have f1 : DataW.trod enc Tryz.prog w base spare held n 22 (([c0, c1, c2, c3].drop 1).take (Tryz.prog.cellsOf 22)) = xs[1]? := hf 1 _ rfl
 have f2 : DataW.trod enc Tryz.prog w base spare held n 22 (([c0, c1, c2, c3].drop 2).take (Tryz.prog.cellsOf 22)) = xs[2]? := hf 2 _ rfl
 have f3 : DataW.trod enc Tryz.prog w base spare held n 4 (([c0, c1, c2, c3].drop 3).take (Tryz.prog.cellsOf 4)) = xs[3]? := hf 3 _ rfl
 rw [show Tryz.prog.cellsOf 3 = 1 from by kernel_rfl] at f0
 rw [show Tryz.prog.cellsOf 22 = 1 from by kernel_rfl] at f1 f2
 rw [show Tryz.prog.cellsOf 4 = 1 from by kernel_rfl] at f3
 rw [List.getElem?_eq_getElem (by omega)] at f0 f1 f2 f3
 obtain ⟨z, e0, _, w0⟩ := DataW.trod_int Tryz.underlying3 f0
 obtain ⟨a1, l1, k1, b1, e1, s1, d1⟩ := bytes_open Tryz.underlying22 Tryz.underlying5 (by kernel_rfl) f1
 obtain ⟨a2, l2, k2, b2, e2, s2, d2⟩ := bytes_open Tryz.underlying22 Tryz.underlying5 (by kernel_rfl) f2
 obtain ⟨b, e3, _⟩ := DataW.trod_bool Tryz.underlying4 f3
 have g0 : [c0] = [.int .i64 z] := e0
 have g1 : [c1] = [.slice a1 l1 k1] := e1
 have g2 : [c2] = [.slice a2 l2 k2] := e2
 have g3 : [c3] = [.bool b] := e3
 cases g0; cases g1; cases g2; cases g3
 exact ⟨z, _, _, b1, b2, b, rfl, i64_bounds w0, s1, s2, d1, d2⟩
end Go.Proofs.YtjifapjpgmmcnaaGreatDoor
