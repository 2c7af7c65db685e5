/- Texts of ours in one: Fr2, Fr3, Ha1, Ha2, Ls1, LsP, Ls2, Ls3, Fr4, NearP, NearQ, SimpP, SimpS, Lw1, Lw2, Str1, Lw3, Lw4, Simp, Simp2, Simp3, Simp4, Ls4, Gn1, GnP, Gn2, Gn3, Gn4, Ev20, Gn5, GnQ, Ha3, Lw8, LaidE, Kn17, Opn. -/
import Derived.Test.YtejljnlfgiifoaaGreatDoorC2
import Derived.Test.YtejljnlfgiifoaaGreatDoorC3
import Derived.Test.YtejljnlfgiifoaaGreatDoorC4
import Derived.Test.YtejljnlfgiifoaaGreatDoorC5
import Derived.WalkKit
import Derived.ProofKit
import Derived.OpenShut
set_option linter.unusedVariables false
set_option linter.unusedSimpArgs false

namespace Go.Proofs.YtejljnlfgiifoaaGreatDoor
open Go.RowKit _root_.Go.Proofs.Tryz
theorem add_pv (a b : Rat) (ha : sm a) (hb : sm b) : PV prog 16 #[fracV a, fracV b] (fracV (a + b)) := by
 have na := ha.num; have da := ha.den; have nb := hb.num; have db := hb.den
 have bna : bigI a.num := Nat.le_trans na (by omega)
 have bnb : bigI b.num := Nat.le_trans nb (by omega)
 have bda : big a.den := Nat.le_trans da (by omega)
 have bdb : big b.den := Nat.le_trans db (by omega)
 have hm := rat_add a b _ _ _ _ _ rfl rfl rfl rfl rfl
 generalize hg : Nat.gcd a.den b.den = g at hm
 have hg0 : g ≠ 0 := by rw [← hg]; exact Nat.gcd_ne_zero_right b.den_nz
 have bgl : bl g ≤ 100000000 := by rw [← hg]; exact Nat.le_trans (bl_gcd_right _ _ b.den_nz) db
 have bg : big g := Nat.le_trans bgl (by omega)
 have g1 := gcd_pv (a.den : Int) (b.den : Int) bda bdb
 rw [Int.natAbs_natCast, Int.natAbs_natCast, hg] at g1
 have o1 := over_pv a.den g bda bg hg0
 have o2 := over_pv b.den g bdb bg hg0
 have b1 : bl (a.den / g) ≤ 100000000 := Nat.le_trans (bl_div _ _) da
 have b2 : bl (b.den / g) ≤ 100000000 := Nat.le_trans (bl_div _ _) db
 have hone : a.den = 1 ∧ b.den = 1 → g = 1 ∧ a.den / g = 1 ∧ b.den / g = 1 := fun h => by
  have : g = 1 := by rw [← hg, h.1, h.2]; rfl
  rw [this, h.1, h.2]; exact ⟨rfl, rfl, rfl⟩
 generalize hdown : a.den / g = down at *
 generalize hother : b.den / g = other at *
 have c1 := bl_mul a.num.natAbs other
 have c2 := bl_mul b.num.natAbs down
 have t1 := times_pv a.num other bna (Nat.le_trans b2 (by omega)) (by show bl _ ≤ _; omega)
 have t2 := times_pv b.num down bnb (Nat.le_trans b1 (by omega)) (by show bl _ ≤ _; omega)
 have c1' : bl (a.num * (other : Int)).natAbs ≤ 200000000 := by rw [Int.natAbs_mul]; simp; omega
 have c2' : bl (b.num * (down : Int)).natAbs ≤ 200000000 := by rw [Int.natAbs_mul]; simp; omega
 have c3 := bl_add (a.num * (other : Int)).natAbs (b.num * (down : Int)).natAbs
 have ad := wholeAdd_pv (a.num * (other : Int)) (b.num * (down : Int)) (Nat.le_trans c1' (by omega)) (Nat.le_trans c2' (by omega)) (by show bl _ ≤ _; omega)
 have bup : bl (a.num * (other : Int) + b.num * (down : Int)).natAbs ≤ 200000001 := by
  have := bl_natAbs_add (a.num * (other : Int)) (b.num * (down : Int)); omega
 generalize hup : a.num * (other : Int) + b.num * (down : Int) = up at *
 generalize hh : Nat.gcd up.natAbs g = h at hm
 have hh0 : h ≠ 0 := by rw [← hh]; exact Nat.gcd_ne_zero_right hg0
 have bh : big h := by rw [← hh]; exact Nat.le_trans (bl_gcd_right _ _ hg0) bg
 have g2 := gcd_pv up (g : Int) (Nat.le_trans bup (by omega)) bg
 rw [Int.natAbs_natCast, hh] at g2
 have p1 := part_pv up h (Nat.le_trans bup (by omega)) bh hh0 (by rw [← hh]; exact Nat.gcd_dvd_left ..)
 have o3 := over_pv b.den h bdb bh hh0
 have b4 : bl (b.den / h) ≤ 100000000 := Nat.le_trans (bl_div _ _) db
 have m2 := natMul_pv down (b.den / h) (Nat.le_trans b1 (by omega)) (Nat.le_trans b4 (by omega))
 have pk := pack_pv (a + b).num (a + b).den (by rw [hm.2]; have := bl_mul down (b.den / h); show bl _ ≤ _; omega)
 rw [← hm.1] at p1
 rw [← hm.2] at m2
 have w1 := isWhole_pv a bda
 have w2 := isWhole_pv b bdb
 refine PV.of_pc ?_
 refine BD func16 ntmps16 ?_
 repeat (first | refine RUN ?_ | refine CV (w1) ?_ | refine CE (w1) ?_)
 refine EVL.meet (fun env' bx' H' => SubL env' [(15, .v (.bool (decide (a.den = 1 ∧ b.den = 1)))), (4, .p 4 0), (3, .p 3 0), (2, .p 2 0)] ∧ SubX bx' [(4, 45, Tryz.te45.zero), (3, 45, frL b.num (dk b.den)), (2, 45, frL a.num (dk a.den))] ∧ H' = ⟨fun _ => none, [], ⟨fun _ => none, []⟩⟩) ?_ ?_
 ·rintro env' bx' H' _ ⟨he, hbx, rfl⟩
  refine EV.less _ _ he hbx rfl ?_
  by_cases hab : a.den = 1 ∧ b.den = 1
  ·rw [decide_eq_true hab]
   obtain ⟨e1, e2, e3⟩ := hone hab
   have e4 : h = 1 := by rw [← hh, e1, Nat.gcd_one_right]
   have e5 : (a + b).den = 1 := by rw [hm.2, e2, hab.2, e4]
   have e6 : (a + b).num = a.num + b.num := by rw [hm.1, e4, ← hup, e2, e3]; simp
   have c4 := bl_add a.num.natAbs b.num.natAbs
   have ad' := wholeAdd_pv a.num b.num bna bnb (by show bl _ ≤ _; omega)
   repeat (first | refine RUN ?_ | refine CV (ad') ?_ | refine CE (ad') ?_)
   show _ = frV (a + b).num (dk (a + b).den)
   rw [e5, dk_one, frV_zero, e6]
  ·rw [decide_eq_false hab]
   try refine RUN ?_
   have d1 := den_pv a bda
   have d2 := den_pv b bdb
   have s1 := from_pv false a.den bda
   have s2 := from_pv false b.den bdb
   have s3 := from_pv false g bg
   (apply EV.drawn 8 (by kernel_rfl) (by kernel_rfl); intro xv yw; (repeat (first | refine' DV ?_ | refine' DA ?_ | refine' DK0 ?_ | (refine' DC (d1) (h := ?_); rotate_left) | (refine' DC (s1) (h := ?_); rotate_left) | (refine' DC (d2) (h := ?_); rotate_left) | (refine' DC (s2) (h := ?_); rotate_left) | (refine' DC (g1) (h := ?_); rotate_left) | refine' DS ?_)); refine DJ.nil (fun G hG hF => ?_); (case hS => rfl); (case hS2 => rfl))
   try refine RUN ?_
   (apply EV.drawn 10 (by kernel_rfl) (by kernel_rfl); intro xv yw; (repeat (first | refine' DV ?_ | refine' DA ?_ | refine' DK0 ?_ | (refine' DC (d1) (h := ?_); rotate_left) | (refine' DC (d2) (h := ?_); rotate_left) | (refine' DC (o1) (h := ?_); rotate_left) | (refine' DC (o2) (h := ?_); rotate_left) | refine' DS ?_)); refine DJ.nil (fun G hG hF => ?_); (case hS => rfl); (case hS2 => rfl))
   try refine RUN ?_
   (apply EV.drawn 10 (by kernel_rfl) (by kernel_rfl); intro xv yw; (repeat (first | refine' DV ?_ | refine' DA ?_ | refine' DK0 ?_ | (refine' DC (t1) (h := ?_); rotate_left) | (refine' DC (t2) (h := ?_); rotate_left) | (refine' DC (ad) (h := ?_); rotate_left) | refine' DS ?_)); refine DJ.nil (fun G hG hF => ?_); (case hS => rfl); (case hS2 => rfl))
   try refine RUN ?_
   (apply EV.drawn 5 (by kernel_rfl) (by kernel_rfl); intro xv yw; (repeat (first | refine' DV ?_ | refine' DA ?_ | refine' DK0 ?_ | (refine' DC (s3) (h := ?_); rotate_left) | (refine' DC (g2) (h := ?_); rotate_left) | refine' DS ?_)); refine DJ.nil (fun G hG hF => ?_); (case hS => rfl); (case hS2 => rfl))
   try refine RUN ?_
   (apply EV.drawn 10 (by kernel_rfl) (by kernel_rfl); intro xv yw; (repeat (first | refine' DV ?_ | refine' DA ?_ | refine' DK0 ?_ | (refine' DC (p1) (h := ?_); rotate_left) | (refine' DC (d2) (h := ?_); rotate_left) | (refine' DC (o3) (h := ?_); rotate_left) | (refine' DC (m2) (h := ?_); rotate_left) | (refine' DC (pk) (h := ?_); rotate_left) | refine' DS ?_)); refine DJ.nil (fun G hG hF => ?_); (case hS => rfl); (case hS2 => rfl))
   try refine RUN ?_
   rfl
 ·by_cases ha1 : a.den = 1
  ·rw [decide_eq_true ha1]
   repeat (first | refine RUN ?_ | refine CV (w2) ?_ | refine CE (w2) ?_)
   refine ⟨⟨?_, rfl, rfl, rfl, trivial⟩, ⟨rfl, rfl, rfl, trivial⟩, rfl⟩
   simp [ha1]; rfl
  ·rw [decide_eq_false ha1]
   try refine RUN ?_
   refine ⟨⟨?_, rfl, rfl, rfl, trivial⟩, ⟨rfl, rfl, rfl, trivial⟩, rfl⟩
   simp [ha1]; rfl
theorem sub_pv (a b : Rat) (ha : sm a) (hb : sm b) : PV prog 25 #[fracV a, fracV b] (fracV (a - b)) := by
 have h1 := neg_pv b (Nat.le_trans hb.num (by omega))
 have h2 := add_pv a (-b) ha (by show ht (-b) ≤ _; rw [ht_neg]; exact hb)
 rw [← Rat.sub_eq_add_neg] at h2
 refine PV.of_pc ?_
 refine BD func25 ntmps25 ?_
 try refine RUN ?_
 (apply EV.drawn 4 (by kernel_rfl) (by kernel_rfl); intro xv yw; (repeat (first | refine' DV ?_ | refine' DA ?_ | refine' DK0 ?_ | (refine' DC (h1) (h := ?_); rotate_left) | (refine' DC (h2) (h := ?_); rotate_left) | refine' DS ?_)); refine DJ.nil (fun G hG hF => ?_); (case hS => rfl); (case hS2 => rfl))
 try refine RUN ?_
 rfl
theorem inv_frV (b : Rat) (h : b.num ≠ 0) : frV (sg (decide (b.num < 0)) b.den) (dk b.num.natAbs) = fracV b⁻¹ := by
 have e1 : b⁻¹.num = sg (decide (b.num < 0)) b.den := by
  rw [Rat.num_inv]; unfold sg
  rcases Int.lt_or_lt_of_ne h with h1 | h1
  ·simp [h1, Int.sign_eq_neg_one_of_neg h1]
  ·rw [Int.sign_eq_one_of_pos h1, decide_eq_false (by omega)]; simp
 have e2 : b⁻¹.den = b.num.natAbs := by
  rw [Rat.den_inv, if_neg]
  exact h
 rw [← e1, ← e2]
theorem div_pv (a b : Rat) (ha : sm a) (hb : sm b) (h0 : b ≠ 0) : PV prog 116 #[fracV a, fracV b] (.tuple #[fracV (a / b), .bool true]) := by
 have hn0 : b.num ≠ 0 := fun e => h0 (Rat.num_eq_zero.1 e)
 have bnb : bigI b.num := Nat.le_trans hb.num (by omega)
 have bdb : big b.den := Nat.le_trans hb.den (by omega)
 have hm := mul_pv a b⁻¹ ha (Nat.le_trans (ht_inv b) hb)
 rw [← Rat.div_def] at hm
 have hp := pack_pv (sg (decide (b.num < 0)) b.den) b.num.natAbs bnb
 rw [inv_frV b hn0] at hp
 have s1 := from_pv (decide (b.num < 0)) b.den bdb
 have sg1 := sign_pv b bnb
 have ab := wholeAbs_pv b.num
 have d2 := den_pv b bdb
 refine PV.of_pc ?_
 refine BD func116 ntmps116 ?_
 repeat (first | refine RUN ?_ | refine CV (sg1) ?_ | refine CE (sg1) ?_)
 rw [show (b.num.sign == 0) = false by simp [Int.sign_eq_zero_iff_zero, hn0]]
 try refine RUN ?_
 apply EV.drawn 11 (by kernel_rfl) (by kernel_rfl); intro xv yw
 (repeat (first | refine' DV ?_ | refine' DA ?_ | refine' DK0 ?_ | refine' DT ?_ | (refine' DC (sg1) (h := ?_); rotate_left) | refine' DS ?_))
 rw [show decide (b.num.sign < 0) = decide (b.num < 0) by rw [decide_eq_decide]; exact Int.sign_neg_iff]
 (repeat (first | refine' DV ?_ | refine' DA ?_ | refine' DK0 ?_ | refine' DT ?_ | (refine' DC (d2) (h := ?_); rotate_left) | (refine' DC (s1) (h := ?_); rotate_left) | (refine' DC (ab) (h := ?_); rotate_left) | (refine' DC (hp) (h := ?_); rotate_left) | refine' DS ?_))
 (refine DJ.nil (fun G hG hF => ?_); (case hS => rfl); (case hS2 => rfl))
 repeat (first | refine RUN ?_ | refine CV (hm) ?_ | refine CE (hm) ?_)
 rfl
theorem div_zero_pv (a : Rat) : PV prog 116 #[fracV a, fracV 0] (.tuple #[fracV 0, .bool false]) := by
 have sg1 := sign_pv 0 (by show bl 0 ≤ _; rw [bl_zero]; omega)
 refine PV.of_pc ?_
 refine BD func116 ntmps116 ?_
 repeat (first | refine RUN ?_ | refine CV (sg1) ?_ | refine CE (sg1) ?_)
 show _ = Value.tuple #[frV 0 0, .bool false]
 rw [frV_zero, show (0 : Int).natAbs = 0 from rfl, moreB_empty (n := 0) (by decide)]; rfl
theorem ordZ_scale (x y p q : Int) (hp : 0 < p) (hq : 0 < q) (h : x.sign ≠ y.sign) : ordZ x y = ordZ (x * p) (y * q) := by
 have f1 : x < 0 → x * p < 0 := fun h => Int.mul_neg_of_neg_of_pos h hp
 have f2 : 0 < x → 0 < x * p := fun h => Int.mul_pos h hp
 have f3 : y < 0 → y * q < 0 := fun h => Int.mul_neg_of_neg_of_pos h hq
 have f4 : 0 < y → 0 < y * q := fun h => Int.mul_pos h hq
 have f5 : x = 0 → x * p = 0 := fun h => by rw [h, Int.zero_mul]
 have f6 : y = 0 → y * q = 0 := fun h => by rw [h, Int.zero_mul]
 generalize x * p = u at *
 generalize y * q = v at *
 rcases Int.lt_trichotomy x 0 with hx | hx | hx <;> rcases Int.lt_trichotomy y 0 with hy | hy | hy
 ·exact absurd (by rw [Int.sign_eq_neg_one_of_neg hx, Int.sign_eq_neg_one_of_neg hy]) h
 ·unfold ordZ; rw [if_pos (by omega), if_pos (by have := f1 hx; have := f6 hy; omega)]
 ·unfold ordZ; rw [if_pos (by omega), if_pos (by have := f1 hx; have := f4 hy; omega)]
 ·unfold ordZ; rw [if_neg (by omega), if_pos (by omega), if_neg (by have := f5 hx; have := f3 hy; omega), if_pos (by have := f5 hx; have := f3 hy; omega)]
 ·exact absurd (by rw [hx, hy]) h
 ·unfold ordZ; rw [if_pos (by omega), if_pos (by have := f5 hx; have := f4 hy; omega)]
 ·unfold ordZ; rw [if_neg (by omega), if_pos (by omega), if_neg (by have := f2 hx; have := f3 hy; omega), if_pos (by have := f2 hx; have := f3 hy; omega)]
 ·unfold ordZ; rw [if_neg (by omega), if_pos (by omega), if_neg (by have := f2 hx; have := f6 hy; omega), if_pos (by have := f2 hx; have := f6 hy; omega)]
 ·exact absurd (by rw [Int.sign_eq_one_of_pos hx, Int.sign_eq_one_of_pos hy]) h
theorem sign_ne (a b : Rat) (h : a.num.sign ≠ b.num.sign) : ordZ a.num b.num = ordR a b := by
 have := Nat.pos_of_ne_zero a.den_nz
 have := Nat.pos_of_ne_zero b.den_nz
 rw [ordR_eq]; exact ordZ_scale _ _ _ _ (by omega) (by omega) h
theorem cmp_pv (a b : Rat) (ha : sm a) (hb : sm b) : PV prog 21 #[fracV a, fracV b] (.int .i64 (ordR a b)) := by
 have na := ha.num; have da := ha.den; have nb := hb.num; have db := hb.den
 have bna : bigI a.num := Nat.le_trans na (by omega)
 have bnb : bigI b.num := Nat.le_trans nb (by omega)
 have bda : big a.den := Nat.le_trans da (by omega)
 have bdb : big b.den := Nat.le_trans db (by omega)
 have w1 := isWhole_pv a bda
 have w2 := isWhole_pv b bdb
 have s1 := sign_pv a bna
 have s2 := sign_pv b bnb
 have d1 := den_pv a bda
 have d2 := den_pv b bdb
 have c1 := bl_mul a.num.natAbs b.den
 have c2 := bl_mul b.num.natAbs a.den
 have t1 := times_pv a.num b.den bna bdb (by show bl _ ≤ _; omega)
 have t2 := times_pv b.num a.den bnb bda (by show bl _ ≤ _; omega)
 have k1 := wholeCmp_pv a.num b.num bna bnb
 have k2 := wholeCmp_pv (a.num * (b.den : Int)) (b.num * (a.den : Int)) (by show bl _ ≤ _; rw [Int.natAbs_mul]; simp; omega) (by show bl _ ≤ _; rw [Int.natAbs_mul]; simp; omega)
 rw [← ordR_eq] at k2
 refine PV.of_pc ?_
 refine BD func21 ntmps21 ?_
 try refine RUN ?_
 by_cases ha1 : a.den = 1
 ·rw [decide_eq_true ha1] at w1
  by_cases hb1 : b.den = 1
  ·rw [decide_eq_true hb1] at w2
   have e : ordZ a.num b.num = ordR a b := by rw [ordR_eq, ha1, hb1]; simp
   rw [e] at k1
   apply EV.drawn 10 (by kernel_rfl) (by kernel_rfl); intro xv yw
   (repeat (first | refine' DV ?_ | refine' DA ?_ | refine' DK0 ?_ | refine' DT ?_ | (refine' DC (w1) (h := ?_); rotate_left) | (refine' DC (w2) (h := ?_); rotate_left) | (refine' DC (s1) (h := ?_); rotate_left) | (refine' DC (s2) (h := ?_); rotate_left) | refine' DS ?_))
   (refine DJ.nil (fun G hG hF => ?_); (case hS => rfl); (case hS2 => rfl))
   repeat (first | refine RUN ?_ | refine CV (k1) ?_ | refine CE (k1) ?_)
   rfl
  ·rw [decide_eq_false hb1] at w2
   apply EV.drawn 10 (by kernel_rfl) (by kernel_rfl); intro xv yw
   (repeat (first | refine' DV ?_ | refine' DA ?_ | refine' DK0 ?_ | refine' DT ?_ | (refine' DC (w1) (h := ?_); rotate_left) | (refine' DC (w2) (h := ?_); rotate_left) | (refine' DC (s1) (h := ?_); rotate_left) | (refine' DC (s2) (h := ?_); rotate_left) | refine' DS ?_))
   (refine DJ.nil (fun G hG hF => ?_); (case hS => rfl); (case hS2 => rfl))
   repeat (first | refine RUN ?_ | refine CV (s1) ?_ | refine CV (s2) ?_ | refine CE (s1) ?_ | refine CE (s2) ?_)
   by_cases hs : a.num.sign = b.num.sign
   ·rw [show (a.num.sign != b.num.sign) = false by simp [hs]]
    try refine RUN ?_
    apply EV.drawn 9 (by kernel_rfl) (by kernel_rfl); intro xv yw
    (repeat (first | refine' DV ?_ | refine' DA ?_ | refine' DK0 ?_ | refine' DT ?_ | (refine' DC (d2) (h := ?_); rotate_left) | (refine' DC (t1) (h := ?_); rotate_left) | (refine' DC (d1) (h := ?_); rotate_left) | refine' DS ?_))
    (refine DJ.nil (fun G hG hF => ?_); (case hS => rfl); (case hS2 => rfl))
    repeat (first | refine RUN ?_ | refine CV (t2) ?_ | refine CV (k2) ?_ | refine CE (t2) ?_ | refine CE (k2) ?_)
    rfl
   ·rw [show (a.num.sign != b.num.sign) = true by simp [hs]]
    repeat (first | refine RUN ?_ | refine CV (k1) ?_ | refine CE (k1) ?_)
    rw [sign_ne a b hs]
 ·rw [decide_eq_false ha1] at w1
  apply EV.drawn 10 (by kernel_rfl) (by kernel_rfl); intro xv yw
  (repeat (first | refine' DV ?_ | refine' DA ?_ | refine' DK0 ?_ | refine' DT ?_ | (refine' DC (w1) (h := ?_); rotate_left) | (refine' DC (w2) (h := ?_); rotate_left) | (refine' DC (s1) (h := ?_); rotate_left) | (refine' DC (s2) (h := ?_); rotate_left) | refine' DS ?_))
  (refine DJ.nil (fun G hG hF => ?_); (case hS => rfl); (case hS2 => rfl))
  repeat (first | refine RUN ?_ | refine CV (s1) ?_ | refine CV (s2) ?_ | refine CE (s1) ?_ | refine CE (s2) ?_)
  by_cases hs : a.num.sign = b.num.sign
  ·rw [show (a.num.sign != b.num.sign) = false by simp [hs]]
   try refine RUN ?_
   apply EV.drawn 9 (by kernel_rfl) (by kernel_rfl); intro xv yw
   (repeat (first | refine' DV ?_ | refine' DA ?_ | refine' DK0 ?_ | refine' DT ?_ | (refine' DC (d2) (h := ?_); rotate_left) | (refine' DC (t1) (h := ?_); rotate_left) | (refine' DC (d1) (h := ?_); rotate_left) | refine' DS ?_))
   (refine DJ.nil (fun G hG hF => ?_); (case hS => rfl); (case hS2 => rfl))
   repeat (first | refine RUN ?_ | refine CV (t2) ?_ | refine CV (k2) ?_ | refine CE (t2) ?_ | refine CE (k2) ?_)
   rfl
  ·rw [show (a.num.sign != b.num.sign) = true by simp [hs]]
   repeat (first | refine RUN ?_ | refine CV (k1) ?_ | refine CE (k1) ?_)
   rw [sign_ne a b hs]
theorem pick_pv (z m : Int) (hz : -9223372036854775808 ≤ z ∧ z < 9223372036854775808) (h0 : 0 < m) (hm : m < 4611686018427387904) : PV prog 7 #[.int .i64 z, .int .i64 m] (.int .i64 (z % m)) := by
 have h1 := Int.tmod_lt_of_pos z h0
 have h2 := Int.lt_tmod_of_pos z h0
 have e : z % m = if z.tmod m < 0 then z.tmod m + m else z.tmod m := by
  have hq := Int.mul_tdiv_add_tmod z m
  have e1 : z % m = z.tmod m % m := by
   conv => lhs; rw [← hq]
   rw [Int.mul_add_emod_self_left]
  rw [e1]
  by_cases ht : z.tmod m < 0
  ·rw [if_pos ht, ← Int.add_emod_right, Int.emod_eq_of_lt (by omega) (by omega)]
  ·rw [if_neg ht, Int.emod_eq_of_lt (by omega) h1]
 refine PV.of_pc ?_
 refine BD func7 ntmps7 ?_
 try refine RUN ?_
 refine EVL.remI rfl rfl rfl rfl rfl rfl (by omega) ?_
 generalize z.tmod m = t at *
 try refine RUN ?_
 by_cases ht : t < 0
 ·rw [if_pos ht] at e
  rw [decide_eq_true ht]
  try refine RUN ?_
  rw [e, IntKind.wrap_i64]; congr 1; omega
 ·rw [if_neg ht] at e
  rw [decide_eq_false ht]
  try refine RUN ?_
  rw [e]
theorem refNatH_pc {H : Hp} {v : Value} {n : Nat} (h : RN H v n) (hn : rsm n) : PC prog 98 #[v] H fun r _ => r = natV n := by
 have hol : (octs n).length ≤ 200000000 := by
  rw [octs_length]
  have := dig_len_bits 8 n (by omega); rw [show (2 : Nat) ^ 8 = 256 by decide] at this; rw [this]
  have : bl n ≤ 800000000 := hn
  omega
 refine BD func98 ntmps98 ?_
 try refine RUN ?_
 refine EVL.call rfl rfl rfl rfl rfl (refBytes_pc h hn) ?_
 rintro r G hr hG
 have hf := natFromBytes_pc hr (octs_dig n) hol
 rw [octs_val] at hf
 repeat (first | refine RUN ?_ | refine CV (hf) ?_ | refine CE (hf) ?_)
 rfl
theorem outNat_pc {H : Hp} (n : Nat) (hn : rsm n) : PC prog 126 #[natV n] H fun r H' => RN H' r n := by
 have hol : (octs n).length ≤ 200000000 := by
  rw [octs_length]
  have := dig_len_bits 8 n (by omega); rw [show (2 : Nat) ^ 8 = 256 by decide] at this; rw [this]
  have : bl n ≤ 800000000 := hn
  omega
 refine BD func126 ntmps126 ?_
 try refine RUN ?_
 refine EVL.call rfl rfl rfl rfl rfl (natBytes_pc n (Nat.le_trans hn (by omega)) H) ?_
 rintro r G hr hG
 have hf := refFrom_pc hr (octs_dig n) hol
 rw [octs_val] at hf
 try refine RUN ?_
 refine EVL.call rfl rfl rfl rfl rfl (hf) ?_
 rintro s G2 hs hG2
 try refine RUN ?_
 exact hs
theorem intH_pc {H : Hp} {v : Value} {z : Int} (h : RI H v z) (hz : rsm z.natAbs) : PC prog 97 #[v] H fun r _ => r = intV z := by
 obtain ⟨sa, sl, sc, rfl, hs⟩ := id h
 have hf := from_pv (decide (z < 0)) z.natAbs (Nat.le_trans hz (by omega))
 rw [sg_dec] at hf
 refine BD func97 ntmps97 ?_
 try refine RUN ?_
 apply EV.drawn 6 (by kernel_rfl) (by kernel_rfl); intro xv yw
 (repeat (first | refine' DV ?_ | refine' DA ?_ | refine' DK0 ?_ | refine' DT ?_ | refine' DS ?_))
 refine' DJ.callS rfl rfl rfl rfl rfl (cO func98) (fun G hG hd => refNatH_pc (RN.mono hs hG) hz) ?_; rotate_left
 (repeat (first | refine' DV ?_ | refine' DA ?_ | refine' DK0 ?_ | refine' DT ?_ | (refine' DC (hf) (h := ?_); rotate_left) | refine' DS ?_))
 (refine DJ.nil (fun G hG hF => ?_); (case hS => rfl); (case hS2 => rfl))
 try refine RUN ?_
 rfl
theorem outInt_pc {H : Hp} (z : Int) (hz : rsm z.natAbs) : PC prog 124 #[intV z] H fun r H' => RI H' r z := by
 have hb : bigI z := Nat.le_trans hz (by omega)
 have e1 : decide (z.sign < 0) = decide (z < 0) := by rw [decide_eq_decide, Int.sign_neg_iff]
 refine BD func124 ntmps124 ?_
 try refine RUN ?_
 apply EV.drawn 7 (by kernel_rfl) (by kernel_rfl); intro xv yw
 (repeat (first | refine' DV ?_ | refine' DA ?_ | refine' DK0 ?_ | refine' DT ?_ | (refine' DC (wholeSign_pv z hb) (h := ?_); rotate_left) | (refine' DC (wholeAbs_pv z) (h := ?_); rotate_left) | refine' DS ?_))
 refine' DJ.call rfl rfl rfl rfl rfl (cO func126) (fun G hG hd => outNat_pc z.natAbs hz) (fun _ _ _ h k => RN.mono h k) ?_; rotate_left
 rw [e1]
 refine' DJ.call rfl rfl rfl rfl rfl (cO func130) (fun G hG hd => refI_pc (decide (z < 0)) (hd.head (by kernel_rfl))) (fun _ _ _ h k => RI.mono h k) ?_; rotate_left
 (refine DJ.nil (fun G hG hF => ?_); (case hS => rfl); (case hS2 => rfl))
 obtain ⟨⟨ra, rl, rc, hr, h1⟩, _⟩ := hF
 rw [sg_dec] at hr h1
 rw [hr]
 try refine RUN ?_
 exact ⟨ra, rl, rc, rfl, h1⟩
theorem in_pc {H : Hp} {v : Value} {q : Rat} (h : RQ H v q) (hq : rq q) : PC prog 46 #[v] H fun r _ => r = fracV q := by
 obtain ⟨sa, sl, sc, ta, tl, tc, rfl, hs, ht⟩ := id h
 have hn := hq.num
 have hd' := hq.den
 have hf := from_pv false q.den (Nat.le_trans hd' (by omega))
 rw [show sg false q.den = (q.den : Int) from rfl] at hf
 have hm := make_pv q.num (q.den : Int) (Nat.le_trans hn (by omega)) (Nat.le_trans hd' (by omega)) (by have := q.den_nz; omega)
 rw [if_neg (by omega), Int.natAbs_natCast, Rat.mkRat_self] at hm
 refine BD func46 ntmps46 ?_
 try refine RUN ?_
 apply EV.drawn 14 (by kernel_rfl) (by kernel_rfl); intro xv yw
 (repeat (first | refine' DV ?_ | refine' DA ?_ | refine' DK0 ?_ | refine' DT ?_ | refine' DS ?_))
 refine' DJ.callS rfl rfl rfl rfl rfl (cO func97) (fun G hG hd => intH_pc (RQ.rnum (RN.mono hs hG)) hn) ?_; rotate_left
 (repeat (first | refine' DV ?_ | refine' DA ?_ | refine' DK0 ?_ | refine' DT ?_ | refine' DS ?_))
 refine' DJ.callS rfl rfl rfl rfl rfl (cO func98) (fun G hG hd => refNatH_pc (RN.mono ht hG) hd') ?_; rotate_left
 (repeat (first | refine' DV ?_ | refine' DA ?_ | refine' DK0 ?_ | refine' DT ?_ | (refine' DC (hf) (h := ?_); rotate_left) | (refine' DC (hm) (h := ?_); rotate_left) | refine' DS ?_))
 (refine DJ.nil (fun G hG hF => ?_); (case hS => rfl); (case hS2 => rfl))
 try refine RUN ?_
 rfl
theorem out_pc {H : Hp} (q : Rat) (hq : rq q) : PC prog 78 #[fracV q] H fun r H' => RQ H' r q := by
 have hn := hq.num
 have hd' := hq.den
 refine BD func78 ntmps78 ?_
 try refine RUN ?_
 apply EV.drawn 6 (by kernel_rfl) (by kernel_rfl); intro xv yw
 (repeat (first | refine' DV ?_ | refine' DA ?_ | refine' DK0 ?_ | refine' DT ?_ | (refine' DC (num_pv q) (h := ?_); rotate_left) | (refine' DC (den_pv q (Nat.le_trans hd' (by omega))) (h := ?_); rotate_left) | refine' DS ?_))
 refine' DJ.call rfl rfl rfl rfl rfl (cO func124) (fun G hG hd => outInt_pc q.num hn) (fun _ _ _ h k => RI.mono h k) ?_; rotate_left
 (repeat (first | refine' DV ?_ | refine' DA ?_ | refine' DK0 ?_ | refine' DT ?_ | (refine' DC (num_pv q) (h := ?_); rotate_left) | (refine' DC (den_pv q (Nat.le_trans hd' (by omega))) (h := ?_); rotate_left) | refine' DS ?_))
 refine' DJ.call rfl rfl rfl rfl rfl (cO func126) (fun G hG hd => outNat_pc q.den hd') (fun _ _ _ h k => RN.mono h k) ?_; rotate_left
 (refine DJ.nil (fun G hG hF => ?_); (case hS => rfl); (case hS2 => rfl))
 obtain ⟨hN, ⟨ra, rl, rc, hr, h1⟩, _⟩ := hF
 obtain ⟨xa, xc, hx⟩ := SlC.val hN
 rw [hx] at hN
 rw [hx, hr]
 try refine RUN ?_
 exact ⟨ra, rl, rc, xa, _, xc, rfl, h1, hN⟩
theorem refCmpN_pc {H : Hp} {u v : Value} {a b : Nat} (hu : RN H u a) (hv : RN H v b) (ha : rsm a) : PC prog 79 #[u, v] H fun r _ => r = .int .i64 (ordN a b) := by
 have la := ha.len
 have := refCmpL_pc hu hv (dig_norm B32_two _) (dig_norm B32_two _) (by omega)
 rwa [dig_val B32_two, dig_val B32_two] at this
theorem ordN_eqb (a b : Nat) : (ordN a b == 0) = decide (a = b) := by
 unfold ordN
 rcases Nat.lt_trichotomy a b with h | h | h
 ·rw [if_pos h, decide_eq_false (by omega)]; rfl
 ·rw [if_neg (by omega), if_neg (by omega), decide_eq_true h]; rfl
 ·rw [if_neg (by omega), if_pos h, decide_eq_false (by omega)]; rfl
theorem same_pc {H : Hp} {w : Value} {p q : Rat} (hw : RQ H w q) (hp : rq p) (hq : rq q) : PC prog 35 #[fracV p, w] H fun r _ => r = .bool (decide (p = q)) := by
 obtain ⟨sa, sl, sc, ta, tl, tc, rfl, hs, ht⟩ := id hw
 have hl : (tl : Int) ≠ 0 := by
  have h1 := SlN.cap ht
  have h2 := dig_ne_nil B32_two q.den_nz
  have h3 := List.length_pos_iff.2 h2
  omega
 refine BD func35 ntmps35 ?_
 try refine RUN ?_
 refine EVL.call rfl rfl rfl rfl rfl (out_pc p hp) ?_
 rintro r G ⟨sa', sl', sc', ta', tl', tc', rfl, hs', ht'⟩ hG
 have c1 := refCmpN_pc hs' (RN.mono hs hG) hp.num
 have c2 := refCmpN_pc ht' (RN.mono ht hG) hp.den
 try refine RUN ?_
 rw [show ((tl : Int) == 0) = false by simpa using hl]
 repeat (first | refine RUN ?_ | refine CV (c1) ?_ | refine CE (c1) ?_)
 rw [ordN_eqb]
 by_cases h1 : p.num.natAbs = q.num.natAbs
 ·rw [decide_eq_true h1]
  try refine RUN ?_
  refine EVL.eqb rfl rfl rfl rfl rfl rfl (by kernel_rfl) ?_
  by_cases h2 : decide (p.num < 0) = decide (q.num < 0)
  ·rw [show (decide (p.num < 0) == decide (q.num < 0)) = true by simp [h2]]
   repeat (first | refine RUN ?_ | refine CV (c2) ?_ | refine CE (c2) ?_)
   rw [ordN_eqb]
   congr 1
   have hn : p.num = q.num := by
    rw [decide_eq_decide] at h2; omega
   by_cases h3 : p.den = q.den
   ·rw [decide_eq_true h3, decide_eq_true (Rat.ext hn h3)]
   ·rw [decide_eq_false h3, decide_eq_false (fun e => h3 (by rw [e]))]
  ·rw [show (decide (p.num < 0) == decide (q.num < 0)) = false by simpa using h2]
   try refine RUN ?_
   rw [decide_eq_false (fun e => h2 (by rw [e]))]
 ·rw [decide_eq_false h1]
  try refine RUN ?_
  rw [decide_eq_false (fun e => h1 (by rw [e]))]
def rDen (j : Nat) : Int := [1, 1, 1, 2, 3, 4].getD j 1
def rNum (z : Int) : Rat := Rat.divInt (z % 41 - 20) (rDen (z.tdiv 41 % 6).toNat)
theorem rDen_range (j : Nat) : 1 ≤ rDen j ∧ rDen j ≤ 4 := by
 unfold rDen
 rcases j with _ | _ | _ | _ | _ | _ | j <;> simp [List.getD_eq_getElem?_getD]
theorem r_pc {H : Hp} (z : Int) (hz : -9223372036854775808 ≤ z ∧ z < 9223372036854775808) : PC prog 39 #[.int .i64 z] H fun r H' => RQ H' r (rNum z) := by
 have hq : -9223372036854775808 ≤ z.tdiv 41 ∧ z.tdiv 41 < 9223372036854775808 := by
  by_cases h : 0 ≤ z
  ·rw [Int.tdiv_eq_ediv_of_nonneg h]; omega
  ·have e : z.tdiv 41 = -((-z) / 41) := by rw [← Int.tdiv_eq_ediv_of_nonneg (by omega), Int.neg_tdiv, Int.neg_neg]
   rw [e]; omega
 have hqw : IntKind.i64.wrap (z.tdiv 41) = z.tdiv 41 := by rw [IntKind.wrap_i64]; omega
 have h1 := pick_pv z 41 hz (by omega) (by omega)
 have h2 := pick_pv (z.tdiv 41) 6 hq (by omega) (by omega)
 have m1 := Int.emod_nonneg z (show (41 : Int) ≠ 0 by omega)
 have m2 := Int.emod_lt_of_pos z (show (0 : Int) < 41 by omega)
 obtain ⟨j, hj⟩ := Int.eq_ofNat_of_zero_le (Int.emod_nonneg (z.tdiv 41) (show (6 : Int) ≠ 0 by omega))
 have m3 := Int.emod_lt_of_pos (z.tdiv 41) (show (0 : Int) < 6 by omega)
 have hsub : IntKind.i64.wrap (z % 41 - 20) = z % 41 - 20 := by rw [IntKind.wrap_i64]; omega
 have hrd := rDen_range j
 have hrn : rNum z = Rat.divInt (z % 41 - 20) (rDen j) := by unfold rNum; rw [hj]; rfl
 rw [hrn]
 have hidx : ([.int .i64 1, .int .i64 1, .int .i64 1, .int .i64 2, .int .i64 3, .int .i64 4] : List Value)[j]? = some (.int .i64 (rDen j)) := by
  have hj6 : j < 6 := by omega
  rcases j with _ | _ | _ | _ | _ | _ | j <;> first | rfl | omega
 have ho := fun G : Hp => refOver_pc (H := G) (z % 41 - 20) (rDen j) (by omega) (by omega) (by omega) (by omega) (by omega)
 rw [hj] at h2
 refine BD func39 ntmps39 ?_
 repeat (first | refine RUN ?_ | refine CV (h1) ?_ | refine CE (h1) ?_)
 rw [hsub]
 refine EVL.buildArr rfl rfl rfl rfl rfl (cs := [.int .i64 1, .int .i64 1, .int .i64 1, .int .i64 2, .int .i64 3, .int .i64 4]) (by kernel_rfl) ?_
 try refine RUN ?_
 rw [hqw]
 repeat (first | refine RUN ?_ | refine CV (h2) ?_ | refine CE (h2) ?_)
 refine EVL.indexArr (e := 2) (len := 6) tO rfl rfl rfl rfl (by kernel_rfl) rfl rfl rfl rfl rfl j rfl (show j < 6 by omega) hidx ?_
 refine EVL.call rfl rfl rfl rfl rfl (ho H) ?_
 rintro r G ⟨ra, rl, rc, xa, xl, xc, rfl, hn, hd⟩ hG
 try refine RUN ?_
 exact ⟨ra, rl, rc, xa, xl, xc, rfl, hn, hd⟩
def QL (H : Hp) (v : Value) (l : List Rat) : Prop := SlC H v l.length 5 (l.flatMap fun q => vlist (fracV q))
def RL (H : Hp) (v : Value) (l : List Rat) : Prop := ∃ vs : List Value, vs.length = l.length ∧ (∀ (j : Nat) (x : Value) (q : Rat), vs[j]? = some x → l[j]? = some q → RQ H x q) ∧ SlC H v l.length 3 (vs.flatMap vlist)
theorem QL.mono {H G : Hp} {v : Value} {l : List Rat} (h : QL H v l) (k : H.Le G) : QL G v l := SlC.mono h k
theorem RL.mono {H G : Hp} {v : Value} {l : List Rat} (h : RL H v l) (k : H.Le G) : RL G v l := by
 obtain ⟨vs, h1, h2, h3⟩ := h
 exact ⟨vs, h1, fun j x q e1 e2 => (h2 j x q e1 e2).mono k, h3.mono k⟩
theorem QL.at {H : Hp} {v : Value} {l : List Rat} {j : Nat} {q : Rat} (hj : l[j]? = some q) : ((l.flatMap fun q => vlist (fracV q)).drop (j * 5)).take 5 = vlist (fracV q) := flat_cut _ 5 l (fun _ _ => rfl) j q hj
theorem RQ.cells {H : Hp} {x : Value} {q : Rat} (h : RQ H x q) : (vlist x).length = 3 ∧ oneB (vlist x) = true := by
 obtain ⟨_, _, _, _, _, _, rfl, _, _⟩ := h
 exact ⟨rfl, rfl⟩
theorem RL.at {H : Hp} {v : Value} {l : List Rat} (h : RL H v l) {j : Nat} {q : Rat} (hj : l[j]? = some q) : ∃ (vs : List Value) (x : Value), SlC H v l.length 3 (vs.flatMap vlist) ∧ ((vs.flatMap vlist).drop (j * 3)).take 3 = vlist x ∧ RQ H x q := by
 obtain ⟨vs, h1, h2, h3⟩ := h
 obtain ⟨hl, rfl⟩ := List.getElem?_eq_some_iff.1 hj
 have hv : vs[j]? = some (vs[j]'(by omega)) := List.getElem?_eq_getElem (by omega)
 have hall : ∀ x, x ∈ vs → (vlist x).length = 3 := fun x hx => by
  obtain ⟨i, hi, rfl⟩ := List.getElem_of_mem hx
  exact (h2 i _ _ (List.getElem?_eq_getElem hi) (List.getElem?_eq_getElem (by omega))).cells.1
 exact ⟨vs, _, h3, flat_cut _ 3 vs hall j _ hv, h2 j _ _ hv hj⟩
theorem take_snoc {α : Type} {l : List α} {i : Nat} {x : α} (h : l[i]? = some x) : l.take (i + 1) = l.take i ++ [x] := by
 obtain ⟨hl, rfl⟩ := List.getElem?_eq_some_iff.1 h
 exact List.take_succ_eq_append_getElem hl
theorem RL.val {H : Hp} {v : Value} {l : List Rat} (h : RL H v l) : ∃ a cap, v = .slice a l.length cap := by
 obtain ⟨vs, _, _, h3⟩ := h
 exact SlC.val h3
theorem inRow_pc {H : Hp} {v : Value} {l : List Rat} (h : RL H v l) (hl : l.length ≤ 100000000) (hq : ∀ q, q ∈ l → rq q) : PC prog 43 #[v] H fun r H' => QL H' r l := by
 obtain ⟨a, cap, rfl⟩ := RL.val h
 refine BD func43 ntmps43 ?_
 try refine RUN ?_
 refine EV.loopK (ι := Nat × Value × Ows) [0] [] (fun q => [(3, .v q.2.1), (4, .v (.int .i64 (q.1 : Int)))]) (fun _ => []) (fun q => q.2.2) (fun q G => q.1 ≤ l.length ∧ OwnL 45 5 q.2.1 q.1 ((l.take q.1).flatMap fun q => vlist (fracV q)) q.2.2) (fun q => l.length - q.1) ((0, .slice none 0 0, [])) rfl rfl ⟨rfl, rfl, trivial⟩ trivial rfl (fun _ => rfl) (⟨Nat.zero_le _, OwnL.nil _ _⟩) ?_
 rintro ⟨i, w, ow⟩ G1 hG1 ⟨hi, hown⟩
 dsimp only at hi hown
 try refine RUN ?_
 refine EV.cond rfl (fun hlt => ?_) (fun hlt => ?_)
 ·simp only [nN] at hlt
  obtain ⟨q, hqi⟩ : ∃ q, l[i]? = some q := ⟨_, List.getElem?_eq_getElem hlt⟩
  obtain ⟨vs, x, hs, hc, hx⟩ := (h.mono hG1).at hqi
  obtain ⟨xa, xl, xc, ya, yl, yc, rfl, hx1, hx2⟩ := id hx
  try refine RUN ?_
  refine EVL.idxM tO rfl rfl rfl rfl rfl rfl rfl rfl rfl (hs) (i) (rfl) (hlt) (hc) ?_
  repeat (first | refine RUN ?_ | refine CV (in_pc hx (hq q (List.mem_of_getElem? hqi))) ?_ | refine CE (in_pc hx (hq q (List.mem_of_getElem? hqi))) ?_)
  refine EVL.app1 tO rfl rfl rfl rfl rfl rfl rfl rfl rfl rfl rfl rfl rfl rfl rfl rfl rfl rfl rfl (fun _ => rfl) (ow) ([]) ((List.append_nil _).symm) (hown) (by omega) fun _ => ?_
  intro v' ow' hown'
  try refine RUN ?_
  refine ⟨(i + 1, v', ow'), ⟨rfl, ?_, trivial⟩, (by repeat (first | exact trivial | refine And.intro rfl ?_)), trivial, trivial, List.append_nil _, ⟨by dsimp only; omega, ?_⟩, Hp.Le.refl _, by dsimp only; omega⟩
  ·rw [wi_inc i (by omega)]; rfl
  ·dsimp only
   rw [take_snoc hqi, List.flatMap_append]
   exact hown'
 ·simp only [nN] at hlt
  obtain rfl : i = l.length := by omega
  (first | refine EVL.publishL [] ow [] ((List.append_nil _).symm) hown fun G2 hG2 hs => ?_ | refine EV.publishL [] ow [] ((List.append_nil _).symm) hown fun G2 hG2 hs => ?_)
  try refine RUN ?_
  rw [List.take_length] at hs
  exact hs
end Go.Proofs.YtejljnlfgiifoaaGreatDoor
namespace Go.Proofs.YtejljnlfgiifoaaGreatDoor
def sumQ (l : List Rat) : Rat := l.foldl (· + ·) 0
theorem sumQ_nil : sumQ [] = 0 := rfl
theorem sumQ_snoc (l : List Rat) (x : Rat) : sumQ (l ++ [x]) = sumQ l + x := by unfold sumQ; rw [List.foldl_append]; rfl
theorem ht_sumQ (B : Nat) : ∀ (l : List Rat), (∀ q, q ∈ l → ht q ≤ B) → ht (sumQ l.reverse) ≤ 1 + (B + 1) * l.length
 | [], _ => by rw [List.reverse_nil, sumQ_nil, ht_zero]; exact Nat.le_add_right ..
 | x :: l, h => by
  have h1 := ht_sumQ B l (fun q hq => h q (List.mem_cons_of_mem _ hq))
  have h2 := h x (List.mem_cons_self ..)
  have h3 := ht_add (sumQ l.reverse) x
  rw [List.reverse_cons, sumQ_snoc, List.length_cons, Nat.mul_succ]
  omega
theorem ht_sum (B : Nat) (l : List Rat) (h : ∀ q, q ∈ l → ht q ≤ B) : ht (sumQ l) ≤ 1 + (B + 1) * l.length := by
 have := ht_sumQ B l.reverse (fun q hq => h q (List.mem_reverse.1 hq))
 rwa [List.reverse_reverse, List.length_reverse] at this
end Go.Proofs.YtejljnlfgiifoaaGreatDoor
namespace Go.Proofs.YtejljnlfgiifoaaGreatDoor
open Go.RowKit _root_.Go.Proofs.Tryz
def RVs (H : Hp) (vs : List Value) (l : List Rat) : Prop := vs.length = l.length ∧ ∀ (j : Nat) (x : Value) (q : Rat), vs[j]? = some x → l[j]? = some q → RQ H x q
theorem RVs.mono {H G : Hp} {vs : List Value} {l : List Rat} (h : RVs H vs l) (k : H.Le G) : RVs G vs l := ⟨h.1, fun j x q e1 e2 => (h.2 j x q e1 e2).mono k⟩
theorem RVs.nil (H : Hp) : RVs H [] [] := ⟨rfl, fun j x q h => by simp at h⟩
theorem RVs.snoc {H : Hp} {vs : List Value} {l : List Rat} {x : Value} {q : Rat} (h : RVs H vs l) (k : RQ H x q) : RVs H (vs ++ [x]) (l ++ [q]) := by
 refine ⟨by simp [h.1], fun j y r e1 e2 => ?_⟩
 rw [List.getElem?_append] at e1 e2
 by_cases hj : j < vs.length
 ·rw [if_pos hj] at e1
  rw [if_pos (by rw [← h.1]; exact hj)] at e2
  exact h.2 j y r e1 e2
 ·rw [if_neg hj] at e1
  rw [if_neg (by rw [← h.1]; exact hj)] at e2
  have := h.1
  cases hk : j - vs.length with
  | zero =>
   rw [hk] at e1; rw [← h.1, hk] at e2
   simp at e1 e2; subst e1; subst e2; exact k
  | succ m => rw [hk] at e1; simp at e1
theorem RVs.rl {H : Hp} {vs : List Value} {l : List Rat} {v : Value} (h : RVs H vs l) (hs : SlC H v l.length 3 (vs.flatMap vlist)) : RL H v l := ⟨vs, h.1, h.2, hs⟩
abbrev IL (H : Hp) (v : Value) (l : List Int) : Prop := SlN (fun z : Int => Value.int .i64 z) H v l
def rowQ (l : List Int) (n : Nat) : List Rat := (List.range n).map fun i => match l[i]? with
 | some z => rNum z
 | none => 0
theorem rowQ_len (l : List Int) (n : Nat) : (rowQ l n).length = n := by simp [rowQ]
theorem rowQ_some {l : List Int} {n i : Nat} {z : Int} (hi : i < n) (h : l[i]? = some z) : (rowQ l n)[i]? = some (rNum z) := by
 unfold rowQ; rw [List.getElem?_map, List.getElem?_range hi]; simp [h]
theorem rowQ_none {l : List Int} {n i : Nat} (hi : i < n) (h : l[i]? = none) : (rowQ l n)[i]? = some 0 := by
 unfold rowQ; rw [List.getElem?_map, List.getElem?_range hi]; simp [h]
theorem row_pc {H : Hp} {v : Value} {l : List Int} (h : IL H v l) (hb : ∀ z, z ∈ l → -9223372036854775808 ≤ z ∧ z < 9223372036854775808) (n : Nat) (hn : n ≤ 1000000) : PC prog 44 #[v, .int .i64 (n : Int)] H fun r H' => RL H' r (rowQ l n) := by
 obtain ⟨a, cap, rfl⟩ := SlC.val h
 have hz0 := fun G : Hp => refOf_pc (H := G) 0 (by omega) (by omega)
 rw [show ((0 : Int) : Rat) = 0 from rfl] at hz0
 refine BD func44 ntmps44 ?_
 try refine RUN ?_
 refine EV.loopK (ι := Nat × List Value × Value × Ows) [0, 1] [] (fun q => [(5, .v q.2.2.1), (6, .v (.int .i64 (q.1 : Int)))]) (fun _ => []) (fun q => q.2.2.2) (fun q G => q.1 ≤ n ∧ RVs G q.2.1 ((rowQ l n).take q.1) ∧ OwnL 78 3 q.2.2.1 q.1 (q.2.1.flatMap vlist) q.2.2.2) (fun q => n - q.1) ((0, [], .slice none 0 0, [])) rfl rfl ⟨rfl, rfl, trivial⟩ trivial rfl (fun _ => rfl) (⟨Nat.zero_le _, RVs.nil _, OwnL.nil _ _⟩) ?_
 rintro ⟨i, vs, w, ow⟩ G1 hG1 ⟨hi, hvs, hown⟩
 dsimp only at hi hvs hown
 try refine RUN ?_
 refine EV.cond rfl (fun hlt => ?_) (fun hlt => ?_)
 ·simp only [nN] at hlt
  try refine RUN ?_
  refine EV.cond rfl (fun hll => ?_) (fun hll => ?_)
  ·simp only [nN] at hll
   obtain ⟨z, hzi⟩ : ∃ z, l[i]? = some z := ⟨_, List.getElem?_eq_getElem hll⟩
   have hzb := hb z (List.mem_of_getElem? hzi)
   have hq := rowQ_some hlt hzi
   try refine RUN ?_
   refine EVL.idxR tO rfl rfl rfl rfl rfl rfl rfl rfl rfl rfl ((h.mono hG1)) (i) (rfl) (hll) ((by rw [List.getElem?_map, hzi]; rfl)) ?_
   try refine RUN ?_
   refine EVL.call rfl rfl rfl rfl rfl (r_pc z hzb) ?_
   rintro r G2 hr hG2
   obtain ⟨xa, xl, xc, ya, yl, yc, rfl, hx1, hx2⟩ := id hr
   try refine RUN ?_
   refine EVL.app1 tO rfl rfl rfl rfl rfl rfl rfl rfl rfl rfl rfl rfl rfl rfl rfl rfl rfl rfl rfl (fun _ => rfl) (ow) ([]) ((List.append_nil _).symm) (hown) (by omega) fun _ => ?_
   intro v' ow' hown'
   try refine RUN ?_
   refine ⟨(i + 1, vs ++ [_], v', ow'), ⟨rfl, ?_, trivial⟩, (by repeat (first | exact trivial | refine And.intro rfl ?_)), trivial, trivial, List.append_nil _, ⟨hlt, by rw [take_snoc hq]; exact (hvs.mono hG2).snoc hr, ?_⟩, hG2, by dsimp only; omega⟩
   ·rw [wi_inc i (by omega)]; rfl
   ·dsimp only
    rw [List.flatMap_append]
    exact hown'
  ·simp only [nN] at hll
   have hzi : l[i]? = none := List.getElem?_eq_none (by omega)
   have hq := rowQ_none hlt hzi
   try refine RUN ?_
   refine EVL.call rfl rfl rfl rfl rfl (hz0 _) ?_
   rintro r G2 hr hG2
   obtain ⟨xa, xl, xc, ya, yl, yc, rfl, hx1, hx2⟩ := id hr
   try refine RUN ?_
   refine EVL.app1 tO rfl rfl rfl rfl rfl rfl rfl rfl rfl rfl rfl rfl rfl rfl rfl rfl rfl rfl rfl (fun _ => rfl) (ow) ([]) ((List.append_nil _).symm) (hown) (by omega) fun _ => ?_
   intro v' ow' hown'
   try refine RUN ?_
   refine ⟨(i + 1, vs ++ [_], v', ow'), ⟨rfl, ?_, trivial⟩, (by repeat (first | exact trivial | refine And.intro rfl ?_)), trivial, trivial, List.append_nil _, ⟨hlt, by rw [take_snoc hq]; exact (hvs.mono hG2).snoc hr, ?_⟩, hG2, by dsimp only; omega⟩
   ·rw [wi_inc i (by omega)]; rfl
   ·dsimp only
    rw [List.flatMap_append]
    exact hown'
 ·simp only [nN] at hlt
  obtain rfl : i = n := by omega
  (first | refine EVL.publishL [] ow [] ((List.append_nil _).symm) hown fun G2 hG2 hs => ?_ | refine EV.publishL [] ow [] ((List.append_nil _).symm) hown fun G2 hG2 hs => ?_)
  try refine RUN ?_
  have e : (rowQ l i).take i = rowQ l i := List.take_of_length_le (by rw [rowQ_len]; exact Nat.le_refl _)
  rw [e] at hvs
  exact (hvs.mono hG2).rl (by rw [rowQ_len]; exact hs)
theorem ht_len {n : Nat} (h : n ≤ 100000) : ht ((n : Int) : Rat) ≤ 20 := by
 have := ht_int (n : Int)
 have h2 : bl (n : Int).natAbs ≤ 17 := bl_le (by omega)
 omega
def kb (z : Int) : Nat := (max 0 (min z 256)).toNat
theorem ht_divInt (n d : Int) (h : d ≠ 0) : ht (Rat.divInt n d) ≤ max (bl n.natAbs) (bl d.natAbs) := by
 rw [divInt_mk n d h]
 refine Nat.le_trans (ht_mk _ _ (by omega)) ?_
 have : (if d < 0 then -n else n).natAbs = n.natAbs := by split <;> simp
 rw [this]; exact Nat.le_refl _
theorem ht_rNum (z : Int) : ht (rNum z) ≤ 5 := by
 unfold rNum
 have hrd := rDen_range (z.tdiv 41 % 6).toNat
 have m1 := Int.emod_nonneg z (show (41 : Int) ≠ 0 by omega)
 have m2 := Int.emod_lt_of_pos z (show (0 : Int) < 41 by omega)
 refine Nat.le_trans (ht_divInt _ _ (by omega)) (Nat.max_le.2 ⟨bl_le (by omega), bl_le (by omega)⟩)
theorem same_self {H : Hp} {w : Value} {p : Rat} (hw : RQ H w p) (hp : rq p) : PC prog 35 #[fracV p, w] H fun r _ => r = .bool true := by
 have := same_pc hw hp hp
 rwa [decide_eq_true rfl] at this
theorem rq_small {q : Rat} {k : Nat} (h : ht q ≤ k) (hk : k ≤ 100000000) : rq q := Nat.le_trans h hk
section
variable {P : Program} {n : Nat} {ops : Array Oper} {o : Oper} {rest : List Oper} {env : Env} {bx : Bxs} {H : Hs} {Q : EQ} {τ : Tab} {d : Nat}
end
theorem ordR_self (a : Rat) : ordR a a = 0 := by unfold ordR; rw [if_neg Rat.lt_irrefl, if_neg Rat.lt_irrefl]
theorem fracV_zero : fracV 0 = .agg #[.bool false, .int .u64 0, .string ⟨#[]⟩, .int .u64 0, .string ⟨#[]⟩] := by
 show frV 0 0 = _
 rw [frV_zero, show (0 : Int).natAbs = 0 from rfl, moreB_empty (n := 0) (by decide)]; rfl
theorem frac_zero_cells : vlist (fracV 0) = [.bool false, .int .u64 0, .string ⟨#[]⟩, .int .u64 0, .string ⟨#[]⟩] := by rw [fracV_zero]; rfl
theorem sm_of {q : Rat} {n : Nat} (h : ht q ≤ n) (hn : n ≤ 100000000) : sm q := Nat.le_trans h hn
theorem sum_pc {H : Hp} {v : Value} {l : List Rat} (h : QL H v l) (hl : l.length ≤ 100000) (hb : ∀ q, q ∈ l → ht q ≤ 100) : PC prog 119 #[v] H fun r _ => r = fracV (sumQ l) := by
 obtain ⟨a, cap, rfl⟩ := SlC.val h
 have hz : vlist (fracV (sumQ (l.take 0))) = [.bool false, .int .u64 0, .string ⟨#[]⟩, .int .u64 0, .string ⟨#[]⟩] := frac_zero_cells
 refine BD func119 ntmps119 ?_
 try refine RUN ?_
 refine EV.loopK (ι := Nat) [2, 3, 6, 7] [2] (fun i => [(8, .v (.int .i64 (i : Int)))]) (fun i => [(3, 45, vlist (fracV (sumQ (l.take i))))]) (fun _ => []) (fun i G => i ≤ l.length) (fun i => l.length - i) (0) rfl rfl ⟨rfl, trivial⟩ ⟨by rw [hz]; rfl, trivial⟩ rfl (fun _ => rfl) (Nat.zero_le _) ?_
 intro i G1 hG1 hi
 try refine RUN ?_
 refine EV.cond rfl (fun hlt => ?_) (fun hlt => ?_)
 ·simp only [nN] at hlt
  obtain ⟨q, hqi⟩ : ∃ q, l[i]? = some q := ⟨_, List.getElem?_eq_getElem hlt⟩
  have hqb := hb q (List.mem_of_getElem? hqi)
  have hsb := ht_sum 100 (l.take i) (fun q hq => hb q (List.mem_of_mem_take hq))
  rw [List.length_take, Nat.min_eq_left hi] at hsb
  have hadd := add_pv (sumQ (l.take i)) q (sm_of hsb (by omega)) (sm_of hqb (by omega))
  rw [← sumQ_snoc, ← take_snoc hqi] at hadd
  try refine RUN ?_
  refine EVL.idxM tO rfl rfl rfl rfl rfl rfl rfl rfl rfl ((SlC.mono (show SlC H (.slice a l.length cap) l.length 5 (l.flatMap fun q => vlist (fracV q)) from h) hG1)) (i) (rfl) (hlt) ((QL.at (H := H) (v := .slice a l.length cap) hqi)) ?_
  repeat (first | refine RUN ?_ | refine CV (hadd) ?_ | refine CE (hadd) ?_)
  refine ⟨i + 1, ⟨?_, trivial⟩, (by repeat (first | exact trivial | refine And.intro rfl ?_)), ⟨rfl, trivial⟩, (by repeat (first | exact trivial | refine And.intro rfl ?_)), rfl, hlt, Hp.Le.refl _, by omega⟩
  rw [wi_inc i (by omega)]; rfl
 ·simp only [nN] at hlt
  obtain rfl : i = l.length := by omega
  rw [List.take_length]
  try refine RUN ?_
  rfl
theorem mean_pc {H : Hp} {v : Value} {l : List Rat} (h : QL H v l) (hl : l.length ≤ 100000) (h0 : l.length ≠ 0) (hb : ∀ q, q ∈ l → ht q ≤ 100) : PC prog 73 #[v] H fun r _ => r = .tuple #[fracV (sumQ l / ((l.length : Int) : Rat)), .bool true] := by
 obtain ⟨a, cap, rfl⟩ := SlC.val h
 have hs := ht_sum 100 l hb
 have hln := ht_len hl
 have hsum := sum_pc h hl hb
 have hof := of_pv (l.length : Int) (by omega) (by omega)
 have hd := div_pv (sumQ l) ((l.length : Int) : Rat) (sm_of hs (by omega)) (sm_of hln (by omega)) (by intro e; have : ((l.length : Int) : Rat) = ((0 : Int) : Rat) := e; exact h0 (by have := Rat.intCast_inj.1 this; omega))
 refine BD func73 ntmps73 ?_
 repeat (first | refine RUN ?_ | refine CV (hsum) ?_ | refine CV (hof) ?_ | refine CV (hd) ?_ | refine CE (hsum) ?_ | refine CE (hof) ?_ | refine CE (hd) ?_)
 rfl
theorem mean_no {H : Hp} {v : Value} (h : QL H v []) : PC prog 73 #[v] H fun r _ => r = .tuple #[fracV 0, .bool false] := by
 obtain ⟨a, cap, rfl⟩ := SlC.val h
 have hsum := sum_pc h (Nat.zero_le _) (by intro q hq; cases hq)
 have hof := of_pv 0 (by omega) (by omega)
 rw [show ((0 : Int) : Rat) = 0 from rfl] at hof
 have hd := div_zero_pv 0
 refine BD func73 ntmps73 ?_
 repeat (first | refine RUN ?_ | refine CV (hsum) ?_ | refine CV (hof) ?_ | refine CV (hd) ?_ | refine CE (hsum) ?_ | refine CE (hof) ?_ | refine CE (hd) ?_)
 rfl
def sideC (n : Int) (cs : List Int) (sq : Int) (q : Rat) : List Value := .int .i64 n :: (cs.map (fun z => Value.int .i64 z) ++ (.int .i64 sq :: vlist (fracV q)))
theorem sideC_len {n : Int} {cs : List Int} {sq : Int} {q : Rat} (h : cs.length = 12) : (sideC n cs sq q).length = 19 := by
 unfold sideC; rw [List.length_cons, List.length_append, List.length_map, h]; rfl
theorem drop_mid {α : Type} {a b : List α} {k : Nat} (h : a.length = k) : (a ++ b).drop k = b := List.drop_left' h
theorem side_n {n : Int} {cs : List Int} {sq : Int} {q : Rat} : ((sideC n cs sq q).drop 0).take 1 = [.int .i64 n] := rfl
theorem side_n_set {n n' : Int} {cs : List Int} {sq : Int} {q : Rat} : (sideC n cs sq q).take 0 ++ [.int .i64 n'] ++ (sideC n cs sq q).drop (0 + 1) = sideC n' cs sq q := rfl
theorem side_split (n : Int) (cs : List Int) (sq : Int) (q : Rat) : sideC n cs sq q = (.int .i64 n :: cs.map (fun z => Value.int .i64 z)) ++ (.int .i64 sq :: vlist (fracV q)) := rfl
theorem side_sq {n : Int} {cs : List Int} {sq : Int} {q : Rat} (h : cs.length = 12) : ((sideC n cs sq q).drop 13).take 1 = [.int .i64 sq] := by
 rw [side_split, drop_mid (by rw [List.length_cons, List.length_map, h])]; rfl
theorem side_sq_set {n : Int} {cs : List Int} {sq sq' : Int} {q : Rat} (h : cs.length = 12) : (sideC n cs sq q).take 13 ++ [.int .i64 sq'] ++ (sideC n cs sq q).drop (13 + 1) = sideC n cs sq' q := by
 have e : (sideC n cs sq q).drop (13 + 1) = vlist (fracV q) := by
  rw [← List.drop_drop, side_split, drop_mid (by rw [List.length_cons, List.length_map, h])]; rfl
 rw [e, side_split, List.take_left' (by rw [List.length_cons, List.length_map, h]), side_split]
 simp
theorem side_at {n : Int} {cs : List Int} {sq : Int} {q : Rat} {j : Nat} {z : Int} (hj : cs[j]? = some z) : ((sideC n cs sq q).drop (1 + j)).take 1 = [.int .i64 z] := by
 obtain ⟨hl, hz⟩ := List.getElem?_eq_some_iff.1 hj
 unfold sideC
 rw [Nat.add_comm, List.drop_succ_cons, List.drop_append_of_le_length (by rw [List.length_map]; omega), List.take_append_of_le_length (by rw [List.length_drop, List.length_map]; omega), List.drop_eq_getElem_cons (by rw [List.length_map]; exact hl)]
 simp [hz]
theorem side_at_set {n : Int} {cs : List Int} {sq : Int} {q : Rat} {j : Nat} (z : Int) (hj : j < cs.length) : (sideC n cs sq q).take (1 + j) ++ [.int .i64 z] ++ (sideC n cs sq q).drop (1 + j + 1) = sideC n (cs.set j z) sq q := by
 unfold sideC
 rw [show 1 + j = j + 1 by omega, List.take_succ_cons, List.drop_succ_cons, List.take_append_of_le_length (by rw [List.length_map]; omega), List.drop_append_of_le_length (by rw [List.length_map]; omega), List.map_set]
 rw [List.set_eq_take_append_cons_drop, if_pos (by rw [List.length_map]; exact hj)]
 simp
theorem side_at' {n : Int} {cs : List Int} {sq : Int} {q : Rat} {j : Nat} {z : Int} (hj : cs[j]? = some z) : ((sideC n cs sq q).drop (0 + 1 + j)).take 1 = [.int .i64 z] := side_at hj
theorem side_at_set' {n : Int} {cs : List Int} {sq : Int} {q : Rat} {j : Nat} (z : Int) (hj : j < cs.length) : (sideC n cs sq q).take (0 + 1 + j) ++ [.int .i64 z] ++ (sideC n cs sq q).drop (0 + 1 + j + 1) = sideC n (cs.set j z) sq q := side_at_set z hj
theorem und_arr : Tryz.prog.underlying 114 = some (.array 12 3) := by kernel_rfl
theorem side_zero : Tryz.te116.zero = sideC 0 (List.replicate 12 0) 0 0 := by
 unfold sideC; rw [frac_zero_cells]; rfl
theorem side_all {n : Int} {cs : List Int} {sq : Int} {q : Rat} (h : cs.length = 12) : ((sideC n cs sq q).drop 0).take 19 = sideC n cs sq q := by
 rw [List.drop_zero, List.take_of_length_le (by rw [sideC_len h]; omega)]
abbrev goalV (kind classes : Int) (sl sv : Value) : Value := .agg #[.int .i64 kind, .int .i64 classes, sl, sv]
set_option maxHeartbeats 4000000 in
theorem addC_pw {H : Hp} {b : Nat} {cl : Int} {va : Option Addr} {vn vc : Nat} {la : Option Addr} {lc : Nat} {ls : List Int} (hv : IL H (.slice la ls.length lc) ls) {r n : Nat} (hn : n ≤ 1000000) {k m sq : Nat} (hr : ls[r]? = some (k : Int)) (hk : k < 12) {cs : List Int} (hc : cs.length = 12) (hm : cs[k]? = some (m : Int)) (hmb : m ≤ 1000000) (hsb : sq ≤ 10000000000000) {q : Rat} :
  PW prog 115 #[.pointer (some ⟨b, 0, none⟩), goalV 1 cl (.slice la ls.length lc) (.slice va vn vc), .int .i64 (r : Int)] H [(b, 116, sideC n cs sq q)] fun v ow _ => v = .tuple #[] ∧ ow = [(b, 116, sideC ((n + 1 : Nat) : Int) (cs.set k ((m + 1 : Nat) : Int)) ((sq + 2 * m + 1 : Nat) : Int) q)] := by
 have hlen := sideC_len (n := (n : Int)) (cs := cs) (sq := (sq : Int)) (q := q) hc
 obtain ⟨hrl, _⟩ := List.getElem?_eq_some_iff.1 hr
 have w1 : IntKind.i64.wrap ((sq : Int) + IntKind.i64.wrap (IntKind.i64.wrap (2 * (m : Int)) + 1)) = ((sq + 2 * m + 1 : Nat) : Int) := by
  rw [show IntKind.i64.wrap (2 * (m : Int)) = 2 * (m : Int) by rw [IntKind.wrap_i64]; omega, show IntKind.i64.wrap (2 * (m : Int) + 1) = 2 * (m : Int) + 1 by rw [IntKind.wrap_i64]; omega, IntKind.wrap_i64]; omega
 have w2 : IntKind.i64.wrap ((m : Int) + 1) = ((m + 1 : Nat) : Int) := by rw [IntKind.wrap_i64]; omega
 refine PW.body tO func115 rfl (by kernel_rfl) ntmps115 rfl rfl ?_
 try refine RUN ?_
 (repeat (first | refine EVL.nilB rfl rfl rfl rfl rfl ?_ | refine EVL.fldB tO rfl rfl rfl rfl rfl rfl rfl ?_ | refine EVL.val tO rfl rfl rfl rfl rfl ?_))
 refine EVL.loadOwn tO rfl rfl rfl rfl rfl rfl (0) rfl (side_n) rfl rfl ?_
 (repeat (first | refine EVL.nilB rfl rfl rfl rfl rfl ?_ | refine EVL.fldB tO rfl rfl rfl rfl rfl rfl rfl ?_ | refine EVL.val tO rfl rfl rfl rfl rfl ?_))
 rw [show IntKind.i64.wrap ((n : Int) + 1) = ((n + 1 : Nat) : Int) by rw [IntKind.wrap_i64]; omega]
 refine EVL.storeOwn tO rfl rfl rfl rfl rfl rfl ([]) ([]) rfl rfl rfl rfl ((by rw [hlen]; show 0 + 1 ≤ 19; omega)) (side_n_set) ?_
 try refine RUN ?_
 refine EVL.idxR tO rfl rfl rfl rfl rfl rfl rfl rfl rfl rfl (hv) (r) (rfl) (hrl) ((by rw [List.getElem?_map, hr]; rfl)) ?_
 try refine RUN ?_
 apply EV.drawn 13 (by kernel_rfl) (by kernel_rfl); intro xv yw
 (repeat (first | refine' DV ?_ | refine' DA ?_ | refine' DK0 ?_ | refine' DT ?_ | refine' DS ?_ | (refine' DJ.nilB rfl rfl rfl rfl rfl ?_; rotate_left) | (refine' DJ.fldB tO rfl rfl rfl rfl rfl rfl rfl ?_; rotate_left)))
 refine' DJ.ofVal (ValOk.loadOwn tO rfl rfl rfl rfl (0) rfl (side_sq hc) rfl rfl) rfl rfl rfl ?_; rotate_left
 (repeat (first | refine' DV ?_ | refine' DA ?_ | refine' DK0 ?_ | refine' DT ?_ | refine' DS ?_ | (refine' DJ.nilB rfl rfl rfl rfl rfl ?_; rotate_left) | (refine' DJ.fldB tO rfl rfl rfl rfl rfl rfl rfl ?_; rotate_left)))
 refine' DJ.idxA tO rfl rfl rfl rfl (und_arr) rfl rfl rfl rfl (k) (rfl) (hk) ?_; rotate_left
 refine' DJ.ofVal (ValOk.loadOwn tO rfl rfl rfl rfl (0) rfl (side_at' hm) rfl rfl) rfl rfl rfl ?_; rotate_left
 (repeat (first | refine' DV ?_ | refine' DA ?_ | refine' DK0 ?_ | refine' DT ?_ | refine' DS ?_ | (refine' DJ.nilB rfl rfl rfl rfl rfl ?_; rotate_left) | (refine' DJ.fldB tO rfl rfl rfl rfl rfl rfl rfl ?_; rotate_left)))
 (refine DJ.nil (fun G1 hG1 hF1 => ?_); (case hS => rfl); (case hS2 => rfl))
 rw [w1]
 (repeat (first | refine EVL.nilB rfl rfl rfl rfl rfl ?_ | refine EVL.fldB tO rfl rfl rfl rfl rfl rfl rfl ?_ | refine EVL.val tO rfl rfl rfl rfl rfl ?_))
 refine EVL.storeOwn tO rfl rfl rfl rfl rfl rfl ([]) ([]) rfl rfl rfl rfl ((by rw [sideC_len hc]; show 13 + 1 ≤ 19; omega)) (side_sq_set hc) ?_
 try refine RUN ?_
 apply EV.drawn 10 (by kernel_rfl) (by kernel_rfl); intro xv yw
 (repeat (first | refine' DV ?_ | refine' DA ?_ | refine' DK0 ?_ | refine' DT ?_ | refine' DS ?_ | (refine' DJ.nilB rfl rfl rfl rfl rfl ?_; rotate_left) | (refine' DJ.fldB tO rfl rfl rfl rfl rfl rfl rfl ?_; rotate_left)))
 refine' DJ.idxA tO rfl rfl rfl rfl (und_arr) rfl rfl rfl rfl (k) (rfl) (hk) ?_; rotate_left
 refine' DJ.ofVal (ValOk.loadOwn tO rfl rfl rfl rfl (0) rfl (side_at' hm) rfl rfl) rfl rfl rfl ?_; rotate_left
 (repeat (first | refine' DV ?_ | refine' DA ?_ | refine' DK0 ?_ | refine' DT ?_ | refine' DS ?_ | (refine' DJ.nilB rfl rfl rfl rfl rfl ?_; rotate_left) | (refine' DJ.fldB tO rfl rfl rfl rfl rfl rfl rfl ?_; rotate_left)))
 refine' DJ.idxA tO rfl rfl rfl rfl (und_arr) rfl rfl rfl rfl (k) (rfl) (hk) ?_; rotate_left
 (refine DJ.nil (fun G2 hG2 hF2 => ?_); (case hS => rfl); (case hS2 => rfl))
 rw [w2]
 (repeat (first | refine EVL.nilB rfl rfl rfl rfl rfl ?_ | refine EVL.fldB tO rfl rfl rfl rfl rfl rfl rfl ?_ | refine EVL.val tO rfl rfl rfl rfl rfl ?_))
 refine EVL.storeOwn tO rfl rfl rfl rfl rfl rfl ([]) ([]) rfl rfl rfl rfl ((by rw [sideC_len hc]; show 0 + 1 + k + 1 ≤ 19; omega)) (side_at_set' _ (show k < cs.length by omega)) ?_
 try refine RUN ?_
 exact ⟨rfl, rfl⟩
theorem nat_rat_ne {n : Nat} (h0 : ¬ n = 0) : ((n : Int) : Rat) ≠ 0 := fun h => by
 have := congrArg Rat.num h
 rw [Rat.num_intCast] at this
 have h3 : (0 : Rat).num = 0 := rfl
 omega
theorem rat_div_zero (x : Rat) : x / 0 = 0 := by rw [Rat.div_def, Rat.inv_zero, Rat.mul_zero]
set_option maxHeartbeats 4000000 in
theorem worthC_pw {H : Hp} {b n : Nat} {cs : List Int} (hc : cs.length = 12) {sq : Nat} (hsq : sq ≤ 10000000000000) (hn : n ≤ 1000000) {q : Rat} :
  PW prog 68 #[.pointer (some ⟨b, 0, none⟩), .int .i64 1] H [(b, 116, sideC n cs sq q)] fun v ow _ => v = fracV (((sq : Int) : Rat) / ((n : Int) : Rat)) ∧ ow = [(b, 116, sideC n cs sq q)] := by
 have hof := of_pv (sq : Int) (by omega) (by omega)
 have hof2 := of_pv (n : Int) (by omega) (by omega)
 have hnh : ht ((n : Int) : Rat) ≤ 100 := by
  have := ht_int (n : Int)
  have h2 : bl (n : Int).natAbs ≤ 20 := bl_le (by omega)
  omega
 have hsh : ht ((sq : Int) : Rat) ≤ 100 := by
  have := ht_int (sq : Int)
  have h2 : bl (sq : Int).natAbs ≤ 50 := bl_le (by omega)
  omega
 refine PW.body tO func68 rfl (by kernel_rfl) ntmps68 rfl rfl ?_
 try refine RUN ?_
 (repeat (first | refine EVL.nilB rfl rfl rfl rfl rfl ?_ | refine EVL.fldB tO rfl rfl rfl rfl rfl rfl rfl ?_ | refine EVL.val tO rfl rfl rfl rfl rfl ?_))
 refine EVL.loadOwn tO rfl rfl rfl rfl rfl rfl (0) rfl (side_n) rfl rfl ?_
 try refine RUN ?_
 by_cases h0 : n = 0
 ·subst h0
  rw [show (((0 : Nat) : Int) == 0) = true from rfl]
  try refine RUN ?_
  rw [show (((0 : Nat) : Int) : Rat) = 0 from rfl, rat_div_zero]
  exact ⟨fracV_zero.symm, rfl⟩
 ·have hdiv := div_pv ((sq : Int) : Rat) ((n : Int) : Rat) (sm_of hsh (by omega)) (sm_of hnh (by omega)) (nat_rat_ne h0)
  rw [show ((n : Int) == 0) = false from beq_eq_false_iff_ne.2 (by omega)]
  try refine RUN ?_
  (repeat (first | refine EVL.nilB rfl rfl rfl rfl rfl ?_ | refine EVL.fldB tO rfl rfl rfl rfl rfl rfl rfl ?_ | refine EVL.val tO rfl rfl rfl rfl rfl ?_))
  refine EVL.loadOwn tO rfl rfl rfl rfl rfl rfl (0) rfl (side_sq hc) rfl rfl ?_
  repeat (first | refine RUN ?_ | refine CV (hof) ?_ | refine CE (hof) ?_)
  apply EV.drawn 12 (by kernel_rfl) (by kernel_rfl); intro xv yw
  (repeat (first | refine' DV ?_ | refine' DA ?_ | refine' DK0 ?_ | refine' DT ?_ | refine' DS ?_ | (refine' DJ.nilB rfl rfl rfl rfl rfl ?_; rotate_left) | (refine' DJ.fldB tO rfl rfl rfl rfl rfl rfl rfl ?_; rotate_left)))
  refine' DJ.ofVal (ValOk.loadOwn tO rfl rfl rfl rfl (0) rfl (side_n) rfl rfl) rfl rfl rfl ?_; rotate_left
  (repeat (first | refine' DV ?_ | refine' DA ?_ | refine' DK0 ?_ | refine' DT ?_ | (refine' DC (hof2) (h := ?_); rotate_left) | (refine' DC (hdiv) (h := ?_); rotate_left) | refine' DS ?_))
  (refine DJ.nil (fun G2 hG2 hF2 => ?_); (case hS => rfl); (case hS2 => rfl))
  try refine RUN ?_
  exact ⟨rfl, rfl⟩
end Go.Proofs.YtejljnlfgiifoaaGreatDoor
namespace Go.Proofs.YtejljnlfgiifoaaGreatDoor
def csL (l : List Int) : List Int := (List.range 12).map fun (k : Nat) => (l.count (k : Int) : Int)
def sqL (l : List Int) : Nat := (l.map fun x => l.count x).sum
theorem csL_len (l : List Int) : (csL l).length = 12 := by simp [csL]
theorem csL_at (l : List Int) {k : Nat} (hk : k < 12) : (csL l)[k]? = some (l.count (k : Int) : Int) := by
 unfold csL; rw [List.getElem?_map, List.getElem?_range hk]; rfl
theorem count_snoc (l : List Int) (x y : Int) : (l ++ [x]).count y = l.count y + if x = y then 1 else 0 := by
 rw [List.count_append, List.count_singleton]
 congr 1
 by_cases h : x = y
 ·rw [if_pos h, h]; simp
 ·rw [if_neg h]; simp [h]
theorem csL_snoc (l : List Int) {k : Nat} (hk : k < 12) : csL (l ++ [(k : Int)]) = (csL l).set k ((l.count (k : Int) + 1 : Nat) : Int) := by
 apply List.ext_getElem?
 intro j
 rw [List.getElem?_set]
 by_cases hj : j < 12
 ·rw [csL_at _ hj, csL_at _ hj, count_snoc, csL_len]
  by_cases e : k = j
  ·subst e; rw [if_pos rfl, if_pos rfl, if_pos hk]
  ·rw [if_neg e, if_neg (by omega), Nat.add_zero]
 ·rw [List.getElem?_eq_none (by rw [csL_len]; omega), List.getElem?_eq_none (by rw [csL_len]; omega), if_neg (by omega)]
theorem sum_count (l m : List Int) (x : Int) : (m.map fun y => l.count y + if x = y then 1 else 0).sum = (m.map fun y => l.count y).sum + m.count x := by
 induction m with
 | nil => rfl
 | cons a m ih =>
  rw [List.map_cons, List.sum_cons, List.map_cons, List.sum_cons, ih, List.count_cons]
  by_cases h : x = a
  ·rw [if_pos h, h]; simp; omega
  ·have h2 : ¬ (a == x) = true := by simp; omega
   rw [if_neg h, if_neg h2]; omega
theorem sqL_snoc (l : List Int) (x : Int) : sqL (l ++ [x]) = sqL l + 2 * l.count x + 1 := by
 unfold sqL
 rw [List.map_append, List.sum_append]
 have e : (l.map fun y => (l ++ [x]).count y) = l.map fun y => l.count y + if x = y then 1 else 0 := List.map_congr_left fun y _ => count_snoc l x y
 rw [e, sum_count]
 have : ([x].map fun y => (l ++ [x]).count y).sum = l.count x + 1 := by
  simp
 rw [this]; omega
theorem sum_le (l : List Int) (B : Nat) : ∀ m : List Int, (∀ y, y ∈ m → l.count y ≤ B) → (m.map fun y => l.count y).sum ≤ m.length * B
 | [], _ => by simp
 | a :: m, h => by
  have ih := sum_le l B m (fun y hy => h y (List.mem_cons_of_mem _ hy))
  have := h a (List.mem_cons_self ..)
  rw [List.map_cons, List.sum_cons, List.length_cons, Nat.succ_mul]; omega
theorem sqL_le (l : List Int) : sqL l ≤ l.length * l.length := sum_le l l.length l (fun y _ => List.count_le_length)
def atR (vals : List Rat) (rs : List Int) : List Rat := rs.map fun r => vals.getD r.toNat 0
def atI (ls : List Int) (rs : List Int) : List Int := rs.map fun r => ls.getD r.toNat 0
theorem atR_take (vals : List Rat) {rs : List Int} {i : Nat} {r : Int} {x : Rat} (h : rs[i]? = some r) (hx : vals[r.toNat]? = some x) : (atR vals rs).take (i + 1) = (atR vals rs).take i ++ [x] := by
 have : (atR vals rs)[i]? = some x := by unfold atR; rw [List.getElem?_map, h]; simp [hx]
 obtain ⟨hl, hh⟩ := List.getElem?_eq_some_iff.1 this
 rw [List.take_succ_eq_append_getElem hl, hh]
theorem atI_take (ls : List Int) {rs : List Int} {i : Nat} {r x : Int} (h : rs[i]? = some r) (hx : ls[r.toNat]? = some x) : (atI ls rs).take (i + 1) = (atI ls rs).take i ++ [x] := by
 have : (atI ls rs)[i]? = some x := by unfold atI; rw [List.getElem?_map, h]; simp [hx]
 obtain ⟨hl, hh⟩ := List.getElem?_eq_some_iff.1 this
 rw [List.take_succ_eq_append_getElem hl, hh]
theorem atR_len (vals : List Rat) (rs : List Int) : (atR vals rs).length = rs.length := by simp [atR]
theorem atI_len (ls rs : List Int) : (atI ls rs).length = rs.length := by simp [atI]
theorem atR_mem {vals : List Rat} {rs : List Int} (h : ∀ r, r ∈ rs → 0 ≤ r ∧ r < (vals.length : Int)) : ∀ q, q ∈ atR vals rs → q ∈ vals := fun q hq => by
 obtain ⟨r, hr, rfl⟩ := List.mem_map.1 hq
 have := h r hr
 have hl : r.toNat < vals.length := by omega
 rw [List.getD_eq_getElem?_getD, List.getElem?_eq_getElem hl]
 exact List.getElem_mem hl
def meanL (l : List Rat) : Rat := sumQ l / ((l.length : Int) : Rat)
def devL (m : Rat) (l : List Rat) : List Rat := l.map fun v => (v - m) * (v - m)
theorem devL_snoc (m : Rat) (l : List Rat) (x : Rat) : sumQ (devL m (l ++ [x])) = sumQ (devL m l) + (x - m) * (x - m) := by
 unfold devL; rw [List.map_append, List.map_singleton, sumQ_snoc]
end Go.Proofs.YtejljnlfgiifoaaGreatDoor
namespace Go.Proofs.YtejljnlfgiifoaaGreatDoor
open Go.RowKit _root_.Go.Proofs.Tryz
set_option maxHeartbeats 4000000 in
theorem wholeC_pc {H : Hp} {cl : Int} {va : Option Addr} {vn vc : Nat} {la : Option Addr} {lc : Nat} {ls : List Int} (hv : IL H (.slice la ls.length lc) ls) {ra : Option Addr} {rc : Nat} {rs : List Int} (hr : IL H (.slice ra rs.length rc) rs) (hn : rs.length ≤ 100000)
  (hrs : ∀ r, r ∈ rs → 0 ≤ r ∧ r < (ls.length : Int)) (hls : ∀ z, z ∈ ls → 0 ≤ z ∧ z < 12) :
  PC prog 67 #[goalV 1 cl (.slice la ls.length lc) (.slice va vn vc), .slice ra rs.length rc] H fun r _ => r = .agg (sideC (rs.length : Nat) (csL (atI ls rs)) (sqL (atI ls rs)) 0).toArray := by
 refine BD func67 ntmps67 ?_
 try refine RUN ?_
 (first | refine EVL.unbox (5) rfl fun b => ?_ | refine EV.unbox (5) rfl fun b => ?_)
 rw [side_zero]
 refine EV.loopK (ι := Nat) [2, 4, 5, 8, 9] [2, 4] (fun i => [(10, .v (.int .i64 (i : Int)))]) (fun _ => []) (fun i => [(b, 116, sideC (i : Nat) (csL ((atI ls rs).take i)) (sqL ((atI ls rs).take i)) 0)]) (fun i _ => i ≤ rs.length) (fun i => rs.length - i) (0) rfl rfl ⟨rfl, trivial⟩ trivial rfl (fun _ => rfl) (Nat.zero_le _) ?_
 rintro i G1 hG1 hi
 try refine RUN ?_
 refine EV.cond rfl (fun hlt => ?_) (fun hlt => ?_)
 ·simp only [nN] at hlt
  obtain ⟨r, hri⟩ : ∃ r, rs[i]? = some r := ⟨_, List.getElem?_eq_getElem hlt⟩
  have hb := hrs r (List.mem_of_getElem? hri)
  obtain ⟨R, rfl⟩ := Int.eq_ofNat_of_zero_le hb.1
  obtain ⟨x, hx⟩ : ∃ x, ls[R]? = some x := ⟨_, List.getElem?_eq_getElem (by omega)⟩
  have hxb := hls x (List.mem_of_getElem? hx)
  obtain ⟨k, rfl⟩ := Int.eq_ofNat_of_zero_le hxb.1
  have hk : k < 12 := by omega
  have ht := atI_take ls hri (by rw [Int.toNat_natCast]; exact hx)
  have hlen : ((atI ls rs).take i).length = i := by rw [List.length_take, atI_len]; omega
  have hcnt : ((atI ls rs).take i).count (k : Int) ≤ i := Nat.le_trans List.count_le_length (Nat.le_of_eq hlen)
  have hsq := sqL_le ((atI ls rs).take i)
  rw [hlen] at hsq
  have hsq2 : i * i ≤ 100000 * 100000 := Nat.mul_le_mul (by omega) (by omega)
  have hcs := csL_snoc ((atI ls rs).take i) hk
  have hsn := sqL_snoc ((atI ls rs).take i) (k : Int)
  rw [← ht] at hcs hsn
  try refine RUN ?_
  refine EVL.idxR tO rfl rfl rfl rfl rfl rfl rfl rfl rfl rfl ((hr.mono hG1)) (i) (rfl) (hlt) ((by rw [List.getElem?_map, hri]; rfl)) ?_
  try refine RUN ?_
  refine EVL.callW rfl rfl rfl rfl rfl ([(b, 116, sideC (i : Nat) (csL ((atI ls rs).take i)) (sqL ((atI ls rs).take i)) 0)]) ([]) rfl (addC_pw (n := i) (m := ((atI ls rs).take i).count (k : Int)) (sq := sqL ((atI ls rs).take i)) (hv.mono hG1) (by omega) hx hk (csL_len _) (csL_at _ hk) (by omega) (by omega)) ?_
  rintro v ow G2 ⟨rfl, rfl⟩ hG2
  rw [← hcs, ← hsn]
  try refine RUN ?_
  refine ⟨i + 1, ⟨?_, trivial⟩, (by repeat (first | exact trivial | refine And.intro rfl ?_)), trivial, (by repeat (first | exact trivial | refine And.intro rfl ?_)), rfl, hlt, hG2, by omega⟩
  rw [wi_inc i (by omega)]; rfl
 ·simp only [nN] at hlt
  obtain rfl : i = rs.length := by omega
  rw [show (atI ls rs).take rs.length = atI ls rs by rw [← atI_len ls rs, List.take_length]]
  have hall := side_all (n := (rs.length : Nat)) (cs := csL (atI ls rs)) (sq := sqL (atI ls rs)) (q := 0) (csL_len _)
  try refine RUN ?_
  refine EVL.loadOwn tO rfl rfl rfl rfl rfl rfl (0) rfl (hall) rfl rfl ?_
  try refine RUN ?_
  rfl
theorem lenC_pv {cl : Int} {va : Option Addr} {vn vc : Nat} {la : Option Addr} {ln lc : Nat} : PV prog 61 #[goalV 1 cl (.slice la ln lc) (.slice va vn vc)] (.int .i64 (ln : Int)) := by
 refine PV.of_pc ?_
 refine BD func61 ntmps61 ?_
 try refine RUN ?_
 rfl
theorem lenV_pv {cl : Int} {va : Option Addr} {vn vc : Nat} {la : Option Addr} {ln lc : Nat} : PV prog 61 #[goalV 2 cl (.slice la ln lc) (.slice va vn vc)] (.int .i64 (vn : Int)) := by
 refine PV.of_pc ?_
 refine BD func61 ntmps61 ?_
 try refine RUN ?_
 rfl
theorem checkV_pv {va : Option Addr} {vn vc : Nat} {la : Option Addr} {lc : Nat} (h0 : 1 ≤ vn) (h1 : vn ≤ 300) : PV prog 60 #[goalV 2 0 (.slice la 0 lc) (.slice va vn vc)] (.int .i64 0) := by
 refine PV.of_pc ?_
 have hlen := lenV_pv (cl := 0) (va := va) (vn := vn) (vc := vc) (la := la) (ln := 0) (lc := lc)
 refine BD func60 ntmps60 ?_
 repeat (first | refine RUN ?_ | refine CV (hlen) ?_ | refine CE (hlen) ?_)
 rw [decide_eq_false (show ¬ (vn : Int) < 1 by omega)]
 try refine RUN ?_
 rw [decide_eq_false (show ¬ (vn : Int) > 300 by omega)]
 try refine RUN ?_
 rfl
set_option maxHeartbeats 4000000 in
theorem checkC_pc {H : Hp} {va : Option Addr} {vc : Nat} {la : Option Addr} {lc : Nat} {ls : List Int} (hv : IL H (.slice la ls.length lc) ls) {cl : Int} (hc : 1 ≤ cl ∧ cl ≤ 12) (h0 : 1 ≤ ls.length) (h1 : ls.length ≤ 300) (hls : ∀ z, z ∈ ls → 0 ≤ z ∧ z < cl) : PC prog 60 #[goalV 1 cl (.slice la ls.length lc) (.slice va 0 vc)] H fun r _ => r = .int .i64 0 := by
 have hlen := lenC_pv (cl := cl) (va := va) (vn := 0) (vc := vc) (la := la) (ln := ls.length) (lc := lc)
 refine BD func60 ntmps60 ?_
 repeat (first | refine RUN ?_ | refine CV (hlen) ?_ | refine CE (hlen) ?_)
 rw [decide_eq_false (show ¬ (ls.length : Int) < 1 by omega)]
 try refine RUN ?_
 rw [decide_eq_false (show ¬ (ls.length : Int) > 300 by omega)]
 try refine RUN ?_
 rw [decide_eq_false (show ¬ cl < 1 by omega)]
 try refine RUN ?_
 rw [decide_eq_false (show ¬ cl > 12 by omega)]
 try refine RUN ?_
 refine EV.loopK (ι := Nat) [1, 49, 50] [1] (fun i => [(51, .v (.int .i64 (i : Int)))]) (fun _ => []) (fun _ => []) (fun i _ => i ≤ ls.length) (fun i => ls.length - i) (0) rfl rfl ⟨rfl, trivial⟩ trivial rfl (fun _ => rfl) (Nat.zero_le _) ?_
 rintro i G1 hG1 hi
 try refine RUN ?_
 refine EV.cond rfl (fun hlt => ?_) (fun hlt => ?_)
 ·simp only [nN] at hlt
  obtain ⟨z, hz⟩ : ∃ r, ls[i]? = some r := ⟨_, List.getElem?_eq_getElem hlt⟩
  have hb := hls z (List.mem_of_getElem? hz)
  try refine RUN ?_
  refine EVL.idxR tO rfl rfl rfl rfl rfl rfl rfl rfl rfl rfl ((hv.mono hG1)) (i) (rfl) (hlt) ((by rw [List.getElem?_map, hz]; rfl)) ?_
  try refine RUN ?_
  rw [decide_eq_false (show ¬ z < 0 by omega)]
  try refine RUN ?_
  rw [decide_eq_false (show ¬ z ≥ cl by omega)]
  try refine RUN ?_
  refine ⟨i + 1, ⟨?_, trivial⟩, (by repeat (first | exact trivial | refine And.intro rfl ?_)), trivial, (by repeat (first | exact trivial | refine And.intro rfl ?_)), rfl, hlt, Hp.Le.refl _, by omega⟩
  rw [wi_inc i (by omega)]; rfl
 ·(try refine RUN ?_)
  rfl
abbrev iv : Int → Value := fun z => .int .i64 z
def inR (n : Nat) (r : Int) : Bool := decide (0 ≤ r) && decide (r < (n : Int))
def exL (rs : List Int) (n : Nat) : List Int := rs.filter (inR n)
theorem exL_mem {rs : List Int} {n : Nat} : ∀ r, r ∈ exL rs n → 0 ≤ r ∧ r < (n : Int) := fun r hr => by
 have := (List.mem_filter.1 hr).2
 unfold inR at this
 simpa using this
theorem exL_len (rs : List Int) (n : Nat) : (exL rs n).length ≤ rs.length := List.length_filter_le _ _
theorem exL_all {rs : List Int} {n : Nat} (h : ∀ r, r ∈ rs → 0 ≤ r ∧ r < (n : Int)) : exL rs n = rs := List.filter_eq_self.2 fun r hr => by
 have := h r hr
 unfold inR; simp [this.1, this.2]
theorem ex_take {rs : List Int} {n i : Nat} {r : Int} (h : rs[i]? = some r) : exL (rs.take (i + 1)) n = exL (rs.take i) n ++ if inR n r then [r] else [] := by
 rw [take_snoc h]; unfold exL
 rw [List.filter_append]
 cases hp : inR n r <;> simp [hp]
theorem OwnL.il {w : Value} {l : List Int} {ow : Ows} {T : TypeId} {x : Int} (h : OwnL T 1 w (l.length + 1) (l.map iv ++ [iv x]) ow) : OwnL T 1 w (l ++ [x]).length ((l ++ [x]).map iv) ow := by
 rw [List.length_append, List.map_append]; exact h
set_option maxHeartbeats 4000000 in
theorem existing_pc {H : Hp} {v : Value} {rs : List Int} (hr : IL H v rs) (hn : rs.length ≤ 1000000) (n : Nat) : PC prog 62 #[v, .int .i64 (n : Int)] H fun r H' => IL H' r (exL rs n) := by
 obtain ⟨a, cap, rfl⟩ := SlC.val hr
 refine BD func62 ntmps62 ?_
 try refine RUN ?_
 refine EV.loopK (ι := Nat × Value × Ows) [1, 8, 9] [] (fun q => [(5, .v q.2.1), (10, .v (.int .i64 (q.1 : Int)))]) (fun _ => []) (fun q => q.2.2) (fun q _ => q.1 ≤ rs.length ∧ OwnL 3 1 q.2.1 (exL (rs.take q.1) n).length ((exL (rs.take q.1) n).map iv) q.2.2) (fun q => rs.length - q.1) ((0, .slice none 0 0, [])) rfl rfl ⟨rfl, rfl, trivial⟩ trivial rfl (fun _ => rfl) (⟨Nat.zero_le _, OwnL.nil _ _⟩) ?_
 rintro ⟨i, w, ow⟩ G1 hG1 ⟨hi, hown⟩
 dsimp only at hi hown
 obtain ⟨wa, wc, rfl⟩ := hown.val
 try refine RUN ?_
 refine EV.cond rfl (fun hlt => ?_) (fun hlt => ?_)
 ·simp only [nN] at hlt
  obtain ⟨r, hri⟩ : ∃ r, rs[i]? = some r := ⟨_, List.getElem?_eq_getElem hlt⟩
  have hex := ex_take (n := n) hri
  have hle := exL_len (rs.take i) n
  rw [List.length_take] at hle
  try refine RUN ?_
  refine EVL.idxR tO rfl rfl rfl rfl rfl rfl rfl rfl rfl rfl ((hr.mono hG1)) (i) (rfl) (hlt) ((by rw [List.getElem?_map, hri]; rfl)) ?_
  try refine RUN ?_
  have wn : IntKind.i64.wrap ((i : Int) + 1) = ((i + 1 : Nat) : Int) := wi_inc i (by omega)
  by_cases h1 : r ≥ 0
  ·rw [decide_eq_true h1]
   try refine RUN ?_
   by_cases h2 : r < (n : Int)
   ·have hp : inR n r = true := by unfold inR; simp [h2]; omega
    rw [hp, if_pos rfl] at hex
    rw [decide_eq_true h2]
    try refine RUN ?_
    refine EVL.app1 tO rfl rfl rfl rfl rfl rfl rfl rfl rfl rfl rfl rfl rfl rfl rfl rfl rfl rfl rfl (fun _ => rfl) (ow) ([]) ((List.append_nil _).symm) (hown) (by omega) fun _ => ?_
    intro v' ow' hown'
    try refine RUN ?_
    refine ⟨(i + 1, v', ow'), ⟨rfl, ?_, trivial⟩, (by repeat (first | exact trivial | refine And.intro rfl ?_)), trivial, trivial, List.append_nil _, ⟨hlt, by rw [hex]; exact hown'.il⟩, Hp.Le.refl _, by dsimp only; omega⟩
    rw [wn]; rfl
   ·have hp : inR n r = false := by unfold inR; simp [h2]
    rw [hp, if_neg (by decide), List.append_nil] at hex
    rw [decide_eq_false h2]
    try refine RUN ?_
    refine ⟨(i + 1, _, ow), ⟨rfl, ?_, trivial⟩, (by repeat (first | exact trivial | refine And.intro rfl ?_)), trivial, trivial, rfl, ⟨hlt, by rw [hex]; exact hown⟩, Hp.Le.refl _, by dsimp only; omega⟩
    rw [wn]; rfl
  ·have hp : inR n r = false := by unfold inR; simp; omega
   rw [hp, if_neg (by decide), List.append_nil] at hex
   rw [decide_eq_false h1]
   try refine RUN ?_
   refine ⟨(i + 1, _, ow), ⟨rfl, ?_, trivial⟩, (by repeat (first | exact trivial | refine And.intro rfl ?_)), trivial, trivial, rfl, ⟨hlt, by rw [hex]; exact hown⟩, Hp.Le.refl _, by dsimp only; omega⟩
   rw [wn]; rfl
 ·simp only [nN] at hlt
  obtain rfl : i = rs.length := by omega
  rw [List.take_length] at hown ⊢
  (first | refine EVL.publishL [] ow [] ((List.append_nil _).symm) hown fun G2 hG2 hs => ?_ | refine EV.publishL [] ow [] ((List.append_nil _).symm) hown fun G2 hG2 hs => ?_)
  try refine RUN ?_
  exact hs
set_option maxHeartbeats 4000000 in
theorem values_pc {H : Hp} {v : Value} {rs : List Int} (hr : IL H v rs) (hn : rs.length ≤ 10000) {kd cl : Int} {va : Option Addr} {vc : Nat} {vals : List Rat} {la : Option Addr} {ln lc : Nat} (hv : QL H (.slice va vals.length vc) vals) :
  PC prog 71 #[goalV kd cl (.slice la ln lc) (.slice va vals.length vc), v] H fun r H' => QL H' r (atR vals (exL rs vals.length)) := by
 obtain ⟨a, cap, rfl⟩ := SlC.val hr
 refine BD func71 ntmps71 ?_
 try refine RUN ?_
 refine EVL.call rfl rfl rfl rfl rfl (existing_pc hr (by omega) vals.length) ?_
 intro r1 G0 he hG0
 have hel := exL_len rs vals.length
 have heb := exL_mem (rs := rs) (n := vals.length)
 generalize exL rs vals.length = es at *
 obtain ⟨a1, c1, rfl⟩ := SlC.val he
 try refine RUN ?_
 refine EV.loopK (ι := Nat × Value × Ows) [2, 12, 13] [2] (fun q => [(5, .v q.2.1), (14, .v (.int .i64 (q.1 : Int)))]) (fun _ => []) (fun q => q.2.2) (fun q _ => q.1 ≤ es.length ∧ OwnL 45 5 q.2.1 q.1 (((atR vals es).take q.1).flatMap fun q => vlist (fracV q)) q.2.2) (fun q => es.length - q.1) ((0, .slice none 0 0, [])) rfl rfl ⟨rfl, rfl, trivial⟩ trivial rfl (fun _ => rfl) (⟨Nat.zero_le _, OwnL.nil _ _⟩) ?_
 rintro ⟨i, w, ow⟩ G1 hG1 ⟨hi, hown⟩
 dsimp only at hi hown
 obtain ⟨wa, wc, rfl⟩ := hown.val
 try refine RUN ?_
 refine EV.cond rfl (fun hlt => ?_) (fun hlt => ?_)
 ·simp only [nN] at hlt
  obtain ⟨r, hri⟩ : ∃ r, es[i]? = some r := ⟨_, List.getElem?_eq_getElem hlt⟩
  have hb := heb r (List.mem_of_getElem? hri)
  obtain ⟨R, rfl⟩ := Int.eq_ofNat_of_zero_le hb.1
  obtain ⟨x, hx⟩ : ∃ x, vals[R]? = some x := ⟨_, List.getElem?_eq_getElem (by omega)⟩
  have hRl : R < vals.length := by omega
  have ht := atR_take vals hri (by rw [Int.toNat_natCast]; exact hx)
  have hs : SlC G1 (.slice va vals.length vc) vals.length 5 (vals.flatMap fun q => vlist (fracV q)) := hv.mono (hG0.trans hG1)
  try refine RUN ?_
  refine EVL.idxR tO rfl rfl rfl rfl rfl rfl rfl rfl rfl rfl ((he.mono hG1)) (i) (rfl) (hlt) ((by rw [List.getElem?_map, hri]; rfl)) ?_
  try refine RUN ?_
  refine EVL.idxM tO rfl rfl rfl rfl rfl rfl rfl rfl rfl (hs) (R) (rfl) (hRl) (QL.at (H := H) (v := .bool true) hx) ?_
  try refine RUN ?_
  refine EVL.app1 tO rfl rfl rfl rfl rfl rfl rfl rfl rfl rfl rfl rfl rfl rfl rfl rfl rfl rfl rfl (fun _ => rfl) (ow) ([]) ((List.append_nil _).symm) (hown) (by omega) fun _ => ?_
  intro v' ow' hown'
  try refine RUN ?_
  refine ⟨(i + 1, v', ow'), ⟨rfl, ?_, trivial⟩, (by repeat (first | exact trivial | refine And.intro rfl ?_)), trivial, (by repeat (first | exact trivial | refine And.intro rfl ?_)), List.append_nil _, ⟨hlt, by dsimp only; rw [ht, List.flatMap_append]; exact hown'⟩, Hp.Le.refl _, by dsimp only; omega⟩
  rw [wi_inc i (by omega)]; rfl
 ·simp only [nN] at hlt
  obtain rfl : i = es.length := by omega
  rw [show (atR vals es).take es.length = atR vals es by rw [← atR_len vals es, List.take_length]] at hown
  rw [← atR_len vals es] at hown
  (first | refine EVL.publishL [] ow [] ((List.append_nil _).symm) hown fun G2 hG2 hs => ?_ | refine EV.publishL [] ow [] ((List.append_nil _).symm) hown fun G2 hG2 hs => ?_)
  rw [← atR_len vals es]
  try refine RUN ?_
  exact hs
theorem meanL_nil : meanL [] = 0 := rat_div_zero _
theorem meanL_any {H : Hp} {v : Value} {l : List Rat} (h : QL H v l) (hl : l.length ≤ 10000) (hb : ∀ q, q ∈ l → ht q ≤ 100) : PC prog 73 #[v] H fun r _ => r = .tuple #[fracV (meanL l), .bool (decide (0 < l.length))] := by
 by_cases h0 : l.length = 0
 ·obtain rfl := List.length_eq_zero_iff.1 h0
  rw [meanL_nil]
  exact mean_no h
 ·rw [decide_eq_true (show 0 < l.length by omega)]
  exact mean_pc h (by omega) h0 hb
theorem meanL_ht {l : List Rat} {B : Nat} (hl : l.length ≤ 300) (hb : ∀ q, q ∈ l → ht q ≤ B) : ht (meanL l) ≤ 1 + (B + 1) * 300 + 20 := by
 have b1 := ht_sum B l hb
 have b2 : (B + 1) * l.length ≤ (B + 1) * 300 := Nat.mul_le_mul_left _ hl
 have b3 := ht_len (n := l.length) (by omega)
 have b4 := ht_div (sumQ l) ((l.length : Int) : Rat)
 unfold meanL
 omega
theorem devL_ht {m : Rat} {l : List Rat} {B C : Nat} (hb : ∀ q, q ∈ l → ht q ≤ B) (hm : ht m ≤ C) : ∀ q, q ∈ devL m l → ht q ≤ 2 * (B + C + 1) := fun q hq => by
 obtain ⟨v, hv, rfl⟩ := List.mem_map.1 hq
 have h1 := hb v hv
 have h2 := ht_sub v m
 have h3 := ht_mul (v - m) (v - m)
 omega
theorem devS_ht {m : Rat} {l : List Rat} {B C : Nat} (hl : l.length ≤ 300) (hb : ∀ q, q ∈ l → ht q ≤ B) (hm : ht m ≤ C) : ht (sumQ (devL m l)) ≤ 1 + (2 * (B + C + 1) + 1) * 300 := by
 have h1 := ht_sum _ (devL m l) (devL_ht hb hm)
 have h2 : (2 * (B + C + 1) + 1) * (devL m l).length ≤ (2 * (B + C + 1) + 1) * 300 := Nat.mul_le_mul_left _ (by simpa [devL] using hl)
 omega
set_option maxHeartbeats 4000000 in
theorem meanG_pc {H : Hp} {v : Value} {rs : List Int} (hr : IL H v rs) (hn : rs.length ≤ 300) {va : Option Addr} {vc : Nat} {vals : List Rat} {la : Option Addr} {lc : Nat} (hv : QL H (.slice va vals.length vc) vals) (h0 : 1 ≤ vals.length) (h1 : vals.length ≤ 300) (hb : ∀ q, q ∈ vals → ht q ≤ 100) :
  PC prog 24 #[goalV 2 0 (.slice la 0 lc) (.slice va vals.length vc), v] H fun r _ => r = fracV (meanL (atR vals (exL rs vals.length))) := by
 obtain ⟨a, cap, rfl⟩ := SlC.val hr
 have hchk := checkV_pv (va := va) (vc := vc) (la := la) (lc := lc) h0 h1
 have hel := exL_len rs vals.length
 refine BD func24 ntmps24 ?_
 repeat (first | refine RUN ?_ | refine CV (hchk) ?_ | refine CE (hchk) ?_)
 refine EVL.call rfl rfl rfl rfl rfl (values_pc hr (by omega) hv) ?_
 intro r1 G1 hL hG1
 have hlb := fun q hq => hb q (atR_mem (exL_mem (rs := rs) (n := vals.length)) q hq)
 have hll : (atR vals (exL rs vals.length)).length ≤ 300 := by rw [atR_len]; omega
 generalize atR vals (exL rs vals.length) = L at *
 have hm := meanL_any hL (by omega) hlb
 repeat (first | refine RUN ?_ | refine CV (hm) ?_ | refine CE (hm) ?_)
 by_cases hz : 0 < L.length
 ·rw [decide_eq_true hz]
  try refine RUN ?_
  rfl
 ·rw [decide_eq_false hz]
  try refine RUN ?_
  obtain rfl : L = [] := List.length_eq_zero_iff.1 (by omega)
  rw [meanL_nil]
  exact fracV_zero.symm
set_option maxHeartbeats 8000000 in
theorem costV_pc {H : Hp} {v : Value} {rs : List Int} (hr : IL H v rs) (hn : rs.length ≤ 300) {va : Option Addr} {vc : Nat} {vals : List Rat} {la : Option Addr} {lc : Nat} (hv : QL H (.slice va vals.length vc) vals) (h0 : 1 ≤ vals.length) (h1 : vals.length ≤ 300) (hb : ∀ q, q ∈ vals → ht q ≤ 100) :
  PC prog 22 #[goalV 2 0 (.slice la 0 lc) (.slice va vals.length vc), v] H fun r _ => r = fracV (sumQ (devL (meanL (atR vals (exL rs vals.length))) (atR vals (exL rs vals.length)))) := by
 obtain ⟨a, cap, rfl⟩ := SlC.val hr
 have hchk := checkV_pv (va := va) (vc := vc) (la := la) (lc := lc) h0 h1
 have hel := exL_len rs vals.length
 have hmean := meanG_pc (la := la) (lc := lc) hr hn hv h0 h1 hb
 have hvals := values_pc (kd := 2) (cl := 0) (la := la) (ln := 0) (lc := lc) hr (by omega) hv
 have hlb := fun q hq => hb q (atR_mem (exL_mem (rs := rs) (n := vals.length)) q hq)
 have hll : (atR vals (exL rs vals.length)).length ≤ 300 := by rw [atR_len]; omega
 generalize atR vals (exL rs vals.length) = L at *
 have hmh := meanL_ht hll hlb
 generalize meanL L = m at *
 have hms : sm m := sm_of hmh (by omega)
 refine BD func22 ntmps22 ?_
 repeat (first | refine RUN ?_ | refine CV (hchk) ?_ | refine CV (hmean) ?_ | refine CE (hchk) ?_ | refine CE (hmean) ?_)
 refine EVL.call rfl rfl rfl rfl rfl (hvals) ?_
 intro r1 G1 hL hG1
 obtain ⟨a1, c1, rfl⟩ := SlC.val hL
 have hs : SlC G1 (.slice a1 L.length c1) L.length 5 (L.flatMap fun q => vlist (fracV q)) := hL
 try refine RUN ?_
 refine EV.loopK (ι := Nat) [4, 6, 7, 34, 35] [4, 7] (fun i => [(36, .v (.int .i64 (i : Int)))]) (fun i => [(6, 45, vlist (fracV (sumQ (devL m (L.take i)))))]) (fun _ => []) (fun i _ => i ≤ L.length) (fun i => L.length - i) (0) rfl rfl ⟨rfl, trivial⟩ ⟨by rw [show sumQ (devL m (L.take 0)) = 0 from rfl, frac_zero_cells]; rfl, trivial⟩ rfl (fun _ => rfl) (Nat.zero_le _) ?_
 rintro i G2 hG2 hi
 try refine RUN ?_
 refine EV.cond rfl (fun hlt => ?_) (fun hlt => ?_)
 ·simp only [nN] at hlt
  obtain ⟨x, hx⟩ : ∃ r, L[i]? = some r := ⟨_, List.getElem?_eq_getElem hlt⟩
  have hxb := hlb x (List.mem_of_getElem? hx)
  have hsum := devS_ht (l := L.take i) (by rw [List.length_take]; omega) (fun q hq => hlb q (List.mem_of_mem_take hq)) hmh
  have hd := ht_sub x m
  have hdd := ht_mul (x - m) (x - m)
  have hsub := sub_pv x m (sm_of hxb (by omega)) hms
  have hmul := mul_pv (x - m) (x - m) (sm_of hd (by omega)) (sm_of hd (by omega))
  have hadd := add_pv (sumQ (devL m (L.take i))) ((x - m) * (x - m)) (sm_of hsum (by omega)) (sm_of hdd (by omega))
  rw [← devL_snoc, ← take_snoc hx] at hadd
  try refine RUN ?_
  refine EVL.idxM tO rfl rfl rfl rfl rfl rfl rfl rfl rfl ((hs.mono hG2)) (i) (rfl) (hlt) (QL.at (H := H) (v := .bool true) hx) ?_
  repeat (first | refine RUN ?_ | refine CV (hsub) ?_ | refine CE (hsub) ?_)
  apply EV.drawn 4 (by kernel_rfl) (by kernel_rfl); intro xv yw
  (repeat (first | refine' DV ?_ | refine' DA ?_ | refine' DK0 ?_ | refine' DT ?_ | (refine' DC (hmul) (h := ?_); rotate_left) | refine' DS ?_))
  (refine DJ.nil (fun G3 hG3 hF3 => ?_); (case hS => rfl); (case hS2 => rfl))
  repeat (first | refine RUN ?_ | refine CV (hadd) ?_ | refine CE (hadd) ?_)
  refine ⟨i + 1, ⟨?_, trivial⟩, (by repeat (first | exact trivial | refine And.intro rfl ?_)), ⟨rfl, trivial⟩, (by repeat (first | exact trivial | refine And.intro rfl ?_)), rfl, hlt, hG3, by omega⟩
  rw [wi_inc i (by omega)]; rfl
 ·simp only [nN] at hlt
  obtain rfl : i = L.length := by omega
  rw [List.take_length]
  try refine RUN ?_
  rfl
theorem wholeC_any {H : Hp} {cl : Int} {va : Option Addr} {vn vc : Nat} {la : Option Addr} {lc : Nat} {ls : List Int} (hv : IL H (.slice la ls.length lc) ls) {v : Value} {rs : List Int} (hr : IL H v rs) (hn : rs.length ≤ 100000)
  (hrs : ∀ r, r ∈ rs → 0 ≤ r ∧ r < (ls.length : Int)) (hls : ∀ z, z ∈ ls → 0 ≤ z ∧ z < 12) :
  PC prog 67 #[goalV 1 cl (.slice la ls.length lc) (.slice va vn vc), v] H fun r _ => r = .agg (sideC (rs.length : Nat) (csL (atI ls rs)) (sqL (atI ls rs)) 0).toArray := by
 obtain ⟨a, cap, rfl⟩ := SlC.val hr
 exact wholeC_pc hv hr hn hrs hls
def costL (L : List Int) : Rat := ((L.length : Int) : Rat) - ((sqL L : Int) : Rat) / ((L.length : Int) : Rat)
set_option maxHeartbeats 8000000 in
theorem costC_pc {H : Hp} {v : Value} {rs : List Int} (hr : IL H v rs) (hn : rs.length ≤ 300) {va : Option Addr} {vc : Nat} {la : Option Addr} {lc : Nat} {ls : List Int} (hv : IL H (.slice la ls.length lc) ls) {cl : Int} (hc : 1 ≤ cl ∧ cl ≤ 12) (h0 : 1 ≤ ls.length) (h1 : ls.length ≤ 300) (hls : ∀ z, z ∈ ls → 0 ≤ z ∧ z < cl) :
  PC prog 22 #[goalV 1 cl (.slice la ls.length lc) (.slice va 0 vc), v] H fun r _ => r = fracV (costL (atI ls (exL rs ls.length))) := by
 obtain ⟨a, cap, rfl⟩ := SlC.val hr
 have hchk := checkC_pc (va := va) (vc := vc) hv hc h0 h1 hls
 have hlen := lenC_pv (cl := cl) (va := va) (vn := 0) (vc := vc) (la := la) (ln := ls.length) (lc := lc)
 have hel := exL_len rs ls.length
 have hem := exL_mem (rs := rs) (n := ls.length)
 have hex := fun (G : Hp) (hG : H.Le G) => existing_pc (hr.mono hG) (by omega) ls.length
 generalize exL rs ls.length = E at *
 have hLl : (atI ls E).length = E.length := atI_len ls E
 have hsq := sqL_le (atI ls E)
 rw [hLl] at hsq
 have hsq2 : E.length * E.length ≤ 300 * 300 := Nat.mul_le_mul (by omega) (by omega)
 have hE : costL (atI ls E) = ((E.length : Int) : Rat) - ((sqL (atI ls E) : Int) : Rat) / ((E.length : Int) : Rat) := by unfold costL; rw [hLl]
 have hn2 := ht_int (E.length : Int)
 have hn3 : bl (E.length : Int).natAbs ≤ 20 := bl_le (by omega)
 have hs2 := ht_int (sqL (atI ls E) : Int)
 have hs3 : bl (sqL (atI ls E) : Int).natAbs ≤ 20 := bl_le (by omega)
 have hdv := ht_div ((sqL (atI ls E) : Int) : Rat) ((E.length : Int) : Rat)
 have hof := of_pv (E.length : Int) (by omega) (by omega)
 have hsub := sub_pv ((E.length : Int) : Rat) (((sqL (atI ls E) : Int) : Rat) / ((E.length : Int) : Rat)) (by unfold sm; omega) (by unfold sm; omega)
 rw [hE]
 refine BD func22 ntmps22 ?_
 repeat (first | refine RUN ?_ | refine CV (hchk) ?_ | refine CE (hchk) ?_)
 apply EV.drawn 7 (by kernel_rfl) (by kernel_rfl); intro xv yw
 (repeat (first | refine' DV ?_ | refine' DA ?_ | refine' DK0 ?_ | refine' DT ?_ | (refine' DC (hlen) (h := ?_); rotate_left) | refine' DS ?_))
 refine' DJ.call rfl rfl rfl rfl rfl (cO func62) (fun G hG hd => hex G hG) (fun _ _ _ h k => SlN.mono h k) ?_; rotate_left
 refine' DJ.callS rfl rfl rfl rfl rfl (cO func67) (fun G hG hd => wholeC_any (hv.mono hG) (hd.head (by kernel_rfl)) (by omega) hem (fun z hz => ⟨(hls z hz).1, by have := (hls z hz).2; omega⟩)) ?_; rotate_left
 (repeat (first | refine' DV ?_ | refine' DA ?_ | refine' DK0 ?_ | refine' DT ?_ | refine' DS ?_))
 (refine DJ.nil (fun G1 hG1 hF1 => ?_); (case hS => rfl); (case hS2 => rfl))
 repeat (first | refine RUN ?_ | refine CV (hof) ?_ | refine CE (hof) ?_)
 (first | refine EVL.unbox (5) rfl fun b => ?_ | refine EV.unbox (5) rfl fun b => ?_)
 refine EVL.callW rfl rfl rfl rfl rfl ([(b, 116, sideC (E.length : Nat) (csL (atI ls E)) (sqL (atI ls E)) 0)]) ([]) rfl (worthC_pw (csL_len _) (by omega) (by omega)) ?_
 rintro v ow G2 ⟨rfl, rfl⟩ hG2
 repeat (first | refine RUN ?_ | refine CV (hsub) ?_ | refine CE (hsub) ?_)
 rfl
theorem newBlk {H : Hp} {W W' : World} (hf : Fits H W) (hb : Below W.heap.size W W') {c : Array Value} {T : TypeId} (hT : W'.heap[W.heap.size]? = some (.cells c T (0, 0))) :
  H.Le (H.put W.heap.size c) ∧ Fits (H.put W.heap.size c) W' ∧ Nw H W.heap.size (H.put W.heap.size c) W' := by
 have hn : H W.heap.size = none := by
  cases hc : H W.heap.size with
  | none => rfl
  | some c => have := hf.lt (b := W.heap.size) (by rw [hc]; simp); omega
 refine ⟨fun b c h => ?_, fun b c h => ?_, fun b c h => ?_⟩
 ·have : b ≠ W.heap.size := fun e => by subst e; rw [hn] at h; cases h
  simp only [Hp.put, if_neg this]; exact h
 ·by_cases e : b = W.heap.size
  ·subst e; simp only [Hp.put, if_true] at h; cases h; exact ⟨T, (0, 0), hT⟩
  ·simp only [Hp.put, if_neg e] at h; exact hf.below hb b c h
 ·by_cases e : b = W.heap.size
  ·subst e; simp only [Hp.put, if_true] at h; cases h; exact .inr ⟨Nat.le_refl _, T, hT⟩
  ·simp only [Hp.put, if_neg e] at h; exact .inl h
section
variable {P : Program} {n : Nat} {ops : Array Oper} {o : Oper} {rest : List Oper} {env : Env} {bx : Bxs} {sb : Bxs} {ow : Ows} {H : Hs} {Q : EQ} {τ : Tab} {d : Nat} {s : SV}
theorem ValOk.newSl {R : Hp} {F : Hp → Prop} {m size : Nat} {ys : List Value} (hw : wantB ops env o = some true) (hl : ys.length = m * size)
  (h : ∀ (β : Nat → Nat) (a : Act) (W : World) (G : Hp), R.Le G → Fits G W → (∀ y s, y ∈ o.op.operands → env.op y = some s → s.rep β G (a.eval y)) → F G → ∃ (cap : Nat) (c : Array Value) (e : TypeId) (W1 : World),
   (execOp a.eval o).run P W = .ok (.value (.slice (some ⟨W.heap.size, 0, none⟩) m cap)) W1 ∧ Below W.heap.size W W1 ∧ W1.heap[W.heap.size]? = some (.cells c e (0, 0)) ∧ m ≤ cap ∧ ∀ (q : Nat) (x : Value), ys[q]? = some x → c[q]? = some x) :
  ValOk P ops o env bx ow R F (fun _ v G' => SlC G' v m size ys) := fun β a W G hle hf _ hb _ hs hF => by
 rw [if_pos (hs.want hw)]
 obtain ⟨cap, c, e, W1, hr, hB, hT, hc, hx⟩ := h β a W G hle hf (fun y s hm hy => hs.op hm hy) hF
 obtain ⟨h1, h2, h3⟩ := newBlk hf hB hT
 unfold Oper.wp
 rw [hr, Oper.upon_value]
 exact ⟨_, _, rfl, ⟨hl, .inr ⟨W.heap.size, 0, cap, c, rfl, hc, by simp [Hp.put], fun j x hj => by rw [Nat.zero_add]; exact hx j x hj⟩⟩, h1, h2, hB, h3⟩
variable {tail l : List Oper} {x : Nat → Value} {y : Nat → Ows} {ow' : Ows} {kl ks : List DK} {i : Nat} {bx' : Bxs} {Γ : Fcts}
theorem DJ.lit (hτ : TabOk P τ) {T : TypeId} {len : Nat} {parts : Array (Nat × Operand)} (ho : o.op = .buildSlice T len parts) (hw : wantB ops env o = some true) (hd : o.dst = some d) (hn : Nat.blt d n = true) {te te' : TE} {e : TypeId} (ht : τ.get T = some te) (hk : te.kind = .slice e) (ht' : τ.get e = some te')
  (hsz : Nat.beq te'.zero.length te'.size = true) (hpos : Nat.ble 1 (len * te'.size) = true) (hsm : Nat.ble (len * te'.size) 10000 = true) {cs : List Value} (hc : zerosK te'.zero len (fun zs => litK env te'.size parts.toList zs some) = some cs) (hcl : Nat.beq cs.length (len * te'.size) = true)
  (h : DJ P n ops tail sb bx H Q x y kl (i + 1) l ks ((d, .v (x i)) :: env) bx' ((i, fun G => SlC G (x i) len te'.size cs) :: Γ) ow') : DJ P n ops tail sb bx H Q x y kl i (o :: l) (.call (fun v G => SlC G v len te'.size cs) :: ks) env bx' Γ ow' := by
 have hkd := (hτ.get ht).kind
 rw [hk] at hkd
 have hkd' : P.underlying T = some (.slice e) := hkd
 obtain ⟨zv, hinfo, hzc⟩ := (hτ.get ht').info
 obtain ⟨i0, hi, hz0, hz1, hz2⟩ := info_parts hinfo
 have hl := Nat.eq_of_beq_eq_true hsz
 have hp := Nat.le_of_ble_eq_true hpos
 have hm := Nat.le_of_ble_eq_true hsm
 rw [zerosK_eq] at hc
 obtain ⟨cs', hcs, hfill⟩ := litK_spec _ _ _ _ hc
 cases hcs
 refine DJ.ofCall (ValOk.newSl hw (Nat.eq_of_beq_eq_true hcl) fun β a W G hle hf hs hF => ?_) hd hn (fun _ _ _ h k => SlC.mono h k) h
 have hff := hfill β G a.eval (fun y s' hm hy => hs y s' (by simpa [ho, Op.operands] using hm) hy)
 have hrun := run_buildSlice (P := P) W T e len (parts.map fun (i, x) => (i, a.eval x)) cs.toArray i0 zv hkd' hi hz0 (by rw [hz1]; omega) (by rw [hz1]; omega) (by
  rw [hz1, hzc, made_flat te'.zero te'.size len hl, ← hff]
  congr 1
  simp)
 refine ⟨len, cs.toArray, e, W.alloc (.cells cs.toArray e), ?_, (Below.refl _ _).alloc (Nat.le_refl _) _, (Box.new W cs.toArray e), Nat.le_refl _, fun q x hq => by simpa using hq⟩
 unfold execOp
 simp only [ho, Sem.run_bind, hrun, Result.andThen_ok, Sem.run_pure]
theorem DJ.lit0 (hτ : TabOk P τ) {T : TypeId} (ho : o.op = .buildSlice T 0 #[]) (hw : wantB ops env o = some true) (hd : o.dst = some d) (hn : Nat.blt d n = true) {te te' : TE} {e : TypeId} (ht : τ.get T = some te) (hk : te.kind = .slice e) (ht' : τ.get e = some te')
  (h : DJ P n ops tail sb bx H Q x y kl (i + 1) l ks ((d, .v (x i)) :: env) bx' ((i, fun _ => ∃ g, x i = .slice (some ⟨g, 0, none⟩) 0 0) :: Γ) ow') : DJ P n ops tail sb bx H Q x y kl i (o :: l) (.call (fun v _ => ∃ g, v = .slice (some ⟨g, 0, none⟩) 0 0) :: ks) env bx' Γ ow' := by
 have hkd := (hτ.get ht).kind
 rw [hk] at hkd
 have hkd' : P.underlying T = some (.slice e) := hkd
 refine DJ.ofCall (fun β a W G hle hf _ hb _ hs hF => ?_) hd hn (fun _ _ _ h _ => h) h
 rw [if_pos (hs.want hw)]
 have hx' : (execOp a.eval o).run P W = .ok (.value (.slice (some ⟨W.heap.size, 0, none⟩) 0 0)) (W.alloc (.cells ([] : List Value).toArray e)) := by
  unfold execOp
  have hsz : (sizeOf e).run P W = .ok te'.size W := (hτ.get ht').size W
  simp [ho, Instr.buildSlice, run_underlying hkd', hsz, Instr.fill, newRow, Array.range_zero']
 have hB : Below W.heap.size W (W.alloc (.cells ([] : List Value).toArray e)) := (Below.refl _ _).alloc (Nat.le_refl _) _
 unfold Oper.wp
 rw [hx', Oper.upon_value]
 exact ⟨_, G, rfl, ⟨_, rfl⟩, Hp.Le.refl _, hf.below hB, hB, (Nw.refl _ _ _).below hf hB⟩
theorem DJ.appendE (hτ : TabOk P τ) {T : TypeId} {u w : Operand} (ho : o.op = .call { callee := .builtin .append, args := #[u, w], argTypes := #[T, T] }) (hw : wantB ops env o = some true) (hd : o.dst = some d) (hn : Nat.blt d n = true) {te te' : TE} {e : TypeId} (ht : τ.get T = some te) (hk : te.kind = .slice e) (ht' : τ.get e = some te')
  (hby : Nat.ble te'.bytes 10000 = true) {u0 : Value} (hx : env.op u = some (.v u0)) {w0 : Value} (hy : env.op w = some (.v w0)) {m : Nat} {ys : List Value} (hu : ∀ G, DepF ops i Γ G → ∃ g, u0 = .slice (some ⟨g, 0, none⟩) 0 0) (hsrc : SlC H.ro w0 m te'.size ys) (hm0 : 0 < m) (hm : m ≤ 1000000000)
  (h : DJ P n ops tail sb bx H Q x y kl (i + 1) l ks ((d, .v (x i)) :: env) bx' ((i, fun G => SlC G (x i) m te'.size ys) :: Γ) ow') : DJ P n ops tail sb bx H Q x y kl i (o :: l) (.call (fun v G => SlC G v m te'.size ys) :: ks) env bx' Γ ow' := by
 have hkd := (hτ.get ht).kind
 rw [hk] at hkd
 have hkd' : P.underlying T = some (.slice e) := hkd
 obtain ⟨zv, hinfo, hzc⟩ := (hτ.get ht').info
 obtain ⟨i0, hi, hz0, hz1, hz2⟩ := info_parts hinfo
 have hb := Nat.le_of_ble_eq_true hby
 have hby' : m * te'.bytes ≤ 140737488355328 := by
  have : m * te'.bytes ≤ 1000000000 * 10000 := Nat.mul_le_mul hm hb
  omega
 refine DJ.ofCall (ValOk.newSl hw hsrc.1 fun β a W G hle hf hs hF => ?_) hd hn (fun _ _ _ h k => SlC.mono h k) h
 obtain ⟨g, rfl⟩ := hu G hF
 have ex : a.eval u = _ := hs u _ (by simp [ho, Op.operands, Call.operands]) hx
 have ey : a.eval w = _ := hs w _ (by simp [ho, Op.operands, Call.operands]) hy
 rcases hsrc.2 with ⟨h0, _⟩ | ⟨b, off, cap, c, rfl, hc, hH, hcs⟩
 ·omega
 obtain ⟨T', fz, hW⟩ := hf b c (hle b c hH)
 have hr := run_append_grow (P := P) (w := W) T o.type e i0 zv hkd' hi hz0 ⟨g, 0, none⟩ 0 0 [] (by simp) (fun j v hj => by simp at hj) ⟨b, off, none⟩ m cap ys (by rw [hz1]; exact hsrc.1) (fun j v hj => by rw [Addr.add_mid, cell_of_row W b (off + j) c T' fz hW]; exact hcs j v hj) (by omega) (by omega) (growslice_fits (by omega) (by rw [hz2, Nat.zero_add]; exact hby'))
 have hcap : 0 + m ≤ grownCap W (0 + m) 0 e := by unfold grownCap Question.cut; exact Nat.le_add_right _ _
 rw [Nat.zero_add] at hr hcap
 have hget : ∀ (q : Nat) (x : Value), ys[q]? = some x → (#[] ++ ys.toArray ++ Builtin.zeroCells zv.cells (grownCap W m 0 e - m))[q]? = some x := fun q x hq => by
  have hl := (List.getElem?_eq_some_iff.1 hq).1
  rw [Array.empty_append, Array.getElem?_append_left (by simpa using hl)]
  simpa using hq
 generalize #[] ++ ys.toArray ++ Builtin.zeroCells zv.cells (grownCap W m 0 e - m) = C at hr hget
 refine ⟨_, C, e, W.drew.alloc (.cells C e), ?_, ((Below.refl _ _).drew).alloc (Nat.le_refl _) _, Box.new W.drew C e, hcap, hget⟩
 unfold execOp
 simp only [ho, resolve, invoke, builtin, Sem.run_bind, Sem.run_pure, Result.andThen_ok, List.map_toArray, List.map_cons, List.map_nil, ex, ey, hr]
theorem DJ.append0E (hτ : TabOk P τ) {T : TypeId} {u w : Operand} (ho : o.op = .call { callee := .builtin .append, args := #[u, w], argTypes := #[T, T] }) (hw : wantB ops env o = some true) (hd : o.dst = some d) (hn : Nat.blt d n = true) {te te' : TE} {e : TypeId} (ht : τ.get T = some te) (hk : te.kind = .slice e) (ht' : τ.get e = some te')
  {u0 : Value} (hx : env.op u = some (.v u0)) {w0 : Value} (hy : env.op w = some (.v w0)) (a' : Option Addr) (c' : Nat) (hw0 : w0 = .slice a' 0 c') (hu : ∀ G, DepF ops i Γ G → ∃ g, u0 = .slice (some ⟨g, 0, none⟩) 0 0)
  (h : DJ P n ops tail sb bx H Q x y kl (i + 1) l ks ((d, .v (x i)) :: env) bx' ((i, fun _ => ∃ g, x i = .slice (some ⟨g, 0, none⟩) 0 0) :: Γ) ow') : DJ P n ops tail sb bx H Q x y kl i (o :: l) (.call (fun v _ => ∃ g, v = .slice (some ⟨g, 0, none⟩) 0 0) :: ks) env bx' Γ ow' := by
 have hkd := (hτ.get ht).kind
 rw [hk] at hkd
 have hkd' : P.underlying T = some (.slice e) := hkd
 obtain ⟨zv, hinfo, hzc⟩ := (hτ.get ht').info
 obtain ⟨i0, hi, hz0, hz1, hz2⟩ := info_parts hinfo
 subst hw0
 refine DJ.ofCall (fun β a W G _ hf _ hb _ hs hF => ?_) hd hn (fun _ _ _ h _ => h) h
 rw [if_pos (hs.want hw)]
 obtain ⟨g, rfl⟩ := hu G hF
 have ex : a.eval u = _ := hs.op (by simp [ho, Op.operands, Call.operands]) hx
 have ey : a.eval w = _ := hs.op (by simp [ho, Op.operands, Call.operands]) hy
 have hrn := run_append_nothing (P := P) W T T o.type e i0 hkd' hi (some ⟨g, 0, none⟩) 0 0 (Nat.le_refl _) (.slice a' 0 c') (src_none hkd' _ _ _ _)
 have hr : (execOp a.eval o).run P W = .ok (.value (.slice (some ⟨g, 0, none⟩) 0 0)) W := by
  unfold execOp
  simp only [ho, resolve, invoke, builtin, Sem.run_bind, Sem.run_pure, Result.andThen_ok, List.map_toArray, List.map_cons, List.map_nil, ex, ey, hrn]
 unfold Oper.wp
 rw [hr, Oper.upon_value]
 exact ⟨_, G, rfl, ⟨_, rfl⟩, Hp.Le.refl G, hf, Below.refl _ _, Nw.refl _ _ _⟩
end
theorem RL.nil (H : Hp) (a : Option Addr) (c : Nat) : RL H (.slice a 0 c) [] := (RVs.nil H).rl ⟨rfl, .inl ⟨rfl, _, _, rfl⟩⟩
theorem IL.nil (H : Hp) (a : Option Addr) (c : Nat) : IL H (.slice a 0 c) [] := ⟨rfl, .inl ⟨rfl, _, _, rfl⟩⟩
set_option maxHeartbeats 8000000 in
theorem inGoal_pc {H : Hp} {kd cl : Int} {sl sv : Value} {ls : List Int} {qs : List Rat} (hl : IL H sl ls) (hq : RL H sv qs) (hn : ls.length ≤ 1000000) (hm : qs.length ≤ 1000000) (hb : ∀ q, q ∈ qs → rq q) :
  PC prog 8 #[goalV kd cl sl sv] H fun r H' => ∃ la lc va vc, r = goalV kd cl (.slice la ls.length lc) (.slice va qs.length vc) ∧ IL H' (.slice la ls.length lc) ls ∧ QL H' (.slice va qs.length vc) qs := by
 obtain ⟨a, cap, rfl⟩ := SlC.val hl
 obtain ⟨a2, cap2, rfl⟩ := hq.val
 have hls : SlC H (.slice a ls.length cap) ls.length 1 (ls.map iv) := hl
 by_cases e : ls.length = 0
 ·obtain rfl := List.length_eq_zero_iff.1 e
  show PC prog 8 #[goalV kd cl (.slice a 0 cap) (.slice a2 qs.length cap2)] H _
  refine BD func8 ntmps8 ?_
  try refine RUN ?_
  apply EV.drawn 11 (by kernel_rfl) (by kernel_rfl); intro xv yw
  (repeat (first | refine' DV ?_ | refine' DA ?_ | refine' DK0 ?_ | refine' DT ?_ | refine' DS ?_))
  (refine' DJ.lit0 tO rfl rfl rfl rfl rfl rfl rfl ?_; rotate_left)
  (repeat (first | refine' DV ?_ | refine' DA ?_ | refine' DK0 ?_ | refine' DT ?_ | refine' DS ?_))
  refine' DJ.append0E (u0 := xv 4) tO rfl rfl rfl rfl rfl rfl rfl rfl rfl (a) (cap) rfl (fun G hd => hd.head (by kernel_rfl)) ?_; rotate_left
  (repeat (first | refine' DV ?_ | refine' DA ?_ | refine' DK0 ?_ | refine' DT ?_ | refine' DS ?_))
  refine' DJ.call rfl rfl rfl rfl rfl (cO func43) (fun G hG hd => inRow_pc (hq.mono hG) (by omega) hb) (fun _ _ _ h k => QL.mono h k) ?_; rotate_left
  (refine DJ.nil (fun G1 hG1 hF1 => ?_); (case hS => rfl); (case hS2 => rfl))
  obtain ⟨hR, ⟨g, hg⟩, _⟩ := hF1
  obtain ⟨a3, c3, e3⟩ := SlC.val hR
  rw [e3] at hR
  rw [hg, e3]
  try refine RUN ?_
  exact ⟨_, _, _, _, rfl, IL.nil _ _ _, hR⟩
 ·refine BD func8 ntmps8 ?_
  try refine RUN ?_
  apply EV.drawn 11 (by kernel_rfl) (by kernel_rfl); intro xv yw
  (repeat (first | refine' DV ?_ | refine' DA ?_ | refine' DK0 ?_ | refine' DT ?_ | refine' DS ?_))
  (refine' DJ.lit0 tO rfl rfl rfl rfl rfl rfl rfl ?_; rotate_left)
  (repeat (first | refine' DV ?_ | refine' DA ?_ | refine' DK0 ?_ | refine' DT ?_ | refine' DS ?_))
  refine' DJ.appendE (u0 := xv 4) tO rfl rfl rfl rfl rfl rfl rfl rfl rfl rfl (fun G hd => hd.head (by kernel_rfl)) (hls) (Nat.pos_of_ne_zero e) (by omega) ?_; rotate_left
  (repeat (first | refine' DV ?_ | refine' DA ?_ | refine' DK0 ?_ | refine' DT ?_ | refine' DS ?_))
  refine' DJ.call rfl rfl rfl rfl rfl (cO func43) (fun G hG hd => inRow_pc (hq.mono hG) (by omega) hb) (fun _ _ _ h k => QL.mono h k) ?_; rotate_left
  (refine DJ.nil (fun G1 hG1 hF1 => ?_); (case hS => rfl); (case hS2 => rfl))
  obtain ⟨hR, hA, _⟩ := hF1
  obtain ⟨a3, c3, e3⟩ := SlC.val hR
  obtain ⟨a4, c4, e4⟩ := SlC.val hA
  rw [e3] at hR
  rw [e4] at hA
  rw [e3, e4]
  try refine RUN ?_
  exact ⟨_, _, _, _, rfl, hA, hR⟩
def GoalR (H : Hp) (v : Value) (n : Nat) (qs : List Rat) : Prop :=
 (∃ s, v = goalV 2 0 (.slice none 0 0) s ∧ RL H s qs) ∨ ∃ (cl : Int) (s : Value) (ls : List Int), v = goalV 1 cl s (.slice none 0 0) ∧ 1 ≤ cl ∧ cl ≤ 4 ∧ ls.length = n ∧ (∀ z, z ∈ ls → 0 ≤ z ∧ z < cl) ∧ IL H s ls
theorem wrap_in (z : Int) : -9223372036854775808 ≤ IntKind.i64.wrap z ∧ IntKind.i64.wrap z < 9223372036854775808 := by
 rw [IntKind.wrap_i64]; omega
set_option maxHeartbeats 8000000 in
theorem goal_pc {H : Hp} {v : Value} {l : List Int} (h : IL H v l) (hb : ∀ z, z ∈ l → -9223372036854775808 ≤ z ∧ z < 9223372036854775808) (kd : Int) (n : Nat) (hn : n ≤ 1000) :
  PC prog 9 #[.int .i64 kd, v, .int .i64 (n : Int)] H fun r H' => GoalR H' r n (rowQ l n) := by
 obtain ⟨a, cap, rfl⟩ := SlC.val h
 have hpk : ∀ z c : Int, -9223372036854775808 ≤ z ∧ z < 9223372036854775808 → 1 ≤ c ∧ c ≤ 4 → PV prog 7 #[.int .i64 z, .int .i64 c] (.int .i64 (z % c)) := fun z c hz hc => pick_pv z c hz (by omega) (by omega)
 have hrow := row_pc h hb n (by omega)
 have hwb := wrap_in (kd.tdiv 2)
 have hp4 := hpk _ 4 hwb (by omega)
 refine BD func9 ntmps9 ?_
 try refine RUN ?_
 by_cases hk : kd.tmod 2 = 0
 ·rw [show (kd.tmod 2 == 0) = true from beq_iff_eq.2 hk]
  try refine RUN ?_
  refine EVL.call rfl rfl rfl rfl rfl (hrow) ?_
  intro r G1 hr hG1
  obtain ⟨a3, c3, rfl⟩ := hr.val
  try refine RUN ?_
  exact .inl ⟨_, rfl, hr⟩
 ·rw [show (kd.tmod 2 == 0) = false from beq_eq_false_iff_ne.2 hk]
  try refine RUN ?_
  generalize IntKind.i64.wrap (kd.tdiv 2) = k2 at *
  have hcl : 1 ≤ 1 + k2 % 4 ∧ 1 + k2 % 4 ≤ 4 := by omega
  repeat (first | refine RUN ?_ | refine CV (hp4) ?_ | refine CE (hp4) ?_)
  rw [show IntKind.i64.wrap (1 + k2 % 4) = 1 + k2 % 4 by rw [IntKind.wrap_i64]; omega]
  generalize 1 + k2 % 4 = cl at *
  try refine RUN ?_
  refine EV.loopK (ι := Nat × List Int × Value × Ows) [1, 2, 6, 7] [6] (fun q => [(8, .v (.int .i64 (q.1 : Int)))]) (fun q => [(7, 31, [.int .i64 1, .int .i64 cl, q.2.2.1, .slice none 0 0])]) (fun q => q.2.2.2) (fun q _ => q.1 ≤ n ∧ q.2.1.length = q.1 ∧ (∀ z, z ∈ q.2.1 → 0 ≤ z ∧ z < cl) ∧ OwnL 3 1 q.2.2.1 q.2.1.length (q.2.1.map iv) q.2.2.2) (fun q => n - q.1) ((0, [], .slice none 0 0, [])) rfl rfl ⟨rfl, trivial⟩ ⟨rfl, trivial⟩ rfl (fun _ => rfl) (⟨Nat.zero_le _, rfl, by simp, OwnL.nil _ _⟩) ?_
  rintro ⟨i, ls, w, ow⟩ G1 hG1 ⟨hi, hll, hlb, hown⟩
  dsimp only at hi hll hlb hown
  obtain ⟨wa, wc, rfl⟩ := hown.val
  try refine RUN ?_
  refine EV.cond rfl (fun hlt => ?_) (fun hlt => ?_)
  ·simp only [nN] at hlt
   try refine RUN ?_
   refine EV.meetK (ι := Int) [1, 2, 6, 7, 8] [6, 7] (fun c => [(9, .v (.int .i64 c))]) (fun _ => []) (fun _ => ow) (fun c G => G1.Le G ∧ -9223372036854775808 ≤ c ∧ c < 9223372036854775808) rfl rfl (fun _ => rfl) ?_ ?_
   ·refine EV.cond rfl (fun hc => ?_) (fun hc => ?_)
    ·simp only [nN] at hc
     obtain ⟨z, hz⟩ : ∃ r, l[i]? = some r := ⟨_, List.getElem?_eq_getElem hc⟩
     have hzb := hb z (List.mem_of_getElem? hz)
     try refine RUN ?_
     refine EVL.idxR tO rfl rfl rfl rfl rfl rfl rfl rfl rfl rfl ((h.mono hG1)) (i) (rfl) (hc) ((by rw [List.getElem?_map, hz]; rfl)) ?_
     try refine RUN ?_
     exact ⟨z, ⟨rfl, trivial⟩, (by repeat (first | exact trivial | refine And.intro rfl ?_)), trivial, (by repeat (first | exact trivial | refine And.intro rfl ?_)), rfl, Hp.Le.refl _, hzb.1, hzb.2⟩
    ·(try refine RUN ?_)
     exact ⟨(i : Int), ⟨rfl, trivial⟩, (by repeat (first | exact trivial | refine And.intro rfl ?_)), trivial, (by repeat (first | exact trivial | refine And.intro rfl ?_)), rfl, Hp.Le.refl _, by omega, by omega⟩
   ·rintro c G2 ⟨hG2, hc1, hc2⟩
    have hpc := hpk c cl ⟨hc1, hc2⟩ hcl
    have hcb : 0 ≤ c % cl ∧ c % cl < cl := ⟨Int.emod_nonneg _ (by omega), Int.emod_lt_of_pos _ (by omega)⟩
    generalize c % cl = cc at *
    try refine RUN ?_
    apply EV.drawn 7 (by kernel_rfl) (by kernel_rfl); intro xv yw
    (repeat (first | refine' DV ?_ | refine' DA ?_ | refine' DK0 ?_ | refine' DT ?_ | (refine' DC (hpc) (h := ?_); rotate_left) | refine' DS ?_))
    (refine' DJ.lit tO rfl rfl rfl rfl rfl rfl rfl rfl rfl rfl rfl rfl ?_; rotate_left)
    (refine DJ.nil (fun G3 hG3 hF3 => ?_); (case hS => rfl); (case hS2 => rfl))
    refine EVL.append tO rfl rfl rfl rfl rfl rfl rfl rfl rfl rfl rfl rfl [] ow [] (List.append_nil _).symm hown (SrcAt.ro hF3.1 (by omega)) rfl (by omega) ?_
    intro v1 ow1 hown1
    have hown2 := OwnL.il hown1
    clear hown1
    obtain ⟨va1, vc1, rfl⟩ := hown2.val
    try refine RUN ?_
    refine ⟨(i + 1, ls ++ [cc], _, ow1), ⟨?_, trivial⟩, (by repeat (first | exact trivial | refine And.intro rfl ?_)), ⟨rfl, trivial⟩, (by repeat (first | exact trivial | refine And.intro rfl ?_)), List.append_nil _, ⟨hlt, by rw [List.length_append, hll]; rfl, ?_, hown2⟩, hG2.trans hG3, by dsimp only; omega⟩
    ·rw [wi_inc i (by omega)]; rfl
    ·intro z hz
     rcases List.mem_append.1 hz with hz | hz
     ·exact hlb z hz
     ·obtain rfl := List.mem_singleton.1 hz
      exact hcb
  ·simp only [nN] at hlt
   obtain rfl : i = n := by omega
   (first | refine EVL.publishL [] ow [] ((List.append_nil _).symm) hown fun G2 hG2 hs => ?_ | refine EV.publishL [] ow [] ((List.append_nil _).symm) hown fun G2 hG2 hs => ?_)
   try refine RUN ?_
   exact .inr ⟨cl, _, ls, rfl, hcl.1, hcl.2, hll, hlb, hs⟩
end Go.Proofs.YtejljnlfgiifoaaGreatDoor
namespace Go.Proofs.YtejljnlfgiifoaaGreatDoor
def rowsL (n : Nat) : List Int := (List.range n).map fun (k : Nat) => (k : Int)
theorem rowsL_len (n : Nat) : (rowsL n).length = n := by simp [rowsL]
theorem rowsL_snoc (n : Nat) : rowsL (n + 1) = rowsL n ++ [(n : Int)] := by
 unfold rowsL; rw [List.range_succ, List.map_append]; rfl
theorem rowsL_mem {n : Nat} : ∀ r, r ∈ rowsL n → 0 ≤ r ∧ r < (n : Int) := fun r hr => by
 obtain ⟨k, hk, rfl⟩ := List.mem_map.1 hr
 have := List.mem_range.1 hk
 omega
theorem atR_rows (vals : List Rat) : atR vals (rowsL vals.length) = vals := by
 unfold atR rowsL
 rw [List.map_map]
 apply List.ext_getElem?
 intro i
 rw [List.getElem?_map]
 by_cases h : i < vals.length
 ·rw [List.getElem?_range h]; simp [h]
 ·rw [List.getElem?_eq_none (by simpa using h), List.getElem?_eq_none (by omega)]; rfl
theorem atI_rows (ls : List Int) : atI ls (rowsL ls.length) = ls := by
 unfold atI rowsL
 rw [List.map_map]
 apply List.ext_getElem?
 intro i
 rw [List.getElem?_map]
 by_cases h : i < ls.length
 ·rw [List.getElem?_range h]; simp [h]
 ·rw [List.getElem?_eq_none (by simpa using h), List.getElem?_eq_none (by omega)]; rfl
def neL (x : Int) (l : List Int) : Nat := (l.filter fun y => x != y).length
theorem neL_snoc (x : Int) (l : List Int) (y : Int) : neL x (l ++ [y]) = neL x l + if x != y then 1 else 0 := by
 unfold neL
 rw [List.filter_append, List.length_append]
 cases h : x != y <;> simp [h]
theorem neL_count (x : Int) : ∀ l : List Int, neL x l + l.count x = l.length
 | [] => rfl
 | y :: l => by
  have ih := neL_count x l
  unfold neL at *
  rw [List.count_cons, List.length_cons]
  by_cases h : x = y
  ·subst h; simp; omega
  ·have h2 : ¬ (y == x) = true := by simp; omega
   have h3 : (x != y) = true := by simpa using h
   rw [List.filter_cons, if_pos h3, if_neg h2, List.length_cons]; omega
def unL (l m : List Int) : Nat := (m.map fun x => neL x l).sum
theorem unL_snoc (l m : List Int) (x : Int) : unL l (m ++ [x]) = unL l m + neL x l := by
 unfold unL; rw [List.map_append, List.sum_append]; simp
theorem unL_sq (l : List Int) : ∀ m : List Int, unL l m + (m.map fun x => l.count x).sum = m.length * l.length
 | [] => by simp [unL]
 | x :: m => by
  have ih := unL_sq l m
  have h := neL_count x l
  unfold unL at *
  rw [List.map_cons, List.sum_cons, List.map_cons, List.sum_cons, List.length_cons, Nat.succ_mul]; omega
theorem unL_all (l : List Int) : unL l l + sqL l = l.length * l.length := unL_sq l l
theorem unL_le (l m : List Int) : unL l m ≤ m.length * l.length := by have := unL_sq l m; omega
theorem neL_le (x : Int) (l : List Int) : neL x l ≤ l.length := List.length_filter_le _ _
theorem cost_rat {n u s : Nat} (h : u + s = n * n) (h0 : n ≠ 0) : ((n : Int) : Rat) - ((s : Int) : Rat) / ((n : Int) : Rat) = Rat.divInt u n := by
 have hn : ((n : Int) : Rat) ≠ 0 := fun e => h0 (by
  have := congrArg Rat.num e
  rw [Rat.num_intCast] at this
  have h3 : (0 : Rat).num = 0 := rfl
  omega)
 have e : ((u : Int) : Rat) + ((s : Int) : Rat) = ((n : Int) : Rat) * ((n : Int) : Rat) := by
  rw [← Rat.intCast_add, ← Rat.intCast_mul]
  congr 1
  exact_mod_cast h
 rw [Rat.divInt_eq_div]
 generalize ((n : Int) : Rat) = N at *
 generalize ((s : Int) : Rat) = S at *
 generalize ((u : Int) : Rat) = U at *
 grind
theorem dev_shift (m o : Rat) : ∀ l : List Rat, sumQ (devL o l.reverse) = sumQ (devL m l.reverse) + 2 * (m - o) * (sumQ l.reverse - ((l.length : Int) : Rat) * m) + ((l.length : Int) : Rat) * ((m - o) * (m - o))
 | [] => by
  rw [show sumQ (devL o ([] : List Rat).reverse) = 0 from rfl, show sumQ (devL m ([] : List Rat).reverse) = 0 from rfl, show sumQ ([] : List Rat).reverse = 0 from rfl, show (((([] : List Rat).length : Int)) : Rat) = 0 from rfl]
  grind
 | x :: l => by
  have ih := dev_shift m o l
  have e : (((x :: l).length : Int) : Rat) = ((l.length : Int) : Rat) + 1 := by
   rw [List.length_cons, Int.natCast_add, Rat.intCast_add]; rfl
  rw [List.reverse_cons, devL_snoc, devL_snoc, sumQ_snoc, ih, e]
  generalize sumQ (devL m l.reverse) = A
  generalize sumQ l.reverse = B
  generalize ((l.length : Int) : Rat) = N
  grind
theorem sq_nonneg (a : Rat) : 0 ≤ a * a := by
 rcases (Rat.le_total : 0 ≤ a ∨ a ≤ 0) with h | h
 ·exact Rat.mul_nonneg h h
 ·have : 0 ≤ -a := by grind
  have := Rat.mul_nonneg this this
  grind
theorem dev_least (o : Rat) (l : List Rat) (h0 : l.length ≠ 0) : sumQ (devL (meanL l) l) ≤ sumQ (devL o l) := by
 have h := dev_shift (meanL l) o l.reverse
 rw [List.reverse_reverse, List.length_reverse] at h
 have hn : ((l.length : Int) : Rat) ≠ 0 := fun e => h0 (by
  have := congrArg Rat.num e
  rw [Rat.num_intCast] at this
  have h3 : (0 : Rat).num = 0 := rfl
  omega)
 have hm : ((l.length : Int) : Rat) * meanL l = sumQ l := by
  unfold meanL
  generalize ((l.length : Int) : Rat) = N at *
  generalize sumQ l = S at *
  grind
 have hp : 0 ≤ ((l.length : Int) : Rat) := by
  have : ((0 : Int) : Rat) ≤ ((l.length : Int) : Rat) := Rat.intCast_le_intCast.2 (by omega)
  exact this
 have hs := sq_nonneg (meanL l - o)
 have hq := Rat.mul_nonneg hp hs
 rw [hm] at h
 have : sumQ l - sumQ l = 0 := by grind
 rw [this, Rat.mul_zero, Rat.add_zero] at h
 rw [h]
 grind
end Go.Proofs.YtejljnlfgiifoaaGreatDoor
namespace Go.Proofs.YtejljnlfgiifoaaGreatDoor
open Go.RowKit _root_.Go.Proofs.Tryz
theorem handQ_pv (z : Int) (hz : -9223372036854775808 ≤ z ∧ z < 9223372036854775808) : PV prog 14 #[.int .i64 z] (fracV (rNum z)) := by
 have hr := ht_rNum z
 refine PV.of_pc ?_
 refine BD func14 ntmps14 ?_
 try refine RUN ?_
 refine EVL.call rfl rfl rfl rfl rfl (r_pc z hz) ?_
 rintro r G hR hG
 refine EVL.call rfl rfl rfl rfl rfl (in_pc hR (rq_small hr (by omega))) ?_
 rintro r G2 rfl hG2
 try refine RUN ?_
 rfl
theorem is_pc {H : Hp} (q : Rat) (hq : rq q) (a b : Int) (h1 : -9223372036854775808 ≤ a) (h2 : a < 9223372036854775808) (h3 : -9223372036854775808 ≤ b) (h4 : b < 9223372036854775808) (h0 : b ≠ 0) (he : q = Rat.divInt a b) : PC prog 23 #[fracV q, .int .i64 a, .int .i64 b] H fun r _ => r = .bool true := by
 have hov := fun G : Hp => refOver_pc (H := G) a b h1 h2 h3 h4 h0
 rw [← he] at hov
 refine BD func23 ntmps23 ?_
 try refine RUN ?_
 apply EV.drawn 4 (by kernel_rfl) (by kernel_rfl); intro xv yw
 (repeat (first | refine' DV ?_ | refine' DA ?_ | refine' DK0 ?_ | refine' DT ?_ | refine' DS ?_))
 refine' DJ.call rfl rfl rfl rfl rfl (cO func72) (fun G hG hd => hov G) (fun _ _ _ h k => RQ.mono h k) ?_; rotate_left
 (refine DJ.nil (fun G1 hG1 hF1 => ?_); (case hS => rfl); (case hS2 => rfl))
 have hs := same_self hF1.1 hq
 repeat (first | refine RUN ?_ | refine CV (hs) ?_ | refine CE (hs) ?_)
 rfl
theorem ordR_le {a b : Rat} (h : a ≤ b) : ordR a b ≤ 0 := by
 unfold ordR
 split
 ·omega
 ·split
  ·rename_i k; exact absurd k (Rat.not_lt.2 h)
  ·omega
theorem rowQ_ht {l : List Int} (n : Nat) : ∀ q, q ∈ rowQ l n → ht q ≤ 5 := fun q hq => by
 obtain ⟨i, hi, rfl⟩ := List.mem_map.1 hq
 split
 ·exact ht_rNum _
 ·rw [ht_zero]; omega
set_option maxHeartbeats 16000000 in
theorem costs_pc {H : Hp} {v : Value} {l : List Int} (h : IL H v l) (hb : ∀ z, z ∈ l → -9223372036854775808 ≤ z ∧ z < 9223372036854775808) (kd n0 ot : Int) (hn0 : -9223372036854775808 ≤ n0 ∧ n0 < 9223372036854775808) (hot : -9223372036854775808 ≤ ot ∧ ot < 9223372036854775808) (hkn : PV prog 13 #[] (.bool true)) :
  PC prog 4 #[.int .i64 kd, v, .int .i64 n0, .int .i64 ot] H fun r _ => r = .bool true := by
 obtain ⟨a, cap, rfl⟩ := SlC.val h
 have hpk := pick_pv n0 12 hn0 (by omega) (by omega)
 obtain ⟨N, hN⟩ : ∃ N : Nat, 1 + n0 % 12 = (N : Int) := ⟨(1 + n0 % 12).toNat, by omega⟩
 have hN1 : 1 ≤ N := by omega
 have hN2 : N ≤ 12 := by omega
 have hgoal := goal_pc h hb kd N (by omega)
 have hq5 := rowQ_ht (l := l) N
 have hql := rowQ_len l N
 generalize rowQ l N = qs at *
 have hqr : ∀ q, q ∈ qs → rq q := fun q hq => rq_small (hq5 q hq) (by omega)
 refine BD func4 ntmps4 ?_
 repeat (first | refine RUN ?_ | refine CV (hpk) ?_ | refine CE (hpk) ?_)
 rw [show IntKind.i64.wrap (1 + n0 % 12) = (N : Int) by rw [IntKind.wrap_i64]; omega]
 try refine RUN ?_
 refine EVL.call rfl rfl rfl rfl rfl (hgoal) ?_
 intro r1 G1 hr hG1
 clear hpk hgoal
 rcases hr with ⟨s, rfl, hs⟩ | ⟨cl, s, ls, rfl, hc1, hc2, hll, hlb, hs⟩
 ·obtain ⟨sa, sc, rfl⟩ := hs.val
  have hig := inGoal_pc (kd := 2) (cl := 0) (IL.nil G1 none 0) hs (by decide) (by omega) hqr
  try refine RUN ?_
  refine EVL.call rfl rfl rfl rfl rfl (hig) ?_
  rintro r2 G2 ⟨la, lc, va, vc, rfl, _, hv⟩ hG2
  clear hig hs
  subst hql
  try refine RUN ?_
  refine EV.loopK (ι := Nat × Value × Ows) [2, 3, 9, 10] [9, 10] (fun q => [(11, .v q.2.1), (12, .v (.int .i64 (q.1 : Int)))]) (fun _ => []) (fun q => q.2.2) (fun q _ => q.1 ≤ qs.length ∧ OwnL 3 1 q.2.1 (rowsL q.1).length ((rowsL q.1).map iv) q.2.2) (fun q => qs.length - q.1) ((0, .slice none 0 0, [])) rfl rfl ⟨rfl, rfl, trivial⟩ trivial rfl (fun _ => rfl) (⟨Nat.zero_le _, OwnL.nil _ _⟩) ?_
  rintro ⟨i, w, ow⟩ G3 hG3 ⟨hi, hown⟩
  dsimp only at hi hown
  obtain ⟨wa, wc, rfl⟩ := hown.val
  try refine RUN ?_
  refine EV.cond rfl (fun hlt => ?_) (fun hlt => ?_)
  ·simp only [nN] at hlt
   try refine RUN ?_
   refine EVL.app1 tO rfl rfl rfl rfl rfl rfl rfl rfl rfl rfl rfl rfl rfl rfl rfl rfl rfl rfl rfl (fun _ => rfl) (ow) ([]) ((List.append_nil _).symm) (hown) ((by rw [rowsL_len]; omega)) fun _ => ?_
   intro v' ow' hown'
   try refine RUN ?_
   refine ⟨(i + 1, v', ow'), ⟨rfl, ?_, trivial⟩, (by repeat (first | exact trivial | refine And.intro rfl ?_)), trivial, (by repeat (first | exact trivial | refine And.intro rfl ?_)), List.append_nil _, ⟨hlt, by dsimp only; rw [rowsL_snoc]; exact hown'.il⟩, Hp.Le.refl _, by dsimp only; omega⟩
   rw [wi_inc i (by omega)]; rfl
  ·simp only [nN] at hlt
   obtain rfl : i = qs.length := by omega
   (first | refine EVL.publishL [] ow [] ((List.append_nil _).symm) hown fun G4 hG4 hrw => ?_ | refine EV.publishL [] ow [] ((List.append_nil _).symm) hown fun G4 hG4 hrw => ?_)
   have he : exL (rowsL qs.length) qs.length = rowsL qs.length := exL_all rowsL_mem
   have hrl := rowsL_len qs.length
   have hv4 : QL G4 (.slice va qs.length vc) qs := hv.mono (hG3.trans hG4)
   have q100 : ∀ q, q ∈ qs → ht q ≤ 100 := fun q hq => Nat.le_trans (hq5 q hq) (by omega)
   have hcost := costV_pc (la := la) (lc := lc) hrw (by omega) hv4 (by omega) (by omega) q100
   have hmean := meanG_pc (la := la) (lc := lc) hrw (by omega) hv4 (by omega) (by omega) q100
   rw [he, atR_rows] at hcost hmean
   have hoq := handQ_pv ot hot
   have hmh := meanL_ht (B := 5) (l := qs) (by omega) hq5
   have hoh := ht_rNum ot
   have hms : sm (meanL qs) := sm_of hmh (by omega)
   have hos : sm (rNum ot) := sm_of hoh (by omega)
   have hleast := dev_least (rNum ot) qs (by omega)
   repeat (first | refine RUN ?_ | refine CV (hcost) ?_ | refine CV (hoq) ?_ | refine CV (hmean) ?_ | refine CE (hcost) ?_ | refine CE (hoq) ?_ | refine CE (hmean) ?_)
   generalize meanL qs = m at *
   generalize rNum ot = o at *
   have hsl : SlC G4 (.slice va qs.length vc) qs.length 5 (qs.flatMap fun q => vlist (fracV q)) := hv4
   have hcs : sm (sumQ (devL m qs)) := sm_of (devS_ht (l := qs) (by omega) hq5 hmh) (by omega)
   have hts : sm (sumQ (devL o qs)) := sm_of (devS_ht (l := qs) (by omega) hq5 hoh) (by omega)
   have hcmp1 := cmp_pv (sumQ (devL m qs)) (sumQ (devL m qs)) hcs hcs
   rw [ordR_self] at hcmp1
   have hcmp2 := cmp_pv (sumQ (devL m qs)) (sumQ (devL o qs)) hcs hts
   have hle := ordR_le hleast
   refine EV.loopK (ι := Nat) [2, 10, 13, 17, 18, 19, 20] [10, 13, 17, 18] (fun i => [(21, .v (.int .i64 (i : Int)))]) (fun i => [(19, 45, vlist (fracV (sumQ (devL m (qs.take i))))), (20, 45, vlist (fracV (sumQ (devL o (qs.take i)))))]) (fun _ => []) (fun i _ => i ≤ qs.length) (fun i => qs.length - i) (0) rfl rfl ⟨rfl, trivial⟩ ⟨by rw [show sumQ (devL m (qs.take 0)) = 0 from rfl, frac_zero_cells]; rfl, by rw [show sumQ (devL o (qs.take 0)) = 0 from rfl, frac_zero_cells]; rfl, trivial⟩ rfl (fun _ => rfl) (Nat.zero_le _) ?_
   rintro i G5 hG5 hi
   try refine RUN ?_
   refine EV.cond rfl (fun hlt => ?_) (fun hlt => ?_)
   ·simp only [nN] at hlt
    obtain ⟨x, hx⟩ : ∃ r, qs[i]? = some r := ⟨_, List.getElem?_eq_getElem hlt⟩
    have hxb := hq5 x (List.mem_of_getElem? hx)
    have hsum := devS_ht (l := qs.take i) (by rw [List.length_take]; omega) (fun q hq => hq5 q (List.mem_of_mem_take hq)) hmh
    have hsum2 := devS_ht (l := qs.take i) (by rw [List.length_take]; omega) (fun q hq => hq5 q (List.mem_of_mem_take hq)) hoh
    have hd := ht_sub x m
    have hd2 := ht_sub x o
    have hdd := ht_mul (x - m) (x - m)
    have hdd2 := ht_mul (x - o) (x - o)
    have hsub := sub_pv x m (sm_of hxb (by omega)) hms
    have hsub2 := sub_pv x o (sm_of hxb (by omega)) hos
    have hmul := mul_pv (x - m) (x - m) (sm_of hd (by omega)) (sm_of hd (by omega))
    have hmul2 := mul_pv (x - o) (x - o) (sm_of hd2 (by omega)) (sm_of hd2 (by omega))
    have hadd := add_pv (sumQ (devL m (qs.take i))) ((x - m) * (x - m)) (sm_of hsum (by omega)) (sm_of hdd (by omega))
    rw [← devL_snoc, ← take_snoc hx] at hadd
    have hadd2 := add_pv (sumQ (devL o (qs.take i))) ((x - o) * (x - o)) (sm_of hsum2 (by omega)) (sm_of hdd2 (by omega))
    rw [← devL_snoc, ← take_snoc hx] at hadd2
    have hs5 := hsl.mono hG5
    try refine RUN ?_
    apply EV.drawn 8 (by kernel_rfl) (by kernel_rfl); intro xv yw
    (repeat (first | refine' DV ?_ | refine' DA ?_ | refine' DK0 ?_ | refine' DT ?_ | refine' DS ?_))
    refine' DJ.idxM tO rfl rfl rfl rfl rfl rfl rfl rfl rfl (hs5) (i) (rfl) (hlt) (QL.at (H := H) (v := .bool true) hx) ?_; rotate_left
    (repeat (first | refine' DV ?_ | refine' DA ?_ | refine' DK0 ?_ | refine' DT ?_ | (refine' DC (hsub) (h := ?_); rotate_left) | refine' DS ?_))
    (refine DJ.nil (fun G6 hG6 hF6 => ?_); (case hS => rfl); (case hS2 => rfl))
    have hs6 := hs5.mono hG6
    try refine RUN ?_
    apply EV.drawn 8 (by kernel_rfl) (by kernel_rfl); intro xv yw
    (repeat (first | refine' DV ?_ | refine' DA ?_ | refine' DK0 ?_ | refine' DT ?_ | refine' DS ?_))
    refine' DJ.idxM tO rfl rfl rfl rfl rfl rfl rfl rfl rfl (hs6) (i) (rfl) (hlt) (QL.at (H := H) (v := .bool true) hx) ?_; rotate_left
    (repeat (first | refine' DV ?_ | refine' DA ?_ | refine' DK0 ?_ | refine' DT ?_ | (refine' DC (hsub2) (h := ?_); rotate_left) | refine' DS ?_))
    (refine DJ.nil (fun G7 hG7 hF7 => ?_); (case hS => rfl); (case hS2 => rfl))
    try refine RUN ?_
    apply EV.drawn 4 (by kernel_rfl) (by kernel_rfl); intro xv yw
    (repeat (first | refine' DV ?_ | refine' DA ?_ | refine' DK0 ?_ | refine' DT ?_ | (refine' DC (hmul) (h := ?_); rotate_left) | refine' DS ?_))
    (refine DJ.nil (fun G8 hG8 hF8 => ?_); (case hS => rfl); (case hS2 => rfl))
    repeat (first | refine RUN ?_ | refine CV (hadd) ?_ | refine CE (hadd) ?_)
    apply EV.drawn 4 (by kernel_rfl) (by kernel_rfl); intro xv yw
    (repeat (first | refine' DV ?_ | refine' DA ?_ | refine' DK0 ?_ | refine' DT ?_ | (refine' DC (hmul2) (h := ?_); rotate_left) | refine' DS ?_))
    (refine DJ.nil (fun G9 hG9 hF9 => ?_); (case hS => rfl); (case hS2 => rfl))
    repeat (first | refine RUN ?_ | refine CV (hadd2) ?_ | refine CE (hadd2) ?_)
    refine ⟨i + 1, ⟨?_, trivial⟩, (by repeat (first | exact trivial | refine And.intro rfl ?_)), ⟨rfl, rfl, trivial⟩, (by repeat (first | exact trivial | refine And.intro rfl ?_)), rfl, hlt, hG6.trans (hG7.trans (hG8.trans hG9)), by omega⟩
    rw [wi_inc i (by omega)]; rfl
   ·simp only [nN] at hlt
    obtain rfl : i = qs.length := by omega
    rw [List.take_length]
    repeat (first | refine RUN ?_ | refine CV (hkn) ?_ | refine CV (hcmp1) ?_ | refine CV (hcmp2) ?_ | refine CE (hkn) ?_ | refine CE (hcmp1) ?_ | refine CE (hcmp2) ?_)
    rw [decide_eq_true hle]
    try refine RUN ?_
 ·have hig := inGoal_pc (kd := 1) (cl := cl) hs (RL.nil G1 none 0) (by omega) (by decide) (by intro q hq; cases hq)
  obtain ⟨sa, sc, rfl⟩ := SlC.val hs
  try refine RUN ?_
  refine EVL.call rfl rfl rfl rfl rfl (hig) ?_
  rintro r2 G2 ⟨la, lc, va, vc, rfl, hv, _⟩ hG2
  have hs2 := hs.mono hG2
  clear hig hs
  subst hll
  try refine RUN ?_
  refine EV.loopK (ι := Nat × Value × Ows) [2, 3, 9, 10] [9, 10] (fun q => [(11, .v q.2.1), (12, .v (.int .i64 (q.1 : Int)))]) (fun _ => []) (fun q => q.2.2) (fun q _ => q.1 ≤ ls.length ∧ OwnL 3 1 q.2.1 (rowsL q.1).length ((rowsL q.1).map iv) q.2.2) (fun q => ls.length - q.1) ((0, .slice none 0 0, [])) rfl rfl ⟨rfl, rfl, trivial⟩ trivial rfl (fun _ => rfl) (⟨Nat.zero_le _, OwnL.nil _ _⟩) ?_
  rintro ⟨i, w, ow⟩ G3 hG3 ⟨hi, hown⟩
  dsimp only at hi hown
  obtain ⟨wa, wc, rfl⟩ := hown.val
  try refine RUN ?_
  refine EV.cond rfl (fun hlt => ?_) (fun hlt => ?_)
  ·simp only [nN] at hlt
   try refine RUN ?_
   refine EVL.app1 tO rfl rfl rfl rfl rfl rfl rfl rfl rfl rfl rfl rfl rfl rfl rfl rfl rfl rfl rfl (fun _ => rfl) (ow) ([]) ((List.append_nil _).symm) (hown) ((by rw [rowsL_len]; omega)) fun _ => ?_
   intro v' ow' hown'
   try refine RUN ?_
   refine ⟨(i + 1, v', ow'), ⟨rfl, ?_, trivial⟩, (by repeat (first | exact trivial | refine And.intro rfl ?_)), trivial, (by repeat (first | exact trivial | refine And.intro rfl ?_)), List.append_nil _, ⟨hlt, by dsimp only; rw [rowsL_snoc]; exact hown'.il⟩, Hp.Le.refl _, by dsimp only; omega⟩
   rw [wi_inc i (by omega)]; rfl
  ·simp only [nN] at hlt
   obtain rfl : i = ls.length := by omega
   (first | refine EVL.publishL [] ow [] ((List.append_nil _).symm) hown fun G4 hG4 hrw => ?_ | refine EV.publishL [] ow [] ((List.append_nil _).symm) hown fun G4 hG4 hrw => ?_)
   have he : exL (rowsL ls.length) ls.length = rowsL ls.length := exL_all rowsL_mem
   have hrl := rowsL_len ls.length
   have hcost := costC_pc (va := va) (vc := vc) hrw (by omega) (hv.mono (hG3.trans hG4)) ⟨hc1, by omega⟩ (by omega) (by omega) hlb
   rw [he, atI_rows] at hcost
   have hs4 := hs2.mono (hG3.trans hG4)
   have hua := unL_all ls
   have huN : ls.length * ls.length ≤ 12 * 12 := Nat.mul_le_mul hN2 hN2
   have hdiv : costL ls = Rat.divInt (unL ls ls : Nat) (ls.length : Nat) := cost_rat hua (by omega)
   have hrq : rq (costL ls) := by
    have h1 := ht_divInt (unL ls ls : Nat) (ls.length : Nat) (by omega)
    have h2 : bl ((unL ls ls : Nat) : Int).natAbs ≤ 10 := bl_le (by omega)
    have h3 : bl ((ls.length : Nat) : Int).natAbs ≤ 10 := bl_le (by omega)
    rw [← hdiv] at h1
    exact rq_small (k := 10) (Nat.le_trans h1 (Nat.max_le.2 ⟨h2, h3⟩)) (by omega)
   have his := fun G : Hp => is_pc (H := G) (costL ls) hrq ((unL ls ls : Nat) : Int) ((ls.length : Nat) : Int) (by omega) (by omega) (by omega) (by omega) (by omega) hdiv
   repeat (first | refine RUN ?_ | refine CV (hcost) ?_ | refine CE (hcost) ?_)
   generalize costL ls = C at *
   refine EV.loopK (ι := Nat) [2, 9, 13] [9, 13] (fun i => [(14, .v (.int .i64 (unL ls (ls.take i) : Nat))), (15, .v (.int .i64 (i : Int)))]) (fun _ => []) (fun _ => []) (fun i _ => i ≤ ls.length) (fun i => ls.length - i) (0) rfl rfl ⟨rfl, rfl, trivial⟩ trivial rfl (fun _ => rfl) (Nat.zero_le _) ?_
   rintro i G5 hG5 hi
   have hu1 := unL_le ls (ls.take i)
   try refine RUN ?_
   refine EV.cond rfl (fun hlt => ?_) (fun hlt => ?_)
   ·simp only [nN] at hlt
    obtain ⟨x, hx⟩ : ∃ r, ls[i]? = some r := ⟨_, List.getElem?_eq_getElem hlt⟩
    have hus := unL_snoc ls (ls.take i) x
    rw [← take_snoc hx] at hus
    have hul : unL ls (ls.take i) ≤ 144 := by
     rw [List.length_take, Nat.min_eq_left hi] at hu1
     exact Nat.le_trans hu1 (Nat.le_trans (Nat.mul_le_mul hi (Nat.le_refl _)) huN)
    generalize unL ls (ls.take i) = U at *
    try refine RUN ?_
    refine EV.loopK (ι := Nat) [2, 9, 13, 15] [9, 13] (fun k => [(14, .v (.int .i64 ((U + neL x (ls.take k) : Nat) : Int))), (16, .v (.int .i64 (k : Int)))]) (fun _ => []) (fun _ => []) (fun k _ => k ≤ ls.length) (fun k => ls.length - k) (0) rfl rfl ⟨rfl, rfl, trivial⟩ trivial rfl (fun _ => rfl) (Nat.zero_le _) ?_
    rintro k G6 hG6 hk
    have hs6 := hs4.mono (hG5.trans hG6)
    try refine RUN ?_
    refine EV.cond rfl (fun hkt => ?_) (fun hkt => ?_)
    ·simp only [nN] at hkt
     obtain ⟨y, hy⟩ : ∃ r, ls[k]? = some r := ⟨_, List.getElem?_eq_getElem hkt⟩
     have hns := neL_snoc x (ls.take k) y
     rw [← take_snoc hy] at hns
     have hnl := neL_le x (ls.take k)
     rw [List.length_take] at hnl
     try refine RUN ?_
     apply EV.drawn 11 (by kernel_rfl) (by kernel_rfl); intro xv yw
     (repeat (first | refine' DV ?_ | refine' DA ?_ | refine' DK0 ?_ | refine' DT ?_ | refine' DS ?_))
     refine' DJ.ofVal (ValOk.idx1 tO rfl rfl rfl rfl rfl rfl rfl rfl (hs6) (i) (rfl) (hlt) ((by rw [List.getElem?_map, hx]; rfl))) rfl rfl rfl ?_; rotate_left
     (repeat (first | refine' DV ?_ | refine' DA ?_ | refine' DK0 ?_ | refine' DT ?_ | refine' DS ?_))
     refine' DJ.ofVal (ValOk.idx1 tO rfl rfl rfl rfl rfl rfl rfl rfl (hs6) (k) (rfl) (hkt) ((by rw [List.getElem?_map, hy]; rfl))) rfl rfl rfl ?_; rotate_left
     (repeat (first | refine' DV ?_ | refine' DA ?_ | refine' DK0 ?_ | refine' DT ?_ | refine' DS ?_))
     (refine DJ.nil (fun G7 hG7 hF7 => ?_); (case hS => rfl); (case hS2 => rfl))
     try refine RUN ?_
     cases hxy : x != y with
     | true =>
      rw [hxy, if_pos rfl] at hns
      have hw : IntKind.i64.wrap (((U + neL x (ls.take k) : Nat) : Int) + 1) = ((U + neL x (ls.take (k + 1)) : Nat) : Int) := by
       rw [hns, IntKind.wrap_i64]; omega
      try refine RUN ?_
      rw [hw]
      try refine RUN ?_
      refine ⟨k + 1, ⟨rfl, ?_, trivial⟩, (by repeat (first | exact trivial | refine And.intro rfl ?_)), trivial, (by repeat (first | exact trivial | refine And.intro rfl ?_)), rfl, hkt, hG7, by omega⟩
      rw [wi_inc k (by omega)]; rfl
     | false =>
      rw [hxy, if_neg (by decide), Nat.add_zero] at hns
      try refine RUN ?_
      refine ⟨k + 1, ⟨?_, ?_, trivial⟩, (by repeat (first | exact trivial | refine And.intro rfl ?_)), trivial, (by repeat (first | exact trivial | refine And.intro rfl ?_)), rfl, hkt, hG7, by omega⟩
      ·rw [hns]; rfl
      ·rw [wi_inc k (by omega)]; rfl
    ·simp only [nN] at hkt
     obtain rfl : k = ls.length := by omega
     rw [List.take_length]
     try refine RUN ?_
     refine ⟨i + 1, ⟨?_, ?_, trivial⟩, (by repeat (first | exact trivial | refine And.intro rfl ?_)), trivial, (by repeat (first | exact trivial | refine And.intro rfl ?_)), rfl, hlt, hG6, by omega⟩
     ·rw [hus]; rfl
     ·rw [wi_inc i (by omega)]; rfl
   ·simp only [nN] at hlt
    obtain rfl : i = ls.length := by omega
    rw [List.take_length]
    repeat (first | refine RUN ?_ | refine CV (hkn) ?_ | refine CV (his _) ?_ | refine CE (hkn) ?_ | refine CE (his _) ?_)
    rfl
end Go.Proofs.YtejljnlfgiifoaaGreatDoor
namespace Go.Proofs.YtejljnlfgiifoaaGreatDoor
open Go Go.RowKit
theorem laid_gH {P : Program} {l : List (String × DataW Unit)} {W : World} (h : laidMet P l W) {n : String} {zs : List Nat} {g : Nat} {T e : TypeId} (hmem : (n, .agg (zs.map fun (z : Nat) => .lit (.int .u8 z))) ∈ l) (hg : P.globalNamed n = some g) (ht : (P.globals[g]?).map (·.type) = some T)
  (hT : P.underlying T = some (.array zs.length e)) (he : P.underlying e = some (.int .u8)) (hc : P.cellsOf e = 1) (hcT : P.cellsOf T = zs.length) :
  ∃ U fz, W.heap[g]? = some (.cells (zs.map fun (z : Nat) => Value.int .u8 (z : Int)).toArray U fz) := by
 obtain ⟨ps, hl, _⟩ := h
 obtain ⟨p0, g', t, cs, fuel, p, q, hg', ht', hv, hd, _, _⟩ := VM.laid_find hl hmem
 obtain rfl := Option.some.inj (hg.symm.trans hg')
 obtain rfl := Option.some.inj (ht.symm.trans ht')
 obtain ⟨xs, m, _, ex, hcl, hlen, hel⟩ := DataW.trod_array hT hd
 have hb : ∃ U fz, W.heap[g]? = some (.cells cs U fz) := by
  simp only [World.var?, hg, Option.bind_some] at hv
  split at hv
  ·rename_i c U fz hc'; cases hv; exact ⟨U, fz, hc'⟩
  ·cases hv
 obtain ⟨U, fz, hb⟩ := hb
 refine ⟨U, fz, ?_⟩
 rw [hb]
 congr 2
 apply Array.ext'
 rw [hcT] at hcl
 have e3 : (xs.map (·.1)) = zs.map fun (n : Nat) => .lit (.int .u8 n) := (DataW.agg.inj (Prod.mk.inj ex).1).symm
 apply List.ext_getElem?
 intro r
 rcases Nat.lt_or_ge r zs.length with hr | hr
 ·have hE := hel r hr
  rw [hc, Nat.mul_one, List.getElem?_eq_getElem (by omega)] at hE
  obtain ⟨z, e1, e2, _⟩ := DataW.trod_int he hE
  have e4 : (xs.map (·.1))[r]? = (zs.map fun (n : Nat) => (DataW.lit (.int .u8 n) : DataW Unit))[r]? := by rw [e3]
  rw [List.getElem?_map, List.getElem?_map, List.getElem?_eq_getElem (by omega : r < xs.length), List.getElem?_eq_getElem hr, e2] at e4
  simp only [Option.map_some, Option.some.injEq, DataW.lit.injEq, Lit.int.injEq, true_and] at e4
  have h0 : ((cs.toList.drop r).take 1)[0]? = some (.int .u8 z) := by rw [e1]; rfl
  simp only [List.getElem?_take, List.getElem?_drop, Nat.add_zero] at h0
  rw [if_pos (by omega)] at h0
  rw [h0, e4]
  simp [hr]
 ·rw [List.getElem?_eq_none (by omega), List.getElem?_eq_none (by simpa using hr)]
theorem fits_gH {l : List (String × DataW Unit)} {W : World} (h : laidMet Tryz.prog l W) (hmem : ("math/bits.deBruijn64tab", .agg (Lib.deBruijn64tab.map fun (z : Nat) => .lit (.int .u8 z))) ∈ l) : Fits gH W := fun b c hb => by
 unfold gH at hb
 split at hb
 ·rename_i hbb
  cases hb
  obtain rfl := Nat.eq_of_beq_eq_true hbb
  exact laid_gH h hmem (by kernel_rfl) (by kernel_rfl) Tryz.underlying235 Tryz.underlying5 (by kernel_rfl) (by kernel_rfl)
 ·cases hb
theorem gl_of_fits {W : World} (h : Fits gH W) : ∀ g cs, VM.ctx.gl g = some cs → ∃ c U fz, W.heap[g]? = some (.cells c U fz) ∧ VM.VL (fun _ => none) cs (c.toList.take cs.length) := fun g cs hg => by
 have hm := VM.assoc_mem hg
 unfold VM.glL at hm
 simp only [List.mem_cons, List.mem_nil_iff, or_false, Prod.mk.injEq] at hm
 obtain ⟨rfl, rfl⟩ := hm
 obtain ⟨U, fz, hW⟩ := h 2 (Lib.deBruijn64tab.map fun (z : Nat) => Value.int .u8 (z : Int)).toArray rfl
 refine ⟨_, U, fz, hW, ?_, fun j x y hx hy => ?_⟩
 ·rfl
 ·have hx' : (Lib.deBruijn64tab.map fun (z : Nat) => VM.AV.int .u8 (.ofNat z))[j]? = some x := hx
  have hy' : (Lib.deBruijn64tab.map fun (z : Nat) => Value.int .u8 (z : Int))[j]? = some y := by
   rw [List.getElem?_take] at hy
   split at hy
   ·exact hy
   ·cases hy
  rw [List.getElem?_map] at hx' hy'
  obtain ⟨z, e1, rfl⟩ := Option.map_eq_some_iff.1 hx'
  rw [e1] at hy'
  cases hy'
  exact .int _ _
theorem known_pv : PV Tryz.prog 13 #[] (.bool true) := ⟨(cO Tryz.func13), fun W hW => (VM.walk13 W (gl_of_fits hW)).mono fun e W' ⟨he, hb⟩ => ⟨he, hb⟩⟩
end Go.Proofs.YtejljnlfgiifoaaGreatDoor
namespace Go.Proofs.YtejljnlfgiifoaaGreatDoor
open Go.ChangeShapes Go.WideShapes Go.ChangeAt Go.RowKit
def hpOf (W : World) : Hp := fun b => match W.heap[b]? with
 | some (.cells c _ _) => some c
 | _ => none
theorem fits_hpOf (W : World) : Fits (hpOf W) W := fun b c h => by
 unfold hpOf at h
 split at h
 ·rename_i c' T fz hb; cases h; exact ⟨T, fz, hb⟩
 ·cases h
section
variable {H : Type} {enc : TypeId × Value → H} {P : Program} {w : World} {base : Nat} {spare : Nat → Bool} {held : Bool}
theorem ints_open {t e : TypeId} {k : IntKind} {fuel : Nat} {cs : List Value} {x : DataW H × List MemPlace} (ht : P.underlying t = some (.slice e)) (he : P.underlying e = some (.int k)) (hc : P.cellsOf e = 1) (h : DataW.trod enc P w base spare held fuel t cs = some x) :
  ∃ a len cap zs, cs = [.slice a len cap] ∧ SlN (fun z : Int => Value.int k z) (hpOf w) (.slice a len cap) zs ∧ ∀ n ∈ zs, (Lit.int k n).wf = true := by
 rcases open_ints ht he hc h with ⟨rfl, _⟩ | ⟨x, len, cap, zs, rfl, _, hl, hm, hz, _, hcell, hw⟩
 ·exact ⟨none, 0, 0, [], rfl, nil_sl _ _, fun n hn => by cases hn⟩
 ·have hzl : len ≤ zs.length := by rw [hz]; split <;> omega
  refine ⟨some x, len, cap, zs.take len, rfl, ?_, fun n hn => hw n (List.mem_of_mem_take hn)⟩
  have hlen : (zs.take len).length = len := by rw [List.length_take]; omega
  unfold SlN
  rw [hlen]
  refine ⟨by rw [List.length_map, hlen, Nat.mul_one], ?_⟩
  by_cases h0 : len = 0
  ·subst h0; exact .inl ⟨rfl, some x, cap, rfl⟩
  ·right
   have h1 := hcell 0 (by omega)
   obtain ⟨b, off, sp⟩ := x
   have hsp : sp = none := by
    cases sp with
    | none => rfl
    | some s => simp only [World.cell?, Addr.add] at h1; split at h1 <;> simp_all
   subst hsp
   have hb : ∃ c, hpOf w b = some c ∧ ∀ i, i < zs.length → c[off + i]? = some (.int k (zs.getD i 0)) := by
    simp only [Addr.add_mid] at hcell
    unfold World.cell? at hcell
    unfold hpOf
    simp only at hcell
    cases hw' : w.heap[b]? with
    | none => have := hcell 0 (by omega); rw [hw'] at this; cases this
    | some o =>
     cases o with
     | cells c T fz => exact ⟨c, rfl, fun i hi => by have := hcell i hi; rw [hw'] at this; simpa using this⟩
     | _ => have := hcell 0 (by omega); rw [hw'] at this; cases this
   obtain ⟨c, hc1, hc2⟩ := hb
   refine ⟨b, off, cap, c, rfl, hl, hc1, fun j y hj => ?_⟩
   rw [List.getElem?_map, List.getElem?_take] at hj
   split at hj
   ·rename_i hjl
    rw [hc2 j (by omega), ← hj, List.getD_eq_getElem?_getD, List.getElem?_eq_getElem (by omega)]; rfl
   ·cases hj
end
theorem i64_bounds {z : Int} (h : (Lit.int .i64 z).wf = true) : -9223372036854775808 ≤ z ∧ z < 9223372036854775808 := by
 have := bounds_i64 h; omega
end Go.Proofs.YtejljnlfgiifoaaGreatDoor
