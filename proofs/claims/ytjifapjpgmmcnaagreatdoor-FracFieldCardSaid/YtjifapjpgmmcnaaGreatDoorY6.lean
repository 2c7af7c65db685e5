/- Texts of ours in one: Fr2, Fr3, Ha1, Ev15, Ha2, Lw1, Fr4, Lw2, Str1, Lw3, LaidE, Kn, Opn. -/
import Derived.Test.YtjifapjpgmmcnaaGreatDoorY2
import Derived.Test.YtjifapjpgmmcnaaGreatDoorY3
import Derived.Test.YtjifapjpgmmcnaaGreatDoorY4
import Derived.Test.YtjifapjpgmmcnaaGreatDoorY5
import Derived.WalkKit
import Derived.ProofKit
import Derived.OpenShut
set_option linter.unusedVariables false
set_option linter.unusedSimpArgs false

namespace Go.Proofs.YtjifapjpgmmcnaaGreatDoor
open Go.RowKit
theorem add_pv (a b : Rat) (ha : sm a) (hb : sm b) : PV Tryz.prog 32 #[fracV a, fracV b] (fracV (a + b)) := by
 have na := ha.num; have da := ha.den; have nb := hb.num; have db := hb.den
 have bna : bigI a.num := Nat.le_trans na (by omega)
 have bnb : bigI b.num := Nat.le_trans nb (by omega)
 have bda : big a.den := Nat.le_trans da (by omega)
 have bdb : big b.den := Nat.le_trans db (by omega)
 have hm := rat_add a b _ _ _ _ _ rfl rfl rfl rfl rfl
 generalize hg : Nat.gcd a.den b.den = g at hm
 have hg0 : g ≠ 0 := by rw [← hg]; exact Nat.gcd_ne_zero_right b.den_nz
 have bgl : bl g ≤ 100000000 := by rw [← hg]; exact Nat.le_trans (bl_gcd_right _ _ b.den_nz) db
 have bg : big g := Nat.le_trans bgl (by omega)
 have g1 := gcd_pv (a.den : Int) (b.den : Int) bda bdb
 rw [Int.natAbs_natCast, Int.natAbs_natCast, hg] at g1
 have o1 := over_pv a.den g bda bg hg0
 have o2 := over_pv b.den g bdb bg hg0
 have b1 : bl (a.den / g) ≤ 100000000 := Nat.le_trans (bl_div _ _) da
 have b2 : bl (b.den / g) ≤ 100000000 := Nat.le_trans (bl_div _ _) db
 have hone : a.den = 1 ∧ b.den = 1 → g = 1 ∧ a.den / g = 1 ∧ b.den / g = 1 := fun h => by
  have : g = 1 := by rw [← hg, h.1, h.2]; rfl
  rw [this, h.1, h.2]; exact ⟨rfl, rfl, rfl⟩
 generalize hdown : a.den / g = down at *
 generalize hother : b.den / g = other at *
 have c1 := bl_mul a.num.natAbs other
 have c2 := bl_mul b.num.natAbs down
 have t1 := times_pv a.num other bna (Nat.le_trans b2 (by omega)) (by show bl _ ≤ _; omega)
 have t2 := times_pv b.num down bnb (Nat.le_trans b1 (by omega)) (by show bl _ ≤ _; omega)
 have c1' : bl (a.num * (other : Int)).natAbs ≤ 200000000 := by rw [Int.natAbs_mul]; simp; omega
 have c2' : bl (b.num * (down : Int)).natAbs ≤ 200000000 := by rw [Int.natAbs_mul]; simp; omega
 have c3 := bl_add (a.num * (other : Int)).natAbs (b.num * (down : Int)).natAbs
 have ad := wholeAdd_pv (a.num * (other : Int)) (b.num * (down : Int)) (Nat.le_trans c1' (by omega)) (Nat.le_trans c2' (by omega)) (by show bl _ ≤ _; omega)
 have bup : bl (a.num * (other : Int) + b.num * (down : Int)).natAbs ≤ 200000001 := by
  have := bl_natAbs_add (a.num * (other : Int)) (b.num * (down : Int)); omega
 generalize hup : a.num * (other : Int) + b.num * (down : Int) = up at *
 generalize hh : Nat.gcd up.natAbs g = h at hm
 have hh0 : h ≠ 0 := by rw [← hh]; exact Nat.gcd_ne_zero_right hg0
 have bh : big h := by rw [← hh]; exact Nat.le_trans (bl_gcd_right _ _ hg0) bg
 have g2 := gcd_pv up (g : Int) (Nat.le_trans bup (by omega)) bg
 rw [Int.natAbs_natCast, hh] at g2
 have p1 := part_pv up h (Nat.le_trans bup (by omega)) bh hh0 (by rw [← hh]; exact Nat.gcd_dvd_left ..)
 have o3 := over_pv b.den h bdb bh hh0
 have b4 : bl (b.den / h) ≤ 100000000 := Nat.le_trans (bl_div _ _) db
 have m2 := natMul_pv down (b.den / h) (Nat.le_trans b1 (by omega)) (Nat.le_trans b4 (by omega))
 have pk := pack_pv (a + b).num (a + b).den (by rw [hm.2]; have := bl_mul down (b.den / h); show bl _ ≤ _; omega)
 rw [← hm.1] at p1
 rw [← hm.2] at m2
 have w1 := isWhole_pv a bda
 have w2 := isWhole_pv b bdb
 refine PV.of_pc ?_
 refine PC.body Tryz.tab_ok Tryz.func32 rfl (by kernel_rfl) Tryz.ntmps32 rfl rfl ?_
 repeat (first | refine RUN ?_ | refine CV (w1) ?_ | refine CE (w1) ?_)
 refine EVL.meet (fun env' bx' H' => SubL env' [(15, .v (.bool (decide (a.den = 1 ∧ b.den = 1)))), (4, .p 4 0), (3, .p 3 0), (2, .p 2 0)] ∧ SubX bx' [(4, 45, Tryz.te45.zero), (3, 45, frL b.num (dk b.den)), (2, 45, frL a.num (dk a.den))] ∧ H' = ⟨fun _ => none, [], ⟨fun _ => none, []⟩⟩) ?_ ?_
 ·rintro env' bx' H' _ ⟨he, hbx, rfl⟩
  refine EV.less _ _ he hbx rfl ?_
  by_cases hab : a.den = 1 ∧ b.den = 1
  ·rw [decide_eq_true hab]
   obtain ⟨e1, e2, e3⟩ := hone hab
   have e4 : h = 1 := by rw [← hh, e1, Nat.gcd_one_right]
   have e5 : (a + b).den = 1 := by rw [hm.2, e2, hab.2, e4]
   have e6 : (a + b).num = a.num + b.num := by rw [hm.1, e4, ← hup, e2, e3]; simp
   have c4 := bl_add a.num.natAbs b.num.natAbs
   have ad' := wholeAdd_pv a.num b.num bna bnb (by show bl _ ≤ _; omega)
   repeat (first | refine RUN ?_ | refine CV (ad') ?_ | refine CE (ad') ?_)
   show _ = frV (a + b).num (dk (a + b).den)
   rw [e5, dk_one, frV_zero, e6]
  ·rw [decide_eq_false hab]
   (try refine RUN ?_)
   have d1 := den_pv a bda
   have d2 := den_pv b bdb
   have s1 := from_pv false a.den bda
   have s2 := from_pv false b.den bdb
   have s3 := from_pv false g bg
   (apply EV.drawn 8 (by kernel_rfl) (by kernel_rfl); intro xv yw; (repeat (first | refine' DV (h := ?_) | refine' DA (h := ?_) | refine' DK0 (h := ?_) | (refine' DC (d1) (h := ?_); rotate_left) | (refine' DC (s1) (h := ?_); rotate_left) | (refine' DC (d2) (h := ?_); rotate_left) | (refine' DC (s2) (h := ?_); rotate_left) | (refine' DC (g1) (h := ?_); rotate_left) | refine' DS (h := ?_))); refine DJ.nil (fun G hG hF => ?_); (case hS => rfl); (case hS2 => rfl))
   (try refine RUN ?_)
   (apply EV.drawn 10 (by kernel_rfl) (by kernel_rfl); intro xv yw; (repeat (first | refine' DV (h := ?_) | refine' DA (h := ?_) | refine' DK0 (h := ?_) | (refine' DC (d1) (h := ?_); rotate_left) | (refine' DC (d2) (h := ?_); rotate_left) | (refine' DC (o1) (h := ?_); rotate_left) | (refine' DC (o2) (h := ?_); rotate_left) | refine' DS (h := ?_))); refine DJ.nil (fun G hG hF => ?_); (case hS => rfl); (case hS2 => rfl))
   (try refine RUN ?_)
   (apply EV.drawn 10 (by kernel_rfl) (by kernel_rfl); intro xv yw; (repeat (first | refine' DV (h := ?_) | refine' DA (h := ?_) | refine' DK0 (h := ?_) | (refine' DC (t1) (h := ?_); rotate_left) | (refine' DC (t2) (h := ?_); rotate_left) | (refine' DC (ad) (h := ?_); rotate_left) | refine' DS (h := ?_))); refine DJ.nil (fun G hG hF => ?_); (case hS => rfl); (case hS2 => rfl))
   (try refine RUN ?_)
   (apply EV.drawn 5 (by kernel_rfl) (by kernel_rfl); intro xv yw; (repeat (first | refine' DV (h := ?_) | refine' DA (h := ?_) | refine' DK0 (h := ?_) | (refine' DC (s3) (h := ?_); rotate_left) | (refine' DC (g2) (h := ?_); rotate_left) | refine' DS (h := ?_))); refine DJ.nil (fun G hG hF => ?_); (case hS => rfl); (case hS2 => rfl))
   (try refine RUN ?_)
   (apply EV.drawn 10 (by kernel_rfl) (by kernel_rfl); intro xv yw; (repeat (first | refine' DV (h := ?_) | refine' DA (h := ?_) | refine' DK0 (h := ?_) | (refine' DC (p1) (h := ?_); rotate_left) | (refine' DC (d2) (h := ?_); rotate_left) | (refine' DC (o3) (h := ?_); rotate_left) | (refine' DC (m2) (h := ?_); rotate_left) | (refine' DC (pk) (h := ?_); rotate_left) | refine' DS (h := ?_))); refine DJ.nil (fun G hG hF => ?_); (case hS => rfl); (case hS2 => rfl))
   (try refine RUN ?_)
   rfl
 ·by_cases ha1 : a.den = 1
  ·rw [decide_eq_true ha1]
   repeat (first | refine RUN ?_ | refine CV (w2) ?_ | refine CE (w2) ?_)
   refine ⟨⟨?_, rfl, rfl, rfl, trivial⟩, ⟨rfl, rfl, rfl, trivial⟩, rfl⟩
   simp [ha1]; rfl
  ·rw [decide_eq_false ha1]
   (try refine RUN ?_)
   refine ⟨⟨?_, rfl, rfl, rfl, trivial⟩, ⟨rfl, rfl, rfl, trivial⟩, rfl⟩
   simp [ha1]; rfl
theorem sub_pv (a b : Rat) (ha : sm a) (hb : sm b) : PV Tryz.prog 39 #[fracV a, fracV b] (fracV (a - b)) := by
 have h1 := neg_pv b (Nat.le_trans hb.num (by omega))
 have h2 := add_pv a (-b) ha (by show ht (-b) ≤ _; rw [ht_neg]; exact hb)
 rw [← Rat.sub_eq_add_neg] at h2
 refine PV.of_pc ?_
 refine PC.body Tryz.tab_ok Tryz.func39 rfl (by kernel_rfl) Tryz.ntmps39 rfl rfl ?_
 (try refine RUN ?_)
 (apply EV.drawn 4 (by kernel_rfl) (by kernel_rfl); intro xv yw; (repeat (first | refine' DV (h := ?_) | refine' DA (h := ?_) | refine' DK0 (h := ?_) | (refine' DC (h1) (h := ?_); rotate_left) | (refine' DC (h2) (h := ?_); rotate_left) | refine' DS (h := ?_))); refine DJ.nil (fun G hG hF => ?_); (case hS => rfl); (case hS2 => rfl))
 (try refine RUN ?_)
 rfl
theorem inv_frV (b : Rat) (h : b.num ≠ 0) : frV (sg (decide (b.num < 0)) b.den) (dk b.num.natAbs) = fracV b⁻¹ := by
 have e1 : b⁻¹.num = sg (decide (b.num < 0)) b.den := by
  rw [Rat.num_inv]; unfold sg
  rcases Int.lt_or_lt_of_ne h with h1 | h1
  ·simp [h1, Int.sign_eq_neg_one_of_neg h1]
  ·rw [Int.sign_eq_one_of_pos h1, decide_eq_false (by omega)]; simp
 have e2 : b⁻¹.den = b.num.natAbs := by
  rw [Rat.den_inv, if_neg]
  exact h
 rw [← e1, ← e2]
theorem div_pv (a b : Rat) (ha : sm a) (hb : sm b) (h0 : b ≠ 0) : PV Tryz.prog 41 #[fracV a, fracV b] (.tuple #[fracV (a / b), .bool true]) := by
 have hn0 : b.num ≠ 0 := fun e => h0 (Rat.num_eq_zero.1 e)
 have bnb : bigI b.num := Nat.le_trans hb.num (by omega)
 have bdb : big b.den := Nat.le_trans hb.den (by omega)
 have hm := mul_pv a b⁻¹ ha (Nat.le_trans (ht_inv b) hb)
 rw [← Rat.div_def] at hm
 have hp := pack_pv (sg (decide (b.num < 0)) b.den) b.num.natAbs bnb
 rw [inv_frV b hn0] at hp
 have s1 := from_pv (decide (b.num < 0)) b.den bdb
 have sg1 := sign_pv b bnb
 have ab := wholeAbs_pv b.num
 have d2 := den_pv b bdb
 refine PV.of_pc ?_
 refine PC.body Tryz.tab_ok Tryz.func41 rfl (by kernel_rfl) Tryz.ntmps41 rfl rfl ?_
 repeat (first | refine RUN ?_ | refine CV (sg1) ?_ | refine CE (sg1) ?_)
 rw [show (b.num.sign == 0) = false by simp [Int.sign_eq_zero_iff_zero, hn0]]
 (try refine RUN ?_)
 apply EV.drawn 11 (by kernel_rfl) (by kernel_rfl); intro xv yw
 (repeat (first | refine' DV (h := ?_) | refine' DA (h := ?_) | refine' DK0 (h := ?_) | (refine' DJ.setb Tryz.tab_ok rfl rfl rfl rfl rfl rfl rfl rfl rfl rfl rfl ?_; rotate_left) | (refine' DC (sg1) (h := ?_); rotate_left) | refine' DS (h := ?_)))
 rw [show decide (b.num.sign < 0) = decide (b.num < 0) by rw [decide_eq_decide]; exact Int.sign_neg_iff]
 (repeat (first | refine' DV (h := ?_) | refine' DA (h := ?_) | refine' DK0 (h := ?_) | (refine' DJ.setb Tryz.tab_ok rfl rfl rfl rfl rfl rfl rfl rfl rfl rfl rfl ?_; rotate_left) | (refine' DC (d2) (h := ?_); rotate_left) | (refine' DC (s1) (h := ?_); rotate_left) | (refine' DC (ab) (h := ?_); rotate_left) | (refine' DC (hp) (h := ?_); rotate_left) | refine' DS (h := ?_)))
 (refine DJ.nil (fun G hG hF => ?_); (case hS => rfl); (case hS2 => rfl))
 repeat (first | refine RUN ?_ | refine CV (hm) ?_ | refine CE (hm) ?_)
 rfl
theorem div_zero_pv (a : Rat) : PV Tryz.prog 41 #[fracV a, fracV 0] (.tuple #[fracV 0, .bool false]) := by
 have sg1 := sign_pv 0 (by show bl 0 ≤ _; rw [bl_zero]; omega)
 refine PV.of_pc ?_
 refine PC.body Tryz.tab_ok Tryz.func41 rfl (by kernel_rfl) Tryz.ntmps41 rfl rfl ?_
 repeat (first | refine RUN ?_ | refine CV (sg1) ?_ | refine CE (sg1) ?_)
 show _ = Value.tuple #[frV 0 0, .bool false]
 rw [frV_zero, show (0 : Int).natAbs = 0 from rfl, moreB_empty (n := 0) (by decide)]; rfl
theorem ordZ_scale (x y p q : Int) (hp : 0 < p) (hq : 0 < q) (h : x.sign ≠ y.sign) : ordZ x y = ordZ (x * p) (y * q) := by
 have f1 : x < 0 → x * p < 0 := fun h => Int.mul_neg_of_neg_of_pos h hp
 have f2 : 0 < x → 0 < x * p := fun h => Int.mul_pos h hp
 have f3 : y < 0 → y * q < 0 := fun h => Int.mul_neg_of_neg_of_pos h hq
 have f4 : 0 < y → 0 < y * q := fun h => Int.mul_pos h hq
 have f5 : x = 0 → x * p = 0 := fun h => by rw [h, Int.zero_mul]
 have f6 : y = 0 → y * q = 0 := fun h => by rw [h, Int.zero_mul]
 generalize x * p = u at *
 generalize y * q = v at *
 rcases Int.lt_trichotomy x 0 with hx | hx | hx <;> rcases Int.lt_trichotomy y 0 with hy | hy | hy
 ·exact absurd (by rw [Int.sign_eq_neg_one_of_neg hx, Int.sign_eq_neg_one_of_neg hy]) h
 ·unfold ordZ; rw [if_pos (by omega), if_pos (by have := f1 hx; have := f6 hy; omega)]
 ·unfold ordZ; rw [if_pos (by omega), if_pos (by have := f1 hx; have := f4 hy; omega)]
 ·unfold ordZ; rw [if_neg (by omega), if_pos (by omega), if_neg (by have := f5 hx; have := f3 hy; omega), if_pos (by have := f5 hx; have := f3 hy; omega)]
 ·exact absurd (by rw [hx, hy]) h
 ·unfold ordZ; rw [if_pos (by omega), if_pos (by have := f5 hx; have := f4 hy; omega)]
 ·unfold ordZ; rw [if_neg (by omega), if_pos (by omega), if_neg (by have := f2 hx; have := f3 hy; omega), if_pos (by have := f2 hx; have := f3 hy; omega)]
 ·unfold ordZ; rw [if_neg (by omega), if_pos (by omega), if_neg (by have := f2 hx; have := f6 hy; omega), if_pos (by have := f2 hx; have := f6 hy; omega)]
 ·exact absurd (by rw [Int.sign_eq_one_of_pos hx, Int.sign_eq_one_of_pos hy]) h
theorem sign_ne (a b : Rat) (h : a.num.sign ≠ b.num.sign) : ordZ a.num b.num = ordR a b := by
 have := Nat.pos_of_ne_zero a.den_nz
 have := Nat.pos_of_ne_zero b.den_nz
 rw [ordR_eq]; exact ordZ_scale _ _ _ _ (by omega) (by omega) h
theorem cmp_pv (a b : Rat) (ha : sm a) (hb : sm b) : PV Tryz.prog 31 #[fracV a, fracV b] (.int .i64 (ordR a b)) := by
 have na := ha.num; have da := ha.den; have nb := hb.num; have db := hb.den
 have bna : bigI a.num := Nat.le_trans na (by omega)
 have bnb : bigI b.num := Nat.le_trans nb (by omega)
 have bda : big a.den := Nat.le_trans da (by omega)
 have bdb : big b.den := Nat.le_trans db (by omega)
 have w1 := isWhole_pv a bda
 have w2 := isWhole_pv b bdb
 have s1 := sign_pv a bna
 have s2 := sign_pv b bnb
 have d1 := den_pv a bda
 have d2 := den_pv b bdb
 have c1 := bl_mul a.num.natAbs b.den
 have c2 := bl_mul b.num.natAbs a.den
 have t1 := times_pv a.num b.den bna bdb (by show bl _ ≤ _; omega)
 have t2 := times_pv b.num a.den bnb bda (by show bl _ ≤ _; omega)
 have k1 := wholeCmp_pv a.num b.num bna bnb
 have k2 := wholeCmp_pv (a.num * (b.den : Int)) (b.num * (a.den : Int)) (by show bl _ ≤ _; rw [Int.natAbs_mul]; simp; omega) (by show bl _ ≤ _; rw [Int.natAbs_mul]; simp; omega)
 rw [← ordR_eq] at k2
 refine PV.of_pc ?_
 refine PC.body Tryz.tab_ok Tryz.func31 rfl (by kernel_rfl) Tryz.ntmps31 rfl rfl ?_
 (try refine RUN ?_)
 by_cases ha1 : a.den = 1
 ·rw [decide_eq_true ha1] at w1
  by_cases hb1 : b.den = 1
  ·rw [decide_eq_true hb1] at w2
   have e : ordZ a.num b.num = ordR a b := by rw [ordR_eq, ha1, hb1]; simp
   rw [e] at k1
   apply EV.drawn 10 (by kernel_rfl) (by kernel_rfl); intro xv yw
   (repeat (first | refine' DV (h := ?_) | refine' DA (h := ?_) | refine' DK0 (h := ?_) | (refine' DJ.setb Tryz.tab_ok rfl rfl rfl rfl rfl rfl rfl rfl rfl rfl rfl ?_; rotate_left) | (refine' DC (w1) (h := ?_); rotate_left) | (refine' DC (w2) (h := ?_); rotate_left) | (refine' DC (s1) (h := ?_); rotate_left) | (refine' DC (s2) (h := ?_); rotate_left) | refine' DS (h := ?_)))
   (refine DJ.nil (fun G hG hF => ?_); (case hS => rfl); (case hS2 => rfl))
   repeat (first | refine RUN ?_ | refine CV (k1) ?_ | refine CE (k1) ?_)
   rfl
  ·rw [decide_eq_false hb1] at w2
   apply EV.drawn 10 (by kernel_rfl) (by kernel_rfl); intro xv yw
   (repeat (first | refine' DV (h := ?_) | refine' DA (h := ?_) | refine' DK0 (h := ?_) | (refine' DJ.setb Tryz.tab_ok rfl rfl rfl rfl rfl rfl rfl rfl rfl rfl rfl ?_; rotate_left) | (refine' DC (w1) (h := ?_); rotate_left) | (refine' DC (w2) (h := ?_); rotate_left) | (refine' DC (s1) (h := ?_); rotate_left) | (refine' DC (s2) (h := ?_); rotate_left) | refine' DS (h := ?_)))
   (refine DJ.nil (fun G hG hF => ?_); (case hS => rfl); (case hS2 => rfl))
   repeat (first | refine RUN ?_ | refine CV (s1) ?_ | refine CV (s2) ?_ | refine CE (s1) ?_ | refine CE (s2) ?_)
   by_cases hs : a.num.sign = b.num.sign
   ·rw [show (a.num.sign != b.num.sign) = false by simp [hs]]
    (try refine RUN ?_)
    apply EV.drawn 9 (by kernel_rfl) (by kernel_rfl); intro xv yw
    (repeat (first | refine' DV (h := ?_) | refine' DA (h := ?_) | refine' DK0 (h := ?_) | (refine' DJ.setb Tryz.tab_ok rfl rfl rfl rfl rfl rfl rfl rfl rfl rfl rfl ?_; rotate_left) | (refine' DC (d2) (h := ?_); rotate_left) | (refine' DC (t1) (h := ?_); rotate_left) | (refine' DC (d1) (h := ?_); rotate_left) | refine' DS (h := ?_)))
    (refine DJ.nil (fun G hG hF => ?_); (case hS => rfl); (case hS2 => rfl))
    repeat (first | refine RUN ?_ | refine CV (t2) ?_ | refine CV (k2) ?_ | refine CE (t2) ?_ | refine CE (k2) ?_)
    rfl
   ·rw [show (a.num.sign != b.num.sign) = true by simp [hs]]
    repeat (first | refine RUN ?_ | refine CV (k1) ?_ | refine CE (k1) ?_)
    rw [sign_ne a b hs]
 ·rw [decide_eq_false ha1] at w1
  apply EV.drawn 10 (by kernel_rfl) (by kernel_rfl); intro xv yw
  (repeat (first | refine' DV (h := ?_) | refine' DA (h := ?_) | refine' DK0 (h := ?_) | (refine' DJ.setb Tryz.tab_ok rfl rfl rfl rfl rfl rfl rfl rfl rfl rfl rfl ?_; rotate_left) | (refine' DC (w1) (h := ?_); rotate_left) | (refine' DC (w2) (h := ?_); rotate_left) | (refine' DC (s1) (h := ?_); rotate_left) | (refine' DC (s2) (h := ?_); rotate_left) | refine' DS (h := ?_)))
  (refine DJ.nil (fun G hG hF => ?_); (case hS => rfl); (case hS2 => rfl))
  repeat (first | refine RUN ?_ | refine CV (s1) ?_ | refine CV (s2) ?_ | refine CE (s1) ?_ | refine CE (s2) ?_)
  by_cases hs : a.num.sign = b.num.sign
  ·rw [show (a.num.sign != b.num.sign) = false by simp [hs]]
   (try refine RUN ?_)
   apply EV.drawn 9 (by kernel_rfl) (by kernel_rfl); intro xv yw
   (repeat (first | refine' DV (h := ?_) | refine' DA (h := ?_) | refine' DK0 (h := ?_) | (refine' DJ.setb Tryz.tab_ok rfl rfl rfl rfl rfl rfl rfl rfl rfl rfl rfl ?_; rotate_left) | (refine' DC (d2) (h := ?_); rotate_left) | (refine' DC (t1) (h := ?_); rotate_left) | (refine' DC (d1) (h := ?_); rotate_left) | refine' DS (h := ?_)))
   (refine DJ.nil (fun G hG hF => ?_); (case hS => rfl); (case hS2 => rfl))
   repeat (first | refine RUN ?_ | refine CV (t2) ?_ | refine CV (k2) ?_ | refine CE (t2) ?_ | refine CE (k2) ?_)
   rfl
  ·rw [show (a.num.sign != b.num.sign) = true by simp [hs]]
   repeat (first | refine RUN ?_ | refine CV (k1) ?_ | refine CE (k1) ?_)
   rw [sign_ne a b hs]
theorem pick_pv (z m : Int) (hz : -9223372036854775808 ≤ z ∧ z < 9223372036854775808) (h0 : 0 < m) (hm : m < 4611686018427387904) : PV Tryz.prog 13 #[.int .i64 z, .int .i64 m] (.int .i64 (z % m)) := by
 have h1 := Int.tmod_lt_of_pos z h0
 have h2 := Int.lt_tmod_of_pos z h0
 have e : z % m = if z.tmod m < 0 then z.tmod m + m else z.tmod m := by
  have hq := Int.mul_tdiv_add_tmod z m
  have e1 : z % m = z.tmod m % m := by
   conv => lhs; rw [← hq]
   rw [Int.mul_add_emod_self_left]
  rw [e1]
  by_cases ht : z.tmod m < 0
  ·rw [if_pos ht, ← Int.add_emod_right, Int.emod_eq_of_lt (by omega) (by omega)]
  ·rw [if_neg ht, Int.emod_eq_of_lt (by omega) h1]
 refine PV.of_pc ?_
 refine PC.body Tryz.tab_ok Tryz.func13 rfl (by kernel_rfl) Tryz.ntmps13 rfl rfl ?_
 (try refine RUN ?_)
 refine EVL.remI rfl rfl rfl rfl rfl rfl (by omega) ?_
 generalize z.tmod m = t at *
 (try refine RUN ?_)
 by_cases ht : t < 0
 ·rw [if_pos ht] at e
  rw [decide_eq_true ht]
  (try refine RUN ?_)
  rw [e, IntKind.wrap_i64]; congr 1; omega
 ·rw [if_neg ht] at e
  rw [decide_eq_false ht]
  (try refine RUN ?_)
  rw [e]
theorem min_int (a b : Nat) : (if (b : Int) < (a : Int) then (b : Int) else (a : Int)) = ((min a b : Nat) : Int) := by split <;> omega
theorem oneB_n8 : ∀ l : List Nat, oneB (l.map n8) = true
 | [] => rfl
 | _ :: l => by rw [List.map_cons]; unfold oneB; rw [oneB_n8 l]; rfl
theorem few_pc {v : Value} {l : List Nat} {H : Hp} (h : SlN n8 H v l) (k : Nat) (hk : k ≤ 1000000000) : PC Tryz.prog 88 #[v, .int .i64 (k : Int)] H fun r H' => SlN n8 H' r (l.take k) := by
 obtain ⟨a, cap, rfl⟩ := SlC.val h
 have hcap : l.length ≤ cap := SlN.le h
 have hsub := SlC.sub h 0 (min l.length k) (Nat.zero_le _) (Nat.min_le_left _ _) hcap
 have hmk : min l.length k ≤ 1000000000 := Nat.le_trans (Nat.min_le_right _ _) hk
 have htk : ((l.map n8).drop (0 * 1)).take ((min l.length k - 0) * 1) = (l.take k).map n8 := by
  rw [Nat.zero_mul, List.drop_zero, Nat.sub_zero, Nat.mul_one, ← List.map_take]
  congr 1
  rw [List.take_eq_take_iff]; omega
 have hlk : (l.take k).length = min l.length k := by rw [List.length_take, Nat.min_comm]
 have hml : min l.length k ≤ l.length := Nat.min_le_left _ _
 rw [htk] at hsub
 have hmi := min_int l.length k
 generalize min l.length k = m at *
 refine PC.body Tryz.tab_ok Tryz.func88 rfl (by kernel_rfl) Tryz.ntmps88 rfl rfl ?_
 (try refine RUN ?_)
 refine EVL.lit0 Tryz.tab_ok rfl rfl rfl rfl rfl rfl rfl fun g0 => ?_
 (try refine RUN ?_)
 rw [hmi]
 refine EVL.slc (te' := Tryz.te5) Tryz.tab_ok rfl rfl rfl rfl rfl rfl rfl rfl 0 m (.inl ⟨rfl, rfl⟩) (.inr ⟨_, IntKind.i64, rfl, rfl⟩) (Nat.zero_le _) (by omega) hcap ?_
 rcases Nat.eq_zero_or_pos m with e | e
 ·subst e
  have hnil : l.take k = [] := List.length_eq_zero_iff.1 hlk
  refine EVL.append0 Tryz.tab_ok rfl rfl rfl rfl rfl rfl rfl rfl rfl (Nat.le_refl _) ?_
  (try refine RUN ?_)
  rw [hnil]
  exact ⟨rfl, .inl ⟨rfl, _, _, rfl⟩⟩
 ·refine EVL.append Tryz.tab_ok rfl rfl rfl rfl rfl rfl rfl rfl rfl rfl rfl rfl [] [(g0, 5, [])] [] rfl (OwnL.full (m := 0) rfl (by omega)) (SrcAt.ro hsub e) (oneB_n8 _) (by omega) ?_
  intro v1 ow1 hown1
  (first | refine EVL.publishL [] ow1 [] (rfl) hown1 fun G hG hs => ?_ | refine EV.publishL [] ow1 [] (rfl) hown1 fun G hG hs => ?_)
  (try refine RUN ?_)
  rw [Nat.zero_add] at hs
  exact own_sl hs hlk
theorem refNatH_pc {H : Hp} {v : Value} {n : Nat} (h : RN H v n) (hn : rsm n) : PC Tryz.prog 105 #[v] H fun r _ => r = natV n := by
 have hol : (octs n).length ≤ 200000000 := by
  rw [octs_length]
  have := dig_len_bits 8 n (by omega); rw [show (2 : Nat) ^ 8 = 256 by decide] at this; rw [this]
  have : bl n ≤ 800000000 := hn
  omega
 refine PC.body Tryz.tab_ok Tryz.func105 rfl (by kernel_rfl) Tryz.ntmps105 rfl rfl ?_
 (try refine RUN ?_)
 refine EVL.call rfl rfl rfl rfl rfl (refBytes_pc h hn) ?_
 rintro r G hr hG
 have hf := natFromBytes_pc hr (octs_dig n) hol
 rw [octs_val] at hf
 repeat (first | refine RUN ?_ | refine CV (hf) ?_ | refine CE (hf) ?_)
 rfl
theorem intH_pc {H : Hp} {v : Value} {z : Int} (h : RI H v z) (hz : rsm z.natAbs) : PC Tryz.prog 104 #[v] H fun r _ => r = intV z := by
 obtain ⟨sa, sl, sc, rfl, hs⟩ := id h
 have hf := from_pv (decide (z < 0)) z.natAbs (Nat.le_trans hz (by omega))
 rw [sg_dec] at hf
 refine PC.body Tryz.tab_ok Tryz.func104 rfl (by kernel_rfl) Tryz.ntmps104 rfl rfl ?_
 (try refine RUN ?_)
 apply EV.drawn 6 (by kernel_rfl) (by kernel_rfl); intro xv yw
 (repeat (first | refine' DV (h := ?_) | refine' DA (h := ?_) | refine' DK0 (h := ?_) | (refine' DJ.setb Tryz.tab_ok rfl rfl rfl rfl rfl rfl rfl rfl rfl rfl rfl ?_; rotate_left) | refine' DS (h := ?_)))
 refine' DJ.callS rfl rfl rfl rfl rfl (cOf Tryz.func105 rfl (by kernel_rfl)) (fun G hG hd => refNatH_pc (RN.mono hs hG) hz) ?_; rotate_left
 (repeat (first | refine' DV (h := ?_) | refine' DA (h := ?_) | refine' DK0 (h := ?_) | (refine' DJ.setb Tryz.tab_ok rfl rfl rfl rfl rfl rfl rfl rfl rfl rfl rfl ?_; rotate_left) | (refine' DC (hf) (h := ?_); rotate_left) | refine' DS (h := ?_)))
 (refine DJ.nil (fun G hG hF => ?_); (case hS => rfl); (case hS2 => rfl))
 (try refine RUN ?_)
 rfl
theorem in_pc {H : Hp} {v : Value} {q : Rat} (h : RQ H v q) (hq : rq q) : PC Tryz.prog 25 #[v] H fun r _ => r = fracV q := by
 obtain ⟨sa, sl, sc, ta, tl, tc, rfl, hs, ht⟩ := id h
 have hn := hq.num
 have hd' := hq.den
 have hf := from_pv false q.den (Nat.le_trans hd' (by omega))
 rw [show sg false q.den = (q.den : Int) from rfl] at hf
 have hm := make_pv q.num (q.den : Int) (Nat.le_trans hn (by omega)) (Nat.le_trans hd' (by omega)) (by have := q.den_nz; omega)
 rw [if_neg (by omega), Int.natAbs_natCast, Rat.mkRat_self] at hm
 refine PC.body Tryz.tab_ok Tryz.func25 rfl (by kernel_rfl) Tryz.ntmps25 rfl rfl ?_
 (try refine RUN ?_)
 apply EV.drawn 14 (by kernel_rfl) (by kernel_rfl); intro xv yw
 (repeat (first | refine' DV (h := ?_) | refine' DA (h := ?_) | refine' DK0 (h := ?_) | (refine' DJ.setb Tryz.tab_ok rfl rfl rfl rfl rfl rfl rfl rfl rfl rfl rfl ?_; rotate_left) | refine' DS (h := ?_)))
 refine' DJ.callS rfl rfl rfl rfl rfl (cOf Tryz.func104 rfl (by kernel_rfl)) (fun G hG hd => intH_pc (RQ.rnum (RN.mono hs hG)) hn) ?_; rotate_left
 (repeat (first | refine' DV (h := ?_) | refine' DA (h := ?_) | refine' DK0 (h := ?_) | (refine' DJ.setb Tryz.tab_ok rfl rfl rfl rfl rfl rfl rfl rfl rfl rfl rfl ?_; rotate_left) | refine' DS (h := ?_)))
 refine' DJ.callS rfl rfl rfl rfl rfl (cOf Tryz.func105 rfl (by kernel_rfl)) (fun G hG hd => refNatH_pc (RN.mono ht hG) hd') ?_; rotate_left
 (repeat (first | refine' DV (h := ?_) | refine' DA (h := ?_) | refine' DK0 (h := ?_) | (refine' DJ.setb Tryz.tab_ok rfl rfl rfl rfl rfl rfl rfl rfl rfl rfl rfl ?_; rotate_left) | (refine' DC (hf) (h := ?_); rotate_left) | (refine' DC (hm) (h := ?_); rotate_left) | refine' DS (h := ?_)))
 (refine DJ.nil (fun G hG hF => ?_); (case hS => rfl); (case hS2 => rfl))
 (try refine RUN ?_)
 rfl
theorem argsK_vals {α : Type} {env : Env} : ∀ {l : List Operand} {k : List Value → Option α} {r : α}, argsK env l k = some r → ∃ vs, k vs = some r ∧ ∀ ev : Operand → Value, (∀ y x, y ∈ l → env.op y = some (.v x) → ev y = x) → l.map ev = vs
 | [], k, r, h => ⟨[], h, fun _ _ => rfl⟩
 | x :: l, k, r, h => by
  unfold argsK at h
  split at h
  ·rename_i v hv
   obtain ⟨vs, h1, h2⟩ := argsK_vals h
   exact ⟨v :: vs, h1, fun ev he => by rw [List.map_cons, he x v (by simp) hv, h2 ev fun y x hy => he y x (by simp [hy])]⟩
  ·cases h
section
variable {P : Program} {n : Nat} {ops : Array Oper} {o : Oper} {rest : List Oper} {env : Env} {bx : Bxs} {H : Hs} {Q : EQ} {τ : Tab} {d : Nat}
theorem EVL.buildArr {T : TypeId} {parts : Array (Nat × Operand)} (ho : o.op = .build T parts) (hw : wantB ops env o = some true) (hd : o.dst = some d) (hn : Nat.blt d n = true) {vs : List Value} (ha : argsK env (parts.toList.map (·.2)) some = some vs) {cs : List Value}
  (hb : P.built T ((parts.toList.map (·.1)).zip vs) = some cs.toArray) (h : EVL P n ops rest ((d, .v (.agg cs.toArray)) :: env) bx H Q) : EVL P n ops (o :: rest) env bx H Q := by
 refine EVL.gen hw hd hn (fun ev W he => ?_) h
 obtain ⟨vs', e1, h2⟩ := argsK_vals ha
 cases e1
 have h3 := h2 ev fun y x hy => he y x (by rw [ho]; simpa [Op.operands] using hy)
 have h4 : ((parts.map fun (i, x) => (i, ev x)) : Array (Nat × Value)).toList = (parts.toList.map (·.1)).zip vs := by
  rw [← h3, Array.toList_map]
  generalize parts.toList = l
  induction l with
  | nil => rfl
  | cons p l ih => simp only [List.map_cons, List.zip_cons_cons, ih]
 have := run_build (P := P) W T (parts.map fun (i, x) => (i, ev x)) cs.toArray (by rw [h4]; exact hb)
 unfold execOp
 rw [ho]
 simp [this]
theorem EVL.indexArr (hτ : TabOk P τ) {T e : TypeId} {x y : Operand} (ho : o.op = .index T x y) (hw : wantB ops env o = some true) (hd : o.dst = some d) (hn : Nat.blt d n = true) {len : Nat} (hu : P.underlying T = some (.array len e)) {te : TE} (ht : τ.get e = some te) (hag : te.agg = false) (hsz : te.size = 1)
  {cs : List Value} (hx : env.op x = some (.v (.agg cs.toArray))) {k : IntKind} {z : Int} (hy : env.op y = some (.v (.int k z))) (j : Nat) (hz : z = j) (hj : j < len) {v : Value} (hc : cs[j]? = some v)
  (h : EVL P n ops rest ((d, .v v) :: env) bx H Q) : EVL P n ops (o :: rest) env bx H Q := by
 refine EVL.gen hw hd hn (fun ev W he => ?_) h
 have e1 := he x _ (by rw [ho]; simp [Op.operands]) hx
 have e2 := he y _ (by rw [ho]; simp [Op.operands]) hy
 subst hz
 have hp : (part e cs.toArray j).run P W = .ok v W := by simp [part, (hτ.get ht).agg, hag, hc]
 unfold execOp
 simp only [ho, e1, e2, Instr.index, asIntOf, Sem.run_bind, Sem.run_pure, Result.andThen_ok, run_underlying hu]
 rw [if_pos ⟨by omega, by omega⟩]
 simp only [Sem.run_bind, (hτ.get ht).size, Result.andThen_ok, Int.toNat_natCast, hsz, Nat.mul_one, hp]
end
def rDen (j : Nat) : Int := [1, 1, 1, 2, 3, 4].getD j 1
def rNum (z : Int) : Rat := Rat.divInt (z % 41 - 20) (rDen (z.tdiv 41 % 6).toNat)
theorem rDen_range (j : Nat) : 1 ≤ rDen j ∧ rDen j ≤ 4 := by
 unfold rDen
 rcases j with _ | _ | _ | _ | _ | _ | j <;> simp [List.getD_eq_getElem?_getD]
theorem r_pc {H : Hp} (z : Int) (hz : -9223372036854775808 ≤ z ∧ z < 9223372036854775808) : PC Tryz.prog 86 #[.int .i64 z] H fun r H' => RQ H' r (rNum z) := by
 have hq : -9223372036854775808 ≤ z.tdiv 41 ∧ z.tdiv 41 < 9223372036854775808 := by
  by_cases h : 0 ≤ z
  ·rw [Int.tdiv_eq_ediv_of_nonneg h]; omega
  ·have e : z.tdiv 41 = -((-z) / 41) := by rw [← Int.tdiv_eq_ediv_of_nonneg (by omega), Int.neg_tdiv, Int.neg_neg]
   rw [e]; omega
 have hqw : IntKind.i64.wrap (z.tdiv 41) = z.tdiv 41 := by rw [IntKind.wrap_i64]; omega
 have h1 := pick_pv z 41 hz (by omega) (by omega)
 have h2 := pick_pv (z.tdiv 41) 6 hq (by omega) (by omega)
 have m1 := Int.emod_nonneg z (show (41 : Int) ≠ 0 by omega)
 have m2 := Int.emod_lt_of_pos z (show (0 : Int) < 41 by omega)
 obtain ⟨j, hj⟩ := Int.eq_ofNat_of_zero_le (Int.emod_nonneg (z.tdiv 41) (show (6 : Int) ≠ 0 by omega))
 have m3 := Int.emod_lt_of_pos (z.tdiv 41) (show (0 : Int) < 6 by omega)
 have hsub : IntKind.i64.wrap (z % 41 - 20) = z % 41 - 20 := by rw [IntKind.wrap_i64]; omega
 have hrd := rDen_range j
 have hrn : rNum z = Rat.divInt (z % 41 - 20) (rDen j) := by unfold rNum; rw [hj]; rfl
 rw [hrn]
 have hidx : ([.int .i64 1, .int .i64 1, .int .i64 1, .int .i64 2, .int .i64 3, .int .i64 4] : List Value)[j]? = some (.int .i64 (rDen j)) := by
  have hj6 : j < 6 := by omega
  rcases j with _ | _ | _ | _ | _ | _ | j <;> first | rfl | omega
 have ho := fun G : Hp => refOver_pc (H := G) (z % 41 - 20) (rDen j) (by omega) (by omega) (by omega) (by omega) (by omega)
 rw [hj] at h2
 refine PC.body Tryz.tab_ok Tryz.func86 rfl (by kernel_rfl) Tryz.ntmps86 rfl rfl ?_
 repeat (first | refine RUN ?_ | refine CV (h1) ?_ | refine CE (h1) ?_)
 rw [hsub]
 refine EVL.buildArr rfl rfl rfl rfl rfl (cs := [.int .i64 1, .int .i64 1, .int .i64 1, .int .i64 2, .int .i64 3, .int .i64 4]) (by kernel_rfl) ?_
 (try refine RUN ?_)
 rw [hqw]
 repeat (first | refine RUN ?_ | refine CV (h2) ?_ | refine CE (h2) ?_)
 refine EVL.indexArr (e := 2) (len := 6) Tryz.tab_ok rfl rfl rfl rfl (by kernel_rfl) rfl rfl rfl rfl rfl j rfl (show j < 6 by omega) hidx ?_
 refine EVL.call rfl rfl rfl rfl rfl (ho H) ?_
 rintro r G ⟨ra, rl, rc, xa, xl, xc, rfl, hn, hd⟩ hG
 (try refine RUN ?_)
 exact ⟨ra, rl, rc, xa, xl, xc, rfl, hn, hd⟩
theorem ht_divInt (n d : Int) (h : d ≠ 0) : ht (Rat.divInt n d) ≤ max (bl n.natAbs) (bl d.natAbs) := by
 rw [divInt_mk n d h]
 refine Nat.le_trans (ht_mk _ _ (by omega)) ?_
 have : (if d < 0 then -n else n).natAbs = n.natAbs := by split <;> simp
 rw [this]; exact Nat.le_refl _
theorem ht_rNum (z : Int) : ht (rNum z) ≤ 5 := by
 unfold rNum
 have hrd := rDen_range (z.tdiv 41 % 6).toNat
 have m1 := Int.emod_nonneg z (show (41 : Int) ≠ 0 by omega)
 have m2 := Int.emod_lt_of_pos z (show (0 : Int) < 41 by omega)
 refine Nat.le_trans (ht_divInt _ _ (by omega)) (Nat.max_le.2 ⟨bl_le (by omega), bl_le (by omega)⟩)
theorem bl_few {l : List Nat} (hD : Dig 256 l) : bl (val 256 (l.take 12).reverse) ≤ 96 := by
 apply bl_le
 have h1 := val_lt (hD.take 12).rev
 have h2 : (l.take 12).reverse.length ≤ 12 := by rw [List.length_reverse, List.length_take]; omega
 calc val 256 (l.take 12).reverse < 256 ^ (l.take 12).reverse.length := h1
  _ ≤ 256 ^ 12 := Nat.pow_le_pow_right (by decide) h2
  _ = 2 ^ 96 := by decide
structure RawQ (H : Hp) (v : Value) : Prop where
 ex : ∃ (z : Int) (sa sb : Value) (la lb : List Nat) (neg : Bool), v = .agg #[.int .i64 z, sa, sb, .bool neg] ∧ (-9223372036854775808 ≤ z ∧ z < 9223372036854775808) ∧ SlN n8 H sa la ∧ SlN n8 H sb lb ∧ Dig 256 la ∧ Dig 256 lb
theorem RawQ.mono {H G : Hp} {v : Value} (h : RawQ H v) (k : H.Le G) : RawQ G v := by
 obtain ⟨z, sa, sb, la, lb, neg, e, hz, h1, h2, h3⟩ := h.ex
 exact ⟨z, sa, sb, la, lb, neg, e, hz, SlN.mono h1 k, SlN.mono h2 k, h3⟩
theorem one_pc {H : Hp} {v : Value} (h : RawQ H v) : PC Tryz.prog 12 #[v] H fun r H' => ∃ q, ht q ≤ 200 ∧ RQ H' r q := by
 obtain ⟨z, sa, sb, la, lb, neg, rfl, hz, ha, hb, hDa, hDb⟩ := h.ex
 obtain ⟨aa, ca, rfl⟩ := SlC.val ha
 obtain ⟨ab, cb, rfl⟩ := SlC.val hb
 refine PC.body Tryz.tab_ok Tryz.func12 rfl (by kernel_rfl) Tryz.ntmps12 rfl rfl ?_
 (try refine RUN ?_)
 refine EV.cond rfl (fun h0 => ?_) (fun h0 => ?_)
 ·simp only [decide_eq_true_eq, decide_eq_false_iff_not, Int.not_lt, Int.not_le, beq_iff_eq, beq_eq_false_iff_ne, bne_iff_ne, bne_eq_false_iff_eq, ne_eq, Int.ofNat_lt, Int.ofNat_le, Int.natCast_inj, ge_iff_le, gt_iff_lt, Decidable.not_not, Bool.not_eq_true', Bool.not_eq_false', Bool.not_eq_eq_eq_not, Bool.not_true, Bool.not_false] at h0
  (try refine RUN ?_)
  refine EVL.call rfl rfl rfl rfl rfl (r_pc z hz) ?_
  rintro r G ⟨ra, rl, rc, xa, xl, xc, rfl, hn, hd⟩ hG
  (try refine RUN ?_)
  exact ⟨rNum z, Nat.le_trans (ht_rNum z) (by omega), ra, rl, rc, xa, xl, xc, rfl, hn, hd⟩
 ·simp only [decide_eq_true_eq, decide_eq_false_iff_not, Int.not_lt, Int.not_le, beq_iff_eq, beq_eq_false_iff_ne, bne_iff_ne, bne_eq_false_iff_eq, ne_eq, Int.ofNat_lt, Int.ofNat_le, Int.natCast_inj, ge_iff_le, gt_iff_lt, Decidable.not_not, Bool.not_eq_true', Bool.not_eq_false', Bool.not_eq_eq_eq_not, Bool.not_true, Bool.not_false] at h0
  (try refine RUN ?_)
  refine EVL.call rfl rfl rfl rfl rfl (few_pc hb 12 (by omega)) ?_
  rintro s G1 hs hG1
  (try refine RUN ?_)
  refine EVL.call rfl rfl rfl rfl rfl (refFrom_pc hs (hDb.take 12) (by rw [List.length_take]; omega)) ?_
  rintro t G2 ht hG2
  have hbl := bl_few hDb
  generalize val 256 (lb.take 12).reverse = D at *
  have hlz : (dig B32 D).length = 0 ↔ D = 0 := ⟨dig_len_zero B32_two, fun e => by rw [e, dig_zero]; rfl⟩
  have hcp := fun a l c (e : t = .slice a l c) => SlN.cap (e ▸ ht)
  obtain ⟨ta, tc, hte⟩ := SlC.val ht
  generalize hle : (dig B32 D).length = l at *
  subst hte
  (try refine RUN ?_)
  refine EV.meetK (ι := Value × Nat) [1, 2] [1, 2] (fun i => [(3, .v i.1)]) (fun _ => []) (fun _ => []) (fun i G => G2.Le G ∧ RN G i.1 i.2 ∧ i.2 ≠ 0 ∧ bl i.2 ≤ 96) rfl rfl (fun _ => rfl) ?_ ?_
  ·refine EV.cond rfl (fun hz0 => ?_) (fun hz0 => ?_)
   ·simp only [decide_eq_true_eq, decide_eq_false_iff_not, Int.not_lt, Int.not_le, beq_iff_eq, beq_eq_false_iff_ne, bne_iff_ne, bne_eq_false_iff_eq, ne_eq, Int.ofNat_lt, Int.ofNat_le, Int.natCast_inj, ge_iff_le, gt_iff_lt, Decidable.not_not, Bool.not_eq_true', Bool.not_eq_false', Bool.not_eq_eq_eq_not, Bool.not_true, Bool.not_false] at hz0
    (try refine RUN ?_)
    refine EVL.call rfl rfl rfl rfl rfl (refNatOf_pc 1 (by decide) G2) ?_
    rintro u G3 hu hG3
    (try refine RUN ?_)
    exact ⟨(u, 1), ⟨rfl, trivial⟩, (by repeat (first | exact trivial | refine And.intro rfl ?_)), trivial, (by repeat (first | exact trivial | refine And.intro rfl ?_)), rfl, hG3, hu, Nat.one_ne_zero, by rw [bl_one']; omega⟩
   ·simp only [decide_eq_true_eq, decide_eq_false_iff_not, Int.not_lt, Int.not_le, beq_iff_eq, beq_eq_false_iff_ne, bne_iff_ne, bne_eq_false_iff_eq, ne_eq, Int.ofNat_lt, Int.ofNat_le, Int.natCast_inj, ge_iff_le, gt_iff_lt, Decidable.not_not, Bool.not_eq_true', Bool.not_eq_false', Bool.not_eq_eq_eq_not, Bool.not_true, Bool.not_false] at hz0
    (try refine RUN ?_)
    exact ⟨(_, D), ⟨rfl, trivial⟩, (by repeat (first | exact trivial | refine And.intro rfl ?_)), trivial, (by repeat (first | exact trivial | refine And.intro rfl ?_)), rfl, Hp.Le.refl _, ht, fun e => hz0 (by have := hlz.2 e; omega), hbl⟩
  ·rintro ⟨u, D'⟩ G3 ⟨hG3, hu, hD0, hDb'⟩
   dsimp only at hu hD0 hDb'
   have h03 : H.Le G3 := (hG1.trans hG2).trans hG3
   have hbA := bl_few hDa
   (try refine RUN ?_)
   apply EV.drawn 10 (by kernel_rfl) (by kernel_rfl); intro xv yw
   (repeat (first | refine' DV (h := ?_) | refine' DA (h := ?_) | refine' DK0 (h := ?_) | (refine' DJ.setb Tryz.tab_ok rfl rfl rfl rfl rfl rfl rfl rfl rfl rfl rfl ?_; rotate_left) | refine' DS (h := ?_)))
   refine' DJ.call rfl rfl rfl rfl rfl (cOf Tryz.func88 rfl (by kernel_rfl)) (fun G hG hd => few_pc (SlN.mono ha (h03.trans hG)) 12 (by omega)) (fun _ _ _ h k => SlN.mono h k) ?_; rotate_left
   refine' DJ.call rfl rfl rfl rfl rfl (cOf Tryz.func87 rfl (by kernel_rfl)) (fun G hG hd => refFrom_pc (hd.head (by kernel_rfl)) (hDa.take 12) (by rw [List.length_take]; omega)) (fun _ _ _ h k => RN.mono h k) ?_; rotate_left
   refine' DJ.call rfl rfl rfl rfl rfl (cOf Tryz.func90 rfl (by kernel_rfl)) (fun G hG hd => refI_pc neg (hd.head (by kernel_rfl))) (fun _ _ _ h k => RI.mono h k) ?_; rotate_left
   (repeat (first | refine' DV (h := ?_) | refine' DA (h := ?_) | refine' DK0 (h := ?_) | (refine' DJ.setb Tryz.tab_ok rfl rfl rfl rfl rfl rfl rfl rfl rfl rfl rfl ?_; rotate_left) | refine' DS (h := ?_)))
   refine' DJ.call rfl rfl rfl rfl rfl (cOf Tryz.func90 rfl (by kernel_rfl)) (fun G hG hd => refI_pc false (RN.mono hu hG)) (fun _ _ _ h k => RI.mono h k) ?_; rotate_left
   refine' DJ.call rfl rfl rfl rfl rfl (cOf Tryz.func89 rfl (by kernel_rfl)) (fun G hG hd => refMake_pc (hd.tail.head (by kernel_rfl)) (hd.head (by kernel_rfl)) (by rw [sg_natAbs]; exact Nat.le_trans hbA (by omega)) (by rw [sg_natAbs]; exact Nat.le_trans hDb' (by omega)) (by show ((D' : Nat) : Int) ≠ 0; omega)) (fun _ _ _ h k => RQ.mono h k) ?_; rotate_left
   (refine DJ.nil (fun G5 hG5 hF5 => ?_); (case hS => rfl); (case hS2 => rfl))
   obtain ⟨⟨ra, rl, rc, xa, xl, xc, hr, h1, h2⟩, _⟩ := hF5
   rw [hr]
   (try refine RUN ?_)
   refine ⟨_, ?_, ra, rl, rc, xa, xl, xc, rfl, h1, h2⟩
   refine Nat.le_trans (ht_divInt _ _ (by show ((D' : Nat) : Int) ≠ 0; omega)) ?_
   rw [sg_natAbs, sg_natAbs]
   omega
def kb (z : Int) : Nat := (max 0 (min z 256)).toNat
theorem rq_small {q : Rat} {k : Nat} (h : ht q ≤ k) (hk : k ≤ 100000000) : rq q := Nat.le_trans h hk
theorem rat_num_zero {q : Rat} : q = 0 ↔ q.num = 0 := Rat.num_eq_zero.symm
theorem absR (a : Rat) : frV (a.num.natAbs : Int) (dk a.den) = fracV (if a.num < 0 then -a else a) := by
 unfold fracV
 split
 ·rename_i h
  rw [Rat.neg_num, Rat.neg_den]
  congr 1; omega
 ·rename_i h
  congr 1; omega
theorem ht_absR (a : Rat) : ht (if a.num < 0 then -a else a) = ht a := by split; exact ht_neg a; rfl
section
variable {P : Program} {n : Nat} {ops : Array Oper} {o : Oper} {rest : List Oper} {env : Env} {bx : Bxs} {H : Hs} {Q : EQ} {τ : Tab} {d : Nat}
theorem EVL.strSlc {T : TypeId} {x : Operand} {lo hi : Option Operand} (ho : o.op = .slice T x lo hi none) (hw : wantB ops env o = some true) (hd : o.dst = some d) (hn : Nat.blt d n = true) (hT : P.underlying T = some .string)
  {s : ByteArray} (hx : env.op x = some (.v (.string s))) (l h : Nat) (hlo : lo = none ∧ l = 0 ∨ ∃ y k, lo = some y ∧ env.op y = some (.v (.int k (l : Int)))) (hhi : hi = none ∧ h = s.size ∨ ∃ y k, hi = some y ∧ env.op y = some (.v (.int k (h : Int)))) (hlh : l ≤ h) (hhs : h ≤ s.size)
  (hK : EVL P n ops rest ((d, .v (.string (s.extract l h))) :: env) bx H Q) : EVL P n ops (o :: rest) env bx H Q := by
 refine EVL.gen hw hd hn (fun ev W he => ?_) hK
 have h1 : ev x = .string s := he x _ (by simp [ho, Op.operands]) hx
 unfold execOp
 simp only [ho, Instr.sliceAt, h1, Option.map_none]
 rcases hlo with ⟨rfl, rfl⟩ | ⟨y, k, rfl, hy⟩
 ·rcases hhi with ⟨rfl, rfl⟩ | ⟨y', k', rfl, hy'⟩
  ·simp [run_underlying hT, Instr.slice, Instr.sliceBounds]
  ·have h2 : ev y' = .int k' h := he y' _ (by simp [ho, Op.operands]) hy'
   simp [run_underlying hT, Instr.slice, Instr.sliceBounds, Instr.sliceBound, h2, asIntOf, hhs]
 ·have h3 : ev y = .int k l := he y _ (by simp [ho, Op.operands]) hy
  rcases hhi with ⟨rfl, rfl⟩ | ⟨y', k', rfl, hy'⟩
  ·simp [run_underlying hT, Instr.slice, Instr.sliceBounds, Instr.sliceBound, h3, asIntOf, hlh]
  ·have h2 : ev y' = .int k' h := he y' _ (by simp [ho, Op.operands]) hy'
   simp [run_underlying hT, Instr.slice, Instr.sliceBounds, Instr.sliceBound, h2, h3, asIntOf, hhs, hlh]
end
abbrev str1 : ByteArray := ⟨#[49]⟩
theorem small1_pv : PV Tryz.prog 196 #[.int .i64 1] (.string str1) := by
 refine PV.of_pc ?_
 refine PC.body Tryz.tab_ok Tryz.func196 rfl (by kernel_rfl) Tryz.ntmps196 rfl rfl ?_
 (try refine RUN ?_)
 refine EVL.strSlc rfl rfl rfl rfl (by kernel_rfl) rfl 1 2 (.inr ⟨_, IntKind.i64, rfl, rfl⟩) (.inr ⟨_, IntKind.i64, rfl, rfl⟩) (by decide) (by decide) ?_
 (try refine RUN ?_)
 rfl
theorem fmt1_pv : PV Tryz.prog 167 #[.int .u64 1, .int .i64 10] (.string str1) := by
 refine PV.of_pc ?_
 refine PC.body Tryz.tab_ok Tryz.func167 rfl (by kernel_rfl) Tryz.ntmps167 rfl rfl ?_
 repeat (first | refine RUN ?_ | refine CV (small1_pv) ?_ | refine CE (small1_pv) ?_)
 rfl
theorem format1_pv : PV Tryz.prog 123 #[.int .u64 1, .int .i64 10] (.string str1) := by
 refine PV.of_pc ?_
 refine PC.body Tryz.tab_ok Tryz.func123 rfl (by kernel_rfl) Tryz.ntmps123 rfl rfl ?_
 repeat (first | refine RUN ?_ | refine CV (fmt1_pv) ?_ | refine CE (fmt1_pv) ?_)
 rfl
theorem natText1_pv : PV Tryz.prog 44 #[natV 1] (.string str1) := by
 have hb : big 1 := by show bl 1 ≤ _; have := bl_le (n := 1) (k := 1) (by decide); omega
 have hd : dig W64 1 = [1] := by rw [dig_pos W64_two (by decide)]; simp [dig_zero, W64_val]
 have hw := fun H => words_pc 1 hb H
 rw [hd] at hw
 refine PV.of_pc ?_
 refine PC.body Tryz.tab_ok Tryz.func44 rfl (by kernel_rfl) Tryz.ntmps44 rfl rfl ?_
 (try refine RUN ?_)
 refine EVL.call rfl rfl rfl rfl rfl (hw _) ?_
 rintro v G hv hG
 obtain ⟨a, c, rfl⟩ := SlC.val hv
 repeat (first | refine RUN ?_ | refine CV (format1_pv) ?_ | refine CE (format1_pv) ?_)
 rfl
theorem ordR_self (a : Rat) : ordR a a = 0 := by unfold ordR; rw [if_neg Rat.lt_irrefl, if_neg Rat.lt_irrefl]
theorem cmp_eq (a b : Rat) (ha : sm a) (hb : sm b) (h : a = b) : PV Tryz.prog 31 #[fracV a, fracV b] (.int .i64 0) := by
 subst h
 have := cmp_pv a a ha hb
 rwa [ordR_self] at this
def absQ (a : Rat) : Rat := if a.num < 0 then -a else a
theorem ht_absQ (a : Rat) : ht (absQ a) = ht a := ht_absR a
theorem absq_pv (a : Rat) (h : sm a) : PV Tryz.prog 40 #[fracV a] (fracV (absQ a)) := by
 have := abs_pv a (Nat.le_trans (bl_num_le a) (Nat.le_trans h (by omega)))
 rwa [absR] at this
theorem absQ_neg (a : Rat) : absQ (-a) = absQ a := by
 unfold absQ
 rw [Rat.neg_num]
 rcases Int.lt_trichotomy a.num 0 with h | h | h
 ·rw [if_neg (by omega), if_pos h]
 ·have : a = 0 := rat_num_zero.2 h
  subst this; rfl
 ·rw [if_pos (by omega), if_neg (by omega), Rat.neg_neg]
theorem absQ_nonneg {a : Rat} (h : 0 ≤ a) : absQ a = a := by unfold absQ; rw [if_neg (by have := Rat.num_nonneg.2 h; omega)]
theorem absQ_mul (a b : Rat) : absQ (a * b) = absQ a * absQ b := by
 have key : ∀ a b : Rat, 0 ≤ a → 0 ≤ b → absQ (a * b) = absQ a * absQ b := fun a b ha hb => by
  rw [absQ_nonneg ha, absQ_nonneg hb, absQ_nonneg (Rat.mul_nonneg ha hb)]
 have flip : ∀ a : Rat, ¬ 0 ≤ a → 0 ≤ -a := fun a h => by grind
 by_cases ha : 0 ≤ a <;> by_cases hb : 0 ≤ b
 ·exact key a b ha hb
 ·rw [← absQ_neg b, ← key a (-b) ha (flip b hb), ← absQ_neg (a * b)]; congr 1; grind
 ·rw [← absQ_neg a, ← key (-a) b (flip a ha) hb, ← absQ_neg (a * b)]; congr 1; grind
 ·rw [← absQ_neg a, ← absQ_neg b, ← key (-a) (-b) (flip a ha) (flip b hb)]; congr 1; grind
set_option maxHeartbeats 4000000 in
theorem field_pc {H : Hp} {u v w : Value} (hu : RawQ H u) (hv : RawQ H v) (hw : RawQ H w) (hkn : PV Tryz.prog 22 #[] (.bool true)) : PC Tryz.prog 7 #[u, v, w] H fun r _ => r = .bool true := by
 obtain ⟨z1, sa1, sb1, la1, lb1, n1, rfl, _, ha1, hb1, _⟩ := hu.ex
 obtain ⟨z2, sa2, sb2, la2, lb2, n2, rfl, _, ha2, hb2, _⟩ := hv.ex
 obtain ⟨z3, sa3, sb3, la3, lb3, n3, rfl, _, ha3, hb3, _⟩ := hw.ex
 obtain ⟨a1, c1, rfl⟩ := SlC.val ha1
 obtain ⟨a2, c2, rfl⟩ := SlC.val hb1
 obtain ⟨a3, c3, rfl⟩ := SlC.val ha2
 obtain ⟨a4, c4, rfl⟩ := SlC.val hb2
 obtain ⟨a5, c5, rfl⟩ := SlC.val ha3
 obtain ⟨a6, c6, rfl⟩ := SlC.val hb3
 clear ha1 hb1 ha2 hb2 ha3 hb3
 refine PC.body Tryz.tab_ok Tryz.func7 rfl (by kernel_rfl) Tryz.ntmps7 rfl rfl ?_
 (try refine RUN ?_)
 refine EVL.call rfl rfl rfl rfl rfl (one_pc hu) ?_
 rintro r G1 ⟨x, hx, hX⟩ hG1
 repeat (first | refine RUN ?_ | refine CV (in_pc hX (rq_small hx (by omega))) ?_ | refine CE (in_pc hX (rq_small hx (by omega))) ?_)
 refine EVL.call rfl rfl rfl rfl rfl (one_pc (hv.mono hG1)) ?_
 rintro r G2 ⟨y, hy, hY⟩ hG2
 repeat (first | refine RUN ?_ | refine CV (in_pc hY (rq_small hy (by omega))) ?_ | refine CE (in_pc hY (rq_small hy (by omega))) ?_)
 refine EVL.call rfl rfl rfl rfl rfl (one_pc (hw.mono (hG1.trans hG2))) ?_
 rintro r G3 ⟨z, hz, hZ⟩ hG3
 repeat (first | refine RUN ?_ | refine CV (in_pc hZ (rq_small hz (by omega))) ?_ | refine CE (in_pc hZ (rq_small hz (by omega))) ?_)
 clear hX hY hZ hu hv hw
 have sx : sm x := rq_small hx (by omega)
 have sy : sm y := rq_small hy (by omega)
 have sz : sm z := rq_small hz (by omega)
 have hxy := ht_add x y
 have hmxy := ht_mul x y
 have hyz := ht_add y z
 have hmxz := ht_mul x z
 have sxy : sm (x + y) := by unfold sm; omega
 have syz : sm (y + z) := by unfold sm; omega
 have smxy : sm (x * y) := by unfold sm; omega
 have smxz : sm (x * z) := by unfold sm; omega
 have t1 := ht_add (x + y) z
 have t2 := ht_mul x (y + z)
 have t3 := ht_add (x * y) (x * z)
 have t4 := ht_sub (x + y) y
 have t5 := ht_add (x * y) z
 have s1 : sm (x + y + z) := by unfold sm; omega
 have s2 : sm (x * (y + z)) := by unfold sm; omega
 have s3 : sm (x * y + x * z) := by unfold sm; omega
 have s4 : sm (x + y - y) := by unfold sm; omega
 have s5 : sm (x * y + z) := by unfold sm; omega
 have e1 : y + x = x + y := Rat.add_comm ..
 have e2 : y * x = x * y := Rat.mul_comm ..
 have e3 : x + (y + z) = x + y + z := (Rat.add_assoc ..).symm
 have e4 : x * (y + z) = x * y + x * z := Rat.mul_add ..
 have e5 : x - x = 0 := by grind
 have e6 : x + y - y = x := by grind
 have hyx := add_pv y x sy sx
 have hmyx := mul_pv y x sy sx
 have hxyz := add_pv x (y + z) sx syz
 have hxx := sub_pv x x sx sx
 have hmd := mul_pv x (y + z) sx syz
 have hb := sub_pv (x + y) y sxy sy
 rw [e1] at hyx
 rw [e2] at hmyx
 rw [e3] at hxyz
 rw [e5] at hxx
 rw [e4] at hmd
 rw [e6] at hb
 have hs0 : PV Tryz.prog 24 #[fracV 0] (.int .i64 0) := sign_pv 0 (by show bl 0 ≤ _; rw [bl_zero]; omega)
 apply EV.drawn 68 (by kernel_rfl) (by kernel_rfl); intro xv yw
 (repeat (first | refine' DV (h := ?_) | refine' DA (h := ?_) | refine' DK0 (h := ?_) | (refine' DJ.setb Tryz.tab_ok rfl rfl rfl rfl rfl rfl rfl rfl rfl rfl rfl ?_; rotate_left) | (refine' DC (hkn) (h := ?_); rotate_left) | (refine' DC (add_pv x y sx sy) (h := ?_); rotate_left) | (refine' DC (hyx) (h := ?_); rotate_left) | (refine' DC (cmp_eq _ _ sxy sxy rfl) (h := ?_); rotate_left) | (refine' DC (mul_pv x y sx sy) (h := ?_); rotate_left) | (refine' DC (hmyx) (h := ?_); rotate_left) | (refine' DC (cmp_eq _ _ smxy smxy rfl) (h := ?_); rotate_left) | (refine' DC (add_pv (x + y) z sxy sz) (h := ?_); rotate_left) | (refine' DC (add_pv y z sy sz) (h := ?_); rotate_left) | (refine' DC (hxyz) (h := ?_); rotate_left) | (refine' DC (cmp_eq _ _ s1 s1 rfl) (h := ?_); rotate_left) | (refine' DC (hmd) (h := ?_); rotate_left) | (refine' DC (mul_pv x z sx sz) (h := ?_); rotate_left) | (refine' DC (add_pv (x * y) (x * z) smxy smxz) (h := ?_); rotate_left) | (refine' DC (cmp_eq _ _ s3 s3 rfl) (h := ?_); rotate_left) | (refine' DC (hxx) (h := ?_); rotate_left) | (refine' DC (hs0) (h := ?_); rotate_left) | (refine' DC (hb) (h := ?_); rotate_left) | (refine' DC (cmp_eq _ _ sx sx rfl) (h := ?_); rotate_left) | refine' DS (h := ?_)))
 (refine DJ.nil (fun G4 hG4 hF4 => ?_); (case hS => rfl); (case hS2 => rfl))
 have hs5 : ht (x * y + z) ≤ 1000000000 := Nat.le_trans s5 (by omega)
 generalize hsv : x * y + z = s at *
 have bn : bigI s.num := Nat.le_trans (bl_num_le s) hs5
 have bd : big s.den := Nat.le_trans (bl_den_le s) hs5
 have haz : PV Tryz.prog 32 #[fracV (x * y), fracV z] (fracV s) := by rw [← hsv]; exact add_pv _ _ smxy sz
 have hfr := from_pv false s.den bd
 rw [show sg false s.den = (s.den : Int) from rfl] at hfr
 have hg := gcd_pv s.num (s.den : Int) bn bd
 rw [Int.natAbs_natCast, show Nat.gcd s.num.natAbs s.den = 1 from s.reduced] at hg
 (try refine RUN ?_)
 (apply EV.drawn 7 (by kernel_rfl) (by kernel_rfl); intro xv yw; (repeat (first | refine' DV (h := ?_) | refine' DA (h := ?_) | refine' DK0 (h := ?_) | (refine' DC (mul_pv x y sx sy) (h := ?_); rotate_left) | (refine' DC (haz) (h := ?_); rotate_left) | refine' DS (h := ?_))); refine DJ.nil (fun G hG hF => ?_); (case hS => rfl); (case hS2 => rfl))
 (try refine RUN ?_)
 apply EV.drawn 8 (by kernel_rfl) (by kernel_rfl); intro xv yw
 (repeat (first | refine' DV (h := ?_) | refine' DA (h := ?_) | refine' DK0 (h := ?_) | (refine' DJ.setb Tryz.tab_ok rfl rfl rfl rfl rfl rfl rfl rfl rfl rfl rfl ?_; rotate_left) | (refine' DC (num_pv s) (h := ?_); rotate_left) | (refine' DC (den_pv s bd) (h := ?_); rotate_left) | (refine' DC (hfr) (h := ?_); rotate_left) | (refine' DC (hg) (h := ?_); rotate_left) | (refine' DC (natText1_pv) (h := ?_); rotate_left) | refine' DS (h := ?_)))
 (refine DJ.nil (fun G5 hG5 hF5 => ?_); (case hS => rfl); (case hS2 => rfl))
 rw [beq_self_eq_true]
 by_cases hy0 : y = 0
 ·have hdz := div_zero_pv x
  rw [← hy0] at hdz
  repeat (first | refine RUN ?_ | refine CV (hdz) ?_ | refine CE (hdz) ?_)
  apply EV.drawn 23 (by kernel_rfl) (by kernel_rfl); intro xv yw
  (repeat (first | refine' DV (h := ?_) | refine' DA (h := ?_) | refine' DK0 (h := ?_) | (refine' DJ.setb Tryz.tab_ok rfl rfl rfl rfl rfl rfl rfl rfl rfl rfl rfl ?_; rotate_left) | refine' DS (h := ?_)))
  (refine DJ.nil (fun G6 hG6 hF6 => ?_); (case hS => rfl); (case hS2 => rfl))
  (try refine RUN ?_)
  rfl
 ·have hq := ht_div x y
  have sq : sm (x / y) := by unfold sm; omega
  have hqy := mul_pv (x / y) y sq sy
  rw [Rat.div_mul_cancel hy0] at hqy
  have hab := absq_pv (x * y) smxy
  have sax : sm (absQ x) := by unfold sm; rw [ht_absQ]; exact sx
  have say : sm (absQ y) := by unfold sm; rw [ht_absQ]; exact sy
  have hma := mul_pv (absQ x) (absQ y) sax say
  rw [← absQ_mul] at hma
  have saxy : sm (absQ (x * y)) := by unfold sm; rw [ht_absQ]; exact smxy
  repeat (first | refine RUN ?_ | refine CV (div_pv x y sx sy hy0) ?_ | refine CE (div_pv x y sx sy hy0) ?_)
  apply EV.drawn 23 (by kernel_rfl) (by kernel_rfl); intro xv yw
  (repeat (first | refine' DV (h := ?_) | refine' DA (h := ?_) | refine' DK0 (h := ?_) | (refine' DJ.setb Tryz.tab_ok rfl rfl rfl rfl rfl rfl rfl rfl rfl rfl rfl ?_; rotate_left) | (refine' DC (hqy) (h := ?_); rotate_left) | (refine' DC (cmp_eq _ _ sx sx rfl) (h := ?_); rotate_left) | (refine' DC (mul_pv x y sx sy) (h := ?_); rotate_left) | (refine' DC (hab) (h := ?_); rotate_left) | (refine' DC (absq_pv x sx) (h := ?_); rotate_left) | (refine' DC (absq_pv y sy) (h := ?_); rotate_left) | (refine' DC (hma) (h := ?_); rotate_left) | (refine' DC (cmp_eq _ _ saxy saxy rfl) (h := ?_); rotate_left) | refine' DS (h := ?_)))
  (refine DJ.nil (fun G6 hG6 hF6 => ?_); (case hS => rfl); (case hS2 => rfl))
  (try refine RUN ?_)
  rfl
end Go.Proofs.YtjifapjpgmmcnaaGreatDoor
namespace Go.Proofs.YtjifapjpgmmcnaaGreatDoor
open Go Go.RowKit
theorem laid_gH {P : Program} {l : List (String × DataW Unit)} {W : World} (h : laidMet P l W) {n : String} {zs : List Nat} {g : Nat} {T e : TypeId} (hmem : (n, .agg (zs.map fun (z : Nat) => .lit (.int .u8 z))) ∈ l) (hg : P.globalNamed n = some g) (ht : (P.globals[g]?).map (·.type) = some T)
  (hT : P.underlying T = some (.array zs.length e)) (he : P.underlying e = some (.int .u8)) (hc : P.cellsOf e = 1) (hcT : P.cellsOf T = zs.length) :
  ∃ U fz, W.heap[g]? = some (.cells (zs.map fun (z : Nat) => Value.int .u8 (z : Int)).toArray U fz) := by
 obtain ⟨ps, hl, _⟩ := h
 obtain ⟨p0, g', t, cs, fuel, p, q, hg', ht', hv, hd, _, _⟩ := VM.laid_find hl hmem
 obtain rfl := Option.some.inj (hg.symm.trans hg')
 obtain rfl := Option.some.inj (ht.symm.trans ht')
 obtain ⟨xs, m, _, ex, hcl, hlen, hel⟩ := DataW.trod_array hT hd
 have hb : ∃ U fz, W.heap[g]? = some (.cells cs U fz) := by
  simp only [World.var?, hg, Option.bind_some] at hv
  split at hv
  ·rename_i c U fz hc'; cases hv; exact ⟨U, fz, hc'⟩
  ·cases hv
 obtain ⟨U, fz, hb⟩ := hb
 refine ⟨U, fz, ?_⟩
 rw [hb]
 congr 2
 apply Array.ext'
 rw [hcT] at hcl
 have e3 : (xs.map (·.1)) = zs.map fun (n : Nat) => .lit (.int .u8 n) := (DataW.agg.inj (Prod.mk.inj ex).1).symm
 apply List.ext_getElem?
 intro r
 rcases Nat.lt_or_ge r zs.length with hr | hr
 ·have hE := hel r hr
  rw [hc, Nat.mul_one, List.getElem?_eq_getElem (by omega)] at hE
  obtain ⟨z, e1, e2, _⟩ := DataW.trod_int he hE
  have e4 : (xs.map (·.1))[r]? = (zs.map fun (n : Nat) => (DataW.lit (.int .u8 n) : DataW Unit))[r]? := by rw [e3]
  rw [List.getElem?_map, List.getElem?_map, List.getElem?_eq_getElem (by omega : r < xs.length), List.getElem?_eq_getElem hr, e2] at e4
  simp only [Option.map_some, Option.some.injEq, DataW.lit.injEq, Lit.int.injEq, true_and] at e4
  have h0 : ((cs.toList.drop r).take 1)[0]? = some (.int .u8 z) := by rw [e1]; rfl
  simp only [List.getElem?_take, List.getElem?_drop, Nat.add_zero] at h0
  rw [if_pos (by omega)] at h0
  rw [h0, e4]
  simp [hr]
 ·rw [List.getElem?_eq_none (by omega), List.getElem?_eq_none (by simpa using hr)]
theorem fits_gH {l : List (String × DataW Unit)} {W : World} (h : laidMet Tryz.prog l W) (hmem : ("math/bits.deBruijn64tab", .agg (Lib.deBruijn64tab.map fun (z : Nat) => .lit (.int .u8 z))) ∈ l) : Fits gH W := fun b c hb => by
 unfold gH at hb
 split at hb
 ·rename_i hbb
  cases hb
  obtain rfl := Nat.eq_of_beq_eq_true hbb
  exact laid_gH h hmem (by kernel_rfl) (by kernel_rfl) Tryz.underlying247 Tryz.underlying5 (by kernel_rfl) (by kernel_rfl)
 ·cases hb
theorem gl_of_fits {W : World} (h : Fits gH W) : ∀ g cs, VM.ctx.gl g = some cs → ∃ c U fz, W.heap[g]? = some (.cells c U fz) ∧ VM.VL (fun _ => none) cs (c.toList.take cs.length) := fun g cs hg => by
 have hm := VM.assoc_mem hg
 unfold VM.glL at hm
 simp only [List.mem_cons, List.mem_nil_iff, or_false, Prod.mk.injEq] at hm
 obtain ⟨rfl, rfl⟩ := hm
 obtain ⟨U, fz, hW⟩ := h 4 (Lib.deBruijn64tab.map fun (z : Nat) => Value.int .u8 (z : Int)).toArray rfl
 refine ⟨_, U, fz, hW, ?_, fun j x y hx hy => ?_⟩
 ·rfl
 ·have hx' : (Lib.deBruijn64tab.map fun (z : Nat) => VM.AV.int .u8 (.ofNat z))[j]? = some x := hx
  have hy' : (Lib.deBruijn64tab.map fun (z : Nat) => Value.int .u8 (z : Int))[j]? = some y := by
   rw [List.getElem?_take] at hy
   split at hy
   ·exact hy
   ·cases hy
  rw [List.getElem?_map] at hx' hy'
  obtain ⟨z, e1, rfl⟩ := Option.map_eq_some_iff.1 hx'
  rw [e1] at hy'
  cases hy'
  exact .int _ _
theorem known_pv : PV Tryz.prog 22 #[] (.bool true) := ⟨(cOf Tryz.func22 rfl (by kernel_rfl)), fun W hW => (VM.walk22 W (gl_of_fits hW)).mono fun e W' ⟨he, hb⟩ => ⟨he, hb⟩⟩
end Go.Proofs.YtjifapjpgmmcnaaGreatDoor
namespace Go.Proofs.YtjifapjpgmmcnaaGreatDoor
open Go.ChangeShapes Go.WideShapes Go.ChangeAt Go.RowKit
def hpOf (W : World) : Hp := fun b => match W.heap[b]? with
 | some (.cells c _ _) => some c
 | _ => none
theorem fits_hpOf (W : World) : Fits (hpOf W) W := fun b c h => by
 unfold hpOf at h
 split at h
 ·rename_i c' T fz hb; cases h; exact ⟨T, fz, hb⟩
 ·cases h
section
variable {H : Type} {enc : TypeId × Value → H} {P : Program} {w : World} {base : Nat} {spare : Nat → Bool} {held : Bool}
theorem ints_open {t e : TypeId} {k : IntKind} {fuel : Nat} {cs : List Value} {x : DataW H × List MemPlace} (ht : P.underlying t = some (.slice e)) (he : P.underlying e = some (.int k)) (hc : P.cellsOf e = 1) (h : DataW.trod enc P w base spare held fuel t cs = some x) :
  ∃ a len cap zs, cs = [.slice a len cap] ∧ SlN (fun z : Int => Value.int k z) (hpOf w) (.slice a len cap) zs ∧ ∀ n ∈ zs, (Lit.int k n).wf = true := by
 rcases open_ints ht he hc h with ⟨rfl, _⟩ | ⟨x, len, cap, zs, rfl, _, hl, hm, hz, _, hcell, hw⟩
 ·exact ⟨none, 0, 0, [], rfl, nil_sl _ _, fun n hn => by cases hn⟩
 ·have hzl : len ≤ zs.length := by rw [hz]; split <;> omega
  refine ⟨some x, len, cap, zs.take len, rfl, ?_, fun n hn => hw n (List.mem_of_mem_take hn)⟩
  have hlen : (zs.take len).length = len := by rw [List.length_take]; omega
  unfold SlN
  rw [hlen]
  refine ⟨by rw [List.length_map, hlen, Nat.mul_one], ?_⟩
  by_cases h0 : len = 0
  ·subst h0; exact .inl ⟨rfl, some x, cap, rfl⟩
  ·right
   have h1 := hcell 0 (by omega)
   obtain ⟨b, off, sp⟩ := x
   have hsp : sp = none := by
    cases sp with
    | none => rfl
    | some s => simp only [World.cell?, Addr.add] at h1; split at h1 <;> simp_all
   subst hsp
   have hb : ∃ c, hpOf w b = some c ∧ ∀ i, i < zs.length → c[off + i]? = some (.int k (zs.getD i 0)) := by
    simp only [Addr.add_mid] at hcell
    unfold World.cell? at hcell
    unfold hpOf
    simp only at hcell
    cases hw' : w.heap[b]? with
    | none => have := hcell 0 (by omega); rw [hw'] at this; cases this
    | some o =>
     cases o with
     | cells c T fz => exact ⟨c, rfl, fun i hi => by have := hcell i hi; rw [hw'] at this; simpa using this⟩
     | _ => have := hcell 0 (by omega); rw [hw'] at this; cases this
   obtain ⟨c, hc1, hc2⟩ := hb
   refine ⟨b, off, cap, c, rfl, hl, hc1, fun j y hj => ?_⟩
   rw [List.getElem?_map, List.getElem?_take] at hj
   split at hj
   ·rename_i hjl
    rw [hc2 j (by omega), ← hj, List.getD_eq_getElem?_getD, List.getElem?_eq_getElem (by omega)]; rfl
   ·cases hj
theorem bytes_open {t e : TypeId} {fuel : Nat} {cs : List Value} {x : DataW H × List MemPlace} (ht : P.underlying t = some (.slice e)) (he : P.underlying e = some (.int .u8)) (hc : P.cellsOf e = 1) (h : DataW.trod enc P w base spare held fuel t cs = some x) :
  ∃ a len cap l, cs = [.slice a len cap] ∧ SlN n8 (hpOf w) (.slice a len cap) l ∧ Dig 256 l := by
 obtain ⟨a, len, cap, zs, rfl, hs, hw⟩ := ints_open ht he hc h
 have hz : ∀ n ∈ zs, 0 ≤ n ∧ n < 256 := fun n hn => by have := bounds_u8 (hw n hn); omega
 refine ⟨a, len, cap, zs.map Int.toNat, rfl, ?_, fun y hy => ?_⟩
 ·unfold SlN at hs ⊢
  rw [List.length_map, List.map_map]
  have : zs.map (n8 ∘ Int.toNat) = zs.map fun z : Int => Value.int .u8 z := List.map_congr_left fun z hzm => by
   show Value.int .u8 ((z.toNat : Nat) : Int) = _
   rw [Int.toNat_of_nonneg (hz z hzm).1]
  rw [this]; exact hs
 ·obtain ⟨z, hzm, rfl⟩ := List.mem_map.1 hy
  have := hz z hzm; omega
end
theorem i64_bounds {z : Int} (h : (Lit.int .i64 z).wf = true) : -9223372036854775808 ≤ z ∧ z < 9223372036854775808 := by
 have := bounds_i64 h; omega
theorem four_of {α : Type} : ∀ {l : List α}, l.length = 4 → ∃ a b c d, l = [a, b, c, d]
 | [a, b, c, d], _ => ⟨a, b, c, d, rfl⟩
theorem raw_open {H : Type} {enc : TypeId × Value → H} {w : World} {base : Nat} {spare : Nat → Bool} {held : Bool} {v : Value} {d : DataW H} {p : List MemPlace} (hv : ∃ cs, v = .agg cs) (h : DataW.Trod enc Tryz.prog w base spare held 24 v d p) : RawQ (hpOf w) v := by
 obtain ⟨cs, rfl⟩ := hv
 obtain ⟨fuel, h⟩ := h
 obtain ⟨xs, n, _, hx, hl, hlen, hf⟩ := DataW.trod_struct Tryz.underlying24 h
 rw [show Tryz.prog.cellsOf 24 = 4 from by kernel_rfl] at hl
 have hl4 : cs.toList.length = 4 := hl
 obtain ⟨l, rfl⟩ : ∃ l : List Value, cs = l.toArray := ⟨cs.toList, by simp⟩
 have hl4' : l.length = 4 := by simpa using hl4
 obtain ⟨c0, c1, c2, c3, rfl⟩ := four_of hl4'
 have hx4 : xs.length = 4 := hlen
 have f0 : DataW.trod enc Tryz.prog w base spare held n 3 (([c0, c1, c2, c3].drop 0).take (Tryz.prog.cellsOf 3)) = xs[0]? := hf 0 _ rfl
 have f1 : DataW.trod enc Tryz.prog w base spare held n 22 (([c0, c1, c2, c3].drop 1).take (Tryz.prog.cellsOf 22)) = xs[1]? := hf 1 _ rfl
 have f2 : DataW.trod enc Tryz.prog w base spare held n 22 (([c0, c1, c2, c3].drop 2).take (Tryz.prog.cellsOf 22)) = xs[2]? := hf 2 _ rfl
 have f3 : DataW.trod enc Tryz.prog w base spare held n 4 (([c0, c1, c2, c3].drop 3).take (Tryz.prog.cellsOf 4)) = xs[3]? := hf 3 _ rfl
 rw [show Tryz.prog.cellsOf 3 = 1 from by kernel_rfl] at f0
 rw [show Tryz.prog.cellsOf 22 = 1 from by kernel_rfl] at f1 f2
 rw [show Tryz.prog.cellsOf 4 = 1 from by kernel_rfl] at f3
 rw [List.getElem?_eq_getElem (by omega)] at f0 f1 f2 f3
 obtain ⟨z, e0, _, w0⟩ := DataW.trod_int Tryz.underlying3 f0
 obtain ⟨a1, l1, k1, b1, e1, s1, d1⟩ := bytes_open Tryz.underlying22 Tryz.underlying5 (by kernel_rfl) f1
 obtain ⟨a2, l2, k2, b2, e2, s2, d2⟩ := bytes_open Tryz.underlying22 Tryz.underlying5 (by kernel_rfl) f2
 obtain ⟨b, e3, _⟩ := DataW.trod_bool Tryz.underlying4 f3
 have g0 : [c0] = [.int .i64 z] := e0
 have g1 : [c1] = [.slice a1 l1 k1] := e1
 have g2 : [c2] = [.slice a2 l2 k2] := e2
 have g3 : [c3] = [.bool b] := e3
 cases g0; cases g1; cases g2; cases g3
 exact ⟨z, _, _, b1, b2, b, rfl, i64_bounds w0, s1, s2, d1, d2⟩
end Go.Proofs.YtjifapjpgmmcnaaGreatDoor
