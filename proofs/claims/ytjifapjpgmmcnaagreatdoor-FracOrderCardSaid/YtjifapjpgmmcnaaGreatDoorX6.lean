/- Texts of ours in one: Fr1, Fr2, Fr3, Ha1, Ev15, Ha2, Lw1, Fr4, Lw2, Str1, Lw3, NearP, NearQ, Lw4, LaidE, Kn, Opn. -/
import Derived.Test.YtjifapjpgmmcnaaGreatDoorX2
import Derived.Test.YtjifapjpgmmcnaaGreatDoorX3
import Derived.Test.YtjifapjpgmmcnaaGreatDoorX4
import Derived.Test.YtjifapjpgmmcnaaGreatDoorX5
import Derived.WalkKit
import Derived.ProofKit
import Derived.OpenShut
set_option linter.unusedVariables false
set_option linter.unusedSimpArgs false

namespace Go.Proofs.YtjifapjpgmmcnaaGreatDoor
open Go.RowKit
abbrev frV (n : Int) (d : Nat) : Value := .agg #[.bool (decide (n < 0)), .int .u64 (lo n.natAbs : Int), .string (moreB n.natAbs), .int .u64 (lo d : Int), .string (moreB d)]
def dk (d : Nat) : Nat := if d = 1 then 0 else d
abbrev fracV (q : Rat) : Value := frV q.num (dk q.den)
theorem dk_one : dk 1 = 0 := rfl
theorem dk_ne {d : Nat} (h : d ≠ 1) : dk d = d := if_neg h
theorem dk_bl (d : Nat) : bl (dk d) ≤ bl d := by
 unfold dk; split
 ·rw [bl_zero]; omega
 ·exact Nat.le_refl _
theorem dk_zero (q : Rat) : dk q.den = 0 ↔ q.den = 1 := by
 have := q.den_nz
 unfold dk; split <;> omega
theorem bl_one : bl 1 = 1 := by have := bl_pow2 0; simpa using this
theorem bl_eq_one {n : Nat} : bl n = 1 ↔ n = 1 := by
 constructor
 ·intro h
  have h1 := lt_bl n
  rw [h] at h1
  have : n ≠ 0 := fun e => by rw [e, bl_zero] at h; omega
  omega
 ·rintro rfl; exact bl_one
theorem beq_bl_one (n : Nat) : (((bl n : Nat) : Int) == 1) = decide (n = 1) := by
 by_cases h : n = 1
 ·rw [decide_eq_true h, bl_eq_one.2 h]; rfl
 ·rw [decide_eq_false h]
  have : bl n ≠ 1 := fun e => h (bl_eq_one.1 e)
  simp; omega
theorem frV_zero (n : Int) : frV n 0 = .agg #[.bool (decide (n < 0)), .int .u64 (lo n.natAbs : Int), .string (moreB n.natAbs), .int .u64 0, .string ⟨#[]⟩] := by
 unfold frV
 rw [moreB_empty (n := 0) (by decide)]; rfl
theorem pack_pv (n : Int) (d : Nat) (hd : big d) : PV Tryz.prog 110 #[intV n, natV d] (frV n (dk d)) := by
 refine PV.of_pc ?_
 refine PC.body Tryz.tab_ok Tryz.func110 rfl (by kernel_rfl) Tryz.ntmps110 rfl rfl ?_
 repeat (first | refine RUN ?_ | refine CV (bits_pv d hd) ?_ | refine CE (bits_pv d hd) ?_)
 rw [beq_bl_one]
 by_cases h : d = 1
 ·rw [decide_eq_true h]
  (try refine RUN ?_)
  rw [h, dk_one, frV_zero]
 ·rw [decide_eq_false h]
  (try refine RUN ?_)
  rw [dk_ne h]
theorem over_pv (a b : Nat) (ha : big a) (hb : big b) (h0 : b ≠ 0) : PV Tryz.prog 109 #[natV a, natV b] (natV (a / b)) := by
 refine PV.of_pc ?_
 refine PC.body Tryz.tab_ok Tryz.func109 rfl (by kernel_rfl) Tryz.ntmps109 rfl rfl ?_
 repeat (first | refine RUN ?_ | refine CV (bits_pv b hb) ?_ | refine CE (bits_pv b hb) ?_)
 rw [beq_bl_one]
 by_cases h : b = 1
 ·rw [decide_eq_true h]
  (try refine RUN ?_)
  rw [h, Nat.div_one]
 ·rw [decide_eq_false h]
  repeat (first | refine RUN ?_ | refine CV (natDiv_pv a b h0 ha hb) ?_ | refine CE (natDiv_pv a b h0 ha hb) ?_)
  rfl
theorem part_pv (n : Int) (b : Nat) (hn : bigI n) (hb : big b) (h0 : b ≠ 0) (hdv : b ∣ n.natAbs) : PV Tryz.prog 111 #[intV n, natV b] (intV (n / (b : Int))) := by
 have hs : decide (n.sign < 0) = decide (n < 0) := by rw [decide_eq_decide]; exact Int.sign_neg_iff
 have hf := from_pv (decide (n < 0)) (n.natAbs / b) (Nat.le_trans (bl_div _ _) hn)
 have e : sg (decide (n < 0)) (n.natAbs / b) = n / (b : Int) := by
  rw [part_eq n b hdv]; unfold sg
  by_cases h : n < 0 <;> simp [h]
 rw [e] at hf
 refine PV.of_pc ?_
 refine PC.body Tryz.tab_ok Tryz.func111 rfl (by kernel_rfl) Tryz.ntmps111 rfl rfl ?_
 (try refine RUN ?_)
 apply EV.drawn 7 (by kernel_rfl) (by kernel_rfl); intro xv yw
 (repeat (first | refine' DV (h := ?_) | refine' DA (h := ?_) | refine' DK0 (h := ?_) | (refine' DJ.setb Tryz.tab_ok rfl rfl rfl rfl rfl rfl rfl rfl rfl rfl rfl ?_; rotate_left) | (refine' DC (wholeSign_pv n hn) (h := ?_); rotate_left) | refine' DS (h := ?_)))
 rw [hs]
 (repeat (first | refine' DV (h := ?_) | refine' DA (h := ?_) | refine' DK0 (h := ?_) | (refine' DJ.setb Tryz.tab_ok rfl rfl rfl rfl rfl rfl rfl rfl rfl rfl rfl ?_; rotate_left) | (refine' DC (wholeAbs_pv n) (h := ?_); rotate_left) | (refine' DC (over_pv _ _ hn hb h0) (h := ?_); rotate_left) | refine' DS (h := ?_)))
 (refine DJ.nil (fun G hG hF => ?_); (case hS => rfl); (case hS2 => rfl))
 repeat (first | refine RUN ?_ | refine CV (hf) ?_ | refine CE (hf) ?_)
 rfl
theorem times_pv (n : Int) (d : Nat) (hn : bigI n) (hd : big d) (hnd : big (n.natAbs * d)) : PV Tryz.prog 108 #[intV n, natV d] (intV (n * d)) := by
 have hm := wholeMul_pv n (d : Int) hn hd (by show big (n * (d : Int)).natAbs; rw [Int.natAbs_mul]; exact hnd)
 refine PV.of_pc ?_
 refine PC.body Tryz.tab_ok Tryz.func108 rfl (by kernel_rfl) Tryz.ntmps108 rfl rfl ?_
 (try refine RUN ?_)
 apply EV.drawn 3 (by kernel_rfl) (by kernel_rfl); intro xv yw
 (repeat (first | refine' DV (h := ?_) | refine' DA (h := ?_) | refine' DK0 (h := ?_) | (refine' DJ.setb Tryz.tab_ok rfl rfl rfl rfl rfl rfl rfl rfl rfl rfl rfl ?_; rotate_left) | (refine' DC (from_pv false d hd) (h := ?_); rotate_left) | refine' DS (h := ?_)))
 (refine DJ.nil (fun G hG hF => ?_); (case hS => rfl); (case hS2 => rfl))
 repeat (first | refine RUN ?_ | refine CV (hm) ?_ | refine CE (hm) ?_)
 rfl
theorem isWhole_pv (q : Rat) (h : big q.den) : PV Tryz.prog 106 #[fracV q] (.bool (decide (q.den = 1))) := by
 refine PV.of_pc ?_
 refine PC.body Tryz.tab_ok Tryz.func106 rfl (by kernel_rfl) Tryz.ntmps106 rfl rfl ?_
 repeat (first | refine RUN ?_ | refine CV (bits_pv (dk q.den) (Nat.le_trans (dk_bl _) h)) ?_ | refine CE (bits_pv (dk q.den) (Nat.le_trans (dk_bl _) h)) ?_)
 have e : (((bl (dk q.den) : Nat) : Int) == 0) = decide (q.den = 1) := by
  by_cases h1 : q.den = 1
  ·rw [decide_eq_true h1, (dk_zero q).2 h1, bl_zero]; rfl
  ·rw [decide_eq_false h1]
   have h2 : bl (dk q.den) ≠ 0 := fun e => h1 ((dk_zero q).1 (bl_eq_zero.1 e))
   simp; omega
 rw [e]
theorem den_pv (q : Rat) (h : big q.den) : PV Tryz.prog 43 #[fracV q] (natV q.den) := by
 refine PV.of_pc ?_
 refine PC.body Tryz.tab_ok Tryz.func43 rfl (by kernel_rfl) Tryz.ntmps43 rfl rfl ?_
 repeat (first | refine RUN ?_ | refine CV (isWhole_pv q h) ?_ | refine CE (isWhole_pv q h) ?_)
 by_cases h1 : q.den = 1
 ·rw [decide_eq_true h1]
  repeat (first | refine RUN ?_ | refine CV (natOf_pv 1 (by decide)) ?_ | refine CE (natOf_pv 1 (by decide)) ?_)
  rw [h1]
 ·rw [decide_eq_false h1]
  (try refine RUN ?_)
  rw [dk_ne h1]
theorem sign_pv (q : Rat) (h : bigI q.num) : PV Tryz.prog 24 #[fracV q] (.int .i64 q.num.sign) := by
 refine PV.of_pc ?_
 refine PC.body Tryz.tab_ok Tryz.func24 rfl (by kernel_rfl) Tryz.ntmps24 rfl rfl ?_
 repeat (first | refine RUN ?_ | refine CV (wholeSign_pv q.num h) ?_ | refine CE (wholeSign_pv q.num h) ?_)
 rfl
theorem neg_pv (q : Rat) (h : bigI q.num) : PV Tryz.prog 45 #[fracV q] (fracV (-q)) := by
 refine PV.of_pc ?_
 refine PC.body Tryz.tab_ok Tryz.func45 rfl (by kernel_rfl) Tryz.ntmps45 rfl rfl ?_
 (try refine RUN ?_)
 (apply EV.drawn 5 (by kernel_rfl) (by kernel_rfl); intro xv yw; (repeat (first | refine' DV (h := ?_) | refine' DA (h := ?_) | refine' DK0 (h := ?_) | (refine' DC (wholeNeg_pv q.num h) (h := ?_); rotate_left) | refine' DS (h := ?_))); refine DJ.nil (fun G hG hF => ?_); (case hS => rfl); (case hS2 => rfl))
 (try refine RUN ?_)
 rfl
theorem abs_pv (q : Rat) (h : bigI q.num) : PV Tryz.prog 40 #[fracV q] (frV (q.num.natAbs : Int) (dk q.den)) := by
 refine PV.of_pc ?_
 refine PC.body Tryz.tab_ok Tryz.func40 rfl (by kernel_rfl) Tryz.ntmps40 rfl rfl ?_
 (try refine RUN ?_)
 (apply EV.drawn 6 (by kernel_rfl) (by kernel_rfl); intro xv yw; (repeat (first | refine' DV (h := ?_) | refine' DA (h := ?_) | refine' DK0 (h := ?_) | (refine' DC (wholeAbs_pv q.num) (h := ?_); rotate_left) | (refine' DC (from_pv false q.num.natAbs h) (h := ?_); rotate_left) | refine' DS (h := ?_))); refine DJ.nil (fun G hG hF => ?_); (case hS => rfl); (case hS2 => rfl))
 (try refine RUN ?_)
 rfl
theorem lowest_pv (n : Int) (d : Nat) (hn : bigI n) (hd : big d) (h0 : d ≠ 0) : PV Tryz.prog 114 #[intV n, natV d] (fracV (mkRat n d)) := by
 have hl := rat_lowest n d h0
 have hg0 : Nat.gcd n.natAbs d ≠ 0 := Nat.gcd_ne_zero_right h0
 have hgb : big (Nat.gcd n.natAbs d) := Nat.le_trans (bl_gcd_right _ _ h0) hd
 have hg := gcd_pv n (d : Int) hn hd
 have f1 := part_pv n (Nat.gcd n.natAbs d) hn hgb hg0 (Nat.gcd_dvd_left ..)
 have f2 := over_pv d (Nat.gcd n.natAbs d) hd hgb hg0
 have f3 := pack_pv (n / (Nat.gcd n.natAbs d : Nat)) (d / Nat.gcd n.natAbs d) (Nat.le_trans (bl_div _ _) hd)
 rw [← hl.1] at f1
 rw [← hl.2] at f2
 rw [← hl.1, ← hl.2] at f3
 refine PV.of_pc ?_
 refine PC.body Tryz.tab_ok Tryz.func114 rfl (by kernel_rfl) Tryz.ntmps114 rfl rfl ?_
 (try refine RUN ?_)
 (apply EV.drawn 5 (by kernel_rfl) (by kernel_rfl); intro xv yw; (repeat (first | refine' DV (h := ?_) | refine' DA (h := ?_) | refine' DK0 (h := ?_) | (refine' DC (from_pv false d hd) (h := ?_); rotate_left) | (refine' DC (hg) (h := ?_); rotate_left) | refine' DS (h := ?_))); refine DJ.nil (fun G hG hF => ?_); (case hS => rfl); (case hS2 => rfl))
 (try refine RUN ?_)
 (apply EV.drawn 7 (by kernel_rfl) (by kernel_rfl); intro xv yw; (repeat (first | refine' DV (h := ?_) | refine' DA (h := ?_) | refine' DK0 (h := ?_) | (refine' DC (f1) (h := ?_); rotate_left) | (refine' DC (f2) (h := ?_); rotate_left) | (refine' DC (f3) (h := ?_); rotate_left) | refine' DS (h := ?_))); refine DJ.nil (fun G hG hF => ?_); (case hS => rfl); (case hS2 => rfl))
 (try refine RUN ?_)
 rfl
theorem make_pv (n d : Int) (hn : bigI n) (hd : bigI d) (h0 : d ≠ 0) : PV Tryz.prog 34 #[intV n, intV d] (.tuple #[fracV (mkRat (if d < 0 then -n else n) d.natAbs), .bool true]) := by
 have l1 := lowest_pv (-n) d.natAbs (by show big (-n).natAbs; rw [Int.natAbs_neg]; exact hn) hd (by omega)
 have l2 := lowest_pv n d.natAbs hn hd (by omega)
 refine PV.of_pc ?_
 refine PC.body Tryz.tab_ok Tryz.func34 rfl (by kernel_rfl) Tryz.ntmps34 rfl rfl ?_
 repeat (first | refine RUN ?_ | refine CV (wholeSign_pv d hd) ?_ | refine CE (wholeSign_pv d hd) ?_)
 rw [show (d.sign == 0) = false by simp [Int.sign_eq_zero_iff_zero, h0]]
 repeat (first | refine RUN ?_ | refine CV (wholeSign_pv d hd) ?_ | refine CE (wholeSign_pv d hd) ?_)
 by_cases h : d < 0
 ·rw [decide_eq_true (Int.sign_neg_iff.2 h), if_pos h]
  repeat (first | refine RUN ?_ | refine CV (wholeNeg_pv n hn) ?_ | refine CE (wholeNeg_pv n hn) ?_)
  apply EV.drawn 3 (by kernel_rfl) (by kernel_rfl); intro xv yw
  (repeat (first | refine' DV (h := ?_) | refine' DA (h := ?_) | refine' DK0 (h := ?_) | (refine' DJ.setb Tryz.tab_ok rfl rfl rfl rfl rfl rfl rfl rfl rfl rfl rfl ?_; rotate_left) | (refine' DC (wholeAbs_pv d) (h := ?_); rotate_left) | refine' DS (h := ?_)))
  (refine DJ.nil (fun G hG hF => ?_); (case hS => rfl); (case hS2 => rfl))
  repeat (first | refine RUN ?_ | refine CV (l1) ?_ | refine CE (l1) ?_)
  rfl
 ·rw [decide_eq_false (fun e => h (Int.sign_neg_iff.1 e)), if_neg h]
  (try refine RUN ?_)
  apply EV.drawn 3 (by kernel_rfl) (by kernel_rfl); intro xv yw
  (repeat (first | refine' DV (h := ?_) | refine' DA (h := ?_) | refine' DK0 (h := ?_) | (refine' DJ.setb Tryz.tab_ok rfl rfl rfl rfl rfl rfl rfl rfl rfl rfl rfl ?_; rotate_left) | (refine' DC (wholeAbs_pv d) (h := ?_); rotate_left) | refine' DS (h := ?_)))
  (refine DJ.nil (fun G hG hF => ?_); (case hS => rfl); (case hS2 => rfl))
  repeat (first | refine RUN ?_ | refine CV (l2) ?_ | refine CE (l2) ?_)
  rfl
abbrev frL (n : Int) (d : Nat) : List Value := [.bool (decide (n < 0)), .int .u64 (lo n.natAbs : Int), .string (moreB n.natAbs), .int .u64 (lo d : Int), .string (moreB d)]
abbrev sm (q : Rat) : Prop := ht q ≤ 100000000
theorem sm.num {q : Rat} (h : sm q) : bl q.num.natAbs ≤ 100000000 := Nat.le_trans (bl_num_le q) h
theorem sm.den {q : Rat} (h : sm q) : bl q.den ≤ 100000000 := Nat.le_trans (bl_den_le q) h
theorem mul_pv (a b : Rat) (ha : sm a) (hb : sm b) : PV Tryz.prog 42 #[fracV a, fracV b] (fracV (a * b)) := by
 have na := ha.num; have da := ha.den; have nb := hb.num; have db := hb.den
 have bna : bigI a.num := Nat.le_trans na (by omega)
 have bnb : bigI b.num := Nat.le_trans nb (by omega)
 have bda : big a.den := Nat.le_trans da (by omega)
 have bdb : big b.den := Nat.le_trans db (by omega)
 have hm := rat_mul a b _ _ rfl rfl
 generalize hg : Nat.gcd a.num.natAbs b.den = g at hm
 generalize hh : Nat.gcd b.num.natAbs a.den = h at hm
 have hg0 : g ≠ 0 := by rw [← hg]; exact Nat.gcd_ne_zero_right b.den_nz
 have hh0 : h ≠ 0 := by rw [← hh]; exact Nat.gcd_ne_zero_right a.den_nz
 have bg : big g := by rw [← hg]; exact Nat.le_trans (bl_gcd_right _ _ b.den_nz) bdb
 have bh : big h := by rw [← hh]; exact Nat.le_trans (bl_gcd_right _ _ a.den_nz) bda
 have g1 := gcd_pv a.num (b.den : Int) bna bdb
 have g2 := gcd_pv b.num (a.den : Int) bnb bda
 rw [Int.natAbs_natCast, hg] at g1
 rw [Int.natAbs_natCast, hh] at g2
 have p1 := part_pv a.num g bna bg hg0 (by rw [← hg]; exact Nat.gcd_dvd_left ..)
 have p2 := part_pv b.num h bnb bh hh0 (by rw [← hh]; exact Nat.gcd_dvd_left ..)
 have b1 : bl (a.num / (g : Int)).natAbs ≤ 100000000 := Nat.le_trans (bl_mono (natAbs_ediv_le _ _)) na
 have b2 : bl (b.num / (h : Int)).natAbs ≤ 100000000 := Nat.le_trans (bl_mono (natAbs_ediv_le _ _)) nb
 have b3 : bl (a.den / h) ≤ 100000000 := Nat.le_trans (bl_div _ _) da
 have b4 : bl (b.den / g) ≤ 100000000 := Nat.le_trans (bl_div _ _) db
 have m1 := wholeMul_pv (a.num / (g : Int)) (b.num / (h : Int)) (Nat.le_trans b1 (by omega)) (Nat.le_trans b2 (by omega)) (by
  show big (_ * _ : Int).natAbs
  rw [Int.natAbs_mul]; have := bl_mul (a.num / (g : Int)).natAbs (b.num / (h : Int)).natAbs; show bl _ ≤ _; omega)
 have m2 := natMul_pv (a.den / h) (b.den / g) (Nat.le_trans b3 (by omega)) (Nat.le_trans b4 (by omega))
 have pk := pack_pv (a * b).num (a * b).den (by rw [hm.2]; have := bl_mul (a.den / h) (b.den / g); show bl _ ≤ _; omega)
 have o1 := over_pv a.den h bda bh hh0
 have o2 := over_pv b.den g bdb bg hg0
 rw [← hm.1] at m1
 rw [← hm.2] at m2
 have w1 := isWhole_pv a bda
 have w2 := isWhole_pv b bdb
 refine PV.of_pc ?_
 refine PC.body Tryz.tab_ok Tryz.func42 rfl (by kernel_rfl) Tryz.ntmps42 rfl rfl ?_
 repeat (first | refine RUN ?_ | refine CV (w1) ?_ | refine CE (w1) ?_)
 refine EVL.meet (fun env' bx' H' => SubL env' [(12, .v (.bool (decide (a.den = 1 ∧ b.den = 1)))), (4, .p 4 0), (3, .p 3 0), (2, .p 2 0)] ∧ SubX bx' [(4, 45, Tryz.te45.zero), (3, 45, frL b.num (dk b.den)), (2, 45, frL a.num (dk a.den))] ∧ H' = ⟨fun _ => none, [], ⟨fun _ => none, []⟩⟩) ?_ ?_
 ·rintro env' bx' H' _ ⟨he, hbx, rfl⟩
  refine EV.less _ _ he hbx rfl ?_
  by_cases hab : a.den = 1 ∧ b.den = 1
  ·rw [decide_eq_true hab]
   have e1 : g = 1 := by rw [← hg, hab.2, Nat.gcd_one_right]
   have e2 : h = 1 := by rw [← hh, hab.1, Nat.gcd_one_right]
   have e3 : (a * b).den = 1 := by rw [hm.2, hab.1, hab.2, e1, e2]
   rw [e1, e2] at m1
   simp only [Int.natCast_one, Int.ediv_one] at m1
   repeat (first | refine RUN ?_ | refine CV (m1) ?_ | refine CE (m1) ?_)
   show _ = frV (a * b).num (dk (a * b).den)
   rw [e3, dk_one, frV_zero]
  ·rw [decide_eq_false hab]
   (try refine RUN ?_)
   have d1 := den_pv a bda
   have d2 := den_pv b bdb
   have s1 := from_pv false a.den bda
   have s2 := from_pv false b.den bdb
   (apply EV.drawn 7 (by kernel_rfl) (by kernel_rfl); intro xv yw; (repeat (first | refine' DV (h := ?_) | refine' DA (h := ?_) | refine' DK0 (h := ?_) | (refine' DC (d2) (h := ?_); rotate_left) | (refine' DC (s2) (h := ?_); rotate_left) | (refine' DC (g1) (h := ?_); rotate_left) | refine' DS (h := ?_))); refine DJ.nil (fun G hG hF => ?_); (case hS => rfl); (case hS2 => rfl))
   (try refine RUN ?_)
   (apply EV.drawn 7 (by kernel_rfl) (by kernel_rfl); intro xv yw; (repeat (first | refine' DV (h := ?_) | refine' DA (h := ?_) | refine' DK0 (h := ?_) | (refine' DC (d1) (h := ?_); rotate_left) | (refine' DC (s1) (h := ?_); rotate_left) | (refine' DC (g2) (h := ?_); rotate_left) | refine' DS (h := ?_))); refine DJ.nil (fun G hG hF => ?_); (case hS => rfl); (case hS2 => rfl))
   (try refine RUN ?_)
   apply EV.drawn 16 (by kernel_rfl) (by kernel_rfl); intro xv yw
   (repeat (first | refine' DV (h := ?_) | refine' DA (h := ?_) | refine' DK0 (h := ?_) | (refine' DJ.setb Tryz.tab_ok rfl rfl rfl rfl rfl rfl rfl rfl rfl rfl rfl ?_; rotate_left) | (refine' DC (p1) (h := ?_); rotate_left) | (refine' DC (p2) (h := ?_); rotate_left) | (refine' DC (m1) (h := ?_); rotate_left) | (refine' DC (d1) (h := ?_); rotate_left) | (refine' DC (d2) (h := ?_); rotate_left) | (refine' DC (o1) (h := ?_); rotate_left) | (refine' DC (o2) (h := ?_); rotate_left) | refine' DS (h := ?_)))
   (refine DJ.nil (fun G hG hF => ?_); (case hS => rfl); (case hS2 => rfl))
   repeat (first | refine RUN ?_ | refine CV (o2) ?_ | refine CV (m2) ?_ | refine CV (pk) ?_ | refine CE (o2) ?_ | refine CE (m2) ?_ | refine CE (pk) ?_)
   rfl
 ·by_cases ha1 : a.den = 1
  ·rw [decide_eq_true ha1]
   repeat (first | refine RUN ?_ | refine CV (w2) ?_ | refine CE (w2) ?_)
   refine ⟨⟨?_, rfl, rfl, rfl, trivial⟩, ⟨rfl, rfl, rfl, trivial⟩, rfl⟩
   simp [ha1]; rfl
  ·rw [decide_eq_false ha1]
   (try refine RUN ?_)
   refine ⟨⟨?_, rfl, rfl, rfl, trivial⟩, ⟨rfl, rfl, rfl, trivial⟩, rfl⟩
   simp [ha1]; rfl
theorem add_pv (a b : Rat) (ha : sm a) (hb : sm b) : PV Tryz.prog 32 #[fracV a, fracV b] (fracV (a + b)) := by
 have na := ha.num; have da := ha.den; have nb := hb.num; have db := hb.den
 have bna : bigI a.num := Nat.le_trans na (by omega)
 have bnb : bigI b.num := Nat.le_trans nb (by omega)
 have bda : big a.den := Nat.le_trans da (by omega)
 have bdb : big b.den := Nat.le_trans db (by omega)
 have hm := rat_add a b _ _ _ _ _ rfl rfl rfl rfl rfl
 generalize hg : Nat.gcd a.den b.den = g at hm
 have hg0 : g ≠ 0 := by rw [← hg]; exact Nat.gcd_ne_zero_right b.den_nz
 have bgl : bl g ≤ 100000000 := by rw [← hg]; exact Nat.le_trans (bl_gcd_right _ _ b.den_nz) db
 have bg : big g := Nat.le_trans bgl (by omega)
 have g1 := gcd_pv (a.den : Int) (b.den : Int) bda bdb
 rw [Int.natAbs_natCast, Int.natAbs_natCast, hg] at g1
 have o1 := over_pv a.den g bda bg hg0
 have o2 := over_pv b.den g bdb bg hg0
 have b1 : bl (a.den / g) ≤ 100000000 := Nat.le_trans (bl_div _ _) da
 have b2 : bl (b.den / g) ≤ 100000000 := Nat.le_trans (bl_div _ _) db
 have hone : a.den = 1 ∧ b.den = 1 → g = 1 ∧ a.den / g = 1 ∧ b.den / g = 1 := fun h => by
  have : g = 1 := by rw [← hg, h.1, h.2]; rfl
  rw [this, h.1, h.2]; exact ⟨rfl, rfl, rfl⟩
 generalize hdown : a.den / g = down at *
 generalize hother : b.den / g = other at *
 have c1 := bl_mul a.num.natAbs other
 have c2 := bl_mul b.num.natAbs down
 have t1 := times_pv a.num other bna (Nat.le_trans b2 (by omega)) (by show bl _ ≤ _; omega)
 have t2 := times_pv b.num down bnb (Nat.le_trans b1 (by omega)) (by show bl _ ≤ _; omega)
 have c1' : bl (a.num * (other : Int)).natAbs ≤ 200000000 := by rw [Int.natAbs_mul]; simp; omega
 have c2' : bl (b.num * (down : Int)).natAbs ≤ 200000000 := by rw [Int.natAbs_mul]; simp; omega
 have c3 := bl_add (a.num * (other : Int)).natAbs (b.num * (down : Int)).natAbs
 have ad := wholeAdd_pv (a.num * (other : Int)) (b.num * (down : Int)) (Nat.le_trans c1' (by omega)) (Nat.le_trans c2' (by omega)) (by show bl _ ≤ _; omega)
 have bup : bl (a.num * (other : Int) + b.num * (down : Int)).natAbs ≤ 200000001 := by
  have := bl_natAbs_add (a.num * (other : Int)) (b.num * (down : Int)); omega
 generalize hup : a.num * (other : Int) + b.num * (down : Int) = up at *
 generalize hh : Nat.gcd up.natAbs g = h at hm
 have hh0 : h ≠ 0 := by rw [← hh]; exact Nat.gcd_ne_zero_right hg0
 have bh : big h := by rw [← hh]; exact Nat.le_trans (bl_gcd_right _ _ hg0) bg
 have g2 := gcd_pv up (g : Int) (Nat.le_trans bup (by omega)) bg
 rw [Int.natAbs_natCast, hh] at g2
 have p1 := part_pv up h (Nat.le_trans bup (by omega)) bh hh0 (by rw [← hh]; exact Nat.gcd_dvd_left ..)
 have o3 := over_pv b.den h bdb bh hh0
 have b4 : bl (b.den / h) ≤ 100000000 := Nat.le_trans (bl_div _ _) db
 have m2 := natMul_pv down (b.den / h) (Nat.le_trans b1 (by omega)) (Nat.le_trans b4 (by omega))
 have pk := pack_pv (a + b).num (a + b).den (by rw [hm.2]; have := bl_mul down (b.den / h); show bl _ ≤ _; omega)
 rw [← hm.1] at p1
 rw [← hm.2] at m2
 have w1 := isWhole_pv a bda
 have w2 := isWhole_pv b bdb
 refine PV.of_pc ?_
 refine PC.body Tryz.tab_ok Tryz.func32 rfl (by kernel_rfl) Tryz.ntmps32 rfl rfl ?_
 repeat (first | refine RUN ?_ | refine CV (w1) ?_ | refine CE (w1) ?_)
 refine EVL.meet (fun env' bx' H' => SubL env' [(15, .v (.bool (decide (a.den = 1 ∧ b.den = 1)))), (4, .p 4 0), (3, .p 3 0), (2, .p 2 0)] ∧ SubX bx' [(4, 45, Tryz.te45.zero), (3, 45, frL b.num (dk b.den)), (2, 45, frL a.num (dk a.den))] ∧ H' = ⟨fun _ => none, [], ⟨fun _ => none, []⟩⟩) ?_ ?_
 ·rintro env' bx' H' _ ⟨he, hbx, rfl⟩
  refine EV.less _ _ he hbx rfl ?_
  by_cases hab : a.den = 1 ∧ b.den = 1
  ·rw [decide_eq_true hab]
   obtain ⟨e1, e2, e3⟩ := hone hab
   have e4 : h = 1 := by rw [← hh, e1, Nat.gcd_one_right]
   have e5 : (a + b).den = 1 := by rw [hm.2, e2, hab.2, e4]
   have e6 : (a + b).num = a.num + b.num := by rw [hm.1, e4, ← hup, e2, e3]; simp
   have c4 := bl_add a.num.natAbs b.num.natAbs
   have ad' := wholeAdd_pv a.num b.num bna bnb (by show bl _ ≤ _; omega)
   repeat (first | refine RUN ?_ | refine CV (ad') ?_ | refine CE (ad') ?_)
   show _ = frV (a + b).num (dk (a + b).den)
   rw [e5, dk_one, frV_zero, e6]
  ·rw [decide_eq_false hab]
   (try refine RUN ?_)
   have d1 := den_pv a bda
   have d2 := den_pv b bdb
   have s1 := from_pv false a.den bda
   have s2 := from_pv false b.den bdb
   have s3 := from_pv false g bg
   (apply EV.drawn 8 (by kernel_rfl) (by kernel_rfl); intro xv yw; (repeat (first | refine' DV (h := ?_) | refine' DA (h := ?_) | refine' DK0 (h := ?_) | (refine' DC (d1) (h := ?_); rotate_left) | (refine' DC (s1) (h := ?_); rotate_left) | (refine' DC (d2) (h := ?_); rotate_left) | (refine' DC (s2) (h := ?_); rotate_left) | (refine' DC (g1) (h := ?_); rotate_left) | refine' DS (h := ?_))); refine DJ.nil (fun G hG hF => ?_); (case hS => rfl); (case hS2 => rfl))
   (try refine RUN ?_)
   (apply EV.drawn 10 (by kernel_rfl) (by kernel_rfl); intro xv yw; (repeat (first | refine' DV (h := ?_) | refine' DA (h := ?_) | refine' DK0 (h := ?_) | (refine' DC (d1) (h := ?_); rotate_left) | (refine' DC (d2) (h := ?_); rotate_left) | (refine' DC (o1) (h := ?_); rotate_left) | (refine' DC (o2) (h := ?_); rotate_left) | refine' DS (h := ?_))); refine DJ.nil (fun G hG hF => ?_); (case hS => rfl); (case hS2 => rfl))
   (try refine RUN ?_)
   (apply EV.drawn 10 (by kernel_rfl) (by kernel_rfl); intro xv yw; (repeat (first | refine' DV (h := ?_) | refine' DA (h := ?_) | refine' DK0 (h := ?_) | (refine' DC (t1) (h := ?_); rotate_left) | (refine' DC (t2) (h := ?_); rotate_left) | (refine' DC (ad) (h := ?_); rotate_left) | refine' DS (h := ?_))); refine DJ.nil (fun G hG hF => ?_); (case hS => rfl); (case hS2 => rfl))
   (try refine RUN ?_)
   (apply EV.drawn 5 (by kernel_rfl) (by kernel_rfl); intro xv yw; (repeat (first | refine' DV (h := ?_) | refine' DA (h := ?_) | refine' DK0 (h := ?_) | (refine' DC (s3) (h := ?_); rotate_left) | (refine' DC (g2) (h := ?_); rotate_left) | refine' DS (h := ?_))); refine DJ.nil (fun G hG hF => ?_); (case hS => rfl); (case hS2 => rfl))
   (try refine RUN ?_)
   (apply EV.drawn 10 (by kernel_rfl) (by kernel_rfl); intro xv yw; (repeat (first | refine' DV (h := ?_) | refine' DA (h := ?_) | refine' DK0 (h := ?_) | (refine' DC (p1) (h := ?_); rotate_left) | (refine' DC (d2) (h := ?_); rotate_left) | (refine' DC (o3) (h := ?_); rotate_left) | (refine' DC (m2) (h := ?_); rotate_left) | (refine' DC (pk) (h := ?_); rotate_left) | refine' DS (h := ?_))); refine DJ.nil (fun G hG hF => ?_); (case hS => rfl); (case hS2 => rfl))
   (try refine RUN ?_)
   rfl
 ·by_cases ha1 : a.den = 1
  ·rw [decide_eq_true ha1]
   repeat (first | refine RUN ?_ | refine CV (w2) ?_ | refine CE (w2) ?_)
   refine ⟨⟨?_, rfl, rfl, rfl, trivial⟩, ⟨rfl, rfl, rfl, trivial⟩, rfl⟩
   simp [ha1]; rfl
  ·rw [decide_eq_false ha1]
   (try refine RUN ?_)
   refine ⟨⟨?_, rfl, rfl, rfl, trivial⟩, ⟨rfl, rfl, rfl, trivial⟩, rfl⟩
   simp [ha1]; rfl
theorem sub_pv (a b : Rat) (ha : sm a) (hb : sm b) : PV Tryz.prog 39 #[fracV a, fracV b] (fracV (a - b)) := by
 have h1 := neg_pv b (Nat.le_trans hb.num (by omega))
 have h2 := add_pv a (-b) ha (by show ht (-b) ≤ _; rw [ht_neg]; exact hb)
 rw [← Rat.sub_eq_add_neg] at h2
 refine PV.of_pc ?_
 refine PC.body Tryz.tab_ok Tryz.func39 rfl (by kernel_rfl) Tryz.ntmps39 rfl rfl ?_
 (try refine RUN ?_)
 (apply EV.drawn 4 (by kernel_rfl) (by kernel_rfl); intro xv yw; (repeat (first | refine' DV (h := ?_) | refine' DA (h := ?_) | refine' DK0 (h := ?_) | (refine' DC (h1) (h := ?_); rotate_left) | (refine' DC (h2) (h := ?_); rotate_left) | refine' DS (h := ?_))); refine DJ.nil (fun G hG hF => ?_); (case hS => rfl); (case hS2 => rfl))
 (try refine RUN ?_)
 rfl
theorem inv_frV (b : Rat) (h : b.num ≠ 0) : frV (sg (decide (b.num < 0)) b.den) (dk b.num.natAbs) = fracV b⁻¹ := by
 have e1 : b⁻¹.num = sg (decide (b.num < 0)) b.den := by
  rw [Rat.num_inv]; unfold sg
  rcases Int.lt_or_lt_of_ne h with h1 | h1
  ·simp [h1, Int.sign_eq_neg_one_of_neg h1]
  ·rw [Int.sign_eq_one_of_pos h1, decide_eq_false (by omega)]; simp
 have e2 : b⁻¹.den = b.num.natAbs := by
  rw [Rat.den_inv, if_neg]
  exact h
 rw [← e1, ← e2]
theorem div_pv (a b : Rat) (ha : sm a) (hb : sm b) (h0 : b ≠ 0) : PV Tryz.prog 41 #[fracV a, fracV b] (.tuple #[fracV (a / b), .bool true]) := by
 have hn0 : b.num ≠ 0 := fun e => h0 (Rat.num_eq_zero.1 e)
 have bnb : bigI b.num := Nat.le_trans hb.num (by omega)
 have bdb : big b.den := Nat.le_trans hb.den (by omega)
 have hm := mul_pv a b⁻¹ ha (Nat.le_trans (ht_inv b) hb)
 rw [← Rat.div_def] at hm
 have hp := pack_pv (sg (decide (b.num < 0)) b.den) b.num.natAbs bnb
 rw [inv_frV b hn0] at hp
 have s1 := from_pv (decide (b.num < 0)) b.den bdb
 have sg1 := sign_pv b bnb
 have ab := wholeAbs_pv b.num
 have d2 := den_pv b bdb
 refine PV.of_pc ?_
 refine PC.body Tryz.tab_ok Tryz.func41 rfl (by kernel_rfl) Tryz.ntmps41 rfl rfl ?_
 repeat (first | refine RUN ?_ | refine CV (sg1) ?_ | refine CE (sg1) ?_)
 rw [show (b.num.sign == 0) = false by simp [Int.sign_eq_zero_iff_zero, hn0]]
 (try refine RUN ?_)
 apply EV.drawn 11 (by kernel_rfl) (by kernel_rfl); intro xv yw
 (repeat (first | refine' DV (h := ?_) | refine' DA (h := ?_) | refine' DK0 (h := ?_) | (refine' DJ.setb Tryz.tab_ok rfl rfl rfl rfl rfl rfl rfl rfl rfl rfl rfl ?_; rotate_left) | (refine' DC (sg1) (h := ?_); rotate_left) | refine' DS (h := ?_)))
 rw [show decide (b.num.sign < 0) = decide (b.num < 0) by rw [decide_eq_decide]; exact Int.sign_neg_iff]
 (repeat (first | refine' DV (h := ?_) | refine' DA (h := ?_) | refine' DK0 (h := ?_) | (refine' DJ.setb Tryz.tab_ok rfl rfl rfl rfl rfl rfl rfl rfl rfl rfl rfl ?_; rotate_left) | (refine' DC (d2) (h := ?_); rotate_left) | (refine' DC (s1) (h := ?_); rotate_left) | (refine' DC (ab) (h := ?_); rotate_left) | (refine' DC (hp) (h := ?_); rotate_left) | refine' DS (h := ?_)))
 (refine DJ.nil (fun G hG hF => ?_); (case hS => rfl); (case hS2 => rfl))
 repeat (first | refine RUN ?_ | refine CV (hm) ?_ | refine CE (hm) ?_)
 rfl
theorem ordZ_scale (x y p q : Int) (hp : 0 < p) (hq : 0 < q) (h : x.sign ≠ y.sign) : ordZ x y = ordZ (x * p) (y * q) := by
 have f1 : x < 0 → x * p < 0 := fun h => Int.mul_neg_of_neg_of_pos h hp
 have f2 : 0 < x → 0 < x * p := fun h => Int.mul_pos h hp
 have f3 : y < 0 → y * q < 0 := fun h => Int.mul_neg_of_neg_of_pos h hq
 have f4 : 0 < y → 0 < y * q := fun h => Int.mul_pos h hq
 have f5 : x = 0 → x * p = 0 := fun h => by rw [h, Int.zero_mul]
 have f6 : y = 0 → y * q = 0 := fun h => by rw [h, Int.zero_mul]
 generalize x * p = u at *
 generalize y * q = v at *
 rcases Int.lt_trichotomy x 0 with hx | hx | hx <;> rcases Int.lt_trichotomy y 0 with hy | hy | hy
 ·exact absurd (by rw [Int.sign_eq_neg_one_of_neg hx, Int.sign_eq_neg_one_of_neg hy]) h
 ·unfold ordZ; rw [if_pos (by omega), if_pos (by have := f1 hx; have := f6 hy; omega)]
 ·unfold ordZ; rw [if_pos (by omega), if_pos (by have := f1 hx; have := f4 hy; omega)]
 ·unfold ordZ; rw [if_neg (by omega), if_pos (by omega), if_neg (by have := f5 hx; have := f3 hy; omega), if_pos (by have := f5 hx; have := f3 hy; omega)]
 ·exact absurd (by rw [hx, hy]) h
 ·unfold ordZ; rw [if_pos (by omega), if_pos (by have := f5 hx; have := f4 hy; omega)]
 ·unfold ordZ; rw [if_neg (by omega), if_pos (by omega), if_neg (by have := f2 hx; have := f3 hy; omega), if_pos (by have := f2 hx; have := f3 hy; omega)]
 ·unfold ordZ; rw [if_neg (by omega), if_pos (by omega), if_neg (by have := f2 hx; have := f6 hy; omega), if_pos (by have := f2 hx; have := f6 hy; omega)]
 ·exact absurd (by rw [Int.sign_eq_one_of_pos hx, Int.sign_eq_one_of_pos hy]) h
theorem sign_ne (a b : Rat) (h : a.num.sign ≠ b.num.sign) : ordZ a.num b.num = ordR a b := by
 have := Nat.pos_of_ne_zero a.den_nz
 have := Nat.pos_of_ne_zero b.den_nz
 rw [ordR_eq]; exact ordZ_scale _ _ _ _ (by omega) (by omega) h
theorem cmp_pv (a b : Rat) (ha : sm a) (hb : sm b) : PV Tryz.prog 31 #[fracV a, fracV b] (.int .i64 (ordR a b)) := by
 have na := ha.num; have da := ha.den; have nb := hb.num; have db := hb.den
 have bna : bigI a.num := Nat.le_trans na (by omega)
 have bnb : bigI b.num := Nat.le_trans nb (by omega)
 have bda : big a.den := Nat.le_trans da (by omega)
 have bdb : big b.den := Nat.le_trans db (by omega)
 have w1 := isWhole_pv a bda
 have w2 := isWhole_pv b bdb
 have s1 := sign_pv a bna
 have s2 := sign_pv b bnb
 have d1 := den_pv a bda
 have d2 := den_pv b bdb
 have c1 := bl_mul a.num.natAbs b.den
 have c2 := bl_mul b.num.natAbs a.den
 have t1 := times_pv a.num b.den bna bdb (by show bl _ ≤ _; omega)
 have t2 := times_pv b.num a.den bnb bda (by show bl _ ≤ _; omega)
 have k1 := wholeCmp_pv a.num b.num bna bnb
 have k2 := wholeCmp_pv (a.num * (b.den : Int)) (b.num * (a.den : Int)) (by show bl _ ≤ _; rw [Int.natAbs_mul]; simp; omega) (by show bl _ ≤ _; rw [Int.natAbs_mul]; simp; omega)
 rw [← ordR_eq] at k2
 refine PV.of_pc ?_
 refine PC.body Tryz.tab_ok Tryz.func31 rfl (by kernel_rfl) Tryz.ntmps31 rfl rfl ?_
 (try refine RUN ?_)
 by_cases ha1 : a.den = 1
 ·rw [decide_eq_true ha1] at w1
  by_cases hb1 : b.den = 1
  ·rw [decide_eq_true hb1] at w2
   have e : ordZ a.num b.num = ordR a b := by rw [ordR_eq, ha1, hb1]; simp
   rw [e] at k1
   apply EV.drawn 10 (by kernel_rfl) (by kernel_rfl); intro xv yw
   (repeat (first | refine' DV (h := ?_) | refine' DA (h := ?_) | refine' DK0 (h := ?_) | (refine' DJ.setb Tryz.tab_ok rfl rfl rfl rfl rfl rfl rfl rfl rfl rfl rfl ?_; rotate_left) | (refine' DC (w1) (h := ?_); rotate_left) | (refine' DC (w2) (h := ?_); rotate_left) | (refine' DC (s1) (h := ?_); rotate_left) | (refine' DC (s2) (h := ?_); rotate_left) | refine' DS (h := ?_)))
   (refine DJ.nil (fun G hG hF => ?_); (case hS => rfl); (case hS2 => rfl))
   repeat (first | refine RUN ?_ | refine CV (k1) ?_ | refine CE (k1) ?_)
   rfl
  ·rw [decide_eq_false hb1] at w2
   apply EV.drawn 10 (by kernel_rfl) (by kernel_rfl); intro xv yw
   (repeat (first | refine' DV (h := ?_) | refine' DA (h := ?_) | refine' DK0 (h := ?_) | (refine' DJ.setb Tryz.tab_ok rfl rfl rfl rfl rfl rfl rfl rfl rfl rfl rfl ?_; rotate_left) | (refine' DC (w1) (h := ?_); rotate_left) | (refine' DC (w2) (h := ?_); rotate_left) | (refine' DC (s1) (h := ?_); rotate_left) | (refine' DC (s2) (h := ?_); rotate_left) | refine' DS (h := ?_)))
   (refine DJ.nil (fun G hG hF => ?_); (case hS => rfl); (case hS2 => rfl))
   repeat (first | refine RUN ?_ | refine CV (s1) ?_ | refine CV (s2) ?_ | refine CE (s1) ?_ | refine CE (s2) ?_)
   by_cases hs : a.num.sign = b.num.sign
   ·rw [show (a.num.sign != b.num.sign) = false by simp [hs]]
    (try refine RUN ?_)
    apply EV.drawn 9 (by kernel_rfl) (by kernel_rfl); intro xv yw
    (repeat (first | refine' DV (h := ?_) | refine' DA (h := ?_) | refine' DK0 (h := ?_) | (refine' DJ.setb Tryz.tab_ok rfl rfl rfl rfl rfl rfl rfl rfl rfl rfl rfl ?_; rotate_left) | (refine' DC (d2) (h := ?_); rotate_left) | (refine' DC (t1) (h := ?_); rotate_left) | (refine' DC (d1) (h := ?_); rotate_left) | refine' DS (h := ?_)))
    (refine DJ.nil (fun G hG hF => ?_); (case hS => rfl); (case hS2 => rfl))
    repeat (first | refine RUN ?_ | refine CV (t2) ?_ | refine CV (k2) ?_ | refine CE (t2) ?_ | refine CE (k2) ?_)
    rfl
   ·rw [show (a.num.sign != b.num.sign) = true by simp [hs]]
    repeat (first | refine RUN ?_ | refine CV (k1) ?_ | refine CE (k1) ?_)
    rw [sign_ne a b hs]
 ·rw [decide_eq_false ha1] at w1
  apply EV.drawn 10 (by kernel_rfl) (by kernel_rfl); intro xv yw
  (repeat (first | refine' DV (h := ?_) | refine' DA (h := ?_) | refine' DK0 (h := ?_) | (refine' DJ.setb Tryz.tab_ok rfl rfl rfl rfl rfl rfl rfl rfl rfl rfl rfl ?_; rotate_left) | (refine' DC (w1) (h := ?_); rotate_left) | (refine' DC (w2) (h := ?_); rotate_left) | (refine' DC (s1) (h := ?_); rotate_left) | (refine' DC (s2) (h := ?_); rotate_left) | refine' DS (h := ?_)))
  (refine DJ.nil (fun G hG hF => ?_); (case hS => rfl); (case hS2 => rfl))
  repeat (first | refine RUN ?_ | refine CV (s1) ?_ | refine CV (s2) ?_ | refine CE (s1) ?_ | refine CE (s2) ?_)
  by_cases hs : a.num.sign = b.num.sign
  ·rw [show (a.num.sign != b.num.sign) = false by simp [hs]]
   (try refine RUN ?_)
   apply EV.drawn 9 (by kernel_rfl) (by kernel_rfl); intro xv yw
   (repeat (first | refine' DV (h := ?_) | refine' DA (h := ?_) | refine' DK0 (h := ?_) | (refine' DJ.setb Tryz.tab_ok rfl rfl rfl rfl rfl rfl rfl rfl rfl rfl rfl ?_; rotate_left) | (refine' DC (d2) (h := ?_); rotate_left) | (refine' DC (t1) (h := ?_); rotate_left) | (refine' DC (d1) (h := ?_); rotate_left) | refine' DS (h := ?_)))
   (refine DJ.nil (fun G hG hF => ?_); (case hS => rfl); (case hS2 => rfl))
   repeat (first | refine RUN ?_ | refine CV (t2) ?_ | refine CV (k2) ?_ | refine CE (t2) ?_ | refine CE (k2) ?_)
   rfl
  ·rw [show (a.num.sign != b.num.sign) = true by simp [hs]]
   repeat (first | refine RUN ?_ | refine CV (k1) ?_ | refine CE (k1) ?_)
   rw [sign_ne a b hs]
theorem pick_pv (z m : Int) (hz : -9223372036854775808 ≤ z ∧ z < 9223372036854775808) (h0 : 0 < m) (hm : m < 4611686018427387904) : PV Tryz.prog 13 #[.int .i64 z, .int .i64 m] (.int .i64 (z % m)) := by
 have h1 := Int.tmod_lt_of_pos z h0
 have h2 := Int.lt_tmod_of_pos z h0
 have e : z % m = if z.tmod m < 0 then z.tmod m + m else z.tmod m := by
  have hq := Int.mul_tdiv_add_tmod z m
  have e1 : z % m = z.tmod m % m := by
   conv => lhs; rw [← hq]
   rw [Int.mul_add_emod_self_left]
  rw [e1]
  by_cases ht : z.tmod m < 0
  ·rw [if_pos ht, ← Int.add_emod_right, Int.emod_eq_of_lt (by omega) (by omega)]
  ·rw [if_neg ht, Int.emod_eq_of_lt (by omega) h1]
 refine PV.of_pc ?_
 refine PC.body Tryz.tab_ok Tryz.func13 rfl (by kernel_rfl) Tryz.ntmps13 rfl rfl ?_
 (try refine RUN ?_)
 refine EVL.remI rfl rfl rfl rfl rfl rfl (by omega) ?_
 generalize z.tmod m = t at *
 (try refine RUN ?_)
 by_cases ht : t < 0
 ·rw [if_pos ht] at e
  rw [decide_eq_true ht]
  (try refine RUN ?_)
  rw [e, IntKind.wrap_i64]; congr 1; omega
 ·rw [if_neg ht] at e
  rw [decide_eq_false ht]
  (try refine RUN ?_)
  rw [e]
theorem min_int (a b : Nat) : (if (b : Int) < (a : Int) then (b : Int) else (a : Int)) = ((min a b : Nat) : Int) := by split <;> omega
theorem oneB_n8 : ∀ l : List Nat, oneB (l.map n8) = true
 | [] => rfl
 | _ :: l => by rw [List.map_cons]; unfold oneB; rw [oneB_n8 l]; rfl
theorem few_pc {v : Value} {l : List Nat} {H : Hp} (h : SlN n8 H v l) (k : Nat) (hk : k ≤ 1000000000) : PC Tryz.prog 88 #[v, .int .i64 (k : Int)] H fun r H' => SlN n8 H' r (l.take k) := by
 obtain ⟨a, cap, rfl⟩ := SlC.val h
 have hcap : l.length ≤ cap := SlN.le h
 have hsub := SlC.sub h 0 (min l.length k) (Nat.zero_le _) (Nat.min_le_left _ _) hcap
 have hmk : min l.length k ≤ 1000000000 := Nat.le_trans (Nat.min_le_right _ _) hk
 have htk : ((l.map n8).drop (0 * 1)).take ((min l.length k - 0) * 1) = (l.take k).map n8 := by
  rw [Nat.zero_mul, List.drop_zero, Nat.sub_zero, Nat.mul_one, ← List.map_take]
  congr 1
  rw [List.take_eq_take_iff]; omega
 have hlk : (l.take k).length = min l.length k := by rw [List.length_take, Nat.min_comm]
 have hml : min l.length k ≤ l.length := Nat.min_le_left _ _
 rw [htk] at hsub
 have hmi := min_int l.length k
 generalize min l.length k = m at *
 refine PC.body Tryz.tab_ok Tryz.func88 rfl (by kernel_rfl) Tryz.ntmps88 rfl rfl ?_
 (try refine RUN ?_)
 refine EVL.lit0 Tryz.tab_ok rfl rfl rfl rfl rfl rfl rfl fun g0 => ?_
 (try refine RUN ?_)
 rw [hmi]
 refine EVL.slc (te' := Tryz.te5) Tryz.tab_ok rfl rfl rfl rfl rfl rfl rfl rfl 0 m (.inl ⟨rfl, rfl⟩) (.inr ⟨_, IntKind.i64, rfl, rfl⟩) (Nat.zero_le _) (by omega) hcap ?_
 rcases Nat.eq_zero_or_pos m with e | e
 ·subst e
  have hnil : l.take k = [] := List.length_eq_zero_iff.1 hlk
  refine EVL.append0 Tryz.tab_ok rfl rfl rfl rfl rfl rfl rfl rfl rfl (Nat.le_refl _) ?_
  (try refine RUN ?_)
  rw [hnil]
  exact ⟨rfl, .inl ⟨rfl, _, _, rfl⟩⟩
 ·refine EVL.append Tryz.tab_ok rfl rfl rfl rfl rfl rfl rfl rfl rfl rfl rfl rfl [] [(g0, 5, [])] [] rfl (OwnL.full (m := 0) rfl (by omega)) (SrcAt.ro hsub e) (oneB_n8 _) (by omega) ?_
  intro v1 ow1 hown1
  (first | refine EVL.publishL [] ow1 [] (rfl) hown1 fun G hG hs => ?_ | refine EV.publishL [] ow1 [] (rfl) hown1 fun G hG hs => ?_)
  (try refine RUN ?_)
  rw [Nat.zero_add] at hs
  exact own_sl hs hlk
theorem refNatH_pc {H : Hp} {v : Value} {n : Nat} (h : RN H v n) (hn : rsm n) : PC Tryz.prog 105 #[v] H fun r _ => r = natV n := by
 have hol : (octs n).length ≤ 200000000 := by
  rw [octs_length]
  have := dig_len_bits 8 n (by omega); rw [show (2 : Nat) ^ 8 = 256 by decide] at this; rw [this]
  have : bl n ≤ 800000000 := hn
  omega
 refine PC.body Tryz.tab_ok Tryz.func105 rfl (by kernel_rfl) Tryz.ntmps105 rfl rfl ?_
 (try refine RUN ?_)
 refine EVL.call rfl rfl rfl rfl rfl (refBytes_pc h hn) ?_
 rintro r G hr hG
 have hf := natFromBytes_pc hr (octs_dig n) hol
 rw [octs_val] at hf
 repeat (first | refine RUN ?_ | refine CV (hf) ?_ | refine CE (hf) ?_)
 rfl
theorem intH_pc {H : Hp} {v : Value} {z : Int} (h : RI H v z) (hz : rsm z.natAbs) : PC Tryz.prog 104 #[v] H fun r _ => r = intV z := by
 obtain ⟨sa, sl, sc, rfl, hs⟩ := id h
 have hf := from_pv (decide (z < 0)) z.natAbs (Nat.le_trans hz (by omega))
 rw [sg_dec] at hf
 refine PC.body Tryz.tab_ok Tryz.func104 rfl (by kernel_rfl) Tryz.ntmps104 rfl rfl ?_
 (try refine RUN ?_)
 apply EV.drawn 6 (by kernel_rfl) (by kernel_rfl); intro xv yw
 (repeat (first | refine' DV (h := ?_) | refine' DA (h := ?_) | refine' DK0 (h := ?_) | (refine' DJ.setb Tryz.tab_ok rfl rfl rfl rfl rfl rfl rfl rfl rfl rfl rfl ?_; rotate_left) | refine' DS (h := ?_)))
 refine' DJ.callS rfl rfl rfl rfl rfl (cOf Tryz.func105 rfl (by kernel_rfl)) (fun G hG hd => refNatH_pc (RN.mono hs hG) hz) ?_; rotate_left
 (repeat (first | refine' DV (h := ?_) | refine' DA (h := ?_) | refine' DK0 (h := ?_) | (refine' DJ.setb Tryz.tab_ok rfl rfl rfl rfl rfl rfl rfl rfl rfl rfl rfl ?_; rotate_left) | (refine' DC (hf) (h := ?_); rotate_left) | refine' DS (h := ?_)))
 (refine DJ.nil (fun G hG hF => ?_); (case hS => rfl); (case hS2 => rfl))
 (try refine RUN ?_)
 rfl
theorem in_pc {H : Hp} {v : Value} {q : Rat} (h : RQ H v q) (hq : rq q) : PC Tryz.prog 25 #[v] H fun r _ => r = fracV q := by
 obtain ⟨sa, sl, sc, ta, tl, tc, rfl, hs, ht⟩ := id h
 have hn := hq.num
 have hd' := hq.den
 have hf := from_pv false q.den (Nat.le_trans hd' (by omega))
 rw [show sg false q.den = (q.den : Int) from rfl] at hf
 have hm := make_pv q.num (q.den : Int) (Nat.le_trans hn (by omega)) (Nat.le_trans hd' (by omega)) (by have := q.den_nz; omega)
 rw [if_neg (by omega), Int.natAbs_natCast, Rat.mkRat_self] at hm
 refine PC.body Tryz.tab_ok Tryz.func25 rfl (by kernel_rfl) Tryz.ntmps25 rfl rfl ?_
 (try refine RUN ?_)
 apply EV.drawn 14 (by kernel_rfl) (by kernel_rfl); intro xv yw
 (repeat (first | refine' DV (h := ?_) | refine' DA (h := ?_) | refine' DK0 (h := ?_) | (refine' DJ.setb Tryz.tab_ok rfl rfl rfl rfl rfl rfl rfl rfl rfl rfl rfl ?_; rotate_left) | refine' DS (h := ?_)))
 refine' DJ.callS rfl rfl rfl rfl rfl (cOf Tryz.func104 rfl (by kernel_rfl)) (fun G hG hd => intH_pc (RQ.rnum (RN.mono hs hG)) hn) ?_; rotate_left
 (repeat (first | refine' DV (h := ?_) | refine' DA (h := ?_) | refine' DK0 (h := ?_) | (refine' DJ.setb Tryz.tab_ok rfl rfl rfl rfl rfl rfl rfl rfl rfl rfl rfl ?_; rotate_left) | refine' DS (h := ?_)))
 refine' DJ.callS rfl rfl rfl rfl rfl (cOf Tryz.func105 rfl (by kernel_rfl)) (fun G hG hd => refNatH_pc (RN.mono ht hG) hd') ?_; rotate_left
 (repeat (first | refine' DV (h := ?_) | refine' DA (h := ?_) | refine' DK0 (h := ?_) | (refine' DJ.setb Tryz.tab_ok rfl rfl rfl rfl rfl rfl rfl rfl rfl rfl rfl ?_; rotate_left) | (refine' DC (hf) (h := ?_); rotate_left) | (refine' DC (hm) (h := ?_); rotate_left) | refine' DS (h := ?_)))
 (refine DJ.nil (fun G hG hF => ?_); (case hS => rfl); (case hS2 => rfl))
 (try refine RUN ?_)
 rfl
theorem argsK_vals {α : Type} {env : Env} : ∀ {l : List Operand} {k : List Value → Option α} {r : α}, argsK env l k = some r → ∃ vs, k vs = some r ∧ ∀ ev : Operand → Value, (∀ y x, y ∈ l → env.op y = some (.v x) → ev y = x) → l.map ev = vs
 | [], k, r, h => ⟨[], h, fun _ _ => rfl⟩
 | x :: l, k, r, h => by
  unfold argsK at h
  split at h
  ·rename_i v hv
   obtain ⟨vs, h1, h2⟩ := argsK_vals h
   exact ⟨v :: vs, h1, fun ev he => by rw [List.map_cons, he x v (by simp) hv, h2 ev fun y x hy => he y x (by simp [hy])]⟩
  ·cases h
section
variable {P : Program} {n : Nat} {ops : Array Oper} {o : Oper} {rest : List Oper} {env : Env} {bx : Bxs} {H : Hs} {Q : EQ} {τ : Tab} {d : Nat}
theorem EVL.buildArr {T : TypeId} {parts : Array (Nat × Operand)} (ho : o.op = .build T parts) (hw : wantB ops env o = some true) (hd : o.dst = some d) (hn : Nat.blt d n = true) {vs : List Value} (ha : argsK env (parts.toList.map (·.2)) some = some vs) {cs : List Value}
  (hb : P.built T ((parts.toList.map (·.1)).zip vs) = some cs.toArray) (h : EVL P n ops rest ((d, .v (.agg cs.toArray)) :: env) bx H Q) : EVL P n ops (o :: rest) env bx H Q := by
 refine EVL.gen hw hd hn (fun ev W he => ?_) h
 obtain ⟨vs', e1, h2⟩ := argsK_vals ha
 cases e1
 have h3 := h2 ev fun y x hy => he y x (by rw [ho]; simpa [Op.operands] using hy)
 have h4 : ((parts.map fun (i, x) => (i, ev x)) : Array (Nat × Value)).toList = (parts.toList.map (·.1)).zip vs := by
  rw [← h3, Array.toList_map]
  generalize parts.toList = l
  induction l with
  | nil => rfl
  | cons p l ih => simp only [List.map_cons, List.zip_cons_cons, ih]
 have := run_build (P := P) W T (parts.map fun (i, x) => (i, ev x)) cs.toArray (by rw [h4]; exact hb)
 unfold execOp
 rw [ho]
 simp [this]
theorem EVL.indexArr (hτ : TabOk P τ) {T e : TypeId} {x y : Operand} (ho : o.op = .index T x y) (hw : wantB ops env o = some true) (hd : o.dst = some d) (hn : Nat.blt d n = true) {len : Nat} (hu : P.underlying T = some (.array len e)) {te : TE} (ht : τ.get e = some te) (hag : te.agg = false) (hsz : te.size = 1)
  {cs : List Value} (hx : env.op x = some (.v (.agg cs.toArray))) {k : IntKind} {z : Int} (hy : env.op y = some (.v (.int k z))) (j : Nat) (hz : z = j) (hj : j < len) {v : Value} (hc : cs[j]? = some v)
  (h : EVL P n ops rest ((d, .v v) :: env) bx H Q) : EVL P n ops (o :: rest) env bx H Q := by
 refine EVL.gen hw hd hn (fun ev W he => ?_) h
 have e1 := he x _ (by rw [ho]; simp [Op.operands]) hx
 have e2 := he y _ (by rw [ho]; simp [Op.operands]) hy
 subst hz
 have hp : (part e cs.toArray j).run P W = .ok v W := by simp [part, (hτ.get ht).agg, hag, hc]
 unfold execOp
 simp only [ho, e1, e2, Instr.index, asIntOf, Sem.run_bind, Sem.run_pure, Result.andThen_ok, run_underlying hu]
 rw [if_pos ⟨by omega, by omega⟩]
 simp only [Sem.run_bind, (hτ.get ht).size, Result.andThen_ok, Int.toNat_natCast, hsz, Nat.mul_one, hp]
end
def rDen (j : Nat) : Int := [1, 1, 1, 2, 3, 4].getD j 1
def rNum (z : Int) : Rat := Rat.divInt (z % 41 - 20) (rDen (z.tdiv 41 % 6).toNat)
theorem rDen_range (j : Nat) : 1 ≤ rDen j ∧ rDen j ≤ 4 := by
 unfold rDen
 rcases j with _ | _ | _ | _ | _ | _ | j <;> simp [List.getD_eq_getElem?_getD]
theorem r_pc {H : Hp} (z : Int) (hz : -9223372036854775808 ≤ z ∧ z < 9223372036854775808) : PC Tryz.prog 86 #[.int .i64 z] H fun r H' => RQ H' r (rNum z) := by
 have hq : -9223372036854775808 ≤ z.tdiv 41 ∧ z.tdiv 41 < 9223372036854775808 := by
  by_cases h : 0 ≤ z
  ·rw [Int.tdiv_eq_ediv_of_nonneg h]; omega
  ·have e : z.tdiv 41 = -((-z) / 41) := by rw [← Int.tdiv_eq_ediv_of_nonneg (by omega), Int.neg_tdiv, Int.neg_neg]
   rw [e]; omega
 have hqw : IntKind.i64.wrap (z.tdiv 41) = z.tdiv 41 := by rw [IntKind.wrap_i64]; omega
 have h1 := pick_pv z 41 hz (by omega) (by omega)
 have h2 := pick_pv (z.tdiv 41) 6 hq (by omega) (by omega)
 have m1 := Int.emod_nonneg z (show (41 : Int) ≠ 0 by omega)
 have m2 := Int.emod_lt_of_pos z (show (0 : Int) < 41 by omega)
 obtain ⟨j, hj⟩ := Int.eq_ofNat_of_zero_le (Int.emod_nonneg (z.tdiv 41) (show (6 : Int) ≠ 0 by omega))
 have m3 := Int.emod_lt_of_pos (z.tdiv 41) (show (0 : Int) < 6 by omega)
 have hsub : IntKind.i64.wrap (z % 41 - 20) = z % 41 - 20 := by rw [IntKind.wrap_i64]; omega
 have hrd := rDen_range j
 have hrn : rNum z = Rat.divInt (z % 41 - 20) (rDen j) := by unfold rNum; rw [hj]; rfl
 rw [hrn]
 have hidx : ([.int .i64 1, .int .i64 1, .int .i64 1, .int .i64 2, .int .i64 3, .int .i64 4] : List Value)[j]? = some (.int .i64 (rDen j)) := by
  have hj6 : j < 6 := by omega
  rcases j with _ | _ | _ | _ | _ | _ | j <;> first | rfl | omega
 have ho := fun G : Hp => refOver_pc (H := G) (z % 41 - 20) (rDen j) (by omega) (by omega) (by omega) (by omega) (by omega)
 rw [hj] at h2
 refine PC.body Tryz.tab_ok Tryz.func86 rfl (by kernel_rfl) Tryz.ntmps86 rfl rfl ?_
 repeat (first | refine RUN ?_ | refine CV (h1) ?_ | refine CE (h1) ?_)
 rw [hsub]
 refine EVL.buildArr rfl rfl rfl rfl rfl (cs := [.int .i64 1, .int .i64 1, .int .i64 1, .int .i64 2, .int .i64 3, .int .i64 4]) (by kernel_rfl) ?_
 (try refine RUN ?_)
 rw [hqw]
 repeat (first | refine RUN ?_ | refine CV (h2) ?_ | refine CE (h2) ?_)
 refine EVL.indexArr (e := 2) (len := 6) Tryz.tab_ok rfl rfl rfl rfl (by kernel_rfl) rfl rfl rfl rfl rfl j rfl (show j < 6 by omega) hidx ?_
 refine EVL.call rfl rfl rfl rfl rfl (ho H) ?_
 rintro r G ⟨ra, rl, rc, xa, xl, xc, rfl, hn, hd⟩ hG
 (try refine RUN ?_)
 exact ⟨ra, rl, rc, xa, xl, xc, rfl, hn, hd⟩
theorem ht_divInt (n d : Int) (h : d ≠ 0) : ht (Rat.divInt n d) ≤ max (bl n.natAbs) (bl d.natAbs) := by
 rw [divInt_mk n d h]
 refine Nat.le_trans (ht_mk _ _ (by omega)) ?_
 have : (if d < 0 then -n else n).natAbs = n.natAbs := by split <;> simp
 rw [this]; exact Nat.le_refl _
theorem ht_rNum (z : Int) : ht (rNum z) ≤ 5 := by
 unfold rNum
 have hrd := rDen_range (z.tdiv 41 % 6).toNat
 have m1 := Int.emod_nonneg z (show (41 : Int) ≠ 0 by omega)
 have m2 := Int.emod_lt_of_pos z (show (0 : Int) < 41 by omega)
 refine Nat.le_trans (ht_divInt _ _ (by omega)) (Nat.max_le.2 ⟨bl_le (by omega), bl_le (by omega)⟩)
theorem bl_few {l : List Nat} (hD : Dig 256 l) : bl (val 256 (l.take 12).reverse) ≤ 96 := by
 apply bl_le
 have h1 := val_lt (hD.take 12).rev
 have h2 : (l.take 12).reverse.length ≤ 12 := by rw [List.length_reverse, List.length_take]; omega
 calc val 256 (l.take 12).reverse < 256 ^ (l.take 12).reverse.length := h1
  _ ≤ 256 ^ 12 := Nat.pow_le_pow_right (by decide) h2
  _ = 2 ^ 96 := by decide
structure RawQ (H : Hp) (v : Value) : Prop where
 ex : ∃ (z : Int) (sa sb : Value) (la lb : List Nat) (neg : Bool), v = .agg #[.int .i64 z, sa, sb, .bool neg] ∧ (-9223372036854775808 ≤ z ∧ z < 9223372036854775808) ∧ SlN n8 H sa la ∧ SlN n8 H sb lb ∧ Dig 256 la ∧ Dig 256 lb
theorem RawQ.mono {H G : Hp} {v : Value} (h : RawQ H v) (k : H.Le G) : RawQ G v := by
 obtain ⟨z, sa, sb, la, lb, neg, e, hz, h1, h2, h3⟩ := h.ex
 exact ⟨z, sa, sb, la, lb, neg, e, hz, SlN.mono h1 k, SlN.mono h2 k, h3⟩
theorem one_pc {H : Hp} {v : Value} (h : RawQ H v) : PC Tryz.prog 12 #[v] H fun r H' => ∃ q, ht q ≤ 200 ∧ RQ H' r q := by
 obtain ⟨z, sa, sb, la, lb, neg, rfl, hz, ha, hb, hDa, hDb⟩ := h.ex
 obtain ⟨aa, ca, rfl⟩ := SlC.val ha
 obtain ⟨ab, cb, rfl⟩ := SlC.val hb
 refine PC.body Tryz.tab_ok Tryz.func12 rfl (by kernel_rfl) Tryz.ntmps12 rfl rfl ?_
 (try refine RUN ?_)
 refine EV.cond rfl (fun h0 => ?_) (fun h0 => ?_)
 ·simp only [decide_eq_true_eq, decide_eq_false_iff_not, Int.not_lt, Int.not_le, beq_iff_eq, beq_eq_false_iff_ne, bne_iff_ne, bne_eq_false_iff_eq, ne_eq, Int.ofNat_lt, Int.ofNat_le, Int.natCast_inj, ge_iff_le, gt_iff_lt, Decidable.not_not, Bool.not_eq_true', Bool.not_eq_false', Bool.not_eq_eq_eq_not, Bool.not_true, Bool.not_false] at h0
  (try refine RUN ?_)
  refine EVL.call rfl rfl rfl rfl rfl (r_pc z hz) ?_
  rintro r G ⟨ra, rl, rc, xa, xl, xc, rfl, hn, hd⟩ hG
  (try refine RUN ?_)
  exact ⟨rNum z, Nat.le_trans (ht_rNum z) (by omega), ra, rl, rc, xa, xl, xc, rfl, hn, hd⟩
 ·simp only [decide_eq_true_eq, decide_eq_false_iff_not, Int.not_lt, Int.not_le, beq_iff_eq, beq_eq_false_iff_ne, bne_iff_ne, bne_eq_false_iff_eq, ne_eq, Int.ofNat_lt, Int.ofNat_le, Int.natCast_inj, ge_iff_le, gt_iff_lt, Decidable.not_not, Bool.not_eq_true', Bool.not_eq_false', Bool.not_eq_eq_eq_not, Bool.not_true, Bool.not_false] at h0
  (try refine RUN ?_)
  refine EVL.call rfl rfl rfl rfl rfl (few_pc hb 12 (by omega)) ?_
  rintro s G1 hs hG1
  (try refine RUN ?_)
  refine EVL.call rfl rfl rfl rfl rfl (refFrom_pc hs (hDb.take 12) (by rw [List.length_take]; omega)) ?_
  rintro t G2 ht hG2
  have hbl := bl_few hDb
  generalize val 256 (lb.take 12).reverse = D at *
  have hlz : (dig B32 D).length = 0 ↔ D = 0 := ⟨dig_len_zero B32_two, fun e => by rw [e, dig_zero]; rfl⟩
  have hcp := fun a l c (e : t = .slice a l c) => SlN.cap (e ▸ ht)
  obtain ⟨ta, tc, hte⟩ := SlC.val ht
  generalize hle : (dig B32 D).length = l at *
  subst hte
  (try refine RUN ?_)
  refine EV.meetK (ι := Value × Nat) [1, 2] [1, 2] (fun i => [(3, .v i.1)]) (fun _ => []) (fun _ => []) (fun i G => G2.Le G ∧ RN G i.1 i.2 ∧ i.2 ≠ 0 ∧ bl i.2 ≤ 96) rfl rfl (fun _ => rfl) ?_ ?_
  ·refine EV.cond rfl (fun hz0 => ?_) (fun hz0 => ?_)
   ·simp only [decide_eq_true_eq, decide_eq_false_iff_not, Int.not_lt, Int.not_le, beq_iff_eq, beq_eq_false_iff_ne, bne_iff_ne, bne_eq_false_iff_eq, ne_eq, Int.ofNat_lt, Int.ofNat_le, Int.natCast_inj, ge_iff_le, gt_iff_lt, Decidable.not_not, Bool.not_eq_true', Bool.not_eq_false', Bool.not_eq_eq_eq_not, Bool.not_true, Bool.not_false] at hz0
    (try refine RUN ?_)
    refine EVL.call rfl rfl rfl rfl rfl (refNatOf_pc 1 (by decide) G2) ?_
    rintro u G3 hu hG3
    (try refine RUN ?_)
    exact ⟨(u, 1), ⟨rfl, trivial⟩, (by repeat (first | exact trivial | refine And.intro rfl ?_)), trivial, (by repeat (first | exact trivial | refine And.intro rfl ?_)), rfl, hG3, hu, Nat.one_ne_zero, by rw [bl_one']; omega⟩
   ·simp only [decide_eq_true_eq, decide_eq_false_iff_not, Int.not_lt, Int.not_le, beq_iff_eq, beq_eq_false_iff_ne, bne_iff_ne, bne_eq_false_iff_eq, ne_eq, Int.ofNat_lt, Int.ofNat_le, Int.natCast_inj, ge_iff_le, gt_iff_lt, Decidable.not_not, Bool.not_eq_true', Bool.not_eq_false', Bool.not_eq_eq_eq_not, Bool.not_true, Bool.not_false] at hz0
    (try refine RUN ?_)
    exact ⟨(_, D), ⟨rfl, trivial⟩, (by repeat (first | exact trivial | refine And.intro rfl ?_)), trivial, (by repeat (first | exact trivial | refine And.intro rfl ?_)), rfl, Hp.Le.refl _, ht, fun e => hz0 (by have := hlz.2 e; omega), hbl⟩
  ·rintro ⟨u, D'⟩ G3 ⟨hG3, hu, hD0, hDb'⟩
   dsimp only at hu hD0 hDb'
   have h03 : H.Le G3 := (hG1.trans hG2).trans hG3
   have hbA := bl_few hDa
   (try refine RUN ?_)
   apply EV.drawn 10 (by kernel_rfl) (by kernel_rfl); intro xv yw
   (repeat (first | refine' DV (h := ?_) | refine' DA (h := ?_) | refine' DK0 (h := ?_) | (refine' DJ.setb Tryz.tab_ok rfl rfl rfl rfl rfl rfl rfl rfl rfl rfl rfl ?_; rotate_left) | refine' DS (h := ?_)))
   refine' DJ.call rfl rfl rfl rfl rfl (cOf Tryz.func88 rfl (by kernel_rfl)) (fun G hG hd => few_pc (SlN.mono ha (h03.trans hG)) 12 (by omega)) (fun _ _ _ h k => SlN.mono h k) ?_; rotate_left
   refine' DJ.call rfl rfl rfl rfl rfl (cOf Tryz.func87 rfl (by kernel_rfl)) (fun G hG hd => refFrom_pc (hd.head (by kernel_rfl)) (hDa.take 12) (by rw [List.length_take]; omega)) (fun _ _ _ h k => RN.mono h k) ?_; rotate_left
   refine' DJ.call rfl rfl rfl rfl rfl (cOf Tryz.func90 rfl (by kernel_rfl)) (fun G hG hd => refI_pc neg (hd.head (by kernel_rfl))) (fun _ _ _ h k => RI.mono h k) ?_; rotate_left
   (repeat (first | refine' DV (h := ?_) | refine' DA (h := ?_) | refine' DK0 (h := ?_) | (refine' DJ.setb Tryz.tab_ok rfl rfl rfl rfl rfl rfl rfl rfl rfl rfl rfl ?_; rotate_left) | refine' DS (h := ?_)))
   refine' DJ.call rfl rfl rfl rfl rfl (cOf Tryz.func90 rfl (by kernel_rfl)) (fun G hG hd => refI_pc false (RN.mono hu hG)) (fun _ _ _ h k => RI.mono h k) ?_; rotate_left
   refine' DJ.call rfl rfl rfl rfl rfl (cOf Tryz.func89 rfl (by kernel_rfl)) (fun G hG hd => refMake_pc (hd.tail.head (by kernel_rfl)) (hd.head (by kernel_rfl)) (by rw [sg_natAbs]; exact Nat.le_trans hbA (by omega)) (by rw [sg_natAbs]; exact Nat.le_trans hDb' (by omega)) (by show ((D' : Nat) : Int) ≠ 0; omega)) (fun _ _ _ h k => RQ.mono h k) ?_; rotate_left
   (refine DJ.nil (fun G5 hG5 hF5 => ?_); (case hS => rfl); (case hS2 => rfl))
   obtain ⟨⟨ra, rl, rc, xa, xl, xc, hr, h1, h2⟩, _⟩ := hF5
   rw [hr]
   (try refine RUN ?_)
   refine ⟨_, ?_, ra, rl, rc, xa, xl, xc, rfl, h1, h2⟩
   refine Nat.le_trans (ht_divInt _ _ (by show ((D' : Nat) : Int) ≠ 0; omega)) ?_
   rw [sg_natAbs, sg_natAbs]
   omega
def nearN (n : Int) (d : Nat) : Int :=
 let q := n / (d : Int)
 let r := n % (d : Int)
 if ordZ (r + r) d = 0 then (if q % 2 = 0 then q else q + 1) else if 0 < ordZ (r + r) d then q + 1 else q
def kb (z : Int) : Nat := (max 0 (min z 256)).toNat
theorem near_pv (a : Rat) (ha : sm a) (z : Int) (hz : -9223372036854775808 ≤ z ∧ z < 9223372036854775808) : PV Tryz.prog 38 #[fracV a, .int .i64 z] (fracV (mkRat (nearN (a.num * (2 ^ kb z : Nat)) a.den) (2 ^ kb z))) := by
 have hk : kb z ≤ 256 := by unfold kb; omega
 have na := ha.num; have da := ha.den
 have bna : bigI a.num := Nat.le_trans na (by omega)
 have bda : big a.den := Nat.le_trans da (by omega)
 have hn1 := natOf_pv 1 (by decide)
 have hb1 : big 1 := by show bl 1 ≤ _; rw [bl_one]; omega
 have sh := natShift_up 1 (kb z) (by omega) hb1
 rw [Nat.one_mul] at sh
 have hkz : (if (if (256 : Int) < z then 256 else z) > 0 then (if (256 : Int) < z then 256 else z) else 0) = ((kb z : Nat) : Int) := by unfold kb; split <;> split <;> omega
 have hp := bl_pow2 (kb z)
 have bu : big (2 ^ kb z) := by show bl _ ≤ _; omega
 have d1 := den_pv a bda
 have s1 := from_pv false a.den bda
 generalize hN : a.num * ((2 ^ kb z : Nat) : Int) = N at *
 have cN := bl_mul a.num.natAbs (2 ^ kb z)
 have bN : bl N.natAbs ≤ 200000000 := by rw [← hN, Int.natAbs_mul, Int.natAbs_natCast]; omega
 have t1 := times_pv a.num (2 ^ kb z) bna bu (by show bl _ ≤ _; omega)
 rw [hN] at t1
 have dn0 := a.den_nz
 have hd := wholeDiv_pv N (a.den : Int) (by omega) (by have := bl_add N.natAbs 1; have := bl_one; show bl _ ≤ _; omega) bda
 rw [Int.fdiv_eq_ediv_of_nonneg _ (Int.natCast_nonneg _), Int.fmod_eq_emod_of_nonneg _ (Int.natCast_nonneg _)] at hd
 have hr1 := Int.emod_nonneg N (show (a.den : Int) ≠ 0 by omega)
 have hr2 := Int.emod_lt_of_pos N (show (0 : Int) < a.den by omega)
 have br : bl (N % (a.den : Int)).natAbs ≤ 100000000 := Nat.le_trans (bl_mono (by omega)) da
 have cr := bl_add (N % (a.den : Int)).natAbs (N % (a.den : Int)).natAbs
 have ad := wholeAdd_pv (N % (a.den : Int)) (N % (a.den : Int)) (Nat.le_trans br (by omega)) (Nat.le_trans br (by omega)) (by show bl _ ≤ _; omega)
 have brr : bl (N % (a.den : Int) + N % (a.den : Int)).natAbs ≤ 100000001 := by have := bl_natAbs_add (N % (a.den : Int)) (N % (a.den : Int)); omega
 have ck := wholeCmp_pv (N % (a.den : Int) + N % (a.den : Int)) (a.den : Int) (Nat.le_trans brr (by omega)) bda
 have bq : bl (N / (a.den : Int)).natAbs ≤ 200000000 := Nat.le_trans (bl_mono (natAbs_ediv_le _ _)) bN
 have w1 := wholeOf_pv 1 (by omega) (by omega)
 have w2 := wholeOf_pv 2 (by omega) (by omega)
 have cq := bl_add (N / (a.den : Int)).natAbs 1
 have hd2 := wholeDiv_pv (N / (a.den : Int)) 2 (by omega) (by have := bl_one; show bl _ ≤ _; omega) (by decide +kernel)
 rw [Int.fdiv_eq_ediv_of_nonneg _ (by omega), Int.fmod_eq_emod_of_nonneg _ (by omega)] at hd2
 have sg2 := wholeSign_pv (N / (a.den : Int) % 2) (Nat.le_trans (bl_mono (show _ ≤ 1 by omega)) hb1)
 have bq1 : bl (N / (a.den : Int) + 1).natAbs ≤ 200000001 := by have := bl_natAbs_add (N / (a.den : Int)) 1; rw [show (1 : Int).natAbs = 1 from rfl, bl_one] at this; omega
 have ad1 := wholeAdd_pv (N / (a.den : Int)) 1 (Nat.le_trans bq (by omega)) hb1 (by have := bl_one; show bl (_ + 1) ≤ _; omega)
 have l0 := lowest_pv (N / (a.den : Int)) (2 ^ kb z) (Nat.le_trans bq (by omega)) bu (Nat.ne_of_gt (Nat.pow_pos (by omega)))
 have l1 := lowest_pv (N / (a.den : Int) + 1) (2 ^ kb z) (Nat.le_trans bq1 (by omega)) bu (Nat.ne_of_gt (Nat.pow_pos (by omega)))
 refine PV.of_pc ?_
 refine PC.body Tryz.tab_ok Tryz.func38 rfl (by kernel_rfl) Tryz.ntmps38 rfl rfl ?_
 (try refine RUN ?_)
 rw [hkz]
 repeat (first | refine RUN ?_ | refine CV (hn1) ?_ | refine CV (sh) ?_ | refine CV (d1) ?_ | refine CV (s1) ?_ | refine CE (hn1) ?_ | refine CE (sh) ?_ | refine CE (d1) ?_ | refine CE (s1) ?_)
 (apply EV.drawn 14 (by kernel_rfl) (by kernel_rfl); intro xv yw; (repeat (first | refine' DV (h := ?_) | refine' DA (h := ?_) | refine' DK0 (h := ?_) | (refine' DC (t1) (h := ?_); rotate_left) | (refine' DC (hd) (h := ?_); rotate_left) | refine' DS (h := ?_))); refine DJ.nil (fun G hG hF => ?_); (case hS => rfl); (case hS2 => rfl))
 (try refine RUN ?_)
 (apply EV.drawn 4 (by kernel_rfl) (by kernel_rfl); intro xv yw; (repeat (first | refine' DV (h := ?_) | refine' DA (h := ?_) | refine' DK0 (h := ?_) | (refine' DC (ad) (h := ?_); rotate_left) | refine' DS (h := ?_))); refine DJ.nil (fun G hG hF => ?_); (case hS => rfl); (case hS2 => rfl))
 repeat (first | refine RUN ?_ | refine CV (ck) ?_ | refine CE (ck) ?_)
 generalize ho : ordZ (N % (a.den : Int) + N % (a.den : Int)) (a.den : Int) = o at *
 have nh : nearN N a.den = if o = 0 then (if (N / (a.den : Int)) % 2 = 0 then N / (a.den : Int) else N / (a.den : Int) + 1) else if 0 < o then N / (a.den : Int) + 1 else N / (a.den : Int) := by unfold nearN; simp only [ho]
 rw [nh]
 by_cases h0 : o = 0
 ·rw [if_pos h0, show (o == 0) = true by simp [h0]]
  (try refine RUN ?_)
  (apply EV.drawn 11 (by kernel_rfl) (by kernel_rfl); intro xv yw; (repeat (first | refine' DV (h := ?_) | refine' DA (h := ?_) | refine' DK0 (h := ?_) | (refine' DC (w2) (h := ?_); rotate_left) | (refine' DC (hd2) (h := ?_); rotate_left) | refine' DS (h := ?_))); refine DJ.nil (fun G hG hF => ?_); (case hS => rfl); (case hS2 => rfl))
  repeat (first | refine RUN ?_ | refine CV (sg2) ?_ | refine CE (sg2) ?_)
  by_cases h2 : (N / (a.den : Int)) % 2 = 0
  ·rw [if_pos h2, show decide ((N / (a.den : Int) % 2).sign > 0) = false by rw [h2]; rfl]
   repeat (first | refine RUN ?_ | refine CV (l0) ?_ | refine CE (l0) ?_)
   rfl
  ·rw [if_neg h2, show decide ((N / (a.den : Int) % 2).sign > 0) = true by rw [show N / (a.den : Int) % 2 = 1 by omega]; rfl]
   (try refine RUN ?_)
   (apply EV.drawn 2 (by kernel_rfl) (by kernel_rfl); intro xv yw; (repeat (first | refine' DV (h := ?_) | refine' DA (h := ?_) | refine' DK0 (h := ?_) | (refine' DC (w1) (h := ?_); rotate_left) | refine' DS (h := ?_))); refine DJ.nil (fun G hG hF => ?_); (case hS => rfl); (case hS2 => rfl))
   repeat (first | refine RUN ?_ | refine CV (ad1) ?_ | refine CV (l1) ?_ | refine CE (ad1) ?_ | refine CE (l1) ?_)
   rfl
 ·rw [if_neg h0, show (o == 0) = false by simp [h0]]
  (try refine RUN ?_)
  by_cases h2 : 0 < o
  ·rw [if_pos h2, show decide (o > 0) = true by simpa using h2]
   (try refine RUN ?_)
   (apply EV.drawn 2 (by kernel_rfl) (by kernel_rfl); intro xv yw; (repeat (first | refine' DV (h := ?_) | refine' DA (h := ?_) | refine' DK0 (h := ?_) | (refine' DC (w1) (h := ?_); rotate_left) | refine' DS (h := ?_))); refine DJ.nil (fun G hG hF => ?_); (case hS => rfl); (case hS2 => rfl))
   repeat (first | refine RUN ?_ | refine CV (ad1) ?_ | refine CV (l1) ?_ | refine CE (ad1) ?_ | refine CE (l1) ?_)
   rfl
  ·rw [if_neg h2, show decide (o > 0) = false by simpa using h2]
   repeat (first | refine RUN ?_ | refine CV (l0) ?_ | refine CE (l0) ?_)
   rfl
theorem rq_small {q : Rat} {k : Nat} (h : ht q ≤ k) (hk : k ≤ 100000000) : rq q := Nat.le_trans h hk
theorem absR (a : Rat) : frV (a.num.natAbs : Int) (dk a.den) = fracV (if a.num < 0 then -a else a) := by
 unfold fracV
 split
 ·rename_i h
  rw [Rat.neg_num, Rat.neg_den]
  congr 1; omega
 ·rename_i h
  congr 1; omega
theorem ht_absR (a : Rat) : ht (if a.num < 0 then -a else a) = ht a := by split; exact ht_neg a; rfl
section
variable {P : Program} {n : Nat} {ops : Array Oper} {o : Oper} {rest : List Oper} {env : Env} {bx : Bxs} {H : Hs} {Q : EQ} {τ : Tab} {d : Nat}
theorem EVL.strSlc {T : TypeId} {x : Operand} {lo hi : Option Operand} (ho : o.op = .slice T x lo hi none) (hw : wantB ops env o = some true) (hd : o.dst = some d) (hn : Nat.blt d n = true) (hT : P.underlying T = some .string)
  {s : ByteArray} (hx : env.op x = some (.v (.string s))) (l h : Nat) (hlo : lo = none ∧ l = 0 ∨ ∃ y k, lo = some y ∧ env.op y = some (.v (.int k (l : Int)))) (hhi : hi = none ∧ h = s.size ∨ ∃ y k, hi = some y ∧ env.op y = some (.v (.int k (h : Int)))) (hlh : l ≤ h) (hhs : h ≤ s.size)
  (hK : EVL P n ops rest ((d, .v (.string (s.extract l h))) :: env) bx H Q) : EVL P n ops (o :: rest) env bx H Q := by
 refine EVL.gen hw hd hn (fun ev W he => ?_) hK
 have h1 : ev x = .string s := he x _ (by simp [ho, Op.operands]) hx
 unfold execOp
 simp only [ho, Instr.sliceAt, h1, Option.map_none]
 rcases hlo with ⟨rfl, rfl⟩ | ⟨y, k, rfl, hy⟩
 ·rcases hhi with ⟨rfl, rfl⟩ | ⟨y', k', rfl, hy'⟩
  ·simp [run_underlying hT, Instr.slice, Instr.sliceBounds]
  ·have h2 : ev y' = .int k' h := he y' _ (by simp [ho, Op.operands]) hy'
   simp [run_underlying hT, Instr.slice, Instr.sliceBounds, Instr.sliceBound, h2, asIntOf, hhs]
 ·have h3 : ev y = .int k l := he y _ (by simp [ho, Op.operands]) hy
  rcases hhi with ⟨rfl, rfl⟩ | ⟨y', k', rfl, hy'⟩
  ·simp [run_underlying hT, Instr.slice, Instr.sliceBounds, Instr.sliceBound, h3, asIntOf, hlh]
  ·have h2 : ev y' = .int k' h := he y' _ (by simp [ho, Op.operands]) hy'
   simp [run_underlying hT, Instr.slice, Instr.sliceBounds, Instr.sliceBound, h2, h3, asIntOf, hhs, hlh]
end
abbrev str1 : ByteArray := ⟨#[49]⟩
theorem small1_pv : PV Tryz.prog 196 #[.int .i64 1] (.string str1) := by
 refine PV.of_pc ?_
 refine PC.body Tryz.tab_ok Tryz.func196 rfl (by kernel_rfl) Tryz.ntmps196 rfl rfl ?_
 (try refine RUN ?_)
 refine EVL.strSlc rfl rfl rfl rfl (by kernel_rfl) rfl 1 2 (.inr ⟨_, IntKind.i64, rfl, rfl⟩) (.inr ⟨_, IntKind.i64, rfl, rfl⟩) (by decide) (by decide) ?_
 (try refine RUN ?_)
 rfl
theorem fmt1_pv : PV Tryz.prog 167 #[.int .u64 1, .int .i64 10] (.string str1) := by
 refine PV.of_pc ?_
 refine PC.body Tryz.tab_ok Tryz.func167 rfl (by kernel_rfl) Tryz.ntmps167 rfl rfl ?_
 repeat (first | refine RUN ?_ | refine CV (small1_pv) ?_ | refine CE (small1_pv) ?_)
 rfl
theorem format1_pv : PV Tryz.prog 123 #[.int .u64 1, .int .i64 10] (.string str1) := by
 refine PV.of_pc ?_
 refine PC.body Tryz.tab_ok Tryz.func123 rfl (by kernel_rfl) Tryz.ntmps123 rfl rfl ?_
 repeat (first | refine RUN ?_ | refine CV (fmt1_pv) ?_ | refine CE (fmt1_pv) ?_)
 rfl
theorem natText1_pv : PV Tryz.prog 44 #[natV 1] (.string str1) := by
 have hb : big 1 := by show bl 1 ≤ _; have := bl_le (n := 1) (k := 1) (by decide); omega
 have hd : dig W64 1 = [1] := by rw [dig_pos W64_two (by decide)]; simp [dig_zero, W64_val]
 have hw := fun H => words_pc 1 hb H
 rw [hd] at hw
 refine PV.of_pc ?_
 refine PC.body Tryz.tab_ok Tryz.func44 rfl (by kernel_rfl) Tryz.ntmps44 rfl rfl ?_
 (try refine RUN ?_)
 refine EVL.call rfl rfl rfl rfl rfl (hw _) ?_
 rintro v G hv hG
 obtain ⟨a, c, rfl⟩ := SlC.val hv
 repeat (first | refine RUN ?_ | refine CV (format1_pv) ?_ | refine CE (format1_pv) ?_)
 rfl
theorem ordR_self (a : Rat) : ordR a a = 0 := by unfold ordR; rw [if_neg Rat.lt_irrefl, if_neg Rat.lt_irrefl]
theorem cmp_eq (a b : Rat) (ha : sm a) (hb : sm b) (h : a = b) : PV Tryz.prog 31 #[fracV a, fracV b] (.int .i64 0) := by
 subst h
 have := cmp_pv a a ha hb
 rwa [ordR_self] at this
def absQ (a : Rat) : Rat := if a.num < 0 then -a else a
theorem ht_absQ (a : Rat) : ht (absQ a) = ht a := ht_absR a
theorem absq_pv (a : Rat) (h : sm a) : PV Tryz.prog 40 #[fracV a] (fracV (absQ a)) := by
 have := abs_pv a (Nat.le_trans (bl_num_le a) (Nat.le_trans h (by omega)))
 rwa [absR] at this
structure Nrst (N n : Int) (d : Nat) : Prop where
 up : 2 * (N * d - n) ≤ d
 down : 2 * (n - N * d) ≤ d
 tieU : 2 * (N * d - n) = d → N % 2 = 0
 tieD : 2 * (n - N * d) = d → N % 2 = 0
theorem nearN_spec (n : Int) (d : Nat) (h : 0 < d) : Nrst (nearN n d) n d := by
 have h1 := Int.mul_ediv_add_emod n (d : Int)
 have h2 := Int.emod_nonneg n (show (d : Int) ≠ 0 by omega)
 have h3 := Int.emod_lt_of_pos n (show (0 : Int) < d by omega)
 unfold nearN
 simp only
 generalize n / (d : Int) = q at *
 generalize n % (d : Int) = r at *
 have e : ∀ N : Int, N * (d : Int) - n = (N - q) * d - r := fun N => by rw [Int.sub_mul, ← h1, Int.mul_comm (d : Int) q]; omega
 have e' : ∀ N : Int, n - N * (d : Int) = (q - N) * d + r := fun N => by rw [Int.sub_mul, ← h1, Int.mul_comm (d : Int) q]; omega
 have c0 : (q - q) * (d : Int) = 0 := by rw [Int.sub_self, Int.zero_mul]
 have c1 : (q + 1 - q) * (d : Int) = d := by rw [show q + 1 - q = 1 by omega, Int.one_mul]
 have c2 : (q - (q + 1)) * (d : Int) = -d := by rw [show q - (q + 1) = -1 by omega, Int.neg_one_mul]
 rcases Int.lt_trichotomy (r + r) d with hr | hr | hr
 ·rw [show ordZ (r + r) d = -1 by unfold ordZ; rw [if_pos hr], if_neg (by decide), if_neg (by decide)]
  exact ⟨by rw [e, c0]; omega, by rw [e', c0]; omega, fun h => by rw [e, c0] at h; omega, fun h => by rw [e', c0] at h; omega⟩
 ·rw [show ordZ (r + r) d = 0 by unfold ordZ; rw [if_neg (by omega), if_neg (by omega)], if_pos rfl]
  by_cases hq : q % 2 = 0
  ·rw [if_pos hq]
   exact ⟨by rw [e, c0]; omega, by rw [e', c0]; omega, fun _ => hq, fun _ => hq⟩
  ·rw [if_neg hq]
   exact ⟨by rw [e, c1]; omega, by rw [e', c2]; omega, fun _ => by omega, fun _ => by omega⟩
 ·rw [show ordZ (r + r) d = 1 by unfold ordZ; rw [if_neg (by omega), if_pos hr], if_neg (by decide), if_pos (by decide)]
  exact ⟨by rw [e, c1]; omega, by rw [e', c2]; omega, fun h => by rw [e, c1] at h; omega, fun h => by rw [e', c2] at h; omega⟩
theorem Nrst.le {N N' n n' : Int} {d d' : Nat} (h : Nrst N n d) (h' : Nrst N' n' d') (hd : 0 < d) (hd' : 0 < d') (hle : n * d' ≤ n' * d) : N ≤ N' := by
 rcases (by omega : N' < N ∨ N ≤ N') with hlt | hge
 ·exfalso
  have hdd : (0 : Int) < (d : Int) * d' := Int.mul_pos (by omega) (by omega)
  have a1 : (2 * N - 1) * d ≤ 2 * n := by have := h.up; rw [Int.sub_mul, Int.one_mul, Int.mul_assoc]; omega
  have a2 : 2 * n' ≤ (2 * N' + 1) * d' := by have := h'.down; rw [Int.add_mul, Int.one_mul, Int.mul_assoc]; omega
  have b1 : (2 * N - 1) * d * d' ≤ 2 * n * d' := Int.mul_le_mul_of_nonneg_right a1 (by omega)
  have b2 : 2 * n' * d ≤ (2 * N' + 1) * d' * d := Int.mul_le_mul_of_nonneg_right a2 (by omega)
  have b3 : 2 * n * d' ≤ 2 * n' * d := by rw [Int.mul_assoc, Int.mul_assoc]; omega
  have b4 : (2 * N' + 1) * d' * d = (2 * N' + 1) * (d * d') := by rw [Int.mul_assoc, Int.mul_comm (d' : Int)]
  have b5 : (2 * N - 1) * d * d' = (2 * N - 1) * (d * d') := by rw [Int.mul_assoc]
  have b6 : (2 * N' + 1) * ((d : Int) * d') ≤ (2 * N - 1) * (d * d') := Int.mul_le_mul_of_nonneg_right (by omega) (by omega)
  have t1 : (2 * N - 1) * d * d' = 2 * n * d' := by omega
  have t2 : 2 * n' * d = (2 * N' + 1) * d' * d := by omega
  have t3 : (2 * N - 1) * (d : Int) = 2 * n := Int.eq_of_mul_eq_mul_right (by omega) t1
  have t4 : 2 * n' = (2 * N' + 1) * (d' : Int) := Int.eq_of_mul_eq_mul_right (by omega) t2
  have t5 : (2 * N' + 1) * ((d : Int) * d') = (2 * N - 1) * (d * d') := by omega
  have t6 : 2 * N' + 1 = 2 * N - 1 := Int.eq_of_mul_eq_mul_right (by omega) t5
  have p1 := h.tieU (by rw [Int.sub_mul, Int.one_mul, Int.mul_assoc] at t3; omega)
  have p2 := h'.tieD (by rw [Int.add_mul, Int.one_mul, Int.mul_assoc] at t4; omega)
  omega
 ·exact hge
theorem Nrst.eq {N N' n n' : Int} {d d' : Nat} (h : Nrst N n d) (h' : Nrst N' n' d') (hd : 0 < d) (hd' : 0 < d') (he : n * d' = n' * d) : N = N' :=
 Int.le_antisymm (h.le h' hd hd' (by omega)) (h'.le h hd' hd (by omega))
theorem Nrst.neg {N n : Int} {d : Nat} (h : Nrst N n d) : Nrst (-N) (-n) d :=
 ⟨by have := h.down; rw [Int.neg_mul]; omega, by have := h.up; rw [Int.neg_mul]; omega, fun e => by have := h.tieD (by rw [Int.neg_mul] at e; omega); omega, fun e => by have := h.tieU (by rw [Int.neg_mul] at e; omega); omega⟩
theorem Nrst.whole (N : Int) (d : Nat) (h : 0 < d) : Nrst N (N * d) d := ⟨by omega, by omega, fun e => by omega, fun e => by omega⟩
def nr (k : Nat) (a : Rat) : Rat := mkRat (nearN (a.num * (2 ^ k : Nat)) a.den) (2 ^ k)
def nrN (k : Nat) (a : Rat) : Int := nearN (a.num * (2 ^ k : Nat)) a.den
theorem nr_div (k : Nat) (a : Rat) : nr k a = (nrN k a : Rat) / ((2 ^ k : Nat) : Rat) := by
 unfold nr nrN
 rw [Rat.mkRat_eq_div]
theorem pw_pos (k : Nat) : (0 : Rat) < ((2 ^ k : Nat) : Rat) := by
 have := Nat.two_pow_pos k
 exact_mod_cast this
theorem nrN_spec (k : Nat) (a : Rat) : Nrst (nrN k a) (a.num * (2 ^ k : Nat)) a.den := nearN_spec _ _ (Nat.pos_of_ne_zero a.den_nz)
theorem num_den (a : Rat) : (a.num : Rat) = a * (a.den : Rat) := by
 have h : (a.den : Rat) ≠ 0 := by exact_mod_cast a.den_nz
 have := Rat.num_divInt_den a
 rw [Rat.divInt_eq_div] at this
 have h2 : (a.num : Rat) / ((a.den : Int) : Rat) = a := this
 rw [show ((a.den : Int) : Rat) = (a.den : Rat) from rfl] at h2
 grind
theorem nr_mono (k : Nat) {a b : Rat} (h : a ≤ b) : nr k a ≤ nr k b := by
 have hN : nrN k a ≤ nrN k b := by
  refine (nrN_spec k a).le (nrN_spec k b) (Nat.pos_of_ne_zero a.den_nz) (Nat.pos_of_ne_zero b.den_nz) ?_
  have h1 := (Rat.le_iff a b).1 h
  have h2 : (0 : Int) ≤ ((2 ^ k : Nat) : Int) := Int.natCast_nonneg _
  have h3 := Int.mul_le_mul_of_nonneg_right h1 h2
  rw [Int.mul_right_comm, Int.mul_right_comm b.num] at h3
  exact h3
 rw [nr_div, nr_div]
 have hp := pw_pos k
 have hN' : (nrN k a : Rat) ≤ (nrN k b : Rat) := by exact_mod_cast hN
 have hne : ((2 ^ k : Nat) : Rat) ≠ 0 := by grind
 refine Rat.le_of_mul_le_mul_right ?_ hp
 rw [Rat.div_mul_cancel hne, Rat.div_mul_cancel hne]
 exact hN'
theorem nr_idem (k : Nat) (a : Rat) : nr k (nr k a) = nr k a := by
 have hp := pw_pos k
 have hne : ((2 ^ k : Nat) : Rat) ≠ 0 := by grind
 have h1 : nr k a * ((2 ^ k : Nat) : Rat) = (nrN k a : Rat) := by rw [nr_div, Rat.div_mul_cancel hne]
 generalize hb : nr k a = b at *
 have h2 := num_den b
 have h3 : b.num * ((2 ^ k : Nat) : Int) = nrN k a * (b.den : Int) := by
  have : (b.num : Rat) * ((2 ^ k : Nat) : Rat) = (nrN k a : Rat) * (b.den : Rat) := by rw [h2, ← h1]; grind
  exact_mod_cast this
 have h4 : nrN k b = nrN k a := by
  refine (nrN_spec k b).eq (Nrst.whole (nrN k a) b.den (Nat.pos_of_ne_zero b.den_nz)) (Nat.pos_of_ne_zero b.den_nz) (Nat.pos_of_ne_zero b.den_nz) ?_
  rw [h3]
 rw [nr_div, h4, ← nr_div, hb]
theorem nr_neg (k : Nat) (a : Rat) : nr k (-a) = -nr k a := by
 have h := nrN_spec k (-a)
 rw [Rat.neg_num, Rat.neg_den, Int.neg_mul] at h
 have e : nrN k (-a) = -nrN k a := h.eq (nrN_spec k a).neg (Nat.pos_of_ne_zero a.den_nz) (Nat.pos_of_ne_zero a.den_nz) rfl
 rw [nr_div, nr_div, e]
 have : ((-nrN k a : Int) : Rat) = -(nrN k a : Rat) := by push_cast; rfl
 rw [this]; grind
theorem nr_far (k : Nat) (a : Rat) : 2 * (nr k a - a) ≤ 1 / ((2 ^ k : Nat) : Rat) ∧ 2 * (a - nr k a) ≤ 1 / ((2 ^ k : Nat) : Rat) := by
 have hp := pw_pos k
 have hne : ((2 ^ k : Nat) : Rat) ≠ 0 := by grind
 have h := nrN_spec k a
 have hd : (0 : Rat) < (a.den : Rat) := by have := Nat.pos_of_ne_zero a.den_nz; exact_mod_cast this
 have hn := num_den a
 have u : 2 * ((nrN k a : Rat) * (a.den : Rat) - (a.num : Rat) * ((2 ^ k : Nat) : Rat)) ≤ (a.den : Rat) := by exact_mod_cast h.up
 have v : 2 * ((a.num : Rat) * ((2 ^ k : Nat) : Rat) - (nrN k a : Rat) * (a.den : Rat)) ≤ (a.den : Rat) := by exact_mod_cast h.down
 rw [hn] at u v
 rw [nr_div]
 generalize (nrN k a : Rat) = N at *
 generalize ((2 ^ k : Nat) : Rat) = p at *
 generalize (a.den : Rat) = d at *
 have u2 : 2 * (N - a * p) ≤ 1 := Rat.le_of_mul_le_mul_right (c := d) (by grind) hd
 have v2 : 2 * (a * p - N) ≤ 1 := Rat.le_of_mul_le_mul_right (c := d) (by grind) hd
 have e1 : N / p * p = N := Rat.div_mul_cancel hne
 have e2 : 1 / p * p = 1 := Rat.div_mul_cancel hne
 exact ⟨Rat.le_of_mul_le_mul_right (c := p) (by grind) hp, Rat.le_of_mul_le_mul_right (c := p) (by grind) hp⟩
theorem nr_step (k : Nat) (a : Rat) : nr k a / (1 / ((2 ^ k : Nat) : Rat)) = ((nrN k a : Int) : Rat) := by
 have hp := pw_pos k
 have hne : ((2 ^ k : Nat) : Rat) ≠ 0 := by grind
 rw [nr_div]
 generalize (nrN k a : Rat) = N at *
 generalize ((2 ^ k : Nat) : Rat) = p at *
 grind
theorem nearR_pv (a : Rat) (ha : sm a) (k : Nat) (hk : k ≤ 256) : PV Tryz.prog 38 #[fracV a, .int .i64 (k : Int)] (fracV (nr k a)) := by
 have := near_pv a ha (k : Int) (by omega)
 rwa [show kb (k : Int) = k by unfold kb; omega] at this
theorem nrN_abs (k : Nat) (a : Rat) : (nrN k a).natAbs ≤ (a.num * (2 ^ k : Nat)).natAbs + 1 := by
 have h := nrN_spec k a
 have hd := Nat.pos_of_ne_zero a.den_nz
 have h1 := h.up
 have h2 := h.down
 generalize nrN k a = N at *
 generalize a.num * ((2 ^ k : Nat) : Int) = m at *
 generalize a.den = d at *
 rcases Int.lt_trichotomy N 0 with hN | hN | hN
 ·have h3 := Int.mul_le_mul_of_nonneg_left (show (1 : Int) ≤ d by omega) (show 0 ≤ -N - 1 by omega)
  rw [Int.mul_one, Int.sub_mul, Int.one_mul, Int.neg_mul] at h3
  omega
 ·subst hN; omega
 ·have h3 := Int.mul_le_mul_of_nonneg_left (show (1 : Int) ≤ d by omega) (show 0 ≤ N - 1 by omega)
  rw [Int.mul_one, Int.sub_mul, Int.one_mul] at h3
  omega
theorem ht_nr (k : Nat) (a : Rat) : ht (nr k a) ≤ ht a + k + 2 := by
 unfold nr
 refine Nat.le_trans (ht_mk _ _ (by have := Nat.two_pow_pos k; omega)) (Nat.max_le.2 ⟨?_, ?_⟩)
 ·have h1 := bl_mono (nrN_abs k a)
  have h2 := bl_add (a.num * ((2 ^ k : Nat) : Int)).natAbs 1
  rw [bl_one'] at h2
  have h3 : bl (a.num * ((2 ^ k : Nat) : Int)).natAbs ≤ bl a.num.natAbs + (k + 1) := by
   rw [Int.natAbs_mul, Int.natAbs_natCast, ← bl_pow2 k]; exact bl_mul _ _
  have h4 := bl_num_le a
  have h5 := bl_pos (n := 1) (by decide)
  change bl (nrN k a).natAbs ≤ _
  omega
 ·rw [bl_pow2]; omega
theorem cmp_le (a b : Rat) (ha : sm a) (hb : sm b) (h : a ≤ b) : ∃ o : Int, o ≤ 0 ∧ PV Tryz.prog 31 #[fracV a, fracV b] (.int .i64 o) := by
 refine ⟨ordR a b, ?_, cmp_pv a b ha hb⟩
 unfold ordR
 split
 ·decide
 ·split
  ·rename_i h1 h2; exact absurd h2 (Rat.not_lt.2 h)
  ·decide
theorem ordR_pos (a b : Rat) : ordR a b > 0 ↔ b < a := by
 unfold ordR
 constructor
 ·intro h
  split at h
  ·exact absurd h (by decide)
  ·split at h
   ·assumption
   ·exact absurd h (by decide)
 ·intro h
  rw [if_neg (Rat.not_lt.2 (Rat.le_of_lt h)), if_pos h]; decide
theorem absQ_le {a c : Rat} (h1 : a ≤ c) (h2 : -a ≤ c) : absQ a ≤ c := by unfold absQ; split; exact h2; exact h1
theorem absQ_pos (a : Rat) : 0 ≤ absQ a := by
 unfold absQ
 split
 ·rename_i h; rw [← Rat.num_nonneg, Rat.neg_num]; omega
 ·rename_i h; rw [← Rat.num_nonneg]; omega
set_option maxHeartbeats 8000000 in
theorem order_pc {H : Hp} {u v w : Value} (hu : RawQ H u) (hv : RawQ H v) (hw : RawQ H w) (bits : Int) (hbits : -9223372036854775808 ≤ bits ∧ bits < 9223372036854775808) (hkn : PV Tryz.prog 22 #[] (.bool true)) : PC Tryz.prog 5 #[u, v, w, .int .i64 bits] H fun r _ => r = .bool true := by
 obtain ⟨z1, sa1, sb1, la1, lb1, n1, rfl, _, ha1, hb1, _⟩ := hu.ex
 obtain ⟨z2, sa2, sb2, la2, lb2, n2, rfl, _, ha2, hb2, _⟩ := hv.ex
 obtain ⟨z3, sa3, sb3, la3, lb3, n3, rfl, _, ha3, hb3, _⟩ := hw.ex
 obtain ⟨a1, c1, rfl⟩ := SlC.val ha1
 obtain ⟨a2, c2, rfl⟩ := SlC.val hb1
 obtain ⟨a3, c3, rfl⟩ := SlC.val ha2
 obtain ⟨a4, c4, rfl⟩ := SlC.val hb2
 obtain ⟨a5, c5, rfl⟩ := SlC.val ha3
 obtain ⟨a6, c6, rfl⟩ := SlC.val hb3
 clear ha1 hb1 ha2 hb2 ha3 hb3
 have hpick := pick_pv bits 30 hbits (by omega) (by omega)
 obtain ⟨k, hk⟩ := Int.eq_ofNat_of_zero_le (Int.emod_nonneg bits (show (30 : Int) ≠ 0 by omega))
 have hk30 : k < 30 := by have := Int.emod_lt_of_pos bits (show (0 : Int) < 30 by omega); omega
 rw [hk] at hpick
 refine PC.body Tryz.tab_ok Tryz.func5 rfl (by kernel_rfl) Tryz.ntmps5 rfl rfl ?_
 (try refine RUN ?_)
 refine EVL.call rfl rfl rfl rfl rfl (one_pc hu) ?_
 rintro r G1 ⟨x, hx, hX⟩ hG1
 repeat (first | refine RUN ?_ | refine CV (in_pc hX (rq_small hx (by omega))) ?_ | refine CE (in_pc hX (rq_small hx (by omega))) ?_)
 refine EVL.call rfl rfl rfl rfl rfl (one_pc (hv.mono hG1)) ?_
 rintro r G2 ⟨y, hy, hY⟩ hG2
 repeat (first | refine RUN ?_ | refine CV (in_pc hY (rq_small hy (by omega))) ?_ | refine CE (in_pc hY (rq_small hy (by omega))) ?_)
 refine EVL.call rfl rfl rfl rfl rfl (one_pc (hw.mono (hG1.trans hG2))) ?_
 rintro r G3 ⟨z, hz, hZ⟩ hG3
 repeat (first | refine RUN ?_ | refine CV (in_pc hZ (rq_small hz (by omega))) ?_ | refine CE (in_pc hZ (rq_small hz (by omega))) ?_)
 clear hX hY hZ hu hv hw
 have sx : sm x := rq_small hx (by omega)
 have sy : sm y := rq_small hy (by omega)
 have sz : sm z := rq_small hz (by omega)
 have hcm := cmp_pv x y sx sy
 have hor := ordR_pos x y
 generalize ordR x y = o at *
 repeat (first | refine RUN ?_ | refine CV (hcm) ?_ | refine CE (hcm) ?_)
 refine EV.meetK (ι := Rat × Rat) [3, 9, 10, 11] [11] (fun _ => []) (fun p => [(9, 45, [.bool (decide (p.1.num < 0)), .int .u64 (lo p.1.num.natAbs : Int), .string (moreB p.1.num.natAbs), .int .u64 (lo (dk p.1.den) : Int), .string (moreB (dk p.1.den))]), (10, 45, [.bool (decide (p.2.num < 0)), .int .u64 (lo p.2.num.natAbs : Int), .string (moreB p.2.num.natAbs), .int .u64 (lo (dk p.2.den) : Int), .string (moreB (dk p.2.den))])]) (fun _ => []) (fun p G => p.1 ≤ p.2 ∧ ht p.1 ≤ 200 ∧ ht p.2 ≤ 200) rfl rfl (fun _ => rfl) ?_ ?_
 ·by_cases hlt : y < x
  ·rw [decide_eq_true (hor.2 hlt)]
   (try refine RUN ?_)
   exact ⟨(y, x), trivial, (by repeat (first | exact trivial | refine And.intro rfl ?_)), ⟨rfl, rfl, trivial⟩, (by repeat (first | exact trivial | refine And.intro rfl ?_)), rfl, Rat.le_of_lt hlt, hy, hx⟩
  ·rw [decide_eq_false (fun h => hlt (hor.1 h))]
   (try refine RUN ?_)
   exact ⟨(x, y), trivial, (by repeat (first | exact trivial | refine And.intro rfl ?_)), ⟨rfl, rfl, trivial⟩, (by repeat (first | exact trivial | refine And.intro rfl ?_)), rfl, Rat.not_lt.1 hlt, hx, hy⟩
 ·rintro ⟨x, y⟩ G4 ⟨hxy, hx, hy⟩
  dsimp only at hxy hx hy
  clear hcm hor sx sy
  have sx : sm x := rq_small hx (by omega)
  have sy : sm y := rq_small hy (by omega)
  have b1 : big 1 := by show bl 1 ≤ _; rw [bl_one']; omega
  have hbk : bl (2 ^ k) ≤ 31 := by rw [bl_pow2]; omega
  have hsh := natShift_up 1 k (by omega) b1
  rw [Nat.one_mul] at hsh
  have hfr := from_pv false (2 ^ k) (Nat.le_trans hbk (by omega))
  rw [show sg false (2 ^ k) = ((2 ^ k : Nat) : Int) from rfl] at hfr
  have hmk := make_pv 1 ((2 ^ k : Nat) : Int) (by show bl 1 ≤ _; rw [bl_one']; omega) (Nat.le_trans hbk (by omega)) (by have := Nat.two_pow_pos k; omega)
  rw [if_neg (show ¬ (((2 ^ k : Nat) : Int) < 0) from Int.not_lt.2 (Int.natCast_nonneg _)), Int.natAbs_natCast] at hmk
  have hof := wholeOf_pv 1 (by omega) (by omega)
  have hnof := natOf_pv 1 (by decide)
  have hsv : mkRat 1 (2 ^ k) = 1 / ((2 ^ k : Nat) : Rat) := by rw [Rat.mkRat_eq_div]; rfl
  have hst : ht (mkRat 1 (2 ^ k)) ≤ 31 := Nat.le_trans (ht_mk _ _ (by have := Nat.two_pow_pos k; omega)) (Nat.max_le.2 ⟨by show bl 1 ≤ _; rw [bl_one']; omega, hbk⟩)
  have hpp := pw_pos k
  have hstep0 : mkRat 1 (2 ^ k) ≠ 0 := by rw [hsv]; grind
  have hfar := nr_far k x
  have hmonoN := nr_mono k hxy
  have hidem := nr_idem k x
  have hnegN := nr_neg k x
  have hstepN := nr_step k x
  rw [← hsv] at hfar hstepN
  have hnx := ht_nr k x
  have hny := ht_nr k y
  have hnnx := ht_nr k (-x)
  rw [ht_neg] at hnnx
  have snx : sm (nr k x) := by unfold sm; omega
  have sny : sm (nr k y) := by unfold sm; omega
  have sst : sm (mkRat 1 (2 ^ k)) := by unfold sm; omega
  have near_x := nearR_pv x sx k (by omega)
  have near_y := nearR_pv y sy k (by omega)
  have near_nx := nearR_pv (nr k x) snx k (by omega)
  rw [hidem] at near_nx
  have near_neg := nearR_pv (-x) (by unfold sm; rw [ht_neg]; exact sx) k (by omega)
  rw [hnegN] at near_neg
  generalize mkRat 1 (2 ^ k) = st at *
  generalize hnxe : nr k x = nx at *
  generalize nr k y = ny at *
  have hsub := sub_pv nx x snx sx
  have hs1 := ht_sub nx x
  have sdx : sm (nx - x) := by unfold sm; omega
  have habs := absq_pv (nx - x) sdx
  have sfar : sm (absQ (nx - x)) := by unfold sm; rw [ht_absQ]; exact sdx
  have hfle : absQ (nx - x) + absQ (nx - x) ≤ st := by
   have := absQ_le (a := nx - x) (c := st - absQ (nx - x)) (by
    unfold absQ; split <;> grind) (by unfold absQ; split <;> grind)
   grind
  repeat (first | refine RUN ?_ | refine CV (hpick) ?_ | refine CE (hpick) ?_)
  repeat (first | refine RUN ?_ | refine CV (hof) ?_ | refine CV (hnof) ?_ | refine CV (hsh) ?_ | refine CV (hfr) ?_ | refine CV (hmk) ?_ | refine CE (hof) ?_ | refine CE (hnof) ?_ | refine CE (hsh) ?_ | refine CE (hfr) ?_ | refine CE (hmk) ?_)
  (apply EV.drawn 8 (by kernel_rfl) (by kernel_rfl); intro xv yw; (repeat (first | refine' DV (h := ?_) | refine' DA (h := ?_) | refine' DK0 (h := ?_) | (refine' DC (near_x) (h := ?_); rotate_left) | (refine' DC (hsub) (h := ?_); rotate_left) | (refine' DC (habs) (h := ?_); rotate_left) | refine' DS (h := ?_))); refine DJ.nil (fun G hG hF => ?_); (case hS => rfl); (case hS2 => rfl))
  (try refine RUN ?_)
  have hdiv := div_pv nx st snx sst hstep0
  rw [hstepN] at hdiv
  (apply EV.drawn 11 (by kernel_rfl) (by kernel_rfl); intro xv yw; (repeat (first | refine' DV (h := ?_) | refine' DA (h := ?_) | refine' DK0 (h := ?_) | (refine' DC (near_x) (h := ?_); rotate_left) | (refine' DC (hdiv) (h := ?_); rotate_left) | refine' DS (h := ?_))); refine DJ.nil (fun G hG hF => ?_); (case hS => rfl); (case hS2 => rfl))
  (try refine RUN ?_)
  have hxz := ht_add x z
  have hyz := ht_add y z
  have hmx := ht_mul x (absQ z)
  have hmy := ht_mul y (absQ z)
  have haz := ht_absQ z
  have hff := ht_add (absQ (nx - x)) (absQ (nx - x))
  have hafar := ht_absQ (nx - x)
  have saz : sm (absQ z) := by unfold sm; omega
  have hd1 : ((nrN k (x, y).1 : Int) : Rat).den = 1 := rfl
  have hden := den_pv ((nrN k x : Int) : Rat) (by show bl 1 ≤ _; rw [bl_one']; omega)
  rw [show ((nrN k x : Int) : Rat).den = 1 from rfl] at hden
  obtain ⟨o1, ho1, hc1⟩ := cmp_le (x + z) (y + z) (by unfold sm; omega) (by unfold sm; omega) (by grind)
  obtain ⟨o2, ho2, hc2⟩ := cmp_le (x * absQ z) (y * absQ z) (by unfold sm; omega) (by unfold sm; omega) (Rat.mul_le_mul_of_nonneg_right hxy (absQ_pos z))
  obtain ⟨o3, ho3, hc3⟩ := cmp_le nx ny snx sny hmonoN
  obtain ⟨o4, ho4, hc4⟩ := cmp_le (absQ (nx - x) + absQ (nx - x)) st (by unfold sm; omega) sst hfle
  have hq1 := cmp_eq nx nx snx snx rfl
  have snn : sm (-nx) := by unfold sm; rw [ht_neg]; exact snx
  have hq2 := cmp_eq (-nx) (-nx) snn snn rfl
  have bnx : bigI x.num := Nat.le_trans (bl_num_le x) (Nat.le_trans sx (by omega))
  have bnnx : bigI nx.num := Nat.le_trans (bl_num_le nx) (Nat.le_trans snx (by omega))
  apply EV.drawn 72 (by kernel_rfl) (by kernel_rfl); intro xv yw
  (repeat (first | refine' DV (h := ?_) | refine' DA (h := ?_) | refine' DK0 (h := ?_) | (refine' DJ.setb Tryz.tab_ok rfl rfl rfl rfl rfl rfl rfl rfl rfl rfl rfl ?_; rotate_left) | (refine' DC (hkn) (h := ?_); rotate_left) | (refine' DC (add_pv x z sx sz) (h := ?_); rotate_left) | (refine' DC (add_pv y z sy sz) (h := ?_); rotate_left) | (refine' DC (hc1) (h := ?_); rotate_left) | refine' DS (h := ?_)))
  rw [decide_eq_true ho1]
  (repeat (first | refine' DV (h := ?_) | refine' DA (h := ?_) | refine' DK0 (h := ?_) | (refine' DJ.setb Tryz.tab_ok rfl rfl rfl rfl rfl rfl rfl rfl rfl rfl rfl ?_; rotate_left) | (refine' DC (absq_pv z sz) (h := ?_); rotate_left) | (refine' DC (mul_pv x _ sx saz) (h := ?_); rotate_left) | (refine' DC (mul_pv y _ sy saz) (h := ?_); rotate_left) | (refine' DC (hc2) (h := ?_); rotate_left) | refine' DS (h := ?_)))
  rw [decide_eq_true ho2]
  (repeat (first | refine' DV (h := ?_) | refine' DA (h := ?_) | refine' DK0 (h := ?_) | (refine' DJ.setb Tryz.tab_ok rfl rfl rfl rfl rfl rfl rfl rfl rfl rfl rfl ?_; rotate_left) | (refine' DC (near_x) (h := ?_); rotate_left) | (refine' DC (near_y) (h := ?_); rotate_left) | (refine' DC (hc3) (h := ?_); rotate_left) | refine' DS (h := ?_)))
  rw [decide_eq_true ho3]
  (repeat (first | refine' DV (h := ?_) | refine' DA (h := ?_) | refine' DK0 (h := ?_) | (refine' DJ.setb Tryz.tab_ok rfl rfl rfl rfl rfl rfl rfl rfl rfl rfl rfl ?_; rotate_left) | (refine' DC (add_pv _ _ sfar sfar) (h := ?_); rotate_left) | (refine' DC (hc4) (h := ?_); rotate_left) | refine' DS (h := ?_)))
  rw [decide_eq_true ho4]
  (repeat (first | refine' DV (h := ?_) | refine' DA (h := ?_) | refine' DK0 (h := ?_) | (refine' DJ.setb Tryz.tab_ok rfl rfl rfl rfl rfl rfl rfl rfl rfl rfl rfl ?_; rotate_left) | (refine' DC (hden) (h := ?_); rotate_left) | (refine' DC (natText1_pv) (h := ?_); rotate_left) | refine' DS (h := ?_)))
  rw [beq_self_eq_true]
  (repeat (first | refine' DV (h := ?_) | refine' DA (h := ?_) | refine' DK0 (h := ?_) | (refine' DJ.setb Tryz.tab_ok rfl rfl rfl rfl rfl rfl rfl rfl rfl rfl rfl ?_; rotate_left) | (refine' DC (near_x) (h := ?_); rotate_left) | (refine' DC (near_nx) (h := ?_); rotate_left) | (refine' DC (hq1) (h := ?_); rotate_left) | (refine' DC (neg_pv x bnx) (h := ?_); rotate_left) | (refine' DC (near_neg) (h := ?_); rotate_left) | (refine' DC (neg_pv nx bnnx) (h := ?_); rotate_left) | (refine' DC (hq2) (h := ?_); rotate_left) | refine' DS (h := ?_)))
  (refine DJ.nil (fun G4 hG4 hF4 => ?_); (case hS => rfl); (case hS2 => rfl))
  (try refine RUN ?_)
  rfl
end Go.Proofs.YtjifapjpgmmcnaaGreatDoor
namespace Go.Proofs.YtjifapjpgmmcnaaGreatDoor
open Go Go.RowKit
theorem laid_gH {P : Program} {l : List (String × DataW Unit)} {W : World} (h : laidMet P l W) {n : String} {zs : List Nat} {g : Nat} {T e : TypeId} (hmem : (n, .agg (zs.map fun (z : Nat) => .lit (.int .u8 z))) ∈ l) (hg : P.globalNamed n = some g) (ht : (P.globals[g]?).map (·.type) = some T)
  (hT : P.underlying T = some (.array zs.length e)) (he : P.underlying e = some (.int .u8)) (hc : P.cellsOf e = 1) (hcT : P.cellsOf T = zs.length) :
  ∃ U fz, W.heap[g]? = some (.cells (zs.map fun (z : Nat) => Value.int .u8 (z : Int)).toArray U fz) := by
 obtain ⟨ps, hl, _⟩ := h
 obtain ⟨p0, g', t, cs, fuel, p, q, hg', ht', hv, hd, _, _⟩ := VM.laid_find hl hmem
 obtain rfl := Option.some.inj (hg.symm.trans hg')
 obtain rfl := Option.some.inj (ht.symm.trans ht')
 obtain ⟨xs, m, _, ex, hcl, hlen, hel⟩ := DataW.trod_array hT hd
 have hb : ∃ U fz, W.heap[g]? = some (.cells cs U fz) := by
  simp only [World.var?, hg, Option.bind_some] at hv
  split at hv
  ·rename_i c U fz hc'; cases hv; exact ⟨U, fz, hc'⟩
  ·cases hv
 obtain ⟨U, fz, hb⟩ := hb
 refine ⟨U, fz, ?_⟩
 rw [hb]
 congr 2
 apply Array.ext'
 rw [hcT] at hcl
 have e3 : (xs.map (·.1)) = zs.map fun (n : Nat) => .lit (.int .u8 n) := (DataW.agg.inj (Prod.mk.inj ex).1).symm
 apply List.ext_getElem?
 intro r
 rcases Nat.lt_or_ge r zs.length with hr | hr
 ·have hE := hel r hr
  rw [hc, Nat.mul_one, List.getElem?_eq_getElem (by omega)] at hE
  obtain ⟨z, e1, e2, _⟩ := DataW.trod_int he hE
  have e4 : (xs.map (·.1))[r]? = (zs.map fun (n : Nat) => (DataW.lit (.int .u8 n) : DataW Unit))[r]? := by rw [e3]
  rw [List.getElem?_map, List.getElem?_map, List.getElem?_eq_getElem (by omega : r < xs.length), List.getElem?_eq_getElem hr, e2] at e4
  simp only [Option.map_some, Option.some.injEq, DataW.lit.injEq, Lit.int.injEq, true_and] at e4
  have h0 : ((cs.toList.drop r).take 1)[0]? = some (.int .u8 z) := by rw [e1]; rfl
  simp only [List.getElem?_take, List.getElem?_drop, Nat.add_zero] at h0
  rw [if_pos (by omega)] at h0
  rw [h0, e4]
  simp [hr]
 ·rw [List.getElem?_eq_none (by omega), List.getElem?_eq_none (by simpa using hr)]
theorem fits_gH {l : List (String × DataW Unit)} {W : World} (h : laidMet Tryz.prog l W) (hmem : ("math/bits.deBruijn64tab", .agg (Lib.deBruijn64tab.map fun (z : Nat) => .lit (.int .u8 z))) ∈ l) : Fits gH W := fun b c hb => by
 unfold gH at hb
 split at hb
 ·rename_i hbb
  cases hb
  obtain rfl := Nat.eq_of_beq_eq_true hbb
  exact laid_gH h hmem (by kernel_rfl) (by kernel_rfl) Tryz.underlying247 Tryz.underlying5 (by kernel_rfl) (by kernel_rfl)
 ·cases hb
theorem gl_of_fits {W : World} (h : Fits gH W) : ∀ g cs, VM.ctx.gl g = some cs → ∃ c U fz, W.heap[g]? = some (.cells c U fz) ∧ VM.VL (fun _ => none) cs (c.toList.take cs.length) := fun g cs hg => by
 have hm := VM.assoc_mem hg
 unfold VM.glL at hm
 simp only [List.mem_cons, List.mem_nil_iff, or_false, Prod.mk.injEq] at hm
 obtain ⟨rfl, rfl⟩ := hm
 obtain ⟨U, fz, hW⟩ := h 4 (Lib.deBruijn64tab.map fun (z : Nat) => Value.int .u8 (z : Int)).toArray rfl
 refine ⟨_, U, fz, hW, ?_, fun j x y hx hy => ?_⟩
 ·rfl
 ·have hx' : (Lib.deBruijn64tab.map fun (z : Nat) => VM.AV.int .u8 (.ofNat z))[j]? = some x := hx
  have hy' : (Lib.deBruijn64tab.map fun (z : Nat) => Value.int .u8 (z : Int))[j]? = some y := by
   rw [List.getElem?_take] at hy
   split at hy
   ·exact hy
   ·cases hy
  rw [List.getElem?_map] at hx' hy'
  obtain ⟨z, e1, rfl⟩ := Option.map_eq_some_iff.1 hx'
  rw [e1] at hy'
  cases hy'
  exact .int _ _
theorem known_pv : PV Tryz.prog 22 #[] (.bool true) := ⟨(cOf Tryz.func22 rfl (by kernel_rfl)), fun W hW => (VM.walk22 W (gl_of_fits hW)).mono fun e W' ⟨he, hb⟩ => ⟨he, hb⟩⟩
end Go.Proofs.YtjifapjpgmmcnaaGreatDoor
namespace Go.Proofs.YtjifapjpgmmcnaaGreatDoor
open Go.ChangeShapes Go.WideShapes Go.ChangeAt Go.RowKit
def hpOf (W : World) : Hp := fun b => match W.heap[b]? with
 | some (.cells c _ _) => some c
 | _ => none
theorem fits_hpOf (W : World) : Fits (hpOf W) W := fun b c h => by
 unfold hpOf at h
 split at h
 ·rename_i c' T fz hb; cases h; exact ⟨T, fz, hb⟩
 ·cases h
section
variable {H : Type} {enc : TypeId × Value → H} {P : Program} {w : World} {base : Nat} {spare : Nat → Bool} {held : Bool}
theorem ints_open {t e : TypeId} {k : IntKind} {fuel : Nat} {cs : List Value} {x : DataW H × List MemPlace} (ht : P.underlying t = some (.slice e)) (he : P.underlying e = some (.int k)) (hc : P.cellsOf e = 1) (h : DataW.trod enc P w base spare held fuel t cs = some x) :
  ∃ a len cap zs, cs = [.slice a len cap] ∧ SlN (fun z : Int => Value.int k z) (hpOf w) (.slice a len cap) zs ∧ ∀ n ∈ zs, (Lit.int k n).wf = true := by
 rcases open_ints ht he hc h with ⟨rfl, _⟩ | ⟨x, len, cap, zs, rfl, _, hl, hm, hz, _, hcell, hw⟩
 ·exact ⟨none, 0, 0, [], rfl, nil_sl _ _, fun n hn => by cases hn⟩
 ·have hzl : len ≤ zs.length := by rw [hz]; split <;> omega
  refine ⟨some x, len, cap, zs.take len, rfl, ?_, fun n hn => hw n (List.mem_of_mem_take hn)⟩
  have hlen : (zs.take len).length = len := by rw [List.length_take]; omega
  unfold SlN
  rw [hlen]
  refine ⟨by rw [List.length_map, hlen, Nat.mul_one], ?_⟩
  by_cases h0 : len = 0
  ·subst h0; exact .inl ⟨rfl, some x, cap, rfl⟩
  ·right
   have h1 := hcell 0 (by omega)
   obtain ⟨b, off, sp⟩ := x
   have hsp : sp = none := by
    cases sp with
    | none => rfl
    | some s => simp only [World.cell?, Addr.add] at h1; split at h1 <;> simp_all
   subst hsp
   have hb : ∃ c, hpOf w b = some c ∧ ∀ i, i < zs.length → c[off + i]? = some (.int k (zs.getD i 0)) := by
    simp only [Addr.add_mid] at hcell
    unfold World.cell? at hcell
    unfold hpOf
    simp only at hcell
    cases hw' : w.heap[b]? with
    | none => have := hcell 0 (by omega); rw [hw'] at this; cases this
    | some o =>
     cases o with
     | cells c T fz => exact ⟨c, rfl, fun i hi => by have := hcell i hi; rw [hw'] at this; simpa using this⟩
     | _ => have := hcell 0 (by omega); rw [hw'] at this; cases this
   obtain ⟨c, hc1, hc2⟩ := hb
   refine ⟨b, off, cap, c, rfl, hl, hc1, fun j y hj => ?_⟩
   rw [List.getElem?_map, List.getElem?_take] at hj
   split at hj
   ·rename_i hjl
    rw [hc2 j (by omega), ← hj, List.getD_eq_getElem?_getD, List.getElem?_eq_getElem (by omega)]; rfl
   ·cases hj
theorem bytes_open {t e : TypeId} {fuel : Nat} {cs : List Value} {x : DataW H × List MemPlace} (ht : P.underlying t = some (.slice e)) (he : P.underlying e = some (.int .u8)) (hc : P.cellsOf e = 1) (h : DataW.trod enc P w base spare held fuel t cs = some x) :
  ∃ a len cap l, cs = [.slice a len cap] ∧ SlN n8 (hpOf w) (.slice a len cap) l ∧ Dig 256 l := by
 obtain ⟨a, len, cap, zs, rfl, hs, hw⟩ := ints_open ht he hc h
 have hz : ∀ n ∈ zs, 0 ≤ n ∧ n < 256 := fun n hn => by have := bounds_u8 (hw n hn); omega
 refine ⟨a, len, cap, zs.map Int.toNat, rfl, ?_, fun y hy => ?_⟩
 ·unfold SlN at hs ⊢
  rw [List.length_map, List.map_map]
  have : zs.map (n8 ∘ Int.toNat) = zs.map fun z : Int => Value.int .u8 z := List.map_congr_left fun z hzm => by
   show Value.int .u8 ((z.toNat : Nat) : Int) = _
   rw [Int.toNat_of_nonneg (hz z hzm).1]
  rw [this]; exact hs
 ·obtain ⟨z, hzm, rfl⟩ := List.mem_map.1 hy
  have := hz z hzm; omega
end
theorem i64_bounds {z : Int} (h : (Lit.int .i64 z).wf = true) : -9223372036854775808 ≤ z ∧ z < 9223372036854775808 := by
 have := bounds_i64 h; omega
theorem four_of {α : Type} : ∀ {l : List α}, l.length = 4 → ∃ a b c d, l = [a, b, c, d]
 | [a, b, c, d], _ => ⟨a, b, c, d, rfl⟩
theorem raw_open {H : Type} {enc : TypeId × Value → H} {w : World} {base : Nat} {spare : Nat → Bool} {held : Bool} {v : Value} {d : DataW H} {p : List MemPlace} (hv : ∃ cs, v = .agg cs) (h : DataW.Trod enc Tryz.prog w base spare held 24 v d p) : RawQ (hpOf w) v := by
 obtain ⟨cs, rfl⟩ := hv
 obtain ⟨fuel, h⟩ := h
 obtain ⟨xs, n, _, hx, hl, hlen, hf⟩ := DataW.trod_struct Tryz.underlying24 h
 rw [show Tryz.prog.cellsOf 24 = 4 from by kernel_rfl] at hl
 have hl4 : cs.toList.length = 4 := hl
 obtain ⟨l, rfl⟩ : ∃ l : List Value, cs = l.toArray := ⟨cs.toList, by simp⟩
 have hl4' : l.length = 4 := by simpa using hl4
 obtain ⟨c0, c1, c2, c3, rfl⟩ := four_of hl4'
 have hx4 : xs.length = 4 := hlen
 have f0 : DataW.trod enc Tryz.prog w base spare held n 3 (([c0, c1, c2, c3].drop 0).take (Tryz.prog.cellsOf 3)) = xs[0]? := hf 0 _ rfl
 have f1 : DataW.trod enc Tryz.prog w base spare held n 22 (([c0, c1, c2, c3].drop 1).take (Tryz.prog.cellsOf 22)) = xs[1]? := hf 1 _ rfl
 have f2 : DataW.trod enc Tryz.prog w base spare held n 22 (([c0, c1, c2, c3].drop 2).take (Tryz.prog.cellsOf 22)) = xs[2]? := hf 2 _ rfl
 have f3 : DataW.trod enc Tryz.prog w base spare held n 4 (([c0, c1, c2, c3].drop 3).take (Tryz.prog.cellsOf 4)) = xs[3]? := hf 3 _ rfl
 rw [show Tryz.prog.cellsOf 3 = 1 from by kernel_rfl] at f0
 rw [show Tryz.prog.cellsOf 22 = 1 from by kernel_rfl] at f1 f2
 rw [show Tryz.prog.cellsOf 4 = 1 from by kernel_rfl] at f3
 rw [List.getElem?_eq_getElem (by omega)] at f0 f1 f2 f3
 obtain ⟨z, e0, _, w0⟩ := DataW.trod_int Tryz.underlying3 f0
 obtain ⟨a1, l1, k1, b1, e1, s1, d1⟩ := bytes_open Tryz.underlying22 Tryz.underlying5 (by kernel_rfl) f1
 obtain ⟨a2, l2, k2, b2, e2, s2, d2⟩ := bytes_open Tryz.underlying22 Tryz.underlying5 (by kernel_rfl) f2
 obtain ⟨b, e3, _⟩ := DataW.trod_bool Tryz.underlying4 f3
 have g0 : [c0] = [.int .i64 z] := e0
 have g1 : [c1] = [.slice a1 l1 k1] := e1
 have g2 : [c2] = [.slice a2 l2 k2] := e2
 have g3 : [c3] = [.bool b] := e3
 cases g0; cases g1; cases g2; cases g3
 exact ⟨z, _, _, b1, b2, b, rfl, i64_bounds w0, s1, s2, d1, d2⟩
end Go.Proofs.YtjifapjpgmmcnaaGreatDoor
