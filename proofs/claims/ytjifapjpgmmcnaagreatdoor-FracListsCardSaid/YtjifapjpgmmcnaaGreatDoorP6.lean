/- Texts of ours in one: GcdS, Fr1, Fr2, Fr3, Ha1, Ev15, Ha2, Ev16, Ls1, LsP, Ls2, Ls3, Fr4, NearP, NearQ, SimpP, SimpS, Lw1, Lw2, Str1, Lw3, Lw4, Simp, Simp2, Simp3, Simp4, Ls4, Ev17, Ev18, Ls5, Ls6, Ls7, LsR, Ls8, Ls9, Lw7, LaidE, Kn, Opn. -/
import Derived.Test.YtjifapjpgmmcnaaGreatDoorP2
import Derived.Test.YtjifapjpgmmcnaaGreatDoorP3
import Derived.Test.YtjifapjpgmmcnaaGreatDoorP4
import Derived.Test.YtjifapjpgmmcnaaGreatDoorP5
import Derived.WalkKit
import Derived.ProofKit
import Derived.OpenShut
set_option linter.unusedVariables false
set_option linter.unusedSimpArgs false

namespace Go.Proofs.YtjifapjpgmmcnaaGreatDoor
open Go.RowKit _root_.Go.Proofs.Tryz
theorem gcdN_pv (c1 c2 : Nat) (h1 : big c1) (h2 : big c2) (sx sy : Bool) (hsx : c1 = 0 → sx = false) (hsy : c2 = 0 → sy = false) :
  PV prog 54 #[.agg #[.bool sx, .int .u64 (lo c1 : Int), .string (moreB c1)], .agg #[.bool sy, .int .u64 (lo c2 : Int), .string (moreB c2)]] (natV (Nat.gcd c1 c2)) := by
 refine PV.of_pc ?_
 refine BD func54 ntmps54 ?_
 try refine RUN ?_
 (apply EV.drawn 7 (by kernel_rfl) (by kernel_rfl); intro xv yw; (repeat (first | refine' DV ?_ | refine' DA ?_ | refine' DK0 ?_ | refine' DS ?_)); refine DJ.nil (fun G hG hF => ?_); (case hS => rfl); (case hS2 => rfl))
 repeat (first | refine RUN ?_ | refine CV (natCmp_pv c1 c2 h1 h2) ?_ | refine CE (natCmp_pv c1 c2 h1 h2) ?_)
 refine EV.meet (fun env' bx' H' => ∃ u w : Nat, SubL env' [(4, .p 4 0), (5, .p 5 0), (6, .p 6 0)] ∧ SubX bx' [(4, 41, Tryz.te41.zero), (5, 41, [.int .u64 (lo u : Int), .string (moreB u)]), (6, 41, [.int .u64 (lo w : Int), .string (moreB w)])] ∧ H'.ow = [] ∧ w ≤ u ∧ big u ∧ big w ∧ Nat.gcd u w = Nat.gcd c1 c2) ?_ ?_
 ·rintro env' bx' ⟨G1, ow1, base1⟩ hb ⟨u, w, he, hbx, how, hwu, hu, hw, hg⟩
  obtain rfl : base1 = ⟨fun _ => none, []⟩ := hb
  obtain rfl : ow1 = [] := how
  refine EV.less _ _ he hbx rfl ?_
  clear h1 h2 hsx hsy hbx he
  generalize Nat.gcd c1 c2 = gg at *
  subst hg
  repeat (first | refine RUN ?_ | refine CV (bits_pv w hw) ?_ | refine CE (bits_pv w hw) ?_)
  rw [bl_zero_iff]
  by_cases hw0 : w = 0
  ·subst hw0
   rw [decide_eq_true rfl, Nat.gcd_zero_right]
   try refine RUN ?_
   rfl
  ·rw [decide_eq_false hw0]
   repeat (first | refine RUN ?_ | refine CV (natDiv_pv u w hw0 hu hw) ?_ | refine CE (natDiv_pv u w hw0 hu hw) ?_)
   have hm : u % w < w := Nat.mod_lt _ (by omega)
   have hgr : Nat.gcd u w = Nat.gcd w (u % w) := by rw [Nat.gcd_comm, Nat.gcd_rec, Nat.gcd_comm]
   have hbm : big (u % w) := Nat.le_trans (bl_mod u w) hu
   rw [hgr]
   generalize u % w = r at *
   generalize u / w = qq at *
   clear hgr hwu hu
   rw [natV_cells, natV_cells]
   try refine RUN ?_
   refine EV.less [(4, .p 4 0), (5, .p 5 0), (6, .p 6 0), (8, .p 8 0)] ([(5, 41, [.int .u64 (lo u : Int), .string (moreB u)]), (4, 41, Tryz.te41.zero), (6, 41, [.int .u64 (lo w : Int), .string (moreB w)]), (8, 41, [.int .u64 (lo r : Int), .string (moreB r)])]) ⟨rfl, rfl, rfl, rfl, trivial⟩ ⟨rfl, rfl, rfl, rfl, trivial⟩ rfl ?_
   apply EV.drawnS ([(5, 41, [.int .u64 (lo u : Int), .string (moreB u)])]) 3 (by kernel_rfl) (by kernel_rfl); intro xv yw
   (repeat (first | refine' DV ?_ | refine' DA ?_ | refine' DK0 ?_ | refine' DT ?_ | refine' DS ?_))
   (refine DJ.nil (fun G hG hF => ?_); (case hS => rfl); (case hS2 => rfl); (case hD => rfl))
   repeat (first | refine RUN ?_ | refine CV (bits_pv r hbm) ?_ | refine CE (bits_pv r hbm) ?_)
   rw [bl_zero_iff]
   by_cases hr0 : r = 0
   ·subst hr0
    rw [decide_eq_true rfl, Nat.gcd_zero_right]
    try refine RUN ?_
    rfl
   ·rw [decide_eq_false hr0]
    repeat (first | refine RUN ?_ | refine CV (natSmall_pv w) ?_ | refine CE (natSmall_pv w) ?_)
    by_cases hws : w < W64
    ·have hrs : r < W64 := by omega
     rw [decide_eq_true hws, if_pos hws]
     repeat (first | refine RUN ?_ | refine CV (natSmall_pv r) ?_ | refine CE (natSmall_pv r) ?_)
     rw [decide_eq_true hrs, if_pos hrs]
     try refine RUN ?_
     refine EV.loop (ι := Nat × Nat) (fun q => [(4, .p 4 0), (10, .v (n64 q.1)), (12, .v (n64 q.2))]) (fun _ => [(4, 41, Tryz.te41.zero)]) (fun _ => []) (fun q _ => q.1 < W64 ∧ q.2 < W64 ∧ Nat.gcd q.1 q.2 = Nat.gcd w r) (fun q => q.2) (w, r) ⟨rfl, rfl, rfl, trivial⟩ ⟨rfl, trivial⟩ rfl (fun _ => rfl) ⟨hws, hrs, rfl⟩ ?_
     rintro ⟨m, k⟩ G2 hG2 ⟨hms, hks, hgk⟩
     dsimp only at hms hks hgk
     try refine RUN ?_
     by_cases hk0 : k = 0
     ·subst hk0
      rw [show decide ((((m, 0) : Nat × Nat).2 : Int) > 0) = false from rfl]
      rw [Nat.gcd_zero_right] at hgk
      repeat (first | refine RUN ?_ | refine CV (natOf_pv m hms) ?_ | refine CE (natOf_pv m hms) ?_)
      rw [hgk]
     ·rw [show decide ((((m, k) : Nat × Nat).2 : Int) > 0) = true by simp; omega]
      try refine RUN ?_
      apply EV.drawn 6 (by kernel_rfl) (by kernel_rfl); intro xv yw
      (repeat (first | refine' DV ?_ | refine' DA ?_ | refine' DK0 ?_ | refine' DT ?_ | refine' DS ?_))
      refine' DJ.ofVal (ValOk.rem rfl rfl rfl rfl (show ((k : Nat) : Int) ≠ 0 by omega)) rfl rfl rfl ?_; rotate_left
      (repeat (first | refine' DV ?_ | refine' DA ?_ | refine' DK0 ?_ | refine' DT ?_ | refine' DS ?_))
      (refine DJ.nil (fun G hG hF => ?_); (case hS => rfl); (case hS2 => rfl))
      rw [show (((m, k) : Nat × Nat).1 : Int).tmod (((m, k) : Nat × Nat).2 : Int) = ((m % k : Nat) : Int) from wi_rem m k]
      try refine RUN ?_
      refine ⟨(k, m % k), ⟨rfl, rfl, rfl, trivial⟩, ⟨rfl, trivial⟩, rfl, ⟨hks, Nat.lt_of_le_of_lt (Nat.mod_le m k) hms, ?_⟩, hG, Nat.mod_lt _ (by omega)⟩
      ·dsimp only
       rw [← hgk, Nat.gcd_comm m k, Nat.gcd_rec k m, Nat.gcd_comm]
    ·rw [decide_eq_false hws]
     repeat (first | refine RUN ?_ | refine CV (wbinary_pv w r hw0 hr0 hw hbm) ?_ | refine CE (wbinary_pv w r hw0 hr0 hw hbm) ?_)
     rfl
 ·by_cases hlt : c1 < c2
  ·rw [ordN_lt hlt, show decide ((-1 : Int) < 0) = true from rfl]
   try refine RUN ?_
   exact ⟨c2, c1, ⟨rfl, rfl, rfl, trivial⟩, ⟨rfl, rfl, rfl, trivial⟩, rfl, by omega, h2, h1, Nat.gcd_comm _ _⟩
  ·rw [show decide (ordN c1 c2 < 0) = false by unfold ordN; rw [if_neg hlt]; split <;> rfl]
   try refine RUN ?_
   exact ⟨c1, c2, ⟨rfl, rfl, rfl, trivial⟩, ⟨rfl, rfl, rfl, trivial⟩, rfl, by omega, h1, h2, rfl⟩
theorem gcd_pv (a b : Int) (ha : bigI a) (hb : bigI b) : PV prog 54 #[intV a, intV b] (natV (Nat.gcd a.natAbs b.natAbs)) :=
 gcdN_pv a.natAbs b.natAbs ha hb _ _ (fun h => by simp; omega) (fun h => by simp; omega)
abbrev frV (n : Int) (d : Nat) : Value := .agg #[.bool (decide (n < 0)), .int .u64 (lo n.natAbs : Int), .string (moreB n.natAbs), .int .u64 (lo d : Int), .string (moreB d)]
def dk (d : Nat) : Nat := if d = 1 then 0 else d
abbrev fracV (q : Rat) : Value := frV q.num (dk q.den)
theorem dk_one : dk 1 = 0 := rfl
theorem dk_ne {d : Nat} (h : d ≠ 1) : dk d = d := if_neg h
theorem dk_bl (d : Nat) : bl (dk d) ≤ bl d := by
 unfold dk; split
 ·rw [bl_zero]; omega
 ·exact Nat.le_refl _
theorem dk_zero (q : Rat) : dk q.den = 0 ↔ q.den = 1 := by
 have := q.den_nz
 unfold dk; split <;> omega
theorem bl_one : bl 1 = 1 := by have := bl_pow2 0; simpa using this
theorem bl_eq_one {n : Nat} : bl n = 1 ↔ n = 1 := by
 constructor
 ·intro h
  have h1 := lt_bl n
  rw [h] at h1
  have : n ≠ 0 := fun e => by rw [e, bl_zero] at h; omega
  omega
 ·rintro rfl; exact bl_one
theorem beq_bl_one (n : Nat) : (((bl n : Nat) : Int) == 1) = decide (n = 1) := by
 by_cases h : n = 1
 ·rw [decide_eq_true h, bl_eq_one.2 h]; rfl
 ·rw [decide_eq_false h]
  have : bl n ≠ 1 := fun e => h (bl_eq_one.1 e)
  simp; omega
theorem frV_zero (n : Int) : frV n 0 = .agg #[.bool (decide (n < 0)), .int .u64 (lo n.natAbs : Int), .string (moreB n.natAbs), .int .u64 0, .string ⟨#[]⟩] := by
 unfold frV
 rw [moreB_empty (n := 0) (by decide)]; rfl
theorem pack_pv (n : Int) (d : Nat) (hd : big d) : PV prog 110 #[intV n, natV d] (frV n (dk d)) := by
 refine PV.of_pc ?_
 refine BD func110 ntmps110 ?_
 repeat (first | refine RUN ?_ | refine CV (bits_pv d hd) ?_ | refine CE (bits_pv d hd) ?_)
 rw [beq_bl_one]
 by_cases h : d = 1
 ·rw [decide_eq_true h]
  try refine RUN ?_
  rw [h, dk_one, frV_zero]
 ·rw [decide_eq_false h]
  try refine RUN ?_
  rw [dk_ne h]
theorem over_pv (a b : Nat) (ha : big a) (hb : big b) (h0 : b ≠ 0) : PV prog 109 #[natV a, natV b] (natV (a / b)) := by
 refine PV.of_pc ?_
 refine BD func109 ntmps109 ?_
 repeat (first | refine RUN ?_ | refine CV (bits_pv b hb) ?_ | refine CE (bits_pv b hb) ?_)
 rw [beq_bl_one]
 by_cases h : b = 1
 ·rw [decide_eq_true h]
  try refine RUN ?_
  rw [h, Nat.div_one]
 ·rw [decide_eq_false h]
  repeat (first | refine RUN ?_ | refine CV (natDiv_pv a b h0 ha hb) ?_ | refine CE (natDiv_pv a b h0 ha hb) ?_)
  rfl
theorem part_pv (n : Int) (b : Nat) (hn : bigI n) (hb : big b) (h0 : b ≠ 0) (hdv : b ∣ n.natAbs) : PV prog 111 #[intV n, natV b] (intV (n / (b : Int))) := by
 have hs : decide (n.sign < 0) = decide (n < 0) := by rw [decide_eq_decide]; exact Int.sign_neg_iff
 have hf := from_pv (decide (n < 0)) (n.natAbs / b) (Nat.le_trans (bl_div _ _) hn)
 have e : sg (decide (n < 0)) (n.natAbs / b) = n / (b : Int) := by
  rw [part_eq n b hdv]; unfold sg
  by_cases h : n < 0 <;> simp [h]
 rw [e] at hf
 refine PV.of_pc ?_
 refine BD func111 ntmps111 ?_
 try refine RUN ?_
 apply EV.drawn 7 (by kernel_rfl) (by kernel_rfl); intro xv yw
 (repeat (first | refine' DV ?_ | refine' DA ?_ | refine' DK0 ?_ | refine' DT ?_ | (refine' DC (wholeSign_pv n hn) (h := ?_); rotate_left) | refine' DS ?_))
 rw [hs]
 (repeat (first | refine' DV ?_ | refine' DA ?_ | refine' DK0 ?_ | refine' DT ?_ | (refine' DC (wholeAbs_pv n) (h := ?_); rotate_left) | (refine' DC (over_pv _ _ hn hb h0) (h := ?_); rotate_left) | refine' DS ?_))
 (refine DJ.nil (fun G hG hF => ?_); (case hS => rfl); (case hS2 => rfl))
 repeat (first | refine RUN ?_ | refine CV (hf) ?_ | refine CE (hf) ?_)
 rfl
theorem times_pv (n : Int) (d : Nat) (hn : bigI n) (hd : big d) (hnd : big (n.natAbs * d)) : PV prog 108 #[intV n, natV d] (intV (n * d)) := by
 have hm := wholeMul_pv n (d : Int) hn hd (by show big (n * (d : Int)).natAbs; rw [Int.natAbs_mul]; exact hnd)
 refine PV.of_pc ?_
 refine BD func108 ntmps108 ?_
 try refine RUN ?_
 apply EV.drawn 3 (by kernel_rfl) (by kernel_rfl); intro xv yw
 (repeat (first | refine' DV ?_ | refine' DA ?_ | refine' DK0 ?_ | refine' DT ?_ | (refine' DC (from_pv false d hd) (h := ?_); rotate_left) | refine' DS ?_))
 (refine DJ.nil (fun G hG hF => ?_); (case hS => rfl); (case hS2 => rfl))
 repeat (first | refine RUN ?_ | refine CV (hm) ?_ | refine CE (hm) ?_)
 rfl
theorem isWhole_pv (q : Rat) (h : big q.den) : PV prog 106 #[fracV q] (.bool (decide (q.den = 1))) := by
 refine PV.of_pc ?_
 refine BD func106 ntmps106 ?_
 repeat (first | refine RUN ?_ | refine CV (bits_pv (dk q.den) (Nat.le_trans (dk_bl _) h)) ?_ | refine CE (bits_pv (dk q.den) (Nat.le_trans (dk_bl _) h)) ?_)
 have e : (((bl (dk q.den) : Nat) : Int) == 0) = decide (q.den = 1) := by
  by_cases h1 : q.den = 1
  ·rw [decide_eq_true h1, (dk_zero q).2 h1, bl_zero]; rfl
  ·rw [decide_eq_false h1]
   have h2 : bl (dk q.den) ≠ 0 := fun e => h1 ((dk_zero q).1 (bl_eq_zero.1 e))
   simp; omega
 rw [e]
theorem den_pv (q : Rat) (h : big q.den) : PV prog 43 #[fracV q] (natV q.den) := by
 refine PV.of_pc ?_
 refine BD func43 ntmps43 ?_
 repeat (first | refine RUN ?_ | refine CV (isWhole_pv q h) ?_ | refine CE (isWhole_pv q h) ?_)
 by_cases h1 : q.den = 1
 ·rw [decide_eq_true h1]
  repeat (first | refine RUN ?_ | refine CV (natOf_pv 1 (by decide)) ?_ | refine CE (natOf_pv 1 (by decide)) ?_)
  rw [h1]
 ·rw [decide_eq_false h1]
  try refine RUN ?_
  rw [dk_ne h1]
theorem sign_pv (q : Rat) (h : bigI q.num) : PV prog 24 #[fracV q] (.int .i64 q.num.sign) := by
 refine PV.of_pc ?_
 refine BD func24 ntmps24 ?_
 repeat (first | refine RUN ?_ | refine CV (wholeSign_pv q.num h) ?_ | refine CE (wholeSign_pv q.num h) ?_)
 rfl
theorem num_pv (q : Rat) : PV prog 55 #[fracV q] (intV q.num) := by
 refine PV.of_pc ?_
 refine BD func55 ntmps55 ?_
 try refine RUN ?_
 rfl
theorem of_pv (z : Int) (h1 : -9223372036854775808 ≤ z) (h2 : z < 9223372036854775808) : PV prog 33 #[.int .i64 z] (fracV (z : Rat)) := by
 refine PV.of_pc ?_
 refine BD func33 ntmps33 ?_
 repeat (first | refine RUN ?_ | refine CV (wholeOf_pv z h1 h2) ?_ | refine CE (wholeOf_pv z h1 h2) ?_)
 show _ = frV z 0
 rw [frV_zero]
theorem lowest_pv (n : Int) (d : Nat) (hn : bigI n) (hd : big d) (h0 : d ≠ 0) : PV prog 114 #[intV n, natV d] (fracV (mkRat n d)) := by
 have hl := rat_lowest n d h0
 have hg0 : Nat.gcd n.natAbs d ≠ 0 := Nat.gcd_ne_zero_right h0
 have hgb : big (Nat.gcd n.natAbs d) := Nat.le_trans (bl_gcd_right _ _ h0) hd
 have hg := gcd_pv n (d : Int) hn hd
 have f1 := part_pv n (Nat.gcd n.natAbs d) hn hgb hg0 (Nat.gcd_dvd_left ..)
 have f2 := over_pv d (Nat.gcd n.natAbs d) hd hgb hg0
 have f3 := pack_pv (n / (Nat.gcd n.natAbs d : Nat)) (d / Nat.gcd n.natAbs d) (Nat.le_trans (bl_div _ _) hd)
 rw [← hl.1] at f1
 rw [← hl.2] at f2
 rw [← hl.1, ← hl.2] at f3
 refine PV.of_pc ?_
 refine BD func114 ntmps114 ?_
 try refine RUN ?_
 (apply EV.drawn 5 (by kernel_rfl) (by kernel_rfl); intro xv yw; (repeat (first | refine' DV ?_ | refine' DA ?_ | refine' DK0 ?_ | (refine' DC (from_pv false d hd) (h := ?_); rotate_left) | (refine' DC (hg) (h := ?_); rotate_left) | refine' DS ?_)); refine DJ.nil (fun G hG hF => ?_); (case hS => rfl); (case hS2 => rfl))
 try refine RUN ?_
 (apply EV.drawn 7 (by kernel_rfl) (by kernel_rfl); intro xv yw; (repeat (first | refine' DV ?_ | refine' DA ?_ | refine' DK0 ?_ | (refine' DC (f1) (h := ?_); rotate_left) | (refine' DC (f2) (h := ?_); rotate_left) | (refine' DC (f3) (h := ?_); rotate_left) | refine' DS ?_)); refine DJ.nil (fun G hG hF => ?_); (case hS => rfl); (case hS2 => rfl))
 try refine RUN ?_
 rfl
theorem make_pv (n d : Int) (hn : bigI n) (hd : bigI d) (h0 : d ≠ 0) : PV prog 34 #[intV n, intV d] (.tuple #[fracV (mkRat (if d < 0 then -n else n) d.natAbs), .bool true]) := by
 have l1 := lowest_pv (-n) d.natAbs (by show big (-n).natAbs; rw [Int.natAbs_neg]; exact hn) hd (by omega)
 have l2 := lowest_pv n d.natAbs hn hd (by omega)
 refine PV.of_pc ?_
 refine BD func34 ntmps34 ?_
 repeat (first | refine RUN ?_ | refine CV (wholeSign_pv d hd) ?_ | refine CE (wholeSign_pv d hd) ?_)
 rw [show (d.sign == 0) = false by simp [Int.sign_eq_zero_iff_zero, h0]]
 repeat (first | refine RUN ?_ | refine CV (wholeSign_pv d hd) ?_ | refine CE (wholeSign_pv d hd) ?_)
 by_cases h : d < 0
 ·rw [decide_eq_true (Int.sign_neg_iff.2 h), if_pos h]
  repeat (first | refine RUN ?_ | refine CV (wholeNeg_pv n hn) ?_ | refine CE (wholeNeg_pv n hn) ?_)
  apply EV.drawn 3 (by kernel_rfl) (by kernel_rfl); intro xv yw
  (repeat (first | refine' DV ?_ | refine' DA ?_ | refine' DK0 ?_ | refine' DT ?_ | (refine' DC (wholeAbs_pv d) (h := ?_); rotate_left) | refine' DS ?_))
  (refine DJ.nil (fun G hG hF => ?_); (case hS => rfl); (case hS2 => rfl))
  repeat (first | refine RUN ?_ | refine CV (l1) ?_ | refine CE (l1) ?_)
  rfl
 ·rw [decide_eq_false (fun e => h (Int.sign_neg_iff.1 e)), if_neg h]
  try refine RUN ?_
  apply EV.drawn 3 (by kernel_rfl) (by kernel_rfl); intro xv yw
  (repeat (first | refine' DV ?_ | refine' DA ?_ | refine' DK0 ?_ | refine' DT ?_ | (refine' DC (wholeAbs_pv d) (h := ?_); rotate_left) | refine' DS ?_))
  (refine DJ.nil (fun G hG hF => ?_); (case hS => rfl); (case hS2 => rfl))
  repeat (first | refine RUN ?_ | refine CV (l2) ?_ | refine CE (l2) ?_)
  rfl
abbrev frL (n : Int) (d : Nat) : List Value := [.bool (decide (n < 0)), .int .u64 (lo n.natAbs : Int), .string (moreB n.natAbs), .int .u64 (lo d : Int), .string (moreB d)]
abbrev sm (q : Rat) : Prop := ht q ≤ 100000000
theorem sm.num {q : Rat} (h : sm q) : bl q.num.natAbs ≤ 100000000 := Nat.le_trans (bl_num_le q) h
theorem sm.den {q : Rat} (h : sm q) : bl q.den ≤ 100000000 := Nat.le_trans (bl_den_le q) h
theorem mul_pv (a b : Rat) (ha : sm a) (hb : sm b) : PV prog 42 #[fracV a, fracV b] (fracV (a * b)) := by
 have na := ha.num; have da := ha.den; have nb := hb.num; have db := hb.den
 have bna : bigI a.num := Nat.le_trans na (by omega)
 have bnb : bigI b.num := Nat.le_trans nb (by omega)
 have bda : big a.den := Nat.le_trans da (by omega)
 have bdb : big b.den := Nat.le_trans db (by omega)
 have hm := rat_mul a b _ _ rfl rfl
 generalize hg : Nat.gcd a.num.natAbs b.den = g at hm
 generalize hh : Nat.gcd b.num.natAbs a.den = h at hm
 have hg0 : g ≠ 0 := by rw [← hg]; exact Nat.gcd_ne_zero_right b.den_nz
 have hh0 : h ≠ 0 := by rw [← hh]; exact Nat.gcd_ne_zero_right a.den_nz
 have bg : big g := by rw [← hg]; exact Nat.le_trans (bl_gcd_right _ _ b.den_nz) bdb
 have bh : big h := by rw [← hh]; exact Nat.le_trans (bl_gcd_right _ _ a.den_nz) bda
 have g1 := gcd_pv a.num (b.den : Int) bna bdb
 have g2 := gcd_pv b.num (a.den : Int) bnb bda
 rw [Int.natAbs_natCast, hg] at g1
 rw [Int.natAbs_natCast, hh] at g2
 have p1 := part_pv a.num g bna bg hg0 (by rw [← hg]; exact Nat.gcd_dvd_left ..)
 have p2 := part_pv b.num h bnb bh hh0 (by rw [← hh]; exact Nat.gcd_dvd_left ..)
 have b1 : bl (a.num / (g : Int)).natAbs ≤ 100000000 := Nat.le_trans (bl_mono (natAbs_ediv_le _ _)) na
 have b2 : bl (b.num / (h : Int)).natAbs ≤ 100000000 := Nat.le_trans (bl_mono (natAbs_ediv_le _ _)) nb
 have b3 : bl (a.den / h) ≤ 100000000 := Nat.le_trans (bl_div _ _) da
 have b4 : bl (b.den / g) ≤ 100000000 := Nat.le_trans (bl_div _ _) db
 have m1 := wholeMul_pv (a.num / (g : Int)) (b.num / (h : Int)) (Nat.le_trans b1 (by omega)) (Nat.le_trans b2 (by omega)) (by
  show big (_ * _ : Int).natAbs
  rw [Int.natAbs_mul]; have := bl_mul (a.num / (g : Int)).natAbs (b.num / (h : Int)).natAbs; show bl _ ≤ _; omega)
 have m2 := natMul_pv (a.den / h) (b.den / g) (Nat.le_trans b3 (by omega)) (Nat.le_trans b4 (by omega))
 have pk := pack_pv (a * b).num (a * b).den (by rw [hm.2]; have := bl_mul (a.den / h) (b.den / g); show bl _ ≤ _; omega)
 have o1 := over_pv a.den h bda bh hh0
 have o2 := over_pv b.den g bdb bg hg0
 rw [← hm.1] at m1
 rw [← hm.2] at m2
 have w1 := isWhole_pv a bda
 have w2 := isWhole_pv b bdb
 refine PV.of_pc ?_
 refine BD func42 ntmps42 ?_
 repeat (first | refine RUN ?_ | refine CV (w1) ?_ | refine CE (w1) ?_)
 refine EVL.meet (fun env' bx' H' => SubL env' [(12, .v (.bool (decide (a.den = 1 ∧ b.den = 1)))), (4, .p 4 0), (3, .p 3 0), (2, .p 2 0)] ∧ SubX bx' [(4, 45, Tryz.te45.zero), (3, 45, frL b.num (dk b.den)), (2, 45, frL a.num (dk a.den))] ∧ H' = ⟨fun _ => none, [], ⟨fun _ => none, []⟩⟩) ?_ ?_
 ·rintro env' bx' H' _ ⟨he, hbx, rfl⟩
  refine EV.less _ _ he hbx rfl ?_
  by_cases hab : a.den = 1 ∧ b.den = 1
  ·rw [decide_eq_true hab]
   have e1 : g = 1 := by rw [← hg, hab.2, Nat.gcd_one_right]
   have e2 : h = 1 := by rw [← hh, hab.1, Nat.gcd_one_right]
   have e3 : (a * b).den = 1 := by rw [hm.2, hab.1, hab.2, e1, e2]
   rw [e1, e2] at m1
   simp only [Int.natCast_one, Int.ediv_one] at m1
   repeat (first | refine RUN ?_ | refine CV (m1) ?_ | refine CE (m1) ?_)
   show _ = frV (a * b).num (dk (a * b).den)
   rw [e3, dk_one, frV_zero]
  ·rw [decide_eq_false hab]
   try refine RUN ?_
   have d1 := den_pv a bda
   have d2 := den_pv b bdb
   have s1 := from_pv false a.den bda
   have s2 := from_pv false b.den bdb
   (apply EV.drawn 7 (by kernel_rfl) (by kernel_rfl); intro xv yw; (repeat (first | refine' DV ?_ | refine' DA ?_ | refine' DK0 ?_ | (refine' DC (d2) (h := ?_); rotate_left) | (refine' DC (s2) (h := ?_); rotate_left) | (refine' DC (g1) (h := ?_); rotate_left) | refine' DS ?_)); refine DJ.nil (fun G hG hF => ?_); (case hS => rfl); (case hS2 => rfl))
   try refine RUN ?_
   (apply EV.drawn 7 (by kernel_rfl) (by kernel_rfl); intro xv yw; (repeat (first | refine' DV ?_ | refine' DA ?_ | refine' DK0 ?_ | (refine' DC (d1) (h := ?_); rotate_left) | (refine' DC (s1) (h := ?_); rotate_left) | (refine' DC (g2) (h := ?_); rotate_left) | refine' DS ?_)); refine DJ.nil (fun G hG hF => ?_); (case hS => rfl); (case hS2 => rfl))
   try refine RUN ?_
   apply EV.drawn 16 (by kernel_rfl) (by kernel_rfl); intro xv yw
   (repeat (first | refine' DV ?_ | refine' DA ?_ | refine' DK0 ?_ | refine' DT ?_ | (refine' DC (p1) (h := ?_); rotate_left) | (refine' DC (p2) (h := ?_); rotate_left) | (refine' DC (m1) (h := ?_); rotate_left) | (refine' DC (d1) (h := ?_); rotate_left) | (refine' DC (d2) (h := ?_); rotate_left) | (refine' DC (o1) (h := ?_); rotate_left) | (refine' DC (o2) (h := ?_); rotate_left) | refine' DS ?_))
   (refine DJ.nil (fun G hG hF => ?_); (case hS => rfl); (case hS2 => rfl))
   repeat (first | refine RUN ?_ | refine CV (o2) ?_ | refine CV (m2) ?_ | refine CV (pk) ?_ | refine CE (o2) ?_ | refine CE (m2) ?_ | refine CE (pk) ?_)
   rfl
 ·by_cases ha1 : a.den = 1
  ·rw [decide_eq_true ha1]
   repeat (first | refine RUN ?_ | refine CV (w2) ?_ | refine CE (w2) ?_)
   refine ⟨⟨?_, rfl, rfl, rfl, trivial⟩, ⟨rfl, rfl, rfl, trivial⟩, rfl⟩
   simp [ha1]; rfl
  ·rw [decide_eq_false ha1]
   try refine RUN ?_
   refine ⟨⟨?_, rfl, rfl, rfl, trivial⟩, ⟨rfl, rfl, rfl, trivial⟩, rfl⟩
   simp [ha1]; rfl
theorem add_pv (a b : Rat) (ha : sm a) (hb : sm b) : PV prog 32 #[fracV a, fracV b] (fracV (a + b)) := by
 have na := ha.num; have da := ha.den; have nb := hb.num; have db := hb.den
 have bna : bigI a.num := Nat.le_trans na (by omega)
 have bnb : bigI b.num := Nat.le_trans nb (by omega)
 have bda : big a.den := Nat.le_trans da (by omega)
 have bdb : big b.den := Nat.le_trans db (by omega)
 have hm := rat_add a b _ _ _ _ _ rfl rfl rfl rfl rfl
 generalize hg : Nat.gcd a.den b.den = g at hm
 have hg0 : g ≠ 0 := by rw [← hg]; exact Nat.gcd_ne_zero_right b.den_nz
 have bgl : bl g ≤ 100000000 := by rw [← hg]; exact Nat.le_trans (bl_gcd_right _ _ b.den_nz) db
 have bg : big g := Nat.le_trans bgl (by omega)
 have g1 := gcd_pv (a.den : Int) (b.den : Int) bda bdb
 rw [Int.natAbs_natCast, Int.natAbs_natCast, hg] at g1
 have o1 := over_pv a.den g bda bg hg0
 have o2 := over_pv b.den g bdb bg hg0
 have b1 : bl (a.den / g) ≤ 100000000 := Nat.le_trans (bl_div _ _) da
 have b2 : bl (b.den / g) ≤ 100000000 := Nat.le_trans (bl_div _ _) db
 have hone : a.den = 1 ∧ b.den = 1 → g = 1 ∧ a.den / g = 1 ∧ b.den / g = 1 := fun h => by
  have : g = 1 := by rw [← hg, h.1, h.2]; rfl
  rw [this, h.1, h.2]; exact ⟨rfl, rfl, rfl⟩
 generalize hdown : a.den / g = down at *
 generalize hother : b.den / g = other at *
 have c1 := bl_mul a.num.natAbs other
 have c2 := bl_mul b.num.natAbs down
 have t1 := times_pv a.num other bna (Nat.le_trans b2 (by omega)) (by show bl _ ≤ _; omega)
 have t2 := times_pv b.num down bnb (Nat.le_trans b1 (by omega)) (by show bl _ ≤ _; omega)
 have c1' : bl (a.num * (other : Int)).natAbs ≤ 200000000 := by rw [Int.natAbs_mul]; simp; omega
 have c2' : bl (b.num * (down : Int)).natAbs ≤ 200000000 := by rw [Int.natAbs_mul]; simp; omega
 have c3 := bl_add (a.num * (other : Int)).natAbs (b.num * (down : Int)).natAbs
 have ad := wholeAdd_pv (a.num * (other : Int)) (b.num * (down : Int)) (Nat.le_trans c1' (by omega)) (Nat.le_trans c2' (by omega)) (by show bl _ ≤ _; omega)
 have bup : bl (a.num * (other : Int) + b.num * (down : Int)).natAbs ≤ 200000001 := by
  have := bl_natAbs_add (a.num * (other : Int)) (b.num * (down : Int)); omega
 generalize hup : a.num * (other : Int) + b.num * (down : Int) = up at *
 generalize hh : Nat.gcd up.natAbs g = h at hm
 have hh0 : h ≠ 0 := by rw [← hh]; exact Nat.gcd_ne_zero_right hg0
 have bh : big h := by rw [← hh]; exact Nat.le_trans (bl_gcd_right _ _ hg0) bg
 have g2 := gcd_pv up (g : Int) (Nat.le_trans bup (by omega)) bg
 rw [Int.natAbs_natCast, hh] at g2
 have p1 := part_pv up h (Nat.le_trans bup (by omega)) bh hh0 (by rw [← hh]; exact Nat.gcd_dvd_left ..)
 have o3 := over_pv b.den h bdb bh hh0
 have b4 : bl (b.den / h) ≤ 100000000 := Nat.le_trans (bl_div _ _) db
 have m2 := natMul_pv down (b.den / h) (Nat.le_trans b1 (by omega)) (Nat.le_trans b4 (by omega))
 have pk := pack_pv (a + b).num (a + b).den (by rw [hm.2]; have := bl_mul down (b.den / h); show bl _ ≤ _; omega)
 rw [← hm.1] at p1
 rw [← hm.2] at m2
 have w1 := isWhole_pv a bda
 have w2 := isWhole_pv b bdb
 refine PV.of_pc ?_
 refine BD func32 ntmps32 ?_
 repeat (first | refine RUN ?_ | refine CV (w1) ?_ | refine CE (w1) ?_)
 refine EVL.meet (fun env' bx' H' => SubL env' [(15, .v (.bool (decide (a.den = 1 ∧ b.den = 1)))), (4, .p 4 0), (3, .p 3 0), (2, .p 2 0)] ∧ SubX bx' [(4, 45, Tryz.te45.zero), (3, 45, frL b.num (dk b.den)), (2, 45, frL a.num (dk a.den))] ∧ H' = ⟨fun _ => none, [], ⟨fun _ => none, []⟩⟩) ?_ ?_
 ·rintro env' bx' H' _ ⟨he, hbx, rfl⟩
  refine EV.less _ _ he hbx rfl ?_
  by_cases hab : a.den = 1 ∧ b.den = 1
  ·rw [decide_eq_true hab]
   obtain ⟨e1, e2, e3⟩ := hone hab
   have e4 : h = 1 := by rw [← hh, e1, Nat.gcd_one_right]
   have e5 : (a + b).den = 1 := by rw [hm.2, e2, hab.2, e4]
   have e6 : (a + b).num = a.num + b.num := by rw [hm.1, e4, ← hup, e2, e3]; simp
   have c4 := bl_add a.num.natAbs b.num.natAbs
   have ad' := wholeAdd_pv a.num b.num bna bnb (by show bl _ ≤ _; omega)
   repeat (first | refine RUN ?_ | refine CV (ad') ?_ | refine CE (ad') ?_)
   show _ = frV (a + b).num (dk (a + b).den)
   rw [e5, dk_one, frV_zero, e6]
  ·rw [decide_eq_false hab]
   try refine RUN ?_
   have d1 := den_pv a bda
   have d2 := den_pv b bdb
   have s1 := from_pv false a.den bda
   have s2 := from_pv false b.den bdb
   have s3 := from_pv false g bg
   (apply EV.drawn 8 (by kernel_rfl) (by kernel_rfl); intro xv yw; (repeat (first | refine' DV ?_ | refine' DA ?_ | refine' DK0 ?_ | (refine' DC (d1) (h := ?_); rotate_left) | (refine' DC (s1) (h := ?_); rotate_left) | (refine' DC (d2) (h := ?_); rotate_left) | (refine' DC (s2) (h := ?_); rotate_left) | (refine' DC (g1) (h := ?_); rotate_left) | refine' DS ?_)); refine DJ.nil (fun G hG hF => ?_); (case hS => rfl); (case hS2 => rfl))
   try refine RUN ?_
   (apply EV.drawn 10 (by kernel_rfl) (by kernel_rfl); intro xv yw; (repeat (first | refine' DV ?_ | refine' DA ?_ | refine' DK0 ?_ | (refine' DC (d1) (h := ?_); rotate_left) | (refine' DC (d2) (h := ?_); rotate_left) | (refine' DC (o1) (h := ?_); rotate_left) | (refine' DC (o2) (h := ?_); rotate_left) | refine' DS ?_)); refine DJ.nil (fun G hG hF => ?_); (case hS => rfl); (case hS2 => rfl))
   try refine RUN ?_
   (apply EV.drawn 10 (by kernel_rfl) (by kernel_rfl); intro xv yw; (repeat (first | refine' DV ?_ | refine' DA ?_ | refine' DK0 ?_ | (refine' DC (t1) (h := ?_); rotate_left) | (refine' DC (t2) (h := ?_); rotate_left) | (refine' DC (ad) (h := ?_); rotate_left) | refine' DS ?_)); refine DJ.nil (fun G hG hF => ?_); (case hS => rfl); (case hS2 => rfl))
   try refine RUN ?_
   (apply EV.drawn 5 (by kernel_rfl) (by kernel_rfl); intro xv yw; (repeat (first | refine' DV ?_ | refine' DA ?_ | refine' DK0 ?_ | (refine' DC (s3) (h := ?_); rotate_left) | (refine' DC (g2) (h := ?_); rotate_left) | refine' DS ?_)); refine DJ.nil (fun G hG hF => ?_); (case hS => rfl); (case hS2 => rfl))
   try refine RUN ?_
   (apply EV.drawn 10 (by kernel_rfl) (by kernel_rfl); intro xv yw; (repeat (first | refine' DV ?_ | refine' DA ?_ | refine' DK0 ?_ | (refine' DC (p1) (h := ?_); rotate_left) | (refine' DC (d2) (h := ?_); rotate_left) | (refine' DC (o3) (h := ?_); rotate_left) | (refine' DC (m2) (h := ?_); rotate_left) | (refine' DC (pk) (h := ?_); rotate_left) | refine' DS ?_)); refine DJ.nil (fun G hG hF => ?_); (case hS => rfl); (case hS2 => rfl))
   try refine RUN ?_
   rfl
 ·by_cases ha1 : a.den = 1
  ·rw [decide_eq_true ha1]
   repeat (first | refine RUN ?_ | refine CV (w2) ?_ | refine CE (w2) ?_)
   refine ⟨⟨?_, rfl, rfl, rfl, trivial⟩, ⟨rfl, rfl, rfl, trivial⟩, rfl⟩
   simp [ha1]; rfl
  ·rw [decide_eq_false ha1]
   try refine RUN ?_
   refine ⟨⟨?_, rfl, rfl, rfl, trivial⟩, ⟨rfl, rfl, rfl, trivial⟩, rfl⟩
   simp [ha1]; rfl
theorem inv_frV (b : Rat) (h : b.num ≠ 0) : frV (sg (decide (b.num < 0)) b.den) (dk b.num.natAbs) = fracV b⁻¹ := by
 have e1 : b⁻¹.num = sg (decide (b.num < 0)) b.den := by
  rw [Rat.num_inv]; unfold sg
  rcases Int.lt_or_lt_of_ne h with h1 | h1
  ·simp [h1, Int.sign_eq_neg_one_of_neg h1]
  ·rw [Int.sign_eq_one_of_pos h1, decide_eq_false (by omega)]; simp
 have e2 : b⁻¹.den = b.num.natAbs := by
  rw [Rat.den_inv, if_neg]
  exact h
 rw [← e1, ← e2]
theorem div_pv (a b : Rat) (ha : sm a) (hb : sm b) (h0 : b ≠ 0) : PV prog 41 #[fracV a, fracV b] (.tuple #[fracV (a / b), .bool true]) := by
 have hn0 : b.num ≠ 0 := fun e => h0 (Rat.num_eq_zero.1 e)
 have bnb : bigI b.num := Nat.le_trans hb.num (by omega)
 have bdb : big b.den := Nat.le_trans hb.den (by omega)
 have hm := mul_pv a b⁻¹ ha (Nat.le_trans (ht_inv b) hb)
 rw [← Rat.div_def] at hm
 have hp := pack_pv (sg (decide (b.num < 0)) b.den) b.num.natAbs bnb
 rw [inv_frV b hn0] at hp
 have s1 := from_pv (decide (b.num < 0)) b.den bdb
 have sg1 := sign_pv b bnb
 have ab := wholeAbs_pv b.num
 have d2 := den_pv b bdb
 refine PV.of_pc ?_
 refine BD func41 ntmps41 ?_
 repeat (first | refine RUN ?_ | refine CV (sg1) ?_ | refine CE (sg1) ?_)
 rw [show (b.num.sign == 0) = false by simp [Int.sign_eq_zero_iff_zero, hn0]]
 try refine RUN ?_
 apply EV.drawn 11 (by kernel_rfl) (by kernel_rfl); intro xv yw
 (repeat (first | refine' DV ?_ | refine' DA ?_ | refine' DK0 ?_ | refine' DT ?_ | (refine' DC (sg1) (h := ?_); rotate_left) | refine' DS ?_))
 rw [show decide (b.num.sign < 0) = decide (b.num < 0) by rw [decide_eq_decide]; exact Int.sign_neg_iff]
 (repeat (first | refine' DV ?_ | refine' DA ?_ | refine' DK0 ?_ | refine' DT ?_ | (refine' DC (d2) (h := ?_); rotate_left) | (refine' DC (s1) (h := ?_); rotate_left) | (refine' DC (ab) (h := ?_); rotate_left) | (refine' DC (hp) (h := ?_); rotate_left) | refine' DS ?_))
 (refine DJ.nil (fun G hG hF => ?_); (case hS => rfl); (case hS2 => rfl))
 repeat (first | refine RUN ?_ | refine CV (hm) ?_ | refine CE (hm) ?_)
 rfl
theorem div_zero_pv (a : Rat) : PV prog 41 #[fracV a, fracV 0] (.tuple #[fracV 0, .bool false]) := by
 have sg1 := sign_pv 0 (by show bl 0 ≤ _; rw [bl_zero]; omega)
 refine PV.of_pc ?_
 refine BD func41 ntmps41 ?_
 repeat (first | refine RUN ?_ | refine CV (sg1) ?_ | refine CE (sg1) ?_)
 show _ = Value.tuple #[frV 0 0, .bool false]
 rw [frV_zero, show (0 : Int).natAbs = 0 from rfl, moreB_empty (n := 0) (by decide)]; rfl
theorem ordZ_scale (x y p q : Int) (hp : 0 < p) (hq : 0 < q) (h : x.sign ≠ y.sign) : ordZ x y = ordZ (x * p) (y * q) := by
 have f1 : x < 0 → x * p < 0 := fun h => Int.mul_neg_of_neg_of_pos h hp
 have f2 : 0 < x → 0 < x * p := fun h => Int.mul_pos h hp
 have f3 : y < 0 → y * q < 0 := fun h => Int.mul_neg_of_neg_of_pos h hq
 have f4 : 0 < y → 0 < y * q := fun h => Int.mul_pos h hq
 have f5 : x = 0 → x * p = 0 := fun h => by rw [h, Int.zero_mul]
 have f6 : y = 0 → y * q = 0 := fun h => by rw [h, Int.zero_mul]
 generalize x * p = u at *
 generalize y * q = v at *
 rcases Int.lt_trichotomy x 0 with hx | hx | hx <;> rcases Int.lt_trichotomy y 0 with hy | hy | hy
 ·exact absurd (by rw [Int.sign_eq_neg_one_of_neg hx, Int.sign_eq_neg_one_of_neg hy]) h
 ·unfold ordZ; rw [if_pos (by omega), if_pos (by have := f1 hx; have := f6 hy; omega)]
 ·unfold ordZ; rw [if_pos (by omega), if_pos (by have := f1 hx; have := f4 hy; omega)]
 ·unfold ordZ; rw [if_neg (by omega), if_pos (by omega), if_neg (by have := f5 hx; have := f3 hy; omega), if_pos (by have := f5 hx; have := f3 hy; omega)]
 ·exact absurd (by rw [hx, hy]) h
 ·unfold ordZ; rw [if_pos (by omega), if_pos (by have := f5 hx; have := f4 hy; omega)]
 ·unfold ordZ; rw [if_neg (by omega), if_pos (by omega), if_neg (by have := f2 hx; have := f3 hy; omega), if_pos (by have := f2 hx; have := f3 hy; omega)]
 ·unfold ordZ; rw [if_neg (by omega), if_pos (by omega), if_neg (by have := f2 hx; have := f6 hy; omega), if_pos (by have := f2 hx; have := f6 hy; omega)]
 ·exact absurd (by rw [Int.sign_eq_one_of_pos hx, Int.sign_eq_one_of_pos hy]) h
theorem sign_ne (a b : Rat) (h : a.num.sign ≠ b.num.sign) : ordZ a.num b.num = ordR a b := by
 have := Nat.pos_of_ne_zero a.den_nz
 have := Nat.pos_of_ne_zero b.den_nz
 rw [ordR_eq]; exact ordZ_scale _ _ _ _ (by omega) (by omega) h
theorem cmp_pv (a b : Rat) (ha : sm a) (hb : sm b) : PV prog 31 #[fracV a, fracV b] (.int .i64 (ordR a b)) := by
 have na := ha.num; have da := ha.den; have nb := hb.num; have db := hb.den
 have bna : bigI a.num := Nat.le_trans na (by omega)
 have bnb : bigI b.num := Nat.le_trans nb (by omega)
 have bda : big a.den := Nat.le_trans da (by omega)
 have bdb : big b.den := Nat.le_trans db (by omega)
 have w1 := isWhole_pv a bda
 have w2 := isWhole_pv b bdb
 have s1 := sign_pv a bna
 have s2 := sign_pv b bnb
 have d1 := den_pv a bda
 have d2 := den_pv b bdb
 have c1 := bl_mul a.num.natAbs b.den
 have c2 := bl_mul b.num.natAbs a.den
 have t1 := times_pv a.num b.den bna bdb (by show bl _ ≤ _; omega)
 have t2 := times_pv b.num a.den bnb bda (by show bl _ ≤ _; omega)
 have k1 := wholeCmp_pv a.num b.num bna bnb
 have k2 := wholeCmp_pv (a.num * (b.den : Int)) (b.num * (a.den : Int)) (by show bl _ ≤ _; rw [Int.natAbs_mul]; simp; omega) (by show bl _ ≤ _; rw [Int.natAbs_mul]; simp; omega)
 rw [← ordR_eq] at k2
 refine PV.of_pc ?_
 refine BD func31 ntmps31 ?_
 try refine RUN ?_
 by_cases ha1 : a.den = 1
 ·rw [decide_eq_true ha1] at w1
  by_cases hb1 : b.den = 1
  ·rw [decide_eq_true hb1] at w2
   have e : ordZ a.num b.num = ordR a b := by rw [ordR_eq, ha1, hb1]; simp
   rw [e] at k1
   apply EV.drawn 10 (by kernel_rfl) (by kernel_rfl); intro xv yw
   (repeat (first | refine' DV ?_ | refine' DA ?_ | refine' DK0 ?_ | refine' DT ?_ | (refine' DC (w1) (h := ?_); rotate_left) | (refine' DC (w2) (h := ?_); rotate_left) | (refine' DC (s1) (h := ?_); rotate_left) | (refine' DC (s2) (h := ?_); rotate_left) | refine' DS ?_))
   (refine DJ.nil (fun G hG hF => ?_); (case hS => rfl); (case hS2 => rfl))
   repeat (first | refine RUN ?_ | refine CV (k1) ?_ | refine CE (k1) ?_)
   rfl
  ·rw [decide_eq_false hb1] at w2
   apply EV.drawn 10 (by kernel_rfl) (by kernel_rfl); intro xv yw
   (repeat (first | refine' DV ?_ | refine' DA ?_ | refine' DK0 ?_ | refine' DT ?_ | (refine' DC (w1) (h := ?_); rotate_left) | (refine' DC (w2) (h := ?_); rotate_left) | (refine' DC (s1) (h := ?_); rotate_left) | (refine' DC (s2) (h := ?_); rotate_left) | refine' DS ?_))
   (refine DJ.nil (fun G hG hF => ?_); (case hS => rfl); (case hS2 => rfl))
   repeat (first | refine RUN ?_ | refine CV (s1) ?_ | refine CV (s2) ?_ | refine CE (s1) ?_ | refine CE (s2) ?_)
   by_cases hs : a.num.sign = b.num.sign
   ·rw [show (a.num.sign != b.num.sign) = false by simp [hs]]
    try refine RUN ?_
    apply EV.drawn 9 (by kernel_rfl) (by kernel_rfl); intro xv yw
    (repeat (first | refine' DV ?_ | refine' DA ?_ | refine' DK0 ?_ | refine' DT ?_ | (refine' DC (d2) (h := ?_); rotate_left) | (refine' DC (t1) (h := ?_); rotate_left) | (refine' DC (d1) (h := ?_); rotate_left) | refine' DS ?_))
    (refine DJ.nil (fun G hG hF => ?_); (case hS => rfl); (case hS2 => rfl))
    repeat (first | refine RUN ?_ | refine CV (t2) ?_ | refine CV (k2) ?_ | refine CE (t2) ?_ | refine CE (k2) ?_)
    rfl
   ·rw [show (a.num.sign != b.num.sign) = true by simp [hs]]
    repeat (first | refine RUN ?_ | refine CV (k1) ?_ | refine CE (k1) ?_)
    rw [sign_ne a b hs]
 ·rw [decide_eq_false ha1] at w1
  apply EV.drawn 10 (by kernel_rfl) (by kernel_rfl); intro xv yw
  (repeat (first | refine' DV ?_ | refine' DA ?_ | refine' DK0 ?_ | refine' DT ?_ | (refine' DC (w1) (h := ?_); rotate_left) | (refine' DC (w2) (h := ?_); rotate_left) | (refine' DC (s1) (h := ?_); rotate_left) | (refine' DC (s2) (h := ?_); rotate_left) | refine' DS ?_))
  (refine DJ.nil (fun G hG hF => ?_); (case hS => rfl); (case hS2 => rfl))
  repeat (first | refine RUN ?_ | refine CV (s1) ?_ | refine CV (s2) ?_ | refine CE (s1) ?_ | refine CE (s2) ?_)
  by_cases hs : a.num.sign = b.num.sign
  ·rw [show (a.num.sign != b.num.sign) = false by simp [hs]]
   try refine RUN ?_
   apply EV.drawn 9 (by kernel_rfl) (by kernel_rfl); intro xv yw
   (repeat (first | refine' DV ?_ | refine' DA ?_ | refine' DK0 ?_ | refine' DT ?_ | (refine' DC (d2) (h := ?_); rotate_left) | (refine' DC (t1) (h := ?_); rotate_left) | (refine' DC (d1) (h := ?_); rotate_left) | refine' DS ?_))
   (refine DJ.nil (fun G hG hF => ?_); (case hS => rfl); (case hS2 => rfl))
   repeat (first | refine RUN ?_ | refine CV (t2) ?_ | refine CV (k2) ?_ | refine CE (t2) ?_ | refine CE (k2) ?_)
   rfl
  ·rw [show (a.num.sign != b.num.sign) = true by simp [hs]]
   repeat (first | refine RUN ?_ | refine CV (k1) ?_ | refine CE (k1) ?_)
   rw [sign_ne a b hs]
theorem pick_pv (z m : Int) (hz : -9223372036854775808 ≤ z ∧ z < 9223372036854775808) (h0 : 0 < m) (hm : m < 4611686018427387904) : PV prog 13 #[.int .i64 z, .int .i64 m] (.int .i64 (z % m)) := by
 have h1 := Int.tmod_lt_of_pos z h0
 have h2 := Int.lt_tmod_of_pos z h0
 have e : z % m = if z.tmod m < 0 then z.tmod m + m else z.tmod m := by
  have hq := Int.mul_tdiv_add_tmod z m
  have e1 : z % m = z.tmod m % m := by
   conv => lhs; rw [← hq]
   rw [Int.mul_add_emod_self_left]
  rw [e1]
  by_cases ht : z.tmod m < 0
  ·rw [if_pos ht, ← Int.add_emod_right, Int.emod_eq_of_lt (by omega) (by omega)]
  ·rw [if_neg ht, Int.emod_eq_of_lt (by omega) h1]
 refine PV.of_pc ?_
 refine BD func13 ntmps13 ?_
 try refine RUN ?_
 refine EVL.remI rfl rfl rfl rfl rfl rfl (by omega) ?_
 generalize z.tmod m = t at *
 try refine RUN ?_
 by_cases ht : t < 0
 ·rw [if_pos ht] at e
  rw [decide_eq_true ht]
  try refine RUN ?_
  rw [e, IntKind.wrap_i64]; congr 1; omega
 ·rw [if_neg ht] at e
  rw [decide_eq_false ht]
  try refine RUN ?_
  rw [e]
theorem refNatH_pc {H : Hp} {v : Value} {n : Nat} (h : RN H v n) (hn : rsm n) : PC prog 105 #[v] H fun r _ => r = natV n := by
 have hol : (octs n).length ≤ 200000000 := by
  rw [octs_length]
  have := dig_len_bits 8 n (by omega); rw [show (2 : Nat) ^ 8 = 256 by decide] at this; rw [this]
  have : bl n ≤ 800000000 := hn
  omega
 refine BD func105 ntmps105 ?_
 try refine RUN ?_
 refine EVL.call rfl rfl rfl rfl rfl (refBytes_pc h hn) ?_
 rintro r G hr hG
 have hf := natFromBytes_pc hr (octs_dig n) hol
 rw [octs_val] at hf
 repeat (first | refine RUN ?_ | refine CV (hf) ?_ | refine CE (hf) ?_)
 rfl
theorem outNat_pc {H : Hp} (n : Nat) (hn : rsm n) : PC prog 144 #[natV n] H fun r H' => RN H' r n := by
 have hol : (octs n).length ≤ 200000000 := by
  rw [octs_length]
  have := dig_len_bits 8 n (by omega); rw [show (2 : Nat) ^ 8 = 256 by decide] at this; rw [this]
  have : bl n ≤ 800000000 := hn
  omega
 refine BD func144 ntmps144 ?_
 try refine RUN ?_
 refine EVL.call rfl rfl rfl rfl rfl (natBytes_pc n (Nat.le_trans hn (by omega)) H) ?_
 rintro r G hr hG
 have hf := refFrom_pc hr (octs_dig n) hol
 rw [octs_val] at hf
 try refine RUN ?_
 refine EVL.call rfl rfl rfl rfl rfl (hf) ?_
 rintro s G2 hs hG2
 try refine RUN ?_
 exact hs
theorem intH_pc {H : Hp} {v : Value} {z : Int} (h : RI H v z) (hz : rsm z.natAbs) : PC prog 104 #[v] H fun r _ => r = intV z := by
 obtain ⟨sa, sl, sc, rfl, hs⟩ := id h
 have hf := from_pv (decide (z < 0)) z.natAbs (Nat.le_trans hz (by omega))
 rw [sg_dec] at hf
 refine BD func104 ntmps104 ?_
 try refine RUN ?_
 apply EV.drawn 6 (by kernel_rfl) (by kernel_rfl); intro xv yw
 (repeat (first | refine' DV ?_ | refine' DA ?_ | refine' DK0 ?_ | refine' DT ?_ | refine' DS ?_))
 refine' DJ.callS rfl rfl rfl rfl rfl (cO func105) (fun G hG hd => refNatH_pc (RN.mono hs hG) hz) ?_; rotate_left
 (repeat (first | refine' DV ?_ | refine' DA ?_ | refine' DK0 ?_ | refine' DT ?_ | (refine' DC (hf) (h := ?_); rotate_left) | refine' DS ?_))
 (refine DJ.nil (fun G hG hF => ?_); (case hS => rfl); (case hS2 => rfl))
 try refine RUN ?_
 rfl
theorem outInt_pc {H : Hp} (z : Int) (hz : rsm z.natAbs) : PC prog 64 #[intV z] H fun r H' => RI H' r z := by
 have hb : bigI z := Nat.le_trans hz (by omega)
 have e1 : decide (z.sign < 0) = decide (z < 0) := by rw [decide_eq_decide, Int.sign_neg_iff]
 refine BD func64 ntmps64 ?_
 try refine RUN ?_
 apply EV.drawn 7 (by kernel_rfl) (by kernel_rfl); intro xv yw
 (repeat (first | refine' DV ?_ | refine' DA ?_ | refine' DK0 ?_ | refine' DT ?_ | (refine' DC (wholeSign_pv z hb) (h := ?_); rotate_left) | (refine' DC (wholeAbs_pv z) (h := ?_); rotate_left) | refine' DS ?_))
 refine' DJ.call rfl rfl rfl rfl rfl (cO func144) (fun G hG hd => outNat_pc z.natAbs hz) (fun _ _ _ h k => RN.mono h k) ?_; rotate_left
 rw [e1]
 refine' DJ.call rfl rfl rfl rfl rfl (cO func90) (fun G hG hd => refI_pc (decide (z < 0)) (hd.head (by kernel_rfl))) (fun _ _ _ h k => RI.mono h k) ?_; rotate_left
 (refine DJ.nil (fun G hG hF => ?_); (case hS => rfl); (case hS2 => rfl))
 obtain ⟨⟨ra, rl, rc, hr, h1⟩, _⟩ := hF
 rw [sg_dec] at hr h1
 rw [hr]
 try refine RUN ?_
 exact ⟨ra, rl, rc, rfl, h1⟩
theorem in_pc {H : Hp} {v : Value} {q : Rat} (h : RQ H v q) (hq : rq q) : PC prog 25 #[v] H fun r _ => r = fracV q := by
 obtain ⟨sa, sl, sc, ta, tl, tc, rfl, hs, ht⟩ := id h
 have hn := hq.num
 have hd' := hq.den
 have hf := from_pv false q.den (Nat.le_trans hd' (by omega))
 rw [show sg false q.den = (q.den : Int) from rfl] at hf
 have hm := make_pv q.num (q.den : Int) (Nat.le_trans hn (by omega)) (Nat.le_trans hd' (by omega)) (by have := q.den_nz; omega)
 rw [if_neg (by omega), Int.natAbs_natCast, Rat.mkRat_self] at hm
 refine BD func25 ntmps25 ?_
 try refine RUN ?_
 apply EV.drawn 14 (by kernel_rfl) (by kernel_rfl); intro xv yw
 (repeat (first | refine' DV ?_ | refine' DA ?_ | refine' DK0 ?_ | refine' DT ?_ | refine' DS ?_))
 refine' DJ.callS rfl rfl rfl rfl rfl (cO func104) (fun G hG hd => intH_pc (RQ.rnum (RN.mono hs hG)) hn) ?_; rotate_left
 (repeat (first | refine' DV ?_ | refine' DA ?_ | refine' DK0 ?_ | refine' DT ?_ | refine' DS ?_))
 refine' DJ.callS rfl rfl rfl rfl rfl (cO func105) (fun G hG hd => refNatH_pc (RN.mono ht hG) hd') ?_; rotate_left
 (repeat (first | refine' DV ?_ | refine' DA ?_ | refine' DK0 ?_ | refine' DT ?_ | (refine' DC (hf) (h := ?_); rotate_left) | (refine' DC (hm) (h := ?_); rotate_left) | refine' DS ?_))
 (refine DJ.nil (fun G hG hF => ?_); (case hS => rfl); (case hS2 => rfl))
 try refine RUN ?_
 rfl
theorem out_pc {H : Hp} (q : Rat) (hq : rq q) : PC prog 101 #[fracV q] H fun r H' => RQ H' r q := by
 have hn := hq.num
 have hd' := hq.den
 refine BD func101 ntmps101 ?_
 try refine RUN ?_
 apply EV.drawn 6 (by kernel_rfl) (by kernel_rfl); intro xv yw
 (repeat (first | refine' DV ?_ | refine' DA ?_ | refine' DK0 ?_ | refine' DT ?_ | (refine' DC (num_pv q) (h := ?_); rotate_left) | (refine' DC (den_pv q (Nat.le_trans hd' (by omega))) (h := ?_); rotate_left) | refine' DS ?_))
 refine' DJ.call rfl rfl rfl rfl rfl (cO func64) (fun G hG hd => outInt_pc q.num hn) (fun _ _ _ h k => RI.mono h k) ?_; rotate_left
 (repeat (first | refine' DV ?_ | refine' DA ?_ | refine' DK0 ?_ | refine' DT ?_ | (refine' DC (num_pv q) (h := ?_); rotate_left) | (refine' DC (den_pv q (Nat.le_trans hd' (by omega))) (h := ?_); rotate_left) | refine' DS ?_))
 refine' DJ.call rfl rfl rfl rfl rfl (cO func144) (fun G hG hd => outNat_pc q.den hd') (fun _ _ _ h k => RN.mono h k) ?_; rotate_left
 (refine DJ.nil (fun G hG hF => ?_); (case hS => rfl); (case hS2 => rfl))
 obtain ⟨hN, ⟨ra, rl, rc, hr, h1⟩, _⟩ := hF
 obtain ⟨xa, xc, hx⟩ := SlC.val hN
 rw [hx] at hN
 rw [hx, hr]
 try refine RUN ?_
 exact ⟨ra, rl, rc, xa, _, xc, rfl, h1, hN⟩
theorem argsK_vals {α : Type} {env : Env} : ∀ {l : List Operand} {k : List Value → Option α} {r : α}, argsK env l k = some r → ∃ vs, k vs = some r ∧ ∀ ev : Operand → Value, (∀ y x, y ∈ l → env.op y = some (.v x) → ev y = x) → l.map ev = vs
 | [], k, r, h => ⟨[], h, fun _ _ => rfl⟩
 | x :: l, k, r, h => by
  unfold argsK at h
  split at h
  ·rename_i v hv
   obtain ⟨vs, h1, h2⟩ := argsK_vals h
   exact ⟨v :: vs, h1, fun ev he => by rw [List.map_cons, he x v (by simp) hv, h2 ev fun y x hy => he y x (by simp [hy])]⟩
  ·cases h
section
variable {P : Program} {n : Nat} {ops : Array Oper} {o : Oper} {rest : List Oper} {env : Env} {bx : Bxs} {H : Hs} {Q : EQ} {τ : Tab} {d : Nat}
theorem EVL.buildArr {T : TypeId} {parts : Array (Nat × Operand)} (ho : o.op = .build T parts) (hw : wantB ops env o = some true) (hd : o.dst = some d) (hn : Nat.blt d n = true) {vs : List Value} (ha : argsK env (parts.toList.map (·.2)) some = some vs) {cs : List Value}
  (hb : P.built T ((parts.toList.map (·.1)).zip vs) = some cs.toArray) (h : EVL P n ops rest ((d, .v (.agg cs.toArray)) :: env) bx H Q) : EVL P n ops (o :: rest) env bx H Q := by
 refine EVL.gen hw hd hn (fun ev W he => ?_) h
 obtain ⟨vs', e1, h2⟩ := argsK_vals ha
 cases e1
 have h3 := h2 ev fun y x hy => he y x (by rw [ho]; simpa [Op.operands] using hy)
 have h4 : ((parts.map fun (i, x) => (i, ev x)) : Array (Nat × Value)).toList = (parts.toList.map (·.1)).zip vs := by
  rw [← h3, Array.toList_map]
  generalize parts.toList = l
  induction l with
  | nil => rfl
  | cons p l ih => simp only [List.map_cons, List.zip_cons_cons, ih]
 have := run_build (P := P) W T (parts.map fun (i, x) => (i, ev x)) cs.toArray (by rw [h4]; exact hb)
 unfold execOp
 rw [ho]
 simp [this]
theorem EVL.indexArr (hτ : TabOk P τ) {T e : TypeId} {x y : Operand} (ho : o.op = .index T x y) (hw : wantB ops env o = some true) (hd : o.dst = some d) (hn : Nat.blt d n = true) {len : Nat} (hu : P.underlying T = some (.array len e)) {te : TE} (ht : τ.get e = some te) (hag : te.agg = false) (hsz : te.size = 1)
  {cs : List Value} (hx : env.op x = some (.v (.agg cs.toArray))) {k : IntKind} {z : Int} (hy : env.op y = some (.v (.int k z))) (j : Nat) (hz : z = j) (hj : j < len) {v : Value} (hc : cs[j]? = some v)
  (h : EVL P n ops rest ((d, .v v) :: env) bx H Q) : EVL P n ops (o :: rest) env bx H Q := by
 refine EVL.gen hw hd hn (fun ev W he => ?_) h
 have e1 := he x _ (by rw [ho]; simp [Op.operands]) hx
 have e2 := he y _ (by rw [ho]; simp [Op.operands]) hy
 subst hz
 have hp : (part e cs.toArray j).run P W = .ok v W := by simp [part, (hτ.get ht).agg, hag, hc]
 unfold execOp
 simp only [ho, e1, e2, Instr.index, asIntOf, Sem.run_bind, Sem.run_pure, Result.andThen_ok, run_underlying hu]
 rw [if_pos ⟨by omega, by omega⟩]
 simp only [Sem.run_bind, (hτ.get ht).size, Result.andThen_ok, Int.toNat_natCast, hsz, Nat.mul_one, hp]
end
theorem refCmpN_pc {H : Hp} {u v : Value} {a b : Nat} (hu : RN H u a) (hv : RN H v b) (ha : rsm a) : PC prog 102 #[u, v] H fun r _ => r = .int .i64 (ordN a b) := by
 have la := ha.len
 have := refCmpL_pc hu hv (dig_norm B32_two _) (dig_norm B32_two _) (by omega)
 rwa [dig_val B32_two, dig_val B32_two] at this
theorem ordN_eqb (a b : Nat) : (ordN a b == 0) = decide (a = b) := by
 unfold ordN
 rcases Nat.lt_trichotomy a b with h | h | h
 ·rw [if_pos h, decide_eq_false (by omega)]; rfl
 ·rw [if_neg (by omega), if_neg (by omega), decide_eq_true h]; rfl
 ·rw [if_neg (by omega), if_pos h, decide_eq_false (by omega)]; rfl
theorem same_pc {H : Hp} {w : Value} {p q : Rat} (hw : RQ H w q) (hp : rq p) (hq : rq q) : PC prog 23 #[fracV p, w] H fun r _ => r = .bool (decide (p = q)) := by
 obtain ⟨sa, sl, sc, ta, tl, tc, rfl, hs, ht⟩ := id hw
 have hl : (tl : Int) ≠ 0 := by
  have h1 := SlN.cap ht
  have h2 := dig_ne_nil B32_two q.den_nz
  have h3 := List.length_pos_iff.2 h2
  omega
 refine BD func23 ntmps23 ?_
 try refine RUN ?_
 refine EVL.call rfl rfl rfl rfl rfl (out_pc p hp) ?_
 rintro r G ⟨sa', sl', sc', ta', tl', tc', rfl, hs', ht'⟩ hG
 have c1 := refCmpN_pc hs' (RN.mono hs hG) hp.num
 have c2 := refCmpN_pc ht' (RN.mono ht hG) hp.den
 try refine RUN ?_
 rw [show ((tl : Int) == 0) = false by simpa using hl]
 repeat (first | refine RUN ?_ | refine CV (c1) ?_ | refine CE (c1) ?_)
 rw [ordN_eqb]
 by_cases h1 : p.num.natAbs = q.num.natAbs
 ·rw [decide_eq_true h1]
  try refine RUN ?_
  refine EVL.eqb rfl rfl rfl rfl rfl rfl (by kernel_rfl) ?_
  by_cases h2 : decide (p.num < 0) = decide (q.num < 0)
  ·rw [show (decide (p.num < 0) == decide (q.num < 0)) = true by simp [h2]]
   repeat (first | refine RUN ?_ | refine CV (c2) ?_ | refine CE (c2) ?_)
   rw [ordN_eqb]
   congr 1
   have hn : p.num = q.num := by
    rw [decide_eq_decide] at h2; omega
   by_cases h3 : p.den = q.den
   ·rw [decide_eq_true h3, decide_eq_true (Rat.ext hn h3)]
   ·rw [decide_eq_false h3, decide_eq_false (fun e => h3 (by rw [e]))]
  ·rw [show (decide (p.num < 0) == decide (q.num < 0)) = false by simpa using h2]
   try refine RUN ?_
   rw [decide_eq_false (fun e => h2 (by rw [e]))]
 ·rw [decide_eq_false h1]
  try refine RUN ?_
  rw [decide_eq_false (fun e => h1 (by rw [e]))]
def rDen (j : Nat) : Int := [1, 1, 1, 2, 3, 4].getD j 1
def rNum (z : Int) : Rat := Rat.divInt (z % 41 - 20) (rDen (z.tdiv 41 % 6).toNat)
theorem rDen_range (j : Nat) : 1 ≤ rDen j ∧ rDen j ≤ 4 := by
 unfold rDen
 rcases j with _ | _ | _ | _ | _ | _ | j <;> simp [List.getD_eq_getElem?_getD]
theorem r_pc {H : Hp} (z : Int) (hz : -9223372036854775808 ≤ z ∧ z < 9223372036854775808) : PC prog 86 #[.int .i64 z] H fun r H' => RQ H' r (rNum z) := by
 have hq : -9223372036854775808 ≤ z.tdiv 41 ∧ z.tdiv 41 < 9223372036854775808 := by
  by_cases h : 0 ≤ z
  ·rw [Int.tdiv_eq_ediv_of_nonneg h]; omega
  ·have e : z.tdiv 41 = -((-z) / 41) := by rw [← Int.tdiv_eq_ediv_of_nonneg (by omega), Int.neg_tdiv, Int.neg_neg]
   rw [e]; omega
 have hqw : IntKind.i64.wrap (z.tdiv 41) = z.tdiv 41 := by rw [IntKind.wrap_i64]; omega
 have h1 := pick_pv z 41 hz (by omega) (by omega)
 have h2 := pick_pv (z.tdiv 41) 6 hq (by omega) (by omega)
 have m1 := Int.emod_nonneg z (show (41 : Int) ≠ 0 by omega)
 have m2 := Int.emod_lt_of_pos z (show (0 : Int) < 41 by omega)
 obtain ⟨j, hj⟩ := Int.eq_ofNat_of_zero_le (Int.emod_nonneg (z.tdiv 41) (show (6 : Int) ≠ 0 by omega))
 have m3 := Int.emod_lt_of_pos (z.tdiv 41) (show (0 : Int) < 6 by omega)
 have hsub : IntKind.i64.wrap (z % 41 - 20) = z % 41 - 20 := by rw [IntKind.wrap_i64]; omega
 have hrd := rDen_range j
 have hrn : rNum z = Rat.divInt (z % 41 - 20) (rDen j) := by unfold rNum; rw [hj]; rfl
 rw [hrn]
 have hidx : ([.int .i64 1, .int .i64 1, .int .i64 1, .int .i64 2, .int .i64 3, .int .i64 4] : List Value)[j]? = some (.int .i64 (rDen j)) := by
  have hj6 : j < 6 := by omega
  rcases j with _ | _ | _ | _ | _ | _ | j <;> first | rfl | omega
 have ho := fun G : Hp => refOver_pc (H := G) (z % 41 - 20) (rDen j) (by omega) (by omega) (by omega) (by omega) (by omega)
 rw [hj] at h2
 refine BD func86 ntmps86 ?_
 repeat (first | refine RUN ?_ | refine CV (h1) ?_ | refine CE (h1) ?_)
 rw [hsub]
 refine EVL.buildArr rfl rfl rfl rfl rfl (cs := [.int .i64 1, .int .i64 1, .int .i64 1, .int .i64 2, .int .i64 3, .int .i64 4]) (by kernel_rfl) ?_
 try refine RUN ?_
 rw [hqw]
 repeat (first | refine RUN ?_ | refine CV (h2) ?_ | refine CE (h2) ?_)
 refine EVL.indexArr (e := 2) (len := 6) tO rfl rfl rfl rfl (by kernel_rfl) rfl rfl rfl rfl rfl j rfl (show j < 6 by omega) hidx ?_
 refine EVL.call rfl rfl rfl rfl rfl (ho H) ?_
 rintro r G ⟨ra, rl, rc, xa, xl, xc, rfl, hn, hd⟩ hG
 try refine RUN ?_
 exact ⟨ra, rl, rc, xa, xl, xc, rfl, hn, hd⟩
theorem flat_len {α : Type} (f : α → List Value) (s : Nat) : ∀ (l : List α), (∀ x, x ∈ l → (f x).length = s) → (l.flatMap f).length = l.length * s
 | [], _ => by simp
 | y :: l, h => by
  have h1 := h y (List.mem_cons_self ..)
  have := flat_len f s l (fun z hz => h z (List.mem_cons_of_mem _ hz))
  rw [List.flatMap_cons, List.length_append, this, h1, List.length_cons, Nat.succ_mul]; omega
theorem flat_cut {α : Type} (f : α → List Value) (s : Nat) : ∀ (l : List α), (∀ x, x ∈ l → (f x).length = s) → ∀ (j : Nat) (x : α), l[j]? = some x → ((l.flatMap f).drop (j * s)).take s = f x
 | [], _, j, x, h => by simp at h
 | y :: l, hl, 0, x, h => by
  have hy := hl y (List.mem_cons_self ..)
  simp at h; subst h
  rw [List.flatMap_cons, Nat.zero_mul, List.drop_zero, ← hy, List.take_left']
  rfl
 | y :: l, hl, j + 1, x, h => by
  have hy := hl y (List.mem_cons_self ..)
  have := flat_cut f s l (fun z hz => hl z (List.mem_cons_of_mem _ hz)) j x (by simpa using h)
  rw [List.flatMap_cons, Nat.succ_mul, Nat.add_comm, ← List.drop_drop, List.drop_left' hy]; exact this
section
variable {P : Program} {n : Nat} {ops : Array Oper} {o : Oper} {rest : List Oper} {env : Env} {bx : Bxs} {sb : Bxs} {ow : Ows} {H : Hs} {Q : EQ} {τ : Tab} {d : Nat} {s : SV}
theorem EVL.idxM (hτ : TabOk P τ) {T : TypeId} {x y : Operand} (ho : o.op = .indexAddr T x y) (hw : wantB ops env o = some true) (hd : o.dst = some d) (hn : Nat.blt d n = true) {te te' : TE} {e : TypeId} (ht : τ.get T = some te) (hk : te.kind = .slice e) (ht' : τ.get e = some te')
  {v : Value} (hx : env.op x = some (.v v)) {k : IntKind} {z : Int} (hy : env.op y = some (.v (.int k z))) {m : Nat} {xs : List Value} (hs : SlC H.ro v m te'.size xs) (j : Nat) (hz : z = j) (hj : j < m) {cs : List Value} (hc : (xs.drop (j * te'.size)).take te'.size = cs)
  (h : EVL P n ops rest ((d, .ro cs) :: env) bx H Q) : EVL P n ops (o :: rest) env bx H Q := fun W0 β a W r => by
 subst hc
 have ex : a.eval x = v := r.op hx
 have ey : a.eval y = .int k z := r.op hy
 have hkd := (hτ.get ht).kind
 rw [hk] at hkd
 have hkd' : P.underlying T = some (.slice e) := hkd
 rcases hs.2 with ⟨h0, _⟩ | ⟨b, off, cap, c', rfl, hc', hH, hcs⟩
 ·omega
 ·have hrun : (execOp a.eval o).run P W = .ok (.value (.pointer (some ⟨b, off + j * te'.size, none⟩))) W := by
   unfold execOp
   simp [ho, ex, ey, Instr.indexAt, asIntOf, run_underlying hkd', hz, (hτ.get ht').size, Addr.add_mid, hj]
  unfold wpList
  rw [if_pos (r.want hw)]
  refine .inl ?_
  unfold Oper.wp
  rw [hrun, Oper.upon_value, hd]
  refine h W0 β _ W (r.put hn ⟨b, off + j * te'.size, c', rfl, hH, fun q u hq => ?_⟩ rfl)
  rw [List.getElem?_take] at hq
  split at hq
  ·rw [List.getElem?_drop] at hq
   rw [Nat.add_assoc]
   exact hcs _ _ hq
  ·cases hq
theorem DJ.idxM {tail l : List Oper} {x : Nat → Value} {y : Nat → Ows} {ow' : Ows} {kl ks : List DK} {i : Nat} {bx' : Bxs} {Γ : Fcts} (hτ : TabOk P τ) {T : TypeId} {u w : Operand} (ho : o.op = .indexAddr T u w) (hw : wantB ops env o = some true) (hd : o.dst = some d) (hn : Nat.blt d n = true) {te te' : TE} {e : TypeId} (ht : τ.get T = some te) (hk : te.kind = .slice e) (ht' : τ.get e = some te')
  {v : Value} (hx : env.op u = some (.v v)) {k : IntKind} {z : Int} (hy : env.op w = some (.v (.int k z))) {m : Nat} {xs : List Value} (hs : SlC H.ro v m te'.size xs) (j : Nat) (hz : z = j) (hj : j < m) {cs : List Value} (hc : (xs.drop (j * te'.size)).take te'.size = cs)
  (h : DJ P n ops tail sb bx H Q x y kl (i + 1) l ks ((d, .ro cs) :: env) bx' Γ ow') : DJ P n ops tail sb bx H Q x y kl i (o :: l) (.sv (.ro cs) :: ks) env bx' Γ ow' := by
 subst hc
 exact DJ.ofVal (ValOk.idx hτ ho hw ht hk ht' hx hy hs j hz hj) hd hn rfl h
theorem run_call_slot {f : FuncId} (hc : Callable P f) {t : Nat} {args : Array Operand} {tys : Array TypeId} {o : Oper} (ho : o.op = .call ⟨.value (.tmp t), args, tys⟩) {a : Act} (ht : a.eval (.tmp t) = .func (.func f) #[] #[]) {vs : List Value} (hv : args.toList.map a.eval = vs) (W : World) :
  (execOp a.eval o).run P W = .ok (.enter f vs.toArray) W := by
 have hm : args.map a.eval = vs.toArray := by rw [← hv, ← Array.toList_map]
 unfold execOp
 simp only [ho, resolve, hm, ht, Deferred.ofValue, Sem.run_bind, Sem.run_pure, Result.andThen_ok, invoke]
 simp [hc vs.toArray W]
theorem ValOk.callD {f : FuncId} {t : Nat} {args : Array Operand} {tys : Array TypeId} (ho : o.op = .call ⟨.value (.tmp t), args, tys⟩) (hw : wantB ops env o = some true) (ht : env.get t = some (.v (.func (.func f) #[] #[]))) {vs : List Value} (ha : argsK env args.toList some = some vs) {F : Hp → Prop} {Φ : Value → Hp → Prop} (hc : Callable P f) {R : Hp}
  (hpc : ∀ G, R.Le G → F G → PC P f vs.toArray G Φ) : ValOk P ops o env bx ow R F (fun _ v G => Φ v G) := fun β a W G hle hf hgl hb _ hs hF => by
 obtain ⟨vs', hk, hm⟩ := argsK_spec env _ _ _ ha
 cases hk
 have hvs := hm β G a.eval (fun y s hy => hs.op (by simp [ho, Op.operands, Call.operands]; exact .inr (by simpa using hy)))
 have htv : a.eval (.tmp t) = .func (.func f) #[] #[] := hs.op (s := .v (.func (.func f) #[] #[])) (by simp [ho, Op.operands, Call.operands]) ht
 rw [if_pos (hs.want hw)]
 unfold Oper.wp
 rw [run_call_slot hc ho htv hvs, Oper.upon_enter]
 refine ((hpc G hle hF).run W hf hgl).mono ?_
 rintro e W' ⟨v, H', rfl, hΦ, hle', hf', hb', hnew⟩
 exact ⟨v, H', rfl, hΦ, hle', hf', hb', hnew⟩
theorem DJ.callD {tail l : List Oper} {x : Nat → Value} {y : Nat → Ows} {ow' : Ows} {kl ks : List DK} {i : Nat} {bx' : Bxs} {Γ : Fcts} {f : FuncId} {t : Nat} {args : Array Operand} {tys : Array TypeId} (ho : o.op = .call ⟨.value (.tmp t), args, tys⟩) (hw : wantB ops env o = some true) (hd : o.dst = some d) (hn : Nat.blt d n = true)
  (ht : env.get t = some (.v (.func (.func f) #[] #[]))) {vs : List Value} (ha : argsK env args.toList some = some vs) {v : Value} (hpc : PV P f vs.toArray v)
  (h : DJ P n ops tail sb bx H Q x y kl (i + 1) l ks ((d, .v v) :: env) bx' Γ ow') : DJ P n ops tail sb bx H Q x y kl i (o :: l) (.sv (.v v) :: ks) env bx' Γ ow' := by
 refine ⟨d, hd, hn, rfl, ?_, h⟩
 have := ValOk.callD (P := P) (ops := ops) (bx := bx) (ow := H.ow) (R := H.ro) (F := DepF ops i Γ) (Φ := fun u _ => u = v) ho hw ht ha hpc.can (fun G _ _ => (hpc.pc G).mono fun _ _ h _ => h.1)
 exact this
theorem EVL.callD {f : FuncId} {t : Nat} {args : Array Operand} {tys : Array TypeId} (ho : o.op = .call ⟨.value (.tmp t), args, tys⟩) (hw : wantB ops env o = some true) (hd : o.dst = some d) (hn : Nat.blt d n = true)
  (ht : env.get t = some (.v (.func (.func f) #[] #[]))) {vs : List Value} (ha : argsK env args.toList some = some vs) {v : Value} (hpc : PV P f vs.toArray v)
  (h : EVL P n ops rest ((d, .v v) :: env) bx H Q) : EVL P n ops (o :: rest) env bx H Q := fun W0 β a W r => by
 obtain ⟨vs', hk, hm⟩ := argsK_spec env _ _ _ ha
 cases hk
 have hvs := hm β H.ro a.eval (fun y s _ hy => r.op hy)
 have htv : a.eval (.tmp t) = .func (.func f) #[] #[] := r.op (s := .v (.func (.func f) #[] #[])) (y := .tmp t) ht
 unfold wpList
 rw [if_pos (r.want hw)]
 refine .inl ?_
 unfold Oper.wp
 rw [run_call_slot hpc.can ho htv hvs, Oper.upon_enter]
 refine ((hpc.pc H.ro).run W r.fits r.globW).mono ?_
 rintro e W' ⟨v, H', rfl, ⟨rfl, rfl⟩, hle, hf, hb, hnew⟩
 rw [hd]
 exact h W0 β _ W' ((r.grow hle hf hb hnew).put hn rfl rfl)
end
def QL (H : Hp) (v : Value) (l : List Rat) : Prop := SlC H v l.length 5 (l.flatMap fun q => vlist (fracV q))
def RL (H : Hp) (v : Value) (l : List Rat) : Prop := ∃ vs : List Value, vs.length = l.length ∧ (∀ (j : Nat) (x : Value) (q : Rat), vs[j]? = some x → l[j]? = some q → RQ H x q) ∧ SlC H v l.length 3 (vs.flatMap vlist)
theorem QL.mono {H G : Hp} {v : Value} {l : List Rat} (h : QL H v l) (k : H.Le G) : QL G v l := SlC.mono h k
theorem RL.mono {H G : Hp} {v : Value} {l : List Rat} (h : RL H v l) (k : H.Le G) : RL G v l := by
 obtain ⟨vs, h1, h2, h3⟩ := h
 exact ⟨vs, h1, fun j x q e1 e2 => (h2 j x q e1 e2).mono k, h3.mono k⟩
theorem QL.at {H : Hp} {v : Value} {l : List Rat} {j : Nat} {q : Rat} (hj : l[j]? = some q) : ((l.flatMap fun q => vlist (fracV q)).drop (j * 5)).take 5 = vlist (fracV q) := flat_cut _ 5 l (fun _ _ => rfl) j q hj
theorem RQ.cells {H : Hp} {x : Value} {q : Rat} (h : RQ H x q) : (vlist x).length = 3 ∧ oneB (vlist x) = true := by
 obtain ⟨_, _, _, _, _, _, rfl, _, _⟩ := h
 exact ⟨rfl, rfl⟩
theorem RL.at {H : Hp} {v : Value} {l : List Rat} (h : RL H v l) {j : Nat} {q : Rat} (hj : l[j]? = some q) : ∃ (vs : List Value) (x : Value), SlC H v l.length 3 (vs.flatMap vlist) ∧ ((vs.flatMap vlist).drop (j * 3)).take 3 = vlist x ∧ RQ H x q := by
 obtain ⟨vs, h1, h2, h3⟩ := h
 obtain ⟨hl, rfl⟩ := List.getElem?_eq_some_iff.1 hj
 have hv : vs[j]? = some (vs[j]'(by omega)) := List.getElem?_eq_getElem (by omega)
 have hall : ∀ x, x ∈ vs → (vlist x).length = 3 := fun x hx => by
  obtain ⟨i, hi, rfl⟩ := List.getElem_of_mem hx
  exact (h2 i _ _ (List.getElem?_eq_getElem hi) (List.getElem?_eq_getElem (by omega))).cells.1
 exact ⟨vs, _, h3, flat_cut _ 3 vs hall j _ hv, h2 j _ _ hv hj⟩
theorem take_snoc {α : Type} {l : List α} {i : Nat} {x : α} (h : l[i]? = some x) : l.take (i + 1) = l.take i ++ [x] := by
 obtain ⟨hl, rfl⟩ := List.getElem?_eq_some_iff.1 h
 exact List.take_succ_eq_append_getElem hl
theorem same_yes {H : Hp} {w : Value} {p : Rat} (hw : RQ H w p) (hp : rq p) : PC prog 23 #[fracV p, w] H fun r _ => r = .bool true := by
 have := same_pc hw hp hp
 rwa [decide_eq_true rfl] at this
theorem RL.val {H : Hp} {v : Value} {l : List Rat} (h : RL H v l) : ∃ a cap, v = .slice a l.length cap := by
 obtain ⟨vs, _, _, h3⟩ := h
 exact SlC.val h3
theorem inRow_pc {H : Hp} {v : Value} {l : List Rat} (h : RL H v l) (hl : l.length ≤ 100000000) (hq : ∀ q, q ∈ l → rq q) : PC prog 67 #[v] H fun r H' => QL H' r l := by
 obtain ⟨a, cap, rfl⟩ := RL.val h
 refine BD func67 ntmps67 ?_
 try refine RUN ?_
 refine EV.loopK (ι := Nat × Value × Ows) [0] [] (fun q => [(3, .v q.2.1), (4, .v (.int .i64 (q.1 : Int)))]) (fun _ => []) (fun q => q.2.2) (fun q G => q.1 ≤ l.length ∧ OwnL 45 5 q.2.1 q.1 ((l.take q.1).flatMap fun q => vlist (fracV q)) q.2.2) (fun q => l.length - q.1) ((0, .slice none 0 0, [])) rfl rfl ⟨rfl, rfl, trivial⟩ trivial rfl (fun _ => rfl) (⟨Nat.zero_le _, OwnL.nil _ _⟩) ?_
 rintro ⟨i, w, ow⟩ G1 hG1 ⟨hi, hown⟩
 dsimp only at hi hown
 try refine RUN ?_
 refine EV.cond rfl (fun hlt => ?_) (fun hlt => ?_)
 ·simp only [nN] at hlt
  obtain ⟨q, hqi⟩ : ∃ q, l[i]? = some q := ⟨_, List.getElem?_eq_getElem hlt⟩
  obtain ⟨vs, x, hs, hc, hx⟩ := (h.mono hG1).at hqi
  obtain ⟨xa, xl, xc, ya, yl, yc, rfl, hx1, hx2⟩ := id hx
  try refine RUN ?_
  refine EVL.idxM tO rfl rfl rfl rfl rfl rfl rfl rfl rfl (hs) (i) (rfl) (hlt) (hc) ?_
  repeat (first | refine RUN ?_ | refine CV (in_pc hx (hq q (List.mem_of_getElem? hqi))) ?_ | refine CE (in_pc hx (hq q (List.mem_of_getElem? hqi))) ?_)
  refine EVL.app1 tO rfl rfl rfl rfl rfl rfl rfl rfl rfl rfl rfl rfl rfl rfl rfl rfl rfl rfl rfl (fun _ => rfl) (ow) ([]) ((List.append_nil _).symm) (hown) (by omega) fun _ => ?_
  intro v' ow' hown'
  try refine RUN ?_
  refine ⟨(i + 1, v', ow'), ⟨rfl, ?_, trivial⟩, (by repeat (first | exact trivial | refine And.intro rfl ?_)), trivial, trivial, List.append_nil _, ⟨by dsimp only; omega, ?_⟩, Hp.Le.refl _, by dsimp only; omega⟩
  ·rw [wi_inc i (by omega)]; rfl
  ·dsimp only
   rw [take_snoc hqi, List.flatMap_append]
   exact hown'
 ·simp only [nN] at hlt
  obtain rfl : i = l.length := by omega
  (first | refine EVL.publishL [] ow [] ((List.append_nil _).symm) hown fun G2 hG2 hs => ?_ | refine EV.publishL [] ow [] ((List.append_nil _).symm) hown fun G2 hG2 hs => ?_)
  try refine RUN ?_
  rw [List.take_length] at hs
  exact hs
theorem sameRow_pc {H : Hp} {u v : Value} {l : List Rat} (hu : QL H u l) (hv : RL H v l) (hl : l.length ≤ 100000000) (hq : ∀ q, q ∈ l → rq q) : PC prog 73 #[u, v] H fun r _ => r = .bool true := by
 obtain ⟨a, cap, rfl⟩ := RL.val hv
 obtain ⟨b, cap', rfl⟩ := SlC.val hu
 refine BD func73 ntmps73 ?_
 try refine RUN ?_
 rw [show ((l.length : Int) != (l.length : Int)) = false by simp]
 try refine RUN ?_
 refine EV.loopK (ι := Nat) [0, 1] [] (fun i => [(5, .v (.int .i64 (i : Int)))]) (fun _ => []) (fun _ => []) (fun i G => i ≤ l.length) (fun i => l.length - i) (0) rfl rfl ⟨rfl, trivial⟩ trivial rfl (fun _ => rfl) (Nat.zero_le _) ?_
 intro i G1 hG1 hi
 try refine RUN ?_
 refine EV.cond rfl (fun hlt => ?_) (fun hlt => ?_)
 ·simp only [nN] at hlt
  obtain ⟨q, hqi⟩ : ∃ q, l[i]? = some q := ⟨_, List.getElem?_eq_getElem hlt⟩
  obtain ⟨vs, x, hs, hc, hx⟩ := (hv.mono hG1).at hqi
  obtain ⟨xa, xl, xc, ya, yl, yc, rfl, hx1, hx2⟩ := id hx
  have hqq := hq q (List.mem_of_getElem? hqi)
  try refine RUN ?_
  apply EV.drawn 9 (by kernel_rfl) (by kernel_rfl); intro xv yw
  (repeat (first | refine' DV ?_ | refine' DA ?_ | refine' DK0 ?_ | refine' DT ?_ | refine' DS ?_))
  refine' DJ.idxM tO rfl rfl rfl rfl rfl rfl rfl rfl rfl ((SlC.mono (show SlC H (.slice b l.length cap') l.length 5 (l.flatMap fun q => vlist (fracV q)) from hu) hG1)) (i) (rfl) (hlt) ((QL.at (H := G1) (v := .slice b l.length cap') hqi)) ?_; rotate_left
  (repeat (first | refine' DV ?_ | refine' DA ?_ | refine' DK0 ?_ | refine' DT ?_ | refine' DS ?_))
  refine' DJ.idxM tO rfl rfl rfl rfl rfl rfl rfl rfl rfl (hs) (i) (rfl) (hlt) (hc) ?_; rotate_left
  (repeat (first | refine' DV ?_ | refine' DA ?_ | refine' DK0 ?_ | refine' DT ?_ | refine' DS ?_))
  refine' DJ.callS rfl rfl rfl rfl rfl (cO func23) (fun G hG hd => same_yes (hx.mono hG) hqq) ?_; rotate_left
  (refine DJ.nil (fun G2 hG2 hF2 => ?_); (case hS => rfl); (case hS2 => rfl))
  try refine RUN ?_
  refine ⟨i + 1, ⟨?_, trivial⟩, (by repeat (first | exact trivial | refine And.intro rfl ?_)), trivial, trivial, rfl, hlt, hG2, by omega⟩
  rw [wi_inc i (by omega)]; rfl
 ·(try refine RUN ?_)
  rfl
end Go.Proofs.YtjifapjpgmmcnaaGreatDoor
namespace Go.Proofs.YtjifapjpgmmcnaaGreatDoor
def sumQ (l : List Rat) : Rat := l.foldl (· + ·) 0
theorem sumQ_nil : sumQ [] = 0 := rfl
theorem sumQ_snoc (l : List Rat) (x : Rat) : sumQ (l ++ [x]) = sumQ l + x := by unfold sumQ; rw [List.foldl_append]; rfl
theorem ht_sumQ (B : Nat) : ∀ (l : List Rat), (∀ q, q ∈ l → ht q ≤ B) → ht (sumQ l.reverse) ≤ 1 + (B + 1) * l.length
 | [], _ => by rw [List.reverse_nil, sumQ_nil, ht_zero]; exact Nat.le_add_right ..
 | x :: l, h => by
  have h1 := ht_sumQ B l (fun q hq => h q (List.mem_cons_of_mem _ hq))
  have h2 := h x (List.mem_cons_self ..)
  have h3 := ht_add (sumQ l.reverse) x
  rw [List.reverse_cons, sumQ_snoc, List.length_cons, Nat.mul_succ]
  omega
theorem ht_sum (B : Nat) (l : List Rat) (h : ∀ q, q ∈ l → ht q ≤ B) : ht (sumQ l) ≤ 1 + (B + 1) * l.length := by
 have := ht_sumQ B l.reverse (fun q hq => h q (List.mem_reverse.1 hq))
 rwa [List.reverse_reverse, List.length_reverse] at this
def dotL (a b : List Rat) : List Rat := List.zipWith (· * ·) a b
theorem dotL_get {a b : List Rat} {i : Nat} {x y : Rat} (h1 : a[i]? = some x) (h2 : b[i]? = some y) : (dotL a b)[i]? = some (x * y) := by
 unfold dotL; rw [List.getElem?_zipWith, h1, h2]
theorem dotL_ht {B : Nat} : ∀ {a b : List Rat}, (∀ q, q ∈ a → ht q ≤ B) → (∀ q, q ∈ b → ht q ≤ B) → ∀ q, q ∈ dotL a b → ht q ≤ B + B
 | [], _, _, _, q, hq => by simp [dotL] at hq
 | _ :: _, [], _, _, q, hq => by simp [dotL] at hq
 | x :: a, y :: b, ha, hb, q, hq => by
  rcases List.mem_cons.1 (show q ∈ x * y :: dotL a b from hq) with rfl | h
  ·have := ht_mul x y
   have h1 := ha x (List.mem_cons_self ..)
   have h2 := hb y (List.mem_cons_self ..)
   omega
  ·exact dotL_ht (fun q h => ha q (List.mem_cons_of_mem _ h)) (fun q h => hb q (List.mem_cons_of_mem _ h)) q h
def cmpL : List Rat → List Rat → Int
 | [], [] => 0
 | [], _ :: _ => -1
 | _ :: _, [] => 1
 | x :: a, y :: b => if ordR x y = 0 then cmpL a b else ordR x y
theorem cmpL_self : ∀ a : List Rat, cmpL a a = 0
 | [] => rfl
 | x :: a => by
  unfold cmpL
  rw [if_pos (by unfold ordR; rw [if_neg Rat.lt_irrefl, if_neg Rat.lt_irrefl]), cmpL_self a]
theorem drop_at {a : List Rat} {i : Nat} {x : Rat} (h : a[i]? = some x) : a.drop i = x :: a.drop (i + 1) := by
 obtain ⟨hl, rfl⟩ := List.getElem?_eq_some_iff.1 h
 exact List.drop_eq_getElem_cons hl
theorem cmpL_step {a b : List Rat} {i : Nat} {x y : Rat} (h1 : a[i]? = some x) (h2 : b[i]? = some y) : cmpL (a.drop i) (b.drop i) = if ordR x y = 0 then cmpL (a.drop (i + 1)) (b.drop (i + 1)) else ordR x y := by
 rw [drop_at h1, drop_at h2, cmpL]
theorem cmpL_long {a b : List Rat} {i : Nat} (h1 : i < a.length) (h2 : b.length ≤ i) : cmpL (a.drop i) (b.drop i) = 1 := by
 rw [List.drop_eq_nil_of_le h2, List.drop_eq_getElem_cons h1, cmpL]
theorem cmpL_short {a b : List Rat} {i : Nat} (h1 : a.length ≤ i) (h2 : i < b.length) : cmpL (a.drop i) (b.drop i) = -1 := by
 rw [List.drop_eq_nil_of_le h1, List.drop_eq_getElem_cons h2, cmpL]
theorem cmpL_end {a b : List Rat} {i : Nat} (h1 : a.length ≤ i) (h2 : b.length ≤ i) : cmpL (a.drop i) (b.drop i) = 0 := by
 rw [List.drop_eq_nil_of_le h1, List.drop_eq_nil_of_le h2, cmpL]
theorem ordR_zero' (a b : Rat) : ordR a b = 0 ↔ a = b := by
 unfold ordR
 constructor
 ·intro h; split at h
  ·omega
  ·split at h
   ·omega
   ·grind
 ·rintro rfl; rw [if_neg Rat.lt_irrefl, if_neg Rat.lt_irrefl]
theorem cmpL_len : ∀ (a b : List Rat), cmpL a b = 0 → a = b
 | [], [], _ => rfl
 | [], _ :: _, h => by simp [cmpL] at h
 | _ :: _, [], h => by simp [cmpL] at h
 | x :: a, y :: b, h => by
  unfold cmpL at h
  split at h
  ·rename_i e; rw [(ordR_zero' _ _).1 e, cmpL_len a b h]
  ·contradiction
def Rising (l : List Rat) : Prop := l.Pairwise (· ≤ ·)
theorem rising_one {l m : List Rat} (h : Rising l) (k : Rising m) (p : l.Perm m) : l = m := List.Perm.eq_of_pairwise (fun a b _ _ h1 h2 => Rat.le_antisymm h1 h2) h k p
def putAt {α : Type} (l : List α) (k : Nat) (x : α) : List α := l.take k ++ x :: l.drop k
theorem putAt_perm {α : Type} (l : List α) (k : Nat) (x : α) : (putAt l k x).Perm (l ++ [x]) := by
 unfold putAt
 refine List.perm_middle.trans ?_
 rw [List.take_append_drop]
 exact (List.perm_append_comm (l₁ := [x]) (l₂ := l))
theorem putAt_rising {l : List Rat} {k : Nat} {x : Rat} (h : Rising l) (h1 : ∀ y, y ∈ l.take k → y ≤ x) (h2 : ∀ y, y ∈ l.drop k → x ≤ y) : Rising (putAt l k x) := by
 unfold putAt Rising
 rw [List.pairwise_append]
 refine ⟨h.sublist (List.take_sublist ..), List.pairwise_cons.2 ⟨fun y hy => h2 y hy, h.sublist (List.drop_sublist ..)⟩, fun a ha b hb => ?_⟩
 rcases List.mem_cons.1 hb with rfl | hb
 ·exact h1 a ha
 ·exact Rat.le_trans (h1 a ha) (h2 b hb)
theorem rising_take {l : List Rat} {k : Nat} {x y : Rat} (h : Rising l) (hk : l[k]? = some y) (hy : y ≤ x) : ∀ z, z ∈ l.take (k + 1) → z ≤ x := fun z hz => by
 obtain ⟨hl, rfl⟩ := List.getElem?_eq_some_iff.1 hk
 rw [List.take_succ_eq_append_getElem hl] at hz
 rcases List.mem_append.1 hz with hz | hz
 ·have hp : Rising (l.take (k + 1)) := h.sublist (List.take_sublist ..)
  unfold Rising at hp
  rw [List.take_succ_eq_append_getElem hl, List.pairwise_append] at hp
  exact Rat.le_trans (hp.2.2 z hz _ (List.mem_singleton.2 rfl)) hy
 ·rw [List.mem_singleton.1 hz]; exact hy
def sortQ (l : List Rat) : List Rat := l.mergeSort fun a b => decide (a ≤ b)
theorem sortQ_perm (l : List Rat) : (sortQ l).Perm l := List.mergeSort_perm l _
theorem sortQ_rising (l : List Rat) : Rising (sortQ l) := by
 have := List.pairwise_mergeSort (le := fun a b : Rat => decide (a ≤ b)) (fun a b c h1 h2 => by simp at h1 h2 ⊢; exact Rat.le_trans h1 h2) (fun a b => by simp; exact Rat.le_total) l
 exact this.imp fun h => by simpa using h
theorem sortQ_one {l m : List Rat} (h : m.Perm l) (k : Rising m) : m = sortQ l := rising_one k (sortQ_rising l) (h.trans (sortQ_perm l).symm)
def medQ (l : List Rat) : Rat := ((sortQ l).getD ((l.length - 1) / 2) 0 + (sortQ l).getD (l.length / 2) 0) / 2
theorem med_sub {m : List Rat} (h : m.length ≠ 0) : sumQ ((m.drop ((m.length - 1) / 2)).take (m.length / 2 + 1 - (m.length - 1) / 2)) / ((((m.length / 2 + 1 - (m.length - 1) / 2 : Nat) : Int) : Int) : Rat) = (m.getD ((m.length - 1) / 2) 0 + m.getD (m.length / 2) 0) / 2 := by
 have h1 : (m.length - 1) / 2 < m.length := by omega
 have h2 : m.length / 2 < m.length := by omega
 rw [List.getD_eq_getElem?_getD, List.getD_eq_getElem?_getD, List.getElem?_eq_getElem h1, List.getElem?_eq_getElem h2, List.drop_eq_getElem_cons h1]
 by_cases hp : (m.length - 1) / 2 = m.length / 2
 ·rw [show m.length / 2 + 1 - (m.length - 1) / 2 = 0 + 1 by omega, List.take_succ_cons, List.take_zero]
  simp only [Option.getD_some]
  have e : m[(m.length - 1) / 2] = m[m.length / 2] := by congr 1
  rw [e]
  generalize m[m.length / 2] = x
  show (0 + x) / 1 = (x + x) / 2
  grind
 ·have h3 : (m.length - 1) / 2 + 1 = m.length / 2 := by omega
  have h4 : m.drop ((m.length - 1) / 2 + 1) = m[m.length / 2] :: m.drop (m.length / 2 + 1) := by rw [h3]; exact List.drop_eq_getElem_cons h2
  rw [h4, show m.length / 2 + 1 - (m.length - 1) / 2 = 0 + 1 + 1 by omega, List.take_succ_cons, List.take_succ_cons, List.take_zero]
  simp only [Option.getD_some]
  generalize m[(m.length - 1) / 2] = x
  generalize m[m.length / 2] = y
  show (0 + x + y) / 2 = (x + y) / 2
  grind
end Go.Proofs.YtjifapjpgmmcnaaGreatDoor
namespace Go.Proofs.YtjifapjpgmmcnaaGreatDoor
open Go.RowKit _root_.Go.Proofs.Tryz
def RVs (H : Hp) (vs : List Value) (l : List Rat) : Prop := vs.length = l.length ∧ ∀ (j : Nat) (x : Value) (q : Rat), vs[j]? = some x → l[j]? = some q → RQ H x q
theorem RVs.mono {H G : Hp} {vs : List Value} {l : List Rat} (h : RVs H vs l) (k : H.Le G) : RVs G vs l := ⟨h.1, fun j x q e1 e2 => (h.2 j x q e1 e2).mono k⟩
theorem RVs.nil (H : Hp) : RVs H [] [] := ⟨rfl, fun j x q h => by simp at h⟩
theorem RVs.snoc {H : Hp} {vs : List Value} {l : List Rat} {x : Value} {q : Rat} (h : RVs H vs l) (k : RQ H x q) : RVs H (vs ++ [x]) (l ++ [q]) := by
 refine ⟨by simp [h.1], fun j y r e1 e2 => ?_⟩
 rw [List.getElem?_append] at e1 e2
 by_cases hj : j < vs.length
 ·rw [if_pos hj] at e1
  rw [if_pos (by rw [← h.1]; exact hj)] at e2
  exact h.2 j y r e1 e2
 ·rw [if_neg hj] at e1
  rw [if_neg (by rw [← h.1]; exact hj)] at e2
  have := h.1
  cases hk : j - vs.length with
  | zero =>
   rw [hk] at e1; rw [← h.1, hk] at e2
   simp at e1 e2; subst e1; subst e2; exact k
  | succ m => rw [hk] at e1; simp at e1
theorem RVs.rl {H : Hp} {vs : List Value} {l : List Rat} {v : Value} (h : RVs H vs l) (hs : SlC H v l.length 3 (vs.flatMap vlist)) : RL H v l := ⟨vs, h.1, h.2, hs⟩
abbrev IL (H : Hp) (v : Value) (l : List Int) : Prop := SlN (fun z : Int => Value.int .i64 z) H v l
def rowQ (l : List Int) (n : Nat) : List Rat := (List.range n).map fun i => match l[i]? with
 | some z => rNum z
 | none => 0
theorem rowQ_len (l : List Int) (n : Nat) : (rowQ l n).length = n := by simp [rowQ]
theorem rowQ_some {l : List Int} {n i : Nat} {z : Int} (hi : i < n) (h : l[i]? = some z) : (rowQ l n)[i]? = some (rNum z) := by
 unfold rowQ; rw [List.getElem?_map, List.getElem?_range hi]; simp [h]
theorem rowQ_none {l : List Int} {n i : Nat} (hi : i < n) (h : l[i]? = none) : (rowQ l n)[i]? = some 0 := by
 unfold rowQ; rw [List.getElem?_map, List.getElem?_range hi]; simp [h]
theorem row_pc {H : Hp} {v : Value} {l : List Int} (h : IL H v l) (hb : ∀ z, z ∈ l → -9223372036854775808 ≤ z ∧ z < 9223372036854775808) (n : Nat) (hn : n ≤ 1000000) : PC prog 146 #[v, .int .i64 (n : Int)] H fun r H' => RL H' r (rowQ l n) := by
 obtain ⟨a, cap, rfl⟩ := SlC.val h
 have hz0 := fun G : Hp => refOf_pc (H := G) 0 (by omega) (by omega)
 rw [show ((0 : Int) : Rat) = 0 from rfl] at hz0
 refine BD func146 ntmps146 ?_
 try refine RUN ?_
 refine EV.loopK (ι := Nat × List Value × Value × Ows) [0, 1] [] (fun q => [(5, .v q.2.2.1), (6, .v (.int .i64 (q.1 : Int)))]) (fun _ => []) (fun q => q.2.2.2) (fun q G => q.1 ≤ n ∧ RVs G q.2.1 ((rowQ l n).take q.1) ∧ OwnL 30 3 q.2.2.1 q.1 (q.2.1.flatMap vlist) q.2.2.2) (fun q => n - q.1) ((0, [], .slice none 0 0, [])) rfl rfl ⟨rfl, rfl, trivial⟩ trivial rfl (fun _ => rfl) (⟨Nat.zero_le _, RVs.nil _, OwnL.nil _ _⟩) ?_
 rintro ⟨i, vs, w, ow⟩ G1 hG1 ⟨hi, hvs, hown⟩
 dsimp only at hi hvs hown
 try refine RUN ?_
 refine EV.cond rfl (fun hlt => ?_) (fun hlt => ?_)
 ·simp only [nN] at hlt
  try refine RUN ?_
  refine EV.cond rfl (fun hll => ?_) (fun hll => ?_)
  ·simp only [nN] at hll
   obtain ⟨z, hzi⟩ : ∃ z, l[i]? = some z := ⟨_, List.getElem?_eq_getElem hll⟩
   have hzb := hb z (List.mem_of_getElem? hzi)
   have hq := rowQ_some hlt hzi
   try refine RUN ?_
   refine EVL.idxR tO rfl rfl rfl rfl rfl rfl rfl rfl rfl rfl ((h.mono hG1)) (i) (rfl) (hll) ((by rw [List.getElem?_map, hzi]; rfl)) ?_
   try refine RUN ?_
   refine EVL.call rfl rfl rfl rfl rfl (r_pc z hzb) ?_
   rintro r G2 hr hG2
   obtain ⟨xa, xl, xc, ya, yl, yc, rfl, hx1, hx2⟩ := id hr
   try refine RUN ?_
   refine EVL.app1 tO rfl rfl rfl rfl rfl rfl rfl rfl rfl rfl rfl rfl rfl rfl rfl rfl rfl rfl rfl (fun _ => rfl) (ow) ([]) ((List.append_nil _).symm) (hown) (by omega) fun _ => ?_
   intro v' ow' hown'
   try refine RUN ?_
   refine ⟨(i + 1, vs ++ [_], v', ow'), ⟨rfl, ?_, trivial⟩, (by repeat (first | exact trivial | refine And.intro rfl ?_)), trivial, trivial, List.append_nil _, ⟨hlt, by rw [take_snoc hq]; exact (hvs.mono hG2).snoc hr, ?_⟩, hG2, by dsimp only; omega⟩
   ·rw [wi_inc i (by omega)]; rfl
   ·dsimp only
    rw [List.flatMap_append]
    exact hown'
  ·simp only [nN] at hll
   have hzi : l[i]? = none := List.getElem?_eq_none (by omega)
   have hq := rowQ_none hlt hzi
   try refine RUN ?_
   refine EVL.call rfl rfl rfl rfl rfl (hz0 _) ?_
   rintro r G2 hr hG2
   obtain ⟨xa, xl, xc, ya, yl, yc, rfl, hx1, hx2⟩ := id hr
   try refine RUN ?_
   refine EVL.app1 tO rfl rfl rfl rfl rfl rfl rfl rfl rfl rfl rfl rfl rfl rfl rfl rfl rfl rfl rfl (fun _ => rfl) (ow) ([]) ((List.append_nil _).symm) (hown) (by omega) fun _ => ?_
   intro v' ow' hown'
   try refine RUN ?_
   refine ⟨(i + 1, vs ++ [_], v', ow'), ⟨rfl, ?_, trivial⟩, (by repeat (first | exact trivial | refine And.intro rfl ?_)), trivial, trivial, List.append_nil _, ⟨hlt, by rw [take_snoc hq]; exact (hvs.mono hG2).snoc hr, ?_⟩, hG2, by dsimp only; omega⟩
   ·rw [wi_inc i (by omega)]; rfl
   ·dsimp only
    rw [List.flatMap_append]
    exact hown'
 ·simp only [nN] at hlt
  obtain rfl : i = n := by omega
  (first | refine EVL.publishL [] ow [] ((List.append_nil _).symm) hown fun G2 hG2 hs => ?_ | refine EV.publishL [] ow [] ((List.append_nil _).symm) hown fun G2 hG2 hs => ?_)
  try refine RUN ?_
  have e : (rowQ l i).take i = rowQ l i := List.take_of_length_le (by rw [rowQ_len]; exact Nat.le_refl _)
  rw [e] at hvs
  exact (hvs.mono hG2).rl (by rw [rowQ_len]; exact hs)
theorem agg3 {a b c a' b' c' : Value} (e : Value.agg #[a, b, c] = .agg #[a', b', c']) : a = a' ∧ b = b' ∧ c = c' := by
 simp only [Value.agg.injEq, Array.mk.injEq, List.cons.injEq, and_true] at e
 exact e
theorem refTotal_pc {H : Hp} {v : Value} {l : List Rat} (h : RL H v l) (hl : l.length ≤ 100000) (hb : ∀ q, q ∈ l → ht q ≤ 100) : PC prog 72 #[v] H fun r H' => RQ H' r (sumQ l) := by
 obtain ⟨a, cap, rfl⟩ := RL.val h
 have hz0 := fun G : Hp => refOf_pc (H := G) 0 (by omega) (by omega)
 rw [show ((0 : Int) : Rat) = 0 from rfl] at hz0
 refine BD func72 ntmps72 ?_
 try refine RUN ?_
 refine EVL.call rfl rfl rfl rfl rfl (hz0 _) ?_
 rintro r G0 hr hG0
 obtain ⟨xa, xl, xc, ya, yl, yc, rfl, hx1, hx2⟩ := id hr
 try refine RUN ?_
 refine EV.loopK (ι := Nat × Value × Value × Value) [0, 2, 3] [2] (fun q => [(4, .v (.int .i64 (q.1 : Int)))]) (fun q => [(3, 30, [q.2.1, q.2.2.1, q.2.2.2])]) (fun _ => []) (fun q G => q.1 ≤ l.length ∧ G0.Le G ∧ RQ G (.agg #[q.2.1, q.2.2.1, q.2.2.2]) (sumQ (l.take q.1))) (fun q => l.length - q.1) ((0, _, _, _)) rfl rfl ⟨rfl, trivial⟩ ⟨rfl, trivial⟩ rfl (fun _ => rfl) (⟨Nat.zero_le _, Hp.Le.refl _, hr⟩) ?_
 rintro ⟨i, c1, c2, c3⟩ G1 hG1 ⟨hi, hG01, hs⟩
 dsimp only at hi hs hG01
 try refine RUN ?_
 refine EV.cond rfl (fun hlt => ?_) (fun hlt => ?_)
 ·simp only [nN] at hlt
  obtain ⟨q, hqi⟩ : ∃ q, l[i]? = some q := ⟨_, List.getElem?_eq_getElem hlt⟩
  obtain ⟨vs, x, hsl, hc, hx⟩ := (h.mono (hG0.trans hG01)).at hqi
  obtain ⟨xa', xl', xc', ya', yl', yc', rfl, hx1', hx2'⟩ := id hx
  have hqb := hb q (List.mem_of_getElem? hqi)
  have hsb := ht_sum 100 (l.take i) (fun q hq => hb q (List.mem_of_mem_take hq))
  rw [List.length_take, Nat.min_eq_left hi] at hsb
  have qs : rq (sumQ (l.take i)) := Nat.le_trans hsb (by omega)
  have qq : rq q := Nat.le_trans hqb (by omega)
  try refine RUN ?_
  apply EV.drawn 6 (by kernel_rfl) (by kernel_rfl); intro xv yw
  (repeat (first | refine' DV ?_ | refine' DA ?_ | refine' DK0 ?_ | refine' DT ?_ | refine' DS ?_))
  refine' DJ.idxM tO rfl rfl rfl rfl rfl rfl rfl rfl rfl (hsl) (i) (rfl) (hlt) (hc) ?_; rotate_left
  (repeat (first | refine' DV ?_ | refine' DA ?_ | refine' DK0 ?_ | refine' DT ?_ | refine' DS ?_))
  refine' DJ.call rfl rfl rfl rfl rfl (cO func46) (fun G hG hd => refAdd_pc (hs.mono hG) (hx.mono hG) qs qq) (fun _ _ _ h k => RQ.mono h k) ?_; rotate_left
  (refine DJ.nil (fun G2 hG2 hF2 => ?_); (case hS => rfl); (case hS2 => rfl))
  have hR := hF2.1
  rw [← sumQ_snoc, ← take_snoc hqi] at hR
  obtain ⟨_, _, _, _, _, _, e, _, _⟩ := id hR
  rw [e] at hR ⊢
  try refine RUN ?_
  refine ⟨(i + 1, _, _, _), ⟨?_, trivial⟩, (by repeat (first | exact trivial | refine And.intro rfl ?_)), ⟨rfl, trivial⟩, (by repeat (first | exact trivial | refine And.intro rfl ?_)), rfl, ⟨hlt, hG01.trans hG2, hR⟩, hG2, by dsimp only; omega⟩
  rw [wi_inc i (by omega)]; rfl
 ·simp only [nN] at hlt
  obtain rfl : i = l.length := by omega
  rw [List.take_length] at hs
  obtain ⟨_, _, _, _, _, _, e, _, _⟩ := id hs
  obtain ⟨rfl, rfl, rfl⟩ := agg3 e
  try refine RUN ?_
  exact hs
theorem ht_len {n : Nat} (h : n ≤ 100000) : ht ((n : Int) : Rat) ≤ 20 := by
 have := ht_int (n : Int)
 have h2 : bl (n : Int).natAbs ≤ 17 := bl_le (by omega)
 omega
theorem refMean_pc {H : Hp} {v : Value} {l : List Rat} (h : RL H v l) (hl : l.length ≤ 100000) (h0 : l.length ≠ 0) (hb : ∀ q, q ∈ l → ht q ≤ 100) : PC prog 80 #[v] H fun r H' => RQ H' r (sumQ l / ((l.length : Int) : Rat)) := by
 obtain ⟨a, cap, rfl⟩ := RL.val h
 have hs := ht_sum 100 l hb
 have hln := ht_len hl
 have hof := fun G : Hp => refOf_pc (H := G) (l.length : Int) (by omega) (by omega)
 refine BD func80 ntmps80 ?_
 try refine RUN ?_
 refine EVL.call rfl rfl rfl rfl rfl (refTotal_pc h hl hb) ?_
 rintro r1 G1 h1 hG1
 try refine RUN ?_
 refine EVL.call rfl rfl rfl rfl rfl (hof _) ?_
 rintro r2 G2 h2 hG2
 try refine RUN ?_
 refine EVL.call rfl rfl rfl rfl rfl (refDivQ_pc (h1.mono hG2) h2 (Nat.le_trans hs (by omega)) (Nat.le_trans hln (by omega)) (by show (l.length : Int) ≠ 0; omega)) ?_
 rintro r3 G3 ⟨_, _, _, _, _, _, rfl, d1, d2⟩ _
 try refine RUN ?_
 exact ⟨_, _, _, _, _, _, rfl, d1, d2⟩
theorem refDot_pc {H : Hp} {u v : Value} {l m : List Rat} (hu : RL H u l) (hv : RL H v m) (hlm : l.length = m.length) (hl : l.length ≤ 100000) (hb : ∀ q, q ∈ l → ht q ≤ 50) (hb' : ∀ q, q ∈ m → ht q ≤ 50) : PC prog 85 #[u, v] H fun r H' => RQ H' r (sumQ (dotL l m)) := by
 obtain ⟨a, cap, rfl⟩ := RL.val hu
 obtain ⟨b, cap', rfl⟩ := RL.val hv
 have hdl : (dotL l m).length = l.length := by unfold dotL; rw [List.length_zipWith]; omega
 have hdh := dotL_ht hb hb'
 have hz0 := fun G : Hp => refOf_pc (H := G) 0 (by omega) (by omega)
 rw [show ((0 : Int) : Rat) = 0 from rfl] at hz0
 refine BD func85 ntmps85 ?_
 try refine RUN ?_
 refine EVL.call rfl rfl rfl rfl rfl (hz0 _) ?_
 rintro r G0 hr hG0
 obtain ⟨xa, xl, xc, ya, yl, yc, rfl, hx1, hx2⟩ := id hr
 try refine RUN ?_
 refine EV.loopK (ι := Nat × Value × Value × Value) [0, 1, 4, 5] [4] (fun q => [(6, .v (.int .i64 (q.1 : Int)))]) (fun q => [(5, 30, [q.2.1, q.2.2.1, q.2.2.2])]) (fun _ => []) (fun q G => q.1 ≤ l.length ∧ G0.Le G ∧ RQ G (.agg #[q.2.1, q.2.2.1, q.2.2.2]) (sumQ ((dotL l m).take q.1))) (fun q => l.length - q.1) ((0, _, _, _)) rfl rfl ⟨rfl, trivial⟩ ⟨rfl, trivial⟩ rfl (fun _ => rfl) (⟨Nat.zero_le _, Hp.Le.refl _, hr⟩) ?_
 rintro ⟨i, c1, c2, c3⟩ G1 hG1 ⟨hi, hG01, hs⟩
 dsimp only at hi hs hG01
 try refine RUN ?_
 refine EV.cond rfl (fun hlt => ?_) (fun hlt => ?_)
 ·simp only [nN] at hlt
  obtain ⟨q, hqi⟩ : ∃ q, l[i]? = some q := ⟨_, List.getElem?_eq_getElem hlt⟩
  obtain ⟨q', hqi'⟩ : ∃ q, m[i]? = some q := ⟨_, List.getElem?_eq_getElem (hlm ▸ hlt)⟩
  obtain ⟨vs, x, hsl, hc, hx⟩ := (hu.mono (hG0.trans hG01)).at hqi
  obtain ⟨xa', xl', xc', ya', yl', yc', rfl, hx1', hx2'⟩ := id hx
  obtain ⟨vs2, x2, hsl2, hc2, hy⟩ := (hv.mono (hG0.trans hG01)).at hqi'
  obtain ⟨xa'', xl'', xc'', ya'', yl'', yc'', rfl, hy1', hy2'⟩ := id hy
  have hqb := hb q (List.mem_of_getElem? hqi)
  have hqb' := hb' q' (List.mem_of_getElem? hqi')
  have hqd := dotL_get hqi hqi'
  have hsb := ht_sum 100 ((dotL l m).take i) (fun q hq => hdh q (List.mem_of_mem_take hq))
  rw [List.length_take, Nat.min_eq_left (by omega)] at hsb
  have qs : rq (sumQ ((dotL l m).take i)) := Nat.le_trans hsb (by omega)
  have hm := ht_mul q q'
  have qq : rq (q * q') := Nat.le_trans hm (by omega)
  try refine RUN ?_
  apply EV.drawn 11 (by kernel_rfl) (by kernel_rfl); intro xv yw
  (repeat (first | refine' DV ?_ | refine' DA ?_ | refine' DK0 ?_ | refine' DT ?_ | refine' DS ?_))
  refine' DJ.idxM tO rfl rfl rfl rfl rfl rfl rfl rfl rfl (hsl) (i) (rfl) (hlt) (hc) ?_; rotate_left
  (repeat (first | refine' DV ?_ | refine' DA ?_ | refine' DK0 ?_ | refine' DT ?_ | refine' DS ?_))
  refine' DJ.idxM tO rfl rfl rfl rfl rfl rfl rfl rfl rfl (hsl2) (i) (rfl) ((hlm ▸ hlt)) (hc2) ?_; rotate_left
  (repeat (first | refine' DV ?_ | refine' DA ?_ | refine' DK0 ?_ | refine' DT ?_ | refine' DS ?_))
  refine' DJ.call rfl rfl rfl rfl rfl (cO func48) (fun G hG hd => refMulQ_pc (hx.mono hG) (hy.mono hG) (Nat.le_trans hqb (by omega)) (Nat.le_trans hqb' (by omega))) (fun _ _ _ h k => RQ.mono h k) ?_; rotate_left
  refine' DJ.call rfl rfl rfl rfl rfl (cO func46) (fun G hG hd => refAdd_pc (hs.mono hG) (hd.head (by kernel_rfl)) qs qq) (fun _ _ _ h k => RQ.mono h k) ?_; rotate_left
  (refine DJ.nil (fun G2 hG2 hF2 => ?_); (case hS => rfl); (case hS2 => rfl))
  have hR := hF2.1
  rw [← sumQ_snoc, ← take_snoc hqd] at hR
  obtain ⟨_, _, _, _, _, _, e, _, _⟩ := id hR
  rw [e] at hR ⊢
  try refine RUN ?_
  refine ⟨(i + 1, _, _, _), ⟨?_, trivial⟩, (by repeat (first | exact trivial | refine And.intro rfl ?_)), ⟨rfl, trivial⟩, (by repeat (first | exact trivial | refine And.intro rfl ?_)), rfl, ⟨hlt, hG01.trans hG2, hR⟩, hG2, by dsimp only; omega⟩
  rw [wi_inc i (by omega)]; rfl
 ·simp only [nN] at hlt
  obtain rfl : i = l.length := by omega
  rw [show (dotL l m).take l.length = dotL l m by rw [← hdl, List.take_length]] at hs
  obtain ⟨_, _, _, _, _, _, e, _, _⟩ := id hs
  obtain ⟨rfl, rfl, rfl⟩ := agg3 e
  try refine RUN ?_
  exact hs
theorem refSame_pc {H : Hp} {u v : Value} {l m : List Rat} (hu : RL H u l) (hv : RL H v m) (hl : l.length ≤ 100000) (hm : m.length ≤ 100000) (hb : ∀ q, q ∈ l → rq q) (hb' : ∀ q, q ∈ m → rq q) : PC prog 77 #[u, v] H fun r _ => r = .bool (decide (l = m)) := by
 obtain ⟨a, cap, rfl⟩ := RL.val hu
 obtain ⟨b, cap', rfl⟩ := RL.val hv
 refine BD func77 ntmps77 ?_
 try refine RUN ?_
 by_cases hlm : l.length = m.length
 case neg =>
  rw [show ((l.length : Int) != (m.length : Int)) = true by simp; omega]
  try refine RUN ?_
  rw [decide_eq_false (fun e => hlm (by rw [e]))]
 rw [show ((l.length : Int) != (m.length : Int)) = false by simp; omega]
 try refine RUN ?_
 refine EV.loopK (ι := Nat) [0, 1] [] (fun i => [(5, .v (.int .i64 (i : Int)))]) (fun _ => []) (fun _ => []) (fun i G => i ≤ l.length ∧ l.take i = m.take i) (fun i => l.length - i) (0) rfl rfl ⟨rfl, trivial⟩ trivial rfl (fun _ => rfl) (⟨Nat.zero_le _, rfl⟩) ?_
 rintro i G1 hG1 ⟨hi, hpre⟩
 try refine RUN ?_
 refine EV.cond rfl (fun hlt => ?_) (fun hlt => ?_)
 ·simp only [nN] at hlt
  obtain ⟨q, hqi⟩ : ∃ q, l[i]? = some q := ⟨_, List.getElem?_eq_getElem hlt⟩
  obtain ⟨q', hqi'⟩ : ∃ q, m[i]? = some q := ⟨_, List.getElem?_eq_getElem (hlm ▸ hlt)⟩
  obtain ⟨vs, x, hsl, hc, hx⟩ := (hu.mono hG1).at hqi
  obtain ⟨xa', xl', xc', ya', yl', yc', rfl, hx1', hx2'⟩ := id hx
  obtain ⟨vs2, x2, hsl2, hc2, hy⟩ := (hv.mono hG1).at hqi'
  obtain ⟨xa'', xl'', xc'', ya'', yl'', yc'', rfl, hy1', hy2'⟩ := id hy
  have qq := hb q (List.mem_of_getElem? hqi)
  have qq' := hb' q' (List.mem_of_getElem? hqi')
  have hoz := ordR_zero' q q'
  have hcmp := fun G (hG : G1.Le G) => refCmp_pc (hx.mono hG) (hy.mono hG) qq qq'
  generalize ordR q q' = o at *
  try refine RUN ?_
  apply EV.drawn 9 (by kernel_rfl) (by kernel_rfl); intro xv yw
  (repeat (first | refine' DV ?_ | refine' DA ?_ | refine' DK0 ?_ | refine' DT ?_ | refine' DS ?_))
  refine' DJ.idxM tO rfl rfl rfl rfl rfl rfl rfl rfl rfl (hsl) (i) (rfl) (hlt) (hc) ?_; rotate_left
  (repeat (first | refine' DV ?_ | refine' DA ?_ | refine' DK0 ?_ | refine' DT ?_ | refine' DS ?_))
  refine' DJ.idxM tO rfl rfl rfl rfl rfl rfl rfl rfl rfl (hsl2) (i) (rfl) ((hlm ▸ hlt)) (hc2) ?_; rotate_left
  (repeat (first | refine' DV ?_ | refine' DA ?_ | refine' DK0 ?_ | refine' DT ?_ | refine' DS ?_))
  refine' DJ.callS rfl rfl rfl rfl rfl (cO func49) (fun G hG hd => hcmp G hG) ?_; rotate_left
  (refine DJ.nil (fun G2 hG2 hF2 => ?_); (case hS => rfl); (case hS2 => rfl))
  try refine RUN ?_
  by_cases ho : o = 0
  ·rw [show (o != 0) = false by simp [ho]]
   try refine RUN ?_
   refine ⟨i + 1, ⟨?_, trivial⟩, (by repeat (first | exact trivial | refine And.intro rfl ?_)), trivial, trivial, rfl, ⟨hlt, by rw [take_snoc hqi, take_snoc hqi', hpre, hoz.1 ho]⟩, hG2, by omega⟩
   rw [wi_inc i (by omega)]; rfl
  ·rw [show (o != 0) = true by simp [ho]]
   try refine RUN ?_
   rw [decide_eq_false (fun e => ho (hoz.2 (by rw [e] at hqi; rw [hqi] at hqi'; exact Option.some.inj hqi')))]
 ·simp only [nN] at hlt
  obtain rfl : i = l.length := by omega
  try refine RUN ?_
  rw [List.take_length, hlm, List.take_length] at hpre
  rw [decide_eq_true hpre]
def kb (z : Int) : Nat := (max 0 (min z 256)).toNat
theorem ht_divInt (n d : Int) (h : d ≠ 0) : ht (Rat.divInt n d) ≤ max (bl n.natAbs) (bl d.natAbs) := by
 rw [divInt_mk n d h]
 refine Nat.le_trans (ht_mk _ _ (by omega)) ?_
 have : (if d < 0 then -n else n).natAbs = n.natAbs := by split <;> simp
 rw [this]; exact Nat.le_refl _
theorem ht_rNum (z : Int) : ht (rNum z) ≤ 5 := by
 unfold rNum
 have hrd := rDen_range (z.tdiv 41 % 6).toNat
 have m1 := Int.emod_nonneg z (show (41 : Int) ≠ 0 by omega)
 have m2 := Int.emod_lt_of_pos z (show (0 : Int) < 41 by omega)
 refine Nat.le_trans (ht_divInt _ _ (by omega)) (Nat.max_le.2 ⟨bl_le (by omega), bl_le (by omega)⟩)
theorem same_self {H : Hp} {w : Value} {p : Rat} (hw : RQ H w p) (hp : rq p) : PC prog 23 #[fracV p, w] H fun r _ => r = .bool true := by
 have := same_pc hw hp hp
 rwa [decide_eq_true rfl] at this
theorem rq_small {q : Rat} {k : Nat} (h : ht q ≤ k) (hk : k ≤ 100000000) : rq q := Nat.le_trans h hk
section
variable {P : Program} {n : Nat} {ops : Array Oper} {o : Oper} {rest : List Oper} {env : Env} {bx : Bxs} {H : Hs} {Q : EQ} {τ : Tab} {d : Nat}
end
theorem fracV_zero : fracV 0 = .agg #[.bool false, .int .u64 0, .string ⟨#[]⟩, .int .u64 0, .string ⟨#[]⟩] := by
 show frV 0 0 = _
 rw [frV_zero, show (0 : Int).natAbs = 0 from rfl, moreB_empty (n := 0) (by decide)]; rfl
theorem cmpL_neg {l m : List Rat} {i : Nat} (h : cmpL l m = cmpL (l.drop i) (m.drop i)) (h1 : ¬ (i < l.length ∧ i < m.length)) (h2 : i ≤ l.length) (h3 : i ≤ m.length) : decide (cmpL l m < 0) = decide ((l.length : Int) < (m.length : Int)) := by
 rw [h]
 by_cases c1 : i < l.length
 ·have c2 : m.length ≤ i := by omega
  rw [cmpL_long c1 c2, decide_eq_false (by omega), decide_eq_false (by omega)]
 ·by_cases c2 : i < m.length
  ·rw [cmpL_short (by omega) c2, decide_eq_true (by omega), decide_eq_true (by omega)]
  ·rw [cmpL_end (by omega) (by omega), decide_eq_false (by omega), decide_eq_false (by omega)]
theorem refLess_pc {H : Hp} {u v : Value} {l m : List Rat} (hu : RL H u l) (hv : RL H v m) (hl : l.length ≤ 100000) (hm : m.length ≤ 100000) (hb : ∀ q, q ∈ l → rq q) (hb' : ∀ q, q ∈ m → rq q) : PC prog 79 #[u, v] H fun r _ => r = .bool (decide (cmpL l m < 0)) := by
 obtain ⟨a, cap, rfl⟩ := RL.val hu
 obtain ⟨b, cap', rfl⟩ := RL.val hv
 refine BD func79 ntmps79 ?_
 try refine RUN ?_
 refine EV.loopK (ι := Nat) [0, 1] [] (fun i => [(5, .v (.int .i64 (i : Int)))]) (fun _ => []) (fun _ => []) (fun i G => i ≤ l.length ∧ i ≤ m.length ∧ cmpL l m = cmpL (l.drop i) (m.drop i)) (fun i => l.length - i) (0) rfl rfl ⟨rfl, trivial⟩ trivial rfl (fun _ => rfl) (⟨Nat.zero_le _, Nat.zero_le _, by rw [List.drop_zero, List.drop_zero]⟩) ?_
 rintro i G1 hG1 ⟨hi, hi', hpre⟩
 by_cases hin : i < l.length ∧ i < m.length
 ·obtain ⟨hlt, hlt'⟩ := hin
  obtain ⟨q, hqi⟩ : ∃ q, l[i]? = some q := ⟨_, List.getElem?_eq_getElem hlt⟩
  obtain ⟨q', hqi'⟩ : ∃ q, m[i]? = some q := ⟨_, List.getElem?_eq_getElem hlt'⟩
  obtain ⟨vs, x, hsl, hc, hx⟩ := (hu.mono hG1).at hqi
  obtain ⟨xa', xl', xc', ya', yl', yc', rfl, hx1', hx2'⟩ := id hx
  obtain ⟨vs2, x2, hsl2, hc2, hy⟩ := (hv.mono hG1).at hqi'
  obtain ⟨xa'', xl'', xc'', ya'', yl'', yc'', rfl, hy1', hy2'⟩ := id hy
  have qq := hb q (List.mem_of_getElem? hqi)
  have qq' := hb' q' (List.mem_of_getElem? hqi')
  rw [cmpL_step hqi hqi'] at hpre
  have hcmp := fun G (hG : G1.Le G) => refCmp_pc (hx.mono hG) (hy.mono hG) qq qq'
  generalize ordR q q' = o at *
  try refine RUN ?_
  rw [decide_eq_true (show (i : Int) < (l.length : Int) by omega)]
  try refine RUN ?_
  rw [decide_eq_true (show (i : Int) < (m.length : Int) by omega)]
  try refine RUN ?_
  apply EV.drawn 9 (by kernel_rfl) (by kernel_rfl); intro xv yw
  (repeat (first | refine' DV ?_ | refine' DA ?_ | refine' DK0 ?_ | refine' DT ?_ | refine' DS ?_))
  refine' DJ.idxM tO rfl rfl rfl rfl rfl rfl rfl rfl rfl (hsl) (i) (rfl) (hlt) (hc) ?_; rotate_left
  (repeat (first | refine' DV ?_ | refine' DA ?_ | refine' DK0 ?_ | refine' DT ?_ | refine' DS ?_))
  refine' DJ.idxM tO rfl rfl rfl rfl rfl rfl rfl rfl rfl (hsl2) (i) (rfl) (hlt') (hc2) ?_; rotate_left
  (repeat (first | refine' DV ?_ | refine' DA ?_ | refine' DK0 ?_ | refine' DT ?_ | refine' DS ?_))
  refine' DJ.callS rfl rfl rfl rfl rfl (cO func49) (fun G hG hd => hcmp G hG) ?_; rotate_left
  (refine DJ.nil (fun G2 hG2 hF2 => ?_); (case hS => rfl); (case hS2 => rfl))
  try refine RUN ?_
  by_cases ho : o = 0
  ·rw [if_pos ho] at hpre
   rw [show (o != 0) = false by simp [ho]]
   try refine RUN ?_
   refine ⟨i + 1, ⟨?_, trivial⟩, (by repeat (first | exact trivial | refine And.intro rfl ?_)), trivial, trivial, rfl, ⟨hlt, hlt', hpre⟩, hG2, by omega⟩
   rw [wi_inc i (by omega)]; rfl
  ·rw [if_neg ho] at hpre
   rw [show (o != 0) = true by simp [ho]]
   try refine RUN ?_
   rw [hpre]
 ·have hend := cmpL_neg hpre hin hi hi'
  try refine RUN ?_
  by_cases c1 : i < l.length
  ·rw [decide_eq_true (show (i : Int) < (l.length : Int) by omega)]
   try refine RUN ?_
   rw [decide_eq_false (show ¬ (i : Int) < (m.length : Int) by omega)]
   try refine RUN ?_
   rw [hend]
  ·rw [decide_eq_false (show ¬ (i : Int) < (l.length : Int) by omega)]
   try refine RUN ?_
   rw [hend]
theorem frac_zero_cells : vlist (fracV 0) = [.bool false, .int .u64 0, .string ⟨#[]⟩, .int .u64 0, .string ⟨#[]⟩] := by rw [fracV_zero]; rfl
theorem sm_of {q : Rat} {n : Nat} (h : ht q ≤ n) (hn : n ≤ 100000000) : sm q := Nat.le_trans h hn
theorem sum_pc {H : Hp} {v : Value} {l : List Rat} (h : QL H v l) (hl : l.length ≤ 100000) (hb : ∀ q, q ∈ l → ht q ≤ 100) : PC prog 71 #[v] H fun r _ => r = fracV (sumQ l) := by
 obtain ⟨a, cap, rfl⟩ := SlC.val h
 have hz : vlist (fracV (sumQ (l.take 0))) = [.bool false, .int .u64 0, .string ⟨#[]⟩, .int .u64 0, .string ⟨#[]⟩] := frac_zero_cells
 refine BD func71 ntmps71 ?_
 try refine RUN ?_
 refine EV.loopK (ι := Nat) [2, 3, 6, 7] [2] (fun i => [(8, .v (.int .i64 (i : Int)))]) (fun i => [(3, 45, vlist (fracV (sumQ (l.take i))))]) (fun _ => []) (fun i G => i ≤ l.length) (fun i => l.length - i) (0) rfl rfl ⟨rfl, trivial⟩ ⟨by rw [hz]; rfl, trivial⟩ rfl (fun _ => rfl) (Nat.zero_le _) ?_
 intro i G1 hG1 hi
 try refine RUN ?_
 refine EV.cond rfl (fun hlt => ?_) (fun hlt => ?_)
 ·simp only [nN] at hlt
  obtain ⟨q, hqi⟩ : ∃ q, l[i]? = some q := ⟨_, List.getElem?_eq_getElem hlt⟩
  have hqb := hb q (List.mem_of_getElem? hqi)
  have hsb := ht_sum 100 (l.take i) (fun q hq => hb q (List.mem_of_mem_take hq))
  rw [List.length_take, Nat.min_eq_left hi] at hsb
  have hadd := add_pv (sumQ (l.take i)) q (sm_of hsb (by omega)) (sm_of hqb (by omega))
  rw [← sumQ_snoc, ← take_snoc hqi] at hadd
  try refine RUN ?_
  refine EVL.idxM tO rfl rfl rfl rfl rfl rfl rfl rfl rfl ((SlC.mono (show SlC H (.slice a l.length cap) l.length 5 (l.flatMap fun q => vlist (fracV q)) from h) hG1)) (i) (rfl) (hlt) ((QL.at (H := H) (v := .slice a l.length cap) hqi)) ?_
  repeat (first | refine RUN ?_ | refine CV (hadd) ?_ | refine CE (hadd) ?_)
  refine ⟨i + 1, ⟨?_, trivial⟩, (by repeat (first | exact trivial | refine And.intro rfl ?_)), ⟨rfl, trivial⟩, (by repeat (first | exact trivial | refine And.intro rfl ?_)), rfl, hlt, Hp.Le.refl _, by omega⟩
  rw [wi_inc i (by omega)]; rfl
 ·simp only [nN] at hlt
  obtain rfl : i = l.length := by omega
  rw [List.take_length]
  try refine RUN ?_
  rfl
theorem mean_pc {H : Hp} {v : Value} {l : List Rat} (h : QL H v l) (hl : l.length ≤ 100000) (h0 : l.length ≠ 0) (hb : ∀ q, q ∈ l → ht q ≤ 100) : PC prog 68 #[v] H fun r _ => r = .tuple #[fracV (sumQ l / ((l.length : Int) : Rat)), .bool true] := by
 obtain ⟨a, cap, rfl⟩ := SlC.val h
 have hs := ht_sum 100 l hb
 have hln := ht_len hl
 have hsum := sum_pc h hl hb
 have hof := of_pv (l.length : Int) (by omega) (by omega)
 have hd := div_pv (sumQ l) ((l.length : Int) : Rat) (sm_of hs (by omega)) (sm_of hln (by omega)) (by intro e; have : ((l.length : Int) : Rat) = ((0 : Int) : Rat) := e; exact h0 (by have := Rat.intCast_inj.1 this; omega))
 refine BD func68 ntmps68 ?_
 repeat (first | refine RUN ?_ | refine CV (hsum) ?_ | refine CV (hof) ?_ | refine CV (hd) ?_ | refine CE (hsum) ?_ | refine CE (hof) ?_ | refine CE (hd) ?_)
 rfl
theorem mean_no {H : Hp} {v : Value} (h : QL H v []) : PC prog 68 #[v] H fun r _ => r = .tuple #[fracV 0, .bool false] := by
 obtain ⟨a, cap, rfl⟩ := SlC.val h
 have hsum := sum_pc h (Nat.zero_le _) (by intro q hq; cases hq)
 have hof := of_pv 0 (by omega) (by omega)
 rw [show ((0 : Int) : Rat) = 0 from rfl] at hof
 have hd := div_zero_pv 0
 refine BD func68 ntmps68 ?_
 repeat (first | refine RUN ?_ | refine CV (hsum) ?_ | refine CV (hof) ?_ | refine CV (hd) ?_ | refine CE (hsum) ?_ | refine CE (hof) ?_ | refine CE (hd) ?_)
 rfl
theorem dot_pc {H : Hp} {u v : Value} {l m : List Rat} (hu : QL H u l) (hv : QL H v m) (hlm : l.length = m.length) (hl : l.length ≤ 100000) (hb : ∀ q, q ∈ l → ht q ≤ 50) (hb' : ∀ q, q ∈ m → ht q ≤ 50) : PC prog 69 #[u, v] H fun r _ => r = .tuple #[fracV (sumQ (dotL l m)), .bool true] := by
 obtain ⟨a, cap, rfl⟩ := SlC.val hu
 obtain ⟨b, cap', rfl⟩ := SlC.val hv
 have hdl : (dotL l m).length = l.length := by unfold dotL; rw [List.length_zipWith]; omega
 have hdh := dotL_ht hb hb'
 have hz : vlist (fracV (sumQ ((dotL l m).take 0))) = [.bool false, .int .u64 0, .string ⟨#[]⟩, .int .u64 0, .string ⟨#[]⟩] := frac_zero_cells
 refine BD func69 ntmps69 ?_
 try refine RUN ?_
 rw [show ((l.length : Int) != (m.length : Int)) = false by simp; omega]
 try refine RUN ?_
 refine EV.loopK (ι := Nat) [1, 4, 6, 15, 16] [4] (fun i => [(17, .v (.int .i64 (i : Int)))]) (fun i => [(6, 45, vlist (fracV (sumQ ((dotL l m).take i))))]) (fun _ => []) (fun i G => i ≤ l.length) (fun i => l.length - i) (0) rfl rfl ⟨rfl, trivial⟩ ⟨by rw [hz]; rfl, trivial⟩ rfl (fun _ => rfl) (Nat.zero_le _) ?_
 intro i G1 hG1 hi
 try refine RUN ?_
 refine EV.cond rfl (fun hlt => ?_) (fun hlt => ?_)
 ·simp only [nN] at hlt
  obtain ⟨q, hqi⟩ : ∃ q, l[i]? = some q := ⟨_, List.getElem?_eq_getElem hlt⟩
  obtain ⟨q', hqi'⟩ : ∃ q, m[i]? = some q := ⟨_, List.getElem?_eq_getElem (hlm ▸ hlt)⟩
  have hqb := hb q (List.mem_of_getElem? hqi)
  have hqb' := hb' q' (List.mem_of_getElem? hqi')
  have hqd := dotL_get hqi hqi'
  have hsb := ht_sum 100 ((dotL l m).take i) (fun q hq => hdh q (List.mem_of_mem_take hq))
  rw [List.length_take, Nat.min_eq_left (by omega)] at hsb
  have hm := ht_mul q q'
  have hmul := mul_pv q q' (sm_of hqb (by omega)) (sm_of hqb' (by omega))
  have hadd := add_pv (sumQ ((dotL l m).take i)) (q * q') (sm_of hsb (by omega)) (sm_of hm (by omega))
  rw [← sumQ_snoc, ← take_snoc hqd] at hadd
  try refine RUN ?_
  refine EVL.idxM tO rfl rfl rfl rfl rfl rfl rfl rfl rfl ((SlC.mono (show SlC H (.slice a l.length cap) l.length 5 (l.flatMap fun q => vlist (fracV q)) from hu) hG1)) (i) (rfl) (hlt) ((QL.at (H := H) (v := .slice a l.length cap) hqi)) ?_
  try refine RUN ?_
  apply EV.drawn 8 (by kernel_rfl) (by kernel_rfl); intro xv yw
  (repeat (first | refine' DV ?_ | refine' DA ?_ | refine' DK0 ?_ | refine' DT ?_ | refine' DS ?_))
  refine' DJ.idxM tO rfl rfl rfl rfl rfl rfl rfl rfl rfl ((SlC.mono (show SlC H (.slice b m.length cap') m.length 5 (m.flatMap fun q => vlist (fracV q)) from hv) hG1)) (i) (rfl) ((hlm ▸ hlt)) ((QL.at (H := H) (v := .slice b m.length cap') hqi')) ?_; rotate_left
  (repeat (first | refine' DV ?_ | refine' DA ?_ | refine' DK0 ?_ | refine' DT ?_ | (refine' DC (hmul) (h := ?_); rotate_left) | (refine' DC (hadd) (h := ?_); rotate_left) | refine' DS ?_))
  (refine DJ.nil (fun G2 hG2 hF2 => ?_); (case hS => rfl); (case hS2 => rfl))
  try refine RUN ?_
  refine ⟨i + 1, ⟨?_, trivial⟩, (by repeat (first | exact trivial | refine And.intro rfl ?_)), ⟨rfl, trivial⟩, (by repeat (first | exact trivial | refine And.intro rfl ?_)), rfl, hlt, hG2, by omega⟩
  rw [wi_inc i (by omega)]; rfl
 ·simp only [nN] at hlt
  obtain rfl : i = l.length := by omega
  rw [show (dotL l m).take l.length = dotL l m by rw [← hdl, List.take_length]]
  try refine RUN ?_
  rfl
theorem dot_no {H : Hp} {u v : Value} {l m : List Rat} (hu : QL H u l) (hv : QL H v m) (hlm : l.length ≠ m.length) : PC prog 69 #[u, v] H fun r _ => r = .tuple #[fracV 0, .bool false] := by
 obtain ⟨a, cap, rfl⟩ := SlC.val hu
 obtain ⟨b, cap', rfl⟩ := SlC.val hv
 refine BD func69 ntmps69 ?_
 try refine RUN ?_
 rw [show ((l.length : Int) != (m.length : Int)) = true by simp; omega]
 try refine RUN ?_
 rw [fracV_zero]
theorem max_pv (p q : Rat) (hp : sm p) (hq : sm q) : PV prog 82 #[fracV p, fracV q] (fracV (if ordR q p > 0 then q else p)) := by
 have hc := cmp_pv q p hq hp
 refine PV.of_pc ?_
 generalize ordR q p = o at *
 refine BD func82 ntmps82 ?_
 repeat (first | refine RUN ?_ | refine CV (hc) ?_ | refine CE (hc) ?_)
 by_cases h : o > 0
 ·rw [decide_eq_true h, if_pos h]
  try refine RUN ?_
  rfl
 ·rw [decide_eq_false h, if_neg h]
  try refine RUN ?_
  rfl
theorem min_pv (p q : Rat) (hp : sm p) (hq : sm q) : PV prog 84 #[fracV p, fracV q] (fracV (if ordR q p < 0 then q else p)) := by
 have hc := cmp_pv q p hq hp
 refine PV.of_pc ?_
 generalize ordR q p = o at *
 refine BD func84 ntmps84 ?_
 repeat (first | refine RUN ?_ | refine CV (hc) ?_ | refine CE (hc) ?_)
 by_cases h : o < 0
 ·rw [decide_eq_true h, if_pos h]
  try refine RUN ?_
  rfl
 ·rw [decide_eq_false h, if_neg h]
  try refine RUN ?_
  rfl
abbrev cmpF : Value := .func (.func 31) #[] #[]
theorem compare_pc {H : Hp} {u v : Value} {l m : List Rat} (hu : QL H u l) (hv : QL H v m) (hl : l.length ≤ 100000) (hm : m.length ≤ 100000) (hb : ∀ q, q ∈ l → sm q) (hb' : ∀ q, q ∈ m → sm q) : PC prog 149 #[u, v, cmpF] H fun r _ => r = .int .i64 (cmpL l m) := by
 obtain ⟨a, cap, rfl⟩ := SlC.val hu
 obtain ⟨b, cap', rfl⟩ := SlC.val hv
 refine BD func149 ntmps149 ?_
 try refine RUN ?_
 refine EV.loopK (ι := Nat) [0, 1, 2, 11, 12] [] (fun i => [(13, .v (.int .i64 (i : Int)))]) (fun _ => []) (fun _ => []) (fun i G => i ≤ l.length ∧ i ≤ m.length ∧ cmpL l m = cmpL (l.drop i) (m.drop i)) (fun i => l.length - i) (0) rfl rfl ⟨rfl, trivial⟩ trivial rfl (fun _ => rfl) (⟨Nat.zero_le _, Nat.zero_le _, by rw [List.drop_zero, List.drop_zero]⟩) ?_
 rintro i G1 hG1 ⟨hi, hi', hpre⟩
 try refine RUN ?_
 refine EV.cond rfl (fun hlt => ?_) (fun hlt => ?_)
 ·simp only [nN] at hlt
  obtain ⟨q, hqi⟩ : ∃ q, l[i]? = some q := ⟨_, List.getElem?_eq_getElem hlt⟩
  try refine RUN ?_
  refine EVL.idxM tO rfl rfl rfl rfl rfl rfl rfl rfl rfl ((SlC.mono (show SlC H (.slice a l.length cap) l.length 5 (l.flatMap fun q => vlist (fracV q)) from hu) hG1)) (i) (rfl) (hlt) ((QL.at (H := H) (v := .slice a l.length cap) hqi)) ?_
  try refine RUN ?_
  by_cases hlt' : i < m.length
  ·obtain ⟨q', hqi'⟩ : ∃ q, m[i]? = some q := ⟨_, List.getElem?_eq_getElem hlt'⟩
   have hc := cmp_pv q q' (hb q (List.mem_of_getElem? hqi)) (hb' q' (List.mem_of_getElem? hqi'))
   rw [cmpL_step hqi hqi'] at hpre
   generalize ordR q q' = o at *
   rw [decide_eq_false (show ¬ (i : Int) ≥ (m.length : Int) by omega)]
   try refine RUN ?_
   refine EVL.idxM tO rfl rfl rfl rfl rfl rfl rfl rfl rfl ((SlC.mono (show SlC H (.slice b m.length cap') m.length 5 (m.flatMap fun q => vlist (fracV q)) from hv) hG1)) (i) (rfl) (hlt') ((QL.at (H := H) (v := .slice b m.length cap') hqi')) ?_
   try refine RUN ?_
   refine EVL.callD rfl rfl rfl rfl rfl rfl hc ?_
   try refine RUN ?_
   by_cases ho : o = 0
   ·rw [if_pos ho] at hpre
    rw [show (o != 0) = false by simp [ho]]
    try refine RUN ?_
    refine ⟨i + 1, ⟨?_, trivial⟩, (by repeat (first | exact trivial | refine And.intro rfl ?_)), trivial, trivial, rfl, ⟨hlt, hlt', hpre⟩, Hp.Le.refl _, by omega⟩
    rw [wi_inc i (by omega)]; rfl
   ·rw [if_neg ho] at hpre
    rw [show (o != 0) = true by simp [ho]]
    try refine RUN ?_
    rw [hpre]
  ·rw [cmpL_long hlt (by omega)] at hpre
   rw [decide_eq_true (show (i : Int) ≥ (m.length : Int) by omega)]
   try refine RUN ?_
   rw [hpre]
 ·simp only [nN] at hlt
  obtain rfl : i = l.length := by omega
  try refine RUN ?_
  by_cases hlm : l.length < m.length
  ·rw [cmpL_short (Nat.le_refl _) hlm] at hpre
   rw [decide_eq_true (show (l.length : Int) < (m.length : Int) by omega)]
   try refine RUN ?_
   rw [hpre]
  ·rw [cmpL_end (Nat.le_refl _) (by omega)] at hpre
   rw [decide_eq_false (show ¬ (l.length : Int) < (m.length : Int) by omega)]
   try refine RUN ?_
   rw [hpre]
theorem sameQ_pc {H : Hp} {u v : Value} {l m : List Rat} (hu : QL H u l) (hv : QL H v m) (hl : l.length ≤ 100000) (hm : m.length ≤ 100000) (hb : ∀ q, q ∈ l → sm q) (hb' : ∀ q, q ∈ m → sm q) : PC prog 76 #[u, v] H fun r _ => r = .bool (decide (l = m)) := by
 obtain ⟨a, cap, rfl⟩ := SlC.val hu
 obtain ⟨b, cap', rfl⟩ := SlC.val hv
 have hc := compare_pc hu hv hl hm hb hb'
 have he : (cmpL l m == 0) = decide (l = m) := by
  by_cases h : l = m
  ·subst h; rw [cmpL_self, decide_eq_true rfl]; rfl
  ·rw [decide_eq_false h]; simp only [beq_eq_false_iff_ne]; exact fun e => h (cmpL_len _ _ e)
 refine BD func76 ntmps76 ?_
 repeat (first | refine RUN ?_ | refine CV (hc) ?_ | refine CE (hc) ?_)
 rw [he]
theorem lessQ_pc {H : Hp} {u v : Value} {l m : List Rat} (hu : QL H u l) (hv : QL H v m) (hl : l.length ≤ 100000) (hm : m.length ≤ 100000) (hb : ∀ q, q ∈ l → sm q) (hb' : ∀ q, q ∈ m → sm q) : PC prog 78 #[u, v] H fun r _ => r = .bool (decide (cmpL l m < 0)) := by
 obtain ⟨a, cap, rfl⟩ := SlC.val hu
 obtain ⟨b, cap', rfl⟩ := SlC.val hv
 have hc := compare_pc hu hv hl hm hb hb'
 refine BD func78 ntmps78 ?_
 repeat (first | refine RUN ?_ | refine CV (hc) ?_ | refine CE (hc) ?_)
 rfl
section
variable {P : Program} {ops : Array Oper} {md : Region.Mode} {Q Q' : Exit → Act → World → Prop}
theorem Oper.wp_monoQ {o : Oper} {a : Act} {W : World} {K K' : Act → World → Prop} (hk : ∀ a W, K a W → K' a W) (hq : ∀ e a W, Q e a W → Q' e a W) (h : Oper.wp P o a W K Q) : Oper.wp P o a W K' Q' := by
 have h2 := Oper.wp_mono hk h
 unfold Oper.wp at *
 generalize (execOp a.eval o).run P W = r at *
 cases r with
 | ok m w' =>
  cases m <;> simp only [Oper.upon] at h2 ⊢ <;> try exact h2
  case enter f args =>
   refine h2.mono fun e w'' he => ?_
   cases e with
   | returned v => exact he
   | panicked c => exact hq _ _ _ he
   | outgrown => obtain ⟨a0, w0, h⟩ := he; exact ⟨a0, w0, hq _ _ _ h⟩
 | halt y w' =>
  cases y <;> simp only [Oper.upon] at h2 ⊢
  case panic v => exact hq _ _ _ h2
theorem wpOp_monoQ {i : Nat} {a : Act} {W : World} {K K' : Act → World → Prop} (hk : ∀ a W, K a W → K' a W) (hq : ∀ e a W, Q e a W → Q' e a W) (h : wpOp P ops Q i K a W) : wpOp P ops Q' i K' a W := by
 unfold wpOp at *
 split at h
 ·exact hk _ _ h
 ·split at h
  ·rename_i hw
   rw [if_pos hw]
   rcases h with h | ⟨h1, a0, w0, h2⟩
   ·exact .inl (Oper.wp_monoQ hk hq h)
   ·exact .inr ⟨h1, a0, w0, hq _ _ _ h2⟩
  ·rename_i hw
   rw [if_neg hw]
   exact hk _ _ h
theorem wpAny_mono (hq : ∀ e a W, Q e a W → Q' e a W) : ∀ (fuel : Nat) (L : Array Bool) (a : Act) (W : World), wpAny P md ops Q fuel L a W → wpAny P md ops Q' fuel L a W
 | 0, _, _, _, h => ⟨h.1, hq _ _ _ h.2⟩
 | fuel + 1, _, _, _, h => ⟨fun e => hq _ _ _ (h.1 e), fun i hi => wpOp_monoQ (fun a W k => wpAny_mono hq fuel _ a W k) hq (h.2 i hi)⟩
end
def EVA (P : Program) (n : Nat) (ops : Array Oper) (fuel : Nat) (L : Array Bool) (env : Env) (bx : Bxs) (H : Hs) (K : Env → Bxs → Hs → Prop) : Prop :=
 ∀ W0 β a W, Rel n W0 H.base β env bx H a W → wpAny P .any ops (fun e a W => e = .normal ∧ lift n W0 H.base (fun _ env bx H => K env bx H) .normal a W) fuel L a W
section
variable {P : Program} {n : Nat} {ops : Array Oper} {fuel : Nat} {L : Array Bool} {env : Env} {bx : Bxs} {H : Hs} {K : Env → Bxs → Hs → Prop} {τ : Tab} {d : Nat} {o : Oper} {v : Value}
theorem EVA.start {id : Nat} {l : List Oper} {Q : EQ} (hm : P.follows .mixedOrders = true) (h : EVA P n l.toArray l.length (Array.replicate l.length false) env bx H (fun env bx H => Q .normal env bx H)) : EV P n (.region id l.toArray true) env bx H Q := fun W0 β a W r => by
 refine wp_region_any hm ?_
 have h1 := h W0 β a W.drew r.drew
 refine wpAny_mono ?_ _ _ _ _ h1
 rintro e a W ⟨rfl, β, env', bx', H', hb, hq, hr⟩
 exact ⟨β, env', bx', H', hb, hq, hr⟩
theorem EVA.take (i : Nat) (hi : ops[i]? = some o) (hs : Region.noSelect ops = true) (hf : Region.free .any ops L i = true) (hr : (Region.ready .any ops L).contains i = true) (hw : wantB ops env o = some true) (hd : o.dst = some d) (hn : Nat.blt d n = true)
  (hx : ∀ (ev : Operand → Value) (W : World), (∀ y x, y ∈ o.op.operands → env.op y = some (.v x) → ev y = x) → (execOp ev o).run P W = .ok (.value v) W)
  (h : EVA P n ops fuel (L.setIfInBounds i true) ((d, .v v) :: env) bx H K) : EVA P n ops (fuel + 1) L env bx H K := fun W0 β a W r => by
 refine wpAny_take (v := v) hi hs hf hr (fun c a w e => by cases e.1) (.inl ⟨r.want hw, fun w => hx a.eval w (fun y x _ hy => r.op hy)⟩) ?_
 rw [hd]
 exact h W0 β _ W (r.put hn rfl rfl)
def plainB (env : Env) (y : Operand) : Bool := match env.op y with
 | some (.v _) => true
 | some _ => false
 | none => true
def plainL (env : Env) : List Operand → Bool
 | [] => true
 | y :: l => match plainB env y with
  | true => plainL env l
  | false => false
theorem plainL_mem {env : Env} : ∀ {l : List Operand}, plainL env l = true → ∀ y, y ∈ l → plainB env y = true
 | [], _, y, h => by cases h
 | z :: l, h, y, hm => by
  unfold plainL at h
  split at h
  ·rename_i hz
   rcases List.mem_cons.1 hm with rfl | hm
   ·exact hz
   ·exact plainL_mem h y hm
  ·cases h
theorem plain_rep {env : Env} {y : Operand} {s : SV} {β : Nat → Nat} {G G' : Hp} {x : Value} (hp : plainB env y = true) (hy : env.op y = some s) (h : s.rep β G x) : s.rep β G' x := by
 unfold plainB at hp
 rw [hy] at hp
 cases s with
 | v u => exact h
 | p i off => cases hp
 | ro cs => cases hp
theorem EVA.val (hτ : TabOk P τ) (i : Nat) (hi : ops[i]? = some o) (hs : Region.noSelect ops = true) (hf : Region.free .any ops L i = true) (hr : (Region.ready .any ops L).contains i = true) (hw : wantB ops env o = some true) (hd : o.dst = some d) (hn : Nat.blt d n = true)
  (hv : pval τ env [] o.op = some (.v v)) (hpl : plainL env o.op.operands.toList = true) (h : EVA P n ops fuel (L.setIfInBounds i true) ((d, .v v) :: env) bx H K) : EVA P n ops (fuel + 1) L env bx H K := fun W0 β a W r => by
 refine wpAny_take (v := v) hi hs hf hr (fun c a w e => by cases e.1) (.inl ⟨r.want hw, fun w => ?_⟩) ?_
 ·obtain ⟨x, hx, hr⟩ := pval_sound (β := β) (H := fun _ => none) (W := w) (a := a) hτ hv (fun y s hm hy => plain_rep (plainL_mem hpl y (by simpa using hm)) hy (r.op hy)) (fun i T cs e => by cases e) (fun b c e => by cases e)
  ·have e : x = v := hr
   rw [← e]; exact hx
 ·rw [hd]
  exact h W0 β _ W (r.put hn rfl rfl)
theorem EVA.step (hk : ∀ p, p ∈ Region.ready .any ops L → ∃ o, ops[p]? = some o ∧ EVL P n ops [o] env bx H (fun e env bx H' => e = .normal ∧ EVA P n ops fuel (L.setIfInBounds p true) env bx H' K)) (hne : (Region.ready .any ops L).isEmpty = false) : EVA P n ops (fuel + 1) L env bx H K := fun W0 β a W r => by
 refine ⟨fun e => (by rw [e] at hne; cases hne), fun p hp => ?_⟩
 obtain ⟨o, ho, h⟩ := hk p hp
 have h1 := h W0 β a W r
 have hkk : ∀ a W, lift n W0 H.base (fun e env bx H' => e = .normal ∧ EVA P n ops fuel (L.setIfInBounds p true) env bx H' K) .normal a W → wpAny P .any ops (fun e a W => e = .normal ∧ lift n W0 H.base (fun _ env bx H => K env bx H) .normal a W) fuel (L.setIfInBounds p true) a W := by
  rintro a W ⟨β', env', bx', H', hbase, ⟨_, hE⟩, rel⟩
  have := hE W0 β' a W (by rw [hbase]; exact rel)
  rwa [hbase] at this
 unfold wpOp
 simp only [ho]
 unfold wpList at h1
 split
 ·rename_i hw
  rw [if_pos hw] at h1
  rcases h1 with h1 | ⟨h1, h2⟩
  ·refine .inl (Oper.wp_exits (fun c a W hq => ?_) (fun hq => ?_) (Oper.wp_mono (fun a W h => hkk a W h) h1))
   ·obtain ⟨_, _, _, _, _, ⟨e, _⟩, _⟩ := hq
    cases e
   ·obtain ⟨a0, w0, _, _, _, _, _, ⟨e, _⟩, _⟩ := hq
    cases e
  ·obtain ⟨a0, w0, _, _, _, _, _, ⟨e, _⟩, _⟩ := h2
   cases e
 ·rename_i hw
  rw [if_neg hw] at h1
  exact hkk _ _ h1
theorem EVA.one (p : Nat) (hr : (Region.ready .any ops L == [p]) = true) (ho : ops[p]? = some o) (h : EVL P n ops [o] env bx H (fun e env bx H' => e = .normal ∧ EVA P n ops fuel (L.setIfInBounds p true) env bx H' K)) : EVA P n ops (fuel + 1) L env bx H K := by
 have hr' := eq_of_beq hr
 refine EVA.step (fun q hq => ?_) (by rw [hr']; rfl)
 rw [hr'] at hq
 obtain rfl : q = p := by simpa using hq
 exact ⟨o, ho, h⟩
theorem EVA.two {o' : Oper} (p q : Nat) (hr : (Region.ready .any ops L == [p, q]) = true) (ho : ops[p]? = some o) (ho' : ops[q]? = some o') (h : EVL P n ops [o] env bx H (fun e env bx H' => e = .normal ∧ EVA P n ops fuel (L.setIfInBounds p true) env bx H' K))
  (h' : EVL P n ops [o'] env bx H (fun e env bx H' => e = .normal ∧ EVA P n ops fuel (L.setIfInBounds q true) env bx H' K)) : EVA P n ops (fuel + 1) L env bx H K := by
 have hr' := eq_of_beq hr
 refine EVA.step (fun s hs => ?_) (by rw [hr']; rfl)
 rw [hr'] at hs
 rcases List.mem_cons.1 hs with rfl | hs
 ·exact ⟨o, ho, h⟩
 ·obtain rfl : s = q := by simpa using hs
  exact ⟨o', ho', h'⟩
theorem EVA.nil (hr : (Region.ready .any ops L).isEmpty = true) (h : K env bx H) : EVA P n ops fuel L env bx H K := fun W0 β a W r =>
 wpAny_done (List.isEmpty_iff.1 hr) ⟨rfl, β, env, bx, H, rfl, h, r⟩ fuel
end
theorem flat_get_app {α : Type} {f : α → List Value} {s : Nat} {l : List α} (h : ∀ x, x ∈ l → (f x).length = s) (sp : List Value) {j : Nat} {x : α} (hj : l[j]? = some x) : ((l.flatMap f ++ sp).drop (j * s)).take s = f x := by
 obtain ⟨hl, _⟩ := List.getElem?_eq_some_iff.1 hj
 have hf := flat_len f s l h
 have hb : j * s + s ≤ l.length * s := by rw [← Nat.succ_mul]; exact Nat.mul_le_mul_right _ hl
 rw [List.drop_append_of_le_length (by rw [hf]; omega), List.take_append_of_le_length (by rw [List.length_drop, hf]; omega)]
 exact flat_cut f s l h j x hj
theorem flat_set_app {α : Type} {f : α → List Value} {s : Nat} : ∀ {l : List α}, (∀ x, x ∈ l → (f x).length = s) → ∀ (sp : List Value) {j : Nat} (y : α), j < l.length → (l.flatMap f ++ sp).take (j * s) ++ f y ++ (l.flatMap f ++ sp).drop (j * s + s) = (l.set j y).flatMap f ++ sp
 | [], _, _, j, y, hj => by simp at hj
 | x :: l, h, sp, 0, y, _ => by
  have hx := h x (List.mem_cons_self ..)
  rw [List.flatMap_cons, List.set_cons_zero, List.flatMap_cons, Nat.zero_mul, List.take_zero, List.nil_append, Nat.zero_add, List.append_assoc, List.append_assoc, List.drop_left' hx]
 | x :: l, h, sp, j + 1, y, hj => by
  have hx := h x (List.mem_cons_self ..)
  have ih := flat_set_app (f := f) (fun z hz => h z (List.mem_cons_of_mem _ hz)) sp y (show j < l.length by simpa using hj)
  generalize hA : l.flatMap f ++ sp = A at *
  have e1 : (x :: l).flatMap f ++ sp = f x ++ A := by rw [List.flatMap_cons, List.append_assoc, hA]
  have e2 : ((x :: l).set (j + 1) y).flatMap f ++ sp = f x ++ ((l.set j y).flatMap f ++ sp) := by rw [List.set_cons_succ, List.flatMap_cons, List.append_assoc]
  have e3 : (j + 1) * s = (f x).length + j * s := by rw [Nat.succ_mul, hx]; omega
  rw [e1, e2, ← ih, e3, List.take_length_add_append, show (f x).length + j * s + s = (f x).length + (j * s + s) by omega, List.drop_length_add_append]
  simp only [List.append_assoc]
section
variable {P : Program} {n : Nat} {ops : Array Oper} {o : Oper} {rest : List Oper} {env : Env} {bx : Bxs} {sb : Bxs} {ow : Ows} {H : Hs} {Q : EQ} {τ : Tab} {d : Nat} {s : SV}
theorem run_idxP (hτ : TabOk P τ) {T : TypeId} {x y : Operand} (ho : o.op = .indexAddr T x y) {te te' : TE} {e : TypeId} (ht : τ.get T = some te) (hk : te.kind = .slice e) (ht' : τ.get e = some te')
  {b m cap : Nat} (hx : env.op x = some (.v (.slice (some ⟨b, 0, none⟩) m cap))) {k : IntKind} {z : Int} (hy : env.op y = some (.v (.int k z))) (j q : Nat) (hz : z = j) (hj : j < m) (hq : j * te'.size = q) (ev : Operand → Value) (W : World) (he : ∀ y x, y ∈ o.op.operands → env.op y = some (.v x) → ev y = x) :
  (execOp ev o).run P W = .ok (.value (.pointer (some ⟨b, q, none⟩))) W := by
 have ex := he x _ (by simp [ho, Op.operands]) hx
 have ey := he y _ (by simp [ho, Op.operands]) hy
 have hkd := (hτ.get ht).kind
 rw [hk] at hkd
 have hkd' : P.underlying T = some (.slice e) := hkd
 unfold execOp
 simp [ho, ex, ey, Instr.indexAt, asIntOf, run_underlying hkd', hz, (hτ.get ht').size, Addr.add_mid, hj, hq]
theorem EVL.idxB (hτ : TabOk P τ) {T : TypeId} {x y : Operand} (ho : o.op = .indexAddr T x y) (hw : wantB ops env o = some true) (hd : o.dst = some d) (hn : Nat.blt d n = true) {te te' : TE} {e : TypeId} (ht : τ.get T = some te) (hk : te.kind = .slice e) (ht' : τ.get e = some te')
  {b m cap : Nat} (hx : env.op x = some (.v (.slice (some ⟨b, 0, none⟩) m cap))) {k : IntKind} {z : Int} (hy : env.op y = some (.v (.int k z))) (j q : Nat) (hz : z = j) (hj : j < m) (hq : j * te'.size = q)
  (h : EVL P n ops rest ((d, .v (.pointer (some ⟨b, q, none⟩))) :: env) bx H Q) : EVL P n ops (o :: rest) env bx H Q := EVL.gen hw hd hn (run_idxP hτ ho ht hk ht' hx hy j q hz hj hq) h
theorem DJ.idxB {tail l : List Oper} {x : Nat → Value} {y : Nat → Ows} {ow' : Ows} {kl ks : List DK} {i : Nat} {bx' : Bxs} {Γ : Fcts} (hτ : TabOk P τ) {T : TypeId} {u w : Operand} (ho : o.op = .indexAddr T u w) (hw : wantB ops env o = some true) (hd : o.dst = some d) (hn : Nat.blt d n = true) {te te' : TE} {e : TypeId} (ht : τ.get T = some te) (hk : te.kind = .slice e) (ht' : τ.get e = some te')
  {b m cap : Nat} (hx : env.op u = some (.v (.slice (some ⟨b, 0, none⟩) m cap))) {k : IntKind} {z : Int} (hy : env.op w = some (.v (.int k z))) (j q : Nat) (hz : z = j) (hj : j < m) (hq : j * te'.size = q)
  (h : DJ P n ops tail sb bx H Q x y kl (i + 1) l ks ((d, .v (.pointer (some ⟨b, q, none⟩))) :: env) bx' Γ ow') : DJ P n ops tail sb bx H Q x y kl i (o :: l) (.sv (.v (.pointer (some ⟨b, q, none⟩))) :: ks) env bx' Γ ow' :=
 DJ.ofVal (ValOk.gen hw (run_idxP hτ ho ht hk ht' hx hy j q hz hj hq)) hd hn rfl h
theorem EVA.idxB {fuel : Nat} {L : Array Bool} {K : Env → Bxs → Hs → Prop} (hτ : TabOk P τ) (i : Nat) (hi : ops[i]? = some o) (hs : Region.noSelect ops = true) (hf : Region.free .any ops L i = true) (hr : (Region.ready .any ops L).contains i = true) (hw : wantB ops env o = some true) (hd : o.dst = some d) (hn : Nat.blt d n = true)
  {T : TypeId} {x y : Operand} (ho : o.op = .indexAddr T x y) {te te' : TE} {e : TypeId} (ht : τ.get T = some te) (hk : te.kind = .slice e) (ht' : τ.get e = some te')
  {b m cap : Nat} (hx : env.op x = some (.v (.slice (some ⟨b, 0, none⟩) m cap))) {k : IntKind} {z : Int} (hy : env.op y = some (.v (.int k z))) (j q : Nat) (hz : z = j) (hj : j < m) (hq : j * te'.size = q)
  (h : EVA P n ops fuel (L.setIfInBounds i true) ((d, .v (.pointer (some ⟨b, q, none⟩))) :: env) bx H K) : EVA P n ops (fuel + 1) L env bx H K :=
 EVA.take i hi hs hf hr hw hd hn (run_idxP hτ ho ht hk ht' hx hy j q hz hj hq) h
theorem run_equalIn_nil {d : Nat} {T e : TypeId} {a : Option Addr} {m c : Nat} {W : World} (hT : P.underlying T = some (.slice e)) : (Op.equalIn (d + 1) T (.slice a m c) (.slice none 0 0)).run P W = .ok a.isNone W := by
 unfold Op.equalIn
 cases a <;> simp [run_underlying hT]
theorem EVL.eqnil (hτ : TabOk P τ) {T T' : TypeId} {x : Operand} {a : Option Addr} {m c : Nat} (ho : o.op = .binOp .eql T x (.const (.slice none 0 0)) T') (hw : wantB ops env o = some true) (hd : o.dst = some d) (hn : Nat.blt d n = true) {te : TE} {e : TypeId} (ht : τ.get T = some te) (hk : te.kind = .slice e)
  (hx : env.op x = some (.v (.slice a m c))) (h : EVL P n ops rest ((d, .v (.bool a.isNone)) :: env) bx H Q) : EVL P n ops (o :: rest) env bx H Q :=
 EVL.gen hw hd hn (fun ev W he => by
  have ex := he x _ (by simp [ho, Op.operands]) hx
  have ey := he (.const (.slice none 0 0)) _ (by simp [ho, Op.operands]) rfl
  have hkd := (hτ.get ht).kind
  rw [hk] at hkd
  have hkd' : P.underlying T = some (.slice e) := hkd
  have hq := run_equalIn_nil (P := P) (d := 9999) (a := a) (m := m) (c := c) (W := W) hkd'
  have hm : Op.maxDepth = 9999 + 1 := rfl
  unfold execOp
  cases a <;> simp [ho, ex, ey, eqGuard, binOp, Op.equal, hm, hq]) h
end
abbrev cellsQ (l : List Rat) : List Value := l.flatMap fun q => vlist (fracV q)
theorem cq_get {l : List Rat} (sp : List Value) {j : Nat} {q : Rat} (h : l[j]? = some q) : ((cellsQ l ++ sp).drop (j * 5)).take 5 = vlist (fracV q) := flat_get_app (f := fun q => vlist (fracV q)) (fun _ _ => rfl) sp h
theorem cq_set {l : List Rat} (sp : List Value) {j : Nat} (q : Rat) (h : j < l.length) : (cellsQ l ++ sp).take (j * 5) ++ vlist (fracV q) ++ (cellsQ l ++ sp).drop (j * 5 + 5) = cellsQ (l.set j q) ++ sp := flat_set_app (f := fun q => vlist (fracV q)) (fun _ _ => rfl) sp q h
theorem cq_len (l : List Rat) : (cellsQ l).length = l.length * 5 := flat_len _ 5 l (fun _ _ => rfl)
theorem put_x {acc rest : List Rat} {j : Nat} {x : Rat} (h : j ≤ acc.length) : (putAt acc j x ++ rest)[j]? = some x := by
 unfold putAt
 rw [List.append_assoc, List.getElem?_append_right (by rw [List.length_take]; omega), List.length_take, Nat.min_eq_left h, Nat.sub_self]; rfl
theorem put_y {acc rest : List Rat} {j : Nat} {x y : Rat} (h : acc[j]? = some y) : (putAt acc (j + 1) x ++ rest)[j]? = some y := by
 obtain ⟨hl, _⟩ := List.getElem?_eq_some_iff.1 h
 unfold putAt
 rw [List.append_assoc, List.getElem?_append_left (by rw [List.length_take]; omega), List.getElem?_take_of_lt (by omega), h]
theorem put_len {acc rest : List Rat} {j : Nat} {x : Rat} : (putAt acc j x ++ rest).length = acc.length + 1 + rest.length := by
 have := (putAt_perm acc j x).length_eq
 rw [List.length_append, this, List.length_append]; rfl
theorem put_swap {acc rest : List Rat} {j : Nat} {x y : Rat} (h : acc[j]? = some y) : ((putAt acc (j + 1) x ++ rest).set (j + 1) y).set j x = putAt acc j x ++ rest := by
 obtain ⟨hl, hy⟩ := List.getElem?_eq_some_iff.1 h
 have hlen : (acc.take j).length = j := by rw [List.length_take]; omega
 unfold putAt
 rw [List.take_succ_eq_append_getElem hl, hy, List.drop_eq_getElem_cons hl, hy]
 rw [show (acc.take j ++ [y] ++ x :: acc.drop (j + 1) ++ rest) = acc.take j ++ (y :: x :: (acc.drop (j + 1) ++ rest)) by simp,
  List.set_append_right (j + 1) y (by omega), hlen, show j + 1 - j = 1 by omega, List.set_cons_succ, List.set_cons_zero,
  List.set_append_right j x (by omega), hlen, Nat.sub_self, List.set_cons_zero]
 simp
theorem put_start (acc rest : List Rat) (x : Rat) : putAt acc acc.length x ++ rest = acc ++ x :: rest := by
 unfold putAt; rw [List.take_length, List.drop_length]; simp
set_option maxHeartbeats 8000000 in
theorem insertion_pw {H : Hp} {b cap : Nat} {l : List Rat} {sp : List Value} (hl : l.length ≤ 1000) (hb : ∀ q, q ∈ l → sm q) :
  PW prog 207 #[.slice (some ⟨b, 0, none⟩) l.length cap, .int .i64 0, .int .i64 (l.length : Int), cmpF] H [(b, 45, cellsQ l ++ sp)] fun v ow _ => v = .tuple #[] ∧ ∃ m, ow = [(b, 45, cellsQ m ++ sp)] ∧ m.Perm l ∧ Rising m := by
 refine PW.body tO func207 rfl (by kernel_rfl) ntmps207 rfl rfl ?_
 try refine RUN ?_
 refine EV.loopK (ι := Nat × List Rat) [0, 1, 2, 3] [] (fun q => [(8, .v (.int .i64 (q.1 : Int)))]) (fun _ => []) (fun q => [(b, 45, cellsQ q.2 ++ sp)]) (fun q _ => 1 ≤ q.1 ∧ q.2.Perm l ∧ Rising (q.2.take q.1)) (fun q => l.length - q.1) ((1, l)) rfl rfl ⟨rfl, trivial⟩ trivial rfl (fun _ => rfl) (⟨Nat.le_refl _, List.Perm.refl _, by cases l with | nil => exact List.Pairwise.nil | cons a l => exact List.pairwise_singleton _ _⟩) ?_
 rintro ⟨i, cur⟩ G1 hG1 ⟨h1, hperm, hris⟩
 dsimp only at h1 hperm hris
 have hcl := hperm.length_eq
 try refine RUN ?_
 refine EV.cond rfl (fun hlt => ?_) (fun hlt => ?_)
 ·simp only [nN] at hlt
  obtain ⟨x, hxi⟩ : ∃ x, cur[i]? = some x := ⟨_, List.getElem?_eq_getElem (by omega)⟩
  have hcut : cur = cur.take i ++ x :: cur.drop (i + 1) := by rw [← drop_at hxi, List.take_append_drop]
  have hal : (cur.take i).length = i := by rw [List.length_take]; omega
  have hsmx : sm x := hb x (hperm.mem_iff.1 (List.mem_of_getElem? hxi))
  have hsma : ∀ y, y ∈ cur.take i → sm y := fun y hy => hb y (hperm.mem_iff.1 (List.mem_of_mem_take hy))
  have hrl : (cur.drop (i + 1)).length = l.length - (i + 1) := by rw [List.length_drop]; omega
  have hst := put_start (cur.take i) (cur.drop (i + 1)) x
  rw [hal, ← hcut] at hst
  generalize hacc : cur.take i = acc at *
  generalize cur.drop (i + 1) = rest at *
  subst hal
  subst hst
  try refine RUN ?_
  refine EV.loopK (ι := Nat) [0, 1, 2, 3, 8] [] (fun j => [(9, .v (.int .i64 (j : Int)))]) (fun _ => []) (fun j => [(b, 45, cellsQ (putAt acc j x ++ rest) ++ sp)]) (fun j _ => j ≤ acc.length ∧ ∀ y, y ∈ acc.drop j → x ≤ y) (fun j => j) (acc.length) rfl rfl ⟨rfl, trivial⟩ trivial rfl (fun _ => rfl) (⟨Nat.le_refl _, by rw [List.drop_length]; intro y hy; cases hy⟩) ?_
  rintro j G2 hG2 ⟨hj, hgr⟩
  have hlen := put_len (acc := acc) (rest := rest) (j := j) (x := x)
  have hx' := put_x (rest := rest) (x := x) hj
  have hp' := putAt_perm acc j x
  have hsum : (putAt acc j x ++ rest).length = l.length := by rw [hlen]; omega
  rw [← hsum]
  have next : (putAt acc j x ++ rest).Perm l := by
   refine List.Perm.trans ?_ hperm
   exact (hp'.trans (putAt_perm acc acc.length x).symm).append_right rest
  have fin : Rising (putAt acc j x) → Rising ((putAt acc j x ++ rest).take (acc.length + 1)) := fun h => by
   rw [List.take_append_of_le_length (by rw [hp'.length_eq]; simp)]
   rwa [List.take_of_length_le (by rw [hp'.length_eq]; simp)]
  cases j with
  | zero =>
   have hr := fin (putAt_rising hris (by intro y hy; rw [List.take_zero] at hy; cases hy) hgr)
   try refine RUN ?_
   apply EV.drawn 17 (by kernel_rfl) (by kernel_rfl); intro xv yw
   (repeat (first | refine' DV ?_ | refine' DA ?_ | refine' DK0 ?_ | refine' DT ?_ | refine' DS ?_))
   (refine DJ.nil (fun G3 hG3 hF3 => ?_); (case hS => rfl); (case hS2 => rfl))
   try refine RUN ?_
   refine ⟨(acc.length + 1, putAt acc 0 x ++ rest), ⟨?_, trivial⟩, (by repeat (first | exact trivial | refine And.intro rfl ?_)), trivial, trivial, rfl, ⟨by omega, next, hr⟩, hG2.trans hG3, by dsimp only; omega⟩
   rw [wi_inc _ (by omega)]; rfl
  | succ j =>
   obtain ⟨y, hyj⟩ : ∃ y, acc[j]? = some y := ⟨_, List.getElem?_eq_getElem (by omega)⟩
   have hy' := put_y (rest := rest) (x := x) hyj
   have hc := cmp_pv x y hsmx (hsma y (List.mem_of_getElem? hyj))
   have hlo : ordR x y < 0 → x ≤ y := fun h => by
    unfold ordR at h; split at h
    ·exact Rat.le_of_lt (by assumption)
    ·split at h <;> omega
   have hge : ¬ ordR x y < 0 → y ≤ x := fun h => by
    unfold ordR at h; split at h
    ·omega
    ·rename_i k; exact Rat.not_lt.1 k
   generalize ordR x y = o at *
   try refine RUN ?_
   apply EV.drawn 17 (by kernel_rfl) (by kernel_rfl); intro xv yw
   (repeat (first | refine' DV ?_ | refine' DA ?_ | refine' DK0 ?_ | refine' DT ?_ | refine' DS ?_))
   rw [decide_eq_true (show ((j + 1 : Nat) : Int) > 0 by omega)]
   (repeat (first | refine' DV ?_ | refine' DA ?_ | refine' DK0 ?_ | refine' DT ?_ | refine' DS ?_))
   refine' DJ.idxB tO rfl rfl rfl rfl rfl rfl rfl rfl rfl (j + 1) ((j + 1) * 5) (rfl) ((by omega)) (rfl) ?_; rotate_left
   refine' DJ.ofVal (ValOk.loadOwn tO rfl rfl rfl rfl (0) rfl (cq_get sp hx') rfl rfl) rfl rfl rfl ?_; rotate_left
   (repeat (first | refine' DV ?_ | refine' DA ?_ | refine' DK0 ?_ | refine' DT ?_ | refine' DS ?_))
   refine' DJ.idxB tO rfl rfl rfl rfl rfl rfl rfl rfl rfl (j) (j * 5) ((by rw [IntKind.wrap_i64]; omega)) ((by omega)) (rfl) ?_; rotate_left
   refine' DJ.ofVal (ValOk.loadOwn tO rfl rfl rfl rfl (0) rfl (cq_get sp hy') rfl rfl) rfl rfl rfl ?_; rotate_left
   (refine' DJ.callD rfl rfl rfl rfl rfl rfl hc ?_; rotate_left)
   (repeat (first | refine' DV ?_ | refine' DA ?_ | refine' DK0 ?_ | refine' DT ?_ | refine' DS ?_))
   (refine DJ.nil (fun G3 hG3 hF3 => ?_); (case hS => rfl); (case hS2 => rfl))
   try refine RUN ?_
   by_cases ho : o < 0
   ·rw [decide_eq_true ho]
    have hxy := hlo ho
    try refine RUN ?_
    refine EVA.start (by kernel_rfl) ?_
    refine EVA.val tO (0) rfl (by kernel_rfl) (by kernel_rfl) (by kernel_rfl) rfl rfl rfl rfl rfl ?_
    refine EVA.val tO (1) rfl (by kernel_rfl) (by kernel_rfl) (by kernel_rfl) rfl rfl rfl rfl rfl ?_
    refine EVA.val tO (5) rfl (by kernel_rfl) (by kernel_rfl) (by kernel_rfl) rfl rfl rfl rfl rfl ?_
    refine EVA.val tO (6) rfl (by kernel_rfl) (by kernel_rfl) (by kernel_rfl) rfl rfl rfl rfl rfl ?_
    refine EVA.val tO (7) rfl (by kernel_rfl) (by kernel_rfl) (by kernel_rfl) rfl rfl rfl rfl rfl ?_
    refine EVA.idxB tO (8) rfl (by kernel_rfl) (by kernel_rfl) (by kernel_rfl) rfl rfl rfl rfl rfl rfl rfl rfl rfl (j) (j * 5) ((by rw [IntKind.wrap_i64]; omega)) ((by omega)) (rfl) ?_
    refine EVA.val tO (10) rfl (by kernel_rfl) (by kernel_rfl) (by kernel_rfl) rfl rfl rfl rfl rfl ?_
    refine EVA.val tO (11) rfl (by kernel_rfl) (by kernel_rfl) (by kernel_rfl) rfl rfl rfl rfl rfl ?_
    refine EVA.idxB tO (12) rfl (by kernel_rfl) (by kernel_rfl) (by kernel_rfl) rfl rfl rfl rfl rfl rfl rfl rfl rfl (j + 1) ((j + 1) * 5) (rfl) ((by omega)) (rfl) ?_
    refine EVA.val tO (2) rfl (by kernel_rfl) (by kernel_rfl) (by kernel_rfl) rfl rfl rfl rfl rfl ?_
    refine EVA.val tO (3) rfl (by kernel_rfl) (by kernel_rfl) (by kernel_rfl) rfl rfl rfl rfl rfl ?_
    refine EVA.val tO (4) rfl (by kernel_rfl) (by kernel_rfl) (by kernel_rfl) rfl rfl rfl rfl rfl ?_
    refine EVA.two 9 13 (by kernel_rfl) rfl rfl ?_ ?_
    ·refine EVL.loadOwn tO rfl rfl rfl rfl rfl rfl (0) rfl (cq_get sp hy') rfl rfl ?_
     refine EVL.nil ⟨rfl, ?_⟩
     refine EVA.one 13 (by kernel_rfl) rfl ?_
     refine EVL.loadOwn tO rfl rfl rfl rfl rfl rfl (0) rfl (cq_get sp hx') rfl rfl ?_
     refine EVL.nil ⟨rfl, ?_⟩
     refine EVA.idxB tO (14) rfl (by kernel_rfl) (by kernel_rfl) (by kernel_rfl) rfl rfl rfl rfl rfl rfl rfl rfl rfl (j + 1) ((j + 1) * 5) (rfl) ((by omega)) (rfl) ?_
     refine EVA.one 15 (by kernel_rfl) rfl ?_
     refine EVL.storeOwn tO rfl rfl rfl rfl rfl rfl ([]) ([]) rfl rfl rfl rfl ((by rw [List.length_append, cq_len]; show (j + 1) * 5 + 5 ≤ _; omega)) ((cq_set sp y (show j + 1 < (putAt acc (j + 1) x ++ rest).length by omega))) ?_
     refine EVL.nil ⟨rfl, ?_⟩
     refine EVA.idxB tO (16) rfl (by kernel_rfl) (by kernel_rfl) (by kernel_rfl) rfl rfl rfl rfl rfl rfl rfl rfl rfl (j) (j * 5) ((by rw [IntKind.wrap_i64]; omega)) ((by omega)) (rfl) ?_
     refine EVA.one 17 (by kernel_rfl) rfl ?_
     refine EVL.storeOwn tO rfl rfl rfl rfl rfl rfl ([]) ([]) rfl rfl rfl rfl ((by rw [List.length_append, cq_len, List.length_set]; show j * 5 + 5 ≤ _; omega)) ((cq_set sp x (show j < ((putAt acc (j + 1) x ++ rest).set (j + 1) y).length by rw [List.length_set]; omega))) ?_
     refine EVL.nil ⟨rfl, ?_⟩
     refine EVA.nil (by kernel_rfl) ?_
     rw [put_swap hyj]
     try refine RUN ?_
     refine ⟨j, ⟨?_, trivial⟩, (by repeat (first | exact trivial | refine And.intro rfl ?_)), trivial, trivial, rfl, ⟨by omega, ?_⟩, hG3, by omega⟩
     ·rw [show IntKind.i64.wrap (((j + 1 : Nat) : Int) - 1) = (j : Int) by rw [IntKind.wrap_i64]; omega]; rfl
     ·intro z hz
      rw [drop_at hyj] at hz
      rcases List.mem_cons.1 hz with rfl | hz
      ·exact hxy
      ·exact hgr z hz
    ·refine EVL.loadOwn tO rfl rfl rfl rfl rfl rfl (0) rfl (cq_get sp hx') rfl rfl ?_
     refine EVL.nil ⟨rfl, ?_⟩
     refine EVA.one 9 (by kernel_rfl) rfl ?_
     refine EVL.loadOwn tO rfl rfl rfl rfl rfl rfl (0) rfl (cq_get sp hy') rfl rfl ?_
     refine EVL.nil ⟨rfl, ?_⟩
     refine EVA.idxB tO (14) rfl (by kernel_rfl) (by kernel_rfl) (by kernel_rfl) rfl rfl rfl rfl rfl rfl rfl rfl rfl (j + 1) ((j + 1) * 5) (rfl) ((by omega)) (rfl) ?_
     refine EVA.one 15 (by kernel_rfl) rfl ?_
     refine EVL.storeOwn tO rfl rfl rfl rfl rfl rfl ([]) ([]) rfl rfl rfl rfl ((by rw [List.length_append, cq_len]; show (j + 1) * 5 + 5 ≤ _; omega)) ((cq_set sp y (show j + 1 < (putAt acc (j + 1) x ++ rest).length by omega))) ?_
     refine EVL.nil ⟨rfl, ?_⟩
     refine EVA.idxB tO (16) rfl (by kernel_rfl) (by kernel_rfl) (by kernel_rfl) rfl rfl rfl rfl rfl rfl rfl rfl rfl (j) (j * 5) ((by rw [IntKind.wrap_i64]; omega)) ((by omega)) (rfl) ?_
     refine EVA.one 17 (by kernel_rfl) rfl ?_
     refine EVL.storeOwn tO rfl rfl rfl rfl rfl rfl ([]) ([]) rfl rfl rfl rfl ((by rw [List.length_append, cq_len, List.length_set]; show j * 5 + 5 ≤ _; omega)) ((cq_set sp x (show j < ((putAt acc (j + 1) x ++ rest).set (j + 1) y).length by rw [List.length_set]; omega))) ?_
     refine EVL.nil ⟨rfl, ?_⟩
     refine EVA.nil (by kernel_rfl) ?_
     rw [put_swap hyj]
     try refine RUN ?_
     refine ⟨j, ⟨?_, trivial⟩, (by repeat (first | exact trivial | refine And.intro rfl ?_)), trivial, trivial, rfl, ⟨by omega, ?_⟩, hG3, by omega⟩
     ·rw [show IntKind.i64.wrap (((j + 1 : Nat) : Int) - 1) = (j : Int) by rw [IntKind.wrap_i64]; omega]; rfl
     ·intro z hz
      rw [drop_at hyj] at hz
      rcases List.mem_cons.1 hz with rfl | hz
      ·exact hxy
      ·exact hgr z hz
   ·rw [decide_eq_false ho]
    have hr := fin (putAt_rising hris (rising_take hris hyj (hge ho)) hgr)
    try refine RUN ?_
    refine ⟨(acc.length + 1, putAt acc (j + 1) x ++ rest), ⟨?_, trivial⟩, (by repeat (first | exact trivial | refine And.intro rfl ?_)), trivial, trivial, rfl, ⟨by omega, next, hr⟩, hG2.trans hG3, by dsimp only; omega⟩
    rw [wi_inc _ (by omega)]; rfl
 ·simp only [nN] at hlt
  rw [List.take_of_length_le (by omega)] at hris
  try refine RUN ?_
  exact ⟨rfl, cur, rfl, hperm, hris⟩
theorem oneB_app : ∀ {a b : List Value}, oneB a = true → oneB b = true → oneB (a ++ b) = true
 | [], _, _, h => h
 | v :: a, b, h, k => by
  unfold oneB at h
  rw [List.cons_append]
  unfold oneB
  rw [Bool.and_eq_true] at h ⊢
  exact ⟨h.1, oneB_app h.2 k⟩
theorem oneB_cq : ∀ l : List Rat, oneB (cellsQ l) = true
 | [] => rfl
 | q :: l => oneB_app (a := vlist (fracV q)) rfl (oneB_cq l)
theorem bitsLen_pv (n : Nat) (h : n ≤ 1000) : ∃ z : Int, PV prog 186 #[.int .u64 (n : Int)] (.int .i64 z) :=
 ⟨_, (cO func186), fun W _ => (Tryz.bits_Len (n : Int) W (by omega) (by omega)).mono fun e W' ⟨he, hw⟩ => ⟨he, by rw [hw]; exact Below.refl _ _⟩⟩
theorem insertion_nil (a : Option Addr) (cap : Nat) : PV prog 207 #[.slice a 0 cap, .int .i64 0, .int .i64 0, cmpF] (.tuple #[]) := by
 refine PV.of_pc ?_
 refine BD func207 ntmps207 ?_
 try refine RUN ?_
 refine EV.loopK (ι := Unit) [0, 1, 2, 3] [] (fun _ => [(8, .v (.int .i64 1))]) (fun _ => []) (fun _ => []) (fun _ _ => True) (fun _ => 0) (()) rfl rfl ⟨rfl, trivial⟩ trivial rfl (fun _ => rfl) (trivial) ?_
 rintro ⟨⟩ G1 hG1 _
 try refine RUN ?_
 rfl
theorem pdq_nil (a : Option Addr) (cap : Nat) (z : Int) : PV prog 185 #[.slice a 0 cap, .int .i64 0, .int .i64 0, .int .i64 z, cmpF] (.tuple #[]) := by
 refine PV.of_pc ?_
 have hi := insertion_nil a cap
 refine BD func185 ntmps185 ?_
 try refine RUN ?_
 refine EV.loopK (ι := Unit) [0, 4] [] (fun _ => [(1, .v (.int .i64 0)), (2, .v (.int .i64 0)), (3, .v (.int .i64 z)), (10, .v (.bool true)), (11, .v (.bool true))]) (fun _ => []) (fun _ => []) (fun _ _ => True) (fun _ => 0) (()) rfl rfl ⟨rfl, rfl, rfl, rfl, rfl, trivial⟩ trivial rfl (fun _ => rfl) (trivial) ?_
 rintro ⟨⟩ G1 hG1 _
 repeat (first | refine RUN ?_ | refine CV (hi) ?_ | refine CE (hi) ?_)
 rfl
theorem sortf_nil (a : Option Addr) (cap : Nat) : PV prog 148 #[.slice a 0 cap, cmpF] (.tuple #[]) := by
 refine PV.of_pc ?_
 obtain ⟨z, hb⟩ := bitsLen_pv 0 (by omega)
 have hp := pdq_nil a cap z
 refine BD func148 ntmps148 ?_
 repeat (first | refine RUN ?_ | refine CV (hb) ?_ | refine CV (hp) ?_ | refine CE (hb) ?_ | refine CE (hp) ?_)
 rfl
theorem pdq_pw {H : Hp} {b cap : Nat} {l : List Rat} {sp : List Value} (z : Int) (hl : l.length ≤ 12) (hb : ∀ q, q ∈ l → sm q) :
  PW prog 185 #[.slice (some ⟨b, 0, none⟩) l.length cap, .int .i64 0, .int .i64 (l.length : Int), .int .i64 z, cmpF] H [(b, 45, cellsQ l ++ sp)] fun v ow _ => v = .tuple #[] ∧ ∃ m, ow = [(b, 45, cellsQ m ++ sp)] ∧ m.Perm l ∧ Rising m := by
 refine PW.body tO func185 rfl (by kernel_rfl) ntmps185 rfl rfl ?_
 try refine RUN ?_
 refine EV.loopK (ι := Unit) [0, 4] [] (fun _ => [(1, .v (.int .i64 0)), (2, .v (.int .i64 (l.length : Int))), (3, .v (.int .i64 z)), (10, .v (.bool true)), (11, .v (.bool true))]) (fun _ => []) (fun _ => [(b, 45, cellsQ l ++ sp)]) (fun _ _ => True) (fun _ => 0) (()) rfl rfl ⟨rfl, rfl, rfl, rfl, rfl, trivial⟩ trivial rfl (fun _ => rfl) (trivial) ?_
 rintro ⟨⟩ G1 hG1 _
 try refine RUN ?_
 rw [show IntKind.i64.wrap ((l.length : Int) - 0) = (l.length : Int) by rw [IntKind.wrap_i64]; omega, decide_eq_true (show (l.length : Int) ≤ 12 by omega)]
 try refine RUN ?_
 refine EVL.callW rfl rfl rfl rfl rfl ([(b, 45, cellsQ l ++ sp)]) ([]) rfl (insertion_pw (by omega) hb) ?_
 rintro v ow G2 ⟨rfl, m, rfl, hp, hr⟩ hG2
 try refine RUN ?_
 exact ⟨rfl, m, rfl, hp, hr⟩
theorem sortf_pw {H : Hp} {b cap : Nat} {l : List Rat} {sp : List Value} (hl : l.length ≤ 12) (hb : ∀ q, q ∈ l → sm q) :
  PW prog 148 #[.slice (some ⟨b, 0, none⟩) l.length cap, cmpF] H [(b, 45, cellsQ l ++ sp)] fun v ow _ => v = .tuple #[] ∧ ∃ m, ow = [(b, 45, cellsQ m ++ sp)] ∧ m.Perm l ∧ Rising m := by
 obtain ⟨z, hbl⟩ := bitsLen_pv l.length (by omega)
 refine PW.body tO func148 rfl (by kernel_rfl) ntmps148 rfl rfl ?_
 try refine RUN ?_
 rw [show IntKind.u64.wrap (l.length : Int) = (l.length : Int) by rw [wrapU64]; omega]
 repeat (first | refine RUN ?_ | refine CV (hbl) ?_ | refine CE (hbl) ?_)
 refine EVL.callW rfl rfl rfl rfl rfl ([(b, 45, cellsQ l ++ sp)]) ([]) rfl (pdq_pw z hl hb) ?_
 rintro v ow G2 ⟨rfl, m, rfl, hp, hr⟩ hG2
 try refine RUN ?_
 exact ⟨rfl, m, rfl, hp, hr⟩
theorem clone_pw {H : Hp} {v : Value} {l : List Rat} (h : QL H v l) (h0 : 0 < l.length) (hl : l.length ≤ 1000) : PW prog 147 #[v] H [] fun r ow _ => OwnL 45 5 r l.length (cellsQ l) ow := by
 have hs := h.2
 rcases hs with ⟨e, _⟩ | ⟨b, off, cap, c, rfl, _⟩
 ·omega
 ·refine PW.body tO func147 rfl (by kernel_rfl) ntmps147 rfl rfl ?_
  try refine RUN ?_
  refine EVL.eqnil tO rfl rfl rfl rfl rfl rfl rfl ?_
  try refine RUN ?_
  refine EVL.lit0 tO rfl rfl rfl rfl rfl rfl rfl fun g0 => ?_
  try refine RUN ?_
  refine EVL.append tO rfl rfl rfl rfl rfl rfl rfl rfl rfl rfl rfl rfl [] [(g0, 45, [])] [] rfl (OwnL.full (m := 0) rfl (by omega)) (SrcAt.ro h h0) (oneB_cq l) (by omega) ?_
  intro v1 ow1 hown1
  try refine RUN ?_
  rw [Nat.zero_add] at hown1
  rw [List.append_nil]
  exact hown1
theorem clone_nil {H : Hp} {v : Value} (h : QL H v []) : PC prog 147 #[v] H fun r _ => ∃ a cap, r = .slice a 0 cap := by
 obtain ⟨a, cap, rfl⟩ := SlC.val h
 refine BD func147 ntmps147 ?_
 try refine RUN ?_
 refine EVL.eqnil tO rfl rfl rfl rfl rfl rfl rfl ?_
 cases a with
 | none =>
  try refine RUN ?_
  exact ⟨_, _, rfl⟩
 | some x =>
  try refine RUN ?_
  refine EVL.lit0 tO rfl rfl rfl rfl rfl rfl rfl fun g0 => ?_
  try refine RUN ?_
  refine EVL.append0 tO rfl rfl rfl rfl rfl rfl rfl rfl rfl (Nat.le_refl _) ?_
  try refine RUN ?_
  exact ⟨_, _, rfl⟩
theorem sort_nil {H : Hp} {v : Value} (h : QL H v []) : PC prog 74 #[v] H fun r H' => QL H' r [] := by
 obtain ⟨a, cap, rfl⟩ := SlC.val h
 refine BD func74 ntmps74 ?_
 try refine RUN ?_
 refine EVL.call rfl rfl rfl rfl rfl (clone_nil h) ?_
 rintro r G1 ⟨a1, c1, rfl⟩ hG1
 repeat (first | refine RUN ?_ | refine CV (sortf_nil a1 c1) ?_ | refine CE (sortf_nil a1 c1) ?_)
 exact ⟨rfl, .inl ⟨rfl, _, _, rfl⟩⟩
theorem sort_pc {H : Hp} {v : Value} {l : List Rat} (h : QL H v l) (hl : l.length ≤ 12) (hb : ∀ q, q ∈ l → sm q) : PC prog 74 #[v] H fun r H' => ∃ m, QL H' r m ∧ m.Perm l ∧ Rising m := by
 by_cases h0 : l.length = 0
 ·obtain rfl := List.length_eq_zero_iff.1 h0
  exact (sort_nil h).mono fun r H' hr _ => ⟨[], hr, List.Perm.refl _, List.Pairwise.nil⟩
 obtain ⟨a, cap, rfl⟩ := SlC.val h
 refine BD func74 ntmps74 ?_
 try refine RUN ?_
 refine EVL.callW rfl rfl rfl rfl rfl ([]) ([]) rfl (clone_pw h (by omega) (by omega)) ?_
 intro r ow G1 hown hG1
 obtain ⟨g, cap1, sp, rfl, rfl, hlen, hc1, hc2⟩ := hown.block (by omega)
 try refine RUN ?_
 refine EVL.callW rfl rfl rfl rfl rfl ([(g, 45, cellsQ l ++ sp)]) ([]) rfl (sortf_pw hl hb) ?_
 rintro v ow G2 ⟨rfl, m, rfl, hp, hr⟩ hG2
 (first | refine EVL.publish [] [] rfl fun G3 hG3 hg => ?_ | refine EV.publish [] [] rfl fun G3 hG3 hg => ?_)
 try refine RUN ?_
 refine ⟨m, ⟨by rw [cq_len], .inr ⟨g, 0, cap1, _, by rw [hp.length_eq], by rw [hp.length_eq]; exact hc1, hg, fun j x hj => ?_⟩⟩, hp, hr⟩
 rw [Nat.zero_add, List.getElem?_toArray, List.getElem?_append_left (List.getElem?_eq_some_iff.1 hj).1]
 exact hj
theorem sortQ_pc {H : Hp} {v : Value} {l : List Rat} (h : QL H v l) (hl : l.length ≤ 12) (hb : ∀ q, q ∈ l → sm q) : PC prog 74 #[v] H fun r H' => QL H' r (sortQ l) :=
 (sort_pc h hl hb).mono fun r H' ⟨m, hm, hp, hr⟩ _ => sortQ_one hp hr ▸ hm
theorem flat_sub {α : Type} (f : α → List Value) (s : Nat) : ∀ (l : List α), (∀ x, x ∈ l → (f x).length = s) → ∀ a k : Nat, ((l.flatMap f).drop (a * s)).take (k * s) = ((l.drop a).take k).flatMap f
 | [], _, a, k => by simp
 | x :: l, h, 0, 0 => by simp
 | x :: l, h, 0, k + 1 => by
  have hx := h x (List.mem_cons_self ..)
  have ih := flat_sub f s l (fun z hz => h z (List.mem_cons_of_mem _ hz)) 0 k
  rw [Nat.zero_mul, List.drop_zero, List.drop_zero] at ih
  rw [Nat.zero_mul, List.drop_zero, List.drop_zero, List.flatMap_cons, List.take_succ_cons, List.flatMap_cons, show (k + 1) * s = (f x).length + k * s by rw [Nat.succ_mul, hx]; omega, List.take_length_add_append, ih]
 | x :: l, h, a + 1, k => by
  have hx := h x (List.mem_cons_self ..)
  have ih := flat_sub f s l (fun z hz => h z (List.mem_cons_of_mem _ hz)) a k
  rw [List.flatMap_cons, List.drop_succ_cons, show (a + 1) * s = (f x).length + a * s by rw [Nat.succ_mul, hx]; omega, List.drop_length_add_append, ih]
theorem QL.sub {H : Hp} {a : Option Addr} {cap : Nat} {l : List Rat} (h : QL H (.slice a l.length cap) l) (lo hi : Nat) (h1 : lo ≤ hi) (h2 : hi ≤ l.length) (h3 : l.length ≤ cap) : QL H (.slice (if cap = lo then a else a.map (·.add (lo * 5))) (hi - lo) (cap - lo)) ((l.drop lo).take (hi - lo)) := by
 have := SlC.sub h lo hi h1 h2 h3
 rw [flat_sub (fun q => vlist (fracV q)) 5 l (fun _ _ => rfl)] at this
 have e : ((l.drop lo).take (hi - lo)).length = hi - lo := by rw [List.length_take, List.length_drop]; omega
 unfold QL
 rw [e]
 exact this
theorem QL.cap {H : Hp} {a : Option Addr} {cap : Nat} {l : List Rat} (h : QL H (.slice a l.length cap) l) : l.length ≤ cap := by
 rcases h.2 with ⟨h0, _⟩ | ⟨b, off, cap', c, e, hc, _⟩
 ·omega
 ·cases e; exact hc
theorem median_no {H : Hp} {v : Value} (h : QL H v []) : PC prog 70 #[v] H fun r _ => r = .tuple #[fracV 0, .bool false] := by
 obtain ⟨a, cap, rfl⟩ := SlC.val h
 refine BD func70 ntmps70 ?_
 try refine RUN ?_
 rw [fracV_zero]
theorem median_pc {H : Hp} {v : Value} {l : List Rat} (h : QL H v l) (h0 : l.length ≠ 0) (hl : l.length ≤ 12) (hb : ∀ q, q ∈ l → ht q ≤ 100) : PC prog 70 #[v] H fun r _ => r = .tuple #[fracV (medQ l), .bool true] := by
 obtain ⟨a, cap, rfl⟩ := SlC.val h
 have hsm : ∀ q, q ∈ l → sm q := fun q hq => sm_of (hb q hq) (by omega)
 have hlen := (sortQ_perm l).length_eq
 have hm : sumQ (((sortQ l).drop ((l.length - 1) / 2)).take (l.length / 2 + 1 - (l.length - 1) / 2)) / ((((l.length / 2 + 1 - (l.length - 1) / 2 : Nat) : Int) : Int) : Rat) = medQ l := by
  have := med_sub (m := sortQ l) (by rw [hlen]; exact h0)
  rw [hlen] at this
  exact this
 have hbs : ∀ q, q ∈ sortQ l → ht q ≤ 100 := fun q hq => hb q ((sortQ_perm l).mem_iff.1 hq)
 have w1 : IntKind.i64.wrap ((l.length : Int).tdiv 2) = ((l.length / 2 : Nat) : Int) := by
  rw [Int.tdiv_eq_ediv_of_nonneg (by omega), IntKind.wrap_i64]; omega
 have w2 : IntKind.i64.wrap ((IntKind.i64.wrap ((l.length : Int) - 1)).tdiv 2) = (((l.length - 1) / 2 : Nat) : Int) := by
  rw [show IntKind.i64.wrap ((l.length : Int) - 1) = ((l.length - 1 : Nat) : Int) by rw [IntKind.wrap_i64]; omega, Int.tdiv_eq_ediv_of_nonneg (by omega), IntKind.wrap_i64]; omega
 have w3 : IntKind.i64.wrap (((l.length / 2 : Nat) : Int) + 1) = ((l.length / 2 + 1 : Nat) : Int) := by rw [IntKind.wrap_i64]; omega
 refine BD func70 ntmps70 ?_
 try refine RUN ?_
 rw [show ((l.length : Int) == 0) = false from beq_eq_false_iff_ne.2 (by omega)]
 try refine RUN ?_
 refine EVL.call rfl rfl rfl rfl rfl (sortQ_pc h hl hsm) ?_
 intro r G1 hr hG1
 obtain ⟨a2, cap2, rfl⟩ := SlC.val hr
 have hcap := hr.cap
 try refine RUN ?_
 rw [w1]
 try refine RUN ?_
 rw [w2, w3]
 refine EVL.slc (te' := Tryz.te45) tO rfl rfl rfl rfl rfl rfl rfl rfl ((l.length - 1) / 2) (l.length / 2 + 1) (.inr ⟨_, IntKind.i64, rfl, rfl⟩) (.inr ⟨_, IntKind.i64, rfl, rfl⟩) (by omega) (by omega) (by omega) ?_
 have hsub := hr.sub ((l.length - 1) / 2) (l.length / 2 + 1) (by omega) (by omega) hcap
 have hsl : (((sortQ l).drop ((l.length - 1) / 2)).take (l.length / 2 + 1 - (l.length - 1) / 2)).length = l.length / 2 + 1 - (l.length - 1) / 2 := by
  rw [List.length_take, List.length_drop]; omega
 have hmc := mean_pc hsub (by omega) (by omega) (fun q hq => hbs q (List.mem_of_mem_drop (List.mem_of_mem_take hq)))
 rw [hsl, hm] at hmc
 try refine RUN ?_
 refine EVL.call rfl rfl rfl rfl rfl (hmc) ?_
 rintro r2 G2 rfl hG2
 try refine RUN ?_
 rfl
end Go.Proofs.YtjifapjpgmmcnaaGreatDoor
namespace Go.Proofs.YtjifapjpgmmcnaaGreatDoor
theorem putAt_len {α : Type} (l : List α) (j : Nat) (y : α) : (putAt l j y).length = l.length + 1 := by rw [(putAt_perm l j y).length_eq, List.length_append]; rfl
theorem putAt_at {α : Type} {l : List α} {j : Nat} {y : α} (h : j ≤ l.length) : (putAt l j y)[j]? = some y := by
 have : (l.take j).length = j := by rw [List.length_take]; omega
 unfold putAt; rw [List.getElem?_append_right (by omega), this, Nat.sub_self]; rfl
theorem putAt_before {α : Type} {l : List α} {j : Nat} {y z : α} (h : l[j]? = some z) : (putAt l (j + 1) y)[j]? = some z := by
 obtain ⟨hl, _⟩ := List.getElem?_eq_some_iff.1 h
 unfold putAt
 rw [List.getElem?_append_left (by rw [List.length_take]; omega), List.getElem?_take_of_lt (by omega), h]
theorem putAt_move {α : Type} {l : List α} {j : Nat} {y z : α} (h : l[j]? = some z) : (putAt l (j + 1) y).set (j + 1) z = putAt l j z := by
 obtain ⟨hl, hz⟩ := List.getElem?_eq_some_iff.1 h
 have : (l.take (j + 1)).length = j + 1 := by rw [List.length_take]; omega
 unfold putAt
 rw [List.set_append_right _ _ (by omega), this, Nat.sub_self, List.set_cons_zero, List.take_succ_eq_append_getElem hl, hz, List.drop_eq_getElem_cons hl, hz]
 simp
theorem putAt_again {α : Type} {l : List α} {j : Nat} {y z : α} (h : j ≤ l.length) : (putAt l j y).set j z = putAt l j z := by
 have : (l.take j).length = j := by rw [List.length_take]; omega
 unfold putAt
 rw [List.set_append_right _ _ (by omega), this, Nat.sub_self, List.set_cons_zero]
theorem putAt_end {α : Type} (l : List α) (y : α) : putAt l l.length y = l ++ [y] := by unfold putAt; rw [List.take_length, List.drop_length]
theorem putAt_mem {α : Type} {l : List α} {j : Nat} {y z : α} (h : z ∈ putAt l j y) : z = y ∨ z ∈ l := by
 have := (putAt_perm l j y).mem_iff.1 h
 rcases List.mem_append.1 this with h | h
 ·exact .inr h
 ·exact .inl (List.mem_singleton.1 h)
end Go.Proofs.YtjifapjpgmmcnaaGreatDoor
namespace Go.Proofs.YtjifapjpgmmcnaaGreatDoor
open Go.RowKit _root_.Go.Proofs.Tryz
theorem RVs.put {H : Hp} {vs : List Value} {l : List Rat} {x : Value} {q : Rat} {j : Nat} (h : RVs H vs l) (k : RQ H x q) (hj : j ≤ l.length) : RVs H (putAt vs j x) (putAt l j q) := by
 have h1 := h.1
 refine ⟨by rw [putAt_len, putAt_len, h1], fun i y r e1 e2 => ?_⟩
 have t1 : (vs.take j).length = j := by rw [List.length_take]; omega
 have t2 : (l.take j).length = j := by rw [List.length_take]; omega
 unfold putAt at e1 e2
 rw [List.getElem?_append, t1] at e1
 rw [List.getElem?_append, t2] at e2
 by_cases hi : i < j
 ·rw [if_pos hi, List.getElem?_take_of_lt hi] at e1 e2
  exact h.2 i y r e1 e2
 ·rw [if_neg hi] at e1 e2
  cases hk : i - j with
  | zero => rw [hk] at e1 e2; simp at e1 e2; subst e1; subst e2; exact k
  | succ m =>
   rw [hk, List.getElem?_cons_succ, List.getElem?_drop] at e1 e2
   exact h.2 _ y r e1 e2
theorem RVs.three {H : Hp} {vs : List Value} {l : List Rat} (h : RVs H vs l) : ∀ x, x ∈ vs → (vlist x).length = 3 := fun x hx => by
 obtain ⟨i, hi, rfl⟩ := List.getElem_of_mem hx
 have := h.1
 exact (h.2 i _ _ (List.getElem?_eq_getElem hi) (List.getElem?_eq_getElem (by omega))).cells.1
theorem RVs.at {H : Hp} {vs : List Value} {l : List Rat} (h : RVs H vs l) {j : Nat} {q : Rat} (hj : l[j]? = some q) : ∃ x, vs[j]? = some x ∧ RQ H x q := by
 obtain ⟨hl, rfl⟩ := List.getElem?_eq_some_iff.1 hj
 have h1 := h.1
 exact ⟨_, List.getElem?_eq_getElem (by omega), h.2 j _ _ (List.getElem?_eq_getElem (by omega)) (List.getElem?_eq_getElem hl)⟩
theorem three_put {vs : List Value} {j : Nat} {y : Value} (h : ∀ x, x ∈ vs → (vlist x).length = 3) (hy : (vlist y).length = 3) : ∀ x, x ∈ putAt vs j y → (vlist x).length = 3 := fun x hx => by
 rcases putAt_mem hx with rfl | hx
 ·exact hy
 ·exact h x hx
theorem three_len {vs : List Value} (h : ∀ x, x ∈ vs → (vlist x).length = 3) : (vs.flatMap vlist).length = vs.length * 3 := flat_len _ 3 vs h
theorem own_put {T : TypeId} {b cap i j : Nat} {vs : List Value} {x : Value} {sp : List Value} {k : Nat} (hv : ∀ x, x ∈ vs → (vlist x).length = 3) (hvl : vs.length = i) (hx : (vlist x).length = 3) (hk : k + sp.length = cap * 3) (hk' : k = (i + 1) * 3) (h1 : i + 1 ≤ cap) (h2 : cap ≤ maxLen) :
  OwnL T 3 (.slice (some ⟨b, 0, none⟩) (i + 1) cap) (i + 1) ((putAt vs j x).flatMap vlist) [(b, T, (putAt vs j x).flatMap vlist ++ sp)] := by
 have hl : ((putAt vs j x).flatMap vlist).length = (i + 1) * 3 := by rw [three_len (three_put hv hx), putAt_len, hvl]
 exact ⟨hl, .inr ⟨b, cap, sp, rfl, rfl, by rw [List.length_append, hl]; omega, h1, h2⟩⟩
set_option maxHeartbeats 4000000 in
theorem refSort_pc {H : Hp} {v : Value} {l : List Rat} (h : RL H v l) (hl : l.length ≤ 1000) (hb : ∀ q, q ∈ l → rq q) : PC prog 75 #[v] H fun r H' => RL H' r (sortQ l) := by
 obtain ⟨a, cap, rfl⟩ := RL.val h
 refine BD func75 ntmps75 ?_
 try refine RUN ?_
 refine EV.loopK (ι := Nat × List Value × List Rat × Value × Ows) [0] [] (fun q => [(3, .v q.2.2.2.1), (4, .v (.int .i64 (q.1 : Int)))]) (fun _ => []) (fun q => q.2.2.2.2) (fun q G => q.1 ≤ l.length ∧ RVs G q.2.1 q.2.2.1 ∧ q.2.2.1.Perm (l.take q.1) ∧ Rising q.2.2.1 ∧ OwnL 30 3 q.2.2.2.1 q.1 (q.2.1.flatMap vlist) q.2.2.2.2) (fun q => l.length - q.1) ((0, [], [], .slice none 0 0, [])) rfl rfl ⟨rfl, rfl, trivial⟩ trivial rfl (fun _ => rfl) (⟨Nat.zero_le _, RVs.nil _, List.Perm.refl _, List.Pairwise.nil, OwnL.nil _ _⟩) ?_
 rintro ⟨i, vs, acc, w, ow⟩ G1 hG1 ⟨hi, hvs, hperm, hris, hown⟩
 dsimp only at hi hvs hperm hris hown
 have hal : acc.length = i := by rw [hperm.length_eq, List.length_take]; omega
 have hvl : vs.length = i := by rw [hvs.1, hal]
 have hthr := hvs.three
 obtain ⟨wa, wc, rfl⟩ := hown.val
 try refine RUN ?_
 refine EV.cond rfl (fun hlt => ?_) (fun hlt => ?_)
 ·simp only [nN] at hlt
  obtain ⟨q, hqi⟩ : ∃ q, l[i]? = some q := ⟨_, List.getElem?_eq_getElem hlt⟩
  obtain ⟨us, x, hsl, hc, hx⟩ := (h.mono hG1).at hqi
  obtain ⟨xa, xl, xc, ya, yl, yc, rfl, hx1, hx2⟩ := id hx
  have qq := hb q (List.mem_of_getElem? hqi)
  have qacc : ∀ y, y ∈ acc → rq y := fun y hy => hb y (List.mem_of_mem_take (hperm.mem_iff.1 hy))
  try refine RUN ?_
  refine EVL.idxM tO rfl rfl rfl rfl rfl rfl rfl rfl rfl (hsl) (i) (rfl) (hlt) (hc) ?_
  try refine RUN ?_
  refine EVL.app1 tO rfl rfl rfl rfl rfl rfl rfl rfl rfl rfl rfl rfl rfl rfl rfl rfl rfl rfl rfl (fun _ => rfl) (ow) ([]) ((List.append_nil _).symm) (hown) (by omega) fun _ => ?_
  intro v' ow' hown'
  have e := putAt_end vs (.agg #[.bool (decide (q.num < 0)), .slice xa xl xc, .slice ya yl yc])
  rw [hvl] at e
  have hown2 : OwnL 30 3 v' (i + 1) ((putAt vs i (.agg #[.bool (decide (q.num < 0)), .slice xa xl xc, .slice ya yl yc])).flatMap vlist) ow' := by
   rw [e, List.flatMap_append]; exact hown'
  clear hown' hown e
  generalize hX : Value.agg #[.bool (decide (q.num < 0)), .slice xa xl xc, .slice ya yl yc] = x at *
  have hx3 : (vlist x).length = 3 := hX ▸ rfl
  rcases hown2 with ⟨hk', ⟨_, h0, _⟩ | ⟨b, cap', sp, rfl, rfl, hk, hc1, hc2⟩⟩
  ·omega
  rw [List.length_append] at hk
  generalize ((putAt vs i x).flatMap vlist).length = k at hk hk'
  have hperm' : ∀ j, (putAt acc j q).Perm (l.take (i + 1)) := fun j => by
   rw [take_snoc hqi]
   exact (putAt_perm acc j q).trans (hperm.append_right [q])
  subst hX
  try refine RUN ?_
  refine EV.loopK (ι := Nat × Value) [0, 3, 4] [] (fun p => [(5, .v (.int .i64 (p.1 : Int)))]) (fun _ => []) (fun p => [(b, 30, (putAt vs p.1 p.2).flatMap vlist ++ sp)]) (fun p _ => p.1 ≤ i ∧ (vlist p.2).length = 3 ∧ ∀ y, y ∈ acc.drop p.1 → q ≤ y) (fun p => p.1) ((i, _)) rfl rfl ⟨rfl, trivial⟩ trivial rfl (fun _ => rfl) (⟨Nat.le_refl _, rfl, by rw [← hal, List.drop_length]; intro y hy; cases hy⟩) ?_
  rintro ⟨j, y⟩ G2 hG2 ⟨hj, hy, hgr⟩
  dsimp only at hj hy hgr
  have hsl2 := hsl.mono hG2
  cases j with
  | zero =>
   try refine RUN ?_
   apply EV.drawn 15 (by kernel_rfl) (by kernel_rfl); intro xv yw
   (repeat (first | refine' DV ?_ | refine' DA ?_ | refine' DK0 ?_ | refine' DT ?_ | refine' DS ?_))
   (refine DJ.nil (fun G3 hG3 hF3 => ?_); (case hS => rfl); (case hS2 => rfl))
   try refine RUN ?_
   have hj' : 0 < (putAt vs (0) y).length := by rw [putAt_len]; omega
   refine EVL.idxM tO rfl rfl rfl rfl rfl rfl rfl rfl rfl ((hsl2.mono hG3)) (i) (rfl) (hlt) (hc) ?_
   try refine RUN ?_
   refine EVL.idxB tO rfl rfl rfl rfl rfl rfl rfl rfl rfl (0) ((0) * 3) (rfl) ((by omega)) (rfl) ?_
   refine EVL.storeOwn tO rfl rfl rfl rfl rfl rfl ([]) ([]) rfl rfl rfl rfl ((by rw [List.length_append, three_len (three_put hthr hy), putAt_len, hvl]; show (0) * 3 + 3 ≤ _; omega)) ((flat_set_app (three_put hthr hy) sp (.agg #[.bool (decide (q.num < 0)), .slice xa xl xc, .slice ya yl yc]) hj')) ?_
   rw [putAt_again (by omega)]
   try refine RUN ?_
   refine ⟨(i + 1, putAt vs (0) (.agg #[.bool (decide (q.num < 0)), .slice xa xl xc, .slice ya yl yc]), putAt acc (0) q, .slice (some ⟨b, 0, none⟩) (i + 1) cap', [(b, 30, (putAt vs (0) (.agg #[.bool (decide (q.num < 0)), .slice xa xl xc, .slice ya yl yc])).flatMap vlist ++ sp)]), ⟨rfl, ?_, trivial⟩, (by repeat (first | exact trivial | refine And.intro rfl ?_)), trivial, trivial, rfl, ⟨by dsimp only; omega, (hvs.mono (hG2.trans hG3)).put ((hx.mono hG2).mono hG3) (by omega), hperm' _, putAt_rising hris (by intro y hy; rw [List.take_zero] at hy; cases hy) hgr, own_put hthr hvl rfl hk hk' hc1 hc2⟩, hG2.trans hG3, by dsimp only; omega⟩
   rw [wi_inc i (by omega)]; rfl
  | succ j =>
   obtain ⟨r, hrj⟩ : ∃ r, acc[j]? = some r := ⟨_, List.getElem?_eq_getElem (by omega)⟩
   obtain ⟨z, hzj, hz⟩ := (hvs.mono hG2).at hrj
   obtain ⟨za, zl, zc, wa', wl', wc', rfl, hz1, hz2⟩ := id hz
   have qr := qacc r (List.mem_of_getElem? hrj)
   have hcmp := fun G (hG : G2.Le G) => refCmp_pc (hz.mono hG) ((hx.mono hG2).mono hG) qr qq
   have hgt : ordR r q > 0 → q ≤ r := fun h => by
    unfold ordR at h; split at h
    ·omega
    ·split at h
     ·exact Rat.le_of_lt (by assumption)
     ·omega
   have hle : ¬ ordR r q > 0 → r ≤ q := fun h => by
    unfold ordR at h; split at h
    ·exact Rat.le_of_lt (by assumption)
    ·split at h
     ·omega
     ·rename_i k1 k2; exact Rat.not_lt.1 k2
   generalize ordR r q = o at *
   try refine RUN ?_
   apply EV.drawn 15 (by kernel_rfl) (by kernel_rfl); intro xv yw
   (repeat (first | refine' DV ?_ | refine' DA ?_ | refine' DK0 ?_ | refine' DT ?_ | refine' DS ?_))
   rw [decide_eq_true (show ((j + 1 : Nat) : Int) > 0 by omega)]
   (repeat (first | refine' DV ?_ | refine' DA ?_ | refine' DK0 ?_ | refine' DT ?_ | refine' DS ?_))
   refine' DJ.idxB tO rfl rfl rfl rfl rfl rfl rfl rfl rfl (j) (j * 3) ((by rw [IntKind.wrap_i64]; omega)) ((by omega)) (rfl) ?_; rotate_left
   refine' DJ.ofVal (ValOk.loadOwn tO rfl rfl rfl rfl (0) rfl (flat_get_app (three_put hthr hy) sp (putAt_before hzj)) rfl rfl) rfl rfl rfl ?_; rotate_left
   (repeat (first | refine' DV ?_ | refine' DA ?_ | refine' DK0 ?_ | refine' DT ?_ | refine' DS ?_))
   refine' DJ.idxM tO rfl rfl rfl rfl rfl rfl rfl rfl rfl (hsl2) (i) (rfl) (hlt) (hc) ?_; rotate_left
   (repeat (first | refine' DV ?_ | refine' DA ?_ | refine' DK0 ?_ | refine' DT ?_ | refine' DS ?_))
   refine' DJ.callS rfl rfl rfl rfl rfl (cO func49) (fun G hG hd => hcmp G hG) ?_; rotate_left
   (repeat (first | refine' DV ?_ | refine' DA ?_ | refine' DK0 ?_ | refine' DT ?_ | refine' DS ?_))
   (refine DJ.nil (fun G3 hG3 hF3 => ?_); (case hS => rfl); (case hS2 => rfl))
   try refine RUN ?_
   by_cases ho : o > 0
   ·rw [decide_eq_true ho]
    try refine RUN ?_
    refine EVL.idxB tO rfl rfl rfl rfl rfl rfl rfl rfl rfl (j) (j * 3) ((by rw [IntKind.wrap_i64]; omega)) ((by omega)) (rfl) ?_
    refine EVL.loadOwn tO rfl rfl rfl rfl rfl rfl (0) rfl (flat_get_app (three_put hthr hy) sp (putAt_before hzj)) rfl rfl ?_
    try refine RUN ?_
    refine EVL.idxB tO rfl rfl rfl rfl rfl rfl rfl rfl rfl (j + 1) ((j + 1) * 3) (rfl) ((by omega)) (rfl) ?_
    refine EVL.storeOwn tO rfl rfl rfl rfl rfl rfl ([]) ([]) rfl rfl rfl rfl ((by rw [List.length_append, three_len (three_put hthr hy), putAt_len, hvl]; show (j + 1) * 3 + 3 ≤ _; omega)) ((flat_set_app (three_put hthr hy) sp (.agg #[.bool (decide (r.num < 0)), .slice za zl zc, .slice wa' wl' wc']) (by rw [putAt_len]; omega))) ?_
    rw [putAt_move hzj]
    try refine RUN ?_
    refine ⟨(j, .agg #[.bool (decide (r.num < 0)), .slice za zl zc, .slice wa' wl' wc']), ⟨?_, trivial⟩, (by repeat (first | exact trivial | refine And.intro rfl ?_)), trivial, trivial, rfl, ⟨by dsimp only; omega, rfl, ?_⟩, hG3, by dsimp only; omega⟩
    ·rw [show IntKind.i64.wrap (((j + 1 : Nat) : Int) - 1) = (j : Int) by rw [IntKind.wrap_i64]; omega]; rfl
    ·intro z' hz'
     dsimp only at hz'
     rw [drop_at hrj] at hz'
     rcases List.mem_cons.1 hz' with rfl | hz'
     ·exact hgt ho
     ·exact hgr z' hz'
   ·rw [decide_eq_false ho]
    try refine RUN ?_
    have hj' : j + 1 < (putAt vs (j + 1) y).length := by rw [putAt_len]; omega
    refine EVL.idxM tO rfl rfl rfl rfl rfl rfl rfl rfl rfl ((hsl2.mono hG3)) (i) (rfl) (hlt) (hc) ?_
    try refine RUN ?_
    refine EVL.idxB tO rfl rfl rfl rfl rfl rfl rfl rfl rfl (j + 1) ((j + 1) * 3) (rfl) ((by omega)) (rfl) ?_
    refine EVL.storeOwn tO rfl rfl rfl rfl rfl rfl ([]) ([]) rfl rfl rfl rfl ((by rw [List.length_append, three_len (three_put hthr hy), putAt_len, hvl]; show (j + 1) * 3 + 3 ≤ _; omega)) ((flat_set_app (three_put hthr hy) sp (.agg #[.bool (decide (q.num < 0)), .slice xa xl xc, .slice ya yl yc]) hj')) ?_
    rw [putAt_again (by omega)]
    try refine RUN ?_
    refine ⟨(i + 1, putAt vs (j + 1) (.agg #[.bool (decide (q.num < 0)), .slice xa xl xc, .slice ya yl yc]), putAt acc (j + 1) q, .slice (some ⟨b, 0, none⟩) (i + 1) cap', [(b, 30, (putAt vs (j + 1) (.agg #[.bool (decide (q.num < 0)), .slice xa xl xc, .slice ya yl yc])).flatMap vlist ++ sp)]), ⟨rfl, ?_, trivial⟩, (by repeat (first | exact trivial | refine And.intro rfl ?_)), trivial, trivial, rfl, ⟨by dsimp only; omega, (hvs.mono (hG2.trans hG3)).put ((hx.mono hG2).mono hG3) (by omega), hperm' _, putAt_rising hris (rising_take hris hrj (hle ho)) hgr, own_put hthr hvl rfl hk hk' hc1 hc2⟩, hG2.trans hG3, by dsimp only; omega⟩
    rw [wi_inc i (by omega)]; rfl
 ·simp only [nN] at hlt
  obtain rfl : i = l.length := by omega
  rw [List.take_length] at hperm
  (first | refine EVL.publishL [] ow [] ((List.append_nil _).symm) hown fun G2 hG2 hs => ?_ | refine EV.publishL [] ow [] ((List.append_nil _).symm) hown fun G2 hG2 hs => ?_)
  try refine RUN ?_
  rw [← sortQ_one hperm hris]
  exact (hvs.mono hG2).rl (by rw [hal]; exact hs)
theorem medQ_of {l : List Rat} {p p' : Rat} (h : (sortQ l)[(l.length - 1) / 2]? = some p) (h' : (sortQ l)[l.length / 2]? = some p') : medQ l = (p + p') / 2 := by
 unfold medQ
 rw [List.getD_eq_getElem?_getD, List.getD_eq_getElem?_getD, h, h']; rfl
theorem rat_two : ((2 : Int) : Rat) = 2 := rfl
theorem ht_two : ht ((2 : Int) : Rat) ≤ 20 := Nat.le_trans (ht_int 2) (by have : bl (2 : Int).natAbs ≤ 17 := bl_le (by decide); omega)
set_option maxHeartbeats 4000000 in
theorem refMedian_pc {H : Hp} {v : Value} {l : List Rat} (h : RL H v l) (h0 : l.length ≠ 0) (hl : l.length ≤ 12) (hb : ∀ q, q ∈ l → ht q ≤ 100) : PC prog 81 #[v] H fun r H' => RQ H' r (medQ l) := by
 obtain ⟨a, cap, rfl⟩ := RL.val h
 have hrq : ∀ q, q ∈ l → rq q := fun q hq => Nat.le_trans (hb q hq) (by omega)
 have hlen := (sortQ_perm l).length_eq
 have hbs : ∀ q, q ∈ sortQ l → ht q ≤ 100 := fun q hq => hb q ((sortQ_perm l).mem_iff.1 hq)
 have w1 : IntKind.i64.wrap ((l.length : Int).tdiv 2) = ((l.length / 2 : Nat) : Int) := by
  rw [Int.tdiv_eq_ediv_of_nonneg (by omega), IntKind.wrap_i64]; omega
 have w2 : IntKind.i64.wrap ((IntKind.i64.wrap ((l.length : Int) - 1)).tdiv 2) = (((l.length - 1) / 2 : Nat) : Int) := by
  rw [show IntKind.i64.wrap ((l.length : Int) - 1) = ((l.length - 1 : Nat) : Int) by rw [IntKind.wrap_i64]; omega, Int.tdiv_eq_ediv_of_nonneg (by omega), IntKind.wrap_i64]; omega
 obtain ⟨p, hp⟩ : ∃ p, (sortQ l)[(l.length - 1) / 2]? = some p := ⟨_, List.getElem?_eq_getElem (by omega)⟩
 obtain ⟨p', hp'⟩ : ∃ p, (sortQ l)[l.length / 2]? = some p := ⟨_, List.getElem?_eq_getElem (by omega)⟩
 have b1 := hbs p (List.mem_of_getElem? hp)
 have b2 := hbs p' (List.mem_of_getElem? hp')
 have b3 := ht_add p p'
 have b4 := ht_two
 have hof := fun G : Hp => refOf_pc (H := G) 2 (by omega) (by omega)
 rw [medQ_of hp hp']
 refine BD func81 ntmps81 ?_
 try refine RUN ?_
 refine EVL.call rfl rfl rfl rfl rfl (refSort_pc h (by omega) hrq) ?_
 intro r G1 hr hG1
 obtain ⟨a2, cap2, rfl⟩ := hr.val
 obtain ⟨vs, x, hsl, hc, hx⟩ := hr.at hp
 obtain ⟨xa, xl, xc, ya, yl, yc, rfl, hx1, hx2⟩ := id hx
 obtain ⟨vs2, x2, hsl2, hc2, hy⟩ := hr.at hp'
 obtain ⟨za, zl, zc, wa, wl, wc, rfl, hy1, hy2⟩ := id hy
 rw [hlen] at hsl hsl2 ⊢
 try refine RUN ?_
 apply EV.drawn 11 (by kernel_rfl) (by kernel_rfl); intro xv yw
 (repeat (first | refine' DV ?_ | refine' DA ?_ | refine' DK0 ?_ | refine' DT ?_ | refine' DS ?_))
 refine' DJ.idxM tO rfl rfl rfl rfl rfl rfl rfl rfl rfl (hsl) ((l.length - 1) / 2) (w2) ((by omega)) (hc) ?_; rotate_left
 (repeat (first | refine' DV ?_ | refine' DA ?_ | refine' DK0 ?_ | refine' DT ?_ | refine' DS ?_))
 refine' DJ.idxM tO rfl rfl rfl rfl rfl rfl rfl rfl rfl (hsl2) (l.length / 2) (w1) ((by omega)) (hc2) ?_; rotate_left
 (repeat (first | refine' DV ?_ | refine' DA ?_ | refine' DK0 ?_ | refine' DT ?_ | refine' DS ?_))
 (refine DJ.nil (fun G2 hG2 hF2 => ?_); (case hS => rfl); (case hS2 => rfl))
 try refine RUN ?_
 refine EVL.call rfl rfl rfl rfl rfl (refAdd_pc (hx.mono hG2) (hy.mono hG2) (Nat.le_trans b1 (by omega)) (Nat.le_trans b2 (by omega))) ?_
 rintro r3 G3 h3 hG3
 try refine RUN ?_
 refine EVL.call rfl rfl rfl rfl rfl (hof _) ?_
 rintro r4 G4 h4 hG4
 try refine RUN ?_
 refine EVL.call rfl rfl rfl rfl rfl (refDivQ_pc (h3.mono hG4) h4 (Nat.le_trans b3 (by omega)) (Nat.le_trans b4 (by omega)) (by decide)) ?_
 rintro r5 G5 ⟨_, _, _, _, _, _, rfl, d1, d2⟩ _
 try refine RUN ?_
 exact ⟨_, _, _, _, _, _, rfl, d1, d2⟩
theorem ordR_three (a b : Rat) : ordR a b = -1 ∨ ordR a b = 0 ∨ ordR a b = 1 := by
 unfold ordR; split
 ·exact .inl rfl
 ·split
  ·exact .inr (.inr rfl)
  ·exact .inr (.inl rfl)
theorem at_pc {H : Hp} {v w : Value} {p q : Rat} (hv : RQ H v p) (hw : RQ H w q) (bp : rq p) (bq : rq q) (s : Int) (hs : s = 1 ∨ s = -1) : PC prog 83 #[v, w, .int .i64 s] H fun r H' => RQ H' r (if ordR p q * s ≥ 0 then p else q) := by
 obtain ⟨xa, xl, xc, ya, yl, yc, rfl, hx1, hx2⟩ := id hv
 obtain ⟨za, zl, zc, wa, wl, wc, rfl, hy1, hy2⟩ := id hw
 have ho : IntKind.i64.wrap (ordR p q * s) = ordR p q * s := by
  rcases ordR_three p q with h | h | h <;> rcases hs with rfl | rfl <;> rw [h] <;> decide
 have hcmp := refCmp_pc hv hw bp bq
 refine BD func83 ntmps83 ?_
 try refine RUN ?_
 refine EVL.call rfl rfl rfl rfl rfl (hcmp) ?_
 rintro r G1 rfl hG1
 generalize ordR p q = o at *
 try refine RUN ?_
 rw [ho]
 by_cases h : o * s ≥ 0
 ·rw [decide_eq_true h, if_pos h]
  try refine RUN ?_
  exact hv.mono hG1
 ·rw [decide_eq_false h, if_neg h]
  try refine RUN ?_
  exact hw.mono hG1
theorem list_pc {H : Hp} {v : Value} {l : List Int} (h : IL H v l) (hb : ∀ z, z ∈ l → -9223372036854775808 ≤ z ∧ z < 9223372036854775808) : PC prog 66 #[v] H fun r H' => RL H' r (rowQ l (min l.length 12)) := by
 obtain ⟨a, cap, rfl⟩ := SlC.val h
 have hrow := row_pc h hb (min l.length 12) (by omega)
 refine BD func66 ntmps66 ?_
 try refine RUN ?_
 rw [show (if 12 < (l.length : Int) then (12 : Int) else l.length) = ((min l.length 12 : Nat) : Int) by split <;> omega]
 refine EVL.call rfl rfl rfl rfl rfl (hrow) ?_
 rintro r G1 hr hG1
 try refine RUN ?_
 exact hr
theorem rat_zero_div (x : Rat) : 0 / x = 0 := by rw [Rat.div_def, Rat.zero_mul]
def meanQ (l : List Rat) : Rat := sumQ l / ((l.length : Int) : Rat)
theorem mean_any {H : Hp} {v : Value} {l : List Rat} (h : QL H v l) (hl : l.length ≤ 12) (hb : ∀ q, q ∈ l → ht q ≤ 100) : PC prog 68 #[v] H fun r _ => r = .tuple #[fracV (meanQ l), .bool (decide ((l.length : Int) > 0))] := by
 by_cases h0 : l.length = 0
 ·obtain rfl := List.length_eq_zero_iff.1 h0
  rw [show meanQ [] = 0 from rat_zero_div _]
  exact mean_no h
 ·rw [decide_eq_true (show (l.length : Int) > 0 by omega)]
  exact mean_pc h (by omega) h0 hb
theorem medQ_nil : medQ [] = 0 := by
 have : sortQ [] = [] := List.mergeSort_nil
 unfold medQ
 rw [this]
 show ((0 : Rat) + 0) / 2 = 0
 rw [Rat.add_zero]; exact rat_zero_div _
theorem median_any {H : Hp} {v : Value} {l : List Rat} (h : QL H v l) (hl : l.length ≤ 12) (hb : ∀ q, q ∈ l → ht q ≤ 100) : PC prog 70 #[v] H fun r _ => r = .tuple #[fracV (medQ l), .bool (decide ((l.length : Int) > 0))] := by
 by_cases h0 : l.length = 0
 ·obtain rfl := List.length_eq_zero_iff.1 h0
  rw [medQ_nil]
  exact median_no h
 ·rw [decide_eq_true (show (l.length : Int) > 0 by omega)]
  exact median_pc h h0 hl hb
def dotQ (l m : List Rat) : Rat := if l.length = m.length then sumQ (dotL l m) else 0
theorem dot_any {H : Hp} {u v : Value} {l m : List Rat} (hu : QL H u l) (hv : QL H v m) (hl : l.length ≤ 12) (hb : ∀ q, q ∈ l → ht q ≤ 50) (hb' : ∀ q, q ∈ m → ht q ≤ 50) : PC prog 69 #[u, v] H fun r _ => r = .tuple #[fracV (dotQ l m), .bool ((l.length : Int) == (m.length : Int))] := by
 unfold dotQ
 by_cases h0 : l.length = m.length
 ·rw [if_pos h0, show ((l.length : Int) == (m.length : Int)) = true by rw [h0]; simp]
  exact dot_pc hu hv h0 (by omega) hb hb'
 ·rw [if_neg h0, show ((l.length : Int) == (m.length : Int)) = false from beq_eq_false_iff_ne.2 (by omega)]
  exact dot_no hu hv h0
theorem rowQ_ht {l : List Int} (n : Nat) : ∀ q, q ∈ rowQ l n → ht q ≤ 5 := fun q hq => by
 obtain ⟨i, hi, rfl⟩ := List.mem_map.1 hq
 split
 ·exact ht_rNum _
 ·rw [ht_zero]; omega
theorem ordR_neg (a b : Rat) : ordR b a = - ordR a b := by
 unfold ordR
 by_cases h : a < b
 ·have : ¬ b < a := fun k => Rat.not_lt.2 (Rat.le_of_lt h) k
  rw [if_pos h, if_neg this, if_pos h]; rfl
 ·rw [if_neg h]
  by_cases k : b < a
  ·rw [if_pos k, if_neg h, if_pos k]
  ·rw [if_neg k, if_neg h, if_neg k]; rfl
theorem max_at (p n : Rat) : (if ordR n p > 0 then n else p) = (if ordR p n * 1 ≥ 0 then p else n) := by
 rw [ordR_neg p n]
 rcases ordR_three p n with h | h | h <;> rw [h] <;> rfl
theorem min_at (p n : Rat) : (if ordR n p < 0 then n else p) = (if ordR p n * (-1) ≥ 0 then p else n) := by
 rw [ordR_neg p n]
 rcases ordR_three p n with h | h | h <;> rw [h] <;> rfl
theorem eq_not (b : Bool) : (!(b == b)) = false := by cases b <;> rfl
theorem med_ht {l : List Rat} (h0 : l.length ≠ 0) (hb : ∀ q, q ∈ l → ht q ≤ 100) : ht (medQ l) ≤ 300 := by
 have hlen := (sortQ_perm l).length_eq
 have hbs : ∀ q, q ∈ sortQ l → ht q ≤ 100 := fun q hq => hb q ((sortQ_perm l).mem_iff.1 hq)
 obtain ⟨p, hp⟩ : ∃ p, (sortQ l)[(l.length - 1) / 2]? = some p := ⟨_, List.getElem?_eq_getElem (by omega)⟩
 obtain ⟨p', hp'⟩ : ∃ p, (sortQ l)[l.length / 2]? = some p := ⟨_, List.getElem?_eq_getElem (by omega)⟩
 have b1 := hbs p (List.mem_of_getElem? hp)
 have b2 := hbs p' (List.mem_of_getElem? hp')
 have b3 := ht_add p p'
 have b4 := ht_two
 rw [medQ_of hp hp']
 have b5 := ht_div (p + p') ((2 : Int) : Rat)
 rw [rat_two] at b4 b5
 omega
theorem mean_ht {l : List Rat} (hl : l.length ≤ 12) (hb : ∀ q, q ∈ l → ht q ≤ 100) : ht (meanQ l) ≤ 2000 := by
 have b1 := ht_sum 100 l hb
 have b2 : (100 + 1) * l.length ≤ 101 * 12 := Nat.mul_le_mul_left 101 hl
 have b3 := ht_len (n := l.length) (by omega)
 have b4 := ht_div (sumQ l) ((l.length : Int) : Rat)
 unfold meanQ
 omega
theorem dot_rq {l m : List Rat} (hl : l.length ≤ 12) (hb : ∀ q, q ∈ l → ht q ≤ 50) (hb' : ∀ q, q ∈ m → ht q ≤ 50) : rq (sumQ (dotL l m)) := by
 have h1 := ht_sum 100 (dotL l m) (dotL_ht hb hb')
 have h2 : (dotL l m).length ≤ 12 := by unfold dotL; rw [List.length_zipWith]; omega
 have h3 : (100 + 1) * (dotL l m).length ≤ 101 * 12 := Nat.mul_le_mul_left 101 h2
 exact rq_small (Nat.le_trans h1 (Nat.add_le_add_left h3 1)) (by omega)
set_option maxHeartbeats 8000000 in
theorem lists_pc {H : Hp} {v0 v1 : Value} {l0 l1 : List Int} (h0 : IL H v0 l0) (h1 : IL H v1 l1) (b0 : ∀ z, z ∈ l0 → -9223372036854775808 ≤ z ∧ z < 9223372036854775808) (b1 : ∀ z, z ∈ l1 → -9223372036854775808 ≤ z ∧ z < 9223372036854775808) (hkn : PV prog 22 #[] (.bool true)) : PC prog 10 #[v0, v1] H fun r _ => r = .bool true := by
 obtain ⟨a0, c0, rfl⟩ := SlC.val h0
 obtain ⟨a1, c1, rfl⟩ := SlC.val h1
 have hl0 := list_pc h0 b0
 have hl1 := fun (G : Hp) (hG : H.Le G) => list_pc (h1.mono hG) b1
 have p5 := rowQ_ht (l := l0) (min l0.length 12)
 have q5 := rowQ_ht (l := l1) (min l1.length 12)
 have pl : (rowQ l0 (min l0.length 12)).length ≤ 12 := by rw [rowQ_len]; omega
 have ql : (rowQ l1 (min l1.length 12)).length ≤ 12 := by rw [rowQ_len]; omega
 generalize rowQ l0 (min l0.length 12) = P at *
 generalize rowQ l1 (min l1.length 12) = Q at *
 have p50 : ∀ q, q ∈ P → ht q ≤ 50 := fun q h => Nat.le_trans (p5 q h) (by omega)
 have q50 : ∀ q, q ∈ Q → ht q ≤ 50 := fun q h => Nat.le_trans (q5 q h) (by omega)
 have p100 : ∀ q, q ∈ P → ht q ≤ 100 := fun q h => Nat.le_trans (p5 q h) (by omega)
 have q100 : ∀ q, q ∈ Q → ht q ≤ 100 := fun q h => Nat.le_trans (q5 q h) (by omega)
 have psm : ∀ q, q ∈ P → sm q := fun q h => sm_of (p5 q h) (by omega)
 have qsm : ∀ q, q ∈ Q → sm q := fun q h => sm_of (q5 q h) (by omega)
 have prq : ∀ q, q ∈ P → rq q := fun q h => rq_small (p5 q h) (by omega)
 have qrq : ∀ q, q ∈ Q → rq q := fun q h => rq_small (q5 q h) (by omega)
 clear p5 q5
 refine BD func10 ntmps10 ?_
 try refine RUN ?_
 refine EVL.call rfl rfl rfl rfl rfl (hl0) ?_
 intro r1 G1 hP hG1
 obtain ⟨pa, pc, rfl⟩ := hP.val
 try refine RUN ?_
 refine EVL.call rfl rfl rfl rfl rfl (hl1 _ hG1) ?_
 intro r2 G2 hQ hG2
 obtain ⟨qa, qc, rfl⟩ := hQ.val
 try refine RUN ?_
 refine EVL.call rfl rfl rfl rfl rfl (inRow_pc (hP.mono hG2) (by omega) prq) ?_
 intro r3 G3 hA hG3
 obtain ⟨aa, ac, rfl⟩ := SlC.val hA
 try refine RUN ?_
 refine EVL.call rfl rfl rfl rfl rfl (inRow_pc (hQ.mono hG3) (by omega) qrq) ?_
 intro r4 G4 hB hG4
 obtain ⟨ba, bc, rfl⟩ := SlC.val hB
 have hA4 : QL G4 _ P := hA.mono hG4
 have hP4 := hP.mono (hG2.trans (hG3.trans hG4))
 have hQ4 := hQ.mono (hG3.trans hG4)
 clear hA hP hQ hl0 hl1 h0 h1 b0 b1
 have hmean := mean_any hA4 pl p100
 have hdot := dot_any hA4 hB pl p50 q50
 have hmed := median_any hA4 pl p100
 have hsum := sum_pc hA4 (by omega) p100
 have qsum : rq (sumQ P) := rq_small (Nat.le_trans (ht_sum 100 P p100) (Nat.add_le_add_left (Nat.mul_le_mul_left 101 pl) 1)) (by omega)
 repeat (first | refine RUN ?_ | refine CV (hmean) ?_ | refine CV (hdot) ?_ | refine CV (hmed) ?_ | refine CV (hkn) ?_ | refine CV (hsum) ?_ | refine CE (hmean) ?_ | refine CE (hdot) ?_ | refine CE (hmed) ?_ | refine CE (hkn) ?_ | refine CE (hsum) ?_)
 refine EVL.call rfl rfl rfl rfl rfl (refTotal_pc hP4 (by omega) p100) ?_
 intro r5 G5 hT hG5
 have hsame := same_self hT qsum
 repeat (first | refine RUN ?_ | refine CV (hsame) ?_ | refine CE (hsame) ?_)
 refine EVL.call rfl rfl rfl rfl rfl (sortQ_pc (hA4.mono hG5) pl psm) ?_
 intro r6 G6 hS hG6
 obtain ⟨sa, sc, rfl⟩ := SlC.val hS
 try refine RUN ?_
 refine EVL.call rfl rfl rfl rfl rfl (refSort_pc (hP4.mono (hG5.trans hG6)) (by omega) prq) ?_
 intro r7 G7 hR hG7
 obtain ⟨ra, rc, rfl⟩ := hR.val
 have hlen := (sortQ_perm P).length_eq
 have srq : ∀ q, q ∈ sortQ P → rq q := fun q h => prq q ((sortQ_perm P).mem_iff.1 h)
 have hG47 := hG5.trans (hG6.trans hG7)
 have hA7 : QL G7 _ P := hA4.mono hG47
 have hB7 : QL G7 _ Q := SlC.mono hB hG47
 have hP7 := hP4.mono hG47
 have hQ7 := hQ4.mono hG47
 have hsr := sameRow_pc (hS.mono hG7) hR (by omega) srq
 have hsq := sameQ_pc hA7 hB7 (by omega) (by omega) psm qsm
 have hrs := refSame_pc hP7 hQ7 (by omega) (by omega) prq qrq
 have hlq := lessQ_pc hA7 hB7 (by omega) (by omega) psm qsm
 have hrl := refLess_pc hP7 hQ7 (by omega) (by omega) prq qrq
 repeat (first | refine RUN ?_ | refine CV (hsr) ?_ | refine CV (hsq) ?_ | refine CV (hrs) ?_ | refine CE (hsr) ?_ | refine CE (hsq) ?_ | refine CE (hrs) ?_)
 refine EVL.neb rfl rfl rfl rfl rfl rfl (by kernel_rfl) ?_
 rw [eq_not]
 repeat (first | refine RUN ?_ | refine CV (hlq) ?_ | refine CV (hrl) ?_ | refine CE (hlq) ?_ | refine CE (hrl) ?_)
 refine EVL.neb rfl rfl rfl rfl rfl rfl (by kernel_rfl) ?_
 rw [eq_not]
 try refine RUN ?_
 refine EVL.neb rfl rfl rfl rfl rfl rfl (by kernel_rfl) ?_
 rw [eq_not]
 try refine RUN ?_
 refine EVL.neb rfl rfl rfl rfl rfl rfl (by kernel_rfl) ?_
 rw [eq_not]
 try refine RUN ?_
 refine EVL.neb rfl rfl rfl rfl rfl rfl (by kernel_rfl) ?_
 rw [eq_not]
 try refine RUN ?_
 refine EVL.call rfl rfl rfl rfl rfl (inRow_pc hP7 (by omega) prq) ?_
 intro r8 G8 hI hG8
 obtain ⟨ia, ic, rfl⟩ := SlC.val hI
 have hqi := sameQ_pc (hA7.mono hG8) hI (by omega) (by omega) psm psm
 rw [decide_eq_true rfl] at hqi
 have hP8 := hP7.mono hG8
 have hQ8 := hQ7.mono hG8
 have hA8 : SlC G8 _ P.length 5 (P.flatMap fun q => vlist (fracV q)) := hA7.mono hG8
 clear hA4 hP4 hQ4 hA7 hB7 hP7 hQ7 hmean hdot hmed hsum hsr hsq hrs hlq hrl hS hR hT hsame hI hB
 repeat (first | refine RUN ?_ | refine CV (hqi) ?_ | refine CE (hqi) ?_)
 by_cases h0 : P.length = 0
 ·rw [decide_eq_false (show ¬ (P.length : Int) > 0 by omega)]
  apply EV.drawn 45 (by kernel_rfl) (by kernel_rfl); intro xv yw
  (repeat (first | refine' DV ?_ | refine' DA ?_ | refine' DK0 ?_ | refine' DT ?_ | refine' DS ?_))
  (refine DJ.nil (fun G9 hG9 hF9 => ?_); (case hS => rfl); (case hS2 => rfl))
  try refine RUN ?_
  have hGe := hG9
  by_cases hlm : P.length = Q.length
  ·rw [show ((P.length : Int) == (Q.length : Int)) = true from beq_iff_eq.2 (by omega)]
   have hdq : dotQ P Q = sumQ (dotL P Q) := if_pos hlm
   have rdot : rq (sumQ (dotL P Q)) := dot_rq pl p50 q50
   rw [hdq]
   apply EV.drawn 17 (by kernel_rfl) (by kernel_rfl); intro xv yw
   (repeat (first | refine' DV ?_ | refine' DA ?_ | refine' DK0 ?_ | refine' DT ?_ | refine' DS ?_))
   refine' DJ.call rfl rfl rfl rfl rfl (cO func85) (fun G hG hd => refDot_pc ((hP8.mono hGe).mono hG) ((hQ8.mono hGe).mono hG) hlm (by omega) p50 q50) (fun _ _ _ h k => RQ.mono h k) ?_; rotate_left
   refine' DJ.callS rfl rfl rfl rfl rfl (cO func23) (fun G hG hd => same_self (hd.head (by kernel_rfl)) rdot) ?_; rotate_left
   (repeat (first | refine' DV ?_ | refine' DA ?_ | refine' DK0 ?_ | refine' DT ?_ | refine' DS ?_))
   (refine DJ.nil (fun G0 hG0 hF0 => ?_); (case hS => rfl); (case hS2 => rfl))
   try refine RUN ?_
   rfl
  ·rw [show ((P.length : Int) == (Q.length : Int)) = false from beq_eq_false_iff_ne.2 (by omega)]
   have hs0 := sign_pv 0 (Nat.le_trans (sm_of (n := 1) (Nat.le_of_eq ht_zero) (by omega)).num (by omega))
   have hdq : dotQ P Q = 0 := if_neg hlm
   rw [hdq]
   apply EV.drawn 17 (by kernel_rfl) (by kernel_rfl); intro xv yw
   (repeat (first | refine' DV ?_ | refine' DA ?_ | refine' DK0 ?_ | refine' DT ?_ | (refine' DC (hs0) (h := ?_); rotate_left) | refine' DS ?_))
   (refine DJ.nil (fun G0 hG0 hF0 => ?_); (case hS => rfl); (case hS2 => rfl))
   try refine RUN ?_
   rfl
 ·rw [decide_eq_true (show (P.length : Int) > 0 by omega)]
  obtain ⟨p, hp⟩ : ∃ p, P[0]? = some p := ⟨_, List.getElem?_eq_getElem (by omega)⟩
  obtain ⟨vs, x, hsl, hc, hx⟩ := hP8.at hp
  obtain ⟨xa, xl, xc, ya, yl, yc, rfl, hx1, hx2⟩ := id hx
  have bp := p100 p (List.mem_of_getElem? hp)
  have bm := med_ht h0 p100
  have bmean := mean_ht pl p100
  have sp : sm p := sm_of bp (by omega)
  have smd : sm (medQ P) := sm_of bm (by omega)
  have rp : rq p := rq_small bp (by omega)
  have rmd : rq (medQ P) := rq_small bm (by omega)
  have rmean : rq (meanQ P) := rq_small bmean (by omega)
  have r1 : rq (if ordR p (medQ P) * 1 ≥ 0 then p else medQ P) := by split <;> assumption
  have r2 : rq (if ordR p (medQ P) * (-1) ≥ 0 then p else medQ P) := by split <;> assumption
  have hmax := max_pv p (medQ P) sp smd
  rw [max_at] at hmax
  have hmin := min_pv p (medQ P) sp smd
  rw [min_at] at hmin
  apply EV.drawn 45 (by kernel_rfl) (by kernel_rfl); intro xv yw
  (repeat (first | refine' DV ?_ | refine' DA ?_ | refine' DK0 ?_ | refine' DT ?_ | refine' DS ?_))
  refine' DJ.call rfl rfl rfl rfl rfl (cO func80) (fun G hG hd => refMean_pc (hP8.mono hG) (by omega) h0 p100) (fun _ _ _ h k => RQ.mono h k) ?_; rotate_left
  refine' DJ.callS rfl rfl rfl rfl rfl (cO func23) (fun G hG hd => same_self (p := meanQ P) (hd.head (by kernel_rfl)) rmean) ?_; rotate_left
  (repeat (first | refine' DV ?_ | refine' DA ?_ | refine' DK0 ?_ | refine' DT ?_ | refine' DS ?_))
  refine' DJ.call rfl rfl rfl rfl rfl (cO func81) (fun G hG hd => refMedian_pc (hP8.mono hG) h0 pl p100) (fun _ _ _ h k => RQ.mono h k) ?_; rotate_left
  refine' DJ.callS rfl rfl rfl rfl rfl (cO func23) (fun G hG hd => same_self (hd.head (by kernel_rfl)) rmd) ?_; rotate_left
  (repeat (first | refine' DV ?_ | refine' DA ?_ | refine' DK0 ?_ | refine' DT ?_ | refine' DS ?_))
  refine' DJ.idxM tO rfl rfl rfl rfl rfl rfl rfl rfl rfl (hA8) (0) (rfl) ((Nat.pos_of_ne_zero h0)) (QL.at (H := G8) (v := .bool true) hp) ?_; rotate_left
  (repeat (first | refine' DV ?_ | refine' DA ?_ | refine' DK0 ?_ | refine' DT ?_ | (refine' DC (hmax) (h := ?_); rotate_left) | refine' DS ?_))
  refine' DJ.idxM tO rfl rfl rfl rfl rfl rfl rfl rfl rfl (hsl) (0) (rfl) ((Nat.pos_of_ne_zero h0)) (hc) ?_; rotate_left
  (repeat (first | refine' DV ?_ | refine' DA ?_ | refine' DK0 ?_ | refine' DT ?_ | refine' DS ?_))
  refine' DJ.call rfl rfl rfl rfl rfl (cO func81) (fun G hG hd => refMedian_pc (hP8.mono hG) h0 pl p100) (fun _ _ _ h k => RQ.mono h k) ?_; rotate_left
  refine' DJ.call rfl rfl rfl rfl rfl (cO func83) (fun G hG hd => at_pc (hx.mono hG) (hd.head (by kernel_rfl)) rp rmd 1 (.inl rfl)) (fun _ _ _ h k => RQ.mono h k) ?_; rotate_left
  refine' DJ.callS rfl rfl rfl rfl rfl (cO func23) (fun G hG hd => same_self (hd.head (by kernel_rfl)) r1) ?_; rotate_left
  (repeat (first | refine' DV ?_ | refine' DA ?_ | refine' DK0 ?_ | refine' DT ?_ | refine' DS ?_))
  refine' DJ.idxM tO rfl rfl rfl rfl rfl rfl rfl rfl rfl (hA8) (0) (rfl) ((Nat.pos_of_ne_zero h0)) (QL.at (H := G8) (v := .bool true) hp) ?_; rotate_left
  (repeat (first | refine' DV ?_ | refine' DA ?_ | refine' DK0 ?_ | refine' DT ?_ | (refine' DC (hmin) (h := ?_); rotate_left) | refine' DS ?_))
  refine' DJ.idxM tO rfl rfl rfl rfl rfl rfl rfl rfl rfl (hsl) (0) (rfl) ((Nat.pos_of_ne_zero h0)) (hc) ?_; rotate_left
  (repeat (first | refine' DV ?_ | refine' DA ?_ | refine' DK0 ?_ | refine' DT ?_ | refine' DS ?_))
  refine' DJ.call rfl rfl rfl rfl rfl (cO func81) (fun G hG hd => refMedian_pc (hP8.mono hG) h0 pl p100) (fun _ _ _ h k => RQ.mono h k) ?_; rotate_left
  refine' DJ.call rfl rfl rfl rfl rfl (cO func83) (fun G hG hd => at_pc (hx.mono hG) (hd.head (by kernel_rfl)) rp rmd (-1) (.inr rfl)) (fun _ _ _ h k => RQ.mono h k) ?_; rotate_left
  refine' DJ.callS rfl rfl rfl rfl rfl (cO func23) (fun G hG hd => same_self (hd.head (by kernel_rfl)) r2) ?_; rotate_left
  (repeat (first | refine' DV ?_ | refine' DA ?_ | refine' DK0 ?_ | refine' DT ?_ | refine' DS ?_))
  (refine DJ.nil (fun G9 hG9 hF9 => ?_); (case hS => rfl); (case hS2 => rfl))
  try refine RUN ?_
  have hGe := hG9
  by_cases hlm : P.length = Q.length
  ·rw [show ((P.length : Int) == (Q.length : Int)) = true from beq_iff_eq.2 (by omega)]
   have hdq : dotQ P Q = sumQ (dotL P Q) := if_pos hlm
   have rdot : rq (sumQ (dotL P Q)) := dot_rq pl p50 q50
   rw [hdq]
   apply EV.drawn 17 (by kernel_rfl) (by kernel_rfl); intro xv yw
   (repeat (first | refine' DV ?_ | refine' DA ?_ | refine' DK0 ?_ | refine' DT ?_ | refine' DS ?_))
   refine' DJ.call rfl rfl rfl rfl rfl (cO func85) (fun G hG hd => refDot_pc ((hP8.mono hGe).mono hG) ((hQ8.mono hGe).mono hG) hlm (by omega) p50 q50) (fun _ _ _ h k => RQ.mono h k) ?_; rotate_left
   refine' DJ.callS rfl rfl rfl rfl rfl (cO func23) (fun G hG hd => same_self (hd.head (by kernel_rfl)) rdot) ?_; rotate_left
   (repeat (first | refine' DV ?_ | refine' DA ?_ | refine' DK0 ?_ | refine' DT ?_ | refine' DS ?_))
   (refine DJ.nil (fun G0 hG0 hF0 => ?_); (case hS => rfl); (case hS2 => rfl))
   try refine RUN ?_
   rfl
  ·rw [show ((P.length : Int) == (Q.length : Int)) = false from beq_eq_false_iff_ne.2 (by omega)]
   have hs0 := sign_pv 0 (Nat.le_trans (sm_of (n := 1) (Nat.le_of_eq ht_zero) (by omega)).num (by omega))
   have hdq : dotQ P Q = 0 := if_neg hlm
   rw [hdq]
   apply EV.drawn 17 (by kernel_rfl) (by kernel_rfl); intro xv yw
   (repeat (first | refine' DV ?_ | refine' DA ?_ | refine' DK0 ?_ | refine' DT ?_ | (refine' DC (hs0) (h := ?_); rotate_left) | refine' DS ?_))
   (refine DJ.nil (fun G0 hG0 hF0 => ?_); (case hS => rfl); (case hS2 => rfl))
   try refine RUN ?_
   rfl
end Go.Proofs.YtjifapjpgmmcnaaGreatDoor
namespace Go.Proofs.YtjifapjpgmmcnaaGreatDoor
open Go Go.RowKit
theorem laid_gH {P : Program} {l : List (String × DataW Unit)} {W : World} (h : laidMet P l W) {n : String} {zs : List Nat} {g : Nat} {T e : TypeId} (hmem : (n, .agg (zs.map fun (z : Nat) => .lit (.int .u8 z))) ∈ l) (hg : P.globalNamed n = some g) (ht : (P.globals[g]?).map (·.type) = some T)
  (hT : P.underlying T = some (.array zs.length e)) (he : P.underlying e = some (.int .u8)) (hc : P.cellsOf e = 1) (hcT : P.cellsOf T = zs.length) :
  ∃ U fz, W.heap[g]? = some (.cells (zs.map fun (z : Nat) => Value.int .u8 (z : Int)).toArray U fz) := by
 obtain ⟨ps, hl, _⟩ := h
 obtain ⟨p0, g', t, cs, fuel, p, q, hg', ht', hv, hd, _, _⟩ := VM.laid_find hl hmem
 obtain rfl := Option.some.inj (hg.symm.trans hg')
 obtain rfl := Option.some.inj (ht.symm.trans ht')
 obtain ⟨xs, m, _, ex, hcl, hlen, hel⟩ := DataW.trod_array hT hd
 have hb : ∃ U fz, W.heap[g]? = some (.cells cs U fz) := by
  simp only [World.var?, hg, Option.bind_some] at hv
  split at hv
  ·rename_i c U fz hc'; cases hv; exact ⟨U, fz, hc'⟩
  ·cases hv
 obtain ⟨U, fz, hb⟩ := hb
 refine ⟨U, fz, ?_⟩
 rw [hb]
 congr 2
 apply Array.ext'
 rw [hcT] at hcl
 have e3 : (xs.map (·.1)) = zs.map fun (n : Nat) => .lit (.int .u8 n) := (DataW.agg.inj (Prod.mk.inj ex).1).symm
 apply List.ext_getElem?
 intro r
 rcases Nat.lt_or_ge r zs.length with hr | hr
 ·have hE := hel r hr
  rw [hc, Nat.mul_one, List.getElem?_eq_getElem (by omega)] at hE
  obtain ⟨z, e1, e2, _⟩ := DataW.trod_int he hE
  have e4 : (xs.map (·.1))[r]? = (zs.map fun (n : Nat) => (DataW.lit (.int .u8 n) : DataW Unit))[r]? := by rw [e3]
  rw [List.getElem?_map, List.getElem?_map, List.getElem?_eq_getElem (by omega : r < xs.length), List.getElem?_eq_getElem hr, e2] at e4
  simp only [Option.map_some, Option.some.injEq, DataW.lit.injEq, Lit.int.injEq, true_and] at e4
  have h0 : ((cs.toList.drop r).take 1)[0]? = some (.int .u8 z) := by rw [e1]; rfl
  simp only [List.getElem?_take, List.getElem?_drop, Nat.add_zero] at h0
  rw [if_pos (by omega)] at h0
  rw [h0, e4]
  simp [hr]
 ·rw [List.getElem?_eq_none (by omega), List.getElem?_eq_none (by simpa using hr)]
theorem fits_gH {l : List (String × DataW Unit)} {W : World} (h : laidMet Tryz.prog l W) (hmem : ("math/bits.deBruijn64tab", .agg (Lib.deBruijn64tab.map fun (z : Nat) => .lit (.int .u8 z))) ∈ l) : Fits gH W := fun b c hb => by
 unfold gH at hb
 split at hb
 ·rename_i hbb
  cases hb
  obtain rfl := Nat.eq_of_beq_eq_true hbb
  exact laid_gH h hmem (by kernel_rfl) (by kernel_rfl) Tryz.underlying247 Tryz.underlying5 (by kernel_rfl) (by kernel_rfl)
 ·cases hb
theorem gl_of_fits {W : World} (h : Fits gH W) : ∀ g cs, VM.ctx.gl g = some cs → ∃ c U fz, W.heap[g]? = some (.cells c U fz) ∧ VM.VL (fun _ => none) cs (c.toList.take cs.length) := fun g cs hg => by
 have hm := VM.assoc_mem hg
 unfold VM.glL at hm
 simp only [List.mem_cons, List.mem_nil_iff, or_false, Prod.mk.injEq] at hm
 obtain ⟨rfl, rfl⟩ := hm
 obtain ⟨U, fz, hW⟩ := h 4 (Lib.deBruijn64tab.map fun (z : Nat) => Value.int .u8 (z : Int)).toArray rfl
 refine ⟨_, U, fz, hW, ?_, fun j x y hx hy => ?_⟩
 ·rfl
 ·have hx' : (Lib.deBruijn64tab.map fun (z : Nat) => VM.AV.int .u8 (.ofNat z))[j]? = some x := hx
  have hy' : (Lib.deBruijn64tab.map fun (z : Nat) => Value.int .u8 (z : Int))[j]? = some y := by
   rw [List.getElem?_take] at hy
   split at hy
   ·exact hy
   ·cases hy
  rw [List.getElem?_map] at hx' hy'
  obtain ⟨z, e1, rfl⟩ := Option.map_eq_some_iff.1 hx'
  rw [e1] at hy'
  cases hy'
  exact .int _ _
theorem known_pv : PV Tryz.prog 22 #[] (.bool true) := ⟨(cO Tryz.func22), fun W hW => (VM.walk22 W (gl_of_fits hW)).mono fun e W' ⟨he, hb⟩ => ⟨he, hb⟩⟩
end Go.Proofs.YtjifapjpgmmcnaaGreatDoor
namespace Go.Proofs.YtjifapjpgmmcnaaGreatDoor
open Go.ChangeShapes Go.WideShapes Go.ChangeAt Go.RowKit
def hpOf (W : World) : Hp := fun b => match W.heap[b]? with
 | some (.cells c _ _) => some c
 | _ => none
theorem fits_hpOf (W : World) : Fits (hpOf W) W := fun b c h => by
 unfold hpOf at h
 split at h
 ·rename_i c' T fz hb; cases h; exact ⟨T, fz, hb⟩
 ·cases h
section
variable {H : Type} {enc : TypeId × Value → H} {P : Program} {w : World} {base : Nat} {spare : Nat → Bool} {held : Bool}
theorem ints_open {t e : TypeId} {k : IntKind} {fuel : Nat} {cs : List Value} {x : DataW H × List MemPlace} (ht : P.underlying t = some (.slice e)) (he : P.underlying e = some (.int k)) (hc : P.cellsOf e = 1) (h : DataW.trod enc P w base spare held fuel t cs = some x) :
  ∃ a len cap zs, cs = [.slice a len cap] ∧ SlN (fun z : Int => Value.int k z) (hpOf w) (.slice a len cap) zs ∧ ∀ n ∈ zs, (Lit.int k n).wf = true := by
 rcases open_ints ht he hc h with ⟨rfl, _⟩ | ⟨x, len, cap, zs, rfl, _, hl, hm, hz, _, hcell, hw⟩
 ·exact ⟨none, 0, 0, [], rfl, nil_sl _ _, fun n hn => by cases hn⟩
 ·have hzl : len ≤ zs.length := by rw [hz]; split <;> omega
  refine ⟨some x, len, cap, zs.take len, rfl, ?_, fun n hn => hw n (List.mem_of_mem_take hn)⟩
  have hlen : (zs.take len).length = len := by rw [List.length_take]; omega
  unfold SlN
  rw [hlen]
  refine ⟨by rw [List.length_map, hlen, Nat.mul_one], ?_⟩
  by_cases h0 : len = 0
  ·subst h0; exact .inl ⟨rfl, some x, cap, rfl⟩
  ·right
   have h1 := hcell 0 (by omega)
   obtain ⟨b, off, sp⟩ := x
   have hsp : sp = none := by
    cases sp with
    | none => rfl
    | some s => simp only [World.cell?, Addr.add] at h1; split at h1 <;> simp_all
   subst hsp
   have hb : ∃ c, hpOf w b = some c ∧ ∀ i, i < zs.length → c[off + i]? = some (.int k (zs.getD i 0)) := by
    simp only [Addr.add_mid] at hcell
    unfold World.cell? at hcell
    unfold hpOf
    simp only at hcell
    cases hw' : w.heap[b]? with
    | none => have := hcell 0 (by omega); rw [hw'] at this; cases this
    | some o =>
     cases o with
     | cells c T fz => exact ⟨c, rfl, fun i hi => by have := hcell i hi; rw [hw'] at this; simpa using this⟩
     | _ => have := hcell 0 (by omega); rw [hw'] at this; cases this
   obtain ⟨c, hc1, hc2⟩ := hb
   refine ⟨b, off, cap, c, rfl, hl, hc1, fun j y hj => ?_⟩
   rw [List.getElem?_map, List.getElem?_take] at hj
   split at hj
   ·rename_i hjl
    rw [hc2 j (by omega), ← hj, List.getD_eq_getElem?_getD, List.getElem?_eq_getElem (by omega)]; rfl
   ·cases hj
end
theorem i64_bounds {z : Int} (h : (Lit.int .i64 z).wf = true) : -9223372036854775808 ≤ z ∧ z < 9223372036854775808 := by
 have := bounds_i64 h; omega
end Go.Proofs.YtjifapjpgmmcnaaGreatDoor
