/- Texts of ours in one: Fr3, Ha1, Ev15, Ha2, Lw1, Fr4, Lw2, Str1, Lw3, NearP, NearQ, Lw4, SimpP, SimpS, Simp, Simp2, Simp3, Simp4, Ha3, Lw5, LaidE, Kn, Opn. -/
import Derived.Test.YtjifapjpgmmcnaaGreatDoorW2
import Derived.Test.YtjifapjpgmmcnaaGreatDoorW3
import Derived.Test.YtjifapjpgmmcnaaGreatDoorW4
import Derived.Test.YtjifapjpgmmcnaaGreatDoorW5
import Derived.WalkKit
import Derived.ProofKit
import Derived.OpenShut
set_option linter.unusedVariables false
set_option linter.unusedSimpArgs false

namespace Go.Proofs.YtjifapjpgmmcnaaGreatDoor
open Go.RowKit
theorem inv_frV (b : Rat) (h : b.num ≠ 0) : frV (sg (decide (b.num < 0)) b.den) (dk b.num.natAbs) = fracV b⁻¹ := by
 have e1 : b⁻¹.num = sg (decide (b.num < 0)) b.den := by
  rw [Rat.num_inv]; unfold sg
  rcases Int.lt_or_lt_of_ne h with h1 | h1
  ·simp [h1, Int.sign_eq_neg_one_of_neg h1]
  ·rw [Int.sign_eq_one_of_pos h1, decide_eq_false (by omega)]; simp
 have e2 : b⁻¹.den = b.num.natAbs := by
  rw [Rat.den_inv, if_neg]
  exact h
 rw [← e1, ← e2]
theorem div_pv (a b : Rat) (ha : sm a) (hb : sm b) (h0 : b ≠ 0) : PV Tryz.prog 41 #[fracV a, fracV b] (.tuple #[fracV (a / b), .bool true]) := by
 have hn0 : b.num ≠ 0 := fun e => h0 (Rat.num_eq_zero.1 e)
 have bnb : bigI b.num := Nat.le_trans hb.num (by omega)
 have bdb : big b.den := Nat.le_trans hb.den (by omega)
 have hm := mul_pv a b⁻¹ ha (Nat.le_trans (ht_inv b) hb)
 rw [← Rat.div_def] at hm
 have hp := pack_pv (sg (decide (b.num < 0)) b.den) b.num.natAbs bnb
 rw [inv_frV b hn0] at hp
 have s1 := from_pv (decide (b.num < 0)) b.den bdb
 have sg1 := sign_pv b bnb
 have ab := wholeAbs_pv b.num
 have d2 := den_pv b bdb
 refine PV.of_pc ?_
 refine PC.body Tryz.tab_ok Tryz.func41 rfl (by kernel_rfl) Tryz.ntmps41 rfl rfl ?_
 repeat (first | refine RUN ?_ | refine CV (sg1) ?_ | refine CE (sg1) ?_)
 rw [show (b.num.sign == 0) = false by simp [Int.sign_eq_zero_iff_zero, hn0]]
 (try refine RUN ?_)
 apply EV.drawn 11 (by kernel_rfl) (by kernel_rfl); intro xv yw
 (repeat (first | refine' DV (h := ?_) | refine' DA (h := ?_) | refine' DK0 (h := ?_) | (refine' DJ.setb Tryz.tab_ok rfl rfl rfl rfl rfl rfl rfl rfl rfl rfl rfl ?_; rotate_left) | (refine' DC (sg1) (h := ?_); rotate_left) | refine' DS (h := ?_)))
 rw [show decide (b.num.sign < 0) = decide (b.num < 0) by rw [decide_eq_decide]; exact Int.sign_neg_iff]
 (repeat (first | refine' DV (h := ?_) | refine' DA (h := ?_) | refine' DK0 (h := ?_) | (refine' DJ.setb Tryz.tab_ok rfl rfl rfl rfl rfl rfl rfl rfl rfl rfl rfl ?_; rotate_left) | (refine' DC (d2) (h := ?_); rotate_left) | (refine' DC (s1) (h := ?_); rotate_left) | (refine' DC (ab) (h := ?_); rotate_left) | (refine' DC (hp) (h := ?_); rotate_left) | refine' DS (h := ?_)))
 (refine DJ.nil (fun G hG hF => ?_); (case hS => rfl); (case hS2 => rfl))
 repeat (first | refine RUN ?_ | refine CV (hm) ?_ | refine CE (hm) ?_)
 rfl
theorem div_zero_pv (a : Rat) : PV Tryz.prog 41 #[fracV a, fracV 0] (.tuple #[fracV 0, .bool false]) := by
 have sg1 := sign_pv 0 (by show bl 0 ≤ _; rw [bl_zero]; omega)
 refine PV.of_pc ?_
 refine PC.body Tryz.tab_ok Tryz.func41 rfl (by kernel_rfl) Tryz.ntmps41 rfl rfl ?_
 repeat (first | refine RUN ?_ | refine CV (sg1) ?_ | refine CE (sg1) ?_)
 show _ = Value.tuple #[frV 0 0, .bool false]
 rw [frV_zero, show (0 : Int).natAbs = 0 from rfl, moreB_empty (n := 0) (by decide)]; rfl
theorem ordZ_scale (x y p q : Int) (hp : 0 < p) (hq : 0 < q) (h : x.sign ≠ y.sign) : ordZ x y = ordZ (x * p) (y * q) := by
 have f1 : x < 0 → x * p < 0 := fun h => Int.mul_neg_of_neg_of_pos h hp
 have f2 : 0 < x → 0 < x * p := fun h => Int.mul_pos h hp
 have f3 : y < 0 → y * q < 0 := fun h => Int.mul_neg_of_neg_of_pos h hq
 have f4 : 0 < y → 0 < y * q := fun h => Int.mul_pos h hq
 have f5 : x = 0 → x * p = 0 := fun h => by rw [h, Int.zero_mul]
 have f6 : y = 0 → y * q = 0 := fun h => by rw [h, Int.zero_mul]
 generalize x * p = u at *
 generalize y * q = v at *
 rcases Int.lt_trichotomy x 0 with hx | hx | hx <;> rcases Int.lt_trichotomy y 0 with hy | hy | hy
 ·exact absurd (by rw [Int.sign_eq_neg_one_of_neg hx, Int.sign_eq_neg_one_of_neg hy]) h
 ·unfold ordZ; rw [if_pos (by omega), if_pos (by have := f1 hx; have := f6 hy; omega)]
 ·unfold ordZ; rw [if_pos (by omega), if_pos (by have := f1 hx; have := f4 hy; omega)]
 ·unfold ordZ; rw [if_neg (by omega), if_pos (by omega), if_neg (by have := f5 hx; have := f3 hy; omega), if_pos (by have := f5 hx; have := f3 hy; omega)]
 ·exact absurd (by rw [hx, hy]) h
 ·unfold ordZ; rw [if_pos (by omega), if_pos (by have := f5 hx; have := f4 hy; omega)]
 ·unfold ordZ; rw [if_neg (by omega), if_pos (by omega), if_neg (by have := f2 hx; have := f3 hy; omega), if_pos (by have := f2 hx; have := f3 hy; omega)]
 ·unfold ordZ; rw [if_neg (by omega), if_pos (by omega), if_neg (by have := f2 hx; have := f6 hy; omega), if_pos (by have := f2 hx; have := f6 hy; omega)]
 ·exact absurd (by rw [Int.sign_eq_one_of_pos hx, Int.sign_eq_one_of_pos hy]) h
theorem sign_ne (a b : Rat) (h : a.num.sign ≠ b.num.sign) : ordZ a.num b.num = ordR a b := by
 have := Nat.pos_of_ne_zero a.den_nz
 have := Nat.pos_of_ne_zero b.den_nz
 rw [ordR_eq]; exact ordZ_scale _ _ _ _ (by omega) (by omega) h
theorem cmp_pv (a b : Rat) (ha : sm a) (hb : sm b) : PV Tryz.prog 31 #[fracV a, fracV b] (.int .i64 (ordR a b)) := by
 have na := ha.num; have da := ha.den; have nb := hb.num; have db := hb.den
 have bna : bigI a.num := Nat.le_trans na (by omega)
 have bnb : bigI b.num := Nat.le_trans nb (by omega)
 have bda : big a.den := Nat.le_trans da (by omega)
 have bdb : big b.den := Nat.le_trans db (by omega)
 have w1 := isWhole_pv a bda
 have w2 := isWhole_pv b bdb
 have s1 := sign_pv a bna
 have s2 := sign_pv b bnb
 have d1 := den_pv a bda
 have d2 := den_pv b bdb
 have c1 := bl_mul a.num.natAbs b.den
 have c2 := bl_mul b.num.natAbs a.den
 have t1 := times_pv a.num b.den bna bdb (by show bl _ ≤ _; omega)
 have t2 := times_pv b.num a.den bnb bda (by show bl _ ≤ _; omega)
 have k1 := wholeCmp_pv a.num b.num bna bnb
 have k2 := wholeCmp_pv (a.num * (b.den : Int)) (b.num * (a.den : Int)) (by show bl _ ≤ _; rw [Int.natAbs_mul]; simp; omega) (by show bl _ ≤ _; rw [Int.natAbs_mul]; simp; omega)
 rw [← ordR_eq] at k2
 refine PV.of_pc ?_
 refine PC.body Tryz.tab_ok Tryz.func31 rfl (by kernel_rfl) Tryz.ntmps31 rfl rfl ?_
 (try refine RUN ?_)
 by_cases ha1 : a.den = 1
 ·rw [decide_eq_true ha1] at w1
  by_cases hb1 : b.den = 1
  ·rw [decide_eq_true hb1] at w2
   have e : ordZ a.num b.num = ordR a b := by rw [ordR_eq, ha1, hb1]; simp
   rw [e] at k1
   apply EV.drawn 10 (by kernel_rfl) (by kernel_rfl); intro xv yw
   (repeat (first | refine' DV (h := ?_) | refine' DA (h := ?_) | refine' DK0 (h := ?_) | (refine' DJ.setb Tryz.tab_ok rfl rfl rfl rfl rfl rfl rfl rfl rfl rfl rfl ?_; rotate_left) | (refine' DC (w1) (h := ?_); rotate_left) | (refine' DC (w2) (h := ?_); rotate_left) | (refine' DC (s1) (h := ?_); rotate_left) | (refine' DC (s2) (h := ?_); rotate_left) | refine' DS (h := ?_)))
   (refine DJ.nil (fun G hG hF => ?_); (case hS => rfl); (case hS2 => rfl))
   repeat (first | refine RUN ?_ | refine CV (k1) ?_ | refine CE (k1) ?_)
   rfl
  ·rw [decide_eq_false hb1] at w2
   apply EV.drawn 10 (by kernel_rfl) (by kernel_rfl); intro xv yw
   (repeat (first | refine' DV (h := ?_) | refine' DA (h := ?_) | refine' DK0 (h := ?_) | (refine' DJ.setb Tryz.tab_ok rfl rfl rfl rfl rfl rfl rfl rfl rfl rfl rfl ?_; rotate_left) | (refine' DC (w1) (h := ?_); rotate_left) | (refine' DC (w2) (h := ?_); rotate_left) | (refine' DC (s1) (h := ?_); rotate_left) | (refine' DC (s2) (h := ?_); rotate_left) | refine' DS (h := ?_)))
   (refine DJ.nil (fun G hG hF => ?_); (case hS => rfl); (case hS2 => rfl))
   repeat (first | refine RUN ?_ | refine CV (s1) ?_ | refine CV (s2) ?_ | refine CE (s1) ?_ | refine CE (s2) ?_)
   by_cases hs : a.num.sign = b.num.sign
   ·rw [show (a.num.sign != b.num.sign) = false by simp [hs]]
    (try refine RUN ?_)
    apply EV.drawn 9 (by kernel_rfl) (by kernel_rfl); intro xv yw
    (repeat (first | refine' DV (h := ?_) | refine' DA (h := ?_) | refine' DK0 (h := ?_) | (refine' DJ.setb Tryz.tab_ok rfl rfl rfl rfl rfl rfl rfl rfl rfl rfl rfl ?_; rotate_left) | (refine' DC (d2) (h := ?_); rotate_left) | (refine' DC (t1) (h := ?_); rotate_left) | (refine' DC (d1) (h := ?_); rotate_left) | refine' DS (h := ?_)))
    (refine DJ.nil (fun G hG hF => ?_); (case hS => rfl); (case hS2 => rfl))
    repeat (first | refine RUN ?_ | refine CV (t2) ?_ | refine CV (k2) ?_ | refine CE (t2) ?_ | refine CE (k2) ?_)
    rfl
   ·rw [show (a.num.sign != b.num.sign) = true by simp [hs]]
    repeat (first | refine RUN ?_ | refine CV (k1) ?_ | refine CE (k1) ?_)
    rw [sign_ne a b hs]
 ·rw [decide_eq_false ha1] at w1
  apply EV.drawn 10 (by kernel_rfl) (by kernel_rfl); intro xv yw
  (repeat (first | refine' DV (h := ?_) | refine' DA (h := ?_) | refine' DK0 (h := ?_) | (refine' DJ.setb Tryz.tab_ok rfl rfl rfl rfl rfl rfl rfl rfl rfl rfl rfl ?_; rotate_left) | (refine' DC (w1) (h := ?_); rotate_left) | (refine' DC (w2) (h := ?_); rotate_left) | (refine' DC (s1) (h := ?_); rotate_left) | (refine' DC (s2) (h := ?_); rotate_left) | refine' DS (h := ?_)))
  (refine DJ.nil (fun G hG hF => ?_); (case hS => rfl); (case hS2 => rfl))
  repeat (first | refine RUN ?_ | refine CV (s1) ?_ | refine CV (s2) ?_ | refine CE (s1) ?_ | refine CE (s2) ?_)
  by_cases hs : a.num.sign = b.num.sign
  ·rw [show (a.num.sign != b.num.sign) = false by simp [hs]]
   (try refine RUN ?_)
   apply EV.drawn 9 (by kernel_rfl) (by kernel_rfl); intro xv yw
   (repeat (first | refine' DV (h := ?_) | refine' DA (h := ?_) | refine' DK0 (h := ?_) | (refine' DJ.setb Tryz.tab_ok rfl rfl rfl rfl rfl rfl rfl rfl rfl rfl rfl ?_; rotate_left) | (refine' DC (d2) (h := ?_); rotate_left) | (refine' DC (t1) (h := ?_); rotate_left) | (refine' DC (d1) (h := ?_); rotate_left) | refine' DS (h := ?_)))
   (refine DJ.nil (fun G hG hF => ?_); (case hS => rfl); (case hS2 => rfl))
   repeat (first | refine RUN ?_ | refine CV (t2) ?_ | refine CV (k2) ?_ | refine CE (t2) ?_ | refine CE (k2) ?_)
   rfl
  ·rw [show (a.num.sign != b.num.sign) = true by simp [hs]]
   repeat (first | refine RUN ?_ | refine CV (k1) ?_ | refine CE (k1) ?_)
   rw [sign_ne a b hs]
theorem pick_pv (z m : Int) (hz : -9223372036854775808 ≤ z ∧ z < 9223372036854775808) (h0 : 0 < m) (hm : m < 4611686018427387904) : PV Tryz.prog 13 #[.int .i64 z, .int .i64 m] (.int .i64 (z % m)) := by
 have h1 := Int.tmod_lt_of_pos z h0
 have h2 := Int.lt_tmod_of_pos z h0
 have e : z % m = if z.tmod m < 0 then z.tmod m + m else z.tmod m := by
  have hq := Int.mul_tdiv_add_tmod z m
  have e1 : z % m = z.tmod m % m := by
   conv => lhs; rw [← hq]
   rw [Int.mul_add_emod_self_left]
  rw [e1]
  by_cases ht : z.tmod m < 0
  ·rw [if_pos ht, ← Int.add_emod_right, Int.emod_eq_of_lt (by omega) (by omega)]
  ·rw [if_neg ht, Int.emod_eq_of_lt (by omega) h1]
 refine PV.of_pc ?_
 refine PC.body Tryz.tab_ok Tryz.func13 rfl (by kernel_rfl) Tryz.ntmps13 rfl rfl ?_
 (try refine RUN ?_)
 refine EVL.remI rfl rfl rfl rfl rfl rfl (by omega) ?_
 generalize z.tmod m = t at *
 (try refine RUN ?_)
 by_cases ht : t < 0
 ·rw [if_pos ht] at e
  rw [decide_eq_true ht]
  (try refine RUN ?_)
  rw [e, IntKind.wrap_i64]; congr 1; omega
 ·rw [if_neg ht] at e
  rw [decide_eq_false ht]
  (try refine RUN ?_)
  rw [e]
theorem refNatH_pc {H : Hp} {v : Value} {n : Nat} (h : RN H v n) (hn : rsm n) : PC Tryz.prog 105 #[v] H fun r _ => r = natV n := by
 have hol : (octs n).length ≤ 200000000 := by
  rw [octs_length]
  have := dig_len_bits 8 n (by omega); rw [show (2 : Nat) ^ 8 = 256 by decide] at this; rw [this]
  have : bl n ≤ 800000000 := hn
  omega
 refine PC.body Tryz.tab_ok Tryz.func105 rfl (by kernel_rfl) Tryz.ntmps105 rfl rfl ?_
 (try refine RUN ?_)
 refine EVL.call rfl rfl rfl rfl rfl (refBytes_pc h hn) ?_
 rintro r G hr hG
 have hf := natFromBytes_pc hr (octs_dig n) hol
 rw [octs_val] at hf
 repeat (first | refine RUN ?_ | refine CV (hf) ?_ | refine CE (hf) ?_)
 rfl
theorem intH_pc {H : Hp} {v : Value} {z : Int} (h : RI H v z) (hz : rsm z.natAbs) : PC Tryz.prog 104 #[v] H fun r _ => r = intV z := by
 obtain ⟨sa, sl, sc, rfl, hs⟩ := id h
 have hf := from_pv (decide (z < 0)) z.natAbs (Nat.le_trans hz (by omega))
 rw [sg_dec] at hf
 refine PC.body Tryz.tab_ok Tryz.func104 rfl (by kernel_rfl) Tryz.ntmps104 rfl rfl ?_
 (try refine RUN ?_)
 apply EV.drawn 6 (by kernel_rfl) (by kernel_rfl); intro xv yw
 (repeat (first | refine' DV (h := ?_) | refine' DA (h := ?_) | refine' DK0 (h := ?_) | (refine' DJ.setb Tryz.tab_ok rfl rfl rfl rfl rfl rfl rfl rfl rfl rfl rfl ?_; rotate_left) | refine' DS (h := ?_)))
 refine' DJ.callS rfl rfl rfl rfl rfl (cOf Tryz.func105 rfl (by kernel_rfl)) (fun G hG hd => refNatH_pc (RN.mono hs hG) hz) ?_; rotate_left
 (repeat (first | refine' DV (h := ?_) | refine' DA (h := ?_) | refine' DK0 (h := ?_) | (refine' DJ.setb Tryz.tab_ok rfl rfl rfl rfl rfl rfl rfl rfl rfl rfl rfl ?_; rotate_left) | (refine' DC (hf) (h := ?_); rotate_left) | refine' DS (h := ?_)))
 (refine DJ.nil (fun G hG hF => ?_); (case hS => rfl); (case hS2 => rfl))
 (try refine RUN ?_)
 rfl
theorem in_pc {H : Hp} {v : Value} {q : Rat} (h : RQ H v q) (hq : rq q) : PC Tryz.prog 25 #[v] H fun r _ => r = fracV q := by
 obtain ⟨sa, sl, sc, ta, tl, tc, rfl, hs, ht⟩ := id h
 have hn := hq.num
 have hd' := hq.den
 have hf := from_pv false q.den (Nat.le_trans hd' (by omega))
 rw [show sg false q.den = (q.den : Int) from rfl] at hf
 have hm := make_pv q.num (q.den : Int) (Nat.le_trans hn (by omega)) (Nat.le_trans hd' (by omega)) (by have := q.den_nz; omega)
 rw [if_neg (by omega), Int.natAbs_natCast, Rat.mkRat_self] at hm
 refine PC.body Tryz.tab_ok Tryz.func25 rfl (by kernel_rfl) Tryz.ntmps25 rfl rfl ?_
 (try refine RUN ?_)
 apply EV.drawn 14 (by kernel_rfl) (by kernel_rfl); intro xv yw
 (repeat (first | refine' DV (h := ?_) | refine' DA (h := ?_) | refine' DK0 (h := ?_) | (refine' DJ.setb Tryz.tab_ok rfl rfl rfl rfl rfl rfl rfl rfl rfl rfl rfl ?_; rotate_left) | refine' DS (h := ?_)))
 refine' DJ.callS rfl rfl rfl rfl rfl (cOf Tryz.func104 rfl (by kernel_rfl)) (fun G hG hd => intH_pc (RQ.rnum (RN.mono hs hG)) hn) ?_; rotate_left
 (repeat (first | refine' DV (h := ?_) | refine' DA (h := ?_) | refine' DK0 (h := ?_) | (refine' DJ.setb Tryz.tab_ok rfl rfl rfl rfl rfl rfl rfl rfl rfl rfl rfl ?_; rotate_left) | refine' DS (h := ?_)))
 refine' DJ.callS rfl rfl rfl rfl rfl (cOf Tryz.func105 rfl (by kernel_rfl)) (fun G hG hd => refNatH_pc (RN.mono ht hG) hd') ?_; rotate_left
 (repeat (first | refine' DV (h := ?_) | refine' DA (h := ?_) | refine' DK0 (h := ?_) | (refine' DJ.setb Tryz.tab_ok rfl rfl rfl rfl rfl rfl rfl rfl rfl rfl rfl ?_; rotate_left) | (refine' DC (hf) (h := ?_); rotate_left) | (refine' DC (hm) (h := ?_); rotate_left) | refine' DS (h := ?_)))
 (refine DJ.nil (fun G hG hF => ?_); (case hS => rfl); (case hS2 => rfl))
 (try refine RUN ?_)
 rfl
theorem argsK_vals {α : Type} {env : Env} : ∀ {l : List Operand} {k : List Value → Option α} {r : α}, argsK env l k = some r → ∃ vs, k vs = some r ∧ ∀ ev : Operand → Value, (∀ y x, y ∈ l → env.op y = some (.v x) → ev y = x) → l.map ev = vs
 | [], k, r, h => ⟨[], h, fun _ _ => rfl⟩
 | x :: l, k, r, h => by
  unfold argsK at h
  split at h
  ·rename_i v hv
   obtain ⟨vs, h1, h2⟩ := argsK_vals h
   exact ⟨v :: vs, h1, fun ev he => by rw [List.map_cons, he x v (by simp) hv, h2 ev fun y x hy => he y x (by simp [hy])]⟩
  ·cases h
section
variable {P : Program} {n : Nat} {ops : Array Oper} {o : Oper} {rest : List Oper} {env : Env} {bx : Bxs} {H : Hs} {Q : EQ} {τ : Tab} {d : Nat}
theorem EVL.buildArr {T : TypeId} {parts : Array (Nat × Operand)} (ho : o.op = .build T parts) (hw : wantB ops env o = some true) (hd : o.dst = some d) (hn : Nat.blt d n = true) {vs : List Value} (ha : argsK env (parts.toList.map (·.2)) some = some vs) {cs : List Value}
  (hb : P.built T ((parts.toList.map (·.1)).zip vs) = some cs.toArray) (h : EVL P n ops rest ((d, .v (.agg cs.toArray)) :: env) bx H Q) : EVL P n ops (o :: rest) env bx H Q := by
 refine EVL.gen hw hd hn (fun ev W he => ?_) h
 obtain ⟨vs', e1, h2⟩ := argsK_vals ha
 cases e1
 have h3 := h2 ev fun y x hy => he y x (by rw [ho]; simpa [Op.operands] using hy)
 have h4 : ((parts.map fun (i, x) => (i, ev x)) : Array (Nat × Value)).toList = (parts.toList.map (·.1)).zip vs := by
  rw [← h3, Array.toList_map]
  generalize parts.toList = l
  induction l with
  | nil => rfl
  | cons p l ih => simp only [List.map_cons, List.zip_cons_cons, ih]
 have := run_build (P := P) W T (parts.map fun (i, x) => (i, ev x)) cs.toArray (by rw [h4]; exact hb)
 unfold execOp
 rw [ho]
 simp [this]
theorem EVL.indexArr (hτ : TabOk P τ) {T e : TypeId} {x y : Operand} (ho : o.op = .index T x y) (hw : wantB ops env o = some true) (hd : o.dst = some d) (hn : Nat.blt d n = true) {len : Nat} (hu : P.underlying T = some (.array len e)) {te : TE} (ht : τ.get e = some te) (hag : te.agg = false) (hsz : te.size = 1)
  {cs : List Value} (hx : env.op x = some (.v (.agg cs.toArray))) {k : IntKind} {z : Int} (hy : env.op y = some (.v (.int k z))) (j : Nat) (hz : z = j) (hj : j < len) {v : Value} (hc : cs[j]? = some v)
  (h : EVL P n ops rest ((d, .v v) :: env) bx H Q) : EVL P n ops (o :: rest) env bx H Q := by
 refine EVL.gen hw hd hn (fun ev W he => ?_) h
 have e1 := he x _ (by rw [ho]; simp [Op.operands]) hx
 have e2 := he y _ (by rw [ho]; simp [Op.operands]) hy
 subst hz
 have hp : (part e cs.toArray j).run P W = .ok v W := by simp [part, (hτ.get ht).agg, hag, hc]
 unfold execOp
 simp only [ho, e1, e2, Instr.index, asIntOf, Sem.run_bind, Sem.run_pure, Result.andThen_ok, run_underlying hu]
 rw [if_pos ⟨by omega, by omega⟩]
 simp only [Sem.run_bind, (hτ.get ht).size, Result.andThen_ok, Int.toNat_natCast, hsz, Nat.mul_one, hp]
end
def rDen (j : Nat) : Int := [1, 1, 1, 2, 3, 4].getD j 1
def rNum (z : Int) : Rat := Rat.divInt (z % 41 - 20) (rDen (z.tdiv 41 % 6).toNat)
theorem rDen_range (j : Nat) : 1 ≤ rDen j ∧ rDen j ≤ 4 := by
 unfold rDen
 rcases j with _ | _ | _ | _ | _ | _ | j <;> simp [List.getD_eq_getElem?_getD]
theorem r_pc {H : Hp} (z : Int) (hz : -9223372036854775808 ≤ z ∧ z < 9223372036854775808) : PC Tryz.prog 86 #[.int .i64 z] H fun r H' => RQ H' r (rNum z) := by
 have hq : -9223372036854775808 ≤ z.tdiv 41 ∧ z.tdiv 41 < 9223372036854775808 := by
  by_cases h : 0 ≤ z
  ·rw [Int.tdiv_eq_ediv_of_nonneg h]; omega
  ·have e : z.tdiv 41 = -((-z) / 41) := by rw [← Int.tdiv_eq_ediv_of_nonneg (by omega), Int.neg_tdiv, Int.neg_neg]
   rw [e]; omega
 have hqw : IntKind.i64.wrap (z.tdiv 41) = z.tdiv 41 := by rw [IntKind.wrap_i64]; omega
 have h1 := pick_pv z 41 hz (by omega) (by omega)
 have h2 := pick_pv (z.tdiv 41) 6 hq (by omega) (by omega)
 have m1 := Int.emod_nonneg z (show (41 : Int) ≠ 0 by omega)
 have m2 := Int.emod_lt_of_pos z (show (0 : Int) < 41 by omega)
 obtain ⟨j, hj⟩ := Int.eq_ofNat_of_zero_le (Int.emod_nonneg (z.tdiv 41) (show (6 : Int) ≠ 0 by omega))
 have m3 := Int.emod_lt_of_pos (z.tdiv 41) (show (0 : Int) < 6 by omega)
 have hsub : IntKind.i64.wrap (z % 41 - 20) = z % 41 - 20 := by rw [IntKind.wrap_i64]; omega
 have hrd := rDen_range j
 have hrn : rNum z = Rat.divInt (z % 41 - 20) (rDen j) := by unfold rNum; rw [hj]; rfl
 rw [hrn]
 have hidx : ([.int .i64 1, .int .i64 1, .int .i64 1, .int .i64 2, .int .i64 3, .int .i64 4] : List Value)[j]? = some (.int .i64 (rDen j)) := by
  have hj6 : j < 6 := by omega
  rcases j with _ | _ | _ | _ | _ | _ | j <;> first | rfl | omega
 have ho := fun G : Hp => refOver_pc (H := G) (z % 41 - 20) (rDen j) (by omega) (by omega) (by omega) (by omega) (by omega)
 rw [hj] at h2
 refine PC.body Tryz.tab_ok Tryz.func86 rfl (by kernel_rfl) Tryz.ntmps86 rfl rfl ?_
 repeat (first | refine RUN ?_ | refine CV (h1) ?_ | refine CE (h1) ?_)
 rw [hsub]
 refine EVL.buildArr rfl rfl rfl rfl rfl (cs := [.int .i64 1, .int .i64 1, .int .i64 1, .int .i64 2, .int .i64 3, .int .i64 4]) (by kernel_rfl) ?_
 (try refine RUN ?_)
 rw [hqw]
 repeat (first | refine RUN ?_ | refine CV (h2) ?_ | refine CE (h2) ?_)
 refine EVL.indexArr (e := 2) (len := 6) Tryz.tab_ok rfl rfl rfl rfl (by kernel_rfl) rfl rfl rfl rfl rfl j rfl (show j < 6 by omega) hidx ?_
 refine EVL.call rfl rfl rfl rfl rfl (ho H) ?_
 rintro r G ⟨ra, rl, rc, xa, xl, xc, rfl, hn, hd⟩ hG
 (try refine RUN ?_)
 exact ⟨ra, rl, rc, xa, xl, xc, rfl, hn, hd⟩
theorem ht_divInt (n d : Int) (h : d ≠ 0) : ht (Rat.divInt n d) ≤ max (bl n.natAbs) (bl d.natAbs) := by
 rw [divInt_mk n d h]
 refine Nat.le_trans (ht_mk _ _ (by omega)) ?_
 have : (if d < 0 then -n else n).natAbs = n.natAbs := by split <;> simp
 rw [this]; exact Nat.le_refl _
theorem ht_rNum (z : Int) : ht (rNum z) ≤ 5 := by
 unfold rNum
 have hrd := rDen_range (z.tdiv 41 % 6).toNat
 have m1 := Int.emod_nonneg z (show (41 : Int) ≠ 0 by omega)
 have m2 := Int.emod_lt_of_pos z (show (0 : Int) < 41 by omega)
 refine Nat.le_trans (ht_divInt _ _ (by omega)) (Nat.max_le.2 ⟨bl_le (by omega), bl_le (by omega)⟩)
structure RawQ (H : Hp) (v : Value) : Prop where
 ex : ∃ (z : Int) (sa sb : Value) (la lb : List Nat) (neg : Bool), v = .agg #[.int .i64 z, sa, sb, .bool neg] ∧ (-9223372036854775808 ≤ z ∧ z < 9223372036854775808) ∧ SlN n8 H sa la ∧ SlN n8 H sb lb ∧ Dig 256 la ∧ Dig 256 lb
theorem RawQ.mono {H G : Hp} {v : Value} (h : RawQ H v) (k : H.Le G) : RawQ G v := by
 obtain ⟨z, sa, sb, la, lb, neg, e, hz, h1, h2, h3⟩ := h.ex
 exact ⟨z, sa, sb, la, lb, neg, e, hz, SlN.mono h1 k, SlN.mono h2 k, h3⟩
theorem floor_pv (a : Rat) (ha : sm a) : PV Tryz.prog 58 #[fracV a] (intV (a.num / (a.den : Int))) := by
 have na := ha.num
 have bda : big a.den := Nat.le_trans ha.den (by omega)
 have c := bl_add a.num.natAbs 1
 have hd := wholeDiv_pv a.num (a.den : Int) (by have := a.den_nz; omega) (by have := bl_one; show bl _ ≤ _; omega) bda
 rw [Int.fdiv_eq_ediv_of_nonneg _ (Int.natCast_nonneg _)] at hd
 have d1 := den_pv a bda
 have s1 := from_pv false a.den bda
 refine PV.of_pc ?_
 refine PC.body Tryz.tab_ok Tryz.func58 rfl (by kernel_rfl) Tryz.ntmps58 rfl rfl ?_
 (try refine RUN ?_)
 (apply EV.drawn 14 (by kernel_rfl) (by kernel_rfl); intro xv yw; (repeat (first | refine' DV (h := ?_) | refine' DA (h := ?_) | refine' DK0 (h := ?_) | (refine' DC (d1) (h := ?_); rotate_left) | (refine' DC (s1) (h := ?_); rotate_left) | (refine' DC (hd) (h := ?_); rotate_left) | refine' DS (h := ?_))); refine DJ.nil (fun G hG hF => ?_); (case hS => rfl); (case hS2 => rfl))
 (try refine RUN ?_)
 rfl
def kb (z : Int) : Nat := (max 0 (min z 256)).toNat
theorem rq_small {q : Rat} {k : Nat} (h : ht q ≤ k) (hk : k ≤ 100000000) : rq q := Nat.le_trans h hk
section
variable {P : Program} {n : Nat} {ops : Array Oper} {o : Oper} {rest : List Oper} {env : Env} {bx : Bxs} {H : Hs} {Q : EQ} {τ : Tab} {d : Nat}
end
structure Nrst (N n : Int) (d : Nat) : Prop where
 up : 2 * (N * d - n) ≤ d
 down : 2 * (n - N * d) ≤ d
 tieU : 2 * (N * d - n) = d → N % 2 = 0
 tieD : 2 * (n - N * d) = d → N % 2 = 0
theorem Nrst.le {N N' n n' : Int} {d d' : Nat} (h : Nrst N n d) (h' : Nrst N' n' d') (hd : 0 < d) (hd' : 0 < d') (hle : n * d' ≤ n' * d) : N ≤ N' := by
 rcases (by omega : N' < N ∨ N ≤ N') with hlt | hge
 ·exfalso
  have hdd : (0 : Int) < (d : Int) * d' := Int.mul_pos (by omega) (by omega)
  have a1 : (2 * N - 1) * d ≤ 2 * n := by have := h.up; rw [Int.sub_mul, Int.one_mul, Int.mul_assoc]; omega
  have a2 : 2 * n' ≤ (2 * N' + 1) * d' := by have := h'.down; rw [Int.add_mul, Int.one_mul, Int.mul_assoc]; omega
  have b1 : (2 * N - 1) * d * d' ≤ 2 * n * d' := Int.mul_le_mul_of_nonneg_right a1 (by omega)
  have b2 : 2 * n' * d ≤ (2 * N' + 1) * d' * d := Int.mul_le_mul_of_nonneg_right a2 (by omega)
  have b3 : 2 * n * d' ≤ 2 * n' * d := by rw [Int.mul_assoc, Int.mul_assoc]; omega
  have b4 : (2 * N' + 1) * d' * d = (2 * N' + 1) * (d * d') := by rw [Int.mul_assoc, Int.mul_comm (d' : Int)]
  have b5 : (2 * N - 1) * d * d' = (2 * N - 1) * (d * d') := by rw [Int.mul_assoc]
  have b6 : (2 * N' + 1) * ((d : Int) * d') ≤ (2 * N - 1) * (d * d') := Int.mul_le_mul_of_nonneg_right (by omega) (by omega)
  have t1 : (2 * N - 1) * d * d' = 2 * n * d' := by omega
  have t2 : 2 * n' * d = (2 * N' + 1) * d' * d := by omega
  have t3 : (2 * N - 1) * (d : Int) = 2 * n := Int.eq_of_mul_eq_mul_right (by omega) t1
  have t4 : 2 * n' = (2 * N' + 1) * (d' : Int) := Int.eq_of_mul_eq_mul_right (by omega) t2
  have t5 : (2 * N' + 1) * ((d : Int) * d') = (2 * N - 1) * (d * d') := by omega
  have t6 : 2 * N' + 1 = 2 * N - 1 := Int.eq_of_mul_eq_mul_right (by omega) t5
  have p1 := h.tieU (by rw [Int.sub_mul, Int.one_mul, Int.mul_assoc] at t3; omega)
  have p2 := h'.tieD (by rw [Int.add_mul, Int.one_mul, Int.mul_assoc] at t4; omega)
  omega
 ·exact hge
theorem Nrst.eq {N N' n n' : Int} {d d' : Nat} (h : Nrst N n d) (h' : Nrst N' n' d') (hd : 0 < d) (hd' : 0 < d') (he : n * d' = n' * d) : N = N' :=
 Int.le_antisymm (h.le h' hd hd' (by omega)) (h'.le h hd' hd (by omega))
theorem Nrst.neg {N n : Int} {d : Nat} (h : Nrst N n d) : Nrst (-N) (-n) d :=
 ⟨by have := h.down; rw [Int.neg_mul]; omega, by have := h.up; rw [Int.neg_mul]; omega, fun e => by have := h.tieD (by rw [Int.neg_mul] at e; omega); omega, fun e => by have := h.tieU (by rw [Int.neg_mul] at e; omega); omega⟩
theorem num_den (a : Rat) : (a.num : Rat) = a * (a.den : Rat) := by
 have h : (a.den : Rat) ≠ 0 := by exact_mod_cast a.den_nz
 have := Rat.num_divInt_den a
 rw [Rat.divInt_eq_div] at this
 have h2 : (a.num : Rat) / ((a.den : Int) : Rat) = a := this
 rw [show ((a.den : Int) : Rat) = (a.den : Rat) from rfl] at h2
 grind
theorem cmp_le (a b : Rat) (ha : sm a) (hb : sm b) (h : a ≤ b) : ∃ o : Int, o ≤ 0 ∧ PV Tryz.prog 31 #[fracV a, fracV b] (.int .i64 o) := by
 refine ⟨ordR a b, ?_, cmp_pv a b ha hb⟩
 unfold ordR
 split
 ·decide
 ·split
  ·rename_i h1 h2; exact absurd h2 (Rat.not_lt.2 h)
  ·decide
def InS (lo hi : Rat) (oL oH e : Bool) (t : Rat) : Prop := (if oL then lo < t else lo ≤ t) ∧ (e = true ∨ (if oH then t < hi else t ≤ hi))
structure Best (P : Rat → Prop) (r : Rat) : Prop where
 mem : P r
 den : ∀ t, P t → r.den ≤ t.den
 num : ∀ t, P t → r.num ≤ t.num
theorem Best.eq {P : Rat → Prop} {r s : Rat} (h : Best P r) (k : Best P s) : r = s :=
 Rat.ext (Int.le_antisymm (h.num s k.mem) (k.num r h.mem)) (Nat.le_antisymm (h.den s k.mem) (k.den r h.mem))
theorem flip_nd (f : Int) (u : Rat) (hu : 0 < u) : ((f : Rat) + 1 / u).den = u.num.toNat ∧ ((f : Rat) + 1 / u).num = f * u.num + (u.den : Int) := by
  have hn : 0 < u.num := by have h := (Rat.lt_iff 0 u).1 hu; simpa using h
  obtain ⟨n, hn'⟩ := Int.eq_ofNat_of_zero_le (Int.le_of_lt hn)
  have hpos : 0 < n := by omega
  have e1 : u = (u.num : Rat) / (u.den : Rat) := by
    have h : (u.den : Rat) ≠ 0 := by exact_mod_cast u.den_nz
    rw [num_den u]; grind
  have hd0 : (u.den : Rat) ≠ 0 := by exact_mod_cast u.den_nz
  have hc : Nat.Coprime (f * u.num + (u.den : Int)).natAbs n := by
    have := u.reduced
    rw [hn', Int.natAbs_natCast] at this
    rw [hn']
    show Int.gcd (f * (n : Int) + (u.den : Int)) (n : Int) = 1
    rw [Int.gcd_comm, show f * (n : Int) + (u.den : Int) = (u.den : Int) + (n : Int) * f by rw [Int.mul_comm]; omega, Int.gcd_add_mul_left_right]
    exact this
  have e2 : (f : Rat) + 1 / u = mkRat (f * u.num + (u.den : Int)) n := by
    rw [Rat.mkRat_eq_div]
    have hnr : ((n : Nat) : Rat) ≠ 0 := by have : n ≠ 0 := by omega
                                           exact_mod_cast this
    have hun : (u.num : Rat) = ((n : Nat) : Rat) := by rw [hn']; rfl
    have hu2 := num_den u
    rw [hun] at hu2
    push_cast
    rw [hun]
    have : u ≠ 0 := by grind
    grind
  have e3 : mkRat (f * u.num + (u.den : Int)) n = ⟨f * u.num + (u.den : Int), n, by omega, hc⟩ := by
    rw [← Rat.mk_eq_mkRat]
  rw [e2, e3]
  exact ⟨by show n = _; omega, rfl⟩
theorem ile {a b : Rat} (ha : 0 < a) (hb : 0 < b) : 1 / a ≤ 1 / b ↔ b ≤ a := by
 have e1 : 1 / a * (a * b) = b := by grind
 have e2 : 1 / b * (a * b) = a := by grind
 have hab : 0 < a * b := Rat.mul_pos ha hb
 constructor
 ·intro h
  have := Rat.mul_le_mul_of_nonneg_right h (Rat.le_of_lt hab)
  rwa [e1, e2] at this
 ·intro h
  refine Rat.le_of_mul_le_mul_right ?_ hab
  rwa [e1, e2]
theorem ilt {a b : Rat} (ha : 0 < a) (hb : 0 < b) : 1 / a < 1 / b ↔ b < a := by
 have := ile hb ha
 constructor
 ·intro h
  rcases Rat.le_total (a := a) (b := b) with k | k
  ·exact absurd h (Rat.not_lt.2 (this.2 k))
  ·rcases Rat.le_iff_lt_or_eq.1 k with k | k
   ·exact k
   ·subst k; exact absurd h Rat.lt_irrefl
 ·intro h
  refine Rat.not_le.1 (fun k => ?_)
  exact absurd (this.1 k) (Rat.not_le.2 h)
theorem ipos {a : Rat} (ha : 0 < a) : 0 < 1 / a := by
 refine Rat.not_le.1 (fun h => ?_)
 have := Rat.mul_le_mul_of_nonneg_right h (Rat.le_of_lt ha)
 have e : 1 / a * a = 1 := by grind
 rw [e] at this
 exact absurd this (by rw [Rat.zero_mul]; decide)
theorem npos {u : Rat} (hu : 0 < u) : 0 < u.num := by have h := (Rat.lt_iff 0 u).1 hu; simpa using h
theorem first_best (lo hi : Rat) (oL oH e : Bool) (h0 : 0 ≤ lo) (F : Int) (hF : InS lo hi oL oH e (F : Rat)) (hle : ((F : Rat) - 1) ≤ lo) (hlo : oL = false → (F : Rat) - 1 < lo) : Best (InS lo hi oL oH e) (F : Rat) := by
 refine ⟨hF, fun t _ => ?_, fun t ht => ?_⟩
 ·show 1 ≤ t.den
  exact Nat.pos_of_ne_zero t.den_nz
 ·show F ≤ t.num
  have hd := Nat.pos_of_ne_zero t.den_nz
  have hdr : (0 : Rat) < (t.den : Rat) := by exact_mod_cast hd
  have h1 : (F : Rat) - 1 < t := by
   have := ht.1
   cases oL
   ·have k := hlo rfl
    simp only [Bool.false_eq_true, if_false] at this
    grind
   ·simp only [if_true] at this
    grind
  have h2 : ((F : Rat) - 1) * (t.den : Rat) < (t.num : Rat) := by
   rw [num_den t]; exact Rat.mul_lt_mul_of_pos_right h1 hdr
  have h3 : (F - 1) * (t.den : Int) < t.num := by exact_mod_cast h2
  have h4 : 0 ≤ t.num := by
   have : (0 : Rat) ≤ t := by
    have := ht.1
    cases oL
    ·simp only [Bool.false_eq_true, if_false] at this; grind
    ·simp only [if_true] at this; grind
   exact Rat.num_nonneg.2 this
  rcases Int.lt_or_le 0 F with hp | hp
  ·have := Int.mul_le_mul_of_nonneg_left (show (1 : Int) ≤ (t.den : Int) by omega) (show 0 ≤ F - 1 by omega)
   rw [Int.mul_one] at this
   omega
  ·omega
theorem inner_iff (lo hi : Rat) (oL oH : Bool) (f : Int) (hf : (f : Rat) ≤ lo) (hh : (f : Rat) < hi) (u : Rat) (hu : 0 < u) (hs : (f : Rat) = lo → oL = true ∨ True) :
  InS lo hi oL oH false ((f : Rat) + 1 / u) ↔ InS (1 / (hi - f)) (1 / (lo - f)) oH oL (decide (lo = (f : Rat))) u := by
 have hp := ipos hu
 have huu : 1 / (1 / u) = u := by grind
 have hb : 0 < hi - f := by grind
 have k1 := ile (a := hi - f) (b := 1 / u) hb hp
 have k2 := ilt (a := hi - f) (b := 1 / u) hb hp
 rw [huu] at k1 k2
 have m1 : (f : Rat) + 1 / u ≤ hi ↔ 1 / u ≤ hi - f := by constructor <;> intro h <;> grind
 have m2 : (f : Rat) + 1 / u < hi ↔ 1 / u < hi - f := by constructor <;> intro h <;> grind
 have c2 : (false = true ∨ (if oH then (f : Rat) + 1 / u < hi else (f : Rat) + 1 / u ≤ hi)) ↔ (if oH then 1 / (hi - f) < u else 1 / (hi - f) ≤ u) := by
  cases oH
  ·simp only [Bool.false_eq_true, if_false, false_or]; rw [k1, m1]
  ·simp only [Bool.false_eq_true, if_true, false_or]; rw [k2, m2]
 have c1 : (if oL then lo < (f : Rat) + 1 / u else lo ≤ (f : Rat) + 1 / u) ↔ (decide (lo = (f : Rat)) = true ∨ (if oL then u < 1 / (lo - f) else u ≤ 1 / (lo - f))) := by
  by_cases he : lo = (f : Rat)
  ·rw [decide_eq_true he]
   simp only [true_or, iff_true]
   rw [he]
   cases oL
   ·simp only [Bool.false_eq_true, if_false]; grind
   ·simp only [if_true]; grind
  ·have ha : 0 < lo - f := by grind
   have j1 := ile (a := 1 / u) (b := lo - f) hp ha
   have j2 := ilt (a := 1 / u) (b := lo - f) hp ha
   rw [huu] at j1 j2
   have n1 : lo ≤ (f : Rat) + 1 / u ↔ lo - f ≤ 1 / u := by constructor <;> intro h <;> grind
   have n2 : lo < (f : Rat) + 1 / u ↔ lo - f < 1 / u := by constructor <;> intro h <;> grind
   rw [decide_eq_false he]
   cases oL
   ·simp only [Bool.false_eq_true, if_false, false_or]; rw [j1, n1]
   ·simp only [Bool.false_eq_true, if_true, false_or]; rw [j2, n2]
 unfold InS
 rw [c1, c2]
 exact And.comm
theorem step_best (lo hi : Rat) (oL oH : Bool) (f : Int) (h0 : 0 ≤ f) (hf : (f : Rat) ≤ lo) (hlh : lo < hi) (hno : ¬ InS lo hi oL oH false (f : Rat)) (y : Rat)
  (hy : Best (InS (1 / (hi - f)) (1 / (lo - f)) oH oL (decide (lo = (f : Rat)))) y) : Best (InS lo hi oL oH false) ((f : Rat) + 1 / y) := by
 have hh : (f : Rat) < hi := by grind
 have hpos : ∀ u, InS (1 / (hi - f)) (1 / (lo - f)) oH oL (decide (lo = (f : Rat))) u → 0 < u := fun u hu => by
  have hb : 0 < hi - f := by grind
  have := ipos hb
  have h1 := hu.1
  cases oH
  ·simp only [Bool.false_eq_true, if_false] at h1; grind
  ·simp only [if_true] at h1; grind
 have hy0 := hpos y hy.mem
 have nd := flip_nd f y hy0
 have key : ∀ t, InS lo hi oL oH false t → ∃ u, 0 < u ∧ t = (f : Rat) + 1 / u ∧ InS (1 / (hi - f)) (1 / (lo - f)) oH oL (decide (lo = (f : Rat))) u := fun t ht => by
  have hft : (f : Rat) < t := by
   refine Rat.not_le.1 (fun k => hno ?_)
   have : t = (f : Rat) := by
    have h1 := ht.1
    cases oL
    ·simp only [Bool.false_eq_true, if_false] at h1; grind
    ·simp only [if_true] at h1; grind
   rwa [← this]
  have hp : 0 < t - f := by grind
  refine ⟨1 / (t - f), ipos hp, by grind, ?_⟩
  have e : (f : Rat) + 1 / (1 / (t - f)) = t := by grind
  rw [← inner_iff lo hi oL oH f hf hh _ (ipos hp) (fun _ => Or.inr trivial), e]
  exact ht
 refine ⟨(inner_iff lo hi oL oH f hf hh y hy0 (fun _ => Or.inr trivial)).2 hy.mem, fun t ht => ?_, fun t ht => ?_⟩
 ·obtain ⟨u, hu0, rfl, hu⟩ := key t ht
  rw [nd.1, (flip_nd f u hu0).1]
  have := hy.num u hu
  omega
 ·obtain ⟨u, hu0, rfl, hu⟩ := key t ht
  rw [nd.2, (flip_nd f u hu0).2]
  have h1 := hy.num u hu
  have h2 := hy.den u hu
  have := Int.mul_le_mul_of_nonneg_left h1 h0
  omega
theorem simp_ht (lo hi : Rat) (oL oH : Bool) (h0 : 0 ≤ lo) (hlh : lo < hi) {r : Rat} (h : Best (InS lo hi oL oH false) r) : ht r ≤ max (ht lo) (ht hi) + 1 := by
 have hl := Nat.pos_of_ne_zero lo.den_nz
 have hh := Nat.pos_of_ne_zero hi.den_nz
 have a1 : (0 : Rat) < (lo.den : Rat) := by exact_mod_cast hl
 have a2 : (0 : Rat) < (hi.den : Rat) := by exact_mod_cast hh
 have e1 := num_den lo
 have e2 := num_den hi
 have hne : lo.den + hi.den ≠ 0 := by omega
 have hm : mkRat (lo.num + hi.num) (lo.den + hi.den) * ((lo.den : Rat) + (hi.den : Rat)) = lo * (lo.den : Rat) + hi * (hi.den : Rat) := by
  rw [Rat.mkRat_eq_div]
  push_cast
  rw [e1, e2]
  grind
 have hs : (0 : Rat) < (lo.den : Rat) + (hi.den : Rat) := by grind
 have p1 : 0 < (hi - lo) * (hi.den : Rat) := Rat.mul_pos (by grind) a2
 have p2 : 0 < (hi - lo) * (lo.den : Rat) := Rat.mul_pos (by grind) a1
 generalize hmd : mkRat (lo.num + hi.num) (lo.den + hi.den) = m at *
 have l1 : lo < m := Rat.lt_of_mul_lt_mul_right (c := (lo.den : Rat) + (hi.den : Rat)) (by rw [hm]; grind) (Rat.le_of_lt hs)
 have l2 : m < hi := Rat.lt_of_mul_lt_mul_right (c := (lo.den : Rat) + (hi.den : Rat)) (by rw [hm]; grind) (Rat.le_of_lt hs)
 have hin : InS lo hi oL oH false m := by
  unfold InS
  refine ⟨?_, Or.inr ?_⟩
  ·cases oL
   ·simp only [Bool.false_eq_true, if_false]; exact Rat.le_of_lt l1
   ·simp only [if_true]; exact l1
  ·cases oH
   ·simp only [Bool.false_eq_true, if_false]; exact Rat.le_of_lt l2
   ·simp only [if_true]; exact l2
 have d := h.den m hin
 have n := h.num m hin
 have r0 : 0 ≤ r.num := Rat.num_nonneg.2 (by
  have := h.mem.1
  cases oL
  ·simp only [Bool.false_eq_true, if_false] at this; grind
  ·simp only [if_true] at this; grind)
 have hb := ht_mk (lo.num + hi.num) (lo.den + hi.den) hne
 rw [hmd] at hb
 have g1 := bl_natAbs_add lo.num hi.num
 have g2 := bl_add lo.den hi.den
 have g3 : bl r.num.natAbs ≤ bl m.num.natAbs := bl_mono (by omega)
 have g4 : bl r.den ≤ bl m.den := bl_mono d
 unfold ht at *
 omega
theorem shift_nd (f : Int) (h : Rat) : (h - (f : Rat)).den = h.den ∧ (h - (f : Rat)).num = h.num - f * (h.den : Int) := by
 have hd0 : (h.den : Rat) ≠ 0 := by exact_mod_cast h.den_nz
 have hc : Nat.Coprime (h.num - f * (h.den : Int)).natAbs h.den := by
  have := h.reduced
  show Int.gcd (h.num - f * (h.den : Int)) (h.den : Int) = 1
  rw [show h.num - f * (h.den : Int) = h.num + (h.den : Int) * (-f) by rw [Int.mul_neg, Int.mul_comm]; omega, Int.gcd_comm, Int.gcd_add_mul_left_right, Int.gcd_comm]
  exact this
 have e2 : h - (f : Rat) = mkRat (h.num - f * (h.den : Int)) h.den := by
  rw [Rat.mkRat_eq_div]
  have := num_den h
  push_cast
  rw [this]
  grind
 have e3 : mkRat (h.num - f * (h.den : Int)) h.den = ⟨h.num - f * (h.den : Int), h.den, h.den_nz, hc⟩ := by
  rw [← Rat.mk_eq_mkRat]
 rw [e2, e3]
 exact ⟨rfl, rfl⟩
theorem inv_nd (u : Rat) (hu : 0 < u) : (1 / u).den = u.num.toNat ∧ (1 / u).num = (u.den : Int) := by
 have := flip_nd 0 u hu
 rw [show ((0 : Int) : Rat) + 1 / u = 1 / u by push_cast; grind] at this
 exact ⟨this.1, by rw [this.2]; omega⟩
theorem inner_nd (f : Int) (h : Rat) (h1 : (f : Rat) < h) : (1 / (h - f)).num = (h.den : Int) ∧ ((1 / (h - f)).den : Int) = h.num - f * (h.den : Int) := by
 have hp : 0 < h - (f : Rat) := by grind
 have s := shift_nd f h
 have v := inv_nd _ hp
 have := npos hp
 rw [v.2, v.1, s.1]
 rw [s.2] at this ⊢
 exact ⟨rfl, by omega⟩
theorem inner_den (f : Int) (h : Rat) (h1 : (f : Rat) < h) (h2 : h ≤ (f : Rat) + 1) : (1 / (h - f)).den ≤ h.den := by
 have n := inner_nd f h h1
 have hd := Nat.pos_of_ne_zero h.den_nz
 have hdr : (0 : Rat) ≤ (h.den : Rat) := by exact_mod_cast Nat.zero_le _
 have h3 := Rat.mul_le_mul_of_nonneg_right h2 hdr
 rw [← num_den h] at h3
 have h4 : h.num ≤ (f + 1) * (h.den : Int) := by exact_mod_cast h3
 rw [Int.add_mul, Int.one_mul] at h4
 omega
theorem inner_den_lt (f : Int) (h : Rat) (h1 : (f : Rat) < h) (h2 : h < (f : Rat) + 1) : (1 / (h - f)).den < h.den := by
 have n := inner_nd f h h1
 have hd := Nat.pos_of_ne_zero h.den_nz
 have hdr : (0 : Rat) < (h.den : Rat) := by exact_mod_cast hd
 have h3 := Rat.mul_lt_mul_of_pos_right h2 hdr
 rw [← num_den h] at h3
 have h4 : h.num < (f + 1) * (h.den : Int) := by exact_mod_cast h3
 rw [Int.add_mul, Int.one_mul] at h4
 omega
theorem inner_ht (f : Int) (h : Rat) (h1 : (f : Rat) < h) (h2 : h ≤ (f : Rat) + 1) : ht (1 / (h - f)) ≤ ht h := by
 have n := inner_nd f h h1
 have d := bl_mono (inner_den f h h1 h2)
 have k : ht (1 / (h - f)) = max (bl (1 / (h - f)).num.natAbs) (bl (1 / (h - f)).den) := rfl
 have k2 : ht h = max (bl h.num.natAbs) (bl h.den) := rfl
 rw [n.1, Int.natAbs_natCast] at k
 omega
def spanV (l h : Rat) (a b e : Bool) : Value := .agg #[.bool (decide (l.num < 0)), .int .u64 (lo l.num.natAbs : Int), .string (moreB l.num.natAbs), .int .u64 (lo (dk l.den) : Int), .string (moreB (dk l.den)), .bool (decide (h.num < 0)), .int .u64 (lo h.num.natAbs : Int), .string (moreB h.num.natAbs), .int .u64 (lo (dk h.den) : Int), .string (moreB (dk h.den)), .bool a, .bool b, .bool e]
theorem ordR_zero (a b : Rat) : ordR a b = 0 ↔ a = b := by
 unfold ordR
 constructor
 ·intro h
  split at h
  ·exact absurd h (by decide)
  ·split at h
   ·exact absurd h (by decide)
   ·rename_i h1 h2; exact Rat.le_antisymm (Rat.not_lt.1 h2) (Rat.not_lt.1 h1)
 ·rintro rfl; rw [if_neg Rat.lt_irrefl, if_neg Rat.lt_irrefl]
theorem cmp_int (f : Int) (l : Rat) (sf : sm (f : Rat)) (sl : sm l) : PV Tryz.prog 31 #[.agg #[.bool (decide (f < 0)), .int .u64 (lo f.natAbs : Int), .string (moreB f.natAbs), .int .u64 0, .string ⟨#[]⟩], fracV l] (.int .i64 (ordR (f : Rat) l)) := by
 have := cmp_pv (f : Rat) l sf sl
 rwa [show fracV (f : Rat) = _ from frV_zero f] at this
theorem bl_ediv (n : Int) (d : Nat) : bl (n / (d : Int)).natAbs ≤ bl n.natAbs := bl_mono (natAbs_ediv_le n d)
theorem sm_int {f : Int} (h : bl f.natAbs ≤ 1000) : sm (f : Rat) := by
 show max (bl f.natAbs) (bl 1) ≤ _
 rw [bl_one']; omega
def firstZ (l : Rat) (a : Bool) : Int := if a || decide (((l.num / (l.den : Int) : Int) : Rat) ≠ l) then l.num / (l.den : Int) + 1 else l.num / (l.den : Int)
theorem simplest_end {H : Hp} (l : Rat) (hl : ht l ≤ 500) (a b : Bool) : PC Tryz.prog 135 #[spanV l 0 a b true] H fun r _ => r = fracV (firstZ l a : Rat) := by
 have sl : sm l := by unfold sm; omega
 have hfl := floor_pv l sl
 have hb := bl_ediv l.num l.den
 unfold firstZ
 generalize l.num / (l.den : Int) = f at *
 have h1 := bl_num_le l
 have hf : bl f.natAbs ≤ 501 := by omega
 have hcmp := cmp_int f l (sm_int (by omega)) sl
 have hz := ordR_zero (f : Rat) l
 have hof := wholeOf_pv 1 (by omega) (by omega)
 have hadd := wholeAdd_pv f 1 (Nat.le_trans hf (by omega)) (by show bl 1 ≤ _; rw [bl_one']; omega) (by have := bl_add f.natAbs 1; rw [bl_one'] at this; show bl (f.natAbs + 1) ≤ _; omega)
 rw [show fracV (((if a || decide ((f : Rat) ≠ l) then f + 1 else f) : Int) : Rat) = _ from frV_zero _]
 generalize hFF : (if (a || decide ((f : Rat) ≠ l)) = true then f + 1 else f) = F
 generalize ordR (f : Rat) l = o at *
 refine PC.body Tryz.tab_ok Tryz.func135 rfl (by kernel_rfl) Tryz.ntmps135 rfl rfl ?_
 cases a
 ·by_cases h : (f : Rat) = l
  ·rw [hz.2 h] at hcmp
   repeat (first | refine RUN ?_ | refine CV (hfl) ?_ | refine CV (hcmp) ?_ | refine CE (hfl) ?_ | refine CE (hcmp) ?_)
   rw [show F = f by rw [← hFF]; simp [h]]
   rfl
  ·have ho : o ≠ 0 := fun e => h (hz.1 e)
   repeat (first | refine RUN ?_ | refine CV (hfl) ?_ | refine CV (hcmp) ?_ | refine CE (hfl) ?_ | refine CE (hcmp) ?_)
   rw [show (o != 0) = true by simpa using ho]
   (try refine RUN ?_)
   apply EV.drawnK [1, 2, 3, 4] [4] [1, 2, 3] 6 rfl rfl rfl rfl (by kernel_rfl) (by kernel_rfl); intro xv yw
   (repeat (first | refine' DV (h := ?_) | refine' DA (h := ?_) | refine' DK0 (h := ?_) | (refine' DJ.setb Tryz.tab_ok rfl rfl rfl rfl rfl rfl rfl rfl rfl rfl rfl ?_; rotate_left) | (refine' DC (hof) (h := ?_); rotate_left) | (refine' DC (hadd) (h := ?_); rotate_left) | refine' DS (h := ?_)))
   (refine DJ.nil (fun G hG hF => ?_); (case hS => rfl); (case hS2 => rfl); (case hD => rfl))
   (try refine RUN ?_)
   rw [show F = f + 1 by rw [← hFF]; simp [h]]
   rfl
 ·repeat (first | refine RUN ?_ | refine CV (hfl) ?_ | refine CE (hfl) ?_)
  apply EV.drawnK [1, 2, 3, 4] [4] [1, 2, 3] 6 rfl rfl rfl rfl (by kernel_rfl) (by kernel_rfl); intro xv yw
  (repeat (first | refine' DV (h := ?_) | refine' DA (h := ?_) | refine' DK0 (h := ?_) | (refine' DJ.setb Tryz.tab_ok rfl rfl rfl rfl rfl rfl rfl rfl rfl rfl rfl ?_; rotate_left) | (refine' DC (hof) (h := ?_); rotate_left) | (refine' DC (hadd) (h := ?_); rotate_left) | refine' DS (h := ?_)))
  (refine DJ.nil (fun G hG hF => ?_); (case hS => rfl); (case hS2 => rfl); (case hD => rfl))
  (try refine RUN ?_)
  rw [show F = f + 1 by rw [← hFF]; simp]
  rfl
theorem simplest_in {H : Hp} (l h : Rat) (hl : ht l ≤ 400) (hh : ht h ≤ 400) (a b : Bool) (hin : if b then (firstZ l a : Rat) < h else (firstZ l a : Rat) ≤ h) : PC Tryz.prog 135 #[spanV l h a b false] H fun r _ => r = fracV (firstZ l a : Rat) := by
 have sl : sm l := by unfold sm; omega
 have sh : sm h := by unfold sm; omega
 have hfl := floor_pv l sl
 have hb := bl_ediv l.num l.den
 unfold firstZ at hin ⊢
 generalize l.num / (l.den : Int) = f at *
 have h1 := bl_num_le l
 have hf : bl f.natAbs ≤ 400 := by omega
 have hcmp := cmp_int f l (sm_int (by omega)) sl
 have hz := ordR_zero (f : Rat) l
 have hof := wholeOf_pv 1 (by omega) (by omega)
 have hadd := wholeAdd_pv f 1 (Nat.le_trans hf (by omega)) (by show bl 1 ≤ _; rw [bl_one']; omega) (by have := bl_add f.natAbs 1; rw [bl_one'] at this; show bl (f.natAbs + 1) ≤ _; omega)
 have hf2 : bl (f + 1).natAbs ≤ 401 := by
  have k1 := bl_add f.natAbs 1
  rw [bl_one'] at k1
  have k2 := bl_mono (show (f + 1).natAbs ≤ f.natAbs + 1 by omega)
  have k3 := bl_pos (n := 1) (by decide)
  omega
 generalize hFF : (if (a || decide ((f : Rat) ≠ l)) = true then f + 1 else f) = F at *
 have hFb : bl F.natAbs ≤ 401 := by rw [← hFF]; split <;> omega
 have hc2 := cmp_int F h (sm_int (by omega)) sh
 have hlt : ordR (F : Rat) h < 0 ∨ (ordR (F : Rat) h = 0 ∧ b = false) := by
  have neg : (F : Rat) < h → ordR (F : Rat) h < 0 := fun k => by unfold ordR; rw [if_pos k]; decide
  cases b
  ·simp only [Bool.false_eq_true, if_false] at hin
   rcases Rat.le_iff_lt_or_eq.1 hin with k | k
   ·exact Or.inl (neg k)
   ·exact Or.inr ⟨(ordR_zero _ _).2 k, rfl⟩
  ·simp only [if_true] at hin
   exact Or.inl (neg hin)
 rw [show fracV (F : Rat) = _ from frV_zero F]
 generalize ordR (F : Rat) h = o2 at *
 generalize ordR (f : Rat) l = o at *
 refine PC.body Tryz.tab_ok Tryz.func135 rfl (by kernel_rfl) Tryz.ntmps135 rfl rfl ?_
 cases a
 ·by_cases hfl2 : (f : Rat) = l
  ·rw [hz.2 hfl2] at hcmp
   have e : F = f := by rw [← hFF]; simp [hfl2]
   subst e
   repeat (first | refine RUN ?_ | refine CV (hfl) ?_ | refine CV (hcmp) ?_ | refine CV (hc2) ?_ | refine CE (hfl) ?_ | refine CE (hcmp) ?_ | refine CE (hc2) ?_)
   rcases hlt with ho | ⟨rfl, rfl⟩
   ·rw [decide_eq_true ho]
    (try refine RUN ?_)
    rfl
   ·(try refine RUN ?_)
    rfl
  ·have ho : o ≠ 0 := fun e => hfl2 (hz.1 e)
   have e : F = f + 1 := by rw [← hFF]; simp [hfl2]
   subst e
   repeat (first | refine RUN ?_ | refine CV (hfl) ?_ | refine CV (hcmp) ?_ | refine CE (hfl) ?_ | refine CE (hcmp) ?_)
   rw [show (o != 0) = true by simpa using ho]
   (try refine RUN ?_)
   apply EV.drawnK [1, 2, 3, 4] [4] [1, 2, 3] 6 rfl rfl rfl rfl (by kernel_rfl) (by kernel_rfl); intro xv yw
   (repeat (first | refine' DV (h := ?_) | refine' DA (h := ?_) | refine' DK0 (h := ?_) | (refine' DJ.setb Tryz.tab_ok rfl rfl rfl rfl rfl rfl rfl rfl rfl rfl rfl ?_; rotate_left) | (refine' DC (hof) (h := ?_); rotate_left) | (refine' DC (hadd) (h := ?_); rotate_left) | refine' DS (h := ?_)))
   (refine DJ.nil (fun G hG hF => ?_); (case hS => rfl); (case hS2 => rfl); (case hD => rfl))
   repeat (first | refine RUN ?_ | refine CV (hc2) ?_ | refine CE (hc2) ?_)
   rcases hlt with ho | ⟨rfl, rfl⟩
   ·rw [decide_eq_true ho]
    (try refine RUN ?_)
    rfl
   ·(try refine RUN ?_)
    rfl
 ·have e : F = f + 1 := by rw [← hFF]; simp
  subst e
  repeat (first | refine RUN ?_ | refine CV (hfl) ?_ | refine CE (hfl) ?_)
  apply EV.drawnK [1, 2, 3, 4] [4] [1, 2, 3] 6 rfl rfl rfl rfl (by kernel_rfl) (by kernel_rfl); intro xv yw
  (repeat (first | refine' DV (h := ?_) | refine' DA (h := ?_) | refine' DK0 (h := ?_) | (refine' DJ.setb Tryz.tab_ok rfl rfl rfl rfl rfl rfl rfl rfl rfl rfl rfl ?_; rotate_left) | (refine' DC (hof) (h := ?_); rotate_left) | (refine' DC (hadd) (h := ?_); rotate_left) | refine' DS (h := ?_)))
  (refine DJ.nil (fun G hG hF => ?_); (case hS => rfl); (case hS2 => rfl); (case hD => rfl))
  repeat (first | refine RUN ?_ | refine CV (hc2) ?_ | refine CE (hc2) ?_)
  rcases hlt with ho | ⟨rfl, rfl⟩
  ·rw [decide_eq_true ho]
   (try refine RUN ?_)
   rfl
  ·(try refine RUN ?_)
   rfl
theorem div1_pv (x : Rat) (sx : sm x) : PV Tryz.prog 41 #[fracV 1, fracV x] (.tuple #[fracV (1 / x), .bool (!decide (x = 0))]) := by
 by_cases h : x = 0
 ·subst h
  have := div_zero_pv 1
  rwa [show (1 : Rat) / 0 = 0 by rw [Rat.div_def, Rat.inv_zero, Rat.mul_zero], decide_eq_true rfl]
 ·have := div_pv 1 x (by show max (bl 1) (bl 1) ≤ _; rw [bl_one']; omega) sx h
  rwa [decide_eq_false h]
theorem simplest_out (l h : Rat) (hl : ht l ≤ 400) (hh : ht h ≤ 400) (a b : Bool) (f : Int) (hfe : f = l.num / (l.den : Int)) (hF : a = true ∨ (f : Rat) ≠ l) (hno : h < ((f + 1 : Int) : Rat) ∨ (b = true ∧ h = ((f + 1 : Int) : Rat))) (u : Rat) (hu : ht u ≤ 500)
  (hin : PV Tryz.prog 135 #[spanV (1 / (h - f)) (1 / (l - f)) b a (decide (l - f = 0))] (fracV u)) : PV Tryz.prog 135 #[spanV l h a b false] (fracV ((f : Rat) + 1 / u)) := by
 refine PV.of_pc ?_
 have sl : sm l := by unfold sm; omega
 have sh : sm h := by unfold sm; omega
 have su : sm u := by unfold sm; omega
 have hfl := floor_pv l sl
 have hb := bl_ediv l.num l.den
 rw [← hfe] at hfl hb
 have h1 := bl_num_le l
 have hf : bl f.natAbs ≤ 400 := by omega
 have hff : ht (f : Rat) ≤ 401 := by
  show max (bl f.natAbs) (bl 1) ≤ _
  rw [bl_one']; omega
 have hcmp := cmp_int f l (sm_int (by omega)) sl
 have hz := ordR_zero (f : Rat) l
 have hof := wholeOf_pv 1 (by omega) (by omega)
 have hadd := wholeAdd_pv f 1 (Nat.le_trans hf (by omega)) (by show bl 1 ≤ _; rw [bl_one']; omega) (by have := bl_add f.natAbs 1; rw [bl_one'] at this; show bl (f.natAbs + 1) ≤ _; omega)
 have hf2 : bl (f + 1).natAbs ≤ 401 := by
  have k1 := bl_add f.natAbs 1
  rw [bl_one'] at k1
  have k2 := bl_mono (show (f + 1).natAbs ≤ f.natAbs + 1 by omega)
  have k3 := bl_pos (n := 1) (by decide)
  omega
 have hc2 := cmp_int (f + 1) h (sm_int (by omega)) sh
 have hge : ¬ ordR ((f + 1 : Int) : Rat) h < 0 := by
  unfold ordR
  rcases hno with k | ⟨_, k⟩
  ·rw [if_neg (by grind), if_pos k]; decide
  ·rw [if_neg (by grind), if_neg (by grind)]; decide
 have hz2 : ordR ((f + 1 : Int) : Rat) h = 0 → b = true := fun e => by
  rcases hno with k | ⟨k, _⟩
  ·have := (ordR_zero _ _).1 e
   rw [this] at k; exact absurd k Rat.lt_irrefl
  ·exact k
 have hone := of_pv 1 (by omega) (by omega)
 rw [show fracV ((1 : Int) : Rat) = fracV 1 from rfl] at hone
 have t1 := ht_sub h (f : Rat)
 have t2 := ht_sub l (f : Rat)
 have s1 := sub_pv h f sh (sm_int (by omega))
 have s2 := sub_pv l f sl (sm_int (by omega))
 have d1 := div1_pv (h - f) (by unfold sm; omega)
 have d2 := div1_pv (l - f) (by unfold sm; omega)
 have d3 := div1_pv u su
 have t3 : ht (1 / u) ≤ ht u := by rw [show (1 : Rat) / u = u⁻¹ by rw [Rat.div_def, Rat.one_mul]]; exact ht_inv u
 have ha := add_pv (f : Rat) (1 / u) (sm_int (by omega)) (by unfold sm; omega)
 rw [show fracV (f : Rat) = _ from frV_zero f] at s1 s2 ha
 have hin' := hin
 rw [show decide (l - (f : Rat) = 0) = !(!decide (l - (f : Rat) = 0)) by rw [Bool.not_not]] at hin'
 clear hin
 generalize (f : Rat) + 1 / u = R at *
 generalize 1 / u = v at *
 generalize h - (f : Rat) = x1 at *
 generalize l - (f : Rat) = x2 at *
 generalize (!decide (x1 = 0)) = z1 at *
 generalize (!decide (x2 = 0)) = z2 at *
 generalize (!decide (u = 0)) = z3 at *
 generalize 1 / x1 = y1 at *
 generalize 1 / x2 = y2 at *
 clear t1 t2 t3 hff
 generalize ordR ((f + 1 : Int) : Rat) h = o2 at *
 generalize ordR (f : Rat) l = o at *
 refine PC.body Tryz.tab_ok Tryz.func135 rfl (by kernel_rfl) Tryz.ntmps135 rfl rfl ?_
 cases a
 case' false =>
  have ho : o ≠ 0 := fun e => by
   rcases hF with k | k
   ·cases k
   ·exact k (hz.1 e)
  repeat (first | refine RUN ?_ | refine CV (hfl) ?_ | refine CV (hcmp) ?_ | refine CE (hfl) ?_ | refine CE (hcmp) ?_)
  rw [show (o != 0) = true by simpa using ho]
  (try refine RUN ?_)
 case' true => repeat (first | refine RUN ?_ | refine CV (hfl) ?_ | refine CE (hfl) ?_)
 all_goals
  apply EV.drawnK [1, 2, 3, 4] [4] [1, 2, 3] 6 rfl rfl rfl rfl (by kernel_rfl) (by kernel_rfl); intro xv yw
  (repeat (first | refine' DV (h := ?_) | refine' DA (h := ?_) | refine' DK0 (h := ?_) | (refine' DJ.setb Tryz.tab_ok rfl rfl rfl rfl rfl rfl rfl rfl rfl rfl rfl ?_; rotate_left) | (refine' DC (hof) (h := ?_); rotate_left) | (refine' DC (hadd) (h := ?_); rotate_left) | refine' DS (h := ?_)))
  (refine DJ.nil (fun G hG hF => ?_); (case hS => rfl); (case hS2 => rfl); (case hD => rfl))
  repeat (first | refine RUN ?_ | refine CV (hc2) ?_ | refine CE (hc2) ?_)
  rw [decide_eq_false hge]
  by_cases h0 : o2 = 0
  case' pos =>
   obtain rfl := hz2 h0
   subst h0
   repeat (first | refine RUN ?_ | refine CV (hone) ?_ | refine CE (hone) ?_)
  case' neg =>
   (try refine RUN ?_)
   rw [show (o2 == 0) = false by simpa using h0]
   repeat (first | refine RUN ?_ | refine CV (hone) ?_ | refine CE (hone) ?_)
  all_goals
   apply EV.drawnK [1, 2, 3, 6, 7] [7] [1, 2, 3, 6] 11 rfl rfl rfl rfl (by kernel_rfl) (by kernel_rfl); intro xv yw
   (repeat (first | refine' DV (h := ?_) | refine' DA (h := ?_) | refine' DK0 (h := ?_) | (refine' DJ.setb Tryz.tab_ok rfl rfl rfl rfl rfl rfl rfl rfl rfl rfl rfl ?_; rotate_left) | (refine' DC (s1) (h := ?_); rotate_left) | (refine' DC (d1) (h := ?_); rotate_left) | refine' DS (h := ?_)))
   (refine DJ.nil (fun G hG hF => ?_); (case hS => rfl); (case hS2 => rfl); (case hD => rfl))
   (try refine RUN ?_)
   apply EV.drawnK [1, 2, 3, 6, 7] [7] [1, 2, 3, 6] 12 rfl rfl rfl rfl (by kernel_rfl) (by kernel_rfl); intro xv yw
   (repeat (first | refine' DV (h := ?_) | refine' DA (h := ?_) | refine' DK0 (h := ?_) | (refine' DJ.setb Tryz.tab_ok rfl rfl rfl rfl rfl rfl rfl rfl rfl rfl rfl ?_; rotate_left) | (refine' DC (s2) (h := ?_); rotate_left) | (refine' DC (d2) (h := ?_); rotate_left) | refine' DS (h := ?_)))
   (refine DJ.nil (fun G hG hF => ?_); (case hS => rfl); (case hS2 => rfl); (case hD => rfl))
   (try refine RUN ?_)
   apply EV.drawn 10 (by kernel_rfl) (by kernel_rfl); intro xv yw
   (repeat (first | refine' DV (h := ?_) | refine' DA (h := ?_) | refine' DK0 (h := ?_) | (refine' DJ.setb Tryz.tab_ok rfl rfl rfl rfl rfl rfl rfl rfl rfl rfl rfl ?_; rotate_left) | (refine' DC (hin') (h := ?_); rotate_left) | (refine' DC (d3) (h := ?_); rotate_left) | refine' DS (h := ?_)))
   (refine DJ.nil (fun G hG hF => ?_); (case hS => rfl); (case hS2 => rfl))
   repeat (first | refine RUN ?_ | refine CV (ha) ?_ | refine CE (ha) ?_)
   rfl
theorem floor_le (l : Rat) : ((l.num / (l.den : Int) : Int) : Rat) ≤ l ∧ l < ((l.num / (l.den : Int) : Int) : Rat) + 1 := by
 have hd := Nat.pos_of_ne_zero l.den_nz
 have hdr : (0 : Rat) < (l.den : Rat) := by exact_mod_cast hd
 have e := num_den l
 have k1 := Int.mul_ediv_self_le (x := l.num) (k := (l.den : Int)) (by omega)
 have k2 := Int.lt_mul_ediv_self_add (x := l.num) (k := (l.den : Int)) (by omega)
 generalize l.num / (l.den : Int) = f at *
 have k3 : ((l.den : Rat)) * (f : Rat) ≤ (l.num : Rat) := by exact_mod_cast k1
 have k4 : (l.num : Rat) < (l.den : Rat) * (f : Rat) + (l.den : Rat) := by exact_mod_cast k2
 rw [e] at k3 k4
 exact ⟨Rat.le_of_mul_le_mul_right (by grind) hdr, Rat.lt_of_mul_lt_mul_right (c := (l.den : Rat)) (by grind) (Rat.le_of_lt hdr)⟩
theorem firstZ_spec (l : Rat) (a : Bool) : (if a then l < (firstZ l a : Rat) else l ≤ (firstZ l a : Rat)) ∧ (firstZ l a : Rat) - 1 ≤ l ∧ (a = false → (firstZ l a : Rat) - 1 < l) := by
 have h := floor_le l
 unfold firstZ
 generalize l.num / (l.den : Int) = f at *
 by_cases hc : (a || decide ((f : Rat) ≠ l)) = true
 ·rw [if_pos hc]
  push_cast
  refine ⟨?_, by grind, fun ha => ?_⟩
  ·cases a <;> simp <;> grind
  ·subst ha
   have : (f : Rat) ≠ l := by simpa using hc
   grind
 ·rw [if_neg hc]
  cases a
  ·have : (f : Rat) = l := by simpa using hc
   refine ⟨by simp; grind, by grind, fun _ => by grind⟩
  ·exact absurd rfl hc
theorem ht_firstZ (l : Rat) (a : Bool) : ht (firstZ l a : Rat) ≤ ht l + 2 := by
 have hb := bl_ediv l.num l.den
 have h1 := bl_num_le l
 have k1 := bl_add (l.num / (l.den : Int)).natAbs 1
 rw [bl_one'] at k1
 have k2 := bl_mono (show (l.num / (l.den : Int) + 1).natAbs ≤ (l.num / (l.den : Int)).natAbs + 1 by omega)
 show max (bl (firstZ l a).natAbs) (bl 1) ≤ _
 have k3 : bl (firstZ l a).natAbs ≤ ht l + 2 := by
  unfold firstZ
  split <;> omega
 rw [bl_one']
 omega
theorem simplest_pv : ∀ (N : Nat) (l h : Rat) (a b : Bool), l.den + h.den ≤ N → 0 ≤ l → l < h → ht l ≤ 400 → ht h ≤ 400 →
  ∃ r, Best (InS l h a b false) r ∧ PV Tryz.prog 135 #[spanV l h a b false] (fracV r)
 | 0, l, h, a, b, hN, _, _, _, _ => by have := Nat.pos_of_ne_zero l.den_nz; omega
 | N + 1, l, h, a, b, hN, h0, hlt, hl, hh => by
  have fz := firstZ_spec l a
  by_cases hin : if b then (firstZ l a : Rat) < h else (firstZ l a : Rat) ≤ h
  ·exact ⟨_, first_best l h a b false h0 _ ⟨fz.1, .inr hin⟩ fz.2.1 fz.2.2, PV.of_pc (simplest_in l h hl hh a b hin)⟩
  ·have fl := floor_le l
   have hF : a = true ∨ ((l.num / (l.den : Int) : Int) : Rat) ≠ l := by
    by_cases ha : a = true
    ·exact .inl ha
    ·refine .inr fun e => hin ?_
     have : firstZ l a = l.num / (l.den : Int) := by unfold firstZ; rw [if_neg (by simp [ha, e])]
     rw [this, e]
     cases b <;> simp <;> grind
   have hFZ : firstZ l a = l.num / (l.den : Int) + 1 := by
    unfold firstZ
    rw [if_pos (by rcases hF with k | k <;> simp [k])]
   rw [hFZ] at hin
   have hno : h < ((l.num / (l.den : Int) + 1 : Int) : Rat) ∨ (b = true ∧ h = ((l.num / (l.den : Int) + 1 : Int) : Rat)) := by
    cases b
    ·simp only [Bool.false_eq_true, if_false] at hin; exact .inl (Rat.not_le.1 hin)
    ·simp only [if_true] at hin
     rcases Rat.le_iff_lt_or_eq.1 (Rat.not_lt.1 hin) with k | k
     ·exact .inl k
     ·exact .inr ⟨rfl, k⟩
   have hf0 : 0 ≤ l.num / (l.den : Int) := Int.ediv_nonneg (Rat.num_nonneg.2 h0) (by omega)
   have hno' : ¬ InS l h a b false ((l.num / (l.den : Int) : Int) : Rat) := fun k => by
    have k1 := k.1
    rcases hF with e | e
    ·subst e; simp only [if_true] at k1; grind
    ·cases a
     ·simp only [Bool.false_eq_true, if_false] at k1; exact e (Rat.le_antisymm fl.1 k1)
     ·simp only [if_true] at k1; grind
   generalize hfe : l.num / (l.den : Int) = f at *
   have hh1 : h ≤ (f : Rat) + 1 := by
    rcases hno with k | ⟨_, k⟩ <;> push_cast at k <;> grind
   have hfh : (f : Rat) < h := by grind
   have hih := inner_ht f h hfh hh1
   have hid := inner_den f h hfh hh1
   have hip := ipos (show 0 < h - (f : Rat) by grind)
   have key : ∃ u, ht u ≤ 500 ∧ Best (InS (1 / (h - f)) (1 / (l - f)) b a (decide (l = (f : Rat)))) u ∧ PV Tryz.prog 135 #[spanV (1 / (h - f)) (1 / (l - f)) b a (decide (l - f = 0))] (fracV u) := by
    by_cases he : l = (f : Rat)
    ·have z := firstZ_spec (1 / (h - f)) b
     rw [decide_eq_true he, show l - (f : Rat) = 0 by grind, show (1 : Rat) / 0 = 0 by rw [Rat.div_def, Rat.inv_zero, Rat.mul_zero], decide_eq_true rfl]
     exact ⟨_, by have := ht_firstZ (1 / (h - f)) b; omega, first_best _ _ _ _ true (Rat.le_of_lt hip) _ ⟨z.1, .inl rfl⟩ z.2.1 z.2.2, PV.of_pc (simplest_end _ (by omega) b a)⟩
    ·have hp : 0 < l - (f : Rat) := by grind
     have hl1 : l < (f : Rat) + 1 := fl.2
     have d1 := inner_den_lt f l (by grind) hl1
     have i1 := inner_ht f l (by grind) (by grind)
     have hlt' : 1 / (h - (f : Rat)) < 1 / (l - (f : Rat)) := (ilt (by grind) hp).2 (by grind)
     obtain ⟨u, hu, hpv⟩ := simplest_pv N (1 / (h - f)) (1 / (l - f)) b a (by omega) (Rat.le_of_lt hip) hlt' (by omega) (by omega)
     have := simp_ht _ _ _ _ (Rat.le_of_lt hip) hlt' hu
     rw [decide_eq_false he, decide_eq_false (by grind)]
     exact ⟨u, by omega, hu, hpv⟩
   obtain ⟨u, hu5, hu, hpv⟩ := key
   exact ⟨_, step_best l h a b f hf0 fl.1 hlt hno' u hu, simplest_out l h hl hh a b f hfe.symm hF hno u hu5 hpv⟩
structure Simplest (x y r : Rat) : Prop where
 lt : x < r
 le : r ≤ y
 den : ∀ t, x < t → t ≤ y → r.den ≤ t.den
 num : ∀ t, x < t → t ≤ y → r.num.natAbs ≤ t.num.natAbs
theorem Simplest.eq {x y r s : Rat} (h : Simplest x y r) (k : Simplest x y s) : r = s := by
 have hd : r.den = s.den := Nat.le_antisymm (h.den s k.lt k.le) (k.den r h.lt h.le)
 have hn : r.num.natAbs = s.num.natAbs := Nat.le_antisymm (h.num s k.lt k.le) (k.num r h.lt h.le)
 rcases Int.natAbs_eq_natAbs_iff.1 hn with e | e
 ·exact Rat.ext e hd
 ·by_cases h0 : x < 0 ∧ 0 ≤ y
  ·have := h.num 0 h0.1 h0.2
   have : r.num = 0 := by simpa using this
   exact Rat.ext (by omega) hd
  ·have sg : ∀ t, x < t → t ≤ y → (0 ≤ x → 0 < t.num) ∧ (y < 0 → t.num < 0) := fun t h1 h2 => ⟨fun hx => npos (by grind), fun hy => by
    have : 0 < (-t).num := npos (by grind)
    rw [Rat.neg_num] at this; omega⟩
   have g1 := sg r h.lt h.le
   have g2 := sg s k.lt k.le
   by_cases hx : 0 ≤ x
   ·have := g1.1 hx; have := g2.1 hx; omega
   ·have hy : y < 0 := by grind
    have := g1.2 hy; have := g2.2 hy; omega
theorem natAbs_le_of {a b : Int} (h0 : 0 ≤ a) (h : a ≤ b) : a.natAbs ≤ b.natAbs := by omega
theorem best_num0 {l h : Rat} {a b : Bool} {r : Rat} (h0 : 0 ≤ l) (hb : Best (InS l h a b false) r) : 0 ≤ r.num := Rat.num_nonneg.2 (by
 have := hb.mem.1
 cases a
 ·simp only [Bool.false_eq_true, if_false] at this; grind
 ·simp only [if_true] at this; grind)
theorem num_neg {x : Rat} (h : ¬ 0 ≤ x) : x.num < 0 := by
 have := mt Rat.num_nonneg.1 h
 omega
theorem fracV_zero : fracV 0 = .agg #[.bool false, .int .u64 0, .string ⟨#[]⟩, .int .u64 0, .string ⟨#[]⟩] := by
 show frV 0 0 = _
 rw [frV_zero, show (0 : Int).natAbs = 0 from rfl, moreB_empty (n := 0) (by decide)]; rfl
theorem simple_pv (x y : Rat) (hx : ht x ≤ 400) (hy : ht y ≤ 400) (hlt : x < y) : ∃ r, Simplest x y r ∧ ht r ≤ 401 ∧ PV Tryz.prog 57 #[fracV x, fracV y] (.tuple #[fracV r, .bool true]) := by
 have sx : sm x := by unfold sm; omega
 have sy : sm y := by unfold sm; omega
 have hc := cmp_pv x y sx sy
 rw [show ordR x y = -1 by unfold ordR; rw [if_pos hlt]] at hc
 have bx : bigI x.num := Nat.le_trans (bl_num_le x) (by omega)
 have bY : bigI y.num := Nat.le_trans (bl_num_le y) (by omega)
 have sgx := sign_pv x bx
 have sgy := sign_pv y bY
 by_cases h0 : 0 ≤ x
 ·obtain ⟨r, hb, hpv⟩ := simplest_pv _ x y true false (Nat.le_refl _) h0 hlt hx hy
  have hr0 := best_num0 h0 hb
  refine ⟨r, ⟨by simpa using hb.mem.1, by simpa using hb.mem.2, fun t h1 h2 => hb.den t ⟨by simpa using h1, .inr (by simpa using h2)⟩, fun t h1 h2 => natAbs_le_of hr0 (hb.num t ⟨by simpa using h1, .inr (by simpa using h2)⟩)⟩, by have := simp_ht _ _ _ _ h0 hlt hb; omega, ?_⟩
  have hsg : x.num.sign ≥ 0 := Int.sign_nonneg_iff.2 (Rat.num_nonneg.2 h0)
  refine PV.of_pc ?_
  generalize x.num.sign = sx at *
  refine PC.body Tryz.tab_ok Tryz.func57 rfl (by kernel_rfl) Tryz.ntmps57 rfl rfl ?_
  repeat (first | refine RUN ?_ | refine CV (hc) ?_ | refine CV (sgx) ?_ | refine CE (hc) ?_ | refine CE (sgx) ?_)
  rw [decide_eq_true hsg]
  repeat (first | refine RUN ?_ | refine CV (hpv) ?_ | refine CE (hpv) ?_)
  rfl
 ·have sx0 : ¬ x.num.sign ≥ 0 := by have := Int.sign_neg_iff.2 (num_neg h0); omega
  by_cases hy0 : y < 0
  ·have sy0 : y.num.sign < 0 := Int.sign_neg_iff.2 (num_neg (Rat.not_le.2 hy0))
   obtain ⟨r, hb, hpv⟩ := simplest_pv _ (-y) (-x) false true (Nat.le_refl _) (by grind) (by grind) (by rw [ht_neg]; exact hy) (by rw [ht_neg]; exact hx)
   have hr0 := best_num0 (by grind) hb
   have hht := simp_ht _ _ _ _ (by grind) (by grind) hb
   rw [ht_neg, ht_neg] at hht
   have e1 : (if False then -y < r else -y ≤ r) := by simpa using hb.mem.1
   have e2 : (if True then r < -x else r ≤ -x) := by simpa using hb.mem.2
   rw [if_neg not_false] at e1
   rw [if_pos trivial] at e2
   have up : ∀ t, x < t → t ≤ y → InS (-y) (-x) false true false (-t) := fun t h1 h2 => ⟨by simp; grind, .inr (by simp; grind)⟩
   refine ⟨-r, ⟨by grind, by grind, fun t h1 h2 => ?_, fun t h1 h2 => ?_⟩, by rw [ht_neg]; omega, PV.of_pc ?_⟩
   ·have := hb.den _ (up t h1 h2)
    rwa [Rat.neg_den, ] at *
   ·have := natAbs_le_of hr0 (hb.num _ (up t h1 h2))
    rwa [Rat.neg_num, Int.natAbs_neg] at *
   ·have n1 := neg_pv x bx
    have n2 := neg_pv y bY
    have n3 := neg_pv r (Nat.le_trans (bl_num_le r) (by omega))
    generalize x.num.sign = sx at *
    generalize y.num.sign = sy at *
    refine PC.body Tryz.tab_ok Tryz.func57 rfl (by kernel_rfl) Tryz.ntmps57 rfl rfl ?_
    repeat (first | refine RUN ?_ | refine CV (hc) ?_ | refine CV (sgx) ?_ | refine CE (hc) ?_ | refine CE (sgx) ?_)
    rw [decide_eq_false sx0]
    repeat (first | refine RUN ?_ | refine CV (sgy) ?_ | refine CE (sgy) ?_)
    rw [decide_eq_true sy0]
    (try refine RUN ?_)
    apply EV.drawnK [2, 3, 4] [4] [2, 3] 9 rfl rfl rfl rfl (by kernel_rfl) (by kernel_rfl); intro xv yw
    (repeat (first | refine' DV (h := ?_) | refine' DA (h := ?_) | refine' DK0 (h := ?_) | (refine' DJ.setb Tryz.tab_ok rfl rfl rfl rfl rfl rfl rfl rfl rfl rfl rfl ?_; rotate_left) | (refine' DC (n1) (h := ?_); rotate_left) | (refine' DC (n2) (h := ?_); rotate_left) | (refine' DC (hpv) (h := ?_); rotate_left) | (refine' DC (n3) (h := ?_); rotate_left) | refine' DS (h := ?_)))
    (refine DJ.nil (fun G hG hF => ?_); (case hS => rfl); (case hS2 => rfl); (case hD => rfl))
    (try refine RUN ?_)
    rfl
  ·refine ⟨0, ⟨by grind, by grind, fun t _ _ => Nat.pos_of_ne_zero t.den_nz, fun t _ _ => Nat.zero_le _⟩, by rw [ht_zero]; omega, PV.of_pc ?_⟩
   have sy0 : ¬ y.num.sign < 0 := by have := Int.sign_nonneg_iff.2 (Rat.num_nonneg.2 (Rat.not_lt.1 hy0)); omega
   generalize x.num.sign = sx at *
   generalize y.num.sign = sy at *
   refine PC.body Tryz.tab_ok Tryz.func57 rfl (by kernel_rfl) Tryz.ntmps57 rfl rfl ?_
   repeat (first | refine RUN ?_ | refine CV (hc) ?_ | refine CV (sgx) ?_ | refine CE (hc) ?_ | refine CE (sgx) ?_)
   rw [decide_eq_false sx0]
   repeat (first | refine RUN ?_ | refine CV (sgy) ?_ | refine CE (sgy) ?_)
   rw [decide_eq_false sy0]
   (try refine RUN ?_)
   rw [fracV_zero]
theorem handQ_pv (z : Int) (hz : -9223372036854775808 ≤ z ∧ z < 9223372036854775808) : PV Tryz.prog 56 #[.int .i64 z] (fracV (rNum z)) := by
 have hr := ht_rNum z
 refine PV.of_pc ?_
 refine PC.body Tryz.tab_ok Tryz.func56 rfl (by kernel_rfl) Tryz.ntmps56 rfl rfl ?_
 (try refine RUN ?_)
 refine EVL.call rfl rfl rfl rfl rfl (r_pc z hz) ?_
 rintro r G hR hG
 refine EVL.call rfl rfl rfl rfl rfl (in_pc hR (rq_small hr (by omega))) ?_
 rintro r G2 rfl hG2
 (try refine RUN ?_)
 rfl
theorem rNum_den (z : Int) : (rNum z).den ≤ 4 := by
 unfold rNum
 have hrd := rDen_range (z.tdiv 41 % 6).toNat
 generalize rDen (z.tdiv 41 % 6).toNat = d at *
 obtain ⟨n, rfl⟩ := Int.eq_ofNat_of_zero_le (show 0 ≤ d by omega)
 have : n ≠ 0 := by omega
 show (mkRat _ n).den ≤ 4
 rw [← Rat.normalize_eq_mkRat this, Rat.normalize_eq]
 show n / _ ≤ 4
 exact Nat.le_trans (Nat.div_le_self _ _) (by omega)
set_option maxHeartbeats 4000000 in
theorem fsimple_pc {H : Hp} (z1 z2 : Int) (hz1 : -9223372036854775808 ≤ z1 ∧ z1 < 9223372036854775808) (hz2 : -9223372036854775808 ≤ z2 ∧ z2 < 9223372036854775808) (hkn : PV Tryz.prog 22 #[] (.bool true)) : PC Tryz.prog 8 #[.int .i64 z1, .int .i64 z2] H fun r _ => r = .bool true := by
 have q1 := handQ_pv z1 hz1
 have q2 := handQ_pv z2 hz2
 have hx := ht_rNum z1
 have hy := ht_rNum z2
 have dy := rNum_den z2
 generalize rNum z1 = x at *
 generalize rNum z2 = y at *
 have sx : sm x := by unfold sm; omega
 have sy : sm y := by unfold sm; omega
 have hc := cmp_pv x y sx sy
 by_cases hlt : x < y
 ·rw [show ordR x y = -1 by unfold ordR; rw [if_pos hlt]] at hc
  obtain ⟨r, hS, hr, hpv⟩ := simple_pv x y (by omega) (by omega) hlt
  have sr : sm r := by unfold sm; omega
  have c1 := cmp_pv r x sr sx
  rw [show ordR r x = 1 by unfold ordR; rw [if_neg (by have := hS.lt; grind), if_pos hS.lt]] at c1
  obtain ⟨o2, ho2, c2⟩ := cmp_le r y sr sy hS.le
  have b0 : big r.den := Nat.le_trans (bl_den_le r) (by omega)
  have hd := den_pv r b0
  have hk12 := natOf_pv 12 (by decide)
  have hcd := natCmp_pv r.den 12 b0 (by exact Nat.le_trans (show bl 12 ≤ 10 from bl_le (by decide)) (by decide))
  have hr12 : ordN r.den 12 ≤ 0 := by
   have := hS.den y hlt (Rat.le_refl)
   unfold ordN; rw [if_pos (by omega)]; decide
  generalize ordN r.den 12 = o3 at *
  have hof := wholeOf_pv 1 (by omega) (by omega)
  refine PC.body Tryz.tab_ok Tryz.func8 rfl (by kernel_rfl) Tryz.ntmps8 rfl rfl ?_
  repeat (first | refine RUN ?_ | refine CV (q1) ?_ | refine CV (q2) ?_ | refine CV (hc) ?_ | refine CE (q1) ?_ | refine CE (q2) ?_ | refine CE (hc) ?_)
  repeat (first | refine RUN ?_ | refine CV (hpv) ?_ | refine CV (hkn) ?_ | refine CV (c1) ?_ | refine CV (c2) ?_ | refine CE (hpv) ?_ | refine CE (hkn) ?_ | refine CE (c1) ?_ | refine CE (c2) ?_)
  rw [decide_eq_false (show ¬ o2 > 0 by omega)]
  (try refine RUN ?_)
  refine EV.loopK (ι := Nat) [5, 6, 7] [5, 6, 7] (fun k => [(9, .v (.int .i64 ((k : Int) + 1)))]) (fun _ => []) (fun _ => []) (fun k _ => k ≤ 12) (fun k => 12 - k) (0) rfl rfl ⟨rfl, trivial⟩ trivial rfl (fun _ => rfl) (Nat.zero_le _) ?_
  intro k G hG hk
  (try refine RUN ?_)
  by_cases h1 : k < 12
  ·rw [decide_eq_true (show (k : Int) + 1 ≤ 12 by omega)]
   have w1 := of_pv ((k : Int) + 1) (by omega) (by omega)
   have hki : ht (((k : Int) + 1 : Int) : Rat) ≤ 12 := by
    have h1 := ht_int ((k : Int) + 1)
    have h2 : bl ((k : Int) + 1).natAbs ≤ 10 := bl_le (by show _ < 1024; omega)
    omega
   have hm := mul_pv x (((k : Int) + 1 : Int) : Rat) sx (by unfold sm; omega)
   have htm := ht_mul x (((k : Int) + 1 : Int) : Rat)
   have hfl := floor_pv (x * (((k : Int) + 1 : Int) : Rat)) (by unfold sm; omega)
   have hlt2 := (floor_le (x * (((k : Int) + 1 : Int) : Rat))).2
   have hbn := bl_ediv (x * (((k : Int) + 1 : Int) : Rat)).num (x * (((k : Int) + 1 : Int) : Rat)).den
   have hbm := bl_num_le (x * (((k : Int) + 1 : Int) : Rat))
   generalize (x * (((k : Int) + 1 : Int) : Rat)).num / ((x * (((k : Int) + 1 : Int) : Rat)).den : Int) = n at *
   have hadd := wholeAdd_pv n 1 (Nat.le_trans hbn (by omega)) (by show bl 1 ≤ _; rw [bl_one']; omega) (by have := bl_add n.natAbs 1; rw [bl_one'] at this; show bl (n.natAbs + 1) ≤ _; omega)
   have hn1 : bl (n + 1).natAbs ≤ 200 := by
    have k1 := bl_natAbs_add n 1
    rw [show (1 : Int).natAbs = 1 from rfl, bl_one'] at k1
    omega
   have w2 := wholeOf_pv ((k : Int) + 1) (by omega) (by omega)
   have hmk := make_pv (n + 1) ((k : Int) + 1) (Nat.le_trans hn1 (by omega)) (Nat.le_trans (show bl ((k : Int) + 1).natAbs ≤ 10 from bl_le (by show _ < 1024; omega)) (by omega)) (by omega)
   rw [if_neg (show ¬ ((k : Int) + 1 < 0) by omega), show ((k : Int) + 1).natAbs = k + 1 by omega] at hmk
   have htt := ht_mk (n + 1) (k + 1) (by omega)
   have hbk : bl (k + 1) ≤ 10 := bl_le (by omega)
   have hxt : x < mkRat (n + 1) (k + 1) := by
    rw [Rat.mkRat_eq_div]
    have hp : (0 : Rat) < ((k + 1 : Nat) : Rat) := by exact_mod_cast Nat.succ_pos k
    push_cast at hp hlt2 ⊢
    refine Rat.lt_of_mul_lt_mul_right (c := (k : Rat) + 1) ?_ (Rat.le_of_lt hp)
    rw [Rat.div_mul_cancel (by grind)]
    exact hlt2
   generalize mkRat (n + 1) (k + 1) = t at *
   have st : sm t := by unfold sm; omega
   have hcty := cmp_pv t y st sy
   have bt : big t.den := Nat.le_trans (bl_den_le t) (by omega)
   have hdt := den_pv t bt
   have hcdt := natCmp_pv t.den r.den bt b0
   have hty : t ≤ y → ¬ ordN t.den r.den < 0 := fun h => by
    have := hS.den t hxt h
    unfold ordN; rw [if_neg (by omega)]; split <;> decide
   have hor : t ≤ y ↔ ordR t y ≤ 0 := by
    unfold ordR
    split
    ·exact iff_of_true (by grind) (by decide)
    ·split
     ·exact iff_of_false (by grind) (by decide)
     ·exact iff_of_true (by grind) (by decide)
   generalize ordN t.den r.den = o5 at *
   generalize ordR t y = o4 at *
   (try refine RUN ?_)
   apply EV.drawn 9 (by kernel_rfl) (by kernel_rfl); intro xv yw
   (repeat (first | refine' DV (h := ?_) | refine' DA (h := ?_) | refine' DK0 (h := ?_) | (refine' DJ.setb Tryz.tab_ok rfl rfl rfl rfl rfl rfl rfl rfl rfl rfl rfl ?_; rotate_left) | (refine' DC (w1) (h := ?_); rotate_left) | (refine' DC (hm) (h := ?_); rotate_left) | (refine' DC (hfl) (h := ?_); rotate_left) | (refine' DC (hof) (h := ?_); rotate_left) | (refine' DC (hadd) (h := ?_); rotate_left) | refine' DS (h := ?_)))
   (refine DJ.nil (fun G1 hG1 hF1 => ?_); (case hS => rfl); (case hS2 => rfl))
   (try refine RUN ?_)
   apply EV.drawn 10 (by kernel_rfl) (by kernel_rfl); intro xv yw
   (repeat (first | refine' DV (h := ?_) | refine' DA (h := ?_) | refine' DK0 (h := ?_) | (refine' DJ.setb Tryz.tab_ok rfl rfl rfl rfl rfl rfl rfl rfl rfl rfl rfl ?_; rotate_left) | (refine' DC (w2) (h := ?_); rotate_left) | (refine' DC (hmk) (h := ?_); rotate_left) | refine' DS (h := ?_)))
   (refine DJ.nil (fun G2 hG2 hF2 => ?_); (case hS => rfl); (case hS2 => rfl))
   (try refine RUN ?_)
   by_cases h2 : t ≤ y
   case' pos =>
    apply EV.drawn 12 (by kernel_rfl) (by kernel_rfl); intro xv yw
    (repeat (first | refine' DV (h := ?_) | refine' DA (h := ?_) | refine' DK0 (h := ?_) | (refine' DJ.setb Tryz.tab_ok rfl rfl rfl rfl rfl rfl rfl rfl rfl rfl rfl ?_; rotate_left) | (refine' DC (hcty) (h := ?_); rotate_left) | refine' DS (h := ?_)))
    rw [decide_eq_true (hor.1 h2)]
    (repeat (first | refine' DV (h := ?_) | refine' DA (h := ?_) | refine' DK0 (h := ?_) | (refine' DJ.setb Tryz.tab_ok rfl rfl rfl rfl rfl rfl rfl rfl rfl rfl rfl ?_; rotate_left) | (refine' DC (hdt) (h := ?_); rotate_left) | (refine' DC (hd) (h := ?_); rotate_left) | (refine' DC (hcdt) (h := ?_); rotate_left) | refine' DS (h := ?_)))
    rw [decide_eq_false (hty h2)]
    (repeat (first | refine' DV (h := ?_) | refine' DA (h := ?_) | refine' DK0 (h := ?_) | (refine' DJ.setb Tryz.tab_ok rfl rfl rfl rfl rfl rfl rfl rfl rfl rfl rfl ?_; rotate_left) | refine' DS (h := ?_)))
    (refine DJ.nil (fun G4 hG4 hF4 => ?_); (case hS => rfl); (case hS2 => rfl))
   case' neg =>
    apply EV.drawn 12 (by kernel_rfl) (by kernel_rfl); intro xv yw
    (repeat (first | refine' DV (h := ?_) | refine' DA (h := ?_) | refine' DK0 (h := ?_) | (refine' DJ.setb Tryz.tab_ok rfl rfl rfl rfl rfl rfl rfl rfl rfl rfl rfl ?_; rotate_left) | (refine' DC (hcty) (h := ?_); rotate_left) | refine' DS (h := ?_)))
    rw [decide_eq_false (fun h => h2 (hor.2 h))]
    (repeat (first | refine' DV (h := ?_) | refine' DA (h := ?_) | refine' DK0 (h := ?_) | (refine' DJ.setb Tryz.tab_ok rfl rfl rfl rfl rfl rfl rfl rfl rfl rfl rfl ?_; rotate_left) | refine' DS (h := ?_)))
    (refine DJ.nil (fun G4 hG4 hF4 => ?_); (case hS => rfl); (case hS2 => rfl))
   all_goals
    (try refine RUN ?_)
    refine ⟨k + 1, ⟨?_, trivial⟩, (by repeat (first | exact trivial | refine And.intro rfl ?_)), trivial, (by repeat (first | exact trivial | refine And.intro rfl ?_)), rfl, (show k + 1 ≤ 12 by omega), hG1.trans (hG2.trans hG4), (show 12 - (k + 1) < 12 - k by omega)⟩
    rw [show IntKind.i64.wrap ((k : Int) + 1 + 1) = ((k + 1 : Nat) : Int) + 1 by rw [IntKind.wrap_i64]; omega]
    rfl
  ·rw [decide_eq_false (show ¬ ((k : Int) + 1 ≤ 12) by omega)]
   repeat (first | refine RUN ?_ | refine CV (hd) ?_ | refine CV (hk12) ?_ | refine CV (hcd) ?_ | refine CE (hd) ?_ | refine CE (hk12) ?_ | refine CE (hcd) ?_)
   rw [decide_eq_true hr12]
 ·have ho : ordR x y ≥ 0 := by unfold ordR; rw [if_neg hlt]; split <;> decide
  generalize ordR x y = o at *
  refine PC.body Tryz.tab_ok Tryz.func8 rfl (by kernel_rfl) Tryz.ntmps8 rfl rfl ?_
  repeat (first | refine RUN ?_ | refine CV (q1) ?_ | refine CV (q2) ?_ | refine CV (hc) ?_ | refine CE (q1) ?_ | refine CE (q2) ?_ | refine CE (hc) ?_)
  rw [decide_eq_true ho]
  repeat (first | refine RUN ?_ | refine CV (hkn) ?_ | refine CE (hkn) ?_)
  rfl
end Go.Proofs.YtjifapjpgmmcnaaGreatDoor
namespace Go.Proofs.YtjifapjpgmmcnaaGreatDoor
open Go Go.RowKit
theorem laid_gH {P : Program} {l : List (String × DataW Unit)} {W : World} (h : laidMet P l W) {n : String} {zs : List Nat} {g : Nat} {T e : TypeId} (hmem : (n, .agg (zs.map fun (z : Nat) => .lit (.int .u8 z))) ∈ l) (hg : P.globalNamed n = some g) (ht : (P.globals[g]?).map (·.type) = some T)
  (hT : P.underlying T = some (.array zs.length e)) (he : P.underlying e = some (.int .u8)) (hc : P.cellsOf e = 1) (hcT : P.cellsOf T = zs.length) :
  ∃ U fz, W.heap[g]? = some (.cells (zs.map fun (z : Nat) => Value.int .u8 (z : Int)).toArray U fz) := by
 obtain ⟨ps, hl, _⟩ := h
 obtain ⟨p0, g', t, cs, fuel, p, q, hg', ht', hv, hd, _, _⟩ := VM.laid_find hl hmem
 obtain rfl := Option.some.inj (hg.symm.trans hg')
 obtain rfl := Option.some.inj (ht.symm.trans ht')
 obtain ⟨xs, m, _, ex, hcl, hlen, hel⟩ := DataW.trod_array hT hd
 have hb : ∃ U fz, W.heap[g]? = some (.cells cs U fz) := by
  simp only [World.var?, hg, Option.bind_some] at hv
  split at hv
  ·rename_i c U fz hc'; cases hv; exact ⟨U, fz, hc'⟩
  ·cases hv
 obtain ⟨U, fz, hb⟩ := hb
 refine ⟨U, fz, ?_⟩
 rw [hb]
 congr 2
 apply Array.ext'
 rw [hcT] at hcl
 have e3 : (xs.map (·.1)) = zs.map fun (n : Nat) => .lit (.int .u8 n) := (DataW.agg.inj (Prod.mk.inj ex).1).symm
 apply List.ext_getElem?
 intro r
 rcases Nat.lt_or_ge r zs.length with hr | hr
 ·have hE := hel r hr
  rw [hc, Nat.mul_one, List.getElem?_eq_getElem (by omega)] at hE
  obtain ⟨z, e1, e2, _⟩ := DataW.trod_int he hE
  have e4 : (xs.map (·.1))[r]? = (zs.map fun (n : Nat) => (DataW.lit (.int .u8 n) : DataW Unit))[r]? := by rw [e3]
  rw [List.getElem?_map, List.getElem?_map, List.getElem?_eq_getElem (by omega : r < xs.length), List.getElem?_eq_getElem hr, e2] at e4
  simp only [Option.map_some, Option.some.injEq, DataW.lit.injEq, Lit.int.injEq, true_and] at e4
  have h0 : ((cs.toList.drop r).take 1)[0]? = some (.int .u8 z) := by rw [e1]; rfl
  simp only [List.getElem?_take, List.getElem?_drop, Nat.add_zero] at h0
  rw [if_pos (by omega)] at h0
  rw [h0, e4]
  simp [hr]
 ·rw [List.getElem?_eq_none (by omega), List.getElem?_eq_none (by simpa using hr)]
theorem fits_gH {l : List (String × DataW Unit)} {W : World} (h : laidMet Tryz.prog l W) (hmem : ("math/bits.deBruijn64tab", .agg (Lib.deBruijn64tab.map fun (z : Nat) => .lit (.int .u8 z))) ∈ l) : Fits gH W := fun b c hb => by
 unfold gH at hb
 split at hb
 ·rename_i hbb
  cases hb
  obtain rfl := Nat.eq_of_beq_eq_true hbb
  exact laid_gH h hmem (by kernel_rfl) (by kernel_rfl) Tryz.underlying247 Tryz.underlying5 (by kernel_rfl) (by kernel_rfl)
 ·cases hb
theorem gl_of_fits {W : World} (h : Fits gH W) : ∀ g cs, VM.ctx.gl g = some cs → ∃ c U fz, W.heap[g]? = some (.cells c U fz) ∧ VM.VL (fun _ => none) cs (c.toList.take cs.length) := fun g cs hg => by
 have hm := VM.assoc_mem hg
 unfold VM.glL at hm
 simp only [List.mem_cons, List.mem_nil_iff, or_false, Prod.mk.injEq] at hm
 obtain ⟨rfl, rfl⟩ := hm
 obtain ⟨U, fz, hW⟩ := h 4 (Lib.deBruijn64tab.map fun (z : Nat) => Value.int .u8 (z : Int)).toArray rfl
 refine ⟨_, U, fz, hW, ?_, fun j x y hx hy => ?_⟩
 ·rfl
 ·have hx' : (Lib.deBruijn64tab.map fun (z : Nat) => VM.AV.int .u8 (.ofNat z))[j]? = some x := hx
  have hy' : (Lib.deBruijn64tab.map fun (z : Nat) => Value.int .u8 (z : Int))[j]? = some y := by
   rw [List.getElem?_take] at hy
   split at hy
   ·exact hy
   ·cases hy
  rw [List.getElem?_map] at hx' hy'
  obtain ⟨z, e1, rfl⟩ := Option.map_eq_some_iff.1 hx'
  rw [e1] at hy'
  cases hy'
  exact .int _ _
theorem known_pv : PV Tryz.prog 22 #[] (.bool true) := ⟨(cOf Tryz.func22 rfl (by kernel_rfl)), fun W hW => (VM.walk22 W (gl_of_fits hW)).mono fun e W' ⟨he, hb⟩ => ⟨he, hb⟩⟩
end Go.Proofs.YtjifapjpgmmcnaaGreatDoor
namespace Go.Proofs.YtjifapjpgmmcnaaGreatDoor
open Go.ChangeShapes Go.WideShapes Go.ChangeAt Go.RowKit
def hpOf (W : World) : Hp := fun b => match W.heap[b]? with
 | some (.cells c _ _) => some c
 | _ => none
theorem fits_hpOf (W : World) : Fits (hpOf W) W := fun b c h => by
 unfold hpOf at h
 split at h
 ·rename_i c' T fz hb; cases h; exact ⟨T, fz, hb⟩
 ·cases h
section
variable {H : Type} {enc : TypeId × Value → H} {P : Program} {w : World} {base : Nat} {spare : Nat → Bool} {held : Bool}
end
theorem i64_bounds {z : Int} (h : (Lit.int .i64 z).wf = true) : -9223372036854775808 ≤ z ∧ z < 9223372036854775808 := by
 have := bounds_i64 h; omega
end Go.Proofs.YtjifapjpgmmcnaaGreatDoor
