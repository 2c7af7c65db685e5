/- Texts of ours in one: ThJ, Opn, OpnS, LaidE, LaidP. -/
import Derived.Test.YtjekjlaokjhhgaaGreatDoorT0
import Derived.Test.YtjekjlaokjhhgaaGreatDoorT1
import Derived.Test.YtjekjlaokjhhgaaGreatDoorT3
import Derived.WalkKit
import Derived.ProofKit
import Derived.OpenShut
import Derived.LaidMore
import Derived.Lay
import Derived.Stop.Joined
set_option linter.unusedVariables false
set_option linter.unusedSimpArgs false

namespace Go.Proofs.YtjekjlaokjhhgaaGreatDoor
open Go.RowKit
section
variable {P : Program} {n : Nat} {ops : Array Oper} {o : Oper} {rest : List Oper} {env : Env} {bx : Bxs} {sb' : Bxs} {H : Hs} {Q : EQ} {d : Nat}
theorem run_catN {T T' : TypeId} {x y : Operand} (ho : o.op = .binOp .add T x y T') (a b : List UInt8) (hx : env.op x = some (.v (.string (sb a)))) (hy : env.op y = some (.v (.string (sb b)))) (hab : a.length + b.length ≤ 9223372036854775807) (ev : Operand → Value) (W : World) (he : ∀ y x, y ∈ o.op.operands → env.op y = some (.v x) → ev y = x) :
  (execOp ev o).run P W = .ok (.value (.string (sb (a ++ b)))) W := by
 have ex := he x _ (by simp [ho, Op.operands]) hx
 have ey := he y _ (by simp [ho, Op.operands]) hy
 have hs := run_string_add_sum W (P := P) (sb a) (sb b) (by rw [sb_size, sb_size]; exact hab)
 rw [show sb a ++ sb b = sb (a ++ b) from by rw [ByteArray.mk_append_mk]] at hs
 unfold execOp
 simp [ho, ex, ey, eqGuard, binOp, hs]
theorem DJ.catN {tail l : List Oper} {x : Nat → Value} {y : Nat → Ows} {ow' : Ows} {kl ks : List DK} {i : Nat} {bx' : Bxs} {Γ : Fcts} {T T' : TypeId} {u w : Operand} (a b : List UInt8) (ho : o.op = .binOp .add T u w T') (hw : wantB ops env o = some true) (hd : o.dst = some d) (hn : Nat.blt d n = true) (hx : env.op u = some (.v (.string (sb a)))) (hy : env.op w = some (.v (.string (sb b)))) (hab : a.length + b.length ≤ 9223372036854775807)
  (h : DJ P n ops tail sb' bx H Q x y kl (i + 1) l ks ((d, .v (.string (sb (a ++ b)))) :: env) bx' Γ ow') : DJ P n ops tail sb' bx H Q x y kl i (o :: l) (.sv (.v (.string (sb (a ++ b)))) :: ks) env bx' Γ ow' :=
 DJ.ofVal (ValOk.gen hw (run_catN ho a b hx hy hab)) hd hn rfl h
end
theorem same_refl3 {H : Hp} {w : Value} {q : Rat} (hw : RQ H w q) (hq : rq q) : PC Tryz.prog 16 #[fracV q, w] H fun r _ => r = .bool true :=
 (same_pc hw hq hq).mono fun r _ h _ => by rw [h, decide_eq_true rfl]
theorem str_same (l : List UInt8) : (!((sb l).toList == (sb l).toList)) = false := by rw [beq_self_eq_true]; rfl
theorem wtL_len200 {z : Int} (h : bl z.natAbs ≤ 594) : (wtL z).length ≤ 201 := by
 have := decD_bl200 h
 unfold wtL
 rw [List.length_append]
 split
 ·rw [List.length_singleton]; omega
 ·rw [List.length_nil]; omega
theorem digs_cut (d : Int) (hd : -9223372036854775808 ≤ d ∧ d < 9223372036854775808) (L : Nat) (h0 : 1 ≤ L) (hL : L ≤ 200) : ∃ k : Nat, k ≤ L ∧ IntKind.i64.wrap (1 + (d % 9).tmod (L : Int)) = (k : Int) := by
 have h1 : 0 ≤ d % 9 := Int.emod_nonneg _ (by decide)
 have h2 : d % 9 < 9 := Int.emod_lt_of_pos _ (by decide)
 obtain ⟨m, hm⟩ : ∃ m : Nat, d % 9 = (m : Int) := ⟨(d % 9).toNat, by omega⟩
 have h3 : (m : Int).tmod (L : Int) = ((m % L : Nat) : Int) := by rw [Int.tmod_eq_emod_of_nonneg (by omega)]; rfl
 have h4 : m % L < L := Nat.mod_lt _ (by omega)
 refine ⟨1 + m % L, by omega, ?_⟩
 rw [hm, h3, IntKind.wrap_i64]
 omega
set_option maxRecDepth 100000 in
set_option maxHeartbeats 32000000 in
theorem fracTexts_pc {H : Hp} (s : List UInt8) (hs : s.length ≤ 140737488355328) {v : Value} (hv : RawQ H v) (form digits : Int) (hf : -9223372036854775808 ≤ form ∧ form < 9223372036854775808) (hdg : -9223372036854775808 ≤ digits ∧ digits < 9223372036854775808) (hT : PowT H) :
  PC Tryz.prog 3 #[.string (sb s), v, .int .i64 form, .int .i64 digits] H fun r _ => r = .bool true := by
 have hone := one_pc hv
 obtain ⟨z1, sa1, sb1, la1, lb1, n1, rfl, _, ha1, hb1, _⟩ := hv.ex
 obtain ⟨a1, c1, rfl⟩ := SlC.val ha1
 obtain ⟨a2, c2, rfl⟩ := SlC.val hb1
 clear ha1 hb1 hv
 refine PC.body Tryz.tab_ok Tryz.func3 rfl (by kernel_rfl) Tryz.ntmps3 rfl rfl ?_
 (try refine RUN ?_)
 refine EVL.call rfl rfl rfl rfl rfl (hone) ?_
 rintro r G1 ⟨p, hp, hP⟩ hG1
 obtain ⟨pa, pl, pc, pa', pl', pc', rfl, hPn, hPd⟩ := id hP
 have hPI : RI G1 (.agg #[.bool (decide (p.num < 0)), .slice pa pl pc]) p.num := ⟨pa, pl, pc, rfl, hPn⟩
 have hp1 : bl p.num.natAbs ≤ 200 := Nat.le_trans (Nat.le_max_left _ _) hp
 have hp2 : bl p.den ≤ 200 := Nat.le_trans (Nat.le_max_right _ _) hp
 have lw := wtL_len200 (z := p.num) (by omega)
 have ld := decD_bl200 (n := p.den) (by omega)
 have ld1 : 1 ≤ (Lib.decDigits p.den).length := by obtain ⟨c, t, e, _⟩ := decD_head p.den; rw [e]; simp
 have hIT := fun (G : Hp) (k : G1.Le G) => refIntText_pc p.num (by omega) (RI.mono hPI k)
 have hNT := fun (G : Hp) (k : G1.Le G) => refNatText_pc p.den (by omega) (RN.mono hPd k)
 have hpk := pick_pv form 5 hf (by decide) (by decide)
 have hpd := pick_pv digits 9 hdg (by decide) (by decide)
 repeat (first | refine RUNB ?_ | refine CV (hpk) ?_ | refine CE (hpk) ?_)
 refine EV.meetK (ι := List UInt8) [9] [9] (fun t => [(10, .v (.string (sb t)))]) (fun _ => []) (fun _ => []) (fun t G => G1.Le G ∧ t.length ≤ 140737488356328) rfl rfl (fun _ => rfl) ?_ ?_
 ·generalize form % 5 = f at *
  (try refine RUN ?_)
  by_cases f0 : f = 0
  ·rw [show (f == 0) = true from beq_iff_eq.2 f0]
   (try refine RUN ?_)
   apply EV.drawn 8 (by kernel_rfl) (by kernel_rfl); intro xv yw
   (repeat refine' DD ?_)
   refine' DJ.callS rfl rfl rfl rfl rfl (cOf Tryz.func7 rfl (by kernel_rfl)) (fun G hG hd => hIT G hG) ?_; rotate_left
   refine' DJ.catN (wtL p.num) [47] rfl rfl rfl rfl rfl rfl (by rw [List.length_singleton]; omega) ?_; rotate_left
   (repeat refine' DD ?_)
   refine' DJ.callS rfl rfl rfl rfl rfl (cOf Tryz.func8 rfl (by kernel_rfl)) (fun G hG hd => hNT G hG) ?_; rotate_left
   refine' DJ.catN (wtL p.num ++ [47]) (Lib.decDigits p.den) rfl rfl rfl rfl rfl rfl (by rw [List.length_append, List.length_singleton]; omega) ?_; rotate_left
   (refine DJ.nil (fun G hG hF => ?_); (case hS => rfl); (case hS2 => rfl))
   (try refine RUN ?_)
   exact ⟨_, ⟨rfl, trivial⟩, (by repeat (first | exact trivial | refine And.intro rfl ?_)), trivial, (by repeat (first | exact trivial | refine And.intro rfl ?_)), rfl, ⟨hG, by rw [List.length_append, List.length_append, List.length_singleton]; omega⟩⟩
  rw [show (f == 0) = false from beq_eq_false_iff_ne.2 f0]
  (try refine RUN ?_)
  by_cases f1 : f = 1
  ·rw [show (f == 1) = true from beq_iff_eq.2 f1]
   (try refine RUN ?_)
   apply EV.drawn 8 (by kernel_rfl) (by kernel_rfl); intro xv yw
   (repeat refine' DD ?_)
   refine' DJ.callS rfl rfl rfl rfl rfl (cOf Tryz.func7 rfl (by kernel_rfl)) (fun G hG hd => hIT G hG) ?_; rotate_left
   refine' DJ.catN (wtL p.num) [46] rfl rfl rfl rfl rfl rfl (by rw [List.length_singleton]; omega) ?_; rotate_left
   (repeat refine' DD ?_)
   refine' DJ.callS rfl rfl rfl rfl rfl (cOf Tryz.func8 rfl (by kernel_rfl)) (fun G hG hd => hNT G hG) ?_; rotate_left
   refine' DJ.catN (wtL p.num ++ [46]) (Lib.decDigits p.den) rfl rfl rfl rfl rfl rfl (by rw [List.length_append, List.length_singleton]; omega) ?_; rotate_left
   (refine DJ.nil (fun G hG hF => ?_); (case hS => rfl); (case hS2 => rfl))
   (try refine RUN ?_)
   exact ⟨_, ⟨rfl, trivial⟩, (by repeat (first | exact trivial | refine And.intro rfl ?_)), trivial, (by repeat (first | exact trivial | refine And.intro rfl ?_)), rfl, ⟨hG, by rw [List.length_append, List.length_append, List.length_singleton]; omega⟩⟩
  rw [show (f == 1) = false from beq_eq_false_iff_ne.2 f1]
  (try refine RUN ?_)
  by_cases f2 : f = 2
  ·rw [show (f == 2) = true from beq_iff_eq.2 f2]
   have b6 : bl 6 ≤ 3 := bl_le (by decide)
   have m1 : bl (p.num * 6).natAbs ≤ 203 := by rw [Int.natAbs_mul]; exact Nat.le_trans (bl_mul _ _) (by show bl _ + bl 6 ≤ _; omega)
   have m2 : bl (p.den * 6) ≤ 203 := Nat.le_trans (bl_mul _ _) (by omega)
   have l1 := wtL_len200 (z := p.num * 6) (by omega)
   have l2 := decD_bl200 (n := p.den * 6) (by omega)
   (try refine RUN ?_)
   apply EV.drawn 12 (by kernel_rfl) (by kernel_rfl); intro xv yw
   (repeat refine' DD ?_)
   refine' DJ.call rfl rfl rfl rfl rfl (cOf Tryz.func10 rfl (by kernel_rfl)) (fun G hG hd => refIntOf_pc 6 (by omega) (by omega)) (fun _ _ _ h k => RI.mono h k) ?_; rotate_left
   refine' DJ.call rfl rfl rfl rfl rfl (cOf Tryz.func9 rfl (by kernel_rfl)) (fun G hG hd => refIntMul_pc (RI.mono hPI hG) (hd.head (by kernel_rfl)) (rsm_of hp1 (by omega)) (rsm_of (k := 3) b6 (by omega))) (fun _ _ _ h k => RI.mono h k) ?_; rotate_left
   refine' DJ.callS rfl rfl rfl rfl rfl (cOf Tryz.func7 rfl (by kernel_rfl)) (fun G hG hd => refIntText_pc (p.num * 6) (by omega) (hd.head (by kernel_rfl))) ?_; rotate_left
   refine' DJ.catN (wtL (p.num * 6)) [47] rfl rfl rfl rfl rfl rfl (by rw [List.length_singleton]; omega) ?_; rotate_left
   (repeat refine' DD ?_)
   refine' DJ.call rfl rfl rfl rfl rfl (cOf Tryz.func12 rfl (by kernel_rfl)) (fun G hG hd => refNatOf_pc 6 (by decide) _) (fun _ _ _ h k => SlN.mono h k) ?_; rotate_left
   refine' DJ.call rfl rfl rfl rfl rfl (cOf Tryz.func11 rfl (by kernel_rfl)) (fun G hG hd => refMul_pc (RN.mono hPd hG) (hd.head (by kernel_rfl)) (rsm_of hp2 (by omega)) (rsm_of b6 (by omega))) (fun _ _ _ h k => SlN.mono h k) ?_; rotate_left
   refine' DJ.callS rfl rfl rfl rfl rfl (cOf Tryz.func8 rfl (by kernel_rfl)) (fun G hG hd => refNatText_pc (p.den * 6) (by omega) (hd.head (by kernel_rfl))) ?_; rotate_left
   refine' DJ.catN (wtL (p.num * 6) ++ [47]) (Lib.decDigits (p.den * 6)) rfl rfl rfl rfl rfl rfl (by rw [List.length_append, List.length_singleton]; omega) ?_; rotate_left
   (refine DJ.nil (fun G hG hF => ?_); (case hS => rfl); (case hS2 => rfl))
   (try refine RUN ?_)
   exact ⟨_, ⟨rfl, trivial⟩, (by repeat (first | exact trivial | refine And.intro rfl ?_)), trivial, (by repeat (first | exact trivial | refine And.intro rfl ?_)), rfl, ⟨hG, by rw [List.length_append, List.length_append, List.length_singleton]; omega⟩⟩
  rw [show (f == 2) = false from beq_eq_false_iff_ne.2 f2]
  (try refine RUN ?_)
  by_cases f3 : f = 3
  ·rw [show (f == 3) = true from beq_iff_eq.2 f3]
   obtain ⟨kk, hk1, hk2⟩ := digs_cut digits hdg (Lib.decDigits p.den).length ld1 ld
   have hsz := sb_size (Lib.decDigits p.den)
   (try refine RUN ?_)
   apply EV.drawn 19 (by kernel_rfl) (by kernel_rfl); intro xv yw
   (repeat refine' DD ?_)
   refine' DJ.callS rfl rfl rfl rfl rfl (cOf Tryz.func7 rfl (by kernel_rfl)) (fun G hG hd => hIT G hG) ?_; rotate_left
   refine' DJ.catN (wtL p.num) [46] rfl rfl rfl rfl rfl rfl (by rw [List.length_singleton]; omega) ?_; rotate_left
   (repeat refine' DD ?_)
   refine' DJ.callS rfl rfl rfl rfl rfl (cOf Tryz.func8 rfl (by kernel_rfl)) (fun G hG hd => hNT G hG) ?_; rotate_left
   (repeat (first | refine' DD ?_ | (refine' DC (hpd) (h := ?_); rotate_left)))
   refine' DJ.callS rfl rfl rfl rfl rfl (cOf Tryz.func8 rfl (by kernel_rfl)) (fun G hG hd => hNT G hG) ?_; rotate_left
   (repeat refine' DD ?_)
   rw [hsz]
   refine' DJ.ofVal (ValOk.rem rfl rfl rfl rfl (show (((Lib.decDigits p.den).length : Nat) : Int) ≠ 0 by omega)) rfl rfl rfl ?_; rotate_left
   (repeat refine' DD ?_)
   rw [hk2]
   refine' DJ.strSlc rfl rfl rfl rfl (by kernel_rfl) rfl 0 kk (.inl ⟨rfl, rfl⟩) (.inr ⟨_, IntKind.i64, rfl, rfl⟩) (by omega) (by rw [hsz]; omega) ?_; rotate_left
   rw [sb_cut, List.drop_zero, Nat.sub_zero]
   refine' DJ.catN (wtL p.num ++ [46]) ((Lib.decDigits p.den).take kk) rfl rfl rfl rfl rfl rfl (by rw [List.length_append, List.length_singleton, List.length_take]; omega) ?_; rotate_left
   (repeat refine' DD ?_)
   refine' DJ.catN (wtL p.num ++ [46] ++ (Lib.decDigits p.den).take kk) s rfl rfl rfl rfl rfl rfl (by rw [List.length_append, List.length_append, List.length_singleton, List.length_take]; omega) ?_; rotate_left
   (refine DJ.nil (fun G hG hF => ?_); (case hS => rfl); (case hS2 => rfl))
   (try refine RUN ?_)
   exact ⟨_, ⟨rfl, trivial⟩, (by repeat (first | exact trivial | refine And.intro rfl ?_)), trivial, (by repeat (first | exact trivial | refine And.intro rfl ?_)), rfl, ⟨hG, by rw [List.length_append, List.length_append, List.length_append, List.length_singleton, List.length_take]; omega⟩⟩
  rw [show (f == 3) = false from beq_eq_false_iff_ne.2 f3]
  (try refine RUN ?_)
  exact ⟨s, ⟨rfl, trivial⟩, (by repeat (first | exact trivial | refine And.intro rfl ?_)), trivial, (by repeat (first | exact trivial | refine And.intro rfl ?_)), rfl, ⟨Hp.Le.refl _, by omega⟩⟩
 rintro t G2 ⟨hG2, ht⟩
 (try refine RUN ?_)
 refine EVL.call rfl rfl rfl rfl rfl (fracParse_pc t (by omega)) ?_
 rintro _ G3 rfl hG3
 (try refine RUN ?_)
 refine EVL.call rfl rfl rfl rfl rfl (rparse_pc t (by omega)) ?_
 rintro _ G4 ⟨w, rfl, hw⟩ hG4
 have hL4 := hG2.trans (hG3.trans hG4)
 have hT4 := hT.mono (hG1.trans hL4)
 have hP4 := hP.mono hL4
 have hpr : rq p := rq_small hp (by omega)
 have hk3 := fun (G : Hp) (k : G4.Le G) => known3_pc (H := G) (hT4.mono k)
 have hin := fun (G : Hp) (k : G4.Le G) => in_pc (hP4.mono k) hpr
 have hx1 := fun (G : Hp) (k : G4.Le G) => fracTextA_pc (H := G) p (by omega) (hT4.mono k)
 have hx2 := fun (G : Hp) (k : G4.Le G) => refText_pc p (by omega) (hP4.mono k)
 have hlen : (fracT p).length ≤ 402 := by
  unfold fracT
  split
  ·omega
  ·rw [List.length_append, List.length_append, List.length_singleton]; omega
 have hself := str_same (fracT p)
 obtain ⟨ya, yl, yc, yd, ye, yf, rfl⟩ := rq_form hw
 (try refine RUN ?_)
 refine EV.meetK (ι := Unit) [9] [9] (fun _ => [(119, .v (.bool false))]) (fun _ => []) (fun _ => []) (fun _ G => G4.Le G) rfl rfl (fun _ => rfl) ?_ ?_
 ·cases hq : pQ t with
  | none =>
   have hsg : PV Tryz.prog 17 #[fracV 0] (.int .i64 0) := sign_pv 0 (by show bl 0 ≤ _; rw [bl_zero]; omega)
   apply EV.drawn 32 (by kernel_rfl) (by kernel_rfl); intro xv yw
   (repeat refine' DD ?_)
   refine' DJ.callS rfl rfl rfl rfl rfl (cOf Tryz.func15 rfl (by kernel_rfl)) (fun G hG hd => hk3 G hG) ?_; rotate_left
   (repeat refine' DD ?_)
   refine' DJ.ofVal (ValOk.neb rfl rfl rfl rfl (by kernel_rfl)) rfl rfl rfl ?_; rotate_left
   (repeat (first | refine' DD ?_ | (refine' DC (hsg) (h := ?_); rotate_left)))
   refine' DJ.callS rfl rfl rfl rfl rfl (cOf Tryz.func18 rfl (by kernel_rfl)) (fun G hG hd => hin G hG) ?_; rotate_left
   (repeat refine' DD ?_)
   refine' DJ.callS rfl rfl rfl rfl rfl (cOf Tryz.func19 rfl (by kernel_rfl)) (fun G hG hd => hx1 G hG) ?_; rotate_left
   (repeat refine' DD ?_)
   refine' DJ.callS rfl rfl rfl rfl rfl (cOf Tryz.func20 rfl (by kernel_rfl)) (fun G hG hd => hx2 G hG) ?_; rotate_left
   (repeat refine' DD ?_)
   rw [hself]
   (refine DJ.nil (fun G hG hF => ?_); (case hS => rfl); (case hS2 => rfl))
   (try refine RUN ?_)
   exact ⟨(), ⟨rfl, trivial⟩, (by repeat (first | exact trivial | refine And.intro rfl ?_)), trivial, (by repeat (first | exact trivial | refine And.intro rfl ?_)), rfl, hG⟩
  | some q =>
   have hqr : rq q := Nat.le_trans (pQ_ht hq) (by omega)
   rw [hq] at hw
   have hw2 : RQ G4 (.agg #[.bool (decide (q.num < 0)), .slice ya yl yc, .slice yd ye yf]) q := hw
   have hsm := fun (G : Hp) (k : G4.Le G) => same_refl3 (hw2.mono k) hqr
   apply EV.drawn 32 (by kernel_rfl) (by kernel_rfl); intro xv yw
   (repeat refine' DD ?_)
   refine' DJ.callS rfl rfl rfl rfl rfl (cOf Tryz.func15 rfl (by kernel_rfl)) (fun G hG hd => hk3 G hG) ?_; rotate_left
   (repeat refine' DD ?_)
   refine' DJ.ofVal (ValOk.neb rfl rfl rfl rfl (by kernel_rfl)) rfl rfl rfl ?_; rotate_left
   (repeat refine' DD ?_)
   refine' DJ.callS rfl rfl rfl rfl rfl (cOf Tryz.func16 rfl (by kernel_rfl)) (fun G hG hd => hsm G hG) ?_; rotate_left
   (repeat refine' DD ?_)
   refine' DJ.callS rfl rfl rfl rfl rfl (cOf Tryz.func18 rfl (by kernel_rfl)) (fun G hG hd => hin G hG) ?_; rotate_left
   (repeat refine' DD ?_)
   refine' DJ.callS rfl rfl rfl rfl rfl (cOf Tryz.func19 rfl (by kernel_rfl)) (fun G hG hd => hx1 G hG) ?_; rotate_left
   (repeat refine' DD ?_)
   refine' DJ.callS rfl rfl rfl rfl rfl (cOf Tryz.func20 rfl (by kernel_rfl)) (fun G hG hd => hx2 G hG) ?_; rotate_left
   (repeat refine' DD ?_)
   rw [hself]
   (refine DJ.nil (fun G hG hF => ?_); (case hS => rfl); (case hS2 => rfl))
   (try refine RUN ?_)
   exact ⟨(), ⟨rfl, trivial⟩, (by repeat (first | exact trivial | refine And.intro rfl ?_)), trivial, (by repeat (first | exact trivial | refine And.intro rfl ?_)), rfl, hG⟩
 rintro _ G5 hG5
 (try refine RUN ?_)
 refine EVL.call rfl rfl rfl rfl rfl (hx2 _ hG5) ?_
 rintro _ G6 rfl hG6
 (try refine RUN ?_)
 refine EVL.call rfl rfl rfl rfl rfl (fracParse_pc (fracT p) (by omega)) ?_
 rintro _ G7 rfl hG7
 rw [pQ_fracT p (by omega)]
 (try refine RUN ?_)
 refine EVL.call rfl rfl rfl rfl rfl (same_refl3 (hP4.mono (hG5.trans (hG6.trans hG7))) hpr) ?_
 rintro _ G8 rfl hG8
 (try refine RUN ?_)
 rfl
end Go.Proofs.YtjekjlaokjhhgaaGreatDoor
namespace Go.Proofs.YtjekjlaokjhhgaaGreatDoor
open Go.ChangeShapes Go.WideShapes Go.ChangeAt Go.RowKit
def hpOf (W : World) : Hp := fun b => match W.heap[b]? with
 | some (.cells c _ _) => some c
 | _ => none
theorem fits_hpOf (W : World) : Fits (hpOf W) W := fun b c h => by
 unfold hpOf at h
 split at h
 ·rename_i c' T fz hb; cases h; exact ⟨T, fz, hb⟩
 ·cases h
section
variable {H : Type} {enc : TypeId × Value → H} {P : Program} {w : World} {base : Nat} {spare : Nat → Bool} {held : Bool}
theorem ints_open {t e : TypeId} {k : IntKind} {fuel : Nat} {cs : List Value} {x : DataW H × List MemPlace} (ht : P.underlying t = some (.slice e)) (he : P.underlying e = some (.int k)) (hc : P.cellsOf e = 1) (h : DataW.trod enc P w base spare held fuel t cs = some x) :
  ∃ a len cap zs, cs = [.slice a len cap] ∧ SlN (fun z : Int => Value.int k z) (hpOf w) (.slice a len cap) zs ∧ ∀ n ∈ zs, (Lit.int k n).wf = true := by
 rcases open_ints ht he hc h with ⟨rfl, _⟩ | ⟨x, len, cap, zs, rfl, _, hl, hm, hz, _, hcell, hw⟩
 ·exact ⟨none, 0, 0, [], rfl, nil_sl _ _, fun n hn => by cases hn⟩
 ·have hzl : len ≤ zs.length := by rw [hz]; split <;> omega
  refine ⟨some x, len, cap, zs.take len, rfl, ?_, fun n hn => hw n (List.mem_of_mem_take hn)⟩
  have hlen : (zs.take len).length = len := by rw [List.length_take]; omega
  unfold SlN
  rw [hlen]
  refine ⟨by rw [List.length_map, hlen, Nat.mul_one], ?_⟩
  by_cases h0 : len = 0
  ·subst h0; exact .inl ⟨rfl, some x, cap, rfl⟩
  ·right
   have h1 := hcell 0 (by omega)
   obtain ⟨b, off, sp⟩ := x
   have hsp : sp = none := by
    cases sp with
    | none => rfl
    | some s => simp only [World.cell?, Addr.add] at h1; split at h1 <;> simp_all
   subst hsp
   have hb : ∃ c, hpOf w b = some c ∧ ∀ i, i < zs.length → c[off + i]? = some (.int k (zs.getD i 0)) := by
    simp only [Addr.add_mid] at hcell
    unfold World.cell? at hcell
    unfold hpOf
    simp only at hcell
    cases hw' : w.heap[b]? with
    | none => have := hcell 0 (by omega); rw [hw'] at this; cases this
    | some o =>
     cases o with
     | cells c T fz => exact ⟨c, rfl, fun i hi => by have := hcell i hi; rw [hw'] at this; simpa using this⟩
     | _ => have := hcell 0 (by omega); rw [hw'] at this; cases this
   obtain ⟨c, hc1, hc2⟩ := hb
   refine ⟨b, off, cap, c, rfl, hl, hc1, fun j y hj => ?_⟩
   rw [List.getElem?_map, List.getElem?_take] at hj
   split at hj
   ·rename_i hjl
    rw [hc2 j (by omega), ← hj, List.getD_eq_getElem?_getD, List.getElem?_eq_getElem (by omega)]; rfl
   ·cases hj
theorem bytes_open {t e : TypeId} {fuel : Nat} {cs : List Value} {x : DataW H × List MemPlace} (ht : P.underlying t = some (.slice e)) (he : P.underlying e = some (.int .u8)) (hc : P.cellsOf e = 1) (h : DataW.trod enc P w base spare held fuel t cs = some x) :
  ∃ a len cap l, cs = [.slice a len cap] ∧ SlN n8 (hpOf w) (.slice a len cap) l ∧ Dig 256 l := by
 obtain ⟨a, len, cap, zs, rfl, hs, hw⟩ := ints_open ht he hc h
 have hz : ∀ n ∈ zs, 0 ≤ n ∧ n < 256 := fun n hn => by have := bounds_u8 (hw n hn); omega
 refine ⟨a, len, cap, zs.map Int.toNat, rfl, ?_, fun y hy => ?_⟩
 ·unfold SlN at hs ⊢
  rw [List.length_map, List.map_map]
  have : zs.map (n8 ∘ Int.toNat) = zs.map fun z : Int => Value.int .u8 z := List.map_congr_left fun z hzm => by
   show Value.int .u8 ((z.toNat : Nat) : Int) = _
   rw [Int.toNat_of_nonneg (hz z hzm).1]
  rw [this]; exact hs
 ·obtain ⟨z, hzm, rfl⟩ := List.mem_map.1 hy
  have := hz z hzm; omega
end
theorem i64_bounds {z : Int} (h : (Lit.int .i64 z).wf = true) : -9223372036854775808 ≤ z ∧ z < 9223372036854775808 := by
 have := bounds_i64 h; omega
theorem four_of {α : Type} : ∀ {l : List α}, l.length = 4 → ∃ a b c d, l = [a, b, c, d]
 | [a, b, c, d], _ => ⟨a, b, c, d, rfl⟩
theorem raw_open {H : Type} {enc : TypeId × Value → H} {w : World} {base : Nat} {spare : Nat → Bool} {held : Bool} {v : Value} {d : DataW H} {p : List MemPlace} (hv : ∃ cs, v = .agg cs) (h : DataW.Trod enc Tryz.prog w base spare held 24 v d p) : RawQ (hpOf w) v := by
 obtain ⟨cs, rfl⟩ := hv
 obtain ⟨fuel, h⟩ := h
 obtain ⟨xs, n, _, hx, hl, hlen, hf⟩ := DataW.trod_struct Tryz.underlying24 h
 rw [show Tryz.prog.cellsOf 24 = 4 from by kernel_rfl] at hl
 have hl4 : cs.toList.length = 4 := hl
 obtain ⟨l, rfl⟩ : ∃ l : List Value, cs = l.toArray := ⟨cs.toList, by simp⟩
 have hl4' : l.length = 4 := by simpa using hl4
 obtain ⟨c0, c1, c2, c3, rfl⟩ := four_of hl4'
 have hx4 : xs.length = 4 := hlen
 have f0 : DataW.trod enc Tryz.prog w base spare held n 3 (([c0, c1, c2, c3].drop 0).take (Tryz.prog.cellsOf 3)) = xs[0]? := hf 0 _ rfl
 have f1 : DataW.trod enc Tryz.prog w base spare held n 22 (([c0, c1, c2, c3].drop 1).take (Tryz.prog.cellsOf 22)) = xs[1]? := hf 1 _ rfl
 have f2 : DataW.trod enc Tryz.prog w base spare held n 22 (([c0, c1, c2, c3].drop 2).take (Tryz.prog.cellsOf 22)) = xs[2]? := hf 2 _ rfl
 have f3 : DataW.trod enc Tryz.prog w base spare held n 4 (([c0, c1, c2, c3].drop 3).take (Tryz.prog.cellsOf 4)) = xs[3]? := hf 3 _ rfl
 rw [show Tryz.prog.cellsOf 3 = 1 from by kernel_rfl] at f0
 rw [show Tryz.prog.cellsOf 22 = 1 from by kernel_rfl] at f1 f2
 rw [show Tryz.prog.cellsOf 4 = 1 from by kernel_rfl] at f3
 rw [List.getElem?_eq_getElem (by omega)] at f0 f1 f2 f3
 obtain ⟨z, e0, _, w0⟩ := DataW.trod_int Tryz.underlying3 f0
 obtain ⟨a1, l1, k1, b1, e1, s1, d1⟩ := bytes_open Tryz.underlying22 Tryz.underlying5 (by kernel_rfl) f1
 obtain ⟨a2, l2, k2, b2, e2, s2, d2⟩ := bytes_open Tryz.underlying22 Tryz.underlying5 (by kernel_rfl) f2
 obtain ⟨b, e3, _⟩ := DataW.trod_bool Tryz.underlying4 f3
 have g0 : [c0] = [.int .i64 z] := e0
 have g1 : [c1] = [.slice a1 l1 k1] := e1
 have g2 : [c2] = [.slice a2 l2 k2] := e2
 have g3 : [c3] = [.bool b] := e3
 cases g0; cases g1; cases g2; cases g3
 exact ⟨z, _, _, b1, b2, b, rfl, i64_bounds w0, s1, s2, d1, d2⟩
end Go.Proofs.YtjekjlaokjhhgaaGreatDoor
namespace Go.Proofs.YtjekjlaokjhhgaaGreatDoor
open Go.ChangeShapes Go.WideShapes Go.ChangeAt Go.RowKit
theorem str_size {H : Type} {P : Program} {t : TypeId} {ts : List TypeId} {l : List UInt8} {ds : List (DataW H)} (h : (DataW.weightsEach P (t :: ts) (.lit (.string l) :: ds)).all (· ≤ reachBytes) = true) : l.length ≤ 140737488351232 := by
 have h5 : ((l.length :: DataW.weightsEach P ts ds).all (· ≤ reachBytes)) = true := h
 rw [List.all_cons, Bool.and_eq_true] at h5
 have h6 := of_decide_eq_true h5.1
 have h8 : reachBytes = 140737488351232 := rfl
 omega
end Go.Proofs.YtjekjlaokjhhgaaGreatDoor
namespace Go.Proofs.YtjekjlaokjhhgaaGreatDoor
open Go Go.RowKit
theorem laidE_find {P : Program} {W : World} {n : String} {d : DataW Unit} : ∀ {l : List (String × DataW Unit)} {ps : List MemPlace}, DataW.LaidVars P W l ps → (n, d) ∈ l →
  ∃ p, DataW.LaidVars P W [(n, d)] p
 | [], _, _, h => by cases h
 | (m, x) :: r, ps, h, hm => by
  obtain ⟨g, t, cs, fuel, p, q, h1, h2, h3, h4, h5, h6⟩ := h
  rcases List.mem_cons.1 hm with hm | hm
  ·cases hm
   exact ⟨_, g, t, cs, fuel, p, [], h1, h2, h3, h4, rfl, rfl⟩
  ·exact laidE_find h5 hm
theorem laid_gH {P : Program} {l : List (String × DataW Unit)} {W : World} {α : Type} (f : α → Int) (h : laidMet P l W) {n : String} {zs : List α} {kd : IntKind} {g : Nat} {T e : TypeId} (hmem : (n, .agg (zs.map fun z => .lit (.int kd (f z)))) ∈ l) (hg : P.globalNamed n = some g) (ht : (P.globals[g]?).map (·.type) = some T)
  (hT : P.underlying T = some (.array zs.length e)) (he : P.underlying e = some (.int kd)) (hc : P.cellsOf e = 1) (hcT : P.cellsOf T = zs.length) :
  ∃ U fz, W.heap[g]? = some (.cells (zs.map fun z => Value.int kd (f z)).toArray U fz) := by
 obtain ⟨ps, hl, _⟩ := h
 obtain ⟨p0, g', t, cs, fuel, p, q, hg', ht', hv, hd, _, _⟩ := laidE_find hl hmem
 obtain rfl := Option.some.inj (hg.symm.trans hg')
 obtain rfl := Option.some.inj (ht.symm.trans ht')
 obtain ⟨xs, m, _, ex, hcl, hlen, hel⟩ := DataW.trod_array hT hd
 have hb : ∃ U fz, W.heap[g]? = some (.cells cs U fz) := by
  simp only [World.var?, hg, Option.bind_some] at hv
  split at hv
  ·rename_i c U fz hc'; cases hv; exact ⟨U, fz, hc'⟩
  ·cases hv
 obtain ⟨U, fz, hb⟩ := hb
 refine ⟨U, fz, ?_⟩
 rw [hb]
 congr 2
 apply Array.ext'
 rw [hcT] at hcl
 have e3 : (xs.map (·.1)) = zs.map fun n => .lit (.int kd (f n)) := (DataW.agg.inj (Prod.mk.inj ex).1).symm
 apply List.ext_getElem?
 intro r
 rcases Nat.lt_or_ge r zs.length with hr | hr
 ·have hE := hel r hr
  rw [hc, Nat.mul_one, List.getElem?_eq_getElem (by omega)] at hE
  obtain ⟨z, e1, e2, _⟩ := DataW.trod_int he hE
  have e4 : (xs.map (·.1))[r]? = (zs.map fun n => (DataW.lit (.int kd (f n)) : DataW Unit))[r]? := by rw [e3]
  rw [List.getElem?_map, List.getElem?_map, List.getElem?_eq_getElem (by omega : r < xs.length), List.getElem?_eq_getElem hr, e2] at e4
  simp only [Option.map_some, Option.some.injEq, DataW.lit.injEq, Lit.int.injEq, true_and] at e4
  have h0 : ((cs.toList.drop r).take 1)[0]? = some (.int kd z) := by rw [e1]; rfl
  simp only [List.getElem?_take, List.getElem?_drop, Nat.add_zero] at h0
  rw [if_pos (by omega)] at h0
  rw [h0, e4]
  simp [hr]
 ·rw [List.getElem?_eq_none (by omega), List.getElem?_eq_none (by simpa using hr)]
theorem fits_gH {l : List (String × DataW Unit)} {W : World} (h : laidMet Tryz.prog l W) (hmem : ("math/bits.deBruijn64tab", .agg (Lib.deBruijn64tab.map fun (z : Nat) => .lit (.int .u8 z))) ∈ l) : Fits gH W := fun b c hb => by
 unfold gH at hb
 split at hb
 ·rename_i hbb
  cases hb
  obtain rfl := Nat.eq_of_beq_eq_true hbb
  exact laid_gH (fun z : Nat => (z : Int)) h hmem (by kernel_rfl) (by kernel_rfl) Tryz.underlying196 Tryz.underlying5 (by kernel_rfl) (by kernel_rfl)
 ·cases hb
theorem powT_of {l : List (String × DataW Unit)} {W : World} (h : laidMet Tryz.prog l W) (hmem : ("internal/strconv.uint64pow10", .agg (Lib.pow10Tab.map fun z => .lit (.int .u64 z))) ∈ l) : PowT (hpOf W) := by
 obtain ⟨U, fz, hb⟩ := laid_gH (fun z : Int => z) (g := 3) h hmem (by kernel_rfl) (by kernel_rfl) Tryz.underlying192 Tryz.underlying39 (by kernel_rfl) (by kernel_rfl)
 unfold PowT hpOf
 rw [hb]
 rfl
end Go.Proofs.YtjekjlaokjhhgaaGreatDoor
