/- Texts of ours in one: Ev23, Gn10, Gn11, Seq, Sorted, DicePlain, Lists, SortPlain, Asc, GnC, Gn12, Gn13, Gn14, GnQ, GnR, GnS, Ha3, Lw8, Lw9, Dice, Draw, Od1, GnU, Lw10, Ev24, Kd17, Opn, LaidE. -/
import Derived.Test.YtejljnlfgiifoaaGreatDoorE0
import Derived.Test.YtejljnlfgiifoaaGreatDoorE1
import Derived.Test.YtejljnlfgiifoaaGreatDoorE2
import Derived.Test.YtejljnlfgiifoaaGreatDoorE3
import Derived.Test.YtejljnlfgiifoaaGreatDoorE4
import Derived.Test.YtejljnlfgiifoaaGreatDoorE5
import Derived.Test.YtejljnlfgiifoaaGreatDoorProg
import Derived.RangeFuncBox
import Derived.RangeFuncLeaves
import Derived.Shelf.Abstract
import Derived.OwnWalkIn
import Derived.TacticsInMore
import Derived.LoopNIn
import Derived.LoopIn
import Derived.Maps.AppendAt
import Derived.Test.YtejljnlfgiifoaaGreatDoorRows
import Derived.WalkKit
import Derived.Sort.OwnSortedInts
import Derived.Lib.SlicesCompact
import Derived.WalkLawsBesides
import Derived.Deep.LoopGhost
import Derived.ProofKit
import Derived.OpenShut
set_option linter.unusedVariables false
set_option linter.unusedSimpArgs false

namespace Go.Proofs.YtejljnlfgiifoaaGreatDoor
open Go.RowKit _root_.Go.Proofs.Tryz
theorem gH_len {b : Nat} {c : Array Value} (h : gH b = some c) : c.toList.length = 64 := by
 unfold gH at h
 split at h
 ·cases h; rfl
 ·cases h
section
variable {P : Program} {n : Nat} {ops : Array Oper} {o : Oper} {rest : List Oper} {env : Env} {bx : Bxs} {sb : Bxs} {ow : Ows} {H : Hs} {Q : EQ} {τ : Tab} {d : Nat} {s : SV}
theorem ValOk.callR {f : FuncId} {args : Array Operand} {tys : Array TypeId} (ho : o.op = .call ⟨.value (.func f), args, tys⟩) (hw : wantB ops env o = some true) {vs : List Value} (ha : argsK env args.toList some = some vs) (jj : Nat) {b : Nat} {T : TypeId} {cs : List Value} (hj : ow[jj]? = some (b, T, cs)) (h64 : cs.length ≠ 64)
  {v : Value} (hc : Callable P f) {F : Hp → Prop} {R : Hp} (hpc : ∀ G, PW P f vs.toArray G [(b, T, cs)] fun u ow' _ => u = v ∧ ow' = [(b, T, cs)]) : ValOk P ops o env bx ow R F (fun β u G => (SV.v v).rep β G u) := fun β a W G hle hf hgl hb hown hs hF => by
 obtain ⟨vs', hk, hm⟩ := argsK_spec env _ _ _ ha
 cases hk
 have hvs := hm β G a.eval (fun y s hy => hs.op (by simp [ho, Op.operands, Call.operands]; exact .inr (by simpa using hy)))
 have hB := hown jj b T cs hj
 have hg : gH b = none := by
  cases hgb : gH b with
  | none => rfl
  | some c =>
   obtain ⟨T', fz, hW⟩ := hgl b c hgb
   have hB' : W.heap[b]? = some (.cells cs.toArray T (0, 0)) := hB
   rw [hB'] at hW
   cases hW
   have := gH_len hgb
   exact absurd (by simpa using this) h64
 rw [if_pos (hs.want hw)]
 unfold Oper.wp
 rw [run_call_enter hc ho hvs, Oper.upon_enter]
 refine ((hpc (fun k => if k = b then none else G k)).run W (fun k c h => hf k c (by first | (split at h <;> first | (cases h; done) | exact h))) hgl (fun j b' T' cs' h => ?_) ?_).mono ?_
 ·cases j with
  | zero => simp at h; obtain ⟨rfl, rfl, rfl⟩ := h; exact ⟨hB, if_pos rfl, hg⟩
  | succ j => simp at h
 ·intro j j' b' T1 T2 c1 c2 h1 h2
  cases j with
  | zero => cases j' with
   | zero => rfl
   | succ j' => simp at h2
  | succ j => simp at h1
 ·rintro e W' ⟨u, ow', H', rfl, ⟨rfl, rfl⟩, hle', hf', hnew, hk, hb', _⟩
  have hB2 := (hb' 0 b T cs rfl).1
  have hbel : Below W.heap.size W W' := ⟨hk.os, hk.tape, hk.output, hk.size, fun k hlt => by
   by_cases e : k = b
   ·subst e
    have h1 : W.heap[k]? = some (.cells cs.toArray T (0, 0)) := hB
    have h2 : W'.heap[k]? = some (.cells cs.toArray T (0, 0)) := hB2
    rw [h1, h2]
   ·exact hk.block k hlt (by simp [Ows.bs]; exact e)⟩
  exact ⟨u, G, rfl, rfl, Hp.Le.refl G, hf.below hbel, hbel, Nw.refl _ _ _⟩
theorem run_fn1 {f : Fn} {x : Operand} (ho : o.op = .makeFunc f #[] #[x]) {u : Value} (hx : env.op x = some (.v u)) (ev : Operand → Value) (W : World) (he : ∀ y x, y ∈ o.op.operands → env.op y = some (.v x) → ev y = x) :
  (execOp ev o).run P W = .ok (.value (.func f #[] #[u])) W := by
 have ex := he x _ (by simp [ho, Op.operands]) hx
 unfold execOp
 simp [ho, ex, Instr.makeFunc]
theorem EVL.fn1 {f : Fn} {x : Operand} (ho : o.op = .makeFunc f #[] #[x]) (hw : wantB ops env o = some true) (hd : o.dst = some d) (hn : Nat.blt d n = true) {u : Value} (hx : env.op x = some (.v u))
  (h : EVL P n ops rest ((d, .v (.func f #[] #[u])) :: env) bx H Q) : EVL P n ops (o :: rest) env bx H Q := EVL.gen hw hd hn (run_fn1 ho hx) h
theorem DJ.callR {tail l : List Oper} {x : Nat → Value} {y : Nat → Ows} {ow' : Ows} {kl ks : List DK} {i : Nat} {bx' : Bxs} {Γ : Fcts} {f : FuncId} {args : Array Operand} {tys : Array TypeId} (ho : o.op = .call ⟨.value (.func f), args, tys⟩) (hw : wantB ops env o = some true) (hd : o.dst = some d) (hn : Nat.blt d n = true)
  {vs : List Value} (ha : argsK env args.toList some = some vs) (jj : Nat) {b : Nat} {T : TypeId} {cs : List Value} (hj : H.ow[jj]? = some (b, T, cs)) (h64 : cs.length ≠ 64) {v : Value} (hc : Callable P f) (hpc : ∀ G, PW P f vs.toArray G [(b, T, cs)] fun u ow' _ => u = v ∧ ow' = [(b, T, cs)])
  (h : DJ P n ops tail sb bx H Q x y kl (i + 1) l ks ((d, .v v) :: env) bx' Γ ow') : DJ P n ops tail sb bx H Q x y kl i (o :: l) (.sv (.v v) :: ks) env bx' Γ ow' :=
 ⟨d, hd, hn, rfl, ValOk.callR ho hw ha jj hj h64 hc hpc, h⟩
end
structure GOk (H : Hp) (kd cl : Int) (sl sv : Value) (N : Nat) (S : List Int → List Value) (wo : List Int → Rat) : Prop where
 len : ∀ l, (S l).length = 19
 form : ∀ l, ∃ (n : Int) (cs : List Int) (sq : Int) (q : Rat), cs.length = 12 ∧ S l = sideC n cs sq q
 check : ∀ G, H.Le G → PC prog 60 #[goalV kd cl sl sv] G fun r _ => r = .int .i64 0
 leng : PV prog 61 #[goalV kd cl sl sv] (.int .i64 (N : Int))
 zero : S [] = Tryz.te116.zero
 first : ∀ l, ((S l).drop 0).take 1 = [.int .i64 (l.length : Int)]
 whole : ∀ G, H.Le G → ∀ v l, IL G v l → l.length ≤ 300 → (∀ r, r ∈ l → 0 ≤ r ∧ r < (N : Int)) → PC prog 67 #[goalV kd cl sl sv, v] G fun r _ => r = .agg (S l).toArray
 move : ∀ G, H.Le G → ∀ (b : Nat) (l l' : List Int) (r : Int), l.length + l'.length ≤ 299 → (∀ z, z ∈ l ++ r :: l' → 0 ≤ z ∧ z < (N : Int)) →
  PW prog 114 #[.pointer (some ⟨b, 0, none⟩), goalV kd cl sl sv, .int .i64 r] G [(b, 160, S l ++ S (r :: l'))] fun v ow _ => v = .tuple #[] ∧ ow = [(b, 160, S (l ++ [r]) ++ S l')]
 worth : ∀ (G : Hp) (b k : Nat) (T : TypeId) (pre post : List Value) (l : List Int), pre.length = k → l.length ≤ 300 → (∀ r, r ∈ l → 0 ≤ r ∧ r < (N : Int)) →
  PW prog 68 #[.pointer (some ⟨b, k, none⟩), .int .i64 kd] G [(b, T, pre ++ (S l ++ post))] fun v ow _ => v = fracV (wo l) ∧ ow = [(b, T, pre ++ (S l ++ post))]
 small : ∀ l : List Int, l.length ≤ 300 → (∀ r, r ∈ l → 0 ≤ r ∧ r < (N : Int)) → ht (wo l) ≤ 100000
theorem GOk.mono {H G : Hp} {kd cl : Int} {sl sv : Value} {N : Nat} {S : List Int → List Value} {wo : List Int → Rat} (h : GOk H kd cl sl sv N S wo) (k : H.Le G) : GOk G kd cl sl sv N S wo :=
 ⟨h.len, h.form, fun G' hG => h.check G' (k.trans hG), h.leng, h.zero, h.first, fun G' hG => h.whole G' (k.trans hG), fun G' hG => h.move G' (k.trans hG), h.worth, h.small⟩
theorem PV.pc' {P : Program} {f : FuncId} {args : Array Value} {v : Value} (h : PV P f args v) (G : Hp) : PC P f args G fun r _ => r = v := (h.pc G).mono fun _ _ h _ => h.1
theorem sumQ_foldr (l : List Rat) : ∀ x : Rat, l.foldl (· + ·) x = x + sumQ l := by
 unfold sumQ
 induction l with
 | nil => intro x; rw [List.foldl_nil, List.foldl_nil, Rat.add_zero]
 | cons y l ih => intro x; rw [List.foldl_cons, List.foldl_cons, ih, ih (0 + y), Rat.zero_add, Rat.add_assoc]
theorem sumQ_cons (x : Rat) (l : List Rat) : sumQ (x :: l) = x + sumQ l := by
 have := sumQ_foldr l (0 + x)
 rw [Rat.zero_add] at this
 unfold sumQ at *
 rw [List.foldl_cons, Rat.zero_add]; exact this
def sideV (vals : List Rat) (l : List Int) : List Value := sideC (l.length : Nat) (List.replicate 12 0) 0 (sumQ (atR vals l))
def sideL (ls : List Int) (l : List Int) : List Value := sideC (l.length : Nat) (csL (atI ls l)) (sqL (atI ls l) : Nat) 0
def woV (vals : List Rat) (l : List Int) : Rat := sumQ (atR vals l) * sumQ (atR vals l) / ((l.length : Int) : Rat)
def woL (ls : List Int) (l : List Int) : Rat := ((sqL (atI ls l) : Int) : Rat) / ((l.length : Int) : Rat)
theorem atR_getD {vals : List Rat} {R : Nat} {x : Rat} (h : vals[R]? = some x) (l : List Int) : atR vals ((R : Int) :: l) = x :: atR vals l := by
 unfold atR; rw [List.map_cons, Int.toNat_natCast, List.getD_eq_getElem?_getD, h]; rfl
theorem atI_getD {ls : List Int} {R : Nat} {x : Int} (h : ls[R]? = some x) (l : List Int) : atI ls ((R : Int) :: l) = x :: atI ls l := by
 unfold atI; rw [List.map_cons, Int.toNat_natCast, List.getD_eq_getElem?_getD, h]; rfl
theorem atR_app {vals : List Rat} (l m : List Int) : atR vals (l ++ m) = atR vals l ++ atR vals m := List.map_append
theorem atI_app {ls : List Int} (l m : List Int) : atI ls (l ++ m) = atI ls l ++ atI ls m := List.map_append
set_option maxHeartbeats 4000000 in
theorem gokV {H : Hp} {la : Option Addr} {lc : Nat} {va : Option Addr} {vc : Nat} {vals : List Rat} (hv : QL H (.slice va vals.length vc) vals) (h0 : 1 ≤ vals.length) (h1 : vals.length ≤ 300) (hb : ∀ q, q ∈ vals → ht q ≤ 100) :
  GOk H 2 0 (.slice la 0 lc) (.slice va vals.length vc) vals.length (sideV vals) (woV vals) := by
 have hs : ∀ l : List Int, l.length ≤ 300 → (∀ r, r ∈ l → 0 ≤ r ∧ r < (vals.length : Int)) → ht (sumQ (atR vals l)) ≤ 1 + 101 * 300 := fun l hl hr => by
  have h1 := ht_sum 100 (atR vals l) (fun q hq => hb q (atR_mem hr q hq))
  rw [atR_len] at h1
  omega
 refine ⟨fun l => sideC_len rfl, fun l => ⟨_, _, _, _, rfl, rfl⟩, fun G hG => (checkV_pv h0 h1).pc' G, lenV_pv, by unfold sideV; exact side_zero.symm, fun l => side_n, fun G hG v l hl hn hr => ?_, fun G hG b l l' r hn hr => ?_, fun G b k T pre post l hk hn hr => ?_, fun l hl hr => ?_⟩
 ·obtain ⟨a, c, rfl⟩ := SlC.val hl
  exact wholeV_pc (hv.mono hG) hl (by omega) hr hb
 ·have hrb := hr r (by simp)
  obtain ⟨R, rfl⟩ := Int.eq_ofNat_of_zero_le hrb.1
  obtain ⟨x, hx⟩ : ∃ x, vals[R]? = some x := ⟨_, List.getElem?_eq_getElem (by omega)⟩
  have hxs : sm x := sm_of (hb x (List.mem_of_getElem? hx)) (by omega)
  have h1 := hs l (by omega) (fun z hz => hr z (by simp [hz]))
  have h2 := hs ((R : Int) :: l') (by simp; omega) (fun z hz => hr z (List.mem_append_right _ hz))
  have e1 : sumQ (atR vals (l ++ [(R : Int)])) = sumQ (atR vals l) + x := by rw [atR_app, atR_getD hx]; exact sumQ_snoc _ _
  have e2 : sumQ (atR vals ((R : Int) :: l')) - x = sumQ (atR vals l') := by rw [atR_getD hx, sumQ_cons]; grind
  have hadd := fun (G' : Hp) (hG' : G.Le G') => addV_at (pre := []) (k := 0) (b := b) (T := 160) (post := sideV vals ((R : Int) :: l')) rfl (cl := 0) (la := la) (ln := 0) (lc := lc) (hv.mono (hG.trans hG')) (n := l.length) (by omega) hx hxs (sm_of h1 (by omega)) (cs := List.replicate 12 0) rfl (sq := 0)
  have hdrop := fun (G' : Hp) (hG' : G.Le G') => dropV_at (pre := sideV vals (l ++ [(R : Int)])) (k := 19) (b := b) (T := 160) (post := []) (sideC_len rfl) (cl := 0) (la := la) (ln := 0) (lc := lc) (hv.mono (hG.trans hG')) (n := l'.length) (by omega) hx hxs (sm_of h2 (by omega)) (cs := List.replicate 12 0) rfl (sq := 0)
  simp only [← e1] at hadd
  simp only [e2] at hdrop
  have hl1 : (l ++ [(R : Int)]).length = l.length + 1 := by simp
  refine PW.body tO func114 rfl (by kernel_rfl) ntmps114 rfl rfl ?_
  try refine RUN ?_
  apply EV.drawn 5 (by kernel_rfl) (by kernel_rfl); intro xv yw
  (repeat (first | refine' DV ?_ | refine' DA ?_ | refine' DK0 ?_ | refine' DT ?_ | refine' DS ?_ | (refine' DJ.nilB rfl rfl rfl rfl rfl ?_; rotate_left) | (refine' DJ.fldB tO rfl rfl rfl rfl rfl rfl rfl ?_; rotate_left)))
  (refine DJ.nil (fun G1 hG1 hF1 => ?_); (case hS => rfl); (case hS2 => rfl))
  refine EVL.callW rfl rfl rfl rfl rfl ([(b, 160, sideV vals l ++ sideV vals ((R : Int) :: l'))]) ([]) rfl (hadd _ hG1) ?_
  rintro v ow G2 ⟨rfl, rfl⟩ hG2
  rw [← hl1]
  try refine RUN ?_
  apply EV.drawn 5 (by kernel_rfl) (by kernel_rfl); intro xv yw
  (repeat (first | refine' DV ?_ | refine' DA ?_ | refine' DK0 ?_ | refine' DT ?_ | refine' DS ?_ | (refine' DJ.nilB rfl rfl rfl rfl rfl ?_; rotate_left) | (refine' DJ.fldB tO rfl rfl rfl rfl rfl rfl rfl ?_; rotate_left)))
  (refine DJ.nil (fun G3 hG3 hF3 => ?_); (case hS => rfl); (case hS2 => rfl))
  refine EVL.callW rfl rfl rfl rfl rfl ([(b, 160, sideV vals (l ++ [(R : Int)]) ++ (sideC ((l'.length + 1 : Nat) : Int) (List.replicate 12 0) 0 (sumQ (atR vals ((R : Int) :: l'))) ++ []))]) ([]) rfl (hdrop _ (hG1.trans (hG2.trans hG3))) ?_
  rintro v ow G4 ⟨rfl, rfl⟩ hG4
  try refine RUN ?_
  refine ⟨rfl, ?_⟩
  rw [List.append_nil]; rfl
 ·exact worthV_at hk (cs := List.replicate 12 0) rfl (sq := 0) (by omega) (by omega) (Nat.le_trans (hs l hn hr) (by omega))
 ·have h1 := hs l hl hr
  have h2 := ht_mul (sumQ (atR vals l)) (sumQ (atR vals l))
  have h3 := ht_int (l.length : Int)
  have h4 : bl (l.length : Int).natAbs ≤ 20 := bl_le (by omega)
  have h5 := ht_div (sumQ (atR vals l) * sumQ (atR vals l)) ((l.length : Int) : Rat)
  unfold woV
  omega
theorem sqL_perm {l m : List Int} (h : l.Perm m) : sqL l = sqL m := by
 unfold sqL
 have e : (l.map fun x => l.count x) = l.map fun x => m.count x := List.map_congr_left fun x _ => h.count_eq x
 rw [e]; exact (h.map _).sum_nat
theorem csL_perm {l m : List Int} (h : l.Perm m) : csL l = csL m := by
 unfold csL; exact List.map_congr_left fun k _ => by rw [h.count_eq]
theorem csL_cons {k : Nat} (hk : k < 12) (l : List Int) : (csL ((k : Int) :: l)).set k (l.count (k : Int) : Int) = csL l := by
 have h := csL_snoc l hk
 have hp : ((k : Int) :: l).Perm (l ++ [(k : Int)]) := List.perm_append_comm (l₁ := [(k : Int)]) (l₂ := l)
 rw [csL_perm hp, h, List.set_set]
 apply List.ext_getElem?
 intro j
 rw [List.getElem?_set]
 by_cases e : k = j
 ·subst e; rw [if_pos rfl, if_pos (by rw [csL_len]; exact hk), csL_at _ hk]
 ·rw [if_neg e]
theorem sqL_cons (x : Int) (l : List Int) : sqL (x :: l) = sqL l + 2 * l.count x + 1 := by
 have hp : (x :: l).Perm (l ++ [x]) := List.perm_append_comm (l₁ := [x]) (l₂ := l)
 rw [sqL_perm hp, sqL_snoc]
set_option maxHeartbeats 4000000 in
theorem gokL {H : Hp} {cl : Int} (hc : 1 ≤ cl ∧ cl ≤ 12) {va : Option Addr} {vc : Nat} {la : Option Addr} {lc : Nat} {ls : List Int} (hv : IL H (.slice la ls.length lc) ls) (h0 : 1 ≤ ls.length) (h1 : ls.length ≤ 300) (hls0 : ∀ z, z ∈ ls → 0 ≤ z ∧ z < cl) :
  GOk H 1 cl (.slice la ls.length lc) (.slice va 0 vc) ls.length (sideL ls) (woL ls) := by
 have hls : ∀ z, z ∈ ls → 0 ≤ z ∧ z < 12 := fun z hz => ⟨(hls0 z hz).1, by have := (hls0 z hz).2; omega⟩
 have hs : ∀ l : List Int, l.length ≤ 300 → sqL (atI ls l) ≤ 90000 := fun l hl => by
  have h1 := sqL_le (atI ls l)
  rw [atI_len] at h1
  exact Nat.le_trans h1 (Nat.mul_le_mul hl hl)
 refine ⟨fun l => sideC_len (csL_len _), fun l => ⟨_, _, _, _, csL_len _, rfl⟩, fun G hG => checkC_pc (hv.mono hG) hc h0 h1 hls0, lenC_pv, by unfold sideL; exact side_zero.symm, fun l => side_n, fun G hG v l hl hn hr => ?_, fun G hG b l l' r hn hr => ?_, fun G b k T pre post l hk hn hr => ?_, fun l hl hr => ?_⟩
 ·exact wholeC_any (hv.mono hG) hl (by omega) hr hls
 ·have hrb := hr r (by simp)
  obtain ⟨R, rfl⟩ := Int.eq_ofNat_of_zero_le hrb.1
  obtain ⟨x, hx⟩ : ∃ x, ls[R]? = some x := ⟨_, List.getElem?_eq_getElem (by omega)⟩
  have hxb := hls x (List.mem_of_getElem? hx)
  obtain ⟨k, rfl⟩ := Int.eq_ofNat_of_zero_le hxb.1
  have hk : k < 12 := by omega
  have h1 := hs l (by omega)
  have h2 := hs l' (by omega)
  have c1 : (atI ls l).count (k : Int) ≤ 300 := Nat.le_trans List.count_le_length (by rw [atI_len]; omega)
  have c2 : (atI ls l').count (k : Int) ≤ 300 := Nat.le_trans List.count_le_length (by rw [atI_len]; omega)
  have e1 : (csL (atI ls l)).set k (((atI ls l).count (k : Int) + 1 : Nat) : Int) = csL (atI ls (l ++ [(R : Int)])) := by rw [atI_app, atI_getD hx]; exact (csL_snoc _ hk).symm
  have e2 : sqL (atI ls l) + 2 * (atI ls l).count (k : Int) + 1 = sqL (atI ls (l ++ [(R : Int)])) := by rw [atI_app, atI_getD hx]; exact (sqL_snoc _ _).symm
  have e3 : (csL (atI ls ((R : Int) :: l'))).set k ((atI ls l').count (k : Int) : Int) = csL (atI ls l') := by rw [atI_getD hx]; exact csL_cons hk _
  have e4 : sqL (atI ls l') + 2 * (atI ls l').count (k : Int) + 1 = sqL (atI ls ((R : Int) :: l')) := by rw [atI_getD hx]; exact (sqL_cons _ _).symm
  have e5 : (csL (atI ls ((R : Int) :: l')))[k]? = some (((atI ls l').count (k : Int) + 1 : Nat) : Int) := by rw [csL_at _ hk, atI_getD hx, List.count_cons_self]
  have hadd := fun (G' : Hp) (hG' : G.Le G') => addC_at (pre := []) (k := 0) (b := b) (T := 160) (post := sideL ls ((R : Int) :: l')) rfl (cl := cl) (va := va) (vn := 0) (vc := vc) (hv.mono (hG.trans hG')) (n := l.length) (by omega) hx hk (cs := csL (atI ls l)) (csL_len _) (csL_at _ hk) (by omega) (sq := sqL (atI ls l)) (by omega) (q := 0)
  have hdrop := fun (G' : Hp) (hG' : G.Le G') => dropC_at (pre := sideL ls (l ++ [(R : Int)])) (k := 19) (b := b) (T := 160) (post := []) (sideC_len (csL_len _)) (cl := cl) (va := va) (vn := 0) (vc := vc) (hv.mono (hG.trans hG')) (n := l'.length) (by omega) hx hk (cs := csL (atI ls ((R : Int) :: l'))) (csL_len _) e5 (by omega) (sq := sqL (atI ls l')) (by omega) (q := 0)
  simp only [e1, e2] at hadd
  simp only [e3, e4] at hdrop
  have hl1 : (l ++ [(R : Int)]).length = l.length + 1 := by simp
  refine PW.body tO func114 rfl (by kernel_rfl) ntmps114 rfl rfl ?_
  try refine RUN ?_
  apply EV.drawn 5 (by kernel_rfl) (by kernel_rfl); intro xv yw
  (repeat (first | refine' DV ?_ | refine' DA ?_ | refine' DK0 ?_ | refine' DT ?_ | refine' DS ?_ | (refine' DJ.nilB rfl rfl rfl rfl rfl ?_; rotate_left) | (refine' DJ.fldB tO rfl rfl rfl rfl rfl rfl rfl ?_; rotate_left)))
  (refine DJ.nil (fun G1 hG1 hF1 => ?_); (case hS => rfl); (case hS2 => rfl))
  refine EVL.callW rfl rfl rfl rfl rfl ([(b, 160, sideL ls l ++ sideL ls ((R : Int) :: l'))]) ([]) rfl (hadd _ hG1) ?_
  rintro v ow G2 ⟨rfl, rfl⟩ hG2
  rw [← hl1]
  try refine RUN ?_
  apply EV.drawn 5 (by kernel_rfl) (by kernel_rfl); intro xv yw
  (repeat (first | refine' DV ?_ | refine' DA ?_ | refine' DK0 ?_ | refine' DT ?_ | refine' DS ?_ | (refine' DJ.nilB rfl rfl rfl rfl rfl ?_; rotate_left) | (refine' DJ.fldB tO rfl rfl rfl rfl rfl rfl rfl ?_; rotate_left)))
  (refine DJ.nil (fun G3 hG3 hF3 => ?_); (case hS => rfl); (case hS2 => rfl))
  refine EVL.callW rfl rfl rfl rfl rfl ([(b, 160, sideL ls (l ++ [(R : Int)]) ++ (sideC ((l'.length + 1 : Nat) : Int) (csL (atI ls ((R : Int) :: l'))) (sqL (atI ls ((R : Int) :: l')) : Nat) 0 ++ []))]) ([]) rfl (hdrop _ (hG1.trans (hG2.trans hG3))) ?_
  rintro v ow G4 ⟨rfl, rfl⟩ hG4
  try refine RUN ?_
  refine ⟨rfl, ?_⟩
  rw [List.append_nil]; rfl
 ·exact worthC_at hk (csL_len _) (by have := hs l hn; omega) (by omega)
 ·have h1 := hs l hl
  have h3 := ht_int (l.length : Int)
  have h4 : bl (l.length : Int).natAbs ≤ 20 := bl_le (by omega)
  have h6 := ht_int (sqL (atI ls l) : Int)
  have h7 : bl (sqL (atI ls l) : Int).natAbs ≤ 30 := bl_le (by omega)
  have h5 := ht_div ((sqL (atI ls l) : Int) : Rat) ((l.length : Int) : Rat)
  unfold woL
  omega
def candC (key : Int → Rat) (least : Int) (m : List Int) (j : Nat) : Bool := decide (least ≤ ((j + 1 : Nat) : Int)) && decide (least ≤ ((m.length - (j + 1) : Nat) : Int)) && decide (key (m.getD j 0) < key (m.getD (j + 1) 0))
def sumW (wo : List Int → Rat) (m : List Int) (j : Nat) : Rat := wo (m.take (j + 1)) + wo (m.drop (j + 1))
def midC (key : Int → Rat) (m : List Int) (j : Nat) : Rat := (key (m.getD j 0) + key (m.getD (j + 1) 0)) / 2
def colN (key : Int → Rat) (wo : List Int → Rat) (least : Int) (m : List Int) : Nat → Option (Rat × Rat)
 | 0 => none
 | j + 1 => if candC key least m j = true then (match colN key wo least m j with
  | none => some (midC key m j, sumW wo m j)
  | some (a, w) => if w < sumW wo m j then some (midC key m j, sumW wo m j) else some (a, w)) else colN key wo least m j
def stA : Option (Rat × Rat) → Rat
 | none => 0
 | some (a, _) => a
def stW : Option (Rat × Rat) → Rat
 | none => 0
 | some (_, w) => w
theorem colN_no {key : Int → Rat} {wo : List Int → Rat} {least : Int} {m : List Int} {j : Nat} (h : candC key least m j = false) : colN key wo least m (j + 1) = colN key wo least m j := by
 rw [colN, h, if_neg (by decide)]
theorem colN_first {key : Int → Rat} {wo : List Int → Rat} {least : Int} {m : List Int} {j : Nat} (h : candC key least m j = true) (h0 : colN key wo least m j = none) : colN key wo least m (j + 1) = some (midC key m j, sumW wo m j) := by
 rw [colN, h, if_pos rfl, h0]
theorem colN_more {key : Int → Rat} {wo : List Int → Rat} {least : Int} {m : List Int} {j : Nat} {a w : Rat} (h : candC key least m j = true) (h0 : colN key wo least m j = some (a, w)) (hw : w < sumW wo m j) : colN key wo least m (j + 1) = some (midC key m j, sumW wo m j) := by
 rw [colN, h, if_pos rfl, h0]; exact if_pos hw
theorem colN_less {key : Int → Rat} {wo : List Int → Rat} {least : Int} {m : List Int} {j : Nat} {a w : Rat} (h : candC key least m j = true) (h0 : colN key wo least m j = some (a, w)) (hw : ¬ w < sumW wo m j) : colN key wo least m (j + 1) = colN key wo least m j := by
 rw [colN, h, if_pos rfl, h0]; exact if_neg hw
theorem sw_low {S S' : List Value} {n : Int} (hl : S.length = 19) (h : (S.drop 0).take 1 = [.int .i64 n]) : ((S ++ S').drop (0 + 0 + 0)).take 1 = [.int .i64 n] := by
 rw [List.drop_append_of_le_length (by omega), List.take_append_of_le_length (by rw [List.length_drop]; omega)]; exact h
theorem sw_high {S S' : List Value} {n : Int} (hl : S.length = 19) (h : (S'.drop 0).take 1 = [.int .i64 n]) : ((S ++ S').drop (0 + 19 + 0)).take 1 = [.int .i64 n] := by
 rw [show 0 + 19 + 0 = 19 from rfl, List.drop_left' hl]; exact h
def ColR (X : List (List Rat)) (wo : List Int → Rat) (rs : List Int) (least col : Int) (o : Option (Rat × Rat)) : Prop := ∃ m, SortC X col rs m ∧ o = colN (colK X col) wo least m (m.length - 1) ∧ ht (stW o) ≤ 200001
theorem stW_ht {key : Int → Rat} {wo : List Int → Rat} {least : Int} {m : List Int} {B : Nat} (h : ∀ j, j < m.length → ht (sumW wo m j) ≤ B) (hB : 1 ≤ B) : ∀ j, j ≤ m.length → ht (stW (colN key wo least m j)) ≤ B
 | 0, _ => by show ht 0 ≤ B; rw [ht_zero]; exact hB
 | j + 1, hj => by
  have ih := stW_ht (key := key) (least := least) h hB j (by omega)
  have h1 := h j (by omega)
  unfold colN
  split
  ·split
   ·exact h1
   ·split
    ·exact h1
    ·rename_i h2 _
     rw [h2] at ih; exact ih
  ·exact ih
theorem ordQ_neg {a b : Rat} : ordR a b ≥ 0 ↔ ¬ a < b := by
 unfold ordR
 split
 ·rename_i h; constructor
  ·intro k; omega
  ·intro k; exact absurd h k
 ·rename_i h; constructor
  ·intro _; exact h
  ·intro _; split <;> omega
theorem ordQ_pos {a b : Rat} : ordR a b > 0 ↔ b < a := by
 unfold ordR
 split
 ·rename_i h; constructor
  ·intro k; omega
  ·intro k; exact absurd (Rat.le_of_lt h) (Rat.not_le.2 k)
 ·split
  ·rename_i h; exact ⟨fun _ => h, fun _ => by omega⟩
  ·rename_i h; exact ⟨fun k => by omega, fun k => absurd k h⟩
theorem len12 : ∀ {l : List Int}, l.length = 12 → ∃ c0 c1 c2 c3 c4 c5 c6 c7 c8 c9 c10 c11, l = [c0, c1, c2, c3, c4, c5, c6, c7, c8, c9, c10, c11]
 | [c0, c1, c2, c3, c4, c5, c6, c7, c8, c9, c10, c11], _ => ⟨_, _, _, _, _, _, _, _, _, _, _, _, rfl⟩
set_option maxHeartbeats 16000000 in
theorem column_pc {H : Hp} {kd cl : Int} {sl sv vx vr : Value} {X : List (List Rat)} {S : List Int → List Value} {wo : List Int → Rat} {rs : List Int} {col least : Int} (hg : GOk H kd cl sl sv X.length S wo) (hX : QLL H vx X) (hr : IL H vr rs) (hn : rs.length ≤ 20) (hrs : ∀ r, r ∈ rs → 0 ≤ r ∧ r < (X.length : Int)) (hb : ∀ x, x ∈ X → ∀ q, q ∈ x → ht q ≤ 100) :
  PC prog 66 #[goalV kd cl sl sv, vx, vr, .int .i64 col, .int .i64 least] H fun r _ => ∃ o, ColR X wo rs least col o ∧ r = .tuple #[fracV (stA o), fracV (stW o), .bool o.isSome] := by
 have hsorted := sorted_pc (col := col) hX hr hn hrs (fun x hx q hq => sm_of (hb x hx q hq) (by omega))
 obtain ⟨xa, xc, rfl⟩ := hX.val
 obtain ⟨ra, rc, rfl⟩ := SlC.val hr
 refine BD func66 ntmps66 ?_
 try refine RUN ?_
 refine EVL.call rfl rfl rfl rfl rfl (hsorted) ?_
 rintro r1 G1 ⟨m, hm, hsc⟩ hG1
 have hmr : ∀ r, r ∈ m → 0 ≤ r ∧ r < (X.length : Int) := by
  rcases hsc with ⟨_, hp, _⟩ | ⟨_, rfl⟩
  ·exact fun r hr => hrs r (hp.mem_iff.1 hr)
  ·intro r hr; cases hr
 have hmn : m.length ≤ 20 := by
  rcases hsc with ⟨_, hp, _⟩ | ⟨_, rfl⟩
  ·rw [hp.length_eq]; exact hn
  ·decide
 have hmh : ∀ r, r ∈ m → hasC X col r = true := by
  rcases hsc with ⟨ha, hp, _⟩ | ⟨_, rfl⟩
  ·exact fun r hr => List.all_eq_true.1 ha r (hp.mem_iff.1 hr)
  ·intro r hr; cases hr
 obtain ⟨ma, mc, rfl⟩ := SlC.val hm
 have hwh := hg.whole G1 hG1 _ m hm (by omega) hmr
 have hlS := hg.len m
 try refine RUN ?_
 refine EVL.call rfl rfl rfl rfl rfl (hwh) ?_
 rintro r2 G2 rfl hG2
 obtain ⟨sn, scs, ssq, sq, hs12, hS⟩ := hg.form m
 obtain ⟨c0, c1, c2, c3, c4, c5, c6, c7, c8, c9, c10, c11, rfl⟩ := len12 hs12
 rw [hS]
 try refine RUN ?_
 (first | refine EVL.unbox (14) rfl fun b => ?_ | refine EV.unbox (14) rfl fun b => ?_)
 (first | refine EVL.swapOw ([(b, 160, S (m.take 0) ++ S (m.drop 0))]) ([]) ((by rw [List.take_zero, List.drop_zero, hg.zero, hS]; rfl)) ?_ | refine EV.swapOw ([(b, 160, S (m.take 0) ++ S (m.drop 0))]) ([]) ((by rw [List.take_zero, List.drop_zero, hg.zero, hS]; rfl)) ?_)
 have hX2 := hX.mono (hG1.trans hG2)
 have hm2 := hm.mono hG2
 have hg2 := hg.mono (hG1.trans hG2)
 clear hS hwh hsorted
 have hsw : ∀ j, j < m.length → ht (sumW wo m j) ≤ 200001 := fun j hj => by
  have h1 := hg.small (m.take (j + 1)) (by rw [List.length_take]; omega) (fun r hr => hmr r (List.mem_of_mem_take hr))
  have h2 := hg.small (m.drop (j + 1)) (by rw [List.length_drop]; omega) (fun r hr => hmr r (List.mem_of_mem_drop hr))
  have h3 := ht_add (wo (m.take (j + 1))) (wo (m.drop (j + 1)))
  unfold sumW; omega
 have hst := fun j (hj : j ≤ m.length) => stW_ht (key := colK X col) (least := least) hsw (by omega) j hj
 generalize hkey : colK X col = key at *
 refine EV.loopK (ι := Nat) [1, 3, 4, 5, 10, 11, 13, 14] [5] (fun j => [(12, .v (.bool (colN key wo least m j).isSome)), (15, .v (.int .i64 ((j + 1 : Nat) : Int)))]) (fun j => [(10, 45, vlist (fracV (stA (colN key wo least m j)))), (11, 45, vlist (fracV (stW (colN key wo least m j))))]) (fun j => [(b, 160, S (m.take j) ++ S (m.drop j))]) (fun j _ => j ≤ m.length - 1) (fun j => m.length - j) (0) rfl rfl ⟨rfl, rfl, trivial⟩ ⟨by rw [show stA (colN key wo least m 0) = 0 from rfl, frac_zero_cells]; rfl, by rw [show stW (colN key wo least m 0) = 0 from rfl, frac_zero_cells]; rfl, trivial⟩ rfl (fun _ => rfl) (Nat.zero_le _) ?_
 rintro j G3 hG3 hj
 try refine RUN ?_
 refine EV.cond rfl (fun hlt => ?_) (fun hlt => ?_)
 ·simp only [nN] at hlt
  obtain ⟨r1, hr1⟩ : ∃ r, m[j]? = some r := ⟨_, List.getElem?_eq_getElem (by omega)⟩
  obtain ⟨r2, hr2⟩ : ∃ r, m[j + 1]? = some r := ⟨_, List.getElem?_eq_getElem hlt⟩
  have hb1 := hmr r1 (List.mem_of_getElem? hr1)
  have hb2 := hmr r2 (List.mem_of_getElem? hr2)
  obtain ⟨R1, C, x1, q1, rfl, hCC, hx1, hq1⟩ := hasC_at hb1.1 hb1.2 (hmh r1 (List.mem_of_getElem? hr1))
  subst hCC
  obtain ⟨R2, C', x2, q2, rfl, hCC, hx2, hq2⟩ := hasC_at hb2.1 hb2.2 (hmh r2 (List.mem_of_getElem? hr2))
  obtain rfl : C = C' := by omega
  obtain ⟨vs, hvs, hs⟩ := hX2.mono hG3
  obtain ⟨a1, e1, hu1, hQ1⟩ := hvs.at hx1
  obtain ⟨a2, e2, hu2, hQ2⟩ := hvs.at hx2
  have hs1 : SlC G3 (.slice a1 x1.length e1) x1.length 5 (x1.flatMap fun q => vlist (fracV q)) := hQ1
  have hs2 : SlC G3 (.slice a2 x2.length e2) x2.length 5 (x2.flatMap fun q => vlist (fracV q)) := hQ2
  have hm3 := hm2.mono hG3
  have hl1 := (List.getElem?_eq_some_iff.1 hq1).1
  have hl2 := (List.getElem?_eq_some_iff.1 hq2).1
  have hXl1 : R1 < X.length := by omega
  have hXl2 : R2 < X.length := by omega
  have hjl : j < m.length := by omega
  have hk1 : key (m.getD j 0) = q1 := by rw [List.getD_eq_getElem?_getD, hr1, ← hkey]; exact colK_at rfl rfl hx1 hq1
  have hk2 : key (m.getD (j + 1) 0) = q2 := by rw [List.getD_eq_getElem?_getD, hr2, ← hkey]; exact colK_at rfl rfl hx2 hq2
  have hqb1 := hb x1 (List.mem_of_getElem? hx1) q1 (List.mem_of_getElem? hq1)
  have hqb2 := hb x2 (List.mem_of_getElem? hx2) q2 (List.mem_of_getElem? hq2)
  have wj : IntKind.i64.wrap (((j + 1 : Nat) : Int) - 1) = (j : Int) := by rw [IntKind.wrap_i64]; omega
  have wn : IntKind.i64.wrap (((j + 1 : Nat) : Int) + 1) = ((j + 1 + 1 : Nat) : Int) := wi_inc (j + 1) (by omega)
  have hdrop : m.drop j = (R1 : Int) :: m.drop (j + 1) := dropA_at hr1
  have htake : m.take (j + 1) = m.take j ++ [(R1 : Int)] := take_snoc hr1
  have hmove := fun (G' : Hp) (hG' : G3.Le G') => hg2.move G' (hG3.trans hG') b (m.take j) (m.drop (j + 1)) (R1 : Int) (by rw [List.length_take, List.length_drop]; omega) (by rw [← hdrop, List.take_append_drop]; exact hmr)
  rw [← hdrop, ← htake] at hmove
  have htl : (m.take (j + 1)).length = j + 1 := by rw [List.length_take]; omega
  have hdl : (m.drop (j + 1)).length = m.length - (j + 1) := List.length_drop
  have hf1 := hg.first (m.take (j + 1))
  have hf2 := hg.first (m.drop (j + 1))
  rw [htl] at hf1
  rw [hdl] at hf2
  have hS1 := hg.len (m.take (j + 1))
  have hS2 := hg.len (m.drop (j + 1))
  have hcmp := cmp_pv q1 q2 (sm_of hqb1 (by omega)) (sm_of hqb2 (by omega))
  try refine RUN ?_
  apply EV.drawn 6 (by kernel_rfl) (by kernel_rfl); intro xv yw
  (repeat (first | refine' DV ?_ | refine' DA ?_ | refine' DK0 ?_ | refine' DT ?_ | refine' DS ?_))
  refine' DJ.ofVal (ValOk.idx1 tO rfl rfl rfl rfl rfl rfl rfl rfl (hm3) (j) (wj) (hjl) ((by rw [List.getElem?_map, hr1]; rfl))) rfl rfl rfl ?_; rotate_left
  (repeat (first | refine' DV ?_ | refine' DA ?_ | refine' DK0 ?_ | refine' DT ?_ | refine' DS ?_))
  (refine DJ.nil (fun G4 hG4 hF4 => ?_); (case hS => rfl); (case hS2 => rfl))
  refine EVL.callW rfl rfl rfl rfl rfl ([(b, 160, S (m.take j) ++ S (m.drop j))]) ([]) rfl (hmove G4 hG4) ?_
  rintro v ow G5 ⟨rfl, rfl⟩ hG5
  have hm5 := hm3.mono (hG4.trans hG5)
  have hs5 := hs.mono (hG4.trans hG5)
  have hs15 := hs1.mono (hG4.trans hG5)
  have hs25 := hs2.mono (hG4.trans hG5)
  try refine RUN ?_
  apply EV.drawn 24 (by kernel_rfl) (by kernel_rfl); intro xv yw
  (repeat (first | refine' DV ?_ | refine' DA ?_ | refine' DK0 ?_ | refine' DT ?_ | refine' DS ?_))
  refine' DJ.ofVal (ValOk.idx1 tO rfl rfl rfl rfl rfl rfl rfl rfl (hm5) (j) (wj) (hjl) ((by rw [List.getElem?_map, hr1]; rfl))) rfl rfl rfl ?_; rotate_left
  (repeat (first | refine' DV ?_ | refine' DA ?_ | refine' DK0 ?_ | refine' DT ?_ | refine' DS ?_))
  refine' DJ.ofVal (ValOk.idx1 tO rfl rfl rfl rfl rfl rfl rfl rfl (hs5) (R1) (rfl) (hXl1) (hu1)) rfl rfl rfl ?_; rotate_left
  (repeat (first | refine' DV ?_ | refine' DA ?_ | refine' DK0 ?_ | refine' DT ?_ | refine' DS ?_))
  refine' DJ.idxM tO rfl rfl rfl rfl rfl rfl rfl rfl rfl (hs15) (C) (rfl) (hl1) (QL.at (H := H) (v := .bool true) hq1) ?_; rotate_left
  (repeat (first | refine' DV ?_ | refine' DA ?_ | refine' DK0 ?_ | refine' DT ?_ | refine' DS ?_))
  refine' DJ.ofVal (ValOk.idx1 tO rfl rfl rfl rfl rfl rfl rfl rfl (hm5) (j + 1) (rfl) (hlt) ((by rw [List.getElem?_map, hr2]; rfl))) rfl rfl rfl ?_; rotate_left
  (repeat (first | refine' DV ?_ | refine' DA ?_ | refine' DK0 ?_ | refine' DT ?_ | refine' DS ?_))
  refine' DJ.ofVal (ValOk.idx1 tO rfl rfl rfl rfl rfl rfl rfl rfl (hs5) (R2) (rfl) (hXl2) (hu2)) rfl rfl rfl ?_; rotate_left
  (repeat (first | refine' DV ?_ | refine' DA ?_ | refine' DK0 ?_ | refine' DT ?_ | refine' DS ?_))
  refine' DJ.idxM tO rfl rfl rfl rfl rfl rfl rfl rfl rfl (hs25) (C) (rfl) (hl2) (QL.at (H := H) (v := .bool true) hq2) ?_; rotate_left
  (repeat (first | refine' DV ?_ | refine' DA ?_ | refine' DK0 ?_ | refine' DT ?_ | refine' DS ?_))
  (refine DJ.nil (fun G6 hG6 hF6 => ?_); (case hS => rfl); (case hS2 => rfl))
  try refine RUN ?_
  (repeat (first | refine EVL.nilB rfl rfl rfl rfl rfl ?_ | refine EVL.fldB tO rfl rfl rfl rfl rfl rfl rfl ?_ | refine EVL.val tO rfl rfl rfl rfl rfl ?_))
  refine EVL.loadOwn tO rfl rfl rfl rfl rfl rfl (0) rfl (sw_low hS1 hf1) rfl rfl ?_
  try refine RUN ?_
  have hcand : candC key least m j = (decide (least ≤ ((j + 1 : Nat) : Int)) && decide (least ≤ ((m.length - (j + 1) : Nat) : Int)) && decide (q1 < q2)) := by unfold candC; rw [hk1, hk2]
  by_cases h1 : ((j + 1 : Nat) : Int) < least
  ·have hno : colN key wo least m (j + 1) = colN key wo least m j := colN_no (by rw [hcand, decide_eq_false (show ¬ least ≤ ((j + 1 : Nat) : Int) by omega)]; rfl)
   rw [decide_eq_true h1]
   try refine RUN ?_
   refine ⟨j + 1, ⟨by rw [hno]; rfl, by rw [wn]; rfl, trivial⟩, (by repeat (first | exact trivial | refine And.intro rfl ?_)), ⟨by rw [hno]; rfl, by rw [hno]; rfl, trivial⟩, (by repeat (first | exact trivial | refine And.intro rfl ?_)), rfl, by omega, hG4.trans (hG5.trans hG6), by omega⟩
  ·rw [decide_eq_false h1]
   try refine RUN ?_
   (repeat (first | refine EVL.nilB rfl rfl rfl rfl rfl ?_ | refine EVL.fldB tO rfl rfl rfl rfl rfl rfl rfl ?_ | refine EVL.val tO rfl rfl rfl rfl rfl ?_))
   refine EVL.loadOwn tO rfl rfl rfl rfl rfl rfl (0) rfl (sw_high hS1 hf2) rfl rfl ?_
   try refine RUN ?_
   by_cases h2 : ((m.length - (j + 1) : Nat) : Int) < least
   ·have hno : colN key wo least m (j + 1) = colN key wo least m j := colN_no (by rw [hcand, decide_eq_false (show ¬ least ≤ ((m.length - (j + 1) : Nat) : Int) by omega), Bool.and_false]; rfl)
    rw [decide_eq_true h2]
    try refine RUN ?_
    refine ⟨j + 1, ⟨by rw [hno]; rfl, by rw [wn]; rfl, trivial⟩, (by repeat (first | exact trivial | refine And.intro rfl ?_)), ⟨by rw [hno]; rfl, by rw [hno]; rfl, trivial⟩, (by repeat (first | exact trivial | refine And.intro rfl ?_)), rfl, by omega, hG4.trans (hG5.trans hG6), by omega⟩
   ·rw [decide_eq_false h2]
    repeat (first | refine RUN ?_ | refine CV (hcmp) ?_ | refine CE (hcmp) ?_)
    by_cases h3 : q1 < q2
    ·have hc : candC key least m j = true := by rw [hcand, decide_eq_true (show least ≤ ((j + 1 : Nat) : Int) by omega), decide_eq_true (show least ≤ ((m.length - (j + 1) : Nat) : Int) by omega), decide_eq_true h3]; rfl
     have hmid : midC key m j = (q1 + q2) / 2 := by unfold midC; rw [hk1, hk2]
     have hr1' := fun r hr => hmr r (List.mem_of_mem_take (i := j + 1) hr)
     have hr2' := fun r hr => hmr r (List.mem_of_mem_drop (i := j + 1) hr)
     have hw1 := fun G' : Hp => hg2.worth G' b 0 160 [] (S (m.drop (j + 1))) (m.take (j + 1)) rfl (by omega) hr1'
     have hw2 := fun G' : Hp => hg2.worth G' b 19 160 (S (m.take (j + 1))) [] (m.drop (j + 1)) hS1 (by omega) hr2'
     simp only [List.append_nil] at hw2
     have hsm1 := hg.small (m.take (j + 1)) (by omega) hr1'
     have hsm2 := hg.small (m.drop (j + 1)) (by omega) hr2'
     have hadd := add_pv (wo (m.take (j + 1))) (wo (m.drop (j + 1))) (sm_of hsm1 (by omega)) (sm_of hsm2 (by omega))
     have hmv := middle_pv q1 q2 (by omega) (by omega)
     have hws := hsw j (by omega)
     have hwst := hst j (by omega)
     rw [show wo (m.take (j + 1)) + wo (m.drop (j + 1)) = sumW wo m j from rfl] at hadd
     rw [← hmid] at hmv
     rw [decide_eq_false (fun h => absurd h3 (ordQ_neg.1 h))]
     try refine RUN ?_
     apply EV.drawn 10 (by kernel_rfl) (by kernel_rfl); intro xv yw
     (repeat (first | refine' DV ?_ | refine' DA ?_ | refine' DK0 ?_ | refine' DT ?_ | refine' DS ?_ | (refine' DJ.nilB rfl rfl rfl rfl rfl ?_; rotate_left) | (refine' DJ.fldB tO rfl rfl rfl rfl rfl rfl rfl ?_; rotate_left)))
     (refine' DJ.callR rfl rfl rfl rfl rfl 0 rfl (by simp [hS1, hS2]) (cO func68) (fun G' => hw1 G') ?_; rotate_left)
     (repeat (first | refine' DV ?_ | refine' DA ?_ | refine' DK0 ?_ | refine' DT ?_ | refine' DS ?_ | (refine' DJ.nilB rfl rfl rfl rfl rfl ?_; rotate_left) | (refine' DJ.fldB tO rfl rfl rfl rfl rfl rfl rfl ?_; rotate_left)))
     (refine' DJ.callR rfl rfl rfl rfl rfl 0 rfl (by simp [hS1, hS2]) (cO func68) (fun G' => hw2 G') ?_; rotate_left)
     (repeat (first | refine' DV ?_ | refine' DA ?_ | refine' DK0 ?_ | refine' DT ?_ | (refine' DC (hadd) (h := ?_); rotate_left) | refine' DS ?_))
     (refine DJ.nil (fun G7 hG7 hF7 => ?_); (case hS => rfl); (case hS2 => rfl))
     try refine RUN ?_
     have hcmp2 := cmp_pv (sumW wo m j) (stW (colN key wo least m j)) (sm_of hws (by omega)) (sm_of hwst (by omega))
     cases hst0 : colN key wo least m j with
     | none =>
      have hyes := colN_first (wo := wo) hc hst0
      rw [hst0] at hcmp2
      try refine RUN ?_
      apply EV.drawnK [1, 3, 4, 5, 10, 11, 13, 14, 15, 16, 17, 18] [10, 11] [5, 16, 17, 18] 5 rfl rfl rfl rfl (by kernel_rfl) (by kernel_rfl); intro xv yw
      (repeat (first | refine' DV ?_ | refine' DA ?_ | refine' DK0 ?_ | refine' DT ?_ | (refine' DC (hmv) (h := ?_); rotate_left) | refine' DS ?_))
      (refine DJ.nil (fun G8 hG8 hF8 => ?_); (case hS => rfl); (case hS2 => rfl); (case hD => rfl))
      try refine RUN ?_
      refine ⟨j + 1, ⟨by rw [hyes]; rfl, by rw [wn]; rfl, trivial⟩, (by repeat (first | exact trivial | refine And.intro rfl ?_)), ⟨by rw [hyes]; rfl, by rw [hyes]; rfl, trivial⟩, (by repeat (first | exact trivial | refine And.intro rfl ?_)), rfl, by omega, hG4.trans (hG5.trans (hG6.trans (hG7.trans hG8))), by omega⟩
     | some p =>
      obtain ⟨pa, pw⟩ := p
      rw [hst0] at hcmp2
      repeat (first | refine RUN ?_ | refine CV (hcmp2) ?_ | refine CE (hcmp2) ?_)
      by_cases h4 : pw < sumW wo m j
      ·have hyes := colN_more (wo := wo) hc hst0 h4
       rw [decide_eq_true (show ordR (sumW wo m j) (stW (some (pa, pw))) > 0 from ordQ_pos.2 h4)]
       try refine RUN ?_
       apply EV.drawnK [1, 3, 4, 5, 10, 11, 13, 14, 15, 16, 17, 18] [10, 11] [5, 16, 17, 18] 5 rfl rfl rfl rfl (by kernel_rfl) (by kernel_rfl); intro xv yw
       (repeat (first | refine' DV ?_ | refine' DA ?_ | refine' DK0 ?_ | refine' DT ?_ | (refine' DC (hmv) (h := ?_); rotate_left) | refine' DS ?_))
       (refine DJ.nil (fun G8 hG8 hF8 => ?_); (case hS => rfl); (case hS2 => rfl); (case hD => rfl))
       try refine RUN ?_
       refine ⟨j + 1, ⟨by rw [hyes]; rfl, by rw [wn]; rfl, trivial⟩, (by repeat (first | exact trivial | refine And.intro rfl ?_)), ⟨by rw [hyes]; rfl, by rw [hyes]; rfl, trivial⟩, (by repeat (first | exact trivial | refine And.intro rfl ?_)), rfl, by omega, hG4.trans (hG5.trans (hG6.trans (hG7.trans hG8))), by omega⟩
      ·have hno := (colN_less (wo := wo) hc hst0 h4).trans hst0
       rw [decide_eq_false (show ¬ ordR (sumW wo m j) (stW (some (pa, pw))) > 0 from fun h => h4 (ordQ_pos.1 h))]
       try refine RUN ?_
       refine ⟨j + 1, ⟨by rw [hno]; rfl, by rw [wn]; rfl, trivial⟩, (by repeat (first | exact trivial | refine And.intro rfl ?_)), ⟨by rw [hno]; rfl, by rw [hno]; rfl, trivial⟩, (by repeat (first | exact trivial | refine And.intro rfl ?_)), rfl, by omega, hG4.trans (hG5.trans (hG6.trans hG7)), by omega⟩
    ·have hno : colN key wo least m (j + 1) = colN key wo least m j := colN_no (by rw [hcand, decide_eq_false h3, Bool.and_false])
     rw [decide_eq_true (ordQ_neg.2 h3)]
     try refine RUN ?_
     refine ⟨j + 1, ⟨by rw [hno]; rfl, by rw [wn]; rfl, trivial⟩, (by repeat (first | exact trivial | refine And.intro rfl ?_)), ⟨by rw [hno]; rfl, by rw [hno]; rfl, trivial⟩, (by repeat (first | exact trivial | refine And.intro rfl ?_)), rfl, by omega, hG4.trans (hG5.trans hG6), by omega⟩
 ·simp only [nN] at hlt
  obtain rfl : j = m.length - 1 := by omega
  have hfh := hst (m.length - 1) (by omega)
  generalize hfin : colN key wo least m (m.length - 1) = fin at *
  try refine RUN ?_
  refine EVA.start (by kernel_rfl) ?_
  refine EVA.val tO (2) rfl (by kernel_rfl) (by kernel_rfl) (by kernel_rfl) rfl rfl rfl rfl rfl ?_
  refine EVA.two 0 1 (by kernel_rfl) rfl rfl ?_ ?_
  ·(try refine RUNL ?_)
   refine EVL.nil ⟨rfl, ?_⟩
   refine EVA.two 1 3 (by kernel_rfl) rfl rfl ?_ ?_
   ·(try refine RUNL ?_)
    refine EVL.nil ⟨rfl, ?_⟩
    refine EVA.one 3 (by kernel_rfl) rfl ?_
    (try refine RUNL ?_)
    refine EVL.nil ⟨rfl, ?_⟩
    refine EVA.one 4 (by kernel_rfl) rfl ?_
    (try refine RUNL ?_)
    refine EVL.nil ⟨rfl, ?_⟩
    refine EVA.one 5 (by kernel_rfl) rfl ?_
    (try refine RUNL ?_)
    refine EVL.nil ⟨rfl, ?_⟩
    refine EVA.nil (by kernel_rfl) ?_
    try refine RUN ?_
    exact ⟨fin, ⟨m, hsc, by rw [hkey]; exact hfin.symm, hfh⟩, rfl⟩
   ·(try refine RUNL ?_)
    refine EVL.nil ⟨rfl, ?_⟩
    refine EVA.one 1 (by kernel_rfl) rfl ?_
    (try refine RUNL ?_)
    refine EVL.nil ⟨rfl, ?_⟩
    refine EVA.one 4 (by kernel_rfl) rfl ?_
    (try refine RUNL ?_)
    refine EVL.nil ⟨rfl, ?_⟩
    refine EVA.one 5 (by kernel_rfl) rfl ?_
    (try refine RUNL ?_)
    refine EVL.nil ⟨rfl, ?_⟩
    refine EVA.nil (by kernel_rfl) ?_
    try refine RUN ?_
    exact ⟨fin, ⟨m, hsc, by rw [hkey]; exact hfin.symm, hfh⟩, rfl⟩
  ·(try refine RUNL ?_)
   refine EVL.nil ⟨rfl, ?_⟩
   refine EVA.one 0 (by kernel_rfl) rfl ?_
   (try refine RUNL ?_)
   refine EVL.nil ⟨rfl, ?_⟩
   refine EVA.one 3 (by kernel_rfl) rfl ?_
   (try refine RUNL ?_)
   refine EVL.nil ⟨rfl, ?_⟩
   refine EVA.one 4 (by kernel_rfl) rfl ?_
   (try refine RUNL ?_)
   refine EVL.nil ⟨rfl, ?_⟩
   refine EVA.one 5 (by kernel_rfl) rfl ?_
   (try refine RUNL ?_)
   refine EVL.nil ⟨rfl, ?_⟩
   refine EVA.nil (by kernel_rfl) ?_
   try refine RUN ?_
   exact ⟨fin, ⟨m, hsc, by rw [hkey]; exact hfin.symm, hfh⟩, rfl⟩
end Go.Proofs.YtejljnlfgiifoaaGreatDoor
namespace Go.Proofs.YtejljnlfgiifoaaGreatDoor
open Go.RowKit Go.Shelf
attribute [local go_sem] Oper.semAt_some
def uptoF {α : Type} (f : Nat → α) (k : Nat) : List α := (List.range k).map f
theorem uptoF_succ {α : Type} (f : Nat → α) (k : Nat) : uptoF f (k + 1) = uptoF f k ++ [f k] := by simp [uptoF, List.range_succ]
theorem uptoF_length {α : Type} (f : Nat → α) (k : Nat) : (uptoF f k).length = k := by simp [uptoF]
theorem uptoF_all (zs : List Int) : uptoF (fun j => zs[j]?.getD 0) zs.length = zs := by
 apply List.ext_getElem
 ·simp [uptoF]
 ·intro i h1 h2
  simp [uptoF, h2]
theorem uptoF_take (zs : List Int) {k : Nat} (hk : k ≤ zs.length) : uptoF (fun j => zs[j]?.getD 0) k = zs.take k := by
 apply List.ext_getElem
 ·simp [uptoF, hk]
 ·intro i h1 h2
  have : i < zs.length := by simp [uptoF] at h1; omega
  simp [uptoF, this]
set_option maxRecDepth 100000 in
set_option maxHeartbeats 2000000 in
theorem values1_in (F : Fence) (n : Nat) (h7 : F.fn 113) (hro : F.round = none) (hn : 1 ≤ n) (l Bs n₀ b off len cap : Nat) (zs : List Int) (hreach : len * 8 ≤ 140737488351232) (hb : b < n₀) (J Jx : List Int → World → Prop)
  (hY : ∀ pre x W, J pre W → pre.length < len → YieldAt F (n - 1) Tryz.prog l #[.int .i64 x] W fun e W' =>
   (e = .returned (.bool true) ∧ J (pre ++ [x]) W' ∧ Below n₀ W W') ∨ (e = .returned (.bool false) ∧ Jx (pre ++ [x]) W'))
  (W : World) (hBs : W.cell? ⟨Bs, 0, none⟩ = some (.slice (some ⟨b, off, none⟩) len cap)) (hc : ∀ j, j < len → W.cell? ⟨b, off + j, none⟩ = some (.int .i64 (zs[j]?.getD 0))) (h0 : J [] W) :
  CallsIn F n Tryz.prog 113 #[.func (.yield l) #[] #[], .pointer (some ⟨Bs, 0, none⟩)] W fun e W' => (∃ v, e = .returned v) ∧
   ((∃ ys, ys = uptoF (fun j => zs[j]?.getD 0) len ∧ J ys W') ∨ (∃ pre, (∃ k, k ≤ len ∧ pre = uptoF (fun j => zs[j]?.getD 0) k) ∧ Jx pre W')) := by
 refine callsIn_of_wp Tryz.func113 rfl h7 ?_ hro
 simp only [Tryz.ntmps113, List.size_toArray, List.length_cons, List.length_nil, Nat.reduceAdd, Nat.reduceSub, Array.replicate_succ, Array.replicate_zero, List.push_toArray, List.append_toArray, List.nil_append, List.cons_append]
 gi_wp2
 gi_loopw [7] (fun i wr => ∃ k : Nat, k ≤ len ∧ i = .int .i64 k ∧ J (uptoF (fun j => zs[j]?.getD 0) k) wr ∧ Below n₀ W wr)
  (fun i _ => len - (intOf i).toNat)
 case atStart => exact ⟨0, Nat.zero_le _, rfl, h0, Below.refl _ _⟩
 case round =>
  obtain ⟨k, hk, rfl, hJs, hnx⟩ := hrel
  have hcx : k < len → wr.cell? ⟨b, off + k, none⟩ = some (.int .i64 (zs[k]?.getD 0)) := fun h => (hnx.cell (p := ⟨b, off + k, none⟩) hb).trans (hc k h)
  by_cases hlt : k < len
  ·obtain ⟨fn, tmps, assign, body, hy, hR⟩ := hY _ (zs[k]?.getD 0) wr hJs (by rw [uptoF_length]; exact hlt)
   have hcx' := hcx hlt
   gi_wp2
   refine hR.mono ?_
   rintro e W3 (⟨rfl, hJ3, hk3⟩ | ⟨rfl, hJx3⟩)
   ·gi_wp2
    go_roundw
    case rel => exact ⟨k + 1, by omega, by simp, by rw [uptoF_succ]; exact hJ3, hnx.trans hk3⟩
    case measure => simp [intOf]; omega
   ·gi_wp2
    refine bodyPost_ret (results_none rfl _ _ _) rfl ?_
    exact ⟨⟨_, rfl⟩, .inr ⟨_, ⟨k + 1, by omega, (uptoF_succ _ _).symm⟩, hJx3⟩⟩
  ·obtain rfl : k = len := by omega
   gi_wp2
   go_end0
   exact ⟨⟨_, rfl⟩, .inl ⟨_, rfl, hJs⟩⟩
set_option maxRecDepth 100000 in
set_option maxHeartbeats 1000000 in
theorem values1_nil_in (F : Fence) (n : Nat) (h7 : F.fn 113) (hro : F.round = none) (l Bs : Nat) (a : Option Addr) (cap : Nat) (J : List Int → World → Prop) (W : World) (hBs : W.cell? ⟨Bs, 0, none⟩ = some (.slice a 0 cap)) (h0 : J [] W) :
  CallsIn F n Tryz.prog 113 #[.func (.yield l) #[] #[], .pointer (some ⟨Bs, 0, none⟩)] W fun e W' => (∃ v, e = .returned v) ∧ J [] W' := by
 refine callsIn_of_wp Tryz.func113 rfl h7 ?_ hro
 simp only [Tryz.ntmps113, List.size_toArray, List.length_cons, List.length_nil, Nat.reduceAdd, Nat.reduceSub, Array.replicate_succ, Array.replicate_zero, List.push_toArray, List.append_toArray, List.nil_append, List.cons_append]
 gi_wp2
 gi_loopw [7] (fun i wr => i = .int .i64 0 ∧ J [] wr) (fun _ _ => 0)
 case atStart => exact ⟨rfl, h0⟩
 case round =>
  obtain ⟨rfl, hJs⟩ := hrel
  gi_wp2
  go_end0
  exact ⟨⟨_, rfl⟩, hJs⟩
theorem values_stops (F : Fence) (n : Nat) (h7 : F.fn 113) (hro : F.round = none) (hn : 1 ≤ n) (Bs n₀ : Nat) (sv : Value) (zs : List Int) (hreach : zs.length * 8 ≤ 140737488351232) (w : World) (hBs : Bs < w.heap.size) (hn₀ : n₀ ≤ w.heap.size)
  (hc : w.cell? ⟨Bs, 0, none⟩ = some sv) (hI : Sl i64 w sv zs) (hlow : ∀ b off len cap, sv = .slice (some ⟨b, off, none⟩) len cap → zs ≠ [] → b < n₀) :
  SeqStopsK F n Tryz.prog 113 #[.pointer (some ⟨Bs, 0, none⟩)] (fun x : Int => #[Value.int .i64 x]) (Below n₀) (fun ys => ys = zs) (fun pre => pre <+: zs) zs.length w := fun l J Jx W hW _ _ hY h0 => by
 have hc' := (hW.cell (p := ⟨Bs, 0, none⟩) hBs).trans hc
 rcases hI.below hW with ⟨rfl, a, cap, rfl⟩ | ⟨b, off, cap, rfl, hb, hcs⟩
 ·exact (values1_nil_in F n h7 hro l Bs a cap J W hc' h0).mono fun e W' ⟨he, hj⟩ => ⟨he, .inl ⟨_, rfl, hj⟩⟩
 ·by_cases hz : zs = []
  ·subst hz
   exact (values1_nil_in F n h7 hro l Bs _ cap J W hc' h0).mono fun e W' ⟨he, hj⟩ => ⟨he, .inl ⟨_, rfl, hj⟩⟩
  ·refine (values1_in F n h7 hro hn l Bs n₀ b off zs.length cap zs hreach (hlow _ _ _ _ rfl hz) J Jx hY W hc' (fun j hj => by rw [hcs j hj]; simp [hj]) h0).mono ?_
   rintro e W' ⟨he, ⟨ys, rfl, hj⟩ | ⟨pre, ⟨k, hk, rfl⟩, hj⟩⟩
   ·exact ⟨he, .inl ⟨_, uptoF_all zs, hj⟩⟩
   ·exact ⟨he, .inr ⟨_, by rw [uptoF_take zs hk]; exact List.take_prefix _ _, hj⟩⟩
theorem Tryz.infoInt' : (Tryz.prog.info? 3).map (fun i => (i.zero, i.size, i.bytes)) = some (some (.int .i64 0), 1, 8) := by kernel_rfl
set_option maxRecDepth 100000 in
set_option maxHeartbeats 2000000 in
theorem appendSeq_in (F : Fence) (n : Nat) (h3 : F.fn 156) (h5 : F.fn 113) (hro : F.round = none) (hn : 3 ≤ n) (Bs : Nat) (sv : Value) (xs : List Int) (hbytes : xs.length * 8 ≤ 140737488351232) (w : World)
  (hBs : Bs < w.heap.size) (hc0 : w.cell? ⟨Bs, 0, none⟩ = some sv) (hI : Sl i64 w sv xs) :
  CallsIn F n Tryz.prog 156 #[.slice none 0 0, .func (.func 113) #[] #[.pointer (some ⟨Bs, 0, none⟩)]] w fun e W' => ∃ v, e = .returned v ∧ W'.ownsRow w.heap.size 3 1 v xs.length (xs.map (Value.int .i64)) ∧ (v = .slice none 0 0 ↔ xs = []) ∧ Below w.heap.size w W' := by
 have h1 : 1 ≤ n := by omega
 obtain ⟨i0, hi, hz0, hz1, hz2⟩ := info_parts Tryz.infoInt'
 refine callsIn_of_wp_marks Tryz.func156 rfl h3 ?_ hro
 simp only [Tryz.ntmps156, List.size_toArray, List.length_cons, List.length_nil, Nat.reduceAdd, Nat.reduceSub, Array.replicate_succ, Array.replicate_zero, List.push_toArray, List.append_toArray, List.nil_append, List.cons_append]
 gi_wp2
 have bO := Boxed.new w 22 (.slice none 0 0)
 have hB0 : Below w.heap.size w (w.alloc (.cells #[.slice none 0 0] 22)) := (Below.refl _ w).alloc (Nat.le_refl _) _
 have hmax : xs.length ≤ maxLen := by unfold maxLen; omega
 refine wpIn_rangeFunc_ownG hro h1 (gf := 113) (lb := #[.pointer (some ⟨Bs, 0, none⟩)]) rfl h5 (enters_of Tryz.func113 (by kernel_rfl) rfl)
  (values_stops F (n - 1) h5 hro (by omega) Bs w.heap.size sv xs hbytes _ (by simp; omega) (by simp) ((hB0.cell (p := ⟨Bs, 0, none⟩) hBs).trans hc0) (hI.below hB0) (fun b off len cap e hne => by
   rcases hI with ⟨hx, _⟩ | ⟨b', off', cap', e', hb', _⟩
   ·exact absurd hx hne
   ·rw [e'] at e; cases e; exact hb')) belowK_t (belowK_b (by simp)) (Below.refl _ _) (fun _ => rfl)
  (fun pre W => (∃ v, Boxed W w.heap.size 22 v ∧ W.ownsRow w.heap.size 3 1 v pre.length (pre.map (Value.int .i64)) ∧ (v = .slice none 0 0 ↔ pre = [])) ∧ Below w.heap.size w W)
  (fun _ _ _ => False)
  (OwnFrom.and (Own.from (holdsRow_own w.heap.size w.heap.size 22 3 1 (fun pre => pre.length) (fun pre => pre.map (Value.int .i64)) (fun pre v => v = .slice none 0 0 ↔ pre = [])) _) (ownFrom_below (Nat.le_refl _) (by simp)))
  (fun _ _ _ _ _ hs _ _ => hs)
  ⟨⟨_, bO, World.ownsRow_nil _ _ _ _, by simp⟩, hB0⟩
  (fun x => { tmps := #[.slice none 0 0, .func (.func 113) #[] #[.pointer (some ⟨Bs, 0, none⟩)], .pointer (some ⟨w.heap.size, 0, none⟩), undef, .slice none 0 0, .int .i64 x, .func (.func 113) #[] #[.pointer (some ⟨Bs, 0, none⟩)], .int .i64 x, undef, undef, undef, undef, undef], defers := [] }) ?assign ?body ?done ?stop
 case assign =>
  intro l x W K hK
  gi_wp2
  exact hK
 case body =>
  rintro l pre x W ⟨⟨v, hv, hrow, hnil⟩, hB⟩ hlt
  have hc := hv.cell
  gi_wp2_with (gi_at_builtin; refine wpListIn_append_own _ rfl _ _ 22 rfl w.heap.size 3 i0 (.int .i64 0) 1 8 Tryz.underlying22 hi hz0 hz1 hz2 rfl (by decide) _ _ _ rfl (hrow.alloc _) ⟨W.heap.size, 0, none⟩ 1 1 [.int .i64 x] rfl rfl (cell_one_new _ _ _) (by simp [Value.oneCell']) (by omega) (by omega) (by have := hB.size; simp; omega) ?_; intro v' w1 hown' hgrow _; obtain ⟨g', cap', rfl⟩ := ownsRow_succ hown'; obtain ⟨hv1, hv2, hr2, hk2, hb2⟩ := hv.appended (by decide) hrow hB.size (Nat.le_refl _) hown' hgrow; have hc1 := hv1.cell; have hf1 := hv1.frozen)
  exact ⟨hk2.from _, hb2, ⟨_, hv2, by simpa using hr2, by simp⟩, hB.trans hb2⟩
 case done =>
  rintro D ys W hD rfl ⟨⟨v, hv, hrow, hnil⟩, hB⟩ hK
  have hc := hv.cell
  gi_wp2
  refine ⟨by simp, .inl ⟨_, _, rfl, run_takeDeferred hK, ?_⟩⟩
  exact ⟨_, results_tmp rfl _ _ _, v, rfl, ownsRow_putObj hrow _ hK rfl, hnil, hB.trans (belowK_b (w := w) (Nat.le_refl _) W D _ _ (by simp at hD; omega) hK rfl rfl)⟩
 case stop =>
  rintro D c pre W _ _ h _
  exact h.elim
end Go.Proofs.YtejljnlfgiifoaaGreatDoor
namespace Go.Proofs.YtejljnlfgiifoaaGreatDoor
open Go.RowKit Go.Shelf
attribute [local go_sem] Oper.semAt_some
end Go.Proofs.YtejljnlfgiifoaaGreatDoor
namespace Go.Proofs.YtejljnlfgiifoaaGreatDoor
open Go.RowKit _root_.Go.Proofs.Tryz
def nxt (s : Int) : Int := IntKind.u64.wrap (s + 11400714819323198485)
def mixA (z : Int) : Int := IntKind.u64.wrap (bits .xor .u64 z (z / 1073741824) * 13787848793156543929)
def mixB (z : Int) : Int := IntKind.u64.wrap (bits .xor .u64 z (z / 134217728) * 10723151780598845931)
def mixC (z : Int) : Int := bits .xor .u64 z (z / 2147483648)
def mix (z : Int) : Int := mixC (mixB (mixA z))
def last (n : Int) : Int := 18446744073709551615 - 18446744073709551616 % n
def two64 : Int := 18446744073709551616
def dist (s : Int) : Int := (-s * 17428512612931826493) % 18446744073709551616
def left (s : Int) : Nat := (dist (nxt s)).toNat
def belowGo (n : Int) : Nat → Int → Int × Int
 | 0, s => (0, s)
 | k + 1, s => if mix (nxt s) ≤ last n then (mix (nxt s) % n, nxt s) else belowGo n k (nxt s)
def below (n s : Int) : Int × Int := belowGo n (left s + 1) s
theorem wrap_u64 (n : Int) : IntKind.u64.wrap n = n % 18446744073709551616 := by simp [IntKind.wrap, IntKind.bits, IntKind.signed]
theorem nxt_range (s : Int) : 0 ≤ nxt s ∧ nxt s < two64 := by unfold nxt two64; rw [wrap_u64]; omega
theorem mix_zero : mix 0 = 0 := by decide +kernel
theorem last_nonneg (n : Int) (h : 1 ≤ n) (h2 : n ≤ 9223372036854775807) : 0 ≤ last n := by
 unfold last
 have := Int.emod_lt_of_pos 18446744073709551616 (show 0 < n by omega)
 omega
theorem wrap_u64_range (x : Int) : 0 ≤ IntKind.u64.wrap x ∧ IntKind.u64.wrap x < two64 := by rw [wrap_u64]; unfold two64; omega
theorem bits_range (op : BinOp) (x y : Int) : 0 ≤ bits op .u64 x y ∧ bits op .u64 x y < two64 := by
 unfold bits; split <;> exact wrap_u64_range _
theorem mix_range (z : Int) : 0 ≤ mix z ∧ mix z < two64 := by unfold mix mixC; exact bits_range _ _ _
theorem dist_gen (M g i q s : Int) (e : g*i = 1 + M*q) : (-((s+g) % M) * i) % M = ((-s*i) % M - 1) % M := by
 have h1 : (s+g) % M = s + g - M * ((s+g)/M) := Int.emod_def _ _
 rw [h1]
 generalize (s+g)/M = r
 have : -(s + g - M*r) * i = (-s*i - 1) + M*(r*i - q) := by grind
 rw [this, Int.add_mul_emod_self_left, Int.emod_sub_emod]
theorem dist_nxt (s : Int) : dist (nxt s) = (dist s - 1) % 18446744073709551616 := by
 unfold dist nxt
 rw [wrap_u64]
 exact dist_gen 18446744073709551616 11400714819323198485 17428512612931826493 10771413168148108919 s (by decide +kernel)
theorem zero_gen (M g i q s : Int) (e : g*i = 1 + M*q) (h0 : 0 ≤ s) (h1 : s < M) (h : (-s*i) % M = 0) : s = 0 := by
 obtain ⟨k, hk⟩ := Int.dvd_of_emod_eq_zero h
 have h2 : s = M * (-(k * g) - s * q) := by
  have h3 : s * (g * i) = -(M * k) * g := by rw [← hk]; grind
  rw [e] at h3; grind
 generalize -(k * g) - s * q = t at h2
 by_cases ht : t = 0
 ·rw [h2, ht, Int.mul_zero]
 ·exfalso
  by_cases hp : 1 ≤ t
  ·have : M * 1 ≤ M * t := Int.mul_le_mul_of_nonneg_left hp (by omega)
   omega
  ·have : M * t ≤ M * (-1) := Int.mul_le_mul_of_nonneg_left (by omega) (by omega)
   omega
theorem dist_zero (s : Int) (h0 : 0 ≤ s) (h1 : s < two64) (h : dist s = 0) : s = 0 := by
 unfold dist at h
 exact zero_gen 18446744073709551616 11400714819323198485 17428512612931826493 10771413168148108919 s (by decide +kernel) h0 h1 h
theorem dist_range (s : Int) : 0 ≤ dist s ∧ dist s < 18446744073709551616 := by unfold dist; omega
theorem left_lt (s : Int) (h : nxt s ≠ 0) : left (nxt s) < left s := by
 unfold left
 have r := nxt_range s
 have d := dist_nxt (nxt s)
 have z := dist_range (nxt s)
 have : dist (nxt s) ≠ 0 := fun e => h (dist_zero _ r.1 r.2 e)
 omega
theorem belowGo_enough (n : Int) (h : 1 ≤ n) (h2 : n ≤ 9223372036854775807) : ∀ (k k' : Nat) (s : Int), left s < k → left s < k' → belowGo n k s = belowGo n k' s := by
 intro k
 induction k with
 | zero => intro k' s hs; omega
 | succ k ih =>
  intro k' s hs hs'
  cases k' with
  | zero => omega
  | succ k' =>
   simp only [belowGo]
   by_cases hc : mix (nxt s) ≤ last n
   ·rw [if_pos hc, if_pos hc]
   ·rw [if_neg hc, if_neg hc]
    have hz : nxt s ≠ 0 := fun e => hc (by rw [e, mix_zero]; exact last_nonneg n h h2)
    have hl := left_lt s hz
    exact ih _ _ (by omega) (by omega)
theorem left_of_not (n s : Int) (h : 1 ≤ n) (h2 : n ≤ 9223372036854775807) (hc : ¬ mix (nxt s) ≤ last n) : left (nxt s) < left s :=
 left_lt s fun e => hc (by rw [e, mix_zero]; exact last_nonneg n h h2)
theorem below_step (n s : Int) (h : 1 ≤ n) (h2 : n ≤ 9223372036854775807) (hc : ¬ mix (nxt s) ≤ last n) : below n s = below n (nxt s) := by
 have hl := left_of_not n s h h2 hc
 unfold below
 rw [show belowGo n (left s + 1) s = belowGo n (left s) (nxt s) by simp only [belowGo]; rw [if_neg hc]]
 exact belowGo_enough n h h2 _ _ _ hl (by omega)
theorem below_take (n s : Int) (h : mix (nxt s) ≤ last n) : below n s = (mix (nxt s) % n, nxt s) := by
 unfold below; simp only [belowGo]; rw [if_pos h]
theorem below_range (n s : Int) (h : 1 ≤ n) (h2 : n ≤ 9223372036854775807) : 0 ≤ (below n s).1 ∧ (below n s).1 < n ∧ 0 ≤ (below n s).2 ∧ (below n s).2 < two64 := by
 suffices H : ∀ k s, left s < k → 0 ≤ (below n s).1 ∧ (below n s).1 < n ∧ 0 ≤ (below n s).2 ∧ (below n s).2 < two64 from H _ s (Nat.lt_succ_self _)
 intro k
 induction k with
 | zero => intro s hs; omega
 | succ k ih =>
  intro s hs
  by_cases hc : mix (nxt s) ≤ last n
  ·rw [below_take n s hc]
   have := nxt_range s
   exact ⟨Int.emod_nonneg _ (by omega), Int.emod_lt_of_pos _ (by omega), this.1, this.2⟩
  ·rw [below_step n s h h2 hc]
   exact ih _ (by have := left_of_not n s h h2 hc; omega)
def swapL (l : List Int) (i j : Nat) : List Int := (l.set i (l.getD j 0)).set j (l.getD i 0)
theorem swapL_length (l : List Int) (i j : Nat) : (swapL l i j).length = l.length := by simp [swapL]
def upTo (n : Nat) : List Int := (List.range n).map Int.ofNat
theorem upTo_length (n : Nat) : (upTo n).length = n := by simp [upTo]
theorem upTo_succ (n : Nat) : upTo (n + 1) = upTo n ++ [(n : Int)] := by simp [upTo, List.range_succ]
def orderGo : Nat → List Int → Int → List Int × Int
 | 0, l, s => (l, s)
 | i + 1, l, s => orderGo i (swapL l (i + 1) (below (i + 2) s).1.toNat) (below (i + 2) s).2
def orderL (n : Nat) (s : Int) : List Int × Int := orderGo (n - 1) (upTo n) s
theorem swapL_perm (l : List Int) (i j : Nat) (hi : i < l.length) (hj : j < l.length) : (swapL l i j).Perm l := by
 unfold swapL
 rw [List.getD_eq_getElem?_getD, List.getD_eq_getElem?_getD]
 simp only [hi, hj, List.getElem?_eq_getElem, Option.getD_some]
 have := Array.swap_perm (xs := l.toArray) (i := i) (j := j) (by simpa) (by simpa)
 rw [Array.perm_iff_toList_perm] at this
 simpa [Array.swap] using this
theorem orderGo_length (i : Nat) (l : List Int) (s : Int) : (orderGo i l s).1.length = l.length := by
 induction i generalizing l s with
 | zero => rfl
 | succ i ih => simp [orderGo, ih, swapL_length]
theorem orderGo_perm (i : Nat) (l : List Int) (s : Int) (h : i < l.length) (hl : l.length ≤ 1000000) : (orderGo i l s).1.Perm l := by
 induction i generalizing l s with
 | zero => exact List.Perm.refl _
 | succ i ih =>
  simp only [orderGo]
  have r := below_range (i + 2) s (by omega) (by omega)
  exact (ih _ _ (by rw [swapL_length]; omega) (by rw [swapL_length]; omega)).trans (swapL_perm _ _ _ h (by omega))
end Go.Proofs.YtejljnlfgiifoaaGreatDoor
namespace Go.Proofs.YtejljnlfgiifoaaGreatDoor
end Go.Proofs.YtejljnlfgiifoaaGreatDoor
namespace Go.Proofs.YtejljnlfgiifoaaGreatDoor
def sortI (l : List Int) : List Int := l.mergeSort fun x y => decide (x ≤ y)
theorem sortI_length (l : List Int) : (sortI l).length = l.length := by simp [sortI]
theorem sortI_perm (l : List Int) : (sortI l).Perm l := List.mergeSort_perm _ _
theorem sortI_sorted (l : List Int) : (sortI l).Pairwise (· ≤ ·) := by
 have := List.pairwise_mergeSort (le := fun x y : Int => decide (x ≤ y)) (by intro a b c; simp; omega) (by intro a b; simp; omega) l
 unfold sortI
 exact this.imp (by intro a b h; simpa using h)
theorem orderL_perm (n : Nat) (s : Int) (hn : n ≤ 65536) : (orderL n s).1.Perm (upTo n) := by
 unfold orderL
 cases n with
 | zero => exact List.Perm.refl _
 | succ n => exact orderGo_perm _ _ _ (by rw [upTo_length]; omega) (by rw [upTo_length]; omega)
end Go.Proofs.YtejljnlfgiifoaaGreatDoor
namespace Go.Proofs.YtejljnlfgiifoaaGreatDoor
open Go.RowKit Go.Shelf
set_option maxHeartbeats 400000 in
theorem collect_any (Bs : Nat) (sv : Value) (xs : List Int) (hbytes : xs.length * 8 ≤ 140737488351232) (w : World)
  (hBs : Bs < w.heap.size) (hc0 : w.cell? ⟨Bs, 0, none⟩ = some sv) (hI : Sl i64 w sv xs) :
  Calls Tryz.prog 111 #[.func (.func 113) #[] #[.pointer (some ⟨Bs, 0, none⟩)]] w fun e W' => ∃ v, e = .returned v ∧ W'.ownsRow w.heap.size 3 1 v xs.length (xs.map (Value.int .i64)) ∧ (v = .slice none 0 0 ↔ xs = []) ∧ Below w.heap.size w W' := by
 go_enter Tryz.func111, Tryz.ntmps111
 go_wp2_with fail
 refine ((callsIn_wide (n := 3)).1 (appendSeq_in Fence.wide 3 trivial trivial rfl (by omega) Bs sv xs hbytes w hBs hc0 hI)).mono ?_
 rintro e w1 ⟨v, rfl, hown, hnil, hb⟩
 go_wp2
 go_ret
 exact ⟨v, rfl, hown, hnil, hb⟩
set_option maxHeartbeats 400000 in
theorem sorted_any (Bs : Nat) (sv : Value) (xs : List Int) (hbytes : xs.length * 8 ≤ 140737488351232) (w : World)
  (hBs : Bs < w.heap.size) (hc0 : w.cell? ⟨Bs, 0, none⟩ = some sv) (hI : Sl i64 w sv xs) :
  Calls Tryz.prog 64 #[.func (.func 113) #[] #[.pointer (some ⟨Bs, 0, none⟩)]] w fun e W' => ∃ v, e = .returned v ∧ W'.ownsRow w.heap.size 3 1 v xs.length ((sortI xs).map (Value.int .i64)) ∧ Below w.heap.size w W' := by
 go_enter Tryz.func64, Tryz.ntmps64
 go_wp2_with fail
 refine (collect_any Bs sv xs hbytes w hBs hc0 hI).mono ?_
 rintro e w1 ⟨v, rfl, hown, hnil, hb⟩
 have HN := hid hnil
 clear hnil
 rcases hown.2 with ⟨rfl, h0⟩ | ⟨g, cap, cur, rfl, hbase, hh, h1, h2, h3, h4⟩
 ·have hx : xs = [] := HN.out.1 rfl
  subst hx
  go_wp2_with fail
  refine (Tryz.slices_Sort_int_none _ _ _).mono ?_
  rintro e w2 ⟨rfl, rfl⟩
  go_wp2
  go_ret
  exact ⟨.slice none 0 0, rfl, by simpa [sortI] using hown, hb⟩
 ·have hH := hid (holds_of_blockI hh (by simpa using h4))
  have H3 := hid h3
  have H4 := hid h4
  have HH := hid hh
  clear h3 h4 hh
  go_wp2_with fail
  refine (Tryz.slices_Sort_int g 0 cap xs w1 hH.out (lt_of_block HH.out) (by omega)).mono ?_
  rintro e w2 ⟨rfl, nn, os, rfl⟩
  have ho := ownsRow_sortedI (n := nn) (os := os) (ss := xs) (ts := sortI xs) (sortI_length xs) hbase HH.out h1 h2 H3.out
  have hg := grownBy_sortedI (w := w1) (g := g) (n := nn) (os := os) (sortI xs).toArray
  have hbb := hb.grown hg hb.size (fun k e => by cases e; exact hbase)
  have HO := hid ho
  clear ho
  go_wp2
  go_ret
  exact ⟨_, rfl, HO.out, hbb⟩
end Go.Proofs.YtejljnlfgiifoaaGreatDoor
namespace Go.Proofs.YtejljnlfgiifoaaGreatDoor
def Cols (cols cs : List Int) : Prop := cs.Pairwise (· < ·) ∧ ∀ c, c ∈ cs ↔ c ∈ cols
theorem compact_asc (zs : List Int) (h : zs.Pairwise (· ≤ ·)) : ∀ m, m ≤ zs.length → (Lib.compactUpTo zs.toArray m).Pairwise (· < ·) ∧ ∀ c, c ∈ Lib.compactUpTo zs.toArray m ↔ c ∈ zs.take m
 | 0, _ => ⟨List.Pairwise.nil, fun c => by simp [Lib.compactUpTo]⟩
 | m + 1, hm => by
  obtain ⟨h1, h2⟩ := compact_asc zs h m (by omega)
  have hlt : m < zs.length := by omega
  have hg : zs.toArray[m]! = zs[m] := by simp [hlt]
  have ht : zs.take (m + 1) = zs.take m ++ [zs[m]] := List.take_succ_eq_append_getElem hlt
  have hpw := h
  rw [← List.take_append_drop (m + 1) zs, ht] at hpw
  have hle : ∀ x, x ∈ zs.take m → x ≤ zs[m] := fun x hx => (List.pairwise_append.1 (List.pairwise_append.1 hpw).1).2.2 x hx _ (List.mem_singleton.2 rfl)
  rw [Lib.compactUpTo_succ]
  by_cases hk : Lib.keeps zs.toArray m = true
  ·rw [if_pos hk, hg, ht]
   refine ⟨List.pairwise_append.2 ⟨h1, List.pairwise_singleton _ _, fun x hx y hy => ?_⟩, fun c => ?_⟩
   ·rw [List.mem_singleton.1 hy]
    have hx' := (h2 x).1 hx
    have hle' := hle x hx'
    unfold Lib.keeps at hk
    rw [decide_eq_true_eq] at hk
    rcases hk with rfl | hne
    ·rw [List.take_zero] at hx'; cases hx'
    ·have hm0 : 0 < m := by
      rcases Nat.eq_zero_or_pos m with rfl | h0
      ·rw [List.take_zero] at hx'; cases hx'
      ·exact h0
     have hp : zs.toArray[m - 1]! = zs[m - 1] := by simp [show m - 1 < zs.length by omega]
     rw [hg, hp] at hne
     have htm : zs.take m = zs.take (m - 1) ++ [zs[m - 1]] := by
      have := List.take_succ_eq_append_getElem (show m - 1 < zs.length by omega)
      rwa [Nat.sub_add_cancel hm0] at this
     have hpw2 := (List.pairwise_append.1 (List.pairwise_append.1 hpw).1).1
     rw [htm] at hpw2 hx'
     have hxp : x ≤ zs[m - 1] := by
      rcases List.mem_append.1 hx' with hx' | hx'
      ·exact (List.pairwise_append.1 hpw2).2.2 x hx' _ (List.mem_singleton.2 rfl)
      ·rw [List.mem_singleton.1 hx']; exact Int.le_refl _
     have hpm : zs[m - 1] ≤ zs[m] := hle _ (by rw [htm]; exact List.mem_append_right _ (List.mem_singleton.2 rfl))
     omega
   ·rw [List.mem_append, List.mem_append, h2 c]
  ·rw [if_neg hk, List.append_nil, ht]
   refine ⟨h1, fun c => ?_⟩
   unfold Lib.keeps at hk
   rw [decide_eq_true_eq, not_or] at hk
   have hm0 : 0 < m := by omega
   have hp : zs.toArray[m - 1]! = zs[m - 1] := by simp [show m - 1 < zs.length by omega]
   rw [hg, hp] at hk
   have he : zs[m] = zs[m - 1] := by have := hk.2; omega
   have htm : zs.take m = zs.take (m - 1) ++ [zs[m - 1]] := by
    have := List.take_succ_eq_append_getElem (show m - 1 < zs.length by omega)
    rwa [Nat.sub_add_cancel hm0] at this
   rw [h2 c, List.mem_append, List.mem_singleton, he]
   constructor
   ·exact .inl
   ·rintro (h | rfl)
    ·exact h
    ·rw [htm]; exact List.mem_append_right _ (List.mem_singleton.2 rfl)
theorem cols_of (cols : List Int) : Cols cols (Lib.compact (sortI cols)) := by
 have h := compact_asc (sortI cols) (sortI_sorted cols) (sortI cols).length (Nat.le_refl _)
 refine ⟨h.1, fun c => ?_⟩
 have := h.2 c
 rw [List.take_length] at this
 exact this.trans (sortI_perm cols).mem_iff
end Go.Proofs.YtejljnlfgiifoaaGreatDoor
namespace Go.Proofs.YtejljnlfgiifoaaGreatDoor
open Go.RowKit _root_.Go.Proofs.Tryz
theorem seqValues_pc {H : Hp} (a : Option Addr) (len cap : Nat) : PC prog 65 #[.slice a len cap] H fun r H' => ∃ b, r = .func (.func 113) #[] #[.pointer (some ⟨b, 0, none⟩)] ∧ H' b = some [Value.slice a len cap].toArray := by
 refine BD func65 ntmps65 ?_
 try refine RUN ?_
 (first | refine EVL.unbox (1) rfl fun b => ?_ | refine EV.unbox (1) rfl fun b => ?_)
 (first | refine EVL.publish [] [] rfl fun G1 hG1 hb => ?_ | refine EV.publish [] [] rfl fun G1 hG1 hb => ?_)
 refine EVL.fn1 rfl rfl rfl rfl rfl ?_
 try refine RUN ?_
 exact ⟨b, rfl, hb⟩
theorem ownL_of_row {W : World} {base : Nat} {e : TypeId} {size : Nat} {v : Value} {n : Nat} {xs : List Value} (h : W.ownsRow base e size v n xs) : ∃ ow, OwnL e size v n xs ow ∧ OwNew base W ow := by
 obtain ⟨h1, ⟨rfl, rfl⟩ | ⟨g, cap, cur, rfl, hb, hh, hc, hm, hs, ht⟩⟩ := h
 ·exact ⟨[], ⟨h1, .inl ⟨rfl, rfl, rfl⟩⟩, by simp, fun b T cs h => by cases h⟩
 ·have hcur : cur.toList = xs ++ cur.toList.drop (n * size) := by rw [← ht, List.take_append_drop]
  refine ⟨[(g, e, xs ++ cur.toList.drop (n * size))], ⟨h1, .inr ⟨g, cap, _, rfl, rfl, by rw [← hcur]; simpa using hs, hc, hm⟩⟩, by simp, fun b T cs h => ?_⟩
  rw [List.mem_singleton] at h
  cases h
  refine ⟨hb, ?_⟩
  rw [← hcur]
  exact hh
theorem sorted_po {H : Hp} {b : Nat} {sv : Value} {xs : List Int} (hB : H b = some [sv].toArray) (hs : IL H sv xs) (hl : xs.length ≤ 1000000) :
  PO prog 64 #[.func (.func 113) #[] #[.pointer (some ⟨b, 0, none⟩)]] H fun v ow => OwnL 3 1 v xs.length ((sortI xs).map iv) ow := by
 refine ⟨(cO func64), fun W hf hg => ?_⟩
 obtain ⟨T, fz, hW⟩ := hf b _ hB
 obtain ⟨a, cap, rfl, hsl, _⟩ := hs.sl hf
 have hlt : b < W.heap.size := (Array.getElem?_eq_some_iff.1 hW).1
 refine (sorted_any b _ xs (by omega) W hlt (by rw [cell_of_row W b 0 _ T fz hW]; rfl) hsl).mono ?_
 rintro e W' ⟨v, rfl, hown, hb⟩
 obtain ⟨ow, h1, h2⟩ := ownL_of_row hown
 exact ⟨v, ow, rfl, h1, h2, hb⟩
theorem compact_len (zs : List Int) : (Lib.compact zs).length ≤ zs.length := by
 unfold Lib.compact Lib.compactUpTo
 rw [List.length_map]
 exact Nat.le_trans (List.length_filter_le _ _) (by simp)
theorem compact_pw {H : Hp} {v : Value} {zs : List Int} {ow : Ows} (h : OwnL 3 1 v zs.length (zs.map iv) ow) (hl : zs.length ≤ 1000000) :
  PW prog 63 #[v] H ow fun r ow' _ => OwnL 3 1 r (Lib.compact zs).length ((Lib.compact zs).map iv) ow' := by
 refine ⟨(cO func63), fun W hf hg hL hd => ?_⟩
 by_cases h0 : zs.length = 0
 ·obtain rfl := List.length_eq_zero_iff.1 h0
  obtain ⟨a, cap, rfl⟩ := h.val
  refine (Tryz.slices_Compact_int_empty a cap W).mono ?_
  rintro e W' ⟨rfl, rfl⟩
  exact ⟨_, ow, H, rfl, h, Hp.Le.refl _, hf, Nw.refl _ _ _, Kept.refl _ _, fun j b T cs hj => ⟨(hL j b T cs hj).1, .inr (Ows.bs_mem hj), (hL j b T cs hj).2.1⟩, hd⟩
 ·obtain ⟨g, cap, sp, rfl, rfl, hlen, hle, hmax⟩ := h.block (by omega)
  obtain ⟨hB, hHg, hgg⟩ := hL 0 g _ _ rfl
  refine (Tryz.slices_Compact_int_cells g 0 zs.length cap zs W (Nat.le_refl _) (by omega) hle (fun j hj => ?_) (fun j hj => hB.free _)).mono ?_
  ·rw [hB.at (0 + j)]
   rw [Nat.zero_add]
   simp [hj, List.getElem?_append]
  rintro e W' ⟨rfl, q, rfl⟩
  rw [List.take_length]
  have hcl := compact_len zs
  generalize Lib.compact zs = cs at *
  have hB2 : Box (W.drewN q) g (zs.map iv ++ sp).toArray 3 := hB
  have hvl : ((cs ++ List.replicate (zs.length - cs.length) 0).map (Value.int .i64)).length = zs.length := by simp; omega
  have hB3 := Box.setCells ((cs ++ List.replicate (zs.length - cs.length) 0).map (Value.int .i64)) 0 (W.drewN q) _ hB2 (by rw [hvl]; simp)
  have hk := kept_setCells g ((cs ++ List.replicate (zs.length - cs.length) 0).map (Value.int .i64)) 0 (W.drewN q)
  have hk2 : Kept (fun k => k = g) W ((W.drewN q).setCells g 0 ((cs ++ List.replicate (zs.length - cs.length) 0).map (Value.int .i64))) := ⟨hk.os, hk.tape, hk.output, hk.size, hk.block⟩
  have hcells : (zs.map iv ++ sp).take 0 ++ (cs ++ List.replicate (zs.length - cs.length) 0).map (Value.int .i64) ++ (zs.map iv ++ sp).drop (0 + ((cs ++ List.replicate (zs.length - cs.length) 0).map (Value.int .i64)).length) = cs.map iv ++ ((List.replicate (zs.length - cs.length) 0).map iv ++ sp) := by
   rw [hvl, List.take_zero, List.nil_append, Nat.zero_add, List.drop_left' (by simp), List.map_append]
   simp
  rw [hcells] at hB3
  refine ⟨_, [(g, 3, cs.map iv ++ ((List.replicate (zs.length - cs.length) 0).map iv ++ sp))], H, rfl, ⟨by simp, .inr ⟨g, cap, _, rfl, rfl, ?_, by omega, hmax⟩⟩, Hp.Le.refl _, fun b c hb => ?_, Nw.refl _ _ _, hk2.mono (fun k _ e => by subst e; exact Ows.bs_mem (j := 0) rfl), fun j b T cs' hj => ?_, ?_⟩
  ·rw [← hlen]; simp; omega
  ·obtain ⟨T, fz, hW⟩ := hf b c hb
   refine ⟨T, fz, ?_⟩
   rw [hk2.block b (hf.lt (by rw [hb]; simp)) (fun e => by subst e; rw [hHg] at hb; cases hb)]; exact hW
  ·cases j with
   | zero => cases (show some (g, 3, cs.map iv ++ ((List.replicate (zs.length - cs.length) 0).map iv ++ sp)) = some (b, T, cs') from hj); exact ⟨hB3, .inr (Ows.bs_mem (j := 0) rfl), hHg⟩
   | succ j => simp at hj
  ·intro j j' b' T1 T2 c1 c2 h1 h2
   cases j with
   | zero => cases j' with
    | zero => rfl
    | succ j' => simp at h2
   | succ j => simp at h1
def bestS (st : Option (Int × Rat × Rat)) (p : Int × Option (Rat × Rat)) : Option (Int × Rat × Rat) := match p.2 with
 | none => st
 | some (a, w) => match st with
  | none => some (p.1, a, w)
  | some (c0, a0, w0) => if w0 < w then some (p.1, a, w) else some (c0, a0, w0)
def bestF (ps : List (Int × Option (Rat × Rat))) : Option (Int × Rat × Rat) := ps.foldl bestS none
theorem bestF_snoc (ps : List (Int × Option (Rat × Rat))) (p : Int × Option (Rat × Rat)) : bestF (ps ++ [p]) = bestS (bestF ps) p := by unfold bestF; rw [List.foldl_append]; rfl
theorem bestF_ht {ps : List (Int × Option (Rat × Rat))} {B : Nat} (h : ∀ p, p ∈ ps → ht (stW p.2) ≤ B) : ∀ c a w, bestF ps = some (c, a, w) → ht w ≤ B := by
 have key : ∀ (qs : List (Int × Option (Rat × Rat))) (st : Option (Int × Rat × Rat)), (∀ p, p ∈ qs → ht (stW p.2) ≤ B) → (∀ c a w, st = some (c, a, w) → ht w ≤ B) → ∀ c a w, qs.foldl bestS st = some (c, a, w) → ht w ≤ B := by
  intro qs
  induction qs with
  | nil => intro st _ h2 c a w h3; exact h2 c a w h3
  | cons p qs ih =>
   intro st h1 h2 c a w h3
   refine ih (bestS st p) (fun q hq => h1 q (List.mem_cons_of_mem _ hq)) ?_ c a w h3
   intro c a w h4
   have hp := h1 p (List.mem_cons_self ..)
   unfold bestS at h4
   cases ho : p.2 with
   | none => rw [ho] at h4; exact h2 c a w h4
   | some q =>
    obtain ⟨a1, w1⟩ := q
    rw [ho] at h4 hp
    cases st with
    | none => cases h4; exact hp
    | some t =>
     obtain ⟨c0, a0, w0⟩ := t
     dsimp only at h4
     split at h4
     ·cases h4; exact hp
     ·cases h4; exact h2 _ _ _ rfl
 exact key ps none h (fun c a w h => by cases h)
def cutC : Option (Int × Rat × Rat) → List Value
 | none => .int .i64 0 :: (vlist (fracV 0) ++ vlist (fracV 0))
 | some (c, a, w) => .int .i64 c :: (vlist (fracV a) ++ vlist (fracV w))
theorem cut_zero : Tryz.te51.zero = cutC none := by
 unfold cutC; rw [frac_zero_cells]; rfl
abbrev cutV (c : Int) (a w : Rat) : Value := .agg (cutC (some (c, a, w))).toArray
def BestR (X : List (List Rat)) (wo : List Int → Rat) (rs cols : List Int) (least : Int) (r : Value) : Prop :=
 ∃ ps : List (Int × Option (Rat × Rat)), Cols cols (ps.map (·.1)) ∧ (∀ p, p ∈ ps → ColR X wo rs (max least 1) p.1 p.2) ∧
  ((bestF ps = none ∧ r = .tuple #[.agg (cutC none).toArray, .bool false]) ∨ ∃ c a w, bestF ps = some (c, a, w) ∧ r = .tuple #[cutV c a (w - wo rs), .bool true])
set_option maxHeartbeats 16000000 in
theorem best_pc {H : Hp} {kd cl : Int} {sl sv vx vr vc : Value} {X : List (List Rat)} {S : List Int → List Value} {wo : List Int → Rat} {rs cols : List Int} {least : Int} (hg : GOk H kd cl sl sv X.length S wo) (hX : QLL H vx X) (hr : IL H vr rs) (hn : rs.length ≤ 20) (hc : IL H vc cols) (hcn : cols.length ≤ 1000000) (hb : ∀ x, x ∈ X → ∀ q, q ∈ x → ht q ≤ 100) :
  PC prog 19 #[goalV kd cl sl sv, vx, vr, vc, .int .i64 least] H fun r _ => BestR X wo (exL rs X.length) cols least r := by
 have hlen := hg.leng
 have hex := fun (G : Hp) (hG : H.Le G) => existing_pc (hr.mono hG) (by omega) X.length
 have hel := exL_len rs X.length
 have heb := exL_mem (rs := rs) (n := X.length)
 generalize exL rs X.length = es at *
 obtain ⟨xa, xc, rfl⟩ := hX.val
 obtain ⟨ra, rc, rfl⟩ := SlC.val hr
 obtain ⟨ca, cc, rfl⟩ := SlC.val hc
 refine BD func19 ntmps19 ?_
 try refine RUN ?_
 refine EVL.call rfl rfl rfl rfl rfl (hg.check _ (Hp.Le.refl _)) ?_
 rintro r0 G1 rfl hG1
 repeat (first | refine RUN ?_ | refine CV (hlen) ?_ | refine CE (hlen) ?_)
 rw [show ((X.length : Int) != (X.length : Int)) = false from bne_self_eq_false _]
 try refine RUN ?_
 refine EVL.call rfl rfl rfl rfl rfl (hex _ hG1) ?_
 intro r1 G2 he hG2
 obtain ⟨ea, ec, rfl⟩ := SlC.val he
 try refine RUN ?_
 refine EVL.call rfl rfl rfl rfl rfl (seqValues_pc ca cols.length cc) ?_
 rintro r2 G3 ⟨b, rfl, hb3⟩ hG3
 have hc3 := hc.mono (hG1.trans (hG2.trans hG3))
 refine EVL.callO rfl rfl rfl rfl rfl (sorted_po hb3 hc3 hcn) ?_
 rintro r4 ow4 how4
 have hcl := sortI_length cols
 rw [← hcl] at how4
 refine EVL.callW rfl rfl rfl rfl rfl (ow4) ([]) rfl (compact_pw how4 (by omega)) ?_
 rintro r5 ow5 G5 how5 hG5
 have hcols := cols_of cols
 have hcl2 := compact_len (sortI cols)
 generalize Lib.compact (sortI cols) = cs at *
 obtain ⟨ka, kc, rfl⟩ := how5.val
 (first | refine EVL.publishL [] ow5 [] (rfl) how5 fun G6 hG6 hk6 => ?_ | refine EV.publishL [] ow5 [] (rfl) how5 fun G6 hG6 hk6 => ?_)
 have hk6' : IL G6 (.slice ka cs.length kc) cs := hk6
 clear hb3 hc3 how4 how5 hk6
 have hall := hG1.trans (hG2.trans (hG3.trans (hG5.trans hG6)))
 have hg6 := hg.mono hall
 have hX6 := hX.mono hall
 have he6 := he.mono (hG3.trans (hG5.trans hG6))
 try refine RUN ?_
 refine EV.loopK (ι := List (Int × Option (Rat × Rat))) [1, 2, 4, 5, 10, 12, 38, 39] [5, 10] (fun ps => [(13, .v (.bool (bestF ps).isSome)), (40, .v (.int .i64 (ps.length : Int)))]) (fun ps => [(12, 51, cutC (bestF ps))]) (fun _ => []) (fun ps _ => ps.map (·.1) = cs.take ps.length ∧ ps.length ≤ cs.length ∧ ∀ p, p ∈ ps → ColR X wo es (max least 1) p.1 p.2) (fun ps => cs.length - ps.length) ([]) rfl rfl ⟨rfl, rfl, trivial⟩ ⟨by rw [show bestF [] = none from rfl, ← cut_zero]; rfl, trivial⟩ rfl (fun _ => rfl) (⟨rfl, Nat.zero_le _, by simp⟩) ?_
 rintro ps G7 hG7 ⟨hps, hpl, hpr⟩
 try refine RUN ?_
 refine EV.cond rfl (fun hlt => ?_) (fun hlt => ?_)
 ·simp only [nN] at hlt
  obtain ⟨c, hci⟩ : ∃ c, cs[ps.length]? = some c := ⟨_, List.getElem?_eq_getElem hlt⟩
  have hcol := column_pc (col := c) (least := max least 1) (hg6.mono hG7) (hX6.mono hG7) (he6.mono hG7) (by omega) heb hb
  try refine RUN ?_
  refine EVL.idxR tO rfl rfl rfl rfl rfl rfl rfl rfl rfl rfl ((hk6'.mono hG7)) (ps.length) (rfl) (hlt) ((by rw [List.getElem?_map, hci]; rfl)) ?_
  try refine RUN ?_
  refine EVL.asI (max least 1) ((by split <;> omega)) ?_
  refine EVL.call rfl rfl rfl rfl rfl (hcol) ?_
  rintro r6 G8 ⟨o, hR, rfl⟩ hG8
  have hln : ∀ o, (ps ++ [(c, o)]).length = ps.length + 1 := fun o => by simp
  have wn : IntKind.i64.wrap ((ps.length : Int) + 1) = ((ps.length + 1 : Nat) : Int) := wi_inc _ (by omega)
  have hmap : ∀ o, (ps ++ [(c, o)]).map (·.1) = cs.take (ps ++ [(c, o)]).length := fun o => by
   rw [hln, take_snoc hci, ← hps, List.map_append]; rfl
  have hmem : ∀ o, ColR X wo es (max least 1) c o → ∀ p, p ∈ ps ++ [(c, o)] → ColR X wo es (max least 1) p.1 p.2 := fun o h p hp => by
   rcases List.mem_append.1 hp with hp | hp
   ·exact hpr p hp
   ·rw [List.mem_singleton.1 hp]; exact h
  have hsn := bestF_snoc ps (c, o)
  have hwb : ht (stW o) ≤ 200001 := by obtain ⟨_, _, _, h⟩ := hR; exact h
  have hwo : ∀ c a w, bestF ps = some (c, a, w) → ht w ≤ 200001 := bestF_ht fun p hp => by obtain ⟨_, _, _, h⟩ := hpr p hp; exact h
  cases o with
  | none =>
   have hsame : bestF (ps ++ [(c, none)]) = bestF ps := hsn
   try refine RUN ?_
   refine ⟨ps ++ [(c, none)], ⟨by rw [hsame]; rfl, by rw [hln, wn]; rfl, trivial⟩, (by repeat (first | exact trivial | refine And.intro rfl ?_)), ⟨by rw [hsame]; rfl, trivial⟩, (by repeat (first | exact trivial | refine And.intro rfl ?_)), rfl, ⟨hmap _, by rw [hln]; omega, hmem _ hR⟩, by assumption, by rw [hln]; omega⟩
  | some q =>
   obtain ⟨a, w⟩ := q
   cases hst : bestF ps with
   | none =>
    have hnew : bestF (ps ++ [(c, some (a, w))]) = some (c, a, w) := by rw [hsn, hst]; rfl
    try refine RUN ?_
    refine ⟨ps ++ [(c, some (a, w))], ⟨by rw [hnew]; rfl, by rw [hln, wn]; rfl, trivial⟩, (by repeat (first | exact trivial | refine And.intro rfl ?_)), ⟨by rw [hnew]; rfl, trivial⟩, (by repeat (first | exact trivial | refine And.intro rfl ?_)), rfl, ⟨hmap _, by rw [hln]; omega, hmem _ hR⟩, by assumption, by rw [hln]; omega⟩
   | some t =>
    obtain ⟨c0, a0, w0⟩ := t
    have hcmp := cmp_pv w w0 (sm_of (show ht w ≤ 200001 from hwb) (by omega)) (sm_of (hwo _ _ _ hst) (by omega))
    repeat (first | refine RUN ?_ | refine CV (hcmp) ?_ | refine CE (hcmp) ?_)
    by_cases hlt2 : w0 < w
    ·have hnew : bestF (ps ++ [(c, some (a, w))]) = some (c, a, w) := by rw [hsn, hst]; exact if_pos hlt2
     rw [decide_eq_true (ordQ_pos.2 hlt2)]
     try refine RUN ?_
     refine ⟨ps ++ [(c, some (a, w))], ⟨by rw [hnew]; rfl, by rw [hln, wn]; rfl, trivial⟩, (by repeat (first | exact trivial | refine And.intro rfl ?_)), ⟨by rw [hnew]; rfl, trivial⟩, (by repeat (first | exact trivial | refine And.intro rfl ?_)), rfl, ⟨hmap _, by rw [hln]; omega, hmem _ hR⟩, by assumption, by rw [hln]; omega⟩
    ·have hnew : bestF (ps ++ [(c, some (a, w))]) = some (c0, a0, w0) := by rw [hsn, hst]; exact if_neg hlt2
     rw [decide_eq_false (fun h => hlt2 (ordQ_pos.1 h))]
     try refine RUN ?_
     refine ⟨ps ++ [(c, some (a, w))], ⟨by rw [hnew]; rfl, by rw [hln, wn]; rfl, trivial⟩, (by repeat (first | exact trivial | refine And.intro rfl ?_)), ⟨by rw [hnew]; rfl, trivial⟩, (by repeat (first | exact trivial | refine And.intro rfl ?_)), rfl, ⟨hmap _, by rw [hln]; omega, hmem _ hR⟩, by assumption, by rw [hln]; omega⟩
 ·simp only [nN] at hlt
  have hpe : ps.length = cs.length := by omega
  have hcs : ps.map (·.1) = cs := by rw [hps, hpe, List.take_length]
  rw [← hcs] at hcols
  have hwo : ∀ c a w, bestF ps = some (c, a, w) → ht w ≤ 200001 := bestF_ht fun p hp => by obtain ⟨_, _, _, h⟩ := hpr p hp; exact h
  cases hst : bestF ps with
  | none =>
   try refine RUN ?_
   exact ⟨ps, hcols, hpr, .inl ⟨hst, by rw [← cut_zero]; rfl⟩⟩
  | some t =>
   obtain ⟨c, a, w⟩ := t
   have hsub := sub_pv w (wo es) (sm_of (hwo _ _ _ hst) (by omega)) (sm_of (hg.small es (by omega) heb) (by omega))
   have hlS := hg.len es
   try refine RUN ?_
   refine EVL.call rfl rfl rfl rfl rfl (hg6.whole _ hG7 _ es (he6.mono hG7) (by omega) heb) ?_
   rintro r6 G8 rfl hG8
   obtain ⟨sn, scs, ssq, sq, hs12, hS⟩ := hg.form es
   obtain ⟨c0, c1, c2, c3, c4, c5, c6, c7, c8, c9, c10, c11, rfl⟩ := len12 hs12
   rw [hS]
   try refine RUN ?_
   (first | refine EVL.unbox (19) rfl fun b => ?_ | refine EV.unbox (19) rfl fun b => ?_)
   (first | refine EVL.swapOw ([(b, 116, S es)]) ([]) ((by rw [hS]; rfl)) ?_ | refine EV.swapOw ([(b, 116, S es)]) ([]) ((by rw [hS]; rfl)) ?_)
   have hw1 := fun G' : Hp => hg.worth G' b 0 116 [] [] es rfl (by omega) heb
   simp only [List.append_nil] at hw1
   clear hS
   try refine RUN ?_
   apply EV.drawn 7 (by kernel_rfl) (by kernel_rfl); intro xv yw
   (repeat (first | refine' DV ?_ | refine' DA ?_ | refine' DK0 ?_ | refine' DT ?_ | refine' DS ?_ | (refine' DJ.nilB rfl rfl rfl rfl rfl ?_; rotate_left) | (refine' DJ.fldB tO rfl rfl rfl rfl rfl rfl rfl ?_; rotate_left)))
   (refine' DJ.callR rfl rfl rfl rfl rfl 0 rfl (by simp [hlS]) (cO func68) (fun G' => hw1 G') ?_; rotate_left)
   (repeat (first | refine' DV ?_ | refine' DA ?_ | refine' DK0 ?_ | refine' DT ?_ | (refine' DC (hsub) (h := ?_); rotate_left) | refine' DS ?_))
   (refine DJ.nil (fun G9 hG9 hF9 => ?_); (case hS => rfl); (case hS2 => rfl))
   try refine RUN ?_
   exact ⟨ps, hcols, hpr, .inr ⟨c, a, w, hst, rfl⟩⟩
def RRs (H : Hp) (vs : List Value) (X : List (List Rat)) : Prop := vs.length = X.length ∧ ∀ (j : Nat) (u : Value) (x : List Rat), vs[j]? = some u → X[j]? = some x → RL H u x
theorem RRs.mono {H G : Hp} {vs : List Value} {X : List (List Rat)} (h : RRs H vs X) (k : H.Le G) : RRs G vs X := ⟨h.1, fun j u x e1 e2 => (h.2 j u x e1 e2).mono k⟩
theorem RRs.nil (H : Hp) : RRs H [] [] := ⟨rfl, fun j u x h => by simp at h⟩
theorem RRs.snoc {H : Hp} {vs : List Value} {X : List (List Rat)} {u : Value} {x : List Rat} (h : RRs H vs X) (k : RL H u x) : RRs H (vs ++ [u]) (X ++ [x]) := vs_snoc h k
def RLL (H : Hp) (v : Value) (X : List (List Rat)) : Prop := ∃ vs : List Value, RRs H vs X ∧ SlC H v X.length 1 vs
theorem RLL.mono {H G : Hp} {v : Value} {X : List (List Rat)} (h : RLL H v X) (k : H.Le G) : RLL G v X := by
 obtain ⟨vs, h1, h2⟩ := h
 exact ⟨vs, h1.mono k, h2.mono k⟩
theorem RLL.val {H : Hp} {v : Value} {X : List (List Rat)} (h : RLL H v X) : ∃ a c, v = .slice a X.length c := by
 obtain ⟨vs, _, h2⟩ := h
 exact SlC.val h2
theorem RRs.at {H : Hp} {vs : List Value} {X : List (List Rat)} (h : RRs H vs X) {j : Nat} {x : List Rat} (hj : X[j]? = some x) : ∃ a c, vs[j]? = some (.slice a x.length c) ∧ RL H (.slice a x.length c) x := by
 obtain ⟨hl, _⟩ := List.getElem?_eq_some_iff.1 hj
 obtain ⟨u, hu⟩ : ∃ u, vs[j]? = some u := ⟨_, List.getElem?_eq_getElem (by rw [h.1]; exact hl)⟩
 have hq := h.2 j u x hu hj
 obtain ⟨a, c, rfl⟩ := hq.val
 exact ⟨a, c, hu, hq⟩
def rowsQ (l : List Int) (n w : Nat) : List (List Rat) := (List.range n).map fun i => rowQ (l.drop (min l.length (i * w))) w
theorem rowsQ_len (l : List Int) (n w : Nat) : (rowsQ l n w).length = n := by simp [rowsQ]
theorem rowsQ_at (l : List Int) {n w i : Nat} (h : i < n) : (rowsQ l n w)[i]? = some (rowQ (l.drop (min l.length (i * w))) w) := by
 unfold rowsQ; rw [List.getElem?_map, List.getElem?_range h]; rfl
theorem IL.drop {H : Hp} {a : Option Addr} {cap : Nat} {l : List Int} (h : IL H (.slice a l.length cap) l) (k : Nat) (hk : k ≤ l.length) : IL H (.slice (if cap = k then a else a.map (·.add (k * 1))) (l.length - k) (cap - k)) (l.drop k) := by
 have hs : SlC H (.slice a l.length cap) l.length 1 (l.map iv) := h
 have := hs.sub k l.length hk (Nat.le_refl _) (SlN.le h)
 unfold IL SlN
 rw [List.length_drop, List.map_drop]
 rw [Nat.mul_one, Nat.mul_one, List.take_of_length_le (by simp)] at this
 rw [Nat.mul_one]
 exact this
set_option maxHeartbeats 4000000 in
theorem rows_pc {H : Hp} {v : Value} {l : List Int} (h : IL H v l) (hb : ∀ z, z ∈ l → -9223372036854775808 ≤ z ∧ z < 9223372036854775808) (n w : Nat) (hn : n ≤ 1000) (hw : w ≤ 1000) : PC prog 11 #[v, .int .i64 (n : Int), .int .i64 (w : Int)] H fun r H' => RLL H' r (rowsQ l n w) := by
 obtain ⟨a, cap, rfl⟩ := SlC.val h
 have hcap : l.length ≤ cap := SlN.le h
 refine BD func11 ntmps11 ?_
 try refine RUN ?_
 refine EV.loopK (ι := Nat × List Value × Value × Ows) [0, 1, 2] [] (fun q => [(7, .v q.2.2.1), (8, .v (.int .i64 (q.1 : Int)))]) (fun _ => []) (fun q => q.2.2.2) (fun q G => q.1 ≤ n ∧ RRs G q.2.1 ((rowsQ l n w).take q.1) ∧ OwnL 29 1 q.2.2.1 q.1 q.2.1 q.2.2.2) (fun q => n - q.1) ((0, [], .slice none 0 0, [])) rfl rfl ⟨rfl, rfl, trivial⟩ trivial rfl (fun _ => rfl) (⟨Nat.zero_le _, RRs.nil _, OwnL.nil _ _⟩) ?_
 rintro ⟨i, vs, u, ow⟩ G1 hG1 ⟨hi, hvs, hown⟩
 dsimp only at hi hvs hown
 obtain ⟨wa, wc, rfl⟩ := hown.val
 try refine RUN ?_
 refine EV.cond rfl (fun hlt => ?_) (fun hlt => ?_)
 ·simp only [nN] at hlt
  have hk : i * w ≤ 1000 * 1000 := Nat.mul_le_mul (by omega) hw
  have hwr : IntKind.i64.wrap ((i : Int) * (w : Int)) = ((i * w : Nat) : Int) := by
   rw [← Int.natCast_mul]; generalize i * w = k at *; rw [IntKind.wrap_i64]; omega
  have hrow := rowsQ_at l (w := w) hlt
  generalize i * w = k at *
  have hd := IL.drop (h.mono hG1) (min l.length k) (Nat.min_le_left _ _)
  have hrp := row_pc hd (fun z hz => hb z (List.mem_of_mem_drop hz)) w (by omega)
  try refine RUN ?_
  rw [hwr]
  refine EVL.asI ((min l.length k : Nat)) ((by split <;> omega)) ?_
  refine EVL.slc tO rfl rfl rfl rfl rfl rfl rfl rfl (min l.length k) l.length (.inr ⟨_, IntKind.i64, rfl, rfl⟩) (.inl ⟨rfl, rfl⟩) (Nat.min_le_left _ _) hcap hcap ?_
  try refine RUN ?_
  refine EVL.call rfl rfl rfl rfl rfl (hrp) ?_
  rintro r G2 hr hG2
  obtain ⟨ra, rc, rfl⟩ := hr.val
  try refine RUN ?_
  refine EVL.app1 tO rfl rfl rfl rfl rfl rfl rfl rfl rfl rfl rfl rfl rfl rfl rfl rfl rfl rfl rfl (fun _ => rfl) (ow) ([]) ((List.append_nil _).symm) (hown) (by omega) fun _ => ?_
  intro v' ow' hown'
  try refine RUN ?_
  refine ⟨(i + 1, vs ++ [_], v', ow'), ⟨rfl, ?_, trivial⟩, (by repeat (first | exact trivial | refine And.intro rfl ?_)), trivial, trivial, List.append_nil _, ⟨hlt, by rw [take_snoc hrow]; exact (hvs.mono hG2).snoc hr, hown'⟩, hG2, by dsimp only; omega⟩
  rw [wi_inc i (by omega)]; rfl
 ·simp only [nN] at hlt
  obtain rfl : i = n := by omega
  rw [List.take_of_length_le (by rw [rowsQ_len]; omega)] at hvs
  (first | refine EVL.publishL [] ow [] ((List.append_nil _).symm) hown fun G2 hG2 hs => ?_ | refine EV.publishL [] ow [] ((List.append_nil _).symm) hown fun G2 hG2 hs => ?_)
  try refine RUN ?_
  exact ⟨vs, hvs.mono hG2, by rw [rowsQ_len]; exact hs⟩
set_option maxHeartbeats 4000000 in
theorem inRows_pc {H : Hp} {v : Value} {X : List (List Rat)} (h : RLL H v X) (hn : X.length ≤ 1000000) (hx : ∀ x, x ∈ X → x.length ≤ 1000000 ∧ ∀ q, q ∈ x → rq q) : PC prog 10 #[v] H fun r H' => QLL H' r X := by
 obtain ⟨a, cap, rfl⟩ := h.val
 refine BD func10 ntmps10 ?_
 try refine RUN ?_
 refine EV.loopK (ι := Nat × List Value × Value × Ows) [0] [] (fun q => [(3, .v q.2.2.1), (4, .v (.int .i64 (q.1 : Int)))]) (fun _ => []) (fun q => q.2.2.2) (fun q G => q.1 ≤ X.length ∧ QVs G q.2.1 (X.take q.1) ∧ OwnL 25 1 q.2.2.1 q.1 q.2.1 q.2.2.2) (fun q => X.length - q.1) ((0, [], .slice none 0 0, [])) rfl rfl ⟨rfl, rfl, trivial⟩ trivial rfl (fun _ => rfl) (⟨Nat.zero_le _, QVs.nil _, OwnL.nil _ _⟩) ?_
 rintro ⟨i, vs, u, ow⟩ G1 hG1 ⟨hi, hvs, hown⟩
 dsimp only at hi hvs hown
 obtain ⟨wa, wc, rfl⟩ := hown.val
 try refine RUN ?_
 refine EV.cond rfl (fun hlt => ?_) (fun hlt => ?_)
 ·simp only [nN] at hlt
  obtain ⟨x, hxi⟩ : ∃ x, X[i]? = some x := ⟨_, List.getElem?_eq_getElem hlt⟩
  have hxb := hx x (List.mem_of_getElem? hxi)
  obtain ⟨us, hus, hs⟩ := h.mono hG1
  obtain ⟨a1, c1, hu1, hR⟩ := hus.at hxi
  have hin := inRow_pc hR (by omega) hxb.2
  try refine RUN ?_
  refine EVL.idxR tO rfl rfl rfl rfl rfl rfl rfl rfl rfl rfl (hs) (i) (rfl) (hlt) (hu1) ?_
  try refine RUN ?_
  refine EVL.call rfl rfl rfl rfl rfl (hin) ?_
  rintro r G2 hr hG2
  obtain ⟨ra, rc, rfl⟩ := SlC.val hr
  try refine RUN ?_
  refine EVL.app1 tO rfl rfl rfl rfl rfl rfl rfl rfl rfl rfl rfl rfl rfl rfl rfl rfl rfl rfl rfl (fun _ => rfl) (ow) ([]) ((List.append_nil _).symm) (hown) (by omega) fun _ => ?_
  intro v' ow' hown'
  try refine RUN ?_
  refine ⟨(i + 1, vs ++ [_], v', ow'), ⟨rfl, ?_, trivial⟩, (by repeat (first | exact trivial | refine And.intro rfl ?_)), trivial, trivial, List.append_nil _, ⟨hlt, by rw [take_snoc hxi]; exact (hvs.mono hG2).snoc hr, hown'⟩, hG2, by dsimp only; omega⟩
  rw [wi_inc i (by omega)]; rfl
 ·simp only [nN] at hlt
  obtain rfl : i = X.length := by omega
  rw [List.take_length] at hvs
  (first | refine EVL.publishL [] ow [] ((List.append_nil _).symm) hown fun G2 hG2 hs => ?_ | refine EV.publishL [] ow [] ((List.append_nil _).symm) hown fun G2 hG2 hs => ?_)
  try refine RUN ?_
  exact ⟨vs, hvs.mono hG2, hs⟩
end Go.Proofs.YtejljnlfgiifoaaGreatDoor
namespace Go.Proofs.YtejljnlfgiifoaaGreatDoor
def rowsL (n : Nat) : List Int := (List.range n).map fun (k : Nat) => (k : Int)
theorem rowsL_len (n : Nat) : (rowsL n).length = n := by simp [rowsL]
theorem rowsL_snoc (n : Nat) : rowsL (n + 1) = rowsL n ++ [(n : Int)] := by
 unfold rowsL; rw [List.range_succ, List.map_append]; rfl
theorem rowsL_mem {n : Nat} : ∀ r, r ∈ rowsL n → 0 ≤ r ∧ r < (n : Int) := fun r hr => by
 obtain ⟨k, hk, rfl⟩ := List.mem_map.1 hr
 have := List.mem_range.1 hk
 omega
theorem dev_shift (m o : Rat) : ∀ l : List Rat, sumQ (devL o l.reverse) = sumQ (devL m l.reverse) + 2 * (m - o) * (sumQ l.reverse - ((l.length : Int) : Rat) * m) + ((l.length : Int) : Rat) * ((m - o) * (m - o))
 | [] => by
  rw [show sumQ (devL o ([] : List Rat).reverse) = 0 from rfl, show sumQ (devL m ([] : List Rat).reverse) = 0 from rfl, show sumQ ([] : List Rat).reverse = 0 from rfl, show (((([] : List Rat).length : Int)) : Rat) = 0 from rfl]
  grind
 | x :: l => by
  have ih := dev_shift m o l
  have e : (((x :: l).length : Int) : Rat) = ((l.length : Int) : Rat) + 1 := by
   rw [List.length_cons, Int.natCast_add, Rat.intCast_add]; rfl
  rw [List.reverse_cons, devL_snoc, devL_snoc, sumQ_snoc, ih, e]
  generalize sumQ (devL m l.reverse) = A
  generalize sumQ l.reverse = B
  generalize ((l.length : Int) : Rat) = N
  grind
theorem sq_nonneg (a : Rat) : 0 ≤ a * a := by
 rcases (Rat.le_total : 0 ≤ a ∨ a ≤ 0) with h | h
 ·exact Rat.mul_nonneg h h
 ·have : 0 ≤ -a := by grind
  have := Rat.mul_nonneg this this
  grind
end Go.Proofs.YtejljnlfgiifoaaGreatDoor
namespace Go.Proofs.YtejljnlfgiifoaaGreatDoor
structure POk (wo cost : List Int → Rat) : Prop where
 wperm : ∀ l m : List Int, l.Perm m → wo l = wo m
 cperm : ∀ l m : List Int, l.Perm m → cost l = cost m
 split : ∀ l m : List Int, cost (l ++ m) + wo (l ++ m) = cost l + wo l + (cost m + wo m)
 conv : ∀ l m : List Int, wo (l ++ m) ≤ wo l + wo m
theorem filter_take {p : Int → Bool} {m : List Int} {k : Nat} (h1 : ∀ x, x ∈ m.take k → p x = true) (h2 : ∀ x, x ∈ m.drop k → p x = false) : m.filter p = m.take k := by
 rw [← List.take_append_drop k m, List.filter_append, List.filter_eq_self.2 h1, List.filter_eq_nil_iff.2 (fun x hx => by rw [h2 x hx]; decide), List.append_nil, List.take_append_drop]
theorem filter_drop {p : Int → Bool} {m : List Int} {k : Nat} (h1 : ∀ x, x ∈ m.take k → p x = false) (h2 : ∀ x, x ∈ m.drop k → p x = true) : m.filter p = m.drop k := by
 conv => lhs; rw [← List.take_append_drop k m]
 rw [List.filter_append, List.filter_eq_nil_iff.2 (fun x hx => by rw [h1 x hx]; decide), List.filter_eq_self.2 h2, List.nil_append]
theorem mid_lt {a b : Rat} (h : a < b) : a < (a + b) / 2 ∧ (a + b) / 2 < b := by
 constructor <;> grind
theorem getD_mem_take {m : List Int} {j : Nat} {x : Int} (h : x ∈ m.take (j + 1)) : ∃ i, i ≤ j ∧ i < m.length ∧ m.getD i 0 = x := by
 obtain ⟨i, hi, rfl⟩ := List.mem_iff_getElem.1 h
 rw [List.length_take] at hi
 exact ⟨i, by omega, by omega, by simp [show i < m.length by omega]⟩
theorem getD_mem_drop {m : List Int} {j : Nat} {x : Int} (h : x ∈ m.drop (j + 1)) : ∃ i, j + 1 ≤ i ∧ i < m.length ∧ m.getD i 0 = x := by
 obtain ⟨i, hi, rfl⟩ := List.mem_iff_getElem.1 h
 rw [List.length_drop] at hi
 exact ⟨j + 1 + i, by omega, by omega, by simp [show j + 1 + i < m.length by omega]⟩
theorem risK_get {key : Int → Rat} {m : List Int} (h : RisK key m) {i j : Nat} (hij : i ≤ j) (hj : j < m.length) : key (m.getD i 0) ≤ key (m.getD j 0) := by
 rcases Nat.lt_or_eq_of_le hij with hlt | rfl
 ·have := (List.pairwise_iff_getElem.1 h) i j (by simp; omega) (by simp; omega) hlt
  simpa [show i < m.length by omega, hj] using this
 ·exact Rat.le_refl
theorem sides_at {X : List (List Rat)} {col : Int} {rs m : List Int} (hp : m.Perm rs) (hr : RisK (colK X col) m) (ha : ∀ r, r ∈ rs → hasC X col r = true) {j : Nat} (hj : j + 1 < m.length) (hlt : colK X col (m.getD j 0) < colK X col (m.getD (j + 1) 0)) :
  (lowL X col (midC (colK X col) m j) rs).Perm (m.take (j + 1)) ∧ (highL X col (midC (colK X col) m j) rs).Perm (m.drop (j + 1)) := by
 obtain ⟨h1, h2⟩ := mid_lt hlt
 have hm : ∀ r, r ∈ m → hasC X col r = true := fun r hr => ha r (hp.mem_iff.1 hr)
 have hlo : ∀ x, x ∈ m.take (j + 1) → colK X col x ≤ midC (colK X col) m j := fun x hx => by
  obtain ⟨i, hi, _, rfl⟩ := getD_mem_take hx
  exact Rat.le_trans (risK_get hr hi (by omega)) (Rat.le_of_lt h1)
 have hhi : ∀ x, x ∈ m.drop (j + 1) → ¬ colK X col x ≤ midC (colK X col) m j := fun x hx => by
  obtain ⟨i, hi, hil, rfl⟩ := getD_mem_drop hx
  have := risK_get hr hi hil
  intro k
  generalize colK X col (m.getD i 0) = x at *
  unfold midC at k
  grind
 constructor
 ·refine (hp.symm.filter _).trans ?_
  rw [filter_take (k := j + 1)]
  ·intro x hx; rw [hm x (List.mem_of_mem_take hx), decide_eq_true (hlo x hx)]; rfl
  ·intro x hx; rw [hm x (List.mem_of_mem_drop hx), decide_eq_false (hhi x hx)]; rfl
 ·refine (hp.symm.filter _).trans ?_
  rw [filter_drop (k := j + 1)]
  ·intro x hx; rw [hm x (List.mem_of_mem_take hx), decide_eq_true (hlo x hx)]; rfl
  ·intro x hx; rw [hm x (List.mem_of_mem_drop hx), decide_eq_false (hhi x hx)]; rfl
theorem candC_iff {key : Int → Rat} {least : Int} {m : List Int} {j : Nat} : candC key least m j = true ↔ least ≤ ((j + 1 : Nat) : Int) ∧ least ≤ ((m.length - (j + 1) : Nat) : Int) ∧ key (m.getD j 0) < key (m.getD (j + 1) 0) := by
 unfold candC
 simp only [Bool.and_eq_true, decide_eq_true_eq]
 exact and_assoc
theorem colN_mem {key : Int → Rat} {wo : List Int → Rat} {least : Int} {m : List Int} : ∀ {n : Nat} {a w : Rat}, colN key wo least m n = some (a, w) → ∃ j, j < n ∧ candC key least m j = true ∧ a = midC key m j ∧ w = sumW wo m j
 | 0, a, w, h => by cases h
 | n + 1, a, w, h => by
  unfold colN at h
  split at h
  ·rename_i hc
   split at h
   ·cases h; exact ⟨n, Nat.lt_succ_self _, hc, rfl, rfl⟩
   ·rename_i a0 w0 h0
    split at h
    ·cases h; exact ⟨n, Nat.lt_succ_self _, hc, rfl, rfl⟩
    ·cases h
     obtain ⟨j, h1, h2⟩ := colN_mem h0
     exact ⟨j, by omega, h2⟩
  ·obtain ⟨j, h1, h2⟩ := colN_mem h
   exact ⟨j, by omega, h2⟩
theorem bestF_mem {ps : List (Int × Option (Rat × Rat))} {c : Int} {a w : Rat} (h : bestF ps = some (c, a, w)) : (c, some (a, w)) ∈ ps := by
 have key : ∀ (qs pre : List (Int × Option (Rat × Rat))) (st : Option (Int × Rat × Rat)), (∀ c a w, st = some (c, a, w) → (c, some (a, w)) ∈ pre) → ∀ c a w, qs.foldl bestS st = some (c, a, w) → (c, some (a, w)) ∈ pre ++ qs := by
  intro qs
  induction qs with
  | nil => intro pre st h2 c a w h3; rw [List.append_nil]; exact h2 c a w h3
  | cons p qs ih =>
   intro pre st h2 c a w h3
   have := ih (pre ++ [p]) (bestS st p) (fun c a w h4 => by
    obtain ⟨pc, po⟩ := p
    unfold bestS at h4
    cases po with
    | none => exact List.mem_append_left _ (h2 c a w h4)
    | some q =>
     obtain ⟨a1, w1⟩ := q
     cases st with
     | none => cases h4; simp
     | some t =>
      obtain ⟨c0, a0, w0⟩ := t
      dsimp only at h4
      split at h4
      ·cases h4; simp
      ·cases h4; exact List.mem_append_left _ (h2 _ _ _ rfl)) c a w h3
   simpa using this
 have := key ps [] none (fun c a w h => by cases h) c a w h
 simpa using this
section
variable {X : List (List Rat)} {wo cost : List Int → Rat} {rs cols : List Int} {L : Int} {ps : List (Int × Option (Rat × Rat))} (hp : POk wo cost) (hcol : Cols cols (ps.map (·.1))) (hps : ∀ p, p ∈ ps → ColR X wo rs L p.1 p.2)
include hp hcol hps
end
end Go.Proofs.YtejljnlfgiifoaaGreatDoor
namespace Go.Proofs.YtejljnlfgiifoaaGreatDoor
theorem sumQ_perm {l m : List Rat} (h : l.Perm m) : sumQ l = sumQ m := by
 induction h with
 | nil => rfl
 | cons x _ ih => rw [sumQ_cons, sumQ_cons, ih]
 | swap x y l => rw [sumQ_cons, sumQ_cons, sumQ_cons, sumQ_cons]; grind
 | trans _ _ h1 h2 => rw [h1, h2]
theorem sumQ_append (l m : List Rat) : sumQ (l ++ m) = sumQ l + sumQ m := by
 induction l with
 | nil => rw [List.nil_append, sumQ_nil]; grind
 | cons x l ih => rw [List.cons_append, sumQ_cons, sumQ_cons, ih]; grind
theorem ratN_ne {n : Nat} (h0 : n ≠ 0) : ((n : Int) : Rat) ≠ 0 := nat_rat_ne h0
theorem ratN_pos {n : Nat} (h0 : n ≠ 0) : 0 < ((n : Int) : Rat) := by
 have h1 : ((0 : Int) : Rat) ≤ ((n : Int) : Rat) := Rat.intCast_le_intCast.2 (by omega)
 have h2 := ratN_ne h0
 have h3 : ((0 : Int) : Rat) = 0 := rfl
 rw [h3] at h1
 rcases Rat.le_iff_lt_or_eq.1 h1 with h | h
 ·exact h
 ·exact absurd h.symm h2
theorem titu (a b : Rat) (x y : Nat) (hx : x = 0 → a = 0) (hy : y = 0 → b = 0) : (a + b) * (a + b) / (((x + y : Nat) : Int) : Rat) ≤ a * a / ((x : Int) : Rat) + b * b / ((y : Int) : Rat) := by
 by_cases hx0 : x = 0
 ·subst hx0
  rw [hx rfl, Nat.zero_add, show ((((0 : Nat) : Int)) : Rat) = 0 from rfl, rat_div_zero, Rat.zero_add, Rat.zero_add]
  exact Rat.le_refl
 by_cases hy0 : y = 0
 ·subst hy0
  rw [hy rfl, Nat.add_zero, show ((((0 : Nat) : Int)) : Rat) = 0 from rfl, rat_div_zero, Rat.add_zero, Rat.add_zero]
  exact Rat.le_refl
 have h1 := ratN_ne hx0
 have h2 := ratN_ne hy0
 have h3 := ratN_ne (n := x + y) (by omega)
 have p1 := ratN_pos hx0
 have p2 := ratN_pos hy0
 have p3 := ratN_pos (n := x + y) (by omega)
 have e : (((x + y : Nat) : Int) : Rat) = ((x : Int) : Rat) + ((y : Int) : Rat) := by rw [Int.natCast_add, Rat.intCast_add]
 rw [e] at h3 p3 ⊢
 generalize ((x : Int) : Rat) = u at *
 generalize ((y : Int) : Rat) = v at *
 have key : a * a / u + b * b / v - (a + b) * (a + b) / (u + v) = (a * v - b * u) * (a * v - b * u) / (u * v * (u + v)) := by grind
 have hn : 0 ≤ (a * v - b * u) * (a * v - b * u) / (u * v * (u + v)) := by
  have h5 := sq_nonneg (a * v - b * u)
  have h6 : 0 < u * v * (u + v) := Rat.mul_pos (Rat.mul_pos p1 p2) p3
  rw [Rat.div_def]
  exact Rat.mul_nonneg h5 (Rat.le_of_lt (Rat.inv_pos.2 h6))
 grind
def costVf (vals : List Rat) (l : List Int) : Rat := sumQ (devL (meanL (atR vals l)) (atR vals l))
def costLf (ls : List Int) (l : List Int) : Rat := costL (atI ls l)
theorem devV (L : List Rat) : sumQ (devL (meanL L) L) + sumQ L * sumQ L / ((L.length : Int) : Rat) = sumQ (devL 0 L) := by
 by_cases h0 : L.length = 0
 ·obtain rfl := List.length_eq_zero_iff.1 h0
  show sumQ [] + sumQ [] * sumQ [] / ((((([] : List Rat).length : Nat) : Int)) : Rat) = sumQ []
  rw [sumQ_nil, show ((((([] : List Rat).length : Nat) : Int)) : Rat) = 0 from rfl, rat_div_zero, Rat.add_zero]
 ·have h := dev_shift (meanL L) 0 L.reverse
  rw [List.reverse_reverse, List.length_reverse] at h
  have hn := ratN_ne h0
  have hm : meanL L = sumQ L / ((L.length : Int) : Rat) := rfl
  rw [h]
  generalize sumQ (devL (meanL L) L) = A
  rw [hm]
  generalize ((L.length : Int) : Rat) = N at *
  generalize sumQ L = S at *
  grind
theorem pokV (vals : List Rat) : POk (woV vals) (costVf vals) := by
 have hpm : ∀ l m : List Int, l.Perm m → (atR vals l).Perm (atR vals m) := fun l m h => h.map _
 have hw : ∀ l m : List Int, l.Perm m → woV vals l = woV vals m := fun l m h => by
  unfold woV; rw [sumQ_perm (hpm l m h), h.length_eq]
 have hf : ∀ l : List Int, costVf vals l + woV vals l = sumQ (devL 0 (atR vals l)) := fun l => by
  have := devV (atR vals l)
  rw [atR_len] at this
  exact this
 refine ⟨hw, fun l m h => ?_, fun l m => ?_, fun l m => ?_⟩
 ·have h1 := hf l
  have h2 := hf m
  have h3 : sumQ (devL 0 (atR vals l)) = sumQ (devL 0 (atR vals m)) := sumQ_perm ((hpm l m h).map _)
  have h4 := hw l m h
  grind
 ·rw [hf, hf, hf, atR_app]
  show sumQ ((atR vals l ++ atR vals m).map _) = _
  rw [List.map_append, sumQ_append]; rfl
 ·unfold woV
  rw [atR_app, sumQ_append, List.length_append]
  exact titu _ _ _ _ (fun h => by rw [List.length_eq_zero_iff.1 h]; rfl) (fun h => by rw [List.length_eq_zero_iff.1 h]; rfl)
theorem sum_one (f g : Nat → Nat) (j : Nat) : ∀ n, ((List.range n).map fun k => f k + if k = j then g k else 0).sum = ((List.range n).map f).sum + if j < n then g j else 0
 | 0 => by simp
 | n + 1 => by
  rw [List.range_succ, List.map_append, List.sum_append, List.map_append, List.sum_append, sum_one f g j n]
  simp only [List.map_cons, List.map_nil, List.sum_cons, List.sum_nil]
  by_cases h : n = j
  ·subst h; rw [if_pos rfl, if_neg (by omega), if_pos (by omega)]; omega
  ·rw [if_neg h]
   by_cases h2 : j < n
   ·rw [if_pos h2, if_pos (by omega)]; omega
   ·rw [if_neg h2, if_neg (by omega)]; omega
theorem sqL_sum : ∀ l : List Int, (∀ z, z ∈ l → 0 ≤ z ∧ z < 12) → sqL l = ((List.range 12).map fun (k : Nat) => l.count (k : Int) * l.count (k : Int)).sum
 | [], _ => by decide
 | x :: l, h => by
  have hx := h x (List.mem_cons_self ..)
  obtain ⟨j, rfl⟩ := Int.eq_ofNat_of_zero_le hx.1
  have ih := sqL_sum l (fun z hz => h z (List.mem_cons_of_mem _ hz))
  have hs := sum_one (fun k => l.count (k : Int) * l.count (k : Int)) (fun k => 2 * l.count (k : Int) + 1) j 12
  rw [if_pos (by omega)] at hs
  rw [sqL_cons, ih, Nat.add_assoc, ← hs]
  congr 1
  refine List.map_congr_left fun k _ => ?_
  rw [List.count_cons]
  by_cases e : k = j
  ·subst e; rw [if_pos rfl]; simp; grind
  ·have e2 : ¬ ((j : Int) == (k : Int)) = true := by simp; omega
   rw [if_neg e, if_neg e2]; simp
def sumK (ks : List Nat) (f : Nat → Rat) : Rat := sumQ (ks.map f)
theorem sumK_nat (f : Nat → Nat) : ∀ ks : List Nat, ((((ks.map f).sum : Nat) : Int) : Rat) = sumK ks fun k => (((f k : Nat) : Int) : Rat)
 | [] => rfl
 | k :: ks => by
  unfold sumK
  rw [List.map_cons, List.sum_cons, List.map_cons, sumQ_cons, Int.natCast_add, Rat.intCast_add, sumK_nat f ks]; rfl
theorem sumK_le {f g : Nat → Rat} (h : ∀ k, f k ≤ g k) : ∀ ks : List Nat, sumK ks f ≤ sumK ks g
 | [] => Rat.le_refl
 | k :: ks => by
  have ih := sumK_le h ks
  unfold sumK at *
  rw [List.map_cons, sumQ_cons, List.map_cons, sumQ_cons]
  have := h k
  grind
theorem sumK_add (f g : Nat → Rat) : ∀ ks : List Nat, sumK ks (fun k => f k + g k) = sumK ks f + sumK ks g
 | [] => by unfold sumK; rw [List.map_nil, List.map_nil, List.map_nil, sumQ_nil, Rat.add_zero]
 | k :: ks => by
  have ih := sumK_add f g ks
  unfold sumK at *
  rw [List.map_cons, sumQ_cons, List.map_cons, sumQ_cons, List.map_cons, sumQ_cons, ih]; grind
theorem sumK_div (f : Nat → Rat) (c : Rat) : ∀ ks : List Nat, sumK ks (fun k => f k / c) = sumK ks f / c
 | [] => by unfold sumK; rw [List.map_nil, List.map_nil, sumQ_nil, Rat.div_def, Rat.zero_mul]
 | k :: ks => by
  have ih := sumK_div f c ks
  unfold sumK at *
  rw [List.map_cons, sumQ_cons, List.map_cons, sumQ_cons, ih, Rat.div_def, Rat.div_def, Rat.div_def, Rat.add_mul]
theorem sqL_rat {l : List Int} (h : ∀ z, z ∈ l → 0 ≤ z ∧ z < 12) : ((sqL l : Int) : Rat) = sumK (List.range 12) fun k => ((l.count (k : Int) : Int) : Rat) * ((l.count (k : Int) : Int) : Rat) := by
 rw [sqL_sum l h, sumK_nat]
 unfold sumK
 congr 1
 refine List.map_congr_left fun k _ => ?_
 rw [Int.natCast_mul, Rat.intCast_mul]
theorem pokL {ls : List Int} (hls : ∀ z, z ∈ ls → 0 ≤ z ∧ z < 12) : POk (woL ls) (costLf ls) := by
 have hpm : ∀ l m : List Int, l.Perm m → (atI ls l).Perm (atI ls m) := fun l m h => h.map _
 have hb : ∀ l : List Int, ∀ z, z ∈ atI ls l → 0 ≤ z ∧ z < 12 := fun l z hz => by
  unfold atI at hz
  obtain ⟨r, _, rfl⟩ := List.mem_map.1 hz
  rw [List.getD_eq_getElem?_getD]
  cases e : ls[r.toNat]? with
  | none => exact ⟨by decide, by decide⟩
  | some x => exact hls x (List.mem_of_getElem? e)
 have hw : ∀ l m : List Int, l.Perm m → woL ls l = woL ls m := fun l m h => by
  unfold woL; rw [sqL_perm (hpm l m h), h.length_eq]
 have hf : ∀ l : List Int, costLf ls l + woL ls l = ((l.length : Int) : Rat) := fun l => by
  unfold costLf costL woL
  rw [atI_len]; grind
 refine ⟨hw, fun l m h => ?_, fun l m => ?_, fun l m => ?_⟩
 ·have h1 := hf l
  have h2 := hf m
  have h4 := hw l m h
  rw [h.length_eq] at h1
  grind
 ·rw [hf, hf, hf, List.length_append, Int.natCast_add, Rat.intCast_add]
 ·unfold woL
  rw [sqL_rat (hb (l ++ m)), sqL_rat (hb l), sqL_rat (hb m), ← sumK_div, ← sumK_div, ← sumK_div, ← sumK_add]
  refine sumK_le (fun k => ?_) _
  rw [atI_app, List.count_append, Int.natCast_add, Rat.intCast_add, List.length_append]
  exact titu _ _ _ _ (fun h => by rw [List.length_eq_zero_iff.1 h]; rfl) (fun h => by rw [List.length_eq_zero_iff.1 h]; rfl)
end Go.Proofs.YtejljnlfgiifoaaGreatDoor
namespace Go.Proofs.YtejljnlfgiifoaaGreatDoor
open Go.RowKit _root_.Go.Proofs.Tryz
theorem handQ_pv (z : Int) (hz : -9223372036854775808 ≤ z ∧ z < 9223372036854775808) : PV prog 14 #[.int .i64 z] (fracV (rNum z)) := by
 have hr := ht_rNum z
 refine PV.of_pc ?_
 refine BD func14 ntmps14 ?_
 try refine RUN ?_
 refine EVL.call rfl rfl rfl rfl rfl (r_pc z hz) ?_
 rintro r G hR hG
 refine EVL.call rfl rfl rfl rfl rfl (in_pc hR (rq_small hr (by omega))) ?_
 rintro r G2 rfl hG2
 try refine RUN ?_
 rfl
theorem is_pc {H : Hp} (q : Rat) (hq : rq q) (a b : Int) (h1 : -9223372036854775808 ≤ a) (h2 : a < 9223372036854775808) (h3 : -9223372036854775808 ≤ b) (h4 : b < 9223372036854775808) (h0 : b ≠ 0) (he : q = Rat.divInt a b) : PC prog 23 #[fracV q, .int .i64 a, .int .i64 b] H fun r _ => r = .bool true := by
 have hov := fun G : Hp => refOver_pc (H := G) a b h1 h2 h3 h4 h0
 rw [← he] at hov
 refine BD func23 ntmps23 ?_
 try refine RUN ?_
 apply EV.drawn 4 (by kernel_rfl) (by kernel_rfl); intro xv yw
 (repeat (first | refine' DV ?_ | refine' DA ?_ | refine' DK0 ?_ | refine' DT ?_ | refine' DS ?_))
 refine' DJ.call rfl rfl rfl rfl rfl (cO func72) (fun G hG hd => hov G) (fun _ _ _ h k => RQ.mono h k) ?_; rotate_left
 (refine DJ.nil (fun G1 hG1 hF1 => ?_); (case hS => rfl); (case hS2 => rfl))
 have hs := same_self hF1.1 hq
 repeat (first | refine RUN ?_ | refine CV (hs) ?_ | refine CE (hs) ?_)
 rfl
theorem rowQ_ht {l : List Int} (n : Nat) : ∀ q, q ∈ rowQ l n → ht q ≤ 5 := fun q hq => by
 obtain ⟨i, hi, rfl⟩ := List.mem_map.1 hq
 split
 ·exact ht_rNum _
 ·rw [ht_zero]; omega
structure GoalK (H : Hp) (v : Value) (N : Nat) (S : List Int → List Value) (wo cost : List Int → Rat) (kd cl : Int) (sl sv : Value) : Prop where
 val : v = goalV kd cl sl sv
 ok : GOk H kd cl sl sv N S wo
 law : POk wo cost
 costs : ∀ G, H.Le G → ∀ u l, IL G u l → l.length ≤ 300 → (∀ r, r ∈ l → 0 ≤ r ∧ r < (N : Int)) → PC prog 22 #[goalV kd cl sl sv, u] G fun r _ => r = fracV (cost l)
 small : ∀ l : List Int, l.length ≤ 300 → (∀ r, r ∈ l → 0 ≤ r ∧ r < (N : Int)) → ht (cost l) ≤ 2000000
theorem inGoal_k {H : Hp} {v : Value} {n : Nat} {qs : List Rat} (h : GoalR H v n qs) (hql : qs.length = n) (h0 : 1 ≤ n) (h1 : n ≤ 300) (hq : ∀ q, q ∈ qs → ht q ≤ 5) :
  PC prog 8 #[v] H fun r H' => ∃ kd cl la ln lc va vn vc S wo cost, GoalK H' r n S wo cost kd cl (.slice la ln lc) (.slice va vn vc) := by
 rcases h with ⟨s, rfl, hs⟩ | ⟨cl, s, ls, rfl, hc1, hc2, hll, hlb, hs⟩
 ·subst hql
  have hqr : ∀ q, q ∈ qs → rq q := fun q hq' => rq_small (hq q hq') (by omega)
  refine (inGoal_pc (kd := 2) (cl := 0) (IL.nil H none 0) hs (by decide) (by omega) hqr).mono ?_
  rintro r H' ⟨la, lc, va, vc, rfl, _, hv⟩ _
  have q100 : ∀ q, q ∈ qs → ht q ≤ 100 := fun q hq' => Nat.le_trans (hq q hq') (by omega)
  refine ⟨2, 0, _, _, _, _, _, _, _, _, costVf qs, rfl, gokV hv h0 h1 q100, pokV qs, fun G hG u l hl hn hr => ?_, fun l hn hr => ?_⟩
  ·have := costV_pc (la := la) (lc := lc) hl hn (hv.mono hG) h0 h1 q100
   rw [exL_all hr] at this
   exact this
  ·have hlb := fun q hq' => hq q (atR_mem hr q hq')
   have hll : (atR qs l).length ≤ 300 := by rw [atR_len]; omega
   have h2 := meanL_ht hll hlb
   have h3 := devS_ht hll hlb h2
   unfold costVf
   omega
 ·subst hll
  refine (inGoal_pc (kd := 1) (cl := cl) hs (RL.nil H none 0) (by omega) (by decide) (by intro q hq; cases hq)).mono ?_
  rintro r H' ⟨la, lc, va, vc, rfl, hv, _⟩ _
  refine ⟨1, cl, _, _, _, _, _, _, _, _, costLf ls, rfl, gokL ⟨hc1, by omega⟩ hv h0 h1 hlb, pokL (fun z hz => ⟨(hlb z hz).1, by have := (hlb z hz).2; omega⟩), fun G hG u l hl hn hr => ?_, fun l hn hr => ?_⟩
  ·have := costC_pc (va := va) (vc := vc) hl hn (hv.mono hG) ⟨hc1, by omega⟩ h0 h1 hlb
   rw [exL_all hr] at this
   exact this
  ·have hsq := sqL_le (atI ls l)
   have hll : (atI ls l).length = l.length := atI_len ls l
   rw [hll] at hsq
   have hsq2 : l.length * l.length ≤ 300 * 300 := Nat.mul_le_mul hn hn
   have hn2 := ht_int (l.length : Int)
   have hn3 : bl (l.length : Int).natAbs ≤ 20 := bl_le (by omega)
   have hs2 := ht_int (sqL (atI ls l) : Int)
   have hs3 : bl (sqL (atI ls l) : Int).natAbs ≤ 20 := bl_le (by omega)
   have hdv := ht_div ((sqL (atI ls l) : Int) : Rat) ((l.length : Int) : Rat)
   have hsb := ht_sub ((l.length : Int) : Rat) (((sqL (atI ls l) : Int) : Rat) / ((l.length : Int) : Rat))
   unfold costLf costL
   rw [hll]
   omega
theorem rowsQ_ht {l : List Int} {n w : Nat} : ∀ x, x ∈ rowsQ l n w → x.length = w ∧ ∀ q, q ∈ x → ht q ≤ 5 := fun x hx => by
 obtain ⟨i, _, rfl⟩ := List.mem_map.1 hx
 exact ⟨rowQ_len _ _, rowQ_ht w⟩
theorem colK_ht {X : List (List Rat)} (h : ∀ x, x ∈ X → ∀ q, q ∈ x → ht q ≤ 5) (c r : Int) : ht (colK X c r) ≤ 5 := by
 unfold colK
 rw [List.getD_eq_getElem?_getD, List.getD_eq_getElem?_getD]
 cases e : X[r.toNat]? with
 | none => simp; rw [ht_zero]; omega
 | some x =>
  rw [Option.getD_some]
  cases e2 : x[c.toNat]? with
  | none => rw [Option.getD_none, ht_zero]; omega
  | some q => exact h x (List.mem_of_getElem? e) q (List.mem_of_getElem? e2)
theorem midC_ht {X : List (List Rat)} (h : ∀ x, x ∈ X → ∀ q, q ∈ x → ht q ≤ 5) (c : Int) (m : List Int) (j : Nat) : ht (midC (colK X c) m j) ≤ 100 := by
 have h1 := colK_ht h c (m.getD j 0)
 have h2 := colK_ht h c (m.getD (j + 1) 0)
 have h3 := ht_add (colK X c (m.getD j 0)) (colK X c (m.getD (j + 1) 0))
 have h4 : ht ((2 : Int) : Rat) ≤ 10 := by
  have := ht_int 2
  have h2 : bl (2 : Int).natAbs ≤ 5 := bl_le (by decide)
  omega
 have h5 := ht_div (colK X c (m.getD j 0) + colK X c (m.getD (j + 1) 0)) ((2 : Int) : Rat)
 rw [show ((2 : Int) : Rat) = 2 from rfl] at h4 h5
 unfold midC
 omega
theorem has_rows {l : List Int} {n w : Nat} {c r : Int} (hc : 0 ≤ c ∧ c < (w : Int)) (hr : 0 ≤ r ∧ r < (n : Int)) : hasC (rowsQ l n w) c r = true := by
 obtain ⟨R, rfl⟩ := Int.eq_ofNat_of_zero_le hr.1
 unfold hasC
 rw [Int.toNat_natCast, List.getD_eq_getElem?_getD, rowsQ_at l (show R < n by omega), Option.getD_some, rowQ_len]
 simp; omega
theorem tmod_pick (n m : Int) (hm : 1 ≤ m) : (if n.tmod m < 0 then n.tmod m + m else n.tmod m) = n % m := by
 by_cases h : 0 ≤ n
 ·have e : n.tmod m = n % m := Int.tmod_eq_emod_of_nonneg h
  have := Int.emod_nonneg n (show m ≠ 0 by omega)
  rw [e, if_neg (by omega)]
 ·have e : n.tmod m = -((-n) % m) := by
   rw [show n = -(-n) by omega, Int.neg_tmod, Int.tmod_eq_emod_of_nonneg (by omega)]; simp
  have h1 := Int.emod_nonneg (-n) (show m ≠ 0 by omega)
  have h2 := Int.emod_lt_of_pos (-n) (show 0 < m by omega)
  have h4 := Int.emod_nonneg n (show m ≠ 0 by omega)
  have h5 := Int.emod_lt_of_pos n (show 0 < m by omega)
  have h6 := Int.mul_ediv_add_emod n m
  have h7 := Int.mul_ediv_add_emod (-n) m
  have h8 : m * (n / m + -n / m) = -(n % m + -n % m) := by rw [Int.mul_add]; omega
  generalize n / m + -n / m = t at h8
  have h9 : t = 0 ∨ t = -1 := by
   by_cases a : t ≤ -2
   ·have : m * t ≤ m * (-2) := Int.mul_le_mul_of_nonneg_left a (by omega)
    omega
   ·by_cases b : 1 ≤ t
    ·have : m * 1 ≤ m * t := Int.mul_le_mul_of_nonneg_left b (by omega)
     omega
    ·omega
  rcases h9 with rfl | rfl
  ·rw [e, if_neg (by omega)]; omega
  ·rw [e, if_pos (by omega)]; omega
set_option maxHeartbeats 400000 in
theorem pick_any (n m : Int) (w : World) (hm : 1 ≤ m) (hm2 : m ≤ 1000000) :
  Calls prog 7 #[.int .i64 n, .int .i64 m] w fun e w' => e = .returned (.int .i64 (n % m)) ∧ w = w' := by
 have hp := hid (tmod_pick n m hm)
 have hr : n.tmod m < m := Int.tmod_lt_of_pos _ (by omega)
 have hr2 : -m < n.tmod m := by have := Int.lt_tmod_of_pos n (show 0 < m by omega); omega
 by_cases hn : n.tmod m < 0
 ·go_enter func7, ntmps7
  go_wp2
  go_ret
  have := hp.out
  rw [if_pos hn] at this
  exact ⟨ret_int this, rfl⟩
 ·go_enter func7, ntmps7
  go_wp2
  go_ret
  have := hp.out
  rw [if_neg (by omega)] at this
  exact ⟨ret_int this, rfl⟩
set_option maxHeartbeats 400000 in
theorem dnew_any (s : Int) (w : World) :
  Calls prog 12 #[.int .u64 s] w fun e w' => e = .returned (.pointer (some ⟨w.heap.size, 0, none⟩)) ∧ w' = w.alloc (.cells #[.int .u64 s] 92) := by
 go_enter func12, ntmps12
 go_wp2
 go_ret
 exact ⟨rfl, rfl⟩
set_option maxHeartbeats 400000 in
theorem dnext_any (b : Nat) (s : Int) (w : World) (hc : w.cell? ⟨b, 0, none⟩ = some (.int .u64 s)) (hf : w.frozen? ⟨b, 0, none⟩ = false) :
  Calls prog 117 #[.pointer (some ⟨b, 0, none⟩)] w fun e w' => e = .returned (.int .u64 (mix (nxt s))) ∧ w' = w.setCell ⟨b, 0, none⟩ (.int .u64 (nxt s)) := by
 go_enter func117, ntmps117
 go_wp2
 go_ret
 exact ⟨rfl, rfl⟩
theorem dnext_die (b : Nat) (s : Int) (w : World) (h : Die w b s) :
  Calls prog 117 #[.pointer (some ⟨b, 0, none⟩)] w fun e w' => e = .returned (.int .u64 (mix (nxt s))) ∧ Die w' b (nxt s) ∧ Kept (· = b) w w' ∧ w'.heap.size = w.heap.size := by
 refine (dnext_any b s w h.cell h.free).mono ?_
 rintro e w' ⟨rfl, rfl⟩
 exact ⟨rfl, h.set (nxt_range s).1, (Kept.refl (fun x => x = b) w).setCell (p := ⟨b, 0, none⟩) (fun _ => rfl) _, by simp⟩
theorem last_walk (n : Int) (h : 1 ≤ n) (h2 : n ≤ 1000000) : IntKind.u64.wrap (18446744073709551615 - (IntKind.u64.wrap (18446744073709551615 % n + 1)).tmod n) = last n := by
 have h1 := Int.emod_nonneg 18446744073709551615 (show n ≠ 0 by omega)
 have h3 := Int.emod_lt_of_pos 18446744073709551615 (show 0 < n by omega)
 rw [wrap_u64 (18446744073709551615 % n + 1), Int.emod_eq_of_lt (by omega) (by omega), Int.tmod_eq_emod_of_nonneg (by omega), Int.emod_add_emod]
 have h4 := Int.emod_nonneg (18446744073709551615 + 1) (show n ≠ 0 by omega)
 have h5 := Int.emod_lt_of_pos (18446744073709551615 + 1) (show 0 < n by omega)
 rw [wrap_u64, Int.emod_eq_of_lt (by omega) (by omega)]
 rfl
set_option maxHeartbeats 400000 in
theorem dbelow_die (b : Nat) (n s : Int) (w : World) (h : Die w b s) (hn : 1 ≤ n) (hn2 : n ≤ 1000000) :
  Calls prog 69 #[.pointer (some ⟨b, 0, none⟩), .int .i64 n] w fun e w' => e = .returned (.int .i64 (below n s).1) ∧ Die w' b (below n s).2 ∧ Kept (· = b) w w' ∧ w'.heap.size = w.heap.size := by
 go_enter func69, ntmps69
 go_wp2
 rw [last_walk n hn hn2]
 go_loopg [7] (left s) (fun k _ wr => ∃ t, left t = k ∧ Die wr b t ∧ below n s = below n t ∧ Kept (· = b) w wr ∧ wr.heap.size = w.heap.size)
 case atStart => exact ⟨s, rfl, h, rfl, Kept.refl _ _, rfl⟩
 case round =>
  obtain ⟨t, hl, hd, hb, hk, hz⟩ := hrel
  have HB := hid hb
  have HZ := hid hz
  have HL := hid hl
  clear hb hz hl
  by_cases hc : mix (nxt t) ≤ last n
  ·have HT := hid (below_take n t hc)
   have hm := (mix_range (nxt t)).1
   go_wp2_with fail
   refine (dnext_die b t wr hd).mono ?_
   rintro e w1 ⟨rfl, hd1, hk1, hz1⟩
   have HZ1 := hid hz1
   clear hz1
   go_wp2
   go_ret
   rw [HB.out, HT.out]
   have := Int.emod_lt_of_pos (mix (nxt t)) (show 0 < n by omega)
   have := Int.emod_nonneg (mix (nxt t)) (show n ≠ 0 by omega)
   exact ⟨ret_int (IntWalk.wrap64_in _ ⟨by omega, by omega⟩), hd1, hk.trans hk1, by rw [HZ1.out, HZ.out]⟩
  ·have HT := hid (below_step n t hn (by omega) hc)
   have HW := hid (left_of_not n t hn (by omega) hc)
   have hc' : decide (mix (nxt t) ≤ last n) = false := by simpa using hc
   go_wp2_with fail
   refine (dnext_die b t wr hd).mono ?_
   rintro e w1 ⟨rfl, hd1, hk1, hz1⟩
   have HZ1 := hid hz1
   clear hz1
   go_wp2
   go_roundg (left (nxt t))
   case measure => rw [← HL.out]; exact HW.out
   case rel => exact ⟨_, rfl, hd1, by rw [HB.out, HT.out], hk.trans hk1, by rw [HZ1.out, HZ.out]⟩
theorem Tryz.infoInt : (Tryz.prog.info? 3).map (fun i => (i.zero, i.size, i.bytes)) = some (some (.int .i64 0), 1, 8) := by kernel_rfl
theorem make_ints (n : Nat) (w : World) (h : n ≤ 1000000) : (Instr.makeSlice 22 (.int .i64 n) (.int .i64 n)).run prog w = .ok (.slice (some ⟨w.heap.size, 0, none⟩) n n) (w.alloc (.cells (cellsOf i64 (List.replicate n 0)) 3)) := by
 obtain ⟨i0, hi, hz0, hz1, hz2⟩ := info_parts Tryz.infoInt
 have := run_make (P := prog) w 22 3 i0 (.int .i64 0) Tryz.underlying22 hi hz0 .i64 .i64 n n (by omega) (by omega) (by rw [hz2]; omega) (by omega)
 rw [this, hz1]
 simp only [Int.toNat_natCast, Nat.mul_one, Value.cells]
 rw [show (#[Value.int .i64 0]) = #[i64 0] from rfl, madeCells_of]
set_option maxHeartbeats 400000 in
theorem dorder_die (b : Nat) (n : Nat) (s : Int) (w : World) (h : Die w b s) (hn : 1 ≤ n) (hn2 : n ≤ 65536) :
  Calls prog 20 #[.pointer (some ⟨b, 0, none⟩), .int .i64 n] w fun e w' =>
   ∃ B, w.heap.size ≤ B ∧ e = .returned (.slice (some ⟨B, 0, none⟩) n n) ∧ Blk i64 w' B (orderL n s).1 ∧ Die w' b (orderL n s).2 ∧ Kept (· = b) w w' := by
 have hmk := fun w => make_ints n w (by omega)
 go_enter func20, ntmps20
 go_wp2
 go_loopg [20] n (fun g i wr => ∃ j : Nat, j + g = n ∧ i = .int .i64 j ∧ Blk i64 wr w.heap.size (upTo j ++ List.replicate g 0) ∧ Die wr b s ∧ Kept (· = b) w wr)
 case atStart => exact ⟨0, by omega, rfl, Blk.new _ _ _ _, h.below ((Below.refl _ _).alloc (Nat.le_refl _) _), (Kept.refl _ _).alloc _⟩
 case round =>
  obtain ⟨j, hj, rfl, hB, hd, hK⟩ := hrel
  have hlen := upTo_length j
  by_cases hlt : j < n
  ·have hjk := hid hj
   clear hj
   have hl := hid hlen
   clear hlen
   have hll : (upTo j ++ List.replicate gk 0).length = n := by have := hl.out; have := hjk.out; simp; omega
   obtain ⟨v0, hc⟩ := hB.has j (by omega)
   have hf := hB.free j
   have HL := hid hll
   clear hll
   go_wp2
   go_roundg (gk - 1)
   case measure => have := hjk.out; omega
   case rel =>
    refine ⟨j + 1, by have := hjk.out; omega, by go_num, ?_, ?_, ?_⟩
    ·have := hB.set j (j : Int)
     have e : (upTo j ++ List.replicate gk 0).set j (j : Int) = upTo (j + 1) ++ List.replicate (gk - 1) 0 := by
      have := hjk.out
      obtain ⟨g, rfl⟩ : ∃ g, gk = g + 1 := ⟨gk - 1, by omega⟩
      rw [List.set_append_right _ _ (by rw [hl.out]; omega), hl.out, upTo_succ]
      simp [List.replicate_succ]
     rw [e] at this
     exact this
    ·exact hd.other ⟨w.heap.size, j, none⟩ _ (by have := h.lt; simp; omega)
    ·exact hK.setCell (p := ⟨w.heap.size, j, none⟩) (fun x => absurd x (Nat.lt_irrefl _)) _
  ·obtain rfl : j = n := by omega
   obtain rfl : gk = 0 := by omega
   rw [List.replicate_zero, List.append_nil] at hB
   obtain ⟨wo, hwo⟩ : ∃ wo : World, wo = wr := ⟨_, rfl⟩
   rw [← hwo] at hB hd hK
   subst hwo
   go_wp2
   go_loopg [8] (j - 1) (fun g i wr => ∃ (l : List Int) (t : Int), g < j ∧ i = .int .i64 g ∧ Blk i64 wr w.heap.size l ∧ l.length = j ∧ Die wr b t ∧ orderGo g l t = orderL j s ∧ Kept (· = b) w wr)
   case atStart => exact ⟨upTo j, s, by omega, by congr 1; omega, hB, hlen, hd, rfl, hK⟩
   case round =>
    obtain ⟨l, t, hg, rfl, hB, hlen, hd, ho, hK⟩ := hrel
    have HO := hid ho
    have HN := hid hlen
    clear ho hlen
    by_cases hlt : 1 ≤ gk
    ·go_wp2_with fail
     refine (dbelow_die b _ _ wr hd (by omega) (by omega)).mono ?_
     have hr := below_range (gk + 1) t (by omega) (by omega)
     generalize hbe : below (gk + 1) t = be at *
     obtain ⟨x, t'⟩ := be
     obtain ⟨r1, r2, r3, r4⟩ := hr
     simp only at r1 r2
     clear r3 r4
     obtain ⟨x, rfl⟩ := Int.eq_ofNat_of_zero_le r1
     rintro e w1 ⟨rfl, hd1, hk1, hz1⟩
     have HZ := hid hz1
     have HBE := hid hbe
     clear hz1 hbe
     have hB1 := hB.kept hk1 (by have := h.lt; omega)
     have hx : x < l.length := by have := HN.out; omega
     have hgl : gk < l.length := by have := HN.out; omega
     obtain ⟨v, hv⟩ : ∃ v, v = l.getD x 0 := ⟨_, rfl⟩
     obtain ⟨u, hu⟩ : ∃ v, v = l.getD gk 0 := ⟨_, rfl⟩
     have c1 : w1.cell? ⟨w.heap.size, x, none⟩ = some (.int .i64 v) := by rw [hv, hB1.cell x hx]; simp [hx]
     have c2 : w1.cell? ⟨w.heap.size, gk, none⟩ = some (.int .i64 u) := by rw [hu, hB1.cell gk hgl]; simp [hgl]
     have f1 := hB1.free x
     have f2 := hB1.free gk
     have hx' : x < j := by omega
     have HV := hid hv
     have HU := hid hu
     clear hv hu hx hgl
     obtain ⟨v', hy'⟩ := cell?_setCell_some (w := w1) (p := ⟨w.heap.size, gk, none⟩) (x := .int .i64 v) (q := ⟨w.heap.size, x, none⟩) (v := .int .i64 v) c1
     go_wp2
     go_region
     all_goals go_wp2
     all_goals go_roundg (gk - 1)
     case measure => omega
     case rel =>
      refine ⟨swapL l gk x, t', by omega, by congr 1; omega, ?_, by rw [swapL_length]; exact HN.out, ?_, ?_, ?_⟩
      ·have := ((hB1.set gk v).set x u).drew
       rw [HV.out, HU.out] at this
       rw [HV.out, HU.out]
       exact this
      ·exact ((hd1.other ⟨w.heap.size, gk, none⟩ _ (by have := h.lt; simp; omega)).other ⟨w.heap.size, x, none⟩ _ (by have := h.lt; simp; omega)).drew
      ·rw [← HO.out]
       obtain ⟨g, rfl⟩ : ∃ g, gk = g + 1 := ⟨gk - 1, by omega⟩
       have hh := HBE.out
       rw [show ((g + 1 : Nat) : Int) + 1 = (g : Int) + 2 by omega] at hh
       simp [orderGo, hh]
      ·exact (((hK.trans hk1).setCell (p := ⟨w.heap.size, gk, none⟩) (fun x => absurd x (Nat.lt_irrefl _)) _).setCell (p := ⟨w.heap.size, x, none⟩) (fun x => absurd x (Nat.lt_irrefl _)) _).drew
    ·obtain rfl : gk = 0 := by omega
     go_wp2
     go_ret
     have := HO.out
     simp only [orderGo] at this
     rw [← this]
     exact ⟨w.heap.size, Nat.le_refl _, rfl, hB, hd, hK⟩
section
variable {P : Program} {n : Nat} {ops : Array Oper} {fuel : Nat} {L : Array Bool} {env : Env} {bx : Bxs} {H : Hs} {K : Env → Bxs → Hs → Prop} {τ : Tab} {d : Nat} {o : Oper} {v : Value}
theorem EVA.three {o' o'' : Oper} (p q s : Nat) (hr : (Region.ready .any ops L == [p, q, s]) = true) (ho : ops[p]? = some o) (ho' : ops[q]? = some o') (ho'' : ops[s]? = some o'') (h : EVL P n ops [o] env bx H (fun e env bx H' => e = .normal ∧ EVA P n ops fuel (L.setIfInBounds p true) env bx H' K))
  (h' : EVL P n ops [o'] env bx H (fun e env bx H' => e = .normal ∧ EVA P n ops fuel (L.setIfInBounds q true) env bx H' K)) (h'' : EVL P n ops [o''] env bx H (fun e env bx H' => e = .normal ∧ EVA P n ops fuel (L.setIfInBounds s true) env bx H' K)) : EVA P n ops (fuel + 1) L env bx H K := by
 have hr' := eq_of_beq hr
 refine EVA.step (fun z hz => ?_) (by rw [hr']; rfl)
 rw [hr'] at hz
 rcases List.mem_cons.1 hz with rfl | hz
 ·exact ⟨o, ho, h⟩
 ·rcases List.mem_cons.1 hz with rfl | hz
  ·exact ⟨o', ho', h'⟩
  ·obtain rfl : z = s := by simpa using hz
   exact ⟨o'', ho'', h''⟩
theorem EVL.eqnilP {rest : List Oper} {Q : EQ} {T T' e : TypeId} {x : Operand} {p : Addr} (hT : P.underlying T = some (.pointer e)) (ho : o.op = .binOp .eql T x (.const (.pointer none)) T') (hw : wantB ops env o = some true) (hd : o.dst = some d) (hn : Nat.blt d n = true)
  (hx : env.op x = some (.v (.pointer (some p)))) (h : EVL P n ops rest ((d, .v (.bool false)) :: env) bx H Q) : EVL P n ops (o :: rest) env bx H Q :=
 EVL.gen hw hd hn (fun ev W he => by
  have ex := he x _ (by simp [ho, Op.operands]) hx
  have ey := he (.const (.pointer none)) _ (by simp [ho, Op.operands]) rfl
  have hq : (Op.equalIn (9999 + 1) T (.pointer (some p)) (.pointer none)).run P W = .ok false W := by
   unfold Op.equalIn
   simp [run_underlying hT]
  have hm : Op.maxDepth = 9999 + 1 := rfl
  unfold execOp
  simp [ho, ex, ey, eqGuard, binOp, Op.equal, hm, hq]) h
end
theorem dnew_po {H : Hp} (s : Int) : PO prog 12 #[.int .u64 s] H fun v ow => ∃ g, v = .pointer (some ⟨g, 0, none⟩) ∧ ow = [(g, 92, [.int .u64 s])] :=
 ⟨(cO func12), fun W _ _ => (dnew_any s W).mono fun e W' ⟨he, hw⟩ => by
  subst hw
  refine ⟨_, _, he, ⟨_, rfl, rfl⟩, ⟨by simp, fun b T cs h => ?_⟩, (Below.refl _ _).alloc (Nat.le_refl _) _⟩
  rw [List.mem_singleton] at h
  cases h
  exact ⟨Nat.le_refl _, Box.new W _ _⟩⟩
theorem order_pw {H : Hp} {b n : Nat} {T : TypeId} {s : Int} (hs : 0 ≤ s) (hn : 1 ≤ n) (hn2 : n ≤ 65536) :
  PW prog 20 #[.pointer (some ⟨b, 0, none⟩), .int .i64 (n : Int)] H [(b, T, [.int .u64 s])] fun v ow H' => (∃ T', ow = [(b, T', [.int .u64 (orderL n s).2])]) ∧ 0 ≤ (orderL n s).2 ∧ IL H' v (orderL n s).1 := by
 refine ⟨(cO func20), fun W hf hg hL hd => ?_⟩
 obtain ⟨hB, hHb, _⟩ := hL 0 b T _ rfl
 refine (dorder_die b n s W ⟨hs, T, hB⟩ hn hn2).mono ?_
 rintro e W' ⟨B, hBs, rfl, ⟨T2, hblk⟩, ⟨hs', T', hdie⟩, hk⟩
 have hBn : H B = none := by
  cases hc : H B with
  | none => rfl
  | some c => have := hf.lt (b := B) (by rw [hc]; simp); omega
 have hbB : b ≠ B := by
  have := hB.lt
  omega
 have hlen : (orderL n s).1.length = n := by
  unfold orderL
  rw [orderGo_length, upTo_length]
 refine ⟨_, [(b, T', [.int .u64 (orderL n s).2])], H.put B (cellsOf i64 (orderL n s).1), rfl, ⟨⟨T', rfl⟩, hs', ?_⟩, fun k c hc => ?_, fun k c hc => ?_, fun k c hc => ?_, hk.mono (fun k _ e => by subst e; exact Ows.bs_mem (j := 0) rfl), fun j b' T1 cs hj => ?_, ?_⟩
 ·refine ⟨by simp, .inr ⟨B, 0, n, cellsOf i64 (orderL n s).1, by rw [hlen], by rw [hlen]; exact Nat.le_refl _, by simp [Hp.put], fun q x hq => by rw [Nat.zero_add]; simpa [cellsOf] using hq⟩⟩
 ·have : k ≠ B := fun e => by subst e; rw [hBn] at hc; cases hc
  simp only [Hp.put, if_neg this]; exact hc
 ·by_cases e : k = B
  ·subst e; simp only [Hp.put, if_true] at hc; cases hc; exact ⟨T2, (0, 0), hblk⟩
  ·simp only [Hp.put, if_neg e] at hc
   obtain ⟨T3, fz, hW⟩ := hf k c hc
   refine ⟨T3, fz, ?_⟩
   rw [hk.block k (hf.lt (by rw [hc]; simp)) (fun e => by subst e; rw [hHb] at hc; cases hc)]; exact hW
 ·by_cases e : k = B
  ·subst e; simp only [Hp.put, if_true] at hc; cases hc; exact .inr ⟨hBs, T2, hblk⟩
  ·simp only [Hp.put, if_neg e] at hc; exact .inl hc
 ·cases j with
  | zero =>
   cases (show some (b, T', [Value.int .u64 (orderL n s).2]) = some (b', T1, cs) from hj)
   exact ⟨hdie, .inr (Ows.bs_mem (j := 0) rfl), by simp only [Hp.put, if_neg hbB]; exact hHb⟩
  | succ j => simp at hj
 ·intro j j' b' T1 T2 c1 c2 h1 h2
  cases j with
  | zero => cases j' with
   | zero => rfl
   | succ j' => simp at h2
  | succ j => simp at h1
end Go.Proofs.YtejljnlfgiifoaaGreatDoor
namespace Go.Proofs.YtejljnlfgiifoaaGreatDoor
theorem colN_cong {k1 k2 : Int → Rat} {wo : List Int → Rat} {L : Int} {m1 m2 : List Int} {f : Rat → Rat} : ∀ n, (∀ j, j < n → candC k1 L m1 j = candC k2 L m2 j ∧ (candC k1 L m1 j = true → midC k2 m2 j = f (midC k1 m1 j) ∧ sumW wo m2 j = sumW wo m1 j)) →
  colN k2 wo L m2 n = (colN k1 wo L m1 n).map fun p => (f p.1, p.2)
 | 0, _ => rfl
 | n + 1, h => by
  have ih := colN_cong n (fun j hj => h j (by omega))
  obtain ⟨h1, h2⟩ := h n (Nat.lt_succ_self _)
  by_cases hc : candC k1 L m1 n = true
  ·obtain ⟨e1, e2⟩ := h2 hc
   have hc2 : candC k2 L m2 n = true := by rw [← h1]; exact hc
   rw [colN, colN, if_pos hc, if_pos hc2, ih, e1, e2]
   cases colN k1 wo L m1 n with
   | none => rfl
   | some p =>
    obtain ⟨a, w⟩ := p
    dsimp only [Option.map_some]
    by_cases hw : w < sumW wo m1 n
    ·rw [if_pos hw, if_pos hw]; rfl
    ·rw [if_neg hw, if_neg hw]; rfl
  ·have hc2 : ¬ candC k2 L m2 n = true := by rw [← h1]; exact hc
   rw [colN, colN, if_neg hc, if_neg hc2, ih]
theorem bestF_cong {f : Rat → Rat} : ∀ (ps : List (Int × Option (Rat × Rat))), bestF (ps.map fun p => (p.1, p.2.map fun q => (f q.1, q.2))) = (bestF ps).map fun t => (t.1, f t.2.1, t.2.2) := by
 have key : ∀ (ps : List (Int × Option (Rat × Rat))) (st : Option (Int × Rat × Rat)), (ps.map fun p => (p.1, p.2.map fun q => (f q.1, q.2))).foldl bestS (st.map fun t => (t.1, f t.2.1, t.2.2)) = (ps.foldl bestS st).map fun t => (t.1, f t.2.1, t.2.2) := by
  intro ps
  induction ps with
  | nil => intro st; rfl
  | cons p ps ih =>
   intro st
   rw [List.map_cons, List.foldl_cons, List.foldl_cons, ← ih]
   congr 1
   obtain ⟨c, o⟩ := p
   unfold bestS
   cases o with
   | none => rfl
   | some q =>
    obtain ⟨a, w⟩ := q
    cases st with
    | none => rfl
    | some t =>
     obtain ⟨c0, a0, w0⟩ := t
     dsimp only [Option.map_some]
     by_cases h : w0 < w
     ·rw [if_pos h, if_pos h]; rfl
     ·rw [if_neg h, if_neg h]; rfl
 intro ps
 exact key ps none
theorem cols_eq {a b : List Int} : ∀ {l m : List Int}, l.Pairwise (· < ·) → m.Pairwise (· < ·) → (∀ c, c ∈ l ↔ c ∈ m) → l = m
 | [], [], _, _, _ => rfl
 | [], y :: m, _, _, h => by have := (h y).2 (List.mem_cons_self ..); cases this
 | x :: l, [], _, _, h => by have := (h x).1 (List.mem_cons_self ..); cases this
 | x :: l, y :: m, hl, hm, h => by
  obtain ⟨h1, h2⟩ := List.pairwise_cons.1 hl
  obtain ⟨h3, h4⟩ := List.pairwise_cons.1 hm
  have e : x = y := by
   rcases List.mem_cons.1 ((h x).1 (List.mem_cons_self ..)) with e | e
   ·exact e
   ·rcases List.mem_cons.1 ((h y).2 (List.mem_cons_self ..)) with e2 | e2
    ·exact e2.symm
    ·have := h1 y e2
     have := h3 x e
     omega
  subst e
  rw [cols_eq (a := a) (b := b) h2 h4 fun c => ?_]
  constructor
  ·intro hc
   rcases List.mem_cons.1 ((h c).1 (List.mem_cons_of_mem _ hc)) with rfl | h5
   ·exact absurd (h1 c hc) (by omega)
   ·exact h5
  ·intro hc
   rcases List.mem_cons.1 ((h c).2 (List.mem_cons_of_mem _ hc)) with rfl | h5
   ·exact absurd (h3 c hc) (by omega)
   ·exact h5
theorem colR_cong {X Y : List (List Rat)} {wo cost : List Int → Rat} {rs rs' : List Int} {L c : Int} {f : Rat → Rat} {o o' : Option (Rat × Rat)} (hp : POk wo cost) (hr : rs.Perm rs') (hlt : ∀ a b : Rat, a < b ↔ f a < f b) (hmid : ∀ a b : Rat, (f a + f b) / 2 = f ((a + b) / 2))
  (hk : ∀ r, r ∈ rs → hasC Y c r = hasC X c r ∧ (hasC X c r = true → colK Y c r = f (colK X c r))) (h : ColR X wo rs L c o) (h' : ColR Y wo rs' L c o') : o' = o.map fun p => (f p.1, p.2) := by
 obtain ⟨m, hs, rfl, _⟩ := h
 obtain ⟨m', hs', rfl, _⟩ := h'
 have hall : rs'.all (hasC Y c) = rs.all (hasC X c) := by
  rw [Bool.eq_iff_iff, List.all_eq_true, List.all_eq_true]
  constructor
  ·intro h r hm; rw [← (hk r hm).1]; exact h r (hr.mem_iff.1 hm)
  ·intro h r hm; rw [(hk r (hr.mem_iff.2 hm)).1]; exact h r (hr.mem_iff.2 hm)
 rcases hs with ⟨ha, hm1, hr1⟩ | ⟨ha, rfl⟩
 ·rcases hs' with ⟨_, hm2, hr2⟩ | ⟨ha2, _⟩
  ·have hmem : ∀ r, r ∈ m' → r ∈ rs := fun r h => hr.mem_iff.2 (hm2.mem_iff.1 h)
   have hkey : ∀ r, r ∈ rs → colK Y c r = f (colK X c r) := fun r h => (hk r h).2 (List.all_eq_true.1 ha r h)
   have hle : ∀ a b : Rat, f a ≤ f b → a ≤ b := fun a b h => Rat.not_lt.1 fun k => absurd ((hlt b a).1 k) (Rat.not_lt.2 h)
   have hr2' : RisK (colK X c) m' := by
    have e : m'.map (colK Y c) = (m'.map (colK X c)).map f := by
     rw [List.map_map]; exact List.map_congr_left fun r h => hkey r (hmem r h)
    have hr3 : (m'.map (colK Y c)).Pairwise (· ≤ ·) := hr2
    rw [e] at hr3
    exact (List.pairwise_map.1 hr3).imp (fun {a b} h => hle a b h)
   have hpm : m'.Perm m := hm2.trans (hr.symm.trans hm1.symm)
   have hml := hpm.length_eq
   have hkk : m'.map (colK X c) = m.map (colK X c) := rising_one hr2' hr1 (hpm.map _)
   have hget : ∀ i, i < m.length → colK X c (m'.getD i 0) = colK X c (m.getD i 0) := fun i hi => by
    have := congrArg (fun l : List Rat => l[i]?) hkk
    simp only [List.getElem?_map] at this
    rw [List.getElem?_eq_getElem (show i < m'.length by omega), List.getElem?_eq_getElem hi] at this
    simpa [hi, hml] using this
   have hgm : ∀ i, i < m.length → m'.getD i 0 ∈ rs := fun i hi => hmem _ (by rw [List.getD_eq_getElem?_getD, List.getElem?_eq_getElem (show i < m'.length by omega)]; exact List.getElem_mem _)
   have hgy : ∀ i, i < m.length → colK Y c (m'.getD i 0) = f (colK X c (m.getD i 0)) := fun i hi => by rw [hkey _ (hgm i hi), hget i hi]
   have hax : ∀ r, r ∈ rs → hasC X c r = true := List.all_eq_true.1 ha
   rw [hml]
   refine colN_cong _ fun j hj => ?_
   have hj1 : j + 1 < m.length := by omega
   have hcc : candC (colK X c) L m j = candC (colK Y c) L m' j := by
    unfold candC
    rw [hgy j (by omega), hgy (j + 1) hj1, hml]
    congr 1
    exact decide_eq_decide.2 (hlt _ _)
   refine ⟨hcc, fun hc => ⟨?_, ?_⟩⟩
   ·unfold midC
    rw [hgy j (by omega), hgy (j + 1) hj1, hmid]
   ·obtain ⟨_, _, hlt1⟩ := candC_iff.1 hc
    obtain ⟨hl, hh⟩ := sides_at hm1 hr1 hax hj1 hlt1
    have hlt2 : colK X c (m'.getD j 0) < colK X c (m'.getD (j + 1) 0) := by rw [hget j (by omega), hget (j + 1) hj1]; exact hlt1
    obtain ⟨hl2, hh2⟩ := sides_at (hpm.trans hm1) hr2' hax (show j + 1 < m'.length by omega) hlt2
    have hme : midC (colK X c) m' j = midC (colK X c) m j := by unfold midC; rw [hget j (by omega), hget (j + 1) hj1]
    rw [hme] at hl2 hh2
    unfold sumW
    rw [hp.wperm _ _ (hl2.symm.trans hl), hp.wperm _ _ (hh2.symm.trans hh)]
  ·rw [hall, ha] at ha2; cases ha2
 ·rcases hs' with ⟨ha2, _, _⟩ | ⟨_, rfl⟩
  ·rw [hall, ha] at ha2; cases ha2
  ·rfl
theorem best_cong {X Y : List (List Rat)} {wo cost : List Int → Rat} {rs rs' cols cols' : List Int} {L : Int} {f : Rat → Rat} (hp : POk wo cost) (hr : rs.Perm rs') (hc : ∀ c, c ∈ cols ↔ c ∈ cols') (hlt : ∀ a b : Rat, a < b ↔ f a < f b) (hmid : ∀ a b : Rat, (f a + f b) / 2 = f ((a + b) / 2))
  (hk : ∀ c, c ∈ cols → ∀ r, r ∈ rs → hasC Y c r = hasC X c r ∧ (hasC X c r = true → colK Y c r = f (colK X c r))) {ps ps' : List (Int × Option (Rat × Rat))} (h1 : Cols cols (ps.map (·.1))) (h2 : ∀ p, p ∈ ps → ColR X wo rs L p.1 p.2) (h1' : Cols cols' (ps'.map (·.1))) (h2' : ∀ p, p ∈ ps' → ColR Y wo rs' L p.1 p.2) :
  bestF ps' = (bestF ps).map fun t => (t.1, f t.2.1, t.2.2) := by
 have hcs : ps.map (·.1) = ps'.map (·.1) := cols_eq (a := []) (b := []) h1.1 h1'.1 fun c => (h1.2 c).trans ((hc c).trans (h1'.2 c).symm)
 rw [← bestF_cong]
 congr 1
 have hmem : ∀ p, p ∈ ps → p.1 ∈ cols := fun p h => (h1.2 p.1).1 (List.mem_map.2 ⟨p, h, rfl⟩)
 clear h1 h1' hc
 induction ps generalizing ps' with
 | nil => cases ps' with
  | nil => rfl
  | cons q qs => cases hcs
 | cons p ps ih => cases ps' with
  | nil => cases hcs
  | cons q qs =>
   simp only [List.map_cons, List.cons.injEq] at hcs
   obtain ⟨e1, e2⟩ := hcs
   obtain ⟨c, o⟩ := p
   obtain ⟨c', o'⟩ := q
   dsimp only at e1
   subst e1
   have ho := colR_cong hp hr hlt hmid (hk c (hmem (c, o) (List.mem_cons_self ..))) (h2 (c, o) (List.mem_cons_self ..)) (h2' (c, o') (List.mem_cons_self ..))
   dsimp only at ho
   rw [List.map_cons, ih (fun p hp => h2 p (List.mem_cons_of_mem _ hp)) (fun p hp => h2' p (List.mem_cons_of_mem _ hp)) e2 (fun p hp => hmem p (List.mem_cons_of_mem _ hp)), ho]
end Go.Proofs.YtejljnlfgiifoaaGreatDoor
namespace Go.Proofs.YtejljnlfgiifoaaGreatDoor
open Go.RowKit _root_.Go.Proofs.Tryz
def BestN (X : List (List Rat)) (wo : List Int → Rat) (rs cols : List Int) (ci : Int) (a g : Rat) (ok : Bool) : Prop :=
 ∃ ps : List (Int × Option (Rat × Rat)), Cols cols (ps.map (·.1)) ∧ (∀ p, p ∈ ps → ColR X wo rs (max 1 1) p.1 p.2) ∧ ((ok = true ∧ ∃ w, bestF ps = some (ci, a, w) ∧ g = w - wo rs) ∨ (ok = false ∧ bestF ps = none ∧ ci = 0 ∧ a = 0 ∧ g = 0))
theorem bestR_norm {X : List (List Rat)} {wo : List Int → Rat} {rs cols : List Int} {r : Value} (h : BestR X wo rs cols 1 r) : ∃ ci a g ok, r = .tuple #[cutV ci a g, .bool ok] ∧ BestN X wo rs cols ci a g ok := by
 obtain ⟨ps, h1, h2, ⟨h3, rfl⟩ | ⟨c, a, w, h3, rfl⟩⟩ := h
 ·exact ⟨0, 0, 0, false, rfl, ps, h1, h2, .inr ⟨rfl, h3, rfl, rfl, rfl⟩⟩
 ·exact ⟨c, a, w - wo rs, true, rfl, ps, h1, h2, .inl ⟨rfl, w, h3, rfl⟩⟩
theorem best_same {X Y : List (List Rat)} {wo cost : List Int → Rat} {rs rs' cols cols' : List Int} {f : Rat → Rat} {ci : Int} {a g : Rat} {ok : Bool} {r : Value} (hp : POk wo cost) (hr : rs.Perm rs') (hc : ∀ c, c ∈ cols ↔ c ∈ cols') (hlt : ∀ a b : Rat, a < b ↔ f a < f b) (hmid : ∀ a b : Rat, (f a + f b) / 2 = f ((a + b) / 2))
  (hk : ∀ c, c ∈ cols → ∀ r, r ∈ rs → hasC Y c r = hasC X c r ∧ (hasC X c r = true → colK Y c r = f (colK X c r))) (h : BestN X wo rs cols ci a g ok) (h' : BestR Y wo rs' cols' 1 r) : r = .tuple #[cutV ci (if ok = true then f a else 0) g, .bool ok] := by
 obtain ⟨ps, h1, h2, h3⟩ := h
 obtain ⟨ps', h1', h2', h3'⟩ := h'
 have hb := best_cong hp hr hc hlt hmid hk h1 h2 h1' h2'
 have hw := hp.wperm _ _ hr
 rcases h3 with ⟨rfl, w, h4, rfl⟩ | ⟨rfl, h4, rfl, rfl, rfl⟩
 ·rw [h4] at hb
  rcases h3' with ⟨h5, _⟩ | ⟨c, a2, w2, h5, rfl⟩
  ·rw [h5] at hb; cases hb
  ·rw [h5] at hb
   cases hb
   rw [hw]; rfl
 ·rw [h4] at hb
  rcases h3' with ⟨h5, rfl⟩ | ⟨c, a2, w2, h5, _⟩
  ·rfl
  ·rw [h5] at hb; cases hb
theorem bestN_ht {X : List (List Rat)} {wo : List Int → Rat} {rs cols : List Int} {ci : Int} {a g : Rat} {ok : Bool} (h : BestN X wo rs cols ci a g ok) (hX : ∀ x, x ∈ X → ∀ q, q ∈ x → ht q ≤ 5) (hw : ht (wo rs) ≤ 100000) : ht a ≤ 100 ∧ ht g ≤ 400000 := by
 obtain ⟨ps, h1, h2, ⟨_, w, h4, rfl⟩ | ⟨_, _, _, rfl, rfl⟩⟩ := h
 ·have hm := bestF_mem h4
  obtain ⟨m, _, ho, hwb⟩ := h2 _ hm
  obtain ⟨j, _, _, hje, _⟩ := colN_mem ho.symm
  have h5 := ht_sub w (wo rs)
  have h6 : ht w ≤ 200001 := hwb
  exact ⟨by rw [hje]; exact midC_ht hX _ _ _, by omega⟩
 ·rw [ht_zero]; exact ⟨by omega, by omega⟩
theorem colK_map {X : List (List Rat)} {f : Rat → Rat} {c r : Int} : hasC (X.map fun x => x.map f) c r = hasC X c r ∧ (hasC X c r = true → colK (X.map fun x => x.map f) c r = f (colK X c r)) := by
 have hg : (X.map fun x => x.map f).getD r.toNat [] = (X.getD r.toNat []).map f := by
  rw [List.getD_eq_getElem?_getD, List.getD_eq_getElem?_getD, List.getElem?_map]
  cases X[r.toNat]? <;> rfl
 unfold hasC colK
 rw [hg, List.length_map]
 refine ⟨rfl, fun h => ?_⟩
 simp only [Bool.and_eq_true, decide_eq_true_eq] at h
 generalize X.getD r.toNat [] = x at *
 have hl : c.toNat < x.length := by omega
 simp [List.getD_eq_getElem?_getD, hl]
theorem aff_lt {K M : Rat} (hK : 0 < K) (a b : Rat) : a < b ↔ a * K + M < b * K + M := by
 constructor
 ·intro h
  have := Rat.mul_pos (show 0 < b - a by grind) hK
  grind
 ·intro h
  refine Rat.not_le.1 fun k => ?_
  have := Rat.mul_nonneg (show 0 ≤ a - b by grind) (Rat.le_of_lt hK)
  grind
set_option maxHeartbeats 32000000 in
theorem units_pc {H : Hp} {v v2 : Value} {l l2 : List Int} (h : IL H v l) (hb : ∀ z, z ∈ l → -9223372036854775808 ≤ z ∧ z < 9223372036854775808) (h2 : IL H v2 l2) (hb2 : ∀ z, z ∈ l2 → -9223372036854775808 ≤ z ∧ z < 9223372036854775808) (kd0 n0 w0 y0 m0 s0 : Int) (hn0 : -9223372036854775808 ≤ n0 ∧ n0 < 9223372036854775808) (hw0 : -9223372036854775808 ≤ w0 ∧ w0 < 9223372036854775808) (hy0 : -9223372036854775808 ≤ y0 ∧ y0 < 9223372036854775808) (hm0 : -9223372036854775808 ≤ m0 ∧ m0 < 9223372036854775808) (hs0 : 0 ≤ s0) (hkn : PV prog 13 #[] (.bool true)) :
  PC prog 3 #[.int .i64 kd0, v, v2, .int .i64 n0, .int .i64 w0, .int .i64 y0, .int .i64 m0, .int .u64 s0] H fun r _ => r = .bool true := by
 obtain ⟨a, cap, rfl⟩ := SlC.val h
 obtain ⟨a2, cap2, rfl⟩ := SlC.val h2
 have hpk := pick_pv n0 9 hn0 (by omega) (by omega)
 have hpk2 := pick_pv w0 3 hw0 (by omega) (by omega)
 obtain ⟨N, hN⟩ : ∃ N : Nat, 1 + n0 % 9 = (N : Int) := ⟨(1 + n0 % 9).toNat, by omega⟩
 obtain ⟨W, hW⟩ : ∃ N : Nat, 1 + w0 % 3 = (N : Int) := ⟨(1 + w0 % 3).toNat, by omega⟩
 have hN1 : 1 ≤ N := by omega
 have hN2 : N ≤ 9 := by omega
 have hW1 : 1 ≤ W := by omega
 have hW2 : W ≤ 3 := by omega
 have hgoal := goal_pc h hb kd0 N (by omega)
 have hrows := fun (G : Hp) (hG : H.Le G) => rows_pc (h2.mono hG) hb2 N W (by omega) (by omega)
 have hq5 := rowQ_ht (l := l) N
 have hql := rowQ_len l N
 have hXl := rowsQ_len l2 N W
 have hXb : ∀ x, x ∈ rowsQ l2 N W → ∀ q, q ∈ x → ht q ≤ 5 := fun x hx => (rowsQ_ht x hx).2
 have hXr : ∀ x, x ∈ rowsQ l2 N W → x.length ≤ 1000000 ∧ ∀ q, q ∈ x → rq q := fun x hx => ⟨by rw [(rowsQ_ht x hx).1]; omega, fun q hq => rq_small (hXb x hx q hq) (by omega)⟩
 have hXw : ∀ x, x ∈ rowsQ l2 N W → x.length = W := fun x hx => (rowsQ_ht x hx).1
 have hX100 : ∀ x, x ∈ rowsQ l2 N W → ∀ q, q ∈ x → ht q ≤ 100 := fun x hx q hq => Nat.le_trans (hXb x hx q hq) (by omega)
 have hXs : ∀ x, x ∈ rowsQ l2 N W → ∀ q, q ∈ x → sm q := fun x hx q hq => sm_of (hXb x hx q hq) (by omega)
 have hhas : ∀ c, c ∈ rowsL W → ∀ r, r ∈ rowsL N → hasC (rowsQ l2 N W) c r = true := fun c hc r hr => has_rows (rowsL_mem c hc) (rowsL_mem r hr)
 have hrl := rowsL_len N
 have hrm := rowsL_mem (n := N)
 have hex := exL_all hrm
 generalize rowQ l N = qs at *
 generalize rowsQ l2 N W = X at *
 refine BD func3 ntmps3 ?_
 repeat (first | refine RUN ?_ | refine CV (hpk) ?_ | refine CE (hpk) ?_)
 rw [show IntKind.i64.wrap (1 + n0 % 9) = (N : Int) by rw [IntKind.wrap_i64]; omega]
 repeat (first | refine RUN ?_ | refine CV (hpk2) ?_ | refine CE (hpk2) ?_)
 rw [show IntKind.i64.wrap (1 + w0 % 3) = (W : Int) by rw [IntKind.wrap_i64]; omega]
 try refine RUN ?_
 refine EVL.call rfl rfl rfl rfl rfl (hgoal) ?_
 intro r1 G1 hr hG1
 try refine RUN ?_
 have hrv : ∃ k c s t, r1 = goalV k c s t := by
  rcases hr with ⟨s, rfl, _⟩ | ⟨c, s, _, rfl, _⟩
  ·exact ⟨_, _, _, _, rfl⟩
  ·exact ⟨_, _, _, _, rfl⟩
 have hik := inGoal_k hr hql (by omega) (by omega) hq5
 obtain ⟨k1, c1, s1, t1, rfl⟩ := hrv
 refine EVL.call rfl rfl rfl rfl rfl (hik) ?_
 rintro r2 G2 ⟨kd, cl, la, ln, lc, va, vn, vc, S, wo, cost, hK⟩ hG2
 obtain rfl := hK.val
 have hg2 := hK.ok
 have hlaw := hK.law
 try refine RUN ?_
 refine EVL.call rfl rfl rfl rfl rfl (hrows _ (hG1.trans hG2)) ?_
 intro r3 G3 hRL hG3
 obtain ⟨ra, rc, rfl⟩ := hRL.val
 try refine RUN ?_
 refine EVL.call rfl rfl rfl rfl rfl (inRows_pc hRL (by omega) hXr) ?_
 intro r4 G4 hX hG4
 obtain ⟨xa, xc, rfl⟩ := hX.val
 clear hgoal hik hr hRL
 rw [hXl] at hX ⊢
 have hyb := ht_rNum y0
 have hmb := ht_rNum m0
 have hq1 := handQ_pv y0 hy0
 have hq2 := handQ_pv m0 hm0
 have hab := absq_pv (rNum y0) (sm_of hyb (by omega))
 have hof1 := of_pv 1 (by omega) (by omega)
 have h1h : ht ((1 : Int) : Rat) ≤ 10 := by
  have := ht_int 1
  have h2 : bl (1 : Int).natAbs ≤ 5 := bl_le (by decide)
  omega
 have hah := ht_absQ (rNum y0)
 have hKa := add_pv (absQ (rNum y0)) ((1 : Int) : Rat) (by unfold sm; omega) (by unfold sm; omega)
 have hKh := ht_add (absQ (rNum y0)) ((1 : Int) : Rat)
 have hKp : 0 < absQ (rNum y0) + ((1 : Int) : Rat) := by
  have := absQ_pos (rNum y0)
  rw [show ((1 : Int) : Rat) = 1 from rfl]
  generalize absQ (rNum y0) = x at *
  grind
 have hKb : ht (absQ (rNum y0) + ((1 : Int) : Rat)) ≤ 30 := by omega
 generalize absQ (rNum y0) + ((1 : Int) : Rat) = K at *
 generalize hMe : rNum m0 = M at *
 clear hah hKh
 have hWX : ∀ x, x ∈ X → x.length = W := hXw
 have hfh : ∀ q : Rat, ht q ≤ 5 → ht (q * K + M) ≤ 60 := fun q hq => by
  have h1 := ht_mul q K
  have h2 := ht_add (q * K) M
  omega
 try refine RUN ?_
 refine EVL.callO rfl rfl rfl rfl rfl (dnew_po s0) ?_
 rintro vd owd ⟨bd, rfl, rfl⟩
 repeat (first | refine RUN ?_ | refine CV (hkn) ?_ | refine CE (hkn) ?_)
 refine EVL.eqnilP (e := 92) (by kernel_rfl) rfl rfl rfl rfl rfl ?_
 repeat (first | refine RUN ?_ | refine CV (hq1) ?_ | refine CV (hab) ?_ | refine CV (hof1) ?_ | refine CV (hKa) ?_ | refine CV (hq2) ?_ | refine CE (hq1) ?_ | refine CE (hab) ?_ | refine CE (hof1) ?_ | refine CE (hKa) ?_ | refine CE (hq2) ?_)
 refine EV.loopK (ι := Nat × List Value × Value × Ows × Value × Ows) [3, 4, 17, 18, 19, 20, 21, 24] [17, 20, 21] (fun q => [(22, .v q.2.2.1), (23, .v q.2.2.2.2.1), (25, .v (.int .i64 (q.1 : Int)))]) (fun _ => []) (fun q => q.2.2.2.1 ++ (q.2.2.2.2.2 ++ [(bd, 92, [.int .u64 s0])])) (fun q G => q.1 ≤ N ∧ QVs G q.2.1 ((X.map fun x => x.map fun z => z * K + M).take q.1) ∧ OwnL 25 1 q.2.2.1 q.1 q.2.1 q.2.2.2.1 ∧ OwnL 3 1 q.2.2.2.2.1 (rowsL q.1).length ((rowsL q.1).map iv) q.2.2.2.2.2) (fun q => N - q.1) ((0, [], .slice none 0 0, [], .slice none 0 0, [])) rfl rfl ⟨rfl, rfl, rfl, trivial⟩ trivial rfl (fun _ => rfl) (⟨Nat.zero_le _, QVs.nil _, OwnL.nil _ _, OwnL.nil _ _⟩) ?_
 rintro ⟨i, us, wy, owy, wr, owr⟩ G5 hG5 ⟨hi, hus, howy, howr⟩
 dsimp only at hi hus howy howr
 obtain ⟨ya, yc, rfl⟩ := howy.val
 obtain ⟨za, zc, rfl⟩ := howr.val
 try refine RUN ?_
 refine EV.cond rfl (fun hlt => ?_) (fun hlt => ?_)
 ·simp only [nN] at hlt
  obtain ⟨x, hx⟩ : ∃ x, X[i]? = some x := ⟨_, List.getElem?_eq_getElem (by omega)⟩
  have hxl := hWX x (List.mem_of_getElem? hx)
  have hyx : (X.map fun x => x.map fun z => z * K + M)[i]? = some (x.map fun z => z * K + M) := by rw [List.getElem?_map, hx]; rfl
  obtain ⟨vs, hvs, hs⟩ := hX.mono hG5
  obtain ⟨a1, e1, hu1, hQ1⟩ := hvs.at hx
  have hs1 : SlC G5 (.slice a1 x.length e1) x.length 5 (x.flatMap fun q => vlist (fracV q)) := hQ1
  have hiX : i < X.length := by omega
  try refine RUN ?_
  refine EV.loopK (ι := Nat × Value × Ows) [3, 4, 17, 18, 19, 20, 21, 22, 23, 24, 25] [17, 20, 21] (fun q => [(26, .v q.2.1), (27, .v (.int .i64 (q.1 : Int)))]) (fun _ => []) (fun q => q.2.2 ++ (owy ++ (owr ++ [(bd, 92, [.int .u64 s0])]))) (fun q G => q.1 ≤ W ∧ OwnL 45 5 q.2.1 q.1 (((x.map fun z => z * K + M).take q.1).flatMap fun q => vlist (fracV q)) q.2.2) (fun q => W - q.1) ((0, .slice none 0 0, [])) rfl rfl ⟨rfl, rfl, trivial⟩ trivial rfl (fun _ => rfl) (⟨Nat.zero_le _, OwnL.nil _ _⟩) ?_
  rintro ⟨j, u, ou⟩ G6 hG6 ⟨hj, hou⟩
  dsimp only at hj hou
  obtain ⟨ua, uc, rfl⟩ := hou.val
  try refine RUN ?_
  refine EV.cond rfl (fun hlj => ?_) (fun hlj => ?_)
  ·simp only [nN] at hlj
   obtain ⟨z, hz⟩ : ∃ z, x[j]? = some z := ⟨_, List.getElem?_eq_getElem (by omega)⟩
   have hzb := hXb x (List.mem_of_getElem? hx) z (List.mem_of_getElem? hz)
   have hyz : (x.map fun z => z * K + M)[j]? = some (z * K + M) := by rw [List.getElem?_map, hz]; rfl
   have hjx : j < x.length := by omega
   have hmul := mul_pv z K (sm_of hzb (by omega)) (sm_of hKb (by omega))
   have hzm := ht_mul z K
   have hadd := add_pv (z * K) M (sm_of hzm (by omega)) (sm_of hmb (by omega))
   have hs6 := hs.mono hG6
   have hs16 := hs1.mono hG6
   try refine RUN ?_
   apply EV.drawn 13 (by kernel_rfl) (by kernel_rfl); intro xv yw
   (repeat (first | refine' DV ?_ | refine' DA ?_ | refine' DK0 ?_ | refine' DT ?_ | refine' DS ?_))
   refine' DJ.ofVal (ValOk.idx1 tO rfl rfl rfl rfl rfl rfl rfl rfl (hs6) (i) (rfl) (hiX) (hu1)) rfl rfl rfl ?_; rotate_left
   (repeat (first | refine' DV ?_ | refine' DA ?_ | refine' DK0 ?_ | refine' DT ?_ | refine' DS ?_))
   refine' DJ.idxM tO rfl rfl rfl rfl rfl rfl rfl rfl rfl (hs16) (j) (rfl) (hjx) (QL.at (H := H) (v := .bool true) hz) ?_; rotate_left
   (repeat (first | refine' DV ?_ | refine' DA ?_ | refine' DK0 ?_ | refine' DT ?_ | (refine' DC (hmul) (h := ?_); rotate_left) | (refine' DC (hadd) (h := ?_); rotate_left) | refine' DS ?_))
   (refine' DJ.lit tO rfl rfl rfl rfl rfl rfl rfl rfl rfl rfl rfl rfl ?_; rotate_left)
   (refine DJ.nil (fun G7 hG7 hF7 => ?_); (case hS => rfl); (case hS2 => rfl))
   refine EVL.append tO rfl rfl rfl rfl rfl rfl rfl rfl rfl rfl rfl rfl [] ou (owy ++ (owr ++ [(bd, 92, [.int .u64 s0])])) rfl hou (SrcAt.ro hF7.1 (by omega)) rfl (by omega) ?_
   intro v1 ou1 hou1
   try refine RUN ?_
   refine ⟨(j + 1, v1, ou1), ⟨rfl, by rw [wi_inc j (by omega)]; rfl, trivial⟩, (by repeat (first | exact trivial | refine And.intro rfl ?_)), trivial, (by repeat (first | exact trivial | refine And.intro rfl ?_)), rfl, ⟨hlj, by dsimp only; rw [take_snoc hyz, List.flatMap_append]; exact hou1⟩, by assumption, by dsimp only; omega⟩
  ·simp only [nN] at hlj
   obtain rfl : j = W := by omega
   rw [List.take_of_length_le (by rw [List.length_map, hxl]; exact Nat.le_refl _)] at hou
   (first | refine EVL.publishL [] ou (owy ++ (owr ++ [(bd, 92, [.int .u64 s0])])) (rfl) hou fun G7 hG7 hrow => ?_ | refine EV.publishL [] ou (owy ++ (owr ++ [(bd, 92, [.int .u64 s0])])) (rfl) hou fun G7 hG7 hrow => ?_)
   have hrow' : QL G7 (.slice ua j uc) (x.map fun z => z * K + M) := by
    unfold QL
    rw [List.length_map, hxl]
    exact hrow
   try refine RUN ?_
   refine EVL.app1 tO rfl rfl rfl rfl rfl rfl rfl rfl rfl rfl rfl rfl rfl rfl rfl rfl rfl rfl rfl (fun _ => rfl) (owy) ((owr ++ [(bd, 92, [.int .u64 s0])])) (rfl) (howy) (by omega) fun _ => ?_
   intro vy owy1 howy1
   (first | refine EVL.swapOw (owy1) ((owr ++ [(bd, 92, [.int .u64 s0])])) (rfl) ?_ | refine EV.swapOw (owy1) ((owr ++ [(bd, 92, [.int .u64 s0])])) (rfl) ?_)
   try refine RUN ?_
   refine EVL.app1 tO rfl rfl rfl rfl rfl rfl rfl rfl rfl rfl rfl rfl rfl rfl rfl rfl rfl rfl rfl (fun _ => rfl) (owr) (([(bd, 92, [.int .u64 s0])] ++ owy1)) ((List.append_assoc _ _ _)) (howr) ((by rw [rowsL_len]; omega)) fun _ => ?_
   intro vr owr1 howr1
   (first | refine EVL.swapOw ((owr1 ++ [(bd, 92, [.int .u64 s0])])) (owy1) ((List.append_assoc _ _ _).symm) ?_ | refine EV.swapOw ((owr1 ++ [(bd, 92, [.int .u64 s0])])) (owy1) ((List.append_assoc _ _ _).symm) ?_)
   try refine RUN ?_
   refine ⟨(i + 1, us ++ [_], vy, owy1, vr, owr1), ⟨rfl, rfl, by rw [wi_inc i (by omega)]; rfl, trivial⟩, (by repeat (first | exact trivial | refine And.intro rfl ?_)), trivial, (by repeat (first | exact trivial | refine And.intro rfl ?_)), rfl, ⟨hlt, by rw [take_snoc hyx]; exact (hus.mono (hG6.trans hG7)).snoc hrow', howy1, by dsimp only; rw [rowsL_snoc]; exact howr1.il⟩, hG6.trans hG7, by dsimp only; omega⟩
 ·simp only [nN] at hlt
  obtain rfl : i = N := by omega
  rw [List.take_of_length_le (by rw [List.length_map]; omega)] at hus
  (first | refine EVL.publishL [] owy (owr ++ [(bd, 92, [.int .u64 s0])]) (rfl) howy fun G6 hG6 hy => ?_ | refine EV.publishL [] owy (owr ++ [(bd, 92, [.int .u64 s0])]) (rfl) howy fun G6 hG6 hy => ?_)
  (first | refine EVL.publishL [] owr [(bd, 92, [.int .u64 s0])] (rfl) howr fun G7 hG7 hrw => ?_ | refine EV.publishL [] owr [(bd, 92, [.int .u64 s0])] (rfl) howr fun G7 hG7 hrw => ?_)
  have hrw' : IL G7 (.slice za (rowsL i).length zc) (rowsL i) := hrw
  have hYl : (X.map fun x => x.map fun z => z * K + M).length = i := by rw [List.length_map]; exact hXl
  have hY : QLL G7 (.slice ya i yc) (X.map fun x => x.map fun z => z * K + M) := ⟨us, hus.mono (hG6.trans hG7), by rw [hYl]; exact hy.mono hG7⟩
  clear howr howy hrw hus hy
  try refine RUN ?_
  refine EV.loopK (ι := Nat × Value × Ows) [3, 4, 17, 18, 19, 20, 21, 22, 23] [17, 20, 21] (fun q => [(24, .v q.2.1), (28, .v (.int .i64 (q.1 : Int)))]) (fun _ => []) (fun q => q.2.2 ++ [(bd, 92, [.int .u64 s0])]) (fun q _ => q.1 ≤ W ∧ OwnL 3 1 q.2.1 (rowsL q.1).length ((rowsL q.1).map iv) q.2.2) (fun q => W - q.1) ((0, .slice none 0 0, [])) rfl rfl ⟨rfl, rfl, trivial⟩ trivial rfl (fun _ => rfl) (⟨Nat.zero_le _, OwnL.nil _ _⟩) ?_
  rintro ⟨e, u2, ow2⟩ G8 hG8 ⟨hi2, hown2⟩
  dsimp only at hi2 hown2
  obtain ⟨wa2, wc2, rfl⟩ := hown2.val
  try refine RUN ?_
  refine EV.cond rfl (fun hlt2 => ?_) (fun hlt2 => ?_)
  ·simp only [nN] at hlt2
   try refine RUN ?_
   refine EVL.app1 tO rfl rfl rfl rfl rfl rfl rfl rfl rfl rfl rfl rfl rfl rfl rfl rfl rfl rfl rfl (fun _ => rfl) (ow2) ([(bd, 92, [.int .u64 s0])]) (rfl) (hown2) ((by rw [rowsL_len]; omega)) fun _ => ?_
   intro v' ow' hown'
   try refine RUN ?_
   refine ⟨(e + 1, v', ow'), ⟨rfl, ?_, trivial⟩, (by repeat (first | exact trivial | refine And.intro rfl ?_)), trivial, (by repeat (first | exact trivial | refine And.intro rfl ?_)), rfl, ⟨hlt2, by dsimp only; rw [rowsL_snoc]; exact hown'.il⟩, Hp.Le.refl _, by dsimp only; omega⟩
   rw [wi_inc e (by omega)]; rfl
  ·simp only [nN] at hlt2
   obtain rfl : e = W := by omega
   (first | refine EVL.publishL [] ow2 [(bd, 92, [.int .u64 s0])] (rfl) hown2 fun G9 hG9 hcw => ?_ | refine EV.publishL [] ow2 [(bd, 92, [.int .u64 s0])] (rfl) hown2 fun G9 hG9 hcw => ?_)
   have hcw' : IL G9 (.slice wa2 (rowsL e).length wc2) (rowsL e) := hcw
   clear hown2 hcw
   have hcl := rowsL_len e
   have hG49 := hG5.trans (hG6.trans (hG7.trans (hG8.trans hG9)))
   have hG29 := hG3.trans (hG4.trans hG49)
   have hXt := hX.mono hG49
   have hYt := hY.mono (hG8.trans hG9)
   have hrt := hrw'.mono (hG8.trans hG9)
   have hgk := hg2.mono hG29
   have hok : GOk G9 kd cl (.slice la ln lc) (.slice va vn vc) X.length S wo := by rw [hXl]; exact hgk
   have hbest1 := best_pc (least := 1) hok hXt hrt (by omega) hcw' (by omega) hX100
   rw [hXl, hex] at hbest1
   have hwoh := hg2.small (rowsL i) (by omega) hrm
   try refine RUN ?_
   refine EVL.call rfl rfl rfl rfl rfl (hbest1) ?_
   intro r5 Gb hres hGb
   obtain ⟨ci, a, g, ok, rfl, hN⟩ := bestR_norm hres
   have hab5 := bestN_ht hN hXb hwoh
   have haz : (if ok = true then a else 0) = a := by
    obtain ⟨_, _, _, ⟨h, _⟩ | ⟨h, _, _, h2, _⟩⟩ := hN
    ·rw [h]; rfl
    ·rw [h2]; split <;> rfl
   have hbest2 : ∀ G, Gb.Le G → ∀ v1 v2, IL G v1 (orderL i s0).1 → IL G v2 (orderL e (orderL i s0).2).1 → PC prog 19 #[goalV kd cl (.slice la ln lc) (.slice va vn vc), .slice xa i xc, v1, v2, .int .i64 1] G fun r _ => r = .tuple #[cutV ci a g, .bool ok] := fun G hG v1 v2 h1 h2 => by
    have p1 : (rowsL i).Perm (orderL i s0).1 := (orderL_perm i s0 (by omega)).symm
    have p2 : (rowsL e).Perm (orderL e (orderL i s0).2).1 := (orderL_perm e _ (by omega)).symm
    have hb2 := best_pc (least := 1) (hok.mono (hGb.trans hG)) (hXt.mono (hGb.trans hG)) h1 (by rw [← p1.length_eq]; omega) h2 (by rw [← p2.length_eq]; omega) hX100
    rw [hXl, exL_all (fun r hr => hrm r (p1.mem_iff.2 hr))] at hb2
    refine hb2.mono fun r H' h _ => ?_
    have := best_same (f := fun z => z) hlaw p1 (fun c => p2.mem_iff) (fun _ _ => Iff.rfl) (fun _ _ => rfl) (fun _ _ _ _ => ⟨rfl, fun _ => rfl⟩) hN h
    rw [haz] at this
    exact this
   try refine RUN ?_
   refine EV.meetK (ι := TypeId) [17, 20, 21, 22, 23, 24, 29, 30] [17, 20, 21, 29] (fun _ => [(31, .p 31 0), (32, .v (.bool ok))]) (fun _ => [(31, 51, cutC (some (ci, a, g)))]) (fun T => [(bd, T, [.int .u64 (orderL e (orderL i s0).2).2])]) (fun _ G => Gb.Le G) rfl rfl (fun _ => rfl) ?_ ?_
   ·refine EVA.start (by kernel_rfl) ?_
    refine EVA.val tO (1) rfl (by kernel_rfl) (by kernel_rfl) (by kernel_rfl) rfl rfl rfl rfl rfl ?_
    refine EVA.val tO (2) rfl (by kernel_rfl) (by kernel_rfl) (by kernel_rfl) rfl rfl rfl rfl rfl ?_
    refine EVA.val tO (3) rfl (by kernel_rfl) (by kernel_rfl) (by kernel_rfl) rfl rfl rfl rfl rfl ?_
    refine EVA.val tO (5) rfl (by kernel_rfl) (by kernel_rfl) (by kernel_rfl) rfl rfl rfl rfl rfl ?_
    refine EVA.val tO (6) rfl (by kernel_rfl) (by kernel_rfl) (by kernel_rfl) rfl rfl rfl rfl rfl ?_
    refine EVA.three 0 4 12 (by kernel_rfl) rfl rfl rfl ?_ ?_ ?_
    ·(try refine RUNL ?_)
     refine EVL.nil ⟨rfl, ?_⟩
     refine EVA.two 4 12 (by kernel_rfl) rfl rfl ?_ ?_
     ·refine EVL.callW rfl rfl rfl rfl rfl ([(bd, 92, [.int .u64 s0])]) ([]) rfl (order_pw hs0 (by omega) (by omega)) ?_
      rintro vo ow1 G10 ⟨⟨T1, rfl⟩, hs1, hIL1⟩ hG10
      obtain ⟨oa, oc, rfl⟩ := SlC.val hIL1
      refine EVL.nil ⟨rfl, ?_⟩
      refine EVA.two 7 12 (by kernel_rfl) rfl rfl ?_ ?_
      ·refine EVL.callW rfl rfl rfl rfl rfl ([(bd, T1, [.int .u64 (orderL i s0).2])]) ([]) rfl (order_pw hs1 (by omega) (by omega)) ?_
       rintro vo2 ow2 G11 ⟨⟨T2, rfl⟩, hs2, hIL2⟩ hG11
       obtain ⟨oa2, oc2, rfl⟩ := SlC.val hIL2
       refine EVL.nil ⟨rfl, ?_⟩
       refine EVA.two 8 12 (by kernel_rfl) rfl rfl ?_ ?_
       ·refine EVL.call rfl rfl rfl rfl rfl (hbest2 G11 (hG10.trans hG11) _ _ (hIL1.mono hG11) hIL2) ?_
        rintro r6 G12 rfl hG12
        refine EVL.nil ⟨rfl, ?_⟩
        refine EVA.val tO (9) rfl (by kernel_rfl) (by kernel_rfl) (by kernel_rfl) rfl rfl rfl rfl rfl ?_
        refine EVA.val tO (10) rfl (by kernel_rfl) (by kernel_rfl) (by kernel_rfl) rfl rfl rfl rfl rfl ?_
        refine EVA.val tO (11) rfl (by kernel_rfl) (by kernel_rfl) (by kernel_rfl) rfl rfl rfl rfl rfl ?_
        refine EVA.one 12 (by kernel_rfl) rfl ?_
        (try refine RUNL ?_)
        refine EVL.nil ⟨rfl, ?_⟩
        refine EVA.one 13 (by kernel_rfl) rfl ?_
        (try refine RUNL ?_)
        refine EVL.nil ⟨rfl, ?_⟩
        refine EVA.one 14 (by kernel_rfl) rfl ?_
        (try refine RUNL ?_)
        refine EVL.nil ⟨rfl, ?_⟩
        refine EVA.nil (by kernel_rfl) ?_
        exact ⟨T2, ⟨rfl, rfl, trivial⟩, (by repeat (first | exact trivial | refine And.intro rfl ?_)), ⟨rfl, trivial⟩, (by repeat (first | exact trivial | refine And.intro rfl ?_)), rfl, hG10.trans (hG11.trans hG12)⟩
       ·(try refine RUNL ?_)
        refine EVL.nil ⟨rfl, ?_⟩
        refine EVA.one 8 (by kernel_rfl) rfl ?_
        refine EVL.call rfl rfl rfl rfl rfl (hbest2 G11 (hG10.trans hG11) _ _ (hIL1.mono hG11) hIL2) ?_
        rintro r6 G12 rfl hG12
        refine EVL.nil ⟨rfl, ?_⟩
        refine EVA.val tO (9) rfl (by kernel_rfl) (by kernel_rfl) (by kernel_rfl) rfl rfl rfl rfl rfl ?_
        refine EVA.val tO (10) rfl (by kernel_rfl) (by kernel_rfl) (by kernel_rfl) rfl rfl rfl rfl rfl ?_
        refine EVA.val tO (11) rfl (by kernel_rfl) (by kernel_rfl) (by kernel_rfl) rfl rfl rfl rfl rfl ?_
        refine EVA.one 13 (by kernel_rfl) rfl ?_
        (try refine RUNL ?_)
        refine EVL.nil ⟨rfl, ?_⟩
        refine EVA.one 14 (by kernel_rfl) rfl ?_
        (try refine RUNL ?_)
        refine EVL.nil ⟨rfl, ?_⟩
        refine EVA.nil (by kernel_rfl) ?_
        exact ⟨T2, ⟨rfl, rfl, trivial⟩, (by repeat (first | exact trivial | refine And.intro rfl ?_)), ⟨rfl, trivial⟩, (by repeat (first | exact trivial | refine And.intro rfl ?_)), rfl, hG10.trans (hG11.trans hG12)⟩
      ·(try refine RUNL ?_)
       refine EVL.nil ⟨rfl, ?_⟩
       refine EVA.one 7 (by kernel_rfl) rfl ?_
       refine EVL.callW rfl rfl rfl rfl rfl ([(bd, T1, [.int .u64 (orderL i s0).2])]) ([]) rfl (order_pw hs1 (by omega) (by omega)) ?_
       rintro vo2 ow2 G11 ⟨⟨T2, rfl⟩, hs2, hIL2⟩ hG11
       obtain ⟨oa2, oc2, rfl⟩ := SlC.val hIL2
       refine EVL.nil ⟨rfl, ?_⟩
       refine EVA.one 8 (by kernel_rfl) rfl ?_
       refine EVL.call rfl rfl rfl rfl rfl (hbest2 G11 (hG10.trans hG11) _ _ (hIL1.mono hG11) hIL2) ?_
       rintro r6 G12 rfl hG12
       refine EVL.nil ⟨rfl, ?_⟩
       refine EVA.val tO (9) rfl (by kernel_rfl) (by kernel_rfl) (by kernel_rfl) rfl rfl rfl rfl rfl ?_
       refine EVA.val tO (10) rfl (by kernel_rfl) (by kernel_rfl) (by kernel_rfl) rfl rfl rfl rfl rfl ?_
       refine EVA.val tO (11) rfl (by kernel_rfl) (by kernel_rfl) (by kernel_rfl) rfl rfl rfl rfl rfl ?_
       refine EVA.one 13 (by kernel_rfl) rfl ?_
       (try refine RUNL ?_)
       refine EVL.nil ⟨rfl, ?_⟩
       refine EVA.one 14 (by kernel_rfl) rfl ?_
       (try refine RUNL ?_)
       refine EVL.nil ⟨rfl, ?_⟩
       refine EVA.nil (by kernel_rfl) ?_
       exact ⟨T2, ⟨rfl, rfl, trivial⟩, (by repeat (first | exact trivial | refine And.intro rfl ?_)), ⟨rfl, trivial⟩, (by repeat (first | exact trivial | refine And.intro rfl ?_)), rfl, hG10.trans (hG11.trans hG12)⟩
     ·(try refine RUNL ?_)
      refine EVL.nil ⟨rfl, ?_⟩
      refine EVA.one 4 (by kernel_rfl) rfl ?_
      refine EVL.callW rfl rfl rfl rfl rfl ([(bd, 92, [.int .u64 s0])]) ([]) rfl (order_pw hs0 (by omega) (by omega)) ?_
      rintro vo ow1 G10 ⟨⟨T1, rfl⟩, hs1, hIL1⟩ hG10
      obtain ⟨oa, oc, rfl⟩ := SlC.val hIL1
      refine EVL.nil ⟨rfl, ?_⟩
      refine EVA.one 7 (by kernel_rfl) rfl ?_
      refine EVL.callW rfl rfl rfl rfl rfl ([(bd, T1, [.int .u64 (orderL i s0).2])]) ([]) rfl (order_pw hs1 (by omega) (by omega)) ?_
      rintro vo2 ow2 G11 ⟨⟨T2, rfl⟩, hs2, hIL2⟩ hG11
      obtain ⟨oa2, oc2, rfl⟩ := SlC.val hIL2
      refine EVL.nil ⟨rfl, ?_⟩
      refine EVA.one 8 (by kernel_rfl) rfl ?_
      refine EVL.call rfl rfl rfl rfl rfl (hbest2 G11 (hG10.trans hG11) _ _ (hIL1.mono hG11) hIL2) ?_
      rintro r6 G12 rfl hG12
      refine EVL.nil ⟨rfl, ?_⟩
      refine EVA.val tO (9) rfl (by kernel_rfl) (by kernel_rfl) (by kernel_rfl) rfl rfl rfl rfl rfl ?_
      refine EVA.val tO (10) rfl (by kernel_rfl) (by kernel_rfl) (by kernel_rfl) rfl rfl rfl rfl rfl ?_
      refine EVA.val tO (11) rfl (by kernel_rfl) (by kernel_rfl) (by kernel_rfl) rfl rfl rfl rfl rfl ?_
      refine EVA.one 13 (by kernel_rfl) rfl ?_
      (try refine RUNL ?_)
      refine EVL.nil ⟨rfl, ?_⟩
      refine EVA.one 14 (by kernel_rfl) rfl ?_
      (try refine RUNL ?_)
      refine EVL.nil ⟨rfl, ?_⟩
      refine EVA.nil (by kernel_rfl) ?_
      exact ⟨T2, ⟨rfl, rfl, trivial⟩, (by repeat (first | exact trivial | refine And.intro rfl ?_)), ⟨rfl, trivial⟩, (by repeat (first | exact trivial | refine And.intro rfl ?_)), rfl, hG10.trans (hG11.trans hG12)⟩
    ·refine EVL.callW rfl rfl rfl rfl rfl ([(bd, 92, [.int .u64 s0])]) ([]) rfl (order_pw hs0 (by omega) (by omega)) ?_
     rintro vo ow1 G10 ⟨⟨T1, rfl⟩, hs1, hIL1⟩ hG10
     obtain ⟨oa, oc, rfl⟩ := SlC.val hIL1
     refine EVL.nil ⟨rfl, ?_⟩
     refine EVA.three 0 7 12 (by kernel_rfl) rfl rfl rfl ?_ ?_ ?_
     ·(try refine RUNL ?_)
      refine EVL.nil ⟨rfl, ?_⟩
      refine EVA.two 7 12 (by kernel_rfl) rfl rfl ?_ ?_
      ·refine EVL.callW rfl rfl rfl rfl rfl ([(bd, T1, [.int .u64 (orderL i s0).2])]) ([]) rfl (order_pw hs1 (by omega) (by omega)) ?_
       rintro vo2 ow2 G11 ⟨⟨T2, rfl⟩, hs2, hIL2⟩ hG11
       obtain ⟨oa2, oc2, rfl⟩ := SlC.val hIL2
       refine EVL.nil ⟨rfl, ?_⟩
       refine EVA.two 8 12 (by kernel_rfl) rfl rfl ?_ ?_
       ·refine EVL.call rfl rfl rfl rfl rfl (hbest2 G11 (hG10.trans hG11) _ _ (hIL1.mono hG11) hIL2) ?_
        rintro r6 G12 rfl hG12
        refine EVL.nil ⟨rfl, ?_⟩
        refine EVA.val tO (9) rfl (by kernel_rfl) (by kernel_rfl) (by kernel_rfl) rfl rfl rfl rfl rfl ?_
        refine EVA.val tO (10) rfl (by kernel_rfl) (by kernel_rfl) (by kernel_rfl) rfl rfl rfl rfl rfl ?_
        refine EVA.val tO (11) rfl (by kernel_rfl) (by kernel_rfl) (by kernel_rfl) rfl rfl rfl rfl rfl ?_
        refine EVA.one 12 (by kernel_rfl) rfl ?_
        (try refine RUNL ?_)
        refine EVL.nil ⟨rfl, ?_⟩
        refine EVA.one 13 (by kernel_rfl) rfl ?_
        (try refine RUNL ?_)
        refine EVL.nil ⟨rfl, ?_⟩
        refine EVA.one 14 (by kernel_rfl) rfl ?_
        (try refine RUNL ?_)
        refine EVL.nil ⟨rfl, ?_⟩
        refine EVA.nil (by kernel_rfl) ?_
        exact ⟨T2, ⟨rfl, rfl, trivial⟩, (by repeat (first | exact trivial | refine And.intro rfl ?_)), ⟨rfl, trivial⟩, (by repeat (first | exact trivial | refine And.intro rfl ?_)), rfl, hG10.trans (hG11.trans hG12)⟩
       ·(try refine RUNL ?_)
        refine EVL.nil ⟨rfl, ?_⟩
        refine EVA.one 8 (by kernel_rfl) rfl ?_
        refine EVL.call rfl rfl rfl rfl rfl (hbest2 G11 (hG10.trans hG11) _ _ (hIL1.mono hG11) hIL2) ?_
        rintro r6 G12 rfl hG12
        refine EVL.nil ⟨rfl, ?_⟩
        refine EVA.val tO (9) rfl (by kernel_rfl) (by kernel_rfl) (by kernel_rfl) rfl rfl rfl rfl rfl ?_
        refine EVA.val tO (10) rfl (by kernel_rfl) (by kernel_rfl) (by kernel_rfl) rfl rfl rfl rfl rfl ?_
        refine EVA.val tO (11) rfl (by kernel_rfl) (by kernel_rfl) (by kernel_rfl) rfl rfl rfl rfl rfl ?_
        refine EVA.one 13 (by kernel_rfl) rfl ?_
        (try refine RUNL ?_)
        refine EVL.nil ⟨rfl, ?_⟩
        refine EVA.one 14 (by kernel_rfl) rfl ?_
        (try refine RUNL ?_)
        refine EVL.nil ⟨rfl, ?_⟩
        refine EVA.nil (by kernel_rfl) ?_
        exact ⟨T2, ⟨rfl, rfl, trivial⟩, (by repeat (first | exact trivial | refine And.intro rfl ?_)), ⟨rfl, trivial⟩, (by repeat (first | exact trivial | refine And.intro rfl ?_)), rfl, hG10.trans (hG11.trans hG12)⟩
      ·(try refine RUNL ?_)
       refine EVL.nil ⟨rfl, ?_⟩
       refine EVA.one 7 (by kernel_rfl) rfl ?_
       refine EVL.callW rfl rfl rfl rfl rfl ([(bd, T1, [.int .u64 (orderL i s0).2])]) ([]) rfl (order_pw hs1 (by omega) (by omega)) ?_
       rintro vo2 ow2 G11 ⟨⟨T2, rfl⟩, hs2, hIL2⟩ hG11
       obtain ⟨oa2, oc2, rfl⟩ := SlC.val hIL2
       refine EVL.nil ⟨rfl, ?_⟩
       refine EVA.one 8 (by kernel_rfl) rfl ?_
       refine EVL.call rfl rfl rfl rfl rfl (hbest2 G11 (hG10.trans hG11) _ _ (hIL1.mono hG11) hIL2) ?_
       rintro r6 G12 rfl hG12
       refine EVL.nil ⟨rfl, ?_⟩
       refine EVA.val tO (9) rfl (by kernel_rfl) (by kernel_rfl) (by kernel_rfl) rfl rfl rfl rfl rfl ?_
       refine EVA.val tO (10) rfl (by kernel_rfl) (by kernel_rfl) (by kernel_rfl) rfl rfl rfl rfl rfl ?_
       refine EVA.val tO (11) rfl (by kernel_rfl) (by kernel_rfl) (by kernel_rfl) rfl rfl rfl rfl rfl ?_
       refine EVA.one 13 (by kernel_rfl) rfl ?_
       (try refine RUNL ?_)
       refine EVL.nil ⟨rfl, ?_⟩
       refine EVA.one 14 (by kernel_rfl) rfl ?_
       (try refine RUNL ?_)
       refine EVL.nil ⟨rfl, ?_⟩
       refine EVA.nil (by kernel_rfl) ?_
       exact ⟨T2, ⟨rfl, rfl, trivial⟩, (by repeat (first | exact trivial | refine And.intro rfl ?_)), ⟨rfl, trivial⟩, (by repeat (first | exact trivial | refine And.intro rfl ?_)), rfl, hG10.trans (hG11.trans hG12)⟩
     ·refine EVL.callW rfl rfl rfl rfl rfl ([(bd, T1, [.int .u64 (orderL i s0).2])]) ([]) rfl (order_pw hs1 (by omega) (by omega)) ?_
      rintro vo2 ow2 G11 ⟨⟨T2, rfl⟩, hs2, hIL2⟩ hG11
      obtain ⟨oa2, oc2, rfl⟩ := SlC.val hIL2
      refine EVL.nil ⟨rfl, ?_⟩
      refine EVA.two 0 12 (by kernel_rfl) rfl rfl ?_ ?_
      ·(try refine RUNL ?_)
       refine EVL.nil ⟨rfl, ?_⟩
       refine EVA.two 8 12 (by kernel_rfl) rfl rfl ?_ ?_
       ·refine EVL.call rfl rfl rfl rfl rfl (hbest2 G11 (hG10.trans hG11) _ _ (hIL1.mono hG11) hIL2) ?_
        rintro r6 G12 rfl hG12
        refine EVL.nil ⟨rfl, ?_⟩
        refine EVA.val tO (9) rfl (by kernel_rfl) (by kernel_rfl) (by kernel_rfl) rfl rfl rfl rfl rfl ?_
        refine EVA.val tO (10) rfl (by kernel_rfl) (by kernel_rfl) (by kernel_rfl) rfl rfl rfl rfl rfl ?_
        refine EVA.val tO (11) rfl (by kernel_rfl) (by kernel_rfl) (by kernel_rfl) rfl rfl rfl rfl rfl ?_
        refine EVA.one 12 (by kernel_rfl) rfl ?_
        (try refine RUNL ?_)
        refine EVL.nil ⟨rfl, ?_⟩
        refine EVA.one 13 (by kernel_rfl) rfl ?_
        (try refine RUNL ?_)
        refine EVL.nil ⟨rfl, ?_⟩
        refine EVA.one 14 (by kernel_rfl) rfl ?_
        (try refine RUNL ?_)
        refine EVL.nil ⟨rfl, ?_⟩
        refine EVA.nil (by kernel_rfl) ?_
        exact ⟨T2, ⟨rfl, rfl, trivial⟩, (by repeat (first | exact trivial | refine And.intro rfl ?_)), ⟨rfl, trivial⟩, (by repeat (first | exact trivial | refine And.intro rfl ?_)), rfl, hG10.trans (hG11.trans hG12)⟩
       ·(try refine RUNL ?_)
        refine EVL.nil ⟨rfl, ?_⟩
        refine EVA.one 8 (by kernel_rfl) rfl ?_
        refine EVL.call rfl rfl rfl rfl rfl (hbest2 G11 (hG10.trans hG11) _ _ (hIL1.mono hG11) hIL2) ?_
        rintro r6 G12 rfl hG12
        refine EVL.nil ⟨rfl, ?_⟩
        refine EVA.val tO (9) rfl (by kernel_rfl) (by kernel_rfl) (by kernel_rfl) rfl rfl rfl rfl rfl ?_
        refine EVA.val tO (10) rfl (by kernel_rfl) (by kernel_rfl) (by kernel_rfl) rfl rfl rfl rfl rfl ?_
        refine EVA.val tO (11) rfl (by kernel_rfl) (by kernel_rfl) (by kernel_rfl) rfl rfl rfl rfl rfl ?_
        refine EVA.one 13 (by kernel_rfl) rfl ?_
        (try refine RUNL ?_)
        refine EVL.nil ⟨rfl, ?_⟩
        refine EVA.one 14 (by kernel_rfl) rfl ?_
        (try refine RUNL ?_)
        refine EVL.nil ⟨rfl, ?_⟩
        refine EVA.nil (by kernel_rfl) ?_
        exact ⟨T2, ⟨rfl, rfl, trivial⟩, (by repeat (first | exact trivial | refine And.intro rfl ?_)), ⟨rfl, trivial⟩, (by repeat (first | exact trivial | refine And.intro rfl ?_)), rfl, hG10.trans (hG11.trans hG12)⟩
      ·(try refine RUNL ?_)
       refine EVL.nil ⟨rfl, ?_⟩
       refine EVA.one 0 (by kernel_rfl) rfl ?_
       (try refine RUNL ?_)
       refine EVL.nil ⟨rfl, ?_⟩
       refine EVA.one 8 (by kernel_rfl) rfl ?_
       refine EVL.call rfl rfl rfl rfl rfl (hbest2 G11 (hG10.trans hG11) _ _ (hIL1.mono hG11) hIL2) ?_
       rintro r6 G12 rfl hG12
       refine EVL.nil ⟨rfl, ?_⟩
       refine EVA.val tO (9) rfl (by kernel_rfl) (by kernel_rfl) (by kernel_rfl) rfl rfl rfl rfl rfl ?_
       refine EVA.val tO (10) rfl (by kernel_rfl) (by kernel_rfl) (by kernel_rfl) rfl rfl rfl rfl rfl ?_
       refine EVA.val tO (11) rfl (by kernel_rfl) (by kernel_rfl) (by kernel_rfl) rfl rfl rfl rfl rfl ?_
       refine EVA.one 13 (by kernel_rfl) rfl ?_
       (try refine RUNL ?_)
       refine EVL.nil ⟨rfl, ?_⟩
       refine EVA.one 14 (by kernel_rfl) rfl ?_
       (try refine RUNL ?_)
       refine EVL.nil ⟨rfl, ?_⟩
       refine EVA.nil (by kernel_rfl) ?_
       exact ⟨T2, ⟨rfl, rfl, trivial⟩, (by repeat (first | exact trivial | refine And.intro rfl ?_)), ⟨rfl, trivial⟩, (by repeat (first | exact trivial | refine And.intro rfl ?_)), rfl, hG10.trans (hG11.trans hG12)⟩
     ·(try refine RUNL ?_)
      refine EVL.nil ⟨rfl, ?_⟩
      refine EVA.two 0 7 (by kernel_rfl) rfl rfl ?_ ?_
      ·(try refine RUNL ?_)
       refine EVL.nil ⟨rfl, ?_⟩
       refine EVA.one 7 (by kernel_rfl) rfl ?_
       refine EVL.callW rfl rfl rfl rfl rfl ([(bd, T1, [.int .u64 (orderL i s0).2])]) ([]) rfl (order_pw hs1 (by omega) (by omega)) ?_
       rintro vo2 ow2 G11 ⟨⟨T2, rfl⟩, hs2, hIL2⟩ hG11
       obtain ⟨oa2, oc2, rfl⟩ := SlC.val hIL2
       refine EVL.nil ⟨rfl, ?_⟩
       refine EVA.one 8 (by kernel_rfl) rfl ?_
       refine EVL.call rfl rfl rfl rfl rfl (hbest2 G11 (hG10.trans hG11) _ _ (hIL1.mono hG11) hIL2) ?_
       rintro r6 G12 rfl hG12
       refine EVL.nil ⟨rfl, ?_⟩
       refine EVA.val tO (9) rfl (by kernel_rfl) (by kernel_rfl) (by kernel_rfl) rfl rfl rfl rfl rfl ?_
       refine EVA.val tO (10) rfl (by kernel_rfl) (by kernel_rfl) (by kernel_rfl) rfl rfl rfl rfl rfl ?_
       refine EVA.val tO (11) rfl (by kernel_rfl) (by kernel_rfl) (by kernel_rfl) rfl rfl rfl rfl rfl ?_
       refine EVA.one 13 (by kernel_rfl) rfl ?_
       (try refine RUNL ?_)
       refine EVL.nil ⟨rfl, ?_⟩
       refine EVA.one 14 (by kernel_rfl) rfl ?_
       (try refine RUNL ?_)
       refine EVL.nil ⟨rfl, ?_⟩
       refine EVA.nil (by kernel_rfl) ?_
       exact ⟨T2, ⟨rfl, rfl, trivial⟩, (by repeat (first | exact trivial | refine And.intro rfl ?_)), ⟨rfl, trivial⟩, (by repeat (first | exact trivial | refine And.intro rfl ?_)), rfl, hG10.trans (hG11.trans hG12)⟩
      ·refine EVL.callW rfl rfl rfl rfl rfl ([(bd, T1, [.int .u64 (orderL i s0).2])]) ([]) rfl (order_pw hs1 (by omega) (by omega)) ?_
       rintro vo2 ow2 G11 ⟨⟨T2, rfl⟩, hs2, hIL2⟩ hG11
       obtain ⟨oa2, oc2, rfl⟩ := SlC.val hIL2
       refine EVL.nil ⟨rfl, ?_⟩
       refine EVA.one 0 (by kernel_rfl) rfl ?_
       (try refine RUNL ?_)
       refine EVL.nil ⟨rfl, ?_⟩
       refine EVA.one 8 (by kernel_rfl) rfl ?_
       refine EVL.call rfl rfl rfl rfl rfl (hbest2 G11 (hG10.trans hG11) _ _ (hIL1.mono hG11) hIL2) ?_
       rintro r6 G12 rfl hG12
       refine EVL.nil ⟨rfl, ?_⟩
       refine EVA.val tO (9) rfl (by kernel_rfl) (by kernel_rfl) (by kernel_rfl) rfl rfl rfl rfl rfl ?_
       refine EVA.val tO (10) rfl (by kernel_rfl) (by kernel_rfl) (by kernel_rfl) rfl rfl rfl rfl rfl ?_
       refine EVA.val tO (11) rfl (by kernel_rfl) (by kernel_rfl) (by kernel_rfl) rfl rfl rfl rfl rfl ?_
       refine EVA.one 13 (by kernel_rfl) rfl ?_
       (try refine RUNL ?_)
       refine EVL.nil ⟨rfl, ?_⟩
       refine EVA.one 14 (by kernel_rfl) rfl ?_
       (try refine RUNL ?_)
       refine EVL.nil ⟨rfl, ?_⟩
       refine EVA.nil (by kernel_rfl) ?_
       exact ⟨T2, ⟨rfl, rfl, trivial⟩, (by repeat (first | exact trivial | refine And.intro rfl ?_)), ⟨rfl, trivial⟩, (by repeat (first | exact trivial | refine And.intro rfl ?_)), rfl, hG10.trans (hG11.trans hG12)⟩
    ·(try refine RUNL ?_)
     refine EVL.nil ⟨rfl, ?_⟩
     refine EVA.two 0 4 (by kernel_rfl) rfl rfl ?_ ?_
     ·(try refine RUNL ?_)
      refine EVL.nil ⟨rfl, ?_⟩
      refine EVA.one 4 (by kernel_rfl) rfl ?_
      refine EVL.callW rfl rfl rfl rfl rfl ([(bd, 92, [.int .u64 s0])]) ([]) rfl (order_pw hs0 (by omega) (by omega)) ?_
      rintro vo ow1 G10 ⟨⟨T1, rfl⟩, hs1, hIL1⟩ hG10
      obtain ⟨oa, oc, rfl⟩ := SlC.val hIL1
      refine EVL.nil ⟨rfl, ?_⟩
      refine EVA.one 7 (by kernel_rfl) rfl ?_
      refine EVL.callW rfl rfl rfl rfl rfl ([(bd, T1, [.int .u64 (orderL i s0).2])]) ([]) rfl (order_pw hs1 (by omega) (by omega)) ?_
      rintro vo2 ow2 G11 ⟨⟨T2, rfl⟩, hs2, hIL2⟩ hG11
      obtain ⟨oa2, oc2, rfl⟩ := SlC.val hIL2
      refine EVL.nil ⟨rfl, ?_⟩
      refine EVA.one 8 (by kernel_rfl) rfl ?_
      refine EVL.call rfl rfl rfl rfl rfl (hbest2 G11 (hG10.trans hG11) _ _ (hIL1.mono hG11) hIL2) ?_
      rintro r6 G12 rfl hG12
      refine EVL.nil ⟨rfl, ?_⟩
      refine EVA.val tO (9) rfl (by kernel_rfl) (by kernel_rfl) (by kernel_rfl) rfl rfl rfl rfl rfl ?_
      refine EVA.val tO (10) rfl (by kernel_rfl) (by kernel_rfl) (by kernel_rfl) rfl rfl rfl rfl rfl ?_
      refine EVA.val tO (11) rfl (by kernel_rfl) (by kernel_rfl) (by kernel_rfl) rfl rfl rfl rfl rfl ?_
      refine EVA.one 13 (by kernel_rfl) rfl ?_
      (try refine RUNL ?_)
      refine EVL.nil ⟨rfl, ?_⟩
      refine EVA.one 14 (by kernel_rfl) rfl ?_
      (try refine RUNL ?_)
      refine EVL.nil ⟨rfl, ?_⟩
      refine EVA.nil (by kernel_rfl) ?_
      exact ⟨T2, ⟨rfl, rfl, trivial⟩, (by repeat (first | exact trivial | refine And.intro rfl ?_)), ⟨rfl, trivial⟩, (by repeat (first | exact trivial | refine And.intro rfl ?_)), rfl, hG10.trans (hG11.trans hG12)⟩
     ·refine EVL.callW rfl rfl rfl rfl rfl ([(bd, 92, [.int .u64 s0])]) ([]) rfl (order_pw hs0 (by omega) (by omega)) ?_
      rintro vo ow1 G10 ⟨⟨T1, rfl⟩, hs1, hIL1⟩ hG10
      obtain ⟨oa, oc, rfl⟩ := SlC.val hIL1
      refine EVL.nil ⟨rfl, ?_⟩
      refine EVA.two 0 7 (by kernel_rfl) rfl rfl ?_ ?_
      ·(try refine RUNL ?_)
       refine EVL.nil ⟨rfl, ?_⟩
       refine EVA.one 7 (by kernel_rfl) rfl ?_
       refine EVL.callW rfl rfl rfl rfl rfl ([(bd, T1, [.int .u64 (orderL i s0).2])]) ([]) rfl (order_pw hs1 (by omega) (by omega)) ?_
       rintro vo2 ow2 G11 ⟨⟨T2, rfl⟩, hs2, hIL2⟩ hG11
       obtain ⟨oa2, oc2, rfl⟩ := SlC.val hIL2
       refine EVL.nil ⟨rfl, ?_⟩
       refine EVA.one 8 (by kernel_rfl) rfl ?_
       refine EVL.call rfl rfl rfl rfl rfl (hbest2 G11 (hG10.trans hG11) _ _ (hIL1.mono hG11) hIL2) ?_
       rintro r6 G12 rfl hG12
       refine EVL.nil ⟨rfl, ?_⟩
       refine EVA.val tO (9) rfl (by kernel_rfl) (by kernel_rfl) (by kernel_rfl) rfl rfl rfl rfl rfl ?_
       refine EVA.val tO (10) rfl (by kernel_rfl) (by kernel_rfl) (by kernel_rfl) rfl rfl rfl rfl rfl ?_
       refine EVA.val tO (11) rfl (by kernel_rfl) (by kernel_rfl) (by kernel_rfl) rfl rfl rfl rfl rfl ?_
       refine EVA.one 13 (by kernel_rfl) rfl ?_
       (try refine RUNL ?_)
       refine EVL.nil ⟨rfl, ?_⟩
       refine EVA.one 14 (by kernel_rfl) rfl ?_
       (try refine RUNL ?_)
       refine EVL.nil ⟨rfl, ?_⟩
       refine EVA.nil (by kernel_rfl) ?_
       exact ⟨T2, ⟨rfl, rfl, trivial⟩, (by repeat (first | exact trivial | refine And.intro rfl ?_)), ⟨rfl, trivial⟩, (by repeat (first | exact trivial | refine And.intro rfl ?_)), rfl, hG10.trans (hG11.trans hG12)⟩
      ·refine EVL.callW rfl rfl rfl rfl rfl ([(bd, T1, [.int .u64 (orderL i s0).2])]) ([]) rfl (order_pw hs1 (by omega) (by omega)) ?_
       rintro vo2 ow2 G11 ⟨⟨T2, rfl⟩, hs2, hIL2⟩ hG11
       obtain ⟨oa2, oc2, rfl⟩ := SlC.val hIL2
       refine EVL.nil ⟨rfl, ?_⟩
       refine EVA.one 0 (by kernel_rfl) rfl ?_
       (try refine RUNL ?_)
       refine EVL.nil ⟨rfl, ?_⟩
       refine EVA.one 8 (by kernel_rfl) rfl ?_
       refine EVL.call rfl rfl rfl rfl rfl (hbest2 G11 (hG10.trans hG11) _ _ (hIL1.mono hG11) hIL2) ?_
       rintro r6 G12 rfl hG12
       refine EVL.nil ⟨rfl, ?_⟩
       refine EVA.val tO (9) rfl (by kernel_rfl) (by kernel_rfl) (by kernel_rfl) rfl rfl rfl rfl rfl ?_
       refine EVA.val tO (10) rfl (by kernel_rfl) (by kernel_rfl) (by kernel_rfl) rfl rfl rfl rfl rfl ?_
       refine EVA.val tO (11) rfl (by kernel_rfl) (by kernel_rfl) (by kernel_rfl) rfl rfl rfl rfl rfl ?_
       refine EVA.one 13 (by kernel_rfl) rfl ?_
       (try refine RUNL ?_)
       refine EVL.nil ⟨rfl, ?_⟩
       refine EVA.one 14 (by kernel_rfl) rfl ?_
       (try refine RUNL ?_)
       refine EVL.nil ⟨rfl, ?_⟩
       refine EVA.nil (by kernel_rfl) ?_
       exact ⟨T2, ⟨rfl, rfl, trivial⟩, (by repeat (first | exact trivial | refine And.intro rfl ?_)), ⟨rfl, trivial⟩, (by repeat (first | exact trivial | refine And.intro rfl ?_)), rfl, hG10.trans (hG11.trans hG12)⟩
   ·rintro T2 G13 hG13
    have hY13 := hYt.mono (hGb.trans hG13)
    have hY100 : ∀ x, x ∈ (X.map fun x => x.map fun z => z * K + M) → ∀ q, q ∈ x → ht q ≤ 100 := fun y hy q hq => by
     obtain ⟨x, hx, rfl⟩ := List.mem_map.1 hy
     obtain ⟨z, hz, rfl⟩ := List.mem_map.1 hq
     exact Nat.le_trans (hfh z (hXb x hx z hz)) (by omega)
    have hok3 : GOk G13 kd cl (.slice la ln lc) (.slice va vn vc) (X.map fun x => x.map fun z => z * K + M).length S wo := by rw [hYl]; exact hgk.mono (hGb.trans hG13)
    have hb3 := best_pc (least := 1) hok3 hY13 (hrt.mono (hGb.trans hG13)) (by omega) (hcw'.mono (hGb.trans hG13)) (by omega) hY100
    rw [hYl, hex] at hb3
    have hbest3 := hb3.mono fun r H' h _ => best_same (f := fun z => z * K + M) hlaw (List.Perm.refl _) (fun c => Iff.rfl) (aff_lt hKp) (fun x y => by grind) (fun c _ r _ => colK_map) hN h
    have hca := cmp_pv a a (sm_of hab5.1 (by omega)) (sm_of hab5.1 (by omega))
    have hcg := cmp_pv g g (sm_of hab5.2 (by omega)) (sm_of hab5.2 (by omega))
    rw [ordR_self] at hca hcg
    have hmz := ht_mul a K
    have haz2 := ht_add (a * K) M
    have h1a := hab5.1
    have hml := mul_pv a K (sm_of h1a (by omega)) (sm_of hKb (by omega))
    have had := add_pv (a * K) M (sm_of hmz (by omega)) (sm_of hmb (by omega))
    have hcf := cmp_pv (a * K + M) (a * K + M) (sm_of haz2 (by omega)) (sm_of haz2 (by omega))
    rw [ordR_self] at hcf
    cases ok with
    | true =>
     simp only [if_true] at hbest3
     try refine RUN ?_
     refine EVL.call rfl rfl rfl rfl rfl (hbest3) ?_
     rintro r7 G14 rfl hG14
     try refine RUN ?_
     refine EVL.neb rfl rfl rfl rfl rfl rfl (by kernel_rfl) ?_
     try refine RUN ?_
     refine EVL.neb rfl rfl rfl rfl rfl rfl (by kernel_rfl) ?_
     try refine RUN ?_
     apply EV.drawn 52 (by kernel_rfl) (by kernel_rfl); intro xv yw
     (repeat (first | refine' DV ?_ | refine' DA ?_ | refine' DK0 ?_ | refine' DT ?_ | refine' DS ?_))
     rw [show (ci == ci) = true from beq_self_eq_true ci]
     (repeat (first | refine' DV ?_ | refine' DA ?_ | refine' DK0 ?_ | refine' DT ?_ | (refine' DC (hca) (h := ?_); rotate_left) | (refine' DC (hcg) (h := ?_); rotate_left) | refine' DS ?_))
     rw [show (ci == ci) = true from beq_self_eq_true ci]
     (repeat (first | refine' DV ?_ | refine' DA ?_ | refine' DK0 ?_ | refine' DT ?_ | (refine' DC (hca) (h := ?_); rotate_left) | (refine' DC (hcg) (h := ?_); rotate_left) | (refine' DC (hml) (h := ?_); rotate_left) | (refine' DC (had) (h := ?_); rotate_left) | (refine' DC (hcf) (h := ?_); rotate_left) | refine' DS ?_))
     (refine DJ.nil (fun G15 hG15 hF15 => ?_); (case hS => rfl); (case hS2 => rfl))
     try refine RUN ?_
     rfl
    | false =>
     simp only [Bool.false_eq_true, if_false] at hbest3
     try refine RUN ?_
     refine EVL.call rfl rfl rfl rfl rfl (hbest3) ?_
     rintro r7 G14 rfl hG14
     try refine RUN ?_
     refine EVL.neb rfl rfl rfl rfl rfl rfl (by kernel_rfl) ?_
     try refine RUN ?_
     refine EVL.neb rfl rfl rfl rfl rfl rfl (by kernel_rfl) ?_
     try refine RUN ?_
     apply EV.drawn 52 (by kernel_rfl) (by kernel_rfl); intro xv yw
     (repeat (first | refine' DV ?_ | refine' DA ?_ | refine' DK0 ?_ | refine' DT ?_ | refine' DS ?_))
     rw [show (ci == ci) = true from beq_self_eq_true ci]
     (repeat (first | refine' DV ?_ | refine' DA ?_ | refine' DK0 ?_ | refine' DT ?_ | (refine' DC (hca) (h := ?_); rotate_left) | (refine' DC (hcg) (h := ?_); rotate_left) | refine' DS ?_))
     rw [show (ci == ci) = true from beq_self_eq_true ci]
     (repeat (first | refine' DV ?_ | refine' DA ?_ | refine' DK0 ?_ | refine' DT ?_ | (refine' DC (hca) (h := ?_); rotate_left) | (refine' DC (hcg) (h := ?_); rotate_left) | refine' DS ?_))
     (refine DJ.nil (fun G15 hG15 hF15 => ?_); (case hS => rfl); (case hS2 => rfl))
     try refine RUN ?_
     rfl
theorem fill_all (size : Nat) : ∀ (vs : List Value) (k : Nat) (pre zs : List Value), (∀ v, v ∈ vs → (vlist v).length = size) → pre.length = k * size → zs.length = vs.length * size →
  Instr.fill (fun i => some (i * size, size)) (pre ++ zs).toArray ((List.range' k vs.length).zip vs) = some (pre ++ vs.flatMap vlist).toArray
 | [], k, pre, zs, _, _, hz => by
  obtain rfl : zs = [] := List.eq_nil_of_length_eq_zero (by simpa using hz)
  rfl
 | v :: vs, k, pre, zs, hv, hp, hz => by
  have hlen := hv v (List.mem_cons_self ..)
  rw [List.length_cons, Nat.succ_mul] at hz
  rw [List.length_cons, List.range'_succ, List.zip_cons_cons]
  unfold Instr.fill
  simp only [vlist_cells]
  rw [if_neg (by simp [hlen]; omega)]
  have := fold_set (vlist v) (pre ++ zs) (k * size) 0 (by rw [List.length_append, hlen]; omega)
  rw [Nat.add_zero] at this
  have e : ((vlist v).toArray.zipIdx.foldl (fun (cs : Array Value) (x : Value × Nat) => match x with | (c, j) => cs.setIfInBounds (k * size + j) c) (pre ++ zs).toArray) = ((vlist v).zipIdx.foldl (fun (c : Array Value) (p : Value × Nat) => c.setIfInBounds (k * size + p.2) p.1) (pre ++ zs).toArray) := by
   simp
  rw [e, this, List.take_left' hp, hlen, ← hp, ← List.drop_drop, List.drop_left, List.flatMap_cons, ← List.append_assoc]
  have ih := fill_all size vs (k + 1) (pre ++ vlist v) (zs.drop size) (fun u hu => hv u (List.mem_cons_of_mem _ hu)) (by rw [List.length_append, hp, hlen, Nat.succ_mul]) (by rw [List.length_drop]; omega)
  exact ih
def ixB : List (Nat × Operand) → Nat → Nat → Bool
 | [], _, 0 => true
 | p :: ps, k, n + 1 => match Nat.beq p.1 k with
  | true => ixB ps (k + 1) n
  | false => false
 | _, _, _ => false
theorem ixB_spec : ∀ (ps : List (Nat × Operand)) (k n : Nat), ixB ps k n = true → ps.map (·.1) = List.range' k n
 | [], k, 0, _ => rfl
 | p :: ps, k, n + 1, h => by
  unfold ixB at h
  split at h
  ·rename_i e
   rw [List.map_cons, List.range'_succ, ixB_spec ps (k + 1) n h, Nat.eq_of_beq_eq_true e]
  ·cases h
 | [], k, n + 1, h => by cases h
 | p :: ps, k, 0, h => by cases h
section
variable {P : Program} {n : Nat} {ops : Array Oper} {o : Oper} {rest : List Oper} {env : Env} {bx : Bxs} {sb : Bxs} {ow : Ows} {H : Hs} {Q : EQ} {τ : Tab} {d : Nat} {s : SV}
theorem DJ.litD {tail l : List Oper} {x : Nat → Value} {y : Nat → Ows} {ow' : Ows} {kl ks : List DK} {i : Nat} {bx' : Bxs} {Γ : Fcts} (hτ : TabOk P τ) {T : TypeId} {len : Nat} {parts : Array (Nat × Operand)} (ho : o.op = .buildSlice T len parts) (hw : wantB ops env o = some true) (hd : o.dst = some d) (hn : Nat.blt d n = true) {te te' : TE} {e : TypeId} (ht : τ.get T = some te) (hk : te.kind = .slice e) (ht' : τ.get e = some te')
  (hsz : Nat.beq te'.zero.length te'.size = true) (hpos : Nat.ble 1 (len * te'.size) = true) (hsm : Nat.ble (len * te'.size) 10000 = true) {vs : List Value} (ha : argsK env (parts.toList.map (·.2)) some = some vs) (hix' : ixB parts.toList 0 len = true) (hv : ∀ G, DepF ops i Γ G → ∀ v, v ∈ vs → (vlist v).length = te'.size)
  {Φ : Value → Hp → Prop} (hm : ∀ v G G', Φ v G → G.Le G' → Φ v G') (hΦ : ∀ G G' v, DepF ops i Γ G → G.Le G' → SlC G' v len te'.size (vs.flatMap vlist) → Φ v G')
  (h : DJ P n ops tail sb bx H Q x y kl (i + 1) l ks ((d, .v (x i)) :: env) bx' ((i, Φ (x i)) :: Γ) ow') : DJ P n ops tail sb bx H Q x y kl i (o :: l) (.call Φ :: ks) env bx' Γ ow' := by
 have hix : parts.toList.map (·.1) = List.range' 0 len := ixB_spec _ _ _ hix'
 have hkd := (hτ.get ht).kind
 rw [hk] at hkd
 have hkd' : P.underlying T = some (.slice e) := hkd
 obtain ⟨zv, hinfo, hzc⟩ := (hτ.get ht').info
 obtain ⟨i0, hi, hz0, hz1, hz2⟩ := info_parts hinfo
 have hl := Nat.eq_of_beq_eq_true hsz
 have hp := Nat.le_of_ble_eq_true hpos
 have hm' := Nat.le_of_ble_eq_true hsm
 refine DJ.ofCall (fun β a W G hle hf _ hb _ hs hF => ?_) hd hn hm h
 rw [if_pos (hs.want hw)]
 have hvv := hv G hF
 obtain ⟨vs', e1, h2⟩ := argsK_vals ha
 cases e1
 have h3 := h2 a.eval fun y u hy he => hs.op (s := .v u) (by rw [ho]; simpa [Op.operands] using hy) he
 have hvl : vs.length = len := by
  have e1 := congrArg List.length h3
  have e2 := congrArg List.length hix
  simp at e1 e2
  omega
 have hfl : (vs.flatMap vlist).length = len * te'.size := by rw [flat_len vlist te'.size vs hvv, hvl]
 have h4 : ((parts.map fun (i, x) => (i, a.eval x)) : Array (Nat × Value)).toList = (List.range' 0 vs.length).zip vs := by
  rw [hvl, ← hix, ← h3, Array.toList_map]
  generalize parts.toList = l
  induction l with
  | nil => rfl
  | cons p l ih => simp only [List.map_cons, List.zip_cons_cons, ih]
 have hfill := fill_all te'.size vs 0 [] ((List.replicate len te'.zero).flatten) hvv (by simp) (by rw [List.length_flatten]; simp [hl, hvl])
 rw [List.nil_append, List.nil_append, ← h4] at hfill
 have hrun := run_buildSlice (P := P) W T e len (parts.map fun (i, x) => (i, a.eval x)) (vs.flatMap vlist).toArray i0 zv hkd' hi hz0 (by rw [hz1]; omega) (by rw [hz1]; omega) (by
  rw [hz1, hzc, made_flat te'.zero te'.size len hl, ← hfill])
 have hB : Below W.heap.size W (W.alloc (.cells (vs.flatMap vlist).toArray e)) := (Below.refl _ _).alloc (Nat.le_refl _) _
 obtain ⟨k1, k2, k3⟩ := newBlk hf hB (Box.new W (vs.flatMap vlist).toArray e)
 have hr : (execOp a.eval o).run P W = .ok (.value (.slice (some ⟨W.heap.size, 0, none⟩) len len)) (W.alloc (.cells (vs.flatMap vlist).toArray e)) := by
  unfold execOp
  simp only [ho, Sem.run_bind, hrun, Result.andThen_ok, Sem.run_pure]
 unfold Oper.wp
 rw [hr, Oper.upon_value]
 exact ⟨_, _, rfl, hΦ G _ _ hF k1 ⟨hfl, .inr ⟨W.heap.size, 0, len, (vs.flatMap vlist).toArray, rfl, Nat.le_refl _, by simp [Hp.put], fun j x hj => by rw [Nat.zero_add]; simpa using hj⟩⟩, k1, k2, hB, k3⟩
theorem DJ.litD1 {tail l : List Oper} {x : Nat → Value} {y : Nat → Ows} {ow' : Ows} {kl ks : List DK} {i : Nat} {bx' : Bxs} {Γ : Fcts} {Φ : Value → Hp → Prop} (hm : ∀ v G G', Φ v G → G.Le G' → Φ v G') (hτ : TabOk P τ) {T : TypeId} {u : Operand} (ho : o.op = .buildSlice T 1 #[(0, u)]) (hw : wantB ops env o = some true) (hd : o.dst = some d) (hn : Nat.blt d n = true) {te te' : TE} {e : TypeId} (ht : τ.get T = some te) (hk : te.kind = .slice e) (ht' : τ.get e = some te')
  (hsz : Nat.beq te'.zero.length te'.size = true) (hpos : Nat.ble 1 (1 * te'.size) = true) (hsm : Nat.ble (1 * te'.size) 10000 = true) {v : Value} (hx : env.op u = some (.v v)) (hv : ∀ G, DepF ops i Γ G → (vlist v).length = te'.size)
  (hΦ : ∀ G G' w, DepF ops i Γ G → G.Le G' → SlC G' w 1 te'.size ([v].flatMap vlist) → Φ w G')
  (h : DJ P n ops tail sb bx H Q x y kl (i + 1) l ks ((d, .v (x i)) :: env) bx' ((i, Φ (x i)) :: Γ) ow') : DJ P n ops tail sb bx H Q x y kl i (o :: l) (.call Φ :: ks) env bx' Γ ow' :=
 DJ.litD hτ ho hw hd hn ht hk ht' hsz hpos hsm (vs := [v]) (by show argsK env [u] some = _; simp [argsK, hx]) rfl (fun G hd w hm => by rw [List.mem_singleton.1 hm]; exact hv G hd) hm hΦ h
theorem DJ.litD3 {tail l : List Oper} {x : Nat → Value} {y : Nat → Ows} {ow' : Ows} {kl ks : List DK} {i : Nat} {bx' : Bxs} {Γ : Fcts} {Φ : Value → Hp → Prop} (hm : ∀ v G G', Φ v G → G.Le G' → Φ v G') (hτ : TabOk P τ) {T : TypeId} {u1 u2 u3 : Operand} (ho : o.op = .buildSlice T 3 #[(0, u1), (1, u2), (2, u3)]) (hw : wantB ops env o = some true) (hd : o.dst = some d) (hn : Nat.blt d n = true) {te te' : TE} {e : TypeId} (ht : τ.get T = some te) (hk : te.kind = .slice e) (ht' : τ.get e = some te')
  (hsz : Nat.beq te'.zero.length te'.size = true) (hpos : Nat.ble 1 (3 * te'.size) = true) (hsm : Nat.ble (3 * te'.size) 10000 = true) {v1 v2 v3 : Value} (hx1 : env.op u1 = some (.v v1)) (hx2 : env.op u2 = some (.v v2)) (hx3 : env.op u3 = some (.v v3))
  (hv : ∀ G, DepF ops i Γ G → ∀ w, w ∈ [v1, v2, v3] → (vlist w).length = te'.size) (hΦ : ∀ G G' w, DepF ops i Γ G → G.Le G' → SlC G' w 3 te'.size ([v1, v2, v3].flatMap vlist) → Φ w G')
  (h : DJ P n ops tail sb bx H Q x y kl (i + 1) l ks ((d, .v (x i)) :: env) bx' ((i, Φ (x i)) :: Γ) ow') : DJ P n ops tail sb bx H Q x y kl i (o :: l) (.call Φ :: ks) env bx' Γ ow' :=
 DJ.litD hτ ho hw hd hn ht hk ht' hsz hpos hsm (vs := [v1, v2, v3]) (by show argsK env [u1, u2, u3] some = _; simp [argsK, hx1, hx2, hx3]) rfl hv hm hΦ h
end
def knX : List (List Rat) := [[1], [2], [4]]
theorem kn_rows {m : List Int} (hp : m.Perm [0, 1, 2]) (hr : RisK (colK knX 0) m) : m = [0, 1, 2] := by
 have hk : m.map (colK knX 0) = [0, 1, 2].map (colK knX 0) := rising_one hr (show List.Pairwise (fun a b : Rat => a ≤ b) _ by decide +kernel) (hp.map _)
 have hl := hp.length_eq
 have hm : ∀ x, x ∈ m → x = 0 ∨ x = 1 ∨ x = 2 := fun x hx => by simpa using hp.mem_iff.1 hx
 match m, hl with
 | [a, b, c], _ =>
  have ha := hm a (by simp)
  have hb := hm b (by simp)
  have hc := hm c (by simp)
  have inj : ∀ x : Int, (x = 0 ∨ x = 1 ∨ x = 2) → ∀ y : Int, (y = 0 ∨ y = 1 ∨ y = 2) → colK knX 0 x = colK knX 0 y → x = y := by
   rintro x (rfl | rfl | rfl) y (rfl | rfl | rfl) h <;> first | rfl | (revert h; decide +kernel)
  simp only [List.map_cons, List.map_nil, List.cons.injEq, and_true] at hk
  rw [inj a ha 0 (.inl rfl) hk.1, inj b hb 1 (.inr (.inl rfl)) hk.2.1, inj c hc 2 (.inr (.inr rfl)) hk.2.2]
theorem kn_best {r : Value} (h : BestR knX (woL [0, 0, 1]) [0, 1, 2] [0] 1 r) : r = .tuple #[cutV 0 3 (Rat.divInt 4 3), .bool true] := by
 obtain ⟨ps, hc, hps, hres⟩ := h
 have hone : ps.map (·.1) = [0] := by
  obtain ⟨h1, h2⟩ := hc
  generalize ps.map (·.1) = l at *
  match l with
  | [] => have := (h2 0).2 (by simp); cases this
  | [a] => have := (h2 a).1 (by simp); rw [List.mem_singleton.1 this]
  | a :: b :: l =>
   have e1 := List.mem_singleton.1 ((h2 a).1 (by simp))
   have e2 := List.mem_singleton.1 ((h2 b).1 (by simp))
   have := (List.pairwise_cons.1 h1).1 b (by simp)
   omega
 obtain ⟨c, o, rfl⟩ : ∃ c o, ps = [(c, o)] := by
  match ps, hone with
  | [(c, o)], _ => exact ⟨c, o, rfl⟩
 simp only [List.map_cons, List.map_nil, List.cons.injEq, and_true] at hone
 subst hone
 obtain ⟨m, hs, ho, _⟩ := hps (0, o) (List.mem_singleton.2 rfl)
 rcases hs with ⟨_, hp, hr⟩ | ⟨hno, _⟩
 ·obtain rfl := kn_rows hp hr
  have hv : colN (colK knX 0) (woL [0, 0, 1]) (max 1 1) [0, 1, 2] ([0, 1, 2] : List Int).length.pred = some (3, 3) := by decide +kernel
  have ho' : o = some (3, 3) := ho.trans hv
  subst ho'
  have hb : bestF [((0 : Int), some ((3 : Rat), (3 : Rat)))] = some (0, 3, 3) := rfl
  rw [hb] at hres
  rcases hres with ⟨h, _⟩ | ⟨c, a, w, h, rfl⟩
  ·cases h
  ·cases h
   rw [show (3 : Rat) - woL [0, 0, 1] [0, 1, 2] = Rat.divInt 4 3 by decide +kernel]
 ·exact absurd hno (show ¬ [0, 1, 2].all (hasC knX 0) = false by decide +kernel)
theorem RQ.len3 {H : Hp} {x : Value} {q : Rat} (h : RQ H x q) : (vlist x).length = 3 := by
 obtain ⟨xa, xl, xc, ya, yl, yc, rfl, hx1, hx2⟩ := h
 rfl
theorem RL.one {H : Hp} {v x : Value} {q : Rat} (h : SlC H v 1 3 ([x].flatMap vlist)) (hx : RQ H x q) : RL H v [q] :=
 ⟨[x], rfl, fun j y r e1 e2 => by
  cases j with
  | zero => cases e1; cases e2; exact hx
  | succ j => simp at e1, h⟩
theorem kn_len {G : Hp} {a b c v : Value} {p q r : Rat} (h1 : RL G a [p]) (h2 : RL G b [q]) (h3 : RL G c [r]) (hm : v ∈ [a, b, c]) : (vlist v).length = 1 := by
 obtain ⟨_, _, rfl⟩ := h1.val
 obtain ⟨_, _, rfl⟩ := h2.val
 obtain ⟨_, _, rfl⟩ := h3.val
 rcases List.mem_cons.1 hm with rfl | hm
 ·rfl
 ·rcases List.mem_cons.1 hm with rfl | hm
  ·rfl
  ·rw [List.mem_singleton.1 hm]; rfl
theorem kn_rll {G : Hp} {a b c v : Value} (h1 : RL G a [((1 : Int) : Rat)]) (h2 : RL G b [((2 : Int) : Rat)]) (h3 : RL G c [((4 : Int) : Rat)]) (h : SlC G v 3 1 ([a, b, c].flatMap vlist)) : RLL G v knX := by
 obtain ⟨_, _, rfl⟩ := h1.val
 obtain ⟨_, _, rfl⟩ := h2.val
 obtain ⟨_, _, rfl⟩ := h3.val
 exact ⟨_, (((RRs.nil G).snoc h1).snoc h2).snoc h3, h⟩
theorem kn_hb : ∀ x, x ∈ knX → ∀ q, q ∈ x → ht q ≤ 100 := by decide +kernel
theorem kn_small : ∀ x, x ∈ knX → x.length ≤ 1000000 ∧ ∀ q, q ∈ x → rq q := fun x hx => ⟨by revert x; decide +kernel, fun q hq => Nat.le_trans (kn_hb x hx q hq) (by omega)⟩
set_option maxHeartbeats 4000000 in
theorem known17_pv : PV prog 13 #[] (.bool true) := by
 refine PV.of_pc ?_
 have hof := fun (z : Int) (h1 : -9223372036854775808 ≤ z) (h2 : z < 9223372036854775808) (G : Hp) => refOf_pc (H := G) z h1 h2
 have his1 := fun G : Hp => is_pc (H := G) 3 (show ht 3 ≤ _ by decide +kernel) 3 1 (by decide) (by decide) (by decide) (by decide) (by decide) (by decide +kernel)
 have his2 := fun G : Hp => is_pc (H := G) (Rat.divInt 4 3) (show ht (Rat.divInt 4 3) ≤ _ by decide +kernel) 4 3 (by decide) (by decide) (by decide) (by decide) (by decide) rfl
 refine BD func13 ntmps13 ?_
 try refine RUN ?_
 refine EVL.lit tO rfl rfl rfl rfl rfl rfl rfl rfl rfl rfl rfl fun b => ?_
 (first | refine EVL.publish [] [] rfl fun G1 hG1 hb => ?_ | refine EV.publish [] [] rfl fun G1 hG1 hb => ?_)
 have hv : IL G1 (.slice (some ⟨b, 0, none⟩) 3 3) [0, 0, 1] := ⟨rfl, .inr ⟨b, 0, 3, _, rfl, Nat.le_refl _, hb, fun j x hj => by rw [Nat.zero_add]; simpa using hj⟩⟩
 have hgk := gokL (cl := 2) (va := none) (vc := 0) (by omega) hv (by decide) (by decide) (by decide)
 try refine RUN ?_
 apply EV.drawn 17 (by kernel_rfl) (by kernel_rfl); intro xv yw
 (repeat (first | refine' DV ?_ | refine' DA ?_ | refine' DK0 ?_ | refine' DT ?_ | refine' DS ?_))
 refine' DJ.call rfl rfl rfl rfl rfl (cO func45) (fun G hG hd => hof 1 (by decide) (by decide) G) (fun _ _ _ h k => RQ.mono h k) ?_; rotate_left
 (refine' DJ.litD1 (Φ := fun w G => RL G w [((1 : Int) : Rat)]) (fun _ _ _ h k => h.mono k) tO rfl rfl rfl rfl rfl rfl rfl rfl rfl rfl rfl (fun G hd => RQ.len3 (hd.head (by kernel_rfl))) (fun G G' w hd hG h => RL.one h ((hd.head (by kernel_rfl)).mono hG)) ?_; rotate_left)
 refine' DJ.call rfl rfl rfl rfl rfl (cO func45) (fun G hG hd => hof 2 (by decide) (by decide) G) (fun _ _ _ h k => RQ.mono h k) ?_; rotate_left
 (refine' DJ.litD1 (Φ := fun w G => RL G w [((2 : Int) : Rat)]) (fun _ _ _ h k => h.mono k) tO rfl rfl rfl rfl rfl rfl rfl rfl rfl rfl rfl (fun G hd => RQ.len3 (hd.head (by kernel_rfl))) (fun G G' w hd hG h => RL.one h ((hd.head (by kernel_rfl)).mono hG)) ?_; rotate_left)
 refine' DJ.call rfl rfl rfl rfl rfl (cO func45) (fun G hG hd => hof 4 (by decide) (by decide) G) (fun _ _ _ h k => RQ.mono h k) ?_; rotate_left
 (refine' DJ.litD1 (Φ := fun w G => RL G w [((4 : Int) : Rat)]) (fun _ _ _ h k => h.mono k) tO rfl rfl rfl rfl rfl rfl rfl rfl rfl rfl rfl (fun G hd => RQ.len3 (hd.head (by kernel_rfl))) (fun G G' w hd hG h => RL.one h ((hd.head (by kernel_rfl)).mono hG)) ?_; rotate_left)
 (refine' DJ.litD3 (Φ := fun w G => RLL G w knX) (fun _ _ _ h k => h.mono k) tO rfl rfl rfl rfl rfl rfl rfl rfl rfl rfl rfl rfl rfl (fun G hd w hm => kn_len (hd.tail.tail.tail.tail.head (by kernel_rfl)) (hd.tail.tail.head (by kernel_rfl)) (hd.head (by kernel_rfl)) hm) (fun G G' w hd hG h => kn_rll ((hd.tail.tail.tail.tail.head (by kernel_rfl)).mono hG) ((hd.tail.tail.head (by kernel_rfl)).mono hG) ((hd.head (by kernel_rfl)).mono hG) h) ?_; rotate_left)
 refine' DJ.call rfl rfl rfl rfl rfl (cO func10) (fun G hG hd => inRows_pc (X := knX) (hd.head (by kernel_rfl)) (by decide) kn_small) (fun _ _ _ h k => QLL.mono h k) ?_; rotate_left
 (refine' DJ.lit tO rfl rfl rfl rfl rfl rfl rfl rfl rfl rfl rfl rfl ?_; rotate_left)
 (refine' DJ.lit tO rfl rfl rfl rfl rfl rfl rfl rfl rfl rfl rfl rfl ?_; rotate_left)
 refine' DJ.callS rfl rfl rfl rfl rfl (cO func19) (fun G hG hd => (best_pc (X := knX) (hgk.mono hG) (hd.tail.tail.head (by kernel_rfl)) (show IL G (xv 9) [0, 1, 2] from hd.tail.head (by kernel_rfl)) (by decide) (show IL G (xv 10) [0] from hd.head (by kernel_rfl)) (by decide) kn_hb).mono (fun r H' h _ => kn_best h)) ?_; rotate_left
 (repeat (first | refine' DV ?_ | refine' DA ?_ | refine' DK0 ?_ | refine' DT ?_ | refine' DS ?_))
 (refine DJ.nil (fun G5 hG5 hF5 => ?_); (case hS => rfl); (case hS2 => rfl))
 have hs1 := his1 G5
 have hs2 := his2 G5
 repeat (first | refine RUN ?_ | refine CV (hs1) ?_ | refine CV (hs2) ?_ | refine CE (hs1) ?_ | refine CE (hs2) ?_)
 rfl
end Go.Proofs.YtejljnlfgiifoaaGreatDoor
namespace Go.Proofs.YtejljnlfgiifoaaGreatDoor
open Go.ChangeShapes Go.WideShapes Go.ChangeAt Go.RowKit
def hpOf (W : World) : Hp := fun b => match W.heap[b]? with
 | some (.cells c _ _) => some c
 | _ => none
theorem fits_hpOf (W : World) : Fits (hpOf W) W := fun b c h => by
 unfold hpOf at h
 split at h
 ·rename_i c' T fz hb; cases h; exact ⟨T, fz, hb⟩
 ·cases h
section
variable {H : Type} {enc : TypeId × Value → H} {P : Program} {w : World} {base : Nat} {spare : Nat → Bool} {held : Bool}
theorem ints_open {t e : TypeId} {k : IntKind} {fuel : Nat} {cs : List Value} {x : DataW H × List MemPlace} (ht : P.underlying t = some (.slice e)) (he : P.underlying e = some (.int k)) (hc : P.cellsOf e = 1) (h : DataW.trod enc P w base spare held fuel t cs = some x) :
  ∃ a len cap zs, cs = [.slice a len cap] ∧ SlN (fun z : Int => Value.int k z) (hpOf w) (.slice a len cap) zs ∧ ∀ n ∈ zs, (Lit.int k n).wf = true := by
 rcases open_ints ht he hc h with ⟨rfl, _⟩ | ⟨x, len, cap, zs, rfl, _, hl, hm, hz, _, hcell, hw⟩
 ·exact ⟨none, 0, 0, [], rfl, nil_sl _ _, fun n hn => by cases hn⟩
 ·have hzl : len ≤ zs.length := by rw [hz]; split <;> omega
  refine ⟨some x, len, cap, zs.take len, rfl, ?_, fun n hn => hw n (List.mem_of_mem_take hn)⟩
  have hlen : (zs.take len).length = len := by rw [List.length_take]; omega
  unfold SlN
  rw [hlen]
  refine ⟨by rw [List.length_map, hlen, Nat.mul_one], ?_⟩
  by_cases h0 : len = 0
  ·subst h0; exact .inl ⟨rfl, some x, cap, rfl⟩
  ·right
   have h1 := hcell 0 (by omega)
   obtain ⟨b, off, sp⟩ := x
   have hsp : sp = none := by
    cases sp with
    | none => rfl
    | some s => simp only [World.cell?, Addr.add] at h1; split at h1 <;> simp_all
   subst hsp
   have hb : ∃ c, hpOf w b = some c ∧ ∀ i, i < zs.length → c[off + i]? = some (.int k (zs.getD i 0)) := by
    simp only [Addr.add_mid] at hcell
    unfold World.cell? at hcell
    unfold hpOf
    simp only at hcell
    cases hw' : w.heap[b]? with
    | none => have := hcell 0 (by omega); rw [hw'] at this; cases this
    | some o =>
     cases o with
     | cells c T fz => exact ⟨c, rfl, fun i hi => by have := hcell i hi; rw [hw'] at this; simpa using this⟩
     | _ => have := hcell 0 (by omega); rw [hw'] at this; cases this
   obtain ⟨c, hc1, hc2⟩ := hb
   refine ⟨b, off, cap, c, rfl, hl, hc1, fun j y hj => ?_⟩
   rw [List.getElem?_map, List.getElem?_take] at hj
   split at hj
   ·rename_i hjl
    rw [hc2 j (by omega), ← hj, List.getD_eq_getElem?_getD, List.getElem?_eq_getElem (by omega)]; rfl
   ·cases hj
end
theorem i64_bounds {z : Int} (h : (Lit.int .i64 z).wf = true) : -9223372036854775808 ≤ z ∧ z < 9223372036854775808 := by
 have := bounds_i64 h; omega
end Go.Proofs.YtejljnlfgiifoaaGreatDoor
namespace Go.Proofs.YtejljnlfgiifoaaGreatDoor
open Go Go.RowKit
theorem laid_gH {P : Program} {l : List (String × DataW Unit)} {W : World} (h : laidMet P l W) {n : String} {zs : List Nat} {g : Nat} {T e : TypeId} (hmem : (n, .agg (zs.map fun (z : Nat) => .lit (.int .u8 z))) ∈ l) (hg : P.globalNamed n = some g) (ht : (P.globals[g]?).map (·.type) = some T)
  (hT : P.underlying T = some (.array zs.length e)) (he : P.underlying e = some (.int .u8)) (hc : P.cellsOf e = 1) (hcT : P.cellsOf T = zs.length) :
  ∃ U fz, W.heap[g]? = some (.cells (zs.map fun (z : Nat) => Value.int .u8 (z : Int)).toArray U fz) := by
 obtain ⟨ps, hl, _⟩ := h
 obtain ⟨p0, g', t, cs, fuel, p, q, hg', ht', hv, hd, _, _⟩ := VM.laid_find hl hmem
 obtain rfl := Option.some.inj (hg.symm.trans hg')
 obtain rfl := Option.some.inj (ht.symm.trans ht')
 obtain ⟨xs, m, _, ex, hcl, hlen, hel⟩ := DataW.trod_array hT hd
 have hb : ∃ U fz, W.heap[g]? = some (.cells cs U fz) := by
  simp only [World.var?, hg, Option.bind_some] at hv
  split at hv
  ·rename_i c U fz hc'; cases hv; exact ⟨U, fz, hc'⟩
  ·cases hv
 obtain ⟨U, fz, hb⟩ := hb
 refine ⟨U, fz, ?_⟩
 rw [hb]
 congr 2
 apply Array.ext'
 rw [hcT] at hcl
 have e3 : (xs.map (·.1)) = zs.map fun (n : Nat) => .lit (.int .u8 n) := (DataW.agg.inj (Prod.mk.inj ex).1).symm
 apply List.ext_getElem?
 intro r
 rcases Nat.lt_or_ge r zs.length with hr | hr
 ·have hE := hel r hr
  rw [hc, Nat.mul_one, List.getElem?_eq_getElem (by omega)] at hE
  obtain ⟨z, e1, e2, _⟩ := DataW.trod_int he hE
  have e4 : (xs.map (·.1))[r]? = (zs.map fun (n : Nat) => (DataW.lit (.int .u8 n) : DataW Unit))[r]? := by rw [e3]
  rw [List.getElem?_map, List.getElem?_map, List.getElem?_eq_getElem (by omega : r < xs.length), List.getElem?_eq_getElem hr, e2] at e4
  simp only [Option.map_some, Option.some.injEq, DataW.lit.injEq, Lit.int.injEq, true_and] at e4
  have h0 : ((cs.toList.drop r).take 1)[0]? = some (.int .u8 z) := by rw [e1]; rfl
  simp only [List.getElem?_take, List.getElem?_drop, Nat.add_zero] at h0
  rw [if_pos (by omega)] at h0
  rw [h0, e4]
  simp [hr]
 ·rw [List.getElem?_eq_none (by omega), List.getElem?_eq_none (by simpa using hr)]
theorem fits_gH {l : List (String × DataW Unit)} {W : World} (h : laidMet Tryz.prog l W) (hmem : ("math/bits.deBruijn64tab", .agg (Lib.deBruijn64tab.map fun (z : Nat) => .lit (.int .u8 z))) ∈ l) : Fits gH W := fun b c hb => by
 unfold gH at hb
 split at hb
 ·rename_i hbb
  cases hb
  obtain rfl := Nat.eq_of_beq_eq_true hbb
  exact laid_gH h hmem (by kernel_rfl) (by kernel_rfl) Tryz.underlying235 Tryz.underlying5 (by kernel_rfl) (by kernel_rfl)
 ·cases hb
end Go.Proofs.YtejljnlfgiifoaaGreatDoor
