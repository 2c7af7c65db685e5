/- Texts of ours in one: Ev26, Tr3, Ev27, Stable, Swaps, RestPlain, Rest, Same, Rising, Tr4, Tr5, TrT, Tr6, Tr7, Tr8, Tr9, Tr10, Tr11, Tr12, Tr13, Wd8, Ev28, Pg1, Tr14, Tr15, Pg2, Od1, Pg3, Tr16, Tr17, Tr18, Tr19, Tr20, Tr21, Tr22, Tr23, Tr24, Tr25, Tr26, Opn, Opn20, Tr27, Tr29, Tr30, Tr31, Pg4, Pg5, Pg6, Pg7, Tg1, Tp0, Tp1, Pg9, Tp2, Tp3, BoP, Ev29, Ev30, Ev32, BoW, BoR, Th1, BoO, BoA, BoC, BoV, BoD, BoE, BoM, BoL, BoQ, BoS, BoT, Opn21, BoU. -/
import Derived.Test.YtnejmfoednmkhaaGreatDoorL0
import Derived.Test.YtnejmfoednmkhaaGreatDoorL2
import Derived.Test.YtnejmfoednmkhaaGreatDoorL3
import Derived.Lib.ConvBytes
import Derived.Test.YtnejmfoednmkhaaGreatDoorRows
import Derived.WalkLawsBesides
import Derived.Deep.LoopGhost
import Derived.Deep.QuietTactic
import Derived.BigQuiet
import Derived.WalkKit
import Derived.ProofKit
import Derived.OpenShut
set_option linter.unusedVariables false
set_option linter.unusedSimpArgs false
set_option maxHeartbeats 64000000
namespace Go.Proofs.YtnejmfoednmkhaaGreatDoor
section
open Go.RowKit _root_.Go.Proofs.Tryz
section
variable {P:Program} {ops:Array Oper} {md:Region.Mode} {Q:Exit→Act→World→Prop} {I:World→Prop} {z:Option Nat}
def zmx (md:Region.Mode) (ops:Array Oper) (L:Array Bool) (i:Nat):Bool:=(List.range ops.size).all fun k => !L.getD k false || match ops[k]? with
 | some o => !o.after.any fun e=>Region.binds md e && e.on == i
 | none=>true
theorem zim {L:Array Bool} {i:Nat}:zmx md ops L i=true↔∀k o,ops[k]?=some o→L.getD k false=true→∀e∈o.after,Region.binds md e=true→e.on≠i:=by
 unfold zmx;rw[List.all_eq_true];constructor
 ·intro h k o ho hk e he hb heq;have h1:=h k (List.mem_range.2 (Array.getElem?_eq_some_iff.1 ho).1);rw[hk,ho]at h1;simp only[Bool.not_true,Bool.false_or,Bool.not_eq_true',Array.any_eq_false']at h1;have:=h1 e he;simp[hb,heq]at this
 ·intro h k hk
  cases hL:L.getD k false with
  | false=>rfl
  | true =>
   obtain⟨o,ho⟩:∃o,ops[k]?=some o:=⟨_,Array.getElem?_eq_getElem (List.mem_range.1 hk)⟩;rw[ho];simp only[Bool.not_true,Bool.false_or,Bool.not_eq_true',Array.any_eq_false'];intro e he
   cases hb:Region.binds md e with
   | false=>simp
   | true=>have:=h k o ho hL e he hb;simpa using this
def zew (z:Option Nat) (L:Array Bool):Bool:=match z with
 | none=>true
 | some k => !L.getD k false
def zrn (md:Region.Mode) (ops:Array Oper) (z:Option Nat) (i:Nat):Bool:=match z with
 | none=>true
 | some k => !(k == i) && match ops[k]? with
  | some o=>o.after.any fun e=>Region.binds md e && e.on == i
  | none=>false
def zdz (P:Program) (md:Region.Mode) (ops:Array Oper) (Q:Exit→Act→World→Prop) (I:World→Prop) (z:Option Nat):Nat→Array Bool→Act→World→Prop
 | 0,L,a,w=>(zew z L=true→I w)∧Region.ready md ops L=[]∧Q .normal a w
 | f+1,L,a,w=>(zew z L=true→I w)∧(Region.ready md ops L=[]→Q .normal a w)∧∀i,i∈Region.ready md ops L→wpOp P ops Q i (zdz P md ops Q I z f (L.setIfInBounds i true)) a w
theorem zdz.now:∀{f:Nat} {L:Array Bool} {a:Act} {w:World},zdz P md ops Q I z f L a w→zew z L=true→I w
 | 0,_,_,_,h=>h.1
 | _+1,_,_,_,h=>h.1
theorem zdz.any:∀(f:Nat) (L:Array Bool) (a:Act) (w:World),zdz P md ops Q I z f L a w→wpAny P md ops Q f L a w
 | 0,_,_,_,h=>h.2
 | f+1,_,_,_,h=>⟨h.2.1,fun i hi=>wpOp_mono (fun a w k=>zdz.any f _ a w k) (h.2.2 i hi)⟩
def zhA (P:Program) (ops:Array Oper) (I:World→Prop) (o:Oper) (v:Value) (a:Act):Prop :=
 Region.wanted o (yielded ops a.tmps)=true∧∀w,I w→(execOp a.eval o).run P w=.ok (.value v) w
theorem zhA.op {i:Nat} {o:Oper} {v:Value} {a:Act} (hi:ops[i]?=some o) (hy:zhA P ops I o v a) {K:Act→World→Prop} {w:World} (hw:I w) (h:K (a.put o.dst v) w):wpOp P ops Q i K a w:=by
 unfold wpOp;simp only[hi,hy.1,if_true,Oper.wp,hy.2 w hw,Oper.upon];exact .inl h
theorem zoh {j:Nat} {oj:Oper} (hj:ops[j]?=some oj) {Y:Act→Prop} (k1:∀a u,Y a→Y (a.put oj.dst u)) (k2:∀(a:Act) d,Y a→Y { a with defers:=d::a.defers }) {K:Act→World→Prop} {a:Act} {w:World} (hy:Y a) (h:wpOp P ops Q j K a w):wpOp P ops Q j (fun a' w'=>Y a'∧K a' w') a w:=by
 unfold wpOp at *
 simp only[hj]at *
 split
 ·rename_i hw;rw[if_pos hw]at h;refine h.imp (fun h=>?_) id;unfold Oper.wp at *
  generalize (execOp a.eval oj).run P w=r at *
  cases r with
  | ok n w' =>
   cases n <;> simp only[Oper.upon]at h ⊢
   case value u=>exact⟨k1 _ _ hy,h⟩
   case skip=>exact⟨k1 _ _ hy,h⟩
   case defer d=>exact⟨k1 _ _ (k2 _ _ hy),h⟩
   case enter f args =>
    refine Calls.mono h fun e w'' he=>?_
    cases e with
    | returned u=>exact⟨k1 _ _ hy,he⟩
    | _=>exact he
   case row row args=>exact Rows.mono h fun u w'' he=>⟨k1 _ _ hy,he⟩
  | halt x w'=>cases x <;> simp only[Oper.upon]at h ⊢ <;> exact h
 ·rename_i hw;rw[if_neg hw]at h;exact⟨k1 _ _ hy,h⟩
theorem zly {oi oj:Oper} {v:Value} (h:oi.apart ops oj=true):Oper.apart ops { oi with op:=.move (.const v),guard:=none } oj=true:=by
 unfold Oper.apart at *
 rw[Bool.and_eq_true]at *
 refine⟨h.1,?_⟩
 cases oj.dst with
 | none=>rfl
 | some d=>rfl
theorem zkj {J:World→Prop} {i:Nat} {oi:Oper} {v:Value} (hi:ops[i]?=some oi) (hsel:Region.noSelect ops=true) (hQ:∀c a w,Q (.panic c) (a.put oi.dst v) w→Q (.panic c) a w) (hts:(zrn md ops z i=true∧∀w,I w→J w)∨((∀w,J w)∧z≠some i)) :
  ∀(f:Nat) (L:Array Bool) (a:Act) (w:World),(∀j oj,ops[j]?=some oj→j≠i→L.getD j true=false→(∀e∈oj.after,Region.binds md e=true→e.on≠i)→oi.apart ops oj=true)→zmx md ops L i=true →
   i∈Region.ready md ops L→zhA P ops J oi v a→zdz P md ops Q I z f (L.setIfInBounds i true) (a.put oi.dst v) w→zdz P md ops Q I z (f+1) L a w:=by
 have now:∀{f:Nat} {L:Array Bool} {a:Act} {w:World},zmx md ops L i=true→zdz P md ops Q I z f (L.setIfInBounds i true) (a.put oi.dst v) w→(zew z L=true→I w)∧J w:=fun {f L a w} hy H=>by
  rcases hts with ⟨hz,hJ⟩ | ⟨hJ,hz⟩
  ·have hI:I w:=H.now (by
    cases z with
    | none=>rfl
    | some k =>
     simp only[zrn,Bool.and_eq_true,Bool.not_eq_true',pP]at hz;obtain⟨hki,hk⟩:=hz;show (!(L.setIfInBounds i true).getD k false)=true;rw[Go.getD_set_ne false (Ne.symm hki)]
     cases hL:L.getD k false with
     | false=>rfl
     | true =>
      cases ho:ops[k]? with
      | none=>rw[ho]at hk;cases hk
      | some o =>
       rw[ho]at hk;obtain⟨e,he,hb⟩:=Array.any_eq_true'.1 hk;simp only[Bool.and_eq_true,beq_iff_eq]at hb;exact absurd hb.2 (zim.1 hy k o ho hL e he hb.1))
   exact⟨fun _=>hI,hJ _ hI⟩
  ·refine⟨fun h=>H.now ?_,hJ w⟩
   cases z with
   | none=>rfl
   | some k =>
    have hki:i≠k:=fun e=>hz (by rw[e]);show (!(L.setIfInBounds i true).getD k false)=true;rw[Go.getD_set_ne false hki];exact h
 intro f
 induction f with
 | zero =>
  intro L a w _ hy hr hY H;refine⟨(now hy H).1,fun h=>(by rw[h]at hr;cases hr),fun j hj=>?_⟩;by_cases hji:j=i
  ·subst hji;exact hY.op hi (now hy H).2 H
  ·have:=ready_mono hj hji;rw[H.2.1]at this;cases this
 | succ f ih =>
  intro L a w hfree hyt hr hy H;refine⟨(now hyt H).1,fun h=>(by rw[h]at hr;cases hr),fun j hj=>?_⟩;by_cases hji:j=i
  ·subst hji;exact hy.op hi (now hyt H).2 H
  ·have h1:=H.2.2 j (ready_mono hj hji);obtain⟨hjun,oj,hoj,hall⟩:=mem_ready.1 hj
   have hnot:∀e∈oj.after,Region.binds md e=true→e.on≠i:=fun e he hb heq=>by
    have h1:=hall e he hb;have h0:=(mem_ready.1 hr).1;rw[heq]at h1;rcases Nat.lt_or_ge i L.size with h' | h'
    ·simp[h']at h0 h1;rw[h0]at h1;cases h1
    ·simp[Array.getElem?_eq_none h']at h1
   have hap:=hfree j oj hoj hji hjun hnot;obtain⟨_,_,hap3⟩:=Oper.apart_spec hap;have hsi:=fun cs b=>Region.noSelect_spec hsel i oi cs b hi
   have h2:=wpOp_put (oi:={ oi with op:=.move (.const v),guard:=none }) hoj (zly hap) (fun cs b e=>by cases e) (fun cs b=>Region.noSelect_spec hsel j oj cs b hoj) hQ
    (.inl ⟨rfl,fun w=>rfl⟩) h1
   have h3:=zoh (Y:=zhA P ops J oi v) hoj (fun a u hy=>⟨by rw[wanted_put oi a oj.dst u hap3];exact hy.1,fun w hw=>by rw[execOp_put oi hsi a oj.dst u hap3];exact hy.2 w hw⟩) (fun a d hy=>hy) hy h2
   have hfree':∀k ok,ops[k]?=some ok→k≠i→(L.setIfInBounds j true).getD k true=false→(∀e∈ok.after,Region.binds md e=true→e.on≠i)→oi.apart ops ok=true:=fun k ok hk hki hun hno=>by
    refine hfree k ok hk hki ?_ hno;by_cases hjk:j=k
    ·subst hjk;exact hjun
    ·rw[Go.getD_set_ne true hjk]at hun;exact hun
   have hyt':zmx md ops (L.setIfInBounds j true) i=true:=zim.2 fun k o ho hk=>by
    by_cases hjk:j=k
    ·subst hjk;cases hoj.symm.trans ho;exact hnot
    ·rw[Go.getD_set_ne false hjk]at hk;exact zim.1 hyt k o ho hk
   refine wpOp_mono (fun a' w' h4=>ih (L.setIfInBounds j true) a' w' hfree' hyt' (ready_mono hr (Ne.symm hji)) h4.1 ?_) h3;rw[Array.setIfInBounds_comm _ _ hji];exact h4.2.2
end
def EVG (I:World→Prop) (z:Option Nat) (P:Program) (n:Nat) (ops:Array Oper) (fuel:Nat) (L:Array Bool) (env:Env) (bx:Bxs) (H:Hs) (K:Env→Bxs→Hs→Prop):Prop :=
 ∀W0 β a W,Rel n W0 H.base β env bx H a W→zdz P .any ops (fun e a W=>e=.normal∧ziS n W0 H.base (fun _ env bx H=>K env bx H) .normal a W) I z fuel L a W
abbrev EVI (z:Option Nat) (p:Nat × TypeId × List Value) (P:Program) (n:Nat) (ops:Array Oper) (fuel:Nat) (L:Array Bool) (env:Env) (bx:Bxs) (H:Hs) (K:Env→Bxs→Hs→Prop):Prop :=
 EVG (fun W=>Box W p.1 p.2.2.toArray p.2.1) z P n ops fuel L env bx H K
section
variable {I:World→Prop} {z:Option Nat} {p:Nat × TypeId × List Value} {n:Nat} {ops:Array Oper} {fuel:Nat} {L:Array Bool} {env:Env} {bx:Bxs} {H:Hs} {K:Env→Bxs→Hs→Prop} {d:Nat} {o:Oper} {v:Value}
theorem EVG.start (I:World→Prop) (z:Option Nat) {id:Nat} {l:List Oper} {Q:EQ} (h:EVG I z prog n l.toArray l.length (Array.replicate l.length false) env bx H (fun env bx H=>Q .normal env bx H)) (hm:Tryz.prog.follows .mixedOrders=true:=by kernel_rfl):EV prog n (.region id l.toArray true) env bx H Q :=
 EVA.start hm fun W0 β a W r=>(h W0 β a W r).any _ _ _ _
theorem EVI.start (z:Option Nat) (p:Nat × TypeId × List Value) {id:Nat} {l:List Oper} {Q:EQ} (h:EVI z p prog n l.toArray l.length (Array.replicate l.length false) env bx H (fun env bx H=>Q .normal env bx H)) (hm:Tryz.prog.follows .mixedOrders=true:=by kernel_rfl):EV prog n (.region id l.toArray true) env bx H Q:=EVG.start _ z h hm
theorem EVG.take {J:World→Prop} (i:Nat) (hts:(zrn .any ops z i=true∧∀w,I w→J w)∨((∀w,J w)∧z≠some i)) (hi:ops[i]?=some o) (hs:Region.noSelect ops=true) (hf:Region.free .any ops L i=true) (hr:(Region.ready .any ops L).contains i=true) (hy:zmx .any ops L i=true) (hw:zal ops env o=some true) (hd:o.dst=some d) (hn:Nat.blt d n=true)
  (hx:∀(β:Nat→Nat) (a:Act) (W:World),(∀y s,env.op y=some s→s.rep β H.ro (a.eval y))→J W→(execOp a.eval o).run prog W=.ok (.value v) W)
  (h:EVG I z prog n ops fuel (L.setIfInBounds i true) ((d,.v v)::env) bx H K):EVG I z prog n ops (fuel+1) L env bx H K:=fun W0 β a W r=>by
 refine zkj (v:=v) hi hs (fun c a w e=>by cases e.1) hts fuel L a W (Region.free_spec hi hf) hy (by simpa using hr) ⟨r.want hw,fun w hI=>hx β a w (fun y s hy=>r.op hy) hI⟩ ?_;rw[hd];exact h W0 β _ W (r.put hn rfl rfl)
theorem IV (i:Nat) (h:EVG I z prog n ops fuel (L.setIfInBounds i true) ((d,.v v)::env) bx H K) (hi:ops[i]?=some o:=by exact rfl) (hs:Region.noSelect ops=true:=by kernel_rfl) (hf:Region.free .any ops L i=true:=by kernel_rfl) (hr:(Region.ready .any ops L).contains i=true:=by kernel_rfl) (hy:zmx .any ops L i=true:=by kernel_rfl) (hts:(z == some i)=false:=by kernel_rfl) (hw:zal ops env o=some true:=by exact rfl) (hd:o.dst=some d:=by exact rfl) (hn:Nat.blt d n=true:=by exact rfl)
  (hv:zoq Tryz.tab env [] o.op=some (.v v):=by exact rfl) (hpl:zja env o.op.operands.toList=true:=by exact rfl):EVG I z prog n ops (fuel+1) L env bx H K :=
 EVG.take (J:=fun _=>True) i (.inr ⟨fun _=>trivial,fun e=>by rw[e]at hts;simp at hts⟩) hi hs hf hr hy hw hd hn (fun β a W he _=>by
  obtain⟨x,hx,hr⟩:=zcf (β:=β) (H:=fun _=>none) (W:=W) (a:=a) tO hv (fun y s hm hy=>zjb (zeV hpl y (by simpa using hm)) hy (he y s hy)) (fun i T cs e=>by cases e) (fun b c e=>by cases e);have e:x=v:=hr;rw[←e];exact hx) h
theorem IN (i:Nat) {x:Operand} {c:Addr} (h:EVG I z prog n ops fuel (L.setIfInBounds i true) ((d,.v (.pointer (some c)))::env) bx H K) (hi:ops[i]?=some o:=by exact rfl) (hs:Region.noSelect ops=true:=by kernel_rfl) (hf:Region.free .any ops L i=true:=by kernel_rfl) (hr:(Region.ready .any ops L).contains i=true:=by kernel_rfl) (hy:zmx .any ops L i=true:=by kernel_rfl) (hts:(z == some i)=false:=by kernel_rfl) (hw:zal ops env o=some true:=by exact rfl) (hd:o.dst=some d:=by exact rfl) (hn:Nat.blt d n=true:=by exact rfl)
  (ho:o.op=.nilCheck x:=by exact rfl) (hx:env.op x=some (.v (.pointer (some c))):=by exact rfl):EVG I z prog n ops (fuel+1) L env bx H K :=
 EVG.take (J:=fun _=>True) i (.inr ⟨fun _=>trivial,fun e=>by rw[e]at hts;simp at hts⟩) hi hs hf hr hy hw hd hn (fun β a W he _=>zh9 ho hx _ W fun y x _ hy=>he y _ hy) h
theorem IF (i:Nat) {x:Operand} {T:TypeId} {te:TE} {f b q fo sz:Nat} {ag:Bool} (h:EVG I z prog n ops fuel (L.setIfInBounds i true) ((d,.v (.pointer (some ⟨b,q+fo,none⟩)))::env) bx H K) (hi:ops[i]?=some o:=by exact rfl) (hs:Region.noSelect ops=true:=by kernel_rfl) (hf:Region.free .any ops L i=true:=by kernel_rfl) (hr:(Region.ready .any ops L).contains i=true:=by kernel_rfl) (hy:zmx .any ops L i=true:=by kernel_rfl) (hts:(z == some i)=false:=by kernel_rfl) (hw:zal ops env o=some true:=by exact rfl) (hd:o.dst=some d:=by exact rfl) (hn:Nat.blt d n=true:=by exact rfl)
  (ho:o.op=.fieldAddr T x f:=by exact rfl) (hx:env.op x=some (.v (.pointer (some ⟨b,q,none⟩))):=by exact rfl) (ht:Tryz.tab.get T=some te:=by exact rfl) (hfd:te.fields[f]?=some (fo,ag,sz):=by exact rfl):EVG I z prog n ops (fuel+1) L env bx H K :=
 EVG.take (J:=fun _=>True) i (.inr ⟨fun _=>trivial,fun e=>by rw[e]at hts;simp at hts⟩) hi hs hf hr hy hw hd hn (fun β a W he _=>zh7 tO ho ht hfd hx _ W fun y x _ hy=>he y _ hy) h
theorem IL0 (i:Nat) {x:Operand} {T:TypeId} {te:TE} {q:Nat} {l:List Value} (h:EVI z p prog n ops fuel (L.setIfInBounds i true) ((d,.v v)::env) bx H K) (hi:ops[i]?=some o:=by exact rfl) (hs:Region.noSelect ops=true:=by kernel_rfl) (hf:Region.free .any ops L i=true:=by kernel_rfl) (hr:(Region.ready .any ops L).contains i=true:=by kernel_rfl) (hy:zmx .any ops L i=true:=by kernel_rfl) (hts:zrn .any ops z i=true:=by kernel_rfl) (hw:zal ops env o=some true:=by exact rfl) (hd:o.dst=some d:=by exact rfl) (hn:Nat.blt d n=true:=by exact rfl)
  (ho:o.op=.load T x:=by exact rfl) (hx:env.op x=some (.v (.pointer (some ⟨p.1,q,none⟩))):=by exact rfl) (ht:Tryz.tab.get T=some te:=by exact rfl) (hl:(p.2.2.drop q).take te.size=l:=by exact rfl) (hlen:l.length=te.size:=by exact rfl) (hv:zeL te.agg l=some v:=by exact rfl):EVI z p prog n ops (fuel+1) L env bx H K :=
 EVG.take (J:=fun w=>Box w p.1 p.2.2.toArray p.2.1) i (.inl ⟨hts,fun _ h=>h⟩) hi hs hf hr hy hw hd hn (fun β a W he hB=>by
  have ex:a.eval x=.pointer (some ⟨p.1,q,none⟩):=he x _ hx;have hrg:=hB.range q te.size;rw[hl]at hrg;have hrun:=zaT (tO.get ht) hrg hlen hv;unfold execOp;simp only[ho,ex,Sem.run_bind,hrun,Result.andThen_ok,Sem.run_pure]) h
theorem EVG.step (hI:zew z L=true→∀W0 β a W,Rel n W0 H.base β env bx H a W→I W) (hne:(Region.ready .any ops L).isEmpty=false) (hk:∀q,q∈Region.ready .any ops L→∃o,ops[q]?=some o∧EVL prog n ops [o] env bx H (fun e env bx H'=>e=.normal∧EVG I z prog n ops fuel (L.setIfInBounds q true) env bx H' K)):EVG I z prog n ops (fuel+1) L env bx H K:=fun W0 β a W r=>by
 refine⟨fun hn=>hI hn W0 β a W r,fun e=>(by rw[e]at hne;cases hne),fun q hq=>?_⟩;obtain⟨o,ho,h⟩:=hk q hq;have h1:=h W0 β a W r
 have hkk:∀a W,ziS n W0 H.base (fun e env bx H'=>e=.normal∧EVG I z prog n ops fuel (L.setIfInBounds q true) env bx H' K) .normal a W→zdz prog .any ops (fun e a W=>e=.normal∧ziS n W0 H.base (fun _ env bx H=>K env bx H) .normal a W) I z fuel (L.setIfInBounds q true) a W:=by
  rintro a W ⟨β',env',bx',H',hbase,⟨_,hE⟩,rel⟩;have:=hE W0 β' a W (by rw[hbase];exact rel)
  rwa [hbase]at this
 unfold wpOp;simp only[ho];unfold wpList at h1;split
 ·rename_i hw;rw[if_pos hw]at h1;rcases h1 with h1 | ⟨h1,h2⟩
  ·refine .inl (Oper.wp_exits (fun c a W hq=>?_) (fun hq=>?_) (Oper.wp_mono (fun a W h=>hkk a W h) h1))
   ·obtain⟨_,_,_,_,_,⟨e,_⟩,_⟩:=hq;cases e
   ·obtain⟨a0,w0,_,_,_,_,_,⟨e,_⟩,_⟩:=hq;cases e
  ·obtain⟨a0,w0,_,_,_,_,_,⟨e,_⟩,_⟩:=h2;cases e
 ·rename_i hw;rw[if_neg hw]at h1;exact hkk _ _ h1
theorem EVG.nil (hI:zew z L=true→∀W0 β a W,Rel n W0 H.base β env bx H a W→I W) (hr:(Region.ready .any ops L).isEmpty=true) (h:K env bx H):EVG I z prog n ops fuel L env bx H K:=fun W0 β a W r=>by
 have hr':=List.isEmpty_iff.1 hr;have hI:=fun hn=>hI hn W0 β a W r
 cases fuel with
 | zero=>exact⟨hI,hr',rfl,β,env,bx,H,rfl,h,r⟩
 | succ f=>exact⟨hI,fun _=>⟨rfl,β,env,bx,H,rfl,h,r⟩,fun i hi=>by rw[hr']at hi;cases hi⟩
theorem EVG.one (k:Nat) (hI:zew z L=true→∀W0 β a W,Rel n W0 H.base β env bx H a W→I W) (hr:(Region.ready .any ops L == [k])=true) (ho:ops[k]?=some o) (h:EVL prog n ops [o] env bx H (fun e env bx H'=>e=.normal∧EVG I z prog n ops fuel (L.setIfInBounds k true) env bx H' K)):EVG I z prog n ops (fuel+1) L env bx H K:=by
 have hr':=eq_of_beq hr;refine EVG.step hI (by rw[hr'];rfl) fun q hq=>?_;rw[hr',pJ]at hq;subst hq;exact⟨o,ho,h⟩
theorem EVG.two {o':Oper} (k k':Nat) (hI:zew z L=true→∀W0 β a W,Rel n W0 H.base β env bx H a W→I W) (hr:(Region.ready .any ops L == [k,k'])=true) (ho:ops[k]?=some o) (ho':ops[k']?=some o') (h:EVL prog n ops [o] env bx H (fun e env bx H'=>e=.normal∧EVG I z prog n ops fuel (L.setIfInBounds k true) env bx H' K))
  (h':EVL prog n ops [o'] env bx H (fun e env bx H'=>e=.normal∧EVG I z prog n ops fuel (L.setIfInBounds k' true) env bx H' K)):EVG I z prog n ops (fuel+1) L env bx H K:=by
 have hr':=eq_of_beq hr;refine EVG.step hI (by rw[hr'];rfl) fun q hq=>?_;rw[hr']at hq;rcases List.mem_cons.1 hq with rfl | hq
 ·exact⟨o,ho,h⟩
 ·obtain rfl:q=k':=by simpa using hq
  exact⟨o',ho',h'⟩
theorem zsd {jj:Nat} (hj:zew z L=false∨H.ow[jj]?=some p):zew z L=true→∀W0 β a W,Rel n W0 H.base β env bx H a W→Box W p.1 p.2.2.toArray p.2.1:=fun hn W0 β a W r=>by
 rcases hj with hj | hj
 ·rw[hj]at hn;cases hn
 ·exact(r.own jj p.1 p.2.1 p.2.2 hj).1
theorem EVI.one (k jj:Nat) (hj:zew z L=false∨H.ow[jj]?=some p) (hr:(Region.ready .any ops L == [k])=true) (ho:ops[k]?=some o) (h:EVL prog n ops [o] env bx H (fun e env bx H'=>e=.normal∧EVI z p prog n ops fuel (L.setIfInBounds k true) env bx H' K)):EVI z p prog n ops (fuel+1) L env bx H K:=EVG.one k (zsd hj) hr ho h
theorem EVI.nil (jj:Nat) (hj:zew z L=false∨H.ow[jj]?=some p) (hr:(Region.ready .any ops L).isEmpty=true) (h:K env bx H):EVI z p prog n ops fuel L env bx H K:=EVG.nil (zsd hj) hr h
end
def zbL (H:Hp) (css:List (List Value)) (ns:List Nd):Prop:=css.length=ns.length∧∀(j:Nat) (c:List Value) (n:Nd),css[j]?=some c→ns[j]?=some n→zdR H c n
theorem zbL.mono {H G:Hp} {css:List (List Value)} {ns:List Nd} (h:zbL H css ns) (k:H.Le G):zbL G css ns:=⟨h.1,fun j c n e1 e2=>(h.2 j c n e1 e2).mono k⟩
theorem zbL.snoc {H G:Hp} {css:List (List Value)} {ns:List Nd} (h:zbL H css ns) (k:H.Le G) {c:List Value} {n:Nd} (hc:zdR G c n):zbL G (css++[c]) (ns++[n]):=by
 refine⟨by simp[h.1],fun j c' n' e1 e2=>?_⟩;by_cases hj:j<css.length
 ·rw[qM hj]at e1;rw[qM (by rw[←h.1];exact hj)]at e2;exact(h.2 j c' n' e1 e2).mono k
 ·rw[qL (by omega)]at e1;rw[qL (by rw[←h.1];omega),←h.1]at e2
  have h0:j-css.length=0:=by
   have:=(qE.1 e1).1;simp at this;omega
  rw[h0]at e1 e2;cases e1;cases e2;exact hc
def zpY (dv:Value) (D:Ows) (s:Int):Prop:=(dv=.pointer none∧D=[])∨∃bd T,dv=.pointer (some ⟨bd,0,none⟩)∧D=[(bd,T,[.int .u64 s])]∧0≤s
theorem zdR.len {H:Hp} {c:List Value} {n:Nd} (h:zdR H c n):c.length=15:=by
 obtain⟨b1,a1,l1,c1,a2,l2,c2,b3,a3,l3,c3,a4,l4,c4,b5,a5,l5,c5,a6,l6,c6,a7,c7,rfl,_⟩:=h.cells;rfl
theorem zeB {A c B:List Value} {k s f m q:Nat} (hA:A.length=k*s) (hq:q=k*s+f) (hf:f+m≤c.length):q+m≤(A++(c++B)).length:=by
 rw[qJ,qJ,hA,hq];omega
theorem zqh {l:List (List Value)} (h:∀c,c∈l→c.length=15):l.flatten.length=l.length*15:=by
 induction l with
 | nil=>rfl
 | cons c l ih=>rw[List.flatten_cons,qJ,h c (qf ..),ih (fun c hc=>h c (qk _ hc)),qR];omega
theorem zbL.mid {H:Hp} {css:List (List Value)} {A B:List Nd} {n:Nd} (h:zbL H css (A++n::B)):∃cA c cB,css=cA++c::cB∧cA.flatten.length=A.length*15∧zdR H c n∧∀(G:Hp) (c':List Value) (n':Nd),H.Le G→zdR G c' n'→zbL G (cA++c'::cB) (A++n'::B):=by
 have hl:=h.1;rw[qJ,qR]at hl;have hlt:A.length<css.length:=oM
 have e:css=css.take A.length++css[A.length]::css.drop (A.length+1):=by
  rw[←qo hlt,List.take_append_drop]
 have hla:(css.take A.length).length=A.length:=by rw[qP];omega
 refine⟨_,_,_,e,?_,h.2 A.length _ n (qA hlt) (by rw[qL (qH _),Nat.sub_self];rfl),?_⟩
 ·refine(zqh fun c hc=>?_).trans (by rw[hla]);obtain⟨j,hj⟩:=List.mem_iff_getElem?.1 (List.mem_of_mem_take hc);have hj':=(qE.1 hj).1;obtain⟨m,hm⟩:∃m,(A++n::B)[j]?=some m:=⟨_,qA (by rw[←h.1];exact hj')⟩;exact(h.2 j c m hj hm).len
 ·intro G c' n' hG hc;refine⟨by simp only[qJ,qR,hla,qp];omega,fun j c1 n1 e1 e2=>?_⟩;rcases Nat.lt_trichotomy j A.length with hj | rfl | hj
  ·rw[qM oM,List.getElem?_take_of_lt hj]at e1;rw[qM hj]at e2;exact(h.2 j c1 n1 e1 (by rw[qM hj];exact e2)).mono hG
  ·rw[qL oM,hla,Nat.sub_self]at e1;rw[qL (qH _),Nat.sub_self]at e2;cases e1;cases e2;exact hc
  ·obtain⟨k,rfl⟩:∃k,j=A.length+(k+1):=⟨j-A.length-1,by omega⟩;rw[qL oM,hla,Nat.add_sub_cancel_left,pL,List.getElem?_drop]at e1;rw[qL oM,Nat.add_sub_cancel_left,pL]at e2;exact(h.2 (A.length+(k+1)) c1 n1 (by rw[←e1];congr 1;omega) (by rw[qL oM,Nat.add_sub_cancel_left,pL];exact e2)).mono hG
theorem zaA.mid {e:TypeId} {v:Value} {m:Nat} {cA cB:List (List Value)} {c:List Value} {ow:Ows} (h:zaA e 15 v m (cA++c::cB).flatten ow) (hc:c.length=15):∃g cap sp,v=.slice (some ⟨g,0,none⟩) m cap∧ow=[(g,e,cA.flatten++(c++(cB.flatten++sp)))]∧∀c',c'.length=15→zaA e 15 v m (cA++c'::cB).flatten [(g,e,cA.flatten++(c'++(cB.flatten++sp)))]:=by
 have hl:=h.1;rcases h.2 with ⟨_,rfl,_⟩ | ⟨g,cap,sp,rfl,rfl,h1,h2,h3⟩
 ·simp[hc]at hl
 ·have e1:∀c':List Value,(cA++c'::cB).flatten=cA.flatten++(c'++cB.flatten):=fun c'=>by simp
  rw[e1]at hl h1;refine⟨g,cap,sp,rfl,by rw[e1];simp,fun c' hc'=>⟨?_,.inr ⟨g,cap,sp,rfl,by rw[e1];simp,?_,h2,h3⟩⟩⟩
  ·rw[e1,←hl];simp[hc,hc']
  ·rw[e1,←h1];simp[hc,hc']
theorem zor.cells {G:Hp} {o:Option (Int × Rat × Rat)} {cs:List Value} (h:zor G o cs):∃c b1 a1 l1 c1 a2 l2 c2 b3 a3 l3 c3 a4 l4 c4,cs=[.int .i64 c,.bool b1,.slice a1 l1 c1,.slice a2 l2 c2,.bool b3,.slice a3 l3 c3,.slice a4 l4 c4]∧∀c' t g,o=some (c',t,g)→c=c'∧RQ G (.agg #[.bool b1,.slice a1 l1 c1,.slice a2 l2 c2]) t∧RQ G (.agg #[.bool b3,.slice a3 l3 c3,.slice a4 l4 c4]) g:=by
 cases o with
 | none=>exact⟨_,_,_,_,_,_,_,_,_,_,_,_,_,_,_,h,fun c' t g e=>by cases e⟩
 | some p =>
  obtain⟨x,y,h1,h2,rfl⟩:=h;obtain⟨a1,l1,c1,a2,l2,c2,rfl,_⟩:=id h1;obtain⟨a3,l3,c3,a4,l4,c4,rfl,_⟩:=id h2;exact⟨_,_,_,_,_,_,_,_,_,_,_,_,_,_,_,rfl,fun c' t g e=>by cases e;exact⟨rfl,h1,h2⟩⟩
section
variable {P:Program} {n:Nat} {ops:Array Oper} {o1 o2:Oper} {rest:List Oper} {env:Env} {bx:Bxs} {H:Hs} {Q:EQ} {d d1:Nat}
end
end
section
section
variable {α:Type}
variable {lt:α→α→Bool}
end
end
section
open Go.RowKit _root_.Go.Proofs.Tryz
section
variable {α:Type} {enc:α→Value} {w w':World} {B:Nat} {T:TypeId} {cap:Nat} {l:List α}
end
set_option maxRecDepth 100000 in
theorem zo7 {H:Hp} {vx:Value} {X:List (List Rat)} (hX:RLL H vx X) {w:Nat} (hw:∀x,x∈X→x.length=w) (h1:1≤w) (h0:0<X.length) (hn:X.length≤1000000):PC prog 127 #[vx] H fun r _=>r=.bool true:=by
 obtain⟨xa,xc,rfl⟩:=hX.val;refine BD func127 ntmps127 ?_;refine uR ?_;refine EV.loopK (ι:=Nat) [0] [] (fun q=>[(3,.v (.int .i64 (q:Int)))]) (fun _=>[]) (fun _=>[]) (fun q _=>q≤X.length) (fun q=>X.length-q) (0) rfl rfl ⟨rfl,trivial⟩ trivial rfl (fun _=>rfl) (qQ _) ?_;rintro i G1 hG1 hi;obtain⟨vs,hvs,hs⟩:=hX.mono hG1;obtain⟨x0,hx0⟩:=gE h0;obtain⟨u0,e0,hu0,_⟩:=hvs.at hx0;have hw0:=hw x0 (qF hx0);refine uR ?_;refine EV.cond rfl (fun hlt=>?_) (fun hlt=>?_)
 ·simp only[nN]at hlt;obtain⟨x,hx⟩:=gE hlt;obtain⟨u1,e1,hu1,_⟩:=hvs.at hx;have hw1:=hw x (qF hx);rw[hw0]at hu0;rw[hw1]at hu1;refine uR ?_;apply EV.drawn 18 kR kR;intro xv yw;(repeat refine' DD ?_);refine' vJ (hs) (i) (rfl) (hlt) (hu1) ?_;rotate_left;(repeat refine' DD ?_);refine' vJ (hs) (0) (rfl) (h0) (hu0) ?_;rotate_left;(repeat refine' DD ?_);rw[show ((w:Int) != (w:Int))=false from pO _];(repeat refine' DD ?_);refine' vJ (hs) (i) (rfl) (hlt) (hu1) ?_;rotate_left;(repeat refine' DD ?_);rw[show ((w:Int) == 0)=false from pP.2 (by omega)];(repeat refine' DD ?_);(refine DJ.nil (fun G hG hF=>?_);(case hS|hS2=>rfl));refine uR ?_;refine⟨i+1,⟨by rw[zac i (by omega)];rfl,trivial⟩,sB,trivial,trivial,rfl,hlt,hG,by omega⟩
 ·try refine uR ?_
  rw[qD (show (X.length:Int)>0 by omega)]
theorem zkK {H:Hp} {vx:Value} {X:List (List Rat)} (hX:RLL H vx X) {w:Nat} (hw:∀x,x∈X→x.length=w) (h1:1≤w) (h2:w≤20) (h0:0<X.length) (hn:X.length≤300):PC prog 65 #[vx] H fun r _=>r=.bool true:=by
 obtain⟨xa,xc,rfl⟩:=hX.val;have hr:=zo7 hX hw h1 h0 oM;obtain⟨vs,hvs,hs⟩:=id hX;obtain⟨x0,hx0⟩:=gE h0;obtain⟨u0,e0,hu0,_⟩:=hvs.at hx0;rw[hw x0 (qF hx0)]at hu0;refine BD func65 ntmps65 ?_
 repeat (first|refine RUN ?_|refine CV (hr) ?_|refine CE (hr) ?_)
 rw[qD (show (X.length:Int)≤300 by omega)];refine uR ?_;refine vI (hs) (0) (rfl) (h0) (hu0) ?_;refine uR ?_;rw[qD (show (w:Int)≤20 by omega)]
 try refine uR ?_
abbrev zmn (deep least:Int) (g1 g2 g3:Value):Value:=.agg #[.int .i64 deep,.int .i64 least,g1,g2,g3]
abbrev zos (deep least:Int) (g:Rat):Prop:=deep≥0∧deep≤10∧least≥1∧least≤300∧0≤g
theorem zk6 (q:Rat):(q.num.sign≥0)↔0≤q:=⟨fun h=>Rat.num_nonneg.1 (Int.sign_nonneg_iff.1 h),fun h=>Int.sign_nonneg_iff.2 (Rat.num_nonneg.2 h)⟩
theorem zdt {p:Prop} [Decidable p] (h:¬p):Value.bool false=.bool (decide p):=congrArg Value.bool (qC h).symm
theorem znG {H:Hp} {deep least:Int} {b1:Bool} {a1 a2:Option Addr} {l1 c1 l2 c2:Nat} {q:Rat} (hq:RQ H (.agg #[.bool b1,.slice a1 l1 c1,.slice a2 l2 c2]) q):PC prog 67 #[zmn deep least (.bool b1) (.slice a1 l1 c1) (.slice a2 l2 c2)] H fun r _=>r=.bool (decide (zos deep least q)):=by
 have hs:=zbA hq;refine BD func67 ntmps67 ?_;refine uR ?_;by_cases h1:deep≥0
 case neg =>
  rw[qC h1];refine uR ?_;exact zdt fun k=>h1 k.1
 rw[qD h1];refine uR ?_;by_cases h2:deep≤10
 case neg =>
  rw[qC h2];refine uR ?_;exact zdt fun k=>h2 k.2.1
 rw[qD h2];refine uR ?_;by_cases h3:least≥1
 case neg =>
  rw[qC h3];refine uR ?_;exact zdt fun k=>h3 k.2.2.1
 rw[qD h3];refine uR ?_;by_cases h4:least≤300
 case neg =>
  rw[qC h4];refine uR ?_;exact zdt fun k=>h4 k.2.2.2.1
 rw[qD h4]
 repeat (first|refine RUN ?_|refine CV (hs) ?_|refine CE (hs) ?_)
 exact congrArg Value.bool (decide_eq_decide.2 ((zk6 q).trans ⟨fun k=>⟨h1,h2,h3,h4,k⟩,fun k=>k.2.2.2.2⟩))
theorem zk0 {H:Hp} {deep least:Int} {b1:Bool} {a1 a2:Option Addr} {l1 c1 l2 c2:Nat} {q:Rat} (hq:RQ H (.agg #[.bool b1,.slice a1 l1 c1,.slice a2 l2 c2]) q) (h0:0≤q) (hd:0≤deep∧deep≤10) (hl:1≤least∧least≤300):PC prog 67 #[zmn deep least (.bool b1) (.slice a1 l1 c1) (.slice a2 l2 c2)] H fun r _=>r=.bool true:=by
 have:=znG (deep:=deep) (least:=least) hq;rw[qD (show zos deep least q from ⟨hd.1,hd.2,hl.1,hl.2,h0⟩)]at this;exact this
def zr3 (n N:Nat) (ck:Int) (fb:Bool) (rows:List Int):Int:=if n=N then (if ck=0∧fb=true∧∀r,r∈rows→0≤r∧r<(n:Int) then 0 else 1) else 5
theorem zpD {n N:Nat} {ck:Int} {fb:Bool} {rows:List Int} (h:n≠N):zr3 n N ck fb rows=5:=if_neg h
theorem zkE {n:Nat} {ck:Int} {fb:Bool} {rows:List Int} (h:¬(ck=0∧fb=true∧∀r,r∈rows→0≤r∧r<(n:Int))):zr3 n n ck fb rows=1:=(if_pos rfl).trans (if_neg h)
theorem zpC {n:Nat} {rows:List Int} (h:∀r,r∈rows→0≤r∧r<(n:Int)):zr3 n n 0 true rows=0:=(if_pos rfl).trans (if_pos ⟨rfl,rfl,h⟩)
theorem zmm {H:Hp} {v:Value} (h:RLL H v []):PC prog 127 #[v] H fun r _=>r=.bool false:=by
 obtain⟨a,c,rfl⟩:=h.val;refine BD func127 ntmps127 ?_;refine uR ?_;refine EV.loopK (ι:=Nat) [0] [] (fun q=>[(3,.v (.int .i64 (q:Int)))]) (fun _=>[]) (fun _=>[]) (fun q _=>q=0) (fun q=>0) (0) rfl rfl ⟨rfl,trivial⟩ trivial rfl (fun _=>rfl) (rfl) ?_;rintro i G1 hG1 rfl;refine uR ?_;rfl
theorem zmj {H:Hp} {v:Value} (h:RLL H v []):PC prog 65 #[v] H fun r _=>r=.bool false:=by
 have hr:=zmm h;obtain⟨a,c,rfl⟩:=h.val;refine BD func65 ntmps65 ?_
 repeat (first|refine RUN ?_|refine CV (hr) ?_|refine CE (hr) ?_)
 rfl
theorem zmh {H:Hp} {kd cl deep least ck:Int} {la va:Option Addr} {ln lc vn vc N:Nat} {vx vr:Value} {X:List (List Rat)} {rows:List Int} {w:Nat} {b1 fb:Bool} {a1 a2:Option Addr} {l1 c1 l2 c2:Nat}
  (hck:PC prog 180 #[zbv kd cl (.slice la ln lc) (.slice va vn vc)] H fun r _=>r=.int .i64 ck) (hlen:PV prog 179 #[zbv kd cl (.slice la ln lc) (.slice va vn vc)] (.int .i64 (N:Int)))
  (hX:RLL H vx X) (hw:∀x,x∈X→x.length=w) (h1:1≤w) (h2:w≤20) (hN:1≤N) (hn:X.length≤300) (hr:IL H vr rows) (hr0:0<rows.length) (hrn:rows.length≤300)
  (hf:PC prog 67 #[zmn deep least (.bool b1) (.slice a1 l1 c1) (.slice a2 l2 c2)] H fun r _=>r=.bool fb) :
  PC prog 132 #[zbv kd cl (.slice la ln lc) (.slice va vn vc),vx,vr,zmn deep least (.bool b1) (.slice a1 l1 c1) (.slice a2 l2 c2)] H fun r _=>r=.int .i64 (zr3 X.length N ck fb rows):=by
 obtain⟨ra,rc,rfl⟩:=SlC.val hr;by_cases h0:X.length=0
 ·have hne:X.length≠N:=oM;obtain rfl:=qz.1 h0;have hlearn:=zmj hX;obtain⟨xa,xc,rfl⟩:=hX.val;refine BD func132 ntmps132 ?_
  repeat (first|refine RUN ?_|refine CV (hlearn) ?_|refine CE (hlearn) ?_)
  rw[zpD hne]
 have hlearn:=zkK hX hw h1 h2 oM hn;obtain⟨xa,xc,rfl⟩:=hX.val;refine BD func132 ntmps132 ?_
 repeat (first|refine RUN ?_|refine CV (hlearn) ?_|refine CV (hlen) ?_|refine CE (hlearn) ?_|refine CE (hlen) ?_)
 by_cases hne:X.length=N
 case neg =>
  rw[show ((N:Int) != (X.length:Int))=true from bne_iff_ne.2 (by omega)];refine uR ?_;rw[zpD hne]
 subst hne;rw[show ((X.length:Int) != (X.length:Int))=false from pO _];refine uR ?_;rw[show ((rows.length:Int) == 0)=false from pP.2 (by omega)];refine uR ?_;rw[qC (show ¬(rows.length:Int)>300 by omega)]
 repeat (first|refine RUN ?_|refine CV (hck) ?_|refine CE (hck) ?_)
 by_cases hc0:ck=0
 case neg =>
  rw[show (ck != 0)=true from bne_iff_ne.2 hc0];refine uR ?_;rw[zkE fun k=>hc0 k.1]
 subst hc0
 repeat (first|refine RUN ?_|refine CV (hf) ?_|refine CE (hf) ?_)
 cases fb
 case false =>
  refine uR ?_;rw[zkE fun k=>by cases k.2.1]
 refine uR ?_;refine EV.loopK (ι:=Nat) [1,2] [] (fun q=>[(9,.v (.int .i64 (q:Int)))]) (fun _=>[]) (fun _=>[]) (fun q _=>q≤rows.length∧∀r,r∈rows.take q→0≤r∧r<(X.length:Int)) (fun q=>rows.length-q) (0) rfl rfl ⟨rfl,trivial⟩ trivial rfl (fun _=>rfl) (⟨qQ _,fun r hr=>by cases hr⟩) ?_;rintro i G1 hG1 ⟨hi,hall⟩;refine uR ?_;refine EV.cond rfl (fun hlt=>?_) (fun hlt=>?_)
 ·simp only[nN]at hlt;obtain⟨r,hri⟩:=gE hlt;have hmem:=qF hri;refine uR ?_;refine vI ((hr.mono hG1)) (i) (rfl) (hlt) ((by rw[qK,hri];rfl)) ?_;refine uR ?_;by_cases hr0:r<0
  ·rw[qD hr0];refine uR ?_;rw[zkE fun k=>by have:=k.2.2 r hmem;omega]
  rw[qC hr0];refine uR ?_;refine vI ((hr.mono hG1)) (i) (rfl) (hlt) ((by rw[qK,hri];rfl)) ?_;refine uR ?_;by_cases hrx:r≥(X.length:Int)
  ·rw[qD hrx];refine uR ?_;rw[zkE fun k=>by have:=k.2.2 r hmem;omega]
  rw[qC hrx];refine uR ?_;refine⟨i+1,⟨by rw[zac i (by omega)];rfl,trivial⟩,sB,trivial,trivial,rfl,⟨hlt,fun y hy=>?_⟩,Hp.Le.refl _,by omega⟩;rw[zai hri]at hy;rcases List.mem_append.1 hy with h | h
  ·exact hall y h
  ·rw[pJ.1 h];omega
 ·simp only[nN]at hlt;obtain rfl:i=rows.length:=oM;rw[qa]at hall;refine uR ?_;rw[zpC hall]
def zfB (H:Hp) (cs:List Value) (kd cl w:Int) (ns:List Nd):Prop:=∃a c css,cs=[.int .i64 kd,.int .i64 cl,.int .i64 w,.slice a ns.length c]∧zbL H css ns∧SlC H (.slice a ns.length c) ns.length 15 css.flatten
theorem zfB.mono {H G:Hp} {cs:List Value} {kd cl w:Int} {ns:List Nd} (h:zfB H cs kd cl w ns) (k:H.Le G):zfB G cs kd cl w ns:=by
 obtain⟨a,c,css,e,h1,h2⟩:=h;exact⟨a,c,css,e,h1.mono k,h2.mono k⟩
end
section
structure Tr where
 kd:Int
 cl:Int
 w:Int
 ns:List Nd
end
section
open Go.RowKit _root_.Go.Proofs.Tryz
def RTs (H:Hp) (tcs:List (List Value)) (ts:List Tr):Prop:=tcs.length=ts.length∧∀(j:Nat) (c:List Value) (t:Tr),tcs[j]?=some c→ts[j]?=some t→zfB H c t.kd t.cl t.w t.ns
theorem RTs.mono {H G:Hp} {tcs:List (List Value)} {ts:List Tr} (h:RTs H tcs ts) (k:H.Le G):RTs G tcs ts:=⟨h.1,fun j c t e1 e2=>(h.2 j c t e1 e2).mono k⟩
theorem zfs {α β:Type} {R:α→β→Prop} {xs:List α} {ys:List β} (h:xs.length=ys.length∧∀(j:Nat) (x:α) (y:β),xs[j]?=some x→ys[j]?=some y→R x y) {x:α} {y:β} (k:R x y):(xs++[x]).length=(ys++[y]).length∧∀(j:Nat) (x':α) (y':β),(xs++[x])[j]?=some x'→(ys++[y])[j]?=some y'→R x' y':=by
 refine⟨by simp[h.1],fun j x' y' e1 e2=>?_⟩;by_cases hj:j<xs.length
 ·rw[qM hj]at e1;rw[qM (by rw[←h.1];exact hj)]at e2;exact h.2 j x' y' e1 e2
 ·rw[qL (by omega)]at e1;rw[qL (by rw[←h.1];omega),←h.1]at e2
  have h0:j-xs.length=0:=by
   have:=(qE.1 e1).1;simp at this;omega
  rw[h0]at e1 e2;cases e1;cases e2;exact k
def RTL (H:Hp) (v:Value) (ts:List Tr):Prop:=∃tcs,RTs H tcs ts∧SlC H v ts.length 4 tcs.flatten
theorem RTL.mono {H G:Hp} {v:Value} {ts:List Tr} (h:RTL H v ts) (k:H.Le G):RTL G v ts:=by
 obtain⟨tcs,h1,h2⟩:=h;exact⟨tcs,h1.mono k,h2.mono k⟩
end
section
inductive Sub (T:List Nd) (w:Int):Nat→Nat→Nat→Prop
 | leaf {k h:Nat} {n:Nd}:T[k]?=some n→n.col = -1→n.left=0→n.right=0→n.at'=0→Sub T w k h (k+1)
 | node {k h m e:Nat} {n:Nd}:T[k]?=some n→0≤n.col→n.col<w→n.left=((k+1:Nat):Int)→n.right=(m:Int)→Sub T w (k+1) h m→Sub T w m h e→Sub T w k (h+1) e
theorem Sub.lt {T:List Nd} {w:Int} {k h e:Nat} (h0:Sub T w k h e):k<e∧e≤T.length:=by
 induction h0 with
 | leaf hn _ _ _ _ =>
  have:=(qE.1 hn).1;omega
 | node _ _ _ _ _ _ _ ih1 ih2=>omega
structure OkN (kd cl:Int) (n:Nd):Prop where
 rows:1≤n.rows∧n.rows≤1048576
 cost:0≤n.cost
 len:(n.counts.length:Int)=cl
 pos:∀c,c∈n.counts→0≤c
 sum:kd=1→n.counts.sum=n.rows
 cls:n.cls=(zeI n.counts n.counts.length:Int)
 value:kd=1→n.value=0
 small:ht n.at'≤200∧ht n.cost≤2000000∧ht n.value≤4000
structure OkC (n a b:Nd):Prop where
 rows:n.rows=a.rows+b.rows
 counts:∀k:Nat,n.counts.getD k 0=a.counts.getD k 0+b.counts.getD k 0
 cost:a.cost+b.cost≤n.cost
def zko (kd cl:Int) (T:List Nd) (i:Nat):Prop:=∃n,T[i]?=some n∧OkN kd cl n∧(n.col ≠ -1→0≤n.col∧0≤n.left∧0≤n.right∧∃a b,T[n.left.toNat]?=some a∧T[n.right.toNat]?=some b∧OkC n a b)
structure zmA (p:GP) (kd cl:Int) (w:Nat):Prop where
 kind:(kd=1∧1≤cl∧cl≤12)∨(kd=2∧cl=0)
 rowsX:p.X.length≤300
 wide:∀x,x∈p.X→x.length=w
 small:∀x,x∈p.X→∀q,q∈x→ht q≤60
 clen:∀l,((p.cnt l).length:Int)=cl
 cadd:∀r l m:List Int,r.Perm (l++m)→∀k:Nat,(p.cnt r).getD k 0=(p.cnt l).getD k 0+(p.cnt m).getD k 0
 cpos:∀l c,c∈p.cnt l→0≤c
 csum:kd=1→∀l,(∀r,r∈l→0≤r∧r<(p.X.length:Int))→(p.cnt l).sum=(l.length:Int)
 zero:kd=1→∀l,p.mean l=0
 cost0:∀l,0≤p.cost l
 csm:∀l:List Int,l.length≤300→(∀r,r∈l→0≤r∧r<(p.X.length:Int))→ht (p.cost l)≤2000000
 msm:∀l:List Int,l.length≤300→(∀r,r∈l→0≤r∧r<(p.X.length:Int))→ht (p.mean l)≤4000
 gain:0≤p.gain
 cols:∀s c,c∈(p.cols s).1→0≤c∧c<(w:Int)
theorem zjP (l:List Int) (f:Int→Bool):l.Perm (l.filter f++l.filter fun x => !f x):=by
 induction l with
 | nil=>exact List.Perm.nil
 | cons x l ih =>
  cases h:f x with
  | true=>rw[List.filter_cons_of_pos h,List.filter_cons_of_neg (by simp[h])];exact List.Perm.cons x ih
  | false=>rw[List.filter_cons_of_neg (by simp[h]),List.filter_cons_of_pos (by simp[h])];exact(List.Perm.cons x ih).trans List.perm_middle.symm
theorem ziE {p:GP} {kd cl:Int} {w:Nat} (hp:zmA p kd cl w) {rows:List Int} {s c:Int} {t:Rat} (hb:∀r,r∈rows→0≤r∧r<(p.X.length:Int)) (h:p.cut rows (p.cols s).1=some (c,t)) :
  (0≤c∧c<(w:Int))∧ht t≤200∧1≤(za5 p.X c t rows).length∧1≤(zay p.X c t rows).length∧rows.Perm (za5 p.X c t rows++zay p.X c t rows)∧p.cost (za5 p.X c t rows)+p.cost (zay p.X c t rows)≤p.cost rows:=by
 unfold GP.cut at h
 cases hbe:p.best rows (p.cols s).1 with
 | none=>rw[hbe]at h;cases h
 | some q =>
  obtain⟨c',t',g⟩:=q;rw[hbe]at h;dsimp only at h;split at h
  ·cases h
  ·rename_i hg;cases h;have hf:=zdF (zaD p.X p.cost rows (max 1 p.least) (p.cols s).1);rw[show (zaD p.X p.cost rows (max 1 p.least) (p.cols s).1).foldl zgm none=some (c,t,g) from hbe]at hf;have hm:=hf.1;unfold zaD zbG at hm;obtain⟨c2,hc2,hm⟩:=List.mem_flatMap.1 hm;obtain⟨t2,ht2,hm⟩:=List.mem_flatMap.1 hm;split at hm
   ·rename_i hL;cases pJ.1 hm;have hcw:=hp.cols s c hc2
    have hall:∀r,r∈rows→zfp p.X c r=true:=fun r hr=>by
     obtain⟨R,rfl⟩:=qh (hb r hr).1;have hR:=(hb _ hr).2;unfold zfp;obtain⟨x,hx⟩:∃x,p.X[R]?=some x:=⟨_,qA oM⟩;rw[qU,qB,hx,Option.getD_some,hp.wide x (qF hx)];simp;omega
    have hlo:za5 p.X c t rows=rows.filter fun r=>decide (zdn p.X c r≤t):=by
     unfold za5;exact List.filter_congr fun r hr=>by rw[hall r hr,Bool.true_and]
    have hhi:zay p.X c t rows=rows.filter fun r => !decide (zdn p.X c r≤t):=by
     unfold zay;exact List.filter_congr fun r hr=>by rw[hall r hr,Bool.true_and]
    have hpm:rows.Perm (za5 p.X c t rows++zay p.X c t rows):=by rw[hlo,hhi];exact zjP _ _
    have h0:=hp.gain;refine⟨hcw,znu hp.small ht2,by omega,by omega,hpm,?_⟩;have:p.gain<p.cost rows-(p.cost (za5 p.X c t rows)+p.cost (zay p.X c t rows)):=Rat.not_le.1 hg;grind
   ·cases hm
theorem zrE {p:GP} {kd cl:Int} {w:Nat} (hp:zmA p kd cl w) {rows:List Int} (h1:1≤rows.length) (h2:rows.length≤300) (hb:∀r,r∈rows→0≤r∧r<(p.X.length:Int)) {c l r:Int} {t:Rat} (ht':ht t≤200):OkN kd cl { p.nd rows with col:=c,left:=l,right:=r,at':=t } :=
 ⟨⟨by show 1≤(rows.length:Int);omega,by show (rows.length:Int)≤1048576;omega⟩,hp.cost0 rows,hp.clen rows,hp.cpos rows,fun e=>hp.csum e rows hb,rfl,fun e=>hp.zero e rows,ht',hp.csm rows h2 hb,hp.msm rows h2 hb⟩
theorem zqj {p:GP} {kd cl:Int} {w:Nat} (hp:zmA p kd cl w):∀(d k:Nat) (rows:List Int) (s:Int),1≤rows.length→rows.length≤300→(∀r,r∈rows→0≤r∧r<(p.X.length:Int))→∀T:List Nd,(∀(j:Nat) (n:Nd),(p.grow d k rows s).1[j]?=some n→T[k+j]?=some n) →
  Sub T w k d (k+(p.grow d k rows s).1.length)∧(∃n,T[k]?=some n∧n.rows=(rows.length:Int)∧n.counts=p.cnt rows∧n.cost=p.cost rows)∧∀j,j<(p.grow d k rows s).1.length→zko kd cl T (k+j):=by
 have single:∀(d k:Nat) (rows:List Int),1≤rows.length→rows.length≤300→(∀r,r∈rows→0≤r∧r<(p.X.length:Int))→∀T:List Nd,(∀(j:Nat) (n:Nd),[p.nd rows][j]?=some n→T[k+j]?=some n) →
   Sub T w k d (k+1)∧(∃n,T[k]?=some n∧n.rows=(rows.length:Int)∧n.counts=p.cnt rows∧n.cost=p.cost rows)∧∀j,j<1→zko kd cl T (k+j):=by
  intro d k rows h1 h2 hb T hT;have h0:=hT 0 _ rfl;rw[qY]at h0;refine⟨.leaf h0 rfl rfl rfl rfl,⟨_,h0,rfl,rfl,rfl⟩,fun j hj=>?_⟩;obtain rfl:j=0:=oM;refine⟨_,by rw[qY];exact h0,zrE hp h1 h2 hb (c:=-1) (l:=0) (r:=0) (t:=0) (by rw[zck];decide),fun e=>absurd rfl e⟩
 intro d
 induction d with
 | zero =>
  intro k rows s h1 h2 hb T hT;rw[GP.grow_zero]at hT ⊢;exact single 0 k rows h1 h2 hb T hT
 | succ d ih =>
  intro k rows s h1 h2 hb T hT
  cases hc:p.cut rows (p.cols s).1 with
  | none =>
   rw[GP.grow_none hc]at hT ⊢;exact single (d+1) k rows h1 h2 hb T hT
  | some ct =>
   obtain⟨c,t⟩:=ct;obtain⟨hcw,htb,hl1,hr1,hpm,hcost⟩:=ziE hp hb hc;have hll:(za5 p.X c t rows).length≤300:=qI (List.length_filter_le _ _) h2;have hhl:(zay p.X c t rows).length≤300:=qI (List.length_filter_le _ _) h2;have hlm:∀r,r∈za5 p.X c t rows→0≤r∧r<(p.X.length:Int):=fun r hr=>hb r (List.mem_filter.mp hr).1;have hhm:∀r,r∈zay p.X c t rows→0≤r∧r<(p.X.length:Int):=fun r hr=>hb r (List.mem_filter.mp hr).1;rw[GP.grow_some hc]at hT ⊢;have hLl:=p.grow_len d (k+1) (za5 p.X c t rows) (p.cols s).2;have ihL:=ih (k+1) (za5 p.X c t rows) (p.cols s).2 hl1 hll hlm T;generalize p.grow d (k+1) (za5 p.X c t rows) (p.cols s).2=L at *
   obtain⟨Ls,s2⟩:=L;have hRl:=p.grow_len d (k+1+Ls.length) (zay p.X c t rows) s2;have ihR:=ih (k+1+Ls.length) (zay p.X c t rows) s2 hr1 hhl hhm T;dsimp only at hT hLl ihL ⊢;generalize p.grow d (k+1+Ls.length) (zay p.X c t rows) s2=R at *
   obtain⟨Rs,s3⟩:=R;dsimp only at hT hRl ihR ⊢;have h0:=hT 0 _ rfl;rw[qY]at h0
   obtain⟨sL,⟨a,ha,ha1,ha2,ha3⟩,nL⟩:=ihL (fun j n hj=>by
    have:=hT (j+1) n (by rw[pL,qM (qE.1 hj).1];exact hj);rw[show k+1+j=k+(j+1) by omega];exact this)
   obtain⟨sR,⟨b,hb',hb1,hb2,hb3⟩,nR⟩:=ihR (fun j n hj=>by
    have:=hT (j+Ls.length+1) n (by rw[pL,qL oM,Nat.add_sub_cancel];exact hj);rw[show k+1+Ls.length+j=k+(j+Ls.length+1) by omega];exact this)
   have hlen:rows.length=(za5 p.X c t rows).length+(zay p.X c t rows).length:=by rw[hpm.length_eq,qJ]
   have hroot:zko kd cl T k:=by
    refine⟨_,h0,zrE hp h1 h2 hb htb,fun _=>⟨hcw.1,Int.natCast_nonneg _,Int.natCast_nonneg _,a,b,by rw[qU];exact ha,by rw[qU];exact hb',⟨?_,fun q=>?_,?_⟩⟩⟩
    ·rw[ha1,hb1];show (rows.length:Int)=_;omega
    ·rw[ha2,hb2];exact hp.cadd _ _ _ hpm q
    ·rw[ha3,hb3];exact hcost
   refine⟨?_,⟨_,h0,rfl,rfl,rfl⟩,fun j hj=>?_⟩
   ·rw[qR,qJ,show k+(Ls.length+Rs.length+1)=k+1+Ls.length+Rs.length by omega];exact .node h0 hcw.1 hcw.2 rfl rfl sL sR
   ·rw[qR,qJ]at hj
    cases j with
    | zero=>exact hroot
    | succ j =>
     by_cases h:j<Ls.length
     ·rw[show k+(j+1)=k+1+j by omega];exact nL j h
     ·rw[show k+(j+1)=k+1+Ls.length+(j-Ls.length) by omega];exact nR _ oM
structure zbD (t:Tr):Prop where
 kind:(t.kd=1∧1≤t.cl∧t.cl≤12)∨(t.kd=2∧t.cl=0)
 wide:1≤t.w∧t.w≤20
 len:t.ns.length≤2000
 sub:∃h,h≤10∧Sub t.ns t.w 0 h t.ns.length
 nodes:∀i,i<t.ns.length→zko t.kd t.cl t.ns i
end
section
open Go.RowKit _root_.Go.Proofs.Tryz
theorem zbL.get {H:Hp} {css:List (List Value)} {ns:List Nd} (h:zbL H css ns) {j:Nat} {n:Nd} (hj:ns[j]?=some n):∃c,(css.flatten.drop (j*15)).take 15=c∧zdR H c n:=by
 have hlt:=(qE.1 hj).1;obtain⟨c,hc⟩:∃c,css[j]?=some c:=⟨_,qA (by rw[h.1];exact hlt)⟩;refine⟨c,?_,h.2 j c n hc hj⟩
 have h15:∀x,x∈css→(id x).length=15:=fun x hx=>by
  obtain⟨i,hi⟩:=List.mem_iff_getElem?.1 hx;have hi':=(qE.1 hi).1;exact(h.2 i x _ hi (qA (by rw[←h.1];exact hi'))).len
 have:=zcA id 15 css h15 j c hc
 rwa [List.flatMap_id]at this
abbrev zso (kd cl w:Int) (vn:Value):Value:=.agg #[.int .i64 kd,.int .i64 cl,.int .i64 w,vn]
theorem zdb {l:List Int} (h:∀c,c∈l→0≤c) (k:Nat):0≤(l.take k).sum∧(l.take k).sum≤l.sum:=by
 have h0:∀m:List Int,(∀c,c∈m→0≤c)→0≤m.sum:=fun m=>by
  induction m with
  | nil=>exact fun _=>Int.le_refl 0
  | cons c m ih=>intro hm;rw[List.sum_cons];have:=hm c (qf ..);have:=ih fun c hc=>hm c (qk _ hc);omega
 have e:l.sum=(l.take k).sum+(l.drop k).sum:=by rw[←List.sum_append,List.take_append_drop]
 have h1:=h0 (l.take k) fun c hc=>h c (List.mem_of_mem_take hc);have h2:=h0 (l.drop k) fun c hc=>h c (List.mem_of_mem_drop hc);omega
theorem zq1 {q:Rat} (h:0≤q):¬q.num.sign<0:=by
 have:=Rat.num_nonneg.2 h;intro k;have:=Int.sign_nonneg_iff.2 this;omega
theorem Sub.end0 {T:List Nd} {w:Int} {h e:Nat} (h0:Sub T w 0 h e):0<T.length:=by
 have:=h0.lt;omega
theorem RTs.get {H:Hp} {tcs:List (List Value)} {ts:List Tr} (h:RTs H tcs ts) {j:Nat} {t:Tr} (hj:ts[j]?=some t):∃c,(tcs.flatten.drop (j*4)).take 4=c∧zfB H c t.kd t.cl t.w t.ns:=by
 have hlt:=(qE.1 hj).1;obtain⟨c,hc⟩:∃c,tcs[j]?=some c:=⟨_,qA (by rw[h.1];exact hlt)⟩;refine⟨c,?_,h.2 j c t hc hj⟩
 have h4:∀x,x∈tcs→(id x).length=4:=fun x hx=>by
  obtain⟨i,hi⟩:=List.mem_iff_getElem?.1 hx;have hi':=(qE.1 hi).1;obtain⟨_,_,_,e,_⟩:=h.2 i x _ hi (qA (by rw[←h.1];exact hi'));subst e;rfl
 have:=zcA id 4 tcs h4 j c hc
 rwa [List.flatMap_id]at this
def zdX (z:Int):Prop:=-9223372036854775808≤z∧z<9223372036854775808
structure zkp (kd cl:Int) (n:Nat) (cost mean:List Int→Rat) (cnt:List Int→List Int):Prop where
 kind:(kd=1∧1≤cl∧cl≤12)∨(kd=2∧cl=0)
 clen:∀l,((cnt l).length:Int)=cl
 cadd:∀r l m:List Int,r.Perm (l++m)→∀k:Nat,(cnt r).getD k 0=(cnt l).getD k 0+(cnt m).getD k 0
 cpos:∀l c,c∈cnt l→0≤c
 csum:kd=1→∀l,(∀r,r∈l→0≤r∧r<(n:Int))→(cnt l).sum=(l.length:Int)
 zero:kd=1→∀l,mean l=0
 cost0:∀l,0≤cost l
 csm:∀l:List Int,l.length≤300→(∀r,r∈l→0≤r∧r<(n:Int))→ht (cost l)≤2000000
 msm:∀l:List Int,l.length≤300→(∀r,r∈l→0≤r∧r<(n:Int))→ht (mean l)≤4000
theorem zgy:∀l:List Rat,(∀q,q∈l→0≤q)→0≤zaR l
 | [],_=>by rw[zft];exact Rat.le_refl
 | x::l,h=>by
  rw[zn3];exact Rat.add_nonneg (h x (.head _)) (zgy l fun q hq=>h q (.tail _ hq))
theorem zjJ (m:Rat) (l:List Rat):0≤zaR (zfS m l):=zgy _ fun q hq=>by
 obtain⟨v,_,rfl⟩:=List.mem_map.1 hq;exact zn1 _
theorem ziC (L:List Int):0≤ziB L:=by
 unfold ziB;have h1:=zn0 L;by_cases h0:L.length=0
 ·obtain rfl:=qz.1 h0;decide +kernel
 ·have hp:(0:Rat)<((L.length:Int):Rat):=by
   have:((0:Int):Rat)<((L.length:Int):Rat):=Rat.intCast_lt_intCast.2 oM;exact this
  have h2:((sqL L:Int):Rat)≤((L.length:Int):Rat)*((L.length:Int):Rat):=by
   rw[←Rat.intCast_mul];exact Rat.intCast_le_intCast.2 (by exact_mod_cast h1)
  generalize ((L.length:Int):Rat)=N at *
  generalize ((sqL L:Int):Rat)=S at *
  have h3:0≤N⁻¹:=Rat.le_of_lt (Rat.inv_pos.2 hp);have h4:0≤N*N-S:=by grind
  have h5:=Rat.mul_nonneg h4 h3;have hne:N≠0:=by grind
  have h6:N*N⁻¹=1:=Rat.mul_inv_cancel N hne;have h7:(N*N-S)*N⁻¹=N-S / N:=by rw[Rat.div_def];grind
  rw[h7]at h5;exact h5
theorem zk9 {α:Type} (f:α→Nat):∀l:List α,(l.map fun x=>(f x:Int)).sum=(((l.map f).sum:Nat):Int)
 | []=>rfl
 | x::l=>by
  rw[qw,qw,List.sum_cons,List.sum_cons,zk9 f l];omega
theorem zoF {C:Nat} {L:List Int} (h:∀z,z∈L→0≤z∧z<(C:Int)):(zdE C L).sum=(L.length:Int):=by
 have h1:=(zif C L h).2;unfold zdE;rw[zk9 (fun k:Nat=>L.count (k:Int)),←h1]
theorem zfO (C:Nat) (L:List Int) (k:Nat):(zdE C L).getD k 0=if k<C then (L.count (k:Int):Int) else 0:=by
 rw[qB];by_cases h:k<C
 ·rw[zeM _ h,if_pos h];rfl
 ·rw[qe (by rw[zbF];omega),if_neg h];rfl
theorem zoE (C:Nat) {R L M:List Int} (h:R.Perm (L++M)) (k:Nat):(zdE C R).getD k 0=(zdE C L).getD k 0+(zdE C M).getD k 0:=by
 rw[zfO,zfO,zfO,h.count_eq,List.count_append];split <;> omega
theorem zow {ls:List Int} {rs:List Int} (h:∀r,r∈rs→0≤r∧r<(ls.length:Int)):∀q,q∈atI ls rs→q∈ls:=fun q hq=>by
 obtain⟨r,hr,rfl⟩:=List.mem_map.1 hq;have:=h r hr;have hl:r.toNat<ls.length:=oM;rw[qB,qA hl];exact List.getElem_mem hl
theorem zml {l:List Int} {n w:Nat}:∀x,x∈zeZ l n w→x.length=w∧∀q,q∈x→ht q≤60:=fun x hx=>⟨(zk2 x hx).1,fun q hq=>qI ((zk2 x hx).2 q hq) oM⟩
def zcI (H:Hp) (cs:List Value) (n:Nd):Prop:=∃a c,IL H (.slice a n.counts.length c) n.counts ∧
 cs=[.int .i64 n.col,.int .i64 n.left,.int .i64 n.right,.int .i64 n.rows,.int .i64 n.cls]++(zae (zaj n.at')++(zae (zaj n.cost)++(zae (zaj n.value)++[.slice a n.counts.length c])))
theorem zcI.mono {H G:Hp} {cs:List Value} {n:Nd} (h:zcI H cs n) (k:H.Le G):zcI G cs n:=by
 obtain⟨a,c,h1,e⟩:=h;exact⟨a,c,h1.mono k,e⟩
theorem zcI.len {H:Hp} {cs:List Value} {n:Nd} (h:zcI H cs n):cs.length=21:=by
 obtain⟨a,c,_,rfl⟩:=h;rfl
theorem zcI.one {H:Hp} {cs:List Value} {n:Nd} (h:zcI H cs n):zdv cs=true:=by
 obtain⟨a,c,_,rfl⟩:=h;rfl
theorem zrB (cs:List Value):[Value.agg cs.toArray].flatMap zae=cs:=by
 show zae (.agg cs.toArray)++[]=cs;rw[qG];rfl
theorem zqg (c:List Value):[c].flatten=c:=List.flatten_singleton
def zbm (H:Hp) (css:List (List Value)) (ns:List Nd):Prop:=css.length=ns.length∧∀(j:Nat) (c:List Value) (n:Nd),css[j]?=some c→ns[j]?=some n→zcI H c n
theorem zbm.mono {H G:Hp} {css:List (List Value)} {ns:List Nd} (h:zbm H css ns) (k:H.Le G):zbm G css ns:=⟨h.1,fun j c n e1 e2=>(h.2 j c n e1 e2).mono k⟩
theorem zbm.get {H:Hp} {css:List (List Value)} {ns:List Nd} (h:zbm H css ns) {j:Nat} {n:Nd} (hj:ns[j]?=some n):∃c,(css.flatten.drop (j*21)).take 21=c∧zcI H c n:=by
 have hlt:=(qE.1 hj).1;obtain⟨c,hc⟩:∃c,css[j]?=some c:=⟨_,qA (by rw[h.1];exact hlt)⟩;refine⟨c,?_,h.2 j c n hc hj⟩
 have h21:∀x,x∈css→(id x).length=21:=fun x hx=>by
  obtain⟨i,hi⟩:=List.mem_iff_getElem?.1 hx;have hi':=(qE.1 hi).1;exact(h.2 i x _ hi (qA (by rw[←h.1];exact hi'))).len
 have:=zcA id 21 css h21 j c hc
 rwa [List.flatMap_id]at this
def zdo (H:Hp) (cs:List Value) (kd cl w:Int) (ns:List Nd):Prop:=∃a c css,cs=[.int .i64 kd,.int .i64 cl,.int .i64 w,.slice a ns.length c]∧zbm H css ns∧SlC H (.slice a ns.length c) ns.length 21 css.flatten
theorem zdo.mono {H G:Hp} {cs:List Value} {kd cl w:Int} {ns:List Nd} (h:zdo H cs kd cl w ns) (k:H.Le G):zdo G cs kd cl w ns:=by
 obtain⟨a,c,css,e,h1,h2⟩:=h;exact⟨a,c,css,e,h1.mono k,h2.mono k⟩
def zgW (n:Nd):Prop:=rq n.at'∧rq n.cost∧rq n.value∧n.counts.length≤1000000
theorem OkN.smallN {kd cl:Int} {n:Nd} (h:OkN kd cl n) (hc:cl≤12):zgW n:=by
 obtain⟨h1,h2,h3⟩:=h.small;have:=h.len;unfold zgW rq;exact⟨by omega,by omega,by omega,by omega⟩
set_option maxRecDepth 100000 in
theorem zm2 {H:Hp} {cs:List Value} {kd cl w:Int} {ns:List Nd} (h:zfB H cs kd cl w ns) (hs:∀n,n∈ns→zgW n) (hl:ns.length≤1000000) :
  PC prog 155 #[.agg cs.toArray] H fun r H'=>∃cs',r=.agg cs'.toArray∧zdo H' cs' kd cl w ns:=by
 obtain⟨a,c,css,rfl,hns,hsl⟩:=h;refine BD func155 ntmps155 ?_;refine uR ?_;refine EV.loopK (ι:=Nat × Value × List (List Value) × Ows) [1,2,3] [1,2] (fun q=>[(4,.v (.int .i64 (q.1:Int)))]) (fun q=>[(3,128,[.int .i64 kd,.int .i64 cl,.int .i64 w,q.2.1])]) (fun q=>q.2.2.2) (fun q G=>q.1≤ns.length∧zbm G q.2.2.1 (ns.take q.1)∧zaA 168 21 q.2.1 q.1 q.2.2.1.flatten q.2.2.2) (fun q=>ns.length-q.1) ((0,.slice none 0 0,[],[])) rfl rfl ⟨rfl,trivial⟩ ⟨rfl,trivial⟩ rfl (fun _=>rfl) (⟨qQ _,⟨rfl,fun j c n e1 e2=>by cases e1⟩,zaA.nil _ _⟩) ?_;rintro⟨i,u,ps,ow⟩ G1 hG1 ⟨hi,hps,hown⟩;dsimp only at hi hps hown;obtain⟨wa,wc,rfl⟩:=hown.val;refine uR ?_;refine EV.cond rfl (fun hlt=>?_) (fun hlt=>?_)
 ·simp only[nN]at hlt;obtain⟨n,hni⟩:=gE hlt;obtain⟨q1,q2,q3,q4⟩:=hs n (qF hni);obtain⟨cc,hcut,hnd⟩:=(hns.mono hG1).get hni;obtain⟨b1,a1,l1,c1,a2,l2,c2,b3,a3,l3,c3,a4,l4,c4,b5,a5,l5,c5,a6,l6,c6,a7,c7,rfl,k1,k2,k3,k4⟩:=hnd.cells;refine uR ?_;refine EVL.idxM tO rfl rfl rfl rfl rfl rfl rfl rfl rfl ((hsl.mono hG1)) (i) (rfl) (hlt) (hcut) ?_;refine uR ?_;by_cases e:n.counts.length=0
  ·have hc0:n.counts=[]:=qz.1 e;rw[e];apply EV.drawn 27 kR kR;intro xv yw;(repeat refine' DD ?_);refine' vC (cO func63) (fun G hG hd=>zfY (RQ.mono k1 hG) q1) ?_;rotate_left;(repeat refine' DD ?_);refine' vC (cO func63) (fun G hG hd=>zfY (RQ.mono k2 hG) q2) ?_;rotate_left;(repeat refine' DD ?_);refine' vC (cO func63) (fun G hG hd=>zfY (RQ.mono k3 hG) q3) ?_;rotate_left;(repeat refine' DD ?_);(refine' DJ.lit0 tO rfl rfl rfl rfl rfl rfl rfl ?_;rotate_left);(repeat refine' DD ?_);refine' DJ.append0E (u0:=xv 21) tO rfl rfl rfl rfl rfl rfl rfl rfl rfl (a7) (c7) rfl (fun G hd=>hd.head kR) ?_;rotate_left
   (refine' DJ.plainE tO (fun v G=>∃cs,v=.agg cs.toArray∧zcI G cs n) (fun v G G' ⟨cs,e,h⟩ k=>⟨cs,e,h.mono k⟩) rfl rfl rfl (fun G hd=>(by
    obtain⟨g8,e8⟩:∃g,xv 24=.slice (some ⟨g,0,none⟩) 0 0:=hd.head kR;rw[e8];exact⟨_,rfl,_,rfl,some ⟨g8,0,none⟩,0,(by rw[hc0];exact IL.nil _ _ _),by rw[hc0];rfl⟩)) ?_;rotate_left)
   (refine' DJ.litD1 (Φ:=fun v G=>∃cs,SlC G v 1 21 cs∧zcI G cs n) (fun v G G' ⟨cs,e,h⟩ k=>⟨cs,e.mono k,h.mono k⟩) tO rfl rfl rfl rfl rfl rfl rfl rfl rfl rfl rfl (fun G hd=>by obtain⟨cs,e,h⟩:=hd.head kR;rw[e];exact h.len) (fun G G' v hd hG h=>(by
    obtain⟨cs,e,hp⟩:=hd.head kR;rw[e,zrB]at h;exact⟨cs,h,hp.mono hG⟩)) ?_;rotate_left)
   (refine DJ.nil (fun G2 hG2 hF2=>?_);(case hS|hS2=>rfl));obtain⟨cs2,hs2,hp2⟩:=hF2.1;refine EVL.append tO rfl rfl rfl rfl rfl rfl rfl rfl rfl rfl rfl rfl [] ow [] (qG _).symm hown (zb2.ro hs2 (Nat.succ_pos 0)) hp2.one oM ?_;intro v1 ow1 hown1;obtain⟨va,vc,rfl⟩:=hown1.val;refine uR ?_;refine⟨(i+1,.slice va (i+1) vc,ps++[cs2],ow1),⟨by dsimp only;rw[zac i (by omega)];rfl,trivial⟩,sB,⟨rfl,trivial⟩,sB,qG _,⟨hlt,by dsimp only;rw[zai hni];exact zfs (hps.mono hG2) hp2,by dsimp only;rw[List.flatten_append,zqg];exact hown1⟩,hG2,by dsimp only;omega⟩
  ·have hls:SlC G1 (.slice a7 n.counts.length c7) n.counts.length 1 (n.counts.map iv):=k4;apply EV.drawn 27 kR kR;intro xv yw;(repeat refine' DD ?_);refine' vC (cO func63) (fun G hG hd=>zfY (RQ.mono k1 hG) q1) ?_;rotate_left;(repeat refine' DD ?_);refine' vC (cO func63) (fun G hG hd=>zfY (RQ.mono k2 hG) q2) ?_;rotate_left;(repeat refine' DD ?_);refine' vC (cO func63) (fun G hG hd=>zfY (RQ.mono k3 hG) q3) ?_;rotate_left;(repeat refine' DD ?_);(refine' DJ.lit0 tO rfl rfl rfl rfl rfl rfl rfl ?_;rotate_left);(repeat refine' DD ?_);refine' DJ.appendE (u0:=xv 21) tO rfl rfl rfl rfl rfl rfl rfl rfl rfl rfl (fun G hd=>hd.head kR) (hls) (Nat.pos_of_ne_zero e) oM ?_;rotate_left
   (refine' DJ.plainE tO (fun v G=>∃cs,v=.agg cs.toArray∧zcI G cs n) (fun v G G' ⟨cs,e,h⟩ k=>⟨cs,e,h.mono k⟩) rfl rfl rfl (fun G hd=>(by
    have hA:SlC G (xv 24) n.counts.length 1 (n.counts.map iv):=hd.head kR;obtain⟨a8,c8,e8⟩:=SlC.val hA;rw[e8]at hA;rw[e8];exact⟨_,rfl,_,rfl,_,_,hA,rfl⟩)) ?_;rotate_left)
   (refine' DJ.litD1 (Φ:=fun v G=>∃cs,SlC G v 1 21 cs∧zcI G cs n) (fun v G G' ⟨cs,e,h⟩ k=>⟨cs,e.mono k,h.mono k⟩) tO rfl rfl rfl rfl rfl rfl rfl rfl rfl rfl rfl (fun G hd=>by obtain⟨cs,e,h⟩:=hd.head kR;rw[e];exact h.len) (fun G G' v hd hG h=>(by
    obtain⟨cs,e,hp⟩:=hd.head kR;rw[e,zrB]at h;exact⟨cs,h,hp.mono hG⟩)) ?_;rotate_left)
   (refine DJ.nil (fun G2 hG2 hF2=>?_);(case hS|hS2=>rfl));obtain⟨cs2,hs2,hp2⟩:=hF2.1;refine EVL.append tO rfl rfl rfl rfl rfl rfl rfl rfl rfl rfl rfl rfl [] ow [] (qG _).symm hown (zb2.ro hs2 (Nat.succ_pos 0)) hp2.one oM ?_;intro v1 ow1 hown1;obtain⟨va,vc,rfl⟩:=hown1.val;refine uR ?_;refine⟨(i+1,.slice va (i+1) vc,ps++[cs2],ow1),⟨by dsimp only;rw[zac i (by omega)];rfl,trivial⟩,sB,⟨rfl,trivial⟩,sB,qG _,⟨hlt,by dsimp only;rw[zai hni];exact zfs (hps.mono hG2) hp2,by dsimp only;rw[List.flatten_append,zqg];exact hown1⟩,hG2,by dsimp only;omega⟩
 ·simp only[nN]at hlt;obtain rfl:i=ns.length:=oM;rw[qa]at hps;(first|refine EVL.publishL [] ow [] ((qG _).symm) hown fun G2 hG2 hs2=>?_|refine EV.publishL [] ow [] ((qG _).symm) hown fun G2 hG2 hs2=>?_);refine uR ?_;exact⟨_,rfl,_,_,_,rfl,hps.mono hG2,hs2⟩
section
variable {P:Program} {n:Nat} {ops:Array Oper} {o:Oper} {rest:List Oper} {env:Env} {bx:Bxs} {sb:Bxs} {ow:Ows} {H:Hs} {Q:EQ} {τ:Tab} {d:Nat} {s:SV}
end
section
variable {P:Program} {n:Nat} {ops:Array Oper} {o:Oper} {rest:List Oper} {env:Env} {bx:Bxs} {H:Hs} {Q:EQ} {d:Nat}
end
def PTs (H:Hp) (tcs:List (List Value)) (ts:List Tr):Prop:=tcs.length=ts.length∧∀(j:Nat) (c:List Value) (t:Tr),tcs[j]?=some c→ts[j]?=some t→zdo H c t.kd t.cl t.w t.ns
theorem PTs.mono {H G:Hp} {tcs:List (List Value)} {ts:List Tr} (h:PTs H tcs ts) (k:H.Le G):PTs G tcs ts:=⟨h.1,fun j c t e1 e2=>(h.2 j c t e1 e2).mono k⟩
theorem PTs.get {H:Hp} {tcs:List (List Value)} {ts:List Tr} (h:PTs H tcs ts) {j:Nat} {t:Tr} (hj:ts[j]?=some t):∃c,(tcs.flatten.drop (j*4)).take 4=c∧zdo H c t.kd t.cl t.w t.ns:=by
 have hlt:=(qE.1 hj).1;obtain⟨c,hc⟩:∃c,tcs[j]?=some c:=⟨_,qA (by rw[h.1];exact hlt)⟩;refine⟨c,?_,h.2 j c t hc hj⟩
 have h4:∀x,x∈tcs→(id x).length=4:=fun x hx=>by
  obtain⟨i,hi⟩:=List.mem_iff_getElem?.1 hx;have hi':=(qE.1 hi).1;obtain⟨_,_,_,e,_⟩:=h.2 i x _ hi (qA (by rw[←h.1];exact hi'));subst e;rfl
 have:=zcA id 4 tcs h4 j c hc
 rwa [List.flatMap_id]at this
def PTL (H:Hp) (v:Value) (ts:List Tr):Prop:=∃tcs,PTs H tcs ts∧SlC H v ts.length 4 tcs.flatten
theorem PTL.mono {H G:Hp} {v:Value} {ts:List Tr} (h:PTL H v ts) (k:H.Le G):PTL G v ts:=by
 obtain⟨tcs,h1,h2⟩:=h;exact⟨tcs,h1.mono k,h2.mono k⟩
set_option maxRecDepth 100000 in
theorem zlH {H:Hp} {v:Value} {ts:List Tr} (h:RTL H v ts) (hs:∀t,t∈ts→t.ns.length≤1000000∧∀n,n∈t.ns→zgW n) (hl:ts.length≤1000000):PC prog 100 #[v] H fun r H'=>PTL H' r ts:=by
 obtain⟨tcs,hts,hsl⟩:=h;obtain⟨a,c,rfl⟩:=SlC.val hsl;refine BD func100 ntmps100 ?_;refine uR ?_;refine EV.loopK (ι:=Nat × Value × List (List Value) × Ows) [0] [] (fun q=>[(3,.v q.2.1),(4,.v (.int .i64 (q.1:Int)))]) (fun _=>[]) (fun q=>q.2.2.2) (fun q G=>q.1≤ts.length∧PTs G q.2.2.1 (ts.take q.1)∧zaA 128 4 q.2.1 q.1 q.2.2.1.flatten q.2.2.2) (fun q=>ts.length-q.1) ((0,.slice none 0 0,[],[])) rfl rfl ⟨rfl,rfl,trivial⟩ trivial rfl (fun _=>rfl) (⟨qQ _,⟨rfl,fun j c n e1 e2=>by cases e1⟩,zaA.nil _ _⟩) ?_;rintro⟨i,u,ps,ow⟩ G1 hG1 ⟨hi,hps,hown⟩;dsimp only at hi hps hown;obtain⟨wa,wc,rfl⟩:=hown.val;refine uR ?_;refine EV.cond rfl (fun hlt=>?_) (fun hlt=>?_)
 ·simp only[nN]at hlt;obtain⟨t,hti⟩:=gE hlt;obtain⟨k1,k2⟩:=hs t (qF hti);obtain⟨cc,hcut,htr⟩:=(hts.mono hG1).get hti;obtain⟨a3,c3,css,rfl,_,_⟩:=id htr;refine uR ?_;refine EVL.idxM tO rfl rfl rfl rfl rfl rfl rfl rfl rfl ((hsl.mono hG1)) (i) (rfl) (hlt) (hcut) ?_;refine uR ?_;refine vA (zm2 htr k2 k1) ?_;rintro _ G2 ⟨cs2,rfl,hp2⟩ hG2;obtain⟨a4,c4,css4,rfl,_,_⟩:=id hp2;refine uR ?_;refine EVL.app1 tO rfl rfl rfl rfl rfl rfl rfl rfl rfl rfl rfl rfl rfl rfl rfl rfl rfl rfl rfl (fun _=>rfl) (ow) ([]) ((qG _).symm) (hown) oM fun _=>?_;intro v' ow' hown';refine uR ?_;refine⟨(i+1,v',ps++[_],ow'),⟨rfl,by dsimp only;rw[zac i (by omega)];rfl,trivial⟩,sB,trivial,trivial,qG _,⟨hlt,by dsimp only;rw[zai hti];exact zfs (hps.mono hG2) hp2,by dsimp only;rw[List.flatten_append,zqg];exact hown'⟩,hG2,by dsimp only;omega⟩
 ·simp only[nN]at hlt;obtain rfl:i=ts.length:=oM;rw[qa]at hps;(first|refine EVL.publishL [] ow [] ((qG _).symm) hown fun G2 hG2 hs2=>?_|refine EV.publishL [] ow [] ((qG _).symm) hown fun G2 hG2 hs2=>?_);refine uR ?_;exact⟨ps,hps.mono hG2,hs2⟩
theorem zcI.cells {H:Hp} {cs:List Value} {n:Nd} (h:zcI H cs n):∃a c,cs=[.int .i64 n.col,.int .i64 n.left,.int .i64 n.right,.int .i64 n.rows,.int .i64 n.cls,
  .bool (decide (n.at'.num<0)),.int .u64 (lo n.at'.num.natAbs:Int),.string (zap n.at'.num.natAbs),.int .u64 (lo (dk n.at'.den):Int),.string (zap (dk n.at'.den)),
  .bool (decide (n.cost.num<0)),.int .u64 (lo n.cost.num.natAbs:Int),.string (zap n.cost.num.natAbs),.int .u64 (lo (dk n.cost.den):Int),.string (zap (dk n.cost.den)),
  .bool (decide (n.value.num<0)),.int .u64 (lo n.value.num.natAbs:Int),.string (zap n.value.num.natAbs),.int .u64 (lo (dk n.value.den):Int),.string (zap (dk n.value.den)),.slice a n.counts.length c]∧IL H (.slice a n.counts.length c) n.counts:=by
 obtain⟨a,c,h1,rfl⟩:=h;exact⟨a,c,rfl,h1⟩
abbrev zkh (kd cl w:Int) (vn:Value) (far:Int):List Value:=[.int .i64 kd,.int .i64 cl,.int .i64 w,vn,.int .i64 far]
set_option maxRecDepth 100000 in
theorem zqJ {kd cl w:Int} {a:Option Addr} {cp:Nat} {ns:List Nd} (hln:ns.length≤1000000) {k h e:Nat} (hsub:Sub ns w k h e):∀{H:Hp} {css:List (List Value)} {b:Nat} {T:TypeId} {deep:Nat} {far:Int},zbm H css ns→SlC H (.slice a ns.length cp) ns.length 21 css.flatten→deep≤k →
  PW prog 141 #[.pointer (some ⟨b,0,none⟩),.int .i64 (k:Int),.int .i64 (deep:Int)] H [(b,T,zkh kd cl w (.slice a ns.length cp) far)] fun v ow _=>v=.tuple #[.int .i64 (e:Int),.bool true]∧∃far',ow=[(b,T,zkh kd cl w (.slice a ns.length cp) far')]∧far'≤max far ((deep+h:Nat):Int):=by
 induction hsub with
 | @leaf k h n hn hc hl hr ha =>
  intro H css b T deep far hns hsl hdk;have hlt:=(qE.1 hn).1;obtain⟨c,hcut,hnd⟩:=hns.get hn;obtain⟨a7,c7,rfl,_⟩:=hnd.cells
  have hsg:PV prog 20 #[zaj n.at'] (.int .i64 0):=by
   rw[ha];exact zb6 0 (by show bl 0≤_;rw[zbn];omega)
  refine PW.body tO func141 rfl kR ntmps141 rfl rfl ?_;refine uR ?_;refine RP ?_;refine EVL.loadOwn tO rfl rfl rfl rfl rfl rfl (0) rfl (rfl) rfl rfl ?_;refine uR ?_;rw[qC (show ¬(k:Int)≥(ns.length:Int) by omega)];refine uR ?_;refine RP ?_;refine EVL.loadOwn tO rfl rfl rfl rfl rfl rfl (0) rfl (rfl) rfl rfl ?_;refine uR ?_;refine EVL.idxM tO rfl rfl rfl rfl rfl rfl rfl rfl rfl (hsl) (k) (rfl) (hlt) (hcut) ?_;refine uR ?_;rw[hc];refine uR ?_;refine RP ?_;refine EVL.loadOwn tO rfl rfl rfl rfl rfl rfl (0) rfl (rfl) rfl rfl ?_;refine uR ?_;refine RP ?_;refine EVL.storeOwn tO rfl rfl rfl rfl rfl rfl ([]) ([]) rfl rfl rfl rfl ((by exact qH 5)) (rfl) ?_;refine uR ?_;rw[hl,hr]
  repeat (first|refine RUN ?_|refine CV (hsg) ?_|refine CE (hsg) ?_)
  refine⟨by rw[zac k (by omega)];rfl,_,rfl,?_⟩;split <;> omega
 | @node k h m e n hn hc1 hc2 hl hr s1 s2 ih1 ih2 =>
  intro H css b T deep far hns hsl hdk;have hlt:=(qE.1 hn).1;obtain⟨hm1,hm2⟩:=s1.lt;obtain⟨he1,he2⟩:=s2.lt;obtain⟨c,hcut,hnd⟩:=hns.get hn;obtain⟨a7,c7,rfl,_⟩:=hnd.cells;refine PW.body tO func141 rfl kR ntmps141 rfl rfl ?_;refine uR ?_;refine RP ?_;refine EVL.loadOwn tO rfl rfl rfl rfl rfl rfl (0) rfl (rfl) rfl rfl ?_;refine uR ?_;rw[qC (show ¬(k:Int)≥(ns.length:Int) by omega)];refine uR ?_;refine RP ?_;refine EVL.loadOwn tO rfl rfl rfl rfl rfl rfl (0) rfl (rfl) rfl rfl ?_;refine uR ?_;refine EVL.idxM tO rfl rfl rfl rfl rfl rfl rfl rfl rfl (hsl) (k) (rfl) (hlt) (hcut) ?_;refine uR ?_;rw[show (n.col == -1)=false from pP.2 (by omega)];refine uR ?_;apply EV.drawn 20 kR kR;intro xv yw;(repeat refine' DD ?_);rw[qC (show ¬n.col<0 by omega)];(repeat refine' DD ?_);(repeat (first|refine' DD ?_|refine' vN ?_|refine' vF ?_));refine' DJ.ofVal (zab.loadOwn tO rfl rfl rfl rfl (0) rfl (rfl) rfl rfl) rfl rfl rfl ?_;rotate_left;(repeat refine' DD ?_);rw[qC (show ¬n.col≥w by omega)];(repeat refine' DD ?_);rw[hl,zac k oM,show (((k+1:Nat):Int) != ((k+1:Nat):Int))=false from pO _];(repeat refine' DD ?_);(refine DJ.nil (fun G1 hG1 hF1=>?_);(case hS|hS2=>rfl));refine uR ?_;rw[zac k oM,zac deep (by omega)];refine EVL.callW rfl rfl rfl rfl rfl ([(b,T,zkh kd cl w (.slice a ns.length cp) far)]) ([]) rfl (ih1 (hns.mono hG1) (hsl.mono hG1) (deep:=deep+1) oM) ?_;rintro _ _ G2 ⟨rfl,far1,rfl,hf1⟩ hG2;refine uR ?_;rw[hr,show ((m:Int) != (m:Int))=false from pO _];refine uR ?_;rw[zac deep (by omega)];refine EVL.callW rfl rfl rfl rfl rfl ([(b,T,zkh kd cl w (.slice a ns.length cp) far1)]) ([]) rfl (ih2 (hns.mono (hG1.trans hG2)) (hsl.mono (hG1.trans hG2)) (deep:=deep+1) oM) ?_;rintro _ _ G3 ⟨rfl,far2,rfl,hf2⟩ hG3;refine uR ?_;exact⟨rfl,far2,rfl,by omega⟩
set_option maxRecDepth 100000 in
theorem zi7 {H:Hp} {kd cl w:Int} {vn:Value} {n:Nd} {cs:List Value} (hkd:(kd=1∧1≤cl∧cl≤12)∨(kd=2∧cl=0)) (hnd:zcI H cs n) (hN:OkN kd cl n) :
  PC prog 142 #[zso kd cl w vn,.agg cs.toArray] H fun r _=>r=.bool true:=by
 obtain⟨a7,c7,rfl,k4⟩:=hnd.cells;have hN1:=hN.rows;have hcl:n.counts.length≤12:=by have:=hN.len;omega
 have hsc:PV prog 20 #[zaj n.cost] (.int .i64 n.cost.num.sign):=zb6 _ (by have:=(zaN hN.small.2.1 oM).num;show bl n.cost.num.natAbs≤_;omega);refine BD func142 ntmps142 ?_;refine uR ?_;rw[qC (show ¬n.rows<1 by omega)];refine uR ?_;rw[qC (show ¬n.rows>1048576 by omega)]
 repeat (first|refine RUN ?_|refine CV (hsc) ?_|refine CE (hsc) ?_)
 rw[qC (zq1 hN.cost)];refine uR ?_;rw[show ((n.counts.length:Int) != cl)=false by rw[hN.len];exact pO _];refine uR ?_;rcases hkd with ⟨rfl,hc1,hc2⟩ | ⟨rfl,rfl⟩
 ·have hsv:PV prog 20 #[zaj n.value] (.int .i64 0):=by
   rw[hN.value rfl];exact zb6 0 (by show bl 0≤_;rw[zbn];omega)
  refine uR ?_;refine EV.loopK (ι:=Nat) [2,3,38,39] [2,3] (fun q=>[(5,.v (.int .i64 (n.counts.take q).sum)),(6,.v (.int .i64 (zeI n.counts q:Nat))),(40,.v (.int .i64 (q:Int)))]) (fun _=>[]) (fun _=>[]) (fun q _=>q≤n.counts.length) (fun q=>n.counts.length-q) (0) rfl rfl ⟨rfl,rfl,rfl,trivial⟩ trivial rfl (fun _=>rfl) (qQ _) ?_;rintro q G2 hG2 hq;have hsum:=hN.sum rfl;refine uR ?_;refine EV.cond rfl (fun hlt=>?_) (fun hlt=>?_)
  ·simp only[nN]at hlt;have ht1:=zdb hN.pos (q+1);have ht0:=zdb hN.pos q;have hti:=zke n.counts q;have htl:zeI n.counts q<n.counts.length:=oM;have g1:=zhN hlt;have g2:=zhN htl;have hz0:=hN.pos _ (qF g1);have hts:(n.counts.take (q+1)).sum=(n.counts.take q).sum+n.counts.getD q 0:=by rw[zai g1,List.sum_append,List.sum_singleton]
   have hst:zeI n.counts (q+1)=if n.counts.getD (zeI n.counts q) 0<n.counts.getD q 0 then q else zeI n.counts q:=rfl
   generalize zeI n.counts q=tp at *
   generalize n.counts.getD tp 0=x at *
   generalize n.counts.getD q 0=y at *
   refine uR ?_;refine vI ((k4.mono hG2)) (q) (rfl) (hlt) ((by rw[qK,g1];rfl)) ?_;refine uR ?_;rw[qC (show ¬y<0 by omega)];refine uR ?_;rw[qC (show ¬y>n.rows by omega)];refine uR ?_;rw[show IntKind.i64.wrap ((n.counts.take q).sum+y)=(n.counts.take (q+1)).sum by rw[pK];omega];refine vI ((k4.mono hG2)) (tp) (rfl) (htl) ((by rw[qK,g2];rfl)) ?_;refine uR ?_;by_cases h:y>x
   ·rw[qD h];rw[if_pos h]at hst;refine uR ?_;refine⟨q+1,⟨rfl,by rw[hst];rfl,by rw[zac q (by omega)];rfl,trivial⟩,sB,trivial,sB,rfl,by omega,Hp.Le.refl _,by omega⟩
   ·rw[qC h];rw[if_neg h]at hst;refine uR ?_;refine⟨q+1,⟨rfl,by rw[hst];rfl,by rw[zac q (by omega)];rfl,trivial⟩,sB,trivial,sB,rfl,by omega,Hp.Le.refl _,by omega⟩
  ·simp only[nN]at hlt;obtain rfl:q=n.counts.length:=oM;rw[qa,hsum,hN.cls];refine uR ?_;rw[show (n.rows == n.rows)=true from beq_self_eq_true _];refine uR ?_;rw[show ((zeI n.counts n.counts.length:Int) == (zeI n.counts n.counts.length:Int))=true from beq_self_eq_true _]
   repeat (first|refine RUN ?_|refine CV (hsv) ?_|refine CE (hsv) ?_)
   rfl
 ·have hc0:n.counts=[]:=qz.1 (by have:=hN.len;omega);have hcls0:n.cls=0:=by rw[hN.cls,hc0];rfl
  rw[hcls0];refine uR ?_;rfl
set_option maxRecDepth 100000 in
theorem zo0 {H:Hp} {kd cl:Int} {n na nb:Nd} {cs ca cb:List Value} (hkd:(kd=1∧1≤cl∧cl≤12)∨(kd=2∧cl=0)) (hnd:zcI H cs n) (hnda:zcI H ca na) (hndb:zcI H cb nb) (hN:OkN kd cl n) (hNa:OkN kd cl na) (hNb:OkN kd cl nb) (hCC:OkC n na nb) :
  PC prog 143 #[.agg cs.toArray,.agg ca.toArray,.agg cb.toArray] H fun r _=>r=.bool true:=by
 obtain⟨a7,c7,rfl,k4⟩:=hnd.cells;obtain⟨xa7,xc7,rfl,ka4⟩:=hnda.cells;obtain⟨ya7,yc7,rfl,kb4⟩:=hndb.cells;have hRa:=hNa.rows;have hRb:=hNb.rows;have hRc:=hCC.rows;have hRn:=hN.rows;have hs0:=hN.small;have hsa:=hNa.small;have hsb:=hNb.small;have hlna:(na.counts.length:Int)=cl:=hNa.len;have hlnb:(nb.counts.length:Int)=cl:=hNb.len;have hlnn:(n.counts.length:Int)=cl:=hN.len;have had:=zdV na.cost nb.cost;have hadd:=zfD na.cost nb.cost (zaN hsa.2.1 oM) (zaN hsb.2.1 oM);have hcmp:=zfN n.cost (na.cost+nb.cost) (zaN hs0.2.1 oM) (by unfold sm;omega);refine BD func143 ntmps143 ?_;refine uR ?_;refine EV.loopK (ι:=Nat) [3,4,5,10,11] [3,4,5] (fun q=>[(12,.v (.int .i64 (q:Int)))]) (fun _=>[]) (fun _=>[]) (fun q _=>q≤n.counts.length) (fun q=>n.counts.length-q) (0) rfl rfl ⟨rfl,trivial⟩ trivial rfl (fun _=>rfl) (qQ _) ?_;rintro q G1 hG1 hq;refine uR ?_;refine EV.cond rfl (fun hlt=>?_) (fun hlt=>?_)
 ·simp only[nN]at hlt
  have hk1:kd=1:=by
   rcases hkd with ⟨e,_⟩ | ⟨_,e⟩
   ·exact e
   ·omega
  obtain⟨z,hz⟩:=gE hlt;have hqa:q<na.counts.length:=oM;have hqb:q<nb.counts.length:=oM;obtain⟨za,hza⟩:=gE hqa;obtain⟨zb,hzb⟩:=gE hqb;have hcc:=hCC.counts q;rw[qB,qB,qB,hz,hza,hzb]at hcc;simp only[Option.getD_some]at hcc;have hz0:=hN.pos z (qF hz)
  have hup:z≤1048576:=by
   have h1:=zdb hN.pos (q+1);have h2:=zdb hN.pos q;rw[zai hz,List.sum_append,List.sum_singleton]at h1;have h3:=hN.sum hk1;omega
  have hwz:IntKind.i64.wrap (za+zb)=z:=by rw[pK];omega
  refine uR ?_;refine vI ((k4.mono hG1)) (q) (rfl) (hlt) ((by rw[qK,hz];rfl)) ?_;refine uR ?_;apply EV.drawn 13 kR kR;intro xv yw;(repeat refine' DD ?_);refine' vJ ((ka4.mono hG1)) (q) (rfl) (hqa) ((by rw[qK,hza];rfl)) ?_;rotate_left;(repeat refine' DD ?_);refine' vJ ((kb4.mono hG1)) (q) (rfl) (hqb) ((by rw[qK,hzb];rfl)) ?_;rotate_left;(repeat refine' DD ?_);rw[hwz,show (z != z)=false from pO _];(repeat refine' DD ?_);(refine DJ.nil (fun G hG hF=>?_);(case hS|hS2=>rfl));refine uR ?_;refine⟨q+1,⟨by rw[zac q (by omega)];rfl,trivial⟩,sB,trivial,sB,rfl,hlt,hG,by omega⟩
 ·simp only[nN]at hlt;refine uR ?_;have hwr:IntKind.i64.wrap (na.rows+nb.rows)=n.rows:=by rw[pK];omega
  apply EV.drawn 20 kR kR;intro xv yw;(repeat refine' DD ?_);rw[hwr,show (n.rows == n.rows)=true from beq_self_eq_true _];(repeat (first|refine' DD ?_|(refine' DC (hadd) (h:=?_);rotate_left)|(refine' DC (hcmp) (h:=?_);rotate_left)));rw[qD (show zco n.cost (na.cost+nb.cost)≥0 from Int.not_lt.1 fun k=>Rat.not_lt.2 hCC.cost ((zh0 _ _).1 k))];(repeat refine' DD ?_);(refine DJ.nil (fun G hG hF=>?_);(case hS|hS2=>rfl));refine uR ?_;rfl
theorem zaA.midS {s:Nat} (hs:0<s) {e:TypeId} {v:Value} {m:Nat} {cA cB:List (List Value)} {c:List Value} {ow:Ows} (h:zaA e s v m (cA++c::cB).flatten ow) (hc:c.length=s):∃g cap sp,v=.slice (some ⟨g,0,none⟩) m cap∧ow=[(g,e,cA.flatten++(c++(cB.flatten++sp)))]∧∀c',c'.length=s→zaA e s v m (cA++c'::cB).flatten [(g,e,cA.flatten++(c'++(cB.flatten++sp)))]:=by
 have hl:=h.1;rcases h.2 with ⟨_,rfl,_⟩ | ⟨g,cap,sp,rfl,rfl,h1,h2,h3⟩
 ·simp[hc]at hl;omega
 ·have e1:∀c':List Value,(cA++c'::cB).flatten=cA.flatten++(c'++cB.flatten):=fun c'=>by simp
  rw[e1]at hl h1;refine⟨g,cap,sp,rfl,by rw[e1];simp,fun c' hc'=>⟨?_,.inr ⟨g,cap,sp,rfl,by rw[e1];simp,?_,h2,h3⟩⟩⟩
  ·rw[e1,←hl];simp[hc,hc']
  ·rw[e1,←h1];simp[hc,hc']
section
variable {P:Program} {n:Nat} {ops:Array Oper} {fuel:Nat} {L:Array Bool} {env:Env} {bx:Bxs} {H:Hs} {K:Env→Bxs→Hs→Prop} {τ:Tab} {d:Nat} {o:Oper} {v:Value}
end
set_option maxRecDepth 100000 in
theorem zlT {H:Hp} {kd cl w:Int} {ns:List Nd} {cs:List Value} (ht:zdo H cs kd cl w ns) (hok:zbD ⟨kd,cl,w,ns⟩):PC prog 79 #[.agg cs.toArray] H fun r _=>r=.int .i64 0:=by
 obtain⟨a,cp,css,rfl,hns,hsl⟩:=ht;obtain⟨hkd,hw,hln,⟨hh,hh10,hsub⟩,hall⟩:=hok;dsimp only at hkd hw hln hsub hall;have hpos:=hsub.end0;refine BD func79 ntmps79 ?_;refine uR ?_;refine EVL.meetK (ι:=Bool) [1,2] [1] (fun _=>[(17,.v (.bool false))]) (fun _=>[]) (fun _=>[]) (fun _ G=>H.Le G) rfl rfl (fun _=>rfl) ?_ ?_
 ·rcases hkd with ⟨rfl,_⟩ | ⟨rfl,rfl⟩
  ·try refine uR ?_
   exact⟨true,⟨rfl,trivial⟩,sB,trivial,sB,rfl,Hp.Le.refl _⟩
  ·try refine uR ?_
   exact⟨true,⟨rfl,trivial⟩,sB,trivial,sB,rfl,Hp.Le.refl _⟩
 rintro _ G1 hG1;refine uR ?_;rw[qC (show ¬w<1 by omega)];refine uR ?_;rw[qC (show ¬w>20 by omega)];refine uR ?_;rw[qC (show ¬(ns.length:Int)<1 by omega)];refine uR ?_;rw[qC (show ¬(ns.length:Int)>2000 by omega)];refine uR ?_;refine EVL.meetK (ι:=Bool) [1,2] [1] (fun _=>[(60,.v (.bool false))]) (fun _=>[]) (fun _=>[]) (fun _ G=>H.Le G) rfl rfl (fun _=>rfl) ?_ ?_
 ·rcases hkd with ⟨rfl,h1,h2⟩ | ⟨rfl,rfl⟩
  ·try refine uR ?_
   rw[qC (show ¬cl<1 by omega)];refine uR ?_;rw[qC (show ¬cl>12 by omega)];refine uR ?_;exact⟨true,⟨rfl,trivial⟩,sB,trivial,sB,rfl,hG1⟩
  ·try refine uR ?_
   exact⟨true,⟨rfl,trivial⟩,sB,trivial,sB,rfl,hG1⟩
 rintro _ G2 hG2;refine uR ?_;(first|refine EVL.unbox (3) rfl fun g3=>?_|refine EV.unbox (3) rfl fun g3=>?_);refine uR ?_;refine EVL.callW rfl rfl rfl rfl rfl ([(g3,213,zkh kd cl w (.slice a ns.length cp) 0)]) ([]) rfl (zqJ oM hsub (hns.mono hG2) (hsl.mono hG2) (deep:=0) (qH _)) ?_;rintro _ _ G3 ⟨rfl,far,rfl,hfar⟩ hG3;refine uR ?_;rw[show ((ns.length:Int) != (ns.length:Int))=false from pO _];refine uR ?_;refine EVL.fldB tO rfl rfl rfl rfl rfl rfl rfl ?_;refine EVL.loadOwn tO rfl rfl rfl rfl rfl rfl (0) rfl (rfl) rfl rfl ?_;refine uR ?_;rw[qC (show ¬far>10 by omega)];refine uR ?_;refine EV.loopK (ι:=Nat) [1,80,81] [1] (fun q=>[(82,.v (.int .i64 (q:Int)))]) (fun _=>[]) (fun _=>[(g3,_,zkh kd cl w (.slice a ns.length cp) far)]) (fun q _=>q≤ns.length) (fun q=>ns.length-q) (0) rfl rfl ⟨rfl,trivial⟩ trivial rfl (fun _=>rfl) (qQ _) ?_;rintro i G4 hG4 hi;have hH4:=hG2.trans (hG3.trans hG4);refine uR ?_;refine EV.cond rfl (fun hlt=>?_) (fun hlt=>?_)
 ·simp only[nN]at hlt;obtain⟨n,hn,hN,hC⟩:=hall i hlt;obtain⟨c,hcut,hnd⟩:=(hns.mono hH4).get hn;obtain⟨a7,c7,rfl,_⟩:=hnd.cells;refine uR ?_;refine EVL.idxM tO rfl rfl rfl rfl rfl rfl rfl rfl rfl ((hsl.mono hH4)) (i) (rfl) (hlt) (hcut) ?_
  repeat (first|refine RUN ?_|refine CV (zi7 hkd hnd hN) ?_|refine CE (zi7 hkd hnd hN) ?_)
  refine⟨i+1,⟨by rw[zac i (by omega)];rfl,trivial⟩,sB,trivial,sB,rfl,hlt,Hp.Le.refl _,by omega⟩
 ·simp only[nN]at hlt;refine uR ?_;refine EV.loopK (ι:=Nat) [1,92,93] [1] (fun q=>[(94,.v (.int .i64 (q:Int)))]) (fun _=>[]) (fun _=>[(g3,_,zkh kd cl w (.slice a ns.length cp) far)]) (fun q _=>q≤ns.length) (fun q=>ns.length-q) (0) rfl rfl ⟨rfl,trivial⟩ trivial rfl (fun _=>rfl) (qQ _) ?_;rintro j G5 hG5 hj;have hH5:=hH4.trans hG5;refine uR ?_;refine EV.cond rfl (fun hlj=>?_) (fun hlj=>?_)
  ·simp only[nN]at hlj;obtain⟨n,hn,hN,hC⟩:=hall j hlj;obtain⟨c,hcut,hnd⟩:=(hns.mono hH5).get hn;obtain⟨a7,c7,rfl,_⟩:=hnd.cells;refine uR ?_;refine EVL.idxM tO rfl rfl rfl rfl rfl rfl rfl rfl rfl ((hsl.mono hH5)) (j) (rfl) (hlj) (hcut) ?_;refine uR ?_;by_cases hcol:n.col = -1
   ·apply EV.drawn 20 kR kR;intro xv yw;(repeat refine' DD ?_);rw[show (n.col != -1)=false by rw[hcol];rfl];(repeat refine' DD ?_);(refine DJ.nil (fun G hG hF=>?_);(case hS|hS2=>rfl));refine uR ?_;refine⟨j+1,⟨by rw[zac j (by omega)];rfl,trivial⟩,sB,trivial,sB,rfl,hlj,hG,by omega⟩
   ·obtain⟨hc0,hl0,hr0,na,nb,hna,hnb,hCC⟩:=hC hcol;have hla:=(qE.1 hna).1;have hlb:=(qE.1 hnb).1;obtain⟨na',ena,hNa,_⟩:=hall _ hla;obtain⟨nb',enb,hNb,_⟩:=hall _ hlb;cases hna.symm.trans ena;cases hnb.symm.trans enb;obtain⟨ca,hcuta,hnda⟩:=(hns.mono hH5).get hna;obtain⟨cb,hcutb,hndb⟩:=(hns.mono hH5).get hnb;obtain⟨xa7,xc7,rfl,_⟩:=hnda.cells;obtain⟨ya7,yc7,rfl,_⟩:=hndb.cells;apply EV.drawn 20 kR kR;intro xv yw;(repeat refine' DD ?_);rw[show (n.col != -1)=true from bne_iff_ne.2 hcol];(repeat refine' DD ?_);refine' DJ.idxM tO rfl rfl rfl rfl rfl rfl rfl rfl rfl ((hsl.mono hH5)) (n.left.toNat) ((by rw[Int.toNat_of_nonneg hl0])) (hla) (hcuta) ?_;rotate_left;(repeat refine' DD ?_);refine' DJ.idxM tO rfl rfl rfl rfl rfl rfl rfl rfl rfl ((hsl.mono hH5)) (n.right.toNat) ((by rw[Int.toNat_of_nonneg hr0])) (hlb) (hcutb) ?_;rotate_left;(repeat refine' DD ?_);refine' vC (cO func143) (fun G hG hd=>zo0 hkd (hnd.mono hG) (hnda.mono hG) (hndb.mono hG) hN hNa hNb hCC) ?_;rotate_left;(repeat refine' DD ?_);(refine DJ.nil (fun G hG hF=>?_);(case hS|hS2=>rfl));refine uR ?_;refine⟨j+1,⟨by rw[zac j (by omega)];rfl,trivial⟩,sB,trivial,sB,rfl,hlj,hG,by omega⟩
  ·try refine uR ?_
   rfl
inductive zjA (T:List Nd) (x:List Rat):Nat→Nat→Prop
 | here {i:Nat} {n:Nd}:T[i]?=some n→n.col = -1→zjA T x i i
 | low {i j:Nat} {n:Nd}:T[i]?=some n→n.col ≠ -1→x.getD n.col.toNat 0≤n.at'→zjA T x n.left.toNat j→zjA T x i j
 | high {i j:Nat} {n:Nd}:T[i]?=some n→n.col ≠ -1→¬x.getD n.col.toNat 0≤n.at'→zjA T x n.right.toNat j→zjA T x i j
theorem zjA.det {T:List Nd} {x:List Rat} {i j:Nat} (h:zjA T x i j):∀{k:Nat},zjA T x i k→j=k:=by
 induction h with
 | here h1 h2 =>
  intro k h
  cases h with
  | here _ _=>rfl
  | low e n _ _=>rw[h1]at e;cases e;exact absurd h2 n
  | high e n _ _=>rw[h1]at e;cases e;exact absurd h2 n
 | low h1 h2 h3 _ ih =>
  intro k h
  cases h with
  | here e n=>rw[h1]at e;cases e;exact absurd n h2
  | low e n _ h=>rw[h1]at e;cases e;exact ih h
  | high e n h' _=>rw[h1]at e;cases e;exact absurd h3 h'
 | high h1 h2 h3 _ ih =>
  intro k h
  cases h with
  | here e n=>rw[h1]at e;cases e;exact absurd n h2
  | low e n h' _=>rw[h1]at e;cases e;exact absurd h' h3
  | high e n _ h=>rw[h1]at e;cases e;exact ih h
theorem Sub.at {T:List Nd} {w:Int} {k h e:Nat} (h0:Sub T w k h e):∀i,k≤i→i<e→∃h' e',Sub T w i h' e':=by
 induction h0 with
 | @leaf k h n a b c d e =>
  intro i h1 h2;obtain rfl:i=k:=oM;exact⟨0,_,.leaf a b c d e⟩
 | @node k h m e n a b c d f s1 s2 ih1 ih2 =>
  intro i h1 h2;by_cases h3:i=k
  ·subst h3;exact⟨_,_,.node a b c d f s1 s2⟩
  ·by_cases h4:i<m
   ·exact ih1 i oM h4
   ·exact ih2 i oM h2
def cqF (q:Rat):List Value:=zae (zaj q)
theorem zmP (l:List Rat):(l.flatMap cqF).length=l.length*5:=flat_len cqF 5 l fun _ _=>rfl
theorem zkz (n:Nat):(List.replicate n ([.bool false,.int .u64 0,.string ⟨#[]⟩,.int .u64 0,.string ⟨#[]⟩]:List Value)).flatten=(([]:List Rat)++List.replicate (n-0) 0).flatMap cqF:=by
 rw[pM,Nat.sub_zero,List.flatMap_def,List.map_replicate,show cqF 0=_ from zbe]
theorem zqe (qs:List Rat) (q:Rat) {n:Nat} (h:qs.length<n):((qs++List.replicate (n-qs.length) 0).flatMap cqF).take (qs.length*5)++zae (zaj q)++((qs++List.replicate (n-qs.length) 0).flatMap cqF).drop (qs.length*5+5)=((qs++[q])++List.replicate (n-(qs++[q]).length) 0).flatMap cqF:=by
 have e:n-qs.length=(n-(qs++[q]).length)+1:=by rw[qJ,qv];omega
 rw[e,List.replicate_succ,List.flatMap_append,List.flatMap_cons,List.flatMap_append,List.flatMap_append,List.flatMap_singleton,qZ (qs.flatMap cqF) (cqF q)];have:=zc9 (A:=qs.flatMap cqF) (c:=cqF 0) (B:=(List.replicate (n-(qs++[q]).length) (0:Rat)).flatMap cqF) (vs:=zae (zaj q)) (c':=cqF q) (k:=qs.length) (s:=5) (f:=0) (m:=5) (q:=qs.length*5) (zmP qs) rfl rfl (qH 5) rfl;exact this
theorem zmI {H:Hp} {v:Value} {l:List Int} (h:IL H v l) (hl:l.length≤1000000):PC prog 98 #[v] H fun r G=>IL G r l:=by
 by_cases h0:l.length=0
 ·obtain rfl:=qz.1 h0;obtain⟨a,cap,rfl⟩:=SlC.val h;refine BD func98 ntmps98 ?_;refine uR ?_;refine EVL.eqnil tO rfl rfl rfl rfl rfl rfl rfl ?_
  cases a with
  | none =>
   refine uR ?_;exact IL.nil _ _ _
  | some x =>
   refine uR ?_;refine EVL.lit0 tO rfl rfl rfl rfl rfl rfl rfl fun g0=>?_;refine uR ?_;refine EVL.append0 tO rfl rfl rfl rfl rfl rfl rfl rfl rfl (qH _) ?_;refine uR ?_;exact IL.nil _ _ _
 ·have hs:=h.2;rcases hs with ⟨e,_⟩ | ⟨b,off,cap,c,rfl,_⟩
  ·omega
  ·refine BD func98 ntmps98 ?_;refine uR ?_;refine EVL.eqnil tO rfl rfl rfl rfl rfl rfl rfl ?_;refine uR ?_;refine EVL.lit0 tO rfl rfl rfl rfl rfl rfl rfl fun g0=>?_;refine uR ?_;refine EVL.append tO rfl rfl rfl rfl rfl rfl rfl rfl rfl rfl rfl rfl [] [(g0,3,[])] [] rfl (zaA.full (m:=0) rfl oM) (zb2.ro h oM) (znk l) oM ?_;intro v1 ow1 hown1;rw[qt,pM]at hown1;(first|refine EVL.publishL [] ow1 [] (rfl) hown1 fun G2 hG2 hs2=>?_|refine EV.publishL [] ow1 [] (rfl) hown1 fun G2 hG2 hs2=>?_);refine uR ?_;exact hs2
theorem zbm.one {H:Hp}:∀{css:List (List Value)} {ns:List Nd},zbm H css ns→zdv css.flatten=true
 | [],_,_=>rfl
 | c::css,[],h=>by have:=h.1;simp at this
 | c::css,n::ns,h=>by
  rw[List.flatten_cons];refine zex (h.2 0 c n rfl rfl).one (zbm.one (ns:=ns) ⟨?_,fun j c' n' e1 e2=>h.2 (j+1) c' n' (by rw[pL];exact e1) (by rw[pL];exact e2)⟩);have:=h.1;simpa using this
theorem zmJ {H:Hp} {v:Value} {ns:List Nd} {css:List (List Value)} (hns:zbm H css ns) (h:SlC H v ns.length 21 css.flatten) (h0:0<ns.length) (hl:ns.length≤1000000):PW prog 97 #[v] H [] fun r ow _=>zaA 168 21 r ns.length css.flatten ow:=by
 have hs:=h.2;rcases hs with ⟨e,_⟩ | ⟨b,off,cap,c,rfl,_⟩
 ·omega
 ·refine PW.body tO func97 rfl kR ntmps97 rfl rfl ?_;refine uR ?_;refine EVL.eqnil tO rfl rfl rfl rfl rfl rfl rfl ?_;refine uR ?_;refine EVL.lit0 tO rfl rfl rfl rfl rfl rfl rfl fun g0=>?_;refine uR ?_;refine EVL.append tO rfl rfl rfl rfl rfl rfl rfl rfl rfl rfl rfl rfl [] [(g0,168,[])] [] rfl (zaA.full (m:=0) rfl oM) (zb2.ro h h0) hns.one oM ?_;intro v1 ow1 hown1;refine uR ?_;rw[qt]at hown1;rw[qG];exact hown1
theorem zaA.same {e:TypeId} {s m:Nat} {v:Value} {xs:List Value} {ow:Ows} (h:zaA e s v m xs ow) (h0:0<m):∃g cap sp,v=.slice (some ⟨g,0,none⟩) m cap∧ow=[(g,e,xs++sp)]∧∀xs',xs'.length=xs.length→zaA e s v m xs' [(g,e,xs'++sp)]:=by
 rcases h.2 with ⟨_,e0,_⟩ | ⟨g,cap,sp,rfl,rfl,h1,h2,h3⟩
 ·omega
 ·exact⟨g,cap,sp,rfl,rfl,fun xs' e=>⟨by rw[e];exact h.1,.inr ⟨g,cap,sp,rfl,rfl,by rw[←h1,qJ,qJ,e],h2,h3⟩⟩⟩
theorem zbm.put {H:Hp} {A B:List (List Value)} {c c':List Value} {ns:List Nd} {n:Nd} (h:zbm H (A++c::B) ns) (hn:ns[A.length]?=some n) (h':zcI H c' n):zbm H (A++c'::B) ns:=by
 refine⟨by have:=h.1;simpa using this,fun j x m e1 e2=>?_⟩;rcases Nat.lt_trichotomy j A.length with k | k | k
 ·exact h.2 j x m (by rw[qM k]at e1 ⊢;exact e1) e2
 ·subst k;rw[qL (qH _),Nat.sub_self]at e1;cases e1;rw[hn]at e2;cases e2;exact h'
 ·obtain⟨q,hq⟩:∃q,j-A.length=q+1:=⟨j-A.length-1,by omega⟩;exact h.2 j x m (by rw[qL oM,hq,pL]at e1 ⊢;exact e1) e2
theorem zkH (A B:List (List Value)) (c:List Value) (sp:List Value):(A++c::B).flatten++sp=A.flatten++(c++(B.flatten++sp)):=by simp
theorem zbm.flat_len {H:Hp}:∀{css:List (List Value)} {ns:List Nd},zbm H css ns→css.flatten.length=css.length*21
 | [],_,_=>rfl
 | c::css,[],h=>by have:=h.1;simp at this
 | c::css,n::ns,h=>by
  have h1:=(h.2 0 c n rfl rfl).len;have h2:=zbm.flat_len (css:=css) (ns:=ns) ⟨by have:=h.1;simpa using this,fun j c' n' e1 e2=>h.2 (j+1) c' n' (by rw[pL];exact e1) (by rw[pL];exact e2)⟩;rw[List.flatten_cons,qJ,qR];omega
theorem zbm.left {H:Hp} {A B:List (List Value)} {ns:List Nd} (h:zbm H (A++B) ns):zbm H A (ns.take A.length):=by
 have hl:=h.1;rw[qJ]at hl;refine⟨by rw[qP];omega,fun j c n e1 e2=>?_⟩;have hj:=(qE.1 e1).1;rw[pN,if_pos hj]at e2;exact h.2 j c n (by rw[qM hj];exact e1) e2
theorem zdo.one {H:Hp} {cs:List Value} {kd cl w:Int} {ns:List Nd} (h:zdo H cs kd cl w ns):zdv cs=true:=by
 obtain⟨_,_,_,rfl,_⟩:=h;rfl
theorem zdo.len {H:Hp} {cs:List Value} {kd cl w:Int} {ns:List Nd} (h:zdo H cs kd cl w ns):cs.length=4:=by
 obtain⟨_,_,_,rfl,_⟩:=h;rfl
theorem zbD.copies {t:Tr} (h:zbD t):0<t.ns.length∧t.ns.length≤1000000∧∀n,n∈t.ns→n.counts.length≤1000000:=by
 obtain⟨hkd,hw,hln,⟨hh,hh10,hsub⟩,hall⟩:=h;refine⟨hsub.end0,by omega,fun n hn=>?_⟩;obtain⟨i,hi⟩:=List.mem_iff_getElem?.1 hn;obtain⟨n',e,hN,_⟩:=hall i (qE.1 hi).1;cases hi.symm.trans e;have:=hN.len;omega
end
section
end
section
open Go.RowKit _root_.Go.Proofs.Tryz
theorem zoX (a b:Int) (ha:0≤a∧a≤1000) (hb:1≤b∧b≤1000):PV prog 52 #[.int .i64 a,.int .i64 b] (.tuple #[zaj (mkRat a b.natAbs),.bool true]):=by
 have h1:=zdP a oM oM;have h2:=zdP b oM oM;have b1:bl a.natAbs≤20:=zaU oM;have b2:bl b.natAbs≤20:=zaU oM;have h3:=zm7 a b (by show bl a.natAbs≤_;omega) (by show bl b.natAbs≤_;omega) oM;rw[if_neg (show ¬b<0 by omega)]at h3;refine PV.of_pc ?_;refine BD func52 ntmps52 ?_
 repeat (first|refine RUN ?_|refine CV (h1) ?_|refine CV (h2) ?_|refine CV (h3) ?_|refine CE (h1) ?_|refine CE (h2) ?_|refine CE (h3) ?_)
 rfl
end
section
end
section
open Go.RowKit _root_.Go.Proofs.Tryz
end
section
open Go.ChangeShapes Go.WideShapes Go.ChangeAt Go.RowKit
def hpOf (W:World):Hp:=fun b=>match W.heap[b]? with
 | some (.cells c _ _)=>some c
 | _=>none
theorem fits_hpOf (W:World):Fits (hpOf W) W:=fun b c h=>by
 unfold hpOf at h;split at h
 ·rename_i c' T fz hb;cases h;exact⟨T,fz,hb⟩
 ·cases h
section
variable {H:Type} {enc:TypeId × Value→H} {P:Program} {w:World} {base:Nat} {spare:Nat→Bool} {held:Bool}
theorem ints_open {t e:TypeId} {k:IntKind} {fuel:Nat} {cs:List Value} {x:DataW H × List MemPlace} (ht:P.underlying t=some (.slice e)) (he:P.underlying e=some (.int k)) (hc:P.cellsOf e=1) (h:DataW.trod enc P w base spare held fuel t cs=some x) :
  ∃a len cap zs,cs=[.slice a len cap]∧SlN (fun z:Int=>Value.int k z) (hpOf w) (.slice a len cap) zs∧∀n∈zs,(Lit.int k n).wf=true:=by
 rcases open_ints ht he hc h with ⟨rfl,_⟩ | ⟨x,len,cap,zs,rfl,_,hl,hm,hz,_,hcell,hw⟩
 ·exact⟨none,0,0,[],rfl,zpK _ _,fun n hn=>by cases hn⟩
 ·have hzl:len≤zs.length:=by rw[hz];split <;> omega
  refine⟨some x,len,cap,zs.take len,rfl,?_,fun n hn=>hw n (List.mem_of_mem_take hn)⟩;have hlen:(zs.take len).length=len:=by rw[qP];omega
  unfold SlN;rw[hlen];refine⟨by rw[qV,hlen,Nat.mul_one],?_⟩;by_cases h0:len=0
  ·subst h0;exact .inl ⟨rfl,some x,cap,rfl⟩
  ·right;have h1:=hcell 0 oM;obtain⟨b,off,sp⟩:=x
   have hsp:sp=none:=by
    cases sp with
    | none=>rfl
    | some s=>simp only[World.cell?,Addr.add]at h1;split at h1 <;> simp_all
   subst hsp
   have hb:∃c,hpOf w b=some c∧∀i,i<zs.length→c[off+i]?=some (.int k (zs.getD i 0)):=by
    simp only[Addr.add_mid]at hcell;unfold World.cell? at hcell;unfold hpOf;simp only at hcell
    cases hw':w.heap[b]? with
    | none=>have:=hcell 0 oM;rw[hw']at this;cases this
    | some o =>
     cases o with
     | cells c T fz=>exact⟨c,rfl,fun i hi=>by have:=hcell i hi;rw[hw']at this;simpa using this⟩
     | _=>have:=hcell 0 oM;rw[hw']at this;cases this
   obtain⟨c,hc1,hc2⟩:=hb;refine⟨b,off,cap,c,rfl,hl,hc1,fun j y hj=>?_⟩;rw[qK,pN]at hj;split at hj
   ·rename_i hjl;rw[hc2 j oM,←hj,qB,qA (by omega)];rfl
   ·cases hj
end
theorem i64_bounds {z:Int} (h:(Lit.int .i64 z).wf=true):-9223372036854775808≤z∧z<9223372036854775808:=by
 have:=bounds_i64 h;omega
end
section
open Go.ChangeShapes Go.WideShapes Go.ChangeAt Go.RowKit
theorem zrR {α:Type}:∀{l:List α},l.length=10→∃a b c d e f g h i j,l=[a,b,c,d,e,f,g,h,i,j]
 | [a,b,c,d,e,f,g,h,i,j],_=>⟨a,b,c,d,e,f,g,h,i,j,rfl⟩
end
section
open Go.RowKit _root_.Go.Proofs.Tryz
theorem zqU {α β:Type} {R:α→β→Prop} {A B:List α} {c c':α} {ys:List β} {y:β} (h:(A++c::B).length=ys.length∧∀(j:Nat) (x:α) (y:β),(A++c::B)[j]?=some x→ys[j]?=some y→R x y) (k:R c' y) :
  (A++c'::B).length=(ys.set A.length y).length∧∀(j:Nat) (x:α) (z:β),(A++c'::B)[j]?=some x→(ys.set A.length y)[j]?=some z→R x z:=by
 refine⟨by have:=h.1;simpa using this,fun j x m e1 e2=>?_⟩;rcases Nat.lt_trichotomy j A.length with q | q | q
 ·rw[List.getElem?_set_ne (by omega)]at e2;exact h.2 j x m (by rw[qM q]at e1 ⊢;exact e1) e2
 ·subst q;rw[qL (qH _),Nat.sub_self]at e1;cases e1;have hl:A.length<ys.length:=by have:=h.1;simp at this;omega
  rw[List.getElem?_set_self hl]at e2;cases e2;exact k
 ·obtain⟨p,hp⟩:∃p,j-A.length=p+1:=⟨j-A.length-1,by omega⟩;rw[List.getElem?_set_ne (by omega)]at e2;exact h.2 j x m (by rw[qL oM,hp,pL]at e1 ⊢;exact e1) e2
theorem zqT {α β:Type} {R:α→β→Prop} {xs:List α} {ys:List β} (h:xs.length=ys.length∧∀(j:Nat) (x:α) (y:β),xs[j]?=some x→ys[j]?=some y→R x y) (k:Nat) :
  (xs.take k).length=(ys.take k).length∧∀(j:Nat) (x:α) (y:β),(xs.take k)[j]?=some x→(ys.take k)[j]?=some y→R x y:=by
 refine⟨by rw[qP,qP,h.1],fun j x y e1 e2=>?_⟩;rw[pN]at e1 e2;split at e1
 ·rename_i hj;rw[if_pos hj]at e2;exact h.2 j x y e1 e2
 ·cases e1
theorem zie {α:Type} {l:List α} {k:Nat} (h:k<l.length):∃A c B,l=A++c::B∧A.length=k:=⟨l.take k,l[k],l.drop (k+1),by rw[List.getElem_cons_drop,List.take_append_drop],by rw[qP];omega⟩
theorem RTs.one {H:Hp}:∀{css:List (List Value)} {ns:List Tr},RTs H css ns→zdv css.flatten=true
 | [],_,_=>rfl
 | c::css,[],h=>by have:=h.1;simp at this
 | c::css,n::ns,h=>by
  rw[List.flatten_cons];obtain⟨_,_,_,h1,_⟩:=h.2 0 c n rfl rfl;refine zex (by rw[h1];rfl) (RTs.one (ns:=ns) ⟨?_,fun j c' n' e1 e2=>h.2 (j+1) c' n' (by rw[pL];exact e1) (by rw[pL];exact e2)⟩);have:=h.1;simpa using this
section
variable {P:Program} {n:Nat} {ops:Array Oper} {o:Oper} {rest:List Oper} {env:Env} {bx:Bxs} {H:Hs} {Q:EQ} {τ:Tab} {d:Nat}
theorem EVL.appendR (hτ:zau P τ) {T:TypeId} {x y:Operand} (ho:o.op=.call { callee:=.builtin .append,args:=#[x,y],argTypes:=#[T,T] }) (hg:o.guard=none) (hw:zal ops env o=some true) (hd:o.dst=some d) (hn:Nat.blt d n=true) {te te':TE} {e:TypeId} (ht:τ.get T=some te) (hk:te.kind=.slice e) (ht':τ.get e=some te')
  (hzs:Nat.beq te'.zero.length te'.size=true) (hpos:Nat.ble 1 te'.size=true) (hby:Nat.ble te'.bytes 10000=true) {v:Value} (hx:env.op x=some (.v v)) {u:Value} (hy:env.op y=some (.v u)) (pre ow post:Ows) (he:H.ow=pre++(ow++post)) {m1 m2:Nat} {xs ys:List Value}
  (hown:zaA e te'.size v m1 xs ow) (hsrc:SlC H.ro u m2 te'.size ys) (h1:zdv ys=true) (hm:m1+m2≤1000000000)
  (h:∀v' ow',zaA e te'.size v' (m1+m2) (xs++ys) ow'→EVL P n ops rest ((d,.v v')::env) bx ⟨H.ro,pre++(ow'++post),H.base⟩ Q):EVL P n ops (o::rest) env bx H Q:=by
 by_cases h0:m2=0
 ·subst h0;obtain⟨a',c',rfl⟩:=SlC.val hsrc;have hys:ys=[]:=qz.1 (by rw[hsrc.1,Nat.zero_mul]);subst hys
  have hle:∃a c,v=.slice a m1 c∧m1≤c:=by
   rcases hown.2 with ⟨e1,e2,_⟩ | ⟨g,cap,sp,e1,_,_,e2,_⟩
   ·subst e2;exact⟨_,_,e1,qH _⟩
   ·exact⟨_,_,e1,e2⟩
  obtain⟨a,c,rfl,hle⟩:=hle;refine EVL.append0 hτ ho hw hd hn ht hk ht' hx hy hle ?_;have:=h _ ow (by rw[qG];exact hown);rw[←he]at this;exact this
 ·exact EVL.append hτ ho hg hd hn ht hk ht' hzs hpos hby hx hy pre ow post he hown (zb2.ro hsrc oM) h1 hm h
end
end
section
instance:Nonempty Nd:=⟨⟨0,0,0,0,0,0,0,0,[]⟩⟩
noncomputable def zc3 (x:List Rat) (t:Tr):Nd:=Classical.epsilon fun n=>∃i,zjA t.ns x 0 i∧t.ns[i]?=some n
theorem zoP {x:List Rat} {t:Tr} {i:Nat} {n:Nd} (h1:zjA t.ns x 0 i) (h2:t.ns[i]?=some n):zc3 x t=n:=by
 have h:∃n,∃i,zjA t.ns x 0 i∧t.ns[i]?=some n:=⟨n,i,h1,h2⟩;obtain⟨j,h3,h4⟩:=Classical.epsilon_spec h;have e:=h1.det h3;subst e;have h5:some (zc3 x t)=some n:=h4.symm.trans h2;exact Option.some.inj h5
noncomputable def vL (x:List Rat) (ts:List Tr):List Rat:=ts.map fun t=>(zc3 x t).value
theorem Sub.leafs {T:List Nd} {w:Int} {k h e:Nat} (h0:Sub T w k h e) (x:List Rat):∃(j:Nat) (n:Nd),zjA T x k j∧T[j]?=some n:=by
 induction h0 with
 | @leaf k h n a b _ _ _=>exact⟨k,n,.here a b,a⟩
 | @node k h m e n a b c d f s1 s2 ih1 ih2 =>
  by_cases hle:x.getD n.col.toNat 0≤n.at'
  ·obtain⟨j,q,h1,h2⟩:=ih1;refine⟨j,q,.low a oM hle ?_,h2⟩;rw[d];exact h1
  ·obtain⟨j,q,h1,h2⟩:=ih2;refine⟨j,q,.high a oM hle ?_,h2⟩;rw[f];exact h1
theorem zhR {t:Tr} (h:zbD t) (x:List Rat):∃i:Nat,zjA t.ns x 0 i∧i<t.ns.length∧t.ns[i]?=some (zc3 x t)∧OkN t.kd t.cl (zc3 x t):=by
 obtain⟨_,_,_,⟨hh,_,hsub⟩,hall⟩:=h;obtain⟨i,n,h1,h2⟩:=hsub.leafs x;have hi:=(qE.1 h2).1;rw[zoP h1 h2];obtain⟨n',e,hN,_⟩:=hall i hi;rw[h2]at e;cases e;exact⟨i,h1,hi,h2,hN⟩
end
section
open Go.RowKit _root_.Go.Proofs.Tryz
theorem RL.slc {H:Hp} {v:Value} {l:List Rat} (h:RL H v l) {j:Nat} {q:Rat} (hj:l[j]?=some q):∃(cs:List Value) (b:Bool) (a1:Option Addr) (l1 c1:Nat) (a2:Option Addr) (l2 c2:Nat),SlC H v l.length 3 cs∧(cs.drop (j*3)).take 3=[.bool b,.slice a1 l1 c1,.slice a2 l2 c2]∧RQ H (.agg #[.bool b,.slice a1 l1 c1,.slice a2 l2 c2]) q:=by
 obtain⟨vs,x,h1,h2,h3⟩:=h.at hj;obtain⟨a1,l1,c1,a2,l2,c2,rfl,_⟩:=id h3;exact⟨_,_,a1,l1,c1,a2,l2,c2,h1,h2,h3⟩
abbrev zsG (deep least:Int) (g:Rat):List Value:=.int .i64 deep::.int .i64 least::zae (zaj g)
theorem zn5 {H:Hp} {deep least:Int} {g:Rat} (hg:sm g):PC prog 56 #[.agg (zsG deep least g).toArray] H fun r _=>r=.bool (decide (zos deep least g)):=by
 have hs:=zb6 g (qI hg.num oM);refine BD func56 ntmps56 ?_;refine uR ?_;by_cases h1:deep≥0
 case neg =>
  rw[qC h1];refine uR ?_;exact zdt fun k=>h1 k.1
 rw[qD h1];refine uR ?_;by_cases h2:deep≤10
 case neg =>
  rw[qC h2];refine uR ?_;exact zdt fun k=>h2 k.2.1
 rw[qD h2];refine uR ?_;by_cases h3:least≥1
 case neg =>
  rw[qC h3];refine uR ?_;exact zdt fun k=>h3 k.2.2.1
 rw[qD h3];refine uR ?_;by_cases h4:least≤300
 case neg =>
  rw[qC h4];refine uR ?_;exact zdt fun k=>h4 k.2.2.2.1
 rw[qD h4]
 repeat (first|refine RUN ?_|refine CV (hs) ?_|refine CE (hs) ?_)
 exact congrArg Value.bool (decide_eq_decide.2 ((zk6 g).trans ⟨fun k=>⟨h1,h2,h3,h4,k⟩,fun k=>k.2.2.2.2⟩))
inductive GD where
 | v (qs:List Rat)
 | c (C:Nat) (ls:List Int)
def GD.kd:GD→Int
 | .v _=>2
 | .c _ _=>1
def GD.cl:GD→Int
 | .v _=>0
 | .c C _=>C
def GD.cost:GD→List Int→Rat
 | .v qs=>zky qs
 | .c _ ls=>zkx ls
def GD.mean:GD→List Int→Rat
 | .v qs=>fun l=>zbP (atR qs l)
 | .c _ _=>fun _=>0
def GD.cnt:GD→List Int→List Int
 | .v _=>fun _=>[]
 | .c C ls=>fun l=>zdE C (atI ls l)
def GD.Ok (n:Nat):GD→Prop
 | .v qs=>qs.length=n∧zkm qs
 | .c C ls=>(1≤C∧C≤12)∧ls.length=n∧∀z,z∈ls→0≤z∧z<(C:Int)
def GD.R (H:Hp) (v:Value):GD→Prop
 | .v qs=>∃s,v=zbv 2 0 (.slice none 0 0) s∧RL H s qs
 | .c C ls=>∃s,v=zbv 1 C s (.slice none 0 0)∧IL H s ls
theorem GD.Ok.sm {n:Nat} {d:GD} (hd:d.Ok n):∀l:List Int,l.length≤300→(∀r,r∈l→0≤r∧r<(n:Int))→ht (d.mean l)≤4000∧ht (d.cost l)≤2000000:=by
 intro l hn hr
 cases d with
 | v qs =>
  obtain⟨rfl,hq⟩:=hd;have h2:=hq.small (m:=atR qs l) (fun q k=>zhC hr q k) (by rw[zd2];omega);show ht (zbP (atR qs l))≤4000∧ht (zky qs l)≤2000000;unfold zky;omega
 | c C ls =>
  have hsq:=zn0 (atI ls l);have hll:(atI ls l).length=l.length:=zfH ls l;rw[hll]at hsq;have hsq2:l.length*l.length≤300*300:=Nat.mul_le_mul hn hn;have hn2:=zdh (l.length:Int);have hn3:bl (l.length:Int).natAbs≤20:=zaU oM;have hs2:=zdh (sqL (atI ls l):Int);have hs3:bl (sqL (atI ls l):Int).natAbs≤20:=zaU oM;have hdv:=ziN ((sqL (atI ls l):Int):Rat) ((l.length:Int):Rat);have hsb:=zeo ((l.length:Int):Rat) (((sqL (atI ls l):Int):Rat) / ((l.length:Int):Rat));refine⟨by show ht (0:Rat)≤4000;rw[zck];decide,?_⟩;show ht (zkx ls l)≤2000000;unfold zkx ziB;rw[hll];omega
theorem GD.Ok.plain {n:Nat} {d:GD} (hd:d.Ok n):zkp d.kd d.cl n d.cost d.mean d.cnt:=by
 have hsm:=hd.sm
 cases d with
 | v qs =>
  obtain⟨rfl,hq⟩:=hd;exact⟨.inr ⟨rfl,rfl⟩,fun _=>rfl,fun _ _ _ _ k=>rfl,fun l c hc=>(by cases hc),fun e=>absurd e (by decide:¬(2:Int)=1),fun e=>absurd e (by decide:¬(2:Int)=1),fun l=>zjJ _ _,fun l hn hr=>(hsm l hn hr).2,fun l hn hr=>(hsm l hn hr).1⟩
 | c C ls =>
  obtain⟨hc,rfl,hlb⟩:=hd;refine⟨.inl ⟨rfl,by show (1:Int)≤(C:Int);omega,by show (C:Int)≤12;omega⟩,fun l=>by show ((zdE C (atI ls l)).length:Int)=(C:Int);rw[zbF],fun r l m hp k=>zoE C (by have:=hp.map (fun r:Int=>ls.getD r.toNat 0);rwa [qn]at this) k,fun l c hc=>?_,fun _ l hr=>?_,fun _ l=>rfl,fun l=>ziC _,fun l hn hr=>(hsm l hn hr).2,fun l hn hr=>(hsm l hn hr).1⟩
  ·obtain⟨k,_,rfl⟩:=List.mem_map.1 hc;omega
  ·show (zdE C (atI ls l)).sum=_;rw[zoF (fun z hz=>hlb z (zow hr z hz)),zfH]
def zcK (w:Nat):List Int:=(List.range w).map fun i:Nat=>(i:Int)
theorem zcx (w:Nat):(zcK w).length=w:=by simp[zcK]
theorem zfE (w:Nat):zcK (w+1)=zcK w++[(w:Int)]:=by simp[zcK,List.range_succ]
theorem zhM (x:Value):∀w:Nat,(List.replicate w [x]).flatten=List.replicate w x
 | 0=>rfl
 | w+1=>by rw[List.replicate_succ,List.flatten_cons,zhM x w,List.replicate_succ];rfl
theorem zp6 {w i:Nat} (h:i<w) (u:Nat):(zcK i).map iv++List.replicate (w-i) (Value.int .i64 0)=(zcK i).map iv++([Value.int .i64 0]++List.replicate (w-(i+1)) (Value.int .i64 0)):=by
 rw[show w-i=(w-(i+1))+1 by omega,List.replicate_succ];rfl
theorem zkp.gpAny {p:GP} {kd cl:Int} {w:Nat} (h:zkp kd cl p.X.length p.cost p.mean p.cnt) (hX:p.X.length≤300) (hx:∀x,x∈p.X→x.length=w∧∀q,q∈x→ht q≤60) (hg:0≤p.gain) (hc:∀s c,c∈(p.cols s).1→0≤c∧c<(w:Int)):zmA p kd cl w :=
 ⟨h.kind,hX,fun x k=>(hx x k).1,fun x k=>(hx x k).2,h.clen,h.cadd,h.cpos,h.csum,h.zero,h.cost0,h.csm,h.msm,hg,hc⟩
theorem zen {p:GP} {kd cl:Int} {w:Nat} (hp:zmA p kd cl w):∀(d k:Nat) (rows:List Int) (s:Int),1≤rows.length→(∀r,r∈rows→0≤r∧r<(p.X.length:Int))→(p.grow d k rows s).1.length+1≤2*rows.length
 | 0,k,rows,s,h1,hb=>by rw[GP.grow_zero];show 1+1≤_;omega
 | d+1,k,rows,s,h1,hb=>by
  cases h:p.cut rows (p.cols s).1 with
  | none=>rw[GP.grow_none h];show 1+1≤_;omega
  | some ct =>
   obtain⟨c,t⟩:=ct;obtain⟨_,_,hl,hh,hpm,_⟩:=ziE hp hb h;have hpl:=hpm.length_eq;rw[qJ]at hpl;have hlb:∀r,r∈za5 p.X c t rows→0≤r∧r<(p.X.length:Int):=fun r hr=>hb r (List.mem_filter.mp hr).1;have hhb:∀r,r∈zay p.X c t rows→0≤r∧r<(p.X.length:Int):=fun r hr=>hb r (List.mem_filter.mp hr).1;rw[GP.grow_some h];have h2:=zen hp d (k+1) (za5 p.X c t rows) (p.cols s).2 hl hlb;have h3:=zen hp d (k+1+(p.grow d (k+1) (za5 p.X c t rows) (p.cols s).2).1.length) (zay p.X c t rows) (p.grow d (k+1) (za5 p.X c t rows) (p.cols s).2).2 hh hhb;simp only[qR,qJ];omega
theorem zlF {p:GP} {kd cl:Int} {w D:Nat} (hp:zmA p kd cl w) (hw:1≤w∧w≤20) (hD:D≤10) {rows:List Int} (h1:1≤rows.length) (h2:rows.length≤300) (hb:∀r,r∈rows→0≤r∧r<(p.X.length:Int)) (s:Int):zbD ⟨kd,cl,w,(p.grow D 0 rows s).1⟩:=by
 obtain⟨h3,_,h4⟩:=zqj hp D 0 rows s h1 h2 hb (p.grow D 0 rows s).1 (fun j n hj=>by rw[qt];exact hj);have hl:=zen hp D 0 rows s h1 hb;rw[qt]at h3;exact⟨hp.kind,⟨by show (1:Int)≤w;omega,by show (w:Int)≤20;omega⟩,by show (p.grow D 0 rows s).1.length≤2000;omega,⟨D,by omega,h3⟩,fun i hi=>by have:=h4 i hi;rwa [qt]at this⟩
theorem zbD.smallN {t:Tr} (h:zbD t):∀n,n∈t.ns→zgW n:=fun n hn=>by
 obtain⟨i,hi⟩:=List.mem_iff_getElem?.1 hn;obtain⟨m,hm,ho,_⟩:=h.nodes i (qE.1 hi).1;cases hm.symm.trans hi;exact ho.smallN (by have:=h.kind;omega)
abbrev trP (d:GD) (X:List (List Rat)) (least:Int) (g:Rat) (cols:Int→List Int × Int):GP:=⟨X,d.cost,d.mean,d.cnt,least,g,cols⟩
theorem zrT {d:GD} {N W:Nat} {X:List (List Rat)} {least:Int} {g:Rat} {cols:Int→List Int × Int} (hd:d.Ok N) (hXN:X.length=N) (hN:N≤20) (hXw:∀x,x∈X→x.length=W∧∀q,q∈x→ht q≤60) (hg:0≤g) (hc:∀s c,c∈(cols s).1→0≤c∧c<(W:Int)):zmA (trP d X least g cols) d.kd d.cl W:=by
 subst hXN;exact zkp.gpAny (p:=trP d X least g cols) hd.plain (by show X.length≤300;omega) hXw hg hc
theorem zdD {w:Nat}:∀c,c∈zcK w→0≤c∧c<(w:Int):=fun c hc=>by
 obtain⟨i,hi,rfl⟩:=List.mem_map.1 hc;have:=List.mem_range.1 hi;omega
end
section
theorem zjD {X:List (List Rat)} {cost:List Int→Rat} {rs:List Int} {L:Int} {cols:List Int} {u:Int × Rat × Rat}:u∈zaD X cost rs L cols↔∃c t,c∈cols∧t∈plQ X c rs∧(L≤((za5 X c t rs).length:Int)∧L≤((zay X c t rs).length:Int))∧u=(c,t,cost rs-(cost (za5 X c t rs)+cost (zay X c t rs))):=by
 unfold zaD zbG;constructor
 ·intro h;obtain⟨c,hc,h⟩:=List.mem_flatMap.1 h;obtain⟨t,ht,h⟩:=List.mem_flatMap.1 h;split at h
  ·rename_i k;exact⟨c,t,hc,ht,k,pJ.1 h⟩
  ·cases h
 ·rintro⟨c,t,hc,ht,k,rfl⟩;refine List.mem_flatMap.2 ⟨c,hc,List.mem_flatMap.2 ⟨t,ht,?_⟩⟩;rw[if_pos k];exact pJ.2 rfl
end
section
open Go.RowKit _root_.Go.Proofs.Tryz
inductive zdg (T:List Nd) (x:List Rat):Nat→List Int→Prop
 | here {i:Nat} {n:Nd}:T[i]?=some n→n.col = -1→zdg T x i [(i:Int)]
 | low {i:Nat} {l:List Int} {n:Nd}:T[i]?=some n→n.col ≠ -1→x.getD n.col.toNat 0≤n.at'→zdg T x n.left.toNat l→zdg T x i ((i:Int)::l)
 | high {i:Nat} {l:List Int} {n:Nd}:T[i]?=some n→n.col ≠ -1→¬x.getD n.col.toNat 0≤n.at'→zdg T x n.right.toNat l→zdg T x i ((i:Int)::l)
theorem zdg.leaf {T:List Nd} {x:List Rat} {i:Nat} {l:List Int} (h:zdg T x i l):∃(j:Nat) (q:List Int),l=q++[(j:Int)]∧zjA T x i j:=by
 induction h with
 | here h1 h2=>exact⟨_,[],rfl,.here h1 h2⟩
 | @low i _ _ h1 h2 h3 _ ih=>obtain⟨j,q,rfl,h⟩:=ih;exact⟨j,(i:Int)::q,rfl,.low h1 h2 h3 h⟩
 | @high i _ _ h1 h2 h3 _ ih=>obtain⟨j,q,rfl,h⟩:=ih;exact⟨j,(i:Int)::q,rfl,.high h1 h2 h3 h⟩
end
section
def At (S:List Nd) (k:Nat) (L:List Nd):Prop:=∀(j:Nat) (n:Nd),L[j]?=some n→S[k+j]?=some n
theorem At.head {S L:List Nd} {k:Nat} {n:Nd} (h:At S k (n::L)):S[k]?=some n:=h 0 n rfl
theorem At.left {S A B:List Nd} {k:Nat} {n:Nd} (h:At S k (n::(A++B))):At S (k+1) A:=fun j m hj=>by
 have:=h (j+1) m (by rw[pL,qM (qE.1 hj).1];exact hj);rw[show k+1+j=k+(j+1) by omega];exact this
theorem At.right {S A B:List Nd} {k:Nat} {n:Nd} (h:At S k (n::(A++B))):At S (k+1+A.length) B:=fun j m hj=>by
 have:=h (j+A.length+1) m (by rw[pL,qL oM,Nat.add_sub_cancel];exact hj);rw[show k+1+A.length+j=k+(j+A.length+1) by omega];exact this
theorem At.self (L:List Nd):At L 0 L:=fun j n h=>by rw[qt];exact h
theorem zdg.one {T:List Nd} {x:List Rat} {i:Nat} {n:Nd} {l:List Int} (h:zdg T x i l) (hn:T[i]?=some n):(n.col = -1∧l=[(i:Int)])∨(n.col ≠ -1∧∃m,l=(i:Int)::m∧m≠[]∧((x.getD n.col.toNat 0≤n.at'∧zdg T x n.left.toNat m)∨(¬x.getD n.col.toNat 0≤n.at'∧zdg T x n.right.toNat m))):=by
 have hne:∀{j:Nat} {m:List Int},zdg T x j m→m≠[]:=fun h=>by cases h <;> simp
 cases h with
 | here h1 h2=>cases h1.symm.trans hn;exact .inl ⟨h2,rfl⟩
 | low h1 h2 h3 h4=>cases h1.symm.trans hn;exact .inr ⟨h2,_,rfl,hne h4,.inl ⟨h3,h4⟩⟩
 | high h1 h2 h3 h4=>cases h1.symm.trans hn;exact .inr ⟨h2,_,rfl,hne h4,.inr ⟨h3,h4⟩⟩
end
section
def GP.rowsAt (p:GP) (cols:List Int):Nat→List Int→List (List Int)
 | 0,rows=>[rows]
 | d+1,rows=>match p.cut rows cols with
  | none=>[rows]
  | some (c,t)=>rows::(p.rowsAt cols d (za5 p.X c t rows)++p.rowsAt cols d (zay p.X c t rows))
theorem GP.rowsAt_none {p:GP} {cols:List Int} {d:Nat} {rows:List Int} (h:p.cut rows cols=none):p.rowsAt cols (d+1) rows=[rows]:=by rw[GP.rowsAt,h]
theorem GP.rowsAt_some {p:GP} {cols:List Int} {d:Nat} {rows:List Int} {c:Int} {t:Rat} (h:p.cut rows cols=some (c,t)):p.rowsAt cols (d+1) rows=rows::(p.rowsAt cols d (za5 p.X c t rows)++p.rowsAt cols d (zay p.X c t rows)):=by rw[GP.rowsAt,h]
theorem zgr (p:GP) (cols:List Int) (d:Nat) (rows:List Int):∃L,p.rowsAt cols d rows=rows::L:=by
 cases d with
 | zero=>exact⟨[],rfl⟩
 | succ d =>
  cases h:p.cut rows cols with
  | none=>rw[GP.rowsAt_none h];exact⟨_,rfl⟩
  | some q=>obtain⟨c,t⟩:=q;rw[GP.rowsAt_some h];exact⟨_,rfl⟩
structure OfR (p:GP) (n:Nd) (R:List Int):Prop where
 rows:n.rows=(R.length:Int)
 cost:n.cost=p.cost R
 value:n.value=p.mean R
 cls:n.cls=(zeI (p.cnt R) (p.cnt R).length:Int)
 counts:n.counts=p.cnt R
theorem OfR.nd (p:GP) (R:List Int) (c l r:Int) (t:Rat):OfR p { p.nd R with col:=c,left:=l,right:=r,at':=t } R:=⟨rfl,rfl,rfl,rfl,rfl⟩
theorem zoG {p:GP} {rows cols:List Int} {c:Int} {t:Rat} (h:p.cut rows cols=some (c,t)):p.gain<p.cost rows-(p.cost (za5 p.X c t rows)+p.cost (zay p.X c t rows))∧p.least≤((za5 p.X c t rows).length:Int)∧p.least≤((zay p.X c t rows).length:Int):=by
 unfold GP.cut at h
 cases hbe:p.best rows cols with
 | none=>rw[hbe]at h;cases h
 | some q =>
  obtain⟨c',t',g⟩:=q;rw[hbe]at h;dsimp only at h;split at h
  ·cases h
  ·rename_i hg;cases h;have hf:=zdF (zaD p.X p.cost rows (max 1 p.least) cols);rw[show (zaD p.X p.cost rows (max 1 p.least) cols).foldl zgm none=some (c,t,g) from hbe]at hf;obtain⟨c2,t2,_,_,hL,e⟩:=zjD.1 hf.1;cases e;exact⟨Rat.not_le.1 hg,by omega,by omega⟩
structure zss (p:GP) (S:List Nd) (k:Nat) (L:List (List Int)) (w:Nat):Prop where
 node:∀(j:Nat) (R:List Int),L[j]?=some R→∃n,S[k+j]?=some n∧OfR p n R∧(∀r,r∈R→0≤r∧r<(p.X.length:Int))∧1≤R.length∧(n.col = -1∨(0≤n.col∧0≤n.left∧0≤n.right∧∃a b,S[n.left.toNat]?=some a∧S[n.right.toNat]?=some b∧p.gain<n.cost-a.cost-b.cost∧p.least≤a.rows∧p.least≤b.rows))
theorem zkG {p:GP} {kd cl:Int} {w:Nat} (hp:zmA p kd cl w) {cols:List Int} (hst:∀s,(p.cols s).1=cols) {S:List Nd}:∀(d k:Nat) (rows:List Int) (s:Int),1≤rows.length→(∀r,r∈rows→0≤r∧r<(p.X.length:Int))→At S k (p.grow d k rows s).1→(p.rowsAt cols d rows).length=(p.grow d k rows s).1.length∧zss p S k (p.rowsAt cols d rows) w:=by
 have single:∀(k:Nat) (rows:List Int),1≤rows.length→(∀r,r∈rows→0≤r∧r<(p.X.length:Int))→At S k [p.nd rows]→zss p S k [rows] w:=fun k rows h1 hb hS=>⟨fun j R hj=>by
  cases j with
  | zero=>cases hj;exact⟨_,hS.head,OfR.nd p rows (-1) 0 0 0,hb,h1,.inl rfl⟩
  | succ j=>cases hj⟩
 intro d
 induction d with
 | zero =>
  intro k rows s h1 hb hS;rw[GP.grow_zero]at hS ⊢;exact⟨rfl,single k rows h1 hb hS⟩
 | succ d ih =>
  intro k rows s h1 hb hS
  cases hc:p.cut rows (p.cols s).1 with
  | none =>
   rw[GP.grow_none hc]at hS ⊢;rw[GP.rowsAt_none (by rw[←hst s];exact hc)];exact⟨rfl,single k rows h1 hb hS⟩
  | some q =>
   obtain⟨c,t⟩:=q;obtain⟨hcw,_,hl1,hr1,hpm,_⟩:=ziE hp hb hc;obtain⟨hgn,hll,hlh⟩:=zoG hc;have hlo:∀r,r∈za5 p.X c t rows→0≤r∧r<(p.X.length:Int):=fun r hr=>hb r (List.mem_filter.mp hr).1;have hhi:∀r,r∈zay p.X c t rows→0≤r∧r<(p.X.length:Int):=fun r hr=>hb r (List.mem_filter.mp hr).1;rw[GP.grow_some hc]at hS ⊢;rw[GP.rowsAt_some (by rw[←hst s];exact hc)];dsimp only at hS ⊢;obtain⟨e1,f1⟩:=ih (k+1) _ (p.cols s).2 hl1 hlo hS.left;obtain⟨e2,f2⟩:=ih (k+1+(p.grow d (k+1) (za5 p.X c t rows) (p.cols s).2).1.length) _ (p.grow d (k+1) (za5 p.X c t rows) (p.cols s).2).2 hr1 hhi hS.right;refine⟨by simp only[qR,qJ];omega,⟨fun j R hj=>?_⟩⟩
   cases j with
   | zero =>
    cases hj;obtain⟨LA,ea⟩:=zgr p cols d (za5 p.X c t rows);obtain⟨LB,eb⟩:=zgr p cols d (zay p.X c t rows);obtain⟨a,ha,oa,_⟩:=f1.node 0 _ (by rw[ea];rfl);obtain⟨b,hb',ob,_⟩:=f2.node 0 _ (by rw[eb];rfl);rw[qY]at ha hb';refine⟨_,hS.head,OfR.nd p rows c _ _ t,hb,h1,.inr ⟨hcw.1,Int.natCast_nonneg _,Int.natCast_nonneg _,a,b,?_,?_,?_,?_,?_⟩⟩
    ·exact(congrArg (S[·]?) (qU _)).trans ha
    ·exact(congrArg (S[·]?) (qU _)).trans hb'
    ·rw[oa.cost,ob.cost];show p.gain<p.cost rows-p.cost (za5 p.X c t rows)-p.cost (zay p.X c t rows);grind
    ·rw[oa.rows];exact hll
    ·rw[ob.rows];exact hlh
   | succ j =>
    rw[pL]at hj;by_cases hjl:j<(p.rowsAt cols d (za5 p.X c t rows)).length
    ·rw[qM hjl]at hj;have:=f1.node j R hj;rw[show k+1+j=k+(j+1) by omega]at this;exact this
    ·rw[qL (by omega)]at hj;have:=f2.node _ R hj;rw[show k+1+(p.grow d (k+1) (za5 p.X c t rows) (p.cols s).2).1.length+(j-(p.rowsAt cols d (za5 p.X c t rows)).length)=k+(j+1) by omega]at this;exact this
theorem zns {p:GP} {kd cl:Int} {w:Nat} (hp:zmA p kd cl w) {S:List Nd} {x:List Rat}:∀(d k:Nat) (rows:List Int) (s:Int),(∀r,r∈rows→0≤r∧r<(p.X.length:Int))→At S k (p.grow d k rows s).1→∀l,zdg S x k l→∀z,z∈l→(k:Int)≤z∧z<((k+(p.grow d k rows s).1.length:Nat):Int):=by
 intro d
 induction d with
 | zero =>
  intro k rows s hb hS l hl z hz;rw[GP.grow_zero]at hS ⊢;rcases hl.one hS.head with ⟨_,rfl⟩ | ⟨h,_⟩
  ·have:=pJ.1 hz;show _∧z<((k+1:Nat):Int);omega
  ·exact absurd rfl h
 | succ d ih =>
  intro k rows s hb hS l hl z hz
  cases hc:p.cut rows (p.cols s).1 with
  | none =>
   rw[GP.grow_none hc]at hS ⊢;rcases hl.one hS.head with ⟨_,rfl⟩ | ⟨h,_⟩
   ·have:=pJ.1 hz;show _∧z<((k+1:Nat):Int);omega
   ·exact absurd rfl h
  | some q =>
   obtain⟨c,t⟩:=q;obtain⟨hcw,_⟩:=ziE hp hb hc;have hlo:∀r,r∈za5 p.X c t rows→0≤r∧r<(p.X.length:Int):=fun r hr=>hb r (List.mem_filter.mp hr).1;have hhi:∀r,r∈zay p.X c t rows→0≤r∧r<(p.X.length:Int):=fun r hr=>hb r (List.mem_filter.mp hr).1;rw[GP.grow_some hc]at hS ⊢;dsimp only at hS ⊢;simp only[qR,qJ];rcases hl.one hS.head with ⟨h,_⟩ | ⟨_,m,rfl,_,hm⟩
   ·have:c = -1:=h;omega
   ·rcases List.mem_cons.1 hz with rfl | hz
    ·omega
    ·dsimp only at hm;rcases hm with ⟨_,h2⟩ | ⟨_,h2⟩
     ·rw[qU]at h2;have:=ih _ _ _ hlo hS.left _ h2 z hz;omega
     ·rw[qU]at h2;have:=ih _ _ _ hhi hS.right _ h2 z hz;omega
theorem zmk {p:GP} {kd cl:Int} {w:Nat} (hp:zmA p kd cl w) {cols:List Int} (hst:∀s,(p.cols s).1=cols) {S:List Nd}:∀(d k:Nat) (rows:List Int) (s:Int),(∀r,r∈rows→0≤r∧r<(p.X.length:Int))→At S k (p.grow d k rows s).1→∀W:Int→List Int,(∀r,r∈rows→zdg S (p.X.getD r.toNat []) k (W r))→∀(j:Nat) (R:List Int),(p.rowsAt cols d rows)[j]?=some R→R=rows.filter fun r=>decide (((k+j:Nat):Int)∈W r):=by
 have root:∀{k:Nat} {rows:List Int} {W:Int→List Int},(∀r,r∈rows→zdg S (p.X.getD r.toNat []) k (W r))→rows=rows.filter fun r=>decide (((k+0:Nat):Int)∈W r):=fun {k rows W} h=>(List.filter_eq_self.2 fun r hr=>by
  have:=h r hr;rw[qY];generalize W r=l at this ⊢;cases this <;> simp).symm
 intro d
 induction d with
 | zero =>
  intro k rows s hb hS W hW j R hj
  cases j with
  | zero=>cases hj;exact root hW
  | succ j=>cases hj
 | succ d ih =>
  intro k rows s hb hS W hW j R hj
  cases hc:p.cut rows (p.cols s).1 with
  | none =>
   rw[GP.rowsAt_none (by rw[←hst s];exact hc)]at hj
   cases j with
   | zero=>cases hj;exact root hW
   | succ j=>cases hj
  | some q =>
   obtain⟨c,t⟩:=q;obtain⟨hcw,_,hl1,hr1,_,_⟩:=ziE hp hb hc;have hlo:∀r,r∈za5 p.X c t rows→0≤r∧r<(p.X.length:Int):=fun r hr=>hb r (List.mem_filter.mp hr).1;have hhi:∀r,r∈zay p.X c t rows→0≤r∧r<(p.X.length:Int):=fun r hr=>hb r (List.mem_filter.mp hr).1;rw[GP.grow_some hc]at hS;rw[GP.rowsAt_some (by rw[←hst s];exact hc)]at hj;dsimp only at hS
   cases j with
   | zero=>cases hj;exact root hW
   | succ j =>
    rw[pL]at hj
    have hhas:∀r,r∈rows→zfp p.X c r=true:=fun r hr=>by
     obtain⟨R,rfl⟩:=qh (hb r hr).1;have hR:=(hb _ hr).2;unfold zfp;obtain⟨x,hx⟩:∃x,p.X[R]?=some x:=⟨_,qA oM⟩;rw[qU,qB,hx,Option.getD_some,hp.wide x (qF hx)];simp;omega
    have hsplit:∀r,r∈rows→∃m,W r=(k:Int)::m∧((zdn p.X c r≤t∧zdg S (p.X.getD r.toNat []) (k+1) m)∨(¬zdn p.X c r≤t∧zdg S (p.X.getD r.toNat []) (k+1+(p.grow d (k+1) (za5 p.X c t rows) (p.cols s).2).1.length) m)):=fun r hr=>by
     rcases (hW r hr).one hS.head with ⟨h,_⟩ | ⟨_,m,e,_,hm⟩
     ·have:c = -1:=h;omega
     ·refine⟨m,e,?_⟩;dsimp only at hm;rw[qU,qU]at hm;exact hm
    have hlW:∀r,r∈za5 p.X c t rows→zdg S (p.X.getD r.toNat []) (k+1) ((W r).tail):=fun r hr=>by
     obtain⟨h1,h2⟩:=List.mem_filter.1 hr;obtain⟨m,e,hm⟩:=hsplit r h1;rw[hhas r h1,Bool.true_and]at h2;rw[e];exact(hm.resolve_right fun k=>k.1 (of_decide_eq_true h2)).2
    have hhW:∀r,r∈zay p.X c t rows→zdg S (p.X.getD r.toNat []) (k+1+(p.grow d (k+1) (za5 p.X c t rows) (p.cols s).2).1.length) ((W r).tail):=fun r hr=>by
     obtain⟨h1,h2⟩:=List.mem_filter.1 hr;obtain⟨m,e,hm⟩:=hsplit r h1;rw[hhas r h1,Bool.true_and]at h2;rw[e];refine(hm.resolve_left fun k=>?_).2;rw[qD k.1]at h2;cases h2
    have hlen:=(zkG hp hst (S:=S) d (k+1) _ (p.cols s).2 hl1 hlo hS.left).1;by_cases hjl:j<(p.rowsAt cols d (za5 p.X c t rows)).length
    ·rw[qM hjl]at hj;rw[ih _ _ _ hlo hS.left _ hlW j R hj];unfold za5;rw[List.filter_filter];refine List.filter_congr fun r hr=>?_;obtain⟨m,e,hm⟩:=hsplit r hr;rw[hhas r hr,e,Bool.true_and,List.tail_cons];have hne:((k+(j+1):Nat):Int)≠(k:Int):=oM;rcases hm with ⟨h1,h2⟩ | ⟨h1,h2⟩
     ·rw[qD h1,Bool.and_true,show k+1+j=k+(j+1) by omega];exact decide_eq_decide.2 ⟨fun h=>qk _ h,fun h=>(List.mem_cons.1 h).resolve_left hne⟩
     ·rw[qC h1,Bool.and_false];refine(qC fun h=>?_).symm;have:=zns hp d _ _ _ hhi hS.right m h2 _ ((List.mem_cons.1 h).resolve_left hne);omega
    ·rw[qL (by omega)]at hj;rw[ih _ _ _ hhi hS.right _ hhW _ R hj];unfold zay;rw[List.filter_filter];refine List.filter_congr fun r hr=>?_;obtain⟨m,e,hm⟩:=hsplit r hr;rw[hhas r hr,e,Bool.true_and,List.tail_cons];have hne:((k+(j+1):Nat):Int)≠(k:Int):=oM;rcases hm with ⟨h1,h2⟩ | ⟨h1,h2⟩
     ·rw[qD h1,Bool.not_true,Bool.and_false];refine(qC fun h=>?_).symm;have:=zns hp d _ _ _ hlo hS.left m h2 _ ((List.mem_cons.1 h).resolve_left hne);omega
     ·rw[qC h1,Bool.not_false,Bool.and_true,show k+1+(p.grow d (k+1) (za5 p.X c t rows) (p.cols s).2).1.length+(j-(p.rowsAt cols d (za5 p.X c t rows)).length)=k+(j+1) by omega];exact decide_eq_decide.2 ⟨fun h=>qk _ h,fun h=>(List.mem_cons.1 h).resolve_left hne⟩
theorem Sub.path {T:List Nd} {w:Int} (x:List Rat) {k h e:Nat} (hs:Sub T w k h e):∃l,zdg T x k l:=by
 induction hs with
 | leaf h1 h2 _ _ _=>exact⟨_,.here h1 h2⟩
 | @node k h m e n h1 h2 h3 h4 h5 _ _ ih1 ih2 =>
  obtain⟨l1,q1⟩:=ih1;obtain⟨l2,q2⟩:=ih2;by_cases hc:x.getD n.col.toNat 0≤n.at'
  ·exact⟨_,.low h1 oM hc (by rw[h4,qU];exact q1)⟩
  ·exact⟨_,.high h1 oM hc (by rw[h5,qU];exact q2)⟩
theorem zdg.det {T:List Nd} {x:List Rat} {i:Nat} {l:List Int} (h:zdg T x i l):∀{m:List Int},zdg T x i m→l=m:=by
 induction h with
 | here h1 h2 =>
  intro m hm;rcases hm.one h1 with ⟨_,rfl⟩ | ⟨k,_⟩
  ·rfl
  ·exact absurd h2 k
 | low h1 h2 h3 _ ih =>
  intro m hm;rcases hm.one h1 with ⟨k,_⟩ | ⟨_,m',rfl,_,⟨_,k⟩ | ⟨k,_⟩⟩
  ·exact absurd k h2
  ·rw[ih k]
  ·exact absurd h3 k
 | high h1 h2 h3 _ ih =>
  intro m hm;rcases hm.one h1 with ⟨k,_⟩ | ⟨_,m',rfl,_,⟨k,_⟩ | ⟨_,k⟩⟩
  ·exact absurd k h2
  ·exact absurd k h3
  ·rw[ih k]
end
section
def zgV (a:Rat) (n:Nat):Nat:=(List.range n).findIdx fun k=>decide (a*((n:Int):Rat)≤(((k+1:Nat):Int):Rat))
def zjQ (a:Rat) (l:List Rat):Rat:=(zb1 l).getD (zgV a l.length) 0
def zoo (loss:Int) (a:Rat) (l:List Rat):Rat:=if loss=1 then zbP l else zjQ a l
theorem zfu {a:Rat} {n:Nat} (ha:a<1) (hn:1≤n):zgV a n<n:=by
 unfold zgV
 have:=List.findIdx_lt_length_of_exists (xs:=List.range n) (p:=fun k=>decide (a*((n:Int):Rat)≤(((k+1:Nat):Int):Rat))) ⟨n-1,List.mem_range.2 oM,qD (by
  rw[show n-1+1=n by omega];have h0:(0:Rat)≤((n:Int):Rat):=Rat.intCast_nonneg.2 oM;have:=Rat.mul_le_mul_of_nonneg_right (Rat.le_of_lt ha) h0
  rwa [Rat.one_mul]at this)⟩
 rwa [List.length_range]at this
theorem zih {a:Rat} {n:Nat} (ha:a<1) (hn:1≤n):a*((n:Int):Rat)≤(((zgV a n+1:Nat):Int):Rat):=by
 have h:=zfu ha hn;have:=List.findIdx_getElem (xs:=List.range n) (p:=fun k=>decide (a*((n:Int):Rat)≤(((k+1:Nat):Int):Rat))) (w:=by rw[List.length_range];exact h);rw[List.getElem_range]at this;exact of_decide_eq_true this
theorem zgz {a:Rat} {n k:Nat} (hk:k<zgV a n):¬a*((n:Int):Rat)≤(((k+1:Nat):Int):Rat):=fun h=>by
 have h1:zgV a n≤(List.range n).length:=List.findIdx_le_length;rw[List.length_range]at h1;have:=List.not_of_lt_findIdx (xs:=List.range n) (p:=fun k=>decide (a*((n:Int):Rat)≤(((k+1:Nat):Int):Rat))) hk;rw[List.getElem_range]at this;rw[qD h]at this;cases this
theorem zlb {a:Rat} {n k:Nat} (ha:a<1) (hn:1≤n) (h1:a*((n:Int):Rat)≤(((k+1:Nat):Int):Rat)) (h2:∀j,j<k→¬a*((n:Int):Rat)≤(((j+1:Nat):Int):Rat)):k=zgV a n:=by
 rcases Nat.lt_trichotomy k (zgV a n) with h | h | h
 ·exact absurd h1 (zgz h)
 ·exact h
 ·exact absurd (zih ha hn) (h2 _ h)
theorem zhV {a:Rat} {l:List Rat} (ha:a<1) (hl:1≤l.length):zjQ a l∈l:=by
 have h:=zfu ha hl;have hs:=(zbT l).length_eq;unfold zjQ;rw[qB,qA oM,Option.getD_some];exact(zbT l).mem_iff.1 (List.getElem_mem _)
structure BG where
 loss:Int
 rate:Rat
 tilt:Rat
 X:List (List Rat)
 W:Nat
 D:Nat
 least:Int
 gain:Rat
structure BG.Ok (b:BG):Prop where
 loss:b.loss=1∨b.loss=2
 rate:0<b.rate∧b.rate≤1
 one:b.loss=1→b.tilt=0
 two:b.loss=2→0<b.tilt∧b.tilt<1
 den:b.rate.den≤4∧ht b.tilt≤10
 rows:1≤b.X.length∧b.X.length≤8
 wide:1≤b.W∧b.W≤20
 each:∀x,x∈b.X→x.length=b.W∧∀q,q∈x→ht q≤60
 deep:b.D≤10
 least:1≤b.least∧b.least≤300
 gain:0≤b.gain∧ht b.gain≤10
def BG.mid (b:BG) (l:List Rat):Rat:=zoo b.loss b.tilt l
def BG.goal (b:BG) (left:List Rat):List Rat:=if b.loss=1 then left else left.map fun t=>if 0<t then b.tilt else if t=0 then 0 else b.tilt-1
theorem BG.goal_len (b:BG) (left:List Rat):(b.goal left).length=left.length:=by
 unfold BG.goal;split
 ·rfl
 ·exact qV ..
abbrev BG.gp (b:BG) (left:List Rat):GP:=trP (.v (b.goal left)) b.X b.least b.gain fun s=>(zcK b.W,s)
def BG.raw (b:BG) (left:List Rat):List Nd:=((b.gp left).grow b.D 0 (zcK b.X.length) 0).1
noncomputable def zle (ns:List Nd) (x:List Rat):List Int:=Classical.epsilon (zdg ns x 0)
theorem zof {ns:List Nd} {x:List Rat} {l:List Int} (h:zdg ns x 0 l):zle ns x=l:=(Classical.epsilon_spec (p:=zdg ns x 0) ⟨l,h⟩).det h
noncomputable def BG.part (b:BG) (left:List Rat) (ns:List Nd) (j:Nat):List Rat:=atR left ((zcK b.X.length).filter fun r=>decide ((j:Int)∈zle ns (b.X.getD r.toNat [])))
def zr8 (n:Nd) (v:Rat):Nd:={ n with value:=v }
noncomputable def BG.midsTo (b:BG) (left:List Rat) (ns:List Nd) (k:Nat):List Nd:=ns.mapIdx fun j n=>if j<k then zr8 n (zjQ b.tilt (b.part left ns j)) else n
noncomputable def BG.mids (b:BG) (left:List Rat) (ns:List Nd):List Nd:=b.midsTo left ns ns.length
noncomputable def BG.nodes (b:BG) (left:List Rat):List Nd:=if b.loss=1 then b.raw left else b.mids left (b.raw left)
noncomputable def BG.tree (b:BG) (left:List Rat):Tr:=⟨2,0,(b.W:Int),b.nodes left⟩
noncomputable def BG.next (b:BG) (left:List Rat):List Rat:=List.zipWith (fun x q=>q-b.rate*(zc3 x (b.tree left)).value) b.X left
noncomputable def BG.fit (b:BG) (y:List Rat):Nat→List Tr × List Rat
 | 0=>([],y.map fun q=>q-b.mid y)
 | k+1=>((b.fit y k).1++[b.tree (b.fit y k).2],b.next (b.fit y k).2)
noncomputable def zcu (base rate:Rat) (ts:List Tr) (x:List Rat):Rat:=base+rate*zaR (vL x ts)
theorem zrb (x:List Rat) (ts:List Tr) (t:Tr):vL x (ts++[t])=vL x ts++[(zc3 x t).value]:=by unfold vL;rw[qn];rfl
theorem zhB (base rate:Rat) (x:List Rat):zcu base rate [] x=base:=by
 unfold zcu;rw[show vL x []=[] from rfl,zft,Rat.mul_zero,Rat.add_zero]
theorem zfF (base rate:Rat) (ts:List Tr) (t:Tr) (x:List Rat):zcu base rate (ts++[t]) x=zcu base rate ts x+rate*(zc3 x t).value:=by
 unfold zcu;rw[zrb,zbh];grind
theorem zbU {α β γ:Type} {f:α→β→γ} {l:List α} {m:List β} {i:Nat} {a:α} {b:β} (h1:l[i]?=some a) (h2:m[i]?=some b):(List.zipWith f l m)[i]?=some (f a b):=by
 rw[List.getElem?_zipWith,h1,h2]
theorem BG.fit_left (b:BG) (y:List Rat) (hy:y.length=b.X.length) (k:Nat):(b.fit y k).2=List.zipWith (fun x q=>q-zcu (b.mid y) b.rate (b.fit y k).1 x) b.X y:=by
 induction k with
 | zero =>
  show (y.map fun q=>q-b.mid y)=List.zipWith (fun x q=>q-zcu (b.mid y) b.rate [] x) b.X y;refine List.ext_getElem? fun i=>?_;by_cases hi:i<y.length
  ·rw[zbU (qA (show i<b.X.length by omega)) (qA hi),qK,qA hi,zhB];rfl
  ·rw[qe (by rw[qV];omega),qe (by rw[List.length_zipWith];omega)]
 | succ k ih =>
  show List.zipWith (fun x q=>q-b.rate*(zc3 x (b.tree (b.fit y k).2)).value) b.X (b.fit y k).2=List.zipWith (fun x q=>q-zcu (b.mid y) b.rate ((b.fit y k).1++[b.tree (b.fit y k).2]) x) b.X y;generalize b.tree (b.fit y k).2=t;rw[ih];generalize (b.fit y k).1=ts;refine List.ext_getElem? fun i=>?_;by_cases hi:i<y.length
  ·have h1:=qA (show i<b.X.length by omega);have h2:=qA hi;rw[zbU h1 (zbU h1 h2),zbU h1 h2,zfF];congr 1;grind
  ·rw[qe (by rw[List.length_zipWith,List.length_zipWith];omega),qe (by rw[List.length_zipWith];omega)]
theorem BG.fit_len (b:BG) (y:List Rat) (hy:y.length=b.X.length) (k:Nat):(b.fit y k).2.length=b.X.length∧(b.fit y k).1.length=k:=by
 induction k with
 | zero=>exact⟨by show (y.map _).length=_;rw[qV];exact hy,rfl⟩
 | succ k ih =>
  refine⟨?_,?_⟩
  ·show (b.next (b.fit y k).2).length=_;unfold BG.next;rw[List.length_zipWith];omega
  ·show ((b.fit y k).1++[_]).length=_;rw[qJ,ih.2];rfl
structure zcw (T T':List Nd):Prop where
 len:T'.length=T.length
 node:∀(j:Nat) (n:Nd),T[j]?=some n→∃v,T'[j]?=some (zr8 n v)
theorem zcw.refl (T:List Nd):zcw T T:=⟨rfl,fun j n h=>⟨n.value,h⟩⟩
theorem zcw.symm {T T':List Nd} (h:zcw T T'):zcw T' T:=⟨h.len.symm,fun j n hj=>by
 have hl:=(qE.1 hj).1;have h1:=qA (l:=T) (i:=j) (by have:=h.len;omega);obtain⟨v,e⟩:=h.node j _ h1;rw[e]at hj;cases hj;exact⟨_,h1⟩⟩
theorem zcw.sub {T T':List Nd} (h:zcw T T') {w:Int} {k hh e:Nat} (s:Sub T w k hh e):Sub T' w k hh e:=by
 induction s with
 | leaf a b c d f =>
  obtain⟨v,q⟩:=h.node _ _ a;exact .leaf q b c d f
 | node a b c d f _ _ ih1 ih2 =>
  obtain⟨v,q⟩:=h.node _ _ a;exact .node q b c d f ih1 ih2
theorem zcw.path {T T':List Nd} (h:zcw T T') {x:List Rat} {k:Nat} {l:List Int} (s:zdg T x k l):zdg T' x k l:=by
 induction s with
 | here a b =>
  obtain⟨v,q⟩:=h.node _ _ a;exact .here q b
 | low a b c _ ih =>
  obtain⟨v,q⟩:=h.node _ _ a;exact .low q b c ih
 | high a b c _ ih =>
  obtain⟨v,q⟩:=h.node _ _ a;exact .high q b c ih
theorem zcw.ok {T T':List Nd} (h:zcw T T') {w:Int} (ht':zbD ⟨2,0,w,T⟩) (hv:∀n,n∈T'→ht n.value≤4000):zbD ⟨2,0,w,T'⟩:=by
 obtain⟨h1,h2,h3,⟨hh,h4,h5⟩,h6⟩:=ht';dsimp only at h3 h5 h6;refine⟨h1,h2,by have:=h.len;dsimp only;omega,⟨hh,h4,by dsimp only;rw[h.len];exact h.sub h5⟩,fun i hi=>?_⟩;dsimp only at hi ⊢;obtain⟨n,e,o,c⟩:=h6 i (by have:=h.len;omega);obtain⟨v,q⟩:=h.node _ _ e;refine⟨_,q,⟨o.rows,o.cost,o.len,o.pos,o.sum,o.cls,fun k=>absurd k (by decide),o.small.1,o.small.2.1,hv _ (qF q)⟩,fun k=>?_⟩;obtain⟨k1,k2,k3,a,b',q1,q2,q3⟩:=c k;obtain⟨v1,e1⟩:=h.node _ _ q1;obtain⟨v2,e2⟩:=h.node _ _ q2;exact⟨k1,k2,k3,_,_,e1,e2,⟨q3.rows,q3.counts,q3.cost⟩⟩
theorem zby (b:BG) (left:List Rat) (ns:List Nd) (k j:Nat):(b.midsTo left ns k)[j]?=ns[j]?.map fun n=>if j<k then zr8 n (zjQ b.tilt (b.part left ns j)) else n:=List.getElem?_mapIdx
theorem zhb (b:BG) (left:List Rat) (ns:List Nd) (k:Nat):(b.midsTo left ns k).length=ns.length:=List.length_mapIdx
theorem zjR (b:BG) (left:List Rat) (ns:List Nd):b.midsTo left ns 0=ns:=by
 refine List.ext_getElem? fun j=>?_;rw[zby];cases ns[j]? <;> rfl
theorem zer (b:BG) (left:List Rat) (ns:List Nd) (k:Nat):zcw ns (b.midsTo left ns k):=⟨zhb ..,fun j n h=>by
 rw[zby,h];by_cases hj:j<k
 ·exact⟨_,by rw[Option.map_some,if_pos hj]⟩
 ·exact⟨n.value,by rw[Option.map_some,if_neg hj];rfl⟩⟩
theorem zlL (b:BG) (left:List Rat) {ns:List Nd} {k:Nat} {n:Nd} (h:(b.midsTo left ns k)[k]?=some n):(b.midsTo left ns k).set k (zr8 n (zjQ b.tilt (b.part left ns k)))=b.midsTo left ns (k+1):=by
 have hk:=(qE.1 h).1;refine List.ext_getElem? fun j=>?_;rw[List.getElem?_set];by_cases e:k=j
 ·subst e;rw[if_pos rfl,if_pos hk,zby];rw[zby]at h
  cases hn:ns[k]? with
  | none=>rw[hn]at h;cases h
  | some m =>
   rw[hn,Option.map_some,if_neg (Nat.lt_irrefl k)]at h;cases h;rw[Option.map_some,if_pos (Nat.lt_succ_self k)]
 ·rw[if_neg e,zby,zby]
  cases ns[j]? with
  | none=>rfl
  | some m =>
   rw[Option.map_some,Option.map_some];by_cases h1:j<k
   ·rw[if_pos h1,if_pos (by omega)]
   ·rw[if_neg h1,if_neg (by omega)]
theorem zpH:∀n:Nat,1≤n→n≤8→n ∣ 840:=fun n h1 h2=>by
 have h:∀m:Fin 9,m.val≠0→m.val ∣ 840:=by decide
 exact h ⟨n,by omega⟩ (by show n≠0;omega)
section
variable {b:BG} (hb:b.Ok)
include hb
theorem BG.Ok.goal_grid {left:List Rat} (hl:zkm left):zkm (b.goal left):=by
 unfold BG.goal;by_cases h:b.loss=1
 ·rw[if_pos h];exact hl
 rw[if_neg h];obtain⟨h0,h1⟩:=hb.two (hb.loss.resolve_left h);have hd:=zaV b.tilt;have h10:=hb.den.2;have hdn:=b.tilt.den_nz
 have hg:Gr b.tilt.den 2 b.tilt:=by
  refine Gr.ofDen (Nat.dvd_refl _) ?_;have e:=zj5 b.tilt;have h2:(0:Rat)<(((b.tilt.den:Nat):Int):Rat):=Rat.intCast_pos.2 oM;have h3:=Rat.mul_lt_mul_of_pos_right h1 h2;rw[e,Rat.one_mul]at h3;have h4:b.tilt.num<(b.tilt.den:Int):=Rat.intCast_lt_intCast.1 h3;have h5:0<b.tilt.num:=zhW.2 h0;omega
 have h1':Gr b.tilt.den 1 1:=Gr.ofDen (q:=1) (Nat.one_dvd _) (by decide);refine⟨b.tilt.den,3,by omega,by omega,?_,fun q hq=>?_⟩
 ·have:=za8 3 b.tilt.den;have h3:bl 3≤2:=zaU (by decide);omega
 ·obtain⟨t,_,rfl⟩:=List.mem_map.1 hq;split
  ·exact hg.mono oM
  split
  ·exact Gr.zero _ _
  ·exact hg.sub h1'
theorem BG.Ok.gd {left:List Rat} (hl:zkm left) (hn:left.length=b.X.length):GD.Ok b.X.length (.v (b.goal left)):=⟨by rw[BG.goal_len];exact hn,hb.goal_grid hl⟩
theorem BG.Ok.gp {left:List Rat} (hl:zkm left) (hn:left.length=b.X.length):zmA (b.gp left) 2 0 b.W :=
 zrT (d:=.v (b.goal left)) (hb.gd hl hn) rfl (by have:=hb.rows;omega) hb.each hb.gain.1 fun _=>zdD
theorem BG.Ok.raw {left:List Rat} (hl:zkm left) (hn:left.length=b.X.length):zbD ⟨2,0,(b.W:Int),b.raw left⟩∧1≤(b.raw left).length∧(b.raw left).length≤15:=by
 have h1:=hb.rows;have hal:=zcx b.X.length;refine⟨zlF (hb.gp hl hn) hb.wide hb.deep (rows:=zcK b.X.length) (show 1≤(zcK b.X.length).length by omega) (show (zcK b.X.length).length≤300 by omega) zdD 0,(GP.grow_len _ _ _ _ _).1,?_⟩;have:=zen (hb.gp hl hn) b.D 0 (zcK b.X.length) 0 oM zdD;unfold BG.raw;omega
theorem BG.Ok.part {left:List Rat} (hl:zkm left) (hn:left.length=b.X.length) {j:Nat} {n:Nd} (h:(b.raw left)[j]?=some n):(∀q,q∈b.part left (b.raw left) j→q∈left)∧1≤(b.part left (b.raw left) j).length∧(b.part left (b.raw left) j).length≤8∧n.value=zbP (atR (b.goal left) ((zcK b.X.length).filter fun r=>decide ((j:Int)∈zle (b.raw left) (b.X.getD r.toNat [])))):=by
 obtain⟨hok,_,_⟩:=hb.raw hl hn;obtain⟨hh,_,hsub⟩:=hok.sub;dsimp only at hsub;have h8:=hb.rows;have hal:=zcx b.X.length;obtain⟨e1,f1⟩:=zkG (hb.gp hl hn) (cols:=zcK b.W) (fun _=>rfl) (S:=b.raw left) b.D 0 (zcK b.X.length) 0 oM zdD (At.self _);have hjl:=(qE.1 h).1;obtain⟨R,hR⟩:∃R,((b.gp left).rowsAt (zcK b.W) b.D (zcK b.X.length))[j]?=some R:=⟨_,qA (by rw[e1];exact hjl)⟩
 have hw:=zmk (hb.gp hl hn) (cols:=zcK b.W) (fun _=>rfl) (S:=b.raw left) b.D 0 (zcK b.X.length) 0 zdD (At.self _) (fun r=>zle (b.raw left) (b.X.getD r.toNat [])) (fun r _=>by
  obtain⟨l,hl'⟩:=hsub.path (b.X.getD r.toNat []);have:=zof hl';rw[this];exact hl') j R hR
 obtain⟨n',hn',ho,hRb,hR1,_⟩:=f1.node j R hR;rw[qt]at hn' hw;cases h.symm.trans hn';unfold BG.part;rw[←hw]
 have hRl:R.length≤b.X.length:=by
  have:=List.length_filter_le (fun r=>decide ((j:Int)∈zle (b.raw left) (b.X.getD r.toNat []))) (zcK b.X.length);rw[hw];omega
 refine⟨zhC fun r hr=>?_,by rw[zd2];exact hR1,by rw[zd2];omega,ho.value⟩;have:=hRb r hr;rw[hn];exact this
theorem BG.Ok.rd:Gr b.rate.den 1 b.rate:=by
 refine Gr.ofDen (Nat.dvd_refl _) ?_;have e:=zj5 b.rate;have hdn:=b.rate.den_nz;have h2:(0:Rat)≤(((b.rate.den:Nat):Int):Rat):=Rat.intCast_nonneg.2 oM;have h3:=Rat.mul_le_mul_of_nonneg_right hb.rate.2 h2;rw[e,Rat.one_mul]at h3;have h4:b.rate.num≤(b.rate.den:Int):=Rat.intCast_le_intCast.1 h3;have h5:0<b.rate.num:=zhW.2 hb.rate.1;omega
theorem BG.Ok.nodes_gr {left:List Rat} {D A:Nat} (hD:1≤D) (hA:1≤A) (hbl:bl (A*D)≤95) (hq:∀q,q∈left→Gr D A q) (hn:left.length=b.X.length):∀n,n∈b.nodes left→Gr (D*840) A n.value:=by
 have hg:zkm left:=⟨D,A,hD,hA,hbl,hq⟩;intro n hm;unfold BG.nodes at hm;by_cases h:b.loss=1
 ·rw[if_pos h]at hm;obtain⟨j,hj⟩:=List.mem_iff_getElem?.1 hm;obtain⟨p1,p2,p3,p4⟩:=hb.part hg hn hj;rw[p4,show b.goal left=left from if_pos h];exact Gr.meanK (fun q k=>hq q (p1 q k)) (zpH _ p2 p3)
 ·rw[if_neg h]at hm;obtain⟨j,hj⟩:=List.mem_iff_getElem?.1 hm;unfold BG.mids at hj;rw[zby]at hj
  cases hn':(b.raw left)[j]? with
  | none=>rw[hn']at hj;cases hj
  | some m =>
   have hjl:=(qE.1 hn').1;rw[hn',Option.map_some,if_pos hjl]at hj;cases hj;obtain⟨p1,p2,p3,_⟩:=hb.part hg hn hn';exact(hq _ (p1 _ (zhV (hb.two (hb.loss.resolve_left h)).2 p2))).up 840
omit hb in
theorem BG.nodes_alikeV (b:BG) (left:List Rat):zcw (b.raw left) (b.nodes left):=by
 unfold BG.nodes;split
 ·exact zcw.refl _
 ·exact zer ..
structure zcJ (w:Nat) (t:Tr):Prop where
 ok:zbD t
 kd:t.kd=2
 cl:t.cl=0
 wide:t.w=(w:Int)
 len:1≤t.ns.length∧t.ns.length≤15
 small:∀n,n∈t.ns→ht n.value≤105
theorem BG.Ok.tree {left:List Rat} {D A:Nat} (hD:1≤D) (hA:1≤A) (hbl:bl (A*D)≤95) (hq:∀q,q∈left→Gr D A q) (hn:left.length=b.X.length):zcJ b.W (b.tree left):=by
 have hg:zkm left:=⟨D,A,hD,hA,hbl,hq⟩;obtain⟨h1,h2,h3⟩:=hb.raw hg hn;have ha:=b.nodes_alikeV left;have hv:=hb.nodes_gr hD hA hbl hq hn
 have hs:∀n,n∈b.nodes left→ht n.value≤105:=fun n k=>by
  refine qI ((hv n k).bits oM hA) ?_;rw[←Nat.mul_assoc];have h4:=za8 (A*D) 840;have h5:bl 840≤10:=zaU (by decide);omega
 exact⟨ha.ok h1 fun n k=>qI (hs n k) oM,rfl,rfl,rfl,by have:=ha.len;show 1≤(b.nodes left).length∧(b.nodes left).length≤15;omega,hs⟩
theorem BG.Ok.next {left:List Rat} {D A:Nat} (hD:1≤D) (hA:1≤A) (hbl:bl (A*D)≤95) (hq:∀q,q∈left→Gr D A q) (hn:left.length=b.X.length):∀q,q∈b.next left→Gr (D*(840*b.rate.den)) (2*A) q:=by
 have ht:=hb.tree hD hA hbl hq hn;have hv:=hb.nodes_gr hD hA hbl hq hn;intro q hm;obtain⟨i,hi⟩:=List.mem_iff_getElem?.1 hm;unfold BG.next at hi;rw[List.getElem?_zipWith]at hi
 cases hx:b.X[i]? with
 | none=>rw[hx]at hi;cases hi
 | some x =>
  cases hl:left[i]? with
  | none=>rw[hx,hl]at hi;cases hi
  | some p =>
   rw[hx,hl]at hi;cases hi;obtain⟨j,_,_,hj,_⟩:=zhR ht.ok x;have h1:=hq p (qF hl);have h2:=hb.rd.mul (hv _ (qF hj))
   have h3:=(h1.up (840*b.rate.den)).sub (B:=A) (by
    rw[show D*(840*b.rate.den)=b.rate.den*(D*840) by rw[qW b.rate.den,Nat.mul_assoc]]
    rwa [Nat.one_mul]at h2)
   rwa [show 2*A=A+A by omega]
theorem BG.Ok.mid_gr {y:List Rat} {D A:Nat} (hq:∀q,q∈y→Gr D A q) (hn:y.length=b.X.length):Gr (D*840) A (b.mid y):=by
 have h8:=hb.rows;unfold BG.mid zoo;by_cases h:b.loss=1
 ·rw[if_pos h];exact Gr.meanK hq (zpH _ oM oM)
 ·rw[if_neg h];exact(hq _ (zhV (hb.two (hb.loss.resolve_left h)).2 oM)).up 840
omit hb in
theorem zpy {D A K r k:Nat} (hr:r≠0) (hbl:bl ((2*A*2 ^ K)*(D*840*(840*r) ^ K))≤95) (hk:k≤K):bl ((2*A*2 ^ k)*(D*840*(840*r) ^ k))≤95:=qI (zaW (Nat.mul_le_mul (qb _ (qc oM hk)) (qb _ (qc oM hk)))) hbl
theorem BG.Ok.fit {y:List Rat} {D A:Nat} (hD:1≤D) (hA:1≤A) (hq:∀q,q∈y→Gr D A q) (hn:y.length=b.X.length) {K:Nat} (hbl:bl ((2*A*2 ^ K)*(D*840*(840*b.rate.den) ^ K))≤95):∀k,k≤K→(∀q,q∈(b.fit y k).2→Gr (D*840*(840*b.rate.den) ^ k) (2*A*2 ^ k) q)∧(∀t,t∈(b.fit y k).1→zcJ b.W t):=by
 have hrd:=b.rate.den_nz;have hb0:∀k,k≤K→bl ((2*A*2 ^ k)*(D*840*(840*b.rate.den) ^ k))≤95:=fun k hk=>zpy hrd hbl hk;intro k
 induction k with
 | zero =>
  refine fun _=>⟨fun q hm=>?_,fun t hm=>by cases hm⟩;obtain⟨p,hp,rfl⟩:=List.mem_map.1 hm;rw[Nat.pow_zero,Nat.pow_zero,Nat.mul_one,Nat.mul_one,show 2*A=A+A by omega];exact((hq p hp).up 840).sub (hb.mid_gr hq hn)
 | succ k ih =>
  intro hk;obtain⟨h1,h2⟩:=ih oM;have hl:=(b.fit_len y hn k).1;have hp1:0<(840*b.rate.den) ^ k:=Nat.pow_pos oM;have hp2:0<2 ^ k:=Nat.pow_pos oM;have hd1:1≤D*840*(840*b.rate.den) ^ k:=Nat.mul_pos oM hp1;have ha1:1≤2*A*2 ^ k:=Nat.mul_pos oM hp2;refine⟨fun q hm=>?_,fun t hm=>?_⟩
  ·have:=hb.next hd1 ha1 (hb0 k oM) h1 hl q hm
   rwa [qX,←Nat.mul_assoc,qX,show 2*A*(2 ^ k*2)=2*(2*A*2 ^ k) by rw[qW (2 ^ k) 2,←Nat.mul_assoc,qW (2*A) 2,Nat.mul_assoc 2 (2*A)]]
  ·rcases List.mem_append.1 (show t∈(b.fit y k).1++[b.tree (b.fit y k).2] from hm) with h | h
   ·exact h2 t h
   ·rw[pJ.1 h];exact hb.tree hd1 ha1 (hb0 k oM) h1 hl
end
end
section
open Go.RowKit _root_.Go.Proofs.Tryz
section
variable {n:Nat} {ops:Array Oper} {o:Oper} {env:Env} {bx:Bxs} {H:Hs} {K:Env→Bxs→Hs→Prop} {L:Array Bool} {fuel d:Nat} {v:Value} {I:World→Prop} {z:Option Nat}
theorem IRQ (i:Nat) {H0:Hp} {x:Operand} {T:TypeId} {te:TE} {b off:Nat} {c:Array Value} {l:List Value} (hI:∀w,I w→Fits H0 w) (h:EVG I z prog n ops fuel (L.setIfInBounds i true) ((d,.v v)::env) bx H K) (hc:H0 b=some c) (hl:∀(j:Nat) (u:Value),l[j]?=some u→c[off+j]?=some u) (hlen:l.length=te.size) (hv:zeL te.agg l=some v) (hi:ops[i]?=some o:=by exact rfl) (hs:Region.noSelect ops=true:=by kernel_rfl) (hf:Region.free .any ops L i=true:=by kernel_rfl) (hr:(Region.ready .any ops L).contains i=true:=by kernel_rfl) (hy:zmx .any ops L i=true:=by kernel_rfl) (hts:zrn .any ops z i=true:=by kernel_rfl) (hw:zal ops env o=some true:=by exact rfl) (hd:o.dst=some d:=by exact rfl) (hn:Nat.blt d n=true:=by exact rfl)
  (ho:o.op=.load T x:=by exact rfl) (hx:env.op x=some (.v (.pointer (some ⟨b,off,none⟩))):=by exact rfl) (ht:Tryz.tab.get T=some te:=by exact rfl):EVG I z prog n ops (fuel+1) L env bx H K :=
 EVG.take (J:=Fits H0) i (.inl ⟨hts,hI⟩) hi hs hf hr hy hw hd hn (fun β a W he hB=>by
  have ex:a.eval x=_:=he x _ hx;obtain⟨T',fz,hW⟩:=hB b c hc
  have hrg:W.rangeAt b off l:=fun j u hj=>by
   rw[cell_of_row W b (off+j) c T' fz hW];exact hl j u hj
  have hrun:=zaT (tO.get ht) hrg hlen hv;unfold execOp;simp only[ho,ex,Sem.run_bind,hrun,Result.andThen_ok,Sem.run_pure]) h
theorem ILQ (i:Nat) {T0:TypeId} {cs:List Value} {x:Operand} {T:TypeId} {te:TE} {b off:Nat} {l:List Value} (hI:∀w,I w→Box w b cs.toArray T0) (h:EVG I z prog n ops fuel (L.setIfInBounds i true) ((d,.v v)::env) bx H K) (hl:(cs.drop off).take te.size=l) (hlen:l.length=te.size) (hv:zeL te.agg l=some v) (hi:ops[i]?=some o:=by exact rfl) (hs:Region.noSelect ops=true:=by kernel_rfl) (hf:Region.free .any ops L i=true:=by kernel_rfl) (hr:(Region.ready .any ops L).contains i=true:=by kernel_rfl) (hy:zmx .any ops L i=true:=by kernel_rfl) (hts:zrn .any ops z i=true:=by kernel_rfl) (hw:zal ops env o=some true:=by exact rfl) (hd:o.dst=some d:=by exact rfl) (hn:Nat.blt d n=true:=by exact rfl)
  (ho:o.op=.load T x:=by exact rfl) (hx:env.op x=some (.v (.pointer (some ⟨b,off,none⟩))):=by exact rfl) (ht:Tryz.tab.get T=some te:=by exact rfl):EVG I z prog n ops (fuel+1) L env bx H K :=
 EVG.take (J:=fun w=>Box w b cs.toArray T0) i (.inl ⟨hts,hI⟩) hi hs hf hr hy hw hd hn (fun β a W he hB=>by
  have ex:a.eval x=_:=he x _ hx;have hrg:=hB.range off te.size;rw[hl]at hrg;have hrun:=zaT (tO.get ht) hrg hlen hv;unfold execOp;simp only[ho,ex,Sem.run_bind,hrun,Result.andThen_ok,Sem.run_pure]) h
end
theorem zdk {z:Option Nat} {L:Array Bool} {n:Nat} {env:Env} {bx:Bxs} {H:Hs} {p:Nat × TypeId × List Value} {H0:Hp} {jj:Nat} (hj:zew z L=false∨H.ow[jj]?=some p) (h:H0.Le H.ro):zew z L=true→∀W0 β a W,Rel n W0 H.base β env bx H a W→Box W p.1 p.2.2.toArray p.2.1∧Fits H0 W:=fun hn W0 β a W r=>⟨zsd hj hn W0 β a W r,r.fits.mono h⟩
theorem PW.publish {P:Program} {f:FuncId} {args:Array Value} {H:Hp} {Φ:Value→Ows→Hp→Prop} {Ψ:Value→Hp→Prop} (h:PW P f args H [] Φ) (k:∀v ow H',Φ v ow H'→∃(e:TypeId) (s:Nat) (u:Value) (m:Nat) (xs:List Value),zaA e s u m xs ow∧∀G,H'.Le G→SlC G u m s xs→Ψ v G):PC P f args H Ψ:=by
 refine⟨h.can,fun W hf hg=>(h.run W hf hg (fun j b T cs hj=>by cases hj) (fun j j' b T T' cs cs' hj=>by cases hj)).mono ?_⟩;rintro e W' ⟨v,ow,H',rfl,hΦ,hle,hf',hnew,hk,hb,_⟩;have hbel:Below W.heap.size W W':=⟨hk.os,hk.tape,hk.output,hk.size,fun k hlt=>hk.block k hlt (by simp[Ows.bs])⟩;obtain⟨e,s,u,m,xs,hown,hq⟩:=k v ow H' hΦ;rcases hown.2 with ⟨rfl,rfl,rfl⟩ | ⟨g,cap,sp,rfl,rfl,h1,h2,h3⟩
 ·exact⟨v,H',rfl,hq H' (Hp.Le.refl _) ⟨hown.1,.inl ⟨rfl,none,0,rfl⟩⟩,hle,hf',hbel,hnew⟩
 ·obtain⟨q1,q2,q3⟩:=hb 0 g e (xs++sp) rfl;have q2:W.heap.size≤g:=q2.resolve_right (by simp[Ows.bs])
  have hle2:H'.Le (fun k=>if k=g then some (xs++sp).toArray else H' k):=fun k c ek=>by
   have:k≠g:=fun e'=>by subst e';rw[q3]at ek;cases ek
   show (if k=g then some (xs++sp).toArray else H' k)=some c;rw[if_neg this];exact ek
  refine⟨v,fun k=>if k=g then some (xs++sp).toArray else H' k,rfl,hq _ hle2 ⟨hown.1,.inr ⟨g,0,cap,_,rfl,h2,if_pos rfl,fun j x hj=>?_⟩⟩,hle.trans hle2,fun k c ek=>?_,hbel,fun k c ek=>?_⟩
  ·simp only[qt,List.getElem?_toArray];rw[qM (qE.1 hj).1];exact hj
  ·change (if k=g then some (xs++sp).toArray else H' k)=some c at ek;by_cases hkg:k=g
   ·subst hkg;rw[if_pos rfl]at ek;cases ek;exact⟨e,(0,0),q1⟩
   ·rw[if_neg hkg]at ek;exact hf' k c ek
  ·change (if k=g then some (xs++sp).toArray else H' k)=some c at ek;by_cases hkg:k=g
   ·subst hkg;rw[if_pos rfl]at ek;cases ek;exact .inr ⟨q2,e,q1⟩
   ·rw[if_neg hkg]at ek;exact hnew k c ek
section
variable {P:Program} {n:Nat} {ops:Array Oper} {o:Oper} {rest:List Oper} {env:Env} {bx:Bxs} {sb:Bxs} {ow:Ows} {H:Hs} {Q:EQ} {τ:Tab} {d:Nat} {s:SV}
theorem zab.callRO {f:FuncId} {args:Array Operand} {tys:Array TypeId} (ho:o.op=.call ⟨.value (.func f),args,tys⟩) (hw:zal ops env o=some true) {vs:List Value} (ha:zbu env args.toList some=some vs) (jj:Nat) {b:Nat} {T:TypeId} {cs:List Value} (hj:ow[jj]?=some (b,T,cs))
  (hc:zaJ P f) {F:Hp→Prop} {R:Hp} {Φ:Value→Ows→Prop} {Ψ:Value→Hp→Prop} (hpc:∀G,R.Le G→F G→∀G',G.Le G'→G' b=some cs.toArray→PW P f vs.toArray G' [] fun v ow _=>Φ v ow)
  (hΦ:∀v ow,Φ v ow→∃(e:TypeId) (s:Nat) (m:Nat) (xs:List Value),zaA e s v m xs ow∧∀G,SlC G v m s xs→Ψ v G):zab P ops o env bx ow R F (fun _ v G=>Ψ v G):=fun β a W G hle hf hgl hb hown hs hF=>by
 obtain⟨vs',hk,hm⟩:=zbi env _ _ _ ha;cases hk;have hvs:=hm β G a.eval (fun y s hy=>hs.op (by simp[ho,Op.operands,Call.operands];exact .inr (by simpa using hy)));have hB:=hown jj b T cs hj;rw[if_pos (hs.want hw)];unfold Oper.wp;rw[zbb hc ho hvs,Oper.upon_enter]
 have hGb:∀c,G b=some c→c=cs.toArray:=fun c e=>by
  obtain⟨T',fz,h1⟩:=hf b c e;have h2:W.heap[b]?=some (.cells cs.toArray T (0,0)):=hB;rw[h2]at h1;cases h1;rfl
 have hle2:G.Le (fun k=>if k=b then some cs.toArray else G k):=fun k c e=>by
  show (if k=b then some cs.toArray else G k)=some c;by_cases hk:k=b
  ·subst hk;rw[if_pos rfl,hGb c e]
  ·rw[if_neg hk];exact e
 refine((hpc G hle hF (fun k=>if k=b then some cs.toArray else G k) hle2 (if_pos rfl)).run W (fun k c e=>?_) hgl (fun j b' T' cs' h=>by cases h) (fun j j' b' T1 T2 c1 c2 h1 h2=>by cases h1)).mono ?_
 ·change (if k=b then some cs.toArray else G k)=some c at e;by_cases hk:k=b
  ·subst hk;rw[if_pos rfl]at e;cases e;exact⟨T,(0,0),hB⟩
  ·rw[if_neg hk]at e;exact hf k c e
 ·rintro e W' ⟨v,ow',H',rfl,hv,hle',hf',hnew,hk,hb',_⟩;have hbel:Below W.heap.size W W':=⟨hk.os,hk.tape,hk.output,hk.size,fun k hlt=>hk.block k hlt (by simp[Ows.bs])⟩;obtain⟨e,s,m,xs,hown',hΨ⟩:=hΦ v ow' hv
  have zp9:∀k c,k≠b→H' k=some c→G k=some c∨(W.heap.size≤k∧∃T,W'.heap[k]?=some (.cells c T (0,0))):=fun k c hk e=>by
   rcases hnew k c e with q | q
   ·change (if k=b then some cs.toArray else G k)=some c at q;rw[if_neg hk]at q;exact .inl q
   ·exact .inr q
  have fwd:∀k c,G k=some c→H' k=some c:=fun k c e=>hle' k c (hle2 k c e);have hf2:=hf.below hbel;rcases hown'.2 with ⟨rfl,rfl,rfl⟩ | ⟨g,cap,sp,rfl,rfl,h1,h2,h3⟩
  ·refine⟨_,G,rfl,hΨ G ⟨hown'.1,.inl ⟨rfl,none,0,rfl⟩⟩,Hp.Le.refl G,hf2,hbel,Nw.refl _ _ _⟩
  ·obtain⟨q1,q2,q3⟩:=hb' 0 g e (xs++sp) rfl;have q2:W.heap.size≤g:=q2.resolve_right (by simp[Ows.bs])
   have hGg:G g=none:=by
    cases hc':G g with
    | none=>rfl
    | some c=>have:=hf.lt (b:=g) (by rw[hc'];simp);omega
   have hle3:G.Le (fun k=>if k=g then some (xs++sp).toArray else G k):=fun k c ek=>by
    have:k≠g:=fun e'=>by subst e';rw[hGg]at ek;cases ek
    show (if k=g then some (xs++sp).toArray else G k)=some c;rw[if_neg this];exact ek
   refine⟨_,fun k=>if k=g then some (xs++sp).toArray else G k,rfl,hΨ _ ⟨hown'.1,.inr ⟨g,0,cap,_,rfl,h2,if_pos rfl,fun j x hj=>?_⟩⟩,hle3,fun k c ek=>?_,hbel,fun k c ek=>?_⟩
   ·simp only[qt,List.getElem?_toArray];rw[qM (qE.1 hj).1];exact hj
   ·change (if k=g then some (xs++sp).toArray else G k)=some c at ek;by_cases hkg:k=g
    ·subst hkg;rw[if_pos rfl]at ek;cases ek;exact⟨e,(0,0),q1⟩
    ·rw[if_neg hkg]at ek;exact hf2 k c ek
   ·change (if k=g then some (xs++sp).toArray else G k)=some c at ek;by_cases hkg:k=g
    ·subst hkg;rw[if_pos rfl]at ek;cases ek;exact .inr ⟨q2,e,q1⟩
    ·rw[if_neg hkg]at ek;exact .inl ek
theorem DJ.callRO {tail l:List Oper} {x:Nat→Value} {y:Nat→Ows} {ow':Ows} {kl ks:List DK} {i:Nat} {bx':Bxs} {Γ:zfg} {f:FuncId} {args:Array Operand} {tys:Array TypeId} (ho:o.op=.call ⟨.value (.func f),args,tys⟩) (hw:zal ops env o=some true) (hd:o.dst=some d) (hn:Nat.blt d n=true)
  {vs:List Value} (ha:zbu env args.toList some=some vs) (jj:Nat) {b:Nat} {T:TypeId} {cs:List Value} (hj:H.ow[jj]?=some (b,T,cs)) (hc:zaJ P f) {Φ:Value→Ows→Prop} {Ψ:Value→Hp→Prop} (hpc:∀G,H.ro.Le G→zcT ops i Γ G→∀G',G.Le G'→G' b=some cs.toArray→PW P f vs.toArray G' [] fun v ow _=>Φ v ow)
  (hΦ:∀v ow,Φ v ow→∃(e:TypeId) (s:Nat) (m:Nat) (xs:List Value),zaA e s v m xs ow∧∀G,SlC G v m s xs→Ψ v G) (hm:∀v G G',Ψ v G→G.Le G'→Ψ v G')
  (h:DJ P n ops tail sb bx H Q x y kl (i+1) l ks ((d,.v (x i))::env) bx' ((i,Ψ (x i))::Γ) ow'):DJ P n ops tail sb bx H Q x y kl i (o::l) (.call Ψ::ks) env bx' Γ ow' :=
 DJ.ofCall (zab.callRO ho hw ha jj hj hc hpc hΦ) hd hn hm h
end
set_option maxRecDepth 100000 in
theorem zk3 {H:Hp} {cs:List Value} {vx:Value} {kd cl w:Int} {ns:List Nd} {x:List Rat} (ht:zfB H cs kd cl w ns) (hok:zbD ⟨kd,cl,w,ns⟩) (hx:RL H vx x) (hxl:(x.length:Int)=w) (hxs:∀q,q∈x→rq q) :
  PW prog 73 #[.agg cs.toArray,vx] H [] fun r ow _=>∃l:List Int,zaA 3 1 r l.length (l.map iv) ow∧zdg ns x 0 l∧l.length≤2000:=by
 obtain⟨a,cp,css,rfl,hns,hsl⟩:=ht;obtain⟨hkd,hw,hln,⟨hh,hh10,hsub⟩,hall⟩:=hok;dsimp only at hkd hw hln hsub hall;have hpos:=hsub.end0;obtain⟨xa,xc,rfl⟩:=hx.val;refine PW.body tO func73 rfl kR ntmps73 rfl rfl ?_;refine uR ?_;refine EVL.lit tO rfl rfl rfl rfl rfl rfl rfl rfl rfl rfl rfl fun bl=>?_;refine uR ?_;refine EV.loopK (ι:=Nat × List Int × Value × Ows) [1,2] [2] (fun q=>[(5,.v q.2.2.1),(6,.v (.int .i64 (q.1:Int)))]) (fun _=>[]) (fun q=>q.2.2.2) (fun q G=>q.1<ns.length∧q.2.1.length≤q.1∧(∀m,zdg ns x q.1 m→zdg ns x 0 (q.2.1++m))∧zaA 3 1 q.2.2.1 (q.2.1.length+1) (q.2.1.map iv++[iv q.1]) q.2.2.2) (fun q=>ns.length-q.1) ((0,[],_,_)) rfl rfl ⟨rfl,rfl,trivial⟩ trivial rfl (fun _=>rfl) (⟨hpos,qH _,fun m h=>h,zaA.full rfl oM⟩) ?_;rintro⟨i,l,vw,ow⟩ G1 hG1 ⟨hi,hll,hlf,hown⟩;dsimp only at hi hll hlf hown;obtain⟨wa,wc,rfl⟩:=hown.val;obtain⟨n,hn,hN,_⟩:=hall i hi;obtain⟨c,hcut,hnd⟩:=(hns.mono hG1).get hn;obtain⟨b1,a1,l1,c1,a2,l2,c2,b3,a3,l3,c3,a4,l4,c4,b5,a5,l5,c5,a6,l6,c6,a7,c7,rfl,hqa,_,_,_⟩:=hnd.cells;obtain⟨h',e',hsi⟩:=hsub.at i (qQ _) hi;have hle:=hsi.lt;refine uR ?_;refine EVL.idxM tO rfl rfl rfl rfl rfl rfl rfl rfl rfl ((hsl.mono hG1)) (i) (rfl) (hi) (hcut) ?_;refine uR ?_
 cases hsi with
 | leaf q1 q2 q3 q4 q5 =>
  rw[hn]at q1;cases q1;rw[qC (show ¬n.col≥0 by omega)];have hil:=hown.il;refine uR ?_;exact⟨l++[(i:Int)],hil,hlf _ (.here hn q2),by rw[qJ,qv];omega⟩
 | @node _ h1 m _ _ q1 q2 q3 q4 q5 s1 s2 =>
  rw[hn]at q1;cases q1;have hm1:=s1.lt;have hm2:=s2.lt;have hcl:n.col.toNat<x.length:=oM;obtain⟨y,hy⟩:∃y,x[n.col.toNat]?=some y:=⟨_,qA hcl⟩;have hyg:x.getD n.col.toNat 0=y:=by rw[qB,hy];rfl
  obtain⟨xcs,xb,ya1,yl1,yc1,ya2,yl2,yc2,hxS,hxcut,hxq⟩:=hx.slc hy;rw[qD (show n.col≥0 by omega)];refine uR ?_;refine EVL.idxM tO rfl rfl rfl rfl rfl rfl rfl rfl rfl ((hsl.mono hG1)) (i) (rfl) (hi) (hcut) ?_;refine uR ?_;apply EV.drawn 9 kR kR;intro xv yw;(repeat refine' DD ?_);refine' DJ.idxM tO rfl rfl rfl rfl rfl rfl rfl rfl rfl ((hxS.mono hG1)) (n.col.toNat) ((by rw[Int.toNat_of_nonneg q2])) (hcl) (hxcut) ?_;rotate_left;(repeat refine' DD ?_);refine' vC (cO func75) (fun G hG hd=>za9 ((hxq.mono hG1).mono hG) (hqa.mono hG) (hxs y (qF hy)) (by have:=hN.small.1;unfold rq;omega)) ?_;rotate_left;(repeat refine' DD ?_);(refine DJ.nil (fun G2 hG2 hF2=>?_);(case hS|hS2=>rfl));by_cases hle2:y≤n.at'
  ·rw[qD (zjZ hle2)];refine uR ?_;refine EVL.app1 tO rfl rfl rfl rfl rfl rfl rfl rfl rfl rfl rfl rfl rfl rfl rfl rfl rfl rfl rfl (fun _=>rfl) (ow) ([]) ((qG _).symm) (hown) oM fun _=>?_;intro v' ow' hown';obtain⟨va,vc,rfl⟩:=hown'.val;refine uR ?_;refine⟨(n.left.toNat,l++[(i:Int)],_,ow'),⟨rfl,by dsimp only;rw[Int.toNat_of_nonneg (by omega)];rfl,trivial⟩,sB,trivial,sB,qG _,⟨by dsimp only;omega,by dsimp only;rw[qJ,qv];omega,fun m h=>by dsimp only;rw[qZ];exact hlf _ (.low hn oM (by rw[hyg];exact hle2) h),by dsimp only;rw[qJ,qn,Int.toNat_of_nonneg (by omega)];exact hown'⟩,hG2,by dsimp only;omega⟩
  ·rw[qC (show ¬zco y n.at'≤0 from fun k=>hle2 (Rat.not_lt.1 fun k2=>by have:=(zez y n.at').2 k2;omega))];refine uR ?_;refine EVL.app1 tO rfl rfl rfl rfl rfl rfl rfl rfl rfl rfl rfl rfl rfl rfl rfl rfl rfl rfl rfl (fun _=>rfl) (ow) ([]) ((qG _).symm) (hown) oM fun _=>?_;intro v' ow' hown';obtain⟨va,vc,rfl⟩:=hown'.val;refine uR ?_;refine⟨(n.right.toNat,l++[(i:Int)],_,ow'),⟨rfl,by dsimp only;rw[Int.toNat_of_nonneg (by omega)];rfl,trivial⟩,sB,trivial,sB,qG _,⟨by dsimp only;omega,by dsimp only;rw[qJ,qv];omega,fun m h=>by dsimp only;rw[qZ];exact hlf _ (.high hn oM (by rw[hyg];exact hle2) h),by dsimp only;rw[qJ,qn,Int.toNat_of_nonneg (by omega)];exact hown'⟩,hG2,by dsimp only;omega⟩
theorem zpf {H:Hp} {cs:List Value} {vx:Value} {kd cl w:Int} {ns:List Nd} {x:List Rat} (ht:zfB H cs kd cl w ns) (hok:zbD ⟨kd,cl,w,ns⟩) (hx:RL H vx x) (hxl:(x.length:Int)=w) (hxs:∀q,q∈x→rq q) :
  PC prog 73 #[.agg cs.toArray,vx] H fun r G=>∃l:List Int,IL G r l∧zdg ns x 0 l∧l.length≤2000 :=
 (zk3 ht hok hx hxl hxs).publish fun v ow H' ⟨l,h1,h2,h3⟩=>⟨_,_,v,_,_,h1,fun G _ hs=>⟨l,hs,h2,h3⟩⟩
theorem znJ {H:Hp} {cs:List Value} {vx:Value} {kd cl w:Int} {ns:List Nd} {x:List Rat} (ht:zfB H cs kd cl w ns) (hok:zbD ⟨kd,cl,w,ns⟩) (hx:RL H vx x) (hxl:(x.length:Int)=w) (hxs:∀q,q∈x→rq q) :
  PC prog 106 #[.agg cs.toArray,vx] H fun r _=>∃i:Nat,r=.int .i64 (i:Int)∧zjA ns x 0 i:=by
 have hway:=zpf ht hok hx hxl hxs;obtain⟨a,cp,css,rfl,hns,hsl⟩:=ht;obtain⟨xa,xc,rfl⟩:=hx.val;refine BD func106 ntmps106 ?_;refine uR ?_;refine vA (hway) ?_;rintro r G ⟨l0,hil,hp,hll⟩ hG;obtain⟨i,l,rfl,hL⟩:=hp.leaf;rw[qJ,qv]at hll;obtain⟨la,lc,rfl⟩:=SlC.val hil
 have hw:IntKind.i64.wrap (((l++[(i:Int)]).length:Int)-1)=((l.length:Nat):Int):=by
  rw[qJ,qv,pK];omega
 refine uR ?_;rw[hw];refine vI (hil) (l.length) (rfl) ((by rw[qJ,qv];omega)) ((by rw[qK,qL (qH _),Nat.sub_self];rfl)) ?_;refine uR ?_;exact⟨i,rfl,hL⟩
def zb5 (loss:Int) (rate tilt:Rat):Bool:=decide (0<rate) && (decide (rate≤1) && (if loss=1 then decide (tilt=0) else decide (0<tilt) && decide (tilt<1)))
theorem zcr {q:Rat}:q.num.sign≤0↔¬0<q:=by
 rw[←zhW];rcases Int.lt_trichotomy q.num 0 with h | h | h
 ·rw[Int.sign_eq_neg_one_of_neg h];omega
 ·rw[h];simp
 ·rw[Int.sign_eq_one_of_pos h];omega
theorem zdw (a b:Rat):zco a b<0↔a<b:=by
 unfold zco;by_cases h:a<b
 ·rw[if_pos h];exact⟨fun _=>h,fun _=>by omega⟩
 ·rw[if_neg h];refine⟨fun k=>?_,fun k=>absurd k h⟩;split at k <;> omega
theorem zcP {q:Rat}:q.num.sign=0↔q=0:=by rw[Int.sign_eq_zero_iff_zero,Rat.num_eq_zero]
set_option maxRecDepth 100000 in
theorem znP {H:Hp} {loss:Int} {b1 b2:Bool} {a1 a2 a3 a4:Option Addr} {l1 c1 l2 c2 l3 c3 l4 c4:Nat} {rate tilt:Rat} (h1:RQ H (.agg #[.bool b1,.slice a1 l1 c1,.slice a2 l2 c2]) rate) (h2:RQ H (.agg #[.bool b2,.slice a3 l3 c3,.slice a4 l4 c4]) tilt) (hr:rq rate) (htl:rq tilt) :
  PC prog 66 #[.int .i64 loss,.agg #[.bool b1,.slice a1 l1 c1,.slice a2 l2 c2],.agg #[.bool b2,.slice a3 l3 c3,.slice a4 l4 c4]] H fun r _=>r=.bool (zb5 loss rate tilt):=by
 have hs1:=fun (G:Hp) (hG:H.Le G)=>zbA (RQ.mono h1 hG);have hs2:=fun (G:Hp) (hG:H.Le G)=>zbA (RQ.mono h2 hG);have q1:rq 1:=by show ht 1≤_;decide +kernel
 have ho:=fun G:Hp=>zaF (H:=G) 1 oM oM;rw[show ((1:Int):Rat)=1 from rfl]at ho;refine BD func66 ntmps66 ?_;refine uR ?_;by_cases k1:0<rate
 case neg =>
  apply EV.drawn 9 kR kR;intro xv yw;(repeat refine' DD ?_);refine' vC (cO func70) (fun G hG hd=>hs1 G hG) ?_;rotate_left;(repeat refine' DD ?_);rw[qD (zcr.2 k1)];(repeat refine' DD ?_);(refine DJ.nil (fun G1 hG1 hF1=>?_);(case hS|hS2=>rfl));refine uR ?_;rw[show zb5 loss rate tilt=false by unfold zb5;rw[qC k1];rfl]
 by_cases k2:rate≤1
 case neg =>
  apply EV.drawn 9 kR kR;intro xv yw;(repeat refine' DD ?_);refine' vC (cO func70) (fun G hG hd=>hs1 G hG) ?_;rotate_left;(repeat refine' DD ?_);rw[qC (fun k=>zcr.1 k k1)];(repeat refine' DD ?_);refine' vB (cO func13) (fun G hG hd=>ho G) (fun _ _ _ h k=>RQ.mono h k) ?_;rotate_left;refine' vC (cO func75) (fun G hG hd=>za9 (h1.mono hG) (hd.head kR) hr q1) ?_;rotate_left;(repeat refine' DD ?_);rw[qD (show zco rate 1>0 from (zez rate 1).2 (Rat.not_le.1 k2))];(repeat refine' DD ?_);(refine DJ.nil (fun G1 hG1 hF1=>?_);(case hS|hS2=>rfl));refine uR ?_;rw[show zb5 loss rate tilt=false by unfold zb5;rw[qC k2,Bool.false_and,Bool.and_false]]
 apply EV.drawn 9 kR kR;intro xv yw;(repeat refine' DD ?_);refine' vC (cO func70) (fun G hG hd=>hs1 G hG) ?_;rotate_left;(repeat refine' DD ?_);rw[qC (fun k=>zcr.1 k k1)];(repeat refine' DD ?_);refine' vB (cO func13) (fun G hG hd=>ho G) (fun _ _ _ h k=>RQ.mono h k) ?_;rotate_left;refine' vC (cO func75) (fun G hG hd=>za9 (h1.mono hG) (hd.head kR) hr q1) ?_;rotate_left;(repeat refine' DD ?_);rw[qC (show ¬zco rate 1>0 from fun k=>absurd ((zez rate 1).1 k) (Rat.not_lt.2 k2))];(repeat refine' DD ?_);(refine DJ.nil (fun G1 hG1 hF1=>?_);(case hS|hS2=>rfl));have h2':=RQ.mono h2 hG1;refine uR ?_;by_cases e1:loss=1
 ·subst e1;rw[show ((1:Int) == 1)=true from rfl,show zb5 1 rate tilt=decide (tilt=0) by unfold zb5;rw[qD k1,qD k2];rfl];refine uR ?_;refine vA (zbA h2') ?_;rintro _ G2 rfl hG2;refine uR ?_;by_cases z:tilt=0
  ·rw[qD z,zcP.2 z];rfl
  ·rw[qC z,show (tilt.num.sign == 0)=false from pP.2 fun k=>z (zcP.1 k)]
 rw[show (loss == 1)=false from pP.2 e1,show zb5 loss rate tilt=(decide (0<tilt) && decide (tilt<1)) by unfold zb5;rw[qD k1,qD k2,if_neg e1];rfl];refine uR ?_;by_cases z:0<tilt
 ·apply EV.drawn 10 kR kR;intro xv yw;(repeat refine' DD ?_);refine' vC (cO func70) (fun G hG hd=>zbA (RQ.mono h2' hG)) ?_;rotate_left;(repeat refine' DD ?_);rw[qD (show tilt.num.sign>0 from Int.not_le.1 fun k=>zcr.1 k z)];(repeat refine' DD ?_);refine' vB (cO func13) (fun G hG hd=>ho G) (fun _ _ _ h k=>RQ.mono h k) ?_;rotate_left;refine' vC (cO func75) (fun G hG hd=>za9 (RQ.mono h2' hG) (hd.head kR) htl q1) ?_;rotate_left;(repeat refine' DD ?_);(refine DJ.nil (fun G2 hG2 hF2=>?_);(case hS|hS2=>rfl));refine uR ?_;rw[qD z,Bool.true_and];by_cases y:tilt<1
  ·rw[qD y,qD ((zdw tilt 1).2 y)]
  ·rw[qC y,qC fun k=>y ((zdw tilt 1).1 k)]
 ·apply EV.drawn 10 kR kR;intro xv yw;(repeat refine' DD ?_);refine' vC (cO func70) (fun G hG hd=>zbA (RQ.mono h2' hG)) ?_;rotate_left;(repeat refine' DD ?_);rw[qC (show ¬tilt.num.sign>0 from fun k=>absurd (zcr.2 z) oM)];(repeat refine' DD ?_);(refine DJ.nil (fun G2 hG2 hF2=>?_);(case hS|hS2=>rfl));refine uR ?_;rw[qC z];rfl
set_option maxRecDepth 100000 in
theorem zrL {H:Hp} {v:Value} {l:List Int} {n:Int} (h:IL H v l) (hl:l.length≤1000000):PC prog 72 #[v,.int .i64 n] H fun r _=>r=.bool (decide (n∈l)):=by
 obtain⟨a,c,rfl⟩:=SlC.val h;refine BD func72 ntmps72 ?_;refine uR ?_;refine EV.loopK (ι:=Nat) [0,1] [] (fun q=>[(5,.v (.int .i64 (q:Int)))]) (fun _=>[]) (fun _=>[]) (fun q _=>q≤l.length∧n ∉ l.take q) (fun q=>l.length-q) (0) rfl rfl ⟨rfl,trivial⟩ trivial rfl (fun _=>rfl) (⟨qQ _,by simp⟩) ?_;rintro i G hG ⟨hi,hn⟩;refine uR ?_;refine EV.cond rfl (fun hlt=>?_) (fun hlt=>?_)
 ·simp only[nN]at hlt;obtain⟨z,hz⟩:=gE hlt;refine uR ?_;refine vI ((h.mono hG)) (i) (rfl) (hlt) ((by rw[qK,hz];rfl)) ?_;refine uR ?_;by_cases e:z=n
  ·rw[show (z == n)=true from beq_iff_eq.2 e];refine uR ?_;rw[qD (e ▸ qF hz)]
  ·rw[show (z == n)=false from pP.2 e];refine uR ?_;refine⟨i+1,⟨by rw[zac i (by omega)];rfl,trivial⟩,sB,trivial,sB,rfl,⟨hlt,?_⟩,Hp.Le.refl _,by omega⟩;rw[zai hz,List.mem_append,pJ];exact fun k=>k.elim hn fun k=>e k.symm
 ·simp only[nN]at hlt;obtain rfl:i=l.length:=oM;rw[qa]at hn;refine uR ?_;rw[qC hn]
set_option maxRecDepth 100000 in
theorem zht {H:Hp} {loss:Int} {v:Value} {l:List Rat} {b1:Bool} {a1 a2:Option Addr} {l1 c1 l2 c2:Nat} {tilt:Rat} (hl:RL H v l) (h2:RQ H (.agg #[.bool b1,.slice a1 l1 c1,.slice a2 l2 c2]) tilt) (h0:1≤l.length) (h8:l.length≤1000) (hb:∀q,q∈l→ht q≤100) (htl:loss≠1→0<tilt∧tilt<1) (hht:ht tilt≤10) :
  PC prog 68 #[.int .i64 loss,.agg #[.bool b1,.slice a1 l1 c1,.slice a2 l2 c2],v] H fun r G=>RQ G r (zoo loss tilt l):=by
 obtain⟨va,vc,rfl⟩:=hl.val;have hrq:∀q,q∈l→rq q:=fun q hq=>zao (hb q hq) oM;refine BD func68 ntmps68 ?_;by_cases k1:loss=1
 ·subst k1;rw[show zoo 1 tilt l=zbP l from if_pos rfl];refine uR ?_;rw[show ((1:Int) == 1)=true from rfl];refine uR ?_;refine EVL.call rfl rfl rfl rfl rfl (zhn hl oM oM hb) ?_;intro r G hr hG;obtain⟨_,_,_,_,_,_,rfl,_⟩:=id hr;refine uR ?_;exact hr
 ·rw[show zoo loss tilt l=zjQ tilt l from if_neg k1];refine uR ?_;rw[show (loss == 1)=false from pP.2 k1];refine uR ?_;obtain⟨t0,t1⟩:=htl k1;refine EVL.call rfl rfl rfl rfl rfl (zhp hl oM hrq) ?_;intro r G hs hG;have hsl:(zb1 l).length=l.length:=(zbT l).length_eq;obtain⟨sa,sc,rfl⟩:=hs.val;rw[hsl];have htq:rq tilt:=zao hht oM;refine uR ?_;refine EV.loopK (ι:=Nat) [4,6,7] [4,6] (fun q=>[(8,.v (.int .i64 (q:Int)))]) (fun _=>[]) (fun _=>[]) (fun q _=>q≤zgV tilt l.length) (fun q=>l.length-q) (0) rfl rfl ⟨rfl,trivial⟩ trivial rfl (fun _=>rfl) (qQ _) ?_;rintro k G2 hG2 hk;have hkl:=zfu (a:=tilt) t1 h0
  have hq:rq (Rat.divInt ((k+1:Nat):Int) (l.length:Int)):=by
   have:=ziO ((k+1:Nat):Int) (l.length:Int) oM;refine qI this (Nat.max_le.2 ⟨qI (zaU (k:=20) oM) oM,qI (zaU (k:=20) oM) oM⟩)
  have hlen:(0:Rat)<((l.length:Int):Rat):=Rat.intCast_pos.2 oM
  have hiff:Rat.divInt ((k+1:Nat):Int) (l.length:Int)<tilt↔¬tilt*((l.length:Int):Rat)≤(((k+1:Nat):Int):Rat):=by
   rw[Rat.divInt_eq_div,Rat.not_le,Rat.div_lt_iff hlen]
  have hov:=fun G:Hp=>zch (H:=G) ((k+1:Nat):Int) (l.length:Int) oM oM oM oM oM;have h2':=RQ.mono h2 (hG.trans hG2);have hs2:=hs.mono hG2;refine uR ?_;apply EV.drawn 8 kR kR;intro xv yw;(repeat refine' DD ?_);rw[zac k (by omega)];refine' vB (cO func44) (fun G hG hd=>hov G) (fun _ _ _ h k=>RQ.mono h k) ?_;rotate_left;(repeat refine' DD ?_);refine' vC (cO func75) (fun G hG hd=>za9 (hd.head kR) (RQ.mono h2' hG) hq htq) ?_;rotate_left;(repeat refine' DD ?_);(refine DJ.nil (fun G3 hG3 hF3=>?_);(case hS|hS2=>rfl));by_cases hc:Rat.divInt ((k+1:Nat):Int) (l.length:Int)<tilt
  ·rw[qD ((zdw _ tilt).2 hc)];refine uR ?_;refine⟨k+1,⟨by rw[zac k (by omega)];rfl,trivial⟩,sB,trivial,sB,rfl,?_,hG3,by omega⟩;rcases Nat.lt_or_eq_of_le hk with h | h
   ·exact h
   ·exact absurd (zih t1 h0) (by rw[←h];exact hiff.1 hc)
  ·rw[qC fun k=>hc ((zdw _ tilt).1 k)];have hke:=zlb t1 h0 (Decidable.not_not.1 fun q=>hc (hiff.2 q)) fun j hj=>zgz (Nat.lt_of_lt_of_le hj hk);have hkl2:k<(zb1 l).length:=by rw[hsl,hke];exact hkl
   obtain⟨x,hx⟩:∃x,(zb1 l)[k]?=some x:=⟨_,qA hkl2⟩
   have hmx:zjQ tilt l=x:=by
    unfold zjQ;rw[←hke,qB,hx];rfl
   obtain⟨cs,xb,xa1,xl1,xc1,xa2,xl2,xc2,hS,hcut,hxq⟩:=(hs2.mono hG3).slc hx;rw[hsl]at hS;rw[hmx];refine uR ?_;refine EVL.idxM tO rfl rfl rfl rfl rfl rfl rfl rfl rfl (hS) (k) (rfl) (oM) (hcut) ?_;refine uR ?_;exact hxq
def zr7 (t:Int):Rat:=if t.tmod 4=1 then (if (zmv t).num<0 then -zmv t else zmv t) else 0
theorem zpe {H:Hp} (d0 l0 t:Int) (hd:zdX d0) (hl:zdX l0) (ht:zdX t) :
  PC prog 45 #[.int .i64 d0,.int .i64 l0,.int .i64 t] H fun r H'=>∃b1 a1 l1 c1 a2 l2 c2,r=zmn (d0 % 5) (1+l0 % 3) (.bool b1) (.slice a1 l1 c1) (.slice a2 l2 c2)∧RQ H' (.agg #[.bool b1,.slice a1 l1 c1,.slice a2 l2 c2]) (zr7 t):=by
 have hp1:=zcp d0 5 hd oM oM;have hp2:=zcp l0 3 hl oM oM;refine BD func45 ntmps45 ?_
 repeat (first|refine RUN ?_|refine CV (hp1) ?_|refine CV (hp2) ?_|refine CE (hp1) ?_|refine CE (hp2) ?_)
 rw[show IntKind.i64.wrap (1+l0 % 3)=1+l0 % 3 by rw[pK];omega];refine uR ?_;refine EVL.call rfl rfl rfl rfl rfl (zaF 0 oM oM) ?_;intro r1 G1 hr1 hG1;obtain⟨a1,l1,c1,a2,l2,c2,rfl,_⟩:=id hr1;refine uR ?_;by_cases h:t.tmod 4=1
 ·rw[show (t.tmod 4 == 1)=true from beq_iff_eq.2 h];refine uR ?_;refine vA (zsv t ht) ?_;intro r2 G2 hr2 hG2;refine vA (znA hr2) ?_;intro r3 G3 hr3 hG3;obtain⟨a3,l3,c3,a4,l4,c4,rfl,_⟩:=id hr3;refine uR ?_;exact⟨_,_,_,_,_,_,_,rfl,by unfold zr7;rw[if_pos h];exact hr3⟩
 ·rw[show (t.tmod 4 == 1)=false from beq_false_of_ne h];refine uR ?_;exact⟨_,_,_,_,_,_,_,rfl,by unfold zr7;rw[if_neg h];exact hr1⟩
abbrev znz (n w dp ls rd rt at':Int) (tl:Bool) (vy vl:Value):Value:=.agg #[.int .i64 n,.int .i64 w,.int .i64 dp,.int .i64 ls,.int .i64 rd,.int .i64 rt,.int .i64 at',.bool tl,vy,vl]
abbrev zrQ (loss rounds deep least:Int) (r a g:List Value):List Value:=.int .i64 loss::.int .i64 rounds::(r++(a++(.int .i64 deep::.int .i64 least::g)))
abbrev rc (b:Bool) (a1:Option Addr) (l1 c1:Nat) (a2:Option Addr) (l2 c2:Nat):List Value:=[.bool b,.slice a1 l1 c1,.slice a2 l2 c2]
def zkd (tl:Bool) (a:Int):Rat:=if tl then Rat.divInt (1+a % 5) 6 else 0
def zjC (G:Hp) (v:Value) (loss rounds deep least:Int) (rate tilt gain:Rat):Prop:=∃b1 a1 l1 c1 a2 l2 c2 b2 a3 l3 c3 a4 l4 c4 b3 a5 l5 c5 a6 l6 c6,v=.agg (zrQ loss rounds deep least (rc b1 a1 l1 c1 a2 l2 c2) (rc b2 a3 l3 c3 a4 l4 c4) (rc b3 a5 l5 c5 a6 l6 c6)).toArray∧RQ G (.agg (rc b1 a1 l1 c1 a2 l2 c2).toArray) rate∧RQ G (.agg (rc b2 a3 l3 c3 a4 l4 c4).toArray) tilt∧RQ G (.agg (rc b3 a5 l5 c5 a6 l6 c6).toArray) gain
theorem zjC.mono {G K:Hp} {v:Value} {loss rounds deep least:Int} {rate tilt gain:Rat} (h:zjC G v loss rounds deep least rate tilt gain) (k:G.Le K):zjC K v loss rounds deep least rate tilt gain:=by
 obtain⟨b1,a1,l1,c1,a2,l2,c2,b2,a3,l3,c3,a4,l4,c4,b3,a5,l5,c5,a6,l6,c6,e,h1,h2,h3⟩:=h;exact⟨b1,a1,l1,c1,a2,l2,c2,b2,a3,l3,c3,a4,l4,c4,b3,a5,l5,c5,a6,l6,c6,e,RQ.mono h1 k,RQ.mono h2 k,RQ.mono h3 k⟩
set_option maxRecDepth 100000 in
theorem zoV {H:Hp} {vy vl:Value} {ly ll:List Int} (n w dp ls rd rt at':Int) (tl:Bool) (hn:zdX n) (hw:zdX w) (hdp:zdX dp) (hls:zdX ls) (hrd:zdX rd) (hrt:zdX rt) (hat:zdX at') (hy:IL H vy ly) (hyb:∀z,z∈ly→zdX z) (hl:IL H vl ll) (hlb:∀z,z∈ll→zdX z) {N W:Nat} (hN:1+n % 8=(N:Int)) (hW:1+w % 3=(W:Int)) :
  PC prog 9 #[znz n w dp ls rd rt at' tl vy vl] H fun r G=>∃vx vv vs,r=.tuple #[vx,vv,vs]∧RLL G vx (zeZ ll N W)∧RL G vv (zji ly N)∧zjC G vs (if tl then 2 else 1) (rd % 4) (dp % 3) (1+ls % 3) (Rat.divInt 1 (1+rt % 4)) (zkd tl at') 0:=by
 obtain⟨ya0,yc0,rfl⟩:=SlC.val hy;obtain⟨la0,lc0,rfl⟩:=SlC.val hl;have hp1:=zcp n 8 hn oM oM;have hp2:=zcp rd 4 hrd oM oM;have hp3:=zcp rt 4 hrt oM oM;have hp4:=zcp dp 3 hdp oM oM;have hp5:=zcp at' 5 hat oM oM;have hp6:=zcp w 3 hw oM oM;have w1:IntKind.i64.wrap (1+n % 8)=(N:Int):=by rw[pK];omega
 have w2:IntKind.i64.wrap (1+rt % 4)=1+rt % 4:=by rw[pK];omega
 have w3:IntKind.i64.wrap (1+w % 3)=(W:Int):=by rw[pK];omega
 have w4:IntKind.i64.wrap (1+at' % 5)=1+at' % 5:=by rw[pK];omega
 have hov:=fun G:Hp=>zch (H:=G) 1 (1+rt % 4) oM oM oM oM oM;have ho0:=fun G:Hp=>zaF (H:=G) 0 oM oM;rw[show ((0:Int):Rat)=0 from rfl]at ho0;have hru:=fun G:Hp=>zpe (H:=G) (dp % 3) ls 0 (by unfold zdX;omega) hls (by unfold zdX;omega);rw[show (dp % 3) % 5=dp % 3 by omega,show zr7 0=0 from rfl]at hru;refine BD func9 ntmps9 ?_
 repeat (first|refine RUN ?_|refine CV (hp1) ?_|refine CE (hp1) ?_)
 rw[w1];refine uR ?_;apply EV.drawn 17 kR kR;intro xv yw;(repeat (first|refine' DD ?_|(refine' DC (hp2) (h:=?_);rotate_left)|(refine' DC (hp3) (h:=?_);rotate_left)));rw[w2];refine' vB (cO func44) (fun G hG hd=>hov G) (fun _ _ _ h k=>RQ.mono h k) ?_;rotate_left;refine' vB (cO func13) (fun G hG hd=>ho0 G) (fun _ _ _ h k=>RQ.mono h k) ?_;rotate_left;(repeat (first|refine' DD ?_|(refine' DC (hp4) (h:=?_);rotate_left)));refine' vB (cO func45) (fun G hG hd=>hru G) (fun _ _ _ h k=>(by obtain⟨b1,a1,l1,c1,a2,l2,c2,e,h⟩:=h;exact⟨b1,a1,l1,c1,a2,l2,c2,e,RQ.mono h k⟩)) ?_;rotate_left
 (refine' DJ.plainE tO (fun v G=>zjC G v 1 (rd % 4) (dp % 3) (1+ls % 3) (Rat.divInt 1 (1+rt % 4)) 0 0) (fun v G G' h k=>h.mono k) rfl rfl rfl (fun G hd=>(by
  obtain⟨b3,a5,l5,c5,a6,l6,c6,e3,h3⟩:=hd.head kR;obtain⟨a3,l3,c3,a4,l4,c4,e2,h2⟩:=id (show RQ G (xv 8) 0 from hd.tail.head kR);obtain⟨a1,l1,c1,a2,l2,c2,e1,h1⟩:=id (show RQ G (xv 7) (Rat.divInt 1 (1+rt % 4)) from hd.tail.tail.head kR);have h2':=show RQ G (xv 8) 0 from hd.tail.head kR;have h1':=show RQ G (xv 7) (Rat.divInt 1 (1+rt % 4)) from hd.tail.tail.head kR;rw[e1]at h1';rw[e2]at h2';rw[e1,e2,e3];exact⟨_,rfl,_,_,_,_,_,_,_,_,_,_,_,_,_,_,_,_,_,_,_,_,_,rfl,h1',h2',h3⟩)) ?_;rotate_left)
 (repeat refine' DD ?_);(refine DJ.nil (fun G1 hG1 hF1=>?_);(case hS|hS2=>rfl));obtain⟨⟨b1,a1,l1,c1,a2,l2,c2,b2,a3,l3,c3,a4,l4,c4,b3,a5,l5,c5,a6,l6,c6,e,h1,h2,h3⟩,_⟩:=hF1;rw[e]
 (try refine zp1 ?_);refine EV.meetK (ι:=Bool × (Option Addr × Nat × Nat) × (Option Addr × Nat × Nat)) [1,4,5,6] [1,4] (fun _=>[]) (fun q=>[(6,37,zrQ (if tl then 2 else 1) (rd % 4) (dp % 3) (1+ls % 3) (rc b1 a1 l1 c1 a2 l2 c2) (rc q.1 q.2.1.1 q.2.1.2.1 q.2.1.2.2 q.2.2.1 q.2.2.2.1 q.2.2.2.2) (rc b3 a5 l5 c5 a6 l6 c6))]) (fun _=>[]) (fun q G=>G1.Le G∧RQ G (.agg (rc q.1 q.2.1.1 q.2.1.2.1 q.2.1.2.2 q.2.2.1 q.2.2.2.1 q.2.2.2.2).toArray) (zkd tl at')) rfl rfl (fun _=>rfl) ?_ ?_
 ·cases tl with
  | false =>
   refine uR ?_;exact⟨⟨b2,(a3,l3,c3),(a4,l4,c4)⟩,trivial,sB,⟨rfl,trivial⟩,sB,rfl,Hp.Le.refl _,h2⟩
  | true =>
   repeat (first|refine RUN ?_|refine CV (hp5) ?_|refine CE (hp5) ?_)
   rw[w4];refine uR ?_;refine EVL.call rfl rfl rfl rfl rfl (zch (1+at' % 5) 6 oM oM oM oM oM) ?_;rintro r2 G2 hr2 hG2;obtain⟨za1,zl1,zc1,za2,zl2,zc2,rfl,_⟩:=id hr2;refine uR ?_;exact⟨⟨_,(_,_,_),(_,_,_)⟩,trivial,sB,⟨rfl,trivial⟩,sB,rfl,hG2,hr2⟩
 rintro⟨b4,⟨a7,l7,c7⟩,⟨a8,l8,c8⟩⟩ G2 ⟨hG2,hq2⟩;dsimp only at hq2;have hHG:=hG1.trans hG2;have hrows:=fun (G:Hp) (hG:G2.Le G)=>zqX (hl.mono (hHG.trans hG)) hlb N W oM oM;have hrow:=fun (G:Hp) (hG:G2.Le G)=>znN (hy.mono (hHG.trans hG)) hyb N oM;refine uR ?_;apply EV.drawn 15 kR kR;intro xv yw;(repeat (first|refine' DD ?_|(refine' DC (hp6) (h:=?_);rotate_left)));rw[w3];(repeat refine' DD ?_);refine' vB (cO func46) (fun G hG hd=>hrows G hG) (fun _ _ _ h k=>RLL.mono h k) ?_;rotate_left;(repeat refine' DD ?_);refine' vB (cO func29) (fun G hG hd=>hrow G hG) (fun _ _ _ h k=>RL.mono h k) ?_;rotate_left;(repeat refine' DD ?_);refine' DJ.copy (7) (by first|exact .inl rfl|exact .inr rfl) rfl rfl rfl id rfl kR ?_;rotate_left;refine' DJ.copy (11) (by first|exact .inl rfl|exact .inr rfl) rfl rfl rfl id rfl kR ?_;rotate_left;(refine DJ.nil (fun G3 hG3 hF3=>?_);(case hS|hS2=>rfl));obtain⟨hF3a,hF3b,_⟩:=hF3;refine uR ?_;exact⟨_,_,_,rfl,hF3b,hF3a,_,_,_,_,_,_,_,_,_,_,_,_,_,_,_,_,_,_,_,_,_,rfl,RQ.mono h1 (hG2.trans hG3),RQ.mono hq2 hG3,RQ.mono h3 (hG2.trans hG3)⟩
abbrev zaa (loss w:Int) (b r a:List Value) (ts:Value):List Value:=.int .i64 loss::.int .i64 w::(b++(r++(a++[ts])))
theorem zdp {base rate:Rat} {ts:List Tr} {x:List Rat} {w:Nat} (hb:ht base≤200) (hr:ht rate≤200) (hl:ts.length≤60) (ht':∀t,t∈ts→ht (zc3 x t).value≤4000):ht (zcu base rate ts x)≤400000:=by
 unfold zcu
 have h1:=zdW 4000 (vL x ts) fun q hq=>by
  obtain⟨t,k,rfl⟩:=List.mem_map.1 hq;exact ht' t k
 have h2:(4000+1)*(vL x ts).length≤(4000+1)*60:=qb _ (by unfold vL;rw[qV];exact hl);have h3:=zdi rate (zaR (vL x ts));have h4:=zdV base (rate*zaR (vL x ts));omega
theorem zbt {w:Nat} {t:Tr} (h:zcJ w t) (x:List Rat):ht (zc3 x t).value≤105:=by
 obtain⟨i,_,_,hi,_⟩:=zhR h.ok x;exact h.small _ (qF hi)
set_option maxRecDepth 100000 in
theorem zh4 {H:Hp} {loss:Int} {W:Nat} {base rate:Rat} {b1 b2 b3:Bool} {a1 a2 a3 a4 a5 a6 ta:Option Addr} {l1 c1 l2 c2 l3 c3 l4 c4 l5 c5 l6 c6 tc:Nat} {ts:List Tr} {vx:Value} {x:List Rat}
  (hbs:RQ H (.agg (rc b1 a1 l1 c1 a2 l2 c2).toArray) base) (hrt:RQ H (.agg (rc b2 a3 l3 c3 a4 l4 c4).toArray) rate) (ht':RTL H (.slice ta ts.length tc) ts) (hok:∀t,t∈ts→zcJ W t) (hx:RL H vx x) (hxl:x.length=W) (hxs:∀q,q∈x→ht q≤100) (hb:ht base≤200) (hr:ht rate≤200) (hl:ts.length≤60) :
  PC prog 40 #[.agg (zaa loss (W:Int) (rc b1 a1 l1 c1 a2 l2 c2) (rc b2 a3 l3 c3 a4 l4 c4) (rc b3 a5 l5 c5 a6 l6 c6) (.slice ta ts.length tc)).toArray,vx] H fun r G=>RQ G r (zcu base rate ts x):=by
 obtain⟨tcs,hts,hst⟩:=ht';obtain⟨xa,xc,rfl⟩:=hx.val;have hxr:∀q,q∈x→rq q:=fun q hq=>zao (hxs q hq) oM;have h0:RQ H (.agg (rc b1 a1 l1 c1 a2 l2 c2).toArray) (zcu base rate (ts.take 0) x):=by rw[List.take_zero,zhB];exact hbs
 refine BD func40 ntmps40 ?_;refine uR ?_;refine EV.loopK (ι:=Nat × Value × Value × Value) [1,2,4,5] [2,4] (fun q=>[(6,.v (.int .i64 (q.1:Int)))]) (fun q=>[(5,33,[q.2.1,q.2.2.1,q.2.2.2])]) (fun _=>[]) (fun q G=>q.1≤ts.length∧H.Le G∧RQ G (.agg #[q.2.1,q.2.2.1,q.2.2.2]) (zcu base rate (ts.take q.1) x)) (fun q=>ts.length-q.1) ((0,_,_,_)) rfl rfl ⟨rfl,trivial⟩ ⟨rfl,trivial⟩ rfl (fun _=>rfl) (⟨qQ _,Hp.Le.refl _,h0⟩) ?_;rintro⟨i,s1,s2,s3⟩ G1 hG1 ⟨hi,_,hs⟩;dsimp only at hi hs;refine uR ?_;refine EV.cond rfl (fun hlt=>?_) (fun hlt=>?_)
 ·simp only[nN]at hlt;obtain⟨t,hti⟩:=gE hlt;have hB:=hok t (qF hti);obtain⟨c,hcut,htr⟩:=(hts.mono hG1).get hti;obtain⟨na,nc,css,rfl,hns,hsl⟩:=id htr;obtain⟨i0,hlf,hi0,hni,_⟩:=zhR hB.ok x;have hv:=zbt hB x;have hsn:=zfF base rate (ts.take i) t x;rw[←zai hti]at hsn;generalize zc3 x t=n at *
  have hsb:ht (zcu base rate (ts.take i) x)≤400000:=zdp (w:=W) hb hr (by rw[qP];omega) fun t' h'=>qI (zbt (hok t' (List.mem_of_mem_take h')) x) oM;have hxw:(x.length:Int)=t.w:=by rw[hB.wide,hxl]
  have cR:=fun (G:Hp) (hG:G1.Le G)=>(znJ (htr.mono hG) hB.ok (hx.mono (hG1.trans hG)) hxw hxr).mono (fun r _ h _=>(by obtain⟨y,e,h⟩:=h;rw[e,h.det hlf]:r=.int .i64 (i0:Int)));obtain⟨cn,hcutn,hnd⟩:=hns.get hni;obtain⟨d1,e1,m1,n1,e2,m2,n2,d3,e3,m3,n3,e4,m4,n4,d5,e5,m5,n5,e6,m6,n6,e7,n7,rfl,k1,k2,k3,k4⟩:=hnd.cells;have hrt1:=RQ.mono hrt hG1;have r1:rq rate:=zao hr oM;have r2:rq n.value:=zao hv oM;have hm:=zdi rate n.value;have r3:rq (rate*n.value):=qI hm oM;have r4:rq (zcu base rate (ts.take i) x):=qI hsb oM;have hst1:=hst.mono hG1;refine uR ?_;apply EV.drawn 21 kR kR;intro xv yw;(repeat refine' DD ?_);refine' DJ.idxM tO rfl rfl rfl rfl rfl rfl rfl rfl rfl (hst1) (i) (rfl) (hlt) (hcut) ?_;rotate_left;(repeat refine' DD ?_);refine' DJ.idxM tO rfl rfl rfl rfl rfl rfl rfl rfl rfl (hst1) (i) (rfl) (hlt) (hcut) ?_;rotate_left;(repeat refine' DD ?_);refine' vC (cO func106) (fun G hG hd=>cR G hG) ?_;rotate_left;refine' DJ.idxM tO rfl rfl rfl rfl rfl rfl rfl rfl rfl (hsl) (i0) (rfl) (hi0) (hcutn) ?_;rotate_left;(repeat refine' DD ?_);refine' vB (cO func104) (fun G hG hd=>zcg (RQ.mono hrt1 hG) (RQ.mono k3 hG) r1 r2) (fun _ _ _ h k=>RQ.mono h k) ?_;rotate_left;refine' vB (cO func103) (fun G hG hd=>zb0 (RQ.mono hs hG) (hd.head kR) r4 r3) (fun _ _ _ h k=>RQ.mono h k) ?_;rotate_left;(refine DJ.nil (fun G2 hG2 hF2=>?_);(case hS|hS2=>rfl));have hR:=hF2.1;rw[←hsn]at hR;obtain⟨_,_,_,_,_,_,e,_,_⟩:=id hR;rw[e]at hR ⊢;refine uR ?_;refine⟨(i+1,_,_,_),⟨by rw[zac i (by omega)];rfl,trivial⟩,sB,⟨rfl,trivial⟩,sB,rfl,⟨hlt,hG1.trans hG2,hR⟩,hG2,by dsimp only;omega⟩
 ·simp only[nN]at hlt;obtain rfl:i=ts.length:=oM;rw[qa]at hs;obtain⟨_,_,_,_,_,_,e,_,_⟩:=id hs;obtain⟨rfl,rfl,rfl⟩:=zr2 e;refine uR ?_;exact hs
structure zgO (w:Nat) (t:Tr):Prop where
 cl:t.cl=0
 wide:t.w=(w:Int)
 w20:1≤w∧w≤20
 ok:t.ns=[]∨zbD ⟨2,0,(w:Int),t.ns⟩
 len:t.ns.length≤15
 small:∀n,n∈t.ns→ht n.value≤105
def zjw (t:Tr):Int:=if ¬(t.kd=1∨t.kd=2) then 10 else if t.kd=1∨t.ns=[] then 5 else 0
def zfi (w:Int) (t:Tr):Int:=if zjw t≠0 then zjw t else if t.kd≠2∨t.w≠w then 10 else 0
def zdZ (w:Int):List Tr→Int
 | []=>0
 | t::ts=>if zfi w t≠0 then zfi w t else zdZ w ts
def zaH (loss w:Int) (rate tilt:Rat) (ts:List Tr):Int:=if ¬(loss=1∨loss=2) then 10 else if w<1∨w>20∨ts.length>50 then 5 else if zb5 loss rate tilt=false then 1 else zdZ w ts
theorem zcJ.x {w:Nat} {t:Tr} (h:zcJ w t):zgO w t:=by
 have h1:=h.ok.wide;have h2:=h.wide;have h3:=h.ok;have h4:=h.kd;have h5:=h.cl;have h6:=h.len.2;have h7:=h.small;obtain⟨kd,cl,w',ns⟩:=t;dsimp only at h1 h2 h3 h4 h5 h6 h7;subst h4 h5 h2;exact⟨rfl,rfl,by omega,.inr h3,h6,h7⟩
theorem zgO.b {W n:Nat} {w:Int} {t:Tr} (h:zgO W t) (he:zfi w t=0) (hw:(n:Int)=w):zcJ n t:=by
 have h1:zjw t=0:=Classical.not_not.1 fun k=>by unfold zfi at he;rw[if_pos k]at he;exact k he
 unfold zfi at he;rw[if_neg (fun k=>k h1)]at he
 have h2:t.kd=2∧t.w=w:=Classical.not_not.1 fun k=>by
  rw[if_pos (by by_cases c:t.kd=2 <;> simp_all)]at he;cases he
 have h3:t.ns≠[]:=fun k=>by
  unfold zjw at h1;rw[if_neg (fun c=>c (.inr h2.1)),if_pos (.inr k)]at h1;cases h1
 obtain⟨c1,c2,c3,c4,c5,c6⟩:=h;obtain⟨kd,cl,w',ns⟩:=t;dsimp only at c1 c2 c4 c5 c6 h2 h3;obtain⟨rfl,rfl⟩:=h2;subst c1;have:n=W:=oM;subst this;subst c2;have hpos:ns.length≠0:=fun k=>h3 (qz.1 k);exact⟨c4.resolve_left h3,rfl,rfl,rfl,⟨by dsimp only;omega,c5⟩,c6⟩
theorem zgB {w:Int}:∀{ts:List Tr},zdZ w ts=0→∀t,t∈ts→zfi w t=0
 | [],_,t,h=>by cases h
 | u::ts,h,t,ht=>by
  unfold zdZ at h;by_cases c:zfi w u=0
  ·rw[if_neg (fun k=>k c)]at h;rcases List.mem_cons.1 ht with rfl | ht
   ·exact c
   ·exact zgB h t ht
  ·rw[if_pos c]at h;exact absurd h c
theorem zea {w:Int}:∀{i:Nat} {ts:List Tr},(∀t,t∈ts.take i→zfi w t=0)→zdZ w ts=zdZ w (ts.drop i)
 | 0,ts,_=>rfl
 | i+1,[],_=>rfl
 | i+1,t::ts,h=>by
  have h1:=h t (by rw[List.take_succ_cons];exact qf ..);rw[List.drop_succ_cons,←zea fun u hu=>h u (by rw[List.take_succ_cons];exact qk _ hu)];show (if zfi w t≠0 then zfi w t else zdZ w ts)=_;rw[if_neg (fun k=>k h1)]
theorem zgA {w:Int} {i:Nat} {ts:List Tr} {t:Tr} (h:∀t,t∈ts.take i→zfi w t=0) (ht:ts[i]?=some t) (he:zfi w t≠0):zdZ w ts=zfi w t:=by
 obtain⟨hl,rfl⟩:=qE.1 ht;rw[zea h,qo hl];exact if_pos he
theorem zhv {w:Int} {ts:List Tr} (h:∀t,t∈ts.take ts.length→zfi w t=0):zdZ w ts=0:=by
 rw[zea h,List.drop_length];rfl
theorem zpo {P:Tr→Prop} {ts:List Tr} {i:Nat} {t:Tr} (h:∀t,t∈ts.take i→P t) (ht:ts[i]?=some t) (k:P t):∀t,t∈ts.take (i+1)→P t:=fun u hu=>by
 rw[zai ht,List.mem_append,pJ]at hu;rcases hu with hu | rfl
 ·exact h u hu
 ·exact k
theorem zmG {loss w:Int} {rate tilt:Rat} {ts:List Tr} (h:¬(loss=1∨loss=2)):zaH loss w rate tilt ts=10:=if_pos h
theorem zhH {loss w:Int} {rate tilt:Rat} {ts:List Tr} (h0:loss=1∨loss=2) (h:w<1∨w>20∨ts.length>50):zaH loss w rate tilt ts=5:=by
 unfold zaH;rw[if_neg (fun k=>k h0),if_pos h]
theorem zoz {loss w:Int} {rate tilt:Rat} {ts:List Tr} (h0:loss=1∨loss=2) (h:¬(w<1∨w>20∨ts.length>50)) (h1:zb5 loss rate tilt=false):zaH loss w rate tilt ts=1:=by
 unfold zaH;rw[if_neg (fun k=>k h0),if_neg h,if_pos h1]
theorem zkv {loss w:Int} {rate tilt:Rat} {ts:List Tr} (h0:loss=1∨loss=2) (h:¬(w<1∨w>20∨ts.length>50)) (h1:zb5 loss rate tilt=true):zaH loss w rate tilt ts=zdZ w ts:=by
 unfold zaH;rw[if_neg (fun k=>k h0),if_neg h,if_neg (by rw[h1];decide)]
theorem zeh {loss w:Int} {rate tilt:Rat} {ts:List Tr} (h:zaH loss w rate tilt ts=0):(loss=1∨loss=2)∧(1≤w∧w≤20∧ts.length≤50)∧zb5 loss rate tilt=true∧∀t,t∈ts→zfi w t=0:=by
 unfold zaH at h;split at h
 ·cases h
 rename_i h1;split at h
 ·cases h
 rename_i h2;split at h
 ·cases h
 rename_i h3;exact⟨Classical.not_not.1 h1,by omega,by simpa using h3,zgB h⟩
set_option maxRecDepth 100000 in
theorem zo5 {H:Hp} {cs:List Value} {vx:Value} {kd cl w:Int} {ns:List Nd} {x:List Rat} (ht:zdo H cs kd cl w ns) (hok:zbD ⟨kd,cl,w,ns⟩) (hx:QL H vx x) (hxl:(x.length:Int)=w) (hxs:∀q,q∈x→sm q) :
  PW prog 124 #[.agg cs.toArray,vx] H [] fun r ow _=>∃l:List Int,zaA 3 1 r l.length (l.map iv) ow∧zdg ns x 0 l∧l.length≤2000:=by
 obtain⟨a,cp,css,rfl,hns,hsl⟩:=ht;obtain⟨hkd,hw,hln,⟨hh,hh10,hsub⟩,hall⟩:=hok;dsimp only at hkd hw hln hsub hall;have hpos:=hsub.end0;obtain⟨xa,xc,rfl⟩:=SlC.val hx;have hxS:SlC H (.slice xa x.length xc) x.length 5 (x.flatMap fun q=>zae (zaj q)):=hx;refine PW.body tO func124 rfl kR ntmps124 rfl rfl ?_;refine uR ?_;refine EVL.lit tO rfl rfl rfl rfl rfl rfl rfl rfl rfl rfl rfl fun bl=>?_;refine uR ?_;refine EV.loopK (ι:=Nat × List Int × Value × Ows) [1,2] [2] (fun q=>[(5,.v (.int .i64 (q.1:Int))),(6,.v q.2.2.1)]) (fun _=>[]) (fun q=>q.2.2.2) (fun q G=>q.1<ns.length∧zaA 3 1 q.2.2.1 (q.2.1++[(q.1:Int)]).length ((q.2.1++[(q.1:Int)]).map iv) q.2.2.2∧q.2.1.length≤q.1∧∀l,zdg ns x q.1 l→zdg ns x 0 (q.2.1++l)) (fun q=>ns.length-q.1) ((0,[],.slice (some ⟨bl,0,none⟩) 1 1,[(bl,_,_)])) rfl rfl ⟨rfl,rfl,trivial⟩ trivial rfl (fun _=>rfl) (⟨hpos,zaA.full (m:=1) rfl oM,qH _,fun l h=>h⟩) ?_;rintro⟨i,q,u,ow⟩ G1 hG1 ⟨hi,hown,hql,hlf⟩;dsimp only at hi hown hql hlf;obtain⟨oa,oc,rfl⟩:=hown.val;obtain⟨n,hn⟩:=gE hi;obtain⟨c,hcut,hnd⟩:=(hns.mono hG1).get hn;obtain⟨a7,c7,rfl,_⟩:=hnd.cells;obtain⟨n',hn',hN,_⟩:=hall i hi;cases hn.symm.trans hn';obtain⟨h',e',hsi⟩:=hsub.at i (qQ _) hi;have hle:=hsi.lt;have hsl1:=hsl.mono hG1;have hll:(q++[(i:Int)]).length≤1000000:=by rw[qJ,qv];omega
 refine uR ?_;refine EVL.idxM tO rfl rfl rfl rfl rfl rfl rfl rfl rfl (hsl1) (i) (rfl) (hi) (hcut) ?_;refine uR ?_
 cases hsi with
 | leaf q1 q2 q3 q4 q5 =>
  rw[hn]at q1;cases q1;rw[show (n.col != -1)=false by rw[q2];rfl];refine uR ?_;exact⟨_,hown,hlf _ (.here hn q2),by rw[qJ,qv];omega⟩
 | @node _ h1 m _ _ q1 q2 q3 q4 q5 s1 s2 =>
  rw[hn]at q1;cases q1;have hm1:=s1.lt;have hm2:=s2.lt;have hcl:n.col.toNat<x.length:=oM;obtain⟨y,hy⟩:∃y,x[n.col.toNat]?=some y:=⟨_,qA hcl⟩;have hyg:x.getD n.col.toNat 0=y:=by rw[qB,hy];rfl
  have hcmp:=zfN y n.at' (hxs y (qF hy)) (zaN hN.small.1 oM);rw[show (n.col != -1)=true from bne_iff_ne.2 (by omega)];refine uR ?_;refine EVL.idxM tO rfl rfl rfl rfl rfl rfl rfl rfl rfl (hsl1) (i) (rfl) (hi) (hcut) ?_;refine uR ?_;apply EV.drawn 9 kR kR;intro xv yw;(repeat refine' DD ?_);refine' DJ.idxM tO rfl rfl rfl rfl rfl rfl rfl rfl rfl ((hxS.mono hG1)) (n.col.toNat) ((by rw[Int.toNat_of_nonneg q2])) (hcl) (QL.at (H:=H) (v:=.bool true) hy) ?_;rotate_left;(repeat (first|refine' DD ?_|(refine' DC (hcmp) (h:=?_);rotate_left)));(refine DJ.nil (fun G2 hG2 hF2=>?_);(case hS|hS2=>rfl));by_cases hle2:y≤n.at'
  ·rw[qD (zjZ hle2)];refine uR ?_;refine EVL.app1 tO rfl rfl rfl rfl rfl rfl rfl rfl rfl rfl rfl rfl rfl rfl rfl rfl rfl rfl rfl (fun _=>rfl) (ow) ([]) ((qG _).symm) (hown) (oM) fun _=>?_;intro v' ow' hown';refine uR ?_;refine⟨(n.left.toNat,q++[(i:Int)],v',ow'),⟨by rw[Int.toNat_of_nonneg (by omega)];rfl,rfl,trivial⟩,sB,trivial,sB,qG _,⟨by dsimp only;omega,by dsimp only;rw[Int.toNat_of_nonneg (by omega)];exact hown'.il,by dsimp only;rw[qJ,qv];omega,fun l h=>by dsimp only;rw[qZ];exact hlf _ (.low hn oM (by rw[hyg];exact hle2) h)⟩,hG2,by dsimp only;omega⟩
  ·rw[qC (show ¬zco y n.at'≤0 from fun k=>hle2 (Rat.not_lt.1 fun k2=>by have:=(zez y n.at').2 k2;omega))];refine uR ?_;refine EVL.app1 tO rfl rfl rfl rfl rfl rfl rfl rfl rfl rfl rfl rfl rfl rfl rfl rfl rfl rfl rfl (fun _=>rfl) (ow) ([]) ((qG _).symm) (hown) (oM) fun _=>?_;intro v' ow' hown';refine uR ?_;refine⟨(n.right.toNat,q++[(i:Int)],v',ow'),⟨by rw[Int.toNat_of_nonneg (by omega)];rfl,rfl,trivial⟩,sB,trivial,sB,qG _,⟨by dsimp only;omega,by dsimp only;rw[Int.toNat_of_nonneg (by omega)];exact hown'.il,by dsimp only;rw[qJ,qv];omega,fun l h=>by dsimp only;rw[qZ];exact hlf _ (.high hn oM (by rw[hyg];exact hle2) h)⟩,hG2,by dsimp only;omega⟩
theorem zo4 {H:Hp} {cs:List Value} {vx:Value} {kd cl w:Int} {ns:List Nd} {x:List Rat} (ht:zdo H cs kd cl w ns) (hok:zbD ⟨kd,cl,w,ns⟩) (hx:QL H vx x) (hxl:(x.length:Int)=w) (hxs:∀q,q∈x→sm q) :
  PC prog 124 #[.agg cs.toArray,vx] H fun r G=>∃l:List Int,IL G r l∧zdg ns x 0 l∧l.length≤2000 :=
 (zo5 ht hok hx hxl hxs).publish fun v ow H' ⟨l,h1,h2,h3⟩=>⟨_,_,v,_,_,h1,fun G _ hs=>⟨l,hs,h2,h3⟩⟩
set_option maxRecDepth 100000 in
theorem zjd {H:Hp} {cs:List Value} {vx:Value} {kd cl w:Int} {ns:List Nd} {x:List Rat} (ht:zdo H cs kd cl w ns) (hok:zbD ⟨kd,cl,w,ns⟩) (hx:QL H vx x) (hxl:(x.length:Int)=w) (hxs:∀q,q∈x→sm q) :
  PC prog 62 #[.agg cs.toArray,vx] H fun r _=>r=zaj (zc3 x ⟨kd,cl,w,ns⟩).value:=by
 have hw:=zo4 ht hok hx hxl hxs;obtain⟨a,cp,css,rfl,hns,hsl⟩:=ht;obtain⟨xa,xc,rfl⟩:=SlC.val hx;refine BD func62 ntmps62 ?_;refine uR ?_;refine vA (hw) ?_;rintro r G ⟨l0,hil,hp,hll⟩ hG;obtain⟨j,l,rfl,hL⟩:=hp.leaf;obtain⟨i0,hlf0,hi0,hni0,_⟩:=zhR hok x;obtain rfl:i0=j:=hlf0.det hL;generalize zc3 x ⟨kd,cl,w,ns⟩=n at *
 dsimp only at hi0 hni0;rw[qJ,qv]at hll;obtain⟨la,lc,rfl⟩:=SlC.val hil
 have hw':IntKind.i64.wrap (((l++[(i0:Int)]).length:Int)-1)=((l.length:Nat):Int):=by
  rw[qJ,qv,pK];omega
 obtain⟨c,hcut,hnd⟩:=(hns.mono hG).get hni0;obtain⟨a7,c7,rfl,_⟩:=hnd.cells;have hsl1:=hsl.mono hG;refine uR ?_;apply EV.drawn 11 kR kR;intro xv yw;(repeat refine' DD ?_);rw[hw'];refine' vJ (hil) (l.length) (rfl) ((by rw[qJ,qv];omega)) ((by rw[qK,qL (qH _),Nat.sub_self];rfl)) ?_;rotate_left;(repeat refine' DD ?_);refine' DJ.idxM tO rfl rfl rfl rfl rfl rfl rfl rfl rfl (hsl1) (i0) (rfl) (hi0) (hcut) ?_;rotate_left;(repeat refine' DD ?_);(refine DJ.nil (fun G2 hG2 hF2=>?_);(case hS|hS2=>rfl));refine uR ?_;rfl
abbrev zbM (loss w:Int) (base rate tilt:Rat) (ts:Value):List Value:=.int .i64 loss::.int .i64 w::(zae (zaj base)++(zae (zaj rate)++(zae (zaj tilt)++[ts])))
def zkP (loss:Int) (rate tilt:Rat):Bool:=(decide (loss=1) || decide (loss=2)) && zb5 loss rate tilt
theorem znh {loss:Int} {rate tilt:Rat} (h:loss=1∨loss=2):zkP loss rate tilt=zb5 loss rate tilt:=by
 unfold zkP;rcases h with rfl | rfl <;> rfl
theorem zgf {loss:Int} {rate tilt:Rat} (h1:sm rate) (h2:sm tilt):PV prog 55 #[.int .i64 loss,zaj rate,zaj tilt] (.bool (zkP loss rate tilt)):=by
 refine PV.of_pc ?_;have s1:sm 1:=by show ht 1≤_;decide +kernel
 have ho:=zlP 1 oM oM;rw[show ((1:Int):Rat)=1 from rfl]at ho;have hs1:=zb6 rate (qI h1.num oM);have hs2:=zb6 tilt (qI h2.num oM);have hc1:=zfN rate 1 h1 s1;have hc2:=zfN tilt 1 h2 s1;refine BD func55 ntmps55 ?_
 repeat (first|refine RUN ?_|refine CV (ho) ?_|refine CV (hs1) ?_|refine CE (ho) ?_|refine CE (hs1) ?_)
 by_cases k1:0<rate
 case neg =>
  rw[qD (zcr.2 k1)];refine uR ?_;rw[show zkP loss rate tilt=false by unfold zkP zb5;rw[qC k1,Bool.false_and,Bool.and_false]]
 rw[qC (fun k=>zcr.1 k k1)]
 repeat (first|refine RUN ?_|refine CV (hc1) ?_|refine CE (hc1) ?_)
 by_cases k2:rate≤1
 case neg =>
  rw[qD (show zco rate 1>0 from (zez rate 1).2 (Rat.not_le.1 k2))];refine uR ?_;rw[show zkP loss rate tilt=false by unfold zkP zb5;rw[qC k2,Bool.false_and,Bool.and_false,Bool.and_false]]
 rw[qC (show ¬zco rate 1>0 by have:=zjZ k2;omega)];refine uR ?_;by_cases e1:loss=1
 ·subst e1;rw[show ((1:Int) == 1)=true from rfl]
  repeat (first|refine RUN ?_|refine CV (hs2) ?_|refine CE (hs2) ?_)
  rw[show zkP 1 rate tilt=decide (tilt=0) by unfold zkP zb5;rw[qD k1,qD k2];rfl];by_cases z:tilt=0
  ·rw[qD z,zcP.2 z];rfl
  ·rw[qC z,show (tilt.num.sign == 0)=false from pP.2 fun k=>z (zcP.1 k)]
 rw[show (loss == 1)=false from pP.2 e1];refine uR ?_;by_cases e2:loss=2
 ·subst e2;have e:zkP 2 rate tilt=(decide (0<tilt) && decide (tilt<1)):=by unfold zkP zb5;rw[qD k1,qD k2];rfl
  rw[e,show ((2:Int) == 2)=true from rfl]
  repeat (first|refine RUN ?_|refine CV (hs2) ?_|refine CE (hs2) ?_)
  by_cases z:0<tilt
  ·rw[qD z,qD (show tilt.num.sign>0 from Int.not_le.1 fun k=>zcr.1 k z)]
   repeat (first|refine RUN ?_|refine CV (hc2) ?_|refine CE (hc2) ?_)
   rw[Bool.true_and];by_cases y:tilt<1
   ·rw[qD y,qD ((zdw tilt 1).2 y)]
   ·rw[qC y,qC fun k=>y ((zdw tilt 1).1 k)]
  ·rw[qC z,qC (show ¬tilt.num.sign>0 from fun k=>absurd (zcr.2 z) oM)];refine uR ?_;rfl
 rw[show (loss == 2)=false from pP.2 e2];refine uR ?_;rw[show zkP loss rate tilt=false by unfold zkP;rw[qC e1,qC e2];rfl]
set_option maxRecDepth 100000 in
theorem zlU {H:Hp} {t:Tr} {w:Nat} {cs:List Value} (ht:zdo H cs t.kd t.cl t.w t.ns) (hx:zgO w t):PC prog 79 #[.agg cs.toArray] H fun r _=>r=.int .i64 (zjw t):=by
 obtain⟨kd,cl,w',ns⟩:=t;obtain⟨hcl,hw,hw20,hok,_,_⟩:=hx;dsimp only at ht hcl hw hok;subst hcl hw;by_cases hk:kd=1∨kd=2
 case neg =>
  obtain⟨a,cp,css,rfl,hns,hsl⟩:=ht;refine BD func79 ntmps79 ?_;refine uR ?_;rw[show (kd != 1)=true from bne_iff_ne.2 (fun h=>hk (.inl h))];refine uR ?_;rw[show (kd != 2)=true from bne_iff_ne.2 (fun h=>hk (.inr h))];refine uR ?_;rw[show zjw ⟨kd,0,(w:Int),ns⟩=10 from if_pos hk]
 have w1:decide ((w:Int)<1)=false:=qC oM;have w2:decide ((w:Int)>20)=false:=qC oM;by_cases h0:kd=2∧ns≠[]
 ·obtain⟨rfl,hn⟩:=h0;have hc:zjw ⟨2,0,(w:Int),ns⟩=0:=by unfold zjw;rw[if_neg (fun k=>k (.inr rfl)),if_neg (fun k=>k.elim (fun k=>absurd k (by decide:¬(2:Int)=1)) hn)]
  rw[hc];exact zlT ht (hok.resolve_left hn)
 have hc:zjw ⟨kd,0,(w:Int),ns⟩=5:=by
  unfold zjw;rw[if_neg (fun k=>k hk),if_pos];rcases hk with h | h
  ·exact .inl h
  ·exact .inr (Classical.not_not.1 fun k=>h0 ⟨h,k⟩)
 rw[hc];obtain⟨a,cp,css,rfl,hns,hsl⟩:=ht;rcases hk with rfl | rfl
 ·refine BD func79 ntmps79 ?_;refine uR ?_;rw[w1];refine uR ?_;rw[w2];refine uR ?_;by_cases n0:ns=[]
  ·subst n0;refine uR ?_;rfl
  ·have hT:=hok.resolve_left n0;have n1:=hT.len;have n2:ns.length≠0:=fun k=>n0 (qz.1 k);dsimp only at n1;rw[qC (show ¬(ns.length:Int)<1 by omega)];refine uR ?_;rw[qC (show ¬(ns.length:Int)>2000 by omega)];refine uR ?_;rfl
 ·obtain rfl:ns=[]:=Classical.not_not.1 fun k=>h0 ⟨rfl,k⟩;refine BD func79 ntmps79 ?_;refine uR ?_;rw[w1];refine uR ?_;rw[w2];refine uR ?_;rfl
set_option maxRecDepth 100000 in
theorem zdI {H:Hp} {loss w:Int} {W:Nat} {base rate tilt:Rat} {ta:Option Addr} {tc:Nat} {ts:List Tr} (ht:PTL H (.slice ta ts.length tc) ts) (hx:∀t,t∈ts→zgO W t) (hr:sm rate) (hq:sm tilt) (hl:ts.length≤1000000) :
  PC prog 23 #[.agg (zbM loss w base rate tilt (.slice ta ts.length tc)).toArray] H fun r _=>r=.int .i64 (zaH loss w rate tilt ts):=by
 obtain⟨tcs,hts,hst⟩:=ht;refine BD func23 ntmps23 ?_;refine uR ?_;by_cases hk:loss=1∨loss=2
 case neg =>
  rw[show (loss != 1)=true from bne_iff_ne.2 (fun h=>hk (.inl h))];refine uR ?_;rw[show (loss != 2)=true from bne_iff_ne.2 (fun h=>hk (.inr h))];refine uR ?_;rw[zmG hk]
 refine EVL.meetK (ι:=Bool) [1,2] [1] (fun _=>[(13,.v (.bool false))]) (fun _=>[]) (fun _=>[]) (fun _ G=>H.Le G) rfl rfl (fun _=>rfl) ?_ ?_
 ·rcases hk with e | e
  ·rw[show (loss != 1)=false by rw[e];rfl];refine uR ?_;exact⟨true,⟨rfl,trivial⟩,sB,trivial,sB,rfl,Hp.Le.refl _⟩
  ·rw[show (loss != 1)=true by rw[e];rfl];refine uR ?_;rw[show (loss != 2)=false by rw[e];rfl];refine uR ?_;exact⟨true,⟨rfl,trivial⟩,sB,trivial,sB,rfl,Hp.Le.refl _⟩
 rintro _ G1 hG1;refine uR ?_;by_cases w1:w<1
 ·rw[qD w1];refine uR ?_;rw[zhH hk (.inl w1)]
 rw[qC w1];refine uR ?_;by_cases w2:w>20
 ·rw[qD w2];refine uR ?_;rw[zhH hk (.inr (.inl w2))]
 rw[qC w2];refine uR ?_;by_cases w3:ts.length>50
 ·rw[qD (show (ts.length:Int)>50 by omega)];refine uR ?_;rw[zhH hk (.inr (.inr w3))]
 rw[qC (show ¬(ts.length:Int)>50 by omega)];have h5:¬(w<1∨w>20∨ts.length>50):=oM;have hrt1:=zgf (loss:=loss) hr hq;rw[znh hk]at hrt1
 cases hrb:zb5 loss rate tilt with
 | false =>
  rw[hrb]at hrt1
  repeat (first|refine RUN ?_|refine CV (hrt1) ?_|refine CE (hrt1) ?_)
  rw[zoz hk h5 hrb]
 | true =>
  rw[hrb]at hrt1;rw[zkv hk h5 hrb]
  repeat (first|refine RUN ?_|refine CV (hrt1) ?_|refine CE (hrt1) ?_)
  refine EV.loopK (ι:=Nat) [1,37,38] [1] (fun q=>[(39,.v (.int .i64 (q:Int)))]) (fun _=>[]) (fun _=>[]) (fun q G=>q≤ts.length∧G1.Le G∧∀t,t∈ts.take q→zfi w t=0) (fun q=>ts.length-q) (0) rfl rfl ⟨rfl,trivial⟩ trivial rfl (fun _=>rfl) (⟨qQ _,Hp.Le.refl _,fun t h=>(by rw[List.take_zero]at h;cases h)⟩) ?_;rintro i G2 hG2 ⟨hi,hG12,hall⟩;have hH2:=hG1.trans hG12;refine uR ?_;refine EV.cond rfl (fun hlt=>?_) (fun hlt=>?_)
  ·simp only[nN]at hlt;obtain⟨t,hti'⟩:=gE hlt;obtain⟨c,hcut,htr⟩:=(hts.mono hH2).get hti';have hck:=zlU htr (hx t (qF hti'));obtain⟨na,nc,css,rfl,_⟩:=id htr;have hst2:=hst.mono hH2;refine uR ?_;refine EVL.idxM tO rfl rfl rfl rfl rfl rfl rfl rfl rfl (hst2) (i) (rfl) (hlt) (hcut) ?_
   repeat (first|refine RUN ?_|refine CV (hck) ?_|refine CE (hck) ?_)
   by_cases e0:zjw t=0
   case neg =>
    rw[show (zjw t != 0)=true from bne_iff_ne.2 e0];refine uR ?_;have he:zfi w t=zjw t:=if_pos e0;rw[zgA hall hti' (by rw[he];exact e0),he]
   rw[show (zjw t != 0)=false by rw[e0];rfl];refine uR ?_;by_cases e2:t.kd=2
   case neg =>
    rw[show (t.kd != 2)=true from bne_iff_ne.2 e2];refine uR ?_;have he:zfi w t=10:=by unfold zfi;rw[if_neg (fun k=>k e0),if_pos (.inl e2)]
    rw[zgA hall hti' (by rw[he];decide),he]
   rw[show (t.kd != 2)=false from bne_eq_false_iff_eq.2 e2];refine uR ?_;by_cases e3:t.w=w
   case neg =>
    rw[show (t.w != w)=true from bne_iff_ne.2 e3];refine uR ?_;have he:zfi w t=10:=by unfold zfi;rw[if_neg (fun k=>k e0),if_pos (.inr e3)]
    rw[zgA hall hti' (by rw[he];decide),he]
   have he:zfi w t=0:=by unfold zfi;rw[if_neg (fun k=>k e0),if_neg fun k=>k.elim (fun k=>k e2) fun k=>k e3]
   rw[show (t.w != w)=false from bne_eq_false_iff_eq.2 e3];refine uR ?_;exact⟨i+1,⟨by rw[zac i (by omega)];rfl,trivial⟩,sB,trivial,sB,rfl,⟨hlt,hG12,zpo hall hti' he⟩,Hp.Le.refl _,by omega⟩
  ·simp only[nN]at hlt;obtain rfl:i=ts.length:=oM;rw[zhv hall];refine uR ?_;rfl
theorem zhk {H:Hp} {loss w:Int} {W n xc:Nat} {xa:Option Addr} {base rate tilt:Rat} {ta:Option Addr} {tc:Nat} {ts:List Tr} (ht:PTL H (.slice ta ts.length tc) ts) (hx:∀t,t∈ts→zgO W t) (hr:sm rate) (hq:sm tilt) (hl:ts.length≤1000000) :
  PC prog 92 #[.agg (zbM loss w base rate tilt (.slice ta ts.length tc)).toArray,.slice xa n xc] H fun r _=>r=.int .i64 (if zaH loss w rate tilt ts≠0 then 1 else if (n:Int)≠w then 5 else 0):=by
 have hck:=zdI (loss:=loss) (w:=w) (base:=base) ht hx hr hq hl;refine BD func92 ntmps92 ?_
 repeat (first|refine RUN ?_|refine CV (hck) ?_|refine CE (hck) ?_)
 by_cases e:zaH loss w rate tilt ts=0
 case neg =>
  rw[show (zaH loss w rate tilt ts != 0)=true from bne_iff_ne.2 e,if_pos e];refine uR ?_;rfl
 rw[show (zaH loss w rate tilt ts != 0)=false by rw[e];rfl,if_neg (fun k=>k e)];refine uR ?_;by_cases e2:(n:Int)=w
 ·rw[show ((n:Int) != w)=false from bne_eq_false_iff_eq.2 e2,if_neg (fun k=>k e2)];refine uR ?_;rfl
 ·rw[show ((n:Int) != w)=true from bne_iff_ne.2 e2,if_pos e2];refine uR ?_;rfl
theorem zrW {x:List Rat} {ts:List Tr} {i:Nat} {t:Tr} (h:ts[i]?=some t):(vL x ts)[i]?=some (zc3 x t).value:=by
 unfold vL;rw[qK,h];rfl
theorem zrc (x:List Rat) (ts:List Tr) (i:Nat):(vL x ts).take i=vL x (ts.take i):=by unfold vL;rw[List.map_take]
theorem zpU {x:List Rat} {ts:List Tr} (h:∀t,t∈ts→zcJ x.length t) (hl:ts.length≤60):ht (zaR (vL x ts))≤10000:=by
 have h1:=zdW 105 (vL x ts) fun q hq=>by
  obtain⟨t,k,rfl⟩:=List.mem_map.1 hq;exact zbt (h t k) x
 have h2:(105+1)*(vL x ts).length≤(105+1)*60:=qb _ (by unfold vL;rw[qV];exact hl);omega
set_option maxRecDepth 100000 in
theorem zi8 {H:Hp} {loss w:Int} {base rate tilt:Rat} {ta:Option Addr} {tc:Nat} {ts:List Tr} {vx:Value} {x:List Rat} (ht':PTL H (.slice ta ts.length tc) ts) (hok:∀t,t∈ts→zcJ x.length t) (hx:QL H vx x) (hxs:∀q,q∈x→ht q≤100) (hb:ht base≤200) (hr:ht rate≤200) (hl:ts.length≤60) :
  PC prog 93 #[.agg (zbM loss w base rate tilt (.slice ta ts.length tc)).toArray,vx] H fun r _=>r=zaj (zcu base rate ts x):=by
 obtain⟨tcs,hts,hst⟩:=ht';obtain⟨xa,xc,rfl⟩:=SlC.val hx;have hxq:∀q,q∈x→sm q:=fun q hq=>zaN (hxs q hq) oM;have hz:zae (zaj (zaR ((vL x ts).take 0)))=[.bool false,.int .u64 0,.string ⟨#[]⟩,.int .u64 0,.string ⟨#[]⟩]:=zbe;refine BD func93 ntmps93 ?_;refine uR ?_;refine EV.loopK (ι:=Nat) [1,2,4,5,9,10] [2,4] (fun i=>[(11,.v (.int .i64 (i:Int)))]) (fun i=>[(5,51,zae (zaj (zaR ((vL x ts).take i))))]) (fun _=>[]) (fun i G=>i≤ts.length) (fun i=>ts.length-i) (0) rfl rfl ⟨rfl,trivial⟩ ⟨by rw[hz];rfl,trivial⟩ rfl (fun _=>rfl) (qQ _) ?_;intro i G1 hG1 hi;refine uR ?_;refine EV.cond rfl (fun hlt=>?_) (fun hlt=>?_)
 ·simp only[nN]at hlt;obtain⟨t,hti⟩:=gE hlt;have hB:=hok t (qF hti);obtain⟨c,hcut,htr⟩:=(hts.mono hG1).get hti;obtain⟨na,nc,css,rfl,_⟩:=id htr;have hst1:=hst.mono hG1;have hval:=fun (G:Hp) (hG:G1.Le G)=>zjd (htr.mono hG) hB.ok (SlC.mono hx (hG1.trans hG)) (by rw[hB.wide]) hxq;have hlb:=zbt hB x;have hs1:=zpU (x:=x) (ts:=ts.take i) (fun t h=>hok t (List.mem_of_mem_take h)) (by rw[qP];omega);rw[←zrc]at hs1;have hadd:=zfD (zaR ((vL x ts).take i)) (zc3 x t).value (zaN hs1 oM) (zaN hlb oM);rw[←zbh,←zai (zrW hti)]at hadd;refine uR ?_;refine EVL.idxM tO rfl rfl rfl rfl rfl rfl rfl rfl rfl (hst1) (i) (rfl) (hlt) (hcut) ?_;refine uR ?_;apply EV.drawn 5 kR kR;intro xv yw;(repeat refine' DD ?_);refine' vC (cO func62) (fun G hG hd=>hval G hG) ?_;rotate_left;(repeat (first|refine' DD ?_|(refine' DC (hadd) (h:=?_);rotate_left)));(refine DJ.nil (fun G2 hG2 hF2=>?_);(case hS|hS2=>rfl));refine uR ?_;exact⟨i+1,⟨by rw[zac i (by omega)];rfl,trivial⟩,sB,⟨rfl,trivial⟩,sB,rfl,hlt,hG2,by omega⟩
 ·simp only[nN]at hlt;obtain rfl:i=ts.length:=oM;have hl1:(vL x ts).take ts.length=vL x ts:=qO (by unfold vL;rw[qV];exact qH _);have hs1:=zpU hok hl;have hm:=zf6 rate (zaR (vL x ts)) (zaN hr oM) (zaN hs1 oM);have hmh:=zdi rate (zaR (vL x ts));have ha:=zfD base (rate*zaR (vL x ts)) (zaN hb oM) (zaN (n:=20000) oM oM);rw[hl1];refine uR ?_
  (apply EV.drawn 7 kR kR;intro xv yw;(repeat (first|refine' DD ?_|(refine' DC (hm) (h:=?_);rotate_left)|(refine' DC (ha) (h:=?_);rotate_left)));refine DJ.nil (fun G hG hF=>?_);(case hS|hS2=>rfl));refine uR ?_;rfl
theorem zhc {H:Hp} {loss w:Int} {W:Nat} {base rate tilt:Rat} {ta:Option Addr} {tc:Nat} {ts:List Tr} {vx:Value} {x:List Rat} (ht':PTL H (.slice ta ts.length tc) ts) (hx':∀t,t∈ts→zgO W t) (hx:QL H vx x) (hxs:∀q,q∈x→ht q≤100) (hb:ht base≤200) (hr:ht rate≤200) (hq:ht tilt≤200) (hl:ts.length≤1000000) :
  PC prog 30 #[.agg (zbM loss w base rate tilt (.slice ta ts.length tc)).toArray,vx] H fun r _=>∃q,r=.tuple #[zaj q,.int .i64 (if zaH loss w rate tilt ts≠0 then 1 else if (x.length:Int)≠w then 5 else 0)]∧(zaH loss w rate tilt ts=0→(x.length:Int)=w→q=zcu base rate ts x)∧(¬(zaH loss w rate tilt ts=0∧(x.length:Int)=w)→q=0):=by
 obtain⟨xa,xc,rfl⟩:=SlC.val hx;have hrf:=zhk (loss:=loss) (w:=w) (base:=base) (xa:=xa) (n:=x.length) (xc:=xc) ht' hx' (zaN hr oM) (zaN hq oM) hl;by_cases h:zaH loss w rate tilt ts=0∧(x.length:Int)=w
 ·obtain⟨_,hlen,_,hall⟩:=zeh h.1;have hans:=zi8 (loss:=loss) (w:=w) (tilt:=tilt) ht' (fun t k=>(hx' t k).b (hall t k) h.2) hx hxs hb hr oM;rw[if_neg (fun k=>k h.1),if_neg (fun k=>k h.2)]at hrf;rw[if_neg (fun k=>k h.1),if_neg (fun k=>k h.2)];refine BD func30 ntmps30 ?_
  repeat (first|refine RUN ?_|refine CV (hrf) ?_|refine CE (hrf) ?_)
  refine vA (hans) ?_;rintro _ G rfl hG;refine uR ?_;exact⟨_,rfl,fun _ _=>rfl,fun k=>absurd h k⟩
 ·have he:(if zaH loss w rate tilt ts≠0 then 1 else if (x.length:Int)≠w then 5 else 0:Int)≠0:=by
   by_cases c:zaH loss w rate tilt ts=0
   ·rw[if_neg (fun k=>k c),if_pos fun k=>h ⟨c,k⟩];decide
   ·rw[if_pos c];decide
  generalize (if zaH loss w rate tilt ts≠0 then 1 else if (x.length:Int)≠w then 5 else 0:Int)=e at *
  refine BD func30 ntmps30 ?_
  repeat (first|refine RUN ?_|refine CV (hrf) ?_|refine CE (hrf) ?_)
  rw[show (e != 0)=true from bne_iff_ne.2 he];refine uR ?_;exact⟨0,by rw[zg8],fun a b=>absurd ⟨a,b⟩ h,fun _=>rfl⟩
noncomputable def zbw (base rate:Rat) (ts:List Tr) (x:List Rat) (n:Nat):List Rat:=(List.range n).map fun i=>zcu base rate (ts.take i) x
theorem zda (base rate:Rat) (ts:List Tr) (x:List Rat) (n:Nat):(zbw base rate ts x n).length=n:=by simp[zbw]
theorem zgw {base rate:Rat} {ts:List Tr} {x:List Rat} {n i:Nat} (h:i<n):(zbw base rate ts x n)[i]?=some (zcu base rate (ts.take i) x):=by
 unfold zbw;rw[qK,List.getElem?_range h];rfl
theorem zff (base rate:Rat) (ts:List Tr) (x:List Rat) (n:Nat):zbw base rate ts x (n+1)=zbw base rate ts x n++[zcu base rate (ts.take n) x]:=by simp[zbw,List.range_succ]
set_option maxRecDepth 100000 in
theorem zlR {H:Hp} {loss w:Int} {W:Nat} {base rate tilt:Rat} {ta:Option Addr} {tc:Nat} {ts:List Tr} {vx:Value} {x:List Rat} (ht':PTL H (.slice ta ts.length tc) ts) (hx':∀t,t∈ts→zgO W t) (hx:QL H vx x) (hxs:∀q,q∈x→ht q≤100) (hb:ht base≤200) (hr:ht rate≤200) (hq:ht tilt≤200) (hl:ts.length≤1000000) :
  PC prog 37 #[.agg (zbM loss w base rate tilt (.slice ta ts.length tc)).toArray,vx] H fun r G=>∃v,r=.tuple #[v,.int .i64 (if zaH loss w rate tilt ts≠0 then 1 else if (x.length:Int)≠w then 5 else 0)]∧(zaH loss w rate tilt ts=0→(x.length:Int)=w→QL G v (zbw base rate ts x (ts.length+1)))∧(¬(zaH loss w rate tilt ts=0∧(x.length:Int)=w)→v=.slice none 0 0):=by
 obtain⟨xa,xc,rfl⟩:=SlC.val hx;have hrf:=zhk (loss:=loss) (w:=w) (base:=base) (xa:=xa) (n:=x.length) (xc:=xc) ht' hx' (zaN hr oM) (zaN hq oM) hl;by_cases h:zaH loss w rate tilt ts=0∧(x.length:Int)=w
 case neg =>
  have he:(if zaH loss w rate tilt ts≠0 then 1 else if (x.length:Int)≠w then 5 else 0:Int)≠0:=by
   by_cases c:zaH loss w rate tilt ts=0
   ·rw[if_neg (fun k=>k c),if_pos fun k=>h ⟨c,k⟩];decide
   ·rw[if_pos c];decide
  generalize (if zaH loss w rate tilt ts≠0 then 1 else if (x.length:Int)≠w then 5 else 0:Int)=e at *
  refine BD func37 ntmps37 ?_
  repeat (first|refine RUN ?_|refine CV (hrf) ?_|refine CE (hrf) ?_)
  rw[show (e != 0)=true from bne_iff_ne.2 he];refine uR ?_;exact⟨_,rfl,fun a b=>absurd ⟨a,b⟩ h,fun _=>rfl⟩
 obtain⟨_,hlen,_,hall⟩:=zeh h.1;have hok:∀t,t∈ts→zcJ x.length t:=fun t k=>(hx' t k).b (hall t k) h.2;rw[if_neg (fun k=>k h.1),if_neg (fun k=>k h.2)]at hrf;rw[if_neg (fun k=>k h.1),if_neg (fun k=>k h.2)];obtain⟨tcs,hts,hst⟩:=ht';have hxq:∀q,q∈x→sm q:=fun q hq=>zaN (hxs q hq) oM
 have h1:zbw base rate ts x (0+1)=[base]:=by
  rw[zff,List.take_zero,zhB];rfl
 refine BD func37 ntmps37 ?_
 repeat (first|refine RUN ?_|refine CV (hrf) ?_|refine CE (hrf) ?_)
 refine EVL.lit tO rfl rfl rfl rfl rfl rfl rfl rfl rfl rfl rfl fun bl=>?_;refine uR ?_;refine EV.loopK (ι:=Nat × Value × Ows) [1,2,20,21] [2] (fun q=>[(7,.v q.2.1),(22,.v (.int .i64 (q.1:Int)))]) (fun _=>[]) (fun q=>q.2.2) (fun q G=>q.1≤ts.length∧zaA 51 5 q.2.1 (q.1+1) ((zbw base rate ts x (q.1+1)).flatMap fun q=>zae (zaj q)) q.2.2) (fun q=>ts.length-q.1) ((0,.slice (some ⟨bl,0,none⟩) 1 1,[(bl,_,_)])) rfl rfl ⟨rfl,rfl,trivial⟩ trivial rfl (fun _=>rfl) (⟨qQ _,by rw[h1];exact zaA.full (m:=1) rfl oM⟩) ?_;rintro⟨i,v7,ow7⟩ G1 hG1 ⟨hi,hown⟩;dsimp only at hi hown;refine uR ?_;refine EV.cond rfl (fun hlt=>?_) (fun hlt=>?_)
 ·simp only[nN]at hlt;obtain⟨t,hti⟩:=gE hlt;have hB:=hok t (qF hti);obtain⟨c,hcut,htr⟩:=(hts.mono hG1).get hti;obtain⟨na,nc,css,rfl,_⟩:=id htr;have hst1:=hst.mono hG1;have hval:=fun (G:Hp) (hG:G1.Le G)=>zjd (htr.mono hG) hB.ok (SlC.mono hx (hG1.trans hG)) (by rw[hB.wide]) hxq;have hlb:=zbt hB x;have hsh:ht (zcu base rate (ts.take i) x)≤400000:=zdp (w:=0) hb hr (by rw[qP];omega) fun t' h'=>qI (zbt (hok t' (List.mem_of_mem_take h')) x) oM;have hm:=zf6 rate (zc3 x t).value (zaN hr oM) (zaN hlb oM);have hmh:=zdi rate (zc3 x t).value;have hadd:=zfD (zcu base rate (ts.take i) x) (rate*(zc3 x t).value) (zaN hsh oM) (zaN (n:=1000) oM oM);rw[←zfF,←zai hti]at hadd;have hgi:=zgw (base:=base) (rate:=rate) (ts:=ts) (x:=x) (Nat.lt_succ_self i);have hsn:=zff base rate ts x (i+1);rcases hown.2 with ⟨_,e,_⟩ | ⟨g,cap,sp,rfl,rfl,c1,c2,c3⟩
  ·omega
  refine uR ?_;refine EVL.idxM tO rfl rfl rfl rfl rfl rfl rfl rfl rfl (hst1) (i) (rfl) (hlt) (hcut) ?_;refine uR ?_;apply EV.drawn 13 kR kR;intro xv yw;(repeat refine' DD ?_);refine' DJ.idxB tO rfl rfl rfl rfl rfl rfl rfl rfl rfl (i) (i*5) (rfl) (oM) (rfl) ?_;rotate_left;refine' DJ.ofVal (zab.loadOwn tO rfl rfl rfl rfl (0) rfl (zcB (fun y hy=>(by obtain⟨q,_,rfl⟩:=List.mem_map.1 hy;rfl)) sp hgi) rfl rfl) rfl rfl rfl ?_;rotate_left;(repeat refine' DD ?_);refine' vC (cO func62) (fun G hG hd=>hval G hG) ?_;rotate_left;(repeat (first|refine' DD ?_|(refine' DC (hm) (h:=?_);rotate_left)|(refine' DC (hadd) (h:=?_);rotate_left)));(refine' DJ.lit tO rfl rfl rfl rfl rfl rfl rfl rfl rfl rfl rfl rfl ?_;rotate_left);(refine DJ.nil (fun G2 hG2 hF2=>?_);(case hS|hS2=>rfl));refine EVL.append tO rfl rfl rfl rfl rfl rfl rfl rfl rfl rfl rfl rfl [] [(g,_,_)] [] (qG _).symm hown (zb2.ro hF2.1 oM) rfl oM ?_;intro v' ow' hown';refine uR ?_;exact⟨(i+1,v',ow'),⟨rfl,by rw[zac i (by omega)];rfl,trivial⟩,sB,trivial,sB,qG _,⟨hlt,by dsimp only;rw[hsn,List.flatMap_append];exact hown'⟩,hG2,by dsimp only;omega⟩
 ·simp only[nN]at hlt;obtain rfl:i=ts.length:=oM;obtain⟨a7,c7,rfl⟩:=hown.val;(first|refine EVL.publishL [] ow7 [] ((qG _).symm) hown fun G2 hG2 hs2=>?_|refine EV.publishL [] ow7 [] ((qG _).symm) hown fun G2 hG2 hs2=>?_);refine uR ?_;refine⟨_,rfl,fun _ _=>?_,fun k=>absurd h k⟩;show SlC G2 _ (zbw base rate ts x (ts.length+1)).length 5 _;rw[zda];exact hs2
abbrev zrN (loss rounds deep least:Int) (rate tilt gain:Rat):List Value:=.int .i64 loss::.int .i64 rounds::(zae (zaj rate)++(zae (zaj tilt)++(.int .i64 deep::.int .i64 least::zae (zaj gain))))
set_option maxRecDepth 100000 in
theorem zlX {H:Hp} {loss:Int} {v:Value} {l:List Rat} {tilt:Rat} (hl:QL H v l) (h0:1≤l.length) (h8:l.length≤12) (hb:∀q,q∈l→ht q≤100) (htl:loss≠1→0<tilt∧tilt<1) (hht:ht tilt≤10) :
  PC prog 57 #[.int .i64 loss,zaj tilt,v] H fun r _=>r=zaj (zoo loss tilt l):=by
 obtain⟨va,vc,rfl⟩:=SlC.val hl;have hsm:∀q,q∈l→sm q:=fun q hq=>zaN (hb q hq) oM;refine BD func57 ntmps57 ?_;by_cases k1:loss=1
 ·subst k1;rw[show zoo 1 tilt l=zbP l from if_pos rfl];refine uR ?_;rw[show ((1:Int) == 1)=true from rfl];refine uR ?_;refine EVL.call rfl rfl rfl rfl rfl (zm8 hl oM hb) ?_;rintro _ G rfl hG;refine uR ?_;rfl
 ·rw[show zoo loss tilt l=zjQ tilt l from if_neg k1];refine uR ?_;rw[show (loss == 1)=false from pP.2 k1];refine uR ?_;obtain⟨t0,t1⟩:=htl k1;refine vA (zph hl h8 hsm) ?_;intro r G hs hG;have hsl:(zb1 l).length=l.length:=(zbT l).length_eq;obtain⟨sa,sc,rfl⟩:=SlC.val hs;have hst:sm tilt:=zaN hht oM;have hlh:=zdh (l.length:Int);have hlb:bl (l.length:Int).natAbs≤20:=zaU oM;have ho:=zlP (l.length:Int) oM oM;have hm:=zf6 tilt ((l.length:Int):Rat) hst (zaN (n:=30) oM oM);have hmh:=zdi tilt ((l.length:Int):Rat);have hkl:=zfu (a:=tilt) t1 h0;have hsS:SlC G (.slice sa (zb1 l).length sc) (zb1 l).length 5 ((zb1 l).flatMap fun q=>zae (zaj q)):=hs;rw[hsl]at hsS ⊢;refine uR ?_;apply EV.drawn 6 kR kR;intro xv yw;(repeat (first|refine' DD ?_|(refine' DC (ho) (h:=?_);rotate_left)|(refine' DC (hm) (h:=?_);rotate_left)));(refine DJ.nil (fun G5 hG5 hF5=>?_);(case hS|hS2=>rfl));refine uR ?_;refine EV.loopK (ι:=Nat) [6,9,27,28] [6,9] (fun q=>[(29,.v (.int .i64 (q:Int)))]) (fun _=>[]) (fun _=>[]) (fun q G'=>q≤zgV tilt l.length∧G.Le G') (fun q=>l.length-q) (0) rfl rfl ⟨rfl,trivial⟩ trivial rfl (fun _=>rfl) (⟨qQ _,hG5⟩) ?_;rintro k G2 hG2 ⟨hk,hGG2⟩;have hkl2:k<(zb1 l).length:=oM;obtain⟨x,hx⟩:∃x,(zb1 l)[k]?=some x:=⟨_,qA hkl2⟩;have hkh:=zdh ((k+1:Nat):Int);have hkb:bl ((k+1:Nat):Int).natAbs≤20:=zaU oM;have ho2:=zlP ((k+1:Nat):Int) oM oM;have hc2:=zfN (((k+1:Nat):Int):Rat) (tilt*((l.length:Int):Rat)) (zaN (n:=30) oM oM) (zaN (n:=100) oM oM);refine uR ?_;rw[qD (show (k:Int)<(l.length:Int) by omega)];refine uR ?_;refine EVL.idxM tO rfl rfl rfl rfl rfl rfl rfl rfl rfl ((hsS.mono hGG2)) (k) (rfl) (oM) ((QL.at (H:=H) (v:=.bool true) hx)) ?_;refine uR ?_;apply EV.drawn 6 kR kR;intro xv yw;(repeat refine' DD ?_);rw[zac k (by omega)];(repeat (first|refine' DD ?_|(refine' DC (ho2) (h:=?_);rotate_left)|(refine' DC (hc2) (h:=?_);rotate_left)));(refine DJ.nil (fun G6 hG6 hF6=>?_);(case hS|hS2=>rfl));by_cases hc:tilt*((l.length:Int):Rat)≤(((k+1:Nat):Int):Rat)
  ·rw[qD (show zco (((k+1:Nat):Int):Rat) (tilt*((l.length:Int):Rat))≥0 from Int.not_lt.1 fun c=>absurd ((zdw _ _).1 c) (Rat.not_lt.2 hc))];have hke:=zlb t1 h0 hc fun j hj=>zgz (Nat.lt_of_lt_of_le hj hk)
   have hmx:zjQ tilt l=x:=by
    unfold zjQ;rw[←hke,qB,hx];rfl
   rw[hmx];refine uR ?_;rfl
  ·rw[qC (show ¬zco (((k+1:Nat):Int):Rat) (tilt*((l.length:Int):Rat))≥0 from fun c=>hc (Rat.not_lt.1 fun q=>absurd ((zdw _ _).2 q) oM))];refine uR ?_;refine⟨k+1,⟨by rw[zac k (by omega)];rfl,trivial⟩,sB,trivial,sB,rfl,⟨?_,hGG2.trans hG6⟩,hG6,by omega⟩;rcases Nat.lt_or_eq_of_le hk with h | h
   ·exact h
   ·exact absurd (zih t1 h0) (by rw[←h];exact hc)
set_option maxRecDepth 100000 in
theorem zjc {H:Hp} {vx:Value} {X:List (List Rat)} {w:Nat} (hX:QLL H vx X) (hw:∀x,x∈X→x.length=w) (h0:1≤X.length) (hn:X.length≤300) (h1:1≤w) (h2:w≤20):PC prog 54 #[vx] H fun r _=>r=.bool true:=by
 obtain⟨vs,hvs,hvx⟩:=id hX;obtain⟨xa,xc,rfl⟩:=hX.val;obtain⟨x0,hxx0⟩:=gE h0;obtain⟨u0,e0,hu0,_⟩:=hvs.at hxx0;rw[hw x0 (qF hxx0)]at hu0;refine BD func54 ntmps54 ?_;refine uR ?_;rw[qC (show ¬(X.length:Int)<1 by omega)];refine uR ?_;rw[qC (show ¬(X.length:Int)>300 by omega)];refine uR ?_;refine vI (hvx) (0) (rfl) (h0) (hu0) ?_;refine uR ?_;rw[qC (show ¬(w:Int)<1 by omega)];refine uR ?_;refine vI (hvx) (0) (rfl) (h0) (hu0) ?_;refine uR ?_;rw[qC (show ¬(w:Int)>20 by omega)];refine uR ?_;refine EV.loopK (ι:=Nat) [0,27,28] [] (fun q=>[(29,.v (.int .i64 (q:Int)))]) (fun _=>[]) (fun _=>[]) (fun q G=>q≤X.length∧H.Le G) (fun q=>X.length-q) (0) rfl rfl ⟨rfl,trivial⟩ trivial rfl (fun _=>rfl) (⟨qQ _,Hp.Le.refl _⟩) ?_;rintro i G hG ⟨hi,hHG⟩;refine uR ?_;refine EV.cond rfl (fun hlt=>?_) (fun hlt=>?_)
 ·simp only[nN]at hlt;obtain⟨x,hx⟩:=gE hlt;obtain⟨u,e,hu,_⟩:=hvs.at hx;rw[hw x (qF hx)]at hu;have hvG:=hvx.mono hHG;refine uR ?_;refine vI (hvG) (i) (rfl) (hlt) (hu) ?_;refine uR ?_;refine vI (hvG) (0) (rfl) (h0) (hu0) ?_;refine uR ?_;rw[show ((w:Int) != (w:Int))=false from pO _];refine uR ?_;exact⟨i+1,⟨by rw[zac i (by omega)];rfl,trivial⟩,sB,trivial,sB,rfl,⟨hlt,hHG⟩,Hp.Le.refl _,by omega⟩
 ·simp only[nN]at hlt;refine uR ?_;rfl
set_option maxRecDepth 100000 in
theorem zlG {H:Hp} {loss w:Int} {W:Nat} {base rate tilt:Rat} {b1 b2 b3:Bool} {a1 a2 a3 a4 a5 a6 ta:Option Addr} {l1 c1 l2 c2 l3 c3 l4 c4 l5 c5 l6 c6 tc:Nat} {ts:List Tr}
  (hbs:RQ H (.agg (rc b1 a1 l1 c1 a2 l2 c2).toArray) base) (hrt:RQ H (.agg (rc b2 a3 l3 c3 a4 l4 c4).toArray) rate) (hti:RQ H (.agg (rc b3 a5 l5 c5 a6 l6 c6).toArray) tilt) (ht:RTL H (.slice ta ts.length tc) ts) (hx:∀t,t∈ts→zgO W t) (q1:rq base) (q2:rq rate) (q3:rq tilt) (hl:ts.length≤1000000) :
  PC prog 35 #[.agg (zaa loss w (rc b1 a1 l1 c1 a2 l2 c2) (rc b2 a3 l3 c3 a4 l4 c4) (rc b3 a5 l5 c5 a6 l6 c6) (.slice ta ts.length tc)).toArray] H fun r G=>∃a c,r=.agg (zbM loss w base rate tilt (.slice a ts.length c)).toArray∧PTL G (.slice a ts.length c) ts:=by
 have hsmall:∀t,t∈ts→t.ns.length≤1000000∧∀n,n∈t.ns→zgW n:=fun t h=>by
  have k:=hx t h;refine⟨qI k.len oM,fun n hn=>?_⟩;rcases k.ok with e | e
  ·rw[e]at hn;cases hn
  ·exact e.smallN n hn
 refine BD func35 ntmps35 ?_;refine uR ?_;apply EV.drawn 17 kR kR;intro xv yw;(repeat refine' DD ?_);refine' vC (cO func63) (fun G hG hd=>zfY (RQ.mono hbs hG) q1) ?_;rotate_left;(repeat refine' DD ?_);refine' vC (cO func63) (fun G hG hd=>zfY (RQ.mono hrt hG) q2) ?_;rotate_left;(repeat refine' DD ?_);refine' vC (cO func63) (fun G hG hd=>zfY (RQ.mono hti hG) q3) ?_;rotate_left;(repeat refine' DD ?_);refine' vB (cO func100) (fun G hG hd=>zlH (ht.mono hG) hsmall hl) (fun _ _ _ h k=>PTL.mono h k) ?_;rotate_left
 (refine' DJ.plainE tO (fun v G=>∃a c,v=.agg (zbM loss w base rate tilt (.slice a ts.length c)).toArray∧PTL G (.slice a ts.length c) ts) (fun v G G' ⟨a,c,e,h⟩ k=>⟨a,c,e,h.mono k⟩) rfl rfl rfl (fun G hd=>(by
  have hq:=show PTL G (xv 15) ts from hd.head kR;obtain⟨tcs,h1,h2⟩:=id hq;obtain⟨a,c,e⟩:=SlC.val h2;rw[e]at hq;rw[e];exact⟨_,rfl,a,c,rfl,hq⟩)) ?_;rotate_left)
 (refine DJ.nil (fun G1 hG1 hF1=>?_);(case hS|hS2=>rfl));obtain⟨⟨a,c,e,h⟩,_⟩:=hF1;rw[e];refine uR ?_;exact⟨a,c,rfl,h⟩
def zc5 (loss:Int) (tilt t:Rat):Rat:=if loss=1 then t*t else if 0≤t then tilt*t else (tilt-1)*t
theorem zoR {loss:Int} {tilt t:Rat} (h1:ht tilt≤20):ht (zc5 loss tilt t)≤ht t+ht t+40:=by
 have h2:=zdi t t;have h3:=zdi tilt t;have h4:=zdi (tilt-1) t;have h5:=zeo tilt 1;have h6:ht 1≤2:=by decide +kernel
 unfold zc5;split
 ·omega
 split
 ·omega
 ·omega
theorem zid {q:Rat}:q.num.sign≥0↔0≤q:=⟨fun h=>Rat.num_nonneg.1 (Int.sign_nonneg_iff.1 h),fun h=>Int.sign_nonneg_iff.2 (Rat.num_nonneg.2 h)⟩
set_option maxRecDepth 100000 in
theorem zo3 {loss:Int} {tilt t:Rat} (h1:ht tilt≤20) (h2:ht t≤10000000):PV prog 99 #[.int .i64 loss,zaj tilt,zaj t] (zaj (zc5 loss tilt t)):=by
 refine PV.of_pc ?_;have st:sm t:=zaN h2 oM;have sa:sm tilt:=zaN h1 oM;have s1:ht 1≤2:=by decide +kernel
 have h5:=zeo tilt 1;have m1:=zf6 t t st st;have m2:=zf6 tilt t sa st;have m3:=zf6 (tilt-1) t (zaN (n:=30) oM oM) st;have ho:=zlP 1 oM oM;rw[show ((1:Int):Rat)=1 from rfl]at ho;have hb:=zn2 tilt 1 sa (zaN s1 oM);have hs:=zb6 t (qI st.num oM);refine BD func99 ntmps99 ?_;refine uR ?_;by_cases e1:loss=1
 ·rw[show (loss == 1)=true from beq_iff_eq.2 e1,show zc5 loss tilt t=t*t from if_pos e1]
  repeat (first|refine RUN ?_|refine CV (m1) ?_|refine CE (m1) ?_)
  rfl
 rw[show (loss == 1)=false from pP.2 e1]
 repeat (first|refine RUN ?_|refine CV (hs) ?_|refine CE (hs) ?_)
 by_cases e2:0≤t
 ·rw[qD (zid.2 e2),show zc5 loss tilt t=tilt*t by unfold zc5;rw[if_neg e1,if_pos e2]]
  repeat (first|refine RUN ?_|refine CV (m2) ?_|refine CE (m2) ?_)
  rfl
 rw[qC (fun k=>e2 (zid.1 k)),show zc5 loss tilt t=(tilt-1)*t by unfold zc5;rw[if_neg e1,if_neg e2]];refine uR ?_;apply EV.drawn 5 kR kR;intro xv yw;(repeat (first|refine' DD ?_|(refine' DC (ho) (h:=?_);rotate_left)|(refine' DC (hb) (h:=?_);rotate_left)|(refine' DC (m3) (h:=?_);rotate_left)));(refine DJ.nil (fun G1 hG1 hF1=>?_);(case hS|hS2=>rfl));refine uR ?_;rfl
set_option maxRecDepth 100000 in
theorem zl3 {H:Hp} {b1 b2:Bool} {a1 a2 a3 a4:Option Addr} {l1 c1 l2 c2 l3 c3 l4 c4:Nat} {tilt t:Rat} (ht':RQ H (.agg (rc b1 a1 l1 c1 a2 l2 c2).toArray) t) (hti:RQ H (.agg (rc b2 a3 l3 c3 a4 l4 c4).toArray) tilt) (h1:ht tilt≤20) (h2:ht t≤10000000) :
  PC prog 105 #[.agg (rc b1 a1 l1 c1 a2 l2 c2).toArray,.agg (rc b2 a3 l3 c3 a4 l4 c4).toArray] H fun r G=>RQ G r (zc5 2 tilt t):=by
 have s1:ht 1≤2:=by decide +kernel
 have h5:=zeo tilt 1;have hs:=zbA ht';have ho:=fun G:Hp=>zaF (H:=G) 1 oM oM;rw[show ((1:Int):Rat)=1 from rfl]at ho;refine BD func105 ntmps105 ?_
 repeat (first|refine RUN ?_|refine CV (hs) ?_|refine CE (hs) ?_)
 by_cases e2:0≤t
 ·rw[qD (zid.2 e2),show zc5 2 tilt t=tilt*t by unfold zc5;rw[if_neg (by decide),if_pos e2]];refine uR ?_;refine EVL.call rfl rfl rfl rfl rfl (zcg hti ht' (zao h1 oM) (zao h2 oM)) ?_;rintro r G hr hG;obtain⟨_,_,_,_,_,_,rfl,_⟩:=id hr;refine uR ?_;exact hr
 rw[qC (fun k=>e2 (zid.1 k)),show zc5 2 tilt t=(tilt-1)*t by unfold zc5;rw[if_neg (by decide),if_neg e2]];refine uR ?_;apply EV.drawn 5 kR kR;intro xv yw;(repeat refine' DD ?_);refine' vB (cO func13) (fun G hG hd=>ho G) (fun _ _ _ h k=>RQ.mono h k) ?_;rotate_left;refine' vB (cO func69) (fun G hG hd=>zcq (RQ.mono hti hG) (hd.head kR) (zao h1 oM) (zao s1 oM)) (fun _ _ _ h k=>RQ.mono h k) ?_;rotate_left;(repeat refine' DD ?_);refine' vB (cO func104) (fun G hG hd=>zcg (hd.head kR) (RQ.mono ht' hG) (zao (k:=30) oM oM) (zao h2 oM)) (fun _ _ _ h k=>RQ.mono h k) ?_;rotate_left;(refine DJ.nil (fun G1 hG1 hF1=>?_);(case hS|hS2=>rfl));have hR:=hF1.1;obtain⟨_,_,_,_,_,_,e,_⟩:=id hR;rw[e]at hR ⊢;refine uR ?_;exact hR
noncomputable def zcv (loss:Int) (base rate tilt:Rat) (ts:List Tr) (X:List (List Rat)) (y:List Rat):List Rat:=List.zipWith (fun x q=>zc5 loss tilt (q-zcu base rate ts x)) X y
theorem ziT {loss:Int} {base rate tilt:Rat} {ts:List Tr} {X:List (List Rat)} {y:List Rat} {i:Nat} {x:List Rat} {q:Rat} (h1:X[i]?=some x) (h2:y[i]?=some q):(zcv loss base rate tilt ts X y)[i]?=some (zc5 loss tilt (q-zcu base rate ts x)):=zbU h1 h2
theorem ziU (loss:Int) (base rate tilt:Rat) (ts:List Tr) {X:List (List Rat)} {y:List Rat} (h:y.length=X.length):(zcv loss base rate tilt ts X y).length=X.length:=by
 unfold zcv;rw[List.length_zipWith];omega
theorem zhS {loss:Int} {base rate tilt:Rat} {ts:List Tr} {X:List (List Rat)} {y:List Rat} {W:Nat} (hb:ht base≤200) (hr:ht rate≤200) (hti:ht tilt≤20) (hl:ts.length≤60) (hok:∀t,t∈ts→zcJ W t) (hy:∀q,q∈y→ht q≤100):∀q,q∈zcv loss base rate tilt ts X y→ht q≤1000000:=fun q hq=>by
 obtain⟨i,hi⟩:=List.mem_iff_getElem?.1 hq;unfold zcv at hi;rw[List.getElem?_zipWith]at hi
 cases hx:X[i]? with
 | none=>rw[hx]at hi;cases hi
 | some x =>
  cases hy':y[i]? with
  | none=>rw[hx,hy']at hi;cases hi
  | some p =>
   rw[hx,hy']at hi;cases hi;have h1:=hy p (qF hy');have h2:=zdp (base:=base) (rate:=rate) (ts:=ts) (x:=x) (w:=W) hb hr hl fun t h=>qI (zbt (hok t h) x) oM;have h3:=zeo p (zcu base rate ts x);have h4:=zoR (loss:=loss) (t:=p-zcu base rate ts x) hti;omega
theorem zhT {loss:Int} {base rate tilt:Rat} {ts:List Tr} {X:List (List Rat)} {y:List Rat} {W i:Nat} (hb:ht base≤200) (hr:ht rate≤200) (hti:ht tilt≤20) (hl:ts.length≤60) (hok:∀t,t∈ts→zcJ W t) (hy:∀q,q∈y→ht q≤100) (hX:X.length≤20):ht (zaR ((zcv loss base rate tilt ts X y).take i))≤30000000:=by
 have h1:=zdW 1000000 ((zcv loss base rate tilt ts X y).take i) fun q hq=>zhS hb hr hti hl hok hy q (List.mem_of_mem_take hq)
 have h2:((zcv loss base rate tilt ts X y).take i).length≤20:=by
  rw[qP];unfold zcv;rw[List.length_zipWith];omega
 have h3:=qb (1000000+1) h2;omega
set_option maxRecDepth 100000 in
theorem zl0 {H:Hp} {loss:Int} {W:Nat} {base rate tilt:Rat} {b1 b2 b3:Bool} {a1 a2 a3 a4 a5 a6 ta:Option Addr} {l1 c1 l2 c2 l3 c3 l4 c4 l5 c5 l6 c6 tc:Nat} {ts:List Tr} {vx vy:Value} {X:List (List Rat)} {y:List Rat}
  (hls:loss=1∨loss=2) (hbs:RQ H (.agg (rc b1 a1 l1 c1 a2 l2 c2).toArray) base) (hrt:RQ H (.agg (rc b2 a3 l3 c3 a4 l4 c4).toArray) rate) (htl:RQ H (.agg (rc b3 a5 l5 c5 a6 l6 c6).toArray) tilt) (ht':RTL H (.slice ta ts.length tc) ts) (hok:∀t,t∈ts→zcJ W t)
  (hX:RLL H vx X) (hy:RL H vy y) (hyl:y.length=X.length) (hXw:∀x,x∈X→x.length=W∧∀q,q∈x→ht q≤100) (hy100:∀q,q∈y→ht q≤100) (hXl:X.length≤20) (hb:ht base≤200) (hr:ht rate≤200) (hti:ht tilt≤20) (hl:ts.length≤60) :
  PC prog 39 #[.agg (zaa loss (W:Int) (rc b1 a1 l1 c1 a2 l2 c2) (rc b2 a3 l3 c3 a4 l4 c4) (rc b3 a5 l5 c5 a6 l6 c6) (.slice ta ts.length tc)).toArray,vx,vy] H fun r G=>RQ G r (zaR (zcv loss base rate tilt ts X y)):=by
 obtain⟨vs,hvs,hvx⟩:=id hX;obtain⟨xa,xc,rfl⟩:=hX.val;obtain⟨ya,yc,rfl⟩:=hy.val;have hLl:=ziU loss base rate tilt ts hyl;have hof:=zaF (H:=H) 0 oM oM;rw[show ((0:Int):Rat)=zaR ((zcv loss base rate tilt ts X y).take 0) by rw[List.take_zero];rfl]at hof;refine BD func39 ntmps39 ?_;refine uR ?_;refine vA (hof) ?_;rintro r1 G1 h1 hG1;obtain⟨_,_,_,_,_,_,e,_,_⟩:=id h1;rw[e]at h1 ⊢;clear e r1;refine uR ?_;refine EV.loopK (ι:=Nat × Value × Value × Value) [1,2,3,6,7] [3,6] (fun q=>[(8,.v (.int .i64 (q.1:Int)))]) (fun q=>[(7,33,[q.2.1,q.2.2.1,q.2.2.2])]) (fun _=>[]) (fun q G=>q.1≤X.length∧H.Le G∧RQ G (.agg #[q.2.1,q.2.2.1,q.2.2.2]) (zaR ((zcv loss base rate tilt ts X y).take q.1))) (fun q=>X.length-q.1) ((0,_,_,_)) rfl rfl ⟨rfl,trivial⟩ ⟨rfl,trivial⟩ rfl (fun _=>rfl) (⟨qQ _,hG1,h1⟩) ?_;rintro⟨i,s1,s2,s3⟩ G2 hG2 ⟨hi,hH2,hs⟩;dsimp only at hi hs hH2;refine uR ?_;refine EV.cond rfl (fun hlt=>?_) (fun hlt=>?_)
 ·simp only[nN]at hlt
  (try refine zp1 ?_);refine EV.meetK (ι:=Value × Value × Value) [1,2,3,6,7,8] [3,6] (fun _=>[]) (fun q=>[(7,33,[q.1,q.2.1,q.2.2])]) (fun _=>[]) (fun q G=>G2.Le G∧RQ G (.agg #[q.1,q.2.1,q.2.2]) (zaR ((zcv loss base rate tilt ts X y).take (i+1)))) rfl rfl (fun _=>rfl) ?_ ?_
  ·obtain⟨x,hxi⟩:=gE hlt;obtain⟨ux,ex,hux,hxl⟩:=hvs.at hxi;obtain⟨q,hqi⟩:∃q,y[i]?=some q:=⟨_,qA oM⟩;obtain⟨hxw,hx100⟩:=hXw x (qF hxi);obtain⟨ycs,yb,ya1,yl1,yc1,ya2,yl2,yc2,hyS2,hycut,hyq⟩:=(hy.mono hH2).slc hqi;have hvx2:=hvx.mono hH2;have hq100:=hy100 q (qF hqi);have hgt:=ziT (loss:=loss) (base:=base) (rate:=rate) (tilt:=tilt) (ts:=ts) hxi hqi;have hans:=fun (G:Hp) (hG:H.Le G)=>zh4 (loss:=loss) (b3:=b3) (a5:=a5) (l5:=l5) (c5:=c5) (a6:=a6) (l6:=l6) (c6:=c6) (hbs.mono hG) (hrt.mono hG) (ht'.mono hG) hok (hxl.mono hG) hxw hx100 hb hr hl;have hsb:ht (zcu base rate ts x)≤400000:=zdp (w:=W) hb hr hl fun t h=>qI (zbt (hok t h) x) oM;have hsu:=zeo q (zcu base rate ts x);have hlh:=zhS (loss:=loss) hb hr hti hl hok hy100 _ (qF hgt);have hS:=zhT (loss:=loss) (i:=i) hb hr hti hl hok hy100 hXl;have hSn:=zbh ((zcv loss base rate tilt ts X y).take i) (zc5 loss tilt (q-zcu base rate ts x));rw[←zai hgt]at hSn;refine uR ?_;apply EV.drawn 12 kR kR;intro xv yw;(repeat refine' DD ?_);refine' DJ.idxM tO rfl rfl rfl rfl rfl rfl rfl rfl rfl (hyS2) (i) (rfl) (oM) (hycut) ?_;rotate_left;(repeat refine' DD ?_);refine' vJ (hvx2) (i) (rfl) (hlt) (hux) ?_;rotate_left;(repeat refine' DD ?_);refine' vB (cO func40) (fun G hG hd=>hans G (hH2.trans hG)) (fun _ _ _ h k=>RQ.mono h k) ?_;rotate_left;refine' vB (cO func69) (fun G hG hd=>zcq (hyq.mono hG) (hd.head kR) (zao hq100 oM) (zao hsb oM)) (fun _ _ _ h k=>RQ.mono h k) ?_;rotate_left;(repeat refine' DD ?_);(refine DJ.nil (fun G3 hG3 hF3=>?_);(case hS|hS2=>rfl));have hR:=hF3.1;have hH3:=hH2.trans hG3;have hs3:=hs.mono hG3;have htl3:=htl.mono hH3;generalize q-zcu base rate ts x=t at *
   obtain⟨za1,zl1,zc1,za2,zl2,zc2,e,_⟩:=id hR;rw[e]at hR ⊢;clear e;refine uR ?_;rcases hls with rfl | rfl
   ·rw[show zc5 1 tilt t=t*t from if_pos rfl]at *
    refine uR ?_;apply EV.drawn 5 kR kR;intro xv yw;(repeat refine' DD ?_);refine' vB (cO func104) (fun G hG hd=>zcg (hR.mono hG) (hR.mono hG) (zao (k:=500000) oM oM) (zao (k:=500000) oM oM)) (fun _ _ _ h k=>RQ.mono h k) ?_;rotate_left;refine' vB (cO func103) (fun G hG hd=>zb0 (hs3.mono hG) (hd.head kR) (zao hS oM) (zao hlh oM)) (fun _ _ _ h k=>RQ.mono h k) ?_;rotate_left;(refine DJ.nil (fun G4 hG4 hF4=>?_);(case hS|hS2=>rfl));have hR4:=hF4.1;rw[←hSn]at hR4;obtain⟨_,_,_,_,_,_,e,_,_⟩:=id hR4;rw[e]at hR4 ⊢;clear e;refine uR ?_;exact⟨(_,_,_),trivial,sB,⟨rfl,trivial⟩,sB,rfl,(hG3.trans hG4),hR4⟩
   ·have cT:=fun (G:Hp) (hG:G3.Le G)=>zl3 (hR.mono hG) (htl3.mono hG) hti (show ht t≤10000000 by omega);refine uR ?_;apply EV.drawn 6 kR kR;intro xv yw;(repeat refine' DD ?_);refine' vB (cO func105) (fun G hG hd=>cT G hG) (fun _ _ _ h k=>RQ.mono h k) ?_;rotate_left;refine' vB (cO func103) (fun G hG hd=>zb0 (hs3.mono hG) (hd.head kR) (zao hS oM) (zao hlh oM)) (fun _ _ _ h k=>RQ.mono h k) ?_;rotate_left;(refine DJ.nil (fun G4 hG4 hF4=>?_);(case hS|hS2=>rfl));have hR4:=hF4.1;rw[←hSn]at hR4;obtain⟨_,_,_,_,_,_,e,_,_⟩:=id hR4;rw[e]at hR4 ⊢;clear e;refine uR ?_;exact⟨(_,_,_),trivial,sB,⟨rfl,trivial⟩,sB,rfl,(hG3.trans hG4),hR4⟩
  rintro⟨s4,s5,s6⟩ G4 ⟨hH4,hs4⟩;dsimp only at hH4 hs4;refine uR ?_;exact⟨(i+1,s4,s5,s6),⟨by rw[zac i (by omega)];rfl,trivial⟩,sB,⟨rfl,trivial⟩,sB,rfl,⟨hlt,hH2.trans hH4,hs4⟩,hH4,by dsimp only;omega⟩
 ·simp only[nN]at hlt;obtain rfl:i=X.length:=oM;rw[show X.length=(zcv loss base rate tilt ts X y).length from hLl.symm,qa]at hs;obtain⟨_,_,_,_,_,_,e,_,_⟩:=id hs;obtain⟨rfl,rfl,rfl⟩:=zr2 e;refine uR ?_;exact hs
set_option maxRecDepth 100000 in
theorem zoZ {H:Hp} {loss:Int} {W:Nat} {base rate tilt:Rat} {ta:Option Addr} {tc:Nat} {ts:List Tr} {vx vy:Value} {X:List (List Rat)} {y:List Rat} (ht':PTL H (.slice ta ts.length tc) ts) (hok:∀t,t∈ts→zcJ W t) (hc:zaH loss (W:Int) rate tilt ts=0)
  (hX:QLL H vx X) (hy:QL H vy y) (hyl:y.length=X.length) (hXw:∀x,x∈X→x.length=W∧∀q,q∈x→ht q≤100) (hy100:∀q,q∈y→ht q≤100) (hX0:1≤X.length) (hXl:X.length≤20) (hb:ht base≤200) (hr:ht rate≤200) (hti:ht tilt≤20) :
  PC prog 34 #[.agg (zbM loss (W:Int) base rate tilt (.slice ta ts.length tc)).toArray,vx,vy] H fun r _=>r=.tuple #[zaj (zaR (zcv loss base rate tilt ts X y)),.int .i64 0]:=by
 obtain⟨hls,hWl,_,_⟩:=zeh hc;obtain⟨vs,hvs,hvx⟩:=id hX;obtain⟨xa,xc,rfl⟩:=hX.val;obtain⟨ya,yc,rfl⟩:=SlC.val hy;obtain⟨x0,hxx0⟩:=gE hX0;obtain⟨u0,e0,hu0,_⟩:=hvs.at hxx0;rw[(hXw x0 (qF hxx0)).1]at hu0;have hLl:=ziU loss base rate tilt ts hyl;have hck:=zdI (loss:=loss) (w:=(W:Int)) (base:=base) ht' (fun t h=>(hok t h).x) (zaN hr oM) (zaN hti oM) oM;rw[hc]at hck;have hva:=fun (G:Hp) (hG:H.Le G)=>zjc (hX.mono hG) (fun x h=>(hXw x h).1) hX0 oM oM oM;have hz:zae (zaj (zaR ((zcv loss base rate tilt ts X y).take 0)))=[.bool false,.int .u64 0,.string ⟨#[]⟩,.int .u64 0,.string ⟨#[]⟩]:=zbe;refine BD func34 ntmps34 ?_
 repeat (first|refine RUN ?_|refine CV (hck) ?_|refine CE (hck) ?_)
 apply EV.drawn 18 kR kR;intro xv yw;(repeat refine' DD ?_);refine' vC (cO func54) (fun G hG hd=>hva G hG) ?_;rotate_left;(repeat refine' DD ?_);refine' vJ (hvx) (0) (rfl) (hX0) (hu0) ?_;rotate_left;(repeat refine' DD ?_);rw[show ((W:Int) != (W:Int))=false from pO _];(repeat refine' DD ?_);rw[show ((y.length:Int) != (X.length:Int))=false by rw[hyl];exact pO _];(repeat refine' DD ?_);(refine DJ.nil (fun G1 hG1 hF1=>?_);(case hS|hS2=>rfl));refine uR ?_;refine EV.loopK (ι:=Nat) [2,3,6,8,35,36] [3,6] (fun i=>[(37,.v (.int .i64 (i:Int)))]) (fun i=>[(8,51,zae (zaj (zaR ((zcv loss base rate tilt ts X y).take i))))]) (fun _=>[]) (fun i G=>i≤X.length∧H.Le G) (fun i=>X.length-i) (0) rfl rfl ⟨rfl,trivial⟩ ⟨by rw[hz];rfl,trivial⟩ rfl (fun _=>rfl) (⟨qQ _,hG1⟩) ?_;rintro i G2 hG2 ⟨hi,hH2⟩;refine uR ?_;refine EV.cond rfl (fun hlt=>?_) (fun hlt=>?_)
 ·simp only[nN]at hlt;obtain⟨x,hxi⟩:=gE hlt;obtain⟨ux,ex,hux,hxl⟩:=hvs.at hxi;obtain⟨q,hqi⟩:∃q,y[i]?=some q:=⟨_,qA oM⟩;obtain⟨hxw,hx100⟩:=hXw x (qF hxi);have hvx2:=hvx.mono hH2;have hyS2:=SlC.mono hy hH2;have hq100:=hy100 q (qF hqi);have hgt:=ziT (loss:=loss) (base:=base) (rate:=rate) (tilt:=tilt) (ts:=ts) hxi hqi;have hans:=fun (G:Hp) (hG:G2.Le G)=>zi8 (loss:=loss) (w:=(W:Int)) (tilt:=tilt) (ht'.mono (hH2.trans hG)) (fun t h=>by rw[hxw];exact hok t h) (SlC.mono hxl (hH2.trans hG)) hx100 hb hr oM;have hsb:ht (zcu base rate ts x)≤400000:=zdp (w:=W) hb hr oM fun t h=>qI (zbt (hok t h) x) oM;have hsu:=zeo q (zcu base rate ts x);have hlh:=zhS (loss:=loss) hb hr hti (show ts.length≤60 by omega) hok hy100 _ (qF hgt);have hS:=zhT (loss:=loss) (i:=i) hb hr hti (show ts.length≤60 by omega) hok hy100 hXl;have hSn:=zbh ((zcv loss base rate tilt ts X y).take i) (zc5 loss tilt (q-zcu base rate ts x));rw[←zai hgt]at hSn;have hsub:=zn2 q (zcu base rate ts x) (zaN hq100 oM) (zaN hsb oM);have hlo:=zo3 (loss:=loss) (tilt:=tilt) (t:=q-zcu base rate ts x) hti oM;have had:=zfD (zaR ((zcv loss base rate tilt ts X y).take i)) (zc5 loss tilt (q-zcu base rate ts x)) (zaN hS oM) (zaN hlh oM);rw[←hSn]at had;refine uR ?_;refine vI (hvx2) (i) (rfl) (hlt) (hux) ?_;refine uR ?_;apply EV.drawn 15 kR kR;intro xv yw;(repeat refine' DD ?_);refine' DJ.idxM tO rfl rfl rfl rfl rfl rfl rfl rfl rfl (hyS2) (i) (rfl) (oM) (QL.at (H:=H) (v:=.bool true) hqi) ?_;rotate_left;(repeat refine' DD ?_);refine' vC (cO func93) (fun G hG hd=>hans G hG) ?_;rotate_left;(repeat (first|refine' DD ?_|(refine' DC (hsub) (h:=?_);rotate_left)|(refine' DC (hlo) (h:=?_);rotate_left)|(refine' DC (had) (h:=?_);rotate_left)));(refine DJ.nil (fun G3 hG3 hF3=>?_);(case hS|hS2=>rfl));refine uR ?_;exact⟨i+1,⟨by rw[zac i (by omega)];rfl,trivial⟩,sB,⟨rfl,trivial⟩,sB,rfl,⟨hlt,hH2.trans hG3⟩,hG3,by omega⟩
 ·simp only[nN]at hlt;obtain rfl:i=X.length:=oM;rw[show X.length=(zcv loss base rate tilt ts X y).length from hLl.symm,qa];refine uR ?_;rfl
theorem zlq {H:Hp} {a:Option Addr} {cap:Nat}:PW prog 96 #[.slice a 0 cap] H [] fun r _ _=>∃a' c',r=.slice a' 0 c':=by
 refine PW.body tO func96 rfl kR ntmps96 rfl rfl ?_;refine uR ?_;refine EVL.eqnil tO rfl rfl rfl rfl rfl rfl rfl ?_
 cases a with
 | none =>
  refine uR ?_;exact⟨_,_,rfl⟩
 | some x =>
  refine uR ?_;refine EVL.lit0 tO rfl rfl rfl rfl rfl rfl rfl fun g0=>?_;refine uR ?_;refine EVL.append0 tO rfl rfl rfl rfl rfl rfl rfl rfl rfl (qH _) ?_;refine uR ?_;exact⟨_,_,rfl⟩
theorem zmW:∀{css:List (List Value)},(∀c,c∈css→c.length=4)→css.flatten.length=css.length*4
 | [],_=>rfl
 | c::css,h=>by
  have h1:=h c (qf ..);have h2:=zmW (css:=css) fun d hd=>h d (qk _ hd);rw[List.flatten_cons,qJ,qR,h1,h2];omega
theorem zk1 {A c B:List Value} {k s:Nat} (hA:A.length=k*s) (hc:c.length=s):((A++(c++B)).drop (k*s)).take s=c:=by
 rw[←hA,List.drop_left,←hc,List.take_left]
theorem PTs.four {H:Hp} {tcs:List (List Value)} {ts:List Tr} (h:PTs H tcs ts):∀c,c∈tcs→c.length=4:=fun d hd=>by
 obtain⟨i,hi⟩:=List.mem_iff_getElem?.1 hd;have hl:=(qE.1 hi).1;exact(h.2 i d _ hi (qA (by rw[←h.1];exact hl))).len
theorem PTs.one {H:Hp}:∀{tcs:List (List Value)} {ts:List Tr},PTs H tcs ts→zdv tcs.flatten=true
 | [],_,_=>rfl
 | c::css,[],h=>by have:=h.1;simp at this
 | c::css,n::ns,h=>by
  rw[List.flatten_cons];refine zex (h.2 0 c n rfl rfl).one (PTs.one (ts:=ns) ⟨?_,fun j c' n' e1 e2=>h.2 (j+1) c' n' (by rw[pL];exact e1) (by rw[pL];exact e2)⟩);have:=h.1;simpa using this
theorem zpg {α:Type} {l:List α} {i:Nat} {x:α} (h:l[i]?=some x):l.set i x=l:=by
 refine List.ext_getElem? fun j=>?_;rw[List.getElem?_set];by_cases e:i=j
 ·subst e;rw[if_pos rfl,if_pos (qE.1 h).1,h]
 ·rw[if_neg e]
theorem PTs.put {H:Hp} {A B:List (List Value)} {c c':List Value} {ts:List Tr} {t:Tr} (h:PTs H (A++c::B) ts) (ht:ts[A.length]?=some t) (h':zdo H c' t.kd t.cl t.w t.ns):PTs H (A++c'::B) ts:=by
 have:=zqU (y:=t) h h'
 rwa [zpg ht]at this
theorem PTs.take {H:Hp} {tcs:List (List Value)} {ts:List Tr} (h:PTs H tcs ts) (k:Nat):PTs H (tcs.take k) (ts.take k):=zqT h k
theorem PTs.take_flat {H:Hp} {tcs:List (List Value)} {ts:List Tr} (h:PTs H tcs ts) {k:Nat} (hk:k≤ts.length):(tcs.flatten.drop (0*4)).take ((k-0)*4)=(tcs.take k).flatten:=by
 have h4:=h.four;have hA:=zmW (css:=tcs.take k) fun c hc=>h4 c (List.mem_of_mem_take hc);rw[qP,h.1,qm hk]at hA;have e1:tcs.flatten=(tcs.take k).flatten++(tcs.drop k).flatten:=by rw[←List.flatten_append,List.take_append_drop]
 rw[Nat.zero_mul,List.drop_zero,Nat.sub_zero,e1,List.take_append_of_le_length oM,qO (by omega)]
theorem zmK {H:Hp} {v:Value} {ts:List Tr} {tcs:List (List Value)} (hts:PTs H tcs ts) (h:SlC H v ts.length 4 tcs.flatten) (h0:0<ts.length) (hl:ts.length≤1000000):PW prog 96 #[v] H [] fun r ow _=>zaA 128 4 r ts.length tcs.flatten ow:=by
 have hs:=h.2;rcases hs with ⟨e,_⟩ | ⟨b,off,cap,c,rfl,_⟩
 ·omega
 ·refine PW.body tO func96 rfl kR ntmps96 rfl rfl ?_;refine uR ?_;refine EVL.eqnil tO rfl rfl rfl rfl rfl rfl rfl ?_;refine uR ?_;refine EVL.lit0 tO rfl rfl rfl rfl rfl rfl rfl fun g0=>?_;refine uR ?_;refine EVL.append tO rfl rfl rfl rfl rfl rfl rfl rfl rfl rfl rfl rfl [] [(g0,128,[])] [] rfl (zaA.full (m:=0) rfl oM) (zb2.ro h h0) hts.one oM ?_;intro v1 ow1 hown1;refine uR ?_;rw[qt]at hown1;rw[qG];exact hown1
set_option maxRecDepth 100000 in
theorem zqG {H:Hp} {loss w:Int} {W k:Nat} {base rate tilt:Rat} {ta:Option Addr} {tc:Nat} {ts:List Tr} (ht':PTL H (.slice ta ts.length tc) ts) (hx':∀t,t∈ts→zcJ W t) (hr:sm rate) (hq:sm tilt) (hl:ts.length≤1000) (hc0:zaH loss w rate tilt ts=0) (h0:0<k) (hk:k≤ts.length) :
  PC prog 33 #[.agg (zbM loss w base rate tilt (.slice ta ts.length tc)).toArray,.int .i64 (k:Int)] H fun r G=>∃a c,r=.tuple #[.agg (zbM loss w base rate tilt (.slice a k c)).toArray,.int .i64 0]∧PTL G (.slice a k c) (ts.take k):=by
 have hck:=zdI (loss:=loss) (w:=w) (base:=base) ht' (fun t h=>(hx' t h).x) hr hq oM;rw[hc0]at hck;obtain⟨tcs,hts,hsl⟩:=ht'
 have hcap:ts.length≤tc:=by
  rcases hsl.2 with ⟨e,_⟩ | ⟨_,_,_,_,e,h,_⟩
  ·omega
  ·cases e;exact h
 have hsub:=hsl.sub 0 k (qQ _) hk hcap;rw[hts.take_flat hk,Nat.sub_zero,Nat.sub_zero]at hsub;have htk:(ts.take k).length=k:=by rw[qP];omega
 have hTk:=hts.take k;refine BD func33 ntmps33 ?_
 repeat (first|refine RUN ?_|refine CV (hck) ?_|refine CE (hck) ?_)
 rw[qC (show ¬(k:Int)<0 by omega)];refine uR ?_;rw[qC (show ¬(k:Int)>(ts.length:Int) by omega)];refine uR ?_;refine EVL.slc (te':=Tryz.te128) tO rfl rfl rfl rfl rfl rfl rfl rfl 0 k (.inl ⟨rfl,rfl⟩) (.inr ⟨_,IntKind.i64,rfl,rfl⟩) (qQ _) oM hcap ?_;refine uR ?_;refine EVL.callW rfl rfl rfl rfl rfl ([]) ([]) rfl (zmK hTk (by rw[htk];exact hsub) oM oM) ?_;intro v29 ow29 G1 hown29 hG1;rw[htk]at hown29;obtain⟨a29,c29,rfl⟩:=hown29.val;refine uR ?_;refine EV.loopK (ι:=Nat × List (List Value) × Ows) [2,4,32,33] [2,4] (fun q=>[(34,.v (.int .i64 (q.1:Int)))]) (fun _=>[]) (fun q=>q.2.2) (fun q G=>q.1≤k∧G1.Le G∧PTs G q.2.1 (ts.take k)∧zaA 128 4 (.slice a29 k c29) k q.2.1.flatten q.2.2) (fun q=>k-q.1) ((0,tcs.take k,ow29++[])) rfl rfl ⟨rfl,trivial⟩ trivial rfl (fun _=>rfl) (⟨qQ _,Hp.Le.refl _,hTk.mono hG1,(by rw[qG];exact hown29)⟩) ?_;rintro⟨i,cs2,ow2⟩ G2 hG2 ⟨hi,hG12,hps,hown⟩;dsimp only at hi hG12 hps hown;refine uR ?_;refine EV.cond rfl (fun hlt=>?_) (fun hlt=>?_)
 case refine_2 =>
  simp only[nN]at hlt;obtain rfl:i=k:=oM;(first|refine EVL.publishL [] ow2 [] ((qG _).symm) hown fun G3 hG3 hs3=>?_|refine EV.publishL [] ow2 [] ((qG _).symm) hown fun G3 hG3 hs3=>?_);refine uR ?_;exact⟨_,_,rfl,cs2,hps.mono hG3,by rw[htk];exact hs3⟩
 simp only[nN]at hlt;obtain⟨t,hti⟩:∃t,(ts.take k)[i]?=some t:=⟨_,qA oM⟩;have hB:=hx' t (List.mem_of_mem_take (qF hti));obtain⟨kk1,kk2,kk3⟩:=hB.ok.copies;have hpl:=hps.1;obtain⟨A,c,B,rfl,hAi⟩:=zie (l:=cs2) (k:=i) oM;subst hAi;have hptr:=hps.2 A.length c t (by rw[qL (qH _),Nat.sub_self];rfl) hti;have hA4:A.flatten.length=A.length*4:=zmW fun d hd=>hps.four d (List.mem_append_left _ hd);obtain⟨na,nc,css,rfl,hns,hnl⟩:=hptr;obtain⟨gT,capT,spT,e,rfl,hback⟩:=zaA.midS (show 0<4 by omega) hown rfl;cases e;refine uR ?_;refine EVL.idxB tO rfl rfl rfl rfl rfl rfl rfl rfl rfl (A.length) (A.length*4) (rfl) (hlt) (rfl) ?_;refine EVL.loadOwn tO rfl rfl rfl rfl rfl rfl (0) rfl (zk1 hA4 rfl) rfl rfl ?_;refine uR ?_;generalize hCT:A.flatten++([.int .i64 t.kd,.int .i64 t.cl,.int .i64 t.w,.slice na t.ns.length nc]++(B.flatten++spT))=CT;refine vW ([]) ([(gT,128,CT)]) (zmJ hns hnl kk1 kk2) ?_;intro r41 ow41 G3 hown41 hG3;obtain⟨gN,capN,spN,rfl,rfl,hsame⟩:=hown41.same kk1;refine uR ?_;refine EV.loopK (ι:=Nat × List (List Value)) [2,4,6,7,32,33,34,44,45] [2,4,7] (fun q=>[(46,.v (.int .i64 (q.1:Int)))]) (fun _=>[]) (fun q=>[(gN,168,q.2.flatten++spN),(gT,128,CT)]) (fun q G=>q.1≤t.ns.length∧G3.Le G∧zbm G q.2 t.ns) (fun q=>t.ns.length-q.1) ((0,css)) rfl rfl ⟨rfl,trivial⟩ trivial rfl (fun _=>rfl) (⟨qQ _,Hp.Le.refl _,hns.mono hG3⟩) ?_;rintro⟨j,ds⟩ G4 hG4 ⟨hj,hG34,hds⟩;dsimp only at hj hG34 hds;refine uR ?_;refine EV.cond rfl (fun hlj=>?_) (fun hlj=>?_)
 ·simp only[nN]at hlj;obtain⟨n,hni⟩:=gE hlj;have hdl:=hds.1;obtain⟨D,c,E,rfl,hDl⟩:=zie (l:=ds) (k:=j) oM;subst hDl;have hnd:=hds.2 D.length c n (by rw[qL (qH _),Nat.sub_self];rfl) hni;obtain⟨a7,c7,rfl,hil⟩:=hnd.cells;have hDf:=hds.left.flat_len;rw[zkH];refine uR ?_;refine EVL.idxB tO rfl rfl rfl rfl rfl rfl rfl rfl rfl (D.length) (D.length*21) (rfl) (hlj) (rfl) ?_;refine EVL.loadOwn tO rfl rfl rfl rfl rfl rfl (0) rfl (zk1 hDf rfl) rfl rfl ?_;refine uR ?_;apply EV.drawn 6 kR kR;intro xv yw;(repeat refine' DD ?_);refine' vB (cO func98) (fun G hG hd=>zmI (hil.mono hG) (kk3 n (qF hni))) (fun _ _ _ h k=>SlC.mono h k) ?_;rotate_left;(refine DJ.nil (fun G5 hG5 hF5=>?_);(case hS|hS2=>rfl));have hR:=hF5.1;obtain⟨a8,c8,e8⟩:=SlC.val hR;rw[e8]at hR;rw[e8];refine uR ?_;refine EVL.idxB tO rfl rfl rfl rfl rfl rfl rfl rfl rfl (D.length) (D.length*21) (rfl) (hlj) (rfl) ?_;refine EVL.fldB tO rfl rfl rfl rfl rfl rfl rfl ?_;refine EVL.storeOwn tO rfl rfl rfl rfl rfl rfl ([]) ([(gT,128,CT)]) rfl rfl rfl rfl ((by rw[qJ,hDf,qJ];show D.length*21+20+1≤_;simp;omega)) ((zc9 hDf rfl rfl (Nat.le_of_ble_eq_true rfl) rfl)) ?_;refine uR ?_;refine⟨(D.length+1,D++_::E),⟨by rw[zac D.length (by omega)];rfl,trivial⟩,sB,trivial,sB,by dsimp only;rw[zkH];rfl,⟨hlj,hG34.trans hG5,(hds.mono hG5).put hni ⟨a8,c8,hR,rfl⟩⟩,hG5,by dsimp only;omega⟩
 simp only[nN]at hlj;have hownN:=hsame ds.flatten (by rw[hds.flat_len,hns.flat_len,hds.1,hns.1]);(first|refine EVL.publishL [] [(gN,168,ds.flatten++spN)] [(gT,128,CT)] (rfl) hownN fun G5 hG5 hs5=>?_|refine EV.publishL [] [(gN,168,ds.flatten++spN)] [(gT,128,CT)] (rfl) hownN fun G5 hG5 hs5=>?_);have hpt:zdo G5 [.int .i64 t.kd,.int .i64 t.cl,.int .i64 t.w,.slice (some ⟨gN,0,none⟩) t.ns.length capN] t.kd t.cl t.w t.ns:=⟨_,_,ds,rfl,hds.mono hG5,hs5⟩;subst hCT;refine uR ?_;refine EVL.idxB tO rfl rfl rfl rfl rfl rfl rfl rfl rfl (A.length) (A.length*4) (rfl) (hlt) (rfl) ?_;refine EVL.storeOwn tO rfl rfl rfl rfl rfl rfl ([]) ([]) rfl rfl rfl rfl ((by rw[qJ,hA4,qJ];show A.length*4+4≤_;simp)) ((zc9 (f:=0) (m:=4) (c':=[.int .i64 t.kd,.int .i64 t.cl,.int .i64 t.w,.slice (some ⟨gN,0,none⟩) t.ns.length capN]) hA4 rfl rfl (qH 4) rfl)) ?_;refine uR ?_;have hK:=hG3.trans (hG34.trans hG5);exact⟨(A.length+1,A++[.int .i64 t.kd,.int .i64 t.cl,.int .i64 t.w,.slice (some ⟨gN,0,none⟩) t.ns.length capN]::B,[(gT,_,_)]),⟨by rw[zac A.length (by omega)];rfl,trivial⟩,sB,trivial,sB,rfl,⟨hlt,hG12.trans hK,(hps.mono hK).put hti hpt,hback _ rfl⟩,hK,by dsimp only;omega⟩
end
section
open Go.ChangeShapes Go.WideShapes Go.ChangeAt Go.RowKit
def zp2 (H:Hp) (v:Value):Prop:=∃n w dp ls rd rt at' tl vy vl ly ll,v=znz n w dp ls rd rt at' tl vy vl∧(zdX n∧zdX w∧zdX dp∧zdX ls∧zdX rd∧zdX rt∧zdX at')∧(IL H vy ly∧∀z,z∈ly→zdX z)∧(IL H vl ll∧∀z,z∈ll→zdX z)
theorem raw21_open {H:Type} {enc:TypeId × Value→H} {w:World} {base:Nat} {spare:Nat→Bool} {held:Bool} {v:Value} {d:DataW H} {p:List MemPlace} (hv:∃cs,v=.agg cs) (h:DataW.Trod enc Tryz.prog w base spare held 24 v d p):zp2 (hpOf w) v:=by
 obtain⟨cs,rfl⟩:=hv;obtain⟨fuel,h⟩:=h;obtain⟨xs,n,_,hx,hl,hlen,hf⟩:=DataW.trod_struct Tryz.underlying24 h;rw[show Tryz.prog.cellsOf 24=10 from by kernel_rfl]at hl;have hl4:cs.toList.length=10:=hl;obtain⟨l,rfl⟩:∃l:List Value,cs=l.toArray:=⟨cs.toList,by simp⟩;have hl4':l.length=10:=by simpa using hl4
 obtain⟨c0,c1,c2,c3,c4,c5,c6,c7,c8,c9,rfl⟩:=zrR hl4';have hx4:xs.length=10:=hlen;have f0:DataW.trod enc Tryz.prog w base spare held n 3 (([c0,c1,c2,c3,c4,c5,c6,c7,c8,c9].drop 0).take (Tryz.prog.cellsOf 3))=xs[0]?:=hf 0 _ rfl;have f1:DataW.trod enc Tryz.prog w base spare held n 3 (([c0,c1,c2,c3,c4,c5,c6,c7,c8,c9].drop 1).take (Tryz.prog.cellsOf 3))=xs[1]?:=hf 1 _ rfl;have f2:DataW.trod enc Tryz.prog w base spare held n 3 (([c0,c1,c2,c3,c4,c5,c6,c7,c8,c9].drop 2).take (Tryz.prog.cellsOf 3))=xs[2]?:=hf 2 _ rfl;have f3:DataW.trod enc Tryz.prog w base spare held n 3 (([c0,c1,c2,c3,c4,c5,c6,c7,c8,c9].drop 3).take (Tryz.prog.cellsOf 3))=xs[3]?:=hf 3 _ rfl;have f4:DataW.trod enc Tryz.prog w base spare held n 3 (([c0,c1,c2,c3,c4,c5,c6,c7,c8,c9].drop 4).take (Tryz.prog.cellsOf 3))=xs[4]?:=hf 4 _ rfl;have f5:DataW.trod enc Tryz.prog w base spare held n 3 (([c0,c1,c2,c3,c4,c5,c6,c7,c8,c9].drop 5).take (Tryz.prog.cellsOf 3))=xs[5]?:=hf 5 _ rfl;have f6:DataW.trod enc Tryz.prog w base spare held n 3 (([c0,c1,c2,c3,c4,c5,c6,c7,c8,c9].drop 6).take (Tryz.prog.cellsOf 3))=xs[6]?:=hf 6 _ rfl;have f7:DataW.trod enc Tryz.prog w base spare held n 4 (([c0,c1,c2,c3,c4,c5,c6,c7,c8,c9].drop 7).take (Tryz.prog.cellsOf 4))=xs[7]?:=hf 7 _ rfl;have f8:DataW.trod enc Tryz.prog w base spare held n 22 (([c0,c1,c2,c3,c4,c5,c6,c7,c8,c9].drop 8).take (Tryz.prog.cellsOf 22))=xs[8]?:=hf 8 _ rfl;have f9:DataW.trod enc Tryz.prog w base spare held n 22 (([c0,c1,c2,c3,c4,c5,c6,c7,c8,c9].drop 9).take (Tryz.prog.cellsOf 22))=xs[9]?:=hf 9 _ rfl;rw[show Tryz.prog.cellsOf 3=1 from by kernel_rfl]at f0 f1 f2 f3 f4 f5 f6;rw[show Tryz.prog.cellsOf 4=1 from by kernel_rfl]at f7;rw[show Tryz.prog.cellsOf 22=1 from by kernel_rfl]at f8 f9;rw[qA (by omega)]at f0 f1 f2 f3 f4 f5 f6 f7 f8 f9;obtain⟨z0,e0,_,w0⟩:=DataW.trod_int Tryz.underlying3 f0;obtain⟨z1,e1,_,w1⟩:=DataW.trod_int Tryz.underlying3 f1;obtain⟨z2,e2,_,w2⟩:=DataW.trod_int Tryz.underlying3 f2;obtain⟨z3,e3,_,w3⟩:=DataW.trod_int Tryz.underlying3 f3;obtain⟨z4,e4,_,w4⟩:=DataW.trod_int Tryz.underlying3 f4;obtain⟨z5,e5,_,w5⟩:=DataW.trod_int Tryz.underlying3 f5;obtain⟨z6,e6,_,w6⟩:=DataW.trod_int Tryz.underlying3 f6;obtain⟨b7,e7,_⟩:=DataW.trod_bool Tryz.underlying4 f7;obtain⟨a8,l8,k8,b8,e8,s8,d8⟩:=ints_open Tryz.underlying22 Tryz.underlying3 kR f8;obtain⟨a9,l9,k9,b9,e9,s9,d9⟩:=ints_open Tryz.underlying22 Tryz.underlying3 kR f9;have g0:[c0]=[.int .i64 z0]:=e0;have g1:[c1]=[.int .i64 z1]:=e1;have g2:[c2]=[.int .i64 z2]:=e2;have g3:[c3]=[.int .i64 z3]:=e3;have g4:[c4]=[.int .i64 z4]:=e4;have g5:[c5]=[.int .i64 z5]:=e5;have g6:[c6]=[.int .i64 z6]:=e6;have g7:[c7]=[.bool b7]:=e7;have g8:[c8]=[.slice a8 l8 k8]:=e8;have g9:[c9]=[.slice a9 l9 k9]:=e9;cases g0;cases g1;cases g2;cases g3;cases g4;cases g5;cases g6;cases g7;cases g8;cases g9;exact⟨z0,z1,z2,z3,z4,z5,z6,b7,_,_,b8,b9,rfl,⟨i64_bounds w0,i64_bounds w1,i64_bounds w2,i64_bounds w3,i64_bounds w4,i64_bounds w5,i64_bounds w6⟩,⟨s8,fun z hz=>i64_bounds (d8 z hz)⟩,⟨s9,fun z hz=>i64_bounds (d9 z hz)⟩⟩
theorem zqO (z:Int):Gr 12 20 (zmv z):=by
 unfold zmv;have hrd:=zeW (z.tdiv 41 % 6).toNat
 have m1:=Int.emod_nonneg z (show (41:Int)≠0 by omega);have m2:=Int.emod_lt_of_pos z (show (0:Int)<41 by omega);generalize zpP (z.tdiv 41 % 6).toNat=d at *
 generalize hn:z % 41-20=n at *
 rw[Rat.divInt_eq_div];have hd:d=1∨d=2∨d=3∨d=4:=oM;have h12:(((12:Nat):Int):Rat)=12:=rfl;rcases hd with rfl | rfl | rfl | rfl
 ·exact⟨n*12,by rw[h12,Rat.intCast_mul];have:((1:Int):Rat)=1:=rfl;have:((12:Int):Rat)=12:=rfl;grind,by omega⟩
 ·exact⟨n*6,by rw[h12,Rat.intCast_mul];have:((2:Int):Rat)=2:=rfl;have:((6:Int):Rat)=6:=rfl;grind,by omega⟩
 ·exact⟨n*4,by rw[h12,Rat.intCast_mul];have:((3:Int):Rat)=3:=rfl;have:((4:Int):Rat)=4:=rfl;grind,by omega⟩
 ·exact⟨n*3,by rw[h12,Rat.intCast_mul];have:((4:Int):Rat)=4:=rfl;have:((3:Int):Rat)=3:=rfl;grind,by omega⟩
theorem zqW {l:List Int} {n:Nat}:∀q,q∈zji l n→Gr 12 20 q:=fun q hq=>by
 obtain⟨i,hi,rfl⟩:=List.mem_map.1 hq;split
 ·exact zqO _
 ·exact Gr.zero _ _
def zsh (n w dp ls rt at':Int) (tl:Bool) (ll:List Int):BG:=⟨if tl then 2 else 1,Rat.divInt 1 (1+rt % 4),zkd tl at',zeZ ll (1+n % 8).toNat (1+w % 3).toNat,(1+w % 3).toNat,(dp % 3).toNat,1+ls % 3,0⟩
theorem zqR (r:Int):(0<Rat.divInt 1 (1+r % 4)∧Rat.divInt 1 (1+r % 4)≤1)∧(Rat.divInt 1 (1+r % 4)).den≤4:=by
 have h:r % 4=0∨r % 4=1∨r % 4=2∨r % 4=3:=oM;rcases h with h | h | h | h <;> rw[h] <;> decide +kernel
theorem zq8 (a:Int):(0<zkd true a∧zkd true a<1)∧ht (zkd true a)≤10:=by
 unfold zkd;have h:a % 5=0∨a % 5=1∨a % 5=2∨a % 5=3∨a % 5=4:=oM;rcases h with h | h | h | h | h <;> rw[h] <;> decide +kernel
theorem zqS (n w dp ls rt at':Int) (tl:Bool) (ll:List Int):(zsh n w dp ls rt at' tl ll).Ok:=by
 have h1:=zeC ll (1+n % 8).toNat (1+w % 3).toNat
 obtain⟨r1,r2⟩:=zqR rt;obtain⟨t1,t2⟩:=zq8 at';have hn:=Int.emod_nonneg n (show (8:Int)≠0 by omega);have hn2:=Int.emod_lt_of_pos n (show (0:Int)<8 by omega);have hw:=Int.emod_nonneg w (show (3:Int)≠0 by omega);have hw2:=Int.emod_lt_of_pos w (show (0:Int)<3 by omega);have hl:=Int.emod_nonneg ls (show (3:Int)≠0 by omega);have hl2:=Int.emod_lt_of_pos ls (show (0:Int)<3 by omega);have hd2:=Int.emod_lt_of_pos dp (show (0:Int)<3 by omega);refine⟨?_,r1,?_,?_,⟨r2,?_⟩,?_,?_,fun x hx=>zml x hx,?_,?_,?_⟩
 ·cases tl
  ·exact .inl rfl
  ·exact .inr rfl
 ·cases tl
  ·exact fun _=>rfl
  ·exact fun k=>absurd k (by decide:¬(2:Int)=1)
 ·cases tl
  ·exact fun k=>absurd k (by decide:¬(1:Int)=2)
  ·exact fun _=>t1
 ·cases tl
  ·show ht 0≤10;rw[zck];decide
  ·exact t2
 ·show 1≤(zeZ ll (1+n % 8).toNat (1+w % 3).toNat).length∧(zeZ ll (1+n % 8).toNat (1+w % 3).toNat).length≤8;rw[h1];omega
 ·show 1≤(1+w % 3).toNat∧(1+w % 3).toNat≤20;omega
 ·show (dp % 3).toNat≤10;omega
 ·show 1≤1+ls % 3∧1+ls % 3≤300;omega
 ·exact⟨Rat.le_refl,by show ht 0≤10;rw[zck];decide⟩
theorem zpz {r K:Nat} (hr:r≤4) (hK:K≤6):bl ((2*20*2 ^ K)*(12*840*(840*r) ^ K))≤95:=by
 by_cases h0:r=0
 ·subst h0;refine qI (zaW (Nat.mul_le_mul (qb _ (qc oM hK)) (qb _ (show (840*0) ^ K≤1 by rw[Nat.mul_zero];cases K with | zero=>exact qH _ | succ k=>rw[Nat.zero_pow (by omega)];omega)))) (zaU (by decide))
 exact qI (zaW (Nat.mul_le_mul (qb _ (qc oM hK)) (qb _ (qI (qc oM hK) (Nat.pow_le_pow_left (qb 840 hr) 6))))) (zaU (by decide))
end
section
open Go.RowKit _root_.Go.Proofs.Tryz
theorem zcJ.e {W:Nat} {t:Tr} (h:zcJ W t):zfi (W:Int) t=0:=by
 have h1:t.ns≠[]:=fun e=>by have:=h.len.1;rw[e]at this;exact absurd this (by decide)
 have hc:zjw t=0:=by
  unfold zjw;rw[if_neg (fun k=>k (.inr h.kd)),if_neg];rintro (k | k)
  ·rw[h.kd]at k;exact absurd k (by decide)
  ·exact h1 k
 unfold zfi;rw[if_neg (fun k=>k hc),if_neg];rintro (k | k)
 ·exact k h.kd
 ·exact k h.wide
theorem zfL {loss:Int} {W:Nat} {rate tilt:Rat} {ts:List Tr} (h0:loss=1∨loss=2) (hW:1≤W∧W≤20) (hl:ts.length≤50) (hr:zb5 loss rate tilt=true) (ht:∀t,t∈ts→zcJ W t):zaH loss (W:Int) rate tilt ts=0:=by
 rw[zkv h0 oM hr];exact zhv fun t h=>(ht t (List.mem_of_mem_take h)).e
theorem zoY {H:Hp} {loss w:Int} {W k:Nat} {base rate tilt:Rat} {ta:Option Addr} {tc:Nat} {ts:List Tr} (ht':PTL H (.slice ta ts.length tc) ts) (hx':∀t,t∈ts→zcJ W t) (hr:sm rate) (hq:sm tilt) (hl:ts.length≤1000) (hc0:zaH loss w rate tilt ts=0) (hk:k≤ts.length) :
  PC prog 33 #[.agg (zbM loss w base rate tilt (.slice ta ts.length tc)).toArray,.int .i64 (k:Int)] H fun r G=>∃a c,r=.tuple #[.agg (zbM loss w base rate tilt (.slice a k c)).toArray,.int .i64 0]∧PTL G (.slice a k c) (ts.take k):=by
 by_cases h0:0<k
 ·exact zqG ht' hx' hr hq hl hc0 h0 hk
 obtain rfl:k=0:=oM;have hck:=zdI (loss:=loss) (w:=w) (base:=base) ht' (fun t h=>(hx' t h).x) hr hq oM;rw[hc0]at hck;rw[List.take_zero]
 have hcap:ts.length≤tc∨ts.length=0:=by
  obtain⟨tcs,_,hs⟩:=ht';rcases hs.2 with ⟨e,_⟩ | ⟨_,_,_,_,e,h,_⟩
  ·exact .inr e
  ·cases e;exact .inl h
 refine BD func33 ntmps33 ?_
 repeat (first|refine RUN ?_|refine CV (hck) ?_|refine CE (hck) ?_)
 rw[qC (show ¬(((0:Nat):Int))>(ts.length:Int) by omega)];refine uR ?_;refine EVL.slc (te':=Tryz.te128) tO rfl rfl rfl rfl rfl rfl rfl rfl 0 0 (.inl ⟨rfl,rfl⟩) (.inr ⟨_,IntKind.i64,rfl,rfl⟩) (qQ _) (qQ _) oM ?_;refine uR ?_;refine vW ([]) ([]) (zlq) ?_;rintro _ ow G1 ⟨a1,c1,rfl⟩ hG1;refine uR ?_;refine EV.loopK (ι:=Nat) [2,4,32,33] [2,4] (fun q=>[(34,.v (.int .i64 (q:Int)))]) (fun _=>[]) (fun _=>ow++[]) (fun q _=>q=0) (fun q=>0) (0) rfl rfl ⟨rfl,trivial⟩ trivial rfl (fun _=>rfl) (rfl) ?_;rintro i G2 hG2 rfl;refine uR ?_;exact⟨_,_,rfl,[],⟨rfl,fun j c t e=>by cases e⟩,rfl,.inl ⟨rfl,_,_,rfl⟩⟩
theorem zi4 {H:Hp} {vy vl:Value} {ly ll:List Int} (n w dp ls rd rt at':Int) (tl:Bool) (hn:zdX n) (hw:zdX w) (hdp:zdX dp) (hls:zdX ls) (hrd:zdX rd) (hrt:zdX rt) (hat:zdX at') (hy:IL H vy ly) (hyb:∀z,z∈ly→zdX z) (hl:IL H vl ll) (hlb:∀z,z∈ll→zdX z):PC prog 9 #[znz n w dp ls rd rt at' tl vy vl] H fun r G=>∃(b:BG) (y:List Rat) (K:Nat) (vx vv vs:Value),r=.tuple #[vx,vv,vs]∧b.Ok∧RLL G vx b.X∧RL G vv y∧zjC G vs b.loss (K:Int) (b.D:Int) b.least b.rate b.tilt b.gain∧y.length=b.X.length∧(∀q,q∈y→Gr 12 20 q)∧K≤3∧b.gain=0∧b.W=(1+w % 3).toNat:=by
 have e1:=Int.emod_nonneg n (show (8:Int)≠0 by omega);have e2:=Int.emod_nonneg w (show (3:Int)≠0 by omega);have e3:=Int.emod_nonneg dp (show (3:Int)≠0 by omega);have e4:=Int.emod_nonneg rd (show (4:Int)≠0 by omega);have e5:=Int.emod_lt_of_pos rd (show (0:Int)<4 by omega);refine(zoV n w dp ls rd rt at' tl hn hw hdp hls hrd hrt hat hy hyb hl hlb (N:=(1+n % 8).toNat) (W:=(1+w % 3).toNat) oM oM).mono ?_;rintro r G ⟨vx,vv,vs,rfl,r1,r2,r3⟩ hG;refine⟨zsh n w dp ls rt at' tl ll,_,(rd % 4).toNat,vx,vv,vs,rfl,zqS ..,r1,r2,?_,?_,zqW,by omega,rfl,rfl⟩
 ·rw[show (((rd % 4).toNat:Nat):Int)=rd % 4 by omega,show ((zsh n w dp ls rt at' tl ll).D:Int)=dp % 3 by show (((dp % 3).toNat:Nat):Int)=dp % 3;omega];exact r3
 ·show (zji ly (1+n % 8).toNat).length=(zeZ ll (1+n % 8).toNat (1+w % 3).toNat).length;rw[zeA,zeC]
end
end Go.Proofs.YtnejmfoednmkhaaGreatDoor
