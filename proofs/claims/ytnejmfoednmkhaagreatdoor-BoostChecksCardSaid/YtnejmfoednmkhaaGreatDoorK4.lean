/- Texts of ours in one: Ev26, Tr3, Ev27, Stable, Swaps, RestPlain, Rest, Same, Rising, Tr4, Tr5, TrT, Tr6, Tr7, Tr8, Tr9, Tr10, Tr11, Tr12, Tr13, Wd8, Ev28, Pg1, Tr14, Tr15, Pg2, Od1, Pg3, Tr16, Tr17, Tr18, Tr19, Tr20, Tr21, Tr22, Tr23, Tr24, Tr25, Tr26, Opn, Opn20, Tr27, Tr29, Tr30, Tr31, Pg4, Pg5, Pg6, Pg7, Tg1, Tp0, Tp1, Pg9, Tp2, Tp3, BoP, Ev29, Ev30, Ev32, BoW, BoR, Th1, BoO, BoA, Tr3N, BoG, Pg8, Tr32, Tr33, Tr34, Tr35, Tr36, PgD. -/
import Derived.Test.YtnejmfoednmkhaaGreatDoorK0
import Derived.Test.YtnejmfoednmkhaaGreatDoorK2
import Derived.Test.YtnejmfoednmkhaaGreatDoorK3
import Derived.Lib.ConvBytes
import Derived.Test.YtnejmfoednmkhaaGreatDoorRows
import Derived.WalkLawsBesides
import Derived.Deep.LoopGhost
import Derived.Deep.QuietTactic
import Derived.BigQuiet
import Derived.WalkKit
import Derived.ProofKit
import Derived.OpenShut
set_option linter.unusedVariables false
set_option linter.unusedSimpArgs false
set_option maxHeartbeats 64000000
namespace Go.Proofs.YtnejmfoednmkhaaGreatDoor
section
open Go.RowKit _root_.Go.Proofs.Tryz
section
variable {P:Program} {ops:Array Oper} {md:Region.Mode} {Q:Exit→Act→World→Prop} {I:World→Prop} {z:Option Nat}
def zmm (md:Region.Mode) (ops:Array Oper) (L:Array Bool) (i:Nat):Bool:=(List.range ops.size).all fun k => !L.getD k false || match ops[k]? with
 | some o => !o.after.any fun e=>Region.binds md e && e.on == i
 | none=>true
theorem zic {L:Array Bool} {i:Nat}:zmm md ops L i=true↔∀k o,ops[k]?=some o→L.getD k false=true→∀e∈o.after,Region.binds md e=true→e.on≠i:=by
 unfold zmm;rw[List.all_eq_true];constructor
 ·intro h k o ho hk e he hb heq;have h1:=h k (List.mem_range.2 (Array.getElem?_eq_some_iff.1 ho).1);rw[hk,ho]at h1;simp only[Bool.not_true,Bool.false_or,Bool.not_eq_true',Array.any_eq_false']at h1;have:=h1 e he;simp[hb,heq]at this
 ·intro h k hk
  cases hL:L.getD k false with
  | false=>rfl
  | true =>
   obtain⟨o,ho⟩:∃o,ops[k]?=some o:=⟨_,Array.getElem?_eq_getElem (List.mem_range.1 hk)⟩;rw[ho];simp only[Bool.not_true,Bool.false_or,Bool.not_eq_true',Array.any_eq_false'];intro e he
   cases hb:Region.binds md e with
   | false=>simp
   | true=>have:=h k o ho hL e he hb;simpa using this
def zer (z:Option Nat) (L:Array Bool):Bool:=match z with
 | none=>true
 | some k => !L.getD k false
def zq8 (md:Region.Mode) (ops:Array Oper) (z:Option Nat) (i:Nat):Bool:=match z with
 | none=>true
 | some k => !(k == i) && match ops[k]? with
  | some o=>o.after.any fun e=>Region.binds md e && e.on == i
  | none=>false
def zdr (P:Program) (md:Region.Mode) (ops:Array Oper) (Q:Exit→Act→World→Prop) (I:World→Prop) (z:Option Nat):Nat→Array Bool→Act→World→Prop
 | 0,L,a,w=>(zer z L=true→I w)∧Region.ready md ops L=[]∧Q .normal a w
 | f+1,L,a,w=>(zer z L=true→I w)∧(Region.ready md ops L=[]→Q .normal a w)∧∀i,i∈Region.ready md ops L→wpOp P ops Q i (zdr P md ops Q I z f (L.setIfInBounds i true)) a w
theorem zdr.now:∀{f:Nat} {L:Array Bool} {a:Act} {w:World},zdr P md ops Q I z f L a w→zer z L=true→I w
 | 0,_,_,_,h=>h.1
 | _+1,_,_,_,h=>h.1
theorem zdr.any:∀(f:Nat) (L:Array Bool) (a:Act) (w:World),zdr P md ops Q I z f L a w→wpAny P md ops Q f L a w
 | 0,_,_,_,h=>h.2
 | f+1,_,_,_,h=>⟨h.2.1,fun i hi=>wpOp_mono (fun a w k=>zdr.any f _ a w k) (h.2.2 i hi)⟩
def zhu (P:Program) (ops:Array Oper) (I:World→Prop) (o:Oper) (v:Value) (a:Act):Prop :=
 Region.wanted o (yielded ops a.tmps)=true∧∀w,I w→(execOp a.eval o).run P w=.ok (.value v) w
theorem zhu.op {i:Nat} {o:Oper} {v:Value} {a:Act} (hi:ops[i]?=some o) (hy:zhu P ops I o v a) {K:Act→World→Prop} {w:World} (hw:I w) (h:K (a.put o.dst v) w):wpOp P ops Q i K a w:=by
 unfold wpOp;simp only[hi,hy.1,if_true,Oper.wp,hy.2 w hw,Oper.upon];exact .inl h
theorem zn7 {j:Nat} {oj:Oper} (hj:ops[j]?=some oj) {Y:Act→Prop} (k1:∀a u,Y a→Y (a.put oj.dst u)) (k2:∀(a:Act) d,Y a→Y { a with defers:=d::a.defers }) {K:Act→World→Prop} {a:Act} {w:World} (hy:Y a) (h:wpOp P ops Q j K a w):wpOp P ops Q j (fun a' w'=>Y a'∧K a' w') a w:=by
 unfold wpOp at *
 simp only[hj]at *
 split
 ·rename_i hw;rw[if_pos hw]at h;refine h.imp (fun h=>?_) id;unfold Oper.wp at *
  generalize (execOp a.eval oj).run P w=r at *
  cases r with
  | ok n w' =>
   cases n <;> simp only[Oper.upon]at h ⊢
   case value u=>exact⟨k1 _ _ hy,h⟩
   case skip=>exact⟨k1 _ _ hy,h⟩
   case defer d=>exact⟨k1 _ _ (k2 _ _ hy),h⟩
   case enter f args =>
    refine Calls.mono h fun e w'' he=>?_
    cases e with
    | returned u=>exact⟨k1 _ _ hy,he⟩
    | _=>exact he
   case row row args=>exact Rows.mono h fun u w'' he=>⟨k1 _ _ hy,he⟩
  | halt x w'=>cases x <;> simp only[Oper.upon]at h ⊢ <;> exact h
 ·rename_i hw;rw[if_neg hw]at h;exact⟨k1 _ _ hy,h⟩
theorem zlo {oi oj:Oper} {v:Value} (h:oi.apart ops oj=true):Oper.apart ops { oi with op:=.move (.const v),guard:=none } oj=true:=by
 unfold Oper.apart at *
 rw[Bool.and_eq_true]at *
 refine⟨h.1,?_⟩
 cases oj.dst with
 | none=>rfl
 | some d=>rfl
theorem zka {J:World→Prop} {i:Nat} {oi:Oper} {v:Value} (hi:ops[i]?=some oi) (hsel:Region.noSelect ops=true) (hQ:∀c a w,Q (.panic c) (a.put oi.dst v) w→Q (.panic c) a w) (hts:(zq8 md ops z i=true∧∀w,I w→J w)∨((∀w,J w)∧z≠some i)) :
  ∀(f:Nat) (L:Array Bool) (a:Act) (w:World),(∀j oj,ops[j]?=some oj→j≠i→L.getD j true=false→(∀e∈oj.after,Region.binds md e=true→e.on≠i)→oi.apart ops oj=true)→zmm md ops L i=true →
   i∈Region.ready md ops L→zhu P ops J oi v a→zdr P md ops Q I z f (L.setIfInBounds i true) (a.put oi.dst v) w→zdr P md ops Q I z (f+1) L a w:=by
 have now:∀{f:Nat} {L:Array Bool} {a:Act} {w:World},zmm md ops L i=true→zdr P md ops Q I z f (L.setIfInBounds i true) (a.put oi.dst v) w→(zer z L=true→I w)∧J w:=fun {f L a w} hy H=>by
  rcases hts with ⟨hz,hJ⟩ | ⟨hJ,hz⟩
  ·have hI:I w:=H.now (by
    cases z with
    | none=>rfl
    | some k =>
     simp only[zq8,Bool.and_eq_true,Bool.not_eq_true',pT]at hz;obtain⟨hki,hk⟩:=hz;show (!(L.setIfInBounds i true).getD k false)=true;rw[Go.getD_set_ne false (Ne.symm hki)]
     cases hL:L.getD k false with
     | false=>rfl
     | true =>
      cases ho:ops[k]? with
      | none=>rw[ho]at hk;cases hk
      | some o =>
       rw[ho]at hk;obtain⟨e,he,hb⟩:=Array.any_eq_true'.1 hk;simp only[Bool.and_eq_true,beq_iff_eq]at hb;exact absurd hb.2 (zic.1 hy k o ho hL e he hb.1))
   exact⟨fun _=>hI,hJ _ hI⟩
  ·refine⟨fun h=>H.now ?_,hJ w⟩
   cases z with
   | none=>rfl
   | some k =>
    have hki:i≠k:=fun e=>hz (by rw[e]);show (!(L.setIfInBounds i true).getD k false)=true;rw[Go.getD_set_ne false hki];exact h
 intro f
 induction f with
 | zero =>
  intro L a w _ hy hr hY H;refine⟨(now hy H).1,fun h=>(by rw[h]at hr;cases hr),fun j hj=>?_⟩;by_cases hji:j=i
  ·subst hji;exact hY.op hi (now hy H).2 H
  ·have:=ready_mono hj hji;rw[H.2.1]at this;cases this
 | succ f ih =>
  intro L a w hfree hyt hr hy H;refine⟨(now hyt H).1,fun h=>(by rw[h]at hr;cases hr),fun j hj=>?_⟩;by_cases hji:j=i
  ·subst hji;exact hy.op hi (now hyt H).2 H
  ·have h1:=H.2.2 j (ready_mono hj hji);obtain⟨hjun,oj,hoj,hall⟩:=mem_ready.1 hj
   have hnot:∀e∈oj.after,Region.binds md e=true→e.on≠i:=fun e he hb heq=>by
    have h1:=hall e he hb;have h0:=(mem_ready.1 hr).1;rw[heq]at h1;rcases Nat.lt_or_ge i L.size with h' | h'
    ·simp[h']at h0 h1;rw[h0]at h1;cases h1
    ·simp[Array.getElem?_eq_none h']at h1
   have hap:=hfree j oj hoj hji hjun hnot;obtain⟨_,_,hap3⟩:=Oper.apart_spec hap;have hsi:=fun cs b=>Region.noSelect_spec hsel i oi cs b hi
   have h2:=wpOp_put (oi:={ oi with op:=.move (.const v),guard:=none }) hoj (zlo hap) (fun cs b e=>by cases e) (fun cs b=>Region.noSelect_spec hsel j oj cs b hoj) hQ
    (.inl ⟨rfl,fun w=>rfl⟩) h1
   have h3:=zn7 (Y:=zhu P ops J oi v) hoj (fun a u hy=>⟨by rw[wanted_put oi a oj.dst u hap3];exact hy.1,fun w hw=>by rw[execOp_put oi hsi a oj.dst u hap3];exact hy.2 w hw⟩) (fun a d hy=>hy) hy h2
   have hfree':∀k ok,ops[k]?=some ok→k≠i→(L.setIfInBounds j true).getD k true=false→(∀e∈ok.after,Region.binds md e=true→e.on≠i)→oi.apart ops ok=true:=fun k ok hk hki hun hno=>by
    refine hfree k ok hk hki ?_ hno;by_cases hjk:j=k
    ·subst hjk;exact hjun
    ·rw[Go.getD_set_ne true hjk]at hun;exact hun
   have hyt':zmm md ops (L.setIfInBounds j true) i=true:=zic.2 fun k o ho hk=>by
    by_cases hjk:j=k
    ·subst hjk;cases hoj.symm.trans ho;exact hnot
    ·rw[Go.getD_set_ne false hjk]at hk;exact zic.1 hyt k o ho hk
   refine wpOp_mono (fun a' w' h4=>ih (L.setIfInBounds j true) a' w' hfree' hyt' (ready_mono hr (Ne.symm hji)) h4.1 ?_) h3;rw[Array.setIfInBounds_comm _ _ hji];exact h4.2.2
end
def EVG (I:World→Prop) (z:Option Nat) (P:Program) (n:Nat) (ops:Array Oper) (fuel:Nat) (L:Array Bool) (env:Env) (bx:Bxs) (H:Hs) (K:Env→Bxs→Hs→Prop):Prop :=
 ∀W0 β a W,Rel n W0 H.base β env bx H a W→zdr P .any ops (fun e a W=>e=.normal∧ziK n W0 H.base (fun _ env bx H=>K env bx H) .normal a W) I z fuel L a W
abbrev EVI (z:Option Nat) (p:Nat × TypeId × List Value) (P:Program) (n:Nat) (ops:Array Oper) (fuel:Nat) (L:Array Bool) (env:Env) (bx:Bxs) (H:Hs) (K:Env→Bxs→Hs→Prop):Prop :=
 EVG (fun W=>Box W p.1 p.2.2.toArray p.2.1) z P n ops fuel L env bx H K
section
variable {I:World→Prop} {z:Option Nat} {p:Nat × TypeId × List Value} {n:Nat} {ops:Array Oper} {fuel:Nat} {L:Array Bool} {env:Env} {bx:Bxs} {H:Hs} {K:Env→Bxs→Hs→Prop} {d:Nat} {o:Oper} {v:Value}
theorem EVG.start (I:World→Prop) (z:Option Nat) {id:Nat} {l:List Oper} {Q:EQ} (h:EVG I z prog n l.toArray l.length (Array.replicate l.length false) env bx H (fun env bx H=>Q .normal env bx H)) (hm:Tryz.prog.follows .mixedOrders=true:=by kernel_rfl):EV prog n (.region id l.toArray true) env bx H Q :=
 EVA.start hm fun W0 β a W r=>(h W0 β a W r).any _ _ _ _
theorem EVI.start (z:Option Nat) (p:Nat × TypeId × List Value) {id:Nat} {l:List Oper} {Q:EQ} (h:EVI z p prog n l.toArray l.length (Array.replicate l.length false) env bx H (fun env bx H=>Q .normal env bx H)) (hm:Tryz.prog.follows .mixedOrders=true:=by kernel_rfl):EV prog n (.region id l.toArray true) env bx H Q:=EVG.start _ z h hm
theorem EVG.take {J:World→Prop} (i:Nat) (hts:(zq8 .any ops z i=true∧∀w,I w→J w)∨((∀w,J w)∧z≠some i)) (hi:ops[i]?=some o) (hs:Region.noSelect ops=true) (hf:Region.free .any ops L i=true) (hr:(Region.ready .any ops L).contains i=true) (hy:zmm .any ops L i=true) (hw:zak ops env o=some true) (hd:o.dst=some d) (hn:Nat.blt d n=true)
  (hx:∀(β:Nat→Nat) (a:Act) (W:World),(∀y s,env.op y=some s→s.rep β H.ro (a.eval y))→J W→(execOp a.eval o).run prog W=.ok (.value v) W)
  (h:EVG I z prog n ops fuel (L.setIfInBounds i true) ((d,.v v)::env) bx H K):EVG I z prog n ops (fuel+1) L env bx H K:=fun W0 β a W r=>by
 refine zka (v:=v) hi hs (fun c a w e=>by cases e.1) hts fuel L a W (Region.free_spec hi hf) hy (by simpa using hr) ⟨r.want hw,fun w hI=>hx β a w (fun y s hy=>r.op hy) hI⟩ ?_;rw[hd];exact h W0 β _ W (r.put hn rfl rfl)
theorem IV (i:Nat) (h:EVG I z prog n ops fuel (L.setIfInBounds i true) ((d,.v v)::env) bx H K) (hi:ops[i]?=some o:=by exact rfl) (hs:Region.noSelect ops=true:=by kernel_rfl) (hf:Region.free .any ops L i=true:=by kernel_rfl) (hr:(Region.ready .any ops L).contains i=true:=by kernel_rfl) (hy:zmm .any ops L i=true:=by kernel_rfl) (hts:(z == some i)=false:=by kernel_rfl) (hw:zak ops env o=some true:=by exact rfl) (hd:o.dst=some d:=by exact rfl) (hn:Nat.blt d n=true:=by exact rfl)
  (hv:zog Tryz.tab env [] o.op=some (.v v):=by exact rfl) (hpl:ziX env o.op.operands.toList=true:=by exact rfl):EVG I z prog n ops (fuel+1) L env bx H K :=
 EVG.take (J:=fun _=>True) i (.inr ⟨fun _=>trivial,fun e=>by rw[e]at hts;simp at hts⟩) hi hs hf hr hy hw hd hn (fun β a W he _=>by
  obtain⟨x,hx,hr⟩:=zca (β:=β) (H:=fun _=>none) (W:=W) (a:=a) tO hv (fun y s hm hy=>ziY (zeP hpl y (by simpa using hm)) hy (he y s hy)) (fun i T cs e=>by cases e) (fun b c e=>by cases e);have e:x=v:=hr;rw[←e];exact hx) h
theorem IN (i:Nat) {x:Operand} {c:Addr} (h:EVG I z prog n ops fuel (L.setIfInBounds i true) ((d,.v (.pointer (some c)))::env) bx H K) (hi:ops[i]?=some o:=by exact rfl) (hs:Region.noSelect ops=true:=by kernel_rfl) (hf:Region.free .any ops L i=true:=by kernel_rfl) (hr:(Region.ready .any ops L).contains i=true:=by kernel_rfl) (hy:zmm .any ops L i=true:=by kernel_rfl) (hts:(z == some i)=false:=by kernel_rfl) (hw:zak ops env o=some true:=by exact rfl) (hd:o.dst=some d:=by exact rfl) (hn:Nat.blt d n=true:=by exact rfl)
  (ho:o.op=.nilCheck x:=by exact rfl) (hx:env.op x=some (.v (.pointer (some c))):=by exact rfl):EVG I z prog n ops (fuel+1) L env bx H K :=
 EVG.take (J:=fun _=>True) i (.inr ⟨fun _=>trivial,fun e=>by rw[e]at hts;simp at hts⟩) hi hs hf hr hy hw hd hn (fun β a W he _=>zh0 ho hx _ W fun y x _ hy=>he y _ hy) h
theorem IF (i:Nat) {x:Operand} {T:TypeId} {te:TE} {f b q fo sz:Nat} {ag:Bool} (h:EVG I z prog n ops fuel (L.setIfInBounds i true) ((d,.v (.pointer (some ⟨b,q+fo,none⟩)))::env) bx H K) (hi:ops[i]?=some o:=by exact rfl) (hs:Region.noSelect ops=true:=by kernel_rfl) (hf:Region.free .any ops L i=true:=by kernel_rfl) (hr:(Region.ready .any ops L).contains i=true:=by kernel_rfl) (hy:zmm .any ops L i=true:=by kernel_rfl) (hts:(z == some i)=false:=by kernel_rfl) (hw:zak ops env o=some true:=by exact rfl) (hd:o.dst=some d:=by exact rfl) (hn:Nat.blt d n=true:=by exact rfl)
  (ho:o.op=.fieldAddr T x f:=by exact rfl) (hx:env.op x=some (.v (.pointer (some ⟨b,q,none⟩))):=by exact rfl) (ht:Tryz.tab.get T=some te:=by exact rfl) (hfd:te.fields[f]?=some (fo,ag,sz):=by exact rfl):EVG I z prog n ops (fuel+1) L env bx H K :=
 EVG.take (J:=fun _=>True) i (.inr ⟨fun _=>trivial,fun e=>by rw[e]at hts;simp at hts⟩) hi hs hf hr hy hw hd hn (fun β a W he _=>zhY tO ho ht hfd hx _ W fun y x _ hy=>he y _ hy) h
theorem IL0 (i:Nat) {x:Operand} {T:TypeId} {te:TE} {q:Nat} {l:List Value} (h:EVI z p prog n ops fuel (L.setIfInBounds i true) ((d,.v v)::env) bx H K) (hi:ops[i]?=some o:=by exact rfl) (hs:Region.noSelect ops=true:=by kernel_rfl) (hf:Region.free .any ops L i=true:=by kernel_rfl) (hr:(Region.ready .any ops L).contains i=true:=by kernel_rfl) (hy:zmm .any ops L i=true:=by kernel_rfl) (hts:zq8 .any ops z i=true:=by kernel_rfl) (hw:zak ops env o=some true:=by exact rfl) (hd:o.dst=some d:=by exact rfl) (hn:Nat.blt d n=true:=by exact rfl)
  (ho:o.op=.load T x:=by exact rfl) (hx:env.op x=some (.v (.pointer (some ⟨p.1,q,none⟩))):=by exact rfl) (ht:Tryz.tab.get T=some te:=by exact rfl) (hl:(p.2.2.drop q).take te.size=l:=by exact rfl) (hlen:l.length=te.size:=by exact rfl) (hv:zeF te.agg l=some v:=by exact rfl):EVI z p prog n ops (fuel+1) L env bx H K :=
 EVG.take (J:=fun w=>Box w p.1 p.2.2.toArray p.2.1) i (.inl ⟨hts,fun _ h=>h⟩) hi hs hf hr hy hw hd hn (fun β a W he hB=>by
  have ex:a.eval x=.pointer (some ⟨p.1,q,none⟩):=he x _ hx;have hrg:=hB.range q te.size;rw[hl]at hrg;have hrun:=zaR (tO.get ht) hrg hlen hv;unfold execOp;simp only[ho,ex,Sem.run_bind,hrun,Result.andThen_ok,Sem.run_pure]) h
theorem EVG.step (hI:zer z L=true→∀W0 β a W,Rel n W0 H.base β env bx H a W→I W) (hne:(Region.ready .any ops L).isEmpty=false) (hk:∀q,q∈Region.ready .any ops L→∃o,ops[q]?=some o∧EVL prog n ops [o] env bx H (fun e env bx H'=>e=.normal∧EVG I z prog n ops fuel (L.setIfInBounds q true) env bx H' K)):EVG I z prog n ops (fuel+1) L env bx H K:=fun W0 β a W r=>by
 refine⟨fun hn=>hI hn W0 β a W r,fun e=>(by rw[e]at hne;cases hne),fun q hq=>?_⟩;obtain⟨o,ho,h⟩:=hk q hq;have h1:=h W0 β a W r
 have hkk:∀a W,ziK n W0 H.base (fun e env bx H'=>e=.normal∧EVG I z prog n ops fuel (L.setIfInBounds q true) env bx H' K) .normal a W→zdr prog .any ops (fun e a W=>e=.normal∧ziK n W0 H.base (fun _ env bx H=>K env bx H) .normal a W) I z fuel (L.setIfInBounds q true) a W:=by
  rintro a W ⟨β',env',bx',H',hbase,⟨_,hE⟩,rel⟩;have:=hE W0 β' a W (by rw[hbase];exact rel)
  rwa [hbase]at this
 unfold wpOp;simp only[ho];unfold wpList at h1;split
 ·rename_i hw;rw[if_pos hw]at h1;rcases h1 with h1 | ⟨h1,h2⟩
  ·refine .inl (Oper.wp_exits (fun c a W hq=>?_) (fun hq=>?_) (Oper.wp_mono (fun a W h=>hkk a W h) h1))
   ·obtain⟨_,_,_,_,_,⟨e,_⟩,_⟩:=hq;cases e
   ·obtain⟨a0,w0,_,_,_,_,_,⟨e,_⟩,_⟩:=hq;cases e
  ·obtain⟨a0,w0,_,_,_,_,_,⟨e,_⟩,_⟩:=h2;cases e
 ·rename_i hw;rw[if_neg hw]at h1;exact hkk _ _ h1
theorem EVG.nil (hI:zer z L=true→∀W0 β a W,Rel n W0 H.base β env bx H a W→I W) (hr:(Region.ready .any ops L).isEmpty=true) (h:K env bx H):EVG I z prog n ops fuel L env bx H K:=fun W0 β a W r=>by
 have hr':=List.isEmpty_iff.1 hr;have hI:=fun hn=>hI hn W0 β a W r
 cases fuel with
 | zero=>exact⟨hI,hr',rfl,β,env,bx,H,rfl,h,r⟩
 | succ f=>exact⟨hI,fun _=>⟨rfl,β,env,bx,H,rfl,h,r⟩,fun i hi=>by rw[hr']at hi;cases hi⟩
theorem EVG.one (k:Nat) (hI:zer z L=true→∀W0 β a W,Rel n W0 H.base β env bx H a W→I W) (hr:(Region.ready .any ops L == [k])=true) (ho:ops[k]?=some o) (h:EVL prog n ops [o] env bx H (fun e env bx H'=>e=.normal∧EVG I z prog n ops fuel (L.setIfInBounds k true) env bx H' K)):EVG I z prog n ops (fuel+1) L env bx H K:=by
 have hr':=eq_of_beq hr;refine EVG.step hI (by rw[hr'];rfl) fun q hq=>?_;rw[hr',pN]at hq;subst hq;exact⟨o,ho,h⟩
theorem EVG.two {o':Oper} (k k':Nat) (hI:zer z L=true→∀W0 β a W,Rel n W0 H.base β env bx H a W→I W) (hr:(Region.ready .any ops L == [k,k'])=true) (ho:ops[k]?=some o) (ho':ops[k']?=some o') (h:EVL prog n ops [o] env bx H (fun e env bx H'=>e=.normal∧EVG I z prog n ops fuel (L.setIfInBounds k true) env bx H' K))
  (h':EVL prog n ops [o'] env bx H (fun e env bx H'=>e=.normal∧EVG I z prog n ops fuel (L.setIfInBounds k' true) env bx H' K)):EVG I z prog n ops (fuel+1) L env bx H K:=by
 have hr':=eq_of_beq hr;refine EVG.step hI (by rw[hr'];rfl) fun q hq=>?_;rw[hr']at hq;rcases List.mem_cons.1 hq with rfl | hq
 ·exact⟨o,ho,h⟩
 ·obtain rfl:q=k':=by simpa using hq
  exact⟨o',ho',h'⟩
theorem zr0 {jj:Nat} (hj:zer z L=false∨H.ow[jj]?=some p):zer z L=true→∀W0 β a W,Rel n W0 H.base β env bx H a W→Box W p.1 p.2.2.toArray p.2.1:=fun hn W0 β a W r=>by
 rcases hj with hj | hj
 ·rw[hj]at hn;cases hn
 ·exact(r.own jj p.1 p.2.1 p.2.2 hj).1
theorem EVI.one (k jj:Nat) (hj:zer z L=false∨H.ow[jj]?=some p) (hr:(Region.ready .any ops L == [k])=true) (ho:ops[k]?=some o) (h:EVL prog n ops [o] env bx H (fun e env bx H'=>e=.normal∧EVI z p prog n ops fuel (L.setIfInBounds k true) env bx H' K)):EVI z p prog n ops (fuel+1) L env bx H K:=EVG.one k (zr0 hj) hr ho h
theorem EVI.nil (jj:Nat) (hj:zer z L=false∨H.ow[jj]?=some p) (hr:(Region.ready .any ops L).isEmpty=true) (h:K env bx H):EVI z p prog n ops fuel L env bx H K:=EVG.nil (zr0 hj) hr h
end
def zbw (H:Hp) (css:List (List Value)) (ns:List Nd):Prop:=css.length=ns.length∧∀(j:Nat) (c:List Value) (n:Nd),css[j]?=some c→ns[j]?=some n→zdM H c n
theorem zbw.mono {H G:Hp} {css:List (List Value)} {ns:List Nd} (h:zbw H css ns) (k:H.Le G):zbw G css ns:=⟨h.1,fun j c n e1 e2=>(h.2 j c n e1 e2).mono k⟩
theorem zbw.snoc {H G:Hp} {css:List (List Value)} {ns:List Nd} (h:zbw H css ns) (k:H.Le G) {c:List Value} {n:Nd} (hc:zdM G c n):zbw G (css++[c]) (ns++[n]):=by
 refine⟨by simp[h.1],fun j c' n' e1 e2=>?_⟩;by_cases hj:j<css.length
 ·rw[qM hj]at e1;rw[qM (by rw[←h.1];exact hj)]at e2;exact(h.2 j c' n' e1 e2).mono k
 ·rw[qL (by omega)]at e1;rw[qL (by rw[←h.1];omega),←h.1]at e2
  have h0:j-css.length=0:=by
   have:=(qE.1 e1).1;simp at this;omega
  rw[h0]at e1 e2;cases e1;cases e2;exact hc
def zpL (dv:Value) (D:Ows) (s:Int):Prop:=(dv=.pointer none∧D=[])∨∃bd T,dv=.pointer (some ⟨bd,0,none⟩)∧D=[(bd,T,[.int .u64 s])]∧0≤s
theorem zdM.len {H:Hp} {c:List Value} {n:Nd} (h:zdM H c n):c.length=15:=by
 obtain⟨b1,a1,l1,c1,a2,l2,c2,b3,a3,l3,c3,a4,l4,c4,b5,a5,l5,c5,a6,l6,c6,a7,c7,rfl,_⟩:=h.cells;rfl
theorem zc5 {A c B:List Value} {k s f m q:Nat} (hA:A.length=k*s) (hq:q=k*s+f) (hf:f+m≤c.length):q+m≤(A++(c++B)).length:=by
 rw[qJ,qJ,hA,hq];omega
theorem zp4 {l:List (List Value)} (h:∀c,c∈l→c.length=15):l.flatten.length=l.length*15:=by
 induction l with
 | nil=>rfl
 | cons c l ih=>rw[List.flatten_cons,qJ,h c (qg ..),ih (fun c hc=>h c (ql _ hc)),qR];omega
theorem zbw.mid {H:Hp} {css:List (List Value)} {A B:List Nd} {n:Nd} (h:zbw H css (A++n::B)):∃cA c cB,css=cA++c::cB∧cA.flatten.length=A.length*15∧zdM H c n∧∀(G:Hp) (c':List Value) (n':Nd),H.Le G→zdM G c' n'→zbw G (cA++c'::cB) (A++n'::B):=by
 have hl:=h.1;rw[qJ,qR]at hl;have hlt:A.length<css.length:=oM
 have e:css=css.take A.length++css[A.length]::css.drop (A.length+1):=by
  rw[←qp hlt,List.take_append_drop]
 have hla:(css.take A.length).length=A.length:=by rw[qP];omega
 refine⟨_,_,_,e,?_,h.2 A.length _ n (qA hlt) (by rw[qL (qH _),Nat.sub_self];rfl),?_⟩
 ·refine(zp4 fun c hc=>?_).trans (by rw[hla]);obtain⟨j,hj⟩:=List.mem_iff_getElem?.1 (List.mem_of_mem_take hc);have hj':=(qE.1 hj).1;obtain⟨m,hm⟩:∃m,(A++n::B)[j]?=some m:=⟨_,qA (by rw[←h.1];exact hj')⟩;exact(h.2 j c m hj hm).len
 ·intro G c' n' hG hc;refine⟨by simp only[qJ,qR,hla,qu];omega,fun j c1 n1 e1 e2=>?_⟩;rcases Nat.lt_trichotomy j A.length with hj | rfl | hj
  ·rw[qM oM,List.getElem?_take_of_lt hj]at e1;rw[qM hj]at e2;exact(h.2 j c1 n1 e1 (by rw[qM hj];exact e2)).mono hG
  ·rw[qL oM,hla,Nat.sub_self]at e1;rw[qL (qH _),Nat.sub_self]at e2;cases e1;cases e2;exact hc
  ·obtain⟨k,rfl⟩:∃k,j=A.length+(k+1):=⟨j-A.length-1,by omega⟩;rw[qL oM,hla,Nat.add_sub_cancel_left,pP,List.getElem?_drop]at e1;rw[qL oM,Nat.add_sub_cancel_left,pP]at e2;exact(h.2 (A.length+(k+1)) c1 n1 (by rw[←e1];congr 1;omega) (by rw[qL oM,Nat.add_sub_cancel_left,pP];exact e2)).mono hG
theorem zaF.mid {e:TypeId} {v:Value} {m:Nat} {cA cB:List (List Value)} {c:List Value} {ow:Ows} (h:zaF e 15 v m (cA++c::cB).flatten ow) (hc:c.length=15):∃g cap sp,v=.slice (some ⟨g,0,none⟩) m cap∧ow=[(g,e,cA.flatten++(c++(cB.flatten++sp)))]∧∀c',c'.length=15→zaF e 15 v m (cA++c'::cB).flatten [(g,e,cA.flatten++(c'++(cB.flatten++sp)))]:=by
 have hl:=h.1;rcases h.2 with ⟨_,rfl,_⟩ | ⟨g,cap,sp,rfl,rfl,h1,h2,h3⟩
 ·simp[hc]at hl
 ·have e1:∀c':List Value,(cA++c'::cB).flatten=cA.flatten++(c'++cB.flatten):=fun c'=>by simp
  rw[e1]at hl h1;refine⟨g,cap,sp,rfl,by rw[e1];simp,fun c' hc'=>⟨?_,.inr ⟨g,cap,sp,rfl,by rw[e1];simp,?_,h2,h3⟩⟩⟩
  ·rw[e1,←hl];simp[hc,hc']
  ·rw[e1,←h1];simp[hc,hc']
theorem zoh.cells {G:Hp} {o:Option (Int × Rat × Rat)} {cs:List Value} (h:zoh G o cs):∃c b1 a1 l1 c1 a2 l2 c2 b3 a3 l3 c3 a4 l4 c4,cs=[.int .i64 c,.bool b1,.slice a1 l1 c1,.slice a2 l2 c2,.bool b3,.slice a3 l3 c3,.slice a4 l4 c4]∧∀c' t g,o=some (c',t,g)→c=c'∧RQ G (.agg #[.bool b1,.slice a1 l1 c1,.slice a2 l2 c2]) t∧RQ G (.agg #[.bool b3,.slice a3 l3 c3,.slice a4 l4 c4]) g:=by
 cases o with
 | none=>exact⟨_,_,_,_,_,_,_,_,_,_,_,_,_,_,_,h,fun c' t g e=>by cases e⟩
 | some p =>
  obtain⟨x,y,h1,h2,rfl⟩:=h;obtain⟨a1,l1,c1,a2,l2,c2,rfl,_⟩:=id h1;obtain⟨a3,l3,c3,a4,l4,c4,rfl,_⟩:=id h2;exact⟨_,_,_,_,_,_,_,_,_,_,_,_,_,_,_,rfl,fun c' t g e=>by cases e;exact⟨rfl,h1,h2⟩⟩
section
variable {P:Program} {n:Nat} {ops:Array Oper} {o1 o2:Oper} {rest:List Oper} {env:Env} {bx:Bxs} {H:Hs} {Q:EQ} {d d1:Nat}
end
end
section
section
variable {α:Type}
variable {lt:α→α→Bool}
end
end
section
open Go.RowKit _root_.Go.Proofs.Tryz
section
variable {α:Type} {enc:α→Value} {w w':World} {B:Nat} {T:TypeId} {cap:Nat} {l:List α}
end
set_option maxRecDepth 100000 in
theorem zoV {H:Hp} {vx:Value} {X:List (List Rat)} (hX:RLL H vx X) {w:Nat} (hw:∀x,x∈X→x.length=w) (h1:1≤w) (h0:0<X.length) (hn:X.length≤1000000):PC prog 127 #[vx] H fun r _=>r=.bool true:=by
 obtain⟨xa,xc,rfl⟩:=hX.val;refine BD func127 ntmps127 ?_;refine uR ?_;refine EV.loopK (ι:=Nat) [0] [] (fun q=>[(3,.v (.int .i64 (q:Int)))]) (fun _=>[]) (fun _=>[]) (fun q _=>q≤X.length) (fun q=>X.length-q) (0) rfl rfl ⟨rfl,trivial⟩ trivial rfl (fun _=>rfl) (qQ _) ?_;rintro i G1 hG1 hi;obtain⟨vs,hvs,hs⟩:=hX.mono hG1;obtain⟨x0,hx0⟩:=gE h0;obtain⟨u0,e0,hu0,_⟩:=hvs.at hx0;have hw0:=hw x0 (qF hx0);refine uR ?_;refine EV.cond rfl (fun hlt=>?_) (fun hlt=>?_)
 ·simp only[nN]at hlt;obtain⟨x,hx⟩:=gE hlt;obtain⟨u1,e1,hu1,_⟩:=hvs.at hx;have hw1:=hw x (qF hx);rw[hw0]at hu0;rw[hw1]at hu1;refine uR ?_;apply EV.drawn 18 kR kR;intro xv yw;(repeat refine' DD ?_);refine' vJ (hs) (i) (rfl) (hlt) (hu1) ?_;rotate_left;(repeat refine' DD ?_);refine' vJ (hs) (0) (rfl) (h0) (hu0) ?_;rotate_left;(repeat refine' DD ?_);rw[show ((w:Int) != (w:Int))=false from pS _];(repeat refine' DD ?_);refine' vJ (hs) (i) (rfl) (hlt) (hu1) ?_;rotate_left;(repeat refine' DD ?_);rw[show ((w:Int) == 0)=false from pT.2 (by omega)];(repeat refine' DD ?_);(refine DJ.nil (fun G hG hF=>?_);(case hS|hS2=>rfl));refine uR ?_;refine⟨i+1,⟨by rw[zab i (by omega)];rfl,trivial⟩,sB,trivial,trivial,rfl,hlt,hG,by omega⟩
 ·try refine uR ?_
  rw[qD (show (X.length:Int)>0 by omega)]
theorem zkA {H:Hp} {vx:Value} {X:List (List Rat)} (hX:RLL H vx X) {w:Nat} (hw:∀x,x∈X→x.length=w) (h1:1≤w) (h2:w≤20) (h0:0<X.length) (hn:X.length≤300):PC prog 65 #[vx] H fun r _=>r=.bool true:=by
 obtain⟨xa,xc,rfl⟩:=hX.val;have hr:=zoV hX hw h1 h0 oM;obtain⟨vs,hvs,hs⟩:=id hX;obtain⟨x0,hx0⟩:=gE h0;obtain⟨u0,e0,hu0,_⟩:=hvs.at hx0;rw[hw x0 (qF hx0)]at hu0;refine BD func65 ntmps65 ?_
 repeat (first|refine RUN ?_|refine CV (hr) ?_|refine CE (hr) ?_)
 rw[qD (show (X.length:Int)≤300 by omega)];refine uR ?_;refine vI (hs) (0) (rfl) (h0) (hu0) ?_;refine uR ?_;rw[qD (show (w:Int)≤20 by omega)]
 try refine uR ?_
abbrev zmd (deep least:Int) (g1 g2 g3:Value):Value:=.agg #[.int .i64 deep,.int .i64 least,g1,g2,g3]
abbrev zoi (deep least:Int) (g:Rat):Prop:=deep≥0∧deep≤10∧least≥1∧least≤300∧0≤g
theorem zkV (q:Rat):(q.num.sign≥0)↔0≤q:=⟨fun h=>Rat.num_nonneg.1 (Int.sign_nonneg_iff.1 h),fun h=>Int.sign_nonneg_iff.2 (Rat.num_nonneg.2 h)⟩
theorem zdl {p:Prop} [Decidable p] (h:¬p):Value.bool false=.bool (decide p):=congrArg Value.bool (qC h).symm
theorem znw {H:Hp} {deep least:Int} {b1:Bool} {a1 a2:Option Addr} {l1 c1 l2 c2:Nat} {q:Rat} (hq:RQ H (.agg #[.bool b1,.slice a1 l1 c1,.slice a2 l2 c2]) q):PC prog 67 #[zmd deep least (.bool b1) (.slice a1 l1 c1) (.slice a2 l2 c2)] H fun r _=>r=.bool (decide (zoi deep least q)):=by
 have hs:=zbb hq;refine BD func67 ntmps67 ?_;refine uR ?_;by_cases h1:deep≥0
 case neg =>
  rw[qC h1];refine uR ?_;exact zdl fun k=>h1 k.1
 rw[qD h1];refine uR ?_;by_cases h2:deep≤10
 case neg =>
  rw[qC h2];refine uR ?_;exact zdl fun k=>h2 k.2.1
 rw[qD h2];refine uR ?_;by_cases h3:least≥1
 case neg =>
  rw[qC h3];refine uR ?_;exact zdl fun k=>h3 k.2.2.1
 rw[qD h3];refine uR ?_;by_cases h4:least≤300
 case neg =>
  rw[qC h4];refine uR ?_;exact zdl fun k=>h4 k.2.2.2.1
 rw[qD h4]
 repeat (first|refine RUN ?_|refine CV (hs) ?_|refine CE (hs) ?_)
 exact congrArg Value.bool (decide_eq_decide.2 ((zkV q).trans ⟨fun k=>⟨h1,h2,h3,h4,k⟩,fun k=>k.2.2.2.2⟩))
theorem zkQ {H:Hp} {deep least:Int} {b1:Bool} {a1 a2:Option Addr} {l1 c1 l2 c2:Nat} {q:Rat} (hq:RQ H (.agg #[.bool b1,.slice a1 l1 c1,.slice a2 l2 c2]) q) (h0:0≤q) (hd:0≤deep∧deep≤10) (hl:1≤least∧least≤300):PC prog 67 #[zmd deep least (.bool b1) (.slice a1 l1 c1) (.slice a2 l2 c2)] H fun r _=>r=.bool true:=by
 have:=znw (deep:=deep) (least:=least) hq;rw[qD (show zoi deep least q from ⟨hd.1,hd.2,hl.1,hl.2,h0⟩)]at this;exact this
def zrP (n N:Nat) (ck:Int) (fb:Bool) (rows:List Int):Int:=if n=N then (if ck=0∧fb=true∧∀r,r∈rows→0≤r∧r<(n:Int) then 0 else 1) else 5
theorem zpp {n N:Nat} {ck:Int} {fb:Bool} {rows:List Int} (h:n≠N):zrP n N ck fb rows=5:=if_neg h
theorem zkv {n:Nat} {ck:Int} {fb:Bool} {rows:List Int} (h:¬(ck=0∧fb=true∧∀r,r∈rows→0≤r∧r<(n:Int))):zrP n n ck fb rows=1:=(if_pos rfl).trans (if_neg h)
theorem zpo {n:Nat} {rows:List Int} (h:∀r,r∈rows→0≤r∧r<(n:Int)):zrP n n 0 true rows=0:=(if_pos rfl).trans (if_pos ⟨rfl,rfl,h⟩)
theorem zmc {H:Hp} {v:Value} (h:RLL H v []):PC prog 127 #[v] H fun r _=>r=.bool false:=by
 obtain⟨a,c,rfl⟩:=h.val;refine BD func127 ntmps127 ?_;refine uR ?_;refine EV.loopK (ι:=Nat) [0] [] (fun q=>[(3,.v (.int .i64 (q:Int)))]) (fun _=>[]) (fun _=>[]) (fun q _=>q=0) (fun q=>0) (0) rfl rfl ⟨rfl,trivial⟩ trivial rfl (fun _=>rfl) (rfl) ?_;rintro i G1 hG1 rfl;refine uR ?_;rfl
theorem zl9 {H:Hp} {v:Value} (h:RLL H v []):PC prog 65 #[v] H fun r _=>r=.bool false:=by
 have hr:=zmc h;obtain⟨a,c,rfl⟩:=h.val;refine BD func65 ntmps65 ?_
 repeat (first|refine RUN ?_|refine CV (hr) ?_|refine CE (hr) ?_)
 rfl
theorem zl7 {H:Hp} {kd cl deep least ck:Int} {la va:Option Addr} {ln lc vn vc N:Nat} {vx vr:Value} {X:List (List Rat)} {rows:List Int} {w:Nat} {b1 fb:Bool} {a1 a2:Option Addr} {l1 c1 l2 c2:Nat}
  (hck:PC prog 180 #[zbv kd cl (.slice la ln lc) (.slice va vn vc)] H fun r _=>r=.int .i64 ck) (hlen:PV prog 179 #[zbv kd cl (.slice la ln lc) (.slice va vn vc)] (.int .i64 (N:Int)))
  (hX:RLL H vx X) (hw:∀x,x∈X→x.length=w) (h1:1≤w) (h2:w≤20) (hN:1≤N) (hn:X.length≤300) (hr:IL H vr rows) (hr0:0<rows.length) (hrn:rows.length≤300)
  (hf:PC prog 67 #[zmd deep least (.bool b1) (.slice a1 l1 c1) (.slice a2 l2 c2)] H fun r _=>r=.bool fb) :
  PC prog 132 #[zbv kd cl (.slice la ln lc) (.slice va vn vc),vx,vr,zmd deep least (.bool b1) (.slice a1 l1 c1) (.slice a2 l2 c2)] H fun r _=>r=.int .i64 (zrP X.length N ck fb rows):=by
 obtain⟨ra,rc,rfl⟩:=SlC.val hr;by_cases h0:X.length=0
 ·have hne:X.length≠N:=oM;obtain rfl:=pM.1 h0;have hlearn:=zl9 hX;obtain⟨xa,xc,rfl⟩:=hX.val;refine BD func132 ntmps132 ?_
  repeat (first|refine RUN ?_|refine CV (hlearn) ?_|refine CE (hlearn) ?_)
  rw[zpp hne]
 have hlearn:=zkA hX hw h1 h2 oM hn;obtain⟨xa,xc,rfl⟩:=hX.val;refine BD func132 ntmps132 ?_
 repeat (first|refine RUN ?_|refine CV (hlearn) ?_|refine CV (hlen) ?_|refine CE (hlearn) ?_|refine CE (hlen) ?_)
 by_cases hne:X.length=N
 case neg =>
  rw[show ((N:Int) != (X.length:Int))=true from bne_iff_ne.2 (by omega)];refine uR ?_;rw[zpp hne]
 subst hne;rw[show ((X.length:Int) != (X.length:Int))=false from pS _];refine uR ?_;rw[show ((rows.length:Int) == 0)=false from pT.2 (by omega)];refine uR ?_;rw[qC (show ¬(rows.length:Int)>300 by omega)]
 repeat (first|refine RUN ?_|refine CV (hck) ?_|refine CE (hck) ?_)
 by_cases hc0:ck=0
 case neg =>
  rw[show (ck != 0)=true from bne_iff_ne.2 hc0];refine uR ?_;rw[zkv fun k=>hc0 k.1]
 subst hc0
 repeat (first|refine RUN ?_|refine CV (hf) ?_|refine CE (hf) ?_)
 cases fb
 case false =>
  refine uR ?_;rw[zkv fun k=>by cases k.2.1]
 refine uR ?_;refine EV.loopK (ι:=Nat) [1,2] [] (fun q=>[(9,.v (.int .i64 (q:Int)))]) (fun _=>[]) (fun _=>[]) (fun q _=>q≤rows.length∧∀r,r∈rows.take q→0≤r∧r<(X.length:Int)) (fun q=>rows.length-q) (0) rfl rfl ⟨rfl,trivial⟩ trivial rfl (fun _=>rfl) (⟨qQ _,fun r hr=>by cases hr⟩) ?_;rintro i G1 hG1 ⟨hi,hall⟩;refine uR ?_;refine EV.cond rfl (fun hlt=>?_) (fun hlt=>?_)
 ·simp only[nN]at hlt;obtain⟨r,hri⟩:=gE hlt;have hmem:=qF hri;refine uR ?_;refine vI ((hr.mono hG1)) (i) (rfl) (hlt) ((by rw[qK,hri];rfl)) ?_;refine uR ?_;by_cases hr0:r<0
  ·rw[qD hr0];refine uR ?_;rw[zkv fun k=>by have:=k.2.2 r hmem;omega]
  rw[qC hr0];refine uR ?_;refine vI ((hr.mono hG1)) (i) (rfl) (hlt) ((by rw[qK,hri];rfl)) ?_;refine uR ?_;by_cases hrx:r≥(X.length:Int)
  ·rw[qD hrx];refine uR ?_;rw[zkv fun k=>by have:=k.2.2 r hmem;omega]
  rw[qC hrx];refine uR ?_;refine⟨i+1,⟨by rw[zab i (by omega)];rfl,trivial⟩,sB,trivial,trivial,rfl,⟨hlt,fun y hy=>?_⟩,Hp.Le.refl _,by omega⟩;rw[zai hri]at hy;rcases List.mem_append.1 hy with h | h
  ·exact hall y h
  ·rw[pN.1 h];omega
 ·simp only[nN]at hlt;obtain rfl:i=rows.length:=oM;rw[qa]at hall;refine uR ?_;rw[zpo hall]
def zeD (H:Hp) (cs:List Value) (kd cl w:Int) (ns:List Nd):Prop:=∃a c css,cs=[.int .i64 kd,.int .i64 cl,.int .i64 w,.slice a ns.length c]∧zbw H css ns∧SlC H (.slice a ns.length c) ns.length 15 css.flatten
theorem zeD.mono {H G:Hp} {cs:List Value} {kd cl w:Int} {ns:List Nd} (h:zeD H cs kd cl w ns) (k:H.Le G):zeD G cs kd cl w ns:=by
 obtain⟨a,c,css,e,h1,h2⟩:=h;exact⟨a,c,css,e,h1.mono k,h2.mono k⟩
end
section
structure Tr where
 kd:Int
 cl:Int
 w:Int
 ns:List Nd
end
section
open Go.RowKit _root_.Go.Proofs.Tryz
def RTs (H:Hp) (tcs:List (List Value)) (ts:List Tr):Prop:=tcs.length=ts.length∧∀(j:Nat) (c:List Value) (t:Tr),tcs[j]?=some c→ts[j]?=some t→zeD H c t.kd t.cl t.w t.ns
theorem RTs.mono {H G:Hp} {tcs:List (List Value)} {ts:List Tr} (h:RTs H tcs ts) (k:H.Le G):RTs G tcs ts:=⟨h.1,fun j c t e1 e2=>(h.2 j c t e1 e2).mono k⟩
theorem zfq {α β:Type} {R:α→β→Prop} {xs:List α} {ys:List β} (h:xs.length=ys.length∧∀(j:Nat) (x:α) (y:β),xs[j]?=some x→ys[j]?=some y→R x y) {x:α} {y:β} (k:R x y):(xs++[x]).length=(ys++[y]).length∧∀(j:Nat) (x':α) (y':β),(xs++[x])[j]?=some x'→(ys++[y])[j]?=some y'→R x' y':=by
 refine⟨by simp[h.1],fun j x' y' e1 e2=>?_⟩;by_cases hj:j<xs.length
 ·rw[qM hj]at e1;rw[qM (by rw[←h.1];exact hj)]at e2;exact h.2 j x' y' e1 e2
 ·rw[qL (by omega)]at e1;rw[qL (by rw[←h.1];omega),←h.1]at e2
  have h0:j-xs.length=0:=by
   have:=(qE.1 e1).1;simp at this;omega
  rw[h0]at e1 e2;cases e1;cases e2;exact k
def RTL (H:Hp) (v:Value) (ts:List Tr):Prop:=∃tcs,RTs H tcs ts∧SlC H v ts.length 4 tcs.flatten
theorem RTL.mono {H G:Hp} {v:Value} {ts:List Tr} (h:RTL H v ts) (k:H.Le G):RTL G v ts:=by
 obtain⟨tcs,h1,h2⟩:=h;exact⟨tcs,h1.mono k,h2.mono k⟩
end
section
inductive Sub (T:List Nd) (w:Int):Nat→Nat→Nat→Prop
 | leaf {k h:Nat} {n:Nd}:T[k]?=some n→n.col = -1→n.left=0→n.right=0→n.at'=0→Sub T w k h (k+1)
 | node {k h m e:Nat} {n:Nd}:T[k]?=some n→0≤n.col→n.col<w→n.left=((k+1:Nat):Int)→n.right=(m:Int)→Sub T w (k+1) h m→Sub T w m h e→Sub T w k (h+1) e
theorem Sub.lt {T:List Nd} {w:Int} {k h e:Nat} (h0:Sub T w k h e):k<e∧e≤T.length:=by
 induction h0 with
 | leaf hn _ _ _ _ =>
  have:=(qE.1 hn).1;omega
 | node _ _ _ _ _ _ _ ih1 ih2=>omega
structure OkN (kd cl:Int) (n:Nd):Prop where
 rows:1≤n.rows∧n.rows≤1048576
 cost:0≤n.cost
 len:(n.counts.length:Int)=cl
 pos:∀c,c∈n.counts→0≤c
 sum:kd=1→n.counts.sum=n.rows
 cls:n.cls=(zd3 n.counts n.counts.length:Int)
 value:kd=1→n.value=0
 small:ht n.at'≤200∧ht n.cost≤2000000∧ht n.value≤4000
structure OkC (n a b:Nd):Prop where
 rows:n.rows=a.rows+b.rows
 counts:∀k:Nat,n.counts.getD k 0=a.counts.getD k 0+b.counts.getD k 0
 cost:a.cost+b.cost≤n.cost
def zig (kd cl:Int) (T:List Nd) (i:Nat):Prop:=∃n,T[i]?=some n∧OkN kd cl n∧(n.col ≠ -1→0≤n.col∧0≤n.left∧0≤n.right∧∃a b,T[n.left.toNat]?=some a∧T[n.right.toNat]?=some b∧OkC n a b)
structure zmp (p:GP) (kd cl:Int) (w:Nat):Prop where
 kind:(kd=1∧1≤cl∧cl≤12)∨(kd=2∧cl=0)
 rowsX:p.X.length≤300
 wide:∀x,x∈p.X→x.length=w
 small:∀x,x∈p.X→∀q,q∈x→ht q≤60
 clen:∀l,((p.cnt l).length:Int)=cl
 cadd:∀r l m:List Int,r.Perm (l++m)→∀k:Nat,(p.cnt r).getD k 0=(p.cnt l).getD k 0+(p.cnt m).getD k 0
 cpos:∀l c,c∈p.cnt l→0≤c
 csum:kd=1→∀l,(∀r,r∈l→0≤r∧r<(p.X.length:Int))→(p.cnt l).sum=(l.length:Int)
 zero:kd=1→∀l,p.mean l=0
 cost0:∀l,0≤p.cost l
 csm:∀l:List Int,l.length≤300→(∀r,r∈l→0≤r∧r<(p.X.length:Int))→ht (p.cost l)≤2000000
 msm:∀l:List Int,l.length≤300→(∀r,r∈l→0≤r∧r<(p.X.length:Int))→ht (p.mean l)≤4000
 gain:0≤p.gain
 cols:∀s c,c∈(p.cols s).1→0≤c∧c<(w:Int)
theorem zjF (l:List Int) (f:Int→Bool):l.Perm (l.filter f++l.filter fun x => !f x):=by
 induction l with
 | nil=>exact List.Perm.nil
 | cons x l ih =>
  cases h:f x with
  | true=>rw[List.filter_cons_of_pos h,List.filter_cons_of_neg (by simp[h])];exact List.Perm.cons x ih
  | false=>rw[List.filter_cons_of_neg (by simp[h]),List.filter_cons_of_pos (by simp[h])];exact(List.Perm.cons x ih).trans List.perm_middle.symm
theorem zix {p:GP} {kd cl:Int} {w:Nat} (hp:zmp p kd cl w) {rows:List Int} {s c:Int} {t:Rat} (hb:∀r,r∈rows→0≤r∧r<(p.X.length:Int)) (h:p.cut rows (p.cols s).1=some (c,t)) :
  (0≤c∧c<(w:Int))∧ht t≤200∧1≤(za6 p.X c t rows).length∧1≤(zax p.X c t rows).length∧rows.Perm (za6 p.X c t rows++zax p.X c t rows)∧p.cost (za6 p.X c t rows)+p.cost (zax p.X c t rows)≤p.cost rows:=by
 unfold GP.cut at h
 cases hbe:p.best rows (p.cols s).1 with
 | none=>rw[hbe]at h;cases h
 | some q =>
  obtain⟨c',t',g⟩:=q;rw[hbe]at h;dsimp only at h;split at h
  ·cases h
  ·rename_i hg;cases h;have hf:=zdy (zaD p.X p.cost rows (max 1 p.least) (p.cols s).1);rw[show (zaD p.X p.cost rows (max 1 p.least) (p.cols s).1).foldl zgg none=some (c,t,g) from hbe]at hf;have hm:=hf.1;unfold zaD zbE at hm;obtain⟨c2,hc2,hm⟩:=List.mem_flatMap.1 hm;obtain⟨t2,ht2,hm⟩:=List.mem_flatMap.1 hm;split at hm
   ·rename_i hL;cases pN.1 hm;have hcw:=hp.cols s c hc2
    have hall:∀r,r∈rows→zfm p.X c r=true:=fun r hr=>by
     obtain⟨R,rfl⟩:=qi (hb r hr).1;have hR:=(hb _ hr).2;unfold zfm;obtain⟨x,hx⟩:∃x,p.X[R]?=some x:=⟨_,qA oM⟩;rw[qU,qB,hx,Option.getD_some,hp.wide x (qF hx)];simp;omega
    have hlo:za6 p.X c t rows=rows.filter fun r=>decide (zdg p.X c r≤t):=by
     unfold za6;exact List.filter_congr fun r hr=>by rw[hall r hr,Bool.true_and]
    have hhi:zax p.X c t rows=rows.filter fun r => !decide (zdg p.X c r≤t):=by
     unfold zax;exact List.filter_congr fun r hr=>by rw[hall r hr,Bool.true_and]
    have hpm:rows.Perm (za6 p.X c t rows++zax p.X c t rows):=by rw[hlo,hhi];exact zjF _ _
    have h0:=hp.gain;refine⟨hcw,znk hp.small ht2,by omega,by omega,hpm,?_⟩;have:p.gain<p.cost rows-(p.cost (za6 p.X c t rows)+p.cost (zax p.X c t rows)):=Rat.not_le.1 hg;grind
   ·cases hm
theorem zrp {p:GP} {kd cl:Int} {w:Nat} (hp:zmp p kd cl w) {rows:List Int} (h1:1≤rows.length) (h2:rows.length≤300) (hb:∀r,r∈rows→0≤r∧r<(p.X.length:Int)) {c l r:Int} {t:Rat} (ht':ht t≤200):OkN kd cl { p.nd rows with col:=c,left:=l,right:=r,at':=t } :=
 ⟨⟨by show 1≤(rows.length:Int);omega,by show (rows.length:Int)≤1048576;omega⟩,hp.cost0 rows,hp.clen rows,hp.cpos rows,fun e=>hp.csum e rows hb,rfl,fun e=>hp.zero e rows,ht',hp.csm rows h2 hb,hp.msm rows h2 hb⟩
theorem zp6 {p:GP} {kd cl:Int} {w:Nat} (hp:zmp p kd cl w):∀(d k:Nat) (rows:List Int) (s:Int),1≤rows.length→rows.length≤300→(∀r,r∈rows→0≤r∧r<(p.X.length:Int))→∀T:List Nd,(∀(j:Nat) (n:Nd),(p.grow d k rows s).1[j]?=some n→T[k+j]?=some n) →
  Sub T w k d (k+(p.grow d k rows s).1.length)∧(∃n,T[k]?=some n∧n.rows=(rows.length:Int)∧n.counts=p.cnt rows∧n.cost=p.cost rows)∧∀j,j<(p.grow d k rows s).1.length→zig kd cl T (k+j):=by
 have single:∀(d k:Nat) (rows:List Int),1≤rows.length→rows.length≤300→(∀r,r∈rows→0≤r∧r<(p.X.length:Int))→∀T:List Nd,(∀(j:Nat) (n:Nd),[p.nd rows][j]?=some n→T[k+j]?=some n) →
   Sub T w k d (k+1)∧(∃n,T[k]?=some n∧n.rows=(rows.length:Int)∧n.counts=p.cnt rows∧n.cost=p.cost rows)∧∀j,j<1→zig kd cl T (k+j):=by
  intro d k rows h1 h2 hb T hT;have h0:=hT 0 _ rfl;rw[qY]at h0;refine⟨.leaf h0 rfl rfl rfl rfl,⟨_,h0,rfl,rfl,rfl⟩,fun j hj=>?_⟩;obtain rfl:j=0:=oM;refine⟨_,by rw[qY];exact h0,zrp hp h1 h2 hb (c:=-1) (l:=0) (r:=0) (t:=0) (by rw[zcy];decide),fun e=>absurd rfl e⟩
 intro d
 induction d with
 | zero =>
  intro k rows s h1 h2 hb T hT;rw[GP.grow_zero]at hT ⊢;exact single 0 k rows h1 h2 hb T hT
 | succ d ih =>
  intro k rows s h1 h2 hb T hT
  cases hc:p.cut rows (p.cols s).1 with
  | none =>
   rw[GP.grow_none hc]at hT ⊢;exact single (d+1) k rows h1 h2 hb T hT
  | some ct =>
   obtain⟨c,t⟩:=ct;obtain⟨hcw,htb,hl1,hr1,hpm,hcost⟩:=zix hp hb hc;have hll:(za6 p.X c t rows).length≤300:=qI (List.length_filter_le _ _) h2;have hhl:(zax p.X c t rows).length≤300:=qI (List.length_filter_le _ _) h2;have hlm:∀r,r∈za6 p.X c t rows→0≤r∧r<(p.X.length:Int):=fun r hr=>hb r (List.mem_filter.mp hr).1;have hhm:∀r,r∈zax p.X c t rows→0≤r∧r<(p.X.length:Int):=fun r hr=>hb r (List.mem_filter.mp hr).1;rw[GP.grow_some hc]at hT ⊢;have hLl:=p.grow_len d (k+1) (za6 p.X c t rows) (p.cols s).2;have ihL:=ih (k+1) (za6 p.X c t rows) (p.cols s).2 hl1 hll hlm T;generalize p.grow d (k+1) (za6 p.X c t rows) (p.cols s).2=L at *
   obtain⟨Ls,s2⟩:=L;have hRl:=p.grow_len d (k+1+Ls.length) (zax p.X c t rows) s2;have ihR:=ih (k+1+Ls.length) (zax p.X c t rows) s2 hr1 hhl hhm T;dsimp only at hT hLl ihL ⊢;generalize p.grow d (k+1+Ls.length) (zax p.X c t rows) s2=R at *
   obtain⟨Rs,s3⟩:=R;dsimp only at hT hRl ihR ⊢;have h0:=hT 0 _ rfl;rw[qY]at h0
   obtain⟨sL,⟨a,ha,ha1,ha2,ha3⟩,nL⟩:=ihL (fun j n hj=>by
    have:=hT (j+1) n (by rw[pP,qM (qE.1 hj).1];exact hj);rw[show k+1+j=k+(j+1) by omega];exact this)
   obtain⟨sR,⟨b,hb',hb1,hb2,hb3⟩,nR⟩:=ihR (fun j n hj=>by
    have:=hT (j+Ls.length+1) n (by rw[pP,qL oM,Nat.add_sub_cancel];exact hj);rw[show k+1+Ls.length+j=k+(j+Ls.length+1) by omega];exact this)
   have hlen:rows.length=(za6 p.X c t rows).length+(zax p.X c t rows).length:=by rw[hpm.length_eq,qJ]
   have hroot:zig kd cl T k:=by
    refine⟨_,h0,zrp hp h1 h2 hb htb,fun _=>⟨hcw.1,Int.natCast_nonneg _,Int.natCast_nonneg _,a,b,by rw[qU];exact ha,by rw[qU];exact hb',⟨?_,fun q=>?_,?_⟩⟩⟩
    ·rw[ha1,hb1];show (rows.length:Int)=_;omega
    ·rw[ha2,hb2];exact hp.cadd _ _ _ hpm q
    ·rw[ha3,hb3];exact hcost
   refine⟨?_,⟨_,h0,rfl,rfl,rfl⟩,fun j hj=>?_⟩
   ·rw[qR,qJ,show k+(Ls.length+Rs.length+1)=k+1+Ls.length+Rs.length by omega];exact .node h0 hcw.1 hcw.2 rfl rfl sL sR
   ·rw[qR,qJ]at hj
    cases j with
    | zero=>exact hroot
    | succ j =>
     by_cases h:j<Ls.length
     ·rw[show k+(j+1)=k+1+j by omega];exact nL j h
     ·rw[show k+(j+1)=k+1+Ls.length+(j-Ls.length) by omega];exact nR _ oM
structure zbK (t:Tr):Prop where
 kind:(t.kd=1∧1≤t.cl∧t.cl≤12)∨(t.kd=2∧t.cl=0)
 wide:1≤t.w∧t.w≤20
 len:t.ns.length≤2000
 sub:∃h,h≤10∧Sub t.ns t.w 0 h t.ns.length
 nodes:∀i,i<t.ns.length→zig t.kd t.cl t.ns i
end
section
open Go.RowKit _root_.Go.Proofs.Tryz
theorem zbw.get {H:Hp} {css:List (List Value)} {ns:List Nd} (h:zbw H css ns) {j:Nat} {n:Nd} (hj:ns[j]?=some n):∃c,(css.flatten.drop (j*15)).take 15=c∧zdM H c n:=by
 have hlt:=(qE.1 hj).1;obtain⟨c,hc⟩:∃c,css[j]?=some c:=⟨_,qA (by rw[h.1];exact hlt)⟩;refine⟨c,?_,h.2 j c n hc hj⟩
 have h15:∀x,x∈css→(id x).length=15:=fun x hx=>by
  obtain⟨i,hi⟩:=List.mem_iff_getElem?.1 hx;have hi':=(qE.1 hi).1;exact(h.2 i x _ hi (qA (by rw[←h.1];exact hi'))).len
 have:=zcs id 15 css h15 j c hc
 rwa [List.flatMap_id]at this
abbrev zqT (kd cl w:Int) (vn:Value):Value:=.agg #[.int .i64 kd,.int .i64 cl,.int .i64 w,vn]
set_option maxRecDepth 100000 in
theorem zqE {kd cl w:Int} {a:Option Addr} {cp:Nat} {ns:List Nd} (hln:ns.length≤1000000) {k h e:Nat} (hsub:Sub ns w k h e):∀{H:Hp} {css:List (List Value)} {b:Nat} {T:TypeId} {deep:Nat} {far:Int},zbw H css ns→SlC H (.slice a ns.length cp) ns.length 15 css.flatten→deep≤k →
  PW prog 156 #[zqT kd cl w (.slice a ns.length cp),.int .i64 (k:Int),.int .i64 (deep:Int),.pointer (some ⟨b,0,none⟩)] H [(b,T,[.int .i64 far])] fun v ow _=>v=.int .i64 (e:Int)∧∃far',ow=[(b,T,[.int .i64 far'])]∧far'≤max far ((deep+h:Nat):Int):=by
 induction hsub with
 | @leaf k h n hn hc hl hr ha =>
  intro H css b T deep far hns hsl hdk;have hlt:=(qE.1 hn).1;obtain⟨c,hcut,hnd⟩:=hns.get hn;obtain⟨b1,a1,l1,c1,a2,l2,c2,b3,a3,l3,c3,a4,l4,c4,b5,a5,l5,c5,a6,l6,c6,a7,c7,rfl,k1,_⟩:=hnd.cells;have hsg:=zbb k1;rw[ha]at hsg;have hsg0:PC prog 70 #[.agg #[.bool b1,.slice a1 l1 c1,.slice a2 l2 c2]] H fun r _=>r=.int .i64 0:=hsg;refine PW.body tO func156 rfl kR ntmps156 rfl rfl ?_;refine uR ?_;rw[qC (show ¬(k:Int)<0 by omega)];refine uR ?_;rw[qC (show ¬(k:Int)≥(ns.length:Int) by omega)];refine uR ?_;rw[qC (show ¬(deep:Int)>(ns.length:Int) by omega)];refine uR ?_;refine EVL.idxM tO rfl rfl rfl rfl rfl rfl rfl rfl rfl (hsl) (k) (rfl) (hlt) (hcut) ?_;refine uR ?_;rw[hc];refine uR ?_;refine EVL.nilB rfl rfl rfl rfl rfl ?_;refine EVL.loadOwn tO rfl rfl rfl rfl rfl rfl (0) rfl (rfl) rfl rfl ?_;refine uR ?_;refine EVL.nilB rfl rfl rfl rfl rfl ?_;refine EVL.storeOwn tO rfl rfl rfl rfl rfl rfl ([]) ([]) rfl rfl rfl rfl ((by exact qH 1)) (rfl) ?_;refine uR ?_;rw[hl,hr]
  repeat (first|refine RUN ?_|refine CV (hsg0) ?_|refine CE (hsg0) ?_)
  refine⟨by rw[zab k (by omega)],_,rfl,?_⟩;split <;> omega
 | @node k h m e n hn hc1 hc2 hl hr s1 s2 ih1 ih2 =>
  intro H css b T deep far hns hsl hdk;have hlt:=(qE.1 hn).1;obtain⟨hm1,hm2⟩:=s1.lt;obtain⟨he1,he2⟩:=s2.lt;obtain⟨c,hcut,hnd⟩:=hns.get hn;obtain⟨b1,a1,l1,c1,a2,l2,c2,b3,a3,l3,c3,a4,l4,c4,b5,a5,l5,c5,a6,l6,c6,a7,c7,rfl,k1,_⟩:=hnd.cells;refine PW.body tO func156 rfl kR ntmps156 rfl rfl ?_;refine uR ?_;rw[qC (show ¬(k:Int)<0 by omega)];refine uR ?_;rw[qC (show ¬(k:Int)≥(ns.length:Int) by omega)];refine uR ?_;rw[qC (show ¬(deep:Int)>(ns.length:Int) by omega)];refine uR ?_;refine EVL.idxM tO rfl rfl rfl rfl rfl rfl rfl rfl rfl (hsl) (k) (rfl) (hlt) (hcut) ?_;refine uR ?_;rw[show (n.col == -1)=false from pT.2 (by omega)];refine uR ?_;rw[qC (show ¬n.col<0 by omega)];refine uR ?_;rw[qC (show ¬n.col≥w by omega)];refine uR ?_;rw[hl,hr,zab k oM,show (((k+1:Nat):Int) != ((k+1:Nat):Int))=false from pS _];refine uR ?_;rw[zab k oM,zab deep (by omega)];refine EVL.callW rfl rfl rfl rfl rfl ([(b,T,[.int .i64 far])]) ([]) rfl (ih1 hns hsl (deep:=deep+1) oM) ?_;rintro _ _ G1 ⟨rfl,far1,rfl,hf1⟩ hG1;refine uR ?_;rw[qC (show ¬(m:Int)<0 by omega)];refine uR ?_;rw[show ((m:Int) != (m:Int))=false from pS _];refine uR ?_;rw[zab deep (by omega)];refine EVL.callW rfl rfl rfl rfl rfl ([(b,T,[.int .i64 far1])]) ([]) rfl (ih2 (hns.mono hG1) (hsl.mono hG1) (deep:=deep+1) oM) ?_;rintro _ _ G2 ⟨rfl,far2,rfl,hf2⟩ hG2;refine uR ?_;exact⟨rfl,far2,rfl,by omega⟩
theorem zbi {l:List Int} (h:∀c,c∈l→0≤c) (k:Nat):0≤(l.take k).sum∧(l.take k).sum≤l.sum:=by
 have h0:∀m:List Int,(∀c,c∈m→0≤c)→0≤m.sum:=fun m=>by
  induction m with
  | nil=>exact fun _=>Int.le_refl 0
  | cons c m ih=>intro hm;rw[List.sum_cons];have:=hm c (qg ..);have:=ih fun c hc=>hm c (ql _ hc);omega
 have e:l.sum=(l.take k).sum+(l.drop k).sum:=by rw[←List.sum_append,List.take_append_drop]
 have h1:=h0 (l.take k) fun c hc=>h c (List.mem_of_mem_take hc);have h2:=h0 (l.drop k) fun c hc=>h c (List.mem_of_mem_drop hc);omega
theorem znO {q:Rat} (h:0≤q):¬q.num.sign<0:=by
 have:=Rat.num_nonneg.2 h;intro k;have:=Int.sign_nonneg_iff.2 this;omega
set_option maxRecDepth 100000 in
theorem zi5 {H:Hp} {kd cl w:Int} {a:Option Addr} {cp:Nat} {ns:List Nd} {css:List (List Value)} (hkd:(kd=1∧1≤cl∧cl≤12)∨(kd=2∧cl=0)) (hns:zbw H css ns) (hsl:SlC H (.slice a ns.length cp) ns.length 15 css.flatten) (hall:∀i,i<ns.length→zig kd cl ns i) {i:Nat} (hi:i<ns.length) :
  PC prog 157 #[zqT kd cl w (.slice a ns.length cp),.int .i64 (i:Int)] H fun r _=>r=.bool true:=by
 obtain⟨n,hn,hN,hC⟩:=hall i hi;obtain⟨c,hcut,hnd⟩:=hns.get hn;obtain⟨b1,a1,l1,c1,a2,l2,c2,b3,a3,l3,c3,a4,l4,c4,b5,a5,l5,c5,a6,l6,c6,a7,c7,rfl,k1,k2,k3,k4⟩:=hnd.cells;have hsc:=zbb k2;have hN1:=hN.rows;have hcl:n.counts.length≤12:=by have:=hN.len;omega
 have hcount:n.counts.sum=n.rows∨n.counts=[]:=by
  rcases hkd with ⟨e,_⟩ | ⟨e,e2⟩
  ·exact .inl (hN.sum e)
  ·exact .inr (pM.1 (by have:=hN.len;omega))
 refine BD func157 ntmps157 ?_;refine uR ?_;refine EVL.idxM tO rfl rfl rfl rfl rfl rfl rfl rfl rfl (hsl) (i) (rfl) (hi) (hcut) ?_;refine uR ?_;rw[qC (show ¬n.rows<1 by omega)];refine uR ?_;rw[qC (show ¬n.rows>1048576 by omega)]
 repeat (first|refine RUN ?_|refine CV (hsc) ?_|refine CE (hsc) ?_)
 rw[qC (znO hN.cost)];refine uR ?_;rw[show ((n.counts.length:Int) != cl)=false by rw[hN.len];exact pS _];refine uR ?_;refine EV.meetK (ι:=Bool) [2,4,5] [2,5] (fun _=>[(64,.v (.bool false))]) (fun _=>[]) (fun _=>[]) (fun _ G=>H.Le G) rfl rfl (fun _=>rfl) ?_ ?_
 ·rcases hkd with ⟨rfl,_⟩ | ⟨rfl,rfl⟩
  ·have hv0:∀G,H.Le G→PC prog 70 #[.agg #[.bool b5,.slice a5 l5 c5,.slice a6 l6 c6]] G fun r _=>r=.int .i64 0:=fun G hG=>by
    have:=zbb (k3.mono hG);rw[hN.value rfl]at this;exact this
   rw[hN.cls];apply EV.drawn 27 kR kR;intro xv yw;(repeat refine' DD ?_);refine' vC (cO func70) (fun G hG hd=>hv0 G hG) ?_;rotate_left;(repeat refine' DD ?_);refine' vC (cO func207) (fun G hG hd=>zi4 (k4.mono hG) oM) ?_;rotate_left;(repeat refine' DD ?_);rw[show ((zd3 n.counts n.counts.length:Int) != (zd3 n.counts n.counts.length:Int))=false from pS _];(repeat refine' DD ?_);(refine DJ.nil (fun G1 hG1 hF1=>?_);(case hS|hS2=>rfl));refine uR ?_;exact⟨true,⟨rfl,trivial⟩,sB,trivial,sB,rfl,hG1⟩
  ·have hc0:n.counts=[]:=pM.1 (by have:=hN.len;omega);have hcls0:n.cls=0:=by rw[hN.cls,hc0];rfl
   rw[hcls0];apply EV.drawn 27 kR kR;intro xv yw;(repeat refine' DD ?_);(refine DJ.nil (fun G1 hG1 hF1=>?_);(case hS|hS2=>rfl));refine uR ?_;exact⟨true,⟨rfl,trivial⟩,sB,trivial,sB,rfl,hG1⟩
 rintro _ G1 hG1;refine uR ?_;refine EV.loopK (ι:=Nat) [2,5] [2,5] (fun q=>[(6,.v (.int .i64 (n.rows-(n.counts.take q).sum))),(7,.v (.int .i64 (q:Int)))]) (fun _=>[]) (fun _=>[]) (fun q _=>q≤n.counts.length) (fun q=>n.counts.length-q) (0) rfl rfl ⟨(by rw[List.take_zero,List.sum_nil,Int.sub_zero];rfl),rfl,trivial⟩ trivial rfl (fun _=>rfl) (qQ _) ?_;rintro q G2 hG2 hq;have hH2:=hG1.trans hG2;refine uR ?_;refine EV.cond rfl (fun hlt=>?_) (fun hlt=>?_)
 ·simp only[nN]at hlt;obtain⟨z,hz⟩:=gE hlt;have hz0:=hN.pos z (qF hz);have ht1:=zbi hN.pos (q+1);have ht0:=zbi hN.pos q;have hts:(n.counts.take (q+1)).sum=(n.counts.take q).sum+z:=by rw[zai hz,List.sum_append,List.sum_singleton]
  have hsum:n.counts.sum=n.rows:=hcount.resolve_right fun e=>by rw[e]at hlt;exact absurd hlt (Nat.not_lt_zero _)
  refine uR ?_;refine vI ((k4.mono hH2)) (q) (rfl) (hlt) ((by rw[qK,hz];rfl)) ?_;refine uR ?_;rw[qC (show ¬z<0 by omega)];refine uR ?_;refine vI ((k4.mono hH2)) (q) (rfl) (hlt) ((by rw[qK,hz];rfl)) ?_;refine uR ?_;rw[qC (show ¬z>n.rows-(n.counts.take q).sum by omega)];refine uR ?_;refine vI ((k4.mono hH2)) (q) (rfl) (hlt) ((by rw[qK,hz];rfl)) ?_;refine uR ?_;rw[show IntKind.i64.wrap (n.rows-(n.counts.take q).sum-z)=n.rows-(n.counts.take (q+1)).sum by rw[pO];omega];refine⟨q+1,⟨rfl,by rw[zab q (by omega)];rfl,trivial⟩,sB,trivial,sB,rfl,hlt,Hp.Le.refl _,by omega⟩
 ·simp only[nN]at hlt;obtain rfl:q=n.counts.length:=oM;rw[qa];refine uR ?_;refine EVL.meetK (ι:=Bool) [2,5] [2,5] (fun _=>[(102,.v (.bool false))]) (fun _=>[]) (fun _=>[]) (fun _ G=>H.Le G) rfl rfl (fun _=>rfl) ?_ ?_
  ·rcases hkd with ⟨rfl,_⟩ | ⟨rfl,rfl⟩
   ·rw[show n.rows-n.counts.sum=0 by rw[hN.sum rfl];omega];refine uR ?_;exact⟨true,⟨rfl,trivial⟩,sB,trivial,sB,rfl,hH2⟩
   ·try refine uR ?_
    exact⟨true,⟨rfl,trivial⟩,sB,trivial,sB,rfl,hH2⟩
  rintro _ G3 hH3;refine uR ?_;by_cases hcol:n.col = -1
  ·rw[qD (show n.col<0 by omega)];refine uR ?_;rfl
  obtain⟨hc0,hl0,hr0,na,nb,hna,hnb,hCC⟩:=hC hcol;rw[qC (show ¬n.col<0 by omega)];have hla:=(qE.1 hna).1;have hlb:=(qE.1 hnb).1;obtain⟨na',ena,hNa,_⟩:=hall _ hla;obtain⟨nb',enb,hNb,_⟩:=hall _ hlb;cases hna.symm.trans ena;cases hnb.symm.trans enb;obtain⟨ca,hcuta,hnda⟩:=hns.get hna;obtain⟨cb,hcutb,hndb⟩:=hns.get hnb;obtain⟨xb1,xa1,xl1,xc1,xa2,xl2,xc2,xb3,xa3,xl3,xc3,xa4,xl4,xc4,xb5,xa5,xl5,xc5,xa6,xl6,xc6,xa7,xc7,rfl,ka1,ka2,ka3,ka4⟩:=hnda.cells;obtain⟨yb1,ya1,yl1,yc1,ya2,yl2,yc2,yb3,ya3,yl3,yc3,ya4,yl4,yc4,yb5,ya5,yl5,yc5,ya6,yl6,yc6,ya7,yc7,rfl,kb1,kb2,kb3,kb4⟩:=hndb.cells;have hRa:=hNa.rows;have hRb:=hNb.rows;have hRc:=hCC.rows;refine uR ?_;refine EVL.idxM tO rfl rfl rfl rfl rfl rfl rfl rfl rfl ((hsl.mono hH3)) (n.left.toNat) ((by rw[Int.toNat_of_nonneg hl0])) (hla) (hcuta) ?_;refine uR ?_;refine EVL.idxM tO rfl rfl rfl rfl rfl rfl rfl rfl rfl ((hsl.mono hH3)) (n.right.toNat) ((by rw[Int.toNat_of_nonneg hr0])) (hlb) (hcutb) ?_;refine uR ?_;have hadd:=zdi na.cost nb.cost;have hs0:=hN.small;have hsa:=hNa.small;have hsb:=hNb.small;have hwr:IntKind.i64.wrap (n.rows-na.rows)=nb.rows:=by rw[pO];omega
  apply EV.drawn 36 kR kR;intro xv yw;(repeat refine' DD ?_);rw[qC (show ¬na.rows<1 by omega)];(repeat refine' DD ?_);rw[qC (show ¬nb.rows<1 by omega)];(repeat refine' DD ?_);rw[qC (show ¬na.rows≥n.rows by omega)];(repeat refine' DD ?_);rw[hwr,show (nb.rows != nb.rows)=false from pS _];(repeat refine' DD ?_);refine' vB (cO func103) (fun G hG hd=>zch (ka2.mono (hH3.trans hG)) (kb2.mono (hH3.trans hG)) (zaA hsa.2.1 oM) (zaA hsb.2.1 oM)) (fun _ _ _ h k=>RQ.mono h k) ?_;rotate_left;refine' vC (cO func75) (fun G hG hd=>zaY (k2.mono (hH3.trans hG)) (hd.head kR) (zaA hs0.2.1 oM) (by unfold rq;omega)) ?_;rotate_left;(repeat refine' DD ?_);rw[qC (show ¬zb8 n.cost (na.cost+nb.cost)<0 from fun k=>Rat.not_lt.2 hCC.cost ((zfp _ _).1 k))];(refine DJ.nil (fun G4 hG4 hF4=>?_);(case hS|hS2=>rfl));refine uR ?_;refine EV.loopK (ι:=Nat) [2,5,8,9] [2,5,8,9] (fun q=>[(10,.v (.int .i64 (q:Int)))]) (fun _=>[]) (fun _=>[]) (fun q _=>q≤n.counts.length) (fun q=>n.counts.length-q) (0) rfl rfl ⟨rfl,trivial⟩ trivial rfl (fun _=>rfl) (qQ _) ?_;rintro q G5 hG5 hq;have hH5:=hH3.trans (hG4.trans hG5);have hlna:(na.counts.length:Int)=cl:=hNa.len;have hlnb:(nb.counts.length:Int)=cl:=hNb.len;have hlnn:(n.counts.length:Int)=cl:=hN.len;refine uR ?_;refine EV.cond rfl (fun hlt=>?_) (fun hlt=>?_)
  ·simp only[nN]at hlt
   have hk1:kd=1:=by
    rcases hkd with ⟨e,_⟩ | ⟨_,e⟩
    ·exact e
    ·omega
   obtain⟨z,hz⟩:=gE hlt;have hqa:q<na.counts.length:=oM;have hqb:q<nb.counts.length:=oM;obtain⟨za,hza⟩:=gE hqa;obtain⟨zb,hzb⟩:=gE hqb;have hcc:=hCC.counts q;rw[qB,qB,qB,hz,hza,hzb]at hcc;simp only[Option.getD_some]at hcc;have hpa:=hNa.pos za (qF hza);have hpb:=hNb.pos zb (qF hzb)
   have hup:zb≤1048576:=by
    have h1:=zbi hNb.pos (q+1);have h2:=zbi hNb.pos q;rw[zai hzb,List.sum_append,List.sum_singleton]at h1;have h3:=hNb.sum hk1;omega
   have hwz:IntKind.i64.wrap (z-za)=zb:=by rw[pO];omega
   refine uR ?_;apply EV.drawn 54 kR kR;intro xv yw;(repeat refine' DD ?_);rw[show ((na.counts.length:Int) != cl)=false by rw[hlna];exact pS _];(repeat refine' DD ?_);rw[show ((nb.counts.length:Int) != cl)=false by rw[hlnb];exact pS _];(repeat refine' DD ?_);refine' vJ ((ka4.mono hH5)) (q) (rfl) (hqa) ((by rw[qK,hza];rfl)) ?_;rotate_left;(repeat refine' DD ?_);rw[qC (show ¬za<0 by omega)];(repeat refine' DD ?_);refine' vJ ((ka4.mono hH5)) (q) (rfl) (hqa) ((by rw[qK,hza];rfl)) ?_;rotate_left;(repeat refine' DD ?_);refine' vJ ((k4.mono hH5)) (q) (rfl) (hlt) ((by rw[qK,hz];rfl)) ?_;rotate_left;(repeat refine' DD ?_);rw[qC (show ¬za>z by omega)];(repeat refine' DD ?_);refine' vJ ((kb4.mono hH5)) (q) (rfl) (hqb) ((by rw[qK,hzb];rfl)) ?_;rotate_left;(repeat refine' DD ?_);refine' vJ ((k4.mono hH5)) (q) (rfl) (hlt) ((by rw[qK,hz];rfl)) ?_;rotate_left;(repeat refine' DD ?_);refine' vJ ((ka4.mono hH5)) (q) (rfl) (hqa) ((by rw[qK,hza];rfl)) ?_;rotate_left;(repeat refine' DD ?_);rw[hwz,show (zb != zb)=false from pS _];(repeat refine' DD ?_);(refine DJ.nil (fun G hG hF=>?_);(case hS|hS2=>rfl));refine uR ?_;refine⟨q+1,⟨by rw[zab q (by omega)];rfl,trivial⟩,sB,trivial,sB,rfl,hlt,hG,by omega⟩
  ·try refine uR ?_
   rfl
theorem Sub.end0 {T:List Nd} {w:Int} {h e:Nat} (h0:Sub T w 0 h e):0<T.length:=by
 have:=h0.lt;omega
set_option maxRecDepth 100000 in
theorem zlR {H:Hp} {kd cl w:Int} {ns:List Nd} {cs:List Value} (ht:zeD H cs kd cl w ns) (hok:zbK ⟨kd,cl,w,ns⟩):PC prog 101 #[.agg cs.toArray] H fun r _=>r=.int .i64 0:=by
 obtain⟨a,cp,css,rfl,hns,hsl⟩:=ht;obtain⟨hkd,hw,hln,⟨hh,hh10,hsub⟩,hall⟩:=hok;dsimp only at hkd hw hln hsub hall;have hpos:=hsub.end0;refine BD func101 ntmps101 ?_;refine uR ?_;refine EVL.meetK (ι:=Bool) [1,2] [1] (fun _=>[(12,.v (.bool false))]) (fun _=>[]) (fun _=>[]) (fun _ G=>H.Le G) rfl rfl (fun _=>rfl) ?_ ?_
 ·rcases hkd with ⟨rfl,_⟩ | ⟨rfl,rfl⟩
  ·try refine uR ?_
   exact⟨true,⟨rfl,trivial⟩,sB,trivial,sB,rfl,Hp.Le.refl _⟩
  ·try refine uR ?_
   exact⟨true,⟨rfl,trivial⟩,sB,trivial,sB,rfl,Hp.Le.refl _⟩
 rintro _ G1 hG1;refine uR ?_;rw[qC (show ¬w<1 by omega)];refine uR ?_;rw[qC (show ¬w>20 by omega)];refine uR ?_;refine EVL.meetK (ι:=Bool) [1,2] [1] (fun _=>[(57,.v (.bool false))]) (fun _=>[]) (fun _=>[]) (fun _ G=>H.Le G) rfl rfl (fun _=>rfl) ?_ ?_
 ·have fin1:decide ((ns.length:Int)<1)=false:=qC oM;have fin2:decide ((ns.length:Int)>2000)=false:=qC oM;rcases hkd with ⟨rfl,h1,h2⟩ | ⟨rfl,rfl⟩
  ·try refine uR ?_
   rw[qC (show ¬cl<1 by omega)];refine uR ?_;rw[qC (show ¬cl>12 by omega)];refine uR ?_;rw[fin1];refine uR ?_;rw[fin2];refine uR ?_;exact⟨true,⟨rfl,trivial⟩,sB,trivial,sB,rfl,hG1⟩
  ·try refine uR ?_
   rw[fin1];refine uR ?_;rw[fin2];refine uR ?_;exact⟨true,⟨rfl,trivial⟩,sB,trivial,sB,rfl,hG1⟩
 rintro _ G2 hG2;refine uR ?_;(first|refine EVL.unbox (3) rfl fun g3=>?_|refine EV.unbox (3) rfl fun g3=>?_);(first|refine EVL.unbox (1) rfl fun g1=>?_|refine EV.unbox (1) rfl fun g1=>?_);refine EVI.start none (g1,92,[.int .i64 kd,.int .i64 cl,.int .i64 w,.slice a ns.length cp]) ?_;refine IL0 0 ?_;refine IF 2 ?_;refine IL0 3 ?_;refine IV 4 ?_;refine EVI.one 1 0 (.inr rfl) kR rfl ?_;(first|refine EVL.swapOw ([(g1,_,_)]) ([(g3,_,_)]) (rfl) ?_|refine EV.swapOw ([(g1,_,_)]) ([(g3,_,_)]) (rfl) ?_);refine EVL.callW rfl rfl rfl rfl rfl ([(g3,_,_)]) ([(g1,_,_)]) rfl (zqE oM hsub (hns.mono hG2) (hsl.mono hG2) (deep:=0) (qH _)) ?_;rintro _ _ G3 ⟨rfl,far,rfl,hfar⟩ hG3;(first|refine EVL.swapOw ([(g3,_,_)]) ([(g1,_,_)]) (rfl) ?_|refine EV.swapOw ([(g3,_,_)]) ([(g1,_,_)]) (rfl) ?_);refine EVL.nil ⟨rfl,?_⟩;refine EVI.one 5 0 (.inr rfl) kR rfl ?_
 (try refine zsg ?_);refine EVL.nil ⟨rfl,?_⟩;refine EVI.nil 0 (.inr rfl) kR ?_;rw[show ((ns.length:Int) != (ns.length:Int))=false from pS _];refine uR ?_;refine EVL.loadOwn tO rfl rfl rfl rfl rfl rfl (1) rfl (rfl) rfl rfl ?_;refine uR ?_;rw[qC (show ¬far>10 by omega)];refine uR ?_;refine EV.loopK (ι:=Nat) [1] [] (fun q=>[(4,.v (.int .i64 (q:Int)))]) (fun _=>[]) (fun _=>[(g1,92,[.int .i64 kd,.int .i64 cl,.int .i64 w,.slice a ns.length cp]),(g3,_,[.int .i64 far])]) (fun q _=>q≤ns.length) (fun q=>ns.length-q) (0) rfl rfl ⟨rfl,trivial⟩ trivial rfl (fun _=>rfl) (qQ _) ?_;rintro i G4 hG4 hi;have hH4:=hG2.trans (hG3.trans hG4);refine uR ?_;refine EVL.fldB tO rfl rfl rfl rfl rfl rfl rfl ?_;refine EVL.loadOwn tO rfl rfl rfl rfl rfl rfl (0) rfl (rfl) rfl rfl ?_;refine uR ?_;refine EV.cond rfl (fun hlt=>?_) (fun hlt=>?_)
 ·simp only[nN]at hlt;refine uR ?_;refine EVL.loadOwn tO rfl rfl rfl rfl rfl rfl (0) rfl (rfl) rfl rfl ?_
  repeat (first|refine RUN ?_|refine CV (zi5 hkd (hns.mono hH4) (hsl.mono hH4) hall hlt) ?_|refine CE (zi5 hkd (hns.mono hH4) (hsl.mono hH4) hall hlt) ?_)
  refine⟨i+1,⟨by rw[zab i (by omega)];rfl,trivial⟩,sB,trivial,trivial,rfl,hlt,Hp.Le.refl _,by omega⟩
 ·try refine uR ?_
  rfl
theorem RTs.get {H:Hp} {tcs:List (List Value)} {ts:List Tr} (h:RTs H tcs ts) {j:Nat} {t:Tr} (hj:ts[j]?=some t):∃c,(tcs.flatten.drop (j*4)).take 4=c∧zeD H c t.kd t.cl t.w t.ns:=by
 have hlt:=(qE.1 hj).1;obtain⟨c,hc⟩:∃c,tcs[j]?=some c:=⟨_,qA (by rw[h.1];exact hlt)⟩;refine⟨c,?_,h.2 j c t hc hj⟩
 have h4:∀x,x∈tcs→(id x).length=4:=fun x hx=>by
  obtain⟨i,hi⟩:=List.mem_iff_getElem?.1 hx;have hi':=(qE.1 hi).1;obtain⟨_,_,_,e,_⟩:=h.2 i x _ hi (qA (by rw[←h.1];exact hi'));subst e;rfl
 have:=zcs id 4 tcs h4 j c hc
 rwa [List.flatMap_id]at this
def ze3 (z:Int):Prop:=-9223372036854775808≤z∧z<9223372036854775808
structure zkf (kd cl:Int) (n:Nat) (cost mean:List Int→Rat) (cnt:List Int→List Int):Prop where
 kind:(kd=1∧1≤cl∧cl≤12)∨(kd=2∧cl=0)
 clen:∀l,((cnt l).length:Int)=cl
 cadd:∀r l m:List Int,r.Perm (l++m)→∀k:Nat,(cnt r).getD k 0=(cnt l).getD k 0+(cnt m).getD k 0
 cpos:∀l c,c∈cnt l→0≤c
 csum:kd=1→∀l,(∀r,r∈l→0≤r∧r<(n:Int))→(cnt l).sum=(l.length:Int)
 zero:kd=1→∀l,mean l=0
 cost0:∀l,0≤cost l
 csm:∀l:List Int,l.length≤300→(∀r,r∈l→0≤r∧r<(n:Int))→ht (cost l)≤2000000
 msm:∀l:List Int,l.length≤300→(∀r,r∈l→0≤r∧r<(n:Int))→ht (mean l)≤4000
theorem zgr:∀l:List Rat,(∀q,q∈l→0≤q)→0≤zaT l
 | [],_=>by rw[zfr];exact Rat.le_refl
 | x::l,h=>by
  rw[znT];exact Rat.add_nonneg (h x (.head _)) (zgr l fun q hq=>h q (.tail _ hq))
theorem zjz (m:Rat) (l:List Rat):0≤zaT (zfN m l):=zgr _ fun q hq=>by
 obtain⟨v,_,rfl⟩:=List.mem_map.1 hq;exact znS _
theorem ziv (L:List Int):0≤ziu L:=by
 unfold ziu;have h1:=znR L;by_cases h0:L.length=0
 ·obtain rfl:=pM.1 h0;decide +kernel
 ·have hp:(0:Rat)<((L.length:Int):Rat):=by
   have:((0:Int):Rat)<((L.length:Int):Rat):=Rat.intCast_lt_intCast.2 oM;exact this
  have h2:((sqL L:Int):Rat)≤((L.length:Int):Rat)*((L.length:Int):Rat):=by
   rw[←Rat.intCast_mul];exact Rat.intCast_le_intCast.2 (by exact_mod_cast h1)
  generalize ((L.length:Int):Rat)=N at *
  generalize ((sqL L:Int):Rat)=S at *
  have h3:0≤N⁻¹:=Rat.le_of_lt (Rat.inv_pos.2 hp);have h4:0≤N*N-S:=by grind
  have h5:=Rat.mul_nonneg h4 h3;have hne:N≠0:=by grind
  have h6:N*N⁻¹=1:=Rat.mul_inv_cancel N hne;have h7:(N*N-S)*N⁻¹=N-S / N:=by rw[Rat.div_def];grind
  rw[h7]at h5;exact h5
theorem zkY {α:Type} (f:α→Nat):∀l:List α,(l.map fun x=>(f x:Int)).sum=(((l.map f).sum:Nat):Int)
 | []=>rfl
 | x::l=>by
  rw[pJ,pJ,List.sum_cons,List.sum_cons,zkY f l];omega
theorem zou {C:Nat} {L:List Int} (h:∀z,z∈L→0≤z∧z<(C:Int)):(zdx C L).sum=(L.length:Int):=by
 have h1:=(zh5 C L h).2;unfold zdx;rw[zkY (fun k:Nat=>L.count (k:Int)),←h1]
theorem zfJ (C:Nat) (L:List Int) (k:Nat):(zdx C L).getD k 0=if k<C then (L.count (k:Int):Int) else 0:=by
 rw[qB];by_cases h:k<C
 ·rw[zeG _ h,if_pos h];rfl
 ·rw[qf (by rw[zbD];omega),if_neg h];rfl
theorem zot (C:Nat) {R L M:List Int} (h:R.Perm (L++M)) (k:Nat):(zdx C R).getD k 0=(zdx C L).getD k 0+(zdx C M).getD k 0:=by
 rw[zfJ,zfJ,zfJ,h.count_eq,List.count_append];split <;> omega
theorem zom {ls:List Int} {rs:List Int} (h:∀r,r∈rs→0≤r∧r<(ls.length:Int)):∀q,q∈atI ls rs→q∈ls:=fun q hq=>by
 obtain⟨r,hr,rfl⟩:=List.mem_map.1 hq;have:=h r hr;have hl:r.toNat<ls.length:=oM;rw[qB,qA hl];exact List.getElem_mem hl
theorem zmb {l:List Int} {n w:Nat}:∀x,x∈zeT l n w→x.length=w∧∀q,q∈x→ht q≤60:=fun x hx=>⟨(zkR x hx).1,fun q hq=>qI ((zkR x hx).2 q hq) oM⟩
def zcP (H:Hp) (cs:List Value) (n:Nd):Prop:=∃a c,IL H (.slice a n.counts.length c) n.counts ∧
 cs=[.int .i64 n.col,.int .i64 n.left,.int .i64 n.right,.int .i64 n.rows,.int .i64 n.cls]++(zae (zan n.at')++(zae (zan n.cost)++(zae (zan n.value)++[.slice a n.counts.length c])))
theorem zcP.mono {H G:Hp} {cs:List Value} {n:Nd} (h:zcP H cs n) (k:H.Le G):zcP G cs n:=by
 obtain⟨a,c,h1,e⟩:=h;exact⟨a,c,h1.mono k,e⟩
theorem zcP.len {H:Hp} {cs:List Value} {n:Nd} (h:zcP H cs n):cs.length=21:=by
 obtain⟨a,c,_,rfl⟩:=h;rfl
theorem zcP.one {H:Hp} {cs:List Value} {n:Nd} (h:zcP H cs n):zd9 cs=true:=by
 obtain⟨a,c,_,rfl⟩:=h;rfl
theorem zrl (cs:List Value):[Value.agg cs.toArray].flatMap zae=cs:=by
 show zae (.agg cs.toArray)++[]=cs;rw[qG];rfl
theorem zp3 (c:List Value):[c].flatten=c:=List.flatten_singleton
def zeX (H:Hp) (css:List (List Value)) (ns:List Nd):Prop:=css.length=ns.length∧∀(j:Nat) (c:List Value) (n:Nd),css[j]?=some c→ns[j]?=some n→zcP H c n
theorem zeX.mono {H G:Hp} {css:List (List Value)} {ns:List Nd} (h:zeX H css ns) (k:H.Le G):zeX G css ns:=⟨h.1,fun j c n e1 e2=>(h.2 j c n e1 e2).mono k⟩
theorem zeX.get {H:Hp} {css:List (List Value)} {ns:List Nd} (h:zeX H css ns) {j:Nat} {n:Nd} (hj:ns[j]?=some n):∃c,(css.flatten.drop (j*21)).take 21=c∧zcP H c n:=by
 have hlt:=(qE.1 hj).1;obtain⟨c,hc⟩:∃c,css[j]?=some c:=⟨_,qA (by rw[h.1];exact hlt)⟩;refine⟨c,?_,h.2 j c n hc hj⟩
 have h21:∀x,x∈css→(id x).length=21:=fun x hx=>by
  obtain⟨i,hi⟩:=List.mem_iff_getElem?.1 hx;have hi':=(qE.1 hi).1;exact(h.2 i x _ hi (qA (by rw[←h.1];exact hi'))).len
 have:=zcs id 21 css h21 j c hc
 rwa [List.flatMap_id]at this
def zfz (H:Hp) (cs:List Value) (kd cl w:Int) (ns:List Nd):Prop:=∃a c css,cs=[.int .i64 kd,.int .i64 cl,.int .i64 w,.slice a ns.length c]∧zeX H css ns∧SlC H (.slice a ns.length c) ns.length 21 css.flatten
theorem zfz.mono {H G:Hp} {cs:List Value} {kd cl w:Int} {ns:List Nd} (h:zfz H cs kd cl w ns) (k:H.Le G):zfz G cs kd cl w ns:=by
 obtain⟨a,c,css,e,h1,h2⟩:=h;exact⟨a,c,css,e,h1.mono k,h2.mono k⟩
def zgO (n:Nd):Prop:=rq n.at'∧rq n.cost∧rq n.value∧n.counts.length≤1000000
theorem OkN.smallN {kd cl:Int} {n:Nd} (h:OkN kd cl n) (hc:cl≤12):zgO n:=by
 obtain⟨h1,h2,h3⟩:=h.small;have:=h.len;unfold zgO rq;exact⟨by omega,by omega,by omega,by omega⟩
set_option maxRecDepth 100000 in
theorem zmP {H:Hp} {cs:List Value} {kd cl w:Int} {ns:List Nd} (h:zeD H cs kd cl w ns) (hs:∀n,n∈ns→zgO n) (hl:ns.length≤1000000) :
  PC prog 155 #[.agg cs.toArray] H fun r H'=>∃cs',r=.agg cs'.toArray∧zfz H' cs' kd cl w ns:=by
 obtain⟨a,c,css,rfl,hns,hsl⟩:=h;refine BD func155 ntmps155 ?_;refine uR ?_;refine EV.loopK (ι:=Nat × Value × List (List Value) × Ows) [1,2,3] [1,2] (fun q=>[(4,.v (.int .i64 (q.1:Int)))]) (fun q=>[(3,128,[.int .i64 kd,.int .i64 cl,.int .i64 w,q.2.1])]) (fun q=>q.2.2.2) (fun q G=>q.1≤ns.length∧zeX G q.2.2.1 (ns.take q.1)∧zaF 168 21 q.2.1 q.1 q.2.2.1.flatten q.2.2.2) (fun q=>ns.length-q.1) ((0,.slice none 0 0,[],[])) rfl rfl ⟨rfl,trivial⟩ ⟨rfl,trivial⟩ rfl (fun _=>rfl) (⟨qQ _,⟨rfl,fun j c n e1 e2=>by cases e1⟩,zaF.nil _ _⟩) ?_;rintro⟨i,u,ps,ow⟩ G1 hG1 ⟨hi,hps,hown⟩;dsimp only at hi hps hown;obtain⟨wa,wc,rfl⟩:=hown.val;refine uR ?_;refine EV.cond rfl (fun hlt=>?_) (fun hlt=>?_)
 ·simp only[nN]at hlt;obtain⟨n,hni⟩:=gE hlt;obtain⟨q1,q2,q3,q4⟩:=hs n (qF hni);obtain⟨cc,hcut,hnd⟩:=(hns.mono hG1).get hni;obtain⟨b1,a1,l1,c1,a2,l2,c2,b3,a3,l3,c3,a4,l4,c4,b5,a5,l5,c5,a6,l6,c6,a7,c7,rfl,k1,k2,k3,k4⟩:=hnd.cells;refine uR ?_;refine EVL.idxM tO rfl rfl rfl rfl rfl rfl rfl rfl rfl ((hsl.mono hG1)) (i) (rfl) (hlt) (hcut) ?_;refine uR ?_;by_cases e:n.counts.length=0
  ·have hc0:n.counts=[]:=pM.1 e;rw[e];apply EV.drawn 27 kR kR;intro xv yw;(repeat refine' DD ?_);refine' vC (cO func63) (fun G hG hd=>zfT (RQ.mono k1 hG) q1) ?_;rotate_left;(repeat refine' DD ?_);refine' vC (cO func63) (fun G hG hd=>zfT (RQ.mono k2 hG) q2) ?_;rotate_left;(repeat refine' DD ?_);refine' vC (cO func63) (fun G hG hd=>zfT (RQ.mono k3 hG) q3) ?_;rotate_left;(repeat refine' DD ?_);(refine' DJ.lit0 tO rfl rfl rfl rfl rfl rfl rfl ?_;rotate_left);(repeat refine' DD ?_);refine' DJ.append0E (u0:=xv 21) tO rfl rfl rfl rfl rfl rfl rfl rfl rfl (a7) (c7) rfl (fun G hd=>hd.head kR) ?_;rotate_left
   (refine' DJ.plainE tO (fun v G=>∃cs,v=.agg cs.toArray∧zcP G cs n) (fun v G G' ⟨cs,e,h⟩ k=>⟨cs,e,h.mono k⟩) rfl rfl rfl (fun G hd=>(by
    obtain⟨g8,e8⟩:∃g,xv 24=.slice (some ⟨g,0,none⟩) 0 0:=hd.head kR;rw[e8];exact⟨_,rfl,_,rfl,some ⟨g8,0,none⟩,0,(by rw[hc0];exact IL.nil _ _ _),by rw[hc0];rfl⟩)) ?_;rotate_left)
   (refine' DJ.litD1 (Φ:=fun v G=>∃cs,SlC G v 1 21 cs∧zcP G cs n) (fun v G G' ⟨cs,e,h⟩ k=>⟨cs,e.mono k,h.mono k⟩) tO rfl rfl rfl rfl rfl rfl rfl rfl rfl rfl rfl (fun G hd=>by obtain⟨cs,e,h⟩:=hd.head kR;rw[e];exact h.len) (fun G G' v hd hG h=>(by
    obtain⟨cs,e,hp⟩:=hd.head kR;rw[e,zrl]at h;exact⟨cs,h,hp.mono hG⟩)) ?_;rotate_left)
   (refine DJ.nil (fun G2 hG2 hF2=>?_);(case hS|hS2=>rfl));obtain⟨cs2,hs2,hp2⟩:=hF2.1;refine EVL.append tO rfl rfl rfl rfl rfl rfl rfl rfl rfl rfl rfl rfl [] ow [] (qG _).symm hown (zcn.ro hs2 (Nat.succ_pos 0)) hp2.one oM ?_;intro v1 ow1 hown1;obtain⟨va,vc,rfl⟩:=hown1.val;refine uR ?_;refine⟨(i+1,.slice va (i+1) vc,ps++[cs2],ow1),⟨by dsimp only;rw[zab i (by omega)];rfl,trivial⟩,sB,⟨rfl,trivial⟩,sB,qG _,⟨hlt,by dsimp only;rw[zai hni];exact zfq (hps.mono hG2) hp2,by dsimp only;rw[List.flatten_append,zp3];exact hown1⟩,hG2,by dsimp only;omega⟩
  ·have hls:SlC G1 (.slice a7 n.counts.length c7) n.counts.length 1 (n.counts.map iv):=k4;apply EV.drawn 27 kR kR;intro xv yw;(repeat refine' DD ?_);refine' vC (cO func63) (fun G hG hd=>zfT (RQ.mono k1 hG) q1) ?_;rotate_left;(repeat refine' DD ?_);refine' vC (cO func63) (fun G hG hd=>zfT (RQ.mono k2 hG) q2) ?_;rotate_left;(repeat refine' DD ?_);refine' vC (cO func63) (fun G hG hd=>zfT (RQ.mono k3 hG) q3) ?_;rotate_left;(repeat refine' DD ?_);(refine' DJ.lit0 tO rfl rfl rfl rfl rfl rfl rfl ?_;rotate_left);(repeat refine' DD ?_);refine' DJ.appendE (u0:=xv 21) tO rfl rfl rfl rfl rfl rfl rfl rfl rfl rfl (fun G hd=>hd.head kR) (hls) (Nat.pos_of_ne_zero e) oM ?_;rotate_left
   (refine' DJ.plainE tO (fun v G=>∃cs,v=.agg cs.toArray∧zcP G cs n) (fun v G G' ⟨cs,e,h⟩ k=>⟨cs,e,h.mono k⟩) rfl rfl rfl (fun G hd=>(by
    have hA:SlC G (xv 24) n.counts.length 1 (n.counts.map iv):=hd.head kR;obtain⟨a8,c8,e8⟩:=SlC.val hA;rw[e8]at hA;rw[e8];exact⟨_,rfl,_,rfl,_,_,hA,rfl⟩)) ?_;rotate_left)
   (refine' DJ.litD1 (Φ:=fun v G=>∃cs,SlC G v 1 21 cs∧zcP G cs n) (fun v G G' ⟨cs,e,h⟩ k=>⟨cs,e.mono k,h.mono k⟩) tO rfl rfl rfl rfl rfl rfl rfl rfl rfl rfl rfl (fun G hd=>by obtain⟨cs,e,h⟩:=hd.head kR;rw[e];exact h.len) (fun G G' v hd hG h=>(by
    obtain⟨cs,e,hp⟩:=hd.head kR;rw[e,zrl]at h;exact⟨cs,h,hp.mono hG⟩)) ?_;rotate_left)
   (refine DJ.nil (fun G2 hG2 hF2=>?_);(case hS|hS2=>rfl));obtain⟨cs2,hs2,hp2⟩:=hF2.1;refine EVL.append tO rfl rfl rfl rfl rfl rfl rfl rfl rfl rfl rfl rfl [] ow [] (qG _).symm hown (zcn.ro hs2 (Nat.succ_pos 0)) hp2.one oM ?_;intro v1 ow1 hown1;obtain⟨va,vc,rfl⟩:=hown1.val;refine uR ?_;refine⟨(i+1,.slice va (i+1) vc,ps++[cs2],ow1),⟨by dsimp only;rw[zab i (by omega)];rfl,trivial⟩,sB,⟨rfl,trivial⟩,sB,qG _,⟨hlt,by dsimp only;rw[zai hni];exact zfq (hps.mono hG2) hp2,by dsimp only;rw[List.flatten_append,zp3];exact hown1⟩,hG2,by dsimp only;omega⟩
 ·simp only[nN]at hlt;obtain rfl:i=ns.length:=oM;rw[qa]at hps;(first|refine EVL.publishL [] ow [] ((qG _).symm) hown fun G2 hG2 hs2=>?_|refine EV.publishL [] ow [] ((qG _).symm) hown fun G2 hG2 hs2=>?_);refine uR ?_;exact⟨_,rfl,_,_,_,rfl,hps.mono hG2,hs2⟩
section
variable {P:Program} {n:Nat} {ops:Array Oper} {o:Oper} {rest:List Oper} {env:Env} {bx:Bxs} {sb:Bxs} {ow:Ows} {H:Hs} {Q:EQ} {τ:Tab} {d:Nat} {s:SV}
end
section
variable {P:Program} {n:Nat} {ops:Array Oper} {o:Oper} {rest:List Oper} {env:Env} {bx:Bxs} {H:Hs} {Q:EQ} {d:Nat}
end
def PTs (H:Hp) (tcs:List (List Value)) (ts:List Tr):Prop:=tcs.length=ts.length∧∀(j:Nat) (c:List Value) (t:Tr),tcs[j]?=some c→ts[j]?=some t→zfz H c t.kd t.cl t.w t.ns
theorem PTs.mono {H G:Hp} {tcs:List (List Value)} {ts:List Tr} (h:PTs H tcs ts) (k:H.Le G):PTs G tcs ts:=⟨h.1,fun j c t e1 e2=>(h.2 j c t e1 e2).mono k⟩
theorem PTs.get {H:Hp} {tcs:List (List Value)} {ts:List Tr} (h:PTs H tcs ts) {j:Nat} {t:Tr} (hj:ts[j]?=some t):∃c,(tcs.flatten.drop (j*4)).take 4=c∧zfz H c t.kd t.cl t.w t.ns:=by
 have hlt:=(qE.1 hj).1;obtain⟨c,hc⟩:∃c,tcs[j]?=some c:=⟨_,qA (by rw[h.1];exact hlt)⟩;refine⟨c,?_,h.2 j c t hc hj⟩
 have h4:∀x,x∈tcs→(id x).length=4:=fun x hx=>by
  obtain⟨i,hi⟩:=List.mem_iff_getElem?.1 hx;have hi':=(qE.1 hi).1;obtain⟨_,_,_,e,_⟩:=h.2 i x _ hi (qA (by rw[←h.1];exact hi'));subst e;rfl
 have:=zcs id 4 tcs h4 j c hc
 rwa [List.flatMap_id]at this
def PTL (H:Hp) (v:Value) (ts:List Tr):Prop:=∃tcs,PTs H tcs ts∧SlC H v ts.length 4 tcs.flatten
theorem PTL.mono {H G:Hp} {v:Value} {ts:List Tr} (h:PTL H v ts) (k:H.Le G):PTL G v ts:=by
 obtain⟨tcs,h1,h2⟩:=h;exact⟨tcs,h1.mono k,h2.mono k⟩
set_option maxRecDepth 100000 in
theorem zlx {H:Hp} {v:Value} {ts:List Tr} (h:RTL H v ts) (hs:∀t,t∈ts→t.ns.length≤1000000∧∀n,n∈t.ns→zgO n) (hl:ts.length≤1000000):PC prog 100 #[v] H fun r H'=>PTL H' r ts:=by
 obtain⟨tcs,hts,hsl⟩:=h;obtain⟨a,c,rfl⟩:=SlC.val hsl;refine BD func100 ntmps100 ?_;refine uR ?_;refine EV.loopK (ι:=Nat × Value × List (List Value) × Ows) [0] [] (fun q=>[(3,.v q.2.1),(4,.v (.int .i64 (q.1:Int)))]) (fun _=>[]) (fun q=>q.2.2.2) (fun q G=>q.1≤ts.length∧PTs G q.2.2.1 (ts.take q.1)∧zaF 128 4 q.2.1 q.1 q.2.2.1.flatten q.2.2.2) (fun q=>ts.length-q.1) ((0,.slice none 0 0,[],[])) rfl rfl ⟨rfl,rfl,trivial⟩ trivial rfl (fun _=>rfl) (⟨qQ _,⟨rfl,fun j c n e1 e2=>by cases e1⟩,zaF.nil _ _⟩) ?_;rintro⟨i,u,ps,ow⟩ G1 hG1 ⟨hi,hps,hown⟩;dsimp only at hi hps hown;obtain⟨wa,wc,rfl⟩:=hown.val;refine uR ?_;refine EV.cond rfl (fun hlt=>?_) (fun hlt=>?_)
 ·simp only[nN]at hlt;obtain⟨t,hti⟩:=gE hlt;obtain⟨k1,k2⟩:=hs t (qF hti);obtain⟨cc,hcut,htr⟩:=(hts.mono hG1).get hti;obtain⟨a3,c3,css,rfl,_,_⟩:=id htr;refine uR ?_;refine EVL.idxM tO rfl rfl rfl rfl rfl rfl rfl rfl rfl ((hsl.mono hG1)) (i) (rfl) (hlt) (hcut) ?_;refine uR ?_;refine vA (zmP htr k2 k1) ?_;rintro _ G2 ⟨cs2,rfl,hp2⟩ hG2;obtain⟨a4,c4,css4,rfl,_,_⟩:=id hp2;refine uR ?_;refine EVL.app1 tO rfl rfl rfl rfl rfl rfl rfl rfl rfl rfl rfl rfl rfl rfl rfl rfl rfl rfl rfl (fun _=>rfl) (ow) ([]) ((qG _).symm) (hown) oM fun _=>?_;intro v' ow' hown';refine uR ?_;refine⟨(i+1,v',ps++[_],ow'),⟨rfl,by dsimp only;rw[zab i (by omega)];rfl,trivial⟩,sB,trivial,trivial,qG _,⟨hlt,by dsimp only;rw[zai hti];exact zfq (hps.mono hG2) hp2,by dsimp only;rw[List.flatten_append,zp3];exact hown'⟩,hG2,by dsimp only;omega⟩
 ·simp only[nN]at hlt;obtain rfl:i=ts.length:=oM;rw[qa]at hps;(first|refine EVL.publishL [] ow [] ((qG _).symm) hown fun G2 hG2 hs2=>?_|refine EV.publishL [] ow [] ((qG _).symm) hown fun G2 hG2 hs2=>?_);refine uR ?_;exact⟨ps,hps.mono hG2,hs2⟩
theorem zcP.cells {H:Hp} {cs:List Value} {n:Nd} (h:zcP H cs n):∃a c,cs=[.int .i64 n.col,.int .i64 n.left,.int .i64 n.right,.int .i64 n.rows,.int .i64 n.cls,
  .bool (decide (n.at'.num<0)),.int .u64 (lo n.at'.num.natAbs:Int),.string (zao n.at'.num.natAbs),.int .u64 (lo (dk n.at'.den):Int),.string (zao (dk n.at'.den)),
  .bool (decide (n.cost.num<0)),.int .u64 (lo n.cost.num.natAbs:Int),.string (zao n.cost.num.natAbs),.int .u64 (lo (dk n.cost.den):Int),.string (zao (dk n.cost.den)),
  .bool (decide (n.value.num<0)),.int .u64 (lo n.value.num.natAbs:Int),.string (zao n.value.num.natAbs),.int .u64 (lo (dk n.value.den):Int),.string (zao (dk n.value.den)),.slice a n.counts.length c]∧IL H (.slice a n.counts.length c) n.counts:=by
 obtain⟨a,c,h1,rfl⟩:=h;exact⟨a,c,rfl,h1⟩
abbrev zj8 (kd cl w:Int) (vn:Value) (far:Int):List Value:=[.int .i64 kd,.int .i64 cl,.int .i64 w,vn,.int .i64 far]
set_option maxRecDepth 100000 in
theorem zqu {kd cl w:Int} {a:Option Addr} {cp:Nat} {ns:List Nd} (hln:ns.length≤1000000) {k h e:Nat} (hsub:Sub ns w k h e):∀{H:Hp} {css:List (List Value)} {b:Nat} {T:TypeId} {deep:Nat} {far:Int},zeX H css ns→SlC H (.slice a ns.length cp) ns.length 21 css.flatten→deep≤k →
  PW prog 141 #[.pointer (some ⟨b,0,none⟩),.int .i64 (k:Int),.int .i64 (deep:Int)] H [(b,T,zj8 kd cl w (.slice a ns.length cp) far)] fun v ow _=>v=.tuple #[.int .i64 (e:Int),.bool true]∧∃far',ow=[(b,T,zj8 kd cl w (.slice a ns.length cp) far')]∧far'≤max far ((deep+h:Nat):Int):=by
 induction hsub with
 | @leaf k h n hn hc hl hr ha =>
  intro H css b T deep far hns hsl hdk;have hlt:=(qE.1 hn).1;obtain⟨c,hcut,hnd⟩:=hns.get hn;obtain⟨a7,c7,rfl,_⟩:=hnd.cells
  have hsg:PV prog 20 #[zan n.at'] (.int .i64 0):=by
   rw[ha];exact zcB 0 (by show bl 0≤_;rw[zbu];omega)
  refine PW.body tO func141 rfl kR ntmps141 rfl rfl ?_;refine uR ?_;refine RP ?_;refine EVL.loadOwn tO rfl rfl rfl rfl rfl rfl (0) rfl (rfl) rfl rfl ?_;refine uR ?_;rw[qC (show ¬(k:Int)≥(ns.length:Int) by omega)];refine uR ?_;refine RP ?_;refine EVL.loadOwn tO rfl rfl rfl rfl rfl rfl (0) rfl (rfl) rfl rfl ?_;refine uR ?_;refine EVL.idxM tO rfl rfl rfl rfl rfl rfl rfl rfl rfl (hsl) (k) (rfl) (hlt) (hcut) ?_;refine uR ?_;rw[hc];refine uR ?_;refine RP ?_;refine EVL.loadOwn tO rfl rfl rfl rfl rfl rfl (0) rfl (rfl) rfl rfl ?_;refine uR ?_;refine RP ?_;refine EVL.storeOwn tO rfl rfl rfl rfl rfl rfl ([]) ([]) rfl rfl rfl rfl ((by exact qH 5)) (rfl) ?_;refine uR ?_;rw[hl,hr]
  repeat (first|refine RUN ?_|refine CV (hsg) ?_|refine CE (hsg) ?_)
  refine⟨by rw[zab k (by omega)];rfl,_,rfl,?_⟩;split <;> omega
 | @node k h m e n hn hc1 hc2 hl hr s1 s2 ih1 ih2 =>
  intro H css b T deep far hns hsl hdk;have hlt:=(qE.1 hn).1;obtain⟨hm1,hm2⟩:=s1.lt;obtain⟨he1,he2⟩:=s2.lt;obtain⟨c,hcut,hnd⟩:=hns.get hn;obtain⟨a7,c7,rfl,_⟩:=hnd.cells;refine PW.body tO func141 rfl kR ntmps141 rfl rfl ?_;refine uR ?_;refine RP ?_;refine EVL.loadOwn tO rfl rfl rfl rfl rfl rfl (0) rfl (rfl) rfl rfl ?_;refine uR ?_;rw[qC (show ¬(k:Int)≥(ns.length:Int) by omega)];refine uR ?_;refine RP ?_;refine EVL.loadOwn tO rfl rfl rfl rfl rfl rfl (0) rfl (rfl) rfl rfl ?_;refine uR ?_;refine EVL.idxM tO rfl rfl rfl rfl rfl rfl rfl rfl rfl (hsl) (k) (rfl) (hlt) (hcut) ?_;refine uR ?_;rw[show (n.col == -1)=false from pT.2 (by omega)];refine uR ?_;apply EV.drawn 20 kR kR;intro xv yw;(repeat refine' DD ?_);rw[qC (show ¬n.col<0 by omega)];(repeat refine' DD ?_);(repeat (first|refine' DD ?_|refine' vN ?_|refine' vF ?_));refine' DJ.ofVal (zac.loadOwn tO rfl rfl rfl rfl (0) rfl (rfl) rfl rfl) rfl rfl rfl ?_;rotate_left;(repeat refine' DD ?_);rw[qC (show ¬n.col≥w by omega)];(repeat refine' DD ?_);rw[hl,zab k oM,show (((k+1:Nat):Int) != ((k+1:Nat):Int))=false from pS _];(repeat refine' DD ?_);(refine DJ.nil (fun G1 hG1 hF1=>?_);(case hS|hS2=>rfl));refine uR ?_;rw[zab k oM,zab deep (by omega)];refine EVL.callW rfl rfl rfl rfl rfl ([(b,T,zj8 kd cl w (.slice a ns.length cp) far)]) ([]) rfl (ih1 (hns.mono hG1) (hsl.mono hG1) (deep:=deep+1) oM) ?_;rintro _ _ G2 ⟨rfl,far1,rfl,hf1⟩ hG2;refine uR ?_;rw[hr,show ((m:Int) != (m:Int))=false from pS _];refine uR ?_;rw[zab deep (by omega)];refine EVL.callW rfl rfl rfl rfl rfl ([(b,T,zj8 kd cl w (.slice a ns.length cp) far1)]) ([]) rfl (ih2 (hns.mono (hG1.trans hG2)) (hsl.mono (hG1.trans hG2)) (deep:=deep+1) oM) ?_;rintro _ _ G3 ⟨rfl,far2,rfl,hf2⟩ hG3;refine uR ?_;exact⟨rfl,far2,rfl,by omega⟩
set_option maxRecDepth 100000 in
theorem ziV {H:Hp} {kd cl w:Int} {vn:Value} {n:Nd} {cs:List Value} (hkd:(kd=1∧1≤cl∧cl≤12)∨(kd=2∧cl=0)) (hnd:zcP H cs n) (hN:OkN kd cl n) :
  PC prog 142 #[zqT kd cl w vn,.agg cs.toArray] H fun r _=>r=.bool true:=by
 obtain⟨a7,c7,rfl,k4⟩:=hnd.cells;have hN1:=hN.rows;have hcl:n.counts.length≤12:=by have:=hN.len;omega
 have hsc:PV prog 20 #[zan n.cost] (.int .i64 n.cost.num.sign):=zcB _ (by have:=(zaS hN.small.2.1 oM).num;show bl n.cost.num.natAbs≤_;omega);refine BD func142 ntmps142 ?_;refine uR ?_;rw[qC (show ¬n.rows<1 by omega)];refine uR ?_;rw[qC (show ¬n.rows>1048576 by omega)]
 repeat (first|refine RUN ?_|refine CV (hsc) ?_|refine CE (hsc) ?_)
 rw[qC (znO hN.cost)];refine uR ?_;rw[show ((n.counts.length:Int) != cl)=false by rw[hN.len];exact pS _];refine uR ?_;rcases hkd with ⟨rfl,hc1,hc2⟩ | ⟨rfl,rfl⟩
 ·have hsv:PV prog 20 #[zan n.value] (.int .i64 0):=by
   rw[hN.value rfl];exact zcB 0 (by show bl 0≤_;rw[zbu];omega)
  refine uR ?_;refine EV.loopK (ι:=Nat) [2,3,38,39] [2,3] (fun q=>[(5,.v (.int .i64 (n.counts.take q).sum)),(6,.v (.int .i64 (zd3 n.counts q:Nat))),(40,.v (.int .i64 (q:Int)))]) (fun _=>[]) (fun _=>[]) (fun q _=>q≤n.counts.length) (fun q=>n.counts.length-q) (0) rfl rfl ⟨rfl,rfl,rfl,trivial⟩ trivial rfl (fun _=>rfl) (qQ _) ?_;rintro q G2 hG2 hq;have hsum:=hN.sum rfl;refine uR ?_;refine EV.cond rfl (fun hlt=>?_) (fun hlt=>?_)
  ·simp only[nN]at hlt;have ht1:=zbi hN.pos (q+1);have ht0:=zbi hN.pos q;have hti:=zj5 n.counts q;have htl:zd3 n.counts q<n.counts.length:=oM;have g1:=zhG hlt;have g2:=zhG htl;have hz0:=hN.pos _ (qF g1);have hts:(n.counts.take (q+1)).sum=(n.counts.take q).sum+n.counts.getD q 0:=by rw[zai g1,List.sum_append,List.sum_singleton]
   have hst:zd3 n.counts (q+1)=if n.counts.getD (zd3 n.counts q) 0<n.counts.getD q 0 then q else zd3 n.counts q:=rfl
   generalize zd3 n.counts q=tp at *
   generalize n.counts.getD tp 0=x at *
   generalize n.counts.getD q 0=y at *
   refine uR ?_;refine vI ((k4.mono hG2)) (q) (rfl) (hlt) ((by rw[qK,g1];rfl)) ?_;refine uR ?_;rw[qC (show ¬y<0 by omega)];refine uR ?_;rw[qC (show ¬y>n.rows by omega)];refine uR ?_;rw[show IntKind.i64.wrap ((n.counts.take q).sum+y)=(n.counts.take (q+1)).sum by rw[pO];omega];refine vI ((k4.mono hG2)) (tp) (rfl) (htl) ((by rw[qK,g2];rfl)) ?_;refine uR ?_;by_cases h:y>x
   ·rw[qD h];rw[if_pos h]at hst;refine uR ?_;refine⟨q+1,⟨rfl,by rw[hst];rfl,by rw[zab q (by omega)];rfl,trivial⟩,sB,trivial,sB,rfl,by omega,Hp.Le.refl _,by omega⟩
   ·rw[qC h];rw[if_neg h]at hst;refine uR ?_;refine⟨q+1,⟨rfl,by rw[hst];rfl,by rw[zab q (by omega)];rfl,trivial⟩,sB,trivial,sB,rfl,by omega,Hp.Le.refl _,by omega⟩
  ·simp only[nN]at hlt;obtain rfl:q=n.counts.length:=oM;rw[qa,hsum,hN.cls];refine uR ?_;rw[show (n.rows == n.rows)=true from beq_self_eq_true _];refine uR ?_;rw[show ((zd3 n.counts n.counts.length:Int) == (zd3 n.counts n.counts.length:Int))=true from beq_self_eq_true _]
   repeat (first|refine RUN ?_|refine CV (hsv) ?_|refine CE (hsv) ?_)
   rfl
 ·have hc0:n.counts=[]:=pM.1 (by have:=hN.len;omega);have hcls0:n.cls=0:=by rw[hN.cls,hc0];rfl
  rw[hcls0];refine uR ?_;rfl
set_option maxRecDepth 100000 in
theorem zoN {H:Hp} {kd cl:Int} {n na nb:Nd} {cs ca cb:List Value} (hkd:(kd=1∧1≤cl∧cl≤12)∨(kd=2∧cl=0)) (hnd:zcP H cs n) (hnda:zcP H ca na) (hndb:zcP H cb nb) (hN:OkN kd cl n) (hNa:OkN kd cl na) (hNb:OkN kd cl nb) (hCC:OkC n na nb) :
  PC prog 143 #[.agg cs.toArray,.agg ca.toArray,.agg cb.toArray] H fun r _=>r=.bool true:=by
 obtain⟨a7,c7,rfl,k4⟩:=hnd.cells;obtain⟨xa7,xc7,rfl,ka4⟩:=hnda.cells;obtain⟨ya7,yc7,rfl,kb4⟩:=hndb.cells;have hRa:=hNa.rows;have hRb:=hNb.rows;have hRc:=hCC.rows;have hRn:=hN.rows;have hs0:=hN.small;have hsa:=hNa.small;have hsb:=hNb.small;have hlna:(na.counts.length:Int)=cl:=hNa.len;have hlnb:(nb.counts.length:Int)=cl:=hNb.len;have hlnn:(n.counts.length:Int)=cl:=hN.len;have had:=zdi na.cost nb.cost;have hadd:=zgP na.cost nb.cost (zaS hsa.2.1 oM) (zaS hsb.2.1 oM);have hcmp:=zgV n.cost (na.cost+nb.cost) (zaS hs0.2.1 oM) (by unfold sm;omega);refine BD func143 ntmps143 ?_;refine uR ?_;refine EV.loopK (ι:=Nat) [3,4,5,10,11] [3,4,5] (fun q=>[(12,.v (.int .i64 (q:Int)))]) (fun _=>[]) (fun _=>[]) (fun q _=>q≤n.counts.length) (fun q=>n.counts.length-q) (0) rfl rfl ⟨rfl,trivial⟩ trivial rfl (fun _=>rfl) (qQ _) ?_;rintro q G1 hG1 hq;refine uR ?_;refine EV.cond rfl (fun hlt=>?_) (fun hlt=>?_)
 ·simp only[nN]at hlt
  have hk1:kd=1:=by
   rcases hkd with ⟨e,_⟩ | ⟨_,e⟩
   ·exact e
   ·omega
  obtain⟨z,hz⟩:=gE hlt;have hqa:q<na.counts.length:=oM;have hqb:q<nb.counts.length:=oM;obtain⟨za,hza⟩:=gE hqa;obtain⟨zb,hzb⟩:=gE hqb;have hcc:=hCC.counts q;rw[qB,qB,qB,hz,hza,hzb]at hcc;simp only[Option.getD_some]at hcc;have hz0:=hN.pos z (qF hz)
  have hup:z≤1048576:=by
   have h1:=zbi hN.pos (q+1);have h2:=zbi hN.pos q;rw[zai hz,List.sum_append,List.sum_singleton]at h1;have h3:=hN.sum hk1;omega
  have hwz:IntKind.i64.wrap (za+zb)=z:=by rw[pO];omega
  refine uR ?_;refine vI ((k4.mono hG1)) (q) (rfl) (hlt) ((by rw[qK,hz];rfl)) ?_;refine uR ?_;apply EV.drawn 13 kR kR;intro xv yw;(repeat refine' DD ?_);refine' vJ ((ka4.mono hG1)) (q) (rfl) (hqa) ((by rw[qK,hza];rfl)) ?_;rotate_left;(repeat refine' DD ?_);refine' vJ ((kb4.mono hG1)) (q) (rfl) (hqb) ((by rw[qK,hzb];rfl)) ?_;rotate_left;(repeat refine' DD ?_);rw[hwz,show (z != z)=false from pS _];(repeat refine' DD ?_);(refine DJ.nil (fun G hG hF=>?_);(case hS|hS2=>rfl));refine uR ?_;refine⟨q+1,⟨by rw[zab q (by omega)];rfl,trivial⟩,sB,trivial,sB,rfl,hlt,hG,by omega⟩
 ·simp only[nN]at hlt;refine uR ?_;have hwr:IntKind.i64.wrap (na.rows+nb.rows)=n.rows:=by rw[pO];omega
  apply EV.drawn 20 kR kR;intro xv yw;(repeat refine' DD ?_);rw[hwr,show (n.rows == n.rows)=true from beq_self_eq_true _];(repeat (first|refine' DD ?_|(refine' DC (hadd) (h:=?_);rotate_left)|(refine' DC (hcmp) (h:=?_);rotate_left)));rw[qD (show zb8 n.cost (na.cost+nb.cost)≥0 from Int.not_lt.1 fun k=>Rat.not_lt.2 hCC.cost ((zfp _ _).1 k))];(repeat refine' DD ?_);(refine DJ.nil (fun G hG hF=>?_);(case hS|hS2=>rfl));refine uR ?_;rfl
theorem zaF.midS {s:Nat} (hs:0<s) {e:TypeId} {v:Value} {m:Nat} {cA cB:List (List Value)} {c:List Value} {ow:Ows} (h:zaF e s v m (cA++c::cB).flatten ow) (hc:c.length=s):∃g cap sp,v=.slice (some ⟨g,0,none⟩) m cap∧ow=[(g,e,cA.flatten++(c++(cB.flatten++sp)))]∧∀c',c'.length=s→zaF e s v m (cA++c'::cB).flatten [(g,e,cA.flatten++(c'++(cB.flatten++sp)))]:=by
 have hl:=h.1;rcases h.2 with ⟨_,rfl,_⟩ | ⟨g,cap,sp,rfl,rfl,h1,h2,h3⟩
 ·simp[hc]at hl;omega
 ·have e1:∀c':List Value,(cA++c'::cB).flatten=cA.flatten++(c'++cB.flatten):=fun c'=>by simp
  rw[e1]at hl h1;refine⟨g,cap,sp,rfl,by rw[e1];simp,fun c' hc'=>⟨?_,.inr ⟨g,cap,sp,rfl,by rw[e1];simp,?_,h2,h3⟩⟩⟩
  ·rw[e1,←hl];simp[hc,hc']
  ·rw[e1,←h1];simp[hc,hc']
section
variable {P:Program} {n:Nat} {ops:Array Oper} {fuel:Nat} {L:Array Bool} {env:Env} {bx:Bxs} {H:Hs} {K:Env→Bxs→Hs→Prop} {τ:Tab} {d:Nat} {o:Oper} {v:Value}
end
set_option maxRecDepth 100000 in
theorem zlI {H:Hp} {kd cl w:Int} {ns:List Nd} {cs:List Value} (ht:zfz H cs kd cl w ns) (hok:zbK ⟨kd,cl,w,ns⟩):PC prog 79 #[.agg cs.toArray] H fun r _=>r=.int .i64 0:=by
 obtain⟨a,cp,css,rfl,hns,hsl⟩:=ht;obtain⟨hkd,hw,hln,⟨hh,hh10,hsub⟩,hall⟩:=hok;dsimp only at hkd hw hln hsub hall;have hpos:=hsub.end0;refine BD func79 ntmps79 ?_;refine uR ?_;refine EVL.meetK (ι:=Bool) [1,2] [1] (fun _=>[(17,.v (.bool false))]) (fun _=>[]) (fun _=>[]) (fun _ G=>H.Le G) rfl rfl (fun _=>rfl) ?_ ?_
 ·rcases hkd with ⟨rfl,_⟩ | ⟨rfl,rfl⟩
  ·try refine uR ?_
   exact⟨true,⟨rfl,trivial⟩,sB,trivial,sB,rfl,Hp.Le.refl _⟩
  ·try refine uR ?_
   exact⟨true,⟨rfl,trivial⟩,sB,trivial,sB,rfl,Hp.Le.refl _⟩
 rintro _ G1 hG1;refine uR ?_;rw[qC (show ¬w<1 by omega)];refine uR ?_;rw[qC (show ¬w>20 by omega)];refine uR ?_;rw[qC (show ¬(ns.length:Int)<1 by omega)];refine uR ?_;rw[qC (show ¬(ns.length:Int)>2000 by omega)];refine uR ?_;refine EVL.meetK (ι:=Bool) [1,2] [1] (fun _=>[(60,.v (.bool false))]) (fun _=>[]) (fun _=>[]) (fun _ G=>H.Le G) rfl rfl (fun _=>rfl) ?_ ?_
 ·rcases hkd with ⟨rfl,h1,h2⟩ | ⟨rfl,rfl⟩
  ·try refine uR ?_
   rw[qC (show ¬cl<1 by omega)];refine uR ?_;rw[qC (show ¬cl>12 by omega)];refine uR ?_;exact⟨true,⟨rfl,trivial⟩,sB,trivial,sB,rfl,hG1⟩
  ·try refine uR ?_
   exact⟨true,⟨rfl,trivial⟩,sB,trivial,sB,rfl,hG1⟩
 rintro _ G2 hG2;refine uR ?_;(first|refine EVL.unbox (3) rfl fun g3=>?_|refine EV.unbox (3) rfl fun g3=>?_);refine uR ?_;refine EVL.callW rfl rfl rfl rfl rfl ([(g3,213,zj8 kd cl w (.slice a ns.length cp) 0)]) ([]) rfl (zqu oM hsub (hns.mono hG2) (hsl.mono hG2) (deep:=0) (qH _)) ?_;rintro _ _ G3 ⟨rfl,far,rfl,hfar⟩ hG3;refine uR ?_;rw[show ((ns.length:Int) != (ns.length:Int))=false from pS _];refine uR ?_;refine EVL.fldB tO rfl rfl rfl rfl rfl rfl rfl ?_;refine EVL.loadOwn tO rfl rfl rfl rfl rfl rfl (0) rfl (rfl) rfl rfl ?_;refine uR ?_;rw[qC (show ¬far>10 by omega)];refine uR ?_;refine EV.loopK (ι:=Nat) [1,80,81] [1] (fun q=>[(82,.v (.int .i64 (q:Int)))]) (fun _=>[]) (fun _=>[(g3,_,zj8 kd cl w (.slice a ns.length cp) far)]) (fun q _=>q≤ns.length) (fun q=>ns.length-q) (0) rfl rfl ⟨rfl,trivial⟩ trivial rfl (fun _=>rfl) (qQ _) ?_;rintro i G4 hG4 hi;have hH4:=hG2.trans (hG3.trans hG4);refine uR ?_;refine EV.cond rfl (fun hlt=>?_) (fun hlt=>?_)
 ·simp only[nN]at hlt;obtain⟨n,hn,hN,hC⟩:=hall i hlt;obtain⟨c,hcut,hnd⟩:=(hns.mono hH4).get hn;obtain⟨a7,c7,rfl,_⟩:=hnd.cells;refine uR ?_;refine EVL.idxM tO rfl rfl rfl rfl rfl rfl rfl rfl rfl ((hsl.mono hH4)) (i) (rfl) (hlt) (hcut) ?_
  repeat (first|refine RUN ?_|refine CV (ziV hkd hnd hN) ?_|refine CE (ziV hkd hnd hN) ?_)
  refine⟨i+1,⟨by rw[zab i (by omega)];rfl,trivial⟩,sB,trivial,sB,rfl,hlt,Hp.Le.refl _,by omega⟩
 ·simp only[nN]at hlt;refine uR ?_;refine EV.loopK (ι:=Nat) [1,92,93] [1] (fun q=>[(94,.v (.int .i64 (q:Int)))]) (fun _=>[]) (fun _=>[(g3,_,zj8 kd cl w (.slice a ns.length cp) far)]) (fun q _=>q≤ns.length) (fun q=>ns.length-q) (0) rfl rfl ⟨rfl,trivial⟩ trivial rfl (fun _=>rfl) (qQ _) ?_;rintro j G5 hG5 hj;have hH5:=hH4.trans hG5;refine uR ?_;refine EV.cond rfl (fun hlj=>?_) (fun hlj=>?_)
  ·simp only[nN]at hlj;obtain⟨n,hn,hN,hC⟩:=hall j hlj;obtain⟨c,hcut,hnd⟩:=(hns.mono hH5).get hn;obtain⟨a7,c7,rfl,_⟩:=hnd.cells;refine uR ?_;refine EVL.idxM tO rfl rfl rfl rfl rfl rfl rfl rfl rfl ((hsl.mono hH5)) (j) (rfl) (hlj) (hcut) ?_;refine uR ?_;by_cases hcol:n.col = -1
   ·apply EV.drawn 20 kR kR;intro xv yw;(repeat refine' DD ?_);rw[show (n.col != -1)=false by rw[hcol];rfl];(repeat refine' DD ?_);(refine DJ.nil (fun G hG hF=>?_);(case hS|hS2=>rfl));refine uR ?_;refine⟨j+1,⟨by rw[zab j (by omega)];rfl,trivial⟩,sB,trivial,sB,rfl,hlj,hG,by omega⟩
   ·obtain⟨hc0,hl0,hr0,na,nb,hna,hnb,hCC⟩:=hC hcol;have hla:=(qE.1 hna).1;have hlb:=(qE.1 hnb).1;obtain⟨na',ena,hNa,_⟩:=hall _ hla;obtain⟨nb',enb,hNb,_⟩:=hall _ hlb;cases hna.symm.trans ena;cases hnb.symm.trans enb;obtain⟨ca,hcuta,hnda⟩:=(hns.mono hH5).get hna;obtain⟨cb,hcutb,hndb⟩:=(hns.mono hH5).get hnb;obtain⟨xa7,xc7,rfl,_⟩:=hnda.cells;obtain⟨ya7,yc7,rfl,_⟩:=hndb.cells;apply EV.drawn 20 kR kR;intro xv yw;(repeat refine' DD ?_);rw[show (n.col != -1)=true from bne_iff_ne.2 hcol];(repeat refine' DD ?_);refine' DJ.idxM tO rfl rfl rfl rfl rfl rfl rfl rfl rfl ((hsl.mono hH5)) (n.left.toNat) ((by rw[Int.toNat_of_nonneg hl0])) (hla) (hcuta) ?_;rotate_left;(repeat refine' DD ?_);refine' DJ.idxM tO rfl rfl rfl rfl rfl rfl rfl rfl rfl ((hsl.mono hH5)) (n.right.toNat) ((by rw[Int.toNat_of_nonneg hr0])) (hlb) (hcutb) ?_;rotate_left;(repeat refine' DD ?_);refine' vC (cO func143) (fun G hG hd=>zoN hkd (hnd.mono hG) (hnda.mono hG) (hndb.mono hG) hN hNa hNb hCC) ?_;rotate_left;(repeat refine' DD ?_);(refine DJ.nil (fun G hG hF=>?_);(case hS|hS2=>rfl));refine uR ?_;refine⟨j+1,⟨by rw[zab j (by omega)];rfl,trivial⟩,sB,trivial,sB,rfl,hlj,hG,by omega⟩
  ·try refine uR ?_
   rfl
inductive zjp (T:List Nd) (x:List Rat):Nat→Nat→Prop
 | here {i:Nat} {n:Nd}:T[i]?=some n→n.col = -1→zjp T x i i
 | low {i j:Nat} {n:Nd}:T[i]?=some n→n.col ≠ -1→x.getD n.col.toNat 0≤n.at'→zjp T x n.left.toNat j→zjp T x i j
 | high {i j:Nat} {n:Nd}:T[i]?=some n→n.col ≠ -1→¬x.getD n.col.toNat 0≤n.at'→zjp T x n.right.toNat j→zjp T x i j
theorem zjp.det {T:List Nd} {x:List Rat} {i j:Nat} (h:zjp T x i j):∀{k:Nat},zjp T x i k→j=k:=by
 induction h with
 | here h1 h2 =>
  intro k h
  cases h with
  | here _ _=>rfl
  | low e n _ _=>rw[h1]at e;cases e;exact absurd h2 n
  | high e n _ _=>rw[h1]at e;cases e;exact absurd h2 n
 | low h1 h2 h3 _ ih =>
  intro k h
  cases h with
  | here e n=>rw[h1]at e;cases e;exact absurd n h2
  | low e n _ h=>rw[h1]at e;cases e;exact ih h
  | high e n h' _=>rw[h1]at e;cases e;exact absurd h3 h'
 | high h1 h2 h3 _ ih =>
  intro k h
  cases h with
  | here e n=>rw[h1]at e;cases e;exact absurd n h2
  | low e n h' _=>rw[h1]at e;cases e;exact absurd h' h3
  | high e n _ h=>rw[h1]at e;cases e;exact ih h
theorem Sub.at {T:List Nd} {w:Int} {k h e:Nat} (h0:Sub T w k h e):∀i,k≤i→i<e→∃h' e',Sub T w i h' e':=by
 induction h0 with
 | @leaf k h n a b c d e =>
  intro i h1 h2;obtain rfl:i=k:=oM;exact⟨0,_,.leaf a b c d e⟩
 | @node k h m e n a b c d f s1 s2 ih1 ih2 =>
  intro i h1 h2;by_cases h3:i=k
  ·subst h3;exact⟨_,_,.node a b c d f s1 s2⟩
  ·by_cases h4:i<m
   ·exact ih1 i oM h4
   ·exact ih2 i oM h2
def cqF (q:Rat):List Value:=zae (zan q)
theorem zmA (l:List Rat):(l.flatMap cqF).length=l.length*5:=zdz cqF 5 l fun _ _=>rfl
theorem zkq (n:Nat):(List.replicate n ([.bool false,.int .u64 0,.string ⟨#[]⟩,.int .u64 0,.string ⟨#[]⟩]:List Value)).flatten=(([]:List Rat)++List.replicate (n-0) 0).flatMap cqF:=by
 rw[pQ,Nat.sub_zero,List.flatMap_def,List.map_replicate,show cqF 0=_ from zbf]
theorem zp1 (qs:List Rat) (q:Rat) {n:Nat} (h:qs.length<n):((qs++List.replicate (n-qs.length) 0).flatMap cqF).take (qs.length*5)++zae (zan q)++((qs++List.replicate (n-qs.length) 0).flatMap cqF).drop (qs.length*5+5)=((qs++[q])++List.replicate (n-(qs++[q]).length) 0).flatMap cqF:=by
 have e:n-qs.length=(n-(qs++[q]).length)+1:=by rw[qJ,qz];omega
 rw[e,List.replicate_succ,List.flatMap_append,List.flatMap_cons,List.flatMap_append,List.flatMap_append,List.flatMap_singleton,qZ (qs.flatMap cqF) (cqF q)];have:=zc6 (A:=qs.flatMap cqF) (c:=cqF 0) (B:=(List.replicate (n-(qs++[q]).length) (0:Rat)).flatMap cqF) (vs:=zae (zan q)) (c':=cqF q) (k:=qs.length) (s:=5) (f:=0) (m:=5) (q:=qs.length*5) (zmA qs) rfl rfl (qH 5) rfl;exact this
end
section
end
section
open Go.RowKit _root_.Go.Proofs.Tryz
theorem zoL (a b:Int) (ha:0≤a∧a≤1000) (hb:1≤b∧b≤1000):PV prog 52 #[.int .i64 a,.int .i64 b] (.tuple #[zan (mkRat a b.natAbs),.bool true]):=by
 have h1:=zdK a oM oM;have h2:=zdK b oM oM;have b1:bl a.natAbs≤20:=zaV oM;have b2:bl b.natAbs≤20:=zaV oM;have h3:=zmU a b (by show bl a.natAbs≤_;omega) (by show bl b.natAbs≤_;omega) oM;rw[if_neg (show ¬b<0 by omega)]at h3;refine PV.of_pc ?_;refine BD func52 ntmps52 ?_
 repeat (first|refine RUN ?_|refine CV (h1) ?_|refine CV (h2) ?_|refine CV (h3) ?_|refine CE (h1) ?_|refine CE (h2) ?_|refine CE (h3) ?_)
 rfl
end
section
end
section
open Go.RowKit _root_.Go.Proofs.Tryz
end
section
open Go.ChangeShapes Go.WideShapes Go.ChangeAt Go.RowKit
def zq7 (W:World):Hp:=fun b=>match W.heap[b]? with
 | some (.cells c _ _)=>some c
 | _=>none
theorem fits_hpOf (W:World):Fits (zq7 W) W:=fun b c h=>by
 unfold zq7 at h;split at h
 ·rename_i c' T fz hb;cases h;exact⟨T,fz,hb⟩
 ·cases h
section
variable {H:Type} {enc:TypeId × Value→H} {P:Program} {w:World} {base:Nat} {spare:Nat→Bool} {held:Bool}
theorem ziI {t e:TypeId} {k:IntKind} {fuel:Nat} {cs:List Value} {x:DataW H × List MemPlace} (ht:P.underlying t=some (.slice e)) (he:P.underlying e=some (.int k)) (hc:P.cellsOf e=1) (h:DataW.trod enc P w base spare held fuel t cs=some x) :
  ∃a len cap zs,cs=[.slice a len cap]∧SlN (fun z:Int=>Value.int k z) (zq7 w) (.slice a len cap) zs∧∀n∈zs,(Lit.int k n).wf=true:=by
 rcases open_ints ht he hc h with ⟨rfl,_⟩ | ⟨x,len,cap,zs,rfl,_,hl,hm,hz,_,hcell,hw⟩
 ·exact⟨none,0,0,[],rfl,zpw _ _,fun n hn=>by cases hn⟩
 ·have hzl:len≤zs.length:=by rw[hz];split <;> omega
  refine⟨some x,len,cap,zs.take len,rfl,?_,fun n hn=>hw n (List.mem_of_mem_take hn)⟩;have hlen:(zs.take len).length=len:=by rw[qP];omega
  unfold SlN;rw[hlen];refine⟨by rw[qV,hlen,Nat.mul_one],?_⟩;by_cases h0:len=0
  ·subst h0;exact .inl ⟨rfl,some x,cap,rfl⟩
  ·right;have h1:=hcell 0 oM;obtain⟨b,off,sp⟩:=x
   have hsp:sp=none:=by
    cases sp with
    | none=>rfl
    | some s=>simp only[World.cell?,Addr.add]at h1;split at h1 <;> simp_all
   subst hsp
   have hb:∃c,zq7 w b=some c∧∀i,i<zs.length→c[off+i]?=some (.int k (zs.getD i 0)):=by
    simp only[Addr.add_mid]at hcell;unfold World.cell? at hcell;unfold zq7;simp only at hcell
    cases hw':w.heap[b]? with
    | none=>have:=hcell 0 oM;rw[hw']at this;cases this
    | some o =>
     cases o with
     | cells c T fz=>exact⟨c,rfl,fun i hi=>by have:=hcell i hi;rw[hw']at this;simpa using this⟩
     | _=>have:=hcell 0 oM;rw[hw']at this;cases this
   obtain⟨c,hc1,hc2⟩:=hb;refine⟨b,off,cap,c,rfl,hl,hc1,fun j y hj=>?_⟩;rw[qK,pR]at hj;split at hj
   ·rename_i hjl;rw[hc2 j oM,←hj,qB,qA (by omega)];rfl
   ·cases hj
end
theorem i64_bounds {z:Int} (h:(Lit.int .i64 z).wf=true):-9223372036854775808≤z∧z<9223372036854775808:=by
 have:=bounds_i64 h;omega
end
section
open Go.ChangeShapes Go.WideShapes Go.ChangeAt Go.RowKit
theorem zrE {α:Type}:∀{l:List α},l.length=10→∃a b c d e f g h i j,l=[a,b,c,d,e,f,g,h,i,j]
 | [a,b,c,d,e,f,g,h,i,j],_=>⟨a,b,c,d,e,f,g,h,i,j,rfl⟩
end
section
open Go.RowKit _root_.Go.Proofs.Tryz
theorem znu {α β:Type} {R:α→β→Prop} {A B:List α} {c c':α} {ys:List β} {y:β} (h:(A++c::B).length=ys.length∧∀(j:Nat) (x:α) (y:β),(A++c::B)[j]?=some x→ys[j]?=some y→R x y) (k:R c' y) :
  (A++c'::B).length=(ys.set A.length y).length∧∀(j:Nat) (x:α) (z:β),(A++c'::B)[j]?=some x→(ys.set A.length y)[j]?=some z→R x z:=by
 refine⟨by have:=h.1;simpa using this,fun j x m e1 e2=>?_⟩;rcases Nat.lt_trichotomy j A.length with q | q | q
 ·rw[List.getElem?_set_ne (by omega)]at e2;exact h.2 j x m (by rw[qM q]at e1 ⊢;exact e1) e2
 ·subst q;rw[qL (qH _),Nat.sub_self]at e1;cases e1;have hl:A.length<ys.length:=by have:=h.1;simp at this;omega
  rw[List.getElem?_set_self hl]at e2;cases e2;exact k
 ·obtain⟨p,hp⟩:∃p,j-A.length=p+1:=⟨j-A.length-1,by omega⟩;rw[List.getElem?_set_ne (by omega)]at e2;exact h.2 j x m (by rw[qL oM,hp,pP]at e1 ⊢;exact e1) e2
theorem zh4 {α:Type} {l:List α} {k:Nat} (h:k<l.length):∃A c B,l=A++c::B∧A.length=k:=⟨l.take k,l[k],l.drop (k+1),by rw[List.getElem_cons_drop,List.take_append_drop],by rw[qP];omega⟩
theorem RTs.one {H:Hp}:∀{css:List (List Value)} {ns:List Tr},RTs H css ns→zd9 css.flatten=true
 | [],_,_=>rfl
 | c::css,[],h=>by have:=h.1;simp at this
 | c::css,n::ns,h=>by
  rw[List.flatten_cons];obtain⟨_,_,_,h1,_⟩:=h.2 0 c n rfl rfl;refine zhQ (by rw[h1];rfl) (RTs.one (ns:=ns) ⟨?_,fun j c' n' e1 e2=>h.2 (j+1) c' n' (by rw[pP];exact e1) (by rw[pP];exact e2)⟩);have:=h.1;simpa using this
section
variable {P:Program} {n:Nat} {ops:Array Oper} {o:Oper} {rest:List Oper} {env:Env} {bx:Bxs} {H:Hs} {Q:EQ} {τ:Tab} {d:Nat}
theorem EVL.appendR (hτ:zat P τ) {T:TypeId} {x y:Operand} (ho:o.op=.call { callee:=.builtin .append,args:=#[x,y],argTypes:=#[T,T] }) (hg:o.guard=none) (hw:zak ops env o=some true) (hd:o.dst=some d) (hn:Nat.blt d n=true) {te te':TE} {e:TypeId} (ht:τ.get T=some te) (hk:te.kind=.slice e) (ht':τ.get e=some te')
  (hzs:Nat.beq te'.zero.length te'.size=true) (hpos:Nat.ble 1 te'.size=true) (hby:Nat.ble te'.bytes 10000=true) {v:Value} (hx:env.op x=some (.v v)) {u:Value} (hy:env.op y=some (.v u)) (pre ow post:Ows) (he:H.ow=pre++(ow++post)) {m1 m2:Nat} {xs ys:List Value}
  (hown:zaF e te'.size v m1 xs ow) (hsrc:SlC H.ro u m2 te'.size ys) (h1:zd9 ys=true) (hm:m1+m2≤1000000000)
  (h:∀v' ow',zaF e te'.size v' (m1+m2) (xs++ys) ow'→EVL P n ops rest ((d,.v v')::env) bx ⟨H.ro,pre++(ow'++post),H.base⟩ Q):EVL P n ops (o::rest) env bx H Q:=by
 by_cases h0:m2=0
 ·subst h0;obtain⟨a',c',rfl⟩:=SlC.val hsrc;have hys:ys=[]:=pM.1 (by rw[hsrc.1,Nat.zero_mul]);subst hys
  have hle:∃a c,v=.slice a m1 c∧m1≤c:=by
   rcases hown.2 with ⟨e1,e2,_⟩ | ⟨g,cap,sp,e1,_,_,e2,_⟩
   ·subst e2;exact⟨_,_,e1,qH _⟩
   ·exact⟨_,_,e1,e2⟩
  obtain⟨a,c,rfl,hle⟩:=hle;refine EVL.append0 hτ ho hw hd hn ht hk ht' hx hy hle ?_;have:=h _ ow (by rw[qG];exact hown);rw[←he]at this;exact this
 ·exact EVL.append hτ ho hg hd hn ht hk ht' hzs hpos hby hx hy pre ow post he hown (zcn.ro hsrc oM) h1 hm h
end
end
section
instance:Nonempty Nd:=⟨⟨0,0,0,0,0,0,0,0,[]⟩⟩
noncomputable def zcY (x:List Rat) (t:Tr):Nd:=Classical.epsilon fun n=>∃i,zjp t.ns x 0 i∧t.ns[i]?=some n
theorem zoE {x:List Rat} {t:Tr} {i:Nat} {n:Nd} (h1:zjp t.ns x 0 i) (h2:t.ns[i]?=some n):zcY x t=n:=by
 have h:∃n,∃i,zjp t.ns x 0 i∧t.ns[i]?=some n:=⟨n,i,h1,h2⟩;obtain⟨j,h3,h4⟩:=Classical.epsilon_spec h;have e:=h1.det h3;subst e;have h5:some (zcY x t)=some n:=h4.symm.trans h2;exact Option.some.inj h5
noncomputable def vL (x:List Rat) (ts:List Tr):List Rat:=ts.map fun t=>(zcY x t).value
theorem Sub.leafs {T:List Nd} {w:Int} {k h e:Nat} (h0:Sub T w k h e) (x:List Rat):∃(j:Nat) (n:Nd),zjp T x k j∧T[j]?=some n:=by
 induction h0 with
 | @leaf k h n a b _ _ _=>exact⟨k,n,.here a b,a⟩
 | @node k h m e n a b c d f s1 s2 ih1 ih2 =>
  by_cases hle:x.getD n.col.toNat 0≤n.at'
  ·obtain⟨j,q,h1,h2⟩:=ih1;refine⟨j,q,.low a oM hle ?_,h2⟩;rw[d];exact h1
  ·obtain⟨j,q,h1,h2⟩:=ih2;refine⟨j,q,.high a oM hle ?_,h2⟩;rw[f];exact h1
theorem zhL {t:Tr} (h:zbK t) (x:List Rat):∃i:Nat,zjp t.ns x 0 i∧i<t.ns.length∧t.ns[i]?=some (zcY x t)∧OkN t.kd t.cl (zcY x t):=by
 obtain⟨_,_,_,⟨hh,_,hsub⟩,hall⟩:=h;obtain⟨i,n,h1,h2⟩:=hsub.leafs x;have hi:=(qE.1 h2).1;rw[zoE h1 h2];obtain⟨n',e,hN,_⟩:=hall i hi;rw[h2]at e;cases e;exact⟨i,h1,hi,h2,hN⟩
end
section
open Go.RowKit _root_.Go.Proofs.Tryz
theorem RL.slc {H:Hp} {v:Value} {l:List Rat} (h:RL H v l) {j:Nat} {q:Rat} (hj:l[j]?=some q):∃(cs:List Value) (b:Bool) (a1:Option Addr) (l1 c1:Nat) (a2:Option Addr) (l2 c2:Nat),SlC H v l.length 3 cs∧(cs.drop (j*3)).take 3=[.bool b,.slice a1 l1 c1,.slice a2 l2 c2]∧RQ H (.agg #[.bool b,.slice a1 l1 c1,.slice a2 l2 c2]) q:=by
 obtain⟨vs,x,h1,h2,h3⟩:=h.at hj;obtain⟨a1,l1,c1,a2,l2,c2,rfl,_⟩:=id h3;exact⟨_,_,a1,l1,c1,a2,l2,c2,h1,h2,h3⟩
abbrev zsr (deep least:Int) (g:Rat):List Value:=.int .i64 deep::.int .i64 least::zae (zan g)
theorem znV {H:Hp} {deep least:Int} {g:Rat} (hg:sm g):PC prog 56 #[.agg (zsr deep least g).toArray] H fun r _=>r=.bool (decide (zoi deep least g)):=by
 have hs:=zcB g (qI hg.num oM);refine BD func56 ntmps56 ?_;refine uR ?_;by_cases h1:deep≥0
 case neg =>
  rw[qC h1];refine uR ?_;exact zdl fun k=>h1 k.1
 rw[qD h1];refine uR ?_;by_cases h2:deep≤10
 case neg =>
  rw[qC h2];refine uR ?_;exact zdl fun k=>h2 k.2.1
 rw[qD h2];refine uR ?_;by_cases h3:least≥1
 case neg =>
  rw[qC h3];refine uR ?_;exact zdl fun k=>h3 k.2.2.1
 rw[qD h3];refine uR ?_;by_cases h4:least≤300
 case neg =>
  rw[qC h4];refine uR ?_;exact zdl fun k=>h4 k.2.2.2.1
 rw[qD h4]
 repeat (first|refine RUN ?_|refine CV (hs) ?_|refine CE (hs) ?_)
 exact congrArg Value.bool (decide_eq_decide.2 ((zkV g).trans ⟨fun k=>⟨h1,h2,h3,h4,k⟩,fun k=>k.2.2.2.2⟩))
inductive GD where
 | v (qs:List Rat)
 | c (C:Nat) (ls:List Int)
def GD.kd:GD→Int
 | .v _=>2
 | .c _ _=>1
def GD.cl:GD→Int
 | .v _=>0
 | .c C _=>C
def GD.cost:GD→List Int→Rat
 | .v qs=>zkp qs
 | .c _ ls=>zko ls
def GD.mean:GD→List Int→Rat
 | .v qs=>fun l=>zbN (atR qs l)
 | .c _ _=>fun _=>0
def GD.cnt:GD→List Int→List Int
 | .v _=>fun _=>[]
 | .c C ls=>fun l=>zdx C (atI ls l)
def GD.Ok (n:Nat):GD→Prop
 | .v qs=>qs.length=n∧zkd qs
 | .c C ls=>(1≤C∧C≤12)∧ls.length=n∧∀z,z∈ls→0≤z∧z<(C:Int)
def GD.R (H:Hp) (v:Value):GD→Prop
 | .v qs=>∃s,v=zbv 2 0 (.slice none 0 0) s∧RL H s qs
 | .c C ls=>∃s,v=zbv 1 C s (.slice none 0 0)∧IL H s ls
theorem GD.Ok.sm {n:Nat} {d:GD} (hd:d.Ok n):∀l:List Int,l.length≤300→(∀r,r∈l→0≤r∧r<(n:Int))→ht (d.mean l)≤4000∧ht (d.cost l)≤2000000:=by
 intro l hn hr
 cases d with
 | v qs =>
  obtain⟨rfl,hq⟩:=hd;have h2:=hq.small (m:=atR qs l) (fun q k=>zhw hr q k) (by rw[zdU];omega);show ht (zbN (atR qs l))≤4000∧ht (zkp qs l)≤2000000;unfold zkp;omega
 | c C ls =>
  have hsq:=znR (atI ls l);have hll:(atI ls l).length=l.length:=zfE ls l;rw[hll]at hsq;have hsq2:l.length*l.length≤300*300:=Nat.mul_le_mul hn hn;have hn2:=zdc (l.length:Int);have hn3:bl (l.length:Int).natAbs≤20:=zaV oM;have hs2:=zdc (sqL (atI ls l):Int);have hs3:bl (sqL (atI ls l):Int).natAbs≤20:=zaV oM;have hdv:=zg3 ((sqL (atI ls l):Int):Rat) ((l.length:Int):Rat);have hsb:=zmM ((l.length:Int):Rat) (((sqL (atI ls l):Int):Rat) / ((l.length:Int):Rat));refine⟨by show ht (0:Rat)≤4000;rw[zcy];decide,?_⟩;show ht (zko ls l)≤2000000;unfold zko ziu;rw[hll];omega
theorem GD.Ok.plain {n:Nat} {d:GD} (hd:d.Ok n):zkf d.kd d.cl n d.cost d.mean d.cnt:=by
 have hsm:=hd.sm
 cases d with
 | v qs =>
  obtain⟨rfl,hq⟩:=hd;exact⟨.inr ⟨rfl,rfl⟩,fun _=>rfl,fun _ _ _ _ k=>rfl,fun l c hc=>(by cases hc),fun e=>absurd e (by decide:¬(2:Int)=1),fun e=>absurd e (by decide:¬(2:Int)=1),fun l=>zjz _ _,fun l hn hr=>(hsm l hn hr).2,fun l hn hr=>(hsm l hn hr).1⟩
 | c C ls =>
  obtain⟨hc,rfl,hlb⟩:=hd;refine⟨.inl ⟨rfl,by show (1:Int)≤(C:Int);omega,by show (C:Int)≤12;omega⟩,fun l=>by show ((zdx C (atI ls l)).length:Int)=(C:Int);rw[zbD],fun r l m hp k=>zot C (by have:=hp.map (fun r:Int=>ls.getD r.toNat 0);rwa [qo]at this) k,fun l c hc=>?_,fun _ l hr=>?_,fun _ l=>rfl,fun l=>ziv _,fun l hn hr=>(hsm l hn hr).2,fun l hn hr=>(hsm l hn hr).1⟩
  ·obtain⟨k,_,rfl⟩:=List.mem_map.1 hc;omega
  ·show (zdx C (atI ls l)).sum=_;rw[zou (fun z hz=>hlb z (zom hr z hz)),zfE]
def zcC (w:Nat):List Int:=(List.range w).map fun i:Nat=>(i:Int)
theorem zcp (w:Nat):(zcC w).length=w:=by simp[zcC]
theorem zfB (w:Nat):zcC (w+1)=zcC w++[(w:Int)]:=by simp[zcC,List.range_succ]
theorem zhF (x:Value):∀w:Nat,(List.replicate w [x]).flatten=List.replicate w x
 | 0=>rfl
 | w+1=>by rw[List.replicate_succ,List.flatten_cons,zhF x w,List.replicate_succ];rfl
theorem zpT {w i:Nat} (h:i<w) (u:Nat):(zcC i).map iv++List.replicate (w-i) (Value.int .i64 0)=(zcC i).map iv++([Value.int .i64 0]++List.replicate (w-(i+1)) (Value.int .i64 0)):=by
 rw[show w-i=(w-(i+1))+1 by omega,List.replicate_succ];rfl
theorem zkf.gpAny {p:GP} {kd cl:Int} {w:Nat} (h:zkf kd cl p.X.length p.cost p.mean p.cnt) (hX:p.X.length≤300) (hx:∀x,x∈p.X→x.length=w∧∀q,q∈x→ht q≤60) (hg:0≤p.gain) (hc:∀s c,c∈(p.cols s).1→0≤c∧c<(w:Int)):zmp p kd cl w :=
 ⟨h.kind,hX,fun x k=>(hx x k).1,fun x k=>(hx x k).2,h.clen,h.cadd,h.cpos,h.csum,h.zero,h.cost0,h.csm,h.msm,hg,hc⟩
theorem zei {p:GP} {kd cl:Int} {w:Nat} (hp:zmp p kd cl w):∀(d k:Nat) (rows:List Int) (s:Int),1≤rows.length→(∀r,r∈rows→0≤r∧r<(p.X.length:Int))→(p.grow d k rows s).1.length+1≤2*rows.length
 | 0,k,rows,s,h1,hb=>by rw[GP.grow_zero];show 1+1≤_;omega
 | d+1,k,rows,s,h1,hb=>by
  cases h:p.cut rows (p.cols s).1 with
  | none=>rw[GP.grow_none h];show 1+1≤_;omega
  | some ct =>
   obtain⟨c,t⟩:=ct;obtain⟨_,_,hl,hh,hpm,_⟩:=zix hp hb h;have hpl:=hpm.length_eq;rw[qJ]at hpl;have hlb:∀r,r∈za6 p.X c t rows→0≤r∧r<(p.X.length:Int):=fun r hr=>hb r (List.mem_filter.mp hr).1;have hhb:∀r,r∈zax p.X c t rows→0≤r∧r<(p.X.length:Int):=fun r hr=>hb r (List.mem_filter.mp hr).1;rw[GP.grow_some h];have h2:=zei hp d (k+1) (za6 p.X c t rows) (p.cols s).2 hl hlb;have h3:=zei hp d (k+1+(p.grow d (k+1) (za6 p.X c t rows) (p.cols s).2).1.length) (zax p.X c t rows) (p.grow d (k+1) (za6 p.X c t rows) (p.cols s).2).2 hh hhb;simp only[qR,qJ];omega
theorem zlv {p:GP} {kd cl:Int} {w D:Nat} (hp:zmp p kd cl w) (hw:1≤w∧w≤20) (hD:D≤10) {rows:List Int} (h1:1≤rows.length) (h2:rows.length≤300) (hb:∀r,r∈rows→0≤r∧r<(p.X.length:Int)) (s:Int):zbK ⟨kd,cl,w,(p.grow D 0 rows s).1⟩:=by
 obtain⟨h3,_,h4⟩:=zp6 hp D 0 rows s h1 h2 hb (p.grow D 0 rows s).1 (fun j n hj=>by rw[qv];exact hj);have hl:=zei hp D 0 rows s h1 hb;rw[qv]at h3;exact⟨hp.kind,⟨by show (1:Int)≤w;omega,by show (w:Int)≤20;omega⟩,by show (p.grow D 0 rows s).1.length≤2000;omega,⟨D,by omega,h3⟩,fun i hi=>by have:=h4 i hi;rwa [qv]at this⟩
theorem zbK.smallN {t:Tr} (h:zbK t):∀n,n∈t.ns→zgO n:=fun n hn=>by
 obtain⟨i,hi⟩:=List.mem_iff_getElem?.1 hn;obtain⟨m,hm,ho,_⟩:=h.nodes i (qE.1 hi).1;cases hm.symm.trans hi;exact ho.smallN (by have:=h.kind;omega)
abbrev trP (d:GD) (X:List (List Rat)) (least:Int) (g:Rat) (cols:Int→List Int × Int):GP:=⟨X,d.cost,d.mean,d.cnt,least,g,cols⟩
theorem zrG {d:GD} {N W:Nat} {X:List (List Rat)} {least:Int} {g:Rat} {cols:Int→List Int × Int} (hd:d.Ok N) (hXN:X.length=N) (hN:N≤20) (hXw:∀x,x∈X→x.length=W∧∀q,q∈x→ht q≤60) (hg:0≤g) (hc:∀s c,c∈(cols s).1→0≤c∧c<(W:Int)):zmp (trP d X least g cols) d.kd d.cl W:=by
 subst hXN;exact zkf.gpAny (p:=trP d X least g cols) hd.plain (by show X.length≤300;omega) hXw hg hc
theorem zdv {w:Nat}:∀c,c∈zcC w→0≤c∧c<(w:Int):=fun c hc=>by
 obtain⟨i,hi,rfl⟩:=List.mem_map.1 hc;have:=List.mem_range.1 hi;omega
end
section
theorem zjs {X:List (List Rat)} {cost:List Int→Rat} {rs:List Int} {L:Int} {cols:List Int} {u:Int × Rat × Rat}:u∈zaD X cost rs L cols↔∃c t,c∈cols∧t∈plQ X c rs∧(L≤((za6 X c t rs).length:Int)∧L≤((zax X c t rs).length:Int))∧u=(c,t,cost rs-(cost (za6 X c t rs)+cost (zax X c t rs))):=by
 unfold zaD zbE;constructor
 ·intro h;obtain⟨c,hc,h⟩:=List.mem_flatMap.1 h;obtain⟨t,ht,h⟩:=List.mem_flatMap.1 h;split at h
  ·rename_i k;exact⟨c,t,hc,ht,k,pN.1 h⟩
  ·cases h
 ·rintro⟨c,t,hc,ht,k,rfl⟩;refine List.mem_flatMap.2 ⟨c,hc,List.mem_flatMap.2 ⟨t,ht,?_⟩⟩;rw[if_pos k];exact pN.2 rfl
end
section
open Go.RowKit _root_.Go.Proofs.Tryz
inductive zdb (T:List Nd) (x:List Rat):Nat→List Int→Prop
 | here {i:Nat} {n:Nd}:T[i]?=some n→n.col = -1→zdb T x i [(i:Int)]
 | low {i:Nat} {l:List Int} {n:Nd}:T[i]?=some n→n.col ≠ -1→x.getD n.col.toNat 0≤n.at'→zdb T x n.left.toNat l→zdb T x i ((i:Int)::l)
 | high {i:Nat} {l:List Int} {n:Nd}:T[i]?=some n→n.col ≠ -1→¬x.getD n.col.toNat 0≤n.at'→zdb T x n.right.toNat l→zdb T x i ((i:Int)::l)
theorem zdb.leaf {T:List Nd} {x:List Rat} {i:Nat} {l:List Int} (h:zdb T x i l):∃(j:Nat) (q:List Int),l=q++[(j:Int)]∧zjp T x i j:=by
 induction h with
 | here h1 h2=>exact⟨_,[],rfl,.here h1 h2⟩
 | @low i _ _ h1 h2 h3 _ ih=>obtain⟨j,q,rfl,h⟩:=ih;exact⟨j,(i:Int)::q,rfl,.low h1 h2 h3 h⟩
 | @high i _ _ h1 h2 h3 _ ih=>obtain⟨j,q,rfl,h⟩:=ih;exact⟨j,(i:Int)::q,rfl,.high h1 h2 h3 h⟩
end
section
def At (S:List Nd) (k:Nat) (L:List Nd):Prop:=∀(j:Nat) (n:Nd),L[j]?=some n→S[k+j]?=some n
theorem At.head {S L:List Nd} {k:Nat} {n:Nd} (h:At S k (n::L)):S[k]?=some n:=h 0 n rfl
theorem At.left {S A B:List Nd} {k:Nat} {n:Nd} (h:At S k (n::(A++B))):At S (k+1) A:=fun j m hj=>by
 have:=h (j+1) m (by rw[pP,qM (qE.1 hj).1];exact hj);rw[show k+1+j=k+(j+1) by omega];exact this
theorem At.right {S A B:List Nd} {k:Nat} {n:Nd} (h:At S k (n::(A++B))):At S (k+1+A.length) B:=fun j m hj=>by
 have:=h (j+A.length+1) m (by rw[pP,qL oM,Nat.add_sub_cancel];exact hj);rw[show k+1+A.length+j=k+(j+A.length+1) by omega];exact this
theorem At.self (L:List Nd):At L 0 L:=fun j n h=>by rw[qv];exact h
theorem zdb.one {T:List Nd} {x:List Rat} {i:Nat} {n:Nd} {l:List Int} (h:zdb T x i l) (hn:T[i]?=some n):(n.col = -1∧l=[(i:Int)])∨(n.col ≠ -1∧∃m,l=(i:Int)::m∧m≠[]∧((x.getD n.col.toNat 0≤n.at'∧zdb T x n.left.toNat m)∨(¬x.getD n.col.toNat 0≤n.at'∧zdb T x n.right.toNat m))):=by
 have hne:∀{j:Nat} {m:List Int},zdb T x j m→m≠[]:=fun h=>by cases h <;> simp
 cases h with
 | here h1 h2=>cases h1.symm.trans hn;exact .inl ⟨h2,rfl⟩
 | low h1 h2 h3 h4=>cases h1.symm.trans hn;exact .inr ⟨h2,_,rfl,hne h4,.inl ⟨h3,h4⟩⟩
 | high h1 h2 h3 h4=>cases h1.symm.trans hn;exact .inr ⟨h2,_,rfl,hne h4,.inr ⟨h3,h4⟩⟩
end
section
def GP.rowsAt (p:GP) (cols:List Int):Nat→List Int→List (List Int)
 | 0,rows=>[rows]
 | d+1,rows=>match p.cut rows cols with
  | none=>[rows]
  | some (c,t)=>rows::(p.rowsAt cols d (za6 p.X c t rows)++p.rowsAt cols d (zax p.X c t rows))
theorem GP.rowsAt_none {p:GP} {cols:List Int} {d:Nat} {rows:List Int} (h:p.cut rows cols=none):p.rowsAt cols (d+1) rows=[rows]:=by rw[GP.rowsAt,h]
theorem GP.rowsAt_some {p:GP} {cols:List Int} {d:Nat} {rows:List Int} {c:Int} {t:Rat} (h:p.cut rows cols=some (c,t)):p.rowsAt cols (d+1) rows=rows::(p.rowsAt cols d (za6 p.X c t rows)++p.rowsAt cols d (zax p.X c t rows)):=by rw[GP.rowsAt,h]
theorem zgl (p:GP) (cols:List Int) (d:Nat) (rows:List Int):∃L,p.rowsAt cols d rows=rows::L:=by
 cases d with
 | zero=>exact⟨[],rfl⟩
 | succ d =>
  cases h:p.cut rows cols with
  | none=>rw[GP.rowsAt_none h];exact⟨_,rfl⟩
  | some q=>obtain⟨c,t⟩:=q;rw[GP.rowsAt_some h];exact⟨_,rfl⟩
structure OfR (p:GP) (n:Nd) (R:List Int):Prop where
 rows:n.rows=(R.length:Int)
 cost:n.cost=p.cost R
 value:n.value=p.mean R
 cls:n.cls=(zd3 (p.cnt R) (p.cnt R).length:Int)
 counts:n.counts=p.cnt R
theorem OfR.nd (p:GP) (R:List Int) (c l r:Int) (t:Rat):OfR p { p.nd R with col:=c,left:=l,right:=r,at':=t } R:=⟨rfl,rfl,rfl,rfl,rfl⟩
theorem zov {p:GP} {rows cols:List Int} {c:Int} {t:Rat} (h:p.cut rows cols=some (c,t)):p.gain<p.cost rows-(p.cost (za6 p.X c t rows)+p.cost (zax p.X c t rows))∧p.least≤((za6 p.X c t rows).length:Int)∧p.least≤((zax p.X c t rows).length:Int):=by
 unfold GP.cut at h
 cases hbe:p.best rows cols with
 | none=>rw[hbe]at h;cases h
 | some q =>
  obtain⟨c',t',g⟩:=q;rw[hbe]at h;dsimp only at h;split at h
  ·cases h
  ·rename_i hg;cases h;have hf:=zdy (zaD p.X p.cost rows (max 1 p.least) cols);rw[show (zaD p.X p.cost rows (max 1 p.least) cols).foldl zgg none=some (c,t,g) from hbe]at hf;obtain⟨c2,t2,_,_,hL,e⟩:=zjs.1 hf.1;cases e;exact⟨Rat.not_le.1 hg,by omega,by omega⟩
structure zse (p:GP) (S:List Nd) (k:Nat) (L:List (List Int)) (w:Nat):Prop where
 node:∀(j:Nat) (R:List Int),L[j]?=some R→∃n,S[k+j]?=some n∧OfR p n R∧(∀r,r∈R→0≤r∧r<(p.X.length:Int))∧1≤R.length∧(n.col = -1∨(0≤n.col∧0≤n.left∧0≤n.right∧∃a b,S[n.left.toNat]?=some a∧S[n.right.toNat]?=some b∧p.gain<n.cost-a.cost-b.cost∧p.least≤a.rows∧p.least≤b.rows))
theorem zkx {p:GP} {kd cl:Int} {w:Nat} (hp:zmp p kd cl w) {cols:List Int} (hst:∀s,(p.cols s).1=cols) {S:List Nd}:∀(d k:Nat) (rows:List Int) (s:Int),1≤rows.length→(∀r,r∈rows→0≤r∧r<(p.X.length:Int))→At S k (p.grow d k rows s).1→(p.rowsAt cols d rows).length=(p.grow d k rows s).1.length∧zse p S k (p.rowsAt cols d rows) w:=by
 have single:∀(k:Nat) (rows:List Int),1≤rows.length→(∀r,r∈rows→0≤r∧r<(p.X.length:Int))→At S k [p.nd rows]→zse p S k [rows] w:=fun k rows h1 hb hS=>⟨fun j R hj=>by
  cases j with
  | zero=>cases hj;exact⟨_,hS.head,OfR.nd p rows (-1) 0 0 0,hb,h1,.inl rfl⟩
  | succ j=>cases hj⟩
 intro d
 induction d with
 | zero =>
  intro k rows s h1 hb hS;rw[GP.grow_zero]at hS ⊢;exact⟨rfl,single k rows h1 hb hS⟩
 | succ d ih =>
  intro k rows s h1 hb hS
  cases hc:p.cut rows (p.cols s).1 with
  | none =>
   rw[GP.grow_none hc]at hS ⊢;rw[GP.rowsAt_none (by rw[←hst s];exact hc)];exact⟨rfl,single k rows h1 hb hS⟩
  | some q =>
   obtain⟨c,t⟩:=q;obtain⟨hcw,_,hl1,hr1,hpm,_⟩:=zix hp hb hc;obtain⟨hgn,hll,hlh⟩:=zov hc;have hlo:∀r,r∈za6 p.X c t rows→0≤r∧r<(p.X.length:Int):=fun r hr=>hb r (List.mem_filter.mp hr).1;have hhi:∀r,r∈zax p.X c t rows→0≤r∧r<(p.X.length:Int):=fun r hr=>hb r (List.mem_filter.mp hr).1;rw[GP.grow_some hc]at hS ⊢;rw[GP.rowsAt_some (by rw[←hst s];exact hc)];dsimp only at hS ⊢;obtain⟨e1,f1⟩:=ih (k+1) _ (p.cols s).2 hl1 hlo hS.left;obtain⟨e2,f2⟩:=ih (k+1+(p.grow d (k+1) (za6 p.X c t rows) (p.cols s).2).1.length) _ (p.grow d (k+1) (za6 p.X c t rows) (p.cols s).2).2 hr1 hhi hS.right;refine⟨by simp only[qR,qJ];omega,⟨fun j R hj=>?_⟩⟩
   cases j with
   | zero =>
    cases hj;obtain⟨LA,ea⟩:=zgl p cols d (za6 p.X c t rows);obtain⟨LB,eb⟩:=zgl p cols d (zax p.X c t rows);obtain⟨a,ha,oa,_⟩:=f1.node 0 _ (by rw[ea];rfl);obtain⟨b,hb',ob,_⟩:=f2.node 0 _ (by rw[eb];rfl);rw[qY]at ha hb';refine⟨_,hS.head,OfR.nd p rows c _ _ t,hb,h1,.inr ⟨hcw.1,Int.natCast_nonneg _,Int.natCast_nonneg _,a,b,?_,?_,?_,?_,?_⟩⟩
    ·exact(congrArg (S[·]?) (qU _)).trans ha
    ·exact(congrArg (S[·]?) (qU _)).trans hb'
    ·rw[oa.cost,ob.cost];show p.gain<p.cost rows-p.cost (za6 p.X c t rows)-p.cost (zax p.X c t rows);grind
    ·rw[oa.rows];exact hll
    ·rw[ob.rows];exact hlh
   | succ j =>
    rw[pP]at hj;by_cases hjl:j<(p.rowsAt cols d (za6 p.X c t rows)).length
    ·rw[qM hjl]at hj;have:=f1.node j R hj;rw[show k+1+j=k+(j+1) by omega]at this;exact this
    ·rw[qL (by omega)]at hj;have:=f2.node _ R hj;rw[show k+1+(p.grow d (k+1) (za6 p.X c t rows) (p.cols s).2).1.length+(j-(p.rowsAt cols d (za6 p.X c t rows)).length)=k+(j+1) by omega]at this;exact this
theorem zni {p:GP} {kd cl:Int} {w:Nat} (hp:zmp p kd cl w) {S:List Nd} {x:List Rat}:∀(d k:Nat) (rows:List Int) (s:Int),(∀r,r∈rows→0≤r∧r<(p.X.length:Int))→At S k (p.grow d k rows s).1→∀l,zdb S x k l→∀z,z∈l→(k:Int)≤z∧z<((k+(p.grow d k rows s).1.length:Nat):Int):=by
 intro d
 induction d with
 | zero =>
  intro k rows s hb hS l hl z hz;rw[GP.grow_zero]at hS ⊢;rcases hl.one hS.head with ⟨_,rfl⟩ | ⟨h,_⟩
  ·have:=pN.1 hz;show _∧z<((k+1:Nat):Int);omega
  ·exact absurd rfl h
 | succ d ih =>
  intro k rows s hb hS l hl z hz
  cases hc:p.cut rows (p.cols s).1 with
  | none =>
   rw[GP.grow_none hc]at hS ⊢;rcases hl.one hS.head with ⟨_,rfl⟩ | ⟨h,_⟩
   ·have:=pN.1 hz;show _∧z<((k+1:Nat):Int);omega
   ·exact absurd rfl h
  | some q =>
   obtain⟨c,t⟩:=q;obtain⟨hcw,_⟩:=zix hp hb hc;have hlo:∀r,r∈za6 p.X c t rows→0≤r∧r<(p.X.length:Int):=fun r hr=>hb r (List.mem_filter.mp hr).1;have hhi:∀r,r∈zax p.X c t rows→0≤r∧r<(p.X.length:Int):=fun r hr=>hb r (List.mem_filter.mp hr).1;rw[GP.grow_some hc]at hS ⊢;dsimp only at hS ⊢;simp only[qR,qJ];rcases hl.one hS.head with ⟨h,_⟩ | ⟨_,m,rfl,_,hm⟩
   ·have:c = -1:=h;omega
   ·rcases List.mem_cons.1 hz with rfl | hz
    ·omega
    ·dsimp only at hm;rcases hm with ⟨_,h2⟩ | ⟨_,h2⟩
     ·rw[qU]at h2;have:=ih _ _ _ hlo hS.left _ h2 z hz;omega
     ·rw[qU]at h2;have:=ih _ _ _ hhi hS.right _ h2 z hz;omega
theorem zma {p:GP} {kd cl:Int} {w:Nat} (hp:zmp p kd cl w) {cols:List Int} (hst:∀s,(p.cols s).1=cols) {S:List Nd}:∀(d k:Nat) (rows:List Int) (s:Int),(∀r,r∈rows→0≤r∧r<(p.X.length:Int))→At S k (p.grow d k rows s).1→∀W:Int→List Int,(∀r,r∈rows→zdb S (p.X.getD r.toNat []) k (W r))→∀(j:Nat) (R:List Int),(p.rowsAt cols d rows)[j]?=some R→R=rows.filter fun r=>decide (((k+j:Nat):Int)∈W r):=by
 have root:∀{k:Nat} {rows:List Int} {W:Int→List Int},(∀r,r∈rows→zdb S (p.X.getD r.toNat []) k (W r))→rows=rows.filter fun r=>decide (((k+0:Nat):Int)∈W r):=fun {k rows W} h=>(List.filter_eq_self.2 fun r hr=>by
  have:=h r hr;rw[qY];generalize W r=l at this ⊢;cases this <;> simp).symm
 intro d
 induction d with
 | zero =>
  intro k rows s hb hS W hW j R hj
  cases j with
  | zero=>cases hj;exact root hW
  | succ j=>cases hj
 | succ d ih =>
  intro k rows s hb hS W hW j R hj
  cases hc:p.cut rows (p.cols s).1 with
  | none =>
   rw[GP.rowsAt_none (by rw[←hst s];exact hc)]at hj
   cases j with
   | zero=>cases hj;exact root hW
   | succ j=>cases hj
  | some q =>
   obtain⟨c,t⟩:=q;obtain⟨hcw,_,hl1,hr1,_,_⟩:=zix hp hb hc;have hlo:∀r,r∈za6 p.X c t rows→0≤r∧r<(p.X.length:Int):=fun r hr=>hb r (List.mem_filter.mp hr).1;have hhi:∀r,r∈zax p.X c t rows→0≤r∧r<(p.X.length:Int):=fun r hr=>hb r (List.mem_filter.mp hr).1;rw[GP.grow_some hc]at hS;rw[GP.rowsAt_some (by rw[←hst s];exact hc)]at hj;dsimp only at hS
   cases j with
   | zero=>cases hj;exact root hW
   | succ j =>
    rw[pP]at hj
    have hhas:∀r,r∈rows→zfm p.X c r=true:=fun r hr=>by
     obtain⟨R,rfl⟩:=qi (hb r hr).1;have hR:=(hb _ hr).2;unfold zfm;obtain⟨x,hx⟩:∃x,p.X[R]?=some x:=⟨_,qA oM⟩;rw[qU,qB,hx,Option.getD_some,hp.wide x (qF hx)];simp;omega
    have hsplit:∀r,r∈rows→∃m,W r=(k:Int)::m∧((zdg p.X c r≤t∧zdb S (p.X.getD r.toNat []) (k+1) m)∨(¬zdg p.X c r≤t∧zdb S (p.X.getD r.toNat []) (k+1+(p.grow d (k+1) (za6 p.X c t rows) (p.cols s).2).1.length) m)):=fun r hr=>by
     rcases (hW r hr).one hS.head with ⟨h,_⟩ | ⟨_,m,e,_,hm⟩
     ·have:c = -1:=h;omega
     ·refine⟨m,e,?_⟩;dsimp only at hm;rw[qU,qU]at hm;exact hm
    have hlW:∀r,r∈za6 p.X c t rows→zdb S (p.X.getD r.toNat []) (k+1) ((W r).tail):=fun r hr=>by
     obtain⟨h1,h2⟩:=List.mem_filter.1 hr;obtain⟨m,e,hm⟩:=hsplit r h1;rw[hhas r h1,Bool.true_and]at h2;rw[e];exact(hm.resolve_right fun k=>k.1 (of_decide_eq_true h2)).2
    have hhW:∀r,r∈zax p.X c t rows→zdb S (p.X.getD r.toNat []) (k+1+(p.grow d (k+1) (za6 p.X c t rows) (p.cols s).2).1.length) ((W r).tail):=fun r hr=>by
     obtain⟨h1,h2⟩:=List.mem_filter.1 hr;obtain⟨m,e,hm⟩:=hsplit r h1;rw[hhas r h1,Bool.true_and]at h2;rw[e];refine(hm.resolve_left fun k=>?_).2;rw[qD k.1]at h2;cases h2
    have hlen:=(zkx hp hst (S:=S) d (k+1) _ (p.cols s).2 hl1 hlo hS.left).1;by_cases hjl:j<(p.rowsAt cols d (za6 p.X c t rows)).length
    ·rw[qM hjl]at hj;rw[ih _ _ _ hlo hS.left _ hlW j R hj];unfold za6;rw[List.filter_filter];refine List.filter_congr fun r hr=>?_;obtain⟨m,e,hm⟩:=hsplit r hr;rw[hhas r hr,e,Bool.true_and,List.tail_cons];have hne:((k+(j+1):Nat):Int)≠(k:Int):=oM;rcases hm with ⟨h1,h2⟩ | ⟨h1,h2⟩
     ·rw[qD h1,Bool.and_true,show k+1+j=k+(j+1) by omega];exact decide_eq_decide.2 ⟨fun h=>ql _ h,fun h=>(List.mem_cons.1 h).resolve_left hne⟩
     ·rw[qC h1,Bool.and_false];refine(qC fun h=>?_).symm;have:=zni hp d _ _ _ hhi hS.right m h2 _ ((List.mem_cons.1 h).resolve_left hne);omega
    ·rw[qL (by omega)]at hj;rw[ih _ _ _ hhi hS.right _ hhW _ R hj];unfold zax;rw[List.filter_filter];refine List.filter_congr fun r hr=>?_;obtain⟨m,e,hm⟩:=hsplit r hr;rw[hhas r hr,e,Bool.true_and,List.tail_cons];have hne:((k+(j+1):Nat):Int)≠(k:Int):=oM;rcases hm with ⟨h1,h2⟩ | ⟨h1,h2⟩
     ·rw[qD h1,Bool.not_true,Bool.and_false];refine(qC fun h=>?_).symm;have:=zni hp d _ _ _ hlo hS.left m h2 _ ((List.mem_cons.1 h).resolve_left hne);omega
     ·rw[qC h1,Bool.not_false,Bool.and_true,show k+1+(p.grow d (k+1) (za6 p.X c t rows) (p.cols s).2).1.length+(j-(p.rowsAt cols d (za6 p.X c t rows)).length)=k+(j+1) by omega];exact decide_eq_decide.2 ⟨fun h=>ql _ h,fun h=>(List.mem_cons.1 h).resolve_left hne⟩
theorem Sub.path {T:List Nd} {w:Int} (x:List Rat) {k h e:Nat} (hs:Sub T w k h e):∃l,zdb T x k l:=by
 induction hs with
 | leaf h1 h2 _ _ _=>exact⟨_,.here h1 h2⟩
 | @node k h m e n h1 h2 h3 h4 h5 _ _ ih1 ih2 =>
  obtain⟨l1,q1⟩:=ih1;obtain⟨l2,q2⟩:=ih2;by_cases hc:x.getD n.col.toNat 0≤n.at'
  ·exact⟨_,.low h1 oM hc (by rw[h4,qU];exact q1)⟩
  ·exact⟨_,.high h1 oM hc (by rw[h5,qU];exact q2)⟩
theorem zdb.det {T:List Nd} {x:List Rat} {i:Nat} {l:List Int} (h:zdb T x i l):∀{m:List Int},zdb T x i m→l=m:=by
 induction h with
 | here h1 h2 =>
  intro m hm;rcases hm.one h1 with ⟨_,rfl⟩ | ⟨k,_⟩
  ·rfl
  ·exact absurd h2 k
 | low h1 h2 h3 _ ih =>
  intro m hm;rcases hm.one h1 with ⟨k,_⟩ | ⟨_,m',rfl,_,⟨_,k⟩ | ⟨k,_⟩⟩
  ·exact absurd k h2
  ·rw[ih k]
  ·exact absurd h3 k
 | high h1 h2 h3 _ ih =>
  intro m hm;rcases hm.one h1 with ⟨k,_⟩ | ⟨_,m',rfl,_,⟨k,_⟩ | ⟨_,k⟩⟩
  ·exact absurd k h2
  ·exact absurd k h3
  ·rw[ih k]
end
section
def zgN (a:Rat) (n:Nat):Nat:=(List.range n).findIdx fun k=>decide (a*((n:Int):Rat)≤(((k+1:Nat):Int):Rat))
def zjG (a:Rat) (l:List Rat):Rat:=(zbX l).getD (zgN a l.length) 0
def zoe (loss:Int) (a:Rat) (l:List Rat):Rat:=if loss=1 then zbN l else zjG a l
theorem zfs {a:Rat} {n:Nat} (ha:a<1) (hn:1≤n):zgN a n<n:=by
 unfold zgN
 have:=List.findIdx_lt_length_of_exists (xs:=List.range n) (p:=fun k=>decide (a*((n:Int):Rat)≤(((k+1:Nat):Int):Rat))) ⟨n-1,List.mem_range.2 oM,qD (by
  rw[show n-1+1=n by omega];have h0:(0:Rat)≤((n:Int):Rat):=Rat.intCast_nonneg.2 oM;have:=Rat.mul_le_mul_of_nonneg_right (Rat.le_of_lt ha) h0
  rwa [Rat.one_mul]at this)⟩
 rwa [List.length_range]at this
theorem zh7 {a:Rat} {n:Nat} (ha:a<1) (hn:1≤n):a*((n:Int):Rat)≤(((zgN a n+1:Nat):Int):Rat):=by
 have h:=zfs ha hn;have:=List.findIdx_getElem (xs:=List.range n) (p:=fun k=>decide (a*((n:Int):Rat)≤(((k+1:Nat):Int):Rat))) (w:=by rw[List.length_range];exact h);rw[List.getElem_range]at this;exact of_decide_eq_true this
theorem zgs {a:Rat} {n k:Nat} (hk:k<zgN a n):¬a*((n:Int):Rat)≤(((k+1:Nat):Int):Rat):=fun h=>by
 have h1:zgN a n≤(List.range n).length:=List.findIdx_le_length;rw[List.length_range]at h1;have:=List.not_of_lt_findIdx (xs:=List.range n) (p:=fun k=>decide (a*((n:Int):Rat)≤(((k+1:Nat):Int):Rat))) hk;rw[List.getElem_range]at this;rw[qD h]at this;cases this
theorem zk1 {a:Rat} {n k:Nat} (ha:a<1) (hn:1≤n) (h1:a*((n:Int):Rat)≤(((k+1:Nat):Int):Rat)) (h2:∀j,j<k→¬a*((n:Int):Rat)≤(((j+1:Nat):Int):Rat)):k=zgN a n:=by
 rcases Nat.lt_trichotomy k (zgN a n) with h | h | h
 ·exact absurd h1 (zgs h)
 ·exact h
 ·exact absurd (zh7 ha hn) (h2 _ h)
theorem zhN {a:Rat} {l:List Rat} (ha:a<1) (hl:1≤l.length):zjG a l∈l:=by
 have h:=zfs ha hl;have hs:=(zbR l).length_eq;unfold zjG;rw[qB,qA oM,Option.getD_some];exact(zbR l).mem_iff.1 (List.getElem_mem _)
structure BG where
 loss:Int
 rate:Rat
 tilt:Rat
 X:List (List Rat)
 W:Nat
 D:Nat
 least:Int
 gain:Rat
structure BG.Ok (b:BG):Prop where
 loss:b.loss=1∨b.loss=2
 rate:0<b.rate∧b.rate≤1
 one:b.loss=1→b.tilt=0
 two:b.loss=2→0<b.tilt∧b.tilt<1
 den:b.rate.den≤4∧ht b.tilt≤10
 rows:1≤b.X.length∧b.X.length≤8
 wide:1≤b.W∧b.W≤20
 each:∀x,x∈b.X→x.length=b.W∧∀q,q∈x→ht q≤60
 deep:b.D≤10
 least:1≤b.least∧b.least≤300
 gain:0≤b.gain∧ht b.gain≤10
def BG.mid (b:BG) (l:List Rat):Rat:=zoe b.loss b.tilt l
def BG.goal (b:BG) (left:List Rat):List Rat:=if b.loss=1 then left else left.map fun t=>if 0<t then b.tilt else if t=0 then 0 else b.tilt-1
theorem BG.goal_len (b:BG) (left:List Rat):(b.goal left).length=left.length:=by
 unfold BG.goal;split
 ·rfl
 ·exact qV ..
abbrev BG.gp (b:BG) (left:List Rat):GP:=trP (.v (b.goal left)) b.X b.least b.gain fun s=>(zcC b.W,s)
def BG.raw (b:BG) (left:List Rat):List Nd:=((b.gp left).grow b.D 0 (zcC b.X.length) 0).1
noncomputable def zk4 (ns:List Nd) (x:List Rat):List Int:=Classical.epsilon (zdb ns x 0)
theorem zn5 {ns:List Nd} {x:List Rat} {l:List Int} (h:zdb ns x 0 l):zk4 ns x=l:=(Classical.epsilon_spec (p:=zdb ns x 0) ⟨l,h⟩).det h
noncomputable def BG.part (b:BG) (left:List Rat) (ns:List Nd) (j:Nat):List Rat:=atR left ((zcC b.X.length).filter fun r=>decide ((j:Int)∈zk4 ns (b.X.getD r.toNat [])))
def zrU (n:Nd) (v:Rat):Nd:={ n with value:=v }
noncomputable def BG.midsTo (b:BG) (left:List Rat) (ns:List Nd) (k:Nat):List Nd:=ns.mapIdx fun j n=>if j<k then zrU n (zjG b.tilt (b.part left ns j)) else n
noncomputable def BG.mids (b:BG) (left:List Rat) (ns:List Nd):List Nd:=b.midsTo left ns ns.length
noncomputable def BG.nodes (b:BG) (left:List Rat):List Nd:=if b.loss=1 then b.raw left else b.mids left (b.raw left)
noncomputable def BG.tree (b:BG) (left:List Rat):Tr:=⟨2,0,(b.W:Int),b.nodes left⟩
noncomputable def BG.next (b:BG) (left:List Rat):List Rat:=List.zipWith (fun x q=>q-b.rate*(zcY x (b.tree left)).value) b.X left
noncomputable def BG.fit (b:BG) (y:List Rat):Nat→List Tr × List Rat
 | 0=>([],y.map fun q=>q-b.mid y)
 | k+1=>((b.fit y k).1++[b.tree (b.fit y k).2],b.next (b.fit y k).2)
noncomputable def zeY (base rate:Rat) (ts:List Tr) (x:List Rat):Rat:=base+rate*zaT (vL x ts)
theorem zqV (x:List Rat) (ts:List Tr) (t:Tr):vL x (ts++[t])=vL x ts++[(zcY x t).value]:=by unfold vL;rw[qo];rfl
theorem zhv (base rate:Rat) (x:List Rat):zeY base rate [] x=base:=by
 unfold zeY;rw[show vL x []=[] from rfl,zfr,Rat.mul_zero,Rat.add_zero]
theorem zfC (base rate:Rat) (ts:List Tr) (t:Tr) (x:List Rat):zeY base rate (ts++[t]) x=zeY base rate ts x+rate*(zcY x t).value:=by
 unfold zeY;rw[zqV,zbH];grind
theorem zcm {α β γ:Type} {f:α→β→γ} {l:List α} {m:List β} {i:Nat} {a:α} {b:β} (h1:l[i]?=some a) (h2:m[i]?=some b):(List.zipWith f l m)[i]?=some (f a b):=by
 rw[List.getElem?_zipWith,h1,h2]
theorem BG.fit_left (b:BG) (y:List Rat) (hy:y.length=b.X.length) (k:Nat):(b.fit y k).2=List.zipWith (fun x q=>q-zeY (b.mid y) b.rate (b.fit y k).1 x) b.X y:=by
 induction k with
 | zero =>
  show (y.map fun q=>q-b.mid y)=List.zipWith (fun x q=>q-zeY (b.mid y) b.rate [] x) b.X y;refine List.ext_getElem? fun i=>?_;by_cases hi:i<y.length
  ·rw[zcm (qA (show i<b.X.length by omega)) (qA hi),qK,qA hi,zhv];rfl
  ·rw[qf (by rw[qV];omega),qf (by rw[List.length_zipWith];omega)]
 | succ k ih =>
  show List.zipWith (fun x q=>q-b.rate*(zcY x (b.tree (b.fit y k).2)).value) b.X (b.fit y k).2=List.zipWith (fun x q=>q-zeY (b.mid y) b.rate ((b.fit y k).1++[b.tree (b.fit y k).2]) x) b.X y;generalize b.tree (b.fit y k).2=t;rw[ih];generalize (b.fit y k).1=ts;refine List.ext_getElem? fun i=>?_;by_cases hi:i<y.length
  ·have h1:=qA (show i<b.X.length by omega);have h2:=qA hi;rw[zcm h1 (zcm h1 h2),zcm h1 h2,zfC];congr 1;grind
  ·rw[qf (by rw[List.length_zipWith,List.length_zipWith];omega),qf (by rw[List.length_zipWith];omega)]
theorem BG.fit_len (b:BG) (y:List Rat) (hy:y.length=b.X.length) (k:Nat):(b.fit y k).2.length=b.X.length∧(b.fit y k).1.length=k:=by
 induction k with
 | zero=>exact⟨by show (y.map _).length=_;rw[qV];exact hy,rfl⟩
 | succ k ih =>
  refine⟨?_,?_⟩
  ·show (b.next (b.fit y k).2).length=_;unfold BG.next;rw[List.length_zipWith];omega
  ·show ((b.fit y k).1++[_]).length=_;rw[qJ,ih.2];rfl
structure zco (T T':List Nd):Prop where
 len:T'.length=T.length
 node:∀(j:Nat) (n:Nd),T[j]?=some n→∃v,T'[j]?=some (zrU n v)
theorem zco.refl (T:List Nd):zco T T:=⟨rfl,fun j n h=>⟨n.value,h⟩⟩
theorem zco.symm {T T':List Nd} (h:zco T T'):zco T' T:=⟨h.len.symm,fun j n hj=>by
 have hl:=(qE.1 hj).1;have h1:=qA (l:=T) (i:=j) (by have:=h.len;omega);obtain⟨v,e⟩:=h.node j _ h1;rw[e]at hj;cases hj;exact⟨_,h1⟩⟩
theorem zco.sub {T T':List Nd} (h:zco T T') {w:Int} {k hh e:Nat} (s:Sub T w k hh e):Sub T' w k hh e:=by
 induction s with
 | leaf a b c d f =>
  obtain⟨v,q⟩:=h.node _ _ a;exact .leaf q b c d f
 | node a b c d f _ _ ih1 ih2 =>
  obtain⟨v,q⟩:=h.node _ _ a;exact .node q b c d f ih1 ih2
theorem zco.path {T T':List Nd} (h:zco T T') {x:List Rat} {k:Nat} {l:List Int} (s:zdb T x k l):zdb T' x k l:=by
 induction s with
 | here a b =>
  obtain⟨v,q⟩:=h.node _ _ a;exact .here q b
 | low a b c _ ih =>
  obtain⟨v,q⟩:=h.node _ _ a;exact .low q b c ih
 | high a b c _ ih =>
  obtain⟨v,q⟩:=h.node _ _ a;exact .high q b c ih
theorem zco.ok {T T':List Nd} (h:zco T T') {w:Int} (ht':zbK ⟨2,0,w,T⟩) (hv:∀n,n∈T'→ht n.value≤4000):zbK ⟨2,0,w,T'⟩:=by
 obtain⟨h1,h2,h3,⟨hh,h4,h5⟩,h6⟩:=ht';dsimp only at h3 h5 h6;refine⟨h1,h2,by have:=h.len;dsimp only;omega,⟨hh,h4,by dsimp only;rw[h.len];exact h.sub h5⟩,fun i hi=>?_⟩;dsimp only at hi ⊢;obtain⟨n,e,o,c⟩:=h6 i (by have:=h.len;omega);obtain⟨v,q⟩:=h.node _ _ e;refine⟨_,q,⟨o.rows,o.cost,o.len,o.pos,o.sum,o.cls,fun k=>absurd k (by decide),o.small.1,o.small.2.1,hv _ (qF q)⟩,fun k=>?_⟩;obtain⟨k1,k2,k3,a,b',q1,q2,q3⟩:=c k;obtain⟨v1,e1⟩:=h.node _ _ q1;obtain⟨v2,e2⟩:=h.node _ _ q2;exact⟨k1,k2,k3,_,_,e1,e2,⟨q3.rows,q3.counts,q3.cost⟩⟩
theorem zby (b:BG) (left:List Rat) (ns:List Nd) (k j:Nat):(b.midsTo left ns k)[j]?=ns[j]?.map fun n=>if j<k then zrU n (zjG b.tilt (b.part left ns j)) else n:=List.getElem?_mapIdx
theorem zg6 (b:BG) (left:List Rat) (ns:List Nd) (k:Nat):(b.midsTo left ns k).length=ns.length:=List.length_mapIdx
theorem zjH (b:BG) (left:List Rat) (ns:List Nd):b.midsTo left ns 0=ns:=by
 refine List.ext_getElem? fun j=>?_;rw[zby];cases ns[j]? <;> rfl
theorem zem (b:BG) (left:List Rat) (ns:List Nd) (k:Nat):zco ns (b.midsTo left ns k):=⟨zg6 ..,fun j n h=>by
 rw[zby,h];by_cases hj:j<k
 ·exact⟨_,by rw[Option.map_some,if_pos hj]⟩
 ·exact⟨n.value,by rw[Option.map_some,if_neg hj];rfl⟩⟩
theorem zlA (b:BG) (left:List Rat) {ns:List Nd} {k:Nat} {n:Nd} (h:(b.midsTo left ns k)[k]?=some n):(b.midsTo left ns k).set k (zrU n (zjG b.tilt (b.part left ns k)))=b.midsTo left ns (k+1):=by
 have hk:=(qE.1 h).1;refine List.ext_getElem? fun j=>?_;rw[List.getElem?_set];by_cases e:k=j
 ·subst e;rw[if_pos rfl,if_pos hk,zby];rw[zby]at h
  cases hn:ns[k]? with
  | none=>rw[hn]at h;cases h
  | some m =>
   rw[hn,Option.map_some,if_neg (Nat.lt_irrefl k)]at h;cases h;rw[Option.map_some,if_pos (Nat.lt_succ_self k)]
 ·rw[if_neg e,zby,zby]
  cases ns[j]? with
  | none=>rfl
  | some m =>
   rw[Option.map_some,Option.map_some];by_cases h1:j<k
   ·rw[if_pos h1,if_pos (by omega)]
   ·rw[if_neg h1,if_neg (by omega)]
theorem zpt:∀n:Nat,1≤n→n≤8→n ∣ 840:=fun n h1 h2=>by
 have h:∀m:Fin 9,m.val≠0→m.val ∣ 840:=by decide
 exact h ⟨n,by omega⟩ (by show n≠0;omega)
section
variable {b:BG} (hb:b.Ok)
include hb
theorem BG.Ok.goal_grid {left:List Rat} (hl:zkd left):zkd (b.goal left):=by
 unfold BG.goal;by_cases h:b.loss=1
 ·rw[if_pos h];exact hl
 rw[if_neg h];obtain⟨h0,h1⟩:=hb.two (hb.loss.resolve_left h);have hd:=zaU b.tilt;have h10:=hb.den.2;have hdn:=b.tilt.den_nz
 have hg:Gr b.tilt.den 2 b.tilt:=by
  refine Gr.ofDen (Nat.dvd_refl _) ?_;have e:=zjV b.tilt;have h2:(0:Rat)<(((b.tilt.den:Nat):Int):Rat):=Rat.intCast_pos.2 oM;have h3:=Rat.mul_lt_mul_of_pos_right h1 h2;rw[e,Rat.one_mul]at h3;have h4:b.tilt.num<(b.tilt.den:Int):=Rat.intCast_lt_intCast.1 h3;have h5:0<b.tilt.num:=zhO.2 h0;omega
 have h1':Gr b.tilt.den 1 1:=Gr.ofDen (q:=1) (Nat.one_dvd _) (by decide);refine⟨b.tilt.den,3,by omega,by omega,?_,fun q hq=>?_⟩
 ·have:=za9 3 b.tilt.den;have h3:bl 3≤2:=zaV (by decide);omega
 ·obtain⟨t,_,rfl⟩:=List.mem_map.1 hq;split
  ·exact hg.mono oM
  split
  ·exact Gr.zero _ _
  ·exact hg.sub h1'
theorem BG.Ok.gd {left:List Rat} (hl:zkd left) (hn:left.length=b.X.length):GD.Ok b.X.length (.v (b.goal left)):=⟨by rw[BG.goal_len];exact hn,hb.goal_grid hl⟩
theorem BG.Ok.gp {left:List Rat} (hl:zkd left) (hn:left.length=b.X.length):zmp (b.gp left) 2 0 b.W :=
 zrG (d:=.v (b.goal left)) (hb.gd hl hn) rfl (by have:=hb.rows;omega) hb.each hb.gain.1 fun _=>zdv
theorem BG.Ok.raw {left:List Rat} (hl:zkd left) (hn:left.length=b.X.length):zbK ⟨2,0,(b.W:Int),b.raw left⟩∧1≤(b.raw left).length∧(b.raw left).length≤15:=by
 have h1:=hb.rows;have hal:=zcp b.X.length;refine⟨zlv (hb.gp hl hn) hb.wide hb.deep (rows:=zcC b.X.length) (show 1≤(zcC b.X.length).length by omega) (show (zcC b.X.length).length≤300 by omega) zdv 0,(GP.grow_len _ _ _ _ _).1,?_⟩;have:=zei (hb.gp hl hn) b.D 0 (zcC b.X.length) 0 oM zdv;unfold BG.raw;omega
theorem BG.Ok.part {left:List Rat} (hl:zkd left) (hn:left.length=b.X.length) {j:Nat} {n:Nd} (h:(b.raw left)[j]?=some n):(∀q,q∈b.part left (b.raw left) j→q∈left)∧1≤(b.part left (b.raw left) j).length∧(b.part left (b.raw left) j).length≤8∧n.value=zbN (atR (b.goal left) ((zcC b.X.length).filter fun r=>decide ((j:Int)∈zk4 (b.raw left) (b.X.getD r.toNat [])))):=by
 obtain⟨hok,_,_⟩:=hb.raw hl hn;obtain⟨hh,_,hsub⟩:=hok.sub;dsimp only at hsub;have h8:=hb.rows;have hal:=zcp b.X.length;obtain⟨e1,f1⟩:=zkx (hb.gp hl hn) (cols:=zcC b.W) (fun _=>rfl) (S:=b.raw left) b.D 0 (zcC b.X.length) 0 oM zdv (At.self _);have hjl:=(qE.1 h).1;obtain⟨R,hR⟩:∃R,((b.gp left).rowsAt (zcC b.W) b.D (zcC b.X.length))[j]?=some R:=⟨_,qA (by rw[e1];exact hjl)⟩
 have hw:=zma (hb.gp hl hn) (cols:=zcC b.W) (fun _=>rfl) (S:=b.raw left) b.D 0 (zcC b.X.length) 0 zdv (At.self _) (fun r=>zk4 (b.raw left) (b.X.getD r.toNat [])) (fun r _=>by
  obtain⟨l,hl'⟩:=hsub.path (b.X.getD r.toNat []);have:=zn5 hl';rw[this];exact hl') j R hR
 obtain⟨n',hn',ho,hRb,hR1,_⟩:=f1.node j R hR;rw[qv]at hn' hw;cases h.symm.trans hn';unfold BG.part;rw[←hw]
 have hRl:R.length≤b.X.length:=by
  have:=List.length_filter_le (fun r=>decide ((j:Int)∈zk4 (b.raw left) (b.X.getD r.toNat []))) (zcC b.X.length);rw[hw];omega
 refine⟨zhw fun r hr=>?_,by rw[zdU];exact hR1,by rw[zdU];omega,ho.value⟩;have:=hRb r hr;rw[hn];exact this
theorem BG.Ok.rd:Gr b.rate.den 1 b.rate:=by
 refine Gr.ofDen (Nat.dvd_refl _) ?_;have e:=zjV b.rate;have hdn:=b.rate.den_nz;have h2:(0:Rat)≤(((b.rate.den:Nat):Int):Rat):=Rat.intCast_nonneg.2 oM;have h3:=Rat.mul_le_mul_of_nonneg_right hb.rate.2 h2;rw[e,Rat.one_mul]at h3;have h4:b.rate.num≤(b.rate.den:Int):=Rat.intCast_le_intCast.1 h3;have h5:0<b.rate.num:=zhO.2 hb.rate.1;omega
theorem BG.Ok.nodes_gr {left:List Rat} {D A:Nat} (hD:1≤D) (hA:1≤A) (hbl:bl (A*D)≤95) (hq:∀q,q∈left→Gr D A q) (hn:left.length=b.X.length):∀n,n∈b.nodes left→Gr (D*840) A n.value:=by
 have hg:zkd left:=⟨D,A,hD,hA,hbl,hq⟩;intro n hm;unfold BG.nodes at hm;by_cases h:b.loss=1
 ·rw[if_pos h]at hm;obtain⟨j,hj⟩:=List.mem_iff_getElem?.1 hm;obtain⟨p1,p2,p3,p4⟩:=hb.part hg hn hj;rw[p4,show b.goal left=left from if_pos h];exact Gr.meanK (fun q k=>hq q (p1 q k)) (zpt _ p2 p3)
 ·rw[if_neg h]at hm;obtain⟨j,hj⟩:=List.mem_iff_getElem?.1 hm;unfold BG.mids at hj;rw[zby]at hj
  cases hn':(b.raw left)[j]? with
  | none=>rw[hn']at hj;cases hj
  | some m =>
   have hjl:=(qE.1 hn').1;rw[hn',Option.map_some,if_pos hjl]at hj;cases hj;obtain⟨p1,p2,p3,_⟩:=hb.part hg hn hn';exact(hq _ (p1 _ (zhN (hb.two (hb.loss.resolve_left h)).2 p2))).up 840
omit hb in
theorem BG.nodes_alikeV (b:BG) (left:List Rat):zco (b.raw left) (b.nodes left):=by
 unfold BG.nodes;split
 ·exact zco.refl _
 ·exact zem ..
structure zgG (w:Nat) (t:Tr):Prop where
 ok:zbK t
 kd:t.kd=2
 cl:t.cl=0
 wide:t.w=(w:Int)
 len:1≤t.ns.length∧t.ns.length≤15
 small:∀n,n∈t.ns→ht n.value≤105
theorem BG.Ok.tree {left:List Rat} {D A:Nat} (hD:1≤D) (hA:1≤A) (hbl:bl (A*D)≤95) (hq:∀q,q∈left→Gr D A q) (hn:left.length=b.X.length):zgG b.W (b.tree left):=by
 have hg:zkd left:=⟨D,A,hD,hA,hbl,hq⟩;obtain⟨h1,h2,h3⟩:=hb.raw hg hn;have ha:=b.nodes_alikeV left;have hv:=hb.nodes_gr hD hA hbl hq hn
 have hs:∀n,n∈b.nodes left→ht n.value≤105:=fun n k=>by
  refine qI ((hv n k).bits oM hA) ?_;rw[←Nat.mul_assoc];have h4:=za9 (A*D) 840;have h5:bl 840≤10:=zaV (by decide);omega
 exact⟨ha.ok h1 fun n k=>qI (hs n k) oM,rfl,rfl,rfl,by have:=ha.len;show 1≤(b.nodes left).length∧(b.nodes left).length≤15;omega,hs⟩
theorem BG.Ok.next {left:List Rat} {D A:Nat} (hD:1≤D) (hA:1≤A) (hbl:bl (A*D)≤95) (hq:∀q,q∈left→Gr D A q) (hn:left.length=b.X.length):∀q,q∈b.next left→Gr (D*(840*b.rate.den)) (2*A) q:=by
 have ht:=hb.tree hD hA hbl hq hn;have hv:=hb.nodes_gr hD hA hbl hq hn;intro q hm;obtain⟨i,hi⟩:=List.mem_iff_getElem?.1 hm;unfold BG.next at hi;rw[List.getElem?_zipWith]at hi
 cases hx:b.X[i]? with
 | none=>rw[hx]at hi;cases hi
 | some x =>
  cases hl:left[i]? with
  | none=>rw[hx,hl]at hi;cases hi
  | some p =>
   rw[hx,hl]at hi;cases hi;obtain⟨j,_,_,hj,_⟩:=zhL ht.ok x;have h1:=hq p (qF hl);have h2:=hb.rd.mul (hv _ (qF hj))
   have h3:=(h1.up (840*b.rate.den)).sub (B:=A) (by
    rw[show D*(840*b.rate.den)=b.rate.den*(D*840) by rw[qW b.rate.den,Nat.mul_assoc]]
    rwa [Nat.one_mul]at h2)
   rwa [show 2*A=A+A by omega]
theorem BG.Ok.mid_gr {y:List Rat} {D A:Nat} (hq:∀q,q∈y→Gr D A q) (hn:y.length=b.X.length):Gr (D*840) A (b.mid y):=by
 have h8:=hb.rows;unfold BG.mid zoe;by_cases h:b.loss=1
 ·rw[if_pos h];exact Gr.meanK hq (zpt _ oM oM)
 ·rw[if_neg h];exact(hq _ (zhN (hb.two (hb.loss.resolve_left h)).2 oM)).up 840
omit hb in
theorem zpk {D A K r k:Nat} (hr:r≠0) (hbl:bl ((2*A*2 ^ K)*(D*840*(840*r) ^ K))≤95) (hk:k≤K):bl ((2*A*2 ^ k)*(D*840*(840*r) ^ k))≤95:=qI (zaW (Nat.mul_le_mul (qc _ (qe oM hk)) (qc _ (qe oM hk)))) hbl
theorem BG.Ok.fit {y:List Rat} {D A:Nat} (hD:1≤D) (hA:1≤A) (hq:∀q,q∈y→Gr D A q) (hn:y.length=b.X.length) {K:Nat} (hbl:bl ((2*A*2 ^ K)*(D*840*(840*b.rate.den) ^ K))≤95):∀k,k≤K→(∀q,q∈(b.fit y k).2→Gr (D*840*(840*b.rate.den) ^ k) (2*A*2 ^ k) q)∧(∀t,t∈(b.fit y k).1→zgG b.W t):=by
 have hrd:=b.rate.den_nz;have hb0:∀k,k≤K→bl ((2*A*2 ^ k)*(D*840*(840*b.rate.den) ^ k))≤95:=fun k hk=>zpk hrd hbl hk;intro k
 induction k with
 | zero =>
  refine fun _=>⟨fun q hm=>?_,fun t hm=>by cases hm⟩;obtain⟨p,hp,rfl⟩:=List.mem_map.1 hm;rw[Nat.pow_zero,Nat.pow_zero,Nat.mul_one,Nat.mul_one,show 2*A=A+A by omega];exact((hq p hp).up 840).sub (hb.mid_gr hq hn)
 | succ k ih =>
  intro hk;obtain⟨h1,h2⟩:=ih oM;have hl:=(b.fit_len y hn k).1;have hp1:0<(840*b.rate.den) ^ k:=Nat.pow_pos oM;have hp2:0<2 ^ k:=Nat.pow_pos oM;have hd1:1≤D*840*(840*b.rate.den) ^ k:=Nat.mul_pos oM hp1;have ha1:1≤2*A*2 ^ k:=Nat.mul_pos oM hp2;refine⟨fun q hm=>?_,fun t hm=>?_⟩
  ·have:=hb.next hd1 ha1 (hb0 k oM) h1 hl q hm
   rwa [qX,←Nat.mul_assoc,qX,show 2*A*(2 ^ k*2)=2*(2*A*2 ^ k) by rw[qW (2 ^ k) 2,←Nat.mul_assoc,qW (2*A) 2,Nat.mul_assoc 2 (2*A)]]
  ·rcases List.mem_append.1 (show t∈(b.fit y k).1++[b.tree (b.fit y k).2] from hm) with h | h
   ·exact h2 t h
   ·rw[pN.1 h];exact hb.tree hd1 ha1 (hb0 k oM) h1 hl
end
end
section
open Go.RowKit _root_.Go.Proofs.Tryz
section
variable {n:Nat} {ops:Array Oper} {o:Oper} {env:Env} {bx:Bxs} {H:Hs} {K:Env→Bxs→Hs→Prop} {L:Array Bool} {fuel d:Nat} {v:Value} {I:World→Prop} {z:Option Nat}
theorem IRQ (i:Nat) {H0:Hp} {x:Operand} {T:TypeId} {te:TE} {b off:Nat} {c:Array Value} {l:List Value} (hI:∀w,I w→Fits H0 w) (h:EVG I z prog n ops fuel (L.setIfInBounds i true) ((d,.v v)::env) bx H K) (hc:H0 b=some c) (hl:∀(j:Nat) (u:Value),l[j]?=some u→c[off+j]?=some u) (hlen:l.length=te.size) (hv:zeF te.agg l=some v) (hi:ops[i]?=some o:=by exact rfl) (hs:Region.noSelect ops=true:=by kernel_rfl) (hf:Region.free .any ops L i=true:=by kernel_rfl) (hr:(Region.ready .any ops L).contains i=true:=by kernel_rfl) (hy:zmm .any ops L i=true:=by kernel_rfl) (hts:zq8 .any ops z i=true:=by kernel_rfl) (hw:zak ops env o=some true:=by exact rfl) (hd:o.dst=some d:=by exact rfl) (hn:Nat.blt d n=true:=by exact rfl)
  (ho:o.op=.load T x:=by exact rfl) (hx:env.op x=some (.v (.pointer (some ⟨b,off,none⟩))):=by exact rfl) (ht:Tryz.tab.get T=some te:=by exact rfl):EVG I z prog n ops (fuel+1) L env bx H K :=
 EVG.take (J:=Fits H0) i (.inl ⟨hts,hI⟩) hi hs hf hr hy hw hd hn (fun β a W he hB=>by
  have ex:a.eval x=_:=he x _ hx;obtain⟨T',fz,hW⟩:=hB b c hc
  have hrg:W.rangeAt b off l:=fun j u hj=>by
   rw[cell_of_row W b (off+j) c T' fz hW];exact hl j u hj
  have hrun:=zaR (tO.get ht) hrg hlen hv;unfold execOp;simp only[ho,ex,Sem.run_bind,hrun,Result.andThen_ok,Sem.run_pure]) h
theorem ILQ (i:Nat) {T0:TypeId} {cs:List Value} {x:Operand} {T:TypeId} {te:TE} {b off:Nat} {l:List Value} (hI:∀w,I w→Box w b cs.toArray T0) (h:EVG I z prog n ops fuel (L.setIfInBounds i true) ((d,.v v)::env) bx H K) (hl:(cs.drop off).take te.size=l) (hlen:l.length=te.size) (hv:zeF te.agg l=some v) (hi:ops[i]?=some o:=by exact rfl) (hs:Region.noSelect ops=true:=by kernel_rfl) (hf:Region.free .any ops L i=true:=by kernel_rfl) (hr:(Region.ready .any ops L).contains i=true:=by kernel_rfl) (hy:zmm .any ops L i=true:=by kernel_rfl) (hts:zq8 .any ops z i=true:=by kernel_rfl) (hw:zak ops env o=some true:=by exact rfl) (hd:o.dst=some d:=by exact rfl) (hn:Nat.blt d n=true:=by exact rfl)
  (ho:o.op=.load T x:=by exact rfl) (hx:env.op x=some (.v (.pointer (some ⟨b,off,none⟩))):=by exact rfl) (ht:Tryz.tab.get T=some te:=by exact rfl):EVG I z prog n ops (fuel+1) L env bx H K :=
 EVG.take (J:=fun w=>Box w b cs.toArray T0) i (.inl ⟨hts,hI⟩) hi hs hf hr hy hw hd hn (fun β a W he hB=>by
  have ex:a.eval x=_:=he x _ hx;have hrg:=hB.range off te.size;rw[hl]at hrg;have hrun:=zaR (tO.get ht) hrg hlen hv;unfold execOp;simp only[ho,ex,Sem.run_bind,hrun,Result.andThen_ok,Sem.run_pure]) h
end
theorem zde {z:Option Nat} {L:Array Bool} {n:Nat} {env:Env} {bx:Bxs} {H:Hs} {p:Nat × TypeId × List Value} {H0:Hp} {jj:Nat} (hj:zer z L=false∨H.ow[jj]?=some p) (h:H0.Le H.ro):zer z L=true→∀W0 β a W,Rel n W0 H.base β env bx H a W→Box W p.1 p.2.2.toArray p.2.1∧Fits H0 W:=fun hn W0 β a W r=>⟨zr0 hj hn W0 β a W r,r.fits.mono h⟩
theorem PW.publish {P:Program} {f:FuncId} {args:Array Value} {H:Hp} {Φ:Value→Ows→Hp→Prop} {Ψ:Value→Hp→Prop} (h:PW P f args H [] Φ) (k:∀v ow H',Φ v ow H'→∃(e:TypeId) (s:Nat) (u:Value) (m:Nat) (xs:List Value),zaF e s u m xs ow∧∀G,H'.Le G→SlC G u m s xs→Ψ v G):PC P f args H Ψ:=by
 refine⟨h.can,fun W hf hg=>(h.run W hf hg (fun j b T cs hj=>by cases hj) (fun j j' b T T' cs cs' hj=>by cases hj)).mono ?_⟩;rintro e W' ⟨v,ow,H',rfl,hΦ,hle,hf',hnew,hk,hb,_⟩;have hbel:Below W.heap.size W W':=⟨hk.os,hk.tape,hk.output,hk.size,fun k hlt=>hk.block k hlt (by simp[Ows.bs])⟩;obtain⟨e,s,u,m,xs,hown,hq⟩:=k v ow H' hΦ;rcases hown.2 with ⟨rfl,rfl,rfl⟩ | ⟨g,cap,sp,rfl,rfl,h1,h2,h3⟩
 ·exact⟨v,H',rfl,hq H' (Hp.Le.refl _) ⟨hown.1,.inl ⟨rfl,none,0,rfl⟩⟩,hle,hf',hbel,hnew⟩
 ·obtain⟨q1,q2,q3⟩:=hb 0 g e (xs++sp) rfl;have q2:W.heap.size≤g:=q2.resolve_right (by simp[Ows.bs])
  have hle2:H'.Le (fun k=>if k=g then some (xs++sp).toArray else H' k):=fun k c ek=>by
   have:k≠g:=fun e'=>by subst e';rw[q3]at ek;cases ek
   show (if k=g then some (xs++sp).toArray else H' k)=some c;rw[if_neg this];exact ek
  refine⟨v,fun k=>if k=g then some (xs++sp).toArray else H' k,rfl,hq _ hle2 ⟨hown.1,.inr ⟨g,0,cap,_,rfl,h2,if_pos rfl,fun j x hj=>?_⟩⟩,hle.trans hle2,fun k c ek=>?_,hbel,fun k c ek=>?_⟩
  ·simp only[qv,List.getElem?_toArray];rw[qM (qE.1 hj).1];exact hj
  ·change (if k=g then some (xs++sp).toArray else H' k)=some c at ek;by_cases hkg:k=g
   ·subst hkg;rw[if_pos rfl]at ek;cases ek;exact⟨e,(0,0),q1⟩
   ·rw[if_neg hkg]at ek;exact hf' k c ek
  ·change (if k=g then some (xs++sp).toArray else H' k)=some c at ek;by_cases hkg:k=g
   ·subst hkg;rw[if_pos rfl]at ek;cases ek;exact .inr ⟨q2,e,q1⟩
   ·rw[if_neg hkg]at ek;exact hnew k c ek
section
variable {P:Program} {n:Nat} {ops:Array Oper} {o:Oper} {rest:List Oper} {env:Env} {bx:Bxs} {sb:Bxs} {ow:Ows} {H:Hs} {Q:EQ} {τ:Tab} {d:Nat} {s:SV}
theorem zac.callRO {f:FuncId} {args:Array Operand} {tys:Array TypeId} (ho:o.op=.call ⟨.value (.func f),args,tys⟩) (hw:zak ops env o=some true) {vs:List Value} (ha:zbt env args.toList some=some vs) (jj:Nat) {b:Nat} {T:TypeId} {cs:List Value} (hj:ow[jj]?=some (b,T,cs))
  (hc:zaI P f) {F:Hp→Prop} {R:Hp} {Φ:Value→Ows→Prop} {Ψ:Value→Hp→Prop} (hpc:∀G,R.Le G→F G→∀G',G.Le G'→G' b=some cs.toArray→PW P f vs.toArray G' [] fun v ow _=>Φ v ow)
  (hΦ:∀v ow,Φ v ow→∃(e:TypeId) (s:Nat) (m:Nat) (xs:List Value),zaF e s v m xs ow∧∀G,SlC G v m s xs→Ψ v G):zac P ops o env bx ow R F (fun _ v G=>Ψ v G):=fun β a W G hle hf hgl hb hown hs hF=>by
 obtain⟨vs',hk,hm⟩:=zbj env _ _ _ ha;cases hk;have hvs:=hm β G a.eval (fun y s hy=>hs.op (by simp[ho,Op.operands,Call.operands];exact .inr (by simpa using hy)));have hB:=hown jj b T cs hj;rw[if_pos (hs.want hw)];unfold Oper.wp;rw[zbc hc ho hvs,Oper.upon_enter]
 have hGb:∀c,G b=some c→c=cs.toArray:=fun c e=>by
  obtain⟨T',fz,h1⟩:=hf b c e;have h2:W.heap[b]?=some (.cells cs.toArray T (0,0)):=hB;rw[h2]at h1;cases h1;rfl
 have hle2:G.Le (fun k=>if k=b then some cs.toArray else G k):=fun k c e=>by
  show (if k=b then some cs.toArray else G k)=some c;by_cases hk:k=b
  ·subst hk;rw[if_pos rfl,hGb c e]
  ·rw[if_neg hk];exact e
 refine((hpc G hle hF (fun k=>if k=b then some cs.toArray else G k) hle2 (if_pos rfl)).run W (fun k c e=>?_) hgl (fun j b' T' cs' h=>by cases h) (fun j j' b' T1 T2 c1 c2 h1 h2=>by cases h1)).mono ?_
 ·change (if k=b then some cs.toArray else G k)=some c at e;by_cases hk:k=b
  ·subst hk;rw[if_pos rfl]at e;cases e;exact⟨T,(0,0),hB⟩
  ·rw[if_neg hk]at e;exact hf k c e
 ·rintro e W' ⟨v,ow',H',rfl,hv,hle',hf',hnew,hk,hb',_⟩;have hbel:Below W.heap.size W W':=⟨hk.os,hk.tape,hk.output,hk.size,fun k hlt=>hk.block k hlt (by simp[Ows.bs])⟩;obtain⟨e,s,m,xs,hown',hΨ⟩:=hΦ v ow' hv
  have zpW:∀k c,k≠b→H' k=some c→G k=some c∨(W.heap.size≤k∧∃T,W'.heap[k]?=some (.cells c T (0,0))):=fun k c hk e=>by
   rcases hnew k c e with q | q
   ·change (if k=b then some cs.toArray else G k)=some c at q;rw[if_neg hk]at q;exact .inl q
   ·exact .inr q
  have fwd:∀k c,G k=some c→H' k=some c:=fun k c e=>hle' k c (hle2 k c e);have hf2:=hf.below hbel;rcases hown'.2 with ⟨rfl,rfl,rfl⟩ | ⟨g,cap,sp,rfl,rfl,h1,h2,h3⟩
  ·refine⟨_,G,rfl,hΨ G ⟨hown'.1,.inl ⟨rfl,none,0,rfl⟩⟩,Hp.Le.refl G,hf2,hbel,Nw.refl _ _ _⟩
  ·obtain⟨q1,q2,q3⟩:=hb' 0 g e (xs++sp) rfl;have q2:W.heap.size≤g:=q2.resolve_right (by simp[Ows.bs])
   have hGg:G g=none:=by
    cases hc':G g with
    | none=>rfl
    | some c=>have:=hf.lt (b:=g) (by rw[hc'];simp);omega
   have hle3:G.Le (fun k=>if k=g then some (xs++sp).toArray else G k):=fun k c ek=>by
    have:k≠g:=fun e'=>by subst e';rw[hGg]at ek;cases ek
    show (if k=g then some (xs++sp).toArray else G k)=some c;rw[if_neg this];exact ek
   refine⟨_,fun k=>if k=g then some (xs++sp).toArray else G k,rfl,hΨ _ ⟨hown'.1,.inr ⟨g,0,cap,_,rfl,h2,if_pos rfl,fun j x hj=>?_⟩⟩,hle3,fun k c ek=>?_,hbel,fun k c ek=>?_⟩
   ·simp only[qv,List.getElem?_toArray];rw[qM (qE.1 hj).1];exact hj
   ·change (if k=g then some (xs++sp).toArray else G k)=some c at ek;by_cases hkg:k=g
    ·subst hkg;rw[if_pos rfl]at ek;cases ek;exact⟨e,(0,0),q1⟩
    ·rw[if_neg hkg]at ek;exact hf2 k c ek
   ·change (if k=g then some (xs++sp).toArray else G k)=some c at ek;by_cases hkg:k=g
    ·subst hkg;rw[if_pos rfl]at ek;cases ek;exact .inr ⟨q2,e,q1⟩
    ·rw[if_neg hkg]at ek;exact .inl ek
theorem DJ.callRO {tail l:List Oper} {x:Nat→Value} {y:Nat→Ows} {ow':Ows} {kl ks:List DK} {i:Nat} {bx':Bxs} {Γ:zfd} {f:FuncId} {args:Array Operand} {tys:Array TypeId} (ho:o.op=.call ⟨.value (.func f),args,tys⟩) (hw:zak ops env o=some true) (hd:o.dst=some d) (hn:Nat.blt d n=true)
  {vs:List Value} (ha:zbt env args.toList some=some vs) (jj:Nat) {b:Nat} {T:TypeId} {cs:List Value} (hj:H.ow[jj]?=some (b,T,cs)) (hc:zaI P f) {Φ:Value→Ows→Prop} {Ψ:Value→Hp→Prop} (hpc:∀G,H.ro.Le G→zcO ops i Γ G→∀G',G.Le G'→G' b=some cs.toArray→PW P f vs.toArray G' [] fun v ow _=>Φ v ow)
  (hΦ:∀v ow,Φ v ow→∃(e:TypeId) (s:Nat) (m:Nat) (xs:List Value),zaF e s v m xs ow∧∀G,SlC G v m s xs→Ψ v G) (hm:∀v G G',Ψ v G→G.Le G'→Ψ v G')
  (h:DJ P n ops tail sb bx H Q x y kl (i+1) l ks ((d,.v (x i))::env) bx' ((i,Ψ (x i))::Γ) ow'):DJ P n ops tail sb bx H Q x y kl i (o::l) (.call Ψ::ks) env bx' Γ ow' :=
 DJ.ofCall (zac.callRO ho hw ha jj hj hc hpc hΦ) hd hn hm h
end
set_option maxRecDepth 100000 in
theorem zkS {H:Hp} {cs:List Value} {vx:Value} {kd cl w:Int} {ns:List Nd} {x:List Rat} (ht:zeD H cs kd cl w ns) (hok:zbK ⟨kd,cl,w,ns⟩) (hx:RL H vx x) (hxl:(x.length:Int)=w) (hxs:∀q,q∈x→rq q) :
  PW prog 73 #[.agg cs.toArray,vx] H [] fun r ow _=>∃l:List Int,zaF 3 1 r l.length (l.map iv) ow∧zdb ns x 0 l∧l.length≤2000:=by
 obtain⟨a,cp,css,rfl,hns,hsl⟩:=ht;obtain⟨hkd,hw,hln,⟨hh,hh10,hsub⟩,hall⟩:=hok;dsimp only at hkd hw hln hsub hall;have hpos:=hsub.end0;obtain⟨xa,xc,rfl⟩:=hx.val;refine PW.body tO func73 rfl kR ntmps73 rfl rfl ?_;refine uR ?_;refine EVL.lit tO rfl rfl rfl rfl rfl rfl rfl rfl rfl rfl rfl fun bl=>?_;refine uR ?_;refine EV.loopK (ι:=Nat × List Int × Value × Ows) [1,2] [2] (fun q=>[(5,.v q.2.2.1),(6,.v (.int .i64 (q.1:Int)))]) (fun _=>[]) (fun q=>q.2.2.2) (fun q G=>q.1<ns.length∧q.2.1.length≤q.1∧(∀m,zdb ns x q.1 m→zdb ns x 0 (q.2.1++m))∧zaF 3 1 q.2.2.1 (q.2.1.length+1) (q.2.1.map iv++[iv q.1]) q.2.2.2) (fun q=>ns.length-q.1) ((0,[],_,_)) rfl rfl ⟨rfl,rfl,trivial⟩ trivial rfl (fun _=>rfl) (⟨hpos,qH _,fun m h=>h,zaF.full rfl oM⟩) ?_;rintro⟨i,l,vw,ow⟩ G1 hG1 ⟨hi,hll,hlf,hown⟩;dsimp only at hi hll hlf hown;obtain⟨wa,wc,rfl⟩:=hown.val;obtain⟨n,hn,hN,_⟩:=hall i hi;obtain⟨c,hcut,hnd⟩:=(hns.mono hG1).get hn;obtain⟨b1,a1,l1,c1,a2,l2,c2,b3,a3,l3,c3,a4,l4,c4,b5,a5,l5,c5,a6,l6,c6,a7,c7,rfl,hqa,_,_,_⟩:=hnd.cells;obtain⟨h',e',hsi⟩:=hsub.at i (qQ _) hi;have hle:=hsi.lt;refine uR ?_;refine EVL.idxM tO rfl rfl rfl rfl rfl rfl rfl rfl rfl ((hsl.mono hG1)) (i) (rfl) (hi) (hcut) ?_;refine uR ?_
 cases hsi with
 | leaf q1 q2 q3 q4 q5 =>
  rw[hn]at q1;cases q1;rw[qC (show ¬n.col≥0 by omega)];have hil:=hown.il;refine uR ?_;exact⟨l++[(i:Int)],hil,hlf _ (.here hn q2),by rw[qJ,qz];omega⟩
 | @node _ h1 m _ _ q1 q2 q3 q4 q5 s1 s2 =>
  rw[hn]at q1;cases q1;have hm1:=s1.lt;have hm2:=s2.lt;have hcl:n.col.toNat<x.length:=oM;obtain⟨y,hy⟩:∃y,x[n.col.toNat]?=some y:=⟨_,qA hcl⟩;have hyg:x.getD n.col.toNat 0=y:=by rw[qB,hy];rfl
  obtain⟨xcs,xb,ya1,yl1,yc1,ya2,yl2,yc2,hxS,hxcut,hxq⟩:=hx.slc hy;rw[qD (show n.col≥0 by omega)];refine uR ?_;refine EVL.idxM tO rfl rfl rfl rfl rfl rfl rfl rfl rfl ((hsl.mono hG1)) (i) (rfl) (hi) (hcut) ?_;refine uR ?_;apply EV.drawn 9 kR kR;intro xv yw;(repeat refine' DD ?_);refine' DJ.idxM tO rfl rfl rfl rfl rfl rfl rfl rfl rfl ((hxS.mono hG1)) (n.col.toNat) ((by rw[Int.toNat_of_nonneg q2])) (hcl) (hxcut) ?_;rotate_left;(repeat refine' DD ?_);refine' vC (cO func75) (fun G hG hd=>zaY ((hxq.mono hG1).mono hG) (hqa.mono hG) (hxs y (qF hy)) (by have:=hN.small.1;unfold rq;omega)) ?_;rotate_left;(repeat refine' DD ?_);(refine DJ.nil (fun G2 hG2 hF2=>?_);(case hS|hS2=>rfl));by_cases hle2:y≤n.at'
  ·rw[qD (zjP hle2)];refine uR ?_;refine EVL.app1 tO rfl rfl rfl rfl rfl rfl rfl rfl rfl rfl rfl rfl rfl rfl rfl rfl rfl rfl rfl (fun _=>rfl) (ow) ([]) ((qG _).symm) (hown) oM fun _=>?_;intro v' ow' hown';obtain⟨va,vc,rfl⟩:=hown'.val;refine uR ?_;refine⟨(n.left.toNat,l++[(i:Int)],_,ow'),⟨rfl,by dsimp only;rw[Int.toNat_of_nonneg (by omega)];rfl,trivial⟩,sB,trivial,sB,qG _,⟨by dsimp only;omega,by dsimp only;rw[qJ,qz];omega,fun m h=>by dsimp only;rw[qZ];exact hlf _ (.low hn oM (by rw[hyg];exact hle2) h),by dsimp only;rw[qJ,qo,Int.toNat_of_nonneg (by omega)];exact hown'⟩,hG2,by dsimp only;omega⟩
  ·rw[qC (show ¬zb8 y n.at'≤0 from fun k=>hle2 (Rat.not_lt.1 fun k2=>by have:=(zet y n.at').2 k2;omega))];refine uR ?_;refine EVL.app1 tO rfl rfl rfl rfl rfl rfl rfl rfl rfl rfl rfl rfl rfl rfl rfl rfl rfl rfl rfl (fun _=>rfl) (ow) ([]) ((qG _).symm) (hown) oM fun _=>?_;intro v' ow' hown';obtain⟨va,vc,rfl⟩:=hown'.val;refine uR ?_;refine⟨(n.right.toNat,l++[(i:Int)],_,ow'),⟨rfl,by dsimp only;rw[Int.toNat_of_nonneg (by omega)];rfl,trivial⟩,sB,trivial,sB,qG _,⟨by dsimp only;omega,by dsimp only;rw[qJ,qz];omega,fun m h=>by dsimp only;rw[qZ];exact hlf _ (.high hn oM (by rw[hyg];exact hle2) h),by dsimp only;rw[qJ,qo,Int.toNat_of_nonneg (by omega)];exact hown'⟩,hG2,by dsimp only;omega⟩
theorem zo3 {H:Hp} {cs:List Value} {vx:Value} {kd cl w:Int} {ns:List Nd} {x:List Rat} (ht:zeD H cs kd cl w ns) (hok:zbK ⟨kd,cl,w,ns⟩) (hx:RL H vx x) (hxl:(x.length:Int)=w) (hxs:∀q,q∈x→rq q) :
  PC prog 73 #[.agg cs.toArray,vx] H fun r G=>∃l:List Int,IL G r l∧zdb ns x 0 l∧l.length≤2000 :=
 (zkS ht hok hx hxl hxs).publish fun v ow H' ⟨l,h1,h2,h3⟩=>⟨_,_,v,_,_,h1,fun G _ hs=>⟨l,hs,h2,h3⟩⟩
theorem znz {H:Hp} {cs:List Value} {vx:Value} {kd cl w:Int} {ns:List Nd} {x:List Rat} (ht:zeD H cs kd cl w ns) (hok:zbK ⟨kd,cl,w,ns⟩) (hx:RL H vx x) (hxl:(x.length:Int)=w) (hxs:∀q,q∈x→rq q) :
  PC prog 106 #[.agg cs.toArray,vx] H fun r _=>∃i:Nat,r=.int .i64 (i:Int)∧zjp ns x 0 i:=by
 have hway:=zo3 ht hok hx hxl hxs;obtain⟨a,cp,css,rfl,hns,hsl⟩:=ht;obtain⟨xa,xc,rfl⟩:=hx.val;refine BD func106 ntmps106 ?_;refine uR ?_;refine vA (hway) ?_;rintro r G ⟨l0,hil,hp,hll⟩ hG;obtain⟨i,l,rfl,hL⟩:=hp.leaf;rw[qJ,qz]at hll;obtain⟨la,lc,rfl⟩:=SlC.val hil
 have hw:IntKind.i64.wrap (((l++[(i:Int)]).length:Int)-1)=((l.length:Nat):Int):=by
  rw[qJ,qz,pO];omega
 refine uR ?_;rw[hw];refine vI (hil) (l.length) (rfl) ((by rw[qJ,qz];omega)) ((by rw[qK,qL (qH _),Nat.sub_self];rfl)) ?_;refine uR ?_;exact⟨i,rfl,hL⟩
def zb0 (loss:Int) (rate tilt:Rat):Bool:=decide (0<rate) && (decide (rate≤1) && (if loss=1 then decide (tilt=0) else decide (0<tilt) && decide (tilt<1)))
theorem zci {q:Rat}:q.num.sign≤0↔¬0<q:=by
 rw[←zhO];rcases Int.lt_trichotomy q.num 0 with h | h | h
 ·rw[Int.sign_eq_neg_one_of_neg h];omega
 ·rw[h];simp
 ·rw[Int.sign_eq_one_of_pos h];omega
theorem zdn (a b:Rat):zb8 a b<0↔a<b:=by
 unfold zb8;by_cases h:a<b
 ·rw[if_pos h];exact⟨fun _=>h,fun _=>by omega⟩
 ·rw[if_neg h];refine⟨fun k=>?_,fun k=>absurd k h⟩;split at k <;> omega
theorem zcJ {q:Rat}:q.num.sign=0↔q=0:=by rw[Int.sign_eq_zero_iff_zero,Rat.num_eq_zero]
set_option maxRecDepth 100000 in
theorem zi7 {H:Hp} {loss:Int} {b1 b2:Bool} {a1 a2 a3 a4:Option Addr} {l1 c1 l2 c2 l3 c3 l4 c4:Nat} {rate tilt:Rat} (h1:RQ H (.agg #[.bool b1,.slice a1 l1 c1,.slice a2 l2 c2]) rate) (h2:RQ H (.agg #[.bool b2,.slice a3 l3 c3,.slice a4 l4 c4]) tilt) (hr:rq rate) (htl:rq tilt) :
  PC prog 66 #[.int .i64 loss,.agg #[.bool b1,.slice a1 l1 c1,.slice a2 l2 c2],.agg #[.bool b2,.slice a3 l3 c3,.slice a4 l4 c4]] H fun r _=>r=.bool (zb0 loss rate tilt):=by
 have hs1:=fun (G:Hp) (hG:H.Le G)=>zbb (RQ.mono h1 hG);have hs2:=fun (G:Hp) (hG:H.Le G)=>zbb (RQ.mono h2 hG);have q1:rq 1:=by show ht 1≤_;decide +kernel
 have ho:=fun G:Hp=>zaJ (H:=G) 1 oM oM;rw[show ((1:Int):Rat)=1 from rfl]at ho;refine BD func66 ntmps66 ?_;refine uR ?_;by_cases k1:0<rate
 case neg =>
  apply EV.drawn 9 kR kR;intro xv yw;(repeat refine' DD ?_);refine' vC (cO func70) (fun G hG hd=>hs1 G hG) ?_;rotate_left;(repeat refine' DD ?_);rw[qD (zci.2 k1)];(repeat refine' DD ?_);(refine DJ.nil (fun G1 hG1 hF1=>?_);(case hS|hS2=>rfl));refine uR ?_;rw[show zb0 loss rate tilt=false by unfold zb0;rw[qC k1];rfl]
 by_cases k2:rate≤1
 case neg =>
  apply EV.drawn 9 kR kR;intro xv yw;(repeat refine' DD ?_);refine' vC (cO func70) (fun G hG hd=>hs1 G hG) ?_;rotate_left;(repeat refine' DD ?_);rw[qC (fun k=>zci.1 k k1)];(repeat refine' DD ?_);refine' vB (cO func13) (fun G hG hd=>ho G) (fun _ _ _ h k=>RQ.mono h k) ?_;rotate_left;refine' vC (cO func75) (fun G hG hd=>zaY (h1.mono hG) (hd.head kR) hr q1) ?_;rotate_left;(repeat refine' DD ?_);rw[qD (show zb8 rate 1>0 from (zet rate 1).2 (Rat.not_le.1 k2))];(repeat refine' DD ?_);(refine DJ.nil (fun G1 hG1 hF1=>?_);(case hS|hS2=>rfl));refine uR ?_;rw[show zb0 loss rate tilt=false by unfold zb0;rw[qC k2,Bool.false_and,Bool.and_false]]
 apply EV.drawn 9 kR kR;intro xv yw;(repeat refine' DD ?_);refine' vC (cO func70) (fun G hG hd=>hs1 G hG) ?_;rotate_left;(repeat refine' DD ?_);rw[qC (fun k=>zci.1 k k1)];(repeat refine' DD ?_);refine' vB (cO func13) (fun G hG hd=>ho G) (fun _ _ _ h k=>RQ.mono h k) ?_;rotate_left;refine' vC (cO func75) (fun G hG hd=>zaY (h1.mono hG) (hd.head kR) hr q1) ?_;rotate_left;(repeat refine' DD ?_);rw[qC (show ¬zb8 rate 1>0 from fun k=>absurd ((zet rate 1).1 k) (Rat.not_lt.2 k2))];(repeat refine' DD ?_);(refine DJ.nil (fun G1 hG1 hF1=>?_);(case hS|hS2=>rfl));have h2':=RQ.mono h2 hG1;refine uR ?_;by_cases e1:loss=1
 ·subst e1;rw[show ((1:Int) == 1)=true from rfl,show zb0 1 rate tilt=decide (tilt=0) by unfold zb0;rw[qD k1,qD k2];rfl];refine uR ?_;refine vA (zbb h2') ?_;rintro _ G2 rfl hG2;refine uR ?_;by_cases z:tilt=0
  ·rw[qD z,zcJ.2 z];rfl
  ·rw[qC z,show (tilt.num.sign == 0)=false from pT.2 fun k=>z (zcJ.1 k)]
 rw[show (loss == 1)=false from pT.2 e1,show zb0 loss rate tilt=(decide (0<tilt) && decide (tilt<1)) by unfold zb0;rw[qD k1,qD k2,if_neg e1];rfl];refine uR ?_;by_cases z:0<tilt
 ·apply EV.drawn 10 kR kR;intro xv yw;(repeat refine' DD ?_);refine' vC (cO func70) (fun G hG hd=>zbb (RQ.mono h2' hG)) ?_;rotate_left;(repeat refine' DD ?_);rw[qD (show tilt.num.sign>0 from Int.not_le.1 fun k=>zci.1 k z)];(repeat refine' DD ?_);refine' vB (cO func13) (fun G hG hd=>ho G) (fun _ _ _ h k=>RQ.mono h k) ?_;rotate_left;refine' vC (cO func75) (fun G hG hd=>zaY (RQ.mono h2' hG) (hd.head kR) htl q1) ?_;rotate_left;(repeat refine' DD ?_);(refine DJ.nil (fun G2 hG2 hF2=>?_);(case hS|hS2=>rfl));refine uR ?_;rw[qD z,Bool.true_and];by_cases y:tilt<1
  ·rw[qD y,qD ((zdn tilt 1).2 y)]
  ·rw[qC y,qC fun k=>y ((zdn tilt 1).1 k)]
 ·apply EV.drawn 10 kR kR;intro xv yw;(repeat refine' DD ?_);refine' vC (cO func70) (fun G hG hd=>zbb (RQ.mono h2' hG)) ?_;rotate_left;(repeat refine' DD ?_);rw[qC (show ¬tilt.num.sign>0 from fun k=>absurd (zci.2 z) oM)];(repeat refine' DD ?_);(refine DJ.nil (fun G2 hG2 hF2=>?_);(case hS|hS2=>rfl));refine uR ?_;rw[qC z];rfl
set_option maxRecDepth 100000 in
theorem zrx {H:Hp} {v:Value} {l:List Int} {n:Int} (h:IL H v l) (hl:l.length≤1000000):PC prog 72 #[v,.int .i64 n] H fun r _=>r=.bool (decide (n∈l)):=by
 obtain⟨a,c,rfl⟩:=SlC.val h;refine BD func72 ntmps72 ?_;refine uR ?_;refine EV.loopK (ι:=Nat) [0,1] [] (fun q=>[(5,.v (.int .i64 (q:Int)))]) (fun _=>[]) (fun _=>[]) (fun q _=>q≤l.length∧n ∉ l.take q) (fun q=>l.length-q) (0) rfl rfl ⟨rfl,trivial⟩ trivial rfl (fun _=>rfl) (⟨qQ _,by simp⟩) ?_;rintro i G hG ⟨hi,hn⟩;refine uR ?_;refine EV.cond rfl (fun hlt=>?_) (fun hlt=>?_)
 ·simp only[nN]at hlt;obtain⟨z,hz⟩:=gE hlt;refine uR ?_;refine vI ((h.mono hG)) (i) (rfl) (hlt) ((by rw[qK,hz];rfl)) ?_;refine uR ?_;by_cases e:z=n
  ·rw[show (z == n)=true from beq_iff_eq.2 e];refine uR ?_;rw[qD (e ▸ qF hz)]
  ·rw[show (z == n)=false from pT.2 e];refine uR ?_;refine⟨i+1,⟨by rw[zab i (by omega)];rfl,trivial⟩,sB,trivial,sB,rfl,⟨hlt,?_⟩,Hp.Le.refl _,by omega⟩;rw[zai hz,List.mem_append,pN];exact fun k=>k.elim hn fun k=>e k.symm
 ·simp only[nN]at hlt;obtain rfl:i=l.length:=oM;rw[qa]at hn;refine uR ?_;rw[qC hn]
set_option maxRecDepth 100000 in
theorem zhn {H:Hp} {loss:Int} {v:Value} {l:List Rat} {b1:Bool} {a1 a2:Option Addr} {l1 c1 l2 c2:Nat} {tilt:Rat} (hl:RL H v l) (h2:RQ H (.agg #[.bool b1,.slice a1 l1 c1,.slice a2 l2 c2]) tilt) (h0:1≤l.length) (h8:l.length≤1000) (hb:∀q,q∈l→ht q≤100) (htl:loss≠1→0<tilt∧tilt<1) (hht:ht tilt≤10) :
  PC prog 68 #[.int .i64 loss,.agg #[.bool b1,.slice a1 l1 c1,.slice a2 l2 c2],v] H fun r G=>RQ G r (zoe loss tilt l):=by
 obtain⟨va,vc,rfl⟩:=hl.val;have hrq:∀q,q∈l→rq q:=fun q hq=>zaA (hb q hq) oM;refine BD func68 ntmps68 ?_;by_cases k1:loss=1
 ·subst k1;rw[show zoe 1 tilt l=zbN l from if_pos rfl];refine uR ?_;rw[show ((1:Int) == 1)=true from rfl];refine uR ?_;refine EVL.call rfl rfl rfl rfl rfl (zhh hl oM oM hb) ?_;intro r G hr hG;obtain⟨_,_,_,_,_,_,rfl,_⟩:=id hr;refine uR ?_;exact hr
 ·rw[show zoe loss tilt l=zjG tilt l from if_neg k1];refine uR ?_;rw[show (loss == 1)=false from pT.2 k1];refine uR ?_;obtain⟨t0,t1⟩:=htl k1;refine EVL.call rfl rfl rfl rfl rfl (zhj hl oM hrq) ?_;intro r G hs hG;have hsl:(zbX l).length=l.length:=(zbR l).length_eq;obtain⟨sa,sc,rfl⟩:=hs.val;rw[hsl];have htq:rq tilt:=zaA hht oM;refine uR ?_;refine EV.loopK (ι:=Nat) [4,6,7] [4,6] (fun q=>[(8,.v (.int .i64 (q:Int)))]) (fun _=>[]) (fun _=>[]) (fun q _=>q≤zgN tilt l.length) (fun q=>l.length-q) (0) rfl rfl ⟨rfl,trivial⟩ trivial rfl (fun _=>rfl) (qQ _) ?_;rintro k G2 hG2 hk;have hkl:=zfs (a:=tilt) t1 h0
  have hq:rq (Rat.divInt ((k+1:Nat):Int) (l.length:Int)):=by
   have:=ziG ((k+1:Nat):Int) (l.length:Int) oM;refine qI this (Nat.max_le.2 ⟨qI (zaV (k:=20) oM) oM,qI (zaV (k:=20) oM) oM⟩)
  have hlen:(0:Rat)<((l.length:Int):Rat):=Rat.intCast_pos.2 oM
  have hiff:Rat.divInt ((k+1:Nat):Int) (l.length:Int)<tilt↔¬tilt*((l.length:Int):Rat)≤(((k+1:Nat):Int):Rat):=by
   rw[Rat.divInt_eq_div,Rat.not_le,Rat.div_lt_iff hlen]
  have hov:=fun G:Hp=>zcb (H:=G) ((k+1:Nat):Int) (l.length:Int) oM oM oM oM oM;have h2':=RQ.mono h2 (hG.trans hG2);have hs2:=hs.mono hG2;refine uR ?_;apply EV.drawn 8 kR kR;intro xv yw;(repeat refine' DD ?_);rw[zab k (by omega)];refine' vB (cO func44) (fun G hG hd=>hov G) (fun _ _ _ h k=>RQ.mono h k) ?_;rotate_left;(repeat refine' DD ?_);refine' vC (cO func75) (fun G hG hd=>zaY (hd.head kR) (RQ.mono h2' hG) hq htq) ?_;rotate_left;(repeat refine' DD ?_);(refine DJ.nil (fun G3 hG3 hF3=>?_);(case hS|hS2=>rfl));by_cases hc:Rat.divInt ((k+1:Nat):Int) (l.length:Int)<tilt
  ·rw[qD ((zdn _ tilt).2 hc)];refine uR ?_;refine⟨k+1,⟨by rw[zab k (by omega)];rfl,trivial⟩,sB,trivial,sB,rfl,?_,hG3,by omega⟩;rcases Nat.lt_or_eq_of_le hk with h | h
   ·exact h
   ·exact absurd (zh7 t1 h0) (by rw[←h];exact hiff.1 hc)
  ·rw[qC fun k=>hc ((zdn _ tilt).1 k)];have hke:=zk1 t1 h0 (Decidable.not_not.1 fun q=>hc (hiff.2 q)) fun j hj=>zgs (Nat.lt_of_lt_of_le hj hk);have hkl2:k<(zbX l).length:=by rw[hsl,hke];exact hkl
   obtain⟨x,hx⟩:∃x,(zbX l)[k]?=some x:=⟨_,qA hkl2⟩
   have hmx:zjG tilt l=x:=by
    unfold zjG;rw[←hke,qB,hx];rfl
   obtain⟨cs,xb,xa1,xl1,xc1,xa2,xl2,xc2,hS,hcut,hxq⟩:=(hs2.mono hG3).slc hx;rw[hsl]at hS;rw[hmx];refine uR ?_;refine EVL.idxM tO rfl rfl rfl rfl rfl rfl rfl rfl rfl (hS) (k) (rfl) (oM) (hcut) ?_;refine uR ?_;exact hxq
def zrT (t:Int):Rat:=if t.tmod 4=1 then (if (zjl t).num<0 then -zjl t else zjl t) else 0
theorem zo2 {H:Hp} (d0 l0 t:Int) (hd:ze3 d0) (hl:ze3 l0) (ht:ze3 t) :
  PC prog 45 #[.int .i64 d0,.int .i64 l0,.int .i64 t] H fun r H'=>∃b1 a1 l1 c1 a2 l2 c2,r=zmd (d0 % 5) (1+l0 % 3) (.bool b1) (.slice a1 l1 c1) (.slice a2 l2 c2)∧RQ H' (.agg #[.bool b1,.slice a1 l1 c1,.slice a2 l2 c2]) (zrT t):=by
 have hp1:=zbo d0 5 hd oM oM;have hp2:=zbo l0 3 hl oM oM;refine BD func45 ntmps45 ?_
 repeat (first|refine RUN ?_|refine CV (hp1) ?_|refine CV (hp2) ?_|refine CE (hp1) ?_|refine CE (hp2) ?_)
 rw[show IntKind.i64.wrap (1+l0 % 3)=1+l0 % 3 by rw[pO];omega];refine uR ?_;refine EVL.call rfl rfl rfl rfl rfl (zaJ 0 oM oM) ?_;intro r1 G1 hr1 hG1;obtain⟨a1,l1,c1,a2,l2,c2,rfl,_⟩:=id hr1;refine uR ?_;by_cases h:t.tmod 4=1
 ·rw[show (t.tmod 4 == 1)=true from beq_iff_eq.2 h];refine uR ?_;refine vA (zrv t ht) ?_;intro r2 G2 hr2 hG2;refine vA (znq hr2) ?_;intro r3 G3 hr3 hG3;obtain⟨a3,l3,c3,a4,l4,c4,rfl,_⟩:=id hr3;refine uR ?_;exact⟨_,_,_,_,_,_,_,rfl,by unfold zrT;rw[if_pos h];exact hr3⟩
 ·rw[show (t.tmod 4 == 1)=false from beq_false_of_ne h];refine uR ?_;exact⟨_,_,_,_,_,_,_,rfl,by unfold zrT;rw[if_neg h];exact hr1⟩
abbrev zpC (n w dp ls rd rt at':Int) (tl:Bool) (vy vl:Value):Value:=.agg #[.int .i64 n,.int .i64 w,.int .i64 dp,.int .i64 ls,.int .i64 rd,.int .i64 rt,.int .i64 at',.bool tl,vy,vl]
abbrev zrC (loss rounds deep least:Int) (r a g:List Value):List Value:=.int .i64 loss::.int .i64 rounds::(r++(a++(.int .i64 deep::.int .i64 least::g)))
abbrev rc (b:Bool) (a1:Option Addr) (l1 c1:Nat) (a2:Option Addr) (l2 c2:Nat):List Value:=[.bool b,.slice a1 l1 c1,.slice a2 l2 c2]
def zj4 (tl:Bool) (a:Int):Rat:=if tl then Rat.divInt (1+a % 5) 6 else 0
def zjr (G:Hp) (v:Value) (loss rounds deep least:Int) (rate tilt gain:Rat):Prop:=∃b1 a1 l1 c1 a2 l2 c2 b2 a3 l3 c3 a4 l4 c4 b3 a5 l5 c5 a6 l6 c6,v=.agg (zrC loss rounds deep least (rc b1 a1 l1 c1 a2 l2 c2) (rc b2 a3 l3 c3 a4 l4 c4) (rc b3 a5 l5 c5 a6 l6 c6)).toArray∧RQ G (.agg (rc b1 a1 l1 c1 a2 l2 c2).toArray) rate∧RQ G (.agg (rc b2 a3 l3 c3 a4 l4 c4).toArray) tilt∧RQ G (.agg (rc b3 a5 l5 c5 a6 l6 c6).toArray) gain
theorem zjr.mono {G K:Hp} {v:Value} {loss rounds deep least:Int} {rate tilt gain:Rat} (h:zjr G v loss rounds deep least rate tilt gain) (k:G.Le K):zjr K v loss rounds deep least rate tilt gain:=by
 obtain⟨b1,a1,l1,c1,a2,l2,c2,b2,a3,l3,c3,a4,l4,c4,b3,a5,l5,c5,a6,l6,c6,e,h1,h2,h3⟩:=h;exact⟨b1,a1,l1,c1,a2,l2,c2,b2,a3,l3,c3,a4,l4,c4,b3,a5,l5,c5,a6,l6,c6,e,RQ.mono h1 k,RQ.mono h2 k,RQ.mono h3 k⟩
set_option maxRecDepth 100000 in
theorem zoJ {H:Hp} {vy vl:Value} {ly ll:List Int} (n w dp ls rd rt at':Int) (tl:Bool) (hn:ze3 n) (hw:ze3 w) (hdp:ze3 dp) (hls:ze3 ls) (hrd:ze3 rd) (hrt:ze3 rt) (hat:ze3 at') (hy:IL H vy ly) (hyb:∀z,z∈ly→ze3 z) (hl:IL H vl ll) (hlb:∀z,z∈ll→ze3 z) {N W:Nat} (hN:1+n % 8=(N:Int)) (hW:1+w % 3=(W:Int)) :
  PC prog 9 #[zpC n w dp ls rd rt at' tl vy vl] H fun r G=>∃vx vv vs,r=.tuple #[vx,vv,vs]∧RLL G vx (zeT ll N W)∧RL G vv (zi6 ly N)∧zjr G vs (if tl then 2 else 1) (rd % 4) (dp % 3) (1+ls % 3) (Rat.divInt 1 (1+rt % 4)) (zj4 tl at') 0:=by
 obtain⟨ya0,yc0,rfl⟩:=SlC.val hy;obtain⟨la0,lc0,rfl⟩:=SlC.val hl;have hp1:=zbo n 8 hn oM oM;have hp2:=zbo rd 4 hrd oM oM;have hp3:=zbo rt 4 hrt oM oM;have hp4:=zbo dp 3 hdp oM oM;have hp5:=zbo at' 5 hat oM oM;have hp6:=zbo w 3 hw oM oM;have w1:IntKind.i64.wrap (1+n % 8)=(N:Int):=by rw[pO];omega
 have w2:IntKind.i64.wrap (1+rt % 4)=1+rt % 4:=by rw[pO];omega
 have w3:IntKind.i64.wrap (1+w % 3)=(W:Int):=by rw[pO];omega
 have w4:IntKind.i64.wrap (1+at' % 5)=1+at' % 5:=by rw[pO];omega
 have hov:=fun G:Hp=>zcb (H:=G) 1 (1+rt % 4) oM oM oM oM oM;have ho0:=fun G:Hp=>zaJ (H:=G) 0 oM oM;rw[show ((0:Int):Rat)=0 from rfl]at ho0;have hru:=fun G:Hp=>zo2 (H:=G) (dp % 3) ls 0 (by unfold ze3;omega) hls (by unfold ze3;omega);rw[show (dp % 3) % 5=dp % 3 by omega,show zrT 0=0 from rfl]at hru;refine BD func9 ntmps9 ?_
 repeat (first|refine RUN ?_|refine CV (hp1) ?_|refine CE (hp1) ?_)
 rw[w1];refine uR ?_;apply EV.drawn 17 kR kR;intro xv yw;(repeat (first|refine' DD ?_|(refine' DC (hp2) (h:=?_);rotate_left)|(refine' DC (hp3) (h:=?_);rotate_left)));rw[w2];refine' vB (cO func44) (fun G hG hd=>hov G) (fun _ _ _ h k=>RQ.mono h k) ?_;rotate_left;refine' vB (cO func13) (fun G hG hd=>ho0 G) (fun _ _ _ h k=>RQ.mono h k) ?_;rotate_left;(repeat (first|refine' DD ?_|(refine' DC (hp4) (h:=?_);rotate_left)));refine' vB (cO func45) (fun G hG hd=>hru G) (fun _ _ _ h k=>(by obtain⟨b1,a1,l1,c1,a2,l2,c2,e,h⟩:=h;exact⟨b1,a1,l1,c1,a2,l2,c2,e,RQ.mono h k⟩)) ?_;rotate_left
 (refine' DJ.plainE tO (fun v G=>zjr G v 1 (rd % 4) (dp % 3) (1+ls % 3) (Rat.divInt 1 (1+rt % 4)) 0 0) (fun v G G' h k=>h.mono k) rfl rfl rfl (fun G hd=>(by
  obtain⟨b3,a5,l5,c5,a6,l6,c6,e3,h3⟩:=hd.head kR;obtain⟨a3,l3,c3,a4,l4,c4,e2,h2⟩:=id (show RQ G (xv 8) 0 from hd.tail.head kR);obtain⟨a1,l1,c1,a2,l2,c2,e1,h1⟩:=id (show RQ G (xv 7) (Rat.divInt 1 (1+rt % 4)) from hd.tail.tail.head kR);have h2':=show RQ G (xv 8) 0 from hd.tail.head kR;have h1':=show RQ G (xv 7) (Rat.divInt 1 (1+rt % 4)) from hd.tail.tail.head kR;rw[e1]at h1';rw[e2]at h2';rw[e1,e2,e3];exact⟨_,rfl,_,_,_,_,_,_,_,_,_,_,_,_,_,_,_,_,_,_,_,_,_,rfl,h1',h2',h3⟩)) ?_;rotate_left)
 (repeat refine' DD ?_);(refine DJ.nil (fun G1 hG1 hF1=>?_);(case hS|hS2=>rfl));obtain⟨⟨b1,a1,l1,c1,a2,l2,c2,b2,a3,l3,c3,a4,l4,c4,b3,a5,l5,c5,a6,l6,c6,e,h1,h2,h3⟩,_⟩:=hF1;rw[e]
 (try refine zpO ?_);refine EV.meetK (ι:=Bool × (Option Addr × Nat × Nat) × (Option Addr × Nat × Nat)) [1,4,5,6] [1,4] (fun _=>[]) (fun q=>[(6,37,zrC (if tl then 2 else 1) (rd % 4) (dp % 3) (1+ls % 3) (rc b1 a1 l1 c1 a2 l2 c2) (rc q.1 q.2.1.1 q.2.1.2.1 q.2.1.2.2 q.2.2.1 q.2.2.2.1 q.2.2.2.2) (rc b3 a5 l5 c5 a6 l6 c6))]) (fun _=>[]) (fun q G=>G1.Le G∧RQ G (.agg (rc q.1 q.2.1.1 q.2.1.2.1 q.2.1.2.2 q.2.2.1 q.2.2.2.1 q.2.2.2.2).toArray) (zj4 tl at')) rfl rfl (fun _=>rfl) ?_ ?_
 ·cases tl with
  | false =>
   refine uR ?_;exact⟨⟨b2,(a3,l3,c3),(a4,l4,c4)⟩,trivial,sB,⟨rfl,trivial⟩,sB,rfl,Hp.Le.refl _,h2⟩
  | true =>
   repeat (first|refine RUN ?_|refine CV (hp5) ?_|refine CE (hp5) ?_)
   rw[w4];refine uR ?_;refine EVL.call rfl rfl rfl rfl rfl (zcb (1+at' % 5) 6 oM oM oM oM oM) ?_;rintro r2 G2 hr2 hG2;obtain⟨za1,zl1,zc1,za2,zl2,zc2,rfl,_⟩:=id hr2;refine uR ?_;exact⟨⟨_,(_,_,_),(_,_,_)⟩,trivial,sB,⟨rfl,trivial⟩,sB,rfl,hG2,hr2⟩
 rintro⟨b4,⟨a7,l7,c7⟩,⟨a8,l8,c8⟩⟩ G2 ⟨hG2,hq2⟩;dsimp only at hq2;have hHG:=hG1.trans hG2;have hrows:=fun (G:Hp) (hG:G2.Le G)=>zqH (hl.mono (hHG.trans hG)) hlb N W oM oM;have hrow:=fun (G:Hp) (hG:G2.Le G)=>znD (hy.mono (hHG.trans hG)) hyb N oM;refine uR ?_;apply EV.drawn 15 kR kR;intro xv yw;(repeat (first|refine' DD ?_|(refine' DC (hp6) (h:=?_);rotate_left)));rw[w3];(repeat refine' DD ?_);refine' vB (cO func46) (fun G hG hd=>hrows G hG) (fun _ _ _ h k=>RLL.mono h k) ?_;rotate_left;(repeat refine' DD ?_);refine' vB (cO func29) (fun G hG hd=>hrow G hG) (fun _ _ _ h k=>RL.mono h k) ?_;rotate_left;(repeat refine' DD ?_);refine' DJ.copy (7) (by first|exact .inl rfl|exact .inr rfl) rfl rfl rfl id rfl kR ?_;rotate_left;refine' DJ.copy (11) (by first|exact .inl rfl|exact .inr rfl) rfl rfl rfl id rfl kR ?_;rotate_left;(refine DJ.nil (fun G3 hG3 hF3=>?_);(case hS|hS2=>rfl));obtain⟨hF3a,hF3b,_⟩:=hF3;refine uR ?_;exact⟨_,_,_,rfl,hF3b,hF3a,_,_,_,_,_,_,_,_,_,_,_,_,_,_,_,_,_,_,_,_,_,rfl,RQ.mono h1 (hG2.trans hG3),RQ.mono hq2 hG3,RQ.mono h3 (hG2.trans hG3)⟩
abbrev zaa (loss w:Int) (b r a:List Value) (ts:Value):List Value:=.int .i64 loss::.int .i64 w::(b++(r++(a++[ts])))
theorem zjt {base rate:Rat} {ts:List Tr} {x:List Rat} {w:Nat} (hb:ht base≤200) (hr:ht rate≤200) (hl:ts.length≤60) (ht':∀t,t∈ts→ht (zcY x t).value≤4000):ht (zeY base rate ts x)≤400000:=by
 unfold zeY
 have h1:=zek 4000 (vL x ts) fun q hq=>by
  obtain⟨t,k,rfl⟩:=List.mem_map.1 hq;exact ht' t k
 have h2:(4000+1)*(vL x ts).length≤(4000+1)*60:=qc _ (by unfold vL;rw[qV];exact hl);have h3:=zej rate (zaT (vL x ts));have h4:=zdi base (rate*zaT (vL x ts));omega
theorem zcX {w:Nat} {t:Tr} (h:zgG w t) (x:List Rat):ht (zcY x t).value≤105:=by
 obtain⟨i,_,_,hi,_⟩:=zhL h.ok x;exact h.small _ (qF hi)
set_option maxRecDepth 100000 in
theorem zoS {H:Hp} {loss:Int} {W:Nat} {base rate:Rat} {b1 b2 b3:Bool} {a1 a2 a3 a4 a5 a6 ta:Option Addr} {l1 c1 l2 c2 l3 c3 l4 c4 l5 c5 l6 c6 tc:Nat} {ts:List Tr} {vx:Value} {x:List Rat}
  (hbs:RQ H (.agg (rc b1 a1 l1 c1 a2 l2 c2).toArray) base) (hrt:RQ H (.agg (rc b2 a3 l3 c3 a4 l4 c4).toArray) rate) (ht':RTL H (.slice ta ts.length tc) ts) (hok:∀t,t∈ts→zgG W t) (hx:RL H vx x) (hxl:x.length=W) (hxs:∀q,q∈x→ht q≤100) (hb:ht base≤200) (hr:ht rate≤200) (hl:ts.length≤60) :
  PC prog 40 #[.agg (zaa loss (W:Int) (rc b1 a1 l1 c1 a2 l2 c2) (rc b2 a3 l3 c3 a4 l4 c4) (rc b3 a5 l5 c5 a6 l6 c6) (.slice ta ts.length tc)).toArray,vx] H fun r G=>RQ G r (zeY base rate ts x):=by
 obtain⟨tcs,hts,hst⟩:=ht';obtain⟨xa,xc,rfl⟩:=hx.val;have hxr:∀q,q∈x→rq q:=fun q hq=>zaA (hxs q hq) oM;have h0:RQ H (.agg (rc b1 a1 l1 c1 a2 l2 c2).toArray) (zeY base rate (ts.take 0) x):=by rw[List.take_zero,zhv];exact hbs
 refine BD func40 ntmps40 ?_;refine uR ?_;refine EV.loopK (ι:=Nat × Value × Value × Value) [1,2,4,5] [2,4] (fun q=>[(6,.v (.int .i64 (q.1:Int)))]) (fun q=>[(5,33,[q.2.1,q.2.2.1,q.2.2.2])]) (fun _=>[]) (fun q G=>q.1≤ts.length∧H.Le G∧RQ G (.agg #[q.2.1,q.2.2.1,q.2.2.2]) (zeY base rate (ts.take q.1) x)) (fun q=>ts.length-q.1) ((0,_,_,_)) rfl rfl ⟨rfl,trivial⟩ ⟨rfl,trivial⟩ rfl (fun _=>rfl) (⟨qQ _,Hp.Le.refl _,h0⟩) ?_;rintro⟨i,s1,s2,s3⟩ G1 hG1 ⟨hi,_,hs⟩;dsimp only at hi hs;refine uR ?_;refine EV.cond rfl (fun hlt=>?_) (fun hlt=>?_)
 ·simp only[nN]at hlt;obtain⟨t,hti⟩:=gE hlt;have hB:=hok t (qF hti);obtain⟨c,hcut,htr⟩:=(hts.mono hG1).get hti;obtain⟨na,nc,css,rfl,hns,hsl⟩:=id htr;obtain⟨i0,hlf,hi0,hni,_⟩:=zhL hB.ok x;have hv:=zcX hB x;have hsn:=zfC base rate (ts.take i) t x;rw[←zai hti]at hsn;generalize zcY x t=n at *
  have hsb:ht (zeY base rate (ts.take i) x)≤400000:=zjt (w:=W) hb hr (by rw[qP];omega) fun t' h'=>qI (zcX (hok t' (List.mem_of_mem_take h')) x) oM;have hxw:(x.length:Int)=t.w:=by rw[hB.wide,hxl]
  have cR:=fun (G:Hp) (hG:G1.Le G)=>(znz (htr.mono hG) hB.ok (hx.mono (hG1.trans hG)) hxw hxr).mono (fun r _ h _=>(by obtain⟨y,e,h⟩:=h;rw[e,h.det hlf]:r=.int .i64 (i0:Int)));obtain⟨cn,hcutn,hnd⟩:=hns.get hni;obtain⟨d1,e1,m1,n1,e2,m2,n2,d3,e3,m3,n3,e4,m4,n4,d5,e5,m5,n5,e6,m6,n6,e7,n7,rfl,k1,k2,k3,k4⟩:=hnd.cells;have hrt1:=RQ.mono hrt hG1;have r1:rq rate:=zaA hr oM;have r2:rq n.value:=zaA hv oM;have hm:=zej rate n.value;have r3:rq (rate*n.value):=qI hm oM;have r4:rq (zeY base rate (ts.take i) x):=qI hsb oM;have hst1:=hst.mono hG1;refine uR ?_;apply EV.drawn 21 kR kR;intro xv yw;(repeat refine' DD ?_);refine' DJ.idxM tO rfl rfl rfl rfl rfl rfl rfl rfl rfl (hst1) (i) (rfl) (hlt) (hcut) ?_;rotate_left;(repeat refine' DD ?_);refine' DJ.idxM tO rfl rfl rfl rfl rfl rfl rfl rfl rfl (hst1) (i) (rfl) (hlt) (hcut) ?_;rotate_left;(repeat refine' DD ?_);refine' vC (cO func106) (fun G hG hd=>cR G hG) ?_;rotate_left;refine' DJ.idxM tO rfl rfl rfl rfl rfl rfl rfl rfl rfl (hsl) (i0) (rfl) (hi0) (hcutn) ?_;rotate_left;(repeat refine' DD ?_);refine' vB (cO func104) (fun G hG hd=>zeR (RQ.mono hrt1 hG) (RQ.mono k3 hG) r1 r2) (fun _ _ _ h k=>RQ.mono h k) ?_;rotate_left;refine' vB (cO func103) (fun G hG hd=>zch (RQ.mono hs hG) (hd.head kR) r4 r3) (fun _ _ _ h k=>RQ.mono h k) ?_;rotate_left;(refine DJ.nil (fun G2 hG2 hF2=>?_);(case hS|hS2=>rfl));have hR:=hF2.1;rw[←hsn]at hR;obtain⟨_,_,_,_,_,_,e,_,_⟩:=id hR;rw[e]at hR ⊢;refine uR ?_;refine⟨(i+1,_,_,_),⟨by rw[zab i (by omega)];rfl,trivial⟩,sB,⟨rfl,trivial⟩,sB,rfl,⟨hlt,hG1.trans hG2,hR⟩,hG2,by dsimp only;omega⟩
 ·simp only[nN]at hlt;obtain rfl:i=ts.length:=oM;rw[qa]at hs;obtain⟨_,_,_,_,_,_,e,_,_⟩:=id hs;obtain⟨rfl,rfl,rfl⟩:=zrW e;refine uR ?_;exact hs
theorem znx {p:GP} {kd cl least deep:Int} {sm w:Nat} {la va xa:Option Addr} {ln lc vn vc xc:Nat} {g1 g2 g3:Value} {dq:Option Addr} (hq0:dq=none) (hdn:∀s,p.cols s=(zn0 w,s)) (hsm:sm≤w) (hw1:1≤w) (hw2:w≤1000) (hx0:0<p.X.length) (hxw:∀x,x∈p.X→x.length=w) (hxq:∀x,x∈p.X→∀q,q∈x→ht q≤60) (hpl:p.least=least) (hgr:rq p.gain):∀(d:Nat) {H:Hp} {b:Nat} {T:TypeId} {dd s:Int} {vr out:Value} {rows:List Int} {ns:List Nd} {css:List (List Value)} {D ow:Ows},
  zjq H (zbv kd cl (.slice la ln lc) (.slice va vn vc)) kd p.X.length p.cost p.mean p.cnt→RLL H (.slice xa p.X.length xc) p.X→RQ H (.agg #[g1,g2,g3]) p.gain→dd+d=deep→0≤dd→deep≤10 →
  IL H vr rows→rows.length≤300→(∀r,r∈rows→0≤r∧r<(p.X.length:Int))→zpL (.pointer dq) D s→zaF 147 15 out ns.length css.flatten ow→zbw H css ns→ns.length+2 ^ (d+1)≤1000000 →
  PW prog 133 #[.pointer (some ⟨b,0,none⟩),vr,.int .i64 dd] H ((b,T,zdN kd cl (.slice la ln lc) (.slice va vn vc) (.slice xa p.X.length xc) deep least g1 g2 g3 (.pointer dq) (sm:Int) out)::(D++ow)) fun v ow' H'=>v=.tuple #[]∧∃out' D' ow2 css',ow'=(b,T,zdN kd cl (.slice la ln lc) (.slice va vn vc) (.slice xa p.X.length xc) deep least g1 g2 g3 (.pointer dq) (sm:Int) out')::(D'++ow2)∧zpL (.pointer dq) D' (p.grow d ns.length rows s).2∧zaF 147 15 out' (ns++(p.grow d ns.length rows s).1).length css'.flatten ow2∧zbw H' css' (ns++(p.grow d ns.length rows s).1):=by
 intro d
 induction d using Nat.strongRecOn with
 | _ d ih =>
  intro H b T dd s vr out rows ns css D ow hg hX hgq hdd hd0 hd1 hr hn hb hD hown hns hsz;obtain⟨oa,oc,rfl⟩:=hown.val;obtain⟨ra,rc,rfl⟩:=SlC.val hr;have hpw:2≤2 ^ (d+1):=by rw[qX];have:=Nat.one_le_two_pow (n:=d);omega
  refine PW.body tO func133 rfl kR ntmps133 rfl rfl ?_;refine uR ?_;refine RP ?_;refine EVL.loadOwn tO rfl rfl rfl rfl rfl rfl (0) rfl (rfl) rfl rfl ?_;refine uR ?_;refine EV.meetK (ι:=Value × Ows × List Value) [0,1,2,6] [] (fun _=>[]) (fun _=>[]) (fun q=>(b,T,zdN kd cl (.slice la ln lc) (.slice va vn vc) (.slice xa p.X.length xc) deep least g1 g2 g3 (.pointer dq) (sm:Int) q.1)::(D++q.2.1)) (fun q G=>H.Le G∧zaF 147 15 q.1 (ns.length+1) (css++[q.2.2]).flatten q.2.1∧zdM G q.2.2 (p.nd rows)) rfl rfl (fun _=>rfl) ?_ ?_
  ·refine EVI.start (some 9) (b,T,zdN kd cl (.slice la ln lc) (.slice va vn vc) (.slice xa p.X.length xc) deep least g1 g2 g3 (.pointer dq) (sm:Int) (.slice oa ns.length oc)) ?_;refine IV 0 ?_;refine IV 1 ?_;refine IN 2 ?_;refine IF 3 ?_;refine IL0 4 ?_;refine IV 5 ?_;refine IV 6 ?_;refine EVI.one 7 0 (.inr rfl) kR rfl ?_;refine vW ([(b,T,zdN kd cl (.slice la ln lc) (.slice va vn vc) (.slice xa p.X.length xc) deep least g1 g2 g3 (.pointer dq) (sm:Int) (.slice oa ns.length oc))]) (D++ow) (zoY hg hr hn hb) ?_;rintro _ ow1 G1 ⟨rfl,cs,rfl,hnd⟩ hG1;obtain⟨b1,a1,l1,c1,a2,l2,c2,b3,a3,l3,c3,a4,l4,c4,b5,a5,l5,c5,a6,l6,c6,a7,c7,rfl,_⟩:=hnd.cells;refine EVL.nil ⟨rfl,?_⟩;refine EVI.one 8 0 (.inr rfl) kR rfl ?_;refine EVL.lit tO rfl rfl rfl rfl rfl rfl rfl rfl rfl rfl rfl fun bl=>?_;refine EVL.nil ⟨rfl,?_⟩;refine EVI.one 9 1 (.inr rfl) kR rfl ?_;refine EVL.append tO rfl rfl rfl rfl rfl rfl rfl rfl rfl rfl rfl rfl ([(bl,_,_),(b,T,_)]++D) ow [] (by rw[qG];rfl) hown (zcn.own 0 rfl rfl) rfl oM ?_;intro v2 ow2 hown2;obtain⟨oa2,oc2,rfl⟩:=hown2.val;refine EVL.nil ⟨rfl,?_⟩;refine EVI.one 10 0 (.inl kR) kR rfl ?_;refine EVL.nilB rfl rfl rfl rfl rfl ?_;refine EVL.nil ⟨rfl,?_⟩;refine EVI.one 11 0 (.inl kR) kR rfl ?_;refine EVL.fldB tO rfl rfl rfl rfl rfl rfl rfl ?_;refine EVL.nil ⟨rfl,?_⟩;refine EVI.one 12 0 (.inl kR) kR rfl ?_;refine EVL.storeOwn tO rfl rfl rfl rfl rfl rfl ([(bl,_,_)]) (D++(ow2++[])) rfl rfl rfl rfl ((by exact qH 13)) (rfl) ?_;refine EVL.subOw [] [(bl,_,_)] _ rfl ?_;refine EVL.nil ⟨rfl,?_⟩;refine EVI.nil 0 (.inl kR) kR ?_;exact⟨(_,ow2++[],_),trivial,sB,trivial,trivial,rfl,hG1,(by rw[qG,List.flatten_append];exact hown2),hnd⟩
  ·rintro⟨out1,ow1,c1⟩ G1 ⟨hG1,hown1,hnd1⟩;dsimp only at hown1 hnd1;have hns1:zbw G1 (css++[c1]) (ns++[p.nd rows]):=hns.snoc hG1 hnd1;refine uR ?_;refine RP ?_;refine EVL.loadOwn tO rfl rfl rfl rfl rfl rfl (0) rfl (rfl) rfl rfl ?_;refine uR ?_;by_cases hd:d=0
   ·subst hd;obtain rfl:dd=deep:=oM;rw[show (dd == dd)=true from beq_self_eq_true dd];refine uR ?_;exact⟨rfl,out1,D,ow1,_,rfl,hD,by rw[qJ];exact hown1,hns1⟩
   obtain⟨e,rfl⟩:∃e,d=e+1:=⟨d-1,by omega⟩;have ih':=@ih e oM;clear ih;rw[show (dd == deep)=false from pT.2 (by omega)];refine uR ?_;refine RP ?_;refine EVL.loadOwn tO rfl rfl rfl rfl rfl rfl (0) rfl (rfl) rfl rfl ?_;refine EVL.neqnil Tryz.underlying202 rfl rfl rfl rfl rfl ?_;refine uR ?_;obtain⟨vsx,hvs,hvx⟩:=hX.mono hG1;obtain⟨x0,hxx0⟩:=gE hx0;obtain⟨u0,e0,hu0,_⟩:=hvs.at hxx0;have hx0w:=hxw x0 (qF hxx0);refine EV.meetK (ι:=Value × Ows) [0,1,2,6] [] (fun q=>[(7,.v q.1)]) (fun _=>[]) (fun q=>(b,T,zdN kd cl (.slice la ln lc) (.slice va vn vc) (.slice xa p.X.length xc) deep least g1 g2 g3 (.pointer dq) (sm:Int) out1)::(q.2++ow1)) (fun q G=>G1.Le G∧IL G q.1 (p.cols s).1∧zpL (.pointer dq) q.2 (p.cols s).2) rfl rfl (fun _=>rfl) ?_ ?_
   ·rcases hD with ⟨e1,rfl⟩ | ⟨bd,Td,e1,rfl,hs⟩
    ·cases e1;have hcols:=hdn s;have hcs:(p.cols s).1=zn0 w:=by rw[hcols]
     have hcs2:(p.cols s).2=s:=by rw[hcols]
     have hnl0:∀k,k∈b::Ows.bs ow→∀q,q∈([]:Ows)→k≠q.1:=fun k _ q hq=>by cases hq
     refine uR ?_;refine EV.loopK (ι:=Nat × Value × Ows) [0,1,2,6] [] (fun q=>[(7,.v q.2.1),(8,.v (.int .i64 (q.1:Int)))]) (fun _=>[]) (fun q=>q.2.2++((b,T,zdN kd cl (.slice la ln lc) (.slice va vn vc) (.slice xa p.X.length xc) deep least g1 g2 g3 (.pointer none) (sm:Int) out1)::ow1)) (fun q _=>q.1≤w∧zaF 3 1 q.2.1 q.1 ((zn0 q.1).map iv) q.2.2∧∀k,k∈b::Ows.bs ow→∀r,r∈q.2.2→k≠r.1) (fun q=>w-q.1) ((0,.slice none 0 0,[])) rfl rfl ⟨rfl,rfl,trivial⟩ trivial rfl (fun _=>rfl) (⟨qQ _,zaF.nil _ _,hnl0⟩) ?_;rintro⟨i,v7,ow7⟩ G2 hG2 ⟨hi,hown7,hnl⟩;dsimp only at hi hown7 hnl;obtain⟨a7,c7,rfl⟩:=hown7.val;refine uR ?_;(first|refine EVL.swapOw (ow7) ((b,T,zdN kd cl (.slice la ln lc) (.slice va vn vc) (.slice xa p.X.length xc) deep least g1 g2 g3 (.pointer none) (sm:Int) out1)::ow1) (rfl) ?_|refine EV.swapOw (ow7) ((b,T,zdN kd cl (.slice la ln lc) (.slice va vn vc) (.slice xa p.X.length xc) deep least g1 g2 g3 (.pointer none) (sm:Int) out1)::ow1) (rfl) ?_);refine RP ?_;refine EVL.loadOwn tO rfl rfl rfl rfl rfl rfl (0) rfl (rfl) rfl rfl ?_;refine vI (hvx.mono hG2) (0) (rfl) (hx0) (hu0) ?_;refine uR ?_;rw[hx0w];(first|refine EVL.swapOw ((b,T,zdN kd cl (.slice la ln lc) (.slice va vn vc) (.slice xa p.X.length xc) deep least g1 g2 g3 (.pointer none) (sm:Int) out1)::ow1) (ow7) (rfl) ?_|refine EV.swapOw ((b,T,zdN kd cl (.slice la ln lc) (.slice va vn vc) (.slice xa p.X.length xc) deep least g1 g2 g3 (.pointer none) (sm:Int) out1)::ow1) (ow7) (rfl) ?_);refine uR ?_;refine EV.cond rfl (fun hlt=>?_) (fun hlt=>?_)
     ·simp only[nN]at hlt;refine uR ?_;refine EVL.app1N tO rfl rfl rfl rfl rfl rfl rfl rfl rfl rfl rfl rfl rfl rfl rfl rfl rfl rfl rfl (fun _=>rfl) (ow7) ((b,T,zdN kd cl (.slice la ln lc) (.slice va vn vc) (.slice xa p.X.length xc) deep least g1 g2 g3 (.pointer none) (sm:Int) out1)::ow1) (rfl) (hown7) (oM) fun _=>?_;intro v' ow' hown' hnw;refine uR ?_;refine⟨(i+1,v',ow'),⟨rfl,?_,trivial⟩,sB,trivial,trivial,rfl,⟨by dsimp only;omega,by dsimp only;rw[zn1,qo];exact hown',fun k hk=>hnw k hk (hnl k hk)⟩,Hp.Le.refl _,by dsimp only;omega⟩;rw[zab i (by omega)];rfl
     ·simp only[nN]at hlt;obtain rfl:i=w:=oM;have hil:zaF 3 1 (.slice a7 i c7) (zn0 i).length ((zn0 i).map iv) ow7:=by rw[zgu];exact hown7
      (first|refine EVL.publishL [] ow7 ((b,T,zdN kd cl (.slice la ln lc) (.slice va vn vc) (.slice xa p.X.length xc) deep least g1 g2 g3 (.pointer none) (sm:Int) out1)::ow1) rfl hil (fun G3 hG3 hs7=>?_) (fun k hk=>hnl k hk)|refine EV.publishL [] ow7 ((b,T,zdN kd cl (.slice la ln lc) (.slice va vn vc) (.slice xa p.X.length xc) deep least g1 g2 g3 (.pointer none) (sm:Int) out1)::ow1) rfl hil (fun G3 hG3 hs7=>?_) (fun k hk=>hnl k hk));refine uR ?_;refine⟨(_,[]),⟨rfl,trivial⟩,sB,trivial,trivial,rfl,hG2.trans hG3,?_,?_⟩
      ·rw[hcs];exact hs7
      ·rw[hcs2];exact .inl ⟨rfl,rfl⟩
    ·cases e1;cases hq0
   ·rintro⟨vc7,D2⟩ G2 ⟨hG2,hcol,hD2⟩;dsimp only at hcol hD2;obtain⟨ca,cc,rfl⟩:=SlC.val hcol;have hH2:=hG1.trans hG2
    have hcl:(p.cols s).1.length≤1000:=by
     rw[hdn s,zgu];exact hw2
    have hbest:=fun (G:Hp) (hG:G2.Le G)=>zlX (least:=least) (hg.check G (hH2.trans hG)) hg.len (fun G' k=>hg.cost G' ((hH2.trans hG).trans k)) hg.small (hX.mono (hH2.trans hG)) hxq (hr.mono (hH2.trans hG)) hn (hcol.mono hG) hcl;have hpb:(zaD p.X p.cost rows (max 1 least) (p.cols s).1).foldl zgg none=p.best rows (p.cols s).1:=by unfold GP.best;rw[hpl]
    have hgb:∀q,p.best rows (p.cols s).1=some q→ht q.2.1≤200∧ht q.2.2≤8000000:=fun q e=>by
     rw[←hpb]at e;have hf:=zdy (zaD p.X p.cost rows (max 1 least) (p.cols s).1);rw[e]at hf;exact zii hg.small hn hb hxq hf.1
    simp only[zfQ hb,hpb]at hbest;refine uR ?_;apply EV.drawn 21 kR kR;intro xv yw;(repeat (first|refine' DD ?_|refine' vN ?_|refine' vF ?_));refine' DJ.ofVal (zac.loadOwn tO rfl rfl rfl rfl (0) rfl (rfl) rfl rfl) rfl rfl rfl ?_;rotate_left;(repeat (first|refine' DD ?_|refine' vN ?_|refine' vF ?_));refine' DJ.ofVal (zac.loadOwn tO rfl rfl rfl rfl (0) rfl (rfl) rfl rfl) rfl rfl rfl ?_;rotate_left;(repeat (first|refine' DD ?_|refine' vN ?_|refine' vF ?_));refine' DJ.ofVal (zac.loadOwn tO rfl rfl rfl rfl (0) rfl (rfl) rfl rfl) rfl rfl rfl ?_;rotate_left;refine' vB (cO func183) (fun G hG hd=>hbest G hG) (fun _ _ _ h k=>(by obtain⟨cs,h1,h2⟩:=h;exact⟨cs,h1.mono k,h2⟩)) ?_;rotate_left;refine' DJ.copy (15) (by first|exact .inl rfl|exact .inr rfl) rfl rfl rfl id rfl kR ?_;rotate_left;refine' DJ.extract (15) rfl rfl rfl rfl rfl kR (fun G hd=>(by obtain⟨cs,_,e⟩:=hd.head kR;exact⟨_,e,Nat.zero_lt_succ _⟩)) ?_;rotate_left;refine' DJ.extract (15) rfl rfl rfl rfl rfl kR (fun G hd=>(by obtain⟨cs,_,e⟩:=hd.head kR;exact⟨_,e,Nat.lt_succ_self _⟩)) ?_;rotate_left;(repeat refine' DD ?_);refine' DJ.storeD tO rfl rfl rfl rfl (15) (zeB 0) rfl rfl (19) rfl rfl kR kR rfl (fun G hd=>(by obtain⟨cs,h,e⟩:=hd.head kR;rw[e];obtain⟨c,b1,a1,l1,c1,a2,l2,c2,b3,a3,l3,c3,a4,l4,c4,rfl,_⟩:=h.cells;exact⟨rfl,rfl⟩)) ?_;rotate_left;(refine DJ.nil (fun G3 hG3 hF3=>?_);(case hS|hS2=>rfl));obtain⟨⟨cs,hcs,e33⟩,_⟩:=hF3;obtain⟨c,b1,a1,l1,c1',a2,l2,c2,b3,a3,l3,c3,a4,l4,c4,rfl,hval⟩:=hcs.cells;rw[e33];rw[show zeB 1 (Value.tuple #[.agg ([.int .i64 c,.bool b1,.slice a1 l1 c1',.slice a2 l2 c2,.bool b3,.slice a3 l3 c3,.slice a4 l4 c4]:List Value).toArray,.bool (p.best rows (p.cols s).1).isSome])=.bool (p.best rows (p.cols s).1).isSome from rfl,show zae (zeB 0 (Value.tuple #[.agg ([.int .i64 c,.bool b1,.slice a1 l1 c1',.slice a2 l2 c2,.bool b3,.slice a3 l3 c3,.slice a4 l4 c4]:List Value).toArray,.bool (p.best rows (p.cols s).1).isSome]))=[.int .i64 c,.bool b1,.slice a1 l1 c1',.slice a2 l2 c2,.bool b3,.slice a3 l3 c3,.slice a4 l4 c4] from rfl];refine uR ?_
    cases hbe:p.best rows (p.cols s).1 with
    | none =>
     have hcut:p.cut rows (p.cols s).1=none:=by unfold GP.cut;rw[hbe]
     rw[GP.grow_none hcut];rw[show (none:Option (Int × Rat × Rat)).isSome=false from rfl];apply EV.drawn 13 kR kR;intro xv yw;(repeat refine' DD ?_);(refine DJ.nil (fun G hG hF=>?_);(case hS|hS2=>rfl));refine uR ?_;exact⟨rfl,out1,D2,ow1,_,rfl,hD2,by rw[qJ];exact hown1,hns1.mono (hG2.trans (hG3.trans hG))⟩
    | some q =>
     obtain⟨c',t,g⟩:=q;obtain⟨rfl,hvt,hvg⟩:=hval c' t g hbe;obtain⟨htb,hgb'⟩:=hgb _ hbe;dsimp only at htb hgb';rw[show (some (c,t,g)).isSome=true from rfl];have hgrq:rq g:=by unfold rq;omega
     apply EV.drawn 13 kR kR;intro xv yw;(repeat (first|refine' DD ?_|refine' vN ?_|refine' vF ?_));refine' DJ.ofVal (zac.loadOwn tO rfl rfl rfl rfl (0) rfl (rfl) rfl rfl) rfl rfl rfl ?_;rotate_left;refine' vC (cO func75) (fun G hG hd=>zaY (RQ.mono hvg hG) (RQ.mono hgq (hH2.trans (hG3.trans hG))) hgrq hgr) ?_;rotate_left;(repeat refine' DD ?_);(refine DJ.nil (fun G4 hG4 hF4=>?_);(case hS|hS2=>rfl));refine uR ?_;by_cases hle:g≤p.gain
     ·have hcut:p.cut rows (p.cols s).1=none:=by unfold GP.cut;rw[hbe];exact if_pos hle
      rw[GP.grow_none hcut];rw[qD (Int.not_lt.1 fun k=>Rat.not_lt.2 hle ((zfo g p.gain).1 k))];refine uR ?_;exact⟨rfl,out1,D2,ow1,_,rfl,hD2,by rw[qJ];exact hown1,hns1.mono (hG2.trans (hG3.trans hG4))⟩
     have hcut:p.cut rows (p.cols s).1=some (c,t):=by unfold GP.cut;rw[hbe];exact if_neg hle
     rw[GP.grow_some hcut];rw[qC (Int.not_le.2 ((zfo g p.gain).2 (Rat.not_le.1 hle)))];have hH4:=hH2.trans (hG3.trans hG4);refine uR ?_;apply EV.drawn 14 kR kR;intro xv yw;(repeat (first|refine' DD ?_|refine' vN ?_|refine' vF ?_));refine' DJ.ofVal (zac.loadOwn tO rfl rfl rfl rfl (0) rfl (rfl) rfl rfl) rfl rfl rfl ?_;rotate_left;(repeat (first|refine' DD ?_|refine' vN ?_|refine' vF ?_));refine' vB (cO func184) (fun G hG hd=>zgh (col:=c) (t:=t) (hX.mono (hH4.trans hG)) (hr.mono (hH4.trans hG)) oM (fun x hx q hq=>zaA (hxq x hx q hq) oM) (RQ.mono hvt (hG4.trans hG)) (zaA htb oM)) (fun _ _ _ h k=>(by obtain⟨u,w,e,hu,hw⟩:=h;exact⟨u,w,e,hu.mono k,hw.mono k⟩)) ?_;rotate_left;refine' DJ.copy (9) (by first|exact .inl rfl|exact .inr rfl) rfl rfl rfl id rfl kR ?_;rotate_left;refine' DJ.extract (9) rfl rfl rfl rfl rfl kR (fun G hd=>(by obtain⟨u,w,e,_⟩:=hd.head kR;exact⟨_,e,Nat.zero_lt_succ _⟩)) ?_;rotate_left;refine' DJ.extract (9) rfl rfl rfl rfl rfl kR (fun G hd=>(by obtain⟨u,w,e,_⟩:=hd.head kR;exact⟨_,e,Nat.lt_succ_self _⟩)) ?_;rotate_left;refine' DJ.copy (9) (.inr rfl) rfl rfl rfl (zeB 0) rfl kR ?_;rotate_left;(refine DJ.nil (fun G5 hG5 hF5=>?_);(case hS|hS2=>rfl));obtain⟨⟨u5,w5,e5,hu5,hw5⟩,_⟩:=hF5;rw[e5];rw[zfQ hb]at hu5 hw5;obtain⟨ua,uc,rfl⟩:=SlC.val hu5;obtain⟨wa,wc,rfl⟩:=SlC.val hw5;rw[show zeB 0 (Value.tuple #[.slice ua (za6 p.X c t rows).length uc,.slice wa (zax p.X c t rows).length wc])=.slice ua (za6 p.X c t rows).length uc from rfl,show zeB 1 (Value.tuple #[.slice ua (za6 p.X c t rows).length uc,.slice wa (zax p.X c t rows).length wc])=.slice wa (zax p.X c t rows).length wc from rfl];have hH5:=hH4.trans hG5;have hns5:=hns1.mono (hG2.trans (hG3.trans (hG4.trans hG5)));obtain⟨cA,cc1,cB,ecs,hAl,hnc,hput⟩:=hns5.mid;rw[ecs]at hown1;clear ecs;obtain⟨b9,a9,l9,c9,a10,l10,c10,b11,a11,l11,c11,a12,l12,c12,b13,a13,l13,c13,a14,l14,c14,a15,c15,rfl,k1,k2,k3,k4⟩:=hnc.cells;obtain⟨go,capo,sp,rfl,rfl,hback⟩:=hown1.mid rfl;have wk:IntKind.i64.wrap ((ns.length:Int)+1)=((ns.length+1:Nat):Int):=zab _ oM;have wd:IntKind.i64.wrap (dd+1)=dd+1:=by rw[pO];omega
     refine uR ?_;apply EV.drawn 7 kR kR;intro xv yw;(repeat (first|refine' DD ?_|refine' vN ?_|refine' vF ?_));refine' DJ.ofVal (zac.loadOwn tO rfl rfl rfl rfl (0) rfl (rfl) rfl rfl) rfl rfl rfl ?_;rotate_left;(repeat (first|refine' DD ?_|refine' vN ?_|refine' vF ?_));(refine DJ.nil (fun G6 hG6 hF6=>?_);(case hS|hS2=>rfl));refine EVL.idxB tO rfl rfl rfl rfl rfl rfl rfl rfl rfl (ns.length) (ns.length*15) (rfl) (oM) (rfl) ?_;refine EVL.fldB tO rfl rfl rfl rfl rfl rfl rfl ?_;refine EVL.storeOwn tO rfl rfl rfl rfl rfl rfl ((b,T,_)::D2) ([]) rfl rfl rfl rfl ((zc5 (f:=0) hAl rfl (by show 0+1≤15;omega))) (zc6 (f:=0) hAl rfl rfl (by show 0+1≤15;omega) rfl) ?_;refine uR ?_;apply EV.drawn 7 kR kR;intro xv yw;(repeat (first|refine' DD ?_|refine' vN ?_|refine' vF ?_));refine' DJ.ofVal (zac.loadOwn tO rfl rfl rfl rfl (0) rfl (rfl) rfl rfl) rfl rfl rfl ?_;rotate_left;(repeat (first|refine' DD ?_|refine' vN ?_|refine' vF ?_));(refine DJ.nil (fun G7 hG7 hF7=>?_);(case hS|hS2=>rfl));refine EVL.idxB tO rfl rfl rfl rfl rfl rfl rfl rfl rfl (ns.length) (ns.length*15) (rfl) (oM) (rfl) ?_;refine EVL.fldB tO rfl rfl rfl rfl rfl rfl rfl ?_;refine EVL.storeOwn tO rfl rfl rfl rfl rfl rfl ((b,T,_)::D2) ([]) rfl rfl rfl rfl ((zc5 (f:=5) hAl rfl (by show 5+3≤15;omega))) (zc6 (f:=5) hAl rfl rfl (by show 5+3≤15;omega) rfl) ?_;refine uR ?_;refine RP ?_;refine EVL.loadOwn tO rfl rfl rfl rfl rfl rfl (0) rfl (rfl) rfl rfl ?_;refine uR ?_;rw[wk];refine EVL.idxB tO rfl rfl rfl rfl rfl rfl rfl rfl rfl (ns.length) (ns.length*15) (rfl) (oM) (rfl) ?_;refine EVL.fldB tO rfl rfl rfl rfl rfl rfl rfl ?_;refine EVL.storeOwn tO rfl rfl rfl rfl rfl rfl ((b,T,_)::D2) ([]) rfl rfl rfl rfl ((zc5 (f:=1) hAl rfl (by show 1+1≤15;omega))) (zc6 (f:=1) hAl rfl rfl (by show 1+1≤15;omega) rfl) ?_;refine uR ?_;rw[wd];have hH7:=hH5.trans (hG6.trans hG7);have hlo3:(za6 p.X c t rows).length≤300:=qI (List.length_filter_le _ _) hn;have hhi3:(zax p.X c t rows).length≤300:=qI (List.length_filter_le _ _) hn;have hlom:∀r,r∈za6 p.X c t rows→0≤r∧r<(p.X.length:Int):=fun r hr=>hb r (List.mem_filter.mp hr).1;have hhim:∀r,r∈zax p.X c t rows→0≤r∧r<(p.X.length:Int):=fun r hr=>hb r (List.mem_filter.mp hr).1;have hvt7:=RQ.mono hvt (hG4.trans (hG5.trans (hG6.trans hG7)));obtain⟨n1,hn1⟩:∃n1:Nd,({ p.nd rows with col:=c,left:=((ns.length+1:Nat):Int),at':=t }:Nd)=n1:=⟨_,rfl⟩
     have hr1:zdM G7 [.int .i64 c,.int .i64 ((ns.length+1:Nat):Int),.int .i64 0,.int .i64 (p.nd rows).rows,.int .i64 (p.nd rows).cls,.bool b1,.slice a1 l1 c1',.slice a2 l2 c2,.bool b11,.slice a11 l11 c11,.slice a12 l12 c12,.bool b13,.slice a13 l13 c13,.slice a14 l14 c14,.slice a15 (p.nd rows).counts.length c15] n1:=by
      subst hn1;exact⟨_,_,_,_,hvt7,k2.mono (hG6.trans hG7),k3.mono (hG6.trans hG7),k4.mono (hG6.trans hG7),rfl⟩
     have hl1:(ns++[n1]).length=ns.length+1:=by simp
     have hp2:2 ^ (e+1+1)=2 ^ (e+1)+2 ^ (e+1):=by rw[qX];omega
     have hp3:2≤2 ^ (e+1):=by rw[qX];have:=Nat.one_le_two_pow (n:=e);omega
     have hL:=ih' (H:=G7) (b:=b) (T:=T) (dd:=dd+1) (s:=(p.cols s).2) (ns:=ns++[n1]) (hg.mono hH7) (hX.mono hH7) (hgq.mono hH7) oM oM hd1 (hu5.mono (hG6.trans hG7)) hlo3 hlom hD2 (by rw[hl1];exact hback _ rfl) (hput G7 _ n1 (hG6.trans hG7) hr1) (by rw[hl1];omega);rw[hl1]at hL;have hLl:=(p.grow_len e (ns.length+1) (za6 p.X c t rows) (p.cols s).2).2;generalize hLe:p.grow e (ns.length+1) (za6 p.X c t rows) (p.cols s).2=Lp at *
     obtain⟨Ls,s2⟩:=Lp;dsimp only at hL hLl;refine EVL.callW rfl rfl rfl rfl rfl _ [] (qG _).symm hL ?_;rintro _ _ G8 ⟨rfl,out2,D3,ow3,css3,rfl,hD3,hown3,hns3⟩ hG8;rw[qG ((b,T,_)::(D3++ow3))];rw[show ns++[n1]++Ls=ns++n1::Ls by simp]at hown3 hns3;obtain⟨cA3,c31,cB3,ecs3,hAl3,hnc3,hput3⟩:=hns3.mid;rw[ecs3]at hown3;clear ecs3;obtain⟨d9,e9,f9,h9,e10,f10,h10,d11,e11,f11,h11,e12,f12,h12,d13,e13,f13,h13,e14,f14,h14,e15,h15,rfl,j1,j2,j3,j4⟩:=hnc3.cells;obtain⟨go3,capo3,sp3,rfl,rfl,hback3⟩:=hown3.mid rfl;have hl2:(ns++n1::Ls).length=ns.length+1+Ls.length:=by simp;omega
     rw[hl2]at hback3;rw[hl2];refine uR ?_;apply EV.drawn 10 kR kR;intro xv yw;(repeat (first|refine' DD ?_|refine' vN ?_|refine' vF ?_));refine' DJ.ofVal (zac.loadOwn tO rfl rfl rfl rfl (0) rfl (rfl) rfl rfl) rfl rfl rfl ?_;rotate_left;(repeat (first|refine' DD ?_|refine' vN ?_|refine' vF ?_));refine' DJ.ofVal (zac.loadOwn tO rfl rfl rfl rfl (0) rfl (rfl) rfl rfl) rfl rfl rfl ?_;rotate_left;(repeat (first|refine' DD ?_|refine' vN ?_|refine' vF ?_));(refine DJ.nil (fun G9 hG9 hF9=>?_);(case hS|hS2=>rfl));refine EVL.idxB tO rfl rfl rfl rfl rfl rfl rfl rfl rfl (ns.length) (ns.length*15) (rfl) (oM) (rfl) ?_;refine EVL.fldB tO rfl rfl rfl rfl rfl rfl rfl ?_;refine EVL.storeOwn tO rfl rfl rfl rfl rfl rfl ((b,T,_)::D3) ([]) rfl rfl rfl rfl ((zc5 (f:=2) hAl3 rfl (by show 2+1≤15;omega))) (zc6 (f:=2) hAl3 rfl rfl (by show 2+1≤15;omega) rfl) ?_;refine uR ?_;rw[wd];obtain⟨n2,hn2⟩:∃n2:Nd,({ n1 with right:=((ns.length+1+Ls.length:Nat):Int) }:Nd)=n2:=⟨_,rfl⟩
     have hr2:zdM G9 [.int .i64 n1.col,.int .i64 n1.left,.int .i64 ((ns.length+1+Ls.length:Nat):Int),.int .i64 n1.rows,.int .i64 n1.cls,.bool d9,.slice e9 f9 h9,.slice e10 f10 h10,.bool d11,.slice e11 f11 h11,.slice e12 f12 h12,.bool d13,.slice e13 f13 h13,.slice e14 f14 h14,.slice e15 n1.counts.length h15] n2:=by
      subst hn2;exact⟨_,_,_,_,j1.mono hG9,j2.mono hG9,j3.mono hG9,j4.mono hG9,rfl⟩
     have hH9:=hH7.trans (hG8.trans hG9);have hl3:(ns++n2::Ls).length=ns.length+1+Ls.length:=by simp;omega
     have hR:=ih' (H:=G9) (b:=b) (T:=T) (dd:=dd+1) (s:=s2) (ns:=ns++n2::Ls) (hg.mono hH9) (hX.mono hH9) (hgq.mono hH9) oM oM hd1 (hw5.mono (hG6.trans (hG7.trans (hG8.trans hG9)))) hhi3 hhim hD3 (by rw[hl3];exact hback3 _ rfl) (hput3 G9 _ n2 hG9 hr2) (by rw[hl3];omega);rw[hl3]at hR;generalize hRe:p.grow e (ns.length+1+Ls.length) (zax p.X c t rows) s2=Rp at *
     obtain⟨Rs,s3⟩:=Rp;dsimp only at hR;refine EVL.callW rfl rfl rfl rfl rfl _ [] (qG _).symm hR ?_;rintro _ _ G10 ⟨rfl,out4,D4,ow4,css4,rfl,hD4,hown4,hns4⟩ hG10;rw[qG ((b,T,_)::(D4++ow4))];refine uR ?_
     have hfin:ns++n2::Ls++Rs=ns++({ p.nd rows with col:=c,left:=((ns.length+1:Nat):Int),right:=((ns.length+1+Ls.length:Nat):Int),at':=t }::(Ls++Rs)):=by
      subst hn2;subst hn1;simp
     rw[hfin]at hown4 hns4;refine⟨rfl,out4,D4,ow4,css4,rfl,?_,?_,?_⟩
     ·exact hD4
     ·exact hown4
     ·exact hns4
set_option maxRecDepth 100000 in
theorem zny {p:GP} {H:Hp} {kd cl least:Int} {D w:Nat} {s:Int} {la va xa:Option Addr} {ln lc vn vc xc:Nat} {vr:Value} {rows:List Int} {b1:Bool} {a1 a2:Option Addr} {l1 c1 l2 c2:Nat}
  (hdn:∀s,p.cols s=(zn0 w,s)) (hw1:1≤w) (hw2:w≤20) (hx0:0<p.X.length) (hxn:p.X.length≤300) (hxw:∀x,x∈p.X→x.length=w) (hxq:∀x,x∈p.X→∀q,q∈x→ht q≤60) (hpl:p.least=least) (hl:1≤least∧least≤300) (hgr:rq p.gain) (hg0:0≤p.gain) (hD:D≤10)
  (hg:zjq H (zbv kd cl (.slice la ln lc) (.slice va vn vc)) kd p.X.length p.cost p.mean p.cnt) (hX:RLL H (.slice xa p.X.length xc) p.X) (hgq:RQ H (.agg #[.bool b1,.slice a1 l1 c1,.slice a2 l2 c2]) p.gain)
  (hr:IL H vr rows) (hr0:0<rows.length) (hn:rows.length≤300) (hb:∀r,r∈rows→0≤r∧r<(p.X.length:Int)) :
  PW prog 71 #[zbv kd cl (.slice la ln lc) (.slice va vn vc),.slice xa p.X.length xc,vr,zmd (D:Int) least (.bool b1) (.slice a1 l1 c1) (.slice a2 l2 c2)] H []
   fun v ow G=>∃oa oc css,v=.tuple #[.agg #[.int .i64 kd,.int .i64 cl,.int .i64 (w:Int),.slice oa (p.grow D 0 rows s).1.length oc],.int .i64 0]∧zbw G css (p.grow D 0 rows s).1∧zaF 147 15 (.slice oa (p.grow D 0 rows s).1.length oc) (p.grow D 0 rows s).1.length css.flatten ow:=by
 obtain⟨ra,rc,rfl⟩:=SlC.val hr;have hpow:2 ^ (D+1)≤2 ^ 11:=qe oM oM;have herr:=zl7 (hg.check H (Hp.Le.refl _)) hg.len hX hxw hw1 hw2 oM hxn hr hr0 hn (zkQ (deep:=(D:Int)) hgq hg0 oM hl);rw[zpo hb]at herr;obtain⟨vs,hvs,hvx⟩:=id hX;obtain⟨x0,hxx0⟩:=gE hx0;obtain⟨u0,e0,hu0,_⟩:=hvs.at hxx0;rw[hxw x0 (qF hxx0)]at hu0;refine PW.body tO func71 rfl kR ntmps71 rfl rfl ?_
 repeat (first|refine RUN ?_|refine CV (herr) ?_|refine CE (herr) ?_)
 (first|refine EVL.unbox (25) rfl fun gb=>?_|refine EV.unbox (25) rfl fun gb=>?_);refine EVL.callW rfl rfl rfl rfl rfl ((gb,204,_)::([]++[])) ([]) rfl (znx (dq:=none) (deep:=(D:Int)) (sm:=0) (w:=w) rfl hdn (qQ _) hw1 oM hx0 hxw hxq hpl hgr D (s:=s) (ns:=[]) (css:=[]) hg hX hgq oM (Int.le_refl _) oM hr hn hb (.inl ⟨rfl,rfl⟩) (zaF.nil _ _) ⟨rfl,fun j c n e1 e2=>by cases e1⟩ (by rw[List.length_nil];omega)) ?_;rintro _ _ G1 ⟨rfl,out,D',ow2,css,rfl,hD',hown,hns⟩ hG1;rw[pQ]at hown hns;rw[List.length_nil]at hown hns hD';rcases hD' with ⟨_,rfl⟩|⟨bd',T',e1,_⟩
 case inr=>cases e1
 obtain⟨oa,oc,rfl⟩:=hown.val;refine uR ?_;apply EV.drawn 12 kR kR;intro xv yw;(repeat refine' DD ?_);refine' vJ (hvx.mono hG1) (0) (rfl) (hx0) (hu0) ?_;rotate_left;(repeat (first|refine' DD ?_|refine' vN ?_|refine' vF ?_));refine' DJ.ofVal (zac.loadOwn tO rfl rfl rfl rfl (0) rfl (rfl) rfl rfl) rfl rfl rfl ?_;rotate_left;(refine DJ.nil (fun G hG hF=>?_);(case hS|hS2=>rfl));(first|refine EVL.subOw [] [(gb,_,_)] (ow2++[]) rfl ?_|refine EV.subOw [] [(gb,_,_)] (ow2++[]) rfl ?_|refine EVL.subOw [] [(gb,_,_)] ow2 rfl ?_);refine uR ?_;refine⟨oa,oc,css,rfl,hns.mono hG,?_⟩
 first|exact hown|simpa using hown
theorem GD.Ok.rgoal {H:Hp} {n:Nat} {d:GD} (hd:d.Ok n) (h0:1≤n) (h1:n≤300) {v:Value} (hR:d.R H v):(∃ga gn gc va vn vc,v=zbv d.kd d.cl (.slice ga gn gc) (.slice va vn vc))∧zjq H v d.kd n d.cost d.mean d.cnt:=by
 have hsm:=hd.sm
 cases d with
 | v qs =>
  obtain⟨rfl,hq⟩:=hd;obtain⟨s,rfl,hs⟩:=hR;obtain⟨sa,sc,rfl⟩:=hs.val;have q100:∀q,q∈qs→ht q≤100:=fun q hq'=>qI (hq.bits q hq') oM;refine⟨⟨_,_,_,_,_,_,rfl⟩,⟨?_,?_,?_,?_,?_,?_,?_,?_,?_,?_⟩⟩
  ·exact fun e=>absurd e (by decide:¬(2:Int)=1)
  ·exact fun _ l=>rfl
  ·exact fun e=>absurd e (by decide:¬(2:Int)=1)
  ·exact fun l=>qQ _
  ·exact fun G hG u l hl hn=>zge hl hn (hs.mono hG) q100
  ·exact fun l hn hr=>by have:=(hsm l hn hr).1;omega
  ·exact fun G hG u l hl hn=>zjY hl hn (hs.mono hG) q100
  ·exact fun l hn hr=>(hsm l hn hr).2
  ·exact fun G hG=>zlS h0 h1
  ·exact zoX
 | c C ls =>
  obtain⟨hc,rfl,hlb⟩:=hd;obtain⟨s,rfl,hs⟩:=hR;obtain⟨sa,sc,rfl⟩:=SlC.val hs;refine⟨⟨_,_,_,_,_,_,rfl⟩,⟨?_,?_,?_,?_,?_,?_,?_,?_,?_,?_⟩⟩
  ·exact fun _ G hG u l hl hn=>ze6 hl hn (SlC.mono hs hG) oM hlb
  ·exact fun e=>absurd rfl e
  ·exact fun _ l=>rfl
  ·exact fun l=>by show (zdx C (atI ls l)).length≤12;rw[zbD];omega
  ·intro G hG u l hl hn;have:=zge (kd:=1) (cl:=(C:Int)) (sl:=.slice sa ls.length sc) hl hn (RL.nil G none 0) (by intro q hq;cases hq);rw[show atR [] (exL l ([]:List Rat).length)=[] by rw[show exL l ([]:List Rat).length=[] from List.filter_eq_nil_iff.2 fun r _=>by unfold inR;simp];rfl,zfX]at this;exact this
  ·exact fun l hn hr=>by have:=(hsm l hn hr).1;omega
  ·exact fun G hG u l hl hn=>zjX hl hn (SlC.mono hs hG) oM oM hlb
  ·exact fun l hn hr=>(hsm l hn hr).2
  ·exact fun G hG=>zlQ (SlC.mono hs hG) ⟨by show (1:Int)≤(C:Int);omega,by show (C:Int)≤12;omega⟩ h0 h1 hlb
  ·exact zoW (sv:=.bool true)
end
end Go.Proofs.YtnejmfoednmkhaaGreatDoor
