/- Texts of ours in one: Ev10, Ev11, Tab, Run, Word, NatP, Bits, CmpP, Nat1, Shelf, Builder, Nat2, Nat3, ShiftP, Guess, Div64P, Knuth, Div64, Nat8, Nat9, Arith, Nat5, Nat10, Nat4, Nat6, DivP, Nat7, NatA, NatB, NatC. -/
import Derived.Test.YtkeklikocibiaaaGreatDoorF0
import Derived.Test.YtkeklikocibiaaaGreatDoorProg
import Derived.WalkKit
import Derived.Laws.BitsAllLaws
import Derived.WalkLawsBesides
import Derived.Deep.LoopGhost
import Derived.Deep.QuietTactic
import Derived.BigQuiet
import Derived.Shelf.Strings.Builder1
import Derived.Shelf.Strings.Builder2
import Derived.Shelf.Small.Bits
import Derived.Shelf.Small.Wraps
import Derived.Shelf.Strings.BuilderF
import Derived.Shelf.Strings.BuilderK
import Derived.Shelf.Strings.Builder2Cap
import Derived.Shelf.Strconv.Itoa0
import Derived.Shelf.Sort.Plain
import Derived.Shelf.Bits.Mul64
import Derived.Shelf.Strings.BuilderCap
import Derived.Ground.Names2Prog
import Derived.Shelf.Slices.Clone
import Derived.Shelf.Slices.CompactI
import Derived.Shelf.Slices.SearchI
import Derived.Shelf.Slices.Cells
import Derived.Shelf.Slices.In.SortNone
import Derived.Ground.SlgnProg
import Derived.Shelf.SlicesE.Clone
import Derived.Lib.Builder
import Derived.Laws.Externs
import Derived.Laws.IdiomCopy
import Derived.Deep.RegionHeld3
import Derived.Deep.DeepCutAuto
import Derived.Deep.CutBlock
import Derived.Shelf.Spec.BitsCarry
import Derived.Laws.CopyOwn
import Derived.StillTailTactics
set_option linter.unusedVariables false
set_option linter.unusedSimpArgs false
set_option maxHeartbeats 64000000

namespace Go.Proofs.YtkeklikocibiaaaGreatDoor
section
open Go.RowKit
section
variable {P:Program} {n:Nat} {ops:Array Oper} {o:Oper} {rest:List Oper} {env:Env} {bx:Bxs} {sb:Bxs} {ow:Ows} {H:Hs} {Q:EQ} {τ:Tab} {d:Nat} {s:SV}
theorem EVL.ext {f:FuncId} {args:Array Operand} {bW:Array TypeId} {v:Value} (ho:o.op=.call ⟨.value (.func f),args,bW⟩) (hw:aP ops env o=some true) (hd:o.dst=some d) (hn:Nat.blt d n=true) {vs:List Value} (ha:dX env args.toList some=some vs)
  (hx:∀W,(callFunc f vs.toArray).run P W=.ok (.value v) W) (h:EVL P n ops rest ((d,.v v)::env) bx H Q):EVL P n ops (o::rest) env bx H Q:=fun W0 β a W r=>by
 obtain⟨aX,hk,hm⟩:=oz env _ _ _ ha;cases hk;have aG:=hm β H.ro a.eval (fun y s _ hy=>r.op hy);have nM:args.map a.eval=vs.toArray:=by rw[<-aG,<-Array.toList_map]
 unfold wpList;rw[if_pos (r.want hw)];refine .inl ?_
 have aY:(execOp a.eval o).run P W=.ok (.value v) W:=by
  unfold execOp;simp only[ho,resolve,nM,Act.eval,Deferred.ofValue,Sem.run_bind,Sem.run_pure,Result.andThen_ok,invoke];simp[hx W]
 unfold Oper.wp;rw[aY,Oper.upon_value,hd];exact h W0 β _ W (r.put hn Z Z)
theorem EVL.gen {v:Value} (hw:aP ops env o=some true) (hd:o.dst=some d) (hn:Nat.blt d n=true) (hx:∀(ev:Operand->Value) (W:World),(∀y x,y∈o.op.operands->env.op y=some (.v x)->ev y=x)->(execOp ev o).run P W=.ok (.value v) W)
  (h:EVL P n ops rest ((d,.v v)::env) bx H Q):EVL P n ops (o::rest) env bx H Q:=fun W0 β a W r=>by
 unfold wpList;rw[if_pos (r.want hw)];refine .inl ?_;unfold Oper.wp;rw[hx a.eval W (fun y x _ hy=>r.op hy),Oper.upon_value,hd];exact h W0 β _ W (r.put hn Z Z)
theorem Y1 {T T':TypeId} {x y:Operand} {a b:Bool} (ho:o.op=.binOp .eql T x y T') (hx:env.op x=some (.v (.bool a))) (hy:env.op y=some (.v (.bool b))) (hT:P.underlying T=some .bool) (ev:Operand->Value) (W:World) (he:∀y x,y∈o.op.operands->env.op y=some (.v x)->ev y=x):(execOp ev o).run P W=.ok (.value (.bool (a == b))) W:=by
 have h1:=he x _ (by simp[ho,Op.operands]) hx;have h2:=he y _ (by simp[ho,Op.operands]) hy;unfold execOp;simp[ho,h1,h2,eqGuard,run_eql_bool W T a b hT]
theorem Ru {T T':TypeId} {x y:Operand} {a b:Bool} (ho:o.op=.binOp .neq T x y T') (hx:env.op x=some (.v (.bool a))) (hy:env.op y=some (.v (.bool b))) (hT:P.underlying T=some .bool) (ev:Operand->Value) (W:World) (he:∀y x,y∈o.op.operands->env.op y=some (.v x)->ev y=x):(execOp ev o).run P W=.ok (.value (.bool (!(a == b)))) W:=by
 have h1:=he x _ (by simp[ho,Op.operands]) hx;have h2:=he y _ (by simp[ho,Op.operands]) hy;unfold execOp;simp[ho,h1,h2,eqGuard,run_neq_bool W T a b hT]
theorem EVL.eqb {T T':TypeId} {x y:Operand} {a b:Bool} (ho:o.op=.binOp .eql T x y T') (hw:aP ops env o=some true) (hd:o.dst=some d) (hn:Nat.blt d n=true) (hx:env.op x=some (.v (.bool a))) (hy:env.op y=some (.v (.bool b))) (hT:P.underlying T=some .bool)
  (h:EVL P n ops rest ((d,.v (.bool (a == b)))::env) bx H Q):EVL P n ops (o::rest) env bx H Q:=EVL.gen hw hd hn (Y1 ho hx hy hT) h
theorem EVL.neb {T T':TypeId} {x y:Operand} {a b:Bool} (ho:o.op=.binOp .neq T x y T') (hw:aP ops env o=some true) (hd:o.dst=some d) (hn:Nat.blt d n=true) (hx:env.op x=some (.v (.bool a))) (hy:env.op y=some (.v (.bool b))) (hT:P.underlying T=some .bool)
  (h:EVL P n ops rest ((d,.v (.bool (!(a == b))))::env) bx H Q):EVL P n ops (o::rest) env bx H Q:=EVL.gen hw hd hn (Ru ho hx hy hT) h
theorem az.neb {R:Hp} {F:Hp->Prop} {T T':TypeId} {x y:Operand} {a b:Bool} (ho:o.op=.binOp .neq T x y T') (hw:aP ops env o=some true) (hx:env.op x=some (.v (.bool a))) (hy:env.op y=some (.v (.bool b))) (hT:P.underlying T=some .bool) :
  az P ops o env bx ow R F (fun β u G=>(SV.v (.bool (!(a == b)))).rep β G u):=az.gen hw (Ru ho hx hy hT)
theorem Rel.addOw {W0:World} {β:Nat->Nat} {a:Act} {W W':World} (r:Rel n W0 H.base β env bx H a W) {ow:Ows} (ia:Ds W.heap.size W' ow) (hb:Below W.heap.size W W'):Rel n W0 H.base β env bx ⟨H.ro,ow++H.ow,H.base⟩ a W':=by
 have r':=r.grow (Hp.Le.refl _) (r.fits.below hb) hb (Nw.refl _ _ _);have cd:W0.heap.size<=W.heap.size:=r.bel.size;have af:∀(j b:Nat) (T:TypeId) (cs:List Value),H.ow[j]?=some (b,T,cs)->b<W.heap.size:=fun j b T cs hj=>(r.own j b T cs hj).1.lt;refine⟨r'.size,r'.defers,r'.slot,r'.box,r'.low,r'.inj,r'.pin,r'.fits,r'.le,r'.new,r'.bel,r'.glob,fun j b T cs hj=>?_,fun j j' b T T' cs aq hj ak=>?_⟩
 ·by_cases h:j<ow.length
  ·rw[qM h]at hj;obtain⟨h1,h2⟩:=ia.2 b T cs (qF hj);refine⟨h2,.inl (qI cd h1),?_,fun i hi e=>by have:=r.lt hi;omega⟩
   cases hc:H.ro b with
   | none=>rfl
   | some c=>have:=r.fits.lt (b:=b) (by rw[hc];simp);omega
  ·rw[qL (by omega)]at hj;exact r'.own _ b T cs hj
 ·have hl:=ia.1;by_cases h:j<ow.length
  ·rw[qM h]at hj;by_cases h':j'<ow.length
   ·omega
   ·rw[qL (by omega)]at ak;have:=af _ b T' aq ak;have:=(ia.2 b T cs (qF hj)).1;omega
  ·rw[qL (by omega)]at hj;by_cases h':j'<ow.length
   ·rw[qM h']at ak;have:=af _ b T cs hj;have:=(ia.2 b T' aq (qF ak)).1;omega
   ·rw[qL (by omega)]at ak;have:=r.one _ _ b T T' cs aq hj ak;omega
theorem EVL.callO {f:FuncId} {args:Array Operand} {bW:Array TypeId} (ho:o.op=.call ⟨.value (.func f),args,bW⟩) (hw:aP ops env o=some true) (hd:o.dst=some d) (hn:Nat.blt d n=true)
  {vs:List Value} (ha:dX env args.toList some=some vs) {Φ:Value->Ows->Prop} (hpc:PO P f vs.toArray H.ro Φ)
  (h:∀v ow,Φ v ow->EVL P n ops rest ((d,.v v)::env) bx ⟨H.ro,ow++H.ow,H.base⟩ Q):EVL P n ops (o::rest) env bx H Q:=fun W0 β a W r=>by
 obtain⟨aX,hk,hm⟩:=oz env _ _ _ ha;cases hk;have aG:=hm β H.ro a.eval (fun y s _ hy=>r.op hy);unfold wpList;rw[if_pos (r.want hw)];refine .inl ?_;unfold Oper.wp;rw[yH hpc.can ho aG,Oper.upon_enter];refine(hpc.run W r.fits r.globW).mono ?_;rintro e W' ⟨v,ow,rfl,hΦ,ia,hb⟩;rw[hd];exact h v ow hΦ W0 β _ W' ((r.addOw ia hb).put hn Z Z)
structure PM (P:Program) (f:FuncId) (args:Array Value) (H:Hp) (b:Nat) (cs:List Value) (Φ:Value->List Value->Prop):Prop where
 can:fQ P f
 run:∀W T,Fits H W->Fits gH W->Box W b cs.toArray T->Calls P f args W fun e W'=>∃v aq,e=.returned v/\Φ v aq/\Box W' b aq.toArray T/\bK (fun k=>k=b) W W'
theorem EVL.callM {f:FuncId} {args:Array Operand} {bW:Array TypeId} (ho:o.op=.call ⟨.value (.func f),args,bW⟩) (hw:aP ops env o=some true) (hd:o.dst=some d) (hn:Nat.blt d n=true)
    {vs:List Value} (ha:dX env args.toList some=some vs) (pre post:Ows) {b:Nat} {T:TypeId} {cs:List Value} (e:H.ow=pre++((b,T,cs)::post)) {Φ:Value->List Value->Prop} (hpc:PM P f vs.toArray H.ro b cs Φ)
    (h:∀v aq,Φ v aq->EVL P n ops rest ((d,.v v)::env) bx ⟨H.ro,pre++((b,T,aq)::post),H.base⟩ Q):EVL P n ops (o::rest) env bx H Q:=fun W0 β a W r=>by
  obtain⟨aX,hk,hm⟩:=oz env _ _ _ ha;cases hk;have aG:=hm β H.ro a.eval (fun y s _ hy=>r.op hy);have ah:H.ow[pre.length]?=some (b,T,cs):=by rw[e];simp
  obtain⟨hB,cU,iw,dt⟩:=r.own _ b T cs ah;have cd:W0.heap.size<=W.heap.size:=r.bel.size;unfold wpList;rw[if_pos (r.want hw)];refine .inl ?_;unfold Oper.wp;rw[yH hpc.can ho aG,Oper.upon_enter];refine(hpc.run W T r.fits r.globW hB).mono ?_;rintro e' W' ⟨v,aq,rfl,hΦ,Qq,k⟩;rw[hd];refine h v aq hΦ W0 β _ W' (Rel.put ?_ hn Z Z)
  have key:∀(j b':Nat) (T':TypeId) (c:List Value),(pre++((b,T,aq)::post))[j]?=some (b',T',c)->(j=pre.length/\b'=b/\T'=T/\c=aq)\/(j≠pre.length/\H.ow[j]?=some (b',T',c)):=by
    intro j b' T' c hj;by_cases ej:j=pre.length
    · subst ej
      simp at hj;obtain⟨rfl,rfl,rfl⟩:=hj;exact .inl ⟨rfl,rfl,rfl,rfl⟩
    · refine .inr ⟨ej,?_⟩
      rw[e];by_cases h:j<pre.length
      · rw[qM h]at hj ⊢;exact hj
      · rw[qL (by omega)]at hj ⊢
        rw[show j-pre.length=(j-pre.length-1)+1 by omega,pM]at hj ⊢;exact hj
  refine⟨r.size,r.defers,r.slot,fun i T' c hg=>?_,r.low,r.inj,r.pin,fun c x hc=>?_,r.le,r.new.kept r.fits k (fun c hc e=>hc (by rw[e];exact iw)),?_,r.glob,fun j b' T' c hj=>?_,fun j j' b' T1 T2 c1 c2 hj ak=>?_⟩
  · have hb:=r.box i T' c hg
    exact(k.block (β i) hb.lt (dt i (by rw[hg];rfl))).trans hb
  · have hne:c≠b:=fun e'=>by subst e';rw[iw]at hc;cases hc
    rw[k.block c (r.fits.lt (by rw[hc];simp)) hne];exact r.fits c x hc
  · exact r.bel.then k (fun j hj e => by subst e; rcases cU with h | h; · omega
                                         · exact h)
  · rcases key j b' T' c hj with ⟨rfl,rfl,rfl,rfl⟩ | ⟨hne,ak⟩
    · exact⟨Qq,cU,iw,dt⟩
    · obtain⟨h1,h2,h3,h4⟩:=r.own j b' T' c ak
      have hb:b'≠b:=fun e'=>by subst e';exact hne (r.one j pre.length b' T' T c cs ak ah)
      exact⟨(k.block b' h1.lt hb).trans h1,h2,h3,h4⟩
  · rcases key j b' T1 c1 hj with ⟨rfl,rfl,rfl,rfl⟩ | ⟨hne,hq⟩
    · rcases key j' b' T2 c2 ak with ⟨rfl,_,_,_⟩ | ⟨AX,lp⟩
      · rfl
      · exact r.one pre.length j' b' T1 T2 cs c2 ah lp
    · rcases key j' b' T2 c2 ak with ⟨rfl,rfl,rfl,rfl⟩ | ⟨AX,lp⟩
      · exact r.one j pre.length b' T1 T2 c1 cs hq ah
      · exact r.one j j' b' T1 T2 c1 c2 hq lp
theorem Mu {Q Q':Exit->Act->World->Prop} (hq:∀e a W,Q e a W->Q' e a W):∀(l:List Oper) (a:Act) (W:World),wpList P ops Q l a W->wpList P ops Q' l a W
 | [],a,W,h=>hq _ _ _ h
 | o::l,a,W,h=>by
  unfold wpList at *
  split
  ·rename_i hw;rw[if_pos hw]at h;rcases h with h | ⟨h1,h2⟩
   ·left;have h2:=Oper.wp_mono (fun a w h=>Mu hq l a w h) h;unfold Oper.wp at *
    generalize (execOp a.eval o).run P W=r at *
    cases r with
    | ok m w' =>
     cases m <;> simp only[Oper.upon]at h2 ⊢ <;> try exact h2
     case enter f args =>
      refine h2.mono fun e Em he=>?_
      cases e with
      | returned v=>exact he
      | panicked c=>exact hq _ _ _ he
      | outgrown=>obtain⟨a0,w0,h⟩:=he;exact⟨a0,w0,hq _ _ _ h⟩
    | halt y w' =>
     cases y <;> simp only[Oper.upon]at h2 ⊢
     case panic v=>exact hq _ _ _ h2
   ·obtain⟨a0,w0,h⟩:=h2;exact .inr ⟨h1,a0,w0,hq _ _ _ h⟩
  ·rename_i hw;rw[if_neg hw]at h;exact Mu hq l _ W h
theorem EV.meet {c:Code} {K:Env->Bxs->Hs->Prop} (S:Env->Bxs->Hs->Prop) (hK:∀aA aw H',H'.base=H.base->S aA aw H'->K aA aw H') (h:EV P n c env bx H (eO S Q)):EV P n c env bx H (eO K Q):=fun W0 β a W r=>by
 refine wp_mono (h W0 β a W r) ?_;rintro e a' W' ⟨β',aA,aw,H',aI,hq,r'⟩
 cases e with
 | normal=>exact⟨β',aA,aw,H',aI,hK aA aw H' aI hq,r'⟩
 | _=>exact⟨β',aA,aw,H',aI,hq,r'⟩
theorem EVL.meet {K:Env->Bxs->Hs->Prop} (S:Env->Bxs->Hs->Prop) (hK:∀aA aw H',H'.base=H.base->S aA aw H'->K aA aw H') (h:EVL P n ops rest env bx H (eO S Q)):EVL P n ops rest env bx H (eO K Q):=fun W0 β a W r=>by
 have mono:∀(l:List Oper) (a:Act) (W:World),wpList P ops (kO n W0 H.base (eO S Q)) l a W->wpList P ops (kO n W0 H.base (eO K Q)) l a W:=fun l a W h=>Mu (fun e a' W' ⟨β',aA,aw,H',aI,hq,r'⟩=>by
  cases e with
  | normal=>exact⟨β',aA,aw,H',aI,hK aA aw H' aI hq,r'⟩
  | _=>exact⟨β',aA,aw,H',aI,hq,r'⟩) l a W h
 exact mono rest a W (h W0 β a W r)
theorem EV.less {c:Code} (aA:Env) (aw:Bxs) (he:fq env aA) (hb:fx bx aw) (hp:zH aA aw=true) (h:EV P n c aA aw H Q):EV P n c env bx H Q :=
 fun W0 β a W r=>h W0 β a W (r.weaken he.sub hb.sub hp)
theorem az.idxP1 {R:Hp} {F:Hp->Prop} (hτ:bp P τ) {T:TypeId} {x y:Operand} (ho:o.op=.indexAddr T x y) (hw:aP ops env o=some true) {te te':TE} {e:TypeId} (ht:τ.get T=some te) (hk:te.kind=.slice e) (aM:τ.get e=some te') (h1:te'.size=1)
  {b m cap:Nat} (hx:env.op x=some (.v (.slice (some ⟨b,0,none⟩) m cap))) {k:IntKind} {z:Int} (hy:env.op y=some (.v (.int k z))) (j:Nat) (hz:z=j) (hj:j<m) :
  az P ops o env bx ow R F (fun β u G=>(SV.v (.pointer (some ⟨b,j,none⟩))).rep β G u):=by
 have:=az.idxP (P:=P) (ops:=ops) (bx:=bx) (ow:=ow) (R:=R) (F:=F) hτ ho hw ht hk aM hx hy j hz hj
 rwa [h1,Nat.mul_one,qu]at this
theorem az.idx1 {R:Hp} {F:Hp->Prop} (hτ:bp P τ) {T:TypeId} {x y:Operand} (ho:o.op=.indexAddr T x y) (hw:aP ops env o=some true) {te te':TE} {e:TypeId} (ht:τ.get T=some te) (hk:te.kind=.slice e) (aM:τ.get e=some te') (h1:te'.size=1)
  {v:Value} (hx:env.op x=some (.v v)) {k:IntKind} {z:Int} (hy:env.op y=some (.v (.int k z))) {m:Nat} {xs:List Value} (hs:SlC R v m 1 xs) (j:Nat) (hz:z=j) (hj:j<m) {c:Value} (hc:xs[j]?=some c) :
  az P ops o env bx ow R F (fun β u G=>(SV.ro [c]).rep β G u):=by
 have:=az.idx (P:=P) (ops:=ops) (bx:=bx) (ow:=ow) (R:=R) (F:=F) hτ ho hw ht hk aM hx hy (m:=m) (xs:=xs) (by rw[h1];exact hs) j hz hj
 have e:(xs.drop (j*te'.size)).take te'.size=[c]:=by
  rw[h1,Nat.mul_one];have hl:=(qE.1 hc);obtain⟨af,he⟩:=hl;rw[qp af,List.take_succ_cons,List.take_zero,he]
 rwa [e]at this
theorem EVL.load1 (hτ:bp P τ) {T:TypeId} {x:Operand} (ho:o.op=.load T x) (hw:aP ops env o=some true) (hd:o.dst=some d) (hn:Nat.blt d n=true) {te:TE} (ht:τ.get T=some te) (h1:te.size=1) (zh:te.agg=false)
  {b q:Nat} (hx:env.op x=some (.v (.pointer (some ⟨b,q,none⟩)))) (jj:Nat) {T':TypeId} {cs:List Value} (hj:H.ow[jj]?=some (b,T',cs)) {v:Value} (hv:cs[q]?=some v)
  (h:EVL P n ops rest ((d,.v v)::env) bx H Q):EVL P n ops (o::rest) env bx H Q:=by
 obtain⟨af,he⟩:=qE.1 hv;exact EVL.loadOwn hτ ho hw hd hn ht hx jj hj (l:=[v]) (by rw[h1,qp af,List.take_succ_cons,List.take_zero,he]) (by rw[h1];rfl) (by rw[zh];rfl) h
theorem aF.val {et:TypeId} {size:Nat} {v:Value} {m:Nat} {xs:List Value} {ow:Ows} (h:aF et size v m xs ow):∃a cap,v=.slice a m cap:=by
 rcases h.2 with ⟨rfl,rfl,_⟩ | ⟨g,cap,sp,rfl,_⟩
 ·exact⟨_,_,rfl⟩
 ·exact⟨_,_,rfl⟩
theorem aF.block {et:TypeId} {size:Nat} {v:Value} {m:Nat} {xs:List Value} {ow:Ows} (h:aF et size v m xs ow) (hm:0<m):∃g cap sp,v=.slice (some ⟨g,0,none⟩) m cap/\ow=[(g,et,xs++sp)]/\(xs++sp).length=cap*size/\m<=cap/\cap<=maxLen:=by
 rcases h.2 with ⟨_,rfl,_⟩ | h
 ·omega
 ·exact h
theorem EVL.publishL (pre ow post:Ows) (e:H.ow=pre++(ow++post)) {et:TypeId} {size:Nat} {v:Value} {m:Nat} {xs:List Value} (ah:aF et size v m xs ow) (h:∀G,H.ro.Le G->SlC G v m size xs->EVL P n ops rest env bx ⟨G,pre++post,H.base⟩ Q) (iO:∀k,k∈H.base.lent->∀p,p∈ow->k≠p.1:=by exact fun _ h=>Hy h):EVL P n ops rest env bx H Q:=by
 rcases ah.2 with ⟨rfl,rfl,rfl⟩ | ⟨g,cap,sp,rfl,rfl,h1,h2,h3⟩
 ·refine EVL.subOw pre [] post (by simpa using e) (h H.ro (Hp.Le.refl _) ⟨ah.1,.inl ⟨rfl,none,0,rfl⟩⟩)
 ·refine EVL.publish pre post (by simpa using e) (fun G hle hG=>h G hle ⟨ah.1,.inr ⟨g,0,cap,_,rfl,h2,hG,fun j x hj=>?_⟩⟩) (fun k hk=>iO k hk _ (pK.2 rfl));simp only[qu,List.getElem?_toArray];have hl:j<xs.length:=(qE.1 hj).1;rw[qM hl];exact hj
theorem EV.publishL {c:Code} (pre ow post:Ows) (e:H.ow=pre++(ow++post)) {et:TypeId} {size:Nat} {v:Value} {m:Nat} {xs:List Value} (ah:aF et size v m xs ow) (h:∀G,H.ro.Le G->SlC G v m size xs->EV P n c env bx ⟨G,pre++post,H.base⟩ Q) (iO:∀k,k∈H.base.lent->∀p,p∈ow->k≠p.1:=by exact fun _ h=>Hy h):EV P n c env bx H Q:=by
 rcases ah.2 with ⟨rfl,rfl,rfl⟩ | ⟨g,cap,sp,rfl,rfl,h1,h2,h3⟩
 ·refine EV.subOw pre [] post (by simpa using e) (h H.ro (Hp.Le.refl _) ⟨ah.1,.inl ⟨rfl,none,0,rfl⟩⟩)
 ·refine EV.publish pre post (by simpa using e) (fun G hle hG=>h G hle ⟨ah.1,.inr ⟨g,0,cap,_,rfl,h2,hG,fun j x hj=>?_⟩⟩) (fun k hk=>iO k hk _ (pK.2 rfl));simp only[qu,List.getElem?_toArray];have hl:j<xs.length:=(qE.1 hj).1;rw[qM hl];exact hj
theorem az.loadOwn {R:Hp} {F:Hp->Prop} (hτ:bp P τ) {T:TypeId} {x:Operand} (ho:o.op=.load T x) (hw:aP ops env o=some true) {te:TE} (ht:τ.get T=some te)
  {b q:Nat} (hx:env.op x=some (.v (.pointer (some ⟨b,q,none⟩)))) (jj:Nat) {T':TypeId} {cs:List Value} (hj:ow[jj]?=some (b,T',cs)) {l:List Value} (hl:(cs.drop q).take te.size=l) (hlen:l.length=te.size) {v:Value} (hv:nX te.agg l=some v) :
  az P ops o env bx ow R F (fun β u G=>(SV.v v).rep β G u):=fun β a W G _ hf _ hb ah hs _=>by
 have hB:=ah jj b T' cs hj;have ex:a.eval x=.pointer (some ⟨b,q,none⟩):=hs.op (by simp[ho,Op.operands]) hx;have aY:=Ac (hτ.get ht) (by have:=hB.range q te.size;rw[hl]at this;exact this) hlen hv;rw[if_pos (hs.want hw)]
 have hx':(execOp a.eval o).run P W=.ok (.value v) W:=by
  unfold execOp;simp only[ho,ex,Sem.run_bind,aY,Result.andThen_ok,Sem.run_pure]
 unfold Oper.wp;rw[hx',Oper.upon_value];exact⟨v,G,rfl,rfl,Hp.Le.refl G,hf,Below.refl _ _,Nw.refl _ _ _⟩
theorem az.load1 {R:Hp} {F:Hp->Prop} (hτ:bp P τ) {T:TypeId} {x:Operand} (ho:o.op=.load T x) (hw:aP ops env o=some true) {te:TE} (ht:τ.get T=some te) (h1:te.size=1) (zh:te.agg=false)
  {b q:Nat} (hx:env.op x=some (.v (.pointer (some ⟨b,q,none⟩)))) (jj:Nat) {T':TypeId} {cs:List Value} (hj:ow[jj]?=some (b,T',cs)) {v:Value} (hv:cs[q]?=some v) :
  az P ops o env bx ow R F (fun β u G=>(SV.v v).rep β G u):=by
 obtain⟨af,he⟩:=qE.1 hv;exact az.loadOwn hτ ho hw ht hx jj hj (l:=[v]) (by rw[h1,qp af,List.take_succ_cons,List.take_zero,he]) (by rw[h1];rfl) (by rw[zh];rfl)
theorem DJ.ofCall {tail l:List Oper} {x:Nat->Value} {y:Nat->Ows} {au:Ows} {kl ks:List DK} {i:Nat} {aw:Bxs} {Γ:fO} {Φ:Value->Hp->Prop} (hv:az P ops o env bx H.ow H.ro (dD ops i Γ) (fun _ v G=>Φ v G)) (hd:o.dst=some d) (hn:Nat.blt d n=true) (hm:∀v G G',Φ v G->G.Le G'->Φ v G')
  (h:DJ P n ops tail sb bx H Q x y kl (i+1) l ks ((d,.v (x i))::env) aw ((i,Φ (x i))::Γ) au):DJ P n ops tail sb bx H Q x y kl i (o::l) (.call Φ::ks) env aw Γ au:=⟨d,hd,hn,hm,hv,h⟩
end
def Ows.bs (L:Ows):List Nat:=L.map (·.1)
def yB (L:Ows):Prop:=∀(j j' b:Nat) (T T':TypeId) (cs aq:List Value),L[j]?=some (b,T,cs)->L[j']?=some (b,T',aq)->j=j'
theorem Ows.mem_bs {L:Ows} {b:Nat} (h:b∈L.bs):∃(j:Nat) (T:TypeId) (cs:List Value),L[j]?=some (b,T,cs):=by
 obtain⟨⟨b',T,cs⟩,h1,rfl⟩:=List.mem_map.1 h;obtain⟨j,hj⟩:=List.mem_iff_getElem?.1 h1;exact⟨j,T,cs,hj⟩
theorem Ows.bs_mem {L:Ows} {j b:Nat} {T:TypeId} {cs:List Value} (h:L[j]?=some (b,T,cs)):b∈L.bs:=List.mem_map.2 ⟨_,qF h,rfl⟩
theorem Ji {L:Ows}:yB L↔L.bs.Nodup:=by
 constructor
 ·intro h;rw[List.nodup_iff_pairwise_ne,List.pairwise_iff_getElem];intro i j hi hj sU e;have ef:i<L.length:=by simpa[Ows.bs] using hi
  have ak:j<L.length:=by simpa[Ows.bs] using hj
  have e1:L[i]?=some (L[i].1,L[i].2.1,L[i].2.2):=by simp[ef]
  have e2:L[j]?=some (L[i].1,L[j].2.1,L[j].2.2):=by
   have:L[i].1=L[j].1:=by simpa[Ows.bs] using e
   simp[ak,this]
  have:=h i j _ _ _ _ _ e1 e2;omega
 ·intro h j j' b T T' cs aq h1 h2;rw[List.nodup_iff_pairwise_ne,List.pairwise_iff_getElem]at h;obtain⟨hj,e1⟩:=qE.1 h1;obtain⟨ak,e2⟩:=qE.1 h2;rcases Nat.lt_trichotomy j j' with af | rfl | hgt
  ·exact absurd (by simp[Ows.bs,e1,e2]) (h j j' (by simpa[Ows.bs] using hj) (by simpa[Ows.bs] using ak) af)
  ·rfl
  ·exact absurd (by simp[Ows.bs,e1,e2]) (h j' j (by simpa[Ows.bs] using ak) (by simpa[Ows.bs] using hj) hgt)
structure PW (P:Program) (f:FuncId) (args:Array Value) (H:Hp) (L:Ows) (Φ:Value->Ows->Hp->Prop):Prop where
 can:fQ P f
 run:∀W,Fits H W->Fits gH W->(∀(j b:Nat) (T:TypeId) (cs:List Value),L[j]?=some (b,T,cs)->Box W b cs.toArray T/\H b=none/\gH b=none)->yB L ->
  Calls P f args W fun e W'=>∃v ow H',e=.returned v/\Φ v ow H'/\H.Le H'/\Fits H' W'/\Nw H W.heap.size H' W'/\bK (fun b=>b∈L.bs) W W' /\
   (∀(j b:Nat) (T:TypeId) (cs:List Value),ow[j]?=some (b,T,cs)->Box W' b cs.toArray T/\(W.heap.size<=b\/b∈L.bs)/\H' b=none)/\yB ow
def mB (τ:Tab) (rs:List ResultVar) (Φ:Value->Ows->Hp->Prop):EQ
 | .normal,env,bx,H=>∃v,lT τ env bx rs pq=some v/\Φ v H.ow H.ro
 | .ret,env,bx,H=>∃v,lT τ env bx rs pq=some v/\Φ v H.ow H.ro
 | _,_,_,_=>False
theorem mB.ret {τ:Tab} {rs:List ResultVar} {Φ:Value->Ows->Hp->Prop} {env:Env} {bx:Bxs} {H:Hs} {v:Value} (hv:lT τ env bx rs pq=some v) (h:Φ v H.ow H.ro):mB τ rs Φ .ret env bx H:=⟨v,hv,h⟩
theorem mB.normal {τ:Tab} {rs:List ResultVar} {Φ:Value->Ows->Hp->Prop} {env:Env} {bx:Bxs} {H:Hs} {v:Value} (hv:lT τ env bx rs pq=some v) (h:Φ v H.ow H.ro):mB τ rs Φ .normal env bx H:=⟨v,hv,h⟩
theorem PW.body {P:Program} {τ:Tab} (hτ:bp P τ) {f:FuncId} {fn:Func} {c:Code} (hf:P.funcs[f]?=some fn) (hb:fn.body=some c) (sI:(fn.name == "runtime.NumGoroutine")=false) {n:Nat} (hn:fn.ntmps=n) {rs:List ResultVar} (eZ:fn.results.toList=rs)
  {args:List Value} (hl:Nat.ble args.length n=true) {H:Hp} {L:Ows} {Φ:Value->Ows->Hp->Prop} (h:EV P n c (BZ 0 args) [] ⟨H,L,⟨H,L.bs⟩⟩ (mB τ rs Φ)):PW P f args.toArray H L Φ:=by
 refine⟨Mt hf hb sI,fun W hW hgl hL hLd=>?_⟩;have hle:=Nat.le_of_ble_eq_true hl;refine calls_of_wp hf hb (wp_mono (h W (fun _=>0) _ W ?_) ?_)
 ·refine⟨by simp[hn];omega,rfl,fun t s hs=>?_,fun i T cs hg=>(by cases hg),fun i hi=>(by cases hi),fun i j hi=>(by cases hi),fun t i off ht=>?_,hW,Hp.Le.refl H,Nw.refl _ _ _,bK.refl _ _,⟨hgl,fun b hb=>?_⟩,fun j b T cs hj=>⟨(hL j b T cs hj).1,.inr (Ows.bs_mem hj),(hL j b T cs hj).2.1,fun i hi=>by cases hi⟩,hLd⟩
  ·obtain⟨x,rfl,_,hx⟩:=Ek args 0 t s hs;rw[Nat.sub_zero]at hx;have af:t<args.length:=(qE.1 hx).1;exact⟨x,by rw[Array.getElem?_append_left (by simpa using af)];simpa using hx,rfl⟩
  ·obtain⟨x,hx,_⟩:=Ek args 0 t _ ht;cases hx
  ·obtain⟨j,T,cs,hj⟩:=Ows.mem_bs hb;exact⟨(hL j b T cs hj).2.2,(hL j b T cs hj).1.lt⟩
 ·rintro e a W' ⟨β,env,bx,H',aI,hq,r⟩
  have fin:∀v,lT τ env bx rs pq=some v->Φ v H'.ow H'.ro->a.defers=[]/\∃v,(results fn a.tmps).run P W'=.ok v W'/\∃u ow H'',Ending.returned v=.returned u/\Φ u ow H''/\H.Le H''/\Fits H'' W'/\Nw H W.heap.size H'' W'/\bK (fun b=>b∈L.bs) W W' /\
    (∀(j b:Nat) (T:TypeId) (cs:List Value),ow[j]?=some (b,T,cs)->Box W' b cs.toArray T/\(W.heap.size<=b\/b∈L.bs)/\H'' b=none)/\yB ow :=
   fun v hv hΦ=>⟨r.defers,v,TX hτ r (by rw[eZ];exact hv),v,H'.ow,H'.ro,rfl,hΦ,r.le,r.fits,r.new,r.bel,fun j b T cs hj=>⟨(r.own j b T cs hj).1,(r.own j b T cs hj).2.1,(r.own j b T cs hj).2.2.1⟩,r.one⟩
  cases e with
  | normal=>obtain⟨v,hv,hΦ⟩:=hq;exact fin v hv hΦ
  | ret=>obtain⟨v,hv,hΦ⟩:=hq;exact fin v hv hΦ
  | _=>exact hq.elim
theorem PW.mono {P:Program} {f:FuncId} {args:Array Value} {H:Hp} {L:Ows} {Φ Ψ:Value->Ows->Hp->Prop} (h:PW P f args H L Φ) (k:∀v ow H',H.Le H'->Φ v ow H'->Ψ v ow H'):PW P f args H L Ψ :=
 ⟨h.can,fun W h1 h2 h3 h4=>(h.run W h1 h2 h3 h4).mono fun e W' ⟨v,ow,H',he,hΦ,hle,r⟩=>⟨v,ow,H',he,k v ow H' hle hΦ,hle,r⟩⟩
theorem PO.of_pw {P:Program} {f:FuncId} {args:Array Value} {H:Hp} {Φ:Value->Ows->Prop} (h:PW P f args H [] fun v ow _=>ow.length<=1/\Φ v ow):PO P f args H Φ :=
 ⟨h.can,fun W h1 h2=>(h.run W h1 h2 (fun j b T cs hj=>by simp at hj) (fun j j' b T T' cs aq hj=>by simp at hj)).mono fun e W' ⟨v,ow,H',he,⟨hl,hΦ⟩,_,_,_,hk,ho,_⟩=>⟨v,ow,he,hΦ,⟨hl,fun b T cs hm=>by
  obtain⟨j,hj⟩:=List.mem_iff_getElem?.1 hm;obtain⟨h1,h2,_⟩:=ho j b T cs hj;exact⟨h2.resolve_right (fun h=>by cases h),h1⟩⟩,hk.below _ (qH _) (fun _ _ hb=>by cases hb)⟩⟩
section
variable {P:Program} {n:Nat} {ops:Array Oper} {o:Oper} {rest:List Oper} {env:Env} {bx:Bxs} {sb:Bxs} {ow:Ows} {H:Hs} {Q:EQ} {τ:Tab} {d:Nat} {s:SV}
theorem Rel.permOw {W0:World} {H0:Bs} {β:Nat->Nat} {a:Act} {W:World} (r:Rel n W0 H0 β env bx H a W) {au:Ows} (hp:H.ow.Perm au):Rel n W0 H0 β env bx ⟨H.ro,au,H.base⟩ a W:=by
 refine⟨r.size,r.defers,r.slot,r.box,r.low,r.inj,r.pin,r.fits,r.le,r.new,r.bel,r.glob,fun j b T cs hj=>?_,?_⟩
 ·obtain⟨q,hq⟩:=List.mem_iff_getElem?.1 (hp.mem_iff.2 (qF hj));exact r.own q b T cs hq
 ·have h1:H.ow.bs.Perm (Ows.bs au):=by unfold Ows.bs;exact hp.map _
  exact Ji.2 (h1.nodup (Ji.1 r.one))
theorem EVL.permOw (au:Ows) (hp:H.ow.Perm au) (h:EVL P n ops rest env bx ⟨H.ro,au,H.base⟩ Q):EVL P n ops rest env bx H Q:=fun W0 β a W r=>h W0 β a W (r.permOw hp)
theorem EV.permOw {c:Code} (au:Ows) (hp:H.ow.Perm au) (h:EV P n c env bx ⟨H.ro,au,H.base⟩ Q):EV P n c env bx H Q:=fun W0 β a W r=>h W0 β a W (r.permOw hp)
theorem EVL.apart (h:yB H.ow->EVL P n ops rest env bx H Q):EVL P n ops rest env bx H Q:=fun W0 β a W r=>h r.one W0 β a W r
theorem EV.apart {c:Code} (h:yB H.ow->EV P n c env bx H Q):EV P n c env bx H Q:=fun W0 β a W r=>h r.one W0 β a W r
theorem Rel.callW {W0:World} {β:Nat->Nat} {a:Act} {W W':World} (r:Rel n W0 H.base β env bx H a W) {L R:Ows} (e:H.ow=L++R) {ow:Ows} {H':Hp} (hle:H.ro.Le H') (hf:Fits H' W') (hn:Nw H.ro W.heap.size H' W') (hk:bK (fun b=>b∈L.bs) W W')
  (ho:∀(j b:Nat) (T:TypeId) (cs:List Value),ow[j]?=some (b,T,cs)->Box W' b cs.toArray T/\(W.heap.size<=b\/b∈L.bs)/\H' b=none) (hd:yB ow):Rel n W0 H.base β env bx ⟨H',ow++R,H.base⟩ a W':=by
 have cd:W0.heap.size<=W.heap.size:=r.bel.size
 have ED:∀b,b∈L.bs->∃(j:Nat) (T:TypeId) (cs:List Value),H.ow[j]?=some (b,T,cs)/\j<L.length:=fun b hb=>by
  obtain⟨j,T,cs,hj⟩:=Ows.mem_bs hb;have hl:=(qE.1 hj).1;exact⟨j,T,cs,by rw[e,qM hl];exact hj,hl⟩
 have inR:∀(j b:Nat) (T:TypeId) (cs:List Value),R[j]?=some (b,T,cs)->H.ow[L.length+j]?=some (b,T,cs)/\b ∉ L.bs:=fun j b T cs hj=>by
  have h1:H.ow[L.length+j]?=some (b,T,cs):=by
   rw[e,qL (by omega),Nat.add_sub_cancel_left];exact hj
  refine⟨h1,fun hb=>?_⟩;obtain⟨q,T',aq,hq,af⟩:=ED b hb;have:=r.one q (L.length+j) b T' T aq cs hq h1;omega
 have EB:∀i,(bx.get i).isSome=true->β i ∉ L.bs:=fun i hi hb=>by
  obtain⟨q,T',aq,hq,_⟩:=ED _ hb;exact(r.own q _ T' aq hq).2.2.2 i hi Z
 have roL:∀b,H.ro b≠none->b ∉ L.bs:=fun b hb hm=>by
  obtain⟨q,T',aq,hq,_⟩:=ED _ hm;exact hb (r.own q _ T' aq hq).2.2.1
 refine⟨r.size,r.defers,fun t s hs=>?_,fun i T cs hg=>?_,fun i hi=>⟨(r.low i hi).1,?_⟩,r.inj,r.pin,hf,r.le.trans hle,fun b c hb=>?_,r.bel.then hk (fun i hi hb=>?_),r.glob,fun j b T cs hj=>?_,fun j j' b T T' cs aq hj ak=>?_⟩
 ·obtain⟨x,hx,hr⟩:=r.slot t s hs;exact⟨x,hx,hr.mono hle⟩
 ·have hb:=r.box i T cs hg;exact(hk.block (β i) hb.lt (EB i (by rw[hg];rfl))).trans hb
 ·exact hn.gone (r.lt hi) (r.low i hi).2
 ·rcases hn b c hb with h1 | ⟨h1,h2⟩
  ·exact r.new.kept r.fits hk roL b c h1
  ·exact .inr ⟨by omega,h2⟩
 ·obtain⟨q,T',aq,hq,_⟩:=ED i hb;rcases (r.own q _ T' aq hq).2.1 with h | h
  ·omega
  ·exact h
 ·by_cases h:j<ow.length
  ·rw[qM h]at hj;obtain⟨h1,h2,h3⟩:=ho j b T cs hj;refine⟨h1,?_,h3,fun i hi e'=>?_⟩
   ·rcases h2 with h2 | h2
    ·exact .inl (by omega)
    ·obtain⟨q,T',aq,hq,_⟩:=ED b h2;exact(r.own q _ T' aq hq).2.1
   ·rcases h2 with h2 | h2
    ·have:=r.lt hi;omega
    ·exact EB i hi (e' ▸ h2)
  ·rw[qL (by omega)]at hj;obtain⟨h1,h2⟩:=inR _ b T cs hj;obtain⟨g1,g2,g3,g4⟩:=r.own _ b T cs h1;exact⟨(hk.block b g1.lt h2).trans g1,g2,hn.gone g1.lt g3,g4⟩
 ·have old:∀(q b:Nat) (T:TypeId) (cs:List Value),R[q]?=some (b,T,cs)->∀(q':Nat) (T':TypeId) (aq:List Value),ow[q']?≠some (b,T',aq):=fun q b T cs hq q' T' aq lp=>by
   obtain⟨h1,h2⟩:=inR _ b T cs hq;rcases (ho q' b T' aq lp).2.1 with h3 | h3
   ·have:=(r.own _ b T cs h1).1.lt;omega
   ·exact h2 h3
  by_cases h:j<ow.length
  ·rw[qM h]at hj;by_cases h':j'<ow.length
   ·rw[qM h']at ak;exact hd j j' b T T' cs aq hj ak
   ·rw[qL (by omega)]at ak;exact absurd hj (old _ b T' aq ak j T cs)
  ·rw[qL (by omega)]at hj;by_cases h':j'<ow.length
   ·rw[qM h']at ak;exact absurd ak (old _ b T cs hj j' T' aq)
   ·rw[qL (by omega)]at ak;have:=r.one _ _ b T T' cs aq (inR _ b T cs hj).1 (inR _ b T' aq ak).1;omega
theorem EVL.callW {f:FuncId} {args:Array Operand} {bW:Array TypeId} (ho:o.op=.call ⟨.value (.func f),args,bW⟩) (hw:aP ops env o=some true) (hd:o.dst=some d) (hn:Nat.blt d n=true)
  {vs:List Value} (ha:dX env args.toList some=some vs) (L R:Ows) (e:H.ow=L++R) {Φ:Value->Ows->Hp->Prop} (hpc:PW P f vs.toArray H.ro L Φ)
  (h:∀v ow H',Φ v ow H'->H.ro.Le H'->EVL P n ops rest ((d,.v v)::env) bx ⟨H',ow++R,H.base⟩ Q):EVL P n ops (o::rest) env bx H Q:=fun W0 β a W r=>by
 obtain⟨aX,hk,hm⟩:=oz env _ _ _ ha;cases hk;have aG:=hm β H.ro a.eval (fun y s _ hy=>r.op hy);unfold wpList;rw[if_pos (r.want hw)];refine .inl ?_;unfold Oper.wp;rw[yH hpc.can ho aG,Oper.upon_enter]
 have up:∀(j b:Nat) (T:TypeId) (cs:List Value),L[j]?=some (b,T,cs)->H.ow[j]?=some (b,T,cs):=fun j b T cs hj=>by
  rw[e,qM (qE.1 hj).1];exact hj
 refine(hpc.run W r.fits r.globW (fun j b T cs hj=>?_) (fun j j' b T T' cs aq hj ak=>r.one j j' b T T' cs aq (up _ _ _ _ hj) (up _ _ _ _ ak))).mono ?_
 ·obtain⟨h1,h2,h3,_⟩:=r.own j b T cs (up _ _ _ _ hj);refine⟨h1,h3,?_⟩;rcases h2 with h2 | h2
  ·cases hg:gH b with
   | none=>rfl
   | some c=>have:=r.glob.1.lt (b:=b) (by rw[hg];simp);omega
  ·exact(r.glob.2 b h2).1
 ·rintro e' W' ⟨v,ow,H',rfl,hΦ,hle,hf,ia,O7,ah,lG⟩;rw[hd];exact h v ow H' hΦ hle W0 β _ W' ((r.callW e hle hf ia O7 ah lG).put hn Z Z)
end
section
variable {P:Program} {n:Nat} {ops:Array Oper} {o:Oper} {rest:List Oper} {env:Env} {bx:Bxs} {sb:Bxs} {ow:Ows} {H:Hs} {Q:EQ} {τ:Tab} {d:Nat} {s:SV}
theorem EVL.idxO (hτ:bp P τ) {T:TypeId} {x y:Operand} (ho:o.op=.indexAddr T x y) (hw:aP ops env o=some true) (hd:o.dst=some d) (hn:Nat.blt d n=true) {te te':TE} {e:TypeId} (ht:τ.get T=some te) (hk:te.kind=.slice e) (aM:τ.get e=some te') (h1:te'.size=1)
  {b off m cap:Nat} (hx:env.op x=some (.v (.slice (some ⟨b,off,none⟩) m cap))) {k:IntKind} {z:Int} (hy:env.op y=some (.v (.int k z))) (j:Nat) (hz:z=j) (hj:j<m)
  (h:EVL P n ops rest ((d,.v (.pointer (some ⟨b,off+j,none⟩)))::env) bx H Q):EVL P n ops (o::rest) env bx H Q :=
 EVL.gen hw hd hn (fun ev W he=>by
  have ex:=he x _ (by simp[ho,Op.operands]) hx;have ey:=he y _ (by simp[ho,Op.operands]) hy;have aW:=(hτ.get ht).kind;rw[hk]at aW;have aN:P.underlying T=some (.slice e):=aW;unfold execOp;simp[ho,ex,ey,Instr.indexAt,asIntOf,run_underlying aN,hz,(hτ.get aM).size,Addr.add_mid,hj,h1]) h
theorem az.idxO {R:Hp} {F:Hp->Prop} (hτ:bp P τ) {T:TypeId} {x y:Operand} (ho:o.op=.indexAddr T x y) (hw:aP ops env o=some true) {te te':TE} {e:TypeId} (ht:τ.get T=some te) (hk:te.kind=.slice e) (aM:τ.get e=some te') (h1:te'.size=1)
  {b off m cap:Nat} (hx:env.op x=some (.v (.slice (some ⟨b,off,none⟩) m cap))) {k:IntKind} {z:Int} (hy:env.op y=some (.v (.int k z))) (j:Nat) (hz:z=j) (hj:j<m) :
  az P ops o env bx ow R F (fun β u G=>(SV.v (.pointer (some ⟨b,off+j,none⟩))).rep β G u):=by
 have:=az.idxP (P:=P) (ops:=ops) (bx:=bx) (ow:=ow) (R:=R) (F:=F) hτ ho hw ht hk aM hx hy j hz hj
 rwa [h1,Nat.mul_one]at this
theorem EVL.idx0 (hτ:bp P τ) {T:TypeId} {x y:Operand} (ho:o.op=.indexAddr T x y) (hw:aP ops env o=some true) (hd:o.dst=some d) (hn:Nat.blt d n=true) {te te':TE} {e:TypeId} (ht:τ.get T=some te) (hk:te.kind=.slice e) (aM:τ.get e=some te') (h1:te'.size=1)
  {b m cap:Nat} (hx:env.op x=some (.v (.slice (some ⟨b,0,none⟩) m cap))) {k:IntKind} {z:Int} (hy:env.op y=some (.v (.int k z))) (j:Nat) (hz:z=j) (hj:j<m)
  (h:EVL P n ops rest ((d,.v (.pointer (some ⟨b,j,none⟩)))::env) bx H Q):EVL P n ops (o::rest) env bx H Q :=
 EVL.idxO hτ ho hw hd hn ht hk aM h1 hx hy j hz hj (by rw[qu];exact h)
theorem EVL.idxR (hτ:bp P τ) {T:TypeId} {x y:Operand} (ho:o.op=.indexAddr T x y) (hw:aP ops env o=some true) (hd:o.dst=some d) (hn:Nat.blt d n=true) {te te':TE} {e:TypeId} (ht:τ.get T=some te) (hk:te.kind=.slice e) (aM:τ.get e=some te') (h1:te'.size=1)
  {v:Value} (hx:env.op x=some (.v v)) {k:IntKind} {z:Int} (hy:env.op y=some (.v (.int k z))) {m:Nat} {xs:List Value} (hs:SlC H.ro v m 1 xs) (j:Nat) (hz:z=j) (hj:j<m) {c:Value} (hc:xs[j]?=some c)
  (h:EVL P n ops rest ((d,.ro [c])::env) bx H Q):EVL P n ops (o::rest) env bx H Q:=fun W0 β a W r=>by
 have ex:a.eval x=v:=r.op hx;have ey:a.eval y=.int k z:=r.op hy;have aW:=(hτ.get ht).kind;rw[hk]at aW;have aN:P.underlying T=some (.slice e):=aW;rcases hs.2 with ⟨h0,_⟩ | ⟨b,off,cap,c',rfl,dV,hH,bC⟩
 ·omega
 ·have aY:(execOp a.eval o).run P W=.ok (.value (.pointer (some ⟨b,off+j,none⟩))) W:=by
   unfold execOp;simp[ho,ex,ey,Instr.indexAt,asIntOf,run_underlying aN,hz,(hτ.get aM).size,Addr.add_mid,hj,h1]
  unfold wpList;rw[if_pos (r.want hw)];refine .inl ?_;unfold Oper.wp;rw[aY,Oper.upon_value,hd];refine h W0 β _ W (r.put hn ⟨b,off+j,c',rfl,hH,fun q u hq=>?_⟩ rfl)
  cases q with
  | zero=>simp at hq;subst hq;exact bC j _ hc
  | succ q=>simp at hq
theorem EVL.slc (hτ:bp P τ) {T:TypeId} {x:Operand} {lo hi:Option Operand} (ho:o.op=.slice T x lo hi none) (hw:aP ops env o=some true) (hd:o.dst=some d) (hn:Nat.blt d n=true) {te te':TE} {e:TypeId} (ht:τ.get T=some te) (hk:te.kind=.slice e) (aM:τ.get e=some te')
  {a:Option Addr} {m cap:Nat} (hx:env.op x=some (.v (.slice a m cap))) (l h:Nat) (cF:lo=none/\l=0\/∃y k,lo=some y/\env.op y=some (.v (.int k (l:Int)))) (cJ:hi=none/\h=m\/∃y k,hi=some y/\env.op y=some (.v (.int k (h:Int)))) (y4:l<=h) (FR:h<=cap) (FD:m<=cap)
  (ez:EVL P n ops rest ((d,.v (.slice (if cap=l then a else a.map (·.add (l*te'.size))) (h-l) (cap-l)))::env) bx H Q):EVL P n ops (o::rest) env bx H Q :=
 EVL.gen hw hd hn (fun ev W he=>by
  have aW:=(hτ.get ht).kind;rw[hk]at aW;have aN:P.underlying T=some (.slice e):=aW;have h1:ev x=.slice a m cap:=he x _ (by simp[ho,Op.operands]) hx;unfold execOp;simp only[ho,Instr.sliceAt,h1,Option.map_none];rcases cF with ⟨rfl,rfl⟩ | ⟨y,k,rfl,hy⟩
  ·rcases cJ with ⟨rfl,rfl⟩ | ⟨y',k',rfl,jW⟩
   ·simp[run_underlying aN,Instr.slice,Instr.sliceBounds,(hτ.get aM).size]
   ·have h2:ev y'=.int k' h:=he y' _ (by simp[ho,Op.operands]) jW;simp[run_underlying aN,Instr.slice,Instr.sliceBounds,Instr.sliceBound,h2,asIntOf,(hτ.get aM).size,FR]
  ·have h3:ev y=.int k l:=he y _ (by simp[ho,Op.operands]) hy;rcases cJ with ⟨rfl,rfl⟩ | ⟨y',k',rfl,jW⟩
   ·simp[run_underlying aN,Instr.slice,Instr.sliceBounds,Instr.sliceBound,h3,asIntOf,(hτ.get aM).size,y4]
   ·have h2:ev y'=.int k' h:=he y' _ (by simp[ho,Op.operands]) jW;simp[run_underlying aN,Instr.slice,Instr.sliceBounds,Instr.sliceBound,h2,h3,asIntOf,(hτ.get aM).size,FR,y4]) ez
theorem EVL.quoI {T T':TypeId} {x y:Operand} {k:IntKind} {a b:Int} (ho:o.op=.binOp .quo T x y T') (hw:aP ops env o=some true) (hd:o.dst=some d) (hn:Nat.blt d n=true) (hx:env.op x=some (.v (.int k a))) (hy:env.op y=some (.v (.int k b))) (hb:b≠0)
  (h:EVL P n ops rest ((d,.v (.int k (k.wrap (a.tdiv b))))::env) bx H Q):EVL P n ops (o::rest) env bx H Q :=
 EVL.gen hw hd hn (fun ev W he=>by
  have h1:=he x _ (by simp[ho,Op.operands]) hx;have h2:=he y _ (by simp[ho,Op.operands]) hy;unfold execOp;simp[ho,h1,h2,eqGuard,binOp,Op.intDiv,hb]) h
theorem EVL.remI {T T':TypeId} {x y:Operand} {k:IntKind} {a b:Int} (ho:o.op=.binOp .rem T x y T') (hw:aP ops env o=some true) (hd:o.dst=some d) (hn:Nat.blt d n=true) (hx:env.op x=some (.v (.int k a))) (hy:env.op y=some (.v (.int k b))) (hb:b≠0)
  (h:EVL P n ops rest ((d,.v (.int k (a.tmod b)))::env) bx H Q):EVL P n ops (o::rest) env bx H Q :=
 EVL.gen hw hd hn (fun ev W he=>by
  have h1:=he x _ (by simp[ho,Op.operands]) hx;have h2:=he y _ (by simp[ho,Op.operands]) hy;unfold execOp;simp[ho,h1,h2,eqGuard,binOp,Op.intDiv,hb]) h
theorem EVL.shlI {T T':TypeId} {x y:Operand} {k k':IntKind} {a:Int} {b:Nat} (ho:o.op=.binOp .shl T x y T') (hw:aP ops env o=some true) (hd:o.dst=some d) (hn:Nat.blt d n=true) (hx:env.op x=some (.v (.int k a))) {z:Int} (hy:env.op y=some (.v (.int k' z))) (hz:z=b) (hb:b<=k.bits)
  (h:EVL P n ops rest ((d,.v (.int k (k.wrap (a*2 ^ b))))::env) bx H Q):EVL P n ops (o::rest) env bx H Q :=
 EVL.gen hw hd hn (fun ev W he=>by
  have h1:=he x _ (by simp[ho,Op.operands]) hx;have h2:=he y _ (by simp[ho,Op.operands]) hy;subst hz;unfold execOp;simp[ho,h1,h2,eqGuard,binOp,Op.shift,qn hb,show ¬((b:Int)<0) by omega]) h
theorem EVL.shrI {T T':TypeId} {x y:Operand} {k k':IntKind} {a:Int} {b:Nat} (ho:o.op=.binOp .shr T x y T') (hw:aP ops env o=some true) (hd:o.dst=some d) (hn:Nat.blt d n=true) (hx:env.op x=some (.v (.int k a))) {z:Int} (hy:env.op y=some (.v (.int k' z))) (hz:z=b) (hb:b<=k.bits)
  (h:EVL P n ops rest ((d,.v (.int k (a.fdiv (2 ^ b))))::env) bx H Q):EVL P n ops (o::rest) env bx H Q :=
 EVL.gen hw hd hn (fun ev W he=>by
  have h1:=he x _ (by simp[ho,Op.operands]) hx;have h2:=he y _ (by simp[ho,Op.operands]) hy;subst hz;unfold execOp;simp[ho,h1,h2,eqGuard,binOp,Op.shift,qn hb,show ¬((b:Int)<0) by omega]) h
theorem EVL.as {i:Nat} {s s':SV} (e:s=s') (h:EVL P n ops rest ((i,s')::env) bx H Q):EVL P n ops rest ((i,s)::env) bx H Q:=e ▸ h
theorem EVL.asI {i:Nat} {k:IntKind} {z:Int} (z':Int) (e:z=z') (h:EVL P n ops rest ((i,.v (.int k z'))::env) bx H Q):EVL P n ops rest ((i,.v (.int k z))::env) bx H Q:=e ▸ h
theorem EVL.setO (hτ:bp P τ) {T:TypeId} {x y:Operand} (ho:o.op=.store T x y) (hg:o.guard=none) (hd:o.dst=none) {te:TE} (ht:τ.get T=some te) (GU:te.size=1) {b q:Nat} (hx:env.op x=some (.v (.pointer (some ⟨b,q,none⟩)))) {v:Value} (hy:env.op y=some (.v v))
  (pre:Ows) {post:Ows} {T':TypeId} {cs:List Value} (e:H.ow=pre++((b,T',cs)::post)) (aG:nW v=some [v]) (h1:oneB [v]=true) (hle:q<cs.length)
  (h:EVL P n ops rest env bx ⟨H.ro,pre++((b,T',cs.set q v)::post),H.base⟩ Q):EVL P n ops (o::rest) env bx H Q :=
 EVL.storeOwn hτ ho hg hd ht hx hy pre post e aG (by rw[GU];rfl) h1 (by omega) (by rw[GU,List.set_eq_take_append_cons_drop,if_pos hle];simp) h
theorem _root_.Go.Proofs.YtkeklikocibiaaaGreatDoor.PC.pure {f:FuncId} {args:Array Value} {H:Hp} {v:Value} (h:PC P f args H fun u _=>u=v):PC P f args H fun u H'=>u=v/\H'=H :=
 ⟨h.can,fun W hf hg=>(h.run W hf hg).mono fun e W' ⟨v',H',he,hv,hle,jI,hb,hn⟩=>⟨v',H,he,⟨hv,rfl⟩,Hp.Le.refl _,jI.mono hle,hb,Nw.refl _ _ _⟩⟩
theorem EVL.callE {f:FuncId} {args:Array Operand} {bW:Array TypeId} (ho:o.op=.call ⟨.value (.func f),args,bW⟩) (hw:aP ops env o=some true) (hd:o.dst=some d) (hn:Nat.blt d n=true)
  {vs:List Value} (ha:dX env args.toList some=some vs) {v:Value} (hpc:PC P f vs.toArray H.ro fun u _=>u=v)
  (h:EVL P n ops rest ((d,.v v)::env) bx H Q):EVL P n ops (o::rest) env bx H Q :=
 EVL.call ho hw hd hn ha hpc.pure (by rintro _ _ ⟨rfl,rfl⟩ _;exact h)
end
theorem tS {P:Program} {T:TypeId} {te:TE} (a:∀w:World,(isAgg T).run P w=.ok te.agg w:=by intro _;kernel_rfl) (b:∀w:World,(sizeOf T).run P w=.ok te.size w:=by intro _;kernel_rfl) (c:∀w:World,(zeroValue T).run P w=.ok (.agg te.zero.toArray) w:=by intro _;kernel_rfl) (d:FOk P T 0 te.fields:=by repeat (first|exact trivial|refine⟨⟨fun _ _=>by kernel_rfl,fun _ _=>by kernel_rfl⟩,?_⟩)) (e:∀parts,P.built T parts=Instr.fill (fun i=>((te.fields.map fun x=>(x.1,x.2.2)).toArray)[i]?) te.zero.toArray parts:=by intro _;kernel_rfl) (k:te.kind.ok P T:=by exact trivial) (f:(P.info? T).map (fun i=>(i.zero,i.size,i.bytes))=some (some (.agg te.zero.toArray),te.size,te.bytes):=by kernel_rfl):u9 P T te:=⟨a,b,⟨_,c,rfl⟩,d,.inr e,k,⟨_,f,rfl⟩⟩
theorem tE {P:Program} {T:TypeId} {te:TE} (v:Value) (hf:te.fields=[]:=by exact Z) (a:∀w:World,(isAgg T).run P w=.ok te.agg w:=by intro _;kernel_rfl) (b:∀w:World,(sizeOf T).run P w=.ok te.size w:=by intro _;kernel_rfl) (c:∀w:World,(zeroValue T).run P w=.ok v w:=by intro _;kernel_rfl) (d:v.cells=te.zero.toArray:=by exact Z) (k:te.kind.ok P T:=by first|exact trivial|(show _=_;kernel_rfl)) (e:(P.info? T).map (fun i=>(i.zero,i.size,i.bytes))=some (some v,te.size,te.bytes):=by kernel_rfl):u9 P T te:=⟨a,b,⟨v,c,d⟩,by rw[hf];trivial,.inl hf,k,⟨v,e,d⟩⟩
def aa2:TE:=⟨false,1,[],[.int .i64 0],.int .i64,8⟩
def aa3:TE:=⟨false,1,[],[.int .i64 0],.int .i64,8⟩
def aa4:TE:=⟨false,1,[],[.bool false],.bool,1⟩
def aa5:TE:=⟨false,1,[],[.int .u8 0],.int .u8,1⟩
def aa9:TE:=⟨false,1,[],[.string ⟨#[]⟩],.str,16⟩
def aa17:TE:=⟨false,1,[],[.pointer none],.other,8⟩
def aa19:TE:=⟨true,1,[(0,false,1)],[.pointer none],.other,8⟩
def aa20:TE:=⟨false,1,[],[.nilIface],.other,16⟩
def aa22:TE:=⟨false,1,[],[.slice none 0 0],.slice 3,24⟩
def aa24:TE:=⟨true,10,[(0,false,1),(1,false,1),(2,false,1),(3,false,1),(4,false,1),(5,false,1),(6,false,1),(7,false,1),(8,false,1),(9,false,1)],[.int .i64 0,.int .i64 0,.int .i64 0,.int .i64 0,.int .i64 0,.int .i64 0,.int .i64 0,.bool false,.slice none 0 0,.slice none 0 0],.other,112⟩
def aa25:TE:=⟨false,1,[],[.slice none 0 0],.slice 27,24⟩
def aa26:TE:=⟨false,1,[],[.slice none 0 0],.slice 27,24⟩
def aa27:TE:=⟨false,1,[],[.slice none 0 0],.slice 33,24⟩
def aa29:TE:=⟨false,1,[],[.slice none 0 0],.slice 135,24⟩
def aa31:TE:=⟨true,2,[(0,false,1),(1,false,1)],[.bool false,.slice none 0 0],.other,32⟩
def aa33:TE:=⟨true,3,[(0,true,2),(2,false,1)],[.bool false,.slice none 0 0,.slice none 0 0],.other,56⟩
def aa35:TE:=⟨true,5,[(0,false,1),(1,false,1),(2,true,3)],[.int .i64 0,.int .i64 0,.bool false,.slice none 0 0,.slice none 0 0],.other,72⟩
def aa37:TE:=⟨true,13,[(0,false,1),(1,false,1),(2,true,3),(5,true,3),(8,true,5)],[.int .i64 0,.int .i64 0,.bool false,.slice none 0 0,.slice none 0 0,.bool false,.slice none 0 0,.slice none 0 0,.int .i64 0,.int .i64 0,.bool false,.slice none 0 0,.slice none 0 0],.other,200⟩
def aa40:TE:=⟨false,1,[],[.nilFunc],.other,8⟩
def aa45:TE:=⟨false,1,[],[.int .u64 0],.int .u64,8⟩
def aa47:TE:=⟨true,2,[(0,false,1),(1,false,1)],[.int .u64 0,.string ⟨#[]⟩],.other,24⟩
def aa49:TE:=⟨true,3,[(0,false,1),(1,true,2)],[.bool false,.int .u64 0,.string ⟨#[]⟩],.other,32⟩
def aa51:TE:=⟨true,5,[(0,true,3),(3,true,2)],[.bool false,.int .u64 0,.string ⟨#[]⟩,.int .u64 0,.string ⟨#[]⟩],.other,56⟩
def aa52:TE:=⟨false,1,[],[.slice none 0 0],.slice 100,24⟩
def aa54:TE:=⟨true,18,[(0,false,1),(1,false,1),(2,true,5),(7,true,5),(12,true,5),(17,false,1)],[.int .i64 0,.int .i64 0,.bool false,.int .u64 0,.string ⟨#[]⟩,.int .u64 0,.string ⟨#[]⟩,.bool false,.int .u64 0,.string ⟨#[]⟩,.int .u64 0,.string ⟨#[]⟩,.bool false,.int .u64 0,.string ⟨#[]⟩,.int .u64 0,.string ⟨#[]⟩,.slice none 0 0],.other,208⟩
def aa55:TE:=⟨false,1,[],[.int .i64 0],.int .i64,8⟩
def aa58:TE:=⟨false,1,[],[.slice none 0 0],.slice 60,24⟩
def aa60:TE:=⟨false,1,[],[.slice none 0 0],.slice 51,24⟩
def aa63:TE:=⟨true,7,[(0,false,1),(1,false,1),(2,true,5)],[.int .i64 0,.int .i64 0,.bool false,.int .u64 0,.string ⟨#[]⟩,.int .u64 0,.string ⟨#[]⟩],.other,72⟩
def aa65:TE:=⟨true,19,[(0,false,1),(1,false,1),(2,true,5),(7,true,5),(12,true,7)],[.int .i64 0,.int .i64 0,.bool false,.int .u64 0,.string ⟨#[]⟩,.int .u64 0,.string ⟨#[]⟩,.bool false,.int .u64 0,.string ⟨#[]⟩,.int .u64 0,.string ⟨#[]⟩,.int .i64 0,.int .i64 0,.bool false,.int .u64 0,.string ⟨#[]⟩,.int .u64 0,.string ⟨#[]⟩],.other,200⟩
def aa67:TE:=⟨false,1,[],[.slice none 0 0],.slice 115,24⟩
def aa69:TE:=⟨true,12,[(0,false,1),(1,false,1),(2,true,3),(5,true,3),(8,true,3),(11,false,1)],[.int .i64 0,.int .i64 0,.bool false,.slice none 0 0,.slice none 0 0,.bool false,.slice none 0 0,.slice none 0 0,.bool false,.slice none 0 0,.slice none 0 0,.slice none 0 0],.other,208⟩
def aa81:TE:=⟨true,6,[],[.int .i64 0,.int .i64 0,.int .i64 0,.int .i64 0,.int .i64 0,.int .i64 0],.other,48⟩
theorem aa81_ok:u9 Tryz.prog 81 aa81:=⟨fun _=>by kernel_rfl,fun _=>by kernel_rfl,⟨.agg aa81.zero.toArray,fun _=>by kernel_rfl,rfl⟩,trivial,.inl rfl,show _ from trivial,⟨.agg aa81.zero.toArray,by kernel_rfl,rfl⟩⟩
def aa97:TE:=⟨true,4,[(0,false,1),(1,false,1),(2,false,1),(3,false,1)],[.int .i64 0,.int .i64 0,.slice none 0 0,.slice none 0 0],.other,64⟩
def aa98:TE:=⟨false,1,[],[.slice none 0 0],.slice 150,24⟩
def aa100:TE:=⟨true,4,[(0,false,1),(1,false,1),(2,false,1),(3,false,1)],[.int .i64 0,.int .i64 0,.int .i64 0,.slice none 0 0],.other,48⟩
def aa113:TE:=⟨false,1,[],[.slice none 0 0],.slice 123,24⟩
def aa115:TE:=⟨true,4,[(0,false,1),(1,false,1),(2,false,1),(3,false,1)],[.int .i64 0,.int .i64 0,.int .i64 0,.slice none 0 0],.other,48⟩
def aa119:TE:=⟨true,4,[(0,false,1),(1,false,1),(2,false,1),(3,false,1)],[.int .i64 0,.int .i64 0,.slice none 0 0,.slice none 0 0],.other,64⟩
def aa123:TE:=⟨true,15,[(0,false,1),(1,false,1),(2,false,1),(3,false,1),(4,false,1),(5,true,3),(8,true,3),(11,true,3),(14,false,1)],[.int .i64 0,.int .i64 0,.int .i64 0,.int .i64 0,.int .i64 0,.bool false,.slice none 0 0,.slice none 0 0,.bool false,.slice none 0 0,.slice none 0 0,.bool false,.slice none 0 0,.slice none 0 0,.slice none 0 0],.other,232⟩
def aa135:TE:=⟨false,1,[],[.int .u32 0],.int .u32,4⟩
def aa136:TE:=⟨false,1,[],[.int .u64 0],.int .u64,8⟩
def aa147:TE:=⟨false,1,[],[.nilFunc],.other,8⟩
def aa150:TE:=⟨true,21,[(0,false,1),(1,false,1),(2,false,1),(3,false,1),(4,false,1),(5,true,5),(10,true,5),(15,true,5),(20,false,1)],[.int .i64 0,.int .i64 0,.int .i64 0,.int .i64 0,.int .i64 0,.bool false,.int .u64 0,.string ⟨#[]⟩,.int .u64 0,.string ⟨#[]⟩,.bool false,.int .u64 0,.string ⟨#[]⟩,.int .u64 0,.string ⟨#[]⟩,.bool false,.int .u64 0,.string ⟨#[]⟩,.int .u64 0,.string ⟨#[]⟩,.slice none 0 0],.other,232⟩
def aa166:TE:=⟨false,1,[],[.pointer none],.other,8⟩
def aa167:TE:=⟨false,1,[],[.pointer none],.other,8⟩
def aa169:TE:=⟨true,13,[(0,true,4),(4,false,1),(5,true,5),(10,false,1),(11,false,1),(12,false,1)],[.int .i64 0,.int .i64 0,.slice none 0 0,.slice none 0 0,.slice none 0 0,.int .i64 0,.int .i64 0,.bool false,.slice none 0 0,.slice none 0 0,.pointer none,.int .i64 0,.slice none 0 0],.other,200⟩
def aa178:TE:=⟨true,5,[(0,true,4),(4,false,1)],[.int .i64 0,.int .i64 0,.int .i64 0,.slice none 0 0,.int .i64 0],.other,56⟩
def aa193:TE:=⟨false,1,[],[.nilFunc],.other,8⟩
def aa197:TE:=⟨true,14,[(0,true,4),(4,false,1),(5,true,7),(12,false,1),(13,false,1)],[.int .i64 0,.int .i64 0,.slice none 0 0,.slice none 0 0,.slice none 0 0,.int .i64 0,.int .i64 0,.bool false,.int .u64 0,.string ⟨#[]⟩,.int .u64 0,.string ⟨#[]⟩,.nilFunc,.slice none 0 0],.other,192⟩
def aa206:TE:=⟨false,1,[],[.slice none 0 0],.slice 45,24⟩
def aa210:TE:=⟨false,1,[],[.slice none 0 0],.slice 5,24⟩
def aa217:TE:=⟨true,7,[(0,false,1),(1,true,3),(4,true,3)],[.int .i64 0,.bool false,.slice none 0 0,.slice none 0 0,.bool false,.slice none 0 0,.slice none 0 0],.other,120⟩
def aa227:TE:=⟨false,1,[],[.pointer none],.other,8⟩
def aa233:TE:=⟨false,1,[],[.pointer none],.other,8⟩
def aa238:TE:=⟨true,11,[(0,false,1),(1,true,5),(6,true,5)],[.int .i64 0,.bool false,.int .u64 0,.string ⟨#[]⟩,.int .u64 0,.string ⟨#[]⟩,.bool false,.int .u64 0,.string ⟨#[]⟩,.int .u64 0,.string ⟨#[]⟩],.other,120⟩
def aa242:TE:=⟨false,1,[],[.pointer none],.other,8⟩
def aa253:TE:=⟨false,1,[],[.pointer none],.other,8⟩
def aa255:TE:=⟨true,2,[(0,false,1),(1,false,1)],[.pointer none,.slice none 0 0],.other,32⟩
def aa258:TE:=⟨false,1,[],[.nilIface],.other,16⟩
def aa270:TE:=⟨false,1,[],[.int .i64 0],.int .i64,8⟩
def aa277:TE:=⟨true,12,[],[.int .i64 0,.int .i64 0,.int .i64 0,.int .i64 0,.int .i64 0,.int .i64 0,.int .i64 0,.int .i64 0,.int .i64 0,.int .i64 0,.int .i64 0,.int .i64 0],.other,96⟩
theorem aa277_ok:u9 Tryz.prog 277 aa277:=⟨fun _=>by kernel_rfl,fun _=>by kernel_rfl,⟨.agg aa277.zero.toArray,fun _=>by kernel_rfl,rfl⟩,trivial,.inl rfl,show _ from trivial,⟨.agg aa277.zero.toArray,by kernel_rfl,rfl⟩⟩
def aa279:TE:=⟨true,19,[(0,false,1),(1,true,12),(13,false,1),(14,true,5)],[.int .i64 0,.int .i64 0,.int .i64 0,.int .i64 0,.int .i64 0,.int .i64 0,.int .i64 0,.int .i64 0,.int .i64 0,.int .i64 0,.int .i64 0,.int .i64 0,.int .i64 0,.int .i64 0,.bool false,.int .u64 0,.string ⟨#[]⟩,.int .u64 0,.string ⟨#[]⟩],.other,168⟩
def aa286:TE:=⟨false,1,[],[.nilFunc],.other,8⟩
def aa287:TE:=⟨false,1,[],[.nilFunc],.other,8⟩
def aa293:TE:=⟨false,1,[],[.pointer none],.other,8⟩
def aa297:TE:=⟨false,1,[],[.int .u64 0],.int .u64,8⟩
def aa300:TE:=⟨false,1,[],[.pointer none],.other,8⟩
def aa303:TE:=⟨false,1,[],[.pointer none],.other,8⟩
def aa305:TE:=⟨false,1,[],[.nilFunc],.other,8⟩
def aa308:TE:=⟨true,38,[(0,true,19),(19,true,19)],[.int .i64 0,.int .i64 0,.int .i64 0,.int .i64 0,.int .i64 0,.int .i64 0,.int .i64 0,.int .i64 0,.int .i64 0,.int .i64 0,.int .i64 0,.int .i64 0,.int .i64 0,.int .i64 0,.bool false,.int .u64 0,.string ⟨#[]⟩,.int .u64 0,.string ⟨#[]⟩,.int .i64 0,.int .i64 0,.int .i64 0,.int .i64 0,.int .i64 0,.int .i64 0,.int .i64 0,.int .i64 0,.int .i64 0,.int .i64 0,.int .i64 0,.int .i64 0,.int .i64 0,.int .i64 0,.bool false,.int .u64 0,.string ⟨#[]⟩,.int .u64 0,.string ⟨#[]⟩],.other,336⟩
def aa315:TE:=⟨true,1,[(0,false,1)],[.int .u64 0],.other,8⟩
def aa316:TE:=⟨false,1,[],[.pointer none],.other,8⟩
def aa322:TE:=⟨false,1,[],[.pointer none],.other,8⟩
def aa342:TE:=⟨false,1,[],[.int .u8 0],.int .u8,1⟩
def am:Tab:=[(2,aa2),(3,aa3),(4,aa4),(5,aa5),(9,aa9),(17,aa17),(19,aa19),(20,aa20),(22,aa22),(24,aa24),(25,aa25),(26,aa26),(27,aa27),(29,aa29),(31,aa31),(33,aa33),(35,aa35),(37,aa37),(40,aa40),(45,aa45),(47,aa47),(49,aa49),(51,aa51),(52,aa52),(54,aa54),(55,aa55),(58,aa58),(60,aa60),(63,aa63),(65,aa65),(67,aa67),(69,aa69),(81,aa81),(97,aa97),(98,aa98),(100,aa100),(113,aa113),(115,aa115),(119,aa119),(123,aa123),(135,aa135),(136,aa136),(147,aa147),(150,aa150),(166,aa166),(167,aa167),(169,aa169),(178,aa178),(193,aa193),(197,aa197),(206,aa206),(210,aa210),(217,aa217),(227,aa227),(233,aa233),(238,aa238),(242,aa242),(253,aa253),(255,aa255),(258,aa258),(270,aa270),(277,aa277),(279,aa279),(286,aa286),(287,aa287),(293,aa293),(297,aa297),(300,aa300),(303,aa303),(305,aa305),(308,aa308),(315,aa315),(316,aa316),(322,aa322),(342,aa342)]
theorem ac:bp Tryz.prog am:=⟨tE (.int .i64 0),⟨tE (.int .i64 0),⟨tE (.bool false),⟨tE (.int .u8 0),⟨tE (.string ⟨#[]⟩),⟨tE (.pointer none),⟨tS,⟨tE (.nilIface),⟨tE (.slice none 0 0),⟨tS,⟨tE (.slice none 0 0),⟨tE (.slice none 0 0),⟨tE (.slice none 0 0),⟨tE (.slice none 0 0),⟨tS,⟨tS,⟨tS,⟨tS,⟨tE (.nilFunc),⟨tE (.int .u64 0),⟨tS,⟨tS,⟨tS,⟨tE (.slice none 0 0),⟨tS,⟨tE (.int .i64 0),⟨tE (.slice none 0 0),⟨tE (.slice none 0 0),⟨tS,⟨tS,⟨tE (.slice none 0 0),⟨tS,⟨aa81_ok,⟨tS,⟨tE (.slice none 0 0),⟨tS,⟨tE (.slice none 0 0),⟨tS,⟨tS,⟨tS,⟨tE (.int .u32 0),⟨tE (.int .u64 0),⟨tE (.nilFunc),⟨tS,⟨tE (.pointer none),⟨tE (.pointer none),⟨tS,⟨tS,⟨tE (.nilFunc),⟨tS,⟨tE (.slice none 0 0),⟨tE (.slice none 0 0),⟨tS,⟨tE (.pointer none),⟨tE (.pointer none),⟨tS,⟨tE (.pointer none),⟨tE (.pointer none),⟨tS,⟨tE (.nilIface),⟨tE (.int .i64 0),⟨aa277_ok,⟨tS,⟨tE (.nilFunc),⟨tE (.nilFunc),⟨tE (.pointer none),⟨tE (.int .u64 0),⟨tE (.pointer none),⟨tE (.pointer none),⟨tE (.nilFunc),⟨tS,⟨tS,⟨tE (.pointer none),⟨tE (.pointer none),⟨tE (.int .u8 0),trivial⟩⟩⟩⟩⟩⟩⟩⟩⟩⟩⟩⟩⟩⟩⟩⟩⟩⟩⟩⟩⟩⟩⟩⟩⟩⟩⟩⟩⟩⟩⟩⟩⟩⟩⟩⟩⟩⟩⟩⟩⟩⟩⟩⟩⟩⟩⟩⟩⟩⟩⟩⟩⟩⟩⟩⟩⟩⟩⟩⟩⟩⟩⟩⟩⟩⟩⟩⟩⟩⟩⟩⟩⟩⟩⟩
theorem tO:bp Tryz.prog am:=ac
end
section
open Go.RowKit _root_.Go.Proofs.Tryz
theorem RUN {G G':Prop} (h:G') (f:G'->G:=by intro h;(first|refine eO.normal ?_|refine EV.seq ?_|refine EV.region ?_|refine EVL.nil ?_|refine EV.block ?_|refine EV.condT Z ?_|refine EV.condF Z ?_|refine EV.skip ?_|refine EV.exit ?_|refine EV.ret ?_|refine eO.exit ?_|refine eO.ret ?_|refine eW.hit ?_|refine eW.miss Z ?_|refine eW.normal ?_|refine eW.ret ?_|refine EV.label ?_|refine lS.ret Z ?_|refine lS.normal Z ?_|refine mB.ret Z ?_|refine mB.normal Z ?_|refine EVL.val tO Z Z Z Z Z ?_|refine EVL.store tO Z Z Z Z Z Z Z Z Z Z Z ?_|refine EVL.alloc tO Z Z Z Z Z Z ?_|refine EVL.box Z Z Z Z Z Z Z ?_|refine EVL.skip Z Z Z ?_);(repeat (first|refine eO.normal ?_|refine EV.seq ?_|refine EV.region ?_|refine EVL.nil ?_|refine EV.block ?_|refine EV.condT Z ?_|refine EV.condF Z ?_|refine EV.skip ?_|refine EV.exit ?_|refine EV.ret ?_|refine eO.exit ?_|refine eO.ret ?_|refine eW.hit ?_|refine eW.miss Z ?_|refine eW.normal ?_|refine eW.ret ?_|refine EV.label ?_|refine lS.ret Z ?_|refine lS.normal Z ?_|refine mB.ret Z ?_|refine mB.normal Z ?_|refine EVL.val tO Z Z Z Z Z ?_|refine EVL.store tO Z Z Z Z Z Z Z Z Z Z Z ?_|refine EVL.alloc tO Z Z Z Z Z Z ?_|refine EVL.box Z Z Z Z Z Z Z ?_|refine EVL.skip Z Z Z ?_));exact h):G:=f h
theorem uR {G G':Prop} (h:G') (f:G'->G:=by intro h;(repeat (first|refine eO.normal ?_|refine EV.seq ?_|refine EV.region ?_|refine EVL.nil ?_|refine EV.block ?_|refine EV.condT Z ?_|refine EV.condF Z ?_|refine EV.skip ?_|refine EV.exit ?_|refine EV.ret ?_|refine eO.exit ?_|refine eO.ret ?_|refine eW.hit ?_|refine eW.miss Z ?_|refine eW.normal ?_|refine eW.ret ?_|refine EV.label ?_|refine lS.ret Z ?_|refine lS.normal Z ?_|refine mB.ret Z ?_|refine mB.normal Z ?_|refine EVL.val tO Z Z Z Z Z ?_|refine EVL.store tO Z Z Z Z Z Z Z Z Z Z Z ?_|refine EVL.alloc tO Z Z Z Z Z Z ?_|refine EVL.box Z Z Z Z Z Z Z ?_|refine EVL.skip Z Z Z ?_));exact h):G:=f h
theorem zA {G G':Prop} (h:G') (f:G'->G:=by intro h;(first|refine eO.normal ?_|refine EV.seq ?_|refine EV.region ?_|refine EVL.nil ?_|refine EV.condT Z ?_|refine EV.condF Z ?_|refine EV.skip ?_|refine EV.exit ?_|refine EV.ret ?_|refine eO.exit ?_|refine eO.ret ?_|refine eW.hit ?_|refine eW.miss Z ?_|refine eW.normal ?_|refine eW.ret ?_|refine EV.label ?_|refine lS.ret Z ?_|refine lS.normal Z ?_|refine mB.ret Z ?_|refine mB.normal Z ?_|refine EVL.val tO Z Z Z Z Z ?_|refine EVL.store tO Z Z Z Z Z Z Z Z Z Z Z ?_|refine EVL.alloc tO Z Z Z Z Z Z ?_|refine EVL.box Z Z Z Z Z Z Z ?_|refine EVL.skip Z Z Z ?_);(repeat (first|refine eO.normal ?_|refine EV.seq ?_|refine EV.region ?_|refine EVL.nil ?_|refine EV.condT Z ?_|refine EV.condF Z ?_|refine EV.skip ?_|refine EV.exit ?_|refine EV.ret ?_|refine eO.exit ?_|refine eO.ret ?_|refine eW.hit ?_|refine eW.miss Z ?_|refine eW.normal ?_|refine eW.ret ?_|refine EV.label ?_|refine lS.ret Z ?_|refine lS.normal Z ?_|refine mB.ret Z ?_|refine mB.normal Z ?_|refine EVL.val tO Z Z Z Z Z ?_|refine EVL.store tO Z Z Z Z Z Z Z Z Z Z Z ?_|refine EVL.alloc tO Z Z Z Z Z Z ?_|refine EVL.box Z Z Z Z Z Z Z ?_|refine EVL.skip Z Z Z ?_));exact h):G:=f h
theorem gO {G G':Prop} (h:G') (f:G'->G:=by intro h;(first|refine EVL.val tO Z Z Z Z Z ?_|refine EVL.store tO Z Z Z Z Z Z Z Z Z Z Z ?_|refine EVL.alloc tO Z Z Z Z Z Z ?_|refine EVL.box Z Z Z Z Z Z Z ?_|refine EVL.skip Z Z Z ?_);(repeat (first|refine EVL.val tO Z Z Z Z Z ?_|refine EVL.store tO Z Z Z Z Z Z Z Z Z Z Z ?_|refine EVL.alloc tO Z Z Z Z Z Z ?_|refine EVL.box Z Z Z Z Z Z Z ?_|refine EVL.skip Z Z Z ?_));exact h):G:=f h
def vG {α:Type} (d:Nat):Nat->List DK->(Nat->TypeId->List Value->Option α)->Option α
 | i,.fresh e T z::l,k=>match Nat.beq e d with
  | true=>k i T z
  | false=>vG d (i+1) l k
 | i,_::l,k=>vG d (i+1) l k
 | _,[],_=>none
theorem UK {α:Type} {d:Nat} {k:Nat->TypeId->List Value->Option α} {r:α}:∀{l:List DK} {i:Nat},vG d i l k=some r->∃j T z,k (i+j) T z=some r/\l[j]?=some (.fresh d T z)
 | [],i,h=>by simp[vG]at h
 | a::l,i,h=>by
  have next:vG d (i+1) l k=some r->∃j T z,k (i+j) T z=some r/\(a::l)[j]?=some (.fresh d T z):=fun h=>by
   obtain⟨j,T,z,h1,h2⟩:=UK h;exact⟨j+1,T,z,by rw[show i+(j+1)=i+1+j by omega];exact h1,by simpa using h2⟩
  cases a with
  | fresh e T z =>
   unfold vG at h;split at h
   ·rename_i hb;have:=qy hb;subst this;exact⟨0,T,z,h,rfl⟩
   ·exact next h
  | _=>exact next (by unfold vG at h;exact h)
theorem Zo:∀{off:Nat} {vs cs:List Value},off+vs.length<=cs.length->wrK off vs cs some=some (cs.take off++vs++cs.drop (off+vs.length))
 | off,vs,cs,h=>by
  have key:∀(off:Nat) (vs cs:List Value) (k:List Value->Option (List Value)),off+vs.length<=cs.length->wrK off vs cs k=k (cs.take off++vs++cs.drop (off+vs.length)):=by
   intro off
   induction off with
   | zero =>
    intro vs
    induction vs with
    | nil=>intro cs k _;simp[wrK]
    | cons v vs ih =>
     intro cs k h
     cases cs with
     | nil=>simp at h
     | cons c cs =>
      unfold wrK;rw[ih cs _ (by simp at h ⊢;omega)];simp
   | succ off ih =>
    intro vs cs k h
    cases cs with
    | nil=>simp at h
    | cons c cs =>
     have e:wrK (off+1) vs (c::cs) k=wrK off vs cs fun r=>k (c::r):=by cases vs <;> simp[wrK]
     rw[e,ih vs cs _ (by simp at h;omega)];simp[Nat.add_right_comm off 1]
  exact key off vs cs some h
section
variable {P:Program} {n:Nat} {ops:Array Oper} {tail:List Oper} {sb bx:Bxs} {ow:Ows} {H:Hs} {Q:EQ} {x:Nat->Value} {y:Nat->Ows} {au:Ows} {kl:List DK} {i:Nat} {o:Oper} {l:List Oper} {ks:List DK} {env:Env} {aw:Bxs} {Γ:fO} {τ:Tab} {d:Nat} {s:SV}
theorem DJ.storeA (hτ:bp P τ) {T:TypeId} {ad yo:Operand} (ho:o.op=.store T ad yo) (hg:o.guard=none) (hd:o.dst=none) (hx:env.op ad=some (.p d 0)) {v:Value} (hy:env.op yo=some (.v v)) {te:TE} (ht:τ.get T=some te)
  {al:Nat} {T':TypeId} {z:List Value} (bH:vG d 0 kl (fun al T z=>some (al,T,z))=some (al,T',z)) (af:Nat.blt al i=true) (Au:Region.waitsFor .any ops i al=true) {vs:List Value} (aG:nW v=some vs) (hl:Nat.beq vs.length te.size=true) (hz:Nat.beq z.length te.size=true) (h1:oneB vs=true)
  (h:DJ P n ops tail sb bx H Q x y kl (i+1) l ks env ((d,T',vs)::aw) Γ au):DJ P n ops tail sb bx H Q x y kl i (o::l) (.store al (.k vs)::ks) env aw Γ au:=by
 obtain⟨j,T2,z2,e,hj⟩:=UK bH;simp only[Option.some.injEq,Prod.mk.injEq,qu]at e;obtain⟨rfl,rfl,rfl⟩:=e;exact DJ.store hτ ho hg hd hx hy ht j hj af Au aG hl hz h1 h
def stD (ops:Array Oper) (n:Nat) (sb bx:Bxs) (kl:List DK) (i:Nat) (env:Env) (aw:Bxs) (o:Oper):Option (DK × Env × Bxs):=match o.dst with
 | some d=>match Nat.blt d n with
  | true=>match aP ops env o with
   | some true=>match o.op with
    | .alloc T=>match o.guard,am.get T,(sb++bx).get d with
     | none,some te,none=>some (.fresh d T te.zero,(d,.p d 0)::env,(d,T,te.zero)::aw)
     | _,_,_=>none
    | op=>match tM am env bx op with
     | some s=>match rF (sb++bx) s with
      | true=>some (.sv s,(d,s)::env,aw)
      | false=>none
     | none=>none
   | some false=>some (.sv (.v undef),(d,.v undef)::env,aw)
   | none=>none
  | false=>none
 | none=>match o.op,o.guard with
  | .store T ad yo,none=>match env.op ad,env.op yo,am.get T with
   | some (.p d off),some (.v v),some te=>match nW v with
    | some vs=>match Nat.beq vs.length te.size,oneB vs with
     | true,true=>match sb.get d with
      | some (T',z)=>wrK off vs z fun cs=>some (.setb d T' (.k cs),env,(d,T',cs)::aw)
      | none=>match off with
       | 0=>match vG d 0 kl (fun al T z=>some (al,T,z)) with
        | some (al,T',z)=>match Nat.blt al i,Nat.beq z.length te.size with
         | true,true=>some (.store al (.k vs),env,(d,T',vs)::aw)
         | _,_=>none
        | none=>none
       | _+1=>none
     | _,_=>none
    | none=>none
   | _,_,_=>none
  | _,_=>none
def XM (ops:Array Oper) (i:Nat):DK->Bool
 | .store al _=>Region.waitsFor .any ops i al
 | _=>true
theorem DD {k:DK} {e':Env} {b':Bxs} (h:DJ prog n ops tail sb bx H Q x y kl (i+1) l ks e' b' Γ au) (hs:stD ops n sb bx kl i env aw o=some (k,e',b'):=by exact Z) (hk:XM ops i k=true:=by kernel_rfl):DJ prog n ops tail sb bx H Q x y kl i (o::l) (k::ks) env aw Γ au:=by
 unfold stD at hs;split at hs
 ·rename_i d hd;split at hs
  ·rename_i hn;split at hs
   ·rename_i hw;split at hs
    ·rename_i T ho;split at hs
     ·rename_i te hg ht kG;cases hs;exact DJ.alloc tO ho hg hd hn ht kG h
     ·cases hs
    ·split at hs
     ·rename_i s hv;split at hs
      ·rename_i hp;cases hs;exact DJ.val tO hw hd hn hv hp h
      ·cases hs
     ·cases hs
   ·rename_i hw;cases hs;exact DJ.skip hw hd hn h
   ·cases hs
  ·cases hs
 ·rename_i hd;split at hs
  ·rename_i T ad yo ho hg;split at hs
   ·rename_i d off v te hx hy ht;split at hs
    ·rename_i vs aG;split at hs
     ·rename_i hl h1;split at hs
      ·rename_i T' z hz;obtain⟨e,hle⟩:=zP off vs z _ _ hs;cases e;refine DJ.setb tO ho hg hd hx hy ht hz aG hl h1 (cs:=z.take off++vs++z.drop (off+vs.length)) ?_ h;exact Zo hle
      ·split at hs
       ·split at hs
        ·rename_i al T' z bH;split at hs
         ·rename_i af CK;cases hs;exact DJ.storeA tO ho hg hd hx hy ht bH af hk aG hl CK h1 h
         ·cases hs
        ·cases hs
       ·cases hs
     ·cases hs
    ·cases hs
   ·cases hs
  ·cases hs
theorem DT {T:TypeId} {ad yo:Operand} {off:Nat} {v:Value} {te:TE} {T':TypeId} {z vs cs:List Value} (h:DJ prog n ops tail sb bx H Q x y kl (i+1) l ks env ((d,T',cs)::aw) Γ au) (ho:o.op=.store T ad yo:=by exact Z) (hg:o.guard=none:=by exact Z) (hd:o.dst=none:=by exact Z) (hx:env.op ad=some (.p d off):=by exact Z) (hy:env.op yo=some (.v v):=by exact Z) (ht:am.get T=some te:=by exact Z) (hz:sb.get d=some (T',z):=by exact Z) (aG:nW v=some vs:=by exact Z) (hl:Nat.beq vs.length te.size=true:=by exact Z) (h1:oneB vs=true:=by exact Z) (hc:wrK off vs z some=some cs:=by exact Z) :
 DJ prog n ops tail sb bx H Q x y kl i (o::l) (.setb d T' (.k cs)::ks) env aw Γ au:=DJ.setb tO ho hg hd hx hy ht hz aG hl h1 hc h
theorem DC {f:FuncId} {args:Array Operand} {bW:Array TypeId} {vs:List Value} {v:Value} (hpc:PV P f vs.toArray v) (ho:o.op=.call ⟨.value (.func f),args,bW⟩:=by exact Z) (hw:aP ops env o=some true:=by exact Z) (hd:o.dst=some d:=by exact Z) (hn:Nat.blt d n=true:=by exact Z)
  (ha:dX env args.toList some=some vs:=by exact Z) (h:DJ P n ops tail sb bx H Q x y kl (i+1) l ks ((d,.v v)::env) aw Γ au):DJ P n ops tail sb bx H Q x y kl i (o::l) (.sv (.v v)::ks) env aw Γ au:=DJ.callV ho hw hd hn ha hpc h
end
section
variable {P:Program} {n:Nat} {ops:Array Oper} {o:Oper} {rest:List Oper} {env:Env} {bx:Bxs} {H:Hs} {Q:EQ} {d:Nat}
theorem CV {f:FuncId} {args:Array Operand} {bW:Array TypeId} {vs:List Value} {v:Value} (hpc:PV P f vs.toArray v) (h:EVL P n ops rest ((d,.v v)::env) bx H Q) (ho:o.op=.call ⟨.value (.func f),args,bW⟩:=by exact Z) (hw:aP ops env o=some true:=by exact Z) (hd:o.dst=some d:=by exact Z) (hn:Nat.blt d n=true:=by exact Z)
  (ha:dX env args.toList some=some vs:=by exact Z):EVL P n ops (o::rest) env bx H Q:=EVL.callV ho hw hd hn ha hpc h
theorem CE {f:FuncId} {args:Array Operand} {bW:Array TypeId} {vs:List Value} {v:Value} (hpc:PC P f vs.toArray H.ro fun u _=>u=v) (h:EVL P n ops rest ((d,.v v)::env) bx H Q) (ho:o.op=.call ⟨.value (.func f),args,bW⟩:=by exact Z) (hw:aP ops env o=some true:=by exact Z) (hd:o.dst=some d:=by exact Z) (hn:Nat.blt d n=true:=by exact Z)
  (ha:dX env args.toList some=some vs:=by exact Z):EVL P n ops (o::rest) env bx H Q:=EVL.callE ho hw hd hn ha hpc h
end
theorem BD {f:FuncId} {fn:Func} {c:Code} {n:Nat} {rs:List ResultVar} {args:List Value} {H:Hp} {Φ:Value->Hp->Prop} (hf:Tryz.prog.funcs[f]?=some fn) (hn:fn.ntmps=n) (h:EV prog n c (BZ 0 args) [] ⟨H,[],⟨H,[]⟩⟩ (lS am rs Φ)) (hb:fn.body=some c:=by exact Z) (hw:(fn.name == "runtime.NumGoroutine")=false:=by kernel_rfl) (eZ:fn.results.toList=rs:=by exact Z) (hl:Nat.ble args.length n=true:=by exact Z):PC prog f args.toArray H Φ:=PC.body tO hf hb hw hn eZ hl h
theorem cO {P:Program} {f:FuncId} {fn:Func} {c:Code} (hf:P.funcs[f]?=some fn) (hb:fn.body=some c:=by exact Z) (hn:(fn.name == "runtime.NumGoroutine")=false:=by kernel_rfl):fQ P f:=Mt hf hb hn
theorem nN:(type_of% @decide_eq_true_eq)/\(type_of% @decide_eq_false_iff_not)/\(type_of% @Int.not_lt)/\(type_of% @Int.not_le)/\(type_of% @beq_iff_eq.{0})/\(type_of% @beq_eq_false_iff_ne.{0})/\(type_of% @bne_iff_ne.{0})/\(type_of% @bne_eq_false_iff_eq.{0})/\(type_of% @ne_eq.{1})/\(type_of% @Int.ofNat_lt)/\(type_of% @Int.ofNat_le)/\(type_of% @Int.natCast_inj)/\(type_of% @ge_iff_le.{0})/\(type_of% @gt_iff_lt.{0})/\(type_of% @Decidable.not_not)/\(type_of% @Bool.not_eq_true')/\(type_of% @Bool.not_eq_false')/\(type_of% @Bool.not_eq_eq_eq_not)/\(type_of% Bool.not_true)/\(type_of% Bool.not_false):=⟨@decide_eq_true_eq,@decide_eq_false_iff_not,@Int.not_lt,@Int.not_le,@beq_iff_eq,@pQ,@bne_iff_ne,@bne_eq_false_iff_eq,@ne_eq,@Int.ofNat_lt,@Int.ofNat_le,@Int.natCast_inj,@ge_iff_le,@gt_iff_lt,@Decidable.not_not,@Bool.not_eq_true',@Bool.not_eq_false',@Bool.not_eq_eq_eq_not,Bool.not_true,Bool.not_false⟩
theorem sB {p:Prop} (h:p:=by repeat (first|exact trivial|refine And.intro Z ?_)):p:=h
theorem kR {p:Prop} (h:p:=by kernel_rfl):p:=h
theorem oM {p:Prop} (h:p:=by omega):p:=h
section
variable {P:Program} {n:Nat} {ops:Array Oper} {tail:List Oper} {sb bx:Bxs} {H:Hs} {Q:EQ} {x:Nat->Value} {y:Nat->Ows} {au:Ows} {kl:List DK} {i:Nat} {o:Oper} {l rest:List Oper} {ks:List DK} {env:Env} {aw:Bxs} {Γ:fO} {d:Nat} {f:FuncId} {args:Array Operand} {bW:Array TypeId} {vs:List Value}
theorem vA {Φ:Value->Hp->Prop} (hpc:PC P f vs.toArray H.ro Φ) (h:∀v H',Φ v H'->H.ro.Le H'->EVL P n ops rest ((d,.v v)::env) bx ⟨H',H.ow,H.base⟩ Q) (ho:o.op=.call ⟨.value (.func f),args,bW⟩:=by exact Z) (hw:aP ops env o=some true:=by exact Z) (hd:o.dst=some d:=by exact Z) (hn:Nat.blt d n=true:=by exact Z) (ha:dX env args.toList some=some vs:=by exact Z):EVL P n ops (o::rest) env bx H Q:=EVL.call ho hw hd hn ha hpc h
theorem vW (L R:Ows) {Φ:Value->Ows->Hp->Prop} (hpc:PW P f vs.toArray H.ro L Φ) (h:∀v ow H',Φ v ow H'->H.ro.Le H'->EVL P n ops rest ((d,.v v)::env) bx ⟨H',ow++R,H.base⟩ Q) (e:H.ow=L++R:=by exact Z) (ho:o.op=.call ⟨.value (.func f),args,bW⟩:=by exact Z) (hw:aP ops env o=some true:=by exact Z) (hd:o.dst=some d:=by exact Z) (hn:Nat.blt d n=true:=by exact Z) (ha:dX env args.toList some=some vs:=by exact Z):EVL P n ops (o::rest) env bx H Q:=EVL.callW ho hw hd hn ha L R e hpc h
theorem vB (hc:fQ P f) {Φ:Value->Hp->Prop} (hpc:∀G,H.ro.Le G->dD ops i Γ G->PC P f vs.toArray G Φ) (hm:∀v G G',Φ v G->G.Le G'->Φ v G') (h:DJ P n ops tail sb bx H Q x y kl (i+1) l ks ((d,.v (x i))::env) aw ((i,Φ (x i))::Γ) au) (ho:o.op=.call ⟨.value (.func f),args,bW⟩:=by exact Z) (hw:aP ops env o=some true:=by exact Z) (hd:o.dst=some d:=by exact Z) (hn:Nat.blt d n=true:=by exact Z) (ha:dX env args.toList some=some vs:=by exact Z):DJ P n ops tail sb bx H Q x y kl i (o::l) (.call Φ::ks) env aw Γ au:=DJ.call ho hw hd hn ha hc hpc hm h
theorem vC (hc:fQ P f) {v:Value} (hpc:∀G,H.ro.Le G->dD ops i Γ G->PC P f vs.toArray G (fun u _=>u=v)) (h:DJ P n ops tail sb bx H Q x y kl (i+1) l ks ((d,.v v)::env) aw Γ au) (ho:o.op=.call ⟨.value (.func f),args,bW⟩:=by exact Z) (hw:aP ops env o=some true:=by exact Z) (hd:o.dst=some d:=by exact Z) (hn:Nat.blt d n=true:=by exact Z) (ha:dX env args.toList some=some vs:=by exact Z):DJ P n ops tail sb bx H Q x y kl i (o::l) (.sv (.v v)::ks) env aw Γ au:=DJ.callS ho hw hd hn ha hc hpc h
theorem vI {T e:TypeId} {xo yo:Operand} {te te':TE} {v:Value} {k:IntKind} {z:Int} {m:Nat} {xs:List Value} {c:Value} (hs:SlC H.ro v m 1 xs) (j:Nat) (hz:z=j) (hj:j<m) (hc:xs[j]?=some c) (h:EVL Tryz.prog n ops rest ((d,.ro [c])::env) bx H Q) (ho:o.op=.indexAddr T xo yo:=by exact Z) (hw:aP ops env o=some true:=by exact Z) (hd:o.dst=some d:=by exact Z) (hn:Nat.blt d n=true:=by exact Z) (ht:am.get T=some te:=by exact Z) (hk:te.kind=.slice e:=by exact Z) (aM:am.get e=some te':=by exact Z) (h1:te'.size=1:=by exact Z) (hx:env.op xo=some (.v v):=by exact Z) (hy:env.op yo=some (.v (.int k z)):=by exact Z):EVL Tryz.prog n ops (o::rest) env bx H Q:=EVL.idxR ac ho hw hd hn ht hk aM h1 hx hy hs j hz hj hc h
theorem vJ {T e:TypeId} {xo yo:Operand} {te te':TE} {v:Value} {k:IntKind} {z:Int} {m:Nat} {xs:List Value} {c:Value} (hs:SlC H.ro v m 1 xs) (j:Nat) (hz:z=j) (hj:j<m) (hc:xs[j]?=some c) (h:DJ Tryz.prog n ops tail sb bx H Q x y kl (i+1) l ks ((d,.ro [c])::env) aw Γ au) (ho:o.op=.indexAddr T xo yo:=by exact Z) (hw:aP ops env o=some true:=by exact Z) (hd:o.dst=some d:=by exact Z) (hn:Nat.blt d n=true:=by exact Z) (ht:am.get T=some te:=by exact Z) (hk:te.kind=.slice e:=by exact Z) (aM:am.get e=some te':=by exact Z) (h1:te'.size=1:=by exact Z) (hx:env.op xo=some (.v v):=by exact Z) (hy:env.op yo=some (.v (.int k z)):=by exact Z):DJ Tryz.prog n ops tail sb bx H Q x y kl i (o::l) (.sv (.ro [c])::ks) env aw Γ au:=DJ.ofVal (az.idx1 ac ho hw ht hk aM h1 hx hy hs j hz hj hc) hd hn rfl h
end
end
section
theorem Yp {p a b:Nat} (h:b<2 ^ p):b ||| 2 ^ p*a=b+2 ^ p*a:=by
 rw[Nat.or_comm,<-Nat.two_pow_add_eq_or_of_lt h a,Nat.add_comm]
theorem LJ (k p x:Nat) (hp:p<=k):x*2 ^ p % 2 ^ k=2 ^ p*(x % 2 ^ (k-p))/\x*2 ^ p / 2 ^ k=x / 2 ^ (k-p):=by
 have e:2 ^ k=2 ^ p*2 ^ (k-p):=by rw[<-Nat.pow_add];congr 1;omega
 rw[e,qW x];exact⟨Nat.mul_mod_mul_left ..,Nat.mul_div_mul_left _ _ (Nat.pow_pos oM)⟩
theorem Rr (k p x:Nat) (hp:p<=k):x*2 ^ p % 2 ^ k+x / 2 ^ (k-p)*2 ^ k=x*2 ^ p:=by
 rw[<-(LJ k p x hp).2,qW (x*2 ^ p / 2 ^ k)];exact Nat.mod_add_div _ _
theorem KC (k p x:Nat) (hp:p<=k) (hx:x<2 ^ k):x / 2 ^ (k-p)<2 ^ p:=by
 apply Nat.div_lt_of_lt_mul;rw[<-Nat.pow_add,show k-p+p=k by omega];exact hx
theorem Yi (k p x c:Nat) (hp:p<=k) (hc:c<2 ^ p):c ||| (x*2 ^ p % 2 ^ k)=c+x*2 ^ p % 2 ^ k/\c+x*2 ^ p % 2 ^ k<2 ^ k:=by
 rw[(LJ k p x hp).1];refine⟨Yp hc,?_⟩;have h1:x % 2 ^ (k-p)+1<=2 ^ (k-p):=qm _ (Nat.pow_pos oM);have h2:=qb (2 ^ p) h1;rw[<-Nat.pow_add,show p+(k-p)=k by omega,Nat.mul_add]at h2;omega
theorem Tq {B:Nat} (hB:0<B) {l:List Nat} (h:Dig B l) (i:Nat):val B l / B ^ i % B=l.getD i 0:=by
 by_cases hi:i<=l.length
 ·have h1:=cZ (h.take i);rw[qP,qn hi]at h1;rw[ep B l i hi,Nat.add_mul_div_left _ _ (Nat.pow_pos hB),Nat.div_eq_of_lt h1,qu,dO,Nat.add_mul_mod_self_left,qT (h.getD hB i)]
 ·have h1:=cZ h;have h2:val B l<B ^ i:=Nat.lt_of_lt_of_le h1 (qc hB oM);rw[Nat.div_eq_of_lt h2,Nat.zero_mod,qB,qe (by omega)];rfl
theorem MK {C k:Nat} (hC:0<C) (hk:0<k) {l:List Nat} (h:Dig (C ^ k) l) (i:Nat):l.getD (i / k) 0 / C ^ (i % k) % C=val (C ^ k) l / C ^ i % C:=by
 have e:C ^ i=(C ^ k) ^ (i / k)*C ^ (i % k):=by rw[<-Nat.pow_mul,<-Nat.pow_add,qj]
 rw[e,<-Nat.div_div_eq_div_mul,<-Tq (Nat.pow_pos hC) h (i / k)]
 have hm:C ^ k=C ^ (i % k)*C*C ^ (k-i % k-1):=by
  have:=qm i hk;rw[<-qX,<-Nat.pow_add];congr 1;omega
 generalize val (C ^ k) l / (C ^ k) ^ (i / k)=v;rw[hm,Nat.mul_assoc,Nat.mod_mul_right_div_self,Nat.mod_mul_right_mod]
theorem Z5 {B:Nat} (hB:2<=B) (n i:Nat):(dig B n).getD i 0=n / B ^ i % B:=by
 rw[<-Tq oM (eo hB n).1,cW hB]
def kv (B n k:Nat):List Nat:=(List.range k).map fun i=>n / B ^ i % B
theorem wg (B n k:Nat):(kv B n k).length=k:=by simp[kv]
theorem S3 {B:Nat} (hB:0<B) (n k:Nat):Dig B (kv B n k):=by
 intro x hx;simp only[kv,List.mem_map]at hx;obtain⟨i,_,rfl⟩:=hx;exact qm _ hB
theorem L1 (B n k:Nat):kv B n (k+1)=kv B n k++[n / B ^ k % B]:=by simp[kv,List.range_succ]
theorem Lu {B:Nat} (n k:Nat):val B (kv B n k)=n % B ^ k:=by
 induction k with
 | zero=>simp[kv,val,Nat.mod_one]
 | succ k ih =>
  rw[L1,vP,ih,wg,qX,Nat.mod_mul,qW (B ^ k)]
end
section
def W64:Nat:=18446744073709551616
theorem fB:W64=2 ^ 64:=by decide
theorem ug:W64=256 ^ 8:=by decide
theorem cm:2<=W64:=by decide
theorem cH:W64=18446744073709551616:=rfl
def iW (l:List Nat):List Nat:=l.flatMap fun x=>kv 256 x 8
theorem znw:iW []=[]:=rfl
theorem Ja (x:Nat) (l:List Nat):iW (x::l)=kv 256 x 8++iW l:=rfl
theorem ziO (l m:List Nat):iW (l++m)=iW l++iW m:=by simp[iW]
theorem MH (l:List Nat):(iW l).length=8*l.length:=by
 induction l with
 | nil=>rfl
 | cons x l ih=>rw[Ja,qJ,wg,ih,qR];omega
theorem UG (l:List Nat):Dig 256 (iW l):=by
 intro x hx;simp only[iW,List.mem_flatMap]at hx;obtain⟨y,_,h⟩:=hx;exact S3 oM y 8 x h
theorem zlp (l:List Nat) (k:Nat):(iW l).drop (8*k)=iW (l.drop k):=by
 induction k generalizing l with
 | zero=>rfl
 | succ k ih =>
  cases l with
  | nil=>simp[iW]
  | cons x l =>
   rw[Ja,List.drop_succ_cons,<-ih,show 8*(k+1)=(kv 256 x 8).length+8*k by rw[wg];omega];rw[List.drop_length_add_append]
theorem zlq (l:List Nat) (h:Dig W64 l) (k:Nat) (hk:k<l.length):val 256 (((iW l).drop (8*k)).take 8)=l[k]:=by
 rw[zlp,qp hk,Ja,List.take_append_of_le_length (by rw[wg];omega),qO (by rw[wg];omega),Lu,<-ug];exact qT (h.get k hk)
def hiW (n:Nat):List Nat:=dig W64 (n / W64)
def lo (n:Nat):Nat:=n % W64
def toB (l:List Nat):ByteArray:=⟨(l.map UInt8.ofNat).toArray⟩
def aU (n:Nat):ByteArray:=toB (iW (hiW n))
theorem Zs (l:List Nat):(toB l).size=l.length:=by simp[toB,ByteArray.size]
theorem Ab (n:Nat):(aU n).size=8*(hiW n).length:=by rw[aU,Zs,MH]
theorem Kt (n:Nat):lo n<W64:=qm _ (by decide)
theorem zT (n:Nat):eM W64 (hiW n):=eo cm _
theorem L0 (n:Nat) (h:n≠0):dig W64 n=lo n::hiW n:=yq cm h
theorem Cb {n:Nat}:hiW n=[]↔n<W64:=by
 unfold hiW;constructor
 ·intro h;have:=rO cm (n:=n / W64) (by rw[h];rfl);have:=Nat.div_eq_zero_iff.1 this;have:=cm;omega
 ·intro h;rw[Nat.div_eq_of_lt h,mH]
theorem Cz {n:Nat} (h:n<W64):aU n=ByteArray.empty:=by unfold aU;rw[Cb.2 h];rfl
theorem zS {n:Nat} (h:n<W64):lo n=n:=qT h
theorem Dq (n:Nat):lo n+W64*val W64 (hiW n)=n:=by
 unfold lo hiW;rw[cW cm];exact Nat.mod_add_div n W64
theorem YH (x:Nat) (l:List Nat) (hx:x<W64):lo (val W64 (x::l))=x:=by
 unfold lo;rw[kA,Nat.add_mul_mod_self_left,qT hx]
theorem ZY (x:Nat) (l:List Nat) (hx:x<W64) (h:eM W64 l):hiW (val W64 (x::l))=l:=by
 unfold hiW;rw[kA,Nat.add_mul_div_left _ _ (by decide),Nat.div_eq_of_lt hx,qu,DH cm h]
theorem Ip (n:Nat):(hiW n).length=(bl n+63) / 64-1:=by
 by_cases h:n=0
 ·subst h;simp[hiW,mH,lX]
 ·have h1:=L0 n h;have h2:=ur 64 n oM;rw[<-fB,h1]at h2;simp at h2;omega
end
section
open Go.RowKit _root_.Go.Proofs.Tryz
theorem dz (n:Int):IntKind.u64.wrap n=n % 18446744073709551616:=by simp[IntKind.wrap,IntKind.bits,IntKind.signed]
theorem DN (n:Int):IntKind.u32.wrap n=n % 4294967296:=by simp[IntKind.wrap,IntKind.bits,IntKind.signed]
theorem Rg (n:Int):IntKind.u8.wrap n=n % 256:=by simp[IntKind.wrap,IntKind.bits,IntKind.signed]
theorem vZ (n:Nat):IntKind.u64.wrap (n:Int)=((n % 18446744073709551616:Nat):Int):=by rw[dz];omega
theorem pE (a b i m:Nat) (hm:m=2 ^ i) (h:a<m):a ||| (b*m)=a+b*m:=by
 subst hm;rw[Nat.or_comm,<-Nat.shiftLeft_eq,<-Nat.shiftLeft_add_eq_or_of_lt h,Nat.add_comm]
theorem Zp (x0 x1 x2 x3 x4 x5 x6 x7:Nat) (h0:x0<256) (h1:x1<256) (h2:x2<256) (h3:x3<256) (h4:x4<256) (h5:x5<256) (h6:x6<256) (h7:x7<256) :
  bits .or .u64 (bits .or .u64 (bits .or .u64 (bits .or .u64 (bits .or .u64 (bits .or .u64 (bits .or .u64 (IntKind.u64.wrap (x0:Int)) (IntKind.u64.wrap (IntKind.u64.wrap (x1:Int)*256))) (IntKind.u64.wrap (IntKind.u64.wrap (x2:Int)*65536))) (IntKind.u64.wrap (IntKind.u64.wrap (x3:Int)*16777216)))
   (IntKind.u64.wrap (IntKind.u64.wrap (x4:Int)*4294967296))) (IntKind.u64.wrap (IntKind.u64.wrap (x5:Int)*1099511627776))) (IntKind.u64.wrap (IntKind.u64.wrap (x6:Int)*281474976710656))) (IntKind.u64.wrap (IntKind.u64.wrap (x7:Int)*72057594037927936))
  = ((val 256 [x0,x1,x2,x3,x4,x5,x6,x7]:Nat):Int):=by
 have e0:IntKind.u64.wrap (x0:Int)=(x0:Nat):=by rw[dz];omega
 have e1:IntKind.u64.wrap (IntKind.u64.wrap (x1:Int)*256)=((x1*256:Nat):Int):=by rw[dz,dz];omega
 have e2:IntKind.u64.wrap (IntKind.u64.wrap (x2:Int)*65536)=((x2*65536:Nat):Int):=by rw[dz,dz];omega
 have e3:IntKind.u64.wrap (IntKind.u64.wrap (x3:Int)*16777216)=((x3*16777216:Nat):Int):=by rw[dz,dz];omega
 have e4:IntKind.u64.wrap (IntKind.u64.wrap (x4:Int)*4294967296)=((x4*4294967296:Nat):Int):=by rw[dz,dz];omega
 have e5:IntKind.u64.wrap (IntKind.u64.wrap (x5:Int)*1099511627776)=((x5*1099511627776:Nat):Int):=by rw[dz,dz];omega
 have e6:IntKind.u64.wrap (IntKind.u64.wrap (x6:Int)*281474976710656)=((x6*281474976710656:Nat):Int):=by rw[dz,dz];omega
 have e7:IntKind.u64.wrap (IntKind.u64.wrap (x7:Int)*72057594037927936)=((x7*72057594037927936:Nat):Int):=by rw[dz,dz];omega
 rw[e0,e1,e2,e3,e4,e5,e6,e7]
 rw[u64_or_nat _ _ oM oM,pE _ _ 8 256 (by decide) oM,
  u64_or_nat _ _ oM oM,pE _ _ 16 65536 (by decide) oM,
  u64_or_nat _ _ oM oM,pE _ _ 24 16777216 (by decide) oM,
  u64_or_nat _ _ oM oM,pE _ _ 32 4294967296 (by decide) oM,
  u64_or_nat _ _ oM oM,pE _ _ 40 1099511627776 (by decide) oM,
  u64_or_nat _ _ oM oM,pE _ _ 48 281474976710656 (by decide) oM,
  u64_or_nat _ _ oM oM,pE _ _ 56 72057594037927936 (by decide) (by omega)]
 simp only[val];omega
theorem rL (s:ByteArray):s.data.toList.length=s.size:=rfl
theorem XL (s:ByteArray) (h:8<=s.size):(s.data.toList.take 8).map UInt8.toNat=[s[0].toNat,s[1].toNat,s[2].toNat,s[3].toNat,s[4].toNat,s[5].toNat,s[6].toNat,s[7].toNat]:=by
 have hl:=rL s;have e:∀i (hi:i<s.size),s[i]=s.data.toList[i]'(by rw[hl];exact hi):=fun i hi=>rfl;rw[e 0,e 1,e 2,e 3,e 4,e 5,e 6,e 7];generalize s.data.toList=l at *
 match l,(show 8<=l.length by omega) with
 | a0::a1::a2::a3::a4::a5::a6::a7::l,_=>rfl
end
section
def br (a b:Nat):Int:=if a<b then -1 else if b<a then 1 else 0
theorem pT {a b:Nat} (h:a<b):br a b = -1:=by simp[br,h]
theorem rJ {a b:Nat} (h:b<a):br a b=1:=by unfold br;rw[if_neg oM,if_pos h]
theorem RT {a b:Nat} (h:a=b):br a b=0:=by simp[br,h]
theorem LP {P a b r s:Nat} (hr:r<P) (hs:s<P) (h:a≠b):br (r+P*a) (s+P*b)=br a b:=by
 rcases Nat.lt_or_ge a b with h1 | h1
 ·have:P*(a+1)<=P*b:=qb P h1;rw[Nat.mul_add]at this;rw[pT h1,pT (by omega)]
 ·have:P*(b+1)<=P*a:=qb P oM;rw[Nat.mul_add]at this;rw[rJ oM,rJ (by omega)]
theorem SM {P a r s:Nat}:br (r+P*a) (s+P*a)=br r s:=by
 unfold br;by_cases h1:r<s
 ·rw[if_pos oM,if_pos h1]
 ·rw[if_neg oM,if_neg h1];by_cases h2:s<r
  ·rw[if_pos oM,if_pos h2]
  ·rw[if_neg oM,if_neg h2]
theorem Sb {a b:Nat} (h:(hiW a).length<(hiW b).length):a<b:=by
 rcases Nat.lt_or_ge a b with h1 | h1
 ·exact h1
 ·have:(hiW b).length<=(hiW a).length:=Ec cm (Nat.div_le_div_right h1);omega
theorem ZS {a b:Nat} (h:hiW a=hiW b):br a b=br (lo a) (lo b):=by
 have ea:=Dq a;have eb:=Dq b;rw[h]at ea;have:=SM (P:=W64) (a:=val W64 (hiW b)) (r:=lo a) (s:=lo b);rw[ea,eb]at this;exact this
theorem Ry {l m:List Nat} (k:Nat) (hl:Dig W64 l) (hm:Dig W64 m) (he:l.length=m.length) (hk:k<l.length) (hd:l.drop (k+1)=m.drop (k+1)) (hx:l.getD k 0≠m.getD k 0):br (val W64 l) (val W64 m)=br (l.getD k 0) (m.getD k 0):=by
 have h1:=cZ (hl.take k);have h2:=cZ (hm.take k);rw[qP,qn (by omega)]at h1 h2;rw[ep W64 l k oM,ep W64 m k (by omega)]
 have hne:val W64 (l.drop k)≠val W64 (m.drop k):=by
  rw[dO,dO W64 m k,hd];omega
 rw[LP h1 h2 hne,dO,dO W64 m k,hd,SM]
theorem zre {a b k:Nat} (he:(hiW a).length=(hiW b).length) (hk:k<(hiW a).length) (hd:(hiW a).drop (k+1)=(hiW b).drop (k+1)) (hx:(hiW a).getD k 0≠(hiW b).getD k 0):br a b=br ((hiW a).getD k 0) ((hiW b).getD k 0):=by
 have hv:=Ry k (zT a).1 (zT b).1 he hk hd hx;have ea:=Dq a;have eb:=Dq b
 have hne:val W64 (hiW a)≠val W64 (hiW b):=by
  intro e;have:=KY (by decide) (zT a) (zT b) e;rw[this]at hx;exact hx Z
 rw[<-hv,<-LP (Kt a) (Kt b) hne,ea,eb]
end
section
open Go.RowKit _root_.Go.Proofs.Tryz
abbrev n64 (n:Nat):Value:=.int .u64 (n:Int)
abbrev aH (n:Nat):Value:=.agg #[.int .u64 (lo n:Int),.string (aU n)]
theorem iK {n:Nat} (h:n<W64):aH n=.agg #[.int .u64 (n:Int),.string ⟨#[]⟩]:=by unfold aH;rw[zS h,Cz h];rfl
theorem Zt (l:List Nat):(toB l).toList=l.map UInt8.ofNat:=by simp[toB,ByteArray.toList_eq]
theorem D1 {n:Nat} (h:¬n<W64):(aU n).toList.isEmpty=false:=by
 unfold aU;rw[Zt,List.isEmpty_eq_false_iff];intro e;have h1:(iW (hiW n)).length=0:=by simpa using congrArg List.length e
 rw[MH]at h1;exact h (Cb.1 (List.eq_nil_of_length_eq_zero oM))
theorem Tryz.infoU64:(Tryz.prog.info? 45).map (fun i=>(i.zero,i.size,i.bytes))=some (some (.int .u64 0),1,8):=by kernel_rfl
theorem ZT (n:Nat) (w:World) (h:n<=1000000000):(Instr.makeSlice 206 (.int .i64 n) (.int .i64 n)).run prog w=.ok (.slice (some ⟨w.heap.size,0,none⟩) n n) (w.alloc (.cells (cellsOf n64 (List.replicate n 0)) 45)):=by
 obtain⟨i0,hi,eP,fC,iY⟩:=info_parts Tryz.infoU64;have:=run_make (P:=prog) w 206 45 i0 (.int .u64 0) Tryz.underlying206 hi eP .i64 .i64 n n oM oM (by rw[iY];omega) oM;rw[this,fC];simp only[qU,Nat.mul_one,Value.cells];rw[show (#[Value.int .u64 0])=#[n64 0] from rfl,zkf]
def ic (w:World) (n:Nat):World:=w.alloc (.cells (cellsOf n64 (List.replicate n 0)) 45)
theorem zR (w:World) (n:Nat):Blk n64 (ic w n) w.heap.size (List.replicate n 0):=Blk.new _ _ _ _
theorem Tk (w:World) (n:Nat):fy n64 45 (ic w n) w.heap.size (List.replicate n 0):=fy.new _ _ _ _
theorem yE {B:Nat} {a w:World} (h:Below B a w) (hB:B<=w.heap.size) (n:Nat):Below B a (ic w n):=h.alloc hB _
theorem Ma (w:World) (n:Nat):(ic w n).heap.size=w.heap.size+1:=by simp[ic]
theorem zmP {w:World} {n b o:Nat} (h:b<w.heap.size):(ic w n).cell? ⟨b,o,none⟩=w.cell? ⟨b,o,none⟩:=World.cell?_alloc_past _ _ _ h
theorem zrE {w:World} {n b j:Nat} (hb:b=w.heap.size) (hj:j<n):(ic w n).cell? ⟨b,j,none⟩=some (.int .u64 0):=by
 subst hb;have:=(zR w n).cell j (by simpa using hj);rw[this];simp
theorem zpz {w:World} {n b j:Nat} (hb:b=w.heap.size):(ic w n).frozen? ⟨b,j,none⟩=false:=by subst hb;exact(zR w n).free j
theorem zW (z:Int) (n:Nat) (hz:z=n) (h:n<=1000000000) (w:World):(Instr.makeSlice 206 (.int .i64 z) (.int .i64 z)).run prog w=.ok (.slice (some ⟨w.heap.size,0,none⟩) n n) (ic w n):=by
 subst hz;exact ZT n w h
theorem UP (x y:Nat) (w:World) :
  Calls prog 163 #[n64 x,n64 y] w fun e w'=>e=.returned (.int .i64 (br x y))/\w=w':=by
 by_cases h1:x<y
 ·have d1:decide (x<y)=true:=by simpa using h1
  have e:br x y = -1:=by simp[br,h1]
  rw[e]
  go_enter func163,ntmps163;go_wp2
  go_ret;exact⟨rfl,rfl⟩
 ·have d1:decide (x<y)=false:=by simpa using h1
  by_cases h2:y<x
  ·have d2:decide (y<x)=true:=by simpa using h2
   have e:br x y=1:=by simp[br,h1,h2]
   rw[e]
   go_enter func163,ntmps163;go_wp2
   go_ret;exact⟨rfl,rfl⟩
  ·have d2:decide (y<x)=false:=by simpa using h2
   have e:br x y=0:=by simp[br,h1,h2]
   rw[e]
   go_enter func163,ntmps163;go_wp2
   go_ret;exact⟨rfl,rfl⟩
theorem zpF (n:Nat) (w:World) (h:n<W64) :
  Calls prog 116 #[n64 n] w fun e w'=>e=.returned (aH n)/\Below w.heap.size w w':=by
 rw[iK h];clear h
 go_enter func116,ntmps116;go_wp2;exact bodyPost_ret (v:=.agg #[.int .u64 (n:Int),.string ⟨#[]⟩]) (by simp[results,Tryz.results116,go_sem]) rfl ⟨rfl,(Below.refl _ _).alloc (qH _) _⟩
theorem zko (n:Nat) (w:World) :
  Calls prog 129 #[aH n] w fun e w'=>e=.returned (.tuple #[.int .u64 (if n<W64 then n else 0),.bool (decide (n<W64))])/\Below w.heap.size w w':=by
 by_cases h:n<W64
 ·rw[iK h,if_pos h,show decide (n<W64)=true by simpa using h];clear h
  go_enter func129,ntmps129;go_wp2
  go_ret2;exact⟨rfl,(Below.refl _ _).alloc (qH _) _⟩
 ·rw[if_neg h,show decide (n<W64)=false by simpa using h];have hm:=D1 h
  go_enter func129,ntmps129;go_wp2
  go_ret2;exact⟨rfl,(Below.refl _ _).alloc (qH _) _⟩
theorem Sl.pre {α:Type} {enc:α->Value} {w:World} {a:Option Addr} {n cap:Nat} {l:List α} (h:Sl enc w (.slice a n cap) l) (k:Nat) (hk:k<=l.length):Sl enc w (.slice a k cap) (l.take k):=by
 rcases h with ⟨rfl,a',bz,hv⟩ | ⟨b,off,bz,hv,hb,hc⟩
 ·left;cases hv;simp at hk;subst hk;exact⟨rfl,_,_,rfl⟩
 ·cases hv;right;have hl:(l.take k).length=k:=by simp;omega
  refine⟨b,off,cap,by rw[hl],hb,fun j hj=>?_⟩;rw[hl]at hj;rw[hc j (by omega)];simp
theorem US (a:Option Addr) (cap:Nat) (l:List Nat) (w:World) (hS:Sl n64 w (.slice a l.length cap) l) (hl:l.length<=1000000000) (bZ:l.length<=cap) :
  Calls prog 173 #[.slice a l.length cap] w fun e w'=>e=.returned (.slice a (cg l).length cap)/\w=w':=by
 go_enter func173,ntmps173;go_wp2
 go_loopg [0] l.length (fun g v wr=>∃k:Nat,k=g/\k<=l.length/\v=.slice a k cap/\cg (l.take k)=cg l/\wr=w)
 case atStart=>exact⟨l.length,rfl,qH _,rfl,by rw[qa],rfl⟩
 case round =>
  obtain⟨k,nP,hk,rfl,ht,rfl⟩:=hrel;have HT:=hid (And.intro ht nP);clear ht nP;by_cases h0:k=0
  ·subst h0;go_wp2
   go_ret;have:=HT.out.1;rw[<-this];exact⟨by simp[cg],rfl⟩
  ·obtain⟨j,rfl⟩:∃j,k=j+1:=⟨k-1,by omega⟩;have hj:j<l.length:=oM;obtain⟨b,off,rfl,hb,hc⟩:=hS.at j hj;have bq:Hid (l.take (j+1)=l.take j++[l[j]]):=qS hj;generalize l[j]=x at *
   have t2:(((j+1:Nat):Int)-1).toNat=j:=oM;have t3:IntKind.i64.wrap (((j+1:Nat):Int)-1)=(j:Int):=by rw[pL];omega
   by_cases hx:x=0
   ·subst hx;go_wp2
    go_roundg j
    case measure=>have:=HT.out.2;omega
    case rel=>exact⟨j,rfl,by omega,rfl,by rw[<-HT.out.1,bq.out,MQ],rfl⟩
   ·have tx:((x:Int) == 0)=false:=by simp;omega
    have HX:=hid hx;clear hx;go_wp2
    go_ret;have e:=HT.out.1;rw[bq.out,MF _ _ HX.out]at e;rw[<-e];exact⟨by simp;omega,rfl⟩
theorem Sh (s:ByteArray) (w:World) (h:8<=s.size) (hs:s.size<=100000000000) :
  Calls prog 147 #[.string s] w fun e w'=>e=.returned (n64 (val 256 ((s.data.toList.take 8).map UInt8.toNat)))/\Below w.heap.size w w'/\∃k,w'=w.drewN k:=by
 have i0:(0:Int)<s.size:=oM;have j0:0<s.size:=oM;have i1:(1:Int)<s.size:=oM;have j1:1<s.size:=oM;have i2:(2:Int)<s.size:=oM;have j2:2<s.size:=oM;have i3:(3:Int)<s.size:=oM;have j3:3<s.size:=oM;have i4:(4:Int)<s.size:=oM;have j4:4<s.size:=oM;have i5:(5:Int)<s.size:=oM;have j5:5<s.size:=oM;have i6:(6:Int)<s.size:=oM;have j6:6<s.size:=oM;have i7:(7:Int)<s.size:=oM;have j7:7<s.size:=oM
 go_enter func147,ntmps147;go_wp2
 go_quiet (fail);go_wp2
 go_ret;refine⟨?_,Ee (Below.refl _ _) _,_,rfl⟩;rw[XL s h];exact R3 (Zp _ _ _ _ _ _ _ _ (UInt8.toNat_lt _) (UInt8.toNat_lt _) (UInt8.toNat_lt _) (UInt8.toNat_lt _) (UInt8.toNat_lt _) (UInt8.toNat_lt _) (UInt8.toNat_lt _) (UInt8.toNat_lt _))
theorem Uj (w:World) :
  Calls prog 134 #[aH 0] w fun e w'=>e=.returned (.slice none 0 0)/\Below w.heap.size w w':=by
 rw[iK (by decide)]
 go_enter func134,ntmps134;go_wp2
 go_ret;exact⟨rfl,(Below.refl _ _).alloc (qH _) _⟩
theorem Mh (s:ByteArray) (t:Nat) (w:World) (h:8<=s.size) (hs:s.size<=100000000000) (ht:val 256 ((s.data.toList.take 8).map UInt8.toNat)=t) :
  Calls prog 147 #[.string s] w fun e w'=>e=.returned (n64 t)/\∃k,w'=w.drewN k:=by
 refine(Sh s w h hs).mono ?_;rintro e w' ⟨rfl,_,hk⟩;exact⟨by rw[ht],hk⟩
end
end Go.Proofs.YtkeklikocibiaaaGreatDoor
namespace Go.Proofs
open Go.Shelf
def Tryz.lays169_ren:Go.Shelf.Ren:=⟨fun | 169=>176 | n=>n,fun | 70=>253 | 9=>9 | 0=>0 | 72=>255 | 37=>210 | 127=>293 | 3=>3 | 5=>5 | n=>n,fun | n=>n⟩
theorem Tryz.lays169:Go.Proofs.Lays.n169 Tryz.prog Tryz.lays169_ren:={
 mixed:=by kernel_rfl
 f169:=Tryz.func176.trans (congrArg some (by kernel_rfl))
 t0:=Tryz.underlying0
 a0:=Tryz.isAgg0
 z0:=Tryz.sizeOf0
 v0:=Tryz.zeroValue0
 t3:=Tryz.underlying3
 a3:=Tryz.isAgg3
 z3:=Tryz.sizeOf3
 v3:=Tryz.zeroValue3
 t9:=Tryz.underlying9
 a9:=Tryz.isAgg9
 z9:=Tryz.sizeOf9
 v9:=Tryz.zeroValue9
 t37:=Tryz.underlying210
 a37:=Tryz.isAgg210
 z37:=Tryz.sizeOf210
 v37:=Tryz.zeroValue210
 t70:=Tryz.underlying253
 a70:=Tryz.isAgg253
 z70:=Tryz.sizeOf253
 v70:=Tryz.zeroValue253
 t72:=Tryz.underlying255
 a72:=Tryz.isAgg255
 z72:=Tryz.sizeOf255
 v72:=Tryz.zeroValue255
 t127:=Tryz.underlying293
 a127:=Tryz.isAgg293
 z127:=Tryz.sizeOf293
 v127:=Tryz.zeroValue293 }
theorem Tryz.Builder_Extra_169:Builder.Extra Tryz.prog Tryz.lays169_ren:={
 sizeBuilder:=by kernel_rfl
 liesBuilder:=by kernel_rfl
 t5:=Tryz.underlying5
 a5:=Tryz.isAgg5
 z5:=Tryz.sizeOf5
 v5:=Tryz.zeroValue5
 infoByte:=by kernel_rfl
 cellsByte:=by kernel_rfl
 sizeByte:=by kernel_rfl
 neB5:=by decide }
open Go.RowKit in
theorem Tryz.Builder_String_any (B b:Nat) (l:List UInt8) (w:World) (h:Lib.IsBuilder 255 5 B b (Lib.byteCells l) w) (GJ:B<=w.heap.size) :
  Calls Tryz.prog 176 #[.pointer (some ⟨b,0,none⟩)] w fun e w'=>e=.returned (.string ⟨l.toArray⟩)/\Below B w w':=Any.Builder_String_any Tryz.lays169 Tryz.Builder_Extra_169 B b l w h GJ
def Tryz.lays165_ren:Go.Shelf.Ren:=⟨fun | 165=>174 | 240=>213 | 241=>214 | 276=>230 | 277=>231 | n=>n,fun | 70=>253 | 3=>3 | 0=>0 | 4=>4 | 9=>9 | 20=>20 | 72=>255 | 37=>210 | 164=>311 | 5=>5 | n=>n,fun | n=>n⟩
theorem Tryz.lays165:Go.Proofs.Lays.n165 Tryz.prog Tryz.lays165_ren:={
 mixed:=by kernel_rfl
 f165:=Tryz.func174.trans (congrArg some (by kernel_rfl))
 f240:=Tryz.func213.trans (congrArg some (by kernel_rfl))
 f241:=Tryz.func214.trans (congrArg some (by kernel_rfl))
 f276:=Tryz.func230.trans (congrArg some (by kernel_rfl))
 f277:=Tryz.func231.trans (congrArg some (by kernel_rfl))
 t0:=Tryz.underlying0
 a0:=Tryz.isAgg0
 z0:=Tryz.sizeOf0
 v0:=Tryz.zeroValue0
 t3:=Tryz.underlying3
 a3:=Tryz.isAgg3
 z3:=Tryz.sizeOf3
 v3:=Tryz.zeroValue3
 t4:=Tryz.underlying4
 a4:=Tryz.isAgg4
 z4:=Tryz.sizeOf4
 v4:=Tryz.zeroValue4
 t9:=Tryz.underlying9
 a9:=Tryz.isAgg9
 z9:=Tryz.sizeOf9
 v9:=Tryz.zeroValue9
 t20:=Tryz.underlying20
 a20:=Tryz.isAgg20
 z20:=Tryz.sizeOf20
 v20:=Tryz.zeroValue20
 t37:=Tryz.underlying210
 a37:=Tryz.isAgg210
 z37:=Tryz.sizeOf210
 v37:=Tryz.zeroValue210
 t70:=Tryz.underlying253
 a70:=Tryz.isAgg253
 z70:=Tryz.sizeOf253
 v70:=Tryz.zeroValue253
 t72:=Tryz.underlying255
 a72:=Tryz.isAgg255
 z72:=Tryz.sizeOf255
 v72:=Tryz.zeroValue255
 t164:=Tryz.underlying311
 a164:=Tryz.isAgg311
 z164:=Tryz.sizeOf311
 v164:=Tryz.zeroValue311 }
theorem Tryz.Builder_Extra_165:Builder.Extra Tryz.prog Tryz.lays165_ren:={
 sizeBuilder:=by kernel_rfl
 liesBuilder:=by kernel_rfl
 t5:=Tryz.underlying5
 a5:=Tryz.isAgg5
 z5:=Tryz.sizeOf5
 v5:=Tryz.zeroValue5
 infoByte:=by kernel_rfl
 cellsByte:=by kernel_rfl
 sizeByte:=by kernel_rfl
 neB5:=by decide }
open Go.RowKit in
theorem Tryz.Builder_Grow_fresh (B b n:Nat) (w:World) (hB:B<=b) (zf:w.heap[b]?=some (.cells #[.pointer none,.slice none 0 0] 255 (0,0))) (GJ:B<=w.heap.size) (hn:n<=281474976710656) :
  Calls Tryz.prog 174 #[.pointer (some ⟨b,0,none⟩),.int .i64 n] w fun e w'=>e=.returned (.tuple #[])/\(Lib.BuilderAt 255 5 B b (.pointer (some ⟨b,0,none⟩)) [] w'/\Below B w w'):=Any.Builder_Grow_fresh Tryz.lays165 Tryz.Builder_Extra_165 B b n w hB zf GJ hn
def Tryz.lays125_ren:Go.Shelf.Ren:=⟨fun | 125=>154 | 128=>196 | 129=>146 | n=>n,fun | 46=>136 | 3=>3 | 51=>135 | 53=>45 | 4=>4 | 5=>5 | 9=>9 | n=>n,fun | n=>n⟩
theorem Tryz.lays125:Go.Proofs.Lays.n125 Tryz.prog Tryz.lays125_ren:={
 mixed:=by kernel_rfl
 f125:=Tryz.func154.trans (congrArg some (by kernel_rfl))
 f128:=Tryz.func196.trans (congrArg some (by kernel_rfl))
 f129:=Tryz.func146.trans (congrArg some (by kernel_rfl))
 t3:=Tryz.underlying3
 a3:=Tryz.isAgg3
 z3:=Tryz.sizeOf3
 v3:=Tryz.zeroValue3
 t4:=Tryz.underlying4
 a4:=Tryz.isAgg4
 z4:=Tryz.sizeOf4
 v4:=Tryz.zeroValue4
 t5:=Tryz.underlying5
 a5:=Tryz.isAgg5
 z5:=Tryz.sizeOf5
 v5:=Tryz.zeroValue5
 t9:=Tryz.underlying9
 a9:=Tryz.isAgg9
 z9:=Tryz.sizeOf9
 v9:=Tryz.zeroValue9
 t46:=Tryz.underlying136
 a46:=Tryz.isAgg136
 z46:=Tryz.sizeOf136
 v46:=Tryz.zeroValue136
 t51:=Tryz.underlying135
 a51:=Tryz.isAgg135
 z51:=Tryz.sizeOf135
 v51:=Tryz.zeroValue135
 t53:=Tryz.underlying45
 a53:=Tryz.isAgg45
 z53:=Tryz.sizeOf45
 v53:=Tryz.zeroValue45 }
theorem Tryz.bits_Len (x:Int) (w:World) (h0:0<=x) (h1:x<=18446744073709551615) :
  Calls Tryz.prog 154 #[.int .u64 x] w fun e w'=>e=.returned (.int .i64 (Lib.bitLen x.toNat))/\w'=w:=Any.bits_Len Tryz.lays125 x w h0 h1
def Tryz.lays134_ren:Go.Shelf.Ren:=⟨fun | 134=>207 | 129=>146 | n=>n,fun | 53=>45 | 3=>3 | 4=>4 | 46=>136 | 5=>5 | 9=>9 | n=>n,fun | n=>n⟩
theorem Tryz.lays134:Go.Proofs.Lays.n134 Tryz.prog Tryz.lays134_ren:={
 mixed:=by kernel_rfl
 f129:=Tryz.func146.trans (congrArg some (by kernel_rfl))
 f134:=Tryz.func207.trans (congrArg some (by kernel_rfl))
 t3:=Tryz.underlying3
 a3:=Tryz.isAgg3
 z3:=Tryz.sizeOf3
 v3:=Tryz.zeroValue3
 t4:=Tryz.underlying4
 a4:=Tryz.isAgg4
 z4:=Tryz.sizeOf4
 v4:=Tryz.zeroValue4
 t5:=Tryz.underlying5
 a5:=Tryz.isAgg5
 z5:=Tryz.sizeOf5
 v5:=Tryz.zeroValue5
 t9:=Tryz.underlying9
 a9:=Tryz.isAgg9
 z9:=Tryz.sizeOf9
 v9:=Tryz.zeroValue9
 t46:=Tryz.underlying136
 a46:=Tryz.isAgg136
 z46:=Tryz.sizeOf136
 v46:=Tryz.zeroValue136
 t53:=Tryz.underlying45
 a53:=Tryz.isAgg45
 z53:=Tryz.sizeOf45
 v53:=Tryz.zeroValue45 }
theorem Tryz.bits_LeadingZeros64 (x:Int) (w:World) (h0:0<=x) (h1:x<=18446744073709551615) :
  Calls Tryz.prog 207 #[.int .u64 x] w fun e w'=>e=.returned (.int .i64 (64-(Lib.bitLen x.toNat:Int)))/\w'=w:=Any.bits_LeadingZeros64 Tryz.lays134 x w h0 h1
def Tryz.lays129_ren:Go.Shelf.Ren:=⟨fun | 129=>146 | n=>n,fun | 53=>45 | 3=>3 | 4=>4 | 46=>136 | 5=>5 | 9=>9 | n=>n,fun | n=>n⟩
theorem Tryz.lays129:Go.Proofs.Lays.n129 Tryz.prog Tryz.lays129_ren:={
 mixed:=by kernel_rfl
 f129:=Tryz.func146.trans (congrArg some (by kernel_rfl))
 t3:=Tryz.underlying3
 a3:=Tryz.isAgg3
 z3:=Tryz.sizeOf3
 v3:=Tryz.zeroValue3
 t4:=Tryz.underlying4
 a4:=Tryz.isAgg4
 z4:=Tryz.sizeOf4
 v4:=Tryz.zeroValue4
 t5:=Tryz.underlying5
 a5:=Tryz.isAgg5
 z5:=Tryz.sizeOf5
 v5:=Tryz.zeroValue5
 t9:=Tryz.underlying9
 a9:=Tryz.isAgg9
 z9:=Tryz.sizeOf9
 v9:=Tryz.zeroValue9
 t46:=Tryz.underlying136
 a46:=Tryz.isAgg136
 z46:=Tryz.sizeOf136
 v46:=Tryz.zeroValue136
 t53:=Tryz.underlying45
 a53:=Tryz.isAgg45
 z53:=Tryz.sizeOf45
 v53:=Tryz.zeroValue45 }
theorem Tryz.bits_Len64 (x:Int) (w:World) (h0:0<=x) (h1:x<=18446744073709551615) :
  Calls Tryz.prog 146 #[.int .u64 x] w fun e w'=>e=.returned (.int .i64 (Lib.bitLen x.toNat))/\w'=w:=Any.bits_Len64 Tryz.lays129 x w h0 h1
def Tryz.lays189_ren:Go.Shelf.Ren:=⟨fun | 189=>225 | 125=>154 | 257=>234 | 128=>196 | 129=>146 | 294=>239 | 295=>240 | 296=>241 | 297=>242 | 298=>243 | 299=>244 | 216=>245 | 300=>246 | 301=>247 | 328=>249 | 329=>219 | 330=>220 | 331=>250 | 332=>251 | 215=>252 | 343=>255 | n=>n,fun | 28=>22 | 3=>3 | 46=>136 | 0=>0 | 51=>135 | 53=>45 | 4=>4 | 183=>271 | 182=>270 | 131=>179 | 5=>5 | 9=>9 | 218=>297 | 222=>300 | 228=>316 | 229=>317 | n=>n,fun | n=>n⟩
theorem Tryz.lays189:Go.Proofs.Lays.n189 Tryz.prog Tryz.lays189_ren:={
 mixed:=by kernel_rfl
 f125:=Tryz.func154.trans (congrArg some (by kernel_rfl))
 f128:=Tryz.func196.trans (congrArg some (by kernel_rfl))
 f129:=Tryz.func146.trans (congrArg some (by kernel_rfl))
 f189:=Tryz.func225.trans (congrArg some (by kernel_rfl))
 f215:=Tryz.func252.trans (congrArg some (by kernel_rfl))
 f216:=Tryz.func245.trans (congrArg some (by kernel_rfl))
 f257:=Tryz.func234.trans (congrArg some (by kernel_rfl))
 f294:=Tryz.func239.trans (congrArg some (by kernel_rfl))
 f295:=Tryz.func240.trans (congrArg some (by kernel_rfl))
 f296:=Tryz.func241.trans (congrArg some (by kernel_rfl))
 f297:=Tryz.func242.trans (congrArg some (by kernel_rfl))
 f298:=Tryz.func243.trans (congrArg some (by kernel_rfl))
 f299:=Tryz.func244.trans (congrArg some (by kernel_rfl))
 f300:=Tryz.func246.trans (congrArg some (by kernel_rfl))
 f301:=Tryz.func247.trans (congrArg some (by kernel_rfl))
 f328:=Tryz.func249.trans (congrArg some (by kernel_rfl))
 f329:=Tryz.func219.trans (congrArg some (by kernel_rfl))
 f330:=Tryz.func220.trans (congrArg some (by kernel_rfl))
 f331:=Tryz.func250.trans (congrArg some (by kernel_rfl))
 f332:=Tryz.func251.trans (congrArg some (by kernel_rfl))
 f343:=Tryz.func255.trans (congrArg some (by kernel_rfl))
 t0:=Tryz.underlying0
 a0:=Tryz.isAgg0
 z0:=Tryz.sizeOf0
 v0:=Tryz.zeroValue0
 t3:=Tryz.underlying3
 a3:=Tryz.isAgg3
 z3:=Tryz.sizeOf3
 v3:=Tryz.zeroValue3
 t4:=Tryz.underlying4
 a4:=Tryz.isAgg4
 z4:=Tryz.sizeOf4
 v4:=Tryz.zeroValue4
 t5:=Tryz.underlying5
 a5:=Tryz.isAgg5
 z5:=Tryz.sizeOf5
 v5:=Tryz.zeroValue5
 t9:=Tryz.underlying9
 a9:=Tryz.isAgg9
 z9:=Tryz.sizeOf9
 v9:=Tryz.zeroValue9
 t28:=Tryz.underlying22
 a28:=Tryz.isAgg22
 z28:=Tryz.sizeOf22
 v28:=Tryz.zeroValue22
 t46:=Tryz.underlying136
 a46:=Tryz.isAgg136
 z46:=Tryz.sizeOf136
 v46:=Tryz.zeroValue136
 t51:=Tryz.underlying135
 a51:=Tryz.isAgg135
 z51:=Tryz.sizeOf135
 v51:=Tryz.zeroValue135
 t53:=Tryz.underlying45
 a53:=Tryz.isAgg45
 z53:=Tryz.sizeOf45
 v53:=Tryz.zeroValue45
 t131:=Tryz.underlying179
 a131:=Tryz.isAgg179
 z131:=Tryz.sizeOf179
 v131:=Tryz.zeroValue179
 t182:=Tryz.underlying270
 a182:=Tryz.isAgg270
 z182:=Tryz.sizeOf270
 v182:=Tryz.zeroValue270
 t183:=Tryz.underlying271
 a183:=Tryz.isAgg271
 z183:=Tryz.sizeOf271
 v183:=Tryz.zeroValue271
 t218:=Tryz.underlying297
 a218:=Tryz.isAgg297
 z218:=Tryz.sizeOf297
 v218:=Tryz.zeroValue297
 t222:=Tryz.underlying300
 a222:=Tryz.isAgg300
 z222:=Tryz.sizeOf300
 v222:=Tryz.zeroValue300
 t228:=Tryz.underlying316
 a228:=Tryz.isAgg316
 z228:=Tryz.sizeOf316
 v228:=Tryz.zeroValue316
 t229:=Tryz.underlying317
 a229:=Tryz.isAgg317
 z229:=Tryz.sizeOf317
 v229:=Tryz.zeroValue317 }
open Go.Sort Go.RowKit in
theorem Tryz.slices_Sort_int (blk off cap:Nat) (zs:List Int) (w:World) (hH:Holds (Value.int .i64) w blk off zs.toArray) (xp:blk<w.heap.size) (cd:zs.length<4611686018427387904) :
  Calls Tryz.prog 225 #[.slice (some ⟨blk,off,none⟩) zs.length cap] w fun e w' =>
   e=.returned (.tuple #[])/\∃n os,w'=grow (putRow (Value.int .i64) (Sort.ahead w n) blk off (zs.mergeSort fun x y=>decide (x<=y)).toArray) os:=Any.slices_Sort_int Tryz.lays189 blk off cap zs w hH xp cd
def Tryz.lays264_ren:Go.Shelf.Ren:=⟨fun | 264=>131 | n=>n,fun | 53=>45 | 46=>136 | n=>n,fun | n=>n⟩
theorem Tryz.lays264:Go.Proofs.Lays.n264 Tryz.prog Tryz.lays264_ren:={
 mixed:=by kernel_rfl
 f264:=Tryz.func131.trans (congrArg some (by kernel_rfl))
 t46:=Tryz.underlying136
 a46:=Tryz.isAgg136
 z46:=Tryz.sizeOf136
 v46:=Tryz.zeroValue136
 t53:=Tryz.underlying45
 a53:=Tryz.isAgg45
 z53:=Tryz.sizeOf45
 v53:=Tryz.zeroValue45 }
open Go.RowKit Go.Lib in
theorem Tryz.bits_Mul64 (x y:Nat) (hx:x<18446744073709551616) (hy:y<18446744073709551616) (w:World) :
  Calls Tryz.prog 131 #[.int .u64 x,.int .u64 y] w fun e w'=>e=.returned (.tuple #[.int .u64 ((x*y / 18446744073709551616:Nat):Int),.int .u64 ((x*y % 18446744073709551616:Nat):Int)])/\w'=w:=Any.bits_Mul64 Tryz.lays264 x y hx hy w
def Tryz.laysNm220_ren:Go.Shelf.Ren:=⟨fun | 20=>202 | n=>n,fun | 22=>22 | 3=>3 | 4=>4 | 0=>0 | n=>n,fun | n=>n⟩
theorem Tryz.laysNm220:Go.Proofs.Lays2.n20 Tryz.prog Tryz.laysNm220_ren:={
 mixed:=by kernel_rfl
 f20:=Tryz.func202.trans (congrArg some (by kernel_rfl))
 t0:=Tryz.underlying0
 a0:=Tryz.isAgg0
 z0:=Tryz.sizeOf0
 v0:=Tryz.zeroValue0
 t3:=Tryz.underlying3
 a3:=Tryz.isAgg3
 z3:=Tryz.sizeOf3
 v3:=Tryz.zeroValue3
 t4:=Tryz.underlying4
 a4:=Tryz.isAgg4
 z4:=Tryz.sizeOf4
 v4:=Tryz.zeroValue4
 t22:=Tryz.underlying22
 a22:=Tryz.isAgg22
 z22:=Tryz.sizeOf22
 v22:=Tryz.zeroValue22
 i3:=by kernel_rfl }
open Go.RowKit Go.Lib Go.Sort in
theorem Tryz.slices_Compact_int_empty (a:Option Addr) (cap:Nat) (w:World) :
  Calls Tryz.prog 202 #[.slice a 0 cap] w fun e w'=>e=.returned (.slice a 0 cap)/\w'=w:=Any.slices_Compact_int_empty Tryz.laysNm220 a cap w
open Go.RowKit Go.Lib Go.Sort in
theorem Tryz.slices_Compact_int_cells (b off n c:Nat) (zs:List Int) (w:World) (hz:n<=zs.length) (PG:n<=9223372036854775807) (bZ:n<=c) (hc:∀j,j<zs.length->w.cell? ⟨b,off+j,none⟩=some (.int .i64 (zs.getD j 0))) (hf:∀j,j<n->w.frozen? ⟨b,off+j,none⟩=false) :
  Calls Tryz.prog 202 #[.slice (some ⟨b,off,none⟩) n c] w fun e w'=>e=.returned (.slice (some ⟨b,off,none⟩) (Lib.compact (zs.take n)).length c)/\∃q,w'=(w.drewN q).setCells b off ((Lib.compact (zs.take n)++List.replicate (n-(Lib.compact (zs.take n)).length) 0).map (Value.int .i64)):=Any.slices_Compact_int_cells Tryz.laysNm220 b off n c zs w hz PG bZ hc hf
open Go.RowKit Go.Sort in
theorem Tryz.slices_Sort_int_none (p:Option Addr) (cap:Nat) (w:World) :
  Calls Tryz.prog 225 #[.slice p 0 cap] w fun e w'=>e=.returned (.tuple #[])/\w'=w:=Any.slices_Sort_int_none Tryz.lays189 p cap w
end Go.Proofs
namespace Go.Proofs.YtkeklikocibiaaaGreatDoor
section
open Go.RowKit _root_.Go.Proofs.Tryz
theorem Tryz.sizeBuilder:(Tryz.prog.info? 255).map (·.size)=some 2:=by kernel_rfl
theorem Tryz.liesBuilder:liesAt prog Tryz.prog.depth 255 (2 / Tryz.prog.cellsOf 255) 0 255 1=true:=by kernel_rfl
theorem Tryz.infoU8:(Tryz.prog.info? 5).map (fun i=>(i.zero,i.size,i.bytes))=some (some (.int .u8 0),1,1):=by kernel_rfl
set_option maxRecDepth 100000 in
theorem ziN (b:Nat) (w:World) (h0:w.cell? ⟨b,0,none⟩=some (.pointer (some ⟨b,0,none⟩))) :
  Calls prog 213 #[.pointer (some ⟨b,0,none⟩)] w fun e w'=>e=.returned (.tuple #[])/\w=w':=by
 obtain⟨j,hj,_⟩:=Option.map_eq_some_iff.1 Tryz.sizeBuilder
 go_enter func213,ntmps213;go_wp2;rw[Lib.run_neq_ptr_same w _ Tryz.underlying253 hj];go_wp2
 go_end0;exact⟨rfl,rfl⟩
set_option maxRecDepth 100000 in
theorem zhR (b:Nat) (w:World) (h0:w.cell? ⟨b,0,none⟩=some (.pointer none)) (nF:w.shape? b=some (255,2)) (hfz:w.frozen? ⟨b,0,none⟩=false) :
  Calls prog 213 #[.pointer (some ⟨b,0,none⟩)] w fun e w'=>e=.returned (.tuple #[])/\w'=w.setCell ⟨b,0,none⟩ (.pointer (some ⟨b,0,none⟩)):=by
 obtain⟨j,hj,JO⟩:=Option.map_eq_some_iff.1 Tryz.sizeBuilder
 go_enter func213,ntmps213;go_wp2;rw[Lib.run_to_unsafe w ⟨b,0,none⟩ Tryz.underlying253 Tryz.underlying311 hj (by rw[JO];decide) nF (Nat.zero_lt_succ 1)];simp only[Result.andThen];rw[Oper.upon_value];go_wp2;rw[run_callFunc_extern func230 kR kR kR (e:=Extern.AbiNoEscape.same) kR,Lib.run_noEscape];simp only[Result.andThen];rw[Oper.upon_value];go_wp2;rw[Lib.run_from_unsafe w ⟨b,0,none⟩ Tryz.underlying311 Tryz.underlying253 hj nF Tryz.liesBuilder];simp only[Result.andThen];rw[Oper.upon_value];go_wp2
 go_end0;exact⟨rfl,rfl⟩
theorem zjT (B b:Nat) (bs:List Value) (w:World) (h:Lib.IsBuilder 255 5 B b bs w) :
  Calls prog 213 #[.pointer (some ⟨b,0,none⟩)] w fun e w'=>e=.returned (.tuple #[])/\Lib.BuilderAt 255 5 B b (.pointer (some ⟨b,0,none⟩)) bs w'/\Below B w w':=by
 rcases h with h | h
 ·refine(zhR b w h.cell0 h.shape h.frozen0).mono ?_;rintro e w' ⟨rfl,rfl⟩;exact⟨rfl,h.used _,(Below.refl B w).setCell (p:=⟨b,0,none⟩) h.1 _⟩
 ·refine(ziN b w h.cell0).mono ?_;rintro e w' ⟨rfl,rfl⟩;exact⟨rfl,h,Below.refl B _⟩
set_option maxRecDepth 100000 in
theorem zlo (B b:Nat) (bs:List Value) (c:Int) (w:World) (h:Lib.IsBuilder 255 5 B b bs w) (hlen:bs.length+1<=100000000000) (GJ:B<=w.heap.size) :
  Calls prog 175 #[.pointer (some ⟨b,0,none⟩),.int .u8 c] w fun e w'=>e=.returned .nilIface/\Lib.IsBuilder 255 5 B b (bs++[.int .u8 c]) w'/\Below B w w':=by
 go_enter func175,ntmps175
 go_wp2_with fail;refine(zjT B b bs w h).mono ?_;rintro e w1 ⟨rfl,⟨hB,v,zf,ah,hne⟩,cG⟩;have c1:w1.cell? ⟨b,1,none⟩=some v:=by rw[Lib.cell_of_heap zf];rfl
 have af:=lt_of_block zf;have cd:=cG.size;have HB:Hid (∀w2,bK (fun k=>v.ownBlock=some k) w1 w2->w2.heap[b]?=some (.cells #[.pointer (some ⟨b,0,none⟩),v] 255 (0,0))):=hid (fun w2 kk=>by rw[kk.block b af hne];exact zf)
 go_wp2_with (at_builtin;refine app1 Z _ _ 210 Z B 5 (.int .u8 0) 1 Tryz.infoU8 Tryz.underlying210 Z _ _ _ Z ah _ Z Z oM oM oM ?_;intro g cap w2 aD oS;have cP:=HB.out w2 oS;have d1:w2.cell? ⟨b,1,none⟩=some v:=(by rw[Lib.cell_of_heap cP];rfl);have f1:w2.frozen? ⟨b,1,none⟩=false:=Lib.frozen_of_heap cP 1;clear cP)
 go_ret;have cP:=HB.out w2 oS;refine⟨rfl,.inr (Lib.BuilderAt.put (T:=255) (e:=5) hB cP (bs':=bs++[.int .u8 c]) (by simpa using aD) (by decide)),?_⟩;exact(cG.trans (oS.below B (qI GJ cd) (fun k hk e=>by have:=(ah.lt k e).1;omega))).setCell (p:=⟨b,1,none⟩) hB _
theorem Zu (l:List Nat):(toB l).data.toList=l.map UInt8.ofNat:=by simp[toB]
theorem Zl {l:List Nat} (h:Dig 256 l):(l.map UInt8.ofNat).map UInt8.toNat=l:=by
 rw[List.map_map]
 conv=>rhs;rw[<-List.map_id l]
 apply List.map_congr_left;intro x hx;have:=h x hx;simp[UInt8.toNat_ofNat',qT this]
theorem IW (n k:Nat) (hk:k<(hiW n).length) (t:ByteArray) (ht:t.data.toList=(aU n).data.toList.drop (8*k)):8<=t.size/\val 256 ((t.data.toList.take 8).map UInt8.toNat)=(hiW n)[k]:=by
 have hs:t.size=(aU n).size-8*k:=by rw[<-rL t,ht,qt,rL]
 rw[Ab]at hs;refine⟨by omega,?_⟩;rw[ht,aU,Zu,<-List.map_drop,<-List.map_take,Zl ((UG _).drop _ |>.take _)];exact zlq _ (zT n).1 k hk
theorem yz (s:ByteArray) (a b:Nat) (hb:b=s.size):(s.extract a b).data.toList=s.data.toList.drop a:=by
 subst hb;rw[ByteArray.data_extract,Array.toList_extract,List.extract_eq_take_drop];apply qO;rw[qt];exact qH _
set_option maxRecDepth 100000 in
theorem LU (n:Nat) (w:World) (h0:n≠0) (hn:bl n<=1000000000) :
  Calls prog 134 #[aH n] w fun e w'=>∃g,w.heap.size<=g/\e=.returned (.slice (some ⟨g,0,none⟩) (dig W64 n).length (dig W64 n).length)/\fy n64 45 w' g (dig W64 n)/\Below w.heap.size w w':=by
 have kn:=L0 n h0;have hlen:=Ip n;have nK:=Ab n;have hH:(hiW n).length<=100000000:=oM;have lu:=zW (1+((hiW n).length:Int)) (1+(hiW n).length) oM oM;have HL:=hid (And.intro kn (And.intro hlen nK));clear hlen nK hn kn;have m1:=@zmP;have m2:=@zrE;have m3:=@zpz;have m4:=Ma;by_cases h:n<W64
 ·have HH:=hid (Cb.2 h);have OM:=zW 1 1 oM oM;have cF:((n:Int) == 0)=false:=by simp;omega
  clear lu;rw[iK h]
  go_enter func134,ntmps134;go_wp2
  have pg:fy n64 45 ((ic (w.alloc (.cells #[.int .u64 (n:Int),.string ⟨#[]⟩] 47)) 1).setCell ⟨w.heap.size+1,0,none⟩ (.int .u64 (n:Int))) (w.heap.size+1) [n]:=by
   have:=(Tk (w.alloc (.cells #[.int .u64 (n:Int),.string ⟨#[]⟩] 47)) 1).set 0 n;simpa using this
  have ru:Below w.heap.size w ((ic (w.alloc (.cells #[.int .u64 (n:Int),.string ⟨#[]⟩] 47)) 1).setCell ⟨w.heap.size+1,0,none⟩ (.int .u64 (n:Int))) :=
   (yE ((Below.refl _ _).alloc (qH _) _) (by simp) 1).setCell (p:=⟨w.heap.size+1,0,none⟩) (by simp) _
  generalize ((ic (w.alloc (.cells #[.int .u64 (n:Int),.string ⟨#[]⟩] 47)) 1).setCell ⟨w.heap.size+1,0,none⟩ (.int .u64 (n:Int)))=W at *
  clear m1 m2 m3 m4 OM;refine wp_loop_rounds 1 ?_;rw[rounds_succ];go_wp2
  go_ret;have e:dig W64 n=[n]:=by rw[HL.out.1,HH.out,zS h]
  rw[e];exact⟨w.heap.size+1,by omega,rfl,pg,ru⟩
 ·have hm:=D1 h;have sM:(aU n).size=8*(hiW n).length:=HL.out.2.2
  have hp:0<(hiW n).length:=by
   rcases qz (hiW n).length with e | e
   ·exact absurd (Cb.1 (List.eq_nil_of_length_eq_zero e)) h
   ·exact e
  have hq:0<1+(hiW n).length:=oM
  go_enter func134,ntmps134;go_wp2
  have pg:fy n64 45 ((ic (w.alloc (.cells #[.int .u64 (lo n:Int),.string (aU n)] 47)) (1+(hiW n).length)).setCell ⟨w.heap.size+1,0,none⟩ (.int .u64 (lo n:Int))) (w.heap.size+1) (lo n::List.replicate (hiW n).length 0):=by
   have:=(Tk (w.alloc (.cells #[.int .u64 (lo n:Int),.string (aU n)] 47)) (1+(hiW n).length)).set 0 (lo n);rw[Nat.add_comm 1,List.replicate_succ,List.set_cons_zero]at this;rw[Nat.add_comm 1];simpa using this
  have ru:Below w.heap.size w ((ic (w.alloc (.cells #[.int .u64 (lo n:Int),.string (aU n)] 47)) (1+(hiW n).length)).setCell ⟨w.heap.size+1,0,none⟩ (.int .u64 (lo n:Int))) :=
   (yE ((Below.refl _ _).alloc (qH _) _) (by simp) _).setCell (p:=⟨w.heap.size+1,0,none⟩) (by simp) _
  have rh:((ic (w.alloc (.cells #[.int .u64 (lo n:Int),.string (aU n)] 47)) (1+(hiW n).length)).setCell ⟨w.heap.size+1,0,none⟩ (.int .u64 (lo n:Int))).cell? ⟨w.heap.size,1,none⟩=some (.string (aU n)):=by
   rw[(D5 _ ⟨w.heap.size+1,0,none⟩ _).cell (by simp[ic];omega) (by simp),zmP (by simp),World.cell?_alloc_at _ _ _ _ rfl];rfl
  generalize ((ic (w.alloc (.cells #[.int .u64 (lo n:Int),.string (aU n)] 47)) (1+(hiW n).length)).setCell ⟨w.heap.size+1,0,none⟩ (.int .u64 (lo n:Int)))=W at *
  clear m1 m2 m3 m4 lu
  go_loopg [4] (hiW n).length (fun g i wr=>∃k:Nat,k+g=(hiW n).length/\i=.int .i64 (1+(k:Int))/\fy n64 45 wr (w.heap.size+1) ((lo n::(hiW n).take k)++List.replicate g 0)/\wr.cell? ⟨w.heap.size,1,none⟩=some (.string (aU n))/\Below w.heap.size w wr)
  case atStart=>exact⟨0,by omega,rfl,by simpa using pg,rh,ru⟩
  case round =>
   obtain⟨k,hk,rfl,hB,FD,hK⟩:=hrel;have HK:=hid hk;clear hk;by_cases af:k<(hiW n).length
   ·have hw:=IW n k af ((aU n).extract (8*k) (8*(hiW n).length)) (yz _ _ _ sM.symm)
    have JV:((aU n).extract (8*k) (8*(hiW n).length)).size<=100000000000:=by
     rw[<-rL,yz _ _ _ sM.symm,qt,rL,sM];omega
    have bq:(hiW n).take (k+1)=(hiW n).take k++[(hiW n)[k]]:=qS af;generalize (hiW n)[k]=x at *
    obtain⟨nz,mO⟩:=hw;have HX:=hid (And.intro mO bq);clear mO bq
    go_wp2_with fail;refine(Sh _ wr nz JV).mono ?_;rintro e w1 ⟨rfl,cG,_⟩;rw[HX.out.1];have rA:=hB.below cG;have OQ:=(cG.cell (p:=⟨w.heap.size,1,none⟩) (by have:=hB.lt;simp;omega)).trans FD;have dc:((lo n::(hiW n).take k)++List.replicate gk 0).length=1+(hiW n).length:=by have:=HK.out;simp;omega
    have HLL:=hid dc;obtain⟨v0,hc⟩:=rA.has (1+k) oM;have hf:=rA.free (1+k);clear dc;have q1:1+k<1+(hiW n).length:=oM;go_wp2
    go_roundg (gk-1)
    case measure=>have:=HK.out;omega
    case rel =>
     refine⟨k+1,by have:=HK.out;omega,by go_num,?_,?_,?_⟩
     ·have hs:=rA.set (1+k) x
      have e:((lo n::(hiW n).take k)++List.replicate gk 0).set (1+k) x=(lo n::(hiW n).take (k+1))++List.replicate (gk-1) 0:=by
       have:=HK.out;obtain⟨g,rfl⟩:∃g,gk=g+1:=⟨gk-1,by omega⟩;rw[HX.out.2,List.set_append_right _ _ (by simp;omega),show 1+k-(lo n::(hiW n).take k).length=0 by simp;omega];simp[List.replicate_succ]
      rw[e]at hs;exact hs
     ·rw[(D5 _ ⟨w.heap.size+1,1+k,none⟩ _).cell (by have:=rA.lt;simp;omega) (by simp)];exact OQ
     ·exact(hK.trans (cG.mono hK.size)).setCell (p:=⟨w.heap.size+1,1+k,none⟩) (by simp) _
   ·obtain rfl:k=(hiW n).length:=by have:=HK.out;omega
    obtain rfl:gk=0:=by have:=HK.out;omega
    rw[qa,List.replicate_zero,qG]at hB;go_wp2
    go_ret;rw[HL.out.1];exact⟨w.heap.size+1,by omega,by simp[Nat.add_comm],hB,hK⟩
abbrev n8 (n:Nat):Value:=.int .u8 (n:Int)
theorem zjU {l:List Nat} (h:Dig 256 l):Lib.byteCells (l.map UInt8.ofNat)=l.map n8:=by
 unfold Lib.byteCells;rw[List.map_map];apply List.map_congr_left;intro x hx;have:=h x hx;simp[UInt8.toNat_ofNat',qT this]
theorem Zy (z q:Nat):((z:Int) / 2 ^ (8*q) % 256)=((z / 256 ^ q % 256:Nat):Int):=by
 have e:(2:Int) ^ (8*q)=((256 ^ q:Nat):Int):=by rw[Int.pow_mul,Int.natCast_pow];rfl
 rw[e];rfl
theorem Sl.belowB {α:Type} {enc:α->Value} {B:Nat} {w w':World} {v:Value} {l:List α} (h:Sl enc w v l) (k:Below B w w') (hx:∀b off len cap,v=.slice (some ⟨b,off,none⟩) len cap->b<B):Sl enc w' v l :=
 h.kept (X:=fun k=>B<=k) ⟨k.os,k.tape,k.output,k.size,fun i _ hi=>k.block i oM⟩ (fun b off len cap e=>by have:=hx b off len cap e;omega)
set_option maxRecDepth 100000 in
theorem MG (a:Option Addr) (cap:Nat) (l:List Nat) (w:World) (hS:Sl n64 w (.slice a l.length cap) l) (hD:Dig W64 l) (hl:l.length<=100000000) (bZ:l.length<=cap) :
  Calls prog 132 #[.slice a l.length cap] w fun e w'=>e=.returned (aH (val W64 l))/\Below w.heap.size w w':=by
 have hn:=Ei hD;have hv:=Cq W64 l;have gS:=Cw l;have kt:=hS.pre (cg l).length gS;rw[IZ]at kt;have C5:=kt;have h0:Below w.heap.size w (w.alloc (.cells #[.int .u64 0,.string ⟨#[]⟩] 47)):=(Below.refl _ _).alloc (qH _) _;have W2:=hS.below h0;have kt:=kt.below h0;rw[<-hv];have HT:=hid (US a cap l _ W2 oM bZ);generalize cg l=m at *
 clear hS W2 hv
 match m,hn,gS,kt,C5 with
 | [],hn,gS,kt,C5 =>
  rw[nx,iK (by decide)]
  go_enter func132,ntmps132
  go_wp2_with fail;refine HT.out.mono ?_;rintro e w1 ⟨rfl,rfl⟩;go_wp2;exact bodyPost_ret (v:=.agg #[.int .u64 0,.string ⟨#[]⟩]) (by simp[results,Tryz.results132,go_sem]) rfl ⟨rfl,h0⟩
 | [x],hn,gS,kt,C5 =>
  have hx:=hn.1 x (pK.2 rfl);have e:val W64 [x]=x:=by simp[val]
  rw[e,iK hx];obtain⟨b,off,rfl,hb,hc⟩:=kt.at 0 (by simp);rw[qY]at hc;simp only[List.getElem_cons_zero]at hc
  go_enter func132,ntmps132
  go_wp2_with fail;refine HT.out.mono ?_;rintro e w1 ⟨rfl,rfl⟩;go_wp2;refine bodyPost_ret (v:=.agg #[.int .u64 (x:Int),.string ⟨#[]⟩]) (by simp[results,Tryz.results132,go_sem]) rfl ⟨rfl,?_⟩;exact(Below.refl _ _).alloc (qH _) _
 | x::y::r,hn,gS,kt,C5 =>
  have hx:=hn.1 x (qf ..);have Wb:=hn.tail
  have eV:aH (val W64 (x::y::r))=.agg #[.int .u64 (x:Int),.string (toB (iW (y::r)))]:=by
   unfold aH aU;rw[YH x _ hx,ZY x _ hx Wb]
  rw[eV];clear eV;obtain⟨b,off,rfl,hb,hc⟩:=kt.at 0 (by simp);obtain⟨b0,off0,e0,jq,_⟩:=C5.at 0 (by simp);cases e0;rw[qY]at hc;simp only[List.getElem_cons_zero]at hc;have hlen:(x::y::r).length=r.length+2:=rfl;rw[hlen]at gS kt;have HTT:=HT.out;rw[hlen]at HTT;have HT:=hid HTT;clear HTT hlen C5;have eA:¬cap=1:=oM
  go_enter func132,ntmps132
  go_wp2_with fail;refine HT.out.mono ?_;rintro e w1 ⟨rfl,rfl⟩;have t0:(((r.length+2:Nat):Int) == 0)=false:=by simp;omega
  have t1:(((r.length+2:Nat):Int) == 1)=false:=by simp;omega
  go_wp2_with fail
  have zf:((w.alloc (.cells #[.int .u64 0,.string ⟨#[]⟩] 47)).alloc (.cells #[.pointer none,.slice none 0 0] 255)).heap[w.heap.size+1]?=some (.cells #[.pointer none,.slice none 0 0] 255 (0,0)):=by
   have:=heap_alloc_new (w.alloc (.cells #[.int .u64 0,.string ⟨#[]⟩] 47)) (.cells #[.pointer none,.slice none 0 0] 255);simpa using this
  have VY:((w.alloc (.cells #[.int .u64 0,.string ⟨#[]⟩] 47)).alloc (.cells #[.pointer none,.slice none 0 0] 255)).heap[w.heap.size]?=some (.cells #[.int .u64 0,.string ⟨#[]⟩] 47 (0,0)):=by
   rw[Below.heap_alloc _ _ _ (by simp)];exact heap_alloc_new w _
  have cd:((w.alloc (.cells #[.int .u64 0,.string ⟨#[]⟩] 47)).alloc (.cells #[.pointer none,.slice none 0 0] 255)).heap.size=w.heap.size+2:=by simp
  have By:Below w.heap.size w ((w.alloc (.cells #[.int .u64 0,.string ⟨#[]⟩] 47)).alloc (.cells #[.pointer none,.slice none 0 0] 255)):=h0.alloc (by simp) _;have hS2:=kt.below ((Below.refl _ (w.alloc (.cells #[.int .u64 0,.string ⟨#[]⟩] 47))).alloc (qH _) (.cells #[.pointer none,.slice none 0 0] 255));have iQ:b<w.heap.size+1:=oM;have hbn:¬b=w.heap.size:=oM;have hbn2:¬w.heap.size=b:=oM;generalize ((w.alloc (.cells #[.int .u64 0,.string ⟨#[]⟩] 47)).alloc (.cells #[.pointer none,.slice none 0 0] 255))=W1 at *
  clear h0 kt hc HT t0 t1 hb;rw[show (8*((r.length:Int)+2-1))=((8*(r.length+1):Nat):Int) by omega];refine(Tryz.Builder_Grow_fresh (w.heap.size+1) (w.heap.size+1) (8*(r.length+1)) W1 (qH _) zf oM oM).mono ?_;rintro e w2 ⟨rfl,Gg,cP⟩;have HS:=hid cd;have HR:=hid VY;clear cd VY zf;have cF:∀b' dH EC bz,Value.slice (some ⟨b,off,none⟩) (r.length+2) cap=.slice (some ⟨b',dH,none⟩) EC bz->b'<w.heap.size+1:=fun b' dH EC bz e=>by cases e;exact iQ
  have HLO:=hid cF;clear cF;go_wp2
  go_loopg [5,6,28,32] (r.length+1) (fun g _ _ i _ wr=>∃j:Nat,j+g=r.length+1/\i=.int .i64 j/\Lib.IsBuilder 255 5 (w.heap.size+1) (w.heap.size+1) ((iW ((y::r).take j)).map n8) wr/\Below (w.heap.size+1) W1 wr)
  case atStart=>exact⟨0,by omega,rfl,.inr Gg,cP⟩
  case round =>
   obtain⟨j,hj,rfl,xr,ei⟩:=hrel;have WZ:=hS2.belowB ei HLO.out;have HJ:=hid hj;clear hj;by_cases af:j<r.length+1
   ·have fT:decide ((j:Int)<(r.length:Int)+1)=true:=by simp;omega
    have Wl:j<(y::r).length:=by simp;omega
    obtain⟨b',dH,e',dF,dV⟩:=WZ.at (j+1) (by simp;omega);cases e';simp only[List.getElem_cons_succ]at dV;have hz:=Wb.1 (y::r)[j] (List.getElem_mem Wl);have bq:(y::r).take (j+1)=(y::r).take j++[(y::r)[j]]:=qS Wl;generalize (y::r)[j]=z at *
    rw[show off+(j+1)=off+1+j by omega]at dV;have HTS:=hid bq;clear bq;have cI:(iW ((y::r).take j)).length=8*j:=by rw[MH];simp;omega
    have HBL:=hid cI;clear cI;generalize hP:iW ((y::r).take j)=P at *
    have HP:=hid hP;clear hP;go_wp2
    go_loopg [6,32] 8 (fun g _ kk wr=>∃q:Nat,q+g=8/\kk=.int .i64 q/\Lib.IsBuilder 255 5 (w.heap.size+1) (w.heap.size+1) ((P++kv 256 z q).map n8) wr/\Below (w.heap.size+1) W1 wr)
    case atStart=>exact⟨0,by omega,rfl,by simpa[kv] using xr,ei⟩
    case round =>
     obtain⟨q,hq,rfl,Gf,mZ⟩:=hrel;by_cases V2:q<8
     ·have HQ:=hid hq;clear hq
      go_wp2_with fail;rw[Zy];refine(zlo (w.heap.size+1) (w.heap.size+1) _ _ wr Gf (by have:=HBL.out;simp[wg];omega) (by have:=mZ.size;have:=HS.out;omega)).mono ?_;rintro e w5 ⟨rfl,PI,J2⟩;go_wp2
      go_roundg (gk-1)
      case measure=>have:=HQ.out;omega
      case rel =>
       refine⟨q+1,by have:=HQ.out;omega,by go_num,?_,mZ.trans J2⟩;rw[L1,<-qZ,qo];exact PI
     ·obtain rfl:q=8:=oM;go_wp2
      go_roundg (r.length+1-(j+1))
      case measure=>have:=HJ.out;omega
      case rel =>
       refine⟨j+1,by omega,by go_num,?_,mZ⟩;rw[HTS.out,ziO,Ja,znw,qG,HP.out];exact Gf
   ·obtain rfl:j=r.length+1:=by have:=HJ.out;omega
    have bq:(y::r).take (r.length+1)=y::r:=qO (by simp);rw[bq]at xr;rw[<-zjU (UG _)]at xr;obtain⟨b',dH,e',dF,dV⟩:=WZ.at 0 (by simp);cases e';rw[qY]at dV;simp only[List.getElem_cons_zero]at dV;have uD:wr.heap[w.heap.size]?=some (.cells #[.int .u64 0,.string ⟨#[]⟩] 47 (0,0)):=by rw[ei.block _ (by omega)];exact HR.out
    have hzr:w.heap.size+2<=wr.heap.size:=by have:=ei.size;have:=HS.out;omega
    have q0:0<r.length+2:=oM;have q1:(0:Int)<(r.length:Int)+2:=oM;go_wp2;have hbz:b<wr.heap.size:=oM
    go_region_held3 (fun w'=>w'.cell? ⟨b,off,none⟩=some (n64 x)) (first|exact dV|go_keep) (first
     | (go_at_call 176;refine(Tryz.Builder_String_any (w.heap.size+1) (w.heap.size+1) _ wr.drew xr (by show w.heap.size+1<=wr.heap.size;omega)).mono ?_;rintro e w6 ⟨rfl,J1⟩;replace dV:=(J1.cell (p:=⟨b,off,none⟩) iQ).trans dV;have oI:w6.heap[w.heap.size]?=some (.cells #[.int .u64 0,.string ⟨#[]⟩] 47 (0,0)):=(by rw[J1.block _ (by omega)];exact uD);have hz6:w.heap.size+2<=w6.heap.size:=qI hzr J1.size;have r0:w6.cell? ⟨w.heap.size,0,none⟩=some (.int .u64 0):=(by rw[Lib.cell_of_heap oI];rfl);have r1:w6.cell? ⟨w.heap.size,1,none⟩=some (.string ⟨#[]⟩):=(by rw[Lib.cell_of_heap oI];rfl);have rf0:w6.frozen? ⟨w.heap.size,0,none⟩=false:=Lib.frozen_of_heap oI 0;have rf1:w6.frozen? ⟨w.heap.size,1,none⟩=false:=Lib.frozen_of_heap oI 1;have HRB:=hid oI;clear oI))
    go_wp2;have hf0:=HRB.out;refine bodyPost_ret (v:=.agg #[.int .u64 (x:Int),.string (toB (iW (y::r)))]) (by simp[results,Tryz.results132,go_sem,r0,r1,toB]) rfl ⟨rfl,?_⟩;have k1:Below w.heap.size w wr:=By.trans (ei.mono oM);have k2:Below w.heap.size w w6:=k1.drew.trans (J1.mono oM);exact(k2.setCell (p:=⟨w.heap.size,0,none⟩) (qH _) _).setCell (p:=⟨w.heap.size,1,none⟩) (qH _) _
theorem Hq (W p:Nat):2 ^ (64*W+p)=W64 ^ W*2 ^ p:=by rw[Nat.pow_add,Nat.pow_mul,fB]
theorem L5 (p:Nat):(2:Int) ^ p=((2 ^ p:Nat):Int):=by rw[Int.natCast_pow];rfl
theorem Cf (x p:Nat):(x:Int) / 2 ^ p=((x / 2 ^ p:Nat):Int):=by rw[L5];rfl
theorem DU (x p:Nat):IntKind.u64.wrap ((x:Int)*2 ^ p)=((x*2 ^ p % W64:Nat):Int):=by
 rw[L5,<-Int.natCast_mul,vZ];rfl
theorem Lb (o x p:Nat) (hp:p<=64) (ho:o<2 ^ p):bits .or .u64 (o:Int) (IntKind.u64.wrap ((x:Int)*2 ^ p))=((o+x*2 ^ p % W64:Nat):Int)/\o+x*2 ^ p % W64<W64:=by
 have h:=Yi 64 p x o hp ho;rw[<-fB]at h
 have oJ:o<W64:=by
  rw[fB];exact Nat.lt_of_lt_of_le ho (qc oM hp)
 rw[DU,u64_or_nat o (x*2 ^ p % W64) oJ (qm _ (by decide)),h.1];exact⟨rfl,h.2⟩
theorem getD_set_ne (l:List Nat) (i j v:Nat) (h:i≠j):(l.set j v).getD i 0=l.getD i 0:=by
 simp[qB,List.getElem?_set_ne (Ne.symm h)]
theorem yC (l:List Nat) (j v:Nat) (h:j<l.length):(l.set j v).getD j 0=v:=by
 simp[qB,h]
theorem zkL (out l:List Nat) (j W p x o:Nat) (hp:p<64) (hx:x<W64) (hlen:j+W+1<out.length) (hD:Dig W64 out) (ho:out.getD (j+W) 0=o) (Fu:o<2 ^ p)
  (hz:∀i,j+W<i->out.getD i 0=0) (hv:val W64 out=val W64 (l.take j)*2 ^ (64*W+p)) (ht:val W64 (l.take (j+1))=val W64 (l.take j)+x*W64 ^ j) :
  Dig W64 ((out.set (j+W) (o+x*2 ^ p % W64)).set (j+W+1) (x / 2 ^ (64-p))) /\
  val W64 ((out.set (j+W) (o+x*2 ^ p % W64)).set (j+W+1) (x / 2 ^ (64-p)))=val W64 (l.take (j+1))*2 ^ (64*W+p) /\
  ((out.set (j+W) (o+x*2 ^ p % W64)).set (j+W+1) (x / 2 ^ (64-p))).getD (j+1+W) 0<2 ^ p /\
  (∀i,j+1+W<i->((out.set (j+W) (o+x*2 ^ p % W64)).set (j+W+1) (x / 2 ^ (64-p))).getD i 0=0):=by
 have hA:=(Lb o x p oM Fu).2;have hC:x / 2 ^ (64-p)<2 ^ p:=KC 64 p x oM (by rw[<-fB];exact hx);have hC2:x / 2 ^ (64-p)<W64:=Nat.lt_of_le_of_lt (Nat.div_le_self _ _) hx;have hs:=Rr 64 p x oM;rw[<-fB]at hs;refine⟨(hD.set _ _ hA).set _ _ hC2,?_,?_,?_⟩
 ·have v1:=kx W64 out (j+W) (o+x*2 ^ p % W64) oM;have v2:=kx W64 (out.set (j+W) (o+x*2 ^ p % W64)) (j+W+1) (x / 2 ^ (64-p)) (by simpa using hlen);rw[getD_set_ne _ _ _ _ oM,hz _ oM,Nat.zero_mul,qY]at v2;rw[ho]at v1;rw[v2,ht,Hq];rw[Hq]at hv;generalize x / 2 ^ (64-p)=C at *
  generalize x*2 ^ p % W64=s at *
  have e1:val W64 (out.set (j+W) (o+s))=val W64 out+s*W64 ^ (j+W):=by rw[qv]at v1;omega
  rw[e1,hv,qX];have e2:x*W64 ^ j*(W64 ^ W*2 ^ p)=(x*2 ^ p)*W64 ^ (j+W):=by rw[Nat.pow_add];grind
  rw[qv _ (x*W64 ^ j),e2,<-hs];grind
 ·rw[show j+1+W=j+W+1 by omega,yC _ _ _ (by simpa using hlen)];exact hC
 ·intro i hi;rw[getD_set_ne _ _ _ _ oM,getD_set_ne _ _ _ _ (by omega)];exact hz i oM
def dW (p:Nat):List Nat->List Nat
 | []=>[]
 | x::m=>(x / 2 ^ p+m.getD 0 0*2 ^ (64-p) % W64)::dW p m
theorem Mz (p:Nat) (m:List Nat):(dW p m).length=m.length:=by
 induction m with
 | nil=>rfl
 | cons x m ih=>simp[dW,ih]
theorem La (p:Nat) (m:List Nat) (i:Nat) (h:i<(dW p m).length):(dW p m)[i]=m.getD i 0 / 2 ^ p+m.getD (i+1) 0*2 ^ (64-p) % W64:=by
 induction m generalizing i with
 | nil=>simp[dW]at h
 | cons x m ih =>
  cases i with
  | zero=>simp[dW]
  | succ i =>
   simp only[dW,List.getElem_cons_succ];rw[ih i (by simpa[dW] using h)];simp
theorem K9 (x y p:Nat) (hp:p<64) (hx:x<W64):bits .or .u64 ((x / 2 ^ p:Nat):Int) (IntKind.u64.wrap ((y:Int)*2 ^ (64-p)))=((x / 2 ^ p+y*2 ^ (64-p) % W64:Nat):Int)/\x / 2 ^ p+y*2 ^ (64-p) % W64<W64:=by
 refine Lb (x / 2 ^ p) y (64-p) oM ?_;have:=KC 64 (64-p) x oM (by rw[<-fB];exact hx)
 rwa [show 64-(64-p)=p by omega]at this
theorem S8 (p:Nat) (hp:p<64) {m:List Nat} (h:Dig W64 m):Dig W64 (dW p m):=by
 intro z hz;obtain⟨i,hi,rfl⟩:=List.mem_iff_getElem.1 hz;rw[La];exact(K9 _ _ p hp (h.getD (by decide) i)).2
theorem S7 (p:Nat) (hp:p<64) {m:List Nat} (h:Dig W64 m):val W64 (dW p m)=val W64 m / 2 ^ p:=by
 induction m with
 | nil=>simp[dW,val]
 | cons x m ih =>
  have ih:=ih (fun y hy=>h y (qk _ hy));rw[dW,kA,ih,kA];have e0:W64=2 ^ p*2 ^ (64-p):=by rw[fB,<-Nat.pow_add];congr 1;omega
  have hy:m.getD 0 0*2 ^ (64-p) % W64=2 ^ (64-p)*(val W64 m % 2 ^ p):=by
   have h1:=(LJ 64 (64-p) (m.getD 0 0) oM).1;rw[<-fB,show 64-(64-p)=p by omega]at h1;rw[h1];have h2:=dO W64 m 0;rw[List.drop_zero]at h2;rw[h2,e0,Nat.mul_assoc,Nat.add_mul_mod_self_left]
  rw[hy];generalize val W64 m=V
  have e1:(x+W64*V) / 2 ^ p=x / 2 ^ p+2 ^ (64-p)*V:=by
   rw[e0,Nat.mul_assoc,Nat.add_mul_div_left _ _ (Nat.pow_pos oM)]
  rw[e1];have e2:=qj V (2 ^ p);have e3:2 ^ (64-p)*V=2 ^ (64-p)*(2 ^ p*(V / 2 ^ p)+V % 2 ^ p):=by rw[e2]
  rw[e3,e0];grind
theorem Zi (l:List Nat) (W p:Nat) (h:Dig W64 l) (hp:p<64) (hW:W<=l.length):val W64 (dW p (l.drop W))=val W64 l / 2 ^ (64*W+p):=by
 rw[S7 p hp (h.drop W),Hq,<-Nat.div_div_eq_div_mul,ep W64 l W hW];have:=cZ (h.take W);rw[qP,qn hW]at this;rw[Nat.add_mul_div_left _ _ (Nat.pow_pos (by decide)),Nat.div_eq_of_lt this,qu]
end
section
structure mD (B v1 v0 u c q r:Nat):Prop where
 eq:q*v1+r=u
 ge:(u*B+c) / (v1*B+v0)<=q
theorem mD.start {B v1 v0 u c:Nat} (h1:0<v1) (hB:0<B) (hc:c<B):mD B v1 v0 u c (u / v1) (u % v1):=by
 refine⟨by rw[qW];exact qj u v1,?_⟩;have hy:0<v1*B+v0:=by have:=Nat.mul_pos h1 hB;omega
 have:(u*B+c) / (v1*B+v0)<u / v1+1:=by
  rw[Nat.div_lt_iff_lt_mul hy];have e:=qj u v1;have hm:=qm u h1;generalize u / v1=q at *
  generalize u % v1=m at *
  subst e;have h2:(v1*q+m+1)*B<=(v1*q+v1)*B:=qN B oM;have h3:(q+1)*(v1*B+v0)=(v1*q+v1)*B+(q+1)*v0:=by grind
  rw[qv _ 1,Nat.one_mul]at h2;omega
 omega
theorem mD.down {B v1 v0 u c q r:Nat} (h:mD B v1 v0 u c q r) (hu:u<v1*B+v0) (hc:c<B) (hq:B<=q\/r*B+c<q*v0):0<q/\mD B v1 v0 u c (q-1) (r+v1):=by
 have hy:0<v1*B+v0:=oM
 have hQ:(u*B+c) / (v1*B+v0)<B:=by
  rw[Nat.div_lt_iff_lt_mul hy];have:(u+1)*B<=(v1*B+v0)*B:=qN B hu;rw[qv,Nat.one_mul]at this;rw[qW B];omega
 have af:(u*B+c) / (v1*B+v0)<q:=by
  rcases hq with hq | hq
  ·omega
  ·rw[Nat.div_lt_iff_lt_mul hy,<-h.eq];have:q*(v1*B+v0)=q*v1*B+q*v0:=by grind
   rw[this,qv];omega
 have nI:0<q:=Nat.lt_of_le_of_lt (qQ _) af;refine⟨nI,?_,Nat.le_sub_one_of_lt af⟩;obtain⟨k,rfl⟩:∃k,q=k+1:=⟨q-1,by omega⟩;have:=h.eq;rw[Nat.add_sub_cancel];rw[qv,Nat.one_mul]at this;omega
theorem mD.done {B v1 v0 u c q r:Nat} (h:mD B v1 v0 u c q r) (hy:0<v1*B+v0) (hq:q*v0<=r*B+c):q=(u*B+c) / (v1*B+v0):=by
 apply Nat.le_antisymm _ h.ge;rw[Nat.le_div_iff_mul_le hy,<-h.eq];have:q*(v1*B+v0)=q*v1*B+q*v0:=by grind
 rw[this,qv];omega
theorem mD.over {B v1 v0 u c q r:Nat} (h:mD B v1 v0 u c q r) (hu:u<v1*B+v0) (hv:v0<B) (hr:B<=r):q<B/\q*v0<=r*B+c:=by
 have CP:q<B:=by
  rcases Nat.lt_or_ge q B with h1 | h1
  ·exact h1
  ·exfalso;have:=qN v1 h1;have e:=h.eq;rw[qW B v1]at this;omega
 refine⟨CP,?_⟩;have h1:q*v0<=B*B:=Nat.mul_le_mul oM oM;have h2:B*B<=r*B:=qN B hr;omega
theorem mD.bound {B v1 v0 u c q r:Nat} (h:mD B v1 v0 u c q r) (hu:u<v1*B+v0) (dP:B<=2*v1) (jy:v0<B):q<=B+1:=by
 rcases Nat.lt_or_ge q (B+2) with h1 | h1
 ·omega
 ·exfalso;have:=qN v1 h1;have e:=h.eq;rw[qv,qW B v1]at this;omega
end
section
open Go.RowKit _root_.Go.Proofs.Tryz
def b32:Nat:=4294967296
theorem Kv:W64=b32*b32:=by decide
theorem SI (n:Nat) (h:n<W64):bits .and .u64 (n:Int) 4294967295=((n % b32:Nat):Int):=by
 have:=u64_and_nat n 4294967295 h (by decide);rw[show ((4294967295:Nat):Int)=4294967295 from rfl]at this;rw[this];have e:=Nat.and_two_pow_sub_one_eq_mod n 32;rw[show (2 ^ 32-1:Nat)=4294967295 by decide,show (2 ^ 32:Nat)=b32 by decide]at e;rw[e]
structure Ky (h l y s Y v1 v0 u L u1 u0:Nat):Prop where
 hY:Y=y*2 ^ s
 hYW:Y<W64
 hYv:Y=v1*b32+v0
 v1lo:b32<=2*v1
 v1lt:v1<b32
 v0lt:v0<b32
 uY:u<Y
 hL:L=u1*b32+u0
 LW:L<W64
 u1lt:u1<b32
 u0lt:u0<b32
 tot:u*W64+L=(h*W64+l)*2 ^ s
theorem parts (h l y s:Nat) (hh:h<y) (hl:l<W64) (hs:s<64) (jV:y*2 ^ s<W64) (iM:W64<=2*(y*2 ^ s)) :
  Ky h l y s (y*2 ^ s) (y*2 ^ s / b32) (y*2 ^ s % b32) (h*2 ^ s+l / 2 ^ (64-s)) (l*2 ^ s % W64) (l*2 ^ s % W64 / b32) (l*2 ^ s % W64 % b32):=by
 have hLW:l*2 ^ s % W64<W64:=qm _ (by decide)
 have E2:(h*2 ^ s+l / 2 ^ (64-s))*W64+l*2 ^ s % W64=(h*W64+l)*2 ^ s:=by
  have:=Rr 64 s l oM;rw[<-fB]at this;have e:(h*W64+l)*2 ^ s=h*2 ^ s*W64+l*2 ^ s:=by grind
  rw[e,<-this];grind
 have Ax:h*2 ^ s+l / 2 ^ (64-s)<y*2 ^ s:=by
  have h1:(h*W64+l)*2 ^ s<y*W64*2 ^ s:=by
   refine Nat.mul_lt_mul_of_pos_right ?_ (Nat.pow_pos oM);have:(h+1)*W64<=y*W64:=qN _ hh;rw[qv]at this;omega
  rw[<-E2]at h1;have h2:y*W64*2 ^ s=y*2 ^ s*W64:=by grind
  rw[h2]at h1;have h3:(h*2 ^ s+l / 2 ^ (64-s))*W64<y*2 ^ s*W64:=oM;exact Nat.lt_of_mul_lt_mul_right h3
 have hb:b32=4294967296:=rfl;have hW:=cH;generalize hYY:y*2 ^ s=Y at *
 generalize l*2 ^ s % W64=L at *
 generalize h*2 ^ s+l / 2 ^ (64-s)=u at *
 refine⟨hYY.symm,jV,?_,?_,?_,?_,Ax,?_,hLW,?_,?_,E2⟩
 ·rw[qW];exact(qj Y b32).symm
 ·simp only[hb,hW]at *;omega
 ·simp only[hb,hW]at *;omega
 ·exact qm _ (by decide)
 ·rw[qW];exact(qj L b32).symm
 ·simp only[hb,hW]at *;omega
 ·exact qm _ (by decide)
theorem Ky.result {h l y s Y v1 v0 u L u1 u0:Nat} (P:Ky h l y s Y v1 v0 u L u1 u0) (r1:Nat) (dQ:r1=(u*b32+u1) % Y) :
  (h*W64+l) / y=(u*b32+u1) / Y*b32+(r1*b32+u0) / Y/\(h*W64+l) % y=(r1*b32+u0) % Y / 2 ^ s/\(u*b32+u1) / Y<b32/\(r1*b32+u0) / Y<b32/\r1<Y:=by
 have o7:0<Y:=by have:=P.uY;omega
 have Fj:r1<Y:=by rw[dQ];exact qm _ o7
 have nG:0<2 ^ s:=Nat.pow_pos oM;have e1:=qj (u*b32+u1) Y;rw[<-dQ]at e1;have e2:=qj (r1*b32+u0) Y;have hm:=qm (r1*b32+u0) o7;have tot:=P.tot;rw[P.hL,Kv]at tot;rw[Kv]
 have hU:(h*(b32*b32)+l)*2 ^ s=Y*((u*b32+u1) / Y*b32+(r1*b32+u0) / Y)+(r1*b32+u0) % Y:=by
  rw[<-tot];have:u*(b32*b32)+(u1*b32+u0)=(u*b32+u1)*b32+u0:=by grind
  rw[this];generalize (u*b32+u1) / Y=Q1 at *
  generalize (r1*b32+u0) / Y=Q0 at *
  generalize (r1*b32+u0) % Y=r0 at *
  rw[<-e1];have:(Y*Q1+r1)*b32+u0=Y*Q1*b32+(r1*b32+u0):=by grind
  rw[this,<-e2];grind
 have hd:(h*(b32*b32)+l)*2 ^ s / Y=(u*b32+u1) / Y*b32+(r1*b32+u0) / Y:=by
  rw[hU,Nat.mul_add_div o7,Nat.div_eq_of_lt hm,qY]
 have hmm:(h*(b32*b32)+l)*2 ^ s % Y=(r1*b32+u0) % Y:=by
  rw[hU,Nat.mul_add_mod,qT hm]
 refine⟨?_,?_,?_,?_,Fj⟩
 ·rw[<-hd,P.hY,Nat.mul_div_mul_right _ _ nG]
 ·rw[<-hmm,P.hY,Nat.mul_mod_mul_right,Nat.mul_div_cancel _ nG]
 ·rw[Nat.div_lt_iff_lt_mul o7];have h1:(u+1)*b32<=Y*b32:=qN _ P.uY;rw[qv]at h1;have:=P.u1lt;rw[qW b32];omega
 ·rw[Nat.div_lt_iff_lt_mul o7];have h1:(r1+1)*b32<=Y*b32:=qN _ Fj;rw[qv]at h1;have:=P.u0lt;rw[qW b32];omega
theorem Sf (u v:Nat) (hu:u<W64):IntKind.u64.wrap ((u:Int) / (v:Int))=((u / v:Nat):Int):=by
 have h1:u / v<W64:=Nat.lt_of_le_of_lt (Nat.div_le_self _ _) hu;rw[show (u:Int) / (v:Int)=((u / v:Nat):Int) from rfl,vZ];generalize u / v=z at *
 simp only[cH]at h1;omega
theorem Sg (u v:Nat) (hu:u<W64):IntKind.u64.wrap ((u:Int)-IntKind.u64.wrap (((u / v:Nat):Int)*v))=((u % v:Nat):Int):=by
 have e:=qj u v;have h2:u / v*v<=u:=Nat.div_mul_le_self u v;have h3:u % v<=u:=Nat.mod_le u v;rw[<-Int.natCast_mul,dz,dz];rw[qW]at e;generalize u / v*v=z at *
 generalize u % v=m at *
 simp only[cH]at hu;omega
theorem Se (u c q Y:Nat) (hq:q=(u*b32+c) / Y) (hY:Y<W64) (o7:0<Y) :
  IntKind.u64.wrap (IntKind.u64.wrap (IntKind.u64.wrap ((u:Int)*4294967296)+c)-IntKind.u64.wrap ((q:Int)*Y))=(((u*b32+c) % Y:Nat):Int):=by
 have e:=qj (u*b32+c) Y;have hm:=qm (u*b32+c) o7;rw[<-hq]at e;generalize (u*b32+c) % Y=m at *
 have hb:b32=4294967296:=rfl;simp only[dz]
 have e':(u:Int)*4294967296+c=(q:Int)*Y+m:=by
  have:(u:Int)*((b32:Nat):Int)+c=(Y:Int)*q+m:=by rw[<-Int.natCast_mul,<-Int.natCast_add,<-Int.natCast_mul,<-Int.natCast_add,e]
  rw[show ((b32:Nat):Int)=4294967296 from rfl]at this;rw[this,Int.mul_comm]
 have h1:((u:Int)*4294967296 % 18446744073709551616+c) % 18446744073709551616=((q:Int)*Y+m) % 18446744073709551616:=by rw[Int.emod_add_emod,e']
 rw[h1];generalize (q:Int)*Y=z;simp only[cH]at hY;omega
theorem TF (q v:Nat) (hq:q<b32) (hv:v<b32):IntKind.u64.wrap ((q:Int)*(v:Int))=((q*v:Nat):Int):=by
 have h:q*v<W64:=by rw[Kv];exact Nat.mul_lt_mul_of_lt_of_lt hq hv
 rw[<-Int.natCast_mul,vZ];generalize q*v=z at *
 simp only[cH]at h;omega
theorem zqV (a c:Nat) (ha:a<b32) (hc:c<b32):IntKind.u64.wrap (IntKind.u64.wrap ((a:Int)*4294967296)+c)=((a*b32+c:Nat):Int):=by
 have ha':a<4294967296:=ha;have dV:c<4294967296:=hc;show _=((a*4294967296+c:Nat):Int);rw[dz,dz];omega
end
section
theorem zpq {P T D r v R V q:Nat} (hR:R=T*P+r) (hr:r<P) (hV:V=D*P+v) (hq:q*V<=R):q*D<=T:=by
 have h1:q*D*P<=R:=by
  have:q*V=q*D*P+q*v:=by rw[hV];grind
  omega
 have h2:q*D*P<(T+1)*P:=by rw[qv];omega
 have:=Nat.lt_of_mul_lt_mul_right h2;omega
theorem znV {B P T D r v R V g:Nat} (hR:R=T*P+r) (hV:V=D*P+v) (hv:v<P) (hB:0<B) (hg:g*D<=T) (sX:g<=B) (WV:B*P<=V):g*V<R+V:=by
 have e:g*V=g*D*P+g*v:=by rw[hV];grind
 have h1:g*D*P<=T*P:=qN P hg;have h2:g*v<=B*v:=qN v sX;have h3:B*v<B*P:=Nat.mul_lt_mul_of_pos_left hv hB;omega
theorem UJ {B P T D r v R V g:Nat} (hR:R=T*P+r) (hr:r<P) (hV:V=D*P+v) (hv:v<P) (hB:0<B) (P1:R<B*V) (WV:B*P<=V)
  (hg:g*D<=T) (sX:g<B) (wY:T<(g+1)*D\/g=B-1):R / V<=g/\g<=R / V+1:=by
 have ng:0<V:=by
  rcases qz V with h | h
  ·rw[h]at P1;simp at P1
  ·exact h
 have hq:R / V*V<=R:=Nat.div_mul_le_self R V;have CP:R / V<B:=Nat.div_lt_of_lt_mul (by rw[qW];exact P1);constructor
 ·have h1:=zpq hR hr hV hq;rcases wY with h | h
  ·have h2:R / V*D<(g+1)*D:=oM;have:=Nat.lt_of_mul_lt_mul_right h2;omega
  ·omega
 ·have h1:=znV hR hV hv hB hg oM WV;rcases qz g with h | h
  ·rw[h];exact qQ _
  ·have h2:(g-1)*V<R+1:=by
    have:g*V=(g-1)*V+V:=by
     obtain⟨k,rfl⟩:∃k,g=k+1:=⟨g-1,by omega⟩;rw[Nat.add_sub_cancel,qv,Nat.one_mul]
    omega
   have h3:=(Nat.le_div_iff_mul_le ng).2 (show (g-1)*V<=R by omega);generalize R / V=q at *
   omega
theorem Tn {M V R g d b:Nat} (hV:0<V) (J6:V<=M) (h:d+g*V=R+b*M) (hd:d<M) (hR:R<M) (h1:R / V<=g) (h2:g<=R / V+1) :
  (b=0->g=R / V/\d=R % V)/\(b≠0->b=1/\g=R / V+1/\d+V=R % V+M):=by
 have hm:=qj R V;have af:=qm R hV;rw[qW]at hm;generalize R / V=q at *
 generalize R % V=m at *
 obtain h3 | h3:g=q\/g=q+1:=oM
 ·subst h3;rcases qz b with hb | hb
  ·subst hb;refine⟨fun _=>⟨rfl,by omega⟩,fun h=>absurd rfl h⟩
  ·exfalso;have:1*M<=b*M:=qN M hb;omega
 ·subst h3;rw[qv,Nat.one_mul]at h;rcases qz b with hb | hb
  ·subst hb;exfalso;omega
  ·have cG:b=1:=by
    rcases Nat.lt_or_ge b 2 with hh | hh
    ·omega
    ·have:2*M<=b*M:=qN M hh;omega
   subst cG;exact⟨fun h=>absurd h oM,fun _=>⟨rfl,rfl,by omega⟩⟩
end
section
open Go.RowKit _root_.Go.Proofs.Tryz
set_option maxRecDepth 100000 in
theorem zpa (l y:Nat) (w:World) (An:0<y) (hl:l<W64) (hy:y<W64) :
  Calls prog 206 #[.int .u64 0,n64 l,n64 y] w fun e w'=>e=.returned (.tuple #[n64 (l / y),n64 (l % y)])/\Below w.heap.size w w':=by
 have t1:((y:Int) == 0)=false:=by simp;omega
 have t2:decide ((y:Int)<=0)=false:=by simp;omega
 have t3:¬y=0:=oM;have q1:(l:Int).tdiv (y:Int)=((l / y:Nat):Int):=by rw[Int.tdiv_eq_ediv_of_nonneg (by omega)];rfl
 have q2:(l:Int).tmod (y:Int)=((l % y:Nat):Int):=by rw[Int.tmod_eq_emod_of_nonneg (by omega)];rfl
 have b1:l / y<W64:=Nat.lt_of_le_of_lt (Nat.div_le_self _ _) hl;have b2:l % y<W64:=Nat.lt_of_le_of_lt (Nat.mod_le _ _) hl;generalize l / y=Q at *
 generalize l % y=R at *
 have q3:IntKind.u64.wrap (Q:Int)=Q:=by rw[dz];simp only[cH]at b1;omega
 have q4:IntKind.u64.wrap (R:Int)=R:=by rw[dz];simp only[cH]at b2;omega
 clear hl hy b1 b2
 go_enter func206,ntmps206;go_wp2
 go_quiet (fail);go_wp2
 go_ret2;exact⟨rfl,Ee (Below.refl _ _) _⟩
set_option maxRecDepth 100000 in
theorem znH (h l y s:Nat) (w:World) (h0:0<h) (JQ:h<y) (hl:l<W64) (hy:y<W64) (hs:(64:Int)-(Lib.bitLen y:Int)=(s:Int)) (ke:s<64) (jV:y*2 ^ s<W64) (iM:W64<=2*(y*2 ^ s)) :
  Calls prog 206 #[n64 h,n64 l,n64 y] w fun e w'=>e=.returned (.tuple #[n64 ((h*W64+l) / y),n64 ((h*W64+l) % y)])/\w=w':=by
 have hP:=parts h l y s JQ hl ke jV iM;have t1:((y:Int) == 0)=false:=by simp;omega
 have t2:decide (y<=h)=false:=by simp;omega
 have t3:((h:Int) == 0)=false:=by simp;omega
 have HS:=hid hs;have jW:(y:Int)<=18446744073709551615:=by simp only[cH]at hy;omega
 have Pl:h*2 ^ s<W64:=Nat.lt_trans (Nat.mul_lt_mul_of_pos_right JQ (Nat.pow_pos oM)) jV;have eY:IntKind.u64.wrap ((y:Int)*2 ^ s)=((y*2 ^ s:Nat):Int):=by rw[DU,qT jV]
 have eL:IntKind.u64.wrap ((l:Int)*2 ^ s)=((l*2 ^ s % W64:Nat):Int):=DU l s
 have eu:bits .or .u64 (IntKind.u64.wrap ((h:Int)*2 ^ s)) ((l:Int) / 2 ^ (64-s))=((h*2 ^ s+l / 2 ^ (64-s):Nat):Int):=by
  have af:l / 2 ^ (64-s)<2 ^ s:=KC 64 s l oM (by rw[<-fB];exact hl);have eH:l / 2 ^ (64-s)<W64:=Nat.lt_of_le_of_lt (Nat.div_le_self _ _) hl;rw[DU,qT Pl,Cf,u64_or_nat _ _ Pl eH,Nat.or_comm,pE _ h s (2 ^ s) rfl af,Nat.add_comm]
 have Xm:=SI (y*2 ^ s) jV;have Xo:=SI (l*2 ^ s % W64) (qm _ (by decide));have Xl:((y*2 ^ s:Nat):Int) / 4294967296=((y*2 ^ s / b32:Nat):Int):=rfl;have Xn:((l*2 ^ s % W64:Nat):Int) / 4294967296=((l*2 ^ s % W64 / b32:Nat):Int):=rfl;have HE:=hid (And.intro eY (And.intro eL (And.intro eu (And.intro Xm (And.intro Xo (And.intro Xl Xn))))));clear hs eY eL eu Xm Xo Xl Xn Pl hl hy jV iM
 go_enter func206,ntmps206
 go_wp2_with fail;refine(Tryz.bits_LeadingZeros64 y w oM jW).mono ?_;rintro e w1 ⟨rfl,rfl⟩;rw[qU,HS.out];clear jW t1 t2 t3
 go_upto_region 15 with (fail)
 rw[HE.out.1,HE.out.2.1,HE.out.2.2.1,HE.out.2.2.2.1,HE.out.2.2.2.2.1,HE.out.2.2.2.2.2.1,HE.out.2.2.2.2.2.2];clear HE HS;generalize y*2 ^ s / b32=v1 at *
 generalize y*2 ^ s % b32=v0 at *
 generalize y*2 ^ s=Y at *
 generalize l*2 ^ s % W64 / b32=u1 at *
 generalize l*2 ^ s % W64 % b32=u0 at *
 generalize l*2 ^ s % W64=L at *
 generalize h*2 ^ s+l / 2 ^ (64-s)=u at *
 have dP:1<=v1:=by have:=hP.v1lo;have:b32=4294967296:=rfl;omega
 have Ju:(1:Int)<=(v1:Int):=oM;have jz:=hP.u1lt;have NV:u<W64:=Nat.lt_trans hP.uY hP.hYW;have hG:=mD.start (B:=b32) (v1:=v1) (v0:=v0) (u:=u) (c:=u1) oM (by decide) hP.u1lt;have nI:u / v1<=b32+1:=hG.bound (by rw[<-hP.hYv];exact hP.uY) hP.v1lo hP.v0lt;have gh:u % v1<b32:=Nat.lt_trans (qm _ oM) hP.v1lt;have HE:=hid (And.intro (Sf u v1 NV) (Sg u v1 NV));have HP:=hid hP;clear hP NV
 go_upto_block 0 with (fail)
 rw[HE.out.1,HE.out.2];clear HE;generalize u / v1=q0 at *
 generalize u % v1=r0 at *
 go_cut [15,16] (fun vq _ wx=>vq=.int .u64 (((u*b32+u1) / Y:Nat):Int)/\w1=wx)
 case first =>
  have NT:(v1:Int)<4294967296:=by have:v1<4294967296:=HP.out.v1lt;omega
  have hu1b:(u1:Int)<4294967296:=by have:u1<4294967296:=jz;omega
  have hYv:(u*b32+u1) / Y=(u*b32+u1) / (v1*b32+v0):=by rw[<-HP.out.hYv]
  have Ax:u<v1*b32+v0:=by rw[<-HP.out.hYv];exact HP.out.uY
  have HH:=hid (And.intro hYv (And.intro Ax (And.intro HP.out.v0lt HP.out.u1lt)));have HG:=hid (And.intro hG (And.intro nI gh));clear hG Ax jz hYv nI gh;go_wp2
  go_loopg [15,16] q0 (fun g vq vr wr=>∃q r:Nat,q=g/\vq=.int .u64 q/\vr=.int .u64 r/\mD b32 v1 v0 u u1 q r/\(q:Int)<=4294967297/\(r:Int)<4294967296/\w1=wr)
  case atStart=>exact⟨q0,r0,rfl,rfl,rfl,HG.out.1,by have:q0<=4294967297:=HG.out.2.1;omega,by have:r0<4294967296:=HG.out.2.2;omega,rfl⟩
  case round =>
   obtain⟨q,r,wO,rfl,rfl,Gy,si,dQ,rfl⟩:=hrel;have HQ:=hid (And.intro wO Gy);clear wO Gy;by_cases uE:(4294967296:Int)<=(q:Int)
   ·have HD:=hid (HQ.out.2.down HH.out.2.1 HH.out.2.2.2 (.inl (by show 4294967296<=q;omega)));by_cases cX:(4294967296:Int)<=(r:Int)+v1
    ·go_wp2
     go_meet;refine⟨?_,rfl⟩;have hd:=HD.out.2.done (by have:=HH.out.2.1;omega) (HD.out.2.over HH.out.2.1 HH.out.2.2.1 (by show 4294967296<=r+v1;omega)).2;rw[HH.out.1,<-hd];congr 1;omega
    ·go_wp2
     go_roundg (q-1)
     case measure=>have:=HQ.out.1;omega
     case rel=>exact⟨q-1,r+v1,rfl,by congr 1;omega,by congr 1,HD.out.2,by omega,by omega,rfl⟩
   ·have NH:=TF q v0 (by show q<4294967296;omega) HH.out.2.2.1;by_cases hz:r*b32+u1<q*v0
    ·have HD:=hid (HQ.out.2.down HH.out.2.1 HH.out.2.2.2 (.inr hz));generalize q*v0=z at *
     have tz:decide (4294967296*(r:Int)+u1<(z:Int))=true:=by have:r*4294967296+u1<z:=hz;simp;omega
     have si:(0:Int)<q:=by have:=HD.out.1;omega
     have HZ:=hid hz;clear hz;by_cases cX:(4294967296:Int)<=(r:Int)+v1
     ·go_wp2
      go_meet;refine⟨?_,rfl⟩;have hd:=HD.out.2.done (by have:=HH.out.2.1;omega) (HD.out.2.over HH.out.2.1 HH.out.2.2.1 (by show 4294967296<=r+v1;omega)).2;rw[HH.out.1,<-hd];congr 1;omega
     ·go_wp2
      go_roundg (q-1)
      case measure=>have:=HQ.out.1;omega
      case rel=>exact⟨q-1,r+v1,rfl,by congr 1;omega,by congr 1,HD.out.2,by omega,by omega,rfl⟩
    ·have HD:=hid (HQ.out.2.done (by have:=HH.out.2.1;omega) oM);generalize q*v0=z at *
     have tz:decide (4294967296*(r:Int)+u1<(z:Int))=false:=by have:¬r*4294967296+u1<z:=hz;simp;omega
     clear hz;go_wp2
     go_meet;refine⟨?_,rfl⟩;rw[HH.out.1,<-HD.out]
 case rest =>
  obtain⟨rfl,rfl⟩:=hcut;clear hG nI gh jz;have o7:0<Y:=by have:=HP.out.uY;omega
  have lj:=Se u u1 ((u*b32+u1) / Y) Y rfl HP.out.hYW o7;have HR:=hid (HP.out.result ((u*b32+u1) % Y) rfl);have HRE:=hid lj;clear lj o7;generalize (u*b32+u1) / Y=Q1 at *
  go_upto_region 22 with (fail)
  rw[HRE.out];clear HRE;generalize (u*b32+u1) % Y=r1 at *
  have AM:r1<W64:=Nat.lt_trans HR.out.2.2.2.2 HP.out.hYW;have hG:=mD.start (B:=b32) (v1:=v1) (v0:=v0) (u:=r1) (c:=u0) oM (by decide) HP.out.u0lt;have rf:r1 / v1<=b32+1:=hG.bound (by rw[<-HP.out.hYv];exact HR.out.2.2.2.2) HP.out.v1lo HP.out.v0lt;have bM:r1 % v1<b32:=Nat.lt_trans (qm _ oM) HP.out.v1lt;have HE:=hid (And.intro (Sf r1 v1 AM) (Sg r1 v1 AM));clear AM
  go_upto_block 2 with (fail)
  rw[HE.out.1,HE.out.2];clear HE;generalize r1 / v1=q2 at *
  generalize r1 % v1=r2 at *
  go_cut [18,16] (fun vq _ wx=>vq=.int .u64 (((r1*b32+u0) / Y:Nat):Int)/\w1=wx)
  case first =>
   have NT:(v1:Int)<4294967296:=by have:v1<4294967296:=HP.out.v1lt;omega
   have hu0b:(u0:Int)<4294967296:=by have:u0<4294967296:=HP.out.u0lt;omega
   have hYv:(r1*b32+u0) / Y=(r1*b32+u0) / (v1*b32+v0):=by rw[<-HP.out.hYv]
   have Ax:r1<v1*b32+v0:=by rw[<-HP.out.hYv];exact HR.out.2.2.2.2
   have HH:=hid (And.intro hYv (And.intro Ax (And.intro HP.out.v0lt HP.out.u0lt)));have HG:=hid (And.intro hG (And.intro rf bM));clear hG Ax hYv rf bM;go_wp2
   go_loopg [18,16] q2 (fun g vq vr wr=>∃q r:Nat,q=g/\vq=.int .u64 q/\vr=.int .u64 r/\mD b32 v1 v0 r1 u0 q r/\(q:Int)<=4294967297/\(r:Int)<4294967296/\w1=wr)
   case atStart=>exact⟨q2,r2,rfl,rfl,rfl,HG.out.1,by have:q2<=4294967297:=HG.out.2.1;omega,by have:r2<4294967296:=HG.out.2.2;omega,rfl⟩
   case round =>
    obtain⟨q,r,wO,rfl,rfl,Gy,si,dQ,rfl⟩:=hrel;have HQ:=hid (And.intro wO Gy);clear wO Gy;by_cases uE:(4294967296:Int)<=(q:Int)
    ·have HD:=hid (HQ.out.2.down HH.out.2.1 HH.out.2.2.2 (.inl (by show 4294967296<=q;omega)));by_cases cX:(4294967296:Int)<=(r:Int)+v1
     ·go_wp2
      go_meet;refine⟨?_,rfl⟩;have hd:=HD.out.2.done (by have:=HH.out.2.1;omega) (HD.out.2.over HH.out.2.1 HH.out.2.2.1 (by show 4294967296<=r+v1;omega)).2;rw[HH.out.1,<-hd];congr 1;omega
     ·go_wp2
      go_roundg (q-1)
      case measure=>have:=HQ.out.1;omega
      case rel=>exact⟨q-1,r+v1,rfl,by congr 1;omega,by congr 1,HD.out.2,by omega,by omega,rfl⟩
    ·have NH:=TF q v0 (by show q<4294967296;omega) HH.out.2.2.1;by_cases hz:r*b32+u0<q*v0
     ·have HD:=hid (HQ.out.2.down HH.out.2.1 HH.out.2.2.2 (.inr hz));generalize q*v0=z at *
      have tz:decide (4294967296*(r:Int)+u0<(z:Int))=true:=by have:r*4294967296+u0<z:=hz;simp;omega
      have si:(0:Int)<q:=by have:=HD.out.1;omega
      have HZ:=hid hz;clear hz;by_cases cX:(4294967296:Int)<=(r:Int)+v1
      ·go_wp2
       go_meet;refine⟨?_,rfl⟩;have hd:=HD.out.2.done (by have:=HH.out.2.1;omega) (HD.out.2.over HH.out.2.1 HH.out.2.2.1 (by show 4294967296<=r+v1;omega)).2;rw[HH.out.1,<-hd];congr 1;omega
      ·go_wp2
       go_roundg (q-1)
       case measure=>have:=HQ.out.1;omega
       case rel=>exact⟨q-1,r+v1,rfl,by congr 1;omega,by congr 1,HD.out.2,by omega,by omega,rfl⟩
     ·have HD:=hid (HQ.out.2.done (by have:=HH.out.2.1;omega) oM);generalize q*v0=z at *
      have tz:decide (4294967296*(r:Int)+u0<(z:Int))=false:=by have:¬r*4294967296+u0<z:=hz;simp;omega
      clear hz;go_wp2
      go_meet;refine⟨?_,rfl⟩;rw[HH.out.1,<-HD.out]
  case rest =>
   obtain⟨rfl,rfl⟩:=hcut;obtain⟨z1,z2,z3,z4,z5⟩:=HR.out;have o7:0<Y:=by have:=HP.out.uY;omega
   have lj:=Se r1 u0 ((r1*b32+u0) / Y) Y rfl HP.out.hYW o7;have hj:=zqV Q1 ((r1*b32+u0) / Y) z3 z4;have HF:=hid (And.intro lj (And.intro hj (And.intro z1 z2)));clear lj hj z1 z2 z3 z4 z5 o7 HR;generalize (r1*b32+u0) / Y=Q0 at *
   generalize (r1*b32+u0) % Y=R0 at *
   go_wp2
   go_ret2;obtain⟨lj,hj,z1,z2⟩:=HF.out;rw[hj,lj,Cf,z1,z2];exact⟨rfl,rfl⟩
theorem MJ (y:Nat) (h0:y≠0) (hy:y<2 ^ 64):y<2 ^ Lib.bitLen y/\2 ^ (Lib.bitLen y-1)<=y/\0<Lib.bitLen y/\Lib.bitLen y<=64:=by
 induction y using Nat.strongRecOn with
 | ind y ih =>
  have hh:=Lib.bitLen_half y h0 hy;by_cases h1:y / 2=0
  ·have:y=1:=oM;subst this;decide
  ·have hi:=ih (y / 2) oM h1 oM;have hle:=Lib.bitLen_le y 64 oM hy;rw[hh]at hle ⊢;generalize Lib.bitLen (y / 2)=k at *
   refine⟨?_,?_,by omega,hle⟩
   ·rw[Nat.add_comm,qX];omega
   ·obtain⟨m,rfl⟩:∃m,k=m+1:=⟨k-1,by omega⟩;rw[Nat.add_sub_cancel]at hi;rw[Nat.add_sub_cancel_left,qX];omega
theorem TU (h l y:Nat) (w:World) (JQ:h<y) (hl:l<W64) (hy:y<W64) :
  Calls prog 206 #[n64 h,n64 l,n64 y] w fun e w'=>e=.returned (.tuple #[n64 ((h*W64+l) / y),n64 ((h*W64+l) % y)])/\Below w.heap.size w w':=by
 by_cases h0:h=0
 ·subst h0;rw[Nat.zero_mul,qu];exact zpa l y w oM hl hy
 ·have hb:=MJ y oM (by rw[<-fB];exact hy);obtain⟨s,hs⟩:∃s,s=64-Lib.bitLen y:=⟨_,rfl⟩;have e:2 ^ Lib.bitLen y*2 ^ s=W64:=by rw[<-Nat.pow_add,fB];congr 1;omega
  have e2:2*(2 ^ (Lib.bitLen y-1)*2 ^ s)=W64:=by
   rw[<-Nat.pow_add,fB,qW,<-qX];congr 1;omega
  refine(znH h l y s w oM JQ hl hy oM oM ?_ ?_).mono ?_
  ·rw[<-e];exact Nat.mul_lt_mul_of_pos_right hb.1 (Nat.pow_pos oM)
  ·rw[<-e2];exact qb 2 (qN _ hb.2.1)
  ·rintro e w' ⟨rfl,rfl⟩;exact⟨rfl,Below.refl _ _⟩
theorem TL {n k:Nat} (h0:n≠0) (h1:n<2 ^ k) (h2:2 ^ (k-1)<=n) (hk:0<k):bl n=k:=by
 have a:=cf h1;have b:=og n;have c:2 ^ (k-1)<2 ^ bl n:=oM;have:=(Nat.pow_lt_pow_iff_right (by omega:1<2)).1 c;omega
theorem TN (n:Nat) (h:n<W64):Lib.bitLen n=bl n:=by
 by_cases h0:n=0
 ·subst h0;rw[lX];decide
 ·have hb:=MJ n h0 (by rw[<-fB];exact h);exact(TL h0 hb.1 hb.2.1 hb.2.2.1).symm
theorem Zz (n:Nat) (k t:Nat) (hk:(hiW n).length=k+1) (ht:(hiW n)[k]'(by omega)=t):bl n=64*(k+1)+bl t:=by
 have hn:=zT n;have hl:(hiW n).getLast?=some t:=by rw[List.getLast?_eq_getElem?,hk,Nat.add_sub_cancel,qA oM,ht]
 have E4:=hn.2 t hl;have e:=Dq n;have cF:=Kt n;have hd:=ep W64 (hiW n) k oM;have af:=cZ (hn.1.take k);rw[qP,qn (by omega)]at af;rw[dO,qi oM,nx,Nat.mul_zero,qY,show (hiW n).getD k 0=t by simp[show k<(hiW n).length by omega,ht]]at hd;have hW:W64 ^ (k+1)=2 ^ (64*(k+1)):=by rw[Nat.pow_mul,<-fB]
 have h1:=og t;have h2:=Ku E4;have hp:=Ho E4
 have eN:n=t*W64 ^ (k+1)+(W64*val W64 ((hiW n).take k)+lo n):=by
  rw[qX];have:W64*val W64 (hiW n)=W64*val W64 ((hiW n).take k)+t*(W64 ^ k*W64):=by rw[hd];grind
  omega
 have hr:W64*val W64 ((hiW n).take k)+lo n<W64 ^ (k+1):=by
  have:W64*(val W64 ((hiW n).take k)+1)<=W64*W64 ^ k:=qb _ af;rw[qX,qW (W64 ^ k)];rw[Nat.mul_add]at this;omega
 generalize W64*val W64 ((hiW n).take k)+lo n=r at *
 rw[hW]at eN hr;refine TL (fun h=>?_) ?_ ?_ oM
 ·have:1*2 ^ (64*(k+1))<=t*2 ^ (64*(k+1)):=qN _ oM;have:0<2 ^ (64*(k+1)):=Nat.pow_pos oM;omega
 ·rw[Nat.pow_add];have:(t+1)*2 ^ (64*(k+1))<=2 ^ bl t*2 ^ (64*(k+1)):=qN _ h1;rw[qv]at this;rw[qW (2 ^ (64*(k+1)))];omega
 ·rw[show 64*(k+1)+bl t-1=64*(k+1)+(bl t-1) by omega,Nat.pow_add];have:2 ^ (bl t-1)*2 ^ (64*(k+1))<=t*2 ^ (64*(k+1)):=qN _ h2;rw[qW (2 ^ (64*(k+1)))];omega
set_option maxRecDepth 100000 in
theorem znt (n:Nat) (w:World) (h:n<W64) :
  Calls prog 99 #[aH n] w fun e w'=>e=.returned (.int .i64 (bl n:Int))/\Below w.heap.size w w':=by
 rw[iK h,<-TN n h];have hI:(n:Int)<=18446744073709551615:=by simp only[cH]at h;omega
 clear h
 go_enter func99,ntmps99
 go_wp2_with fail;refine(Tryz.bits_Len64 n _ oM hI).mono ?_;rintro e w1 ⟨rfl,rfl⟩;go_wp2
 go_ret;exact⟨rfl,(Below.refl _ _).alloc (qH _) _⟩
set_option maxRecDepth 100000 in
theorem zq9 (n:Nat) (w:World) (h:¬n<W64) (hn:bl n<=1000000000) :
  Calls prog 99 #[aH n] w fun e w'=>e=.returned (.int .i64 (bl n:Int))/\Below w.heap.size w w':=by
 have hm:=D1 h
 obtain⟨k,hk⟩:∃k,(hiW n).length=k+1:=by
  rcases qz (hiW n).length with e | e
  ·exact absurd (Cb.1 (List.eq_nil_of_length_eq_zero e)) h
  ·exact⟨(hiW n).length-1,by omega⟩
 have nK:(aU n).size=8*k+8:=by rw[Ab,hk];omega
 have OG:=IW n k oM ((aU n).extract (8*k) (8*k+8)) (yz _ _ _ nK.symm);have PH:=Zz n k _ hk rfl;have wH:=(zT n).1.get k oM;generalize (hiW n)[k]'(by omega)=t at *
 have fu:k<=100000000:=oM
 have JV:((aU n).extract (8*k) (8*k+8)).size<=100000000000:=by
  rw[<-rL,yz _ _ _ nK.symm,qt,rL,nK];omega
 have hbt:bl t<=64:=cf (by rw[<-fB];exact wH);have HW:=hid (Mh _ t · OG.1 JV OG.2)
 have hL:∀w,Calls prog 146 #[n64 t] w fun e w'=>e=.returned (.int .i64 (bl t:Int))/\w'=w:=fun w=>by
  have:=Tryz.bits_Len64 t w oM (by simp only[cH]at wH;omega);rw[qU,TN t wH]at this;exact this
 have HLn:=hid hL;have HB:=hid (And.intro PH nK);clear OG PH wH JV hL hk hn;have hms2:=HB.out.2;have q1:IntKind.i64.wrap (8*(k:Int)+8-8)=8*(k:Int):=by rw[pL];omega
 have q2:(8*(k:Int)).toNat=8*k:=oM;have q3:IntKind.i64.wrap (8*(8*(k:Int)+8))=64*(k:Int)+64:=by rw[pL];omega
 have q4:(0:Int)<=8*(k:Int):=oM;have q5:8*(k:Int)<=8*(k:Int)+8:=oM
 go_enter func99,ntmps99;go_wp2
 go_quiet (first|(go_at_call 147;exact Calls.quiet_of (HW.out _))|(go_at_call 146;exact Calls.quiet_of_same (HLn.out _)));go_wp2
 go_ret;refine⟨R3 ?_,Ee ((Below.refl _ _).alloc (qH _) _) _⟩;rw[HB.out.1]
 first|omega|(rw[pL];omega)|(simp only[pL];omega)
theorem Lz (n:Nat) (w:World) (hn:bl n<=1000000000) :
  Calls prog 99 #[aH n] w fun e w'=>e=.returned (.int .i64 (bl n:Int))/\Below w.heap.size w w':=by
 by_cases h:n<W64
 ·exact znt n w h
 ·exact zq9 n w h hn
set_option maxRecDepth 100000 in
theorem zrc (a b:Nat) (w:World) (h:(hiW a).length≠(hiW b).length) (ha:bl a<=1000000000) (hb:bl b<=1000000000) :
  Calls prog 127 #[aH a,aH b] w fun e w'=>e=.returned (.int .i64 (br a b))/\Below w.heap.size w w':=by
 have la:=Ab a;have lb:=Ab b;have ka:=Ip a;have kb:=Ip b;have hA:(hiW a).length<=100000000:=oM;have hB:(hiW b).length<=100000000:=oM;rcases Nat.lt_or_ge (hiW a).length (hiW b).length with af | hge
 ·rw[pT (Sb af)];generalize (hiW a).length=m at *
  generalize (hiW b).length=n at *
  clear ka kb ha hb;have t1:(8*(m:Int) != 8*(n:Int))=true:=by simp;omega
  have t2:decide (8*m<8*n)=true:=by simp;omega
  have t3:decide (8*(m:Int)<8*(n:Int))=true:=by simp;omega
  clear h
  go_enter func127,ntmps127;go_wp2
  go_ret;exact⟨rfl,((Below.refl _ _).alloc (qH _) _).alloc (by simp) _⟩
 ·rw[rJ (Sb (show (hiW b).length<(hiW a).length by omega))];generalize (hiW a).length=m at *
  generalize (hiW b).length=n at *
  clear ka kb ha hb;have t1:(8*(m:Int) != 8*(n:Int))=true:=by simp;omega
  have t2:decide (8*m<8*n)=false:=by simp;omega
  have t3:decide (8*(m:Int)<8*(n:Int))=false:=by simp;omega
  clear h
  go_enter func127,ntmps127;go_wp2
  go_ret;exact⟨rfl,((Below.refl _ _).alloc (qH _) _).alloc (by simp) _⟩
set_option maxRecDepth 100000 in
theorem zrd (a b n:Nat) (w:World) (ha:(hiW a).length=n) (hb:(hiW b).length=n) (hn:n<=100000000) :
  Calls prog 127 #[aH a,aH b] w fun e w'=>e=.returned (.int .i64 (br a b))/\Below w.heap.size w w':=by
 have la:(aU a).size=8*n:=by rw[Ab,ha]
 have lb:(aU b).size=8*n:=by rw[Ab,hb]
 have HL:=hid (And.intro ha hb);clear ha hb;have t1:(8*(n:Int) != 8*(n:Int))=false:=by simp
 go_enter func127,ntmps127;go_wp2;have ru:Below w.heap.size w ((w.alloc (.cells #[.int .u64 (lo a:Int),.string (aU a)] 47)).alloc (.cells #[.int .u64 (lo b:Int),.string (aU b)] 47)):=((Below.refl _ _).alloc (qH _) _).alloc (by simp) _;have c0:((w.alloc (.cells #[.int .u64 (lo a:Int),.string (aU a)] 47)).alloc (.cells #[.int .u64 (lo b:Int),.string (aU b)] 47)).cell? ⟨w.heap.size,0,none⟩=some (.int .u64 (lo a:Int)):=by simp[go_sem]
 have c1:((w.alloc (.cells #[.int .u64 (lo a:Int),.string (aU a)] 47)).alloc (.cells #[.int .u64 (lo b:Int),.string (aU b)] 47)).cell? ⟨w.heap.size,1,none⟩=some (.string (aU a)):=by simp[go_sem]
 have d0:((w.alloc (.cells #[.int .u64 (lo a:Int),.string (aU a)] 47)).alloc (.cells #[.int .u64 (lo b:Int),.string (aU b)] 47)).cell? ⟨w.heap.size+1,0,none⟩=some (.int .u64 (lo b:Int)):=by simp[go_sem]
 have d1:((w.alloc (.cells #[.int .u64 (lo a:Int),.string (aU a)] 47)).alloc (.cells #[.int .u64 (lo b:Int),.string (aU b)] 47)).cell? ⟨w.heap.size+1,1,none⟩=some (.string (aU b)):=by simp[go_sem]
 generalize ((w.alloc (.cells #[.int .u64 (lo a:Int),.string (aU a)] 47)).alloc (.cells #[.int .u64 (lo b:Int),.string (aU b)] 47))=W0 at *
 go_loopg [5,6,7] n (fun g vi _ _ wr=>g<=n/\vi=.int .i64 (8*(g:Int)-8)/\(hiW a).drop g=(hiW b).drop g/\wr.cell? ⟨w.heap.size,0,none⟩=some (.int .u64 (lo a:Int))/\wr.cell? ⟨w.heap.size,1,none⟩=some (.string (aU a))/\wr.cell? ⟨w.heap.size+1,0,none⟩=some (.int .u64 (lo b:Int))/\wr.cell? ⟨w.heap.size+1,1,none⟩=some (.string (aU b))/\Below w.heap.size w wr)
 case atStart=>exact⟨qH _,rfl,by rw[qi (by have:=HL.out.1;omega),qi (by have:=HL.out.2;omega)],c0,c1,d0,d1,ru⟩
 case round =>
  clear c0 c1 d0 d1 ru;obtain⟨hg,rfl,hd,c0,c1,d0,d1,hK⟩:=hrel;have HD:=hid hd;clear hd;by_cases h0:gk=0
  ·subst h0
   go_wp2_with fail;refine(UP (lo a) (lo b) wr).mono ?_;rintro e w1 ⟨rfl,rfl⟩;go_wp2
   go_ret;have hd:=HD.out;rw[List.drop_zero,List.drop_zero]at hd;rw[ZS hd];exact⟨rfl,hK⟩
  ·obtain⟨k,rfl⟩:∃k,gk=k+1:=⟨gk-1,by omega⟩;rw[show 8*((k+1:Nat):Int)-8=8*(k:Int) by omega];have xe:k<(hiW a).length:=by have:=HL.out.1;omega
   have fu:k<(hiW b).length:=by have:=HL.out.2;omega
   have wa:=IW a k xe ((aU a).extract (8*k) (8*n)) (yz _ _ _ la.symm);have wb:=IW b k fu ((aU b).extract (8*k) (8*n)) (yz _ _ _ lb.symm);have sa:((aU a).extract (8*k) (8*n)).size<=100000000000:=by rw[<-rL,yz _ _ _ la.symm,qt,rL,la];omega
   have sb:((aU b).extract (8*k) (8*n)).size<=100000000000:=by rw[<-rL,yz _ _ _ lb.symm,qt,rL,lb];omega
   have ga:(hiW a).getD k 0=(hiW a)[k]:=by simp[xe]
   have gb:(hiW b).getD k 0=(hiW b)[k]:=by simp[fu]
   have ea:(hiW a).drop k=(hiW a)[k]::(hiW a).drop (k+1):=qp xe;have eb:(hiW b).drop k=(hiW b)[k]::(hiW b).drop (k+1):=qp fu;generalize (hiW a)[k]=x at *
   generalize (hiW b)[k]=y at *
   have Vj:∀w,Calls prog 147 #[.string ((aU a).extract (8*k) (8*n))] w fun e w'=>e=.returned (n64 x)/\∃k,w'=w.drewN k:=fun w=>Mh _ x w wa.1 sa wa.2;have Vi:∀w,Calls prog 147 #[.string ((aU b).extract (8*k) (8*n))] w fun e w'=>e=.returned (n64 y)/\∃k,w'=w.drewN k:=fun w=>Mh _ y w wb.1 sb wb.2;have HE:=hid (And.intro ga (And.intro gb (And.intro ea (And.intro eb (And.intro xe fu)))));clear wa wb sa sb ga gb ea eb xe fu h0;have q1:(0:Int)<=8*(k:Int):=oM;have q2:8*(k:Int)<=8*(n:Int):=oM;have q3:(8*(k:Int)).toNat=8*k:=oM;by_cases jX:x=y
   ·subst jX;have tx:((x:Int) != (x:Int))=false:=by simp
    go_wp2
    go_quiet (first|(go_at_call 147;with_reducible exact Calls.quiet_of (Vj _))|(go_at_call 147;with_reducible exact Calls.quiet_of (Vi _)));go_wp2
    go_roundg k
    case measure=>omega
    case rel=>exact⟨by omega,rfl,by rw[HE.out.2.2.1,HE.out.2.2.2.1,HD.out],c0,c1,d0,d1,Ee hK _⟩
   ·have tx:((x:Int) != (y:Int))=true:=by simp;omega
    have HXY:=hid jX;clear jX;go_wp2
    go_quiet (first|(go_at_call 147;with_reducible exact Calls.quiet_of (Vj _))|(go_at_call 147;with_reducible exact Calls.quiet_of (Vi _)))
    go_wp2_with fail;refine(UP x y _).mono ?_;rintro e w1 ⟨rfl,rfl⟩;go_wp2
    go_ret;obtain⟨ga,gb,_,_,xe,fu⟩:=HE.out;have hc:=zre (a:=a) (b:=b) (k:=k) (by have:=HL.out;omega) xe HD.out (by rw[ga,gb];exact HXY.out);rw[ga,gb]at hc;rw[hc];exact⟨rfl,Ee hK _⟩
theorem Sc (a b:Nat) (w:World) (ha:bl a<=1000000000) (hb:bl b<=1000000000) :
  Calls prog 127 #[aH a,aH b] w fun e w'=>e=.returned (.int .i64 (br a b))/\Below w.heap.size w w':=by
 by_cases h:(hiW a).length=(hiW b).length
 ·have ka:=Ip a;exact zrd a b (hiW b).length w h Z oM
 ·exact zrc a b w h ha hb
def addLo (x y c:Nat):Nat:=(x+y+c) % W64
def addHi (x y c:Nat):Nat:=(x+y+c) / W64
def subLo (x y b:Nat):Nat:=(x+W64-y-b) % W64
def subHi (x y b:Nat):Nat:=if x<y+b then 1 else 0
theorem uo {x y c:Nat} (hx:x<W64) (hy:y<W64) (hc:c<=1):addLo x y c+addHi x y c*W64=x+y+c/\addLo x y c<W64/\addHi x y c<=1:=by
 unfold addLo addHi;have:=cH;simp only[cH]at *
 omega
theorem Cr {x y b:Nat} (hx:x<W64) (hy:y<W64) (hb:b<=1):subLo x y b+y+b=x+subHi x y b*W64/\subLo x y b<W64/\subHi x y b<=1:=by
 unfold subLo subHi;simp only[cH]at *
 split <;> omega
theorem L8 (x y c:Nat) (w:World) (hc:c<=1):(callFunc 177 #[.int .u64 (x:Int),.int .u64 (y:Int),.int .u64 (c:Int)]).run prog w=.ok (.value (.tuple #[.int .u64 (addLo x y c:Int),.int .u64 (addHi x y c:Int)])) w:=by
 rw[run_callFunc_extern func177 kR kR kR (e:=add64Entry) kR,run_add64 x y c oM oM oM (by omega)];simp only[Result.andThen];rfl
theorem Jf (x y:Nat) (w:World):(callFunc 177 #[.int .u64 (x:Int),.int .u64 (y:Int),.int .u64 0]).run prog w=.ok (.value (.tuple #[.int .u64 (addLo x y 0:Int),.int .u64 (addHi x y 0:Int)])) w:=L8 x y 0 w oM
theorem LI (x y b:Nat) (w:World) (hb:b<=1):(callFunc 197 #[.int .u64 (x:Int),.int .u64 (y:Int),.int .u64 (b:Int)]).run prog w=.ok (.value (.tuple #[.int .u64 (subLo x y b:Int),.int .u64 (subHi x y b:Int)])) w:=by
 rw[run_callFunc_extern func197 kR kR kR (e:=sub64Entry) kR,run_sub64 x y b hb];rfl
theorem Q8 {m n o c:Nat} (hm:m<W64) (hn:n<W64) (ho:o<W64) (hc:c<W64):m*n+o+c<W64*W64:=by
 have h1:m*n<=(W64-1)*(W64-1):=Nat.mul_le_mul oM oM;have h2:(W64-1)*(W64-1)+(W64-1)+(W64-1)<W64*W64:=by decide
 omega
theorem zrF {m n o c:Nat} (hm:m<W64) (hn:n<W64) (ho:o<W64) (hc:c<W64) :
  addLo (addLo (m*n % W64) o 0) c 0=(m*n+o+c) % W64 /\
  IntKind.u64.wrap (IntKind.u64.wrap (((m*n / W64:Nat):Int)+(addHi (m*n % W64) o 0:Int))+(addHi (addLo (m*n % W64) o 0) c 0:Int))=(((m*n+o+c) / W64:Nat):Int)/\(m*n+o+c) / W64<W64:=by
 have af:=Q8 hm hn ho hc;have hq:(m*n+o+c) / W64<W64:=Nat.div_lt_of_lt_mul af;have e:=qj (m*n) W64;have hl:=qm (m*n) (show 0<W64 by decide);generalize m*n / W64=hi at *
 generalize m*n % W64=lw at *
 generalize m*n=P at *
 subst e;unfold addLo addHi;rw[dz,dz];simp only[cH]at *
 omega
theorem zpC (out y:List Nat) (X i j m c k:Nat) (hk:k=i+j) (hlen:k<out.length) (hm:m<W64) (hc:c<W64) (hD:Dig W64 out) (GH:Dig W64 y)
  (hv:val W64 out+c*W64 ^ k=X+m*W64 ^ i*val W64 (y.take j)) :
  val W64 (out.set k ((m*y.getD j 0+out.getD k 0+c) % W64))+(m*y.getD j 0+out.getD k 0+c) / W64*W64 ^ (k+1)=X+m*W64 ^ i*val W64 (y.take (j+1)):=by
 have v1:=kx W64 out k ((m*y.getD j 0+out.getD k 0+c) % W64) hlen;have e:=qj (m*y.getD j 0+out.getD k 0+c) W64;rw[mf];generalize y.getD j 0=n at *
 generalize out.getD k 0=o at *
 generalize (m*n+o+c) % W64=s at *
 generalize (m*n+o+c) / W64=t at *
 have e3:W64 ^ k=W64 ^ i*W64 ^ j:=by rw[hk,Nat.pow_add]
 rw[qX];have e4:t*(W64 ^ k*W64)+s*W64 ^ k=(m*n+o+c)*W64 ^ k:=by rw[<-e];grind
 have e5:m*W64 ^ i*(val W64 (y.take j)+n*W64 ^ j)=m*W64 ^ i*val W64 (y.take j)+m*n*W64 ^ k:=by rw[e3];grind
 rw[e5,<-Nat.add_assoc,<-hv];rw[qv,qv]at e4;omega
set_option maxRecDepth 100000 in
theorem zkj (a a':Option Addr) (cap bz:Nat) (x y:List Nat) (w:World) (PY:Sl n64 w (.slice a x.length cap) x) (J8:Sl n64 w (.slice a' y.length bz) y) (uU:Dig W64 x) (GH:Dig W64 y) (hx:x.length<=100000000) (hy:y.length<=100000000) :
  Calls prog 133 #[.slice a x.length cap,.slice a' y.length bz] w fun e w'=>∃out,e=.returned (.slice (some ⟨w.heap.size,0,none⟩) (x.length+y.length) (x.length+y.length))/\Blk n64 w' w.heap.size out/\out.length=x.length+y.length/\Dig W64 out/\val W64 out=val W64 x*val W64 y/\Below w.heap.size w w':=by
 have lu:=zW ((x.length:Int)+y.length) (x.length+y.length) oM oM
 go_enter func133,ntmps133;go_wp2;have pg:=zR w (x.length+y.length);have ru:=yE (Below.refl w.heap.size w) (qH _) (x.length+y.length);generalize ic w (x.length+y.length)=W0 at *
 clear lu;have ha:=Jf
 go_loopg [6,7,8,9,10,11,12,13,14,23,30] x.length (fun g _ _ _ _ _ _ _ _ _ vi _ wr=>∃(i:Nat) (out:List Nat),i+g=x.length/\vi=.int .i64 i/\Blk n64 wr w.heap.size out/\out.length=x.length+y.length/\Dig W64 out/\val W64 out=val W64 (x.take i)*val W64 y/\(∀k,i+y.length<=k->out.getD k 0=0)/\Below w.heap.size w wr)
 case atStart=>exact⟨0,List.replicate (x.length+y.length) 0,by omega,rfl,pg,by simp,Dig.zeros (by decide) _,by rw[pW];simp[val],fun k _=>by simp[qB,List.getElem?_replicate];split <;> simp,ru⟩
 case round =>
  obtain⟨i,out,hi,rfl,hB,jF,CR,cX,sC,hK⟩:=hrel;have HI:=hid (And.intro hi (And.intro jF (And.intro cX sC)));clear hi jF cX sC;by_cases af:i<x.length
  ·obtain⟨b,off,rfl,hb,hc⟩:=PY.at i af;have Pz:=(hK.cell (p:=⟨b,off+i,none⟩) hb).trans hc;have hm:=uU.get i af;have bq:=mf W64 x i;rw[show x.getD i 0=x[i] by simp[af]]at bq;generalize x[i]=m at *
   have HT:=hid bq;clear bq hc;have fT:decide ((i:Int)<(x.length:Int))=true:=by simp;omega
   have ri:decide (i<x.length)=true:=by simp;omega
   go_wp2
   go_loopg [8,9,10,11,12,13,14,30] y.length (fun g vc _ _ _ _ _ _ vj wr=>∃(j c:Nat) (o2:List Nat),j+g=y.length/\vj=.int .i64 j/\vc=.int .u64 c/\c<W64/\Blk n64 wr w.heap.size o2/\o2.length=x.length+y.length/\Dig W64 o2/\val W64 o2+c*W64 ^ (i+j)=val W64 out+m*W64 ^ i*val W64 (y.take j)/\(∀k,i+y.length<=k->o2.getD k 0=0)/\Below w.heap.size w wr)
   case atStart=>exact⟨0,0,out,by omega,rfl,rfl,by decide,hB,HI.out.2.1,CR,by simp[val],HI.out.2.2.2,hK⟩
   case round =>
    obtain⟨j,c,o2,hj,rfl,rfl,rk,rv,kg,wR,jh,jg,C8⟩:=hrel;have HJ:=hid (And.intro hj (And.intro kg (And.intro jh jg)));clear hj kg jh jg;by_cases fw:j<y.length
    ·obtain⟨b2,Ez,rfl,cP,cM⟩:=J8.at j fw;have Bk:=(C8.cell (p:=⟨b2,Ez+j,none⟩) cP).trans cM;have hn:=GH.get j fw;have Wr:Hid (y.getD j 0=y[j]):=by show _=_;simp[fw]
     generalize y[j]=n at *
     have lB:i+j<o2.length:=by have:=HJ.out.2.1;omega
     have JZ:=rv.cell (i+j) lB;have ho:=wR.get (i+j) lB;have y8:Hid (o2.getD (i+j) 0=o2[i+j]):=by show _=_;simp[lB]
     generalize o2[i+j]=o at *
     have JU:=rv.free (i+j);have q1:i+j<x.length+y.length:=oM;clear cM
     go_wp2_with fail;refine(Tryz.bits_Mul64 m n hm hn wr).mono ?_;rintro e w3 ⟨rfl,rfl⟩;generalize uN:m*n % 18446744073709551616=lw;generalize cJ:m*n / 18446744073709551616=hi;have HM:=hid (And.intro uN cJ);clear uN cJ;go_wp2
     go_roundg (gk-1)
     case measure=>have:=HJ.out.1;omega
     case rel =>
      obtain⟨hj,kg,jh,jg⟩:=HJ.out;obtain⟨uN,cJ⟩:=HM.out;have hs:=zrF hm hn ho rk;rw[show m*n % W64=lw from uN,show m*n / W64=hi from cJ]at hs;have sK:=zpC o2 y (val W64 out) i j m c (i+j) rfl lB hm rk wR GH jh;rw[Wr.out,y8.out]at sK;rw[hs.1,hs.2.1];refine⟨j+1,(m*n+o+c) / W64,o2.set (i+j) ((m*n+o+c) % W64),by omega,by go_num,rfl,hs.2.2,rv.set (i+j) _,by simpa using kg,wR.set _ _ (qm _ (by decide)),sK,fun k hk=>?_,C8.setCell (p:=⟨w.heap.size,i+j,none⟩) (qH _) _⟩;rw[getD_set_ne _ _ _ _ (by omega)];exact jg k hk
    ·obtain⟨hj,kg,jh,jg⟩:=HJ.out;obtain⟨hi,jF,cX,sC⟩:=HI.out;obtain rfl:j=y.length:=oM;rw[qa]at jh;have lB:i+y.length<o2.length:=oM;obtain⟨v0,JZ⟩:=rv.has (i+y.length) lB;have JU:=rv.free (i+y.length);have q1:i+y.length<x.length+y.length:=oM;have HK:=hid (And.intro kg (And.intro jh (And.intro jg cX)));clear kg jh jg hi jF cX sC hj;go_wp2
     go_roundg (x.length-(i+1))
     case measure=>have:=HI.out.1;omega
     case rel =>
      obtain⟨kg,jh,jg,cX⟩:=HK.out;refine⟨i+1,o2.set (i+y.length) c,by omega,by go_num,rv.set (i+y.length) c,by simpa using kg,wR.set _ _ rk,?_,fun k hk=>?_,C8.setCell (p:=⟨w.heap.size,i+y.length,none⟩) (qH _) _⟩
      ·have v1:=kx W64 o2 (i+y.length) c lB;rw[jg _ (qH _),Nat.zero_mul,qY]at v1;rw[v1,jh,cX,HT.out,qv]
      ·rw[getD_set_ne _ _ _ _ (by omega)];exact jg k oM
  ·obtain⟨hi,jF,cX,sC⟩:=HI.out;obtain rfl:i=x.length:=oM;rw[qa]at cX;go_wp2
   go_ret;exact⟨out,rfl,hB,jF,CR,cX,hK⟩
set_option maxRecDepth 100000 in
theorem mul_one (a b:Nat) (w:World) (ha:a<W64) (hb:b<W64) (cQ:a*b<W64) :
  Calls prog 86 #[aH a,aH b] w fun e w'=>e=.returned (aH (a*b))/\Below w.heap.size w w':=by
 obtain⟨p,hp⟩:∃p,p=a*b:=⟨_,rfl⟩;rw[iK ha,iK hb,<-hp,iK (by rw[hp];exact cQ)];have e1:a*b / 18446744073709551616=0:=Nat.div_eq_of_lt cQ;have e2:a*b % 18446744073709551616=a*b:=qT cQ;have HE:=hid (And.intro e1 e2);clear e1 e2
 go_enter func86,ntmps86
 go_wp2_with fail;refine(Tryz.bits_Mul64 a b ha hb _).mono ?_;rintro e w1 ⟨rfl,rfl⟩;rw[HE.out.1,HE.out.2];rw[<-hp];have HP:=hid hp;clear hp cQ HE;go_wp2;refine bodyPost_ret (v:=.agg #[.int .u64 (p:Int),.string ⟨#[]⟩]) (by simp[results,Tryz.results86,go_sem]) rfl ⟨rfl,?_⟩;exact(((Below.refl _ _).alloc (qH _) _).alloc (by simp) _).alloc (by simp;omega) _
set_option maxRecDepth 100000 in
theorem YB (a b:Nat) (w:World) (ha:a<W64) (hb:b<W64) (cQ:¬a*b<W64) :
  Calls prog 86 #[aH a,aH b] w fun e w'=>e=.returned (aH (a*b))/\Below w.heap.size w w':=by
 have hv:val W64 [a*b % W64,a*b / W64]=a*b:=by simp only[val];have:=Nat.mod_add_div (a*b) W64;omega
 have h1:a*b % W64<W64:=qm _ (by decide);have h2:a*b / W64<W64:=Nat.div_lt_of_lt_mul (Nat.mul_lt_mul_of_lt_of_lt ha hb);have h3:a*b / W64≠0:=fun e=>cQ (by have:=Nat.div_eq_zero_iff.1 e;have:=cm;omega);rw[iK ha,iK hb]
 go_enter func86,ntmps86
 go_wp2_with fail;refine(Tryz.bits_Mul64 a b ha hb _).mono ?_;rintro e w1 ⟨rfl,rfl⟩;rw[show a*b % 18446744073709551616=a*b % W64 from rfl,show a*b / 18446744073709551616=a*b / W64 from rfl];generalize a*b % W64=lw at *
 generalize a*b / W64=hi at *
 have t1:((hi:Int) == 0)=false:=by simp;omega
 have HV:=hid (And.intro hv h3);clear hv h3 cQ ha hb
 go_wp2_with fail;have xp:=Blk.new n64 (((w.alloc (.cells #[.int .u64 (a:Int),.string ⟨#[]⟩] 47)).alloc (.cells #[.int .u64 (b:Int),.string ⟨#[]⟩] 47)).alloc (.cells #[.int .u64 0,.string ⟨#[]⟩] 47)) [lw,hi] 45;have bA:=xp.sl 2;have cd:(((w.alloc (.cells #[.int .u64 (a:Int),.string ⟨#[]⟩] 47)).alloc (.cells #[.int .u64 (b:Int),.string ⟨#[]⟩] 47)).alloc (.cells #[.int .u64 0,.string ⟨#[]⟩] 47)).heap.size=w.heap.size+1+1+1:=by simp
 rw[cd]at bA;have Pr:=MG (some ⟨w.heap.size+1+1+1,0,none⟩) 2 [lw,hi] _ bA (Dig.cons h1 (Dig.cons h2 (Dig.nil _))) (by simp) (by simp);rw[HV.out.1]at Pr;refine Pr.mono ?_;rintro e w2 ⟨rfl,cP⟩
 have hr:w2.heap[w.heap.size+1+1]?=some (.cells #[.int .u64 0,.string ⟨#[]⟩] 47 (0,0)):=by
  rw[cP.block (w.heap.size+1+1) (by simp),Below.heap_alloc _ _ _ (by simp)];have:=heap_alloc_new ((w.alloc (.cells #[.int .u64 (a:Int),.string ⟨#[]⟩] 47)).alloc (.cells #[.int .u64 (b:Int),.string ⟨#[]⟩] 47)) (.cells #[.int .u64 0,.string ⟨#[]⟩] 47);simpa using this
 have iY:w.heap.size+1+1<w2.heap.size:=lt_of_block hr;have r0:w2.cell? ⟨w.heap.size+1+1,0,none⟩=some (.int .u64 0):=by rw[Lib.cell_of_heap hr];rfl
 have r1:w2.cell? ⟨w.heap.size+1+1,1,none⟩=some (.string ⟨#[]⟩):=by rw[Lib.cell_of_heap hr];rfl
 have rf0:w2.frozen? ⟨w.heap.size+1+1,0,none⟩=false:=Lib.frozen_of_heap hr 0;have rf1:w2.frozen? ⟨w.heap.size+1+1,1,none⟩=false:=Lib.frozen_of_heap hr 1;have hK:Below w.heap.size w w2:=((((Below.refl _ _).alloc (qH _) _).alloc (by simp) _).alloc (by simp;omega) _).alloc (by simp;omega) _ |>.trans (cP.mono (by simp;omega));clear Pr bA xp hr cP cd;go_wp2;refine bodyPost_ret (v:=aH (a*b)) (by simp[results,Tryz.results86,go_sem,r0,r1]) rfl ⟨rfl,?_⟩;exact(hK.setCell (p:=⟨w.heap.size+1+1,0,none⟩) (by simp;omega) _).setCell (p:=⟨w.heap.size+1+1,1,none⟩) (by simp;omega) _
set_option maxRecDepth 100000 in
theorem Uq (a:Option Addr) (cap W p:Nat) (l:List Nat) (w:World) (hS:Sl n64 w (.slice a l.length cap) l) (hD:Dig W64 l) (hl:l.length<=100000000) (hW:W<=100000000) (hp:p<64) :
  Calls prog 208 #[.slice a l.length cap,.int .i64 (64*(W:Int)+p)] w fun e w'=>∃out,e=.returned (.slice (some ⟨w.heap.size,0,none⟩) (l.length+W+1) (l.length+W+1))/\Blk n64 w' w.heap.size out/\out.length=l.length+W+1/\Dig W64 out/\val W64 out=val W64 l*2 ^ (64*W+p)/\Below w.heap.size w w':=by
 have e1:(64*(W:Int)+p) / 64=W:=oM;have e2:(64*(W:Int)+p) % 64=p:=oM;have lu:=zW ((l.length:Int)+W+1) (l.length+W+1) oM oM
 go_enter func208,ntmps208;go_wp2;rw[e1,e2];have pg:=zR w (l.length+W+1);have ru:=yE (Below.refl w.heap.size w) (qH _) (l.length+W+1);generalize ic w (l.length+W+1)=W0 at *
 clear e1 e2 lu
 go_loopg [8,9,23] l.length (fun g _ _ i wr=>∃(j:Nat) (out:List Nat),j+g=l.length/\i=.int .i64 j/\Blk n64 wr w.heap.size out/\out.length=l.length+W+1/\Dig W64 out/\val W64 out=val W64 (l.take j)*2 ^ (64*W+p)/\out.getD (j+W) 0<2 ^ p/\(∀i,j+W<i->out.getD i 0=0)/\Below w.heap.size w wr)
 case atStart=>exact⟨0,List.replicate (l.length+W+1) 0,by omega,rfl,pg,by simp,Dig.zeros (by decide) _,by rw[pW];simp[val],by simp[qB,List.getElem?_replicate];split <;> simp <;> exact Nat.pow_pos oM,fun i _=>by simp[qB,List.getElem?_replicate];split <;> simp,ru⟩
 case round =>
  obtain⟨j,out,hj,rfl,hB,jF,CR,cX,Fu,sC,hK⟩:=hrel;have HJ:=hid (And.intro hj (And.intro jF (And.intro cX sC)));clear hj jF cX sC;by_cases af:j<l.length
  ·obtain⟨b,off,rfl,hb,hc⟩:=hS.at j af;have Pz:=(hK.cell (p:=⟨b,off+j,none⟩) hb).trans hc;have hx:=hD.get j af;have bq:=mf W64 l j;rw[show l.getD j 0=l[j] by simp[af]]at bq;generalize l[j]=x at *
   have HT:=hid bq;clear bq hc;have fw:j+W<out.length:=by have:=HJ.out.2.1;omega
   have FO:j+W+1<out.length:=by have:=HJ.out.2.1;omega
   have JZ:=hB.cell (j+W) fw;have hoD1:=CR.get (j+W) fw;rw[show out.getD (j+W) 0=out[j+W] by simp[fw]]at Fu;have y8:Hid (out.getD (j+W) 0=out[j+W]):=by show _=_;simp[fw]
   generalize out[j+W]=o at *
   have JU:=hB.free (j+W);obtain⟨v2,hco2⟩:=hB.has (j+W+1) FO;have hfo2:=hB.free (j+W+1);have q1:j+W<l.length+W+1:=oM;have q2:j+W+1<l.length+W+1:=oM;go_wp2
   go_roundg (gk-1)
   case measure=>have:=HJ.out.1;omega
   case rel =>
    obtain⟨hj,jF,cX,sC⟩:=HJ.out;have aK:=zkL out l j W p x o hp hx FO CR y8.out Fu sC cX HT.out;rw[(Lb o x p oM Fu).1,Cf];have hBn:=(hB.set (j+W) (o+x*2 ^ p % W64)).set (j+W+1) (x / 2 ^ (64-p));refine⟨j+1,_,by omega,by go_num,hBn,by simpa using jF,aK.1,aK.2.1,aK.2.2.1,aK.2.2.2,?_⟩;exact(hK.setCell (p:=⟨w.heap.size,j+W,none⟩) (qH _) _).setCell (p:=⟨w.heap.size,j+W+1,none⟩) (qH _) _
  ·obtain⟨hj,jF,cX,sC⟩:=HJ.out;obtain rfl:j=l.length:=oM;rw[qa]at cX;go_wp2
   go_ret;exact⟨out,rfl,hB,jF,CR,cX,hK⟩
set_option maxRecDepth 100000 in
theorem zhV (a:Option Addr) (cap W p:Nat) (l:List Nat) (w:World) (hS:Sl n64 w (.slice a l.length cap) l) (hD:Dig W64 l) (hl:l.length<=100000000) (hW:W<l.length) (hp:p<64) :
  Calls prog 210 #[.slice a l.length cap,.int .i64 (64*(W:Int)+p)] w fun e w'=>e=.returned (.slice (some ⟨w.heap.size,0,none⟩) (l.length-W) (l.length-W))/\Blk n64 w' w.heap.size (dW p (l.drop W))/\Below w.heap.size w w':=by
 have e1:(64*(W:Int)+p) / 64=W:=oM;have e2:(64*(W:Int)+p) % 64=p:=oM;have lu:=zW ((l.length:Int)-W) (l.length-W) oM oM
 go_enter func210,ntmps210;go_wp2;rw[e1,e2];have pg:=zR w (l.length-W);have ru:=yE (Below.refl w.heap.size w) (qH _) (l.length-W);generalize ic w (l.length-W)=W0 at *
 clear e1 e2 lu
 go_loopg [8,25] (l.length-W) (fun g _ i wr=>∃(j:Nat),j+g=l.length-W/\i=.int .i64 j/\Blk n64 wr w.heap.size ((dW p (l.drop W)).take j++List.replicate g 0)/\Below w.heap.size w wr)
 case atStart=>exact⟨0,by omega,rfl,by simpa using pg,ru⟩
 case round =>
  obtain⟨j,hj,rfl,hB,hK⟩:=hrel;have bA:=Mz p (l.drop W);rw[qt]at bA;have HJ:=hid (And.intro hj bA);clear hj bA;by_cases af:j<l.length-W
  ·obtain⟨b,off,rfl,hb,hc⟩:=hS.at (j+W) oM;have Pz:=(hK.cell (p:=⟨b,off+(j+W),none⟩) hb).trans hc;have hx:=hD.get (j+W) oM;have JO:j<(dW p (l.drop W)).length:=by rw[HJ.out.2];exact af
   have lg:=La p (l.drop W) j JO;have bq:(dW p (l.drop W)).take (j+1)=(dW p (l.drop W)).take j++[(dW p (l.drop W))[j]]:=qS JO;rw[lg,show (l.drop W).getD j 0=l[j+W] by simp[Nat.add_comm,show W+j<l.length by omega]]at bq;generalize l[j+W]=x at *
   have dc:((dW p (l.drop W)).take j++List.replicate gk 0).length=l.length-W:=by have:=HJ.out;simp;omega
   have HLL:=hid dc;obtain⟨v0,JZ⟩:=hB.has j oM;have JU:=hB.free j;clear dc hc lg;by_cases dr:j+W+1<l.length
   ·obtain⟨b2,Ez,e2,cP,cM⟩:=hS.at (j+W+1) dr;cases e2;have Bk:=(hK.cell (p:=⟨b,off+(j+W+1),none⟩) cP).trans cM;rw[show (l.drop W).getD (j+1) 0=l[j+W+1] by simp[show W+(j+1)=j+W+1 by omega,dr]]at bq;have hy:=hD.get (j+W+1) dr;generalize l[j+W+1]=y at *
    have HT:=hid bq;clear bq cM;go_wp2;rw[Cf];have rA:=hB.set j (x / 2 ^ p);have By:=hK.setCell (p:=⟨w.heap.size,j,none⟩) (qH _) (n64 (x / 2 ^ p))
    have hcr3:(wr.setCell ⟨w.heap.size,j,none⟩ (n64 (x / 2 ^ p))).cell? ⟨b,off+(j+W+1),none⟩=some (n64 y):=by
     rw[(D5 wr ⟨w.heap.size,j,none⟩ _).cell (by have:=hB.lt;simp;omega) (by simp;omega)];exact Bk
    generalize wr.setCell ⟨w.heap.size,j,none⟩ (n64 (x / 2 ^ p))=w1 at *
    have dJ:j<(((dW p (l.drop W)).take j++List.replicate gk 0).set j (x / 2 ^ p)).length:=by have:=HLL.out;simp at this ⊢;omega
    have eA:=rA.cell j dJ;rw[List.getElem_set_self]at eA;have C0:=rA.free j;have q1:(j:Int)+W+1<l.length:=oM;have q2:(j:Int)<(l.length:Int)-W:=oM;have q3:j<l.length-W:=af;have q4:IntKind.i64.wrap ((j:Int)+W)=(j:Int)+W:=by rw[pL];omega
    have q5:IntKind.i64.wrap ((j:Int)+W+1)=(j:Int)+W+1:=by rw[pL];omega
    have q6:((j:Int)+W+1).toNat=j+W+1:=oM;have q7:IntKind.u64.wrap (64-(p:Int))=64-(p:Int):=by rw[dz];omega
    have q8:(64-(p:Int)).toNat=64-p:=oM;have q9:(0:Int)<=(j:Int)+W+1:=oM;have q10:(0:Int)<=64-(p:Int):=oM;clear Pz JZ JU Bk hB hK
    go_region;go_wp2
    go_roundg (gk-1)
    case measure=>have:=HJ.out.1;omega
    case rel =>
     rw[Cf,(K9 x y p hp hx).1];refine⟨j+1,by have:=HJ.out.1;omega,by go_num,?_,(By.setCell (p:=⟨w.heap.size,j,none⟩) (qH _) _).drew⟩;have hs:=(rA.set j (x / 2 ^ p+y*2 ^ (64-p) % W64)).drew
     have e:(((dW p (l.drop W)).take j++List.replicate gk 0).set j (x / 2 ^ p)).set j (x / 2 ^ p+y*2 ^ (64-p) % W64)=(dW p (l.drop W)).take (j+1)++List.replicate (gk-1) 0:=by
      have:=HJ.out;obtain⟨g,rfl⟩:∃g,gk=g+1:=⟨gk-1,by omega⟩;rw[List.set_set,HT.out,List.set_append_right _ _ (by simp;omega),show j-((dW p (l.drop W)).take j).length=0 by simp;omega];simp[List.replicate_succ]
     rw[e]at hs;exact hs
   ·rw[show (l.drop W).getD (j+1) 0=0 by simp[show l.length<=W+(j+1) by omega]]at bq;have HT:=hid bq;clear bq;go_wp2
    go_roundg (gk-1)
    case measure=>have:=HJ.out.1;omega
    case rel =>
     rw[Cf];refine⟨j+1,by have:=HJ.out.1;omega,by go_num,?_,hK.setCell (p:=⟨w.heap.size,j,none⟩) (qH _) _⟩;have hs:=hB.set j (x / 2 ^ p)
     have e:((dW p (l.drop W)).take j++List.replicate gk 0).set j (x / 2 ^ p)=(dW p (l.drop W)).take (j+1)++List.replicate (gk-1) 0:=by
      have:=HJ.out;obtain⟨g,rfl⟩:∃g,gk=g+1:=⟨gk-1,by omega⟩;rw[HT.out,List.set_append_right _ _ (by simp;omega),show j-((dW p (l.drop W)).take j).length=0 by simp;omega];simp[List.replicate_succ]
     rw[e]at hs;exact hs
  ·obtain⟨hj,bA⟩:=HJ.out;obtain rfl:j=l.length-W:=oM;obtain rfl:gk=0:=oM;rw[qO oM,List.replicate_zero,qG]at hB;go_wp2
   go_ret;exact⟨rfl,hB,hK⟩
theorem znI (l q:List Nat) (i d r:Nat) (hi:i<l.length) (fF:q.length=l.length) (hd:0<d)
  (hv:val W64 (l.drop (i+1))=d*val W64 (q.drop (i+1))+r) (cU:q.getD i 0=l.getD i 0) :
  val W64 (l.drop i)=d*val W64 ((q.set i ((r*W64+l.getD i 0) / d)).drop i)+(r*W64+l.getD i 0) % d:=by
 rw[dO W64 l i,dO W64 (q.set i _) i,hv];rw[show (q.set i ((r*W64+l.getD i 0) / d)).getD i 0=(r*W64+l.getD i 0) / d by simp[qB,show i<q.length by omega]];rw[List.drop_set_of_lt (by omega)];have e:=qj (r*W64+l.getD i 0) d;generalize l.getD i 0=x at *
 generalize (r*W64+x) / d=a at *
 generalize (r*W64+x) % d=c at *
 have:x+W64*(d*val W64 (q.drop (i+1))+r)=(r*W64+x)+W64*(d*val W64 (q.drop (i+1))):=by grind
 rw[this,<-e];grind
set_option maxRecDepth 100000 in
theorem zlw (T:TypeId) (B cap d:Nat) (l:List Nat) (w:World) (hB:fy n64 T w B l) (hD:Dig W64 l) (hl:l.length<=100000000) (bZ:l.length<=cap) (uP:0<d) (hd:d<W64) :
  Calls prog 164 #[.slice (some ⟨B,0,none⟩) l.length cap,n64 d] w fun e w'=>∃q,e=.returned (.tuple #[.slice (some ⟨B,0,none⟩) (cg q).length cap,n64 (val W64 l % d)])/\fy n64 T w' B q/\q.length=l.length/\Dig W64 q/\val W64 q=val W64 l / d/\bK (·=B) w w':=by
 go_enter func164,ntmps164;go_wp2
 go_loopg [6,7] l.length (fun g vr vi wr=>∃(r:Nat) (q:List Nat),g<=l.length/\vi=.int .i64 ((g:Int)-1)/\vr=.int .u64 r/\r<d/\fy n64 T wr B q/\q.length=l.length/\Dig W64 q/\(∀k,k<g->q.getD k 0=l.getD k 0)/\val W64 (l.drop g)=d*val W64 (q.drop g)+r/\bK (·=B) w wr)
 case atStart=>exact⟨0,l,qH _,rfl,rfl,uP,hB,rfl,hD,fun _ _=>rfl,by simp[val],bK.refl _ _⟩
 case round =>
  obtain⟨r,q,hg,rfl,rfl,hr,xI,fF,Fl,mR,nH,hK⟩:=hrel;have HQ:=hid (And.intro fF (And.intro mR nH));clear fF mR nH;by_cases h0:gk=0
  ·subst h0;obtain⟨fF,mR,nH⟩:=HQ.out;rw[List.drop_zero,List.drop_zero]at nH;have PZ:=xI.blk.sl cap;rw[fF]at PZ;have HT:=hid (US (some ⟨B,0,none⟩) cap q wr (by rw[fF];exact PZ) oM oM);have e1:val W64 l / d=val W64 q:=by rw[nH,Nat.mul_add_div uP,Nat.div_eq_of_lt hr,qY]
   have e2:val W64 l % d=r:=by rw[nH,Nat.mul_add_mod,qT hr]
   have HE:=hid (And.intro e1 e2);have HTT:=HT.out;rw[fF]at HTT;have HT:=hid HTT;clear fF mR nH PZ e1 e2 HTT
   go_wp2_with fail;refine HT.out.mono ?_;rintro e w1 ⟨rfl,rfl⟩;go_wp2
   go_ret2;rw[HE.out.1,HE.out.2];exact⟨q,rfl,xI,HQ.out.1,Fl,rfl,hK⟩
  ·obtain⟨i,rfl⟩:∃i,gk=i+1:=⟨gk-1,by omega⟩;have JP:i<q.length:=by have:=HQ.out.1;omega
   have hc:=xI.cell i JP;have hx:=Fl.get i JP;have Pn:Hid (q.getD i 0=q[i]):=by show _=_;simp[JP]
   generalize q[i]=x at *
   have hf:=xI.free i;have t1:((i+1:Nat):Int)-1=(i:Int):=oM;rw[t1];clear t1 h0
   go_wp2_with fail;refine(TU r x d wr hr hx hd).mono ?_;rintro e w1 ⟨rfl,cG⟩;have rA:=xI.below cG;have eA:=rA.cell i JP;have C0:=rA.free i;generalize wN:(r*W64+x) / d=qq;generalize Fc:(r*W64+x) % d=rr;have HQR:=hid (And.intro wN Fc);clear wN Fc hc hf;go_wp2
   go_roundg i
   case measure=>omega
   case rel =>
    obtain⟨fF,mR,nH⟩:=HQ.out;obtain⟨wN,Fc⟩:=HQR.out;have JK:l.getD i 0=x:=by rw[<-mR i oM,Pn.out]
    have jB:=znI l q i d r oM fF uP nH (mR i oM);rw[JK,wN,Fc]at jB
    have Oj:qq<W64:=by
     rw[<-wN];apply Nat.div_lt_of_lt_mul;have:(r+1)*W64<=d*W64:=qN _ hr;rw[qv]at this;omega
    refine⟨rr,q.set i qq,by omega,rfl,rfl,by rw[<-Fc];exact qm _ uP,rA.set i qq,by simpa using fF,Fl.set _ _ Oj,fun k hk=>?_,jB,?_⟩
    ·rw[show (q.set i qq).getD k 0=q.getD k 0 by simp[qB,List.getElem?_set_ne (show i≠k by omega)]];exact mR k oM
    ·exact(hK.trans (bK.of_below cG _)).setCell (p:=⟨B,i,none⟩) (fun _=>rfl) _
structure Gs (v1 v0 u c q r:Nat):Prop where
 eq:q*v1+r=u
 lt:q<W64
 top:u*W64+c<(q+1)*(v1*W64+v0)\/q=W64-1
theorem Gs.done {v1 v0 u c q r:Nat} (h:Gs v1 v0 u c q r) (hz:q*v0<=r*W64+c):q*(v1*W64+v0)<=u*W64+c:=by
 rw[<-h.eq];have:q*(v1*W64+v0)=q*v1*W64+q*v0:=by grind
 rw[this,qv];omega
theorem Gs.over {v1 v0 u c q r:Nat} (h:Gs v1 v0 u c q r) (hv:v0<W64) (hr:W64<=r):q*v0<=r*W64+c:=by
 have h1:q*v0<=W64*W64:=Nat.mul_le_mul (by have:=h.lt;omega) oM;have h2:W64*W64<=r*W64:=qN _ hr;omega
theorem Gs.down {v1 v0 u c q r:Nat} (h:Gs v1 v0 u c q r) (hz:r*W64+c<q*v0):0<q/\Gs v1 v0 u c (q-1) (r+v1):=by
 have hq:0<q:=by
  rcases qz q with e | e
  ·rw[e,Nat.zero_mul]at hz;omega
  ·exact e
 obtain⟨k,rfl⟩:∃k,q=k+1:=⟨q-1,by omega⟩;refine⟨hq,?_,by have:=h.lt;omega,.inl ?_⟩
 ·have:=h.eq;rw[qv,Nat.one_mul]at this;rw[Nat.add_sub_cancel];omega
 ·rw[Nat.add_sub_cancel,<-h.eq];have:(k+1)*(v1*W64+v0)=(k+1)*v1*W64+(k+1)*v0:=by grind
  rw[this,qv];omega
theorem Gs.start {v1 v0 u c:Nat} (hv:0<v1) (hu:u<v1*W64) (hc:c<W64):Gs v1 v0 u c (u / v1) (u % v1):=by
 refine⟨by rw[qW];exact qj u v1,Nat.div_lt_of_lt_mul hu,.inl ?_⟩;have e:=qj u v1;have hm:=qm u hv;generalize u / v1=q at *
 generalize u % v1=m at *
 subst e;have h2:(v1*q+m+1)*W64<=(v1*q+v1)*W64:=qN _ oM;have h3:(q+1)*(v1*W64+v0)=(v1*q+v1)*W64+(q+1)*v0:=by grind
 rw[qv _ 1,Nat.one_mul]at h2;omega
theorem Gs.max {v1 v0 u1 c:Nat}:Gs v1 v0 (v1*W64+u1) c (W64-1) (u1+v1):=by
 refine⟨?_,by decide,.inr rfl⟩
 have:(W64-1)*v1+v1=v1*W64:=by
  rw[<-Nat.succ_mul,qW];rfl
 omega
theorem Yd {z r c:Nat} (hz:z<W64*W64) (hc:c<W64):z<=r*W64+c↔z / W64<r\/(z / W64=r/\z % W64<=c):=by
 have e:=qj z W64;have hm:=qm z (show 0<W64 by decide);generalize z / W64=a at *
 generalize z % W64=b at *
 subst e;simp only[cH]at *
 omega
set_option maxRecDepth 100000 in
theorem zi0 (u2 u1 u0 v1 v0:Nat) (w:World) (h2:u2<=v1) (h1:u1<W64) (h0:u0<W64) (dP:v1<W64) (jy:v0<W64) (hn:W64<=2*v1) :
  Calls prog 209 #[n64 u2,n64 u1,n64 u0,n64 v1,n64 v0] w fun e w'=>∃g,e=.returned (n64 g)/\g<W64/\g*(v1*W64+v0)<=(u2*W64+u1)*W64+u0/\((u2*W64+u1)*W64+u0<(g+1)*(v1*W64+v0)\/g=W64-1)/\Below w.heap.size w w':=by
 have ha:=Jf;have fE:0<v1:=by have:=cm;omega
 have HV:=hid (And.intro h1 (And.intro h0 (And.intro dP (And.intro jy fE))));clear h1 h0 dP jy fE hn
 go_enter func209,ntmps209
 go_upto_if 18 with (fail)
 go_cut [11,12,13] (fun vq vr vo wx=>∃q rs ov:Nat,vq=.int .u64 q/\vr=.int .u64 rs/\vo=.int .u64 ov/\rs<W64/\ov<=1/\Gs v1 v0 (u2*W64+u1) u0 q (rs+ov*W64)/\Below w.heap.size w wx)
 case first =>
  by_cases he:u2=v1
  ·subst he;go_wp2
   go_meet;obtain⟨h1,h0,dP,jy,fE⟩:=HV.out;have hp:=uo h1 dP (show 0<=1 by omega);refine⟨W64-1,addLo u1 u2 0,addHi u1 u2 0,rfl,rfl,rfl,hp.2.1,hp.2.2,?_,Below.refl _ _⟩;rw[hp.1,qY];exact Gs.max
  ·have t1:((u2:Int) == (v1:Int))=false:=by simp;omega
   obtain⟨h1,h0,dP,jy,fE⟩:=HV.out;have af:u2<v1:=oM;clear he h0 jy
   go_wp2_with fail;refine(TU u2 u1 v1 w af h1 dP).mono ?_;rintro e w1 ⟨rfl,cG⟩
   have hu:u2*W64+u1<v1*W64:=by
    have:(u2+1)*W64<=v1*W64:=qN _ af;rw[qv]at this;omega
   have hG:=Gs.start (v0:=v0) fE hu HV.out.2.1;have hr:(u2*W64+u1) % v1<W64:=Nat.lt_trans (qm _ fE) dP;have HG:=hid (And.intro hG hr);clear hG hr hu h1 dP fE;generalize (u2*W64+u1) / v1=q at *
   generalize (u2*W64+u1) % v1=r at *
   go_wp2
   go_meet;exact⟨q,r,0,rfl,rfl,rfl,HG.out.2,by omega,by rw[Nat.zero_mul,qY];exact HG.out.1,cG⟩
 case rest =>
  obtain⟨q,rs,ov,rfl,rfl,rfl,eZ,cX,hG,hb⟩:=hcut;have HG:=hid (And.intro eZ (And.intro cX hG));clear eZ cX hG;go_wp2
  go_loopg [11,12,13,14,15] q (fun g vq vr vo _ _ wr=>∃q rs ov:Nat,q=g/\vq=.int .u64 q/\vr=.int .u64 rs/\vo=.int .u64 ov/\rs<W64/\ov<=1/\Gs v1 v0 (u2*W64+u1) u0 q (rs+ov*W64)/\Below w.heap.size w wr)
  case atStart=>exact⟨q,rs,ov,rfl,rfl,rfl,rfl,HG.out.1,HG.out.2.1,HG.out.2.2,hb⟩
  case round =>
   obtain⟨q,rs,ov,wO,rfl,rfl,rfl,eZ,cX,hG,hb⟩:=hrel;by_cases ho:ov=0
   ·subst ho;rw[Nat.zero_mul,qY]at hG;obtain⟨h1,h0,dP,jy,fE⟩:=HV.out;have hz:q*v0<W64*W64:=Nat.mul_lt_mul_of_lt_of_lt hG.lt jy;have xK:=Yd (r:=rs) hz h0;have HQ:=hid (And.intro wO (And.intro eZ hG));clear wO eZ
    go_wp2_with fail;refine(Tryz.bits_Mul64 q v0 hG.lt jy wr).mono ?_;rintro e w3 ⟨rfl,rfl⟩;have hqW:(q:Int)<=18446744073709551615:=by have:=hG.lt;simp only[cH]at this;omega
    clear hz hG h1 h0 dP jy fE;have xK:q*v0<=rs*W64+u0↔q*v0 / 18446744073709551616<rs\/(q*v0 / 18446744073709551616=rs/\q*v0 % 18446744073709551616<=u0):=xK;generalize q*v0 / 18446744073709551616=hi at *
    generalize q*v0 % 18446744073709551616=lw at *
    by_cases hc:q*v0<=rs*W64+u0
    ·have HC:=hid hc;rcases xK.1 hc with af | ⟨rfl,hle⟩
     ·have t1:decide (hi<rs)=true:=by simpa using af
      clear xK hc;go_wp2
      go_ret;have hG:=HQ.out.2.2;exact⟨q,rfl,hG.lt,hG.done HC.out,hG.top,hb⟩
     ·have t1:decide (hi<hi)=false:=by simp
      have t2:((hi:Int) == (hi:Int))=true:=by simp
      have t3:decide (lw<=u0)=true:=by simpa using hle
      clear xK hc;go_wp2
      go_ret;have hG:=HQ.out.2.2;exact⟨q,rfl,hG.lt,hG.done HC.out,hG.top,hb⟩
    ·have HD:=hid (HQ.out.2.2.down oM);have si:(1:Int)<=q:=by have:=HD.out.1;omega
     have af:¬hi<rs:=fun h=>hc (xK.2 (.inl h));have t1:decide (hi<rs)=false:=by simpa using af
     by_cases heq:hi=rs
     ·subst heq;have t2:((hi:Int) == (hi:Int))=true:=by simp
      have hle:¬lw<=u0:=fun h=>hc (xK.2 (.inr ⟨rfl,h⟩));have t3:decide (lw<=u0)=false:=by simpa using hle
      clear xK hc af hle;go_wp2
      go_roundg (q-1)
      case measure=>have:=HQ.out.1;omega
      case rel =>
       have hp:=uo HQ.out.2.1 HV.out.2.2.1 (show 0<=1 by omega);exact⟨q-1,addLo hi v1 0,addHi hi v1 0,rfl,by congr 1;omega,rfl,rfl,hp.2.1,hp.2.2,by rw[hp.1,qY];exact HD.out.2,hb⟩
     ·have t2:((hi:Int) == (rs:Int))=false:=by simp;omega
      clear xK hc af heq;go_wp2
      go_roundg (q-1)
      case measure=>have:=HQ.out.1;omega
      case rel =>
       have hp:=uo HQ.out.2.1 HV.out.2.2.1 (show 0<=1 by omega);exact⟨q-1,addLo rs v1 0,addHi rs v1 0,rfl,by congr 1;omega,rfl,rfl,hp.2.1,hp.2.2,by rw[hp.1,qY];exact HD.out.2,hb⟩
   ·obtain rfl:ov=1:=oM;have HQ:=hid (And.intro eZ hG);clear wO eZ hG ho;go_wp2
    go_ret;obtain⟨h1,h0,dP,jy,fE⟩:=HV.out;have hG:=HQ.out.2;exact⟨q,rfl,hG.lt,hG.done (hG.over jy oM),hG.top,hb⟩
def mid (l:List Nat) (j k:Nat):List Nat:=(l.drop j).take k
theorem vH (l:List Nat) (j k:Nat) (h:j+k<=l.length):val W64 l=val W64 (l.take j)+W64 ^ j*(val W64 (mid l j k)+W64 ^ k*val W64 (l.drop (j+k))):=by
 rw[ep W64 l j oM,ep W64 (l.drop j) k (by simp;omega),List.drop_drop];rfl
theorem mid_length (l:List Nat) (j k:Nat) (h:j+k<=l.length):(mid l j k).length=k:=by simp[mid];omega
theorem mid_dig {l:List Nat} (h:Dig W64 l) (j k:Nat):Dig W64 (mid l j k):=(h.drop j).take k
def Alike (l m:List Nat) (j k:Nat):Prop:=l.length=m.length/\∀i,(i<j\/j+k<=i)->l.getD i 0=m.getD i 0
theorem Alike.refl (l:List Nat) (j k:Nat):Alike l l j k:=⟨rfl,fun _ _=>rfl⟩
theorem Alike.set {l m:List Nat} {j k:Nat} (h:Alike l m j k) (i v:Nat) (hi:j<=i) (Pk:i<j+k):Alike (l.set i v) m j k :=
 ⟨by simpa using h.1,fun x hx=>by rw[getD_set_ne _ _ _ _ (by omega)];exact h.2 x hx⟩
theorem D6 {l m:List Nat} (hl:l.length=m.length) (h:∀i,l.getD i 0=m.getD i 0):l=m:=by
 apply List.ext_getElem hl;intro i h1 h2;have:=h i;simpa[qB,h1,h2] using this
theorem oo (l:List Nat) (j i:Nat):(l.take j).getD i 0=if i<j then l.getD i 0 else 0:=by
 simp only[qB,pO];split <;> simp
theorem yu (l:List Nat) (j i:Nat):(l.drop j).getD i 0=l.getD (j+i) 0:=by
 simp[qB]
theorem Alike.take {l m:List Nat} {j k:Nat} (h:Alike l m j k):l.take j=m.take j :=
 D6 (by simp[h.1]) (fun i=>by
  rw[oo,oo];split
  ·exact h.2 i oM
  ·rfl)
theorem Alike.drop {l m:List Nat} {j k:Nat} (h:Alike l m j k):l.drop (j+k)=m.drop (j+k) :=
 D6 (by simp[h.1]) (fun i=>by rw[yu,yu];exact h.2 _ oM)
theorem Alike.mid_eq {l m:List Nat} {j k:Nat} (h:Alike l m j k) (hk:j+k<=l.length) {a b:Nat} (e:val W64 l+a*W64 ^ j=val W64 m+b*W64 ^ (j+k)) :
  val W64 (mid l j k)+a=val W64 (mid m j k)+b*W64 ^ k:=by
 rw[vH l j k hk,vH m j k (by rw[<-h.1];exact hk),h.take,h.drop]at e;have hp:0<W64 ^ j:=Nat.pow_pos (by decide);rw[Nat.pow_add]at e;generalize val W64 (mid l j k)=x at *
 generalize val W64 (mid m j k)=y at *
 generalize val W64 (m.drop (j+k))=z at *
 generalize val W64 (m.take j)=t at *
 generalize W64 ^ j=P at *
 generalize W64 ^ k=Q at *
 have e2:P*(x+a+Q*z)=P*(y+b*Q+Q*z):=by
  have h1:t+P*(x+Q*z)+a*P=t+P*(x+a+Q*z):=by grind
  have h2:t+P*(y+Q*z)+b*(P*Q)=t+P*(y+b*Q+Q*z):=by grind
  omega
 have:=Nat.eq_of_mul_eq_mul_left hp e2;omega
theorem sub_round (U U0 v:List Nat) (j i k g c b x vi hi lw:Nat) (hk:k=j+i) (hlen:k<U.length) (hx:x<W64) (hU:U.getD k 0=x) (p9:v.getD i 0=vi) (cF:lw<W64) (Bb:hi*W64+lw=g*vi) (Bc:g*vi+c<W64*W64) (hc:c<W64) (hb:b<=1)
  (hv:val W64 U+g*val W64 (v.take i)*W64 ^ j=val W64 U0+(b+c)*W64 ^ k) :
  IntKind.u64.wrap ((hi:Int)+(addHi lw c 0:Int))=((hi+addHi lw c 0:Nat):Int)/\hi+addHi lw c 0<W64/\subHi x (addLo lw c 0) b<=1/\subLo x (addLo lw c 0) b<W64 /\
  val W64 (U.set k (subLo x (addLo lw c 0) b))+g*val W64 (v.take (i+1))*W64 ^ j=val W64 U0+(subHi x (addLo lw c 0) b+(hi+addHi lw c 0))*W64 ^ (k+1):=by
 have ap:=uo cF hc (show 0<=1 by omega);have sp:=Cr hx ap.2.1 hb;generalize addLo lw c 0=s at *
 generalize addHi lw c 0=a at *
 generalize subLo x s b=u' at *
 generalize subHi x s b=b' at *
 have Bo:hi+a<W64:=by
  have:(hi+a)*W64<W64*W64:=by rw[qv];omega
  exact Nat.lt_of_mul_lt_mul_right this
 refine⟨?_,Bo,sp.2.2,sp.2.1,?_⟩
 ·rw[<-Int.natCast_add,vZ];simp only[cH]at Bo;omega
 ·have v1:=kx W64 U k u' hlen;rw[hU]at v1;rw[mf,p9,qX]
  have e1:g*(val W64 (v.take i)+vi*W64 ^ i)*W64 ^ j=g*val W64 (v.take i)*W64 ^ j+(g*vi)*W64 ^ k:=by
   rw[hk,Nat.pow_add];grind
  rw[e1];generalize W64 ^ k=P at *
  generalize g*val W64 (v.take i)*W64 ^ j=G at *
  generalize val W64 (U.set k u')=A at *
  generalize val W64 U=A0 at *
  generalize val W64 U0=Z_0 at *
  have e2:(u'+s+b)*P=(x+b'*W64)*P:=by rw[sp.1]
  have e3:(s+a*W64)*P=(lw+c)*P:=by rw[<-qY (lw+c),<-ap.1]
  have e4:(hi*W64+lw)*P=(g*vi)*P:=by rw[Bb]
  grind
theorem add_round (U U0 v:List Nat) (j i k c x vi:Nat) (hk:k=j+i) (hlen:k<U.length) (hx:x<W64) (hU:U.getD k 0=x) (p9:v.getD i 0=vi) (NS:vi<W64) (hc:c<=1)
  (hv:val W64 U+c*W64 ^ k=val W64 U0+val W64 (v.take i)*W64 ^ j) :
  addLo x vi c<W64/\addHi x vi c<=1/\val W64 (U.set k (addLo x vi c))+addHi x vi c*W64 ^ (k+1)=val W64 U0+val W64 (v.take (i+1))*W64 ^ j:=by
 have ap:=uo hx NS hc;generalize addLo x vi c=s at *
 generalize addHi x vi c=a at *
 refine⟨ap.2.1,ap.2.2,?_⟩;have v1:=kx W64 U k s hlen;rw[hU]at v1;rw[mf,p9,qX]
 have e1:(val W64 (v.take i)+vi*W64 ^ i)*W64 ^ j=val W64 (v.take i)*W64 ^ j+vi*W64 ^ k:=by
  rw[hk,Nat.pow_add];grind
 rw[e1];generalize W64 ^ k=P at *
 generalize val W64 (v.take i)*W64 ^ j=G at *
 generalize val W64 (U.set k s)=A at *
 generalize val W64 U=A0 at *
 generalize val W64 U0=Z_0 at *
 have e2:(s+a*W64)*P=(x+vi+c)*P:=by rw[ap.1]
 grind
structure Long (X V n g:Nat) (U q:List Nat):Prop where
 dU:Dig W64 U
 dq:Dig W64 q
 top:val W64 (U.drop g)<V
 sum:X=val W64 U+V*val W64 q
 low:∀k,k<g->q.getD k 0=0
theorem Long.rem {X V n j:Nat} {U q:List Nat} (h:Long X V n (j+1) U q) (hj:j+(n+1)<=U.length) (hV:V<W64 ^ n) :
  val W64 (mid U j (n+1))<W64*V/\val W64 (U.drop j)=val W64 (mid U j (n+1))/\val W64 (U.drop (j+(n+1)))=0:=by
 have h1:=dO W64 U j;have h2:=h.dU.getD (show 0<W64 by decide) j;have h3:=h.top
 have h0:val W64 (U.drop (j+(n+1)))=0:=by
  have e:=ep W64 (U.drop (j+1)) n (by simp;omega);rw[List.drop_drop,show j+1+n=j+(n+1) by omega]at e;rcases qz (val W64 (U.drop (j+(n+1)))) with h | h
  ·exact h
  ·exfalso;have:W64 ^ n*1<=W64 ^ n*val W64 (U.drop (j+(n+1))):=qb _ h;omega
 have h4:val W64 (U.drop j)=val W64 (mid U j (n+1)):=by
  have e:=ep W64 (U.drop j) (n+1) (by simp;omega);rw[List.drop_drop,h0,Nat.mul_zero,qY]at e;exact e
 refine⟨?_,h4,h0⟩;rw[<-h4,h1];have:W64*(val W64 (U.drop (j+1))+1)<=W64*V:=qb _ h3;rw[Nat.mul_add]at this;omega
theorem Long.next {X V n j:Nat} {U q U':List Nat} (h:Long X V n (j+1) U q) (hj:j+(n+1)<=U.length) (hV:V<W64 ^ n) (ng:0<V) (FN:j<q.length) (ha:Alike U' U j (n+1)) (hD:Dig W64 U')
  (hm:val W64 (mid U' j (n+1))=val W64 (mid U j (n+1)) % V):Long X V n j U' (q.set j (val W64 (mid U j (n+1)) / V)):=by
 obtain⟨r1,r2,r3⟩:=h.rem hj hV;have af:=qm (val W64 (mid U j (n+1))) ng;have e:=qj (val W64 (mid U j (n+1))) V;have Px:val W64 (mid U j (n+1)) / V<W64:=Nat.div_lt_of_lt_mul (by rw[qW];exact r1);have ak:j+(n+1)<=U'.length:=by rw[ha.1];exact hj
 refine⟨hD,h.dq.set _ _ Px,?_,?_,fun k hk=>by rw[getD_set_ne _ _ _ _ (by omega)];exact h.low k oM⟩
 ·have e2:=ep W64 (U'.drop j) (n+1) (by simp;omega);rw[List.drop_drop,ha.drop,r3,Nat.mul_zero,qY]at e2;rw[e2];show val W64 (mid U' j (n+1))<V;rw[hm];exact af
 ·have v1:=kx W64 q j (val W64 (mid U j (n+1)) / V) FN;rw[h.low j oM,Nat.zero_mul,qY]at v1;rw[v1,h.sum,vH U j (n+1) hj,vH U' j (n+1) ak,ha.take,ha.drop,r3,hm];generalize val W64 (mid U j (n+1)) / V=d at *
  generalize val W64 (mid U j (n+1)) % V=m at *
  generalize val W64 (mid U j (n+1))=R at *
  subst e;grind
theorem Ve (y':List Nat) (t s k:Nat) (hD:Dig W64 y') (h1:t<2 ^ k) (h2:2 ^ (k-1)<=t) (hk:0<k) (hs:s+k=64) :
  (val W64 y'+t*W64 ^ y'.length)*2 ^ s<W64 ^ (y'.length+1)/\W64 ^ (y'.length+1)<=2*((val W64 y'+t*W64 ^ y'.length)*2 ^ s):=by
 have hv:=cZ hD;have e:W64=2 ^ k*2 ^ s:=by rw[fB,<-Nat.pow_add];congr 1;omega
 have e2:W64=2*(2 ^ (k-1)*2 ^ s):=by rw[e,<-Nat.mul_assoc,qW 2,<-qX];congr 2;omega
 rw[qX];generalize val W64 y'=v at *
 generalize W64 ^ y'.length=P at *
 have nG:0<2 ^ s:=Nat.pow_pos oM;constructor
 ·have h3:(v+t*P)<2 ^ k*P:=by
   have:(t+1)*P<=2 ^ k*P:=qN _ h1;rw[qv]at this;omega
  have:=Nat.mul_lt_mul_of_pos_right h3 nG;have e3:2 ^ k*P*2 ^ s=P*W64:=by rw[e];grind
  omega
 ·have h3:2 ^ (k-1)*P<=v+t*P:=by
   have:2 ^ (k-1)*P<=t*P:=qN _ h2;omega
  have:=qN (2 ^ s) h3
  have e3:P*W64=2*(2 ^ (k-1)*P*2 ^ s):=by
   have:P*W64=P*(2*(2 ^ (k-1)*2 ^ s)):=by rw[<-e2]
   rw[this];grind
  omega
theorem top_words (l:List Nat) (n:Nat) (h:Dig W64 l) (hl:l.length=n) (hn:2<=n):val W64 l=(l.getD (n-1) 0*W64+l.getD (n-2) 0)*W64 ^ (n-2)+val W64 (l.take (n-2))/\val W64 (l.take (n-2))<W64 ^ (n-2):=by
 have e:=ep W64 l (n-2) oM;have af:=cZ (h.take (n-2));rw[qP,qn (by omega)]at af;refine⟨?_,af⟩;rw[e,dO,dO W64 l (n-2+1),show n-2+1=n-1 by omega,qi (show l.length<=n-1+1 by omega),nx];grind
theorem top_half (l:List Nat) (n:Nat) (h:Dig W64 l) (hl:l.length=n) (hn:1<=n) (hV:W64 ^ n<=2*val W64 l):W64<=2*l.getD (n-1) 0:=by
 have e:=ep W64 l (n-1) oM;have af:=cZ (h.take (n-1));rw[qP,qn (by omega)]at af;rw[dO,show n-1+1=n by omega,qi (show l.length<=n by omega),nx,Nat.mul_zero,qY]at e;generalize l.getD (n-1) 0=v1 at *
 obtain⟨m,rfl⟩:∃m,n=m+1:=⟨n-1,by omega⟩;rw[Nat.add_sub_cancel]at *
 rw[qX]at hV;generalize val W64 (l.take m)=a at *
 generalize val W64 l=b at *
 generalize W64 ^ m=P at *
 have h1:P*W64<P*(2*(v1+1)):=by
  have:P*(2*(v1+1))=2*(P*v1)+2*P:=by grind
  omega
 have h2:=Nat.lt_of_mul_lt_mul_left h1;simp only[cH]at *
 omega
theorem top3_words (l:List Nat) (n:Nat) (h:Dig W64 l) (hl:l.length=n+1) (hn:2<=n):val W64 l=((l.getD n 0*W64+l.getD (n-1) 0)*W64+l.getD (n-2) 0)*W64 ^ (n-2)+val W64 (l.take (n-2))/\val W64 (l.take (n-2))<W64 ^ (n-2):=by
 have e:=ep W64 l (n-2) oM;have af:=cZ (h.take (n-2));rw[qP,qn (by omega)]at af;refine⟨?_,af⟩;rw[e,dO,dO W64 l (n-2+1),show n-2+1=n-1 by omega,dO W64 l (n-1+1),show n-1+1=n by omega,qi (show l.length<=n+1 by omega),nx];grind
theorem getD_mid (l:List Nat) (j k i:Nat) (hi:i<k):(mid l j k).getD i 0=l.getD (j+i) 0:=by
 unfold mid;rw[oo,if_pos hi,yu]
theorem Long.guess {X V n j:Nat} {U q vl:List Nat} (h:Long X V n (j+1) U q) (hj:j+(n+1)<=U.length) (hn:2<=n) (hV:V<W64 ^ n) (WU:W64 ^ n<=2*V) (eQ:vl.length=n) (k6:Dig W64 vl) (uB:val W64 vl=V) :
  U.getD (j+n) 0<=vl.getD (n-1) 0/\∀g,g<W64->g*(vl.getD (n-1) 0*W64+vl.getD (n-2) 0)<=(U.getD (j+n) 0*W64+U.getD (j+(n-1)) 0)*W64+U.getD (j+(n-2)) 0 ->
   ((U.getD (j+n) 0*W64+U.getD (j+(n-1)) 0)*W64+U.getD (j+(n-2)) 0<(g+1)*(vl.getD (n-1) 0*W64+vl.getD (n-2) 0)\/g=W64-1) ->
   val W64 (mid U j (n+1)) / V<=g/\g<=val W64 (mid U j (n+1)) / V+1:=by
 obtain⟨r1,r2,r3⟩:=h.rem hj hV;have wG:=top_words vl n k6 eQ hn;have h3:=top3_words (mid U j (n+1)) n (mid_dig h.dU _ _) (mid_length _ _ _ hj) hn;rw[getD_mid _ _ _ _ oM,getD_mid _ _ _ _ oM,getD_mid _ _ _ _ (by omega)]at h3;rw[uB]at wG
 have hP:W64*W64 ^ (n-2)<=V:=by
  have e:W64 ^ n=W64*(W64*W64 ^ (n-2)):=by rw[<-Nat.mul_assoc,qW,<-Nat.pow_two,<-Nat.pow_add];congr 1;omega
  have:2*(W64*W64 ^ (n-2))<=W64*(W64*W64 ^ (n-2)):=qN _ cm;omega
 constructor
 ·have e1:(mid U j (n+1)).length=n+1:=mid_length _ _ _ hj;have h4:=h.top
  have h5:val W64 (U.drop (j+1))>=U.getD (j+n) 0*W64 ^ (n-1):=by
   have e:=ep W64 (U.drop (j+1)) (n-1) (by simp;omega);rw[List.drop_drop,dO W64 U (j+1+(n-1)),show j+1+(n-1)=j+n by omega]at e
   have:U.getD (j+n) 0*W64 ^ (n-1)<=W64 ^ (n-1)*(U.getD (j+n) 0+W64*val W64 (U.drop (j+n+1))):=by
    rw[qW];exact qb _ oM
   omega
  have h6:V<(vl.getD (n-1) 0+1)*W64 ^ (n-1):=by
   have e:=ep W64 vl (n-1) oM;have af:=cZ (k6.take (n-1));rw[qP,qn (by omega)]at af;rw[dO,show n-1+1=n by omega,qi (show vl.length<=n by omega),nx,Nat.mul_zero,qY,uB]at e;rw[e,qv,qW (vl.getD (n-1) 0)];omega
  have h7:U.getD (j+n) 0*W64 ^ (n-1)<(vl.getD (n-1) 0+1)*W64 ^ (n-1):=oM;have:=Nat.lt_of_mul_lt_mul_right h7;omega
 ·intro g hg h1 h2;exact UJ h3.1 h3.2 wG.1 wG.2 (by decide) r1 hP h1 hg h2
theorem sub_end (U U1:List Nat) (V g c b xu j n:Nat) (ml:j+(n+1)<=U.length) (bH:Alike U1 U j (n+1)) (hD:Dig W64 U) (iR:Dig W64 U1) (mL:U1.getD (j+n) 0=xu) (hc:c<W64) (hb:b<=1)
  (hv:val W64 U1+g*V*W64 ^ j=val W64 U+(b+c)*W64 ^ (j+n)) (ng:0<V) (hV:V<W64 ^ n) (h1:val W64 (mid U j (n+1)) / V<=g) (h2:g<=val W64 (mid U j (n+1)) / V+1) :
  Alike (U1.set (j+n) (subLo xu c b)) U j (n+1)/\Dig W64 (U1.set (j+n) (subLo xu c b))/\subHi xu c b<=1 /\
  (subHi xu c b=0->g=val W64 (mid U j (n+1)) / V/\val W64 (mid (U1.set (j+n) (subLo xu c b)) j (n+1))=val W64 (mid U j (n+1)) % V) /\
  (subHi xu c b=1->g=val W64 (mid U j (n+1)) / V+1/\val W64 (mid (U1.set (j+n) (subLo xu c b)) j (n+1))+V=val W64 (mid U j (n+1)) % V+W64 ^ (n+1)):=by
 have iB:j+n<U1.length:=by rw[bH.1];omega
 have EO:xu<W64:=by rw[<-mL];exact iR.getD (by decide) _
 have sp:=Cr EO hc hb;have aG:=kx W64 U1 (j+n) (subLo xu c b) iB;rw[mL]at aG
 have PX:val W64 (U1.set (j+n) (subLo xu c b))+g*V*W64 ^ j=val W64 U+subHi xu c b*W64 ^ (j+(n+1)):=by
  rw[show j+(n+1)=j+n+1 by omega,qX];have e2:(subLo xu c b+c+b)*W64 ^ (j+n)=(xu+subHi xu c b*W64)*W64 ^ (j+n):=by rw[sp.1]
  generalize W64 ^ (j+n)=P at *
  generalize g*V*W64 ^ j=G at *
  generalize val W64 (U1.set (j+n) (subLo xu c b))=A at *
  generalize subLo xu c b=s at *
  generalize subHi xu c b=t at *
  grind
 have eJ:=bH.set (j+n) (subLo xu c b) oM oM;have gW:=iR.set (j+n) (subLo xu c b) sp.2.1;have eH:j+(n+1)<=(U1.set (j+n) (subLo xu c b)).length:=by rw[eJ.1];exact ml
 have AZ:=eJ.mid_eq eH PX
 have J6:V<=W64 ^ (n+1):=by
  have h2:W64 ^ n<=W64 ^ (n+1):=qc (by decide) oM;omega
 have P2:val W64 (mid U j (n+1))<W64 ^ (n+1):=by
  have:=cZ (mid_dig hD j (n+1));rwa [mid_length _ _ _ ml]at this
 have F2:val W64 (mid (U1.set (j+n) (subLo xu c b)) j (n+1))<W64 ^ (n+1):=by
  have:=cZ (mid_dig gW j (n+1));rwa [mid_length _ _ _ eH]at this
 have y6:=Tn ng J6 AZ F2 P2 h1 h2;exact⟨eJ,gW,sp.2.2,y6.1,fun h=>(y6.2 oM).2⟩
theorem add_end (U2 U3:List Nat) (V c xu j n m:Nat) (ml:j+(n+1)<=U2.length) (bH:Alike U3 U2 j n) (gJ:Dig W64 U3) (mL:U3.getD (j+n) 0=xu) (hc:c<=1)
  (hv:val W64 U3+c*W64 ^ (j+n)=val W64 U2+V*W64 ^ j) (hm:val W64 (mid U2 j (n+1))+V=m+W64 ^ (n+1)) (CT:m<W64 ^ (n+1)) :
  Alike (U3.set (j+n) ((xu+c) % W64)) U2 j (n+1)/\Dig W64 (U3.set (j+n) ((xu+c) % W64))/\val W64 (mid (U3.set (j+n) ((xu+c) % W64)) j (n+1))=m:=by
 have iB:j+n<U3.length:=by rw[bH.1];omega
 have EO:xu<W64:=by rw[<-mL];exact gJ.getD (by decide) _
 have Bt:Alike U3 U2 j (n+1):=⟨bH.1,fun i hi=>bH.2 i oM⟩;have eJ:=Bt.set (j+n) ((xu+c) % W64) oM oM;have gW:=gJ.set (j+n) ((xu+c) % W64) (qm _ (by decide));have eH:j+(n+1)<=(U3.set (j+n) ((xu+c) % W64)).length:=by rw[eJ.1];exact ml
 refine⟨eJ,gW,?_⟩;have aG:=kx W64 U3 (j+n) ((xu+c) % W64) iB;rw[mL]at aG;have e:=qj (xu+c) W64
 have hU:val W64 U2+V*W64 ^ j=val W64 (U3.set (j+n) ((xu+c) % W64))+(xu+c) / W64*W64 ^ (j+(n+1)):=by
  rw[show j+(n+1)=j+n+1 by omega,qX];generalize (xu+c) / W64=a at *
  generalize (xu+c) % W64=s at *
  have e2:(W64*a+s)*W64 ^ (j+n)=(xu+c)*W64 ^ (j+n):=by rw[e]
  generalize W64 ^ (j+n)=P at *
  generalize val W64 (U3.set (j+n) s)=A at *
  grind
 have dB:Alike U2 (U3.set (j+n) ((xu+c) % W64)) j (n+1):=⟨eJ.1.symm,fun i hi=>(eJ.2 i hi).symm⟩;have AZ:=dB.mid_eq ml hU
 have F2:val W64 (mid (U3.set (j+n) ((xu+c) % W64)) j (n+1))<W64 ^ (n+1):=by
  have:=cZ (mid_dig gW j (n+1));rwa [mid_length _ _ _ eH]at this
 rw[hm]at AZ;generalize val W64 (mid (U3.set (j+n) ((xu+c) % W64)) j (n+1))=d at *
 generalize (xu+c) / W64=a at *
 generalize W64 ^ (n+1)=M at *
 have ha:a=1:=by
  rcases Nat.lt_or_ge a 1 with h | h
  ·have:a=0:=oM;subst this;omega
  ·rcases Nat.lt_or_ge a 2 with h2 | h2
   ·omega
   ·have:2*M<=a*M:=qN M h2;omega
 subst ha;omega
theorem Long.final {X V n xv yv s:Nat} {U q:List Nat} (h:Long X V n 0 U q) (hX:X=xv*2 ^ s) (Gp:V=yv*2 ^ s) (hV:V<W64 ^ n) (hn:n<=U.length) (hs:s<64) :
  val W64 q=xv / yv/\val W64 (dW s (U.take n))=xv % yv:=by
 have cD:=h.top;rw[List.drop_zero]at cD;have bk:=h.sum;have ng:0<V:=oM;have nG:0<2 ^ s:=Nat.pow_pos oM;have e1:X / V=val W64 q:=by rw[bk,Nat.add_mul_div_left _ _ ng,Nat.div_eq_of_lt cD,qu]
 have e2:X % V=val W64 U:=by rw[bk,Nat.add_mul_mod_self_left,qT cD]
 have PT:val W64 (U.take n)=val W64 U:=by
  have e:=ep W64 U n hn;rcases qz (val W64 (U.drop n)) with h0 | h0
  ·rw[h0,Nat.mul_zero,qY]at e;exact e.symm
  ·exfalso;have:W64 ^ n*1<=W64 ^ n*val W64 (U.drop n):=qb _ h0;omega
 rw[hX,Gp,Nat.mul_div_mul_right _ _ nG]at e1;rw[hX,Gp,Nat.mul_mod_mul_right]at e2;refine⟨e1.symm,?_⟩;rw[S7 s hs (h.dU.take n),PT,<-e2,Nat.mul_div_cancel _ nG]
theorem zqU (x c:Nat):IntKind.u64.wrap ((x:Int)+(c:Int))=(((x+c) % W64:Nat):Int):=by
 rw[<-Int.natCast_add,vZ];rfl
theorem UZ (a:Option Addr) (cap p:Nat) (l:List Nat) (w:World) (hS:Sl n64 w (.slice a l.length cap) l) (hD:Dig W64 l) (hl:l.length<=100000000) (hp:p<64) :
  Calls prog 208 #[.slice a l.length cap,.int .i64 (p:Int)] w fun e w'=>∃out,e=.returned (.slice (some ⟨w.heap.size,0,none⟩) (l.length+1) (l.length+1))/\Blk n64 w' w.heap.size out/\out.length=l.length+1/\Dig W64 out/\val W64 out=val W64 l*2 ^ p/\Below w.heap.size w w':=by
 have:=Uq a cap 0 p l w hS hD hl oM hp;simp only[Int.natCast_zero,Int.mul_zero,Int.zero_add,qY,Nat.mul_zero,qu]at this;exact this
theorem znB (w:World) (g h n:Nat) (old new:List Nat) (hg:Blk n64 w g old) (hh:Blk n64 w h new) (hl:old.length=n) (hn:new.length=n) :
  ∃w',(Builtin.copy_ #[206,206] 3 #[.slice (some ⟨g,0,none⟩) n n,.slice (some ⟨h,0,none⟩) n n]).run prog w=.ok (.int .i64 (n:Int)) w'/\Blk n64 w' g new/\bK (·=g) w w':=by
 obtain⟨T,hT⟩:=hg
 have aY:=run_copy_row (P:=prog) w 206 206 3 45 g 0 n n ⟨h,0,none⟩ n n (cellsOf n64 old) T (new.map n64) Tryz.underlying206 kR hT (by simp[hn]) (fun j v hj=>by
  rw[qK]at hj
  have fw:j<new.length:=by
   rcases Nat.lt_or_ge j new.length with h | h
   ·exact h
   ·rw[qe h]at hj;cases hj
  rw[qA fw]at hj;simp only[Option.map_some,Option.some.injEq]at hj;rw[<-hj];have e:(⟨h,0,none⟩:Addr).add j=⟨h,j,none⟩:=by unfold Addr.add;split <;> simp_all
  rw[e];exact hh.cell j fw) (by simp[zjV,hl,hn]) (fun v hv=>by rw[List.mem_map]at hv;obtain⟨z,_,rfl⟩:=hv;rfl)
 have hd:(cellsOf n64 old).toList.take 0++new.map n64++(cellsOf n64 old).toList.drop (0+(new.map n64).length)=new.map n64:=by
  rw[qi (by simp[cellsOf,hl,hn])];simp
 rw[hd]at aY;refine⟨_,by rw[aY];simp[goInt,hn];rfl,⟨T,setRow_heap w g _ _ T _ hT⟩,⟨rfl,rfl,rfl,by simp[World.setRow],fun k _ hk=>setRow_other w g k _ hk⟩⟩
theorem zpb (x y vo xo:List Nat) (t s:Nat) (zm:eM W64 y) (uU:Dig W64 x) (iM:2<=y.length) (jX:y.length<=x.length) (ke:s<64) (Jy:t<2 ^ Lib.bitLen t/\2 ^ (Lib.bitLen t-1)<=t/\0<Lib.bitLen t/\Lib.bitLen t<=64) (hs:s=64-Lib.bitLen t) (yL:y[y.length-1]'(by omega)=t)
  (eQ:vo.length=y.length+1) (k6:Dig W64 vo) (yP:val W64 vo=val W64 y*2 ^ s) (er:xo.length=x.length+1) (NA:Dig W64 xo) (EM:val W64 xo=val W64 x*2 ^ s) :
  (val W64 vo<W64 ^ y.length/\W64 ^ y.length<=2*val W64 vo)/\val W64 (vo.take y.length)=val W64 vo/\W64<=2*(vo.take y.length).getD (y.length-1) 0/\0<val W64 vo /\
  Long (val W64 xo) (val W64 vo) y.length (x.length-y.length+1) xo (List.replicate (x.length-y.length+1) 0):=by
 have hyd:y.dropLast++[t]=y:=by
  have hne:y≠[]:=by intro e;rw[e]at iM;simp at iM
  have h1:=List.dropLast_concat_getLast hne;rw[List.getLast_eq_getElem,yL]at h1;exact h1
 have Py:=Ve y.dropLast t s (Lib.bitLen t) (fun z hz=>zm.1 z ((List.dropLast_sublist y).subset hz)) Jy.1 Jy.2.1 Jy.2.2.1 (by have:=Jy.2.2.2;omega);rw[<-vP,hyd,List.length_dropLast,show y.length-1+1=y.length by omega,<-yP]at Py;have EW:(vo.take y.length).length=y.length:=by simp;omega
 have uB:val W64 (vo.take y.length)=val W64 vo:=by
  have e:=ep W64 vo y.length oM;rcases qz (val W64 (vo.drop y.length)) with h | h
  ·rw[h,Nat.mul_zero,qY]at e;exact e.symm
  ·exfalso;have:W64 ^ y.length*1<=W64 ^ y.length*val W64 (vo.drop y.length):=qb _ h;omega
 have mP:=top_half (vo.take y.length) y.length (k6.take _) EW oM (by rw[uB];exact Py.2);have wG:=top_words (vo.take y.length) y.length (k6.take _) EW iM;have ng:0<val W64 vo:=by have:0<W64 ^ y.length:=Nat.pow_pos (by decide);omega
 have AB:Long (val W64 xo) (val W64 vo) y.length (x.length-y.length+1) xo (List.replicate (x.length-y.length+1) 0):=by
  refine⟨NA,Dig.zeros (by decide) _,?_,by rw[pW];simp,fun k _=>by simp[qB,List.getElem?_replicate];split <;> simp⟩;have hdr:(xo.drop (x.length-y.length+1)).length=y.length:=by simp;omega
  have af:=cZ uU;have e:=ep W64 xo (x.length-y.length+1) oM;have hp:0<W64 ^ (x.length-y.length+1):=Nat.pow_pos (by decide);have Dc:2*2 ^ s<=W64:=by rw[fB,qW,<-qX];exact qc oM oM
  have h1:2*val W64 xo<W64*W64 ^ x.length:=by
   rw[EM];have a1:val W64 x*2 ^ s<W64 ^ x.length*2 ^ s:=Nat.mul_lt_mul_of_pos_right af (Nat.pow_pos oM);have a2:W64 ^ x.length*(2*2 ^ s)<=W64 ^ x.length*W64:=qb _ Dc;have a3:W64 ^ x.length*(2*2 ^ s)=2*(W64 ^ x.length*2 ^ s):=by grind
   rw[qW W64];omega
  have h2:W64*W64 ^ x.length=W64 ^ (x.length-y.length+1)*W64 ^ y.length:=by rw[<-Nat.pow_add,qW,<-qX];congr 1;omega
  have h3:W64 ^ (x.length-y.length+1)*(2*val W64 (xo.drop (x.length-y.length+1)))<W64 ^ (x.length-y.length+1)*W64 ^ y.length:=by
   rw[<-h2];have:W64 ^ (x.length-y.length+1)*(2*val W64 (xo.drop (x.length-y.length+1)))=2*(W64 ^ (x.length-y.length+1)*val W64 (xo.drop (x.length-y.length+1))):=by grind
   omega
  have h4:=Nat.lt_of_mul_lt_mul_left h3;omega
 exact⟨Py,uB,mP,ng,AB⟩
set_option maxRecDepth 100000 in
theorem zj3 (a a':Option Addr) (cap bz:Nat) (x y:List Nat) (w:World) (PY:Sl n64 w (.slice a x.length cap) x) (J8:Sl n64 w (.slice a' y.length bz) y) (uU:Dig W64 x) (zm:eM W64 y) (hx:x.length<=100000000) (iM:2<=y.length) (jX:y.length<=x.length) :
  Calls prog 165 #[.slice a x.length cap,.slice a' y.length bz] w fun e w'=>∃q r g h,e=.returned (.tuple #[.slice (some ⟨g,0,none⟩) q.length q.length,.slice (some ⟨h,0,none⟩) r.length r.length])/\Blk n64 w' g q/\Blk n64 w' h r/\Dig W64 q/\Dig W64 r/\q.length<=x.length/\r.length<=x.length/\val W64 q=val W64 x / val W64 y/\val W64 r=val W64 x % val W64 y/\Below w.heap.size w w'/\w.heap.size<=g/\g<h:=by
 obtain⟨b,off,rfl,hb,hc⟩:=J8.at (y.length-1) oM;have cD:y[y.length-1]'(by omega)≠0:=zm.2 _ (by rw[List.getLast?_eq_getElem?,qA (by omega)]);have wH:=zm.1.get (y.length-1) oM;have VH:=vP W64 y.dropLast (y[y.length-1]'(by omega));generalize yL:y[y.length-1]'(by omega)=t at *
 have cI:=MJ t cD (by rw[<-fB];exact wH);obtain⟨s,hs⟩:∃s,s=64-Lib.bitLen t:=⟨_,rfl⟩;have ke:s<64:=oM;have VU:(64:Int)-(Lib.bitLen t:Int)=(s:Int):=oM;have htI:(t:Int)<=18446744073709551615:=by simp only[cH]at wH;omega
 have HS:=hid (And.intro VU (And.intro cI (And.intro hs (And.intro cD (And.intro wH (And.intro VH yL))))));clear VU cI hs cD wH VH yL;have q1:(y.length:Int)-1<y.length:=oM
 go_enter func165,ntmps165
 go_wp2_with fail;refine(Tryz.bits_LeadingZeros64 t w oM htI).mono ?_;rintro e w1 ⟨rfl,rfl⟩;rw[qU,HS.out.1]
 go_wp2_with fail;refine(UZ (some ⟨b,off,none⟩) bz s y w1 J8 zm.1 oM ke).mono ?_;rintro e w2 ⟨vo,rfl,Qk,eQ,k6,yP,cP⟩;have lu:=zW ((x.length:Int)+1) (x.length+1) oM oM
 go_wp2_with fail;have Xe:=zR w2 (x.length+1);have iY:=Ma w2 (x.length+1);have uS:=yE (Below.refl w2.heap.size w2) (qH _) (x.length+1);have By:Below w1.heap.size w1 (ic w2 (x.length+1)):=yE cP cP.size _;generalize ic w2 (x.length+1)=W3 at *
 have HZ2:=hid iY;have hz2':w2.heap.size<W3.heap.size:=oM;clear iY;refine(UZ a cap s x W3 (PY.below By) uU hx ke).mono ?_;rintro e w4 ⟨xo,rfl,Xd,er,NA,EM,mZ⟩;have GL:=Xe.below mZ;have GK:=(Qk.below uS).below mZ;have hzv:=Qk.lt;have P8:Below w1.heap.size w1 w4:=By.trans (mZ.mono By.size);have hz4:=mZ.size;obtain⟨w5,aY,Qp,JN⟩:=znB w4 w2.heap.size W3.heap.size (x.length+1) _ xo GL Xd (by simp) er;have Bz:=GK.kept JN oM;have hz5:=JN.size;have OL:=zW ((x.length:Int)-y.length+1) (x.length-y.length+1) oM oM;have HF:=hid (And.intro (zpb x y vo xo t s zm uU iM jX ke HS.out.2.1 HS.out.2.2.1 HS.out.2.2.2.2.2.2 eQ k6 yP er NA EM) (And.intro yP (And.intro EM (And.intro eQ er))));clear yP EM eQ er;have ha0:=Jf;have ib:=L8;have kC:=LI;go_wp2;have xI:=zR w5 (x.length-y.length+1);have VA:=Ma w5 (x.length-y.length+1);have J9:=yE (Below.refl w5.heap.size w5) (qH _) (x.length-y.length+1);have W9:Below w1.heap.size w1 w5:=P8.trans (JN.below w1.heap.size P8.size (fun k hk e=>by omega));generalize ic w5 (x.length-y.length+1)=W6 at *
 have HZQ:=hid VA;have Qp:=Qp.below J9;have Bz:=Bz.below J9;have P7:=W9.trans (J9.mono W9.size);clear VA OL aY Qk GK Xd GL Xe JN J9 P8 mZ
 go_loopg [10,11,12,13,14,15,16,17,18,19,20,89,150] (x.length-y.length+1) (fun g vj _ _ _ _ _ _ _ _ _ _ _ _ wr=>∃(U q:List Nat),g<=x.length-y.length+1/\vj=.int .i64 ((g:Int)-1)/\Blk n64 wr w2.heap.size U/\U.length=x.length+1/\Blk n64 wr w5.heap.size q/\q.length=x.length-y.length+1/\Long (val W64 xo) (val W64 vo) y.length g U q/\Blk n64 wr w1.heap.size vo/\Below w1.heap.size w1 wr)
 case atStart=>exact⟨xo,_,qH _,by congr 1;omega,Qp,HF.out.2.2.2.2,xI,by simp,HF.out.1.2.2.2.2,Bz,P7⟩
 case round =>
  obtain⟨U,q,hg,rfl,Db,o9,Kh,fF,zn,Kg,hK⟩:=hrel;have HL:=hid (And.intro o9 (And.intro fF zn));clear o9 fF zn;by_cases h0:gk=0
  ·subst h0;have o9:=HL.out.1;have bn:=HL.out.2.2.final (s:=s) HF.out.2.2.1 HF.out.2.1 HF.out.1.1.1 oM ke
   have WY:Sl n64 wr (.slice (some ⟨w2.heap.size,0,none⟩) y.length (x.length+1)) (U.take y.length):=by
    have:=Db.sl (x.length+1);rw[o9]at this;exact this.pre y.length oM
   have hZ:(U.take y.length).length=y.length:=by simp;omega
   have Ob:=zhV (some ⟨w2.heap.size,0,none⟩) (x.length+1) 0 s (U.take y.length) wr (by rw[hZ];exact WY) (HL.out.2.2.dU.take _) oM oM ke;simp only[hZ,Int.natCast_zero,Int.mul_zero,Int.zero_add,Nat.sub_zero,List.drop_zero]at Ob;have HSD:=hid (And.intro Ob (And.intro bn hZ));clear Ob bn WY hZ o9
   go_wp2_with fail;refine HSD.out.1.mono ?_;rintro e w9 ⟨rfl,Ql,WL⟩;go_wp2
   go_ret2;obtain⟨_,bn,hZ⟩:=HSD.out;have ft:(dW s (U.take y.length)).length=y.length:=by rw[Mz,hZ]
   refine⟨q,dW s (U.take y.length),w5.heap.size,wr.heap.size,?_,Kh.below WL,Ql,HL.out.2.2.dq,S8 s ke (HL.out.2.2.dU.take _),by have:=HL.out.2.1;omega,by omega,bn.1,bn.2,hK.trans (WL.mono hK.size),?_,Kh.lt⟩;rotate_left
   ·omega
   rw[ft,HL.out.2.1];rfl
  ·obtain⟨j,rfl⟩:∃j,gk=j+1:=⟨gk-1,by omega⟩;rw[show ((j+1:Nat):Int)-1=(j:Int) by omega];clear h0;have ml:j+(y.length+1)<=U.length:=by have:=HL.out.1;omega
   have Bw:=HL.out.2.2.guess (vl:=vo.take y.length) ml iM HF.out.1.1.1 HF.out.1.1.2 (by have:=HF.out.2.2.2.1;simp;omega) (k6.take _) HF.out.1.2.1;have oF:=HF.out.1.2.2.1;have jZ:vo.length=y.length+1:=HF.out.2.2.2.1;have o9:=HL.out.1;have c2:=Db.cell (j+y.length) oM;have c1:=Db.cell (j+y.length-1) oM;have c0:=Db.cell (j+y.length-2) oM;have d1:=Kg.cell (y.length-1) oM;have d0:=Kg.cell (y.length-2) oM
   rw[show U.getD (j+y.length) 0=U[j+y.length]'(by omega) by simp[show j+y.length<U.length by omega],show U.getD (j+(y.length-1)) 0=U[j+y.length-1]'(by omega) by simp[show j+(y.length-1)=j+y.length-1 by omega,show j+y.length-1<U.length by omega],show U.getD (j+(y.length-2)) 0=U[j+y.length-2]'(by omega) by simp[show j+(y.length-2)=j+y.length-2 by omega,show j+y.length-2<U.length by omega],
    show (vo.take y.length).getD (y.length-1) 0=vo[y.length-1]'(by omega) by simp[oo,show y.length-1<y.length by omega,show y.length-1<vo.length by omega],show (vo.take y.length).getD (y.length-2) 0=vo[y.length-2]'(by omega) by simp[oo,show y.length-2<y.length by omega,show y.length-2<vo.length by omega]]at Bw
   rw[show (vo.take y.length).getD (y.length-1) 0=vo[y.length-1]'(by omega) by simp[oo,show y.length-1<y.length by omega,show y.length-1<vo.length by omega]]at oF;have b2:=HL.out.2.2.dU.get (j+y.length) oM;have b1:=HL.out.2.2.dU.get (j+y.length-1) oM;have b0:=HL.out.2.2.dU.get (j+y.length-2) oM;have e1:=k6.get (y.length-1) oM;have e0:=k6.get (y.length-2) oM;generalize U[j+y.length]'(by omega)=u2 at *
   generalize U[j+y.length-1]'(by omega)=u1 at *
   generalize U[j+y.length-2]'(by omega)=u0 at *
   generalize vo[y.length-1]'(by omega)=v1 at *
   generalize vo[y.length-2]'(by omega)=v0 at *
   have HG:=hid (And.intro Bw (And.intro oF (And.intro b2 (And.intro b1 (And.intro b0 (And.intro e1 e0))))));clear Bw oF jZ o9 b2 b1 b0 e1 e0;have q2:IntKind.i64.wrap ((j:Int)+y.length)=(j:Int)+y.length:=by rw[pL];omega
   have q3:IntKind.i64.wrap ((j:Int)+y.length-1)=(j:Int)+y.length-1:=by rw[pL];omega
   have q4:IntKind.i64.wrap ((j:Int)+y.length-2)=(j:Int)+y.length-2:=by rw[pL];omega
   have q5:IntKind.i64.wrap ((y.length:Int)-1)=(y.length:Int)-1:=by rw[pL];omega
   have q6:IntKind.i64.wrap ((y.length:Int)-2)=(y.length:Int)-2:=by rw[pL];omega
   have p2:((j:Int)+y.length).toNat=j+y.length:=oM;have p3:((j:Int)+y.length-1).toNat=j+y.length-1:=oM;have p4:((j:Int)+y.length-2).toNat=j+y.length-2:=oM;have p5:((y.length:Int)-1).toNat=y.length-1:=oM;have p6:((y.length:Int)-2).toNat=y.length-2:=oM;have o2:(0:Int)<=(j:Int)+y.length:=oM;have o3:(0:Int)<=(j:Int)+y.length-1:=oM;have r3:(1:Int)<=(j:Int)+y.length:=oM;have r4:(2:Int)<=(j:Int)+y.length:=oM;have r5:(1:Int)<=(y.length:Int):=oM;have r6:(2:Int)<=(y.length:Int):=oM;have o4:(0:Int)<=(j:Int)+y.length-2:=oM;have o5:(0:Int)<=(y.length:Int)-1:=oM;have o6:(0:Int)<=(y.length:Int)-2:=oM;have l2:(j:Int)+y.length<(x.length:Int)+1:=oM;have l3:(j:Int)+y.length-1<(x.length:Int)+1:=oM;have l4:(j:Int)+y.length-2<(x.length:Int)+1:=oM;have l5:(y.length:Int)-1<(y.length:Int):=oM;have l6:(y.length:Int)-2<(y.length:Int):=oM;have m2:j+y.length<x.length+1:=oM;have m3:j+y.length-1<x.length+1:=oM;have m4:j+y.length-2<x.length+1:=oM;have m5:y.length-1<y.length:=oM;have m6:y.length-2<y.length:=oM;go_wp2
   go_still_tail 30,kR;change wpList _ _ _ _ _ wr.drew
   go_wp2_with fail;obtain⟨Bw,oF,b2,b1,b0,e1,e0⟩:=HG.out;refine(zi0 u2 u1 u0 v1 v0 wr.drew Bw.1 b1 b0 e1 e0 oF).mono ?_;rintro e w7 ⟨g,rfl,km,nT,Wx,Gi⟩;have Wv:=Bw.2 g km nT Wx;have HGR:=hid (And.intro Wv km);clear Wv km nT Wx Bw oF b2 b1 b0 e1 e0 HG c2 c1 c0 d1 d0 q2 q3 q4 q5 q6 p2 p3 p4 p5 p6 o2 r3 r4 r5 r6 o3 o4 o5 o6 l2 l3 l4 l5 l6 m2 m3 m4 m5 m6;have Qn:=Db.drew.below Gi;have Qo:=Kh.drew.below Gi;have Qm:=Kg.drew.below Gi;have hK7:=hK.drew.trans (Gi.mono hK.size);clear Db Kh Kg hK Gi;have fT:decide ((j:Int)>=0)=true:=by simp
   have ri:decide ((0:Int)<=(j:Int))=true:=by simp
   go_wp2
   go_loopg [12,13,14,15,16,17,18,89] y.length (fun g' vc vb _ _ _ _ _ vi wr=>∃(i c b:Nat) (U1:List Nat),i+g'=y.length/\vi=.int .i64 i/\vc=.int .u64 c/\vb=.int .u64 b/\c<W64/\b<=1/\Blk n64 wr w2.heap.size U1/\Alike U1 U j (y.length+1)/\Dig W64 U1/\(∀k,j+i<=k->U1.getD k 0=U.getD k 0)/\val W64 U1+g*val W64 ((vo.take y.length).take i)*W64 ^ j=val W64 U+(b+c)*W64 ^ (j+i)/\Blk n64 wr w1.heap.size vo/\Blk n64 wr w5.heap.size q/\Below w1.heap.size w1 wr)
   case atStart=>exact⟨0,0,0,U,by omega,rfl,rfl,rfl,by decide,by omega,Qn,Alike.refl _ _ _,HL.out.2.2.dU,fun _ _=>rfl,by simp[val],Qm,Qo,hK7⟩
   case round =>
    obtain⟨i,c,b,U1,hi,rfl,rfl,rfl,rk,cG,nh,bH,iR,cQ,dP,xJ,BA,Bx⟩:=hrel;have HI:=hid (And.intro hi (And.intro rk (And.intro bH (And.intro iR (And.intro cQ dP)))));clear hi rk bH iR cQ dP;have tu:U1.length=x.length+1:=by rw[HI.out.2.2.1.1];exact HL.out.1
    by_cases af:i<y.length
    ·have jZ:vo.length=y.length+1:=HF.out.2.2.2.1;have hcv:=xJ.cell i oM;have p9:=k6.get i oM;have Bc:Hid ((vo.take y.length).getD i 0=vo[i]'(by omega)):=by show _=_;simp[oo,af,show i<vo.length by omega]
     generalize vo[i]'(by omega)=z at *
     have iB:j+i<U1.length:=oM;have jn:=nh.cell (j+i) iB;have mL:=HI.out.2.2.2.1.get (j+i) iB;have xh:Hid (U1.getD (j+i) 0=U1[j+i]):=by show _=_;simp[iB]
     generalize U1[j+i]=xu at *
     have JT:=nh.free (j+i);have m1:j+i<x.length+1:=oM;have km:=HGR.out.2;have HUL:=hid tu;clear tu jZ
     go_wp2_with fail;refine(Tryz.bits_Mul64 g z km p9 wr).mono ?_;rintro e w8 ⟨rfl,rfl⟩;generalize uN:g*z % 18446744073709551616=lw;generalize cJ:g*z / 18446744073709551616=hi;have HM:=hid (And.intro uN cJ);clear uN cJ km;go_wp2
     go_roundg (gk-1)
     case measure=>have:=HI.out.1;omega
     case rel =>
      obtain⟨ef,rk,bH,iR,cQ,dP⟩:=HI.out;obtain⟨uN,cJ⟩:=HM.out;have km:=HGR.out.2;have OR:lw<W64:=by rw[<-uN];exact qm _ (by decide)
      have Bb:hi*W64+lw=g*z:=by
       have:=qj (g*z) W64;rw[show g*z / W64=hi from cJ,show g*z % W64=lw from uN]at this;rw[qW];exact this
      have hgz:=Q8 km p9 (show 0<W64 by decide) rk;have sr:=sub_round U1 U (vo.take y.length) j i (j+i) g c b xu z hi lw rfl iB mL xh.out Bc.out OR Bb oM rk cG dP;rw[sr.1];refine⟨i+1,hi+addHi lw c 0,subHi xu (addLo lw c 0) b,U1.set (j+i) (subLo xu (addLo lw c 0) b),by omega,by go_num,rfl,rfl,sr.2.1,sr.2.2.1,nh.set (j+i) _,bH.set _ _ oM oM,iR.set _ _ sr.2.2.2.1,fun k hk=>?_,?_,xJ.other ⟨w2.heap.size,j+i,none⟩ _ (by simp;omega),BA.other ⟨w2.heap.size,j+i,none⟩ _ (by simp;omega),Bx.setCell (p:=⟨w2.heap.size,j+i,none⟩) (by simp;omega) _⟩
      ·rw[getD_set_ne _ _ _ _ (by omega)];exact cQ k oM
      ·rw[show j+(i+1)=j+i+1 by omega];exact sr.2.2.2.2
    ·obtain⟨ef,rk,bH,iR,cQ,dP⟩:=HI.out;obtain rfl:i=y.length:=oM;have jZ:vo.length=y.length+1:=HF.out.2.2.2.1;rw[qO (show (vo.take y.length).length<=y.length by simp;omega),HF.out.1.2.1]at dP;have iB:j+y.length<U1.length:=oM;have jn:=nh.cell (j+y.length) iB;have xh:U1.getD (j+y.length) 0=U1[j+y.length]:=by simp[iB]
     have VQ:=sub_end U U1 (val W64 vo) g c b _ j y.length ml bH HL.out.2.2.dU iR xh rk cG dP HF.out.1.2.2.2.1 HF.out.1.1.1 HGR.out.1.1 HGR.out.1.2;generalize U1[j+y.length]=xu at *
     have JT:=nh.free (j+y.length);have m1:j+y.length<x.length+1:=oM;have HK:=hid VQ;clear VQ ef rk bH iR cQ dP xh jZ;have GN:=nh.set (j+y.length) (subLo xu c b);have GM:=xJ.other ⟨w2.heap.size,j+y.length,none⟩ (n64 (subLo xu c b)) (by simp;omega);have GO:=BA.other ⟨w2.heap.size,j+y.length,none⟩ (n64 (subLo xu c b)) (by simp;omega);have C8:=Bx.setCell (p:=⟨w2.heap.size,j+y.length,none⟩) (by simp;omega) (n64 (subLo xu c b))
     go_upto_if 146 with (fail)
     generalize wr.setCell ⟨w2.heap.size,j+y.length,none⟩ (n64 (subLo xu c b))=w9 at *
     clear jn JT nh xJ BA Bx;have O3:(U1.set (j+y.length) (subLo xu c b)).length=x.length+1:=by simpa using tu
     generalize U1.set (j+y.length) (subLo xu c b)=U2 at *
     generalize subHi xu c b=bb at *
     go_cut [11] (fun vg wx=>vg=.int .u64 ((val W64 (mid U j (y.length+1)) / val W64 vo:Nat):Int)/\∃U3:List Nat,Blk n64 wx w2.heap.size U3/\Alike U3 U j (y.length+1)/\Dig W64 U3/\val W64 (mid U3 j (y.length+1))=val W64 (mid U j (y.length+1)) % val W64 vo/\Blk n64 wx w1.heap.size vo/\Blk n64 wx w5.heap.size q/\Below w1.heap.size w1 wx)
     case first =>
      by_cases C3:bb=0
      ·subst C3;go_wp2
       go_meet;obtain⟨h1,h2,h3,h4,h5⟩:=HK.out;obtain⟨z1,z2⟩:=h4 (by simp);exact⟨by rw[<-z1],U2,GN,h1,h2,z2,GM,GO,C8⟩
      ·obtain rfl:bb=1:=by have:=HK.out.2.2.1;omega
       clear C3;obtain⟨k1,k2,k3,k4,k5⟩:=HK.out;have k5:=k5 (by simp);have km:(1:Int)<=g:=by have:1<=g:=by { rw[k5.1];exact Nat.le_add_left 1 _ };omega
       have nT:(g:Int)<=18446744073709551615:=by have:=HGR.out.2;simp only[cH]at this;omega
       have HKK:=hid (And.intro k1 (And.intro k2 k5));clear k1 k2 k3 k4 k5 HK;go_wp2
       go_loopg [19,20,150] y.length (fun g' vc _ vi wr=>∃(i c:Nat) (U3:List Nat),i+g'=y.length/\vi=.int .i64 i/\vc=.int .u64 c/\c<=1/\Blk n64 wr w2.heap.size U3/\Alike U3 U2 j y.length/\Dig W64 U3/\val W64 U3+c*W64 ^ (j+i)=val W64 U2+val W64 ((vo.take y.length).take i)*W64 ^ j/\Blk n64 wr w1.heap.size vo/\Blk n64 wr w5.heap.size q/\Below w1.heap.size w1 wr)
       case atStart=>exact⟨0,0,U2,by omega,rfl,rfl,by omega,GN,Alike.refl _ _ _,HKK.out.2.1,by simp[val],GM,GO,C8⟩
       case round =>
        obtain⟨i,c,U3,hi,rfl,rfl,eA,tB,dB,gJ,rb,tA,pd,xC⟩:=hrel;have HI:=hid (And.intro hi (And.intro dB (And.intro gJ rb)));clear hi dB gJ rb;have xz:U3.length=x.length+1:=by rw[HI.out.2.1.1];exact O3
        by_cases af:i<y.length
        ·have jZ:vo.length=y.length+1:=HF.out.2.2.2.1;have hcv:=tA.cell i oM;have p9:=k6.get i oM;have Bc:Hid ((vo.take y.length).getD i 0=vo[i]'(by omega)):=by show _=_;simp[oo,af,show i<vo.length by omega]
         generalize vo[i]'(by omega)=z at *
         have iB:j+i<U3.length:=oM;have jn:=tB.cell (j+i) iB;have mL:=HI.out.2.2.1.get (j+i) iB;have xh:Hid (U3.getD (j+i) 0=U3[j+i]):=by show _=_;simp[iB]
         generalize U3[j+i]=xu at *
         have JT:=tB.free (j+i);have m1:j+i<x.length+1:=oM;have HUL:=hid xz;clear xz jZ;have q2:IntKind.i64.wrap ((j:Int)+i)=(j:Int)+i:=by rw[pL];omega
         have p2:((j:Int)+i).toNat=j+i:=oM;have o2:(0:Int)<=(j:Int)+i:=oM;have l2:(j:Int)+i<(x.length:Int)+1:=oM;go_wp2
         go_region;go_wp2
         go_roundg (gk-1)
         case measure=>have:=HI.out.1;omega
         case rel =>
          obtain⟨hi,dB,gJ,rb⟩:=HI.out;have ar:=add_round U3 U2 (vo.take y.length) j i (j+i) c xu z rfl iB mL xh.out Bc.out p9 eA rb;refine⟨i+1,addHi xu z c,U3.set (j+i) (addLo xu z c),by omega,by go_num,rfl,ar.2.1,(tB.set (j+i) _).drew,dB.set _ _ oM oM,gJ.set _ _ ar.1,?_,(tA.other ⟨w2.heap.size,j+i,none⟩ _ (by simp;omega)).drew,(pd.other ⟨w2.heap.size,j+i,none⟩ _ (by simp;omega)).drew,(xC.setCell (p:=⟨w2.heap.size,j+i,none⟩) (by simp;omega) _).drew⟩;rw[show j+(i+1)=j+i+1 by omega];exact ar.2.2
        ·obtain⟨hi,dB,gJ,rb⟩:=HI.out;obtain rfl:i=y.length:=oM;have jZ:vo.length=y.length+1:=HF.out.2.2.2.1;rw[qO (show (vo.take y.length).length<=y.length by simp;omega),HF.out.1.2.1]at rb;have iB:j+y.length<U3.length:=oM;have jn:=tB.cell (j+y.length) iB;have xh:U3.getD (j+y.length) 0=U3[j+y.length]:=by simp[iB]
         have CT:val W64 (mid U j (y.length+1)) % val W64 vo<W64 ^ (y.length+1):=by
          refine Nat.lt_of_le_of_lt (Nat.mod_le _ _) ?_;have:=cZ (mid_dig HL.out.2.2.dU j (y.length+1));rwa [mid_length _ _ _ ml]at this
         have WN:=add_end U2 U3 (val W64 vo) c _ j y.length _ oM dB gJ xh eA rb HKK.out.2.2.2 CT;generalize U3[j+y.length]=xu at *
         have JT:=tB.free (j+y.length);have m1:j+y.length<x.length+1:=oM;have HA:=hid WN;clear WN hi dB gJ rb xh jZ CT xz;go_wp2
         go_meet;rw[zqU];obtain⟨a1,a2,a3⟩:=HA.out;refine⟨?_,_,tB.set (j+y.length) _,⟨a1.1.trans HKK.out.1.1,fun k hk=>(a1.2 k hk).trans (HKK.out.1.2 k hk)⟩,a2,a3,tA.other ⟨w2.heap.size,j+y.length,none⟩ _ (by simp;omega),pd.other ⟨w2.heap.size,j+y.length,none⟩ _ (by simp;omega),xC.setCell (p:=⟨w2.heap.size,j+y.length,none⟩) (by simp;omega) _⟩;rfl
     case rest =>
      obtain⟨rfl,U3,tB,dB,gJ,FE,tA,pd,xC⟩:=hcut;have uJ:=HL.out.2.2.next ml HF.out.1.1.1 HF.out.1.2.2.2.1 (by have:=HL.out.2.1;omega) dB gJ FE;have HN:=hid (And.intro uJ dB.1);clear uJ dB gJ FE;generalize val W64 (mid U j (y.length+1)) / val W64 vo=dg at *
      have FN:j<q.length:=by have:=HL.out.2.1;omega
      obtain⟨vq,hcq⟩:=pd.has j FN;have hfq:=pd.free j;have mq:j<x.length-y.length+1:=oM;go_wp2
      go_roundg j
      case measure=>omega
      case rel=>exact⟨U3,q.set j dg,by omega,rfl,tB.other ⟨w5.heap.size,j,none⟩ _ (by simp;omega),by rw[HN.out.2];exact HL.out.1,pd.set j dg,by simpa using HL.out.2.1,HN.out.1,tA.other ⟨w5.heap.size,j,none⟩ _ (by simp;omega),xC.setCell (p:=⟨w5.heap.size,j,none⟩) (by simp;omega) _⟩
def SlN {α:Type} (enc:α->Value) (H:Hp) (v:Value) (l:List α):Prop:=SlC H v l.length 1 (l.map enc)
theorem SlN.mono {α:Type} {enc:α->Value} {H G:Hp} {v:Value} {l:List α} (h:SlN enc H v l) (k:H.Le G):SlN enc G v l:=SlC.mono h k
theorem SlN.sl {α:Type} {enc:α->Value} {H:Hp} {v:Value} {l:List α} {W:World} (h:SlN enc H v l) (hf:Fits H W):∃a cap,v=.slice a l.length cap/\Sl enc W (.slice a l.length cap) l/\(l=[]\/l.length<=cap):=by
 rcases h.2 with ⟨h0,a,cap,rfl⟩ | ⟨b,off,cap,c,rfl,hc,hH,bC⟩
 ·have:=List.eq_nil_of_length_eq_zero h0;subst this;exact⟨a,cap,rfl,.inl ⟨rfl,a,cap,rfl⟩,.inl Z⟩
 ·obtain⟨T,fz,hW⟩:=hf b c hH;refine⟨_,cap,rfl,.inr ⟨b,off,cap,rfl,(Array.getElem?_eq_some_iff.1 hW).1,fun j hj=>?_⟩,.inr hc⟩;rw[cell_of_row W b (off+j) c T fz hW];apply bC;simp[hj]
theorem SlN.cap {α:Type} {enc:α->Value} {H:Hp} {a:Option Addr} {m cap:Nat} {l:List α} (h:SlN enc H (.slice a m cap) l):m=l.length:=by
 obtain⟨a',bz,e⟩:=SlC.val h;cases e;rfl
def Hp.put (H:Hp) (b:Nat) (c:Array Value):Hp:=fun k=>if k=b then some c else H k
theorem Q3 {α:Type} {enc:α->Value} {H:Hp} {W W':World} (hf:Fits H W) (hb:Below W.heap.size W W') {g:Nat} (hg:W.heap.size<=g) {l:List α} (hB:Blk enc W' g l) :
  H.Le (H.put g (cellsOf enc l))/\Fits (H.put g (cellsOf enc l)) W'/\Nw H W.heap.size (H.put g (cellsOf enc l)) W'/\∀cap,l.length<=cap->SlN enc (H.put g (cellsOf enc l)) (.slice (some ⟨g,0,none⟩) l.length cap) l:=by
 have hn:H g=none:=by
  cases hc:H g with
  | none=>rfl
  | some c=>have:=hf.lt (b:=g) (by rw[hc];simp);omega
 obtain⟨T,hT⟩:=hB;refine⟨fun b c h=>?_,fun b c h=>?_,fun b c h=>?_,fun cap bZ=>⟨by simp,.inr ⟨g,0,cap,cellsOf enc l,rfl,bZ,by simp[Hp.put],fun j x hj=>by simpa[cellsOf] using hj⟩⟩⟩
 ·have:b≠g:=fun e=>by subst e;rw[hn]at h;cases h
  simp only[Hp.put,if_neg this];exact h
 ·by_cases e:b=g
  ·subst e;simp only[Hp.put,if_true]at h;cases h;exact⟨T,(0,0),hT⟩
  ·simp only[Hp.put,if_neg e]at h;exact hf.below hb b c h
 ·by_cases e:b=g
  ·subst e;simp only[Hp.put,if_true]at h;cases h;exact .inr ⟨hg,T,hT⟩
  ·simp only[Hp.put,if_neg e]at h;exact .inl h
theorem PC.ofBlk {P:Program} {f:FuncId} {args:Array Value} {H:Hp} {α:Type} {enc:α->Value} {Ψ:List α->Prop} (hc:fQ P f)
  (h:∀W,Fits H W->Fits gH W->Calls P f args W fun e W'=>∃(l:List α) (g cap:Nat),e=.returned (.slice (some ⟨g,0,none⟩) l.length cap)/\W.heap.size<=g/\l.length<=cap/\Blk enc W' g l/\Ψ l/\Below W.heap.size W W') :
  PC P f args H fun v H'=>∃l,SlN enc H' v l/\Ψ l :=
 ⟨hc,fun W hW hg=>(h W hW hg).mono fun e W' ⟨l,g,cap,he,gm,bZ,hB,hΨ,hb⟩=>by
  obtain⟨h1,h2,h3,h4⟩:=Q3 hW hb gm hB;exact⟨_,_,he,⟨l,h4 cap bZ,hΨ⟩,h1,h2,hb,h3⟩⟩
theorem PC.ofPure {P:Program} {f:FuncId} {args:Array Value} {H:Hp} {v:Value} (hc:fQ P f) (h:∀W,Fits H W->Fits gH W->Calls P f args W fun e W'=>e=.returned v/\Below W.heap.size W W'):PC P f args H fun x _=>x=v :=
 ⟨hc,fun W hW hg=>(h W hW hg).mono fun e W' ⟨he,hb⟩=>⟨v,H,he,rfl,Hp.Le.refl H,hW.below hb,hb,Nw.refl _ _ _⟩⟩
abbrev big (n:Nat):Prop:=bl n<=1000000000
theorem yx (n:Nat) (h:n<W64):PV prog 116 #[n64 n] (aH n):=⟨(cO func116),fun W _=>zpF n W h⟩
theorem I9 (n:Nat):PV prog 129 #[aH n] (.tuple #[.int .u64 (if n<W64 then n else 0),.bool (decide (n<W64))]):=⟨(cO func129),fun W _=>zko n W⟩
theorem jP (n:Nat) (hn:big n):PV prog 99 #[aH n] (.int .i64 (bl n:Int)):=⟨(cO func99),fun W _=>Lz n W hn⟩
theorem mg (a b:Nat) (ha:big a) (hb:big b):PV prog 127 #[aH a,aH b] (.int .i64 (br a b)):=⟨(cO func127),fun W _=>Sc a b W ha hb⟩
theorem Cd (n:Nat) (hn:big n) (H:Hp):PC prog 134 #[aH n] H fun v H'=>SlN n64 H' v (dig W64 n):=by
 by_cases h:n=0
 ·subst h;refine⟨(cO func134),fun W hW _=>(Uj W).mono fun e W' ⟨he,hb⟩=>?_⟩;rw[mH];exact⟨_,H,he,⟨by simp,.inl ⟨rfl,none,0,rfl⟩⟩,Hp.Le.refl H,hW.below hb,hb,Nw.refl _ _ _⟩
 ·refine⟨(cO func134),fun W hW _=>(LU n W h hn).mono fun e W' ⟨g,hg,he,hB,hb⟩=>?_⟩;obtain⟨h1,h2,h3,h4⟩:=Q3 hW hb hg hB.blk;exact⟨_,_,he,h4 _ (qH _),h1,h2,hb,h3⟩
theorem uq {v:Value} {l:List Nat} {H:Hp} (h:SlN n64 H v l) (hD:Dig W64 l) (hl:l.length<=100000000):PC prog 132 #[v] H fun x _=>x=aH (val W64 l):=by
 refine PC.ofPure (cO func132) fun W hW _=>?_;obtain⟨a,cap,rfl,hS,hc⟩:=h.sl hW;rcases hc with rfl | hc
 ·exact MG a cap [] W hS hD hl (by simp)
 ·exact MG a cap l W hS hD hl hc
theorem UU {u v:Value} {x y:List Nat} {H:Hp} (hu:SlN n64 H u x) (hv:SlN n64 H v y) (uU:Dig W64 x) (GH:Dig W64 y) (hx:x.length<=100000000) (hy:y.length<=100000000) :
  PC prog 133 #[u,v] H fun r H'=>∃l,SlN n64 H' r l/\l.length=x.length+y.length/\Dig W64 l/\val W64 l=val W64 x*val W64 y:=by
 refine PC.ofBlk (cO func133) fun W hW _=>?_;obtain⟨a,cap,rfl,hS,_⟩:=hu.sl hW;obtain⟨a',bz,rfl,P0,_⟩:=hv.sl hW;refine(zkj a a' cap bz x y W hS P0 uU GH hx hy).mono ?_;rintro e W' ⟨out,he,hB,hl,hD,hval,hb⟩;exact⟨out,_,_,by rw[he,hl],qH _,by rw[hl];exact qH _,hB,⟨hl,hD,hval⟩,hb⟩
theorem zot {v:Value} {l:List Nat} {H:Hp} (h:SlN n64 H v l) (hD:Dig W64 l) (hl:l.length<=100000000) (k:Nat) (hk:k<=1000000000) :
  PC prog 208 #[v,.int .i64 (k:Int)] H fun r H'=>∃out,SlN n64 H' r out/\out.length=l.length+k / 64+1/\Dig W64 out/\val W64 out=val W64 l*2 ^ k:=by
 refine PC.ofBlk (cO func208) fun W hW _=>?_;obtain⟨a,cap,rfl,hS,_⟩:=h.sl hW;have e:(k:Int)=64*((k / 64:Nat):Int)+((k % 64:Nat):Int):=oM;rw[e];refine(Uq a cap (k / 64) (k % 64) l W hS hD hl oM oM).mono ?_;rintro e W' ⟨out,he,hB,bV,uV,hval,hb⟩;exact⟨out,_,_,by rw[he,bV],qH _,by rw[bV];exact qH _,hB,⟨bV,uV,by rw[hval,show 64*(k / 64)+k % 64=k by omega]⟩,hb⟩
theorem pX {n:Nat} (h:big n):(dig W64 n).length<=15625001:=by rw[fB,ur 64 n (by omega)];omega
theorem RZ (n:Nat):((aU n).toList == ByteArray.toList ⟨#[]⟩)=decide (n<W64):=by
 by_cases h:n<W64
 ·rw[Cz h,qD h,show ByteArray.empty=(⟨#[]⟩:ByteArray) from rfl];exact beq_self_eq_true _
 ·have:=D1 h;rw[qC h]
  cases hb:((aU n).toList == ByteArray.toList ⟨#[]⟩) with
  | false=>rfl
  | true =>
   have e:(aU n).toList=[]:=by simpa using hb
   rw[e]at this;cases this
theorem Ca {n:Nat} (h:n<W64):((aU n).toList == ByteArray.toList ⟨#[]⟩)=true:=by rw[RZ,qD h]
theorem yn {n:Nat} (h:¬n<W64):((aU n).toList == ByteArray.toList ⟨#[]⟩)=false:=by rw[RZ,qC h]
theorem zlH (a b:Nat) (h:¬(a<W64/\b<W64)) (ha:big a) (hb:big b) :
  PV prog 86 #[aH a,aH b] (aH (a*b)):=by
 refine PV.of_pc ?_;refine BD func86 ntmps86 ?_;refine uR ?_;have la:=pX ha;have lb:=pX hb;have kE:=fun G=>Cd a ha G;have kD:=fun G=>Cd b hb G;by_cases h1:a<W64
 ·have h2:¬b<W64:=fun h2=>h ⟨h1,h2⟩;rw[Ca h1];refine uR ?_;rw[yn h2];refine uR ?_;apply EV.drawn 6 kR kR;intro x y;refine' DJ.val tO Z Z Z Z Z ?_;rotate_left;refine' vB (kE gH).can (fun G _ _=>kE G) (fun v G G' h k=>h.mono k) ?_;rotate_left;refine' DJ.val tO Z Z Z Z Z ?_;rotate_left;refine' vB (kD gH).can (fun G _ _=>kD G) (fun v G G' h k=>h.mono k) ?_;rotate_left;refine' vB (cO func133) (fun G _ hd=>UU (hd.tail.head kR) (hd.head kR) (eo cm a).1 (eo cm b).1 oM oM) (fun v G G' ⟨l,h,r⟩ k=>⟨l,h.mono k,r⟩) ?_;rotate_left;refine' DJ.callS (v:=aH (a*b)) Z Z Z Z Z (cO func132) (fun G _ hd=>?hpc) ?_
  case hpc =>
   obtain⟨l,hs,hl,hD,hv⟩:=hd.head kR;rw[cW cm,cW cm]at hv;have:=uq hs hD oM
   rwa [hv]at this
  rotate_left;refine DJ.nil (fun G hG hF=>?_)
  case hS=>rfl
  case hS2=>rfl
  refine uR ?_;rfl
 ·rw[yn h1];refine uR ?_;apply EV.drawn 6 kR kR;intro x y;refine' DJ.val tO Z Z Z Z Z ?_;rotate_left;refine' vB (kE gH).can (fun G _ _=>kE G) (fun v G G' h k=>h.mono k) ?_;rotate_left;refine' DJ.val tO Z Z Z Z Z ?_;rotate_left;refine' vB (kD gH).can (fun G _ _=>kD G) (fun v G G' h k=>h.mono k) ?_;rotate_left;refine' vB (cO func133) (fun G _ hd=>UU (hd.tail.head kR) (hd.head kR) (eo cm a).1 (eo cm b).1 oM oM) (fun v G G' ⟨l,h,r⟩ k=>⟨l,h.mono k,r⟩) ?_;rotate_left;refine' DJ.callS (v:=aH (a*b)) Z Z Z Z Z (cO func132) (fun G _ hd=>?hpc) ?_
  case hpc =>
   obtain⟨l,hs,hl,hD,hv⟩:=hd.head kR;rw[cW cm,cW cm]at hv;have:=uq hs hD oM
   rwa [hv]at this
  rotate_left;refine DJ.nil (fun G hG hF=>?_)
  case hS=>rfl
  case hS2=>rfl
  refine uR ?_;rfl
theorem L9 (a b:Nat) (ha:big a) (hb:big b):PV prog 86 #[aH a,aH b] (aH (a*b)):=by
 by_cases h:a<W64/\b<W64
 ·refine⟨(cO func86),fun W _=>?_⟩;by_cases cQ:a*b<W64
  ·exact mul_one a b W h.1 h.2 cQ
  ·exact YB a b W h.1 h.2 cQ
 ·exact zlH a b h ha hb
theorem Iq (n:Nat) (hn:big n) (H:Hp):PO prog 134 #[aH n] H fun v ow=>aF 45 1 v (dig W64 n).length ((dig W64 n).map n64) ow:=by
 by_cases h:n=0
 ·subst h;refine⟨(cO func134),fun W hW _=>(Uj W).mono fun e W' ⟨he,hb⟩=>?_⟩;rw[mH];exact⟨_,[],he,aF.nil _ _,⟨by simp,fun b T cs hm=>by cases hm⟩,hb⟩
 ·refine⟨(cO func134),fun W hW _=>(LU n W h hn).mono fun e W' ⟨g,hg,he,hB,hb⟩=>?_⟩;have hl:=pX hn;refine⟨_,[(g,45,(dig W64 n).map n64)],he,aF.full (by simp) oM,⟨by simp,fun b T cs hm=>?_⟩,hb⟩;simp at hm;obtain⟨rfl,rfl,rfl⟩:=hm;exact⟨hg,hB⟩
theorem zkl (a b:Nat) (ha:a<W64) (hb:b<W64):PV prog 155 #[aH a,aH b] (aH (a+b)):=by
 have hp:=uo ha hb (qQ 1);refine PV.of_pc ?_;refine BD func155 ntmps155 ?_;refine uR ?_;rw[Ca ha];refine uR ?_;rw[Ca hb];refine uR ?_;refine EVL.ext Z Z Z Z Z (Jf (lo a) (lo b)) ?_;rw[zS ha,zS hb];refine uR ?_;generalize addLo a b 0=s at *
 generalize hc:addHi a b 0=c at *
 by_cases h0:c=0
 ·rw[show (((c:Nat):Int) == 0)=true by simp[h0]];refine uR ?_;have e:a+b=s:=by rw[h0]at hp;omega
  rw[e,iK hp.2.1]
 ·have h1:c=1:=oM;rw[show (((c:Nat):Int) == 0)=false by simp[h0]];refine uR ?_;refine EVL.lit tO Z Z Z Z Z Z Z Z Z Z Z fun g=>?_;refine EVL.publish [] [] Z fun G hG hg=>?_;have hs:SlN n64 G (.slice (some ⟨g,0,none⟩) 2 2) [s,c]:=⟨rfl,.inr ⟨g,0,2,_,rfl,qH _,hg,fun j x hj=>by simpa using hj⟩⟩;have hf:=uq hs (Dig.cons hp.2.1 (Dig.cons (by rw[h1];decide) (Dig.nil _))) (by simp);rw[show val W64 [s,c]=a+b by simp only[val];rw[Nat.mul_zero,qY,qW];omega]at hf;refine EVL.call Z Z Z Z Z hf ?_;rintro v H' rfl hle;refine uR ?_;rfl
structure Hv (x y cur:List Nat) (i c:Nat):Prop where
 len:cur.length=x.length
 dig:Dig W64 cur
 keep:∀k,i<=k->cur.getD k 0=x.getD k 0
 sum:val W64 (cur.take i)+c*W64 ^ i=val W64 (x.take i)+val W64 (y.take i)
 carry:c<=1
theorem Cv (l:List Nat) (i:Nat):val W64 (l.take (i+1))=val W64 (l.take i)+l.getD i 0*W64 ^ i:=by
 by_cases h:i<l.length
 ·rw[qS h,vP,qP,qn (Nat.le_of_lt h)];simp[h,qW]
 ·rw[qO oM,qO (by omega)];simp[Nat.not_lt.1 h]
theorem Hv.step {x y cur:List Nat} {i c:Nat} (h:Hv x y cur i c) (hi:i<x.length) (hy:Dig W64 y):Hv x y (cur.set i (addLo (cur.getD i 0) (y.getD i 0) c)) (i+1) (addHi (cur.getD i 0) (y.getD i 0) c):=by
 have bY:i<cur.length:=by rw[h.len];exact hi
 have hx:cur.getD i 0<W64:=by simp only[qB,qA bY,Option.getD_some];exact h.dig.get i bY
 have p8:y.getD i 0<W64:=by
  by_cases hl:i<y.length
  ·simp only[qB,qA hl,Option.getD_some];exact hy.get i hl
  ·simp[Nat.not_lt.1 hl];decide
 obtain⟨h1,h2,h3⟩:=uo hx p8 h.carry;refine⟨by simp[h.len],h.dig.set _ _ h2,fun k hk=>?_,?_,h3⟩
 ·rw[<-h.keep k (by omega)];simp[qB,List.getElem?_set_ne (show i≠k by omega)]
 ·have e1:val W64 ((cur.set i (addLo (cur.getD i 0) (y.getD i 0) c)).take (i+1))=val W64 (cur.take i)+addLo (cur.getD i 0) (y.getD i 0) c*W64 ^ i:=by
   rw[Cv,List.take_set_of_le (qH _)];simp[qB,bY]
  have e2:=Cv x i;have e3:=Cv y i;have e4:=h.keep i (qH _);rw[e1,e2,e3,<-e4,qX];have hs:=h.sum;generalize addLo (cur.getD i 0) (y.getD i 0) c=s at *
  generalize addHi (cur.getD i 0) (y.getD i 0) c=c' at *
  generalize cur.getD i 0=u at *
  generalize y.getD i 0=w at *
  generalize W64 ^ i=p at *
  have h5:(s+c'*W64)*p=(u+w+c)*p:=by rw[h1]
  grind
theorem znX (a b:Nat) (h:¬(a<W64/\b<W64)) (ha:big a) (hb:big b):PV prog 155 #[aH a,aH b] (aH (a+b)):=by
 refine PV.of_pc ?_;refine BD func155 ntmps155 ?_;refine uR ?_;have kE:=fun G=>Iq a ha G;have kD:=fun G=>Iq b hb G;refine EVL.meet (fun aA aw H'=>fq aA [(4,.p 4 0),(3,.p 3 0),(2,.p 2 0),(19,.v (.bool false))]/\fx aw [(4,47,aa47.zero),(3,47,[.int .u64 (lo b:Int),.string (aU b)]),(2,47,[.int .u64 (lo a:Int),.string (aU a)])]/\H'=⟨fun _=>none,[],⟨fun _=>none,[]⟩⟩) ?_ ?_
 ·rintro aA aw H' _ ⟨he,dt,rfl⟩;refine EV.less _ _ he dt Z ?_;refine uR ?_;apply EV.drawn 6 kR kR;intro x y;refine' DJ.val tO Z Z Z Z Z ?_;rotate_left;refine' DJ.callO Z Z Z Z Z (kE gH).can (fun G _ _=>kE G) ?_;rotate_left;refine' DJ.val tO Z Z Z Z Z ?_;rotate_left;refine' DJ.callO Z Z Z Z Z (kD gH).can (fun G _ _=>kD G) ?_;rotate_left;refine' DJ.copy (0+1) (.inr Z) Z Z Z id Z kR ?_;rotate_left;refine' DJ.copy (0+1+1+1) (.inr Z) Z Z Z id Z kR ?_;rotate_left;refine DJ.nil (fun G hG hF=>?_)
  case hS=>rfl
  case hS2=>rfl
  obtain⟨nJ,wQ,_⟩:=hF;change aF _ _ _ _ _ _ at nJ wQ;generalize x (0+1+1+1)=vb at *
  generalize x (0+1)=va at *
  generalize y (0+1+1+1)=ob at *
  generalize y (0+1)=oa at *
  obtain⟨aa,ca,rfl⟩:=wQ.val;obtain⟨ab,cb,rfl⟩:=nJ.val;have la:=pX ha;have lb:=pX hb;have Af:=cW cm a;have En:=cW cm b;have da:=(eo cm a).1;have db:=(eo cm b).1
  have pos:0<(dig W64 a).length\/0<(dig W64 b).length:=by
   rcases qz (dig W64 a).length with e | e
   ·rcases qz (dig W64 b).length with e' | e'
    ·have h1:=rO cm e;have h2:=rO cm e';exact absurd ⟨by rw[h1];decide,by rw[h2];decide⟩ h
    ·exact .inr e'
   ·exact .inl e
  have cQ:val W64 (dig W64 a)+val W64 (dig W64 b)=a+b:=by rw[Af,En]
  have WK:val W64 (dig W64 b)+val W64 (dig W64 a)=a+b:=by rw[Af,En,Nat.add_comm]
  generalize dig W64 a=xa at *
  generalize dig W64 b=xb at *
  clear kE kD ha hb h he dt Af En;refine uR ?_;refine EV.meet (fun aA aw H'=>∃(g cap:Nat) (sp:List Value) (ay:Option Addr) (cy:Nat) (x y:List Nat),fq aA [(4,.p 4 0),(7,.v (.slice (some ⟨g,0,none⟩) x.length cap)),(8,.v (.slice ay y.length cy))]/\fx aw [(4,47,aa47.zero)]/\H'.ow=[(g,45,x.map n64++sp)]/\(x.map n64++sp).length=cap*1/\x.length<=cap/\cap<=maxLen/\SlN n64 H'.ro (.slice ay y.length cy) y/\y.length<=x.length/\Dig W64 x/\Dig W64 y/\x.length<=15625001/\val W64 x+val W64 y=a+b) ?_ ?_
  ·rintro aA aw ⟨G1,bS,tK⟩ tq ⟨g,cap,sp,ay,cy,x,y,he,dt,h1,h2,h3,h4,hs,hyx,dx,dy,lx,bk⟩;obtain rfl:tK=⟨fun _=>none,[]⟩:=tq;refine EV.less _ _ he dt Z ?_;have uW:bS=[(g,45,x.map n64++sp)]:=h1;subst uW;refine uR ?_;change SlN n64 G1 _ _ at hs;clear wQ nJ cQ WK he dt pos la lb da db h1
   refine EV.loop (ι:=Nat × Nat × List Nat) (fun q=>[(4,.p 4 0),(7,.v (.slice (some ⟨g,0,none⟩) x.length cap)),(8,.v (.slice ay y.length cy)),(9,.v (n64 q.2.1)),(48,.v (.int .i64 (x.length:Int))),(49,.v (.int .i64 (q.1:Int)))]) (fun _=>[(4,47,aa47.zero)]) (fun q=>[(g,45,q.2.2.map n64++sp)])
    (fun q G=>q.1<=x.length/\Hv x y q.2.2 q.1 q.2.1/\SlN n64 G (.slice ay y.length cy) y) (fun q=>x.length-q.1) (0,0,x) ⟨Z,Z,Z,Z,Z,Z,trivial⟩ ⟨Z,trivial⟩ rfl (fun _=>rfl) ⟨qQ _,⟨rfl,dx,fun _ _=>rfl,by simp[val],qQ _⟩,hs⟩ ?_
   rintro⟨i,c,cur⟩ G2 ai ⟨hi,hinv,cr⟩;dsimp only at hi hinv;refine uR ?_;by_cases af:i<x.length
   ·rw[show decide ((i:Int)<(x.length:Int))=true by simpa using af];refine uR ?_;refine EV.meet (fun aA aw H'=>fq aA [(4,.p 4 0),(7,.v (.slice (some ⟨g,0,none⟩) x.length cap)),(8,.v (.slice ay y.length cy)),(9,.v (n64 c)),(48,.v (.int .i64 (x.length:Int))),(49,.v (.int .i64 (i:Int))),(10,.v (.int .i64 (i:Int))),(11,.v (n64 (y.getD i 0)))]/\fx aw [(4,47,aa47.zero)]/\H'.ow=[(g,45,cur.map n64++sp)]/\G2.Le H'.ro) ?_ ?_
    ·rintro aA aw ⟨G3,rR,tJ⟩ iE ⟨he,dt,h1,hle⟩;obtain rfl:tJ=⟨fun _=>none,[]⟩:=iE;refine EV.less _ _ he dt Z ?_;have uW:rR=[(g,45,cur.map n64++sp)]:=h1;subst uW;have bY:i<cur.length:=by rw[hinv.len];exact af
     have oY:(cur.map n64++sp)[i]?=some (n64 (cur.getD i 0)):=by
      rw[qM (by simpa using bY)];simp[bY]
     refine uR ?_;refine EVL.ofVal (az.idxP1 tO Z Z Z Z Z Z Z Z i Z af) Z Z Z fun G4 aT=>?_;refine EVL.load1 tO Z Z Z Z Z Z Z Z 0 Z oY ?_;refine uR ?_;refine EVL.ext Z Z Z Z Z (fun W=>L8 (cur.getD i 0) (y.getD i 0) c W hinv.carry) ?_;refine uR ?_;refine EVL.ofVal (az.idxP1 tO Z Z Z Z Z Z Z Z i Z af) Z Z Z fun G5 bj=>?_;refine EVL.set1 tO Z Z Z Z Z Z Z Z Z Z (by simp;omega) ?_;refine uR ?_;refine⟨(i+1,addHi (cur.getD i 0) (y.getD i 0) c,cur.set i (addLo (cur.getD i 0) (y.getD i 0) c)),⟨rfl,rfl,rfl,rfl,rfl,?_,trivial⟩,⟨Z,trivial⟩,?_,⟨by dsimp only;omega,hinv.step af dy,cr.mono (hle.trans (aT.trans bj))⟩,hle.trans (aT.trans bj),by dsimp only;omega⟩
     ·have e:IntKind.i64.wrap ((i:Int)+1)=((i+1:Nat):Int):=by rw[pL];omega
      rw[e];rfl
     ·dsimp only;rw[List.set_append_left _ _ (by simpa using bY),List.map_set]
    ·by_cases nO:i<y.length
     ·rw[show decide ((i:Int)<(y.length:Int))=true by simpa using nO];have xk:(y.map n64)[i]?=some (n64 (y.getD i 0)):=by simp[nO]
      refine uR ?_;refine EVL.ofVal (az.idx1 tO Z Z Z Z Z Z Z Z cr i Z nO xk) Z Z Z fun G4 aT=>?_;refine uR ?_;exact⟨⟨Z,Z,Z,Z,Z,Z,Z,Z,trivial⟩,⟨Z,trivial⟩,rfl,aT⟩
     ·rw[show decide ((i:Int)<(y.length:Int))=false by simpa using nO];refine uR ?_;refine⟨⟨rfl,rfl,rfl,rfl,rfl,rfl,rfl,?_,trivial⟩,⟨Z,trivial⟩,rfl,Hp.Le.refl _⟩;rw[show y.getD i 0=0 by simp[Nat.not_lt.1 nO]];rfl
   ·rw[show decide ((i:Int)<(x.length:Int))=false by simpa using af];obtain rfl:i=x.length:=oM;have hlen:=hinv.len;have bn:=hinv.sum;rw[qO oM,qO (qH _),qO oM,bk]at bn
    have ah:aF 45 1 (.slice (some ⟨g,0,none⟩) x.length cap) x.length (cur.map n64) [(g,45,cur.map n64++sp)] :=
     ⟨by simp[hlen],.inr ⟨g,cap,sp,rfl,rfl,by rw[<-h2];simp[hlen],h3,h4⟩⟩
    refine uR ?_;refine EV.meet (fun aA aw H'=>∃(v:Value) (l:List Nat),fq aA [(4,.p 4 0),(7,.v v)]/\fx aw [(4,47,aa47.zero)]/\SlN n64 H'.ro v l/\Dig W64 l/\val W64 l=a+b/\l.length<=15625002) ?_ ?_
    ·rintro aA aw H3 _ ⟨v,l,he,dt,hl,hD,hv,dc⟩;refine EV.less _ _ he dt Z ?_;have hf:=uq hl hD oM;rw[hv]at hf;refine uR ?_;refine EVL.call Z Z Z Z Z hf ?_;rintro v' H' rfl hle;refine uR ?_;rfl
    ·by_cases hc:c=0
     ·rw[show (((c:Nat):Int) != 0)=false by simp[hc]];refine EV.publishL [] [(g,45,cur.map n64++sp)] [] Z ah fun G' mo fZ=>?_;refine uR ?_;rw[hc]at bn;refine⟨_,cur,⟨Z,Z,trivial⟩,⟨Z,trivial⟩,?_,hinv.dig,by omega,by omega⟩;unfold SlN;rw[hlen];exact fZ
     ·have eA:c=1:=by have:=hinv.carry;omega
      rw[show (((c:Nat):Int) != 0)=true by simp[hc]];refine uR ?_;refine EVL.lit tO Z Z Z Z Z Z Z Z Z Z Z fun gt=>?_;refine EVL.append tO Z Z Z Z Z Z Z Z Z Z Z Z [(gt,45,[n64 c])] [(g,45,cur.map n64++sp)] [] Z ah (iJ.own 0 Z Z) Z oM ?_;intro v' au ao;refine EVL.publishL [(gt,45,[n64 c])] au [] Z ao fun G' mo fZ=>?_;refine uR ?_;refine⟨_,cur++[c],⟨Z,Z,trivial⟩,⟨Z,trivial⟩,?_,hinv.dig.append (Dig.cons (by rw[eA];decide) (Dig.nil _)),?_,by simp;omega⟩
      ·change SlC G' v' (x.length+1) 1 (cur.map n64++[n64 c])at fZ;unfold SlN;simpa[hlen] using fZ
      ·rw[uj,hlen];simp only[val];rw[Nat.mul_zero,qY,qW];exact bn
  ·refine EV.cond Z (fun af=>?_) (fun af=>?_)
   ·have OT:xa.length<xb.length:=by simpa using af
    obtain⟨g,cap,sp,e1,rfl,h2,h3,h4⟩:=nJ.block oM;cases e1;refine EV.publishL [(g,45,xb.map n64++sp)] oa [] Z wQ fun G' mo hs=>?_;refine uR ?_;exact⟨g,cb,sp,aa,ca,xb,xa,⟨Z,Z,Z,trivial⟩,⟨Z,trivial⟩,rfl,h2,h3,h4,hs,by omega,db,da,lb,WK⟩
   ·have OT:xb.length<=xa.length:=by simpa using af
    obtain⟨g,cap,sp,e1,rfl,h2,h3,h4⟩:=wQ.block oM;cases e1;refine EV.publishL [] ob [(g,45,xa.map n64++sp)] Z nJ fun G' mo hs=>?_;refine uR ?_;exact⟨g,ca,sp,ab,cb,xa,xb,⟨Z,Z,Z,trivial⟩,⟨Z,trivial⟩,rfl,h2,h3,h4,hs,by omega,da,db,la,cQ⟩
 ·by_cases h1:a<W64
  ·have h2:¬b<W64:=fun h2=>h ⟨h1,h2⟩;rw[Ca h1];refine uR ?_;rw[yn h2];refine uR ?_;exact⟨⟨Z,Z,Z,Z,trivial⟩,⟨Z,Z,Z,trivial⟩,rfl⟩
  ·rw[yn h1];refine uR ?_;exact⟨⟨Z,Z,Z,Z,trivial⟩,⟨Z,Z,Z,trivial⟩,rfl⟩
theorem zpE (a b:Nat) (ha:big a) (hb:big b):PV prog 155 #[aH a,aH b] (aH (a+b)):=by
 by_cases h:a<W64/\b<W64
 ·exact zkl a b h.1 h.2
 ·exact znX a b h ha hb
end
end Go.Proofs.YtkeklikocibiaaaGreatDoor
