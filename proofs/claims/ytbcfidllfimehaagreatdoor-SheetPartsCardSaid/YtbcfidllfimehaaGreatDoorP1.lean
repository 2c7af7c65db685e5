/- Texts of ours in one: Ev10, Ev11, Tab, Run, Val, Bl, Word, NatP, Bits, CmpP, Nat1, Builder, Nat2, Nat3, ShiftP, Guess, Div64P, Knuth, Div64, Nat8, Nat9, Arith, Nat5, Nat10, Nat4, Nat6, DivP, Nat7, NatA, NatB. -/
import Derived.Test.YtbcfidllfimehaaGreatDoorP0
import Derived.Test.YtbcfidllfimehaaGreatDoorProg
import Derived.WalkKit
import Derived.Laws.BitsAllLaws
import Derived.WalkLawsBesides
import Derived.Deep.LoopGhost
import Derived.Deep.QuietTactic
import Derived.BigQuiet
import Derived.Lib.Builder
import Derived.Laws.Externs
import Derived.Laws.IdiomCopy
import Derived.Deep.RegionHeld3
import Derived.Deep.DeepCutAuto
import Derived.Deep.CutBlock
import Derived.Shelf.Spec.BitsCarry
import Derived.Laws.CopyOwn
import Derived.StillTailTactics
set_option linter.unusedVariables false
set_option linter.unusedSimpArgs false

namespace Go.Proofs.YtbcfidllfimehaaGreatDoor
open Go.RowKit
section
variable {P:Program} {n:Nat} {ops:Array Oper} {o:Oper} {rest:List Oper} {env:Env} {bx:Bxs} {sb:Bxs} {ow:Ows} {H:Hs} {Q:EQ} {τ:Tab} {d:Nat} {s:SV}
theorem EVL.ext {f:FuncId} {args:Array Operand} {tys:Array TypeId} {v:Value} (ho:o.op=.call ⟨.value (.func f),args,tys⟩) (hw:wantB ops env o=some true) (hd:o.dst=some d) (hn:Nat.blt d n=true) {vs:List Value} (ha:argsK env args.toList some=some vs)
  (hx:∀ W,(callFunc f vs.toArray).run P W=.ok (.value v) W) (h:EVL P n ops rest ((d,.v v)::env) bx H Q):EVL P n ops (o::rest) env bx H Q:=fun W0 β a W r=>by
 obtain ⟨vs',hk,hm⟩:=argsK_spec env _ _ _ ha
 cases hk
 have hvs:=hm β H.ro a.eval (fun y s _ hy=>r.op hy)
 have hmp:args.map a.eval=vs.toArray:=by rw [← hvs,← Array.toList_map]
 unfold wpList
 rw [if_pos (r.want hw)]
 refine .inl ?_
 have hrun:(execOp a.eval o).run P W=.ok (.value v) W:=by
  unfold execOp
  simp only [ho,resolve,hmp,Act.eval,Deferred.ofValue,Sem.run_bind,Sem.run_pure,Result.andThen_ok,invoke]
  simp [hx W]
 unfold Oper.wp
 rw [hrun,Oper.upon_value,hd]
 exact h W0 β _ W (r.put hn rfl rfl)
theorem EVL.gen {v:Value} (hw:wantB ops env o=some true) (hd:o.dst=some d) (hn:Nat.blt d n=true) (hx:∀ (ev:Operand→Value) (W:World),(∀ y x,y∈o.op.operands→env.op y=some (.v x)→ev y=x)→(execOp ev o).run P W=.ok (.value v) W)
  (h:EVL P n ops rest ((d,.v v)::env) bx H Q):EVL P n ops (o::rest) env bx H Q:=fun W0 β a W r=>by
 unfold wpList
 rw [if_pos (r.want hw)]
 refine .inl ?_
 unfold Oper.wp
 rw [hx a.eval W (fun y x _ hy=>r.op hy),Oper.upon_value,hd]
 exact h W0 β _ W (r.put hn rfl rfl)
theorem run_eqb {T T':TypeId} {x y:Operand} {a b:Bool} (ho:o.op=.binOp .eql T x y T') (hx:env.op x=some (.v (.bool a))) (hy:env.op y=some (.v (.bool b))) (hT:P.underlying T=some .bool) (ev:Operand→Value) (W:World) (he:∀ y x,y∈o.op.operands→env.op y=some (.v x)→ev y=x):(execOp ev o).run P W=.ok (.value (.bool (a == b))) W:=by
 have h1:=he x _ (by simp [ho,Op.operands]) hx
 have h2:=he y _ (by simp [ho,Op.operands]) hy
 unfold execOp
 simp [ho,h1,h2,eqGuard,run_eql_bool W T a b hT]
theorem run_neb {T T':TypeId} {x y:Operand} {a b:Bool} (ho:o.op=.binOp .neq T x y T') (hx:env.op x=some (.v (.bool a))) (hy:env.op y=some (.v (.bool b))) (hT:P.underlying T=some .bool) (ev:Operand→Value) (W:World) (he:∀ y x,y∈o.op.operands→env.op y=some (.v x)→ev y=x):(execOp ev o).run P W=.ok (.value (.bool (!(a == b)))) W:=by
 have h1:=he x _ (by simp [ho,Op.operands]) hx
 have h2:=he y _ (by simp [ho,Op.operands]) hy
 unfold execOp
 simp [ho,h1,h2,eqGuard,run_neq_bool W T a b hT]
theorem EVL.eqb {T T':TypeId} {x y:Operand} {a b:Bool} (ho:o.op=.binOp .eql T x y T') (hw:wantB ops env o=some true) (hd:o.dst=some d) (hn:Nat.blt d n=true) (hx:env.op x=some (.v (.bool a))) (hy:env.op y=some (.v (.bool b))) (hT:P.underlying T=some .bool)
  (h:EVL P n ops rest ((d,.v (.bool (a == b)))::env) bx H Q):EVL P n ops (o::rest) env bx H Q:=EVL.gen hw hd hn (run_eqb ho hx hy hT) h
theorem EVL.neb {T T':TypeId} {x y:Operand} {a b:Bool} (ho:o.op=.binOp .neq T x y T') (hw:wantB ops env o=some true) (hd:o.dst=some d) (hn:Nat.blt d n=true) (hx:env.op x=some (.v (.bool a))) (hy:env.op y=some (.v (.bool b))) (hT:P.underlying T=some .bool)
  (h:EVL P n ops rest ((d,.v (.bool (!(a == b))))::env) bx H Q):EVL P n ops (o::rest) env bx H Q:=EVL.gen hw hd hn (run_neb ho hx hy hT) h
theorem ValOk.neb {R:Hp} {F:Hp→Prop} {T T':TypeId} {x y:Operand} {a b:Bool} (ho:o.op=.binOp .neq T x y T') (hw:wantB ops env o=some true) (hx:env.op x=some (.v (.bool a))) (hy:env.op y=some (.v (.bool b))) (hT:P.underlying T=some .bool) :
  ValOk P ops o env bx ow R F (fun β u G=>(SV.v (.bool (!(a == b)))).rep β G u):=ValOk.gen hw (run_neb ho hx hy hT)
structure PM (P:Program) (f:FuncId) (args:Array Value) (H:Hp) (b:Nat) (cs:List Value) (Φ:Value→List Value→Prop):Prop where
 can:Callable P f
 run:∀ W T,Fits H W→Fits gH W→Box W b cs.toArray T→Calls P f args W fun e W'=>∃ v cs',e=.returned v∧Φ v cs'∧Box W' b cs'.toArray T∧Kept (fun k=>k=b) W W'
theorem EVL.callM {f:FuncId} {args:Array Operand} {tys:Array TypeId} (ho:o.op=.call ⟨.value (.func f),args,tys⟩) (hw:wantB ops env o=some true) (hd:o.dst=some d) (hn:Nat.blt d n=true)
    {vs:List Value} (ha:argsK env args.toList some=some vs) (pre post:Ows) {b:Nat} {T:TypeId} {cs:List Value} (e:H.ow=pre++((b,T,cs)::post)) {Φ:Value→List Value→Prop} (hpc:PM P f vs.toArray H.ro b cs Φ)
    (h:∀ v cs',Φ v cs'→EVL P n ops rest ((d,.v v)::env) bx ⟨H.ro,pre++((b,T,cs')::post),H.base⟩ Q):EVL P n ops (o::rest) env bx H Q:=fun W0 β a W r=>by
  obtain ⟨vs',hk,hm⟩:=argsK_spec env _ _ _ ha
  cases hk
  have hvs:=hm β H.ro a.eval (fun y s _ hy=>r.op hy)
  have hown:H.ow[pre.length]?=some (b,T,cs):=by rw [e];simp
  obtain ⟨hB,hlow,hro,hbx⟩:=r.own _ b T cs hown
  have hsz:W0.heap.size≤W.heap.size:=r.bel.size
  unfold wpList
  rw [if_pos (r.want hw)]
  refine .inl ?_
  unfold Oper.wp
  rw [run_call_enter hpc.can ho hvs,Oper.upon_enter]
  refine (hpc.run W T r.fits r.globW hB).mono ?_
  rintro e' W' ⟨v,cs',rfl,hΦ,hB',k⟩
  rw [hd]
  refine h v cs' hΦ W0 β _ W' (Rel.put ?_ hn rfl rfl)
  have key:∀ (j b':Nat) (T':TypeId) (c:List Value),(pre++((b,T,cs')::post))[j]?=some (b',T',c)→(j=pre.length∧b'=b∧T'=T∧c=cs')∨(j≠pre.length∧H.ow[j]?=some (b',T',c)):=by
    intro j b' T' c hj
    by_cases ej:j=pre.length
    · subst ej
      simp at hj
      obtain ⟨rfl,rfl,rfl⟩:=hj
      exact .inl ⟨rfl,rfl,rfl,rfl⟩
    · refine .inr ⟨ej,?_⟩
      rw [e]
      by_cases h:j<pre.length
      · rw [List.getElem?_append_left h] at hj ⊢;exact hj
      · rw [List.getElem?_append_right (by omega)] at hj ⊢
        rw [show j-pre.length=(j-pre.length-1)+1 by omega,List.getElem?_cons_succ] at hj ⊢
        exact hj
  refine ⟨r.size,r.defers,r.slot,fun i T' c hg=>?_,r.low,r.inj,r.pin,fun c x hc=>?_,r.le,r.new.kept r.fits k (fun c hc e=>hc (by rw [e];exact hro)),?_,r.glob,fun j b' T' c hj=>?_,fun j j' b' T1 T2 c1 c2 hj hj'=>?_⟩
  · have hb:=r.box i T' c hg
    exact (k.block (β i) hb.lt (hbx i (by rw [hg];rfl))).trans hb
  · have hne:c≠b:=fun e'=>by subst e';rw [hro] at hc;cases hc
    rw [k.block c (r.fits.lt (by rw [hc];simp)) hne]
    exact r.fits c x hc
  · exact r.bel.then k (fun j hj e => by subst e; rcases hlow with h | h; · omega
                                         · exact h)
  · rcases key j b' T' c hj with ⟨rfl,rfl,rfl,rfl⟩ | ⟨hne,hj'⟩
    · exact ⟨hB',hlow,hro,hbx⟩
    · obtain ⟨h1,h2,h3,h4⟩:=r.own j b' T' c hj'
      have hb:b'≠b:=fun e'=>by subst e';exact hne (r.one j pre.length b' T' T c cs hj' hown)
      exact ⟨(k.block b' h1.lt hb).trans h1,h2,h3,h4⟩
  · rcases key j b' T1 c1 hj with ⟨rfl,rfl,rfl,rfl⟩ | ⟨hne,hq⟩
    · rcases key j' b' T2 c2 hj' with ⟨rfl,_,_,_⟩ | ⟨hne',hq'⟩
      · rfl
      · exact r.one pre.length j' b' T1 T2 cs c2 hown hq'
    · rcases key j' b' T2 c2 hj' with ⟨rfl,rfl,rfl,rfl⟩ | ⟨hne',hq'⟩
      · exact r.one j pre.length b' T1 T2 c1 cs hq hown
      · exact r.one j j' b' T1 T2 c1 c2 hq hq'
theorem wpList_mono {Q Q':Exit→Act→World→Prop} (hq:∀ e a W,Q e a W→Q' e a W):∀ (l:List Oper) (a:Act) (W:World),wpList P ops Q l a W→wpList P ops Q' l a W
 | [],a,W,h=>hq _ _ _ h
 | o::l,a,W,h=>by
  unfold wpList at *
  split
  ·rename_i hw
   rw [if_pos hw] at h
   rcases h with h | ⟨h1,h2⟩
   ·left
    have h2:=Oper.wp_mono (fun a w h=>wpList_mono hq l a w h) h
    unfold Oper.wp at *
    generalize (execOp a.eval o).run P W=r at *
    cases r with
    | ok m w' =>
     cases m <;> simp only [Oper.upon] at h2 ⊢ <;> try exact h2
     case enter f args =>
      refine h2.mono fun e w'' he=>?_
      cases e with
      | returned v=>exact he
      | panicked c=>exact hq _ _ _ he
      | outgrown=>obtain ⟨a0,w0,h⟩:=he;exact ⟨a0,w0,hq _ _ _ h⟩
    | halt y w' =>
     cases y <;> simp only [Oper.upon] at h2 ⊢
     case panic v=>exact hq _ _ _ h2
   ·obtain ⟨a0,w0,h⟩:=h2
    exact .inr ⟨h1,a0,w0,hq _ _ _ h⟩
  ·rename_i hw
   rw [if_neg hw] at h
   exact wpList_mono hq l _ W h
theorem EV.meet {c:Code} {K:Env→Bxs→Hs→Prop} (S:Env→Bxs→Hs→Prop) (hK:∀ env' bx' H',H'.base=H.base→S env' bx' H'→K env' bx' H') (h:EV P n c env bx H (thenQ S Q)):EV P n c env bx H (thenQ K Q):=fun W0 β a W r=>by
 refine wp_mono (h W0 β a W r) ?_
 rintro e a' W' ⟨β',env',bx',H',hbase,hq,r'⟩
 cases e with
 | normal=>exact ⟨β',env',bx',H',hbase,hK env' bx' H' hbase hq,r'⟩
 | _=>exact ⟨β',env',bx',H',hbase,hq,r'⟩
theorem EVL.meet {K:Env→Bxs→Hs→Prop} (S:Env→Bxs→Hs→Prop) (hK:∀ env' bx' H',H'.base=H.base→S env' bx' H'→K env' bx' H') (h:EVL P n ops rest env bx H (thenQ S Q)):EVL P n ops rest env bx H (thenQ K Q):=fun W0 β a W r=>by
 have mono:∀ (l:List Oper) (a:Act) (W:World),wpList P ops (lift n W0 H.base (thenQ S Q)) l a W→wpList P ops (lift n W0 H.base (thenQ K Q)) l a W:=fun l a W h=>wpList_mono (fun e a' W' ⟨β',env',bx',H',hbase,hq,r'⟩=>by
  cases e with
  | normal=>exact ⟨β',env',bx',H',hbase,hK env' bx' H' hbase hq,r'⟩
  | _=>exact ⟨β',env',bx',H',hbase,hq,r'⟩) l a W h
 exact mono rest a W (h W0 β a W r)
theorem EV.less {c:Code} (env':Env) (bx':Bxs) (he:SubL env env') (hb:SubX bx bx') (hp:pinAll env' bx'=true) (h:EV P n c env' bx' H Q):EV P n c env bx H Q :=
 fun W0 β a W r=>h W0 β a W (r.weaken he.sub hb.sub hp)
theorem ValOk.idxP1 {R:Hp} {F:Hp→Prop} (hτ:TabOk P τ) {T:TypeId} {x y:Operand} (ho:o.op=.indexAddr T x y) (hw:wantB ops env o=some true) {te te':TE} {e:TypeId} (ht:τ.get T=some te) (hk:te.kind=.slice e) (ht':τ.get e=some te') (h1:te'.size=1)
  {b m cap:Nat} (hx:env.op x=some (.v (.slice (some ⟨b,0,none⟩) m cap))) {k:IntKind} {z:Int} (hy:env.op y=some (.v (.int k z))) (j:Nat) (hz:z=j) (hj:j<m) :
  ValOk P ops o env bx ow R F (fun β u G=>(SV.v (.pointer (some ⟨b,j,none⟩))).rep β G u):=by
 have:=ValOk.idxP (P:=P) (ops:=ops) (bx:=bx) (ow:=ow) (R:=R) (F:=F) hτ ho hw ht hk ht' hx hy j hz hj
 rwa [h1,Nat.mul_one,Nat.zero_add] at this
theorem ValOk.idx1 {R:Hp} {F:Hp→Prop} (hτ:TabOk P τ) {T:TypeId} {x y:Operand} (ho:o.op=.indexAddr T x y) (hw:wantB ops env o=some true) {te te':TE} {e:TypeId} (ht:τ.get T=some te) (hk:te.kind=.slice e) (ht':τ.get e=some te') (h1:te'.size=1)
  {v:Value} (hx:env.op x=some (.v v)) {k:IntKind} {z:Int} (hy:env.op y=some (.v (.int k z))) {m:Nat} {xs:List Value} (hs:SlC R v m 1 xs) (j:Nat) (hz:z=j) (hj:j<m) {c:Value} (hc:xs[j]?=some c) :
  ValOk P ops o env bx ow R F (fun β u G=>(SV.ro [c]).rep β G u):=by
 have:=ValOk.idx (P:=P) (ops:=ops) (bx:=bx) (ow:=ow) (R:=R) (F:=F) hτ ho hw ht hk ht' hx hy (m:=m) (xs:=xs) (by rw [h1];exact hs) j hz hj
 have e:(xs.drop (j*te'.size)).take te'.size=[c]:=by
  rw [h1,Nat.mul_one]
  have hl:=(List.getElem?_eq_some_iff.1 hc)
  obtain ⟨hlt,he⟩:=hl
  rw [List.drop_eq_getElem_cons hlt,List.take_succ_cons,List.take_zero,he]
 rwa [e] at this
theorem EVL.load1 (hτ:TabOk P τ) {T:TypeId} {x:Operand} (ho:o.op=.load T x) (hw:wantB ops env o=some true) (hd:o.dst=some d) (hn:Nat.blt d n=true) {te:TE} (ht:τ.get T=some te) (h1:te.size=1) (hag:te.agg=false)
  {b q:Nat} (hx:env.op x=some (.v (.pointer (some ⟨b,q,none⟩)))) (jj:Nat) {T':TypeId} {cs:List Value} (hj:H.ow[jj]?=some (b,T',cs)) {v:Value} (hv:cs[q]?=some v)
  (h:EVL P n ops rest ((d,.v v)::env) bx H Q):EVL P n ops (o::rest) env bx H Q:=by
 obtain ⟨hlt,he⟩:=List.getElem?_eq_some_iff.1 hv
 exact EVL.loadOwn hτ ho hw hd hn ht hx jj hj (l:=[v]) (by rw [h1,List.drop_eq_getElem_cons hlt,List.take_succ_cons,List.take_zero,he]) (by rw [h1];rfl) (by rw [hag];rfl) h
theorem OwnL.val {et:TypeId} {size:Nat} {v:Value} {m:Nat} {xs:List Value} {ow:Ows} (h:OwnL et size v m xs ow):∃ a cap,v=.slice a m cap:=by
 rcases h.2 with ⟨rfl,rfl,_⟩ | ⟨g,cap,sp,rfl,_⟩
 ·exact ⟨_,_,rfl⟩
 ·exact ⟨_,_,rfl⟩
theorem OwnL.block {et:TypeId} {size:Nat} {v:Value} {m:Nat} {xs:List Value} {ow:Ows} (h:OwnL et size v m xs ow) (hm:0<m):∃ g cap sp,v=.slice (some ⟨g,0,none⟩) m cap∧ow=[(g,et,xs++sp)]∧(xs++sp).length=cap*size∧m≤cap∧cap≤maxLen:=by
 rcases h.2 with ⟨_,rfl,_⟩ | h
 ·omega
 ·exact h
theorem EVL.publishL (pre ow post:Ows) (e:H.ow=pre++(ow++post)) {et:TypeId} {size:Nat} {v:Value} {m:Nat} {xs:List Value} (hown:OwnL et size v m xs ow) (h:∀ G,H.ro.Le G→SlC G v m size xs→EVL P n ops rest env bx ⟨G,pre++post,H.base⟩ Q) (hnl:∀ k,k∈H.base.lent→∀ p,p∈ow→k≠p.1:=by exact fun _ h=>noLent h):EVL P n ops rest env bx H Q:=by
 rcases hown.2 with ⟨rfl,rfl,rfl⟩ | ⟨g,cap,sp,rfl,rfl,h1,h2,h3⟩
 ·refine EVL.subOw pre [] post (by simpa using e) (h H.ro (Hp.Le.refl _) ⟨hown.1,.inl ⟨rfl,none,0,rfl⟩⟩)
 ·refine EVL.publish pre post (by simpa using e) (fun G hle hG=>h G hle ⟨hown.1,.inr ⟨g,0,cap,_,rfl,h2,hG,fun j x hj=>?_⟩⟩) (fun k hk=>hnl k hk _ (List.mem_singleton.2 rfl))
  simp only [Nat.zero_add,List.getElem?_toArray]
  have hl:j<xs.length:=(List.getElem?_eq_some_iff.1 hj).1
  rw [List.getElem?_append_left hl];exact hj
theorem EV.publishL {c:Code} (pre ow post:Ows) (e:H.ow=pre++(ow++post)) {et:TypeId} {size:Nat} {v:Value} {m:Nat} {xs:List Value} (hown:OwnL et size v m xs ow) (h:∀ G,H.ro.Le G→SlC G v m size xs→EV P n c env bx ⟨G,pre++post,H.base⟩ Q) (hnl:∀ k,k∈H.base.lent→∀ p,p∈ow→k≠p.1:=by exact fun _ h=>noLent h):EV P n c env bx H Q:=by
 rcases hown.2 with ⟨rfl,rfl,rfl⟩ | ⟨g,cap,sp,rfl,rfl,h1,h2,h3⟩
 ·refine EV.subOw pre [] post (by simpa using e) (h H.ro (Hp.Le.refl _) ⟨hown.1,.inl ⟨rfl,none,0,rfl⟩⟩)
 ·refine EV.publish pre post (by simpa using e) (fun G hle hG=>h G hle ⟨hown.1,.inr ⟨g,0,cap,_,rfl,h2,hG,fun j x hj=>?_⟩⟩) (fun k hk=>hnl k hk _ (List.mem_singleton.2 rfl))
  simp only [Nat.zero_add,List.getElem?_toArray]
  have hl:j<xs.length:=(List.getElem?_eq_some_iff.1 hj).1
  rw [List.getElem?_append_left hl];exact hj
theorem ValOk.loadOwn {R:Hp} {F:Hp→Prop} (hτ:TabOk P τ) {T:TypeId} {x:Operand} (ho:o.op=.load T x) (hw:wantB ops env o=some true) {te:TE} (ht:τ.get T=some te)
  {b q:Nat} (hx:env.op x=some (.v (.pointer (some ⟨b,q,none⟩)))) (jj:Nat) {T':TypeId} {cs:List Value} (hj:ow[jj]?=some (b,T',cs)) {l:List Value} (hl:(cs.drop q).take te.size=l) (hlen:l.length=te.size) {v:Value} (hv:asVar te.agg l=some v) :
  ValOk P ops o env bx ow R F (fun β u G=>(SV.v v).rep β G u):=fun β a W G _ hf _ hb hown hs _=>by
 have hB:=hown jj b T' cs hj
 have ex:a.eval x=.pointer (some ⟨b,q,none⟩):=hs.op (by simp [ho,Op.operands]) hx
 have hrun:=run_load_cells (hτ.get ht) (by have:=hB.range q te.size;rw [hl] at this;exact this) hlen hv
 rw [if_pos (hs.want hw)]
 have hx':(execOp a.eval o).run P W=.ok (.value v) W:=by
  unfold execOp
  simp only [ho,ex,Sem.run_bind,hrun,Result.andThen_ok,Sem.run_pure]
 unfold Oper.wp
 rw [hx',Oper.upon_value]
 exact ⟨v,G,rfl,rfl,Hp.Le.refl G,hf,Below.refl _ _,Nw.refl _ _ _⟩
theorem ValOk.load1 {R:Hp} {F:Hp→Prop} (hτ:TabOk P τ) {T:TypeId} {x:Operand} (ho:o.op=.load T x) (hw:wantB ops env o=some true) {te:TE} (ht:τ.get T=some te) (h1:te.size=1) (hag:te.agg=false)
  {b q:Nat} (hx:env.op x=some (.v (.pointer (some ⟨b,q,none⟩)))) (jj:Nat) {T':TypeId} {cs:List Value} (hj:ow[jj]?=some (b,T',cs)) {v:Value} (hv:cs[q]?=some v) :
  ValOk P ops o env bx ow R F (fun β u G=>(SV.v v).rep β G u):=by
 obtain ⟨hlt,he⟩:=List.getElem?_eq_some_iff.1 hv
 exact ValOk.loadOwn hτ ho hw ht hx jj hj (l:=[v]) (by rw [h1,List.drop_eq_getElem_cons hlt,List.take_succ_cons,List.take_zero,he]) (by rw [h1];rfl) (by rw [hag];rfl)
theorem DJ.ofCall {tail l:List Oper} {x:Nat→Value} {y:Nat→Ows} {ow':Ows} {kl ks:List DK} {i:Nat} {bx':Bxs} {Γ:Fcts} {Φ:Value→Hp→Prop} (hv:ValOk P ops o env bx H.ow H.ro (DepF ops i Γ) (fun _ v G=>Φ v G)) (hd:o.dst=some d) (hn:Nat.blt d n=true) (hm:∀ v G G',Φ v G→G.Le G'→Φ v G')
  (h:DJ P n ops tail sb bx H Q x y kl (i+1) l ks ((d,.v (x i))::env) bx' ((i,Φ (x i))::Γ) ow'):DJ P n ops tail sb bx H Q x y kl i (o::l) (.call Φ::ks) env bx' Γ ow':=⟨d,hd,hn,hm,hv,h⟩
end
def Ows.bs (L:Ows):List Nat:=L.map (·.1)
def Distinct (L:Ows):Prop:=∀ (j j' b:Nat) (T T':TypeId) (cs cs':List Value),L[j]?=some (b,T,cs)→L[j']?=some (b,T',cs')→j=j'
theorem Ows.mem_bs {L:Ows} {b:Nat} (h:b∈L.bs):∃ (j:Nat) (T:TypeId) (cs:List Value),L[j]?=some (b,T,cs):=by
 obtain ⟨⟨b',T,cs⟩,h1,rfl⟩:=List.mem_map.1 h
 obtain ⟨j,hj⟩:=List.mem_iff_getElem?.1 h1
 exact ⟨j,T,cs,hj⟩
theorem Ows.bs_mem {L:Ows} {j b:Nat} {T:TypeId} {cs:List Value} (h:L[j]?=some (b,T,cs)):b∈L.bs:=List.mem_map.2 ⟨_,List.mem_of_getElem? h,rfl⟩
theorem distinct_iff {L:Ows}:Distinct L↔L.bs.Nodup:=by
 constructor
 ·intro h
  rw [List.nodup_iff_pairwise_ne,List.pairwise_iff_getElem]
  intro i j hi hj hij e
  have hi':i<L.length:=by simpa [Ows.bs] using hi
  have hj':j<L.length:=by simpa [Ows.bs] using hj
  have e1:L[i]?=some (L[i].1,L[i].2.1,L[i].2.2):=by simp [hi']
  have e2:L[j]?=some (L[i].1,L[j].2.1,L[j].2.2):=by
   have:L[i].1=L[j].1:=by simpa [Ows.bs] using e
   simp [hj',this]
  have:=h i j _ _ _ _ _ e1 e2
  omega
 ·intro h j j' b T T' cs cs' h1 h2
  rw [List.nodup_iff_pairwise_ne,List.pairwise_iff_getElem] at h
  obtain ⟨hj,e1⟩:=List.getElem?_eq_some_iff.1 h1
  obtain ⟨hj',e2⟩:=List.getElem?_eq_some_iff.1 h2
  rcases Nat.lt_trichotomy j j' with hlt | rfl | hgt
  ·exact absurd (by simp [Ows.bs,e1,e2]) (h j j' (by simpa [Ows.bs] using hj) (by simpa [Ows.bs] using hj') hlt)
  ·rfl
  ·exact absurd (by simp [Ows.bs,e1,e2]) (h j' j (by simpa [Ows.bs] using hj') (by simpa [Ows.bs] using hj) hgt)
structure PW (P:Program) (f:FuncId) (args:Array Value) (H:Hp) (L:Ows) (Φ:Value→Ows→Hp→Prop):Prop where
 can:Callable P f
 run:∀ W,Fits H W→Fits gH W→(∀ (j b:Nat) (T:TypeId) (cs:List Value),L[j]?=some (b,T,cs)→Box W b cs.toArray T∧H b=none∧gH b=none)→Distinct L →
  Calls P f args W fun e W'=>∃ v ow H',e=.returned v∧Φ v ow H'∧H.Le H'∧Fits H' W'∧Nw H W.heap.size H' W'∧Kept (fun b=>b∈L.bs) W W' ∧
   (∀ (j b:Nat) (T:TypeId) (cs:List Value),ow[j]?=some (b,T,cs)→Box W' b cs.toArray T∧(W.heap.size≤b∨b∈L.bs)∧H' b=none)∧Distinct ow
def retW (τ:Tab) (rs:List ResultVar) (Φ:Value→Ows→Hp→Prop):EQ
 | .normal,env,bx,H=>∃ v,resK τ env bx rs one?=some v∧Φ v H.ow H.ro
 | .ret,env,bx,H=>∃ v,resK τ env bx rs one?=some v∧Φ v H.ow H.ro
 | _,_,_,_=>False
theorem retW.ret {τ:Tab} {rs:List ResultVar} {Φ:Value→Ows→Hp→Prop} {env:Env} {bx:Bxs} {H:Hs} {v:Value} (hv:resK τ env bx rs one?=some v) (h:Φ v H.ow H.ro):retW τ rs Φ .ret env bx H:=⟨v,hv,h⟩
theorem retW.normal {τ:Tab} {rs:List ResultVar} {Φ:Value→Ows→Hp→Prop} {env:Env} {bx:Bxs} {H:Hs} {v:Value} (hv:resK τ env bx rs one?=some v) (h:Φ v H.ow H.ro):retW τ rs Φ .normal env bx H:=⟨v,hv,h⟩
theorem PW.body {P:Program} {τ:Tab} (hτ:TabOk P τ) {f:FuncId} {fn:Func} {c:Code} (hf:P.funcs[f]?=some fn) (hb:fn.body=some c) (hname:(fn.name == "runtime.NumGoroutine")=false) {n:Nat} (hn:fn.ntmps=n) {rs:List ResultVar} (hrs:fn.results.toList=rs)
  {args:List Value} (hl:Nat.ble args.length n=true) {H:Hp} {L:Ows} {Φ:Value→Ows→Hp→Prop} (h:EV P n c (argEnv 0 args) [] ⟨H,L,⟨H,L.bs⟩⟩ (retW τ rs Φ)):PW P f args.toArray H L Φ:=by
 refine ⟨cOf hf hb hname,fun W hW hgl hL hLd=>?_⟩
 have hle:=Nat.le_of_ble_eq_true hl
 refine calls_of_wp hf hb (wp_mono (h W (fun _=>0) _ W ?_) ?_)
 ·refine ⟨by simp [hn];omega,rfl,fun t s hs=>?_,fun i T cs hg=>(by cases hg),fun i hi=>(by cases hi),fun i j hi=>(by cases hi),fun t i off ht=>?_,hW,Hp.Le.refl H,Nw.refl _ _ _,Kept.refl _ _,⟨hgl,fun b hb=>?_⟩,fun j b T cs hj=>⟨(hL j b T cs hj).1,.inr (Ows.bs_mem hj),(hL j b T cs hj).2.1,fun i hi=>by cases hi⟩,hLd⟩
  ·obtain ⟨x,rfl,_,hx⟩:=argEnv_get args 0 t s hs
   rw [Nat.sub_zero] at hx
   have hlt:t<args.length:=(List.getElem?_eq_some_iff.1 hx).1
   exact ⟨x,by rw [Array.getElem?_append_left (by simpa using hlt)];simpa using hx,rfl⟩
  ·obtain ⟨x,hx,_⟩:=argEnv_get args 0 t _ ht
   cases hx
  ·obtain ⟨j,T,cs,hj⟩:=Ows.mem_bs hb
   exact ⟨(hL j b T cs hj).2.2,(hL j b T cs hj).1.lt⟩
 ·rintro e a W' ⟨β,env,bx,H',hbase,hq,r⟩
  have fin:∀ v,resK τ env bx rs one?=some v→Φ v H'.ow H'.ro→a.defers=[]∧∃ v,(results fn a.tmps).run P W'=.ok v W'∧∃ u ow H'',Ending.returned v=.returned u∧Φ u ow H''∧H.Le H''∧Fits H'' W'∧Nw H W.heap.size H'' W'∧Kept (fun b=>b∈L.bs) W W' ∧
    (∀ (j b:Nat) (T:TypeId) (cs:List Value),ow[j]?=some (b,T,cs)→Box W' b cs.toArray T∧(W.heap.size≤b∨b∈L.bs)∧H'' b=none)∧Distinct ow :=
   fun v hv hΦ=>⟨r.defers,v,results_of hτ r (by rw [hrs];exact hv),v,H'.ow,H'.ro,rfl,hΦ,r.le,r.fits,r.new,r.bel,fun j b T cs hj=>⟨(r.own j b T cs hj).1,(r.own j b T cs hj).2.1,(r.own j b T cs hj).2.2.1⟩,r.one⟩
  cases e with
  | normal=>obtain ⟨v,hv,hΦ⟩:=hq;exact fin v hv hΦ
  | ret=>obtain ⟨v,hv,hΦ⟩:=hq;exact fin v hv hΦ
  | _=>exact hq.elim
theorem PW.mono {P:Program} {f:FuncId} {args:Array Value} {H:Hp} {L:Ows} {Φ Ψ:Value→Ows→Hp→Prop} (h:PW P f args H L Φ) (k:∀ v ow H',H.Le H'→Φ v ow H'→Ψ v ow H'):PW P f args H L Ψ :=
 ⟨h.can,fun W h1 h2 h3 h4=>(h.run W h1 h2 h3 h4).mono fun e W' ⟨v,ow,H',he,hΦ,hle,r⟩=>⟨v,ow,H',he,k v ow H' hle hΦ,hle,r⟩⟩
theorem PO.of_pw {P:Program} {f:FuncId} {args:Array Value} {H:Hp} {Φ:Value→Ows→Prop} (h:PW P f args H [] fun v ow _=>ow.length≤1∧Φ v ow):PO P f args H Φ :=
 ⟨h.can,fun W h1 h2=>(h.run W h1 h2 (fun j b T cs hj=>by simp at hj) (fun j j' b T T' cs cs' hj=>by simp at hj)).mono fun e W' ⟨v,ow,H',he,⟨hl,hΦ⟩,_,_,_,hk,ho,_⟩=>⟨v,ow,he,hΦ,⟨hl,fun b T cs hm=>by
  obtain ⟨j,hj⟩:=List.mem_iff_getElem?.1 hm
  obtain ⟨h1,h2,_⟩:=ho j b T cs hj
  exact ⟨h2.resolve_right (fun h=>by cases h),h1⟩⟩,hk.below _ (Nat.le_refl _) (fun _ _ hb=>by cases hb)⟩⟩
section
variable {P:Program} {n:Nat} {ops:Array Oper} {o:Oper} {rest:List Oper} {env:Env} {bx:Bxs} {sb:Bxs} {ow:Ows} {H:Hs} {Q:EQ} {τ:Tab} {d:Nat} {s:SV}
theorem Rel.permOw {W0:World} {H0:Bs} {β:Nat→Nat} {a:Act} {W:World} (r:Rel n W0 H0 β env bx H a W) {ow':Ows} (hp:H.ow.Perm ow'):Rel n W0 H0 β env bx ⟨H.ro,ow',H.base⟩ a W:=by
 refine ⟨r.size,r.defers,r.slot,r.box,r.low,r.inj,r.pin,r.fits,r.le,r.new,r.bel,r.glob,fun j b T cs hj=>?_,?_⟩
 ·obtain ⟨q,hq⟩:=List.mem_iff_getElem?.1 (hp.mem_iff.2 (List.mem_of_getElem? hj))
  exact r.own q b T cs hq
 ·have h1:H.ow.bs.Perm (Ows.bs ow'):=by unfold Ows.bs;exact hp.map _
  exact distinct_iff.2 (h1.nodup (distinct_iff.1 r.one))
theorem EVL.permOw (ow':Ows) (hp:H.ow.Perm ow') (h:EVL P n ops rest env bx ⟨H.ro,ow',H.base⟩ Q):EVL P n ops rest env bx H Q:=fun W0 β a W r=>h W0 β a W (r.permOw hp)
theorem EV.permOw {c:Code} (ow':Ows) (hp:H.ow.Perm ow') (h:EV P n c env bx ⟨H.ro,ow',H.base⟩ Q):EV P n c env bx H Q:=fun W0 β a W r=>h W0 β a W (r.permOw hp)
theorem EVL.apart (h:Distinct H.ow→EVL P n ops rest env bx H Q):EVL P n ops rest env bx H Q:=fun W0 β a W r=>h r.one W0 β a W r
theorem Rel.callW {W0:World} {β:Nat→Nat} {a:Act} {W W':World} (r:Rel n W0 H.base β env bx H a W) {L R:Ows} (e:H.ow=L++R) {ow:Ows} {H':Hp} (hle:H.ro.Le H') (hf:Fits H' W') (hn:Nw H.ro W.heap.size H' W') (hk:Kept (fun b=>b∈L.bs) W W')
  (ho:∀ (j b:Nat) (T:TypeId) (cs:List Value),ow[j]?=some (b,T,cs)→Box W' b cs.toArray T∧(W.heap.size≤b∨b∈L.bs)∧H' b=none) (hd:Distinct ow):Rel n W0 H.base β env bx ⟨H',ow++R,H.base⟩ a W':=by
 have hsz:W0.heap.size≤W.heap.size:=r.bel.size
 have inL:∀ b,b∈L.bs→∃ (j:Nat) (T:TypeId) (cs:List Value),H.ow[j]?=some (b,T,cs)∧j<L.length:=fun b hb=>by
  obtain ⟨j,T,cs,hj⟩:=Ows.mem_bs hb
  have hl:=(List.getElem?_eq_some_iff.1 hj).1
  exact ⟨j,T,cs,by rw [e,List.getElem?_append_left hl];exact hj,hl⟩
 have inR:∀ (j b:Nat) (T:TypeId) (cs:List Value),R[j]?=some (b,T,cs)→H.ow[L.length+j]?=some (b,T,cs)∧b ∉ L.bs:=fun j b T cs hj=>by
  have h1:H.ow[L.length+j]?=some (b,T,cs):=by
   rw [e,List.getElem?_append_right (by omega),Nat.add_sub_cancel_left];exact hj
  refine ⟨h1,fun hb=>?_⟩
  obtain ⟨q,T',cs',hq,hlt⟩:=inL b hb
  have:=r.one q (L.length+j) b T' T cs' cs hq h1
  omega
 have notL:∀ i,(bx.get i).isSome=true→β i ∉ L.bs:=fun i hi hb=>by
  obtain ⟨q,T',cs',hq,_⟩:=inL _ hb
  exact (r.own q _ T' cs' hq).2.2.2 i hi rfl
 have roL:∀ b,H.ro b≠none→b ∉ L.bs:=fun b hb hm=>by
  obtain ⟨q,T',cs',hq,_⟩:=inL _ hm
  exact hb (r.own q _ T' cs' hq).2.2.1
 refine ⟨r.size,r.defers,fun t s hs=>?_,fun i T cs hg=>?_,fun i hi=>⟨(r.low i hi).1,?_⟩,r.inj,r.pin,hf,r.le.trans hle,fun b c hb=>?_,r.bel.then hk (fun i hi hb=>?_),r.glob,fun j b T cs hj=>?_,fun j j' b T T' cs cs' hj hj'=>?_⟩
 ·obtain ⟨x,hx,hr⟩:=r.slot t s hs
  exact ⟨x,hx,hr.mono hle⟩
 ·have hb:=r.box i T cs hg
  exact (hk.block (β i) hb.lt (notL i (by rw [hg];rfl))).trans hb
 ·exact hn.gone (r.lt hi) (r.low i hi).2
 ·rcases hn b c hb with h1 | ⟨h1,h2⟩
  ·exact r.new.kept r.fits hk roL b c h1
  ·exact .inr ⟨by omega,h2⟩
 ·obtain ⟨q,T',cs',hq,_⟩:=inL i hb
  rcases (r.own q _ T' cs' hq).2.1 with h | h
  ·omega
  ·exact h
 ·by_cases h:j<ow.length
  ·rw [List.getElem?_append_left h] at hj
   obtain ⟨h1,h2,h3⟩:=ho j b T cs hj
   refine ⟨h1,?_,h3,fun i hi e'=>?_⟩
   ·rcases h2 with h2 | h2
    ·exact .inl (by omega)
    ·obtain ⟨q,T',cs',hq,_⟩:=inL b h2
     exact (r.own q _ T' cs' hq).2.1
   ·rcases h2 with h2 | h2
    ·have:=r.lt hi;omega
    ·exact notL i hi (e' ▸ h2)
  ·rw [List.getElem?_append_right (by omega)] at hj
   obtain ⟨h1,h2⟩:=inR _ b T cs hj
   obtain ⟨g1,g2,g3,g4⟩:=r.own _ b T cs h1
   exact ⟨(hk.block b g1.lt h2).trans g1,g2,hn.gone g1.lt g3,g4⟩
 ·have old:∀ (q b:Nat) (T:TypeId) (cs:List Value),R[q]?=some (b,T,cs)→∀ (q':Nat) (T':TypeId) (cs':List Value),ow[q']?≠some (b,T',cs'):=fun q b T cs hq q' T' cs' hq'=>by
   obtain ⟨h1,h2⟩:=inR _ b T cs hq
   rcases (ho q' b T' cs' hq').2.1 with h3 | h3
   ·have:=(r.own _ b T cs h1).1.lt;omega
   ·exact h2 h3
  by_cases h:j<ow.length
  ·rw [List.getElem?_append_left h] at hj
   by_cases h':j'<ow.length
   ·rw [List.getElem?_append_left h'] at hj'
    exact hd j j' b T T' cs cs' hj hj'
   ·rw [List.getElem?_append_right (by omega)] at hj'
    exact absurd hj (old _ b T' cs' hj' j T cs)
  ·rw [List.getElem?_append_right (by omega)] at hj
   by_cases h':j'<ow.length
   ·rw [List.getElem?_append_left h'] at hj'
    exact absurd hj' (old _ b T cs hj j' T' cs')
   ·rw [List.getElem?_append_right (by omega)] at hj'
    have:=r.one _ _ b T T' cs cs' (inR _ b T cs hj).1 (inR _ b T' cs' hj').1
    omega
theorem EVL.callW {f:FuncId} {args:Array Operand} {tys:Array TypeId} (ho:o.op=.call ⟨.value (.func f),args,tys⟩) (hw:wantB ops env o=some true) (hd:o.dst=some d) (hn:Nat.blt d n=true)
  {vs:List Value} (ha:argsK env args.toList some=some vs) (L R:Ows) (e:H.ow=L++R) {Φ:Value→Ows→Hp→Prop} (hpc:PW P f vs.toArray H.ro L Φ)
  (h:∀ v ow H',Φ v ow H'→H.ro.Le H'→EVL P n ops rest ((d,.v v)::env) bx ⟨H',ow++R,H.base⟩ Q):EVL P n ops (o::rest) env bx H Q:=fun W0 β a W r=>by
 obtain ⟨vs',hk,hm⟩:=argsK_spec env _ _ _ ha
 cases hk
 have hvs:=hm β H.ro a.eval (fun y s _ hy=>r.op hy)
 unfold wpList
 rw [if_pos (r.want hw)]
 refine .inl ?_
 unfold Oper.wp
 rw [run_call_enter hpc.can ho hvs,Oper.upon_enter]
 have up:∀ (j b:Nat) (T:TypeId) (cs:List Value),L[j]?=some (b,T,cs)→H.ow[j]?=some (b,T,cs):=fun j b T cs hj=>by
  rw [e,List.getElem?_append_left (List.getElem?_eq_some_iff.1 hj).1];exact hj
 refine (hpc.run W r.fits r.globW (fun j b T cs hj=>?_) (fun j j' b T T' cs cs' hj hj'=>r.one j j' b T T' cs cs' (up _ _ _ _ hj) (up _ _ _ _ hj'))).mono ?_
 ·obtain ⟨h1,h2,h3,_⟩:=r.own j b T cs (up _ _ _ _ hj)
  refine ⟨h1,h3,?_⟩
  rcases h2 with h2 | h2
  ·cases hg:gH b with
   | none=>rfl
   | some c=>have:=r.glob.1.lt (b:=b) (by rw [hg];simp);omega
  ·exact (r.glob.2 b h2).1
 ·rintro e' W' ⟨v,ow,H',rfl,hΦ,hle,hf,hnw,hkp,hown,hdist⟩
  rw [hd]
  exact h v ow H' hΦ hle W0 β _ W' ((r.callW e hle hf hnw hkp hown hdist).put hn rfl rfl)
end
section
variable {P:Program} {n:Nat} {ops:Array Oper} {o:Oper} {rest:List Oper} {env:Env} {bx:Bxs} {sb:Bxs} {ow:Ows} {H:Hs} {Q:EQ} {τ:Tab} {d:Nat} {s:SV}
theorem EVL.idxO (hτ:TabOk P τ) {T:TypeId} {x y:Operand} (ho:o.op=.indexAddr T x y) (hw:wantB ops env o=some true) (hd:o.dst=some d) (hn:Nat.blt d n=true) {te te':TE} {e:TypeId} (ht:τ.get T=some te) (hk:te.kind=.slice e) (ht':τ.get e=some te') (h1:te'.size=1)
  {b off m cap:Nat} (hx:env.op x=some (.v (.slice (some ⟨b,off,none⟩) m cap))) {k:IntKind} {z:Int} (hy:env.op y=some (.v (.int k z))) (j:Nat) (hz:z=j) (hj:j<m)
  (h:EVL P n ops rest ((d,.v (.pointer (some ⟨b,off+j,none⟩)))::env) bx H Q):EVL P n ops (o::rest) env bx H Q :=
 EVL.gen hw hd hn (fun ev W he=>by
  have ex:=he x _ (by simp [ho,Op.operands]) hx
  have ey:=he y _ (by simp [ho,Op.operands]) hy
  have hkd:=(hτ.get ht).kind
  rw [hk] at hkd
  have hkd':P.underlying T=some (.slice e):=hkd
  unfold execOp
  simp [ho,ex,ey,Instr.indexAt,asIntOf,run_underlying hkd',hz,(hτ.get ht').size,Addr.add_mid,hj,h1]) h
theorem ValOk.idxO {R:Hp} {F:Hp→Prop} (hτ:TabOk P τ) {T:TypeId} {x y:Operand} (ho:o.op=.indexAddr T x y) (hw:wantB ops env o=some true) {te te':TE} {e:TypeId} (ht:τ.get T=some te) (hk:te.kind=.slice e) (ht':τ.get e=some te') (h1:te'.size=1)
  {b off m cap:Nat} (hx:env.op x=some (.v (.slice (some ⟨b,off,none⟩) m cap))) {k:IntKind} {z:Int} (hy:env.op y=some (.v (.int k z))) (j:Nat) (hz:z=j) (hj:j<m) :
  ValOk P ops o env bx ow R F (fun β u G=>(SV.v (.pointer (some ⟨b,off+j,none⟩))).rep β G u):=by
 have:=ValOk.idxP (P:=P) (ops:=ops) (bx:=bx) (ow:=ow) (R:=R) (F:=F) hτ ho hw ht hk ht' hx hy j hz hj
 rwa [h1,Nat.mul_one] at this
theorem EVL.idx0 (hτ:TabOk P τ) {T:TypeId} {x y:Operand} (ho:o.op=.indexAddr T x y) (hw:wantB ops env o=some true) (hd:o.dst=some d) (hn:Nat.blt d n=true) {te te':TE} {e:TypeId} (ht:τ.get T=some te) (hk:te.kind=.slice e) (ht':τ.get e=some te') (h1:te'.size=1)
  {b m cap:Nat} (hx:env.op x=some (.v (.slice (some ⟨b,0,none⟩) m cap))) {k:IntKind} {z:Int} (hy:env.op y=some (.v (.int k z))) (j:Nat) (hz:z=j) (hj:j<m)
  (h:EVL P n ops rest ((d,.v (.pointer (some ⟨b,j,none⟩)))::env) bx H Q):EVL P n ops (o::rest) env bx H Q :=
 EVL.idxO hτ ho hw hd hn ht hk ht' h1 hx hy j hz hj (by rw [Nat.zero_add];exact h)
theorem EVL.idxR (hτ:TabOk P τ) {T:TypeId} {x y:Operand} (ho:o.op=.indexAddr T x y) (hw:wantB ops env o=some true) (hd:o.dst=some d) (hn:Nat.blt d n=true) {te te':TE} {e:TypeId} (ht:τ.get T=some te) (hk:te.kind=.slice e) (ht':τ.get e=some te') (h1:te'.size=1)
  {v:Value} (hx:env.op x=some (.v v)) {k:IntKind} {z:Int} (hy:env.op y=some (.v (.int k z))) {m:Nat} {xs:List Value} (hs:SlC H.ro v m 1 xs) (j:Nat) (hz:z=j) (hj:j<m) {c:Value} (hc:xs[j]?=some c)
  (h:EVL P n ops rest ((d,.ro [c])::env) bx H Q):EVL P n ops (o::rest) env bx H Q:=fun W0 β a W r=>by
 have ex:a.eval x=v:=r.op hx
 have ey:a.eval y=.int k z:=r.op hy
 have hkd:=(hτ.get ht).kind
 rw [hk] at hkd
 have hkd':P.underlying T=some (.slice e):=hkd
 rcases hs.2 with ⟨h0,_⟩ | ⟨b,off,cap,c',rfl,hc',hH,hcs⟩
 ·omega
 ·have hrun:(execOp a.eval o).run P W=.ok (.value (.pointer (some ⟨b,off+j,none⟩))) W:=by
   unfold execOp
   simp [ho,ex,ey,Instr.indexAt,asIntOf,run_underlying hkd',hz,(hτ.get ht').size,Addr.add_mid,hj,h1]
  unfold wpList
  rw [if_pos (r.want hw)]
  refine .inl ?_
  unfold Oper.wp
  rw [hrun,Oper.upon_value,hd]
  refine h W0 β _ W (r.put hn ⟨b,off+j,c',rfl,hH,fun q u hq=>?_⟩ rfl)
  cases q with
  | zero=>simp at hq;subst hq;exact hcs j _ hc
  | succ q=>simp at hq
theorem EVL.slc (hτ:TabOk P τ) {T:TypeId} {x:Operand} {lo hi:Option Operand} (ho:o.op=.slice T x lo hi none) (hw:wantB ops env o=some true) (hd:o.dst=some d) (hn:Nat.blt d n=true) {te te':TE} {e:TypeId} (ht:τ.get T=some te) (hk:te.kind=.slice e) (ht':τ.get e=some te')
  {a:Option Addr} {m cap:Nat} (hx:env.op x=some (.v (.slice a m cap))) (l h:Nat) (hlo:lo=none∧l=0∨∃ y k,lo=some y∧env.op y=some (.v (.int k (l:Int)))) (hhi:hi=none∧h=m∨∃ y k,hi=some y∧env.op y=some (.v (.int k (h:Int)))) (hlh:l≤h) (hhc:h≤cap) (hmc:m≤cap)
  (hk':EVL P n ops rest ((d,.v (.slice (if cap=l then a else a.map (·.add (l*te'.size))) (h-l) (cap-l)))::env) bx H Q):EVL P n ops (o::rest) env bx H Q :=
 EVL.gen hw hd hn (fun ev W he=>by
  have hkd:=(hτ.get ht).kind
  rw [hk] at hkd
  have hkd':P.underlying T=some (.slice e):=hkd
  have h1:ev x=.slice a m cap:=he x _ (by simp [ho,Op.operands]) hx
  unfold execOp
  simp only [ho,Instr.sliceAt,h1,Option.map_none]
  rcases hlo with ⟨rfl,rfl⟩ | ⟨y,k,rfl,hy⟩
  ·rcases hhi with ⟨rfl,rfl⟩ | ⟨y',k',rfl,hy'⟩
   ·simp [run_underlying hkd',Instr.slice,Instr.sliceBounds,(hτ.get ht').size]
   ·have h2:ev y'=.int k' h:=he y' _ (by simp [ho,Op.operands]) hy'
    simp [run_underlying hkd',Instr.slice,Instr.sliceBounds,Instr.sliceBound,h2,asIntOf,(hτ.get ht').size,hhc]
  ·have h3:ev y=.int k l:=he y _ (by simp [ho,Op.operands]) hy
   rcases hhi with ⟨rfl,rfl⟩ | ⟨y',k',rfl,hy'⟩
   ·simp [run_underlying hkd',Instr.slice,Instr.sliceBounds,Instr.sliceBound,h3,asIntOf,(hτ.get ht').size,hlh]
   ·have h2:ev y'=.int k' h:=he y' _ (by simp [ho,Op.operands]) hy'
    simp [run_underlying hkd',Instr.slice,Instr.sliceBounds,Instr.sliceBound,h2,h3,asIntOf,(hτ.get ht').size,hhc,hlh]) hk'
theorem EVL.quoI {T T':TypeId} {x y:Operand} {k:IntKind} {a b:Int} (ho:o.op=.binOp .quo T x y T') (hw:wantB ops env o=some true) (hd:o.dst=some d) (hn:Nat.blt d n=true) (hx:env.op x=some (.v (.int k a))) (hy:env.op y=some (.v (.int k b))) (hb:b≠0)
  (h:EVL P n ops rest ((d,.v (.int k (k.wrap (a.tdiv b))))::env) bx H Q):EVL P n ops (o::rest) env bx H Q :=
 EVL.gen hw hd hn (fun ev W he=>by
  have h1:=he x _ (by simp [ho,Op.operands]) hx
  have h2:=he y _ (by simp [ho,Op.operands]) hy
  unfold execOp
  simp [ho,h1,h2,eqGuard,binOp,Op.intDiv,hb]) h
theorem EVL.remI {T T':TypeId} {x y:Operand} {k:IntKind} {a b:Int} (ho:o.op=.binOp .rem T x y T') (hw:wantB ops env o=some true) (hd:o.dst=some d) (hn:Nat.blt d n=true) (hx:env.op x=some (.v (.int k a))) (hy:env.op y=some (.v (.int k b))) (hb:b≠0)
  (h:EVL P n ops rest ((d,.v (.int k (a.tmod b)))::env) bx H Q):EVL P n ops (o::rest) env bx H Q :=
 EVL.gen hw hd hn (fun ev W he=>by
  have h1:=he x _ (by simp [ho,Op.operands]) hx
  have h2:=he y _ (by simp [ho,Op.operands]) hy
  unfold execOp
  simp [ho,h1,h2,eqGuard,binOp,Op.intDiv,hb]) h
theorem EVL.shlI {T T':TypeId} {x y:Operand} {k k':IntKind} {a:Int} {b:Nat} (ho:o.op=.binOp .shl T x y T') (hw:wantB ops env o=some true) (hd:o.dst=some d) (hn:Nat.blt d n=true) (hx:env.op x=some (.v (.int k a))) {z:Int} (hy:env.op y=some (.v (.int k' z))) (hz:z=b) (hb:b≤k.bits)
  (h:EVL P n ops rest ((d,.v (.int k (k.wrap (a*2 ^ b))))::env) bx H Q):EVL P n ops (o::rest) env bx H Q :=
 EVL.gen hw hd hn (fun ev W he=>by
  have h1:=he x _ (by simp [ho,Op.operands]) hx
  have h2:=he y _ (by simp [ho,Op.operands]) hy
  subst hz
  unfold execOp
  simp [ho,h1,h2,eqGuard,binOp,Op.shift,Nat.min_eq_left hb,show ¬ ((b:Int)<0) by omega]) h
theorem EVL.shrI {T T':TypeId} {x y:Operand} {k k':IntKind} {a:Int} {b:Nat} (ho:o.op=.binOp .shr T x y T') (hw:wantB ops env o=some true) (hd:o.dst=some d) (hn:Nat.blt d n=true) (hx:env.op x=some (.v (.int k a))) {z:Int} (hy:env.op y=some (.v (.int k' z))) (hz:z=b) (hb:b≤k.bits)
  (h:EVL P n ops rest ((d,.v (.int k (a.fdiv (2 ^ b))))::env) bx H Q):EVL P n ops (o::rest) env bx H Q :=
 EVL.gen hw hd hn (fun ev W he=>by
  have h1:=he x _ (by simp [ho,Op.operands]) hx
  have h2:=he y _ (by simp [ho,Op.operands]) hy
  subst hz
  unfold execOp
  simp [ho,h1,h2,eqGuard,binOp,Op.shift,Nat.min_eq_left hb,show ¬ ((b:Int)<0) by omega]) h
theorem EVL.as {i:Nat} {s s':SV} (e:s=s') (h:EVL P n ops rest ((i,s')::env) bx H Q):EVL P n ops rest ((i,s)::env) bx H Q:=e ▸ h
theorem EVL.asI {i:Nat} {k:IntKind} {z:Int} (z':Int) (e:z=z') (h:EVL P n ops rest ((i,.v (.int k z'))::env) bx H Q):EVL P n ops rest ((i,.v (.int k z))::env) bx H Q:=e ▸ h
theorem EVL.setO (hτ:TabOk P τ) {T:TypeId} {x y:Operand} (ho:o.op=.store T x y) (hg:o.guard=none) (hd:o.dst=none) {te:TE} (ht:τ.get T=some te) (h1s:te.size=1) {b q:Nat} (hx:env.op x=some (.v (.pointer (some ⟨b,q,none⟩)))) {v:Value} (hy:env.op y=some (.v v))
  (pre:Ows) {post:Ows} {T':TypeId} {cs:List Value} (e:H.ow=pre++((b,T',cs)::post)) (hvs:boxL v=some [v]) (h1:oneB [v]=true) (hle:q<cs.length)
  (h:EVL P n ops rest env bx ⟨H.ro,pre++((b,T',cs.set q v)::post),H.base⟩ Q):EVL P n ops (o::rest) env bx H Q :=
 EVL.storeOwn hτ ho hg hd ht hx hy pre post e hvs (by rw [h1s];rfl) h1 (by omega) (by rw [h1s,List.set_eq_take_append_cons_drop,if_pos hle];simp) h
theorem _root_.Go.Proofs.YtbcfidllfimehaaGreatDoor.PC.pure {f:FuncId} {args:Array Value} {H:Hp} {v:Value} (h:PC P f args H fun u _=>u=v):PC P f args H fun u H'=>u=v∧H'=H :=
 ⟨h.can,fun W hf hg=>(h.run W hf hg).mono fun e W' ⟨v',H',he,hv,hle,hf',hb,hn⟩=>⟨v',H,he,⟨hv,rfl⟩,Hp.Le.refl _,hf'.mono hle,hb,Nw.refl _ _ _⟩⟩
theorem EVL.callE {f:FuncId} {args:Array Operand} {tys:Array TypeId} (ho:o.op=.call ⟨.value (.func f),args,tys⟩) (hw:wantB ops env o=some true) (hd:o.dst=some d) (hn:Nat.blt d n=true)
  {vs:List Value} (ha:argsK env args.toList some=some vs) {v:Value} (hpc:PC P f vs.toArray H.ro fun u _=>u=v)
  (h:EVL P n ops rest ((d,.v v)::env) bx H Q):EVL P n ops (o::rest) env bx H Q :=
 EVL.call ho hw hd hn ha hpc.pure (by rintro _ _ ⟨rfl,rfl⟩ _;exact h)
end
theorem tE {P:Program} {T:TypeId} {te:TE} (v:Value) (hf:te.fields=[]:=by exact rfl) (a:∀ w:World,(isAgg T).run P w=.ok te.agg w:=by intro _;kernel_rfl) (b:∀ w:World,(sizeOf T).run P w=.ok te.size w:=by intro _;kernel_rfl) (c:∀ w:World,(zeroValue T).run P w=.ok v w:=by intro _;kernel_rfl) (d:v.cells=te.zero.toArray:=by exact rfl) (k:te.kind.ok P T:=by first | exact trivial | (show _=_;kernel_rfl)) (e:(P.info? T).map (fun i=>(i.zero,i.size,i.bytes))=some (some v,te.size,te.bytes):=by kernel_rfl):TEOk P T te:=⟨a,b,⟨v,c,d⟩,by rw [hf];trivial,.inl hf,k,⟨v,e,d⟩⟩
def Tryz.te2:TE:=⟨false,1,[],[.int .i64 (0)],.int .i64,8⟩
theorem Tryz.te2_ok:TEOk Tryz.prog 2 Tryz.te2:=tE (.int .i64 (0))
def Tryz.te3:TE:=⟨false,1,[],[.int .i64 (0)],.int .i64,8⟩
theorem Tryz.te3_ok:TEOk Tryz.prog 3 Tryz.te3:=tE (.int .i64 (0))
def Tryz.te4:TE:=⟨false,1,[],[.bool false],.bool,1⟩
theorem Tryz.te4_ok:TEOk Tryz.prog 4 Tryz.te4:=tE (.bool false)
def Tryz.te5:TE:=⟨false,1,[],[.int .u8 (0)],.int .u8,1⟩
theorem Tryz.te5_ok:TEOk Tryz.prog 5 Tryz.te5:=tE (.int .u8 (0))
def Tryz.te9:TE:=⟨false,1,[],[.string ⟨#[]⟩],.str,16⟩
theorem Tryz.te9_ok:TEOk Tryz.prog 9 Tryz.te9:=tE (.string ⟨#[]⟩)
def Tryz.te17:TE:=⟨false,1,[],[.pointer none],.other,8⟩
theorem Tryz.te17_ok:TEOk Tryz.prog 17 Tryz.te17:=tE (.pointer none)
def Tryz.te19:TE:=⟨true,1,[(0,false,1)],[.pointer none],.other,8⟩
theorem Tryz.te19_ok:TEOk Tryz.prog 19 Tryz.te19:=⟨fun _=>by kernel_rfl,fun _=>by kernel_rfl,⟨.agg Tryz.te19.zero.toArray,fun _=>by kernel_rfl,rfl⟩,(by repeat (first | exact trivial | refine ⟨⟨fun _ _=>by kernel_rfl,fun _ _=>by kernel_rfl⟩,?_⟩)),.inr fun _=>by kernel_rfl,show _ from trivial,⟨.agg Tryz.te19.zero.toArray,by kernel_rfl,rfl⟩⟩
def Tryz.te20:TE:=⟨false,1,[],[.nilIface],.other,16⟩
theorem Tryz.te20_ok:TEOk Tryz.prog 20 Tryz.te20:=tE (.nilIface)
def Tryz.te21:TE:=⟨false,1,[],[.int .i32 (0)],.int .i32,4⟩
theorem Tryz.te21_ok:TEOk Tryz.prog 21 Tryz.te21:=tE (.int .i32 (0))
def Tryz.te22:TE:=⟨false,1,[],[.slice none 0 0],.slice 3,24⟩
theorem Tryz.te22_ok:TEOk Tryz.prog 22 Tryz.te22:=tE (.slice none 0 0)
def Tryz.te24:TE:=⟨true,3,[(0,false,1),(1,false,1),(2,false,1)],[.slice none 0 0,.slice none 0 0,.int .i64 (0)],.other,56⟩
theorem Tryz.te24_ok:TEOk Tryz.prog 24 Tryz.te24:=⟨fun _=>by kernel_rfl,fun _=>by kernel_rfl,⟨.agg Tryz.te24.zero.toArray,fun _=>by kernel_rfl,rfl⟩,(by repeat (first | exact trivial | refine ⟨⟨fun _ _=>by kernel_rfl,fun _ _=>by kernel_rfl⟩,?_⟩)),.inr fun _=>by kernel_rfl,show _ from trivial,⟨.agg Tryz.te24.zero.toArray,by kernel_rfl,rfl⟩⟩
def Tryz.te27:TE:=⟨false,1,[],[.slice none 0 0],.slice 64,24⟩
theorem Tryz.te27_ok:TEOk Tryz.prog 27 Tryz.te27:=tE (.slice none 0 0)
def Tryz.te28:TE:=⟨false,1,[],[.slice none 0 0],.slice 58,24⟩
theorem Tryz.te28_ok:TEOk Tryz.prog 28 Tryz.te28:=tE (.slice none 0 0)
def Tryz.te30:TE:=⟨true,2,[(0,false,1),(1,false,1)],[.slice none 0 0,.slice none 0 0],.other,48⟩
theorem Tryz.te30_ok:TEOk Tryz.prog 30 Tryz.te30:=⟨fun _=>by kernel_rfl,fun _=>by kernel_rfl,⟨.agg Tryz.te30.zero.toArray,fun _=>by kernel_rfl,rfl⟩,(by repeat (first | exact trivial | refine ⟨⟨fun _ _=>by kernel_rfl,fun _ _=>by kernel_rfl⟩,?_⟩)),.inr fun _=>by kernel_rfl,show _ from trivial,⟨.agg Tryz.te30.zero.toArray,by kernel_rfl,rfl⟩⟩
def Tryz.te32:TE:=⟨false,1,[],[.slice none 0 0],.slice 5,24⟩
theorem Tryz.te32_ok:TEOk Tryz.prog 32 Tryz.te32:=tE (.slice none 0 0)
def Tryz.te34:TE:=⟨false,1,[],[.slice none 0 0],.slice 83,24⟩
theorem Tryz.te34_ok:TEOk Tryz.prog 34 Tryz.te34:=tE (.slice none 0 0)
def Tryz.te35:TE:=⟨false,1,[],[.slice none 0 0],.slice 82,24⟩
theorem Tryz.te35_ok:TEOk Tryz.prog 35 Tryz.te35:=tE (.slice none 0 0)
def Tryz.te37:TE:=⟨true,2,[(0,false,1),(1,false,1)],[.slice none 0 0,.slice none 0 0],.other,48⟩
theorem Tryz.te37_ok:TEOk Tryz.prog 37 Tryz.te37:=⟨fun _=>by kernel_rfl,fun _=>by kernel_rfl,⟨.agg Tryz.te37.zero.toArray,fun _=>by kernel_rfl,rfl⟩,(by repeat (first | exact trivial | refine ⟨⟨fun _ _=>by kernel_rfl,fun _ _=>by kernel_rfl⟩,?_⟩)),.inr fun _=>by kernel_rfl,show _ from trivial,⟨.agg Tryz.te37.zero.toArray,by kernel_rfl,rfl⟩⟩
def Tryz.te38:TE:=⟨false,1,[],[.int .i64 (0)],.int .i64,8⟩
theorem Tryz.te38_ok:TEOk Tryz.prog 38 Tryz.te38:=tE (.int .i64 (0))
def Tryz.te40:TE:=⟨true,3,[(0,false,1),(1,false,1),(2,false,1)],[.int .i64 (0),.int .i64 (0),.int .i64 (0)],.other,24⟩
theorem Tryz.te40_ok:TEOk Tryz.prog 40 Tryz.te40:=⟨fun _=>by kernel_rfl,fun _=>by kernel_rfl,⟨.agg Tryz.te40.zero.toArray,fun _=>by kernel_rfl,rfl⟩,(by repeat (first | exact trivial | refine ⟨⟨fun _ _=>by kernel_rfl,fun _ _=>by kernel_rfl⟩,?_⟩)),.inr fun _=>by kernel_rfl,show _ from trivial,⟨.agg Tryz.te40.zero.toArray,by kernel_rfl,rfl⟩⟩
def Tryz.te44:TE:=⟨true,3,[(0,false,1),(1,false,1),(2,false,1)],[.int .i64 (0),.int .i64 (0),.int .i64 (0)],.other,24⟩
theorem Tryz.te44_ok:TEOk Tryz.prog 44 Tryz.te44:=⟨fun _=>by kernel_rfl,fun _=>by kernel_rfl,⟨.agg Tryz.te44.zero.toArray,fun _=>by kernel_rfl,rfl⟩,(by repeat (first | exact trivial | refine ⟨⟨fun _ _=>by kernel_rfl,fun _ _=>by kernel_rfl⟩,?_⟩)),.inr fun _=>by kernel_rfl,show _ from trivial,⟨.agg Tryz.te44.zero.toArray,by kernel_rfl,rfl⟩⟩
def Tryz.te58:TE:=⟨false,1,[],[.slice none 0 0],.slice 98,24⟩
theorem Tryz.te58_ok:TEOk Tryz.prog 58 Tryz.te58:=tE (.slice none 0 0)
def Tryz.te62:TE:=⟨false,1,[],[.slice none 0 0],.slice 9,24⟩
theorem Tryz.te62_ok:TEOk Tryz.prog 62 Tryz.te62:=tE (.slice none 0 0)
def Tryz.te64:TE:=⟨true,3,[(0,false,1),(1,false,1),(2,false,1)],[.string ⟨#[]⟩,.int .i64 (0),.slice none 0 0],.other,48⟩
theorem Tryz.te64_ok:TEOk Tryz.prog 64 Tryz.te64:=⟨fun _=>by kernel_rfl,fun _=>by kernel_rfl,⟨.agg Tryz.te64.zero.toArray,fun _=>by kernel_rfl,rfl⟩,(by repeat (first | exact trivial | refine ⟨⟨fun _ _=>by kernel_rfl,fun _ _=>by kernel_rfl⟩,?_⟩)),.inr fun _=>by kernel_rfl,show _ from trivial,⟨.agg Tryz.te64.zero.toArray,by kernel_rfl,rfl⟩⟩
def Tryz.te73:TE:=⟨false,1,[],[.int .u64 (0)],.int .u64,8⟩
theorem Tryz.te73_ok:TEOk Tryz.prog 73 Tryz.te73:=tE (.int .u64 (0))
def Tryz.te75:TE:=⟨true,2,[(0,false,1),(1,false,1)],[.int .u64 (0),.string ⟨#[]⟩],.other,24⟩
theorem Tryz.te75_ok:TEOk Tryz.prog 75 Tryz.te75:=⟨fun _=>by kernel_rfl,fun _=>by kernel_rfl,⟨.agg Tryz.te75.zero.toArray,fun _=>by kernel_rfl,rfl⟩,(by repeat (first | exact trivial | refine ⟨⟨fun _ _=>by kernel_rfl,fun _ _=>by kernel_rfl⟩,?_⟩)),.inr fun _=>by kernel_rfl,show _ from trivial,⟨.agg Tryz.te75.zero.toArray,by kernel_rfl,rfl⟩⟩
def Tryz.te77:TE:=⟨true,3,[(0,false,1),(1,true,2)],[.bool false,.int .u64 (0),.string ⟨#[]⟩],.other,32⟩
theorem Tryz.te77_ok:TEOk Tryz.prog 77 Tryz.te77:=⟨fun _=>by kernel_rfl,fun _=>by kernel_rfl,⟨.agg Tryz.te77.zero.toArray,fun _=>by kernel_rfl,rfl⟩,(by repeat (first | exact trivial | refine ⟨⟨fun _ _=>by kernel_rfl,fun _ _=>by kernel_rfl⟩,?_⟩)),.inr fun _=>by kernel_rfl,show _ from trivial,⟨.agg Tryz.te77.zero.toArray,by kernel_rfl,rfl⟩⟩
def Tryz.te79:TE:=⟨true,5,[(0,true,3),(3,true,2)],[.bool false,.int .u64 (0),.string ⟨#[]⟩,.int .u64 (0),.string ⟨#[]⟩],.other,56⟩
theorem Tryz.te79_ok:TEOk Tryz.prog 79 Tryz.te79:=⟨fun _=>by kernel_rfl,fun _=>by kernel_rfl,⟨.agg Tryz.te79.zero.toArray,fun _=>by kernel_rfl,rfl⟩,(by repeat (first | exact trivial | refine ⟨⟨fun _ _=>by kernel_rfl,fun _ _=>by kernel_rfl⟩,?_⟩)),.inr fun _=>by kernel_rfl,show _ from trivial,⟨.agg Tryz.te79.zero.toArray,by kernel_rfl,rfl⟩⟩
def Tryz.te81:TE:=⟨true,7,[(0,false,1),(1,true,5),(6,false,1)],[.bool false,.bool false,.int .u64 (0),.string ⟨#[]⟩,.int .u64 (0),.string ⟨#[]⟩,.int .i64 (0)],.other,72⟩
theorem Tryz.te81_ok:TEOk Tryz.prog 81 Tryz.te81:=⟨fun _=>by kernel_rfl,fun _=>by kernel_rfl,⟨.agg Tryz.te81.zero.toArray,fun _=>by kernel_rfl,rfl⟩,(by repeat (first | exact trivial | refine ⟨⟨fun _ _=>by kernel_rfl,fun _ _=>by kernel_rfl⟩,?_⟩)),.inr fun _=>by kernel_rfl,show _ from trivial,⟨.agg Tryz.te81.zero.toArray,by kernel_rfl,rfl⟩⟩
def Tryz.te82:TE:=⟨false,1,[],[.slice none 0 0],.slice 81,24⟩
theorem Tryz.te82_ok:TEOk Tryz.prog 82 Tryz.te82:=tE (.slice none 0 0)
def Tryz.te83:TE:=⟨true,3,[(0,false,1),(1,false,1),(2,false,1)],[.string ⟨#[]⟩,.int .i64 (0),.slice none 0 0],.other,48⟩
theorem Tryz.te83_ok:TEOk Tryz.prog 83 Tryz.te83:=⟨fun _=>by kernel_rfl,fun _=>by kernel_rfl,⟨.agg Tryz.te83.zero.toArray,fun _=>by kernel_rfl,rfl⟩,(by repeat (first | exact trivial | refine ⟨⟨fun _ _=>by kernel_rfl,fun _ _=>by kernel_rfl⟩,?_⟩)),.inr fun _=>by kernel_rfl,show _ from trivial,⟨.agg Tryz.te83.zero.toArray,by kernel_rfl,rfl⟩⟩
def Tryz.te90:TE:=⟨true,12,[],[.string ⟨#[]⟩,.string ⟨#[]⟩,.string ⟨#[]⟩,.string ⟨#[]⟩,.string ⟨#[]⟩,.string ⟨#[]⟩,.string ⟨#[]⟩,.string ⟨#[]⟩,.string ⟨#[]⟩,.string ⟨#[]⟩,.string ⟨#[]⟩,.string ⟨#[]⟩],.other,192⟩
theorem Tryz.te90_ok:TEOk Tryz.prog 90 Tryz.te90:=⟨fun _=>by kernel_rfl,fun _=>by kernel_rfl,⟨.agg Tryz.te90.zero.toArray,fun _=>by kernel_rfl,rfl⟩,trivial,.inl rfl,show _ from trivial,⟨.agg Tryz.te90.zero.toArray,by kernel_rfl,rfl⟩⟩
def Tryz.te92:TE:=⟨false,1,[],[.slice none 0 0],.slice 161,24⟩
theorem Tryz.te92_ok:TEOk Tryz.prog 92 Tryz.te92:=tE (.slice none 0 0)
def Tryz.te94:TE:=⟨true,2,[(0,false,1),(1,false,1)],[.bool false,.slice none 0 0],.other,32⟩
theorem Tryz.te94_ok:TEOk Tryz.prog 94 Tryz.te94:=⟨fun _=>by kernel_rfl,fun _=>by kernel_rfl,⟨.agg Tryz.te94.zero.toArray,fun _=>by kernel_rfl,rfl⟩,(by repeat (first | exact trivial | refine ⟨⟨fun _ _=>by kernel_rfl,fun _ _=>by kernel_rfl⟩,?_⟩)),.inr fun _=>by kernel_rfl,show _ from trivial,⟨.agg Tryz.te94.zero.toArray,by kernel_rfl,rfl⟩⟩
def Tryz.te96:TE:=⟨true,3,[(0,true,2),(2,false,1)],[.bool false,.slice none 0 0,.slice none 0 0],.other,56⟩
theorem Tryz.te96_ok:TEOk Tryz.prog 96 Tryz.te96:=⟨fun _=>by kernel_rfl,fun _=>by kernel_rfl,⟨.agg Tryz.te96.zero.toArray,fun _=>by kernel_rfl,rfl⟩,(by repeat (first | exact trivial | refine ⟨⟨fun _ _=>by kernel_rfl,fun _ _=>by kernel_rfl⟩,?_⟩)),.inr fun _=>by kernel_rfl,show _ from trivial,⟨.agg Tryz.te96.zero.toArray,by kernel_rfl,rfl⟩⟩
def Tryz.te98:TE:=⟨true,5,[(0,false,1),(1,true,3),(4,false,1)],[.bool false,.bool false,.slice none 0 0,.slice none 0 0,.int .i64 (0)],.other,72⟩
theorem Tryz.te98_ok:TEOk Tryz.prog 98 Tryz.te98:=⟨fun _=>by kernel_rfl,fun _=>by kernel_rfl,⟨.agg Tryz.te98.zero.toArray,fun _=>by kernel_rfl,rfl⟩,(by repeat (first | exact trivial | refine ⟨⟨fun _ _=>by kernel_rfl,fun _ _=>by kernel_rfl⟩,?_⟩)),.inr fun _=>by kernel_rfl,show _ from trivial,⟨.agg Tryz.te98.zero.toArray,by kernel_rfl,rfl⟩⟩
def Tryz.te124:TE:=⟨false,1,[],[.nilFunc],.other,8⟩
theorem Tryz.te124_ok:TEOk Tryz.prog 124 Tryz.te124:=tE (.nilFunc)
def Tryz.te125:TE:=⟨false,1,[],[.nilFunc],.other,8⟩
theorem Tryz.te125_ok:TEOk Tryz.prog 125 Tryz.te125:=tE (.nilFunc)
def Tryz.te126:TE:=⟨false,1,[],[.slice none 0 0],.slice 79,24⟩
theorem Tryz.te126_ok:TEOk Tryz.prog 126 Tryz.te126:=tE (.slice none 0 0)
def Tryz.te132:TE:=⟨false,1,[],[.slice none 0 0],.slice 96,24⟩
theorem Tryz.te132_ok:TEOk Tryz.prog 132 Tryz.te132:=tE (.slice none 0 0)
def Tryz.te137:TE:=⟨false,1,[],[.pointer none],.other,8⟩
theorem Tryz.te137_ok:TEOk Tryz.prog 137 Tryz.te137:=tE (.pointer none)
def Tryz.te139:TE:=⟨true,2,[(0,false,1),(1,false,1)],[.pointer none,.slice none 0 0],.other,32⟩
theorem Tryz.te139_ok:TEOk Tryz.prog 139 Tryz.te139:=⟨fun _=>by kernel_rfl,fun _=>by kernel_rfl,⟨.agg Tryz.te139.zero.toArray,fun _=>by kernel_rfl,rfl⟩,(by repeat (first | exact trivial | refine ⟨⟨fun _ _=>by kernel_rfl,fun _ _=>by kernel_rfl⟩,?_⟩)),.inr fun _=>by kernel_rfl,show _ from trivial,⟨.agg Tryz.te139.zero.toArray,by kernel_rfl,rfl⟩⟩
def Tryz.te141:TE:=⟨false,1,[],[.nilIface],.other,16⟩
theorem Tryz.te141_ok:TEOk Tryz.prog 141 Tryz.te141:=tE (.nilIface)
def Tryz.te154:TE:=⟨false,1,[],[.slice none 0 0],.slice 73,24⟩
theorem Tryz.te154_ok:TEOk Tryz.prog 154 Tryz.te154:=tE (.slice none 0 0)
def Tryz.te161:TE:=⟨false,1,[],[.int .u32 (0)],.int .u32,4⟩
theorem Tryz.te161_ok:TEOk Tryz.prog 161 Tryz.te161:=tE (.int .u32 (0))
def Tryz.te182:TE:=⟨false,1,[],[.nilFunc],.other,8⟩
theorem Tryz.te182_ok:TEOk Tryz.prog 182 Tryz.te182:=tE (.nilFunc)
def Tryz.te185:TE:=⟨false,1,[],[.nilFunc],.other,8⟩
theorem Tryz.te185_ok:TEOk Tryz.prog 185 Tryz.te185:=tE (.nilFunc)
def Tryz.te187:TE:=⟨false,1,[],[.nilFunc],.other,8⟩
theorem Tryz.te187_ok:TEOk Tryz.prog 187 Tryz.te187:=tE (.nilFunc)
def Tryz.te192:TE:=⟨false,1,[],[.pointer none],.other,8⟩
theorem Tryz.te192_ok:TEOk Tryz.prog 192 Tryz.te192:=tE (.pointer none)
def Tryz.te194:TE:=⟨false,1,[],[.int .u64 (0)],.int .u64,8⟩
theorem Tryz.te194_ok:TEOk Tryz.prog 194 Tryz.te194:=tE (.int .u64 (0))
def Tryz.te206:TE:=⟨true,6,[],[.int .i64 (0),.int .i64 (0),.int .i64 (0),.int .i64 (0),.int .i64 (0),.int .i64 (0)],.other,48⟩
theorem Tryz.te206_ok:TEOk Tryz.prog 206 Tryz.te206:=⟨fun _=>by kernel_rfl,fun _=>by kernel_rfl,⟨.agg Tryz.te206.zero.toArray,fun _=>by kernel_rfl,rfl⟩,trivial,.inl rfl,show _ from trivial,⟨.agg Tryz.te206.zero.toArray,by kernel_rfl,rfl⟩⟩
def Tryz.te210:TE:=⟨false,1,[],[.nilFunc],.other,8⟩
theorem Tryz.te210_ok:TEOk Tryz.prog 210 Tryz.te210:=tE (.nilFunc)
def Tryz.te237:TE:=⟨true,24,[],[.int .u8 (0),.int .u8 (0),.int .u8 (0),.int .u8 (0),.int .u8 (0),.int .u8 (0),.int .u8 (0),.int .u8 (0),.int .u8 (0),.int .u8 (0),.int .u8 (0),.int .u8 (0),.int .u8 (0),.int .u8 (0),.int .u8 (0),.int .u8 (0),.int .u8 (0),.int .u8 (0),.int .u8 (0),.int .u8 (0),.int .u8 (0),.int .u8 (0),.int .u8 (0),.int .u8 (0)],.other,24⟩
theorem Tryz.te237_ok:TEOk Tryz.prog 237 Tryz.te237:=⟨fun _=>by kernel_rfl,fun _=>by kernel_rfl,⟨.agg Tryz.te237.zero.toArray,fun _=>by kernel_rfl,rfl⟩,trivial,.inl rfl,show _ from trivial,⟨.agg Tryz.te237.zero.toArray,by kernel_rfl,rfl⟩⟩
def Tryz.te268:TE:=⟨true,20,[],[.int .u64 (0),.int .u64 (0),.int .u64 (0),.int .u64 (0),.int .u64 (0),.int .u64 (0),.int .u64 (0),.int .u64 (0),.int .u64 (0),.int .u64 (0),.int .u64 (0),.int .u64 (0),.int .u64 (0),.int .u64 (0),.int .u64 (0),.int .u64 (0),.int .u64 (0),.int .u64 (0),.int .u64 (0),.int .u64 (0)],.other,160⟩
theorem Tryz.te268_ok:TEOk Tryz.prog 268 Tryz.te268:=⟨fun _=>by kernel_rfl,fun _=>by kernel_rfl,⟨.agg Tryz.te268.zero.toArray,fun _=>by kernel_rfl,rfl⟩,trivial,.inl rfl,show _ from trivial,⟨.agg Tryz.te268.zero.toArray,by kernel_rfl,rfl⟩⟩
def Tryz.te286:TE:=⟨true,2,[(0,false,1),(1,false,1)],[.int .u8 (0),.int .u8 (0)],.other,2⟩
theorem Tryz.te286_ok:TEOk Tryz.prog 286 Tryz.te286:=⟨fun _=>by kernel_rfl,fun _=>by kernel_rfl,⟨.agg Tryz.te286.zero.toArray,fun _=>by kernel_rfl,rfl⟩,(by repeat (first | exact trivial | refine ⟨⟨fun _ _=>by kernel_rfl,fun _ _=>by kernel_rfl⟩,?_⟩)),.inr fun _=>by kernel_rfl,show _ from trivial,⟨.agg Tryz.te286.zero.toArray,by kernel_rfl,rfl⟩⟩
def Tryz.te287:TE:=⟨true,32,[],[.int .u8 (0),.int .u8 (0),.int .u8 (0),.int .u8 (0),.int .u8 (0),.int .u8 (0),.int .u8 (0),.int .u8 (0),.int .u8 (0),.int .u8 (0),.int .u8 (0),.int .u8 (0),.int .u8 (0),.int .u8 (0),.int .u8 (0),.int .u8 (0),.int .u8 (0),.int .u8 (0),.int .u8 (0),.int .u8 (0),.int .u8 (0),.int .u8 (0),.int .u8 (0),.int .u8 (0),.int .u8 (0),.int .u8 (0),.int .u8 (0),.int .u8 (0),.int .u8 (0),.int .u8 (0),.int .u8 (0),.int .u8 (0)],.other,32⟩
theorem Tryz.te287_ok:TEOk Tryz.prog 287 Tryz.te287:=⟨fun _=>by kernel_rfl,fun _=>by kernel_rfl,⟨.agg Tryz.te287.zero.toArray,fun _=>by kernel_rfl,rfl⟩,trivial,.inl rfl,show _ from trivial,⟨.agg Tryz.te287.zero.toArray,by kernel_rfl,rfl⟩⟩
def Tryz.te296:TE:=⟨false,1,[],[.pointer none],.other,8⟩
theorem Tryz.te296_ok:TEOk Tryz.prog 296 Tryz.te296:=tE (.pointer none)
def Tryz.te301:TE:=⟨true,32,[],[.int .u8 (0),.int .u8 (0),.int .u8 (0),.int .u8 (0),.int .u8 (0),.int .u8 (0),.int .u8 (0),.int .u8 (0),.int .u8 (0),.int .u8 (0),.int .u8 (0),.int .u8 (0),.int .u8 (0),.int .u8 (0),.int .u8 (0),.int .u8 (0),.int .u8 (0),.int .u8 (0),.int .u8 (0),.int .u8 (0),.int .u8 (0),.int .u8 (0),.int .u8 (0),.int .u8 (0),.int .u8 (0),.int .u8 (0),.int .u8 (0),.int .u8 (0),.int .u8 (0),.int .u8 (0),.int .u8 (0),.int .u8 (0)],.other,32⟩
theorem Tryz.te301_ok:TEOk Tryz.prog 301 Tryz.te301:=⟨fun _=>by kernel_rfl,fun _=>by kernel_rfl,⟨.agg Tryz.te301.zero.toArray,fun _=>by kernel_rfl,rfl⟩,trivial,.inl rfl,show _ from trivial,⟨.agg Tryz.te301.zero.toArray,by kernel_rfl,rfl⟩⟩
def Tryz.te322:TE:=⟨false,1,[],[.int .u8 (0)],.int .u8,1⟩
theorem Tryz.te322_ok:TEOk Tryz.prog 322 Tryz.te322:=tE (.int .u8 (0))
def Tryz.tab:Tab:=[(2,Tryz.te2),(3,Tryz.te3),(4,Tryz.te4),(5,Tryz.te5),(9,Tryz.te9),(17,Tryz.te17),(19,Tryz.te19),(20,Tryz.te20),(21,Tryz.te21),(22,Tryz.te22),(24,Tryz.te24),(27,Tryz.te27),(28,Tryz.te28),(30,Tryz.te30),(32,Tryz.te32),(34,Tryz.te34),(35,Tryz.te35),(37,Tryz.te37),(38,Tryz.te38),(40,Tryz.te40),(44,Tryz.te44),(58,Tryz.te58),(62,Tryz.te62),(64,Tryz.te64),(73,Tryz.te73),(75,Tryz.te75),(77,Tryz.te77),(79,Tryz.te79),(81,Tryz.te81),(82,Tryz.te82),(83,Tryz.te83),(90,Tryz.te90),(92,Tryz.te92),(94,Tryz.te94),(96,Tryz.te96),(98,Tryz.te98),(124,Tryz.te124),(125,Tryz.te125),(126,Tryz.te126),(132,Tryz.te132),(137,Tryz.te137),(139,Tryz.te139),(141,Tryz.te141),(154,Tryz.te154),(161,Tryz.te161),(182,Tryz.te182),(185,Tryz.te185),(187,Tryz.te187),(192,Tryz.te192),(194,Tryz.te194),(206,Tryz.te206),(210,Tryz.te210),(237,Tryz.te237),(268,Tryz.te268),(286,Tryz.te286),(287,Tryz.te287),(296,Tryz.te296),(301,Tryz.te301),(322,Tryz.te322)]
theorem Tryz.tab_ok:TabOk Tryz.prog Tryz.tab:=⟨Tryz.te2_ok,⟨Tryz.te3_ok,⟨Tryz.te4_ok,⟨Tryz.te5_ok,⟨Tryz.te9_ok,⟨Tryz.te17_ok,⟨Tryz.te19_ok,⟨Tryz.te20_ok,⟨Tryz.te21_ok,⟨Tryz.te22_ok,⟨Tryz.te24_ok,⟨Tryz.te27_ok,⟨Tryz.te28_ok,⟨Tryz.te30_ok,⟨Tryz.te32_ok,⟨Tryz.te34_ok,⟨Tryz.te35_ok,⟨Tryz.te37_ok,⟨Tryz.te38_ok,⟨Tryz.te40_ok,⟨Tryz.te44_ok,⟨Tryz.te58_ok,⟨Tryz.te62_ok,⟨Tryz.te64_ok,⟨Tryz.te73_ok,⟨Tryz.te75_ok,⟨Tryz.te77_ok,⟨Tryz.te79_ok,⟨Tryz.te81_ok,⟨Tryz.te82_ok,⟨Tryz.te83_ok,⟨Tryz.te90_ok,⟨Tryz.te92_ok,⟨Tryz.te94_ok,⟨Tryz.te96_ok,⟨Tryz.te98_ok,⟨Tryz.te124_ok,⟨Tryz.te125_ok,⟨Tryz.te126_ok,⟨Tryz.te132_ok,⟨Tryz.te137_ok,⟨Tryz.te139_ok,⟨Tryz.te141_ok,⟨Tryz.te154_ok,⟨Tryz.te161_ok,⟨Tryz.te182_ok,⟨Tryz.te185_ok,⟨Tryz.te187_ok,⟨Tryz.te192_ok,⟨Tryz.te194_ok,⟨Tryz.te206_ok,⟨Tryz.te210_ok,⟨Tryz.te237_ok,⟨Tryz.te268_ok,⟨Tryz.te286_ok,⟨Tryz.te287_ok,⟨Tryz.te296_ok,⟨Tryz.te301_ok,⟨Tryz.te322_ok,trivial⟩⟩⟩⟩⟩⟩⟩⟩⟩⟩⟩⟩⟩⟩⟩⟩⟩⟩⟩⟩⟩⟩⟩⟩⟩⟩⟩⟩⟩⟩⟩⟩⟩⟩⟩⟩⟩⟩⟩⟩⟩⟩⟩⟩⟩⟩⟩⟩⟩⟩⟩⟩⟩⟩⟩⟩⟩⟩⟩
theorem tO:TabOk Tryz.prog Tryz.tab:=Tryz.tab_ok
end Go.Proofs.YtbcfidllfimehaaGreatDoor
namespace Go.Proofs.YtbcfidllfimehaaGreatDoor
open Go.RowKit _root_.Go.Proofs.Tryz
theorem RUN {G G':Prop} (h:G') (f:G'→G:=by intro h;(first | refine thenQ.normal ?_ | refine EV.seq ?_ | refine EV.region ?_ | refine EVL.nil ?_ | refine EV.block ?_ | refine EV.condT rfl ?_ | refine EV.condF rfl ?_ | refine EV.skip ?_ | refine EV.exit ?_ | refine EV.ret ?_ | refine thenQ.exit ?_ | refine thenQ.ret ?_ | refine blockQ.hit ?_ | refine blockQ.miss rfl ?_ | refine blockQ.normal ?_ | refine blockQ.ret ?_ | refine EV.label ?_ | refine retQ.ret rfl ?_ | refine retQ.normal rfl ?_ | refine retW.ret rfl ?_ | refine retW.normal rfl ?_ | refine EVL.val tO rfl rfl rfl rfl rfl ?_ | refine EVL.store tO rfl rfl rfl rfl rfl rfl rfl rfl rfl rfl rfl ?_ | refine EVL.alloc tO rfl rfl rfl rfl rfl rfl ?_ | refine EVL.box rfl rfl rfl rfl rfl rfl rfl ?_ | refine EVL.skip rfl rfl rfl ?_);(repeat (first | refine thenQ.normal ?_ | refine EV.seq ?_ | refine EV.region ?_ | refine EVL.nil ?_ | refine EV.block ?_ | refine EV.condT rfl ?_ | refine EV.condF rfl ?_ | refine EV.skip ?_ | refine EV.exit ?_ | refine EV.ret ?_ | refine thenQ.exit ?_ | refine thenQ.ret ?_ | refine blockQ.hit ?_ | refine blockQ.miss rfl ?_ | refine blockQ.normal ?_ | refine blockQ.ret ?_ | refine EV.label ?_ | refine retQ.ret rfl ?_ | refine retQ.normal rfl ?_ | refine retW.ret rfl ?_ | refine retW.normal rfl ?_ | refine EVL.val tO rfl rfl rfl rfl rfl ?_ | refine EVL.store tO rfl rfl rfl rfl rfl rfl rfl rfl rfl rfl rfl ?_ | refine EVL.alloc tO rfl rfl rfl rfl rfl rfl ?_ | refine EVL.box rfl rfl rfl rfl rfl rfl rfl ?_ | refine EVL.skip rfl rfl rfl ?_));exact h):G:=f h
theorem RUNB {G G':Prop} (h:G') (f:G'→G:=by intro h;(first | refine thenQ.normal ?_ | refine EV.seq ?_ | refine EV.region ?_ | refine EVL.nil ?_ | refine EV.condT rfl ?_ | refine EV.condF rfl ?_ | refine EV.skip ?_ | refine EV.exit ?_ | refine EV.ret ?_ | refine thenQ.exit ?_ | refine thenQ.ret ?_ | refine blockQ.hit ?_ | refine blockQ.miss rfl ?_ | refine blockQ.normal ?_ | refine blockQ.ret ?_ | refine EV.label ?_ | refine retQ.ret rfl ?_ | refine retQ.normal rfl ?_ | refine retW.ret rfl ?_ | refine retW.normal rfl ?_ | refine EVL.val tO rfl rfl rfl rfl rfl ?_ | refine EVL.store tO rfl rfl rfl rfl rfl rfl rfl rfl rfl rfl rfl ?_ | refine EVL.alloc tO rfl rfl rfl rfl rfl rfl ?_ | refine EVL.box rfl rfl rfl rfl rfl rfl rfl ?_ | refine EVL.skip rfl rfl rfl ?_);(repeat (first | refine thenQ.normal ?_ | refine EV.seq ?_ | refine EV.region ?_ | refine EVL.nil ?_ | refine EV.condT rfl ?_ | refine EV.condF rfl ?_ | refine EV.skip ?_ | refine EV.exit ?_ | refine EV.ret ?_ | refine thenQ.exit ?_ | refine thenQ.ret ?_ | refine blockQ.hit ?_ | refine blockQ.miss rfl ?_ | refine blockQ.normal ?_ | refine blockQ.ret ?_ | refine EV.label ?_ | refine retQ.ret rfl ?_ | refine retQ.normal rfl ?_ | refine retW.ret rfl ?_ | refine retW.normal rfl ?_ | refine EVL.val tO rfl rfl rfl rfl rfl ?_ | refine EVL.store tO rfl rfl rfl rfl rfl rfl rfl rfl rfl rfl rfl ?_ | refine EVL.alloc tO rfl rfl rfl rfl rfl rfl ?_ | refine EVL.box rfl rfl rfl rfl rfl rfl rfl ?_ | refine EVL.skip rfl rfl rfl ?_));exact h):G:=f h
theorem RUNL {G G':Prop} (h:G') (f:G'→G:=by intro h;(first | refine EVL.val tO rfl rfl rfl rfl rfl ?_ | refine EVL.store tO rfl rfl rfl rfl rfl rfl rfl rfl rfl rfl rfl ?_ | refine EVL.alloc tO rfl rfl rfl rfl rfl rfl ?_ | refine EVL.box rfl rfl rfl rfl rfl rfl rfl ?_ | refine EVL.skip rfl rfl rfl ?_);(repeat (first | refine EVL.val tO rfl rfl rfl rfl rfl ?_ | refine EVL.store tO rfl rfl rfl rfl rfl rfl rfl rfl rfl rfl rfl ?_ | refine EVL.alloc tO rfl rfl rfl rfl rfl rfl ?_ | refine EVL.box rfl rfl rfl rfl rfl rfl rfl ?_ | refine EVL.skip rfl rfl rfl ?_));exact h):G:=f h
def findAl {α:Type} (d:Nat):Nat→List DK→(Nat→TypeId→List Value→Option α)→Option α
 | i,.fresh e T z::l,k=>match Nat.beq e d with
  | true=>k i T z
  | false=>findAl d (i+1) l k
 | i,_::l,k=>findAl d (i+1) l k
 | _,[],_=>none
theorem findAl_spec {α:Type} {d:Nat} {k:Nat→TypeId→List Value→Option α} {r:α}:∀ {l:List DK} {i:Nat},findAl d i l k=some r→∃ j T z,k (i+j) T z=some r∧l[j]?=some (.fresh d T z)
 | [],i,h=>by simp [findAl] at h
 | a::l,i,h=>by
  have next:findAl d (i+1) l k=some r→∃ j T z,k (i+j) T z=some r∧(a::l)[j]?=some (.fresh d T z):=fun h=>by
   obtain ⟨j,T,z,h1,h2⟩:=findAl_spec h
   exact ⟨j+1,T,z,by rw [show i+(j+1)=i+1+j by omega];exact h1,by simpa using h2⟩
  cases a with
  | fresh e T z =>
   unfold findAl at h
   split at h
   ·rename_i hb
    have:=Nat.eq_of_beq_eq_true hb
    subst this
    exact ⟨0,T,z,h,rfl⟩
   ·exact next h
  | _=>exact next (by unfold findAl at h;exact h)
theorem wrK_some:∀ {off:Nat} {vs cs:List Value},off+vs.length≤cs.length→wrK off vs cs some=some (cs.take off++vs++cs.drop (off+vs.length))
 | off,vs,cs,h=>by
  have key:∀ (off:Nat) (vs cs:List Value) (k:List Value→Option (List Value)),off+vs.length≤cs.length→wrK off vs cs k=k (cs.take off++vs++cs.drop (off+vs.length)):=by
   intro off
   induction off with
   | zero =>
    intro vs
    induction vs with
    | nil=>intro cs k _;simp [wrK]
    | cons v vs ih =>
     intro cs k h
     cases cs with
     | nil=>simp at h
     | cons c cs =>
      unfold wrK
      rw [ih cs _ (by simp at h ⊢;omega)]
      simp
   | succ off ih =>
    intro vs cs k h
    cases cs with
    | nil=>simp at h
    | cons c cs =>
     have e:wrK (off+1) vs (c::cs) k=wrK off vs cs fun r=>k (c::r):=by cases vs <;> simp [wrK]
     rw [e,ih vs cs _ (by simp at h;omega)]
     simp [Nat.add_right_comm off 1]
  exact key off vs cs some h
section
variable {P:Program} {n:Nat} {ops:Array Oper} {tail:List Oper} {sb bx:Bxs} {ow:Ows} {H:Hs} {Q:EQ} {x:Nat→Value} {y:Nat→Ows} {ow':Ows} {kl:List DK} {i:Nat} {o:Oper} {l:List Oper} {ks:List DK} {env:Env} {bx':Bxs} {Γ:Fcts} {τ:Tab} {d:Nat} {s:SV}
theorem DJ.storeA (hτ:TabOk P τ) {T:TypeId} {ad yo:Operand} (ho:o.op=.store T ad yo) (hg:o.guard=none) (hd:o.dst=none) (hx:env.op ad=some (.p d 0)) {v:Value} (hy:env.op yo=some (.v v)) {te:TE} (ht:τ.get T=some te)
  {al:Nat} {T':TypeId} {z:List Value} (hal:findAl d 0 kl (fun al T z=>some (al,T,z))=some (al,T',z)) (hlt:Nat.blt al i=true) (hwf:Region.waitsFor .any ops i al=true) {vs:List Value} (hvs:boxL v=some vs) (hl:Nat.beq vs.length te.size=true) (hz:Nat.beq z.length te.size=true) (h1:oneB vs=true)
  (h:DJ P n ops tail sb bx H Q x y kl (i+1) l ks env ((d,T',vs)::bx') Γ ow'):DJ P n ops tail sb bx H Q x y kl i (o::l) (.store al (.k vs)::ks) env bx' Γ ow':=by
 obtain ⟨j,T2,z2,e,hj⟩:=findAl_spec hal
 simp only [Option.some.injEq,Prod.mk.injEq,Nat.zero_add] at e
 obtain ⟨rfl,rfl,rfl⟩:=e
 exact DJ.store hτ ho hg hd hx hy ht j hj hlt hwf hvs hl hz h1 h
def stD (ops:Array Oper) (n:Nat) (sb bx:Bxs) (kl:List DK) (i:Nat) (env:Env) (bx':Bxs) (o:Oper):Option (DK × Env × Bxs):=match o.dst with
 | some d=>match Nat.blt d n with
  | true=>match wantB ops env o with
   | some true=>match o.op with
    | .alloc T=>match o.guard,Tryz.tab.get T,(sb++bx).get d with
     | none,some te,none=>some (.fresh d T te.zero,(d,.p d 0)::env,(d,T,te.zero)::bx')
     | _,_,_=>none
    | op=>match pval Tryz.tab env bx op with
     | some s=>match pinB (sb++bx) s with
      | true=>some (.sv s,(d,s)::env,bx')
      | false=>none
     | none=>none
   | some false=>some (.sv (.v undef),(d,.v undef)::env,bx')
   | none=>none
  | false=>none
 | none=>match o.op,o.guard with
  | .store T ad yo,none=>match env.op ad,env.op yo,Tryz.tab.get T with
   | some (.p d off),some (.v v),some te=>match boxL v with
    | some vs=>match Nat.beq vs.length te.size,oneB vs with
     | true,true=>match sb.get d with
      | some (T',z)=>wrK off vs z fun cs=>some (.setb d T' (.k cs),env,(d,T',cs)::bx')
      | none=>match off with
       | 0=>match findAl d 0 kl (fun al T z=>some (al,T,z)) with
        | some (al,T',z)=>match Nat.blt al i,Nat.beq z.length te.size with
         | true,true=>some (.store al (.k vs),env,(d,T',vs)::bx')
         | _,_=>none
        | none=>none
       | _+1=>none
     | _,_=>none
    | none=>none
   | _,_,_=>none
  | _,_=>none
def sideD (ops:Array Oper) (i:Nat):DK→Bool
 | .store al _=>Region.waitsFor .any ops i al
 | _=>true
theorem DD {k:DK} {e':Env} {b':Bxs} (h:DJ prog n ops tail sb bx H Q x y kl (i+1) l ks e' b' Γ ow') (hs:stD ops n sb bx kl i env bx' o=some (k,e',b'):=by exact rfl) (hk:sideD ops i k=true:=by kernel_rfl):DJ prog n ops tail sb bx H Q x y kl i (o::l) (k::ks) env bx' Γ ow':=by
 unfold stD at hs
 split at hs
 ·rename_i d hd
  split at hs
  ·rename_i hn
   split at hs
   ·rename_i hw
    split at hs
    ·rename_i T ho
     split at hs
     ·rename_i te hg ht hfr
      cases hs
      exact DJ.alloc tO ho hg hd hn ht hfr h
     ·cases hs
    ·split at hs
     ·rename_i s hv
      split at hs
      ·rename_i hp
       cases hs
       exact DJ.val tO hw hd hn hv hp h
      ·cases hs
     ·cases hs
   ·rename_i hw
    cases hs
    exact DJ.skip hw hd hn h
   ·cases hs
  ·cases hs
 ·rename_i hd
  split at hs
  ·rename_i T ad yo ho hg
   split at hs
   ·rename_i d off v te hx hy ht
    split at hs
    ·rename_i vs hvs
     split at hs
     ·rename_i hl h1
      split at hs
      ·rename_i T' z hz
       obtain ⟨e,hle⟩:=wrK_spec off vs z _ _ hs
       cases e
       refine DJ.setb tO ho hg hd hx hy ht hz hvs hl h1 (cs:=z.take off++vs++z.drop (off+vs.length)) ?_ h
       exact wrK_some hle
      ·split at hs
       ·split at hs
        ·rename_i al T' z hal
         split at hs
         ·rename_i hlt hzl
          cases hs
          exact DJ.storeA tO ho hg hd hx hy ht hal hlt hk hvs hl hzl h1 h
         ·cases hs
        ·cases hs
       ·cases hs
     ·cases hs
    ·cases hs
   ·cases hs
  ·cases hs
theorem DT {T:TypeId} {ad yo:Operand} {off:Nat} {v:Value} {te:TE} {T':TypeId} {z vs cs:List Value} (h:DJ prog n ops tail sb bx H Q x y kl (i+1) l ks env ((d,T',cs)::bx') Γ ow') (ho:o.op=.store T ad yo:=by exact rfl) (hg:o.guard=none:=by exact rfl) (hd:o.dst=none:=by exact rfl) (hx:env.op ad=some (.p d off):=by exact rfl) (hy:env.op yo=some (.v v):=by exact rfl) (ht:Tryz.tab.get T=some te:=by exact rfl) (hz:sb.get d=some (T',z):=by exact rfl) (hvs:boxL v=some vs:=by exact rfl) (hl:Nat.beq vs.length te.size=true:=by exact rfl) (h1:oneB vs=true:=by exact rfl) (hc:wrK off vs z some=some cs:=by exact rfl) :
 DJ prog n ops tail sb bx H Q x y kl i (o::l) (.setb d T' (.k cs)::ks) env bx' Γ ow':=DJ.setb tO ho hg hd hx hy ht hz hvs hl h1 hc h
theorem DC {f:FuncId} {args:Array Operand} {tys:Array TypeId} {vs:List Value} {v:Value} (hpc:PV P f vs.toArray v) (ho:o.op=.call ⟨.value (.func f),args,tys⟩:=by exact rfl) (hw:wantB ops env o=some true:=by exact rfl) (hd:o.dst=some d:=by exact rfl) (hn:Nat.blt d n=true:=by exact rfl)
  (ha:argsK env args.toList some=some vs:=by exact rfl) (h:DJ P n ops tail sb bx H Q x y kl (i+1) l ks ((d,.v v)::env) bx' Γ ow'):DJ P n ops tail sb bx H Q x y kl i (o::l) (.sv (.v v)::ks) env bx' Γ ow':=DJ.callV ho hw hd hn ha hpc h
end
section
variable {P:Program} {n:Nat} {ops:Array Oper} {o:Oper} {rest:List Oper} {env:Env} {bx:Bxs} {H:Hs} {Q:EQ} {d:Nat}
theorem CV {f:FuncId} {args:Array Operand} {tys:Array TypeId} {vs:List Value} {v:Value} (hpc:PV P f vs.toArray v) (h:EVL P n ops rest ((d,.v v)::env) bx H Q) (ho:o.op=.call ⟨.value (.func f),args,tys⟩:=by exact rfl) (hw:wantB ops env o=some true:=by exact rfl) (hd:o.dst=some d:=by exact rfl) (hn:Nat.blt d n=true:=by exact rfl)
  (ha:argsK env args.toList some=some vs:=by exact rfl):EVL P n ops (o::rest) env bx H Q:=EVL.callV ho hw hd hn ha hpc h
theorem CE {f:FuncId} {args:Array Operand} {tys:Array TypeId} {vs:List Value} {v:Value} (hpc:PC P f vs.toArray H.ro fun u _=>u=v) (h:EVL P n ops rest ((d,.v v)::env) bx H Q) (ho:o.op=.call ⟨.value (.func f),args,tys⟩:=by exact rfl) (hw:wantB ops env o=some true:=by exact rfl) (hd:o.dst=some d:=by exact rfl) (hn:Nat.blt d n=true:=by exact rfl)
  (ha:argsK env args.toList some=some vs:=by exact rfl):EVL P n ops (o::rest) env bx H Q:=EVL.callE ho hw hd hn ha hpc h
end
theorem BD {f:FuncId} {fn:Func} {c:Code} {n:Nat} {rs:List ResultVar} {args:List Value} {H:Hp} {Φ:Value→Hp→Prop} (hf:Tryz.prog.funcs[f]?=some fn) (hn:fn.ntmps=n) (h:EV prog n c (argEnv 0 args) [] ⟨H,[],⟨H,[]⟩⟩ (retQ Tryz.tab rs Φ)) (hb:fn.body=some c:=by exact rfl) (hw:(fn.name == "runtime.NumGoroutine")=false:=by kernel_rfl) (hrs:fn.results.toList=rs:=by exact rfl) (hl:Nat.ble args.length n=true:=by exact rfl):PC prog f args.toArray H Φ:=PC.body tO hf hb hw hn hrs hl h
theorem cO {P:Program} {f:FuncId} {fn:Func} {c:Code} (hf:P.funcs[f]?=some fn) (hb:fn.body=some c:=by exact rfl) (hn:(fn.name == "runtime.NumGoroutine")=false:=by kernel_rfl):Callable P f:=cOf hf hb hn
theorem nN:(type_of% @decide_eq_true_eq)∧(type_of% @decide_eq_false_iff_not)∧(type_of% @Int.not_lt)∧(type_of% @Int.not_le)∧(type_of% @beq_iff_eq.{0})∧(type_of% @beq_eq_false_iff_ne.{0})∧(type_of% @bne_iff_ne.{0})∧(type_of% @bne_eq_false_iff_eq.{0})∧(type_of% @ne_eq.{1})∧(type_of% @Int.ofNat_lt)∧(type_of% @Int.ofNat_le)∧(type_of% @Int.natCast_inj)∧(type_of% @ge_iff_le.{0})∧(type_of% @gt_iff_lt.{0})∧(type_of% @Decidable.not_not)∧(type_of% @Bool.not_eq_true')∧(type_of% @Bool.not_eq_false')∧(type_of% @Bool.not_eq_eq_eq_not)∧(type_of% Bool.not_true)∧(type_of% Bool.not_false):=⟨@decide_eq_true_eq,@decide_eq_false_iff_not,@Int.not_lt,@Int.not_le,@beq_iff_eq,@beq_eq_false_iff_ne,@bne_iff_ne,@bne_eq_false_iff_eq,@ne_eq,@Int.ofNat_lt,@Int.ofNat_le,@Int.natCast_inj,@ge_iff_le,@gt_iff_lt,@Decidable.not_not,@Bool.not_eq_true',@Bool.not_eq_false',@Bool.not_eq_eq_eq_not,Bool.not_true,Bool.not_false⟩
theorem sB {p:Prop} (h:p:=by repeat (first | exact trivial | refine And.intro rfl ?_)):p:=h
theorem kR {p:Prop} (h:p:=by kernel_rfl):p:=h
theorem oM {p:Prop} (h:p:=by omega):p:=h
end Go.Proofs.YtbcfidllfimehaaGreatDoor
namespace Go.Proofs.YtbcfidllfimehaaGreatDoor
def val (B:Nat):List Nat→Nat
 | []=>0
 | x::l=>x+B*val B l
theorem val_nil (B:Nat):val B []=0:=rfl
theorem val_cons (B x:Nat) (l:List Nat):val B (x::l)=x+B*val B l:=rfl
theorem val_append (B:Nat) (l m:List Nat):val B (l++m)=val B l+B ^ l.length*val B m:=by
 induction l with
 | nil=>simp [val]
 | cons x l ih=>simp only [List.cons_append,val_cons,ih,List.length_cons,Nat.pow_succ];grind
theorem val_snoc (B:Nat) (l:List Nat) (x:Nat):val B (l++[x])=val B l+x*B ^ l.length:=by
 rw [val_append,val_cons,val_nil];grind
theorem val_zeros (B n:Nat):val B (List.replicate n 0)=0:=by
 induction n with
 | zero=>rfl
 | succ n ih=>rw [List.replicate_succ,val_cons,ih];simp
def Dig (B:Nat) (l:List Nat):Prop:=∀ x∈l,x<B
theorem Dig.nil (B:Nat):Dig B []:=by intro x h;cases h
theorem Dig.cons {B x:Nat} {l:List Nat} (hx:x<B) (h:Dig B l):Dig B (x::l):=by
 intro y hy;rcases List.mem_cons.1 hy with rfl | hy
 ·exact hx
 ·exact h y hy
theorem Dig.append {B:Nat} {l m:List Nat} (h:Dig B l) (k:Dig B m):Dig B (l++m):=by
 intro y hy;rcases List.mem_append.1 hy with hy | hy
 ·exact h y hy
 ·exact k y hy
theorem Dig.snoc {B x:Nat} {l:List Nat} (h:Dig B l) (hx:x<B):Dig B (l++[x]):=h.append (Dig.cons hx (Dig.nil B))
theorem Dig.take {B:Nat} {l:List Nat} (h:Dig B l) (n:Nat):Dig B (l.take n):=fun x hx=>h x (List.mem_of_mem_take hx)
theorem Dig.drop {B:Nat} {l:List Nat} (h:Dig B l) (n:Nat):Dig B (l.drop n):=fun x hx=>h x (List.mem_of_mem_drop hx)
theorem Dig.zeros {B:Nat} (hB:0<B) (n:Nat):Dig B (List.replicate n 0):=by
 intro x hx;rw [List.mem_replicate] at hx;omega
theorem Dig.set {B:Nat} {l:List Nat} (h:Dig B l) (j v:Nat) (hv:v<B):Dig B (l.set j v):=by
 intro x hx
 rcases List.mem_or_eq_of_mem_set hx with hx | rfl
 ·exact h x hx
 ·exact hv
theorem Dig.get {B:Nat} {l:List Nat} (h:Dig B l) (j:Nat) (hj:j<l.length):l[j]<B:=h _ (List.getElem_mem hj)
theorem Dig.getD {B:Nat} {l:List Nat} (h:Dig B l) (hB:0<B) (j:Nat):l.getD j 0<B:=by
 rw [List.getD_eq_getElem?_getD]
 cases e:l[j]? with
 | none=>simpa using hB
 | some x=>exact h x (List.mem_of_getElem? e)
theorem val_lt {B:Nat} {l:List Nat} (h:Dig B l):val B l<B ^ l.length:=by
 induction l with
 | nil=>simp [val]
 | cons x l ih =>
  have h1:=ih (fun y hy=>h y (List.mem_cons_of_mem _ hy))
  have h2:=h x (List.mem_cons_self ..)
  rw [val_cons,List.length_cons,Nat.pow_succ]
  have h3:val B l+1≤B ^ l.length:=h1
  have h4:=Nat.mul_le_mul_left B h3
  rw [Nat.mul_comm (B ^ l.length) B]
  rw [Nat.mul_add] at h4
  omega
theorem val_take_succ (B:Nat) (l:List Nat) (i:Nat):val B (l.take (i+1))=val B (l.take i)+l.getD i 0*B ^ i:=by
 by_cases h:i<l.length
 ·rw [List.take_succ_eq_append_getElem h,val_snoc,List.length_take,Nat.min_eq_left oM,List.getD_eq_getElem?_getD,List.getElem?_eq_getElem h];rfl
 ·rw [List.take_of_length_le oM,List.take_of_length_le oM,List.getD_eq_getElem?_getD,List.getElem?_eq_none (by omega)];simp
theorem val_drop (B:Nat) (l:List Nat) (i:Nat):val B (l.drop i)=l.getD i 0+B*val B (l.drop (i+1)):=by
 by_cases h:i<l.length
 ·rw [List.drop_eq_getElem_cons h,val_cons,List.getD_eq_getElem?_getD,List.getElem?_eq_getElem h];rfl
 ·rw [List.drop_of_length_le oM,List.drop_of_length_le oM,List.getD_eq_getElem?_getD,List.getElem?_eq_none (by omega)];simp [val]
theorem val_split (B:Nat) (l:List Nat) (i:Nat) (h:i≤l.length):val B l=val B (l.take i)+B ^ i*val B (l.drop i):=by
 have:=val_append B (l.take i) (l.drop i)
 rw [List.take_append_drop,List.length_take,Nat.min_eq_left h] at this
 exact this
theorem val_set (B:Nat) (l:List Nat) (j v:Nat) (h:j<l.length):val B (l.set j v)+l.getD j 0*B ^ j=val B l+v*B ^ j:=by
 have e1:(l.set j v).take j=l.take j:=by rw [List.take_set,List.set_eq_of_length_le (by simp;omega)]
 have e2:(l.set j v).drop (j+1)=l.drop (j+1):=by rw [List.drop_set_of_lt (by omega)]
 rw [val_split B (l.set j v) j (by simp;omega),val_split B l j oM,e1,val_drop B (l.set j v) j,val_drop B l j,e2]
 rw [show (l.set j v).getD j 0=v by simp [List.getD_eq_getElem?_getD,h]]
 grind
def trimL:List Nat→List Nat
 | []=>[]
 | x::l=>if x=0∧trimL l=[] then [] else x::trimL l
def Norm (B:Nat) (l:List Nat):Prop:=Dig B l∧∀ x,l.getLast?=some x→x≠0
theorem Norm.nil (B:Nat):Norm B []:=⟨Dig.nil B,by simp⟩
theorem norm_val_pos {B:Nat} (_hB:0<B) {l:List Nat} (h:Norm B l) (hl:l≠[]):B ^ (l.length-1)≤val B l:=by
 have hd:=List.dropLast_concat_getLast hl
 have hz:=h.2 (l.getLast hl) (List.getLast?_eq_some_getLast hl)
 have:=val_snoc B l.dropLast (l.getLast hl)
 rw [hd,List.length_dropLast] at this
 rw [this]
 have:1*B ^ (l.length-1)≤l.getLast hl*B ^ (l.length-1):=Nat.mul_le_mul_right _ oM
 omega
theorem norm_zero {B:Nat} (hB:0<B) {l:List Nat} (h:Norm B l) (hv:val B l=0):l=[]:=by
 apply Classical.byContradiction
 intro hl
 have h1:=norm_val_pos hB h hl
 have h2:0<B ^ (l.length-1):=Nat.pow_pos hB
 omega
theorem Norm.tail {B x:Nat} {l:List Nat} (h:Norm B (x::l)):Norm B l:=by
 refine ⟨fun y hy=>h.1 y (List.mem_cons_of_mem _ hy),fun y hy=>h.2 y ?_⟩
 cases l with
 | nil=>simp at hy
 | cons z l=>rw [List.getLast?_cons_cons];exact hy
theorem norm_eq {B:Nat} (hB:0<B):∀ {l m:List Nat},Norm B l→Norm B m→val B l=val B m→l=m
 | [],m,_,hm,e=>(norm_zero hB hm (by rw [← e];rfl)).symm
 | x::l,[],hl,_,e=>norm_zero hB hl (by rw [e];rfl)
 | x::l,y::m,hl,hm,e=>by
  have hx:=hl.1 x (List.mem_cons_self ..)
  have hy:=hm.1 y (List.mem_cons_self ..)
  rw [val_cons,val_cons] at e
  have e1:x=y:=by
   have h1:(x+B*val B l) % B=x:=by rw [Nat.add_mul_mod_self_left,Nat.mod_eq_of_lt hx]
   have h2:(y+B*val B m) % B=y:=by rw [Nat.add_mul_mod_self_left,Nat.mod_eq_of_lt hy]
   rw [← h1,← h2,e]
  subst e1
  have e2:val B l=val B m:=Nat.eq_of_mul_eq_mul_left hB oM
  rw [norm_eq hB hl.tail hm.tail e2]
theorem trimL_val (B:Nat) (l:List Nat):val B (trimL l)=val B l:=by
 induction l with
 | nil=>rfl
 | cons x l ih =>
  unfold trimL
  by_cases h:x=0∧trimL l=[]
  ·rw [if_pos h,val_cons,← ih,h.2,h.1];simp [val]
  ·rw [if_neg h,val_cons,val_cons,ih]
theorem trimL_mem (l:List Nat):∀ x∈trimL l,x∈l:=by
 induction l with
 | nil=>intro x h;exact h
 | cons y l ih =>
  intro x hx
  unfold trimL at hx
  by_cases h:y=0∧trimL l=[]
  ·rw [if_pos h] at hx;cases hx
  ·rw [if_neg h] at hx
   rcases List.mem_cons.1 hx with rfl | hx
   ·exact List.mem_cons_self ..
   ·exact List.mem_cons_of_mem _ (ih x hx)
theorem trimL_norm {B:Nat} {l:List Nat} (h:Dig B l):Norm B (trimL l):=by
 refine ⟨fun x hx=>h x (trimL_mem l x hx),?_⟩
 clear h
 induction l with
 | nil=>simp [trimL]
 | cons y l ih =>
  intro x hx
  unfold trimL at hx
  by_cases h:y=0∧trimL l=[]
  ·rw [if_pos h] at hx;simp at hx
  ·rw [if_neg h] at hx
   cases e:trimL l with
   | nil =>
    rw [e] at hx
    simp at hx
    subst hx
    intro h0;exact h ⟨h0,e⟩
   | cons z m =>
    rw [e,List.getLast?_cons_cons,← e] at hx
    exact ih x hx
theorem trimL_snoc_zero (l:List Nat):trimL (l++[0])=trimL l:=by
 induction l with
 | nil=>simp [trimL]
 | cons x l ih=>rw [List.cons_append];unfold trimL;rw [ih]
theorem trimL_snoc_ne (l:List Nat) (x:Nat) (h:x≠0):trimL (l++[x])=l++[x]:=by
 induction l with
 | nil=>simp [trimL,h]
 | cons y l ih=>rw [List.cons_append];unfold trimL;rw [ih,if_neg (by simp)]
theorem trimL_length_le (l:List Nat):(trimL l).length≤l.length:=by
 induction l with
 | nil=>simp [trimL]
 | cons y l ih=>unfold trimL;split <;> simp;exact ih
theorem trimL_take (l:List Nat):l.take (trimL l).length=trimL l:=by
 induction l with
 | nil=>simp [trimL]
 | cons y l ih =>
  unfold trimL
  split
  ·simp
  ·simp [ih]
def dig (B n:Nat):List Nat:=if _h:2≤B∧n≠0 then (n % B)::dig B (n / B) else []
termination_by n
decreasing_by exact Nat.div_lt_self oM oM
theorem dig_zero (B:Nat):dig B 0=[]:=by unfold dig;simp
theorem dig_pos {B n:Nat} (hB:2≤B) (hn:n≠0):dig B n=(n % B)::dig B (n / B):=by rw [dig,dif_pos ⟨hB,hn⟩]
theorem dig_val {B:Nat} (hB:2≤B) (n:Nat):val B (dig B n)=n:=by
 induction n using Nat.strongRecOn with
 | ind n ih =>
  by_cases h:n=0
  ·rw [h,dig_zero];rfl
  ·rw [dig_pos hB h,val_cons,ih (n / B) (Nat.div_lt_self oM oM)]
   exact Nat.mod_add_div n B
theorem dig_norm {B:Nat} (hB:2≤B) (n:Nat):Norm B (dig B n):=by
 induction n using Nat.strongRecOn with
 | ind n ih =>
  by_cases h:n=0
  ·rw [h,dig_zero];exact Norm.nil B
  ·have hi:=ih (n / B) (Nat.div_lt_self oM oM)
   rw [dig_pos hB h]
   refine ⟨Dig.cons (Nat.mod_lt _ oM) hi.1,fun x hx=>?_⟩
   by_cases h2:n / B=0
   ·rw [h2,dig_zero] at hx
    simp at hx
    have:=Nat.mod_add_div n B
    rw [h2] at this
    omega
   ·rw [dig_pos hB h2,List.getLast?_cons_cons,← dig_pos hB h2] at hx
    exact hi.2 x hx
theorem dig_of {B:Nat} (hB:2≤B) {l:List Nat} (h:Norm B l):dig B (val B l)=l:=norm_eq oM (dig_norm hB _) h (dig_val hB _)
theorem dig_trim {B:Nat} (hB:2≤B) {l:List Nat} (h:Dig B l):trimL l=dig B (val B l):=by
 have:=dig_of hB (trimL_norm h);rw [trimL_val] at this;exact this.symm
theorem dig_lt {B:Nat} (hB:2≤B) (n:Nat):n<B ^ (dig B n).length:=by
 have:=val_lt (dig_norm hB n).1;rwa [dig_val hB] at this
theorem dig_le {B:Nat} (hB:2≤B) (n:Nat) (hn:n≠0):B ^ ((dig B n).length-1)≤n:=by
 have:=norm_val_pos oM (dig_norm hB n) (by rw [dig_pos hB hn];simp);rwa [dig_val hB] at this
theorem dig_len_le {B:Nat} (hB:2≤B) (n k:Nat) (h:n<B ^ k):(dig B n).length≤k:=by
 by_cases hn:n=0
 ·rw [hn,dig_zero];simp
 ·have:=dig_le hB n hn
  have h2:B ^ ((dig B n).length-1)<B ^ k:=by omega
  have:=(Nat.pow_lt_pow_iff_right (by omega:1<B)).1 h2
  omega
theorem dig_len_mono {B:Nat} (hB:2≤B) {a b:Nat} (h:a≤b):(dig B a).length≤(dig B b).length :=
 dig_len_le hB a _ (Nat.lt_of_le_of_lt h (dig_lt hB b))
theorem dig_len_zero {B:Nat} (hB:2≤B) {n:Nat} (h:(dig B n).length=0):n=0:=by
 have:=dig_lt hB n;rw [h] at this;simp at this;exact this
theorem dig_ne_nil {B:Nat} (hB:2≤B) {n:Nat} (h:n≠0):dig B n≠[]:=by rw [dig_pos hB h];simp
end Go.Proofs.YtbcfidllfimehaaGreatDoor
namespace Go.Proofs.YtbcfidllfimehaaGreatDoor
def bl (n:Nat):Nat:=(dig 2 n).length
theorem bl_zero:bl 0=0:=by simp [bl,dig_zero]
theorem lt_bl (n:Nat):n<2 ^ bl n:=dig_lt (Nat.le_refl _) n
theorem bl_le {n k:Nat} (h:n<2 ^ k):bl n≤k:=dig_len_le (Nat.le_refl _) n k h
theorem le_bl {n:Nat} (h:n≠0):2 ^ (bl n-1)≤n:=dig_le (Nat.le_refl _) n h
theorem bl_pos {n:Nat} (h:n≠0):0<bl n:=by
 rcases Nat.eq_zero_or_pos (bl n) with h0 | h0
 ·exact absurd (dig_len_zero (Nat.le_refl _) h0) h
 ·exact h0
theorem bl_eq_zero {n:Nat}:bl n=0↔n=0:=⟨fun h=>dig_len_zero (Nat.le_refl _) h,fun h=>by rw [h];exact bl_zero⟩
theorem bl_mono {a b:Nat} (h:a≤b):bl a≤bl b:=dig_len_mono (Nat.le_refl _) h
theorem bl_add (a b:Nat):bl (a+b)≤max (bl a) (bl b)+1:=by
 apply bl_le
 have h1:=lt_bl a
 have h2:=lt_bl b
 have h3:2 ^ bl a≤2 ^ max (bl a) (bl b):=Nat.pow_le_pow_right oM (Nat.le_max_left ..)
 have h4:2 ^ bl b≤2 ^ max (bl a) (bl b):=Nat.pow_le_pow_right oM (Nat.le_max_right ..)
 rw [Nat.pow_succ];omega
theorem bl_mul (a b:Nat):bl (a*b)≤bl a+bl b:=by
 apply bl_le
 rw [Nat.pow_add]
 exact Nat.mul_lt_mul_of_lt_of_lt (lt_bl a) (lt_bl b)
theorem bl_div (a b:Nat):bl (a / b)≤bl a:=bl_mono (Nat.div_le_self a b)
theorem bl_mod (a b:Nat):bl (a % b)≤bl a:=bl_mono (Nat.mod_le a b)
theorem bl_gcd_left (a b:Nat) (h:a≠0):bl (Nat.gcd a b)≤bl a:=bl_mono (Nat.gcd_le_left b oM)
theorem bl_gcd_right (a b:Nat) (h:b≠0):bl (Nat.gcd a b)≤bl b:=bl_mono (Nat.gcd_le_right a oM)
theorem bl_pow2 (k:Nat):bl (2 ^ k)=k+1:=by
 have h1:=bl_le (n:=2 ^ k) (k:=k+1) (Nat.pow_lt_pow_right oM oM)
 have h2:=lt_bl (2 ^ k)
 have:=(Nat.pow_lt_pow_iff_right (by omega:1<2)).1 h2
 omega
theorem bl_lt_iff {n k:Nat}:bl n≤k↔n<2 ^ k:=⟨fun h=>Nat.lt_of_lt_of_le (lt_bl n) (Nat.pow_le_pow_right oM h),bl_le⟩
theorem dig_len_bits (k n:Nat) (hk:1≤k):(dig (2 ^ k) n).length=(bl n+k-1) / k:=by
 have hB:2≤2 ^ k:=by have:=Nat.pow_le_pow_right (n:=2) oM hk;simpa using this
 by_cases h:n=0
 ·rw [h,dig_zero,bl_zero,Nat.div_eq_of_lt (by omega)];rfl
 ·have h1:=dig_lt hB n
  have h2:=dig_le hB n h
  rw [← Nat.pow_mul] at h1 h2
  have h3:=bl_le h1
  have h4:=lt_bl n
  have h5:2 ^ (k*((dig (2 ^ k) n).length-1))<2 ^ bl n:=by omega
  have h6:=(Nat.pow_lt_pow_iff_right (by omega:1<2)).1 h5
  have h7:(dig (2 ^ k) n).length≠0:=fun e=>h (dig_len_zero hB e)
  generalize (dig (2 ^ k) n).length=L at *
  obtain ⟨m,rfl⟩:∃ m,L=m+1:=⟨L-1,by omega⟩
  rw [Nat.add_sub_cancel] at h6
  rw [Nat.mul_add,Nat.mul_one] at h3
  have e:bl n+k-1=k*(m+1)+(bl n-1-k*m):=by rw [Nat.mul_add,Nat.mul_one];omega
  rw [e,Nat.mul_add_div oM,Nat.div_eq_of_lt (by omega)]
end Go.Proofs.YtbcfidllfimehaaGreatDoor
namespace Go.Proofs.YtbcfidllfimehaaGreatDoor
theorem or_low {p a b:Nat} (h:b<2 ^ p):b ||| 2 ^ p*a=b+2 ^ p*a:=by
 rw [Nat.or_comm,← Nat.two_pow_add_eq_or_of_lt h a,Nat.add_comm]
theorem shl_parts (k p x:Nat) (hp:p≤k):x*2 ^ p % 2 ^ k=2 ^ p*(x % 2 ^ (k-p))∧x*2 ^ p / 2 ^ k=x / 2 ^ (k-p):=by
 have e:2 ^ k=2 ^ p*2 ^ (k-p):=by rw [← Nat.pow_add];congr 1;omega
 rw [e,Nat.mul_comm x]
 exact ⟨Nat.mul_mod_mul_left ..,Nat.mul_div_mul_left _ _ (Nat.pow_pos oM)⟩
theorem shl_sum (k p x:Nat) (hp:p≤k):x*2 ^ p % 2 ^ k+x / 2 ^ (k-p)*2 ^ k=x*2 ^ p:=by
 rw [← (shl_parts k p x hp).2,Nat.mul_comm (x*2 ^ p / 2 ^ k)]
 exact Nat.mod_add_div _ _
theorem shr_lt (k p x:Nat) (hp:p≤k) (hx:x<2 ^ k):x / 2 ^ (k-p)<2 ^ p:=by
 apply Nat.div_lt_of_lt_mul
 rw [← Nat.pow_add,show k-p+p=k by omega];exact hx
theorem shl_or (k p x c:Nat) (hp:p≤k) (hc:c<2 ^ p):c ||| (x*2 ^ p % 2 ^ k)=c+x*2 ^ p % 2 ^ k∧c+x*2 ^ p % 2 ^ k<2 ^ k:=by
 rw [(shl_parts k p x hp).1]
 refine ⟨or_low hc,?_⟩
 have h1:x % 2 ^ (k-p)+1≤2 ^ (k-p):=Nat.mod_lt _ (Nat.pow_pos oM)
 have h2:=Nat.mul_le_mul_left (2 ^ p) h1
 rw [← Nat.pow_add,show p+(k-p)=k by omega,Nat.mul_add] at h2
 omega
theorem val_digit {B:Nat} (hB:0<B) {l:List Nat} (h:Dig B l) (i:Nat):val B l / B ^ i % B=l.getD i 0:=by
 by_cases hi:i≤l.length
 ·have h1:=val_lt (h.take i)
  rw [List.length_take,Nat.min_eq_left hi] at h1
  rw [val_split B l i hi,Nat.add_mul_div_left _ _ (Nat.pow_pos hB),Nat.div_eq_of_lt h1,Nat.zero_add,val_drop,Nat.add_mul_mod_self_left,Nat.mod_eq_of_lt (h.getD hB i)]
 ·have h1:=val_lt h
  have h2:val B l<B ^ i:=Nat.lt_of_lt_of_le h1 (Nat.pow_le_pow_right hB oM)
  rw [Nat.div_eq_of_lt h2,Nat.zero_mod,List.getD_eq_getElem?_getD,List.getElem?_eq_none (by omega)];rfl
theorem val_subdigit {C k:Nat} (hC:0<C) (hk:0<k) {l:List Nat} (h:Dig (C ^ k) l) (i:Nat):l.getD (i / k) 0 / C ^ (i % k) % C=val (C ^ k) l / C ^ i % C:=by
 have e:C ^ i=(C ^ k) ^ (i / k)*C ^ (i % k):=by rw [← Nat.pow_mul,← Nat.pow_add,Nat.div_add_mod]
 rw [e,← Nat.div_div_eq_div_mul,← val_digit (Nat.pow_pos hC) h (i / k)]
 have hm:C ^ k=C ^ (i % k)*C*C ^ (k-i % k-1):=by
  have:=Nat.mod_lt i hk
  rw [← Nat.pow_succ,← Nat.pow_add];congr 1;omega
 generalize val (C ^ k) l / (C ^ k) ^ (i / k)=v
 rw [hm,Nat.mul_assoc,Nat.mod_mul_right_div_self,Nat.mod_mul_right_mod]
theorem dig_getD {B:Nat} (hB:2≤B) (n i:Nat):(dig B n).getD i 0=n / B ^ i % B:=by
 rw [← val_digit oM (dig_norm hB n).1,dig_val hB]
def digN (B n k:Nat):List Nat:=(List.range k).map fun i=>n / B ^ i % B
theorem digN_length (B n k:Nat):(digN B n k).length=k:=by simp [digN]
theorem digN_dig {B:Nat} (hB:0<B) (n k:Nat):Dig B (digN B n k):=by
 intro x hx
 simp only [digN,List.mem_map] at hx
 obtain ⟨i,_,rfl⟩:=hx
 exact Nat.mod_lt _ hB
theorem digN_succ (B n k:Nat):digN B n (k+1)=digN B n k++[n / B ^ k % B]:=by simp [digN,List.range_succ]
theorem digN_val {B:Nat} (n k:Nat):val B (digN B n k)=n % B ^ k:=by
 induction k with
 | zero=>simp [digN,val,Nat.mod_one]
 | succ k ih =>
  rw [digN_succ,val_snoc,ih,digN_length,Nat.pow_succ,Nat.mod_mul,Nat.mul_comm (B ^ k)]
end Go.Proofs.YtbcfidllfimehaaGreatDoor
namespace Go.Proofs.YtbcfidllfimehaaGreatDoor
def W64:Nat:=18446744073709551616
theorem W64_pow:W64=2 ^ 64:=by decide
theorem W64_256:W64=256 ^ 8:=by decide
theorem W64_two:2≤W64:=by decide
theorem W64_val:W64=18446744073709551616:=rfl
def bytes8 (l:List Nat):List Nat:=l.flatMap fun x=>digN 256 x 8
theorem bytes8_nil:bytes8 []=[]:=rfl
theorem bytes8_cons (x:Nat) (l:List Nat):bytes8 (x::l)=digN 256 x 8++bytes8 l:=rfl
theorem bytes8_append (l m:List Nat):bytes8 (l++m)=bytes8 l++bytes8 m:=by simp [bytes8]
theorem bytes8_length (l:List Nat):(bytes8 l).length=8*l.length:=by
 induction l with
 | nil=>rfl
 | cons x l ih=>rw [bytes8_cons,List.length_append,digN_length,ih,List.length_cons];omega
theorem bytes8_dig (l:List Nat):Dig 256 (bytes8 l):=by
 intro x hx
 simp only [bytes8,List.mem_flatMap] at hx
 obtain ⟨y,_,h⟩:=hx
 exact digN_dig oM y 8 x h
theorem bytes8_drop (l:List Nat) (k:Nat):(bytes8 l).drop (8*k)=bytes8 (l.drop k):=by
 induction k generalizing l with
 | zero=>rfl
 | succ k ih =>
  cases l with
  | nil=>simp [bytes8]
  | cons x l =>
   rw [bytes8_cons,List.drop_succ_cons,← ih,show 8*(k+1)=(digN 256 x 8).length+8*k by rw [digN_length];omega]
   rw [List.drop_length_add_append]
theorem bytes8_word (l:List Nat) (h:Dig W64 l) (k:Nat) (hk:k<l.length):val 256 (((bytes8 l).drop (8*k)).take 8)=l[k]:=by
 rw [bytes8_drop,List.drop_eq_getElem_cons hk,bytes8_cons,List.take_append_of_le_length (by rw [digN_length];omega),List.take_of_length_le (by rw [digN_length];omega),digN_val,← W64_256]
 exact Nat.mod_eq_of_lt (h.get k hk)
def hiW (n:Nat):List Nat:=dig W64 (n / W64)
def lo (n:Nat):Nat:=n % W64
def toB (l:List Nat):ByteArray:=⟨(l.map UInt8.ofNat).toArray⟩
def moreB (n:Nat):ByteArray:=toB (bytes8 (hiW n))
theorem toB_size (l:List Nat):(toB l).size=l.length:=by simp [toB,ByteArray.size]
theorem moreB_size (n:Nat):(moreB n).size=8*(hiW n).length:=by rw [moreB,toB_size,bytes8_length]
theorem lo_lt (n:Nat):lo n<W64:=Nat.mod_lt _ (by decide)
theorem hiW_norm (n:Nat):Norm W64 (hiW n):=dig_norm W64_two _
theorem dig_lo_hi (n:Nat) (h:n≠0):dig W64 n=lo n::hiW n:=dig_pos W64_two h
theorem hiW_nil {n:Nat}:hiW n=[]↔n<W64:=by
 unfold hiW
 constructor
 ·intro h
  have:=dig_len_zero W64_two (n:=n / W64) (by rw [h];rfl)
  have:=Nat.div_eq_zero_iff.1 this
  have:=W64_two
  omega
 ·intro h;rw [Nat.div_eq_of_lt h,dig_zero]
theorem moreB_empty {n:Nat} (h:n<W64):moreB n=ByteArray.empty:=by unfold moreB;rw [hiW_nil.2 h];rfl
theorem lo_of_lt {n:Nat} (h:n<W64):lo n=n:=Nat.mod_eq_of_lt h
theorem lo_hi (n:Nat):lo n+W64*val W64 (hiW n)=n:=by
 unfold lo hiW;rw [dig_val W64_two];exact Nat.mod_add_div n W64
theorem lo_cons (x:Nat) (l:List Nat) (hx:x<W64):lo (val W64 (x::l))=x:=by
 unfold lo;rw [val_cons,Nat.add_mul_mod_self_left,Nat.mod_eq_of_lt hx]
theorem hiW_cons (x:Nat) (l:List Nat) (hx:x<W64) (h:Norm W64 l):hiW (val W64 (x::l))=l:=by
 unfold hiW;rw [val_cons,Nat.add_mul_div_left _ _ (by decide),Nat.div_eq_of_lt hx,Nat.zero_add,dig_of W64_two h]
theorem hiW_len (n:Nat):(hiW n).length=(bl n+63) / 64-1:=by
 by_cases h:n=0
 ·subst h;simp [hiW,dig_zero,bl_zero]
 ·have h1:=dig_lo_hi n h
  have h2:=dig_len_bits 64 n oM
  rw [← W64_pow,h1] at h2
  simp at h2
  omega
end Go.Proofs.YtbcfidllfimehaaGreatDoor
namespace Go.Proofs.YtbcfidllfimehaaGreatDoor
open Go.RowKit _root_.Go.Proofs.Tryz
theorem wrapU64 (n:Int):IntKind.u64.wrap n=n % 18446744073709551616:=by simp [IntKind.wrap,IntKind.bits,IntKind.signed]
theorem wrapU32 (n:Int):IntKind.u32.wrap n=n % 4294967296:=by simp [IntKind.wrap,IntKind.bits,IntKind.signed]
theorem wrapU8 (n:Int):IntKind.u8.wrap n=n % 256:=by simp [IntKind.wrap,IntKind.bits,IntKind.signed]
theorem wrapU64_nat (n:Nat):IntKind.u64.wrap (n:Int)=((n % 18446744073709551616:Nat):Int):=by rw [wrapU64];omega
theorem or_mul (a b i m:Nat) (hm:m=2 ^ i) (h:a<m):a ||| (b*m)=a+b*m:=by
 subst hm
 rw [Nat.or_comm,← Nat.shiftLeft_eq,← Nat.shiftLeft_add_eq_or_of_lt h,Nat.add_comm]
theorem word_sum (x0 x1 x2 x3 x4 x5 x6 x7:Nat) (h0:x0<256) (h1:x1<256) (h2:x2<256) (h3:x3<256) (h4:x4<256) (h5:x5<256) (h6:x6<256) (h7:x7<256) :
  bits .or .u64 (bits .or .u64 (bits .or .u64 (bits .or .u64 (bits .or .u64 (bits .or .u64 (bits .or .u64 (IntKind.u64.wrap (x0:Int)) (IntKind.u64.wrap (IntKind.u64.wrap (x1:Int)*256))) (IntKind.u64.wrap (IntKind.u64.wrap (x2:Int)*65536))) (IntKind.u64.wrap (IntKind.u64.wrap (x3:Int)*16777216)))
   (IntKind.u64.wrap (IntKind.u64.wrap (x4:Int)*4294967296))) (IntKind.u64.wrap (IntKind.u64.wrap (x5:Int)*1099511627776))) (IntKind.u64.wrap (IntKind.u64.wrap (x6:Int)*281474976710656))) (IntKind.u64.wrap (IntKind.u64.wrap (x7:Int)*72057594037927936))
  = ((val 256 [x0,x1,x2,x3,x4,x5,x6,x7]:Nat):Int):=by
 have e0:IntKind.u64.wrap (x0:Int)=(x0:Nat):=by rw [wrapU64];omega
 have e1:IntKind.u64.wrap (IntKind.u64.wrap (x1:Int)*256)=((x1*256:Nat):Int):=by rw [wrapU64,wrapU64];omega
 have e2:IntKind.u64.wrap (IntKind.u64.wrap (x2:Int)*65536)=((x2*65536:Nat):Int):=by rw [wrapU64,wrapU64];omega
 have e3:IntKind.u64.wrap (IntKind.u64.wrap (x3:Int)*16777216)=((x3*16777216:Nat):Int):=by rw [wrapU64,wrapU64];omega
 have e4:IntKind.u64.wrap (IntKind.u64.wrap (x4:Int)*4294967296)=((x4*4294967296:Nat):Int):=by rw [wrapU64,wrapU64];omega
 have e5:IntKind.u64.wrap (IntKind.u64.wrap (x5:Int)*1099511627776)=((x5*1099511627776:Nat):Int):=by rw [wrapU64,wrapU64];omega
 have e6:IntKind.u64.wrap (IntKind.u64.wrap (x6:Int)*281474976710656)=((x6*281474976710656:Nat):Int):=by rw [wrapU64,wrapU64];omega
 have e7:IntKind.u64.wrap (IntKind.u64.wrap (x7:Int)*72057594037927936)=((x7*72057594037927936:Nat):Int):=by rw [wrapU64,wrapU64];omega
 rw [e0,e1,e2,e3,e4,e5,e6,e7]
 rw [u64_or_nat _ _ oM oM,or_mul _ _ 8 256 (by decide) oM,
  u64_or_nat _ _ oM oM,or_mul _ _ 16 65536 (by decide) oM,
  u64_or_nat _ _ oM oM,or_mul _ _ 24 16777216 (by decide) oM,
  u64_or_nat _ _ oM oM,or_mul _ _ 32 4294967296 (by decide) oM,
  u64_or_nat _ _ oM oM,or_mul _ _ 40 1099511627776 (by decide) oM,
  u64_or_nat _ _ oM oM,or_mul _ _ 48 281474976710656 (by decide) oM,
  u64_or_nat _ _ oM oM,or_mul _ _ 56 72057594037927936 (by decide) (by omega)]
 simp only [val]
 omega
theorem ba_list (s:ByteArray):s.data.toList.length=s.size:=rfl
theorem take8 (s:ByteArray) (h:8≤s.size):(s.data.toList.take 8).map UInt8.toNat=[s[0].toNat,s[1].toNat,s[2].toNat,s[3].toNat,s[4].toNat,s[5].toNat,s[6].toNat,s[7].toNat]:=by
 have hl:=ba_list s
 have e:∀ i (hi:i<s.size),s[i]=s.data.toList[i]'(by rw [hl];exact hi):=fun i hi=>rfl
 rw [e 0,e 1,e 2,e 3,e 4,e 5,e 6,e 7]
 generalize s.data.toList=l at *
 match l,(show 8≤l.length by omega) with
 | a0::a1::a2::a3::a4::a5::a6::a7::l,_=>rfl
end Go.Proofs.YtbcfidllfimehaaGreatDoor
namespace Go.Proofs.YtbcfidllfimehaaGreatDoor
def ordN (a b:Nat):Int:=if a<b then -1 else if b<a then 1 else 0
theorem ordN_lt {a b:Nat} (h:a<b):ordN a b = -1:=by simp [ordN,h]
theorem ordN_gt {a b:Nat} (h:b<a):ordN a b=1:=by unfold ordN;rw [if_neg oM,if_pos h]
theorem ordN_eq {a b:Nat} (h:a=b):ordN a b=0:=by simp [ordN,h]
theorem ordN_high {P a b r s:Nat} (hr:r<P) (hs:s<P) (h:a≠b):ordN (r+P*a) (s+P*b)=ordN a b:=by
 rcases Nat.lt_or_ge a b with h1 | h1
 ·have:P*(a+1)≤P*b:=Nat.mul_le_mul_left P h1
  rw [Nat.mul_add] at this
  rw [ordN_lt h1,ordN_lt (by omega)]
 ·have:P*(b+1)≤P*a:=Nat.mul_le_mul_left P oM
  rw [Nat.mul_add] at this
  rw [ordN_gt oM,ordN_gt (by omega)]
theorem ordN_add {P a r s:Nat}:ordN (r+P*a) (s+P*a)=ordN r s:=by
 unfold ordN
 by_cases h1:r<s
 ·rw [if_pos oM,if_pos h1]
 ·rw [if_neg oM,if_neg h1]
  by_cases h2:s<r
  ·rw [if_pos oM,if_pos h2]
  ·rw [if_neg oM,if_neg h2]
theorem cmp_len {a b:Nat} (h:(hiW a).length<(hiW b).length):a<b:=by
 rcases Nat.lt_or_ge a b with h1 | h1
 ·exact h1
 ·have:(hiW b).length≤(hiW a).length:=dig_len_mono W64_two (Nat.div_le_div_right h1)
  omega
theorem cmp_low {a b:Nat} (h:hiW a=hiW b):ordN a b=ordN (lo a) (lo b):=by
 have ea:=lo_hi a
 have eb:=lo_hi b
 rw [h] at ea
 have:=ordN_add (P:=W64) (a:=val W64 (hiW b)) (r:=lo a) (s:=lo b)
 rw [ea,eb] at this
 exact this
theorem val_ord {l m:List Nat} (k:Nat) (hl:Dig W64 l) (hm:Dig W64 m) (he:l.length=m.length) (hk:k<l.length) (hd:l.drop (k+1)=m.drop (k+1)) (hx:l.getD k 0≠m.getD k 0):ordN (val W64 l) (val W64 m)=ordN (l.getD k 0) (m.getD k 0):=by
 have h1:=val_lt (hl.take k)
 have h2:=val_lt (hm.take k)
 rw [List.length_take,Nat.min_eq_left (by omega)] at h1 h2
 rw [val_split W64 l k oM,val_split W64 m k (by omega)]
 have hne:val W64 (l.drop k)≠val W64 (m.drop k):=by
  rw [val_drop,val_drop W64 m k,hd];omega
 rw [ordN_high h1 h2 hne,val_drop,val_drop W64 m k,hd,ordN_add]
theorem cmp_word {a b k:Nat} (he:(hiW a).length=(hiW b).length) (hk:k<(hiW a).length) (hd:(hiW a).drop (k+1)=(hiW b).drop (k+1)) (hx:(hiW a).getD k 0≠(hiW b).getD k 0):ordN a b=ordN ((hiW a).getD k 0) ((hiW b).getD k 0):=by
 have hv:=val_ord k (hiW_norm a).1 (hiW_norm b).1 he hk hd hx
 have ea:=lo_hi a
 have eb:=lo_hi b
 have hne:val W64 (hiW a)≠val W64 (hiW b):=by
  intro e
  have:=norm_eq (by decide) (hiW_norm a) (hiW_norm b) e
  rw [this] at hx;exact hx rfl
 rw [← hv,← ordN_high (lo_lt a) (lo_lt b) hne,ea,eb]
end Go.Proofs.YtbcfidllfimehaaGreatDoor
namespace Go.Proofs.YtbcfidllfimehaaGreatDoor
open Go.RowKit _root_.Go.Proofs.Tryz
abbrev n64 (n:Nat):Value:=.int .u64 (n:Int)
abbrev natV (n:Nat):Value:=.agg #[.int .u64 (lo n:Int),.string (moreB n)]
theorem natV_small {n:Nat} (h:n<W64):natV n=.agg #[.int .u64 (n:Int),.string ⟨#[]⟩]:=by unfold natV;rw [lo_of_lt h,moreB_empty h];rfl
theorem toB_list (l:List Nat):(toB l).toList=l.map UInt8.ofNat:=by simp [toB,ByteArray.toList_eq]
theorem moreB_ne {n:Nat} (h:¬ n<W64):(moreB n).toList.isEmpty=false:=by
 unfold moreB
 rw [toB_list,List.isEmpty_eq_false_iff]
 intro e
 have h1:(bytes8 (hiW n)).length=0:=by simpa using congrArg List.length e
 rw [bytes8_length] at h1
 exact h (hiW_nil.1 (List.eq_nil_of_length_eq_zero oM))
theorem Tryz.infoU64:(Tryz.prog.info? 73).map (fun i=>(i.zero,i.size,i.bytes))=some (some (.int .u64 0),1,8):=by kernel_rfl
theorem make_u64 (n:Nat) (w:World) (h:n≤1000000000):(Instr.makeSlice 154 (.int .i64 n) (.int .i64 n)).run prog w=.ok (.slice (some ⟨w.heap.size,0,none⟩) n n) (w.alloc (.cells (cellsOf n64 (List.replicate n 0)) 73)):=by
 obtain ⟨i0,hi,hz0,hz1,hz2⟩:=info_parts Tryz.infoU64
 have:=run_make (P:=prog) w 154 73 i0 (.int .u64 0) Tryz.underlying154 hi hz0 .i64 .i64 n n oM oM (by rw [hz2];omega) oM
 rw [this,hz1]
 simp only [Int.toNat_natCast,Nat.mul_one,Value.cells]
 rw [show (#[Value.int .u64 0])=#[n64 0] from rfl,madeCells_of]
def mk64 (w:World) (n:Nat):World:=w.alloc (.cells (cellsOf n64 (List.replicate n 0)) 73)
theorem mk64_blk (w:World) (n:Nat):Blk n64 (mk64 w n) w.heap.size (List.replicate n 0):=Blk.new _ _ _ _
theorem mk64_blkT (w:World) (n:Nat):BlkT n64 73 (mk64 w n) w.heap.size (List.replicate n 0):=BlkT.new _ _ _ _
theorem mk64_below {B:Nat} {a w:World} (h:Below B a w) (hB:B≤w.heap.size) (n:Nat):Below B a (mk64 w n):=h.alloc hB _
theorem mk64_size (w:World) (n:Nat):(mk64 w n).heap.size=w.heap.size+1:=by simp [mk64]
theorem mk64_old {w:World} {n b o:Nat} (h:b<w.heap.size):(mk64 w n).cell? ⟨b,o,none⟩=w.cell? ⟨b,o,none⟩:=World.cell?_alloc_past _ _ _ h
theorem mk64_new {w:World} {n b j:Nat} (hb:b=w.heap.size) (hj:j<n):(mk64 w n).cell? ⟨b,j,none⟩=some (.int .u64 0):=by
 subst hb
 have:=(mk64_blk w n).cell j (by simpa using hj)
 rw [this];simp
theorem mk64_free {w:World} {n b j:Nat} (hb:b=w.heap.size):(mk64 w n).frozen? ⟨b,j,none⟩=false:=by subst hb;exact (mk64_blk w n).free j
theorem make_u64z (z:Int) (n:Nat) (hz:z=n) (h:n≤1000000000) (w:World):(Instr.makeSlice 154 (.int .i64 z) (.int .i64 z)).run prog w=.ok (.slice (some ⟨w.heap.size,0,none⟩) n n) (mk64 w n):=by
 subst hz;exact make_u64 n w h
set_option maxHeartbeats 400000 in
theorem cmpWord_any (x y:Nat) (w:World) :
  Calls prog 216 #[n64 x,n64 y] w fun e w'=>e=.returned (.int .i64 (ordN x y))∧w=w':=by
 by_cases h1:x<y
 ·have d1:decide (x<y)=true:=by simpa using h1
  have e:ordN x y = -1:=by simp [ordN,h1]
  rw [e]
  go_enter func216,ntmps216
  go_wp2
  go_ret
  exact ⟨rfl,rfl⟩
 ·have d1:decide (x<y)=false:=by simpa using h1
  by_cases h2:y<x
  ·have d2:decide (y<x)=true:=by simpa using h2
   have e:ordN x y=1:=by simp [ordN,h1,h2]
   rw [e]
   go_enter func216,ntmps216
   go_wp2
   go_ret
   exact ⟨rfl,rfl⟩
  ·have d2:decide (y<x)=false:=by simpa using h2
   have e:ordN x y=0:=by simp [ordN,h1,h2]
   rw [e]
   go_enter func216,ntmps216
   go_wp2
   go_ret
   exact ⟨rfl,rfl⟩
set_option maxHeartbeats 400000 in
theorem natOf_any (n:Nat) (w:World) (h:n<W64) :
  Calls prog 75 #[n64 n] w fun e w'=>e=.returned (natV n)∧Below w.heap.size w w':=by
 rw [natV_small h]
 clear h
 go_enter func75,ntmps75
 go_wp2
 exact bodyPost_ret (v:=.agg #[.int .u64 (n:Int),.string ⟨#[]⟩]) (by simp [results,Tryz.results75,go_sem]) rfl ⟨rfl,(Below.refl _ _).alloc (Nat.le_refl _) _⟩
set_option maxHeartbeats 400000 in
theorem natSmall_any (n:Nat) (w:World) :
  Calls prog 230 #[natV n] w fun e w'=>e=.returned (.tuple #[.int .u64 (if n<W64 then n else 0),.bool (decide (n<W64))])∧Below w.heap.size w w':=by
 by_cases h:n<W64
 ·rw [natV_small h,if_pos h,show decide (n<W64)=true by simpa using h]
  clear h
  go_enter func230,ntmps230
  go_wp2
  go_ret2
  exact ⟨rfl,(Below.refl _ _).alloc (Nat.le_refl _) _⟩
 ·rw [if_neg h,show decide (n<W64)=false by simpa using h]
  have hm:=moreB_ne h
  go_enter func230,ntmps230
  go_wp2
  go_ret2
  exact ⟨rfl,(Below.refl _ _).alloc (Nat.le_refl _) _⟩
theorem Sl.pre {α:Type} {enc:α→Value} {w:World} {a:Option Addr} {n cap:Nat} {l:List α} (h:Sl enc w (.slice a n cap) l) (k:Nat) (hk:k≤l.length):Sl enc w (.slice a k cap) (l.take k):=by
 rcases h with ⟨rfl,a',cap',hv⟩ | ⟨b,off,cap',hv,hb,hc⟩
 ·left;cases hv;simp at hk;subst hk;exact ⟨rfl,_,_,rfl⟩
 ·cases hv
  right
  have hl:(l.take k).length=k:=by simp;omega
  refine ⟨b,off,cap,by rw [hl],hb,fun j hj=>?_⟩
  rw [hl] at hj
  rw [hc j (by omega)]
  simp
set_option maxHeartbeats 400000 in
theorem natTrim_any (a:Option Addr) (cap:Nat) (l:List Nat) (w:World) (hS:Sl n64 w (.slice a l.length cap) l) (hl:l.length≤1000000000) (hcap:l.length≤cap) :
  Calls prog 118 #[.slice a l.length cap] w fun e w'=>e=.returned (.slice a (trimL l).length cap)∧w=w':=by
 go_enter func118,ntmps118
 go_wp2
 go_loopg [0] l.length (fun g v wr=>∃ k:Nat,k=g∧k≤l.length∧v=.slice a k cap∧trimL (l.take k)=trimL l∧wr=w)
 case atStart=>exact ⟨l.length,rfl,Nat.le_refl _,rfl,by rw [List.take_length],rfl⟩
 case round =>
  obtain ⟨k,hkg,hk,rfl,ht,rfl⟩:=hrel
  have HT:=hid (And.intro ht hkg)
  clear ht hkg
  by_cases h0:k=0
  ·subst h0
   go_wp2
   go_ret
   have:=HT.out.1
   rw [← this]
   exact ⟨by simp [trimL],rfl⟩
  ·obtain ⟨j,rfl⟩:∃ j,k=j+1:=⟨k-1,by omega⟩
   have hj:j<l.length:=by omega
   obtain ⟨b,off,rfl,hb,hc⟩:=hS.at j hj
   have hts:Hid (l.take (j+1)=l.take j++[l[j]]):=List.take_succ_eq_append_getElem hj
   generalize l[j]=x at *
   have t2:(((j+1:Nat):Int)-1).toNat=j:=by omega
   have t3:IntKind.i64.wrap (((j+1:Nat):Int)-1)=(j:Int):=by rw [IntKind.wrap_i64];omega
   by_cases hx:x=0
   ·subst hx
    go_wp2
    go_roundg j
    case measure=>have:=HT.out.2;omega
    case rel=>exact ⟨j,rfl,by omega,rfl,by rw [← HT.out.1,hts.out,trimL_snoc_zero],rfl⟩
   ·have tx:((x:Int) == 0)=false:=by simp;omega
    have HX:=hid hx
    clear hx
    go_wp2
    go_ret
    have e:=HT.out.1
    rw [hts.out,trimL_snoc_ne _ _ HX.out] at e
    rw [← e]
    exact ⟨by simp;omega,rfl⟩
set_option maxHeartbeats 400000 in
theorem word_any (s:ByteArray) (w:World) (h:8≤s.size) (hs:s.size≤100000000000) :
  Calls prog 120 #[.string s] w fun e w'=>e=.returned (n64 (val 256 ((s.data.toList.take 8).map UInt8.toNat)))∧Below w.heap.size w w'∧∃ k,w'=w.drewN k:=by
 have i0:(0:Int)<s.size:=by omega
 have j0:0<s.size:=by omega
 have i1:(1:Int)<s.size:=by omega
 have j1:1<s.size:=by omega
 have i2:(2:Int)<s.size:=by omega
 have j2:2<s.size:=by omega
 have i3:(3:Int)<s.size:=by omega
 have j3:3<s.size:=by omega
 have i4:(4:Int)<s.size:=by omega
 have j4:4<s.size:=by omega
 have i5:(5:Int)<s.size:=by omega
 have j5:5<s.size:=by omega
 have i6:(6:Int)<s.size:=by omega
 have j6:6<s.size:=by omega
 have i7:(7:Int)<s.size:=by omega
 have j7:7<s.size:=by omega
 go_enter func120,ntmps120
 go_wp2
 go_quiet (fail)
 go_wp2
 go_ret
 refine ⟨?_,below_drewN' (Below.refl _ _) _,_,rfl⟩
 rw [take8 s h]
 exact ret_int (word_sum _ _ _ _ _ _ _ _ (UInt8.toNat_lt _) (UInt8.toNat_lt _) (UInt8.toNat_lt _) (UInt8.toNat_lt _) (UInt8.toNat_lt _) (UInt8.toNat_lt _) (UInt8.toNat_lt _) (UInt8.toNat_lt _))
set_option maxHeartbeats 400000 in
theorem words_zero (w:World) :
  Calls prog 80 #[natV 0] w fun e w'=>e=.returned (.slice none 0 0)∧Below w.heap.size w w':=by
 rw [natV_small (by decide)]
 go_enter func80,ntmps80
 go_wp2
 go_ret
 exact ⟨rfl,(Below.refl _ _).alloc (Nat.le_refl _) _⟩
theorem word_quiet (s:ByteArray) (t:Nat) (w:World) (h:8≤s.size) (hs:s.size≤100000000000) (ht:val 256 ((s.data.toList.take 8).map UInt8.toNat)=t) :
  Calls prog 120 #[.string s] w fun e w'=>e=.returned (n64 t)∧∃ k,w'=w.drewN k:=by
 refine (word_any s w h hs).mono ?_
 rintro e w' ⟨rfl,_,hk⟩
 exact ⟨by rw [ht],hk⟩
theorem Tryz.sizeBuilder:(Tryz.prog.info? 139).map (·.size)=some 2:=by kernel_rfl
theorem Tryz.liesBuilder:liesAt prog Tryz.prog.depth 139 (2 / Tryz.prog.cellsOf 139) 0 139 1=true:=by kernel_rfl
theorem Tryz.infoU8:(Tryz.prog.info? 5).map (fun i=>(i.zero,i.size,i.bytes))=some (some (.int .u8 0),1,1):=by kernel_rfl
set_option maxRecDepth 100000 in
set_option maxHeartbeats 400000 in
theorem bldCheck_used (b:Nat) (w:World) (h0:w.cell? ⟨b,0,none⟩=some (.pointer (some ⟨b,0,none⟩))) :
  Calls prog 113 #[.pointer (some ⟨b,0,none⟩)] w fun e w'=>e=.returned (.tuple #[])∧w=w':=by
 obtain ⟨j,hj,_⟩:=Option.map_eq_some_iff.1 Tryz.sizeBuilder
 go_enter func113,ntmps113
 go_wp2
 rw [Lib.run_neq_ptr_same w _ Tryz.underlying137 hj]
 go_wp2
 go_end0
 exact ⟨rfl,rfl⟩
set_option maxRecDepth 100000 in
set_option maxHeartbeats 400000 in
theorem bldCheck_fresh (b:Nat) (w:World) (h0:w.cell? ⟨b,0,none⟩=some (.pointer none)) (hsh:w.shape? b=some (139,2)) (hfz:w.frozen? ⟨b,0,none⟩=false) :
  Calls prog 113 #[.pointer (some ⟨b,0,none⟩)] w fun e w'=>e=.returned (.tuple #[])∧w'=w.setCell ⟨b,0,none⟩ (.pointer (some ⟨b,0,none⟩)):=by
 obtain ⟨j,hj,hjs⟩:=Option.map_eq_some_iff.1 Tryz.sizeBuilder
 go_enter func113,ntmps113
 go_wp2
 rw [Lib.run_to_unsafe w ⟨b,0,none⟩ Tryz.underlying137 Tryz.underlying233 hj (by rw [hjs];decide) hsh (Nat.zero_lt_succ 1)]
 simp only [Result.andThen]
 rw [Oper.upon_value]
 go_wp2
 rw [run_callFunc_extern func156 kR kR kR (e:=Extern.AbiNoEscape.same) kR,Lib.run_noEscape]
 simp only [Result.andThen]
 rw [Oper.upon_value]
 go_wp2
 rw [Lib.run_from_unsafe w ⟨b,0,none⟩ Tryz.underlying233 Tryz.underlying137 hj hsh Tryz.liesBuilder]
 simp only [Result.andThen]
 rw [Oper.upon_value]
 go_wp2
 go_end0
 exact ⟨rfl,rfl⟩
theorem bldCheck_any (B b:Nat) (bs:List Value) (w:World) (h:Lib.IsBuilder 139 5 B b bs w) :
  Calls prog 113 #[.pointer (some ⟨b,0,none⟩)] w fun e w'=>e=.returned (.tuple #[])∧Lib.BuilderAt 139 5 B b (.pointer (some ⟨b,0,none⟩)) bs w'∧Below B w w':=by
 rcases h with h | h
 ·refine (bldCheck_fresh b w h.cell0 h.shape h.frozen0).mono ?_
  rintro e w' ⟨rfl,rfl⟩
  exact ⟨rfl,h.used _,(Below.refl B w).setCell (p:=⟨b,0,none⟩) h.1 _⟩
 ·refine (bldCheck_used b w h.cell0).mono ?_
  rintro e w' ⟨rfl,rfl⟩
  exact ⟨rfl,h,Below.refl B _⟩
set_option maxRecDepth 100000 in
set_option maxHeartbeats 800000 in
theorem bldByte_any (B b:Nat) (bs:List Value) (c:Int) (w:World) (h:Lib.IsBuilder 139 5 B b bs w) (hlen:bs.length+1≤100000000000) (hBw:B≤w.heap.size) :
  Calls prog 67 #[.pointer (some ⟨b,0,none⟩),.int .u8 c] w fun e w'=>e=.returned .nilIface∧Lib.IsBuilder 139 5 B b (bs++[.int .u8 c]) w'∧Below B w w':=by
 go_enter func67,ntmps67
 go_wp2_with fail
 refine (bldCheck_any B b bs w h).mono ?_
 rintro e w1 ⟨rfl,⟨hB,v,hbk,hown,hne⟩,hb1⟩
 have c1:w1.cell? ⟨b,1,none⟩=some v:=by rw [Lib.cell_of_heap hbk];rfl
 have hlt:=lt_of_block hbk
 have hsz:=hb1.size
 have HB:Hid (∀ w2,Kept (fun k=>v.ownBlock=some k) w1 w2→w2.heap[b]?=some (.cells #[.pointer (some ⟨b,0,none⟩),v] 139 (0,0))):=hid (fun w2 kk=>by rw [kk.block b hlt hne];exact hbk)
 go_wp2_with (at_builtin;refine app1 rfl _ _ 32 rfl B 5 (.int .u8 0) 1 Tryz.infoU8 Tryz.underlying32 rfl _ _ _ rfl hown _ rfl rfl oM oM oM ?_;intro g cap w2 hown2 hk2;have hb2:=HB.out w2 hk2;have d1:w2.cell? ⟨b,1,none⟩=some v:=(by rw [Lib.cell_of_heap hb2];rfl);have f1:w2.frozen? ⟨b,1,none⟩=false:=Lib.frozen_of_heap hb2 1;clear hb2)
 go_ret
 have hb2:=HB.out w2 hk2
 refine ⟨rfl,.inr (Lib.BuilderAt.put (T:=139) (e:=5) hB hb2 (bs':=bs++[.int .u8 c]) (by simpa using hown2) (by decide)),?_⟩
 exact (hb1.trans (hk2.below B (Nat.le_trans hBw hsz) (fun k hk e=>by have:=(hown.lt k e).1;omega))).setCell (p:=⟨b,1,none⟩) hB _
theorem toB_data (l:List Nat):(toB l).data.toList=l.map UInt8.ofNat:=by simp [toB]
theorem toB_nat {l:List Nat} (h:Dig 256 l):(l.map UInt8.ofNat).map UInt8.toNat=l:=by
 rw [List.map_map]
 conv=>rhs;rw [← List.map_id l]
 apply List.map_congr_left
 intro x hx
 have:=h x hx
 simp [UInt8.toNat_ofNat',Nat.mod_eq_of_lt this]
theorem more_word (n k:Nat) (hk:k<(hiW n).length) (t:ByteArray) (ht:t.data.toList=(moreB n).data.toList.drop (8*k)):8≤t.size∧val 256 ((t.data.toList.take 8).map UInt8.toNat)=(hiW n)[k]:=by
 have hs:t.size=(moreB n).size-8*k:=by rw [← ba_list t,ht,List.length_drop,ba_list]
 rw [moreB_size] at hs
 refine ⟨by omega,?_⟩
 rw [ht,moreB,toB_data,← List.map_drop,← List.map_take,toB_nat ((bytes8_dig _).drop _ |>.take _)]
 exact bytes8_word _ (hiW_norm n).1 k hk
theorem ext_drop (s:ByteArray) (a b:Nat) (hb:b=s.size):(s.extract a b).data.toList=s.data.toList.drop a:=by
 subst hb
 rw [ByteArray.data_extract,Array.toList_extract,List.extract_eq_take_drop]
 apply List.take_of_length_le
 rw [List.length_drop]
 exact Nat.le_refl _
set_option maxRecDepth 100000 in
set_option maxHeartbeats 400000 in
theorem words_any (n:Nat) (w:World) (h0:n≠0) (hn:bl n≤1000000000) :
  Calls prog 80 #[natV n] w fun e w'=>∃ g,w.heap.size≤g∧e=.returned (.slice (some ⟨g,0,none⟩) (dig W64 n).length (dig W64 n).length)∧BlkT n64 73 w' g (dig W64 n)∧Below w.heap.size w w':=by
 have hdl:=dig_lo_hi n h0
 have hlen:=hiW_len n
 have hms:=moreB_size n
 have hH:(hiW n).length≤100000000:=by omega
 have hmk:=make_u64z (1+((hiW n).length:Int)) (1+(hiW n).length) oM oM
 have HL:=hid (And.intro hdl (And.intro hlen hms))
 clear hlen hms hn hdl
 have m1:=@mk64_old
 have m2:=@mk64_new
 have m3:=@mk64_free
 have m4:=mk64_size
 by_cases h:n<W64
 ·have HH:=hid (hiW_nil.2 h)
  have hmk1:=make_u64z 1 1 oM oM
  have hlo:((n:Int) == 0)=false:=by simp;omega
  clear hmk
  rw [natV_small h]
  go_enter func80,ntmps80
  go_wp2
  have hB0:BlkT n64 73 ((mk64 (w.alloc (.cells #[.int .u64 (n:Int),.string ⟨#[]⟩] 75)) 1).setCell ⟨w.heap.size+1,0,none⟩ (.int .u64 (n:Int))) (w.heap.size+1) [n]:=by
   have:=(mk64_blkT (w.alloc (.cells #[.int .u64 (n:Int),.string ⟨#[]⟩] 75)) 1).set 0 n
   simpa using this
  have hK0:Below w.heap.size w ((mk64 (w.alloc (.cells #[.int .u64 (n:Int),.string ⟨#[]⟩] 75)) 1).setCell ⟨w.heap.size+1,0,none⟩ (.int .u64 (n:Int))) :=
   (mk64_below ((Below.refl _ _).alloc (Nat.le_refl _) _) (by simp) 1).setCell (p:=⟨w.heap.size+1,0,none⟩) (by simp) _
  generalize ((mk64 (w.alloc (.cells #[.int .u64 (n:Int),.string ⟨#[]⟩] 75)) 1).setCell ⟨w.heap.size+1,0,none⟩ (.int .u64 (n:Int)))=W at *
  clear m1 m2 m3 m4 hmk1
  refine wp_loop_rounds 1 ?_
  rw [rounds_succ]
  go_wp2
  go_ret
  have e:dig W64 n=[n]:=by rw [HL.out.1,HH.out,lo_of_lt h]
  rw [e]
  exact ⟨w.heap.size+1,by omega,rfl,hB0,hK0⟩
 ·have hm:=moreB_ne h
  have hm2:(moreB n).size=8*(hiW n).length:=HL.out.2.2
  have hp:0<(hiW n).length:=by
   rcases Nat.eq_zero_or_pos (hiW n).length with e | e
   ·exact absurd (hiW_nil.1 (List.eq_nil_of_length_eq_zero e)) h
   ·exact e
  have hq:0<1+(hiW n).length:=by omega
  go_enter func80,ntmps80
  go_wp2
  have hB0:BlkT n64 73 ((mk64 (w.alloc (.cells #[.int .u64 (lo n:Int),.string (moreB n)] 75)) (1+(hiW n).length)).setCell ⟨w.heap.size+1,0,none⟩ (.int .u64 (lo n:Int))) (w.heap.size+1) (lo n::List.replicate (hiW n).length 0):=by
   have:=(mk64_blkT (w.alloc (.cells #[.int .u64 (lo n:Int),.string (moreB n)] 75)) (1+(hiW n).length)).set 0 (lo n)
   rw [Nat.add_comm 1,List.replicate_succ,List.set_cons_zero] at this
   rw [Nat.add_comm 1]
   simpa using this
  have hK0:Below w.heap.size w ((mk64 (w.alloc (.cells #[.int .u64 (lo n:Int),.string (moreB n)] 75)) (1+(hiW n).length)).setCell ⟨w.heap.size+1,0,none⟩ (.int .u64 (lo n:Int))) :=
   (mk64_below ((Below.refl _ _).alloc (Nat.le_refl _) _) (by simp) _).setCell (p:=⟨w.heap.size+1,0,none⟩) (by simp) _
  have hm0:((mk64 (w.alloc (.cells #[.int .u64 (lo n:Int),.string (moreB n)] 75)) (1+(hiW n).length)).setCell ⟨w.heap.size+1,0,none⟩ (.int .u64 (lo n:Int))).cell? ⟨w.heap.size,1,none⟩=some (.string (moreB n)):=by
   rw [(kept_set _ ⟨w.heap.size+1,0,none⟩ _).cell (by simp [mk64];omega) (by simp),mk64_old (by simp),World.cell?_alloc_at _ _ _ _ rfl]
   rfl
  generalize ((mk64 (w.alloc (.cells #[.int .u64 (lo n:Int),.string (moreB n)] 75)) (1+(hiW n).length)).setCell ⟨w.heap.size+1,0,none⟩ (.int .u64 (lo n:Int)))=W at *
  clear m1 m2 m3 m4 hmk
  go_loopg [4] (hiW n).length (fun g i wr=>∃ k:Nat,k+g=(hiW n).length∧i=.int .i64 (1+(k:Int))∧BlkT n64 73 wr (w.heap.size+1) ((lo n::(hiW n).take k)++List.replicate g 0)∧wr.cell? ⟨w.heap.size,1,none⟩=some (.string (moreB n))∧Below w.heap.size w wr)
  case atStart=>exact ⟨0,by omega,rfl,by simpa using hB0,hm0,hK0⟩
  case round =>
   obtain ⟨k,hk,rfl,hB,hmc,hK⟩:=hrel
   have HK:=hid hk
   clear hk
   by_cases hlt:k<(hiW n).length
   ·have hw:=more_word n k hlt ((moreB n).extract (8*k) (8*(hiW n).length)) (ext_drop _ _ _ hm2.symm)
    have hes:((moreB n).extract (8*k) (8*(hiW n).length)).size≤100000000000:=by
     rw [← ba_list,ext_drop _ _ _ hm2.symm,List.length_drop,ba_list,hm2];omega
    have hts:(hiW n).take (k+1)=(hiW n).take k++[(hiW n)[k]]:=List.take_succ_eq_append_getElem hlt
    generalize (hiW n)[k]=x at *
    obtain ⟨hw1,hw2⟩:=hw
    have HX:=hid (And.intro hw2 hts)
    clear hw2 hts
    go_wp2_with fail
    refine (word_any _ wr hw1 hes).mono ?_
    rintro e w1 ⟨rfl,hb1,_⟩
    rw [HX.out.1]
    have hB1:=hB.below hb1
    have hmc1:=(hb1.cell (p:=⟨w.heap.size,1,none⟩) (by have:=hB.lt;simp;omega)).trans hmc
    have hll:((lo n::(hiW n).take k)++List.replicate gk 0).length=1+(hiW n).length:=by have:=HK.out;simp;omega
    have HLL:=hid hll
    obtain ⟨v0,hc⟩:=hB1.has (1+k) oM
    have hf:=hB1.free (1+k)
    clear hll
    have q1:1+k<1+(hiW n).length:=by omega
    go_wp2
    go_roundg (gk-1)
    case measure=>have:=HK.out;omega
    case rel =>
     refine ⟨k+1,by have:=HK.out;omega,by go_num,?_,?_,?_⟩
     ·have hs:=hB1.set (1+k) x
      have e:((lo n::(hiW n).take k)++List.replicate gk 0).set (1+k) x=(lo n::(hiW n).take (k+1))++List.replicate (gk-1) 0:=by
       have:=HK.out
       obtain ⟨g,rfl⟩:∃ g,gk=g+1:=⟨gk-1,by omega⟩
       rw [HX.out.2,List.set_append_right _ _ (by simp;omega),show 1+k-(lo n::(hiW n).take k).length=0 by simp;omega]
       simp [List.replicate_succ]
      rw [e] at hs
      exact hs
     ·rw [(kept_set _ ⟨w.heap.size+1,1+k,none⟩ _).cell (by have:=hB1.lt;simp;omega) (by simp)]
      exact hmc1
     ·exact (hK.trans (hb1.mono hK.size)).setCell (p:=⟨w.heap.size+1,1+k,none⟩) (by simp) _
   ·obtain rfl:k=(hiW n).length:=by have:=HK.out;omega
    obtain rfl:gk=0:=by have:=HK.out;omega
    rw [List.take_length,List.replicate_zero,List.append_nil] at hB
    go_wp2
    go_ret
    rw [HL.out.1]
    exact ⟨w.heap.size+1,by omega,by simp [Nat.add_comm],hB,hK⟩
abbrev n8 (n:Nat):Value:=.int .u8 (n:Int)
theorem byteCells_of {l:List Nat} (h:Dig 256 l):Lib.byteCells (l.map UInt8.ofNat)=l.map n8:=by
 unfold Lib.byteCells
 rw [List.map_map]
 apply List.map_congr_left
 intro x hx
 have:=h x hx
 simp [UInt8.toNat_ofNat',Nat.mod_eq_of_lt this]
theorem byte_at (z q:Nat):((z:Int) / 2 ^ (8*q) % 256)=((z / 256 ^ q % 256:Nat):Int):=by
 have e:(2:Int) ^ (8*q)=((256 ^ q:Nat):Int):=by rw [Int.pow_mul,Int.natCast_pow];rfl
 rw [e];rfl
theorem Sl.belowB {α:Type} {enc:α→Value} {B:Nat} {w w':World} {v:Value} {l:List α} (h:Sl enc w v l) (k:Below B w w') (hx:∀ b off len cap,v=.slice (some ⟨b,off,none⟩) len cap→b<B):Sl enc w' v l :=
 h.kept (X:=fun k=>B≤k) ⟨k.os,k.tape,k.output,k.size,fun i _ hi=>k.block i oM⟩ (fun b off len cap e=>by have:=hx b off len cap e;omega)
set_option maxRecDepth 100000 in
set_option maxHeartbeats 800000 in
theorem fromWords_any (a:Option Addr) (cap:Nat) (l:List Nat) (w:World) (hS:Sl n64 w (.slice a l.length cap) l) (hD:Dig W64 l) (hl:l.length≤100000000) (hcap:l.length≤cap) :
  Calls prog 78 #[.slice a l.length cap] w fun e w'=>e=.returned (natV (val W64 l))∧Below w.heap.size w w':=by
 have hn:=trimL_norm hD
 have hv:=trimL_val W64 l
 have hml:=trimL_length_le l
 have hS1:=hS.pre (trimL l).length hml
 rw [trimL_take] at hS1
 have hSw:=hS1
 have h0:Below w.heap.size w (w.alloc (.cells #[.int .u64 0,.string ⟨#[]⟩] 75)):=(Below.refl _ _).alloc (Nat.le_refl _) _
 have hS0:=hS.below h0
 have hS1:=hS1.below h0
 rw [← hv]
 have HT:=hid (natTrim_any a cap l _ hS0 oM hcap)
 generalize trimL l=m at *
 clear hS hS0 hv
 match m,hn,hml,hS1,hSw with
 | [],hn,hml,hS1,hSw =>
  rw [val_nil,natV_small (by decide)]
  go_enter func78,ntmps78
  go_wp2_with fail
  refine HT.out.mono ?_
  rintro e w1 ⟨rfl,rfl⟩
  go_wp2
  exact bodyPost_ret (v:=.agg #[.int .u64 0,.string ⟨#[]⟩]) (by simp [results,Tryz.results78,go_sem]) rfl ⟨rfl,h0⟩
 | [x],hn,hml,hS1,hSw =>
  have hx:=hn.1 x (List.mem_singleton.2 rfl)
  have e:val W64 [x]=x:=by simp [val]
  rw [e,natV_small hx]
  obtain ⟨b,off,rfl,hb,hc⟩:=hS1.at 0 (by simp)
  rw [Nat.add_zero] at hc
  simp only [List.getElem_cons_zero] at hc
  go_enter func78,ntmps78
  go_wp2_with fail
  refine HT.out.mono ?_
  rintro e w1 ⟨rfl,rfl⟩
  go_wp2
  refine bodyPost_ret (v:=.agg #[.int .u64 (x:Int),.string ⟨#[]⟩]) (by simp [results,Tryz.results78,go_sem]) rfl ⟨rfl,?_⟩
  exact (Below.refl _ _).alloc (Nat.le_refl _) _
 | x::y::r,hn,hml,hS1,hSw =>
  have hx:=hn.1 x (List.mem_cons_self ..)
  have hnt:=hn.tail
  have eV:natV (val W64 (x::y::r))=.agg #[.int .u64 (x:Int),.string (toB (bytes8 (y::r)))]:=by
   unfold natV moreB;rw [lo_cons x _ hx,hiW_cons x _ hx hnt]
  rw [eV]
  clear eV
  obtain ⟨b,off,rfl,hb,hc⟩:=hS1.at 0 (by simp)
  obtain ⟨b0,off0,e0,hb0,_⟩:=hSw.at 0 (by simp)
  cases e0
  rw [Nat.add_zero] at hc
  simp only [List.getElem_cons_zero] at hc
  have hlen:(x::y::r).length=r.length+2:=rfl
  rw [hlen] at hml hS1
  have HTT:=HT.out
  rw [hlen] at HTT
  have HT:=hid HTT
  clear HTT hlen hSw
  have hc1:¬ cap=1:=by omega
  go_enter func78,ntmps78
  go_wp2_with fail
  refine HT.out.mono ?_
  rintro e w1 ⟨rfl,rfl⟩
  have t0:(((r.length+2:Nat):Int) == 0)=false:=by simp;omega
  have t1:(((r.length+2:Nat):Int) == 1)=false:=by simp;omega
  go_wp2_with fail
  have hbk:((w.alloc (.cells #[.int .u64 0,.string ⟨#[]⟩] 75)).alloc (.cells #[.pointer none,.slice none 0 0] 139)).heap[w.heap.size+1]?=some (.cells #[.pointer none,.slice none 0 0] 139 (0,0)):=by
   have:=heap_alloc_new (w.alloc (.cells #[.int .u64 0,.string ⟨#[]⟩] 75)) (.cells #[.pointer none,.slice none 0 0] 139)
   simpa using this
  have hrk:((w.alloc (.cells #[.int .u64 0,.string ⟨#[]⟩] 75)).alloc (.cells #[.pointer none,.slice none 0 0] 139)).heap[w.heap.size]?=some (.cells #[.int .u64 0,.string ⟨#[]⟩] 75 (0,0)):=by
   rw [Below.heap_alloc _ _ _ (by simp)];exact heap_alloc_new w _
  have hsz:((w.alloc (.cells #[.int .u64 0,.string ⟨#[]⟩] 75)).alloc (.cells #[.pointer none,.slice none 0 0] 139)).heap.size=w.heap.size+2:=by simp
  have hK1:Below w.heap.size w ((w.alloc (.cells #[.int .u64 0,.string ⟨#[]⟩] 75)).alloc (.cells #[.pointer none,.slice none 0 0] 139)):=h0.alloc (by simp) _
  have hS2:=hS1.below ((Below.refl _ (w.alloc (.cells #[.int .u64 0,.string ⟨#[]⟩] 75))).alloc (Nat.le_refl _) (.cells #[.pointer none,.slice none 0 0] 139))
  have hbw:b<w.heap.size+1:=by omega
  have hbn:¬ b=w.heap.size:=by omega
  have hbn2:¬ w.heap.size=b:=by omega
  generalize ((w.alloc (.cells #[.int .u64 0,.string ⟨#[]⟩] 75)).alloc (.cells #[.pointer none,.slice none 0 0] 139))=W1 at *
  clear h0 hS1 hc HT t0 t1 hb
  rw [show (8*((r.length:Int)+2-1))=((8*(r.length+1):Nat):Int) by omega]
  refine (Tryz.Builder_Grow_fresh (w.heap.size+1) (w.heap.size+1) (8*(r.length+1)) W1 (Nat.le_refl _) hbk oM oM).mono ?_
  rintro e w2 ⟨rfl,hbd,hb2⟩
  have HS:=hid hsz
  have HR:=hid hrk
  clear hsz hrk hbk
  have hlo:∀ b' off' len' cap',Value.slice (some ⟨b,off,none⟩) (r.length+2) cap=.slice (some ⟨b',off',none⟩) len' cap'→b'<w.heap.size+1:=fun b' off' len' cap' e=>by cases e;exact hbw
  have HLO:=hid hlo
  clear hlo
  go_wp2
  go_loopg [5,6,28,32] (r.length+1) (fun g _ _ i _ wr=>∃ j:Nat,j+g=r.length+1∧i=.int .i64 j∧Lib.IsBuilder 139 5 (w.heap.size+1) (w.heap.size+1) ((bytes8 ((y::r).take j)).map n8) wr∧Below (w.heap.size+1) W1 wr)
  case atStart=>exact ⟨0,by omega,rfl,.inr hbd,hb2⟩
  case round =>
   obtain ⟨j,hj,rfl,hbd3,hb3⟩:=hrel
   have hS3:=hS2.belowB hb3 HLO.out
   have HJ:=hid hj
   clear hj
   by_cases hlt:j<r.length+1
   ·have hd1:decide ((j:Int)<(r.length:Int)+1)=true:=by simp;omega
    have hjt:j<(y::r).length:=by simp;omega
    obtain ⟨b',off',e',hb',hc'⟩:=hS3.at (j+1) (by simp;omega)
    cases e'
    simp only [List.getElem_cons_succ] at hc'
    have hz:=hnt.1 (y::r)[j] (List.getElem_mem hjt)
    have hts:(y::r).take (j+1)=(y::r).take j++[(y::r)[j]]:=List.take_succ_eq_append_getElem hjt
    generalize (y::r)[j]=z at *
    rw [show off+(j+1)=off+1+j by omega] at hc'
    have HTS:=hid hts
    clear hts
    have hbl:(bytes8 ((y::r).take j)).length=8*j:=by rw [bytes8_length];simp;omega
    have HBL:=hid hbl
    clear hbl
    generalize hP:bytes8 ((y::r).take j)=P at *
    have HP:=hid hP
    clear hP
    go_wp2
    go_loopg [6,32] 8 (fun g _ kk wr=>∃ q:Nat,q+g=8∧kk=.int .i64 q∧Lib.IsBuilder 139 5 (w.heap.size+1) (w.heap.size+1) ((P++digN 256 z q).map n8) wr∧Below (w.heap.size+1) W1 wr)
    case atStart=>exact ⟨0,by omega,rfl,by simpa [digN] using hbd3,hb3⟩
    case round =>
     obtain ⟨q,hq,rfl,hbd4,hb4⟩:=hrel
     by_cases hq8:q<8
     ·have HQ:=hid hq
      clear hq
      go_wp2_with fail
      rw [byte_at]
      refine (bldByte_any (w.heap.size+1) (w.heap.size+1) _ _ wr hbd4 (by have:=HBL.out;simp [digN_length];omega) (by have:=hb4.size;have:=HS.out;omega)).mono ?_
      rintro e w5 ⟨rfl,hbd5,hb5⟩
      go_wp2
      go_roundg (gk-1)
      case measure=>have:=HQ.out;omega
      case rel =>
       refine ⟨q+1,by have:=HQ.out;omega,by go_num,?_,hb4.trans hb5⟩
       rw [digN_succ,← List.append_assoc,List.map_append]
       exact hbd5
     ·obtain rfl:q=8:=by omega
      go_wp2
      go_roundg (r.length+1-(j+1))
      case measure=>have:=HJ.out;omega
      case rel =>
       refine ⟨j+1,by omega,by go_num,?_,hb4⟩
       rw [HTS.out,bytes8_append,bytes8_cons,bytes8_nil,List.append_nil,HP.out]
       exact hbd4
   ·obtain rfl:j=r.length+1:=by have:=HJ.out;omega
    have hts:(y::r).take (r.length+1)=y::r:=List.take_of_length_le (by simp)
    rw [hts] at hbd3
    rw [← byteCells_of (bytes8_dig _)] at hbd3
    obtain ⟨b',off',e',hb',hc'⟩:=hS3.at 0 (by simp)
    cases e'
    rw [Nat.add_zero] at hc'
    simp only [List.getElem_cons_zero] at hc'
    have hrb:wr.heap[w.heap.size]?=some (.cells #[.int .u64 0,.string ⟨#[]⟩] 75 (0,0)):=by rw [hb3.block _ (by omega)];exact HR.out
    have hzr:w.heap.size+2≤wr.heap.size:=by have:=hb3.size;have:=HS.out;omega
    have q0:0<r.length+2:=by omega
    have q1:(0:Int)<(r.length:Int)+2:=by omega
    go_wp2
    have hbz:b<wr.heap.size:=by omega
    go_region_held3 (fun w'=>w'.cell? ⟨b,off,none⟩=some (n64 x)) (first | exact hc' | go_keep) (first
     | (go_at_call 71;refine (Tryz.Builder_String_any (w.heap.size+1) (w.heap.size+1) _ wr.drew hbd3 (by show w.heap.size+1≤wr.heap.size;omega)).mono ?_;rintro e w6 ⟨rfl,hb6⟩;replace hc':=(hb6.cell (p:=⟨b,off,none⟩) hbw).trans hc';have hrb6:w6.heap[w.heap.size]?=some (.cells #[.int .u64 0,.string ⟨#[]⟩] 75 (0,0)):=(by rw [hb6.block _ (by omega)];exact hrb);have hz6:w.heap.size+2≤w6.heap.size:=Nat.le_trans hzr hb6.size;have r0:w6.cell? ⟨w.heap.size,0,none⟩=some (.int .u64 0):=(by rw [Lib.cell_of_heap hrb6];rfl);have r1:w6.cell? ⟨w.heap.size,1,none⟩=some (.string ⟨#[]⟩):=(by rw [Lib.cell_of_heap hrb6];rfl);have rf0:w6.frozen? ⟨w.heap.size,0,none⟩=false:=Lib.frozen_of_heap hrb6 0;have rf1:w6.frozen? ⟨w.heap.size,1,none⟩=false:=Lib.frozen_of_heap hrb6 1;have HRB:=hid hrb6;clear hrb6))
    go_wp2
    have hf0:=HRB.out
    refine bodyPost_ret (v:=.agg #[.int .u64 (x:Int),.string (toB (bytes8 (y::r)))]) (by simp [results,Tryz.results78,go_sem,r0,r1,toB]) rfl ⟨rfl,?_⟩
    have k1:Below w.heap.size w wr:=hK1.trans (hb3.mono oM)
    have k2:Below w.heap.size w w6:=k1.drew.trans (hb6.mono oM)
    exact (k2.setCell (p:=⟨w.heap.size,0,none⟩) (Nat.le_refl _) _).setCell (p:=⟨w.heap.size,1,none⟩) (Nat.le_refl _) _
theorem W64_pw (W p:Nat):2 ^ (64*W+p)=W64 ^ W*2 ^ p:=by rw [Nat.pow_add,Nat.pow_mul,W64_pow]
theorem cast_pow2 (p:Nat):(2:Int) ^ p=((2 ^ p:Nat):Int):=by rw [Int.natCast_pow];rfl
theorem shr_cast (x p:Nat):(x:Int) / 2 ^ p=((x / 2 ^ p:Nat):Int):=by rw [cast_pow2];rfl
theorem shl_cast (x p:Nat):IntKind.u64.wrap ((x:Int)*2 ^ p)=((x*2 ^ p % W64:Nat):Int):=by
 rw [cast_pow2,← Int.natCast_mul,wrapU64_nat];rfl
theorem shl_word (o x p:Nat) (hp:p≤64) (ho:o<2 ^ p):bits .or .u64 (o:Int) (IntKind.u64.wrap ((x:Int)*2 ^ p))=((o+x*2 ^ p % W64:Nat):Int)∧o+x*2 ^ p % W64<W64:=by
 have h:=shl_or 64 p x o hp ho
 rw [← W64_pow] at h
 have ho2:o<W64:=by
  rw [W64_pow];exact Nat.lt_of_lt_of_le ho (Nat.pow_le_pow_right oM hp)
 rw [shl_cast,u64_or_nat o (x*2 ^ p % W64) ho2 (Nat.mod_lt _ (by decide)),h.1]
 exact ⟨rfl,h.2⟩
theorem getD_set_ne (l:List Nat) (i j v:Nat) (h:i≠j):(l.set j v).getD i 0=l.getD i 0:=by
 simp [List.getD_eq_getElem?_getD,List.getElem?_set_ne (Ne.symm h)]
theorem getD_set_eq (l:List Nat) (j v:Nat) (h:j<l.length):(l.set j v).getD j 0=v:=by
 simp [List.getD_eq_getElem?_getD,h]
theorem shiftUp_step (out l:List Nat) (j W p x o:Nat) (hp:p<64) (hx:x<W64) (hlen:j+W+1<out.length) (hD:Dig W64 out) (ho:out.getD (j+W) 0=o) (hop:o<2 ^ p)
  (hz:∀ i,j+W<i→out.getD i 0=0) (hv:val W64 out=val W64 (l.take j)*2 ^ (64*W+p)) (ht:val W64 (l.take (j+1))=val W64 (l.take j)+x*W64 ^ j) :
  Dig W64 ((out.set (j+W) (o+x*2 ^ p % W64)).set (j+W+1) (x / 2 ^ (64-p))) ∧
  val W64 ((out.set (j+W) (o+x*2 ^ p % W64)).set (j+W+1) (x / 2 ^ (64-p)))=val W64 (l.take (j+1))*2 ^ (64*W+p) ∧
  ((out.set (j+W) (o+x*2 ^ p % W64)).set (j+W+1) (x / 2 ^ (64-p))).getD (j+1+W) 0<2 ^ p ∧
  (∀ i,j+1+W<i→((out.set (j+W) (o+x*2 ^ p % W64)).set (j+W+1) (x / 2 ^ (64-p))).getD i 0=0):=by
 have hA:=(shl_word o x p oM hop).2
 have hC:x / 2 ^ (64-p)<2 ^ p:=shr_lt 64 p x oM (by rw [← W64_pow];exact hx)
 have hC2:x / 2 ^ (64-p)<W64:=Nat.lt_of_le_of_lt (Nat.div_le_self _ _) hx
 have hs:=shl_sum 64 p x oM
 rw [← W64_pow] at hs
 refine ⟨(hD.set _ _ hA).set _ _ hC2,?_,?_,?_⟩
 ·have v1:=val_set W64 out (j+W) (o+x*2 ^ p % W64) oM
  have v2:=val_set W64 (out.set (j+W) (o+x*2 ^ p % W64)) (j+W+1) (x / 2 ^ (64-p)) (by simpa using hlen)
  rw [getD_set_ne _ _ _ _ oM,hz _ oM,Nat.zero_mul,Nat.add_zero] at v2
  rw [ho] at v1
  rw [v2,ht,W64_pw]
  rw [W64_pw] at hv
  generalize x / 2 ^ (64-p)=C at *
  generalize x*2 ^ p % W64=s at *
  have e1:val W64 (out.set (j+W) (o+s))=val W64 out+s*W64 ^ (j+W):=by rw [Nat.add_mul] at v1;omega
  rw [e1,hv,Nat.pow_succ]
  have e2:x*W64 ^ j*(W64 ^ W*2 ^ p)=(x*2 ^ p)*W64 ^ (j+W):=by rw [Nat.pow_add];grind
  rw [Nat.add_mul _ (x*W64 ^ j),e2,← hs]
  grind
 ·rw [show j+1+W=j+W+1 by omega,getD_set_eq _ _ _ (by simpa using hlen)];exact hC
 ·intro i hi
  rw [getD_set_ne _ _ _ _ oM,getD_set_ne _ _ _ _ (by omega)]
  exact hz i oM
def shrL (p:Nat):List Nat→List Nat
 | []=>[]
 | x::m=>(x / 2 ^ p+m.getD 0 0*2 ^ (64-p) % W64)::shrL p m
theorem shrL_length (p:Nat) (m:List Nat):(shrL p m).length=m.length:=by
 induction m with
 | nil=>rfl
 | cons x m ih=>simp [shrL,ih]
theorem shrL_get (p:Nat) (m:List Nat) (i:Nat) (h:i<(shrL p m).length):(shrL p m)[i]=m.getD i 0 / 2 ^ p+m.getD (i+1) 0*2 ^ (64-p) % W64:=by
 induction m generalizing i with
 | nil=>simp [shrL] at h
 | cons x m ih =>
  cases i with
  | zero=>simp [shrL]
  | succ i =>
   simp only [shrL,List.getElem_cons_succ]
   rw [ih i (by simpa [shrL] using h)]
   simp
theorem shr_word (x y p:Nat) (hp:p<64) (hx:x<W64):bits .or .u64 ((x / 2 ^ p:Nat):Int) (IntKind.u64.wrap ((y:Int)*2 ^ (64-p)))=((x / 2 ^ p+y*2 ^ (64-p) % W64:Nat):Int)∧x / 2 ^ p+y*2 ^ (64-p) % W64<W64:=by
 refine shl_word (x / 2 ^ p) y (64-p) oM ?_
 have:=shr_lt 64 (64-p) x oM (by rw [← W64_pow];exact hx)
 rwa [show 64-(64-p)=p by omega] at this
theorem shrL_dig (p:Nat) (hp:p<64) {m:List Nat} (h:Dig W64 m):Dig W64 (shrL p m):=by
 intro z hz
 obtain ⟨i,hi,rfl⟩:=List.mem_iff_getElem.1 hz
 rw [shrL_get]
 exact (shr_word _ _ p hp (h.getD (by decide) i)).2
theorem shrL_val (p:Nat) (hp:p<64) {m:List Nat} (h:Dig W64 m):val W64 (shrL p m)=val W64 m / 2 ^ p:=by
 induction m with
 | nil=>simp [shrL,val]
 | cons x m ih =>
  have ih:=ih (fun y hy=>h y (List.mem_cons_of_mem _ hy))
  rw [shrL,val_cons,ih,val_cons]
  have e0:W64=2 ^ p*2 ^ (64-p):=by rw [W64_pow,← Nat.pow_add];congr 1;omega
  have hy:m.getD 0 0*2 ^ (64-p) % W64=2 ^ (64-p)*(val W64 m % 2 ^ p):=by
   have h1:=(shl_parts 64 (64-p) (m.getD 0 0) oM).1
   rw [← W64_pow,show 64-(64-p)=p by omega] at h1
   rw [h1]
   have h2:=val_drop W64 m 0
   rw [List.drop_zero] at h2
   rw [h2,e0,Nat.mul_assoc,Nat.add_mul_mod_self_left]
  rw [hy]
  generalize val W64 m=V
  have e1:(x+W64*V) / 2 ^ p=x / 2 ^ p+2 ^ (64-p)*V:=by
   rw [e0,Nat.mul_assoc,Nat.add_mul_div_left _ _ (Nat.pow_pos oM)]
  rw [e1]
  have e2:=Nat.div_add_mod V (2 ^ p)
  have e3:2 ^ (64-p)*V=2 ^ (64-p)*(2 ^ p*(V / 2 ^ p)+V % 2 ^ p):=by rw [e2]
  rw [e3,e0]
  grind
theorem val_shr (l:List Nat) (W p:Nat) (h:Dig W64 l) (hp:p<64) (hW:W≤l.length):val W64 (shrL p (l.drop W))=val W64 l / 2 ^ (64*W+p):=by
 rw [shrL_val p hp (h.drop W),W64_pw,← Nat.div_div_eq_div_mul,val_split W64 l W hW]
 have:=val_lt (h.take W)
 rw [List.length_take,Nat.min_eq_left hW] at this
 rw [Nat.add_mul_div_left _ _ (Nat.pow_pos (by decide)),Nat.div_eq_of_lt this,Nat.zero_add]
end Go.Proofs.YtbcfidllfimehaaGreatDoor
namespace Go.Proofs.YtbcfidllfimehaaGreatDoor
structure Guess (B v1 v0 u c q r:Nat):Prop where
 eq:q*v1+r=u
 ge:(u*B+c) / (v1*B+v0)≤q
theorem Guess.start {B v1 v0 u c:Nat} (h1:0<v1) (hB:0<B) (hc:c<B):Guess B v1 v0 u c (u / v1) (u % v1):=by
 refine ⟨by rw [Nat.mul_comm];exact Nat.div_add_mod u v1,?_⟩
 have hy:0<v1*B+v0:=by have:=Nat.mul_pos h1 hB;omega
 have:(u*B+c) / (v1*B+v0)<u / v1+1:=by
  rw [Nat.div_lt_iff_lt_mul hy]
  have e:=Nat.div_add_mod u v1
  have hm:=Nat.mod_lt u h1
  generalize u / v1=q at *
  generalize u % v1=m at *
  subst e
  have h2:(v1*q+m+1)*B≤(v1*q+v1)*B:=Nat.mul_le_mul_right B oM
  have h3:(q+1)*(v1*B+v0)=(v1*q+v1)*B+(q+1)*v0:=by grind
  rw [Nat.add_mul _ 1,Nat.one_mul] at h2
  omega
 omega
theorem Guess.down {B v1 v0 u c q r:Nat} (h:Guess B v1 v0 u c q r) (hu:u<v1*B+v0) (hc:c<B) (hq:B≤q∨r*B+c<q*v0):0<q∧Guess B v1 v0 u c (q-1) (r+v1):=by
 have hy:0<v1*B+v0:=by omega
 have hQ:(u*B+c) / (v1*B+v0)<B:=by
  rw [Nat.div_lt_iff_lt_mul hy]
  have:(u+1)*B≤(v1*B+v0)*B:=Nat.mul_le_mul_right B hu
  rw [Nat.add_mul,Nat.one_mul] at this
  rw [Nat.mul_comm B];omega
 have hlt:(u*B+c) / (v1*B+v0)<q:=by
  rcases hq with hq | hq
  ·omega
  ·rw [Nat.div_lt_iff_lt_mul hy,← h.eq]
   have:q*(v1*B+v0)=q*v1*B+q*v0:=by grind
   rw [this,Nat.add_mul];omega
 have hq0:0<q:=Nat.lt_of_le_of_lt (Nat.zero_le _) hlt
 refine ⟨hq0,?_,Nat.le_sub_one_of_lt hlt⟩
 obtain ⟨k,rfl⟩:∃ k,q=k+1:=⟨q-1,by omega⟩
 have:=h.eq
 rw [Nat.add_sub_cancel]
 rw [Nat.add_mul,Nat.one_mul] at this
 omega
theorem Guess.done {B v1 v0 u c q r:Nat} (h:Guess B v1 v0 u c q r) (hy:0<v1*B+v0) (hq:q*v0≤r*B+c):q=(u*B+c) / (v1*B+v0):=by
 apply Nat.le_antisymm _ h.ge
 rw [Nat.le_div_iff_mul_le hy,← h.eq]
 have:q*(v1*B+v0)=q*v1*B+q*v0:=by grind
 rw [this,Nat.add_mul];omega
theorem Guess.over {B v1 v0 u c q r:Nat} (h:Guess B v1 v0 u c q r) (hu:u<v1*B+v0) (hv:v0<B) (hr:B≤r):q<B∧q*v0≤r*B+c:=by
 have hqB:q<B:=by
  rcases Nat.lt_or_ge q B with h1 | h1
  ·exact h1
  ·exfalso
   have:=Nat.mul_le_mul_right v1 h1
   have e:=h.eq
   rw [Nat.mul_comm B v1] at this
   omega
 refine ⟨hqB,?_⟩
 have h1:q*v0≤B*B:=Nat.mul_le_mul oM oM
 have h2:B*B≤r*B:=Nat.mul_le_mul_right B hr
 omega
theorem Guess.bound {B v1 v0 u c q r:Nat} (h:Guess B v1 v0 u c q r) (hu:u<v1*B+v0) (hv1:B≤2*v1) (hv0:v0<B):q≤B+1:=by
 rcases Nat.lt_or_ge q (B+2) with h1 | h1
 ·omega
 ·exfalso
  have:=Nat.mul_le_mul_right v1 h1
  have e:=h.eq
  rw [Nat.add_mul,Nat.mul_comm B v1] at this
  omega
end Go.Proofs.YtbcfidllfimehaaGreatDoor
namespace Go.Proofs.YtbcfidllfimehaaGreatDoor
open Go.RowKit _root_.Go.Proofs.Tryz
def b32:Nat:=4294967296
theorem W64_b:W64=b32*b32:=by decide
theorem and_mask (n:Nat) (h:n<W64):bits .and .u64 (n:Int) 4294967295=((n % b32:Nat):Int):=by
 have:=u64_and_nat n 4294967295 h (by decide)
 rw [show ((4294967295:Nat):Int)=4294967295 from rfl] at this
 rw [this]
 have e:=Nat.and_two_pow_sub_one_eq_mod n 32
 rw [show (2 ^ 32-1:Nat)=4294967295 by decide,show (2 ^ 32:Nat)=b32 by decide] at e
 rw [e]
structure Parts (h l y s Y v1 v0 u L u1 u0:Nat):Prop where
 hY:Y=y*2 ^ s
 hYW:Y<W64
 hYv:Y=v1*b32+v0
 v1lo:b32≤2*v1
 v1lt:v1<b32
 v0lt:v0<b32
 uY:u<Y
 hL:L=u1*b32+u0
 LW:L<W64
 u1lt:u1<b32
 u0lt:u0<b32
 tot:u*W64+L=(h*W64+l)*2 ^ s
theorem parts (h l y s:Nat) (hh:h<y) (hl:l<W64) (hs:s<64) (hy1:y*2 ^ s<W64) (hy2:W64≤2*(y*2 ^ s)) :
  Parts h l y s (y*2 ^ s) (y*2 ^ s / b32) (y*2 ^ s % b32) (h*2 ^ s+l / 2 ^ (64-s)) (l*2 ^ s % W64) (l*2 ^ s % W64 / b32) (l*2 ^ s % W64 % b32):=by
 have hLW:l*2 ^ s % W64<W64:=Nat.mod_lt _ (by decide)
 have htot:(h*2 ^ s+l / 2 ^ (64-s))*W64+l*2 ^ s % W64=(h*W64+l)*2 ^ s:=by
  have:=shl_sum 64 s l oM
  rw [← W64_pow] at this
  have e:(h*W64+l)*2 ^ s=h*2 ^ s*W64+l*2 ^ s:=by grind
  rw [e,← this];grind
 have huY:h*2 ^ s+l / 2 ^ (64-s)<y*2 ^ s:=by
  have h1:(h*W64+l)*2 ^ s<y*W64*2 ^ s:=by
   refine Nat.mul_lt_mul_of_pos_right ?_ (Nat.pow_pos oM)
   have:(h+1)*W64≤y*W64:=Nat.mul_le_mul_right _ hh
   rw [Nat.add_mul] at this;omega
  rw [← htot] at h1
  have h2:y*W64*2 ^ s=y*2 ^ s*W64:=by grind
  rw [h2] at h1
  have h3:(h*2 ^ s+l / 2 ^ (64-s))*W64<y*2 ^ s*W64:=by omega
  exact Nat.lt_of_mul_lt_mul_right h3
 have hb:b32=4294967296:=rfl
 have hW:=W64_val
 generalize hYY:y*2 ^ s=Y at *
 generalize l*2 ^ s % W64=L at *
 generalize h*2 ^ s+l / 2 ^ (64-s)=u at *
 refine ⟨hYY.symm,hy1,?_,?_,?_,?_,huY,?_,hLW,?_,?_,htot⟩
 ·rw [Nat.mul_comm];exact (Nat.div_add_mod Y b32).symm
 ·simp only [hb,hW] at *;omega
 ·simp only [hb,hW] at *;omega
 ·exact Nat.mod_lt _ (by decide)
 ·rw [Nat.mul_comm];exact (Nat.div_add_mod L b32).symm
 ·simp only [hb,hW] at *;omega
 ·exact Nat.mod_lt _ (by decide)
theorem Parts.result {h l y s Y v1 v0 u L u1 u0:Nat} (P:Parts h l y s Y v1 v0 u L u1 u0) (r1:Nat) (hr1:r1=(u*b32+u1) % Y) :
  (h*W64+l) / y=(u*b32+u1) / Y*b32+(r1*b32+u0) / Y∧(h*W64+l) % y=(r1*b32+u0) % Y / 2 ^ s∧(u*b32+u1) / Y<b32∧(r1*b32+u0) / Y<b32∧r1<Y:=by
 have hY0:0<Y:=by have:=P.uY;omega
 have hr1Y:r1<Y:=by rw [hr1];exact Nat.mod_lt _ hY0
 have hs0:0<2 ^ s:=Nat.pow_pos oM
 have e1:=Nat.div_add_mod (u*b32+u1) Y
 rw [← hr1] at e1
 have e2:=Nat.div_add_mod (r1*b32+u0) Y
 have hm:=Nat.mod_lt (r1*b32+u0) hY0
 have tot:=P.tot
 rw [P.hL,W64_b] at tot
 rw [W64_b]
 have hU:(h*(b32*b32)+l)*2 ^ s=Y*((u*b32+u1) / Y*b32+(r1*b32+u0) / Y)+(r1*b32+u0) % Y:=by
  rw [← tot]
  have:u*(b32*b32)+(u1*b32+u0)=(u*b32+u1)*b32+u0:=by grind
  rw [this]
  generalize (u*b32+u1) / Y=Q1 at *
  generalize (r1*b32+u0) / Y=Q0 at *
  generalize (r1*b32+u0) % Y=r0 at *
  rw [← e1]
  have:(Y*Q1+r1)*b32+u0=Y*Q1*b32+(r1*b32+u0):=by grind
  rw [this,← e2];grind
 have hd:(h*(b32*b32)+l)*2 ^ s / Y=(u*b32+u1) / Y*b32+(r1*b32+u0) / Y:=by
  rw [hU,Nat.mul_add_div hY0,Nat.div_eq_of_lt hm,Nat.add_zero]
 have hmm:(h*(b32*b32)+l)*2 ^ s % Y=(r1*b32+u0) % Y:=by
  rw [hU,Nat.mul_add_mod,Nat.mod_eq_of_lt hm]
 refine ⟨?_,?_,?_,?_,hr1Y⟩
 ·rw [← hd,P.hY,Nat.mul_div_mul_right _ _ hs0]
 ·rw [← hmm,P.hY,Nat.mul_mod_mul_right,Nat.mul_div_cancel _ hs0]
 ·rw [Nat.div_lt_iff_lt_mul hY0]
  have h1:(u+1)*b32≤Y*b32:=Nat.mul_le_mul_right _ P.uY
  rw [Nat.add_mul] at h1
  have:=P.u1lt
  rw [Nat.mul_comm b32];omega
 ·rw [Nat.div_lt_iff_lt_mul hY0]
  have h1:(r1+1)*b32≤Y*b32:=Nat.mul_le_mul_right _ hr1Y
  rw [Nat.add_mul] at h1
  have:=P.u0lt
  rw [Nat.mul_comm b32];omega
theorem wrap_quo (u v:Nat) (hu:u<W64):IntKind.u64.wrap ((u:Int) / (v:Int))=((u / v:Nat):Int):=by
 have h1:u / v<W64:=Nat.lt_of_le_of_lt (Nat.div_le_self _ _) hu
 rw [show (u:Int) / (v:Int)=((u / v:Nat):Int) from rfl,wrapU64_nat]
 generalize u / v=z at *
 simp only [W64_val] at h1
 omega
theorem wrap_mod (u v:Nat) (hu:u<W64):IntKind.u64.wrap ((u:Int)-IntKind.u64.wrap (((u / v:Nat):Int)*v))=((u % v:Nat):Int):=by
 have e:=Nat.div_add_mod u v
 have h2:u / v*v≤u:=Nat.div_mul_le_self u v
 have h3:u % v≤u:=Nat.mod_le u v
 rw [← Int.natCast_mul,wrapU64,wrapU64]
 rw [Nat.mul_comm] at e
 generalize u / v*v=z at *
 generalize u % v=m at *
 simp only [W64_val] at hu
 omega
theorem wrap_rem (u c q Y:Nat) (hq:q=(u*b32+c) / Y) (hY:Y<W64) (hY0:0<Y) :
  IntKind.u64.wrap (IntKind.u64.wrap (IntKind.u64.wrap ((u:Int)*4294967296)+c)-IntKind.u64.wrap ((q:Int)*Y))=(((u*b32+c) % Y:Nat):Int):=by
 have e:=Nat.div_add_mod (u*b32+c) Y
 have hm:=Nat.mod_lt (u*b32+c) hY0
 rw [← hq] at e
 generalize (u*b32+c) % Y=m at *
 have hb:b32=4294967296:=rfl
 simp only [wrapU64]
 have e':(u:Int)*4294967296+c=(q:Int)*Y+m:=by
  have:(u:Int)*((b32:Nat):Int)+c=(Y:Int)*q+m:=by rw [← Int.natCast_mul,← Int.natCast_add,← Int.natCast_mul,← Int.natCast_add,e]
  rw [show ((b32:Nat):Int)=4294967296 from rfl] at this
  rw [this,Int.mul_comm]
 have h1:((u:Int)*4294967296 % 18446744073709551616+c) % 18446744073709551616=((q:Int)*Y+m) % 18446744073709551616:=by rw [Int.emod_add_emod,e']
 rw [h1]
 generalize (q:Int)*Y=z
 simp only [W64_val] at hY
 omega
theorem wrap_prod (q v:Nat) (hq:q<b32) (hv:v<b32):IntKind.u64.wrap ((q:Int)*(v:Int))=((q*v:Nat):Int):=by
 have h:q*v<W64:=by rw [W64_b];exact Nat.mul_lt_mul_of_lt_of_lt hq hv
 rw [← Int.natCast_mul,wrapU64_nat]
 generalize q*v=z at *
 simp only [W64_val] at h
 omega
theorem wrap_join (a c:Nat) (ha:a<b32) (hc:c<b32):IntKind.u64.wrap (IntKind.u64.wrap ((a:Int)*4294967296)+c)=((a*b32+c:Nat):Int):=by
 have ha':a<4294967296:=ha
 have hc':c<4294967296:=hc
 show _=((a*4294967296+c:Nat):Int)
 rw [wrapU64,wrapU64]
 omega
end Go.Proofs.YtbcfidllfimehaaGreatDoor
namespace Go.Proofs.YtbcfidllfimehaaGreatDoor
theorem knuth_low {P T D r v R V q:Nat} (hR:R=T*P+r) (hr:r<P) (hV:V=D*P+v) (hq:q*V≤R):q*D≤T:=by
 have h1:q*D*P≤R:=by
  have:q*V=q*D*P+q*v:=by rw [hV];grind
  omega
 have h2:q*D*P<(T+1)*P:=by rw [Nat.add_mul];omega
 have:=Nat.lt_of_mul_lt_mul_right h2
 omega
theorem knuth_high {B P T D r v R V g:Nat} (hR:R=T*P+r) (hV:V=D*P+v) (hv:v<P) (hB:0<B) (hg:g*D≤T) (hgB:g≤B) (hVB:B*P≤V):g*V<R+V:=by
 have e:g*V=g*D*P+g*v:=by rw [hV];grind
 have h1:g*D*P≤T*P:=Nat.mul_le_mul_right P hg
 have h2:g*v≤B*v:=Nat.mul_le_mul_right v hgB
 have h3:B*v<B*P:=Nat.mul_lt_mul_of_pos_left hv hB
 omega
theorem knuth_guess {B P T D r v R V g:Nat} (hR:R=T*P+r) (hr:r<P) (hV:V=D*P+v) (hv:v<P) (hB:0<B) (hRV:R<B*V) (hVB:B*P≤V)
  (hg:g*D≤T) (hgB:g<B) (hmax:T<(g+1)*D∨g=B-1):R / V≤g∧g≤R / V+1:=by
 have hV0:0<V:=by
  rcases Nat.eq_zero_or_pos V with h | h
  ·rw [h] at hRV;simp at hRV
  ·exact h
 have hq:R / V*V≤R:=Nat.div_mul_le_self R V
 have hqB:R / V<B:=Nat.div_lt_of_lt_mul (by rw [Nat.mul_comm];exact hRV)
 constructor
 ·have h1:=knuth_low hR hr hV hq
  rcases hmax with h | h
  ·have h2:R / V*D<(g+1)*D:=by omega
   have:=Nat.lt_of_mul_lt_mul_right h2
   omega
  ·omega
 ·have h1:=knuth_high hR hV hv hB hg oM hVB
  rcases Nat.eq_zero_or_pos g with h | h
  ·rw [h];exact Nat.zero_le _
  ·have h2:(g-1)*V<R+1:=by
    have:g*V=(g-1)*V+V:=by
     obtain ⟨k,rfl⟩:∃ k,g=k+1:=⟨g-1,by omega⟩
     rw [Nat.add_sub_cancel,Nat.add_mul,Nat.one_mul]
    omega
   have h3:=(Nat.le_div_iff_mul_le hV0).2 (show (g-1)*V≤R by omega)
   generalize R / V=q at *
   omega
theorem knuth_sub {M V R g d b:Nat} (hV:0<V) (hVM:V≤M) (h:d+g*V=R+b*M) (hd:d<M) (hR:R<M) (h1:R / V≤g) (h2:g≤R / V+1) :
  (b=0→g=R / V∧d=R % V)∧(b≠0→b=1∧g=R / V+1∧d+V=R % V+M):=by
 have hm:=Nat.div_add_mod R V
 have hlt:=Nat.mod_lt R hV
 rw [Nat.mul_comm] at hm
 generalize R / V=q at *
 generalize R % V=m at *
 obtain h3 | h3:g=q∨g=q+1:=by omega
 ·subst h3
  rcases Nat.eq_zero_or_pos b with hb | hb
  ·subst hb;refine ⟨fun _=>⟨rfl,by omega⟩,fun h=>absurd rfl h⟩
  ·exfalso
   have:1*M≤b*M:=Nat.mul_le_mul_right M hb
   omega
 ·subst h3
  rw [Nat.add_mul,Nat.one_mul] at h
  rcases Nat.eq_zero_or_pos b with hb | hb
  ·subst hb;exfalso;omega
  ·have hb1:b=1:=by
    rcases Nat.lt_or_ge b 2 with hh | hh
    ·omega
    ·have:2*M≤b*M:=Nat.mul_le_mul_right M hh
     omega
   subst hb1
   exact ⟨fun h=>absurd h oM,fun _=>⟨rfl,rfl,by omega⟩⟩
end Go.Proofs.YtbcfidllfimehaaGreatDoor
namespace Go.Proofs.YtbcfidllfimehaaGreatDoor
open Go.RowKit _root_.Go.Proofs.Tryz
set_option maxRecDepth 100000 in
set_option maxHeartbeats 800000 in
theorem div64_low (l y:Nat) (w:World) (hy0:0<y) (hl:l<W64) (hy:y<W64) :
  Calls prog 122 #[.int .u64 0,n64 l,n64 y] w fun e w'=>e=.returned (.tuple #[n64 (l / y),n64 (l % y)])∧Below w.heap.size w w':=by
 have t1:((y:Int) == 0)=false:=by simp;omega
 have t2:decide ((y:Int)≤0)=false:=by simp;omega
 have t3:¬ y=0:=by omega
 have q1:(l:Int).tdiv (y:Int)=((l / y:Nat):Int):=by rw [Int.tdiv_eq_ediv_of_nonneg (by omega)];rfl
 have q2:(l:Int).tmod (y:Int)=((l % y:Nat):Int):=by rw [Int.tmod_eq_emod_of_nonneg (by omega)];rfl
 have b1:l / y<W64:=Nat.lt_of_le_of_lt (Nat.div_le_self _ _) hl
 have b2:l % y<W64:=Nat.lt_of_le_of_lt (Nat.mod_le _ _) hl
 generalize l / y=Q at *
 generalize l % y=R at *
 have q3:IntKind.u64.wrap (Q:Int)=Q:=by rw [wrapU64];simp only [W64_val] at b1;omega
 have q4:IntKind.u64.wrap (R:Int)=R:=by rw [wrapU64];simp only [W64_val] at b2;omega
 clear hl hy b1 b2
 go_enter func122,ntmps122
 go_wp2
 go_quiet (fail)
 go_wp2
 go_ret2
 exact ⟨rfl,below_drewN' (Below.refl _ _) _⟩
set_option maxRecDepth 100000 in
set_option maxHeartbeats 1600000 in
theorem div64_high (h l y s:Nat) (w:World) (h0:0<h) (hhy:h<y) (hl:l<W64) (hy:y<W64) (hs:(64:Int)-(Lib.bitLen y:Int)=(s:Int)) (hs64:s<64) (hy1:y*2 ^ s<W64) (hy2:W64≤2*(y*2 ^ s)) :
  Calls prog 122 #[n64 h,n64 l,n64 y] w fun e w'=>e=.returned (.tuple #[n64 ((h*W64+l) / y),n64 ((h*W64+l) % y)])∧w=w':=by
 have hP:=parts h l y s hhy hl hs64 hy1 hy2
 have t1:((y:Int) == 0)=false:=by simp;omega
 have t2:decide (y≤h)=false:=by simp;omega
 have t3:((h:Int) == 0)=false:=by simp;omega
 have HS:=hid hs
 have hy':(y:Int)≤18446744073709551615:=by simp only [W64_val] at hy;omega
 have hhs:h*2 ^ s<W64:=Nat.lt_trans (Nat.mul_lt_mul_of_pos_right hhy (Nat.pow_pos oM)) hy1
 have eY:IntKind.u64.wrap ((y:Int)*2 ^ s)=((y*2 ^ s:Nat):Int):=by rw [shl_cast,Nat.mod_eq_of_lt hy1]
 have eL:IntKind.u64.wrap ((l:Int)*2 ^ s)=((l*2 ^ s % W64:Nat):Int):=shl_cast l s
 have eu:bits .or .u64 (IntKind.u64.wrap ((h:Int)*2 ^ s)) ((l:Int) / 2 ^ (64-s))=((h*2 ^ s+l / 2 ^ (64-s):Nat):Int):=by
  have hlt:l / 2 ^ (64-s)<2 ^ s:=shr_lt 64 s l oM (by rw [← W64_pow];exact hl)
  have hl2:l / 2 ^ (64-s)<W64:=Nat.lt_of_le_of_lt (Nat.div_le_self _ _) hl
  rw [shl_cast,Nat.mod_eq_of_lt hhs,shr_cast,u64_or_nat _ _ hhs hl2,Nat.or_comm,or_mul _ h s (2 ^ s) rfl hlt,Nat.add_comm]
 have eV0:=and_mask (y*2 ^ s) hy1
 have eU0:=and_mask (l*2 ^ s % W64) (Nat.mod_lt _ (by decide))
 have eV1:((y*2 ^ s:Nat):Int) / 4294967296=((y*2 ^ s / b32:Nat):Int):=rfl
 have eU1:((l*2 ^ s % W64:Nat):Int) / 4294967296=((l*2 ^ s % W64 / b32:Nat):Int):=rfl
 have HE:=hid (And.intro eY (And.intro eL (And.intro eu (And.intro eV0 (And.intro eU0 (And.intro eV1 eU1))))))
 clear hs eY eL eu eV0 eU0 eV1 eU1 hhs hl hy hy1 hy2
 go_enter func122,ntmps122
 go_wp2_with fail
 refine (Tryz.bits_LeadingZeros64 y w oM hy').mono ?_
 rintro e w1 ⟨rfl,rfl⟩
 rw [Int.toNat_natCast,HS.out]
 clear hy' t1 t2 t3
 go_upto_region 15 with (fail)
 rw [HE.out.1,HE.out.2.1,HE.out.2.2.1,HE.out.2.2.2.1,HE.out.2.2.2.2.1,HE.out.2.2.2.2.2.1,HE.out.2.2.2.2.2.2]
 clear HE HS
 generalize y*2 ^ s / b32=v1 at *
 generalize y*2 ^ s % b32=v0 at *
 generalize y*2 ^ s=Y at *
 generalize l*2 ^ s % W64 / b32=u1 at *
 generalize l*2 ^ s % W64 % b32=u0 at *
 generalize l*2 ^ s % W64=L at *
 generalize h*2 ^ s+l / 2 ^ (64-s)=u at *
 have hv1:1≤v1:=by have:=hP.v1lo;have:b32=4294967296:=rfl;omega
 have hv2:(1:Int)≤(v1:Int):=by omega
 have hu1:=hP.u1lt
 have huW:u<W64:=Nat.lt_trans hP.uY hP.hYW
 have hG:=Guess.start (B:=b32) (v1:=v1) (v0:=v0) (u:=u) (c:=u1) oM (by decide) hP.u1lt
 have hq0:u / v1≤b32+1:=hG.bound (by rw [← hP.hYv];exact hP.uY) hP.v1lo hP.v0lt
 have hr0:u % v1<b32:=Nat.lt_trans (Nat.mod_lt _ oM) hP.v1lt
 have HE:=hid (And.intro (wrap_quo u v1 huW) (wrap_mod u v1 huW))
 have HP:=hid hP
 clear hP huW
 go_upto_block 0 with (fail)
 rw [HE.out.1,HE.out.2]
 clear HE
 generalize u / v1=q0 at *
 generalize u % v1=r0 at *
 go_cut [15,16] (fun vq _ wx=>vq=.int .u64 (((u*b32+u1) / Y:Nat):Int)∧w1=wx)
 case first =>
  have hv1b:(v1:Int)<4294967296:=by have:v1<4294967296:=HP.out.v1lt;omega
  have hu1b:(u1:Int)<4294967296:=by have:u1<4294967296:=hu1;omega
  have hYv:(u*b32+u1) / Y=(u*b32+u1) / (v1*b32+v0):=by rw [← HP.out.hYv]
  have huY:u<v1*b32+v0:=by rw [← HP.out.hYv];exact HP.out.uY
  have HH:=hid (And.intro hYv (And.intro huY (And.intro HP.out.v0lt HP.out.u1lt)))
  have HG:=hid (And.intro hG (And.intro hq0 hr0))
  clear hG huY hu1 hYv hq0 hr0
  go_wp2
  go_loopg [15,16] q0 (fun g vq vr wr=>∃ q r:Nat,q=g∧vq=.int .u64 q∧vr=.int .u64 r∧Guess b32 v1 v0 u u1 q r∧(q:Int)≤4294967297∧(r:Int)<4294967296∧w1=wr)
  case atStart=>exact ⟨q0,r0,rfl,rfl,rfl,HG.out.1,by have:q0≤4294967297:=HG.out.2.1;omega,by have:r0<4294967296:=HG.out.2.2;omega,rfl⟩
  case round =>
   obtain ⟨q,r,hqg,rfl,rfl,hGq,hq1,hr1,rfl⟩:=hrel
   have HQ:=hid (And.intro hqg hGq)
   clear hqg hGq
   by_cases hqb:(4294967296:Int)≤(q:Int)
   ·have HD:=hid (HQ.out.2.down HH.out.2.1 HH.out.2.2.2 (.inl (by show 4294967296≤q;omega)))
    by_cases hov:(4294967296:Int)≤(r:Int)+v1
    ·go_wp2
     go_meet
     refine ⟨?_,rfl⟩
     have hd:=HD.out.2.done (by have:=HH.out.2.1;omega) (HD.out.2.over HH.out.2.1 HH.out.2.2.1 (by show 4294967296≤r+v1;omega)).2
     rw [HH.out.1,← hd]
     congr 1;omega
    ·go_wp2
     go_roundg (q-1)
     case measure=>have:=HQ.out.1;omega
     case rel=>exact ⟨q-1,r+v1,rfl,by congr 1;omega,by congr 1,HD.out.2,by omega,by omega,rfl⟩
   ·have hwp:=wrap_prod q v0 (by show q<4294967296;omega) HH.out.2.2.1
    by_cases hz:r*b32+u1<q*v0
    ·have HD:=hid (HQ.out.2.down HH.out.2.1 HH.out.2.2.2 (.inr hz))
     generalize q*v0=z at *
     have tz:decide (4294967296*(r:Int)+u1<(z:Int))=true:=by have:r*4294967296+u1<z:=hz;simp;omega
     have hq1:(0:Int)<q:=by have:=HD.out.1;omega
     have HZ:=hid hz
     clear hz
     by_cases hov:(4294967296:Int)≤(r:Int)+v1
     ·go_wp2
      go_meet
      refine ⟨?_,rfl⟩
      have hd:=HD.out.2.done (by have:=HH.out.2.1;omega) (HD.out.2.over HH.out.2.1 HH.out.2.2.1 (by show 4294967296≤r+v1;omega)).2
      rw [HH.out.1,← hd]
      congr 1;omega
     ·go_wp2
      go_roundg (q-1)
      case measure=>have:=HQ.out.1;omega
      case rel=>exact ⟨q-1,r+v1,rfl,by congr 1;omega,by congr 1,HD.out.2,by omega,by omega,rfl⟩
    ·have HD:=hid (HQ.out.2.done (by have:=HH.out.2.1;omega) oM)
     generalize q*v0=z at *
     have tz:decide (4294967296*(r:Int)+u1<(z:Int))=false:=by have:¬ r*4294967296+u1<z:=hz;simp;omega
     clear hz
     go_wp2
     go_meet
     refine ⟨?_,rfl⟩
     rw [HH.out.1,← HD.out]
 case rest =>
  obtain ⟨rfl,rfl⟩:=hcut
  clear hG hq0 hr0 hu1
  have hY0:0<Y:=by have:=HP.out.uY;omega
  have hrem:=wrap_rem u u1 ((u*b32+u1) / Y) Y rfl HP.out.hYW hY0
  have HR:=hid (HP.out.result ((u*b32+u1) % Y) rfl)
  have HRE:=hid hrem
  clear hrem hY0
  generalize (u*b32+u1) / Y=Q1 at *
  go_upto_region 22 with (fail)
  rw [HRE.out]
  clear HRE
  generalize (u*b32+u1) % Y=r1 at *
  have hr1W:r1<W64:=Nat.lt_trans HR.out.2.2.2.2 HP.out.hYW
  have hG:=Guess.start (B:=b32) (v1:=v1) (v0:=v0) (u:=r1) (c:=u0) oM (by decide) HP.out.u0lt
  have hq2:r1 / v1≤b32+1:=hG.bound (by rw [← HP.out.hYv];exact HR.out.2.2.2.2) HP.out.v1lo HP.out.v0lt
  have hr2:r1 % v1<b32:=Nat.lt_trans (Nat.mod_lt _ oM) HP.out.v1lt
  have HE:=hid (And.intro (wrap_quo r1 v1 hr1W) (wrap_mod r1 v1 hr1W))
  clear hr1W
  go_upto_block 2 with (fail)
  rw [HE.out.1,HE.out.2]
  clear HE
  generalize r1 / v1=q2 at *
  generalize r1 % v1=r2 at *
  go_cut [18,16] (fun vq _ wx=>vq=.int .u64 (((r1*b32+u0) / Y:Nat):Int)∧w1=wx)
  case first =>
   have hv1b:(v1:Int)<4294967296:=by have:v1<4294967296:=HP.out.v1lt;omega
   have hu0b:(u0:Int)<4294967296:=by have:u0<4294967296:=HP.out.u0lt;omega
   have hYv:(r1*b32+u0) / Y=(r1*b32+u0) / (v1*b32+v0):=by rw [← HP.out.hYv]
   have huY:r1<v1*b32+v0:=by rw [← HP.out.hYv];exact HR.out.2.2.2.2
   have HH:=hid (And.intro hYv (And.intro huY (And.intro HP.out.v0lt HP.out.u0lt)))
   have HG:=hid (And.intro hG (And.intro hq2 hr2))
   clear hG huY hYv hq2 hr2
   go_wp2
   go_loopg [18,16] q2 (fun g vq vr wr=>∃ q r:Nat,q=g∧vq=.int .u64 q∧vr=.int .u64 r∧Guess b32 v1 v0 r1 u0 q r∧(q:Int)≤4294967297∧(r:Int)<4294967296∧w1=wr)
   case atStart=>exact ⟨q2,r2,rfl,rfl,rfl,HG.out.1,by have:q2≤4294967297:=HG.out.2.1;omega,by have:r2<4294967296:=HG.out.2.2;omega,rfl⟩
   case round =>
    obtain ⟨q,r,hqg,rfl,rfl,hGq,hq1,hr1,rfl⟩:=hrel
    have HQ:=hid (And.intro hqg hGq)
    clear hqg hGq
    by_cases hqb:(4294967296:Int)≤(q:Int)
    ·have HD:=hid (HQ.out.2.down HH.out.2.1 HH.out.2.2.2 (.inl (by show 4294967296≤q;omega)))
     by_cases hov:(4294967296:Int)≤(r:Int)+v1
     ·go_wp2
      go_meet
      refine ⟨?_,rfl⟩
      have hd:=HD.out.2.done (by have:=HH.out.2.1;omega) (HD.out.2.over HH.out.2.1 HH.out.2.2.1 (by show 4294967296≤r+v1;omega)).2
      rw [HH.out.1,← hd]
      congr 1;omega
     ·go_wp2
      go_roundg (q-1)
      case measure=>have:=HQ.out.1;omega
      case rel=>exact ⟨q-1,r+v1,rfl,by congr 1;omega,by congr 1,HD.out.2,by omega,by omega,rfl⟩
    ·have hwp:=wrap_prod q v0 (by show q<4294967296;omega) HH.out.2.2.1
     by_cases hz:r*b32+u0<q*v0
     ·have HD:=hid (HQ.out.2.down HH.out.2.1 HH.out.2.2.2 (.inr hz))
      generalize q*v0=z at *
      have tz:decide (4294967296*(r:Int)+u0<(z:Int))=true:=by have:r*4294967296+u0<z:=hz;simp;omega
      have hq1:(0:Int)<q:=by have:=HD.out.1;omega
      have HZ:=hid hz
      clear hz
      by_cases hov:(4294967296:Int)≤(r:Int)+v1
      ·go_wp2
       go_meet
       refine ⟨?_,rfl⟩
       have hd:=HD.out.2.done (by have:=HH.out.2.1;omega) (HD.out.2.over HH.out.2.1 HH.out.2.2.1 (by show 4294967296≤r+v1;omega)).2
       rw [HH.out.1,← hd]
       congr 1;omega
      ·go_wp2
       go_roundg (q-1)
       case measure=>have:=HQ.out.1;omega
       case rel=>exact ⟨q-1,r+v1,rfl,by congr 1;omega,by congr 1,HD.out.2,by omega,by omega,rfl⟩
     ·have HD:=hid (HQ.out.2.done (by have:=HH.out.2.1;omega) oM)
      generalize q*v0=z at *
      have tz:decide (4294967296*(r:Int)+u0<(z:Int))=false:=by have:¬ r*4294967296+u0<z:=hz;simp;omega
      clear hz
      go_wp2
      go_meet
      refine ⟨?_,rfl⟩
      rw [HH.out.1,← HD.out]
  case rest =>
   obtain ⟨rfl,rfl⟩:=hcut
   obtain ⟨z1,z2,z3,z4,z5⟩:=HR.out
   have hY0:0<Y:=by have:=HP.out.uY;omega
   have hrem:=wrap_rem r1 u0 ((r1*b32+u0) / Y) Y rfl HP.out.hYW hY0
   have hj:=wrap_join Q1 ((r1*b32+u0) / Y) z3 z4
   have HF:=hid (And.intro hrem (And.intro hj (And.intro z1 z2)))
   clear hrem hj z1 z2 z3 z4 z5 hY0 HR
   generalize (r1*b32+u0) / Y=Q0 at *
   generalize (r1*b32+u0) % Y=R0 at *
   go_wp2
   go_ret2
   obtain ⟨hrem,hj,z1,z2⟩:=HF.out
   rw [hj,hrem,shr_cast,z1,z2]
   exact ⟨rfl,rfl⟩
theorem bitLen_bounds (y:Nat) (h0:y≠0) (hy:y<2 ^ 64):y<2 ^ Lib.bitLen y∧2 ^ (Lib.bitLen y-1)≤y∧0<Lib.bitLen y∧Lib.bitLen y≤64:=by
 induction y using Nat.strongRecOn with
 | ind y ih =>
  have hh:=Lib.bitLen_half y h0 hy
  by_cases h1:y / 2=0
  ·have:y=1:=by omega
   subst this
   decide
  ·have hi:=ih (y / 2) oM h1 oM
   have hle:=Lib.bitLen_le y 64 oM hy
   rw [hh] at hle ⊢
   generalize Lib.bitLen (y / 2)=k at *
   refine ⟨?_,?_,by omega,hle⟩
   ·rw [Nat.add_comm,Nat.pow_succ];omega
   ·obtain ⟨m,rfl⟩:∃ m,k=m+1:=⟨k-1,by omega⟩
    rw [Nat.add_sub_cancel] at hi
    rw [Nat.add_sub_cancel_left,Nat.pow_succ];omega
theorem div64_any (h l y:Nat) (w:World) (hhy:h<y) (hl:l<W64) (hy:y<W64) :
  Calls prog 122 #[n64 h,n64 l,n64 y] w fun e w'=>e=.returned (.tuple #[n64 ((h*W64+l) / y),n64 ((h*W64+l) % y)])∧Below w.heap.size w w':=by
 by_cases h0:h=0
 ·subst h0
  rw [Nat.zero_mul,Nat.zero_add]
  exact div64_low l y w oM hl hy
 ·have hb:=bitLen_bounds y oM (by rw [← W64_pow];exact hy)
  obtain ⟨s,hs⟩:∃ s,s=64-Lib.bitLen y:=⟨_,rfl⟩
  have e:2 ^ Lib.bitLen y*2 ^ s=W64:=by rw [← Nat.pow_add,W64_pow];congr 1;omega
  have e2:2*(2 ^ (Lib.bitLen y-1)*2 ^ s)=W64:=by
   rw [← Nat.pow_add,W64_pow,Nat.mul_comm,← Nat.pow_succ];congr 1;omega
  refine (div64_high h l y s w oM hhy hl hy oM oM ?_ ?_).mono ?_
  ·rw [← e];exact Nat.mul_lt_mul_of_pos_right hb.1 (Nat.pow_pos oM)
  ·rw [← e2];exact Nat.mul_le_mul_left 2 (Nat.mul_le_mul_right _ hb.2.1)
  ·rintro e w' ⟨rfl,rfl⟩
   exact ⟨rfl,Below.refl _ _⟩
theorem bl_unique {n k:Nat} (h0:n≠0) (h1:n<2 ^ k) (h2:2 ^ (k-1)≤n) (hk:0<k):bl n=k:=by
 have a:=bl_le h1
 have b:=lt_bl n
 have c:2 ^ (k-1)<2 ^ bl n:=by omega
 have:=(Nat.pow_lt_pow_iff_right (by omega:1<2)).1 c
 omega
theorem bl_bitLen (n:Nat) (h:n<W64):Lib.bitLen n=bl n:=by
 by_cases h0:n=0
 ·subst h0;rw [bl_zero];decide
 ·have hb:=bitLen_bounds n h0 (by rw [← W64_pow];exact h)
  exact (bl_unique h0 hb.1 hb.2.1 hb.2.2.1).symm
theorem bl_high (n:Nat) (k t:Nat) (hk:(hiW n).length=k+1) (ht:(hiW n)[k]'(by omega)=t):bl n=64*(k+1)+bl t:=by
 have hn:=hiW_norm n
 have hl:(hiW n).getLast?=some t:=by rw [List.getLast?_eq_getElem?,hk,Nat.add_sub_cancel,List.getElem?_eq_getElem oM,ht]
 have ht0:=hn.2 t hl
 have e:=lo_hi n
 have hlo:=lo_lt n
 have hd:=val_split W64 (hiW n) k oM
 have hlt:=val_lt (hn.1.take k)
 rw [List.length_take,Nat.min_eq_left (by omega)] at hlt
 rw [val_drop,List.drop_of_length_le oM,val_nil,Nat.mul_zero,Nat.add_zero,show (hiW n).getD k 0=t by simp [show k<(hiW n).length by omega,ht]] at hd
 have hW:W64 ^ (k+1)=2 ^ (64*(k+1)):=by rw [Nat.pow_mul,← W64_pow]
 have h1:=lt_bl t
 have h2:=le_bl ht0
 have hp:=bl_pos ht0
 have eN:n=t*W64 ^ (k+1)+(W64*val W64 ((hiW n).take k)+lo n):=by
  rw [Nat.pow_succ]
  have:W64*val W64 (hiW n)=W64*val W64 ((hiW n).take k)+t*(W64 ^ k*W64):=by rw [hd];grind
  omega
 have hr:W64*val W64 ((hiW n).take k)+lo n<W64 ^ (k+1):=by
  have:W64*(val W64 ((hiW n).take k)+1)≤W64*W64 ^ k:=Nat.mul_le_mul_left _ hlt
  rw [Nat.pow_succ,Nat.mul_comm (W64 ^ k)]
  rw [Nat.mul_add] at this;omega
 generalize W64*val W64 ((hiW n).take k)+lo n=r at *
 rw [hW] at eN hr
 refine bl_unique (fun h=>?_) ?_ ?_ oM
 ·have:1*2 ^ (64*(k+1))≤t*2 ^ (64*(k+1)):=Nat.mul_le_mul_right _ oM
  have:0<2 ^ (64*(k+1)):=Nat.pow_pos oM
  omega
 ·rw [Nat.pow_add]
  have:(t+1)*2 ^ (64*(k+1))≤2 ^ bl t*2 ^ (64*(k+1)):=Nat.mul_le_mul_right _ h1
  rw [Nat.add_mul] at this
  rw [Nat.mul_comm (2 ^ (64*(k+1)))];omega
 ·rw [show 64*(k+1)+bl t-1=64*(k+1)+(bl t-1) by omega,Nat.pow_add]
  have:2 ^ (bl t-1)*2 ^ (64*(k+1))≤t*2 ^ (64*(k+1)):=Nat.mul_le_mul_right _ h2
  rw [Nat.mul_comm (2 ^ (64*(k+1)))];omega
set_option maxRecDepth 100000 in
set_option maxHeartbeats 400000 in
theorem bits_small (n:Nat) (w:World) (h:n<W64) :
  Calls prog 117 #[natV n] w fun e w'=>e=.returned (.int .i64 (bl n:Int))∧Below w.heap.size w w':=by
 rw [natV_small h,← bl_bitLen n h]
 have hI:(n:Int)≤18446744073709551615:=by simp only [W64_val] at h;omega
 clear h
 go_enter func117,ntmps117
 go_wp2_with fail
 refine (Tryz.bits_Len64 n _ oM hI).mono ?_
 rintro e w1 ⟨rfl,rfl⟩
 go_wp2
 go_ret
 exact ⟨rfl,(Below.refl _ _).alloc (Nat.le_refl _) _⟩
set_option maxRecDepth 100000 in
set_option maxHeartbeats 800000 in
theorem bits_big (n:Nat) (w:World) (h:¬ n<W64) (hn:bl n≤1000000000) :
  Calls prog 117 #[natV n] w fun e w'=>e=.returned (.int .i64 (bl n:Int))∧Below w.heap.size w w':=by
 have hm:=moreB_ne h
 obtain ⟨k,hk⟩:∃ k,(hiW n).length=k+1:=by
  rcases Nat.eq_zero_or_pos (hiW n).length with e | e
  ·exact absurd (hiW_nil.1 (List.eq_nil_of_length_eq_zero e)) h
  ·exact ⟨(hiW n).length-1,by omega⟩
 have hms:(moreB n).size=8*k+8:=by rw [moreB_size,hk];omega
 have hmw:=more_word n k oM ((moreB n).extract (8*k) (8*k+8)) (ext_drop _ _ _ hms.symm)
 have hbh:=bl_high n k _ hk rfl
 have htW:=(hiW_norm n).1.get k oM
 generalize (hiW n)[k]'(by omega)=t at *
 have hkb:k≤100000000:=by omega
 have hes:((moreB n).extract (8*k) (8*k+8)).size≤100000000000:=by
  rw [← ba_list,ext_drop _ _ _ hms.symm,List.length_drop,ba_list,hms];omega
 have hbt:bl t≤64:=bl_le (by rw [← W64_pow];exact htW)
 have HW:=hid (word_quiet _ t · hmw.1 hes hmw.2)
 have hL:∀ w,Calls prog 159 #[n64 t] w fun e w'=>e=.returned (.int .i64 (bl t:Int))∧w'=w:=fun w=>by
  have:=Tryz.bits_Len64 t w oM (by simp only [W64_val] at htW;omega)
  rw [Int.toNat_natCast,bl_bitLen t htW] at this
  exact this
 have HLn:=hid hL
 have HB:=hid (And.intro hbh hms)
 clear hmw hbh htW hes hL hk hn
 have hms2:=HB.out.2
 have q1:IntKind.i64.wrap (8*(k:Int)+8-8)=8*(k:Int):=by rw [IntKind.wrap_i64];omega
 have q2:(8*(k:Int)).toNat=8*k:=by omega
 have q3:IntKind.i64.wrap (8*(8*(k:Int)+8))=64*(k:Int)+64:=by rw [IntKind.wrap_i64];omega
 have q4:(0:Int)≤8*(k:Int):=by omega
 have q5:8*(k:Int)≤8*(k:Int)+8:=by omega
 go_enter func117,ntmps117
 go_wp2
 go_quiet (first | (go_at_call 120;exact Calls.quiet_of (HW.out _)) | (go_at_call 159;exact Calls.quiet_of_same (HLn.out _)))
 go_wp2
 go_ret
 refine ⟨ret_int ?_,below_drewN' ((Below.refl _ _).alloc (Nat.le_refl _) _) _⟩
 rw [HB.out.1]
 first | omega | (rw [IntKind.wrap_i64];omega) | (simp only [IntKind.wrap_i64];omega)
theorem bits_any (n:Nat) (w:World) (hn:bl n≤1000000000) :
  Calls prog 117 #[natV n] w fun e w'=>e=.returned (.int .i64 (bl n:Int))∧Below w.heap.size w w':=by
 by_cases h:n<W64
 ·exact bits_small n w h
 ·exact bits_big n w h hn
set_option maxRecDepth 100000 in
set_option maxHeartbeats 400000 in
theorem cmp_diff (a b:Nat) (w:World) (h:(hiW a).length≠(hiW b).length) (ha:bl a≤1000000000) (hb:bl b≤1000000000) :
  Calls prog 190 #[natV a,natV b] w fun e w'=>e=.returned (.int .i64 (ordN a b))∧Below w.heap.size w w':=by
 have la:=moreB_size a
 have lb:=moreB_size b
 have ka:=hiW_len a
 have kb:=hiW_len b
 have hA:(hiW a).length≤100000000:=by omega
 have hB:(hiW b).length≤100000000:=by omega
 rcases Nat.lt_or_ge (hiW a).length (hiW b).length with hlt | hge
 ·rw [ordN_lt (cmp_len hlt)]
  generalize (hiW a).length=m at *
  generalize (hiW b).length=n at *
  clear ka kb ha hb
  have t1:(8*(m:Int) != 8*(n:Int))=true:=by simp;omega
  have t2:decide (8*m<8*n)=true:=by simp;omega
  have t3:decide (8*(m:Int)<8*(n:Int))=true:=by simp;omega
  clear h
  go_enter func190,ntmps190
  go_wp2
  go_ret
  exact ⟨rfl,((Below.refl _ _).alloc (Nat.le_refl _) _).alloc (by simp) _⟩
 ·rw [ordN_gt (cmp_len (show (hiW b).length<(hiW a).length by omega))]
  generalize (hiW a).length=m at *
  generalize (hiW b).length=n at *
  clear ka kb ha hb
  have t1:(8*(m:Int) != 8*(n:Int))=true:=by simp;omega
  have t2:decide (8*m<8*n)=false:=by simp;omega
  have t3:decide (8*(m:Int)<8*(n:Int))=false:=by simp;omega
  clear h
  go_enter func190,ntmps190
  go_wp2
  go_ret
  exact ⟨rfl,((Below.refl _ _).alloc (Nat.le_refl _) _).alloc (by simp) _⟩
set_option maxRecDepth 100000 in
set_option maxHeartbeats 800000 in
theorem cmp_same (a b n:Nat) (w:World) (ha:(hiW a).length=n) (hb:(hiW b).length=n) (hn:n≤100000000) :
  Calls prog 190 #[natV a,natV b] w fun e w'=>e=.returned (.int .i64 (ordN a b))∧Below w.heap.size w w':=by
 have la:(moreB a).size=8*n:=by rw [moreB_size,ha]
 have lb:(moreB b).size=8*n:=by rw [moreB_size,hb]
 have HL:=hid (And.intro ha hb)
 clear ha hb
 have t1:(8*(n:Int) != 8*(n:Int))=false:=by simp
 go_enter func190,ntmps190
 go_wp2
 have hK0:Below w.heap.size w ((w.alloc (.cells #[.int .u64 (lo a:Int),.string (moreB a)] 75)).alloc (.cells #[.int .u64 (lo b:Int),.string (moreB b)] 75)):=((Below.refl _ _).alloc (Nat.le_refl _) _).alloc (by simp) _
 have c0:((w.alloc (.cells #[.int .u64 (lo a:Int),.string (moreB a)] 75)).alloc (.cells #[.int .u64 (lo b:Int),.string (moreB b)] 75)).cell? ⟨w.heap.size,0,none⟩=some (.int .u64 (lo a:Int)):=by simp [go_sem]
 have c1:((w.alloc (.cells #[.int .u64 (lo a:Int),.string (moreB a)] 75)).alloc (.cells #[.int .u64 (lo b:Int),.string (moreB b)] 75)).cell? ⟨w.heap.size,1,none⟩=some (.string (moreB a)):=by simp [go_sem]
 have d0:((w.alloc (.cells #[.int .u64 (lo a:Int),.string (moreB a)] 75)).alloc (.cells #[.int .u64 (lo b:Int),.string (moreB b)] 75)).cell? ⟨w.heap.size+1,0,none⟩=some (.int .u64 (lo b:Int)):=by simp [go_sem]
 have d1:((w.alloc (.cells #[.int .u64 (lo a:Int),.string (moreB a)] 75)).alloc (.cells #[.int .u64 (lo b:Int),.string (moreB b)] 75)).cell? ⟨w.heap.size+1,1,none⟩=some (.string (moreB b)):=by simp [go_sem]
 generalize ((w.alloc (.cells #[.int .u64 (lo a:Int),.string (moreB a)] 75)).alloc (.cells #[.int .u64 (lo b:Int),.string (moreB b)] 75))=W0 at *
 go_loopg [5,6,7] n (fun g vi _ _ wr=>g≤n∧vi=.int .i64 (8*(g:Int)-8)∧(hiW a).drop g=(hiW b).drop g∧wr.cell? ⟨w.heap.size,0,none⟩=some (.int .u64 (lo a:Int))∧wr.cell? ⟨w.heap.size,1,none⟩=some (.string (moreB a))∧wr.cell? ⟨w.heap.size+1,0,none⟩=some (.int .u64 (lo b:Int))∧wr.cell? ⟨w.heap.size+1,1,none⟩=some (.string (moreB b))∧Below w.heap.size w wr)
 case atStart=>exact ⟨Nat.le_refl _,rfl,by rw [List.drop_of_length_le (by have:=HL.out.1;omega),List.drop_of_length_le (by have:=HL.out.2;omega)],c0,c1,d0,d1,hK0⟩
 case round =>
  clear c0 c1 d0 d1 hK0
  obtain ⟨hg,rfl,hd,c0,c1,d0,d1,hK⟩:=hrel
  have HD:=hid hd
  clear hd
  by_cases h0:gk=0
  ·subst h0
   go_wp2_with fail
   refine (cmpWord_any (lo a) (lo b) wr).mono ?_
   rintro e w1 ⟨rfl,rfl⟩
   go_wp2
   go_ret
   have hd:=HD.out
   rw [List.drop_zero,List.drop_zero] at hd
   rw [cmp_low hd]
   exact ⟨rfl,hK⟩
  ·obtain ⟨k,rfl⟩:∃ k,gk=k+1:=⟨gk-1,by omega⟩
   rw [show 8*((k+1:Nat):Int)-8=8*(k:Int) by omega]
   have hka:k<(hiW a).length:=by have:=HL.out.1;omega
   have hkb:k<(hiW b).length:=by have:=HL.out.2;omega
   have wa:=more_word a k hka ((moreB a).extract (8*k) (8*n)) (ext_drop _ _ _ la.symm)
   have wb:=more_word b k hkb ((moreB b).extract (8*k) (8*n)) (ext_drop _ _ _ lb.symm)
   have sa:((moreB a).extract (8*k) (8*n)).size≤100000000000:=by rw [← ba_list,ext_drop _ _ _ la.symm,List.length_drop,ba_list,la];omega
   have sb:((moreB b).extract (8*k) (8*n)).size≤100000000000:=by rw [← ba_list,ext_drop _ _ _ lb.symm,List.length_drop,ba_list,lb];omega
   have ga:(hiW a).getD k 0=(hiW a)[k]:=by simp [hka]
   have gb:(hiW b).getD k 0=(hiW b)[k]:=by simp [hkb]
   have ea:(hiW a).drop k=(hiW a)[k]::(hiW a).drop (k+1):=List.drop_eq_getElem_cons hka
   have eb:(hiW b).drop k=(hiW b)[k]::(hiW b).drop (k+1):=List.drop_eq_getElem_cons hkb
   generalize (hiW a)[k]=x at *
   generalize (hiW b)[k]=y at *
   have wqa:∀ w,Calls prog 120 #[.string ((moreB a).extract (8*k) (8*n))] w fun e w'=>e=.returned (n64 x)∧∃ k,w'=w.drewN k:=fun w=>word_quiet _ x w wa.1 sa wa.2
   have wqb:∀ w,Calls prog 120 #[.string ((moreB b).extract (8*k) (8*n))] w fun e w'=>e=.returned (n64 y)∧∃ k,w'=w.drewN k:=fun w=>word_quiet _ y w wb.1 sb wb.2
   have HE:=hid (And.intro ga (And.intro gb (And.intro ea (And.intro eb (And.intro hka hkb)))))
   clear wa wb sa sb ga gb ea eb hka hkb h0
   have q1:(0:Int)≤8*(k:Int):=by omega
   have q2:8*(k:Int)≤8*(n:Int):=by omega
   have q3:(8*(k:Int)).toNat=8*k:=by omega
   by_cases hxy:x=y
   ·subst hxy
    have tx:((x:Int) != (x:Int))=false:=by simp
    go_wp2
    go_quiet (first | (go_at_call 120;with_reducible exact Calls.quiet_of (wqa _)) | (go_at_call 120;with_reducible exact Calls.quiet_of (wqb _)))
    go_wp2
    go_roundg k
    case measure=>omega
    case rel=>exact ⟨by omega,rfl,by rw [HE.out.2.2.1,HE.out.2.2.2.1,HD.out],c0,c1,d0,d1,below_drewN' hK _⟩
   ·have tx:((x:Int) != (y:Int))=true:=by simp;omega
    have HXY:=hid hxy
    clear hxy
    go_wp2
    go_quiet (first | (go_at_call 120;with_reducible exact Calls.quiet_of (wqa _)) | (go_at_call 120;with_reducible exact Calls.quiet_of (wqb _)))
    go_wp2_with fail
    refine (cmpWord_any x y _).mono ?_
    rintro e w1 ⟨rfl,rfl⟩
    go_wp2
    go_ret
    obtain ⟨ga,gb,_,_,hka,hkb⟩:=HE.out
    have hc:=cmp_word (a:=a) (b:=b) (k:=k) (by have:=HL.out;omega) hka HD.out (by rw [ga,gb];exact HXY.out)
    rw [ga,gb] at hc
    rw [hc]
    exact ⟨rfl,below_drewN' hK _⟩
theorem cmp_any (a b:Nat) (w:World) (ha:bl a≤1000000000) (hb:bl b≤1000000000) :
  Calls prog 190 #[natV a,natV b] w fun e w'=>e=.returned (.int .i64 (ordN a b))∧Below w.heap.size w w':=by
 by_cases h:(hiW a).length=(hiW b).length
 ·have ka:=hiW_len a
  exact cmp_same a b (hiW b).length w h rfl oM
 ·exact cmp_diff a b w h ha hb
def addLo (x y c:Nat):Nat:=(x+y+c) % W64
def addHi (x y c:Nat):Nat:=(x+y+c) / W64
def subLo (x y b:Nat):Nat:=(x+W64-y-b) % W64
def subHi (x y b:Nat):Nat:=if x<y+b then 1 else 0
theorem add_parts {x y c:Nat} (hx:x<W64) (hy:y<W64) (hc:c≤1):addLo x y c+addHi x y c*W64=x+y+c∧addLo x y c<W64∧addHi x y c≤1:=by
 unfold addLo addHi
 have:=W64_val
 simp only [W64_val] at *
 omega
theorem sub_parts {x y b:Nat} (hx:x<W64) (hy:y<W64) (hb:b≤1):subLo x y b+y+b=x+subHi x y b*W64∧subLo x y b<W64∧subHi x y b≤1:=by
 unfold subLo subHi
 simp only [W64_val] at *
 split <;> omega
theorem add64_run (x y c:Nat) (w:World) (hc:c≤1):(callFunc 119 #[.int .u64 (x:Int),.int .u64 (y:Int),.int .u64 (c:Int)]).run prog w=.ok (.value (.tuple #[.int .u64 (addLo x y c:Int),.int .u64 (addHi x y c:Int)])) w:=by
 rw [run_callFunc_extern func119 kR kR kR (e:=add64Entry) kR,run_add64 x y c oM oM oM (by omega)]
 simp only [Result.andThen]
 rfl
theorem add64_run0 (x y:Nat) (w:World):(callFunc 119 #[.int .u64 (x:Int),.int .u64 (y:Int),.int .u64 0]).run prog w=.ok (.value (.tuple #[.int .u64 (addLo x y 0:Int),.int .u64 (addHi x y 0:Int)])) w:=add64_run x y 0 w oM
theorem sub64_run (x y b:Nat) (w:World) (hb:b≤1):(callFunc 246 #[.int .u64 (x:Int),.int .u64 (y:Int),.int .u64 (b:Int)]).run prog w=.ok (.value (.tuple #[.int .u64 (subLo x y b:Int),.int .u64 (subHi x y b:Int)])) w:=by
 rw [run_callFunc_extern func246 kR kR kR (e:=sub64Entry) kR,run_sub64 x y b hb]
 rfl
theorem mul_lt {m n o c:Nat} (hm:m<W64) (hn:n<W64) (ho:o<W64) (hc:c<W64):m*n+o+c<W64*W64:=by
 have h1:m*n≤(W64-1)*(W64-1):=Nat.mul_le_mul oM oM
 have h2:(W64-1)*(W64-1)+(W64-1)+(W64-1)<W64*W64:=by decide
 omega
theorem mul_step {m n o c:Nat} (hm:m<W64) (hn:n<W64) (ho:o<W64) (hc:c<W64) :
  addLo (addLo (m*n % W64) o 0) c 0=(m*n+o+c) % W64 ∧
  IntKind.u64.wrap (IntKind.u64.wrap (((m*n / W64:Nat):Int)+(addHi (m*n % W64) o 0:Int))+(addHi (addLo (m*n % W64) o 0) c 0:Int))=(((m*n+o+c) / W64:Nat):Int)∧(m*n+o+c) / W64<W64:=by
 have hlt:=mul_lt hm hn ho hc
 have hq:(m*n+o+c) / W64<W64:=Nat.div_lt_of_lt_mul hlt
 have e:=Nat.div_add_mod (m*n) W64
 have hl:=Nat.mod_lt (m*n) (show 0<W64 by decide)
 generalize m*n / W64=hi at *
 generalize m*n % W64=lw at *
 generalize m*n=P at *
 subst e
 unfold addLo addHi
 rw [wrapU64,wrapU64]
 simp only [W64_val] at *
 omega
theorem mul_round (out y:List Nat) (X i j m c k:Nat) (hk:k=i+j) (hlen:k<out.length) (hm:m<W64) (hc:c<W64) (hD:Dig W64 out) (hDy:Dig W64 y)
  (hv:val W64 out+c*W64 ^ k=X+m*W64 ^ i*val W64 (y.take j)) :
  val W64 (out.set k ((m*y.getD j 0+out.getD k 0+c) % W64))+(m*y.getD j 0+out.getD k 0+c) / W64*W64 ^ (k+1)=X+m*W64 ^ i*val W64 (y.take (j+1)):=by
 have v1:=val_set W64 out k ((m*y.getD j 0+out.getD k 0+c) % W64) hlen
 have e:=Nat.div_add_mod (m*y.getD j 0+out.getD k 0+c) W64
 rw [val_take_succ]
 generalize y.getD j 0=n at *
 generalize out.getD k 0=o at *
 generalize (m*n+o+c) % W64=s at *
 generalize (m*n+o+c) / W64=t at *
 have e3:W64 ^ k=W64 ^ i*W64 ^ j:=by rw [hk,Nat.pow_add]
 rw [Nat.pow_succ]
 have e4:t*(W64 ^ k*W64)+s*W64 ^ k=(m*n+o+c)*W64 ^ k:=by rw [← e];grind
 have e5:m*W64 ^ i*(val W64 (y.take j)+n*W64 ^ j)=m*W64 ^ i*val W64 (y.take j)+m*n*W64 ^ k:=by rw [e3];grind
 rw [e5,← Nat.add_assoc,← hv]
 rw [Nat.add_mul,Nat.add_mul] at e4
 omega
set_option maxRecDepth 100000 in
set_option maxHeartbeats 1600000 in
theorem mulWords_any (a a':Option Addr) (cap cap':Nat) (x y:List Nat) (w:World) (hSx:Sl n64 w (.slice a x.length cap) x) (hSy:Sl n64 w (.slice a' y.length cap') y) (hDx:Dig W64 x) (hDy:Dig W64 y) (hx:x.length≤100000000) (hy:y.length≤100000000) :
  Calls prog 79 #[.slice a x.length cap,.slice a' y.length cap'] w fun e w'=>∃ out,e=.returned (.slice (some ⟨w.heap.size,0,none⟩) (x.length+y.length) (x.length+y.length))∧Blk n64 w' w.heap.size out∧out.length=x.length+y.length∧Dig W64 out∧val W64 out=val W64 x*val W64 y∧Below w.heap.size w w':=by
 have hmk:=make_u64z ((x.length:Int)+y.length) (x.length+y.length) oM oM
 go_enter func79,ntmps79
 go_wp2
 have hB0:=mk64_blk w (x.length+y.length)
 have hK0:=mk64_below (Below.refl w.heap.size w) (Nat.le_refl _) (x.length+y.length)
 generalize mk64 w (x.length+y.length)=W0 at *
 clear hmk
 have ha:=add64_run0
 go_loopg [6,7,8,9,10,11,12,13,14,23,30] x.length (fun g _ _ _ _ _ _ _ _ _ vi _ wr=>∃ (i:Nat) (out:List Nat),i+g=x.length∧vi=.int .i64 i∧Blk n64 wr w.heap.size out∧out.length=x.length+y.length∧Dig W64 out∧val W64 out=val W64 (x.take i)*val W64 y∧(∀ k,i+y.length≤k→out.getD k 0=0)∧Below w.heap.size w wr)
 case atStart=>exact ⟨0,List.replicate (x.length+y.length) 0,by omega,rfl,hB0,by simp,Dig.zeros (by decide) _,by rw [val_zeros];simp [val],fun k _=>by simp [List.getD_eq_getElem?_getD,List.getElem?_replicate];split <;> simp,hK0⟩
 case round =>
  obtain ⟨i,out,hi,rfl,hB,hol,hoD,hov,hoz,hK⟩:=hrel
  have HI:=hid (And.intro hi (And.intro hol (And.intro hov hoz)))
  clear hi hol hov hoz
  by_cases hlt:i<x.length
  ·obtain ⟨b,off,rfl,hb,hc⟩:=hSx.at i hlt
   have hcr:=(hK.cell (p:=⟨b,off+i,none⟩) hb).trans hc
   have hm:=hDx.get i hlt
   have hts:=val_take_succ W64 x i
   rw [show x.getD i 0=x[i] by simp [hlt]] at hts
   generalize x[i]=m at *
   have HT:=hid hts
   clear hts hc
   have hd1:decide ((i:Int)<(x.length:Int))=true:=by simp;omega
   have hd2:decide (i<x.length)=true:=by simp;omega
   go_wp2
   go_loopg [8,9,10,11,12,13,14,30] y.length (fun g vc _ _ _ _ _ _ vj wr=>∃ (j c:Nat) (o2:List Nat),j+g=y.length∧vj=.int .i64 j∧vc=.int .u64 c∧c<W64∧Blk n64 wr w.heap.size o2∧o2.length=x.length+y.length∧Dig W64 o2∧val W64 o2+c*W64 ^ (i+j)=val W64 out+m*W64 ^ i*val W64 (y.take j)∧(∀ k,i+y.length≤k→o2.getD k 0=0)∧Below w.heap.size w wr)
   case atStart=>exact ⟨0,0,out,by omega,rfl,rfl,by decide,hB,HI.out.2.1,hoD,by simp [val],HI.out.2.2.2,hK⟩
   case round =>
    obtain ⟨j,c,o2,hj,rfl,rfl,hcW,hB2,hol2,hoD2,hov2,hoz2,hK2⟩:=hrel
    have HJ:=hid (And.intro hj (And.intro hol2 (And.intro hov2 hoz2)))
    clear hj hol2 hov2 hoz2
    by_cases hjl:j<y.length
    ·obtain ⟨b2,off2,rfl,hb2,hc2⟩:=hSy.at j hjl
     have hcr2:=(hK2.cell (p:=⟨b2,off2+j,none⟩) hb2).trans hc2
     have hn:=hDy.get j hjl
     have hgn:Hid (y.getD j 0=y[j]):=by show _=_;simp [hjl]
     generalize y[j]=n at *
     have hkl:i+j<o2.length:=by have:=HJ.out.2.1;omega
     have hco:=hB2.cell (i+j) hkl
     have ho:=hoD2.get (i+j) hkl
     have hgo:Hid (o2.getD (i+j) 0=o2[i+j]):=by show _=_;simp [hkl]
     generalize o2[i+j]=o at *
     have hfo:=hB2.free (i+j)
     have q1:i+j<x.length+y.length:=by omega
     clear hc2
     go_wp2_with fail
     refine (Tryz.bits_Mul64 m n hm hn wr).mono ?_
     rintro e w3 ⟨rfl,rfl⟩
     generalize hlw:m*n % 18446744073709551616=lw
     generalize hhi:m*n / 18446744073709551616=hi
     have HM:=hid (And.intro hlw hhi)
     clear hlw hhi
     go_wp2
     go_roundg (gk-1)
     case measure=>have:=HJ.out.1;omega
     case rel =>
      obtain ⟨hj,hol2,hov2,hoz2⟩:=HJ.out
      obtain ⟨hlw,hhi⟩:=HM.out
      have hs:=mul_step hm hn ho hcW
      rw [show m*n % W64=lw from hlw,show m*n / W64=hi from hhi] at hs
      have hmr:=mul_round o2 y (val W64 out) i j m c (i+j) rfl hkl hm hcW hoD2 hDy hov2
      rw [hgn.out,hgo.out] at hmr
      rw [hs.1,hs.2.1]
      refine ⟨j+1,(m*n+o+c) / W64,o2.set (i+j) ((m*n+o+c) % W64),by omega,by go_num,rfl,hs.2.2,hB2.set (i+j) _,by simpa using hol2,hoD2.set _ _ (Nat.mod_lt _ (by decide)),hmr,fun k hk=>?_,hK2.setCell (p:=⟨w.heap.size,i+j,none⟩) (Nat.le_refl _) _⟩
      rw [getD_set_ne _ _ _ _ (by omega)];exact hoz2 k hk
    ·obtain ⟨hj,hol2,hov2,hoz2⟩:=HJ.out
     obtain ⟨hi,hol,hov,hoz⟩:=HI.out
     obtain rfl:j=y.length:=by omega
     rw [List.take_length] at hov2
     have hkl:i+y.length<o2.length:=by omega
     obtain ⟨v0,hco⟩:=hB2.has (i+y.length) hkl
     have hfo:=hB2.free (i+y.length)
     have q1:i+y.length<x.length+y.length:=by omega
     have HK:=hid (And.intro hol2 (And.intro hov2 (And.intro hoz2 hov)))
     clear hol2 hov2 hoz2 hi hol hov hoz hj
     go_wp2
     go_roundg (x.length-(i+1))
     case measure=>have:=HI.out.1;omega
     case rel =>
      obtain ⟨hol2,hov2,hoz2,hov⟩:=HK.out
      refine ⟨i+1,o2.set (i+y.length) c,by omega,by go_num,hB2.set (i+y.length) c,by simpa using hol2,hoD2.set _ _ hcW,?_,fun k hk=>?_,hK2.setCell (p:=⟨w.heap.size,i+y.length,none⟩) (Nat.le_refl _) _⟩
      ·have v1:=val_set W64 o2 (i+y.length) c hkl
       rw [hoz2 _ (Nat.le_refl _),Nat.zero_mul,Nat.add_zero] at v1
       rw [v1,hov2,hov,HT.out,Nat.add_mul]
      ·rw [getD_set_ne _ _ _ _ (by omega)];exact hoz2 k oM
  ·obtain ⟨hi,hol,hov,hoz⟩:=HI.out
   obtain rfl:i=x.length:=by omega
   rw [List.take_length] at hov
   go_wp2
   go_ret
   exact ⟨out,rfl,hB,hol,hoD,hov,hK⟩
set_option maxRecDepth 100000 in
set_option maxHeartbeats 400000 in
theorem mul_one (a b:Nat) (w:World) (ha:a<W64) (hb:b<W64) (hab:a*b<W64) :
  Calls prog 34 #[natV a,natV b] w fun e w'=>e=.returned (natV (a*b))∧Below w.heap.size w w':=by
 obtain ⟨p,hp⟩:∃ p,p=a*b:=⟨_,rfl⟩
 rw [natV_small ha,natV_small hb,← hp,natV_small (by rw [hp];exact hab)]
 have e1:a*b / 18446744073709551616=0:=Nat.div_eq_of_lt hab
 have e2:a*b % 18446744073709551616=a*b:=Nat.mod_eq_of_lt hab
 have HE:=hid (And.intro e1 e2)
 clear e1 e2
 go_enter func34,ntmps34
 go_wp2_with fail
 refine (Tryz.bits_Mul64 a b ha hb _).mono ?_
 rintro e w1 ⟨rfl,rfl⟩
 rw [HE.out.1,HE.out.2]
 rw [← hp]
 have HP:=hid hp
 clear hp hab HE
 go_wp2
 refine bodyPost_ret (v:=.agg #[.int .u64 (p:Int),.string ⟨#[]⟩]) (by simp [results,Tryz.results34,go_sem]) rfl ⟨rfl,?_⟩
 exact (((Below.refl _ _).alloc (Nat.le_refl _) _).alloc (by simp) _).alloc (by simp;omega) _
set_option maxRecDepth 100000 in
set_option maxHeartbeats 400000 in
theorem mul_two (a b:Nat) (w:World) (ha:a<W64) (hb:b<W64) (hab:¬ a*b<W64) :
  Calls prog 34 #[natV a,natV b] w fun e w'=>e=.returned (natV (a*b))∧Below w.heap.size w w':=by
 have hv:val W64 [a*b % W64,a*b / W64]=a*b:=by simp only [val];have:=Nat.mod_add_div (a*b) W64;omega
 have h1:a*b % W64<W64:=Nat.mod_lt _ (by decide)
 have h2:a*b / W64<W64:=Nat.div_lt_of_lt_mul (Nat.mul_lt_mul_of_lt_of_lt ha hb)
 have h3:a*b / W64≠0:=fun e=>hab (by have:=Nat.div_eq_zero_iff.1 e;have:=W64_two;omega)
 rw [natV_small ha,natV_small hb]
 go_enter func34,ntmps34
 go_wp2_with fail
 refine (Tryz.bits_Mul64 a b ha hb _).mono ?_
 rintro e w1 ⟨rfl,rfl⟩
 rw [show a*b % 18446744073709551616=a*b % W64 from rfl,show a*b / 18446744073709551616=a*b / W64 from rfl]
 generalize a*b % W64=lw at *
 generalize a*b / W64=hi at *
 have t1:((hi:Int) == 0)=false:=by simp;omega
 have HV:=hid (And.intro hv h3)
 clear hv h3 hab ha hb
 go_wp2_with fail
 have hblk:=Blk.new n64 (((w.alloc (.cells #[.int .u64 (a:Int),.string ⟨#[]⟩] 75)).alloc (.cells #[.int .u64 (b:Int),.string ⟨#[]⟩] 75)).alloc (.cells #[.int .u64 0,.string ⟨#[]⟩] 75)) [lw,hi] 73
 have hsl:=hblk.sl 2
 have hsz:(((w.alloc (.cells #[.int .u64 (a:Int),.string ⟨#[]⟩] 75)).alloc (.cells #[.int .u64 (b:Int),.string ⟨#[]⟩] 75)).alloc (.cells #[.int .u64 0,.string ⟨#[]⟩] 75)).heap.size=w.heap.size+1+1+1:=by simp
 rw [hsz] at hsl
 have hfw:=fromWords_any (some ⟨w.heap.size+1+1+1,0,none⟩) 2 [lw,hi] _ hsl (Dig.cons h1 (Dig.cons h2 (Dig.nil _))) (by simp) (by simp)
 rw [HV.out.1] at hfw
 refine hfw.mono ?_
 rintro e w2 ⟨rfl,hb2⟩
 have hr:w2.heap[w.heap.size+1+1]?=some (.cells #[.int .u64 0,.string ⟨#[]⟩] 75 (0,0)):=by
  rw [hb2.block (w.heap.size+1+1) (by simp),Below.heap_alloc _ _ _ (by simp)]
  have:=heap_alloc_new ((w.alloc (.cells #[.int .u64 (a:Int),.string ⟨#[]⟩] 75)).alloc (.cells #[.int .u64 (b:Int),.string ⟨#[]⟩] 75)) (.cells #[.int .u64 0,.string ⟨#[]⟩] 75)
  simpa using this
 have hz2:w.heap.size+1+1<w2.heap.size:=lt_of_block hr
 have r0:w2.cell? ⟨w.heap.size+1+1,0,none⟩=some (.int .u64 0):=by rw [Lib.cell_of_heap hr];rfl
 have r1:w2.cell? ⟨w.heap.size+1+1,1,none⟩=some (.string ⟨#[]⟩):=by rw [Lib.cell_of_heap hr];rfl
 have rf0:w2.frozen? ⟨w.heap.size+1+1,0,none⟩=false:=Lib.frozen_of_heap hr 0
 have rf1:w2.frozen? ⟨w.heap.size+1+1,1,none⟩=false:=Lib.frozen_of_heap hr 1
 have hK:Below w.heap.size w w2:=((((Below.refl _ _).alloc (Nat.le_refl _) _).alloc (by simp) _).alloc (by simp;omega) _).alloc (by simp;omega) _ |>.trans (hb2.mono (by simp;omega))
 clear hfw hsl hblk hr hb2 hsz
 go_wp2
 refine bodyPost_ret (v:=natV (a*b)) (by simp [results,Tryz.results34,go_sem,r0,r1]) rfl ⟨rfl,?_⟩
 exact (hK.setCell (p:=⟨w.heap.size+1+1,0,none⟩) (by simp;omega) _).setCell (p:=⟨w.heap.size+1+1,1,none⟩) (by simp;omega) _
set_option maxRecDepth 100000 in
set_option maxHeartbeats 800000 in
theorem shiftUp_any (a:Option Addr) (cap W p:Nat) (l:List Nat) (w:World) (hS:Sl n64 w (.slice a l.length cap) l) (hD:Dig W64 l) (hl:l.length≤100000000) (hW:W≤100000000) (hp:p<64) :
  Calls prog 244 #[.slice a l.length cap,.int .i64 (64*(W:Int)+p)] w fun e w'=>∃ out,e=.returned (.slice (some ⟨w.heap.size,0,none⟩) (l.length+W+1) (l.length+W+1))∧Blk n64 w' w.heap.size out∧out.length=l.length+W+1∧Dig W64 out∧val W64 out=val W64 l*2 ^ (64*W+p)∧Below w.heap.size w w':=by
 have e1:(64*(W:Int)+p) / 64=W:=by omega
 have e2:(64*(W:Int)+p) % 64=p:=by omega
 have hmk:=make_u64z ((l.length:Int)+W+1) (l.length+W+1) oM oM
 go_enter func244,ntmps244
 go_wp2
 rw [e1,e2]
 have hB0:=mk64_blk w (l.length+W+1)
 have hK0:=mk64_below (Below.refl w.heap.size w) (Nat.le_refl _) (l.length+W+1)
 generalize mk64 w (l.length+W+1)=W0 at *
 clear e1 e2 hmk
 go_loopg [8,9,23] l.length (fun g _ _ i wr=>∃ (j:Nat) (out:List Nat),j+g=l.length∧i=.int .i64 j∧Blk n64 wr w.heap.size out∧out.length=l.length+W+1∧Dig W64 out∧val W64 out=val W64 (l.take j)*2 ^ (64*W+p)∧out.getD (j+W) 0<2 ^ p∧(∀ i,j+W<i→out.getD i 0=0)∧Below w.heap.size w wr)
 case atStart=>exact ⟨0,List.replicate (l.length+W+1) 0,by omega,rfl,hB0,by simp,Dig.zeros (by decide) _,by rw [val_zeros];simp [val],by simp [List.getD_eq_getElem?_getD,List.getElem?_replicate];split <;> simp <;> exact Nat.pow_pos oM,fun i _=>by simp [List.getD_eq_getElem?_getD,List.getElem?_replicate];split <;> simp,hK0⟩
 case round =>
  obtain ⟨j,out,hj,rfl,hB,hol,hoD,hov,hop,hoz,hK⟩:=hrel
  have HJ:=hid (And.intro hj (And.intro hol (And.intro hov hoz)))
  clear hj hol hov hoz
  by_cases hlt:j<l.length
  ·obtain ⟨b,off,rfl,hb,hc⟩:=hS.at j hlt
   have hcr:=(hK.cell (p:=⟨b,off+j,none⟩) hb).trans hc
   have hx:=hD.get j hlt
   have hts:=val_take_succ W64 l j
   rw [show l.getD j 0=l[j] by simp [hlt]] at hts
   generalize l[j]=x at *
   have HT:=hid hts
   clear hts hc
   have hjl:j+W<out.length:=by have:=HJ.out.2.1;omega
   have hjl2:j+W+1<out.length:=by have:=HJ.out.2.1;omega
   have hco:=hB.cell (j+W) hjl
   have hoD1:=hoD.get (j+W) hjl
   rw [show out.getD (j+W) 0=out[j+W] by simp [hjl]] at hop
   have hgo:Hid (out.getD (j+W) 0=out[j+W]):=by show _=_;simp [hjl]
   generalize out[j+W]=o at *
   have hfo:=hB.free (j+W)
   obtain ⟨v2,hco2⟩:=hB.has (j+W+1) hjl2
   have hfo2:=hB.free (j+W+1)
   have q1:j+W<l.length+W+1:=by omega
   have q2:j+W+1<l.length+W+1:=by omega
   go_wp2
   go_roundg (gk-1)
   case measure=>have:=HJ.out.1;omega
   case rel =>
    obtain ⟨hj,hol,hov,hoz⟩:=HJ.out
    have hst:=shiftUp_step out l j W p x o hp hx hjl2 hoD hgo.out hop hoz hov HT.out
    rw [(shl_word o x p oM hop).1,shr_cast]
    have hBn:=(hB.set (j+W) (o+x*2 ^ p % W64)).set (j+W+1) (x / 2 ^ (64-p))
    refine ⟨j+1,_,by omega,by go_num,hBn,by simpa using hol,hst.1,hst.2.1,hst.2.2.1,hst.2.2.2,?_⟩
    exact (hK.setCell (p:=⟨w.heap.size,j+W,none⟩) (Nat.le_refl _) _).setCell (p:=⟨w.heap.size,j+W+1,none⟩) (Nat.le_refl _) _
  ·obtain ⟨hj,hol,hov,hoz⟩:=HJ.out
   obtain rfl:j=l.length:=by omega
   rw [List.take_length] at hov
   go_wp2
   go_ret
   exact ⟨out,rfl,hB,hol,hoD,hov,hK⟩
set_option maxRecDepth 100000 in
set_option maxHeartbeats 800000 in
theorem shiftDown_some (a:Option Addr) (cap W p:Nat) (l:List Nat) (w:World) (hS:Sl n64 w (.slice a l.length cap) l) (hD:Dig W64 l) (hl:l.length≤100000000) (hW:W<l.length) (hp:p<64) :
  Calls prog 247 #[.slice a l.length cap,.int .i64 (64*(W:Int)+p)] w fun e w'=>e=.returned (.slice (some ⟨w.heap.size,0,none⟩) (l.length-W) (l.length-W))∧Blk n64 w' w.heap.size (shrL p (l.drop W))∧Below w.heap.size w w':=by
 have e1:(64*(W:Int)+p) / 64=W:=by omega
 have e2:(64*(W:Int)+p) % 64=p:=by omega
 have hmk:=make_u64z ((l.length:Int)-W) (l.length-W) oM oM
 go_enter func247,ntmps247
 go_wp2
 rw [e1,e2]
 have hB0:=mk64_blk w (l.length-W)
 have hK0:=mk64_below (Below.refl w.heap.size w) (Nat.le_refl _) (l.length-W)
 generalize mk64 w (l.length-W)=W0 at *
 clear e1 e2 hmk
 go_loopg [8,25] (l.length-W) (fun g _ i wr=>∃ (j:Nat),j+g=l.length-W∧i=.int .i64 j∧Blk n64 wr w.heap.size ((shrL p (l.drop W)).take j++List.replicate g 0)∧Below w.heap.size w wr)
 case atStart=>exact ⟨0,by omega,rfl,by simpa using hB0,hK0⟩
 case round =>
  obtain ⟨j,hj,rfl,hB,hK⟩:=hrel
  have hsl:=shrL_length p (l.drop W)
  rw [List.length_drop] at hsl
  have HJ:=hid (And.intro hj hsl)
  clear hj hsl
  by_cases hlt:j<l.length-W
  ·obtain ⟨b,off,rfl,hb,hc⟩:=hS.at (j+W) oM
   have hcr:=(hK.cell (p:=⟨b,off+(j+W),none⟩) hb).trans hc
   have hx:=hD.get (j+W) oM
   have hjs:j<(shrL p (l.drop W)).length:=by rw [HJ.out.2];exact hlt
   have hsg:=shrL_get p (l.drop W) j hjs
   have hts:(shrL p (l.drop W)).take (j+1)=(shrL p (l.drop W)).take j++[(shrL p (l.drop W))[j]]:=List.take_succ_eq_append_getElem hjs
   rw [hsg,show (l.drop W).getD j 0=l[j+W] by simp [Nat.add_comm,show W+j<l.length by omega]] at hts
   generalize l[j+W]=x at *
   have hll:((shrL p (l.drop W)).take j++List.replicate gk 0).length=l.length-W:=by have:=HJ.out;simp;omega
   have HLL:=hid hll
   obtain ⟨v0,hco⟩:=hB.has j oM
   have hfo:=hB.free j
   clear hll hc hsg
   by_cases hnext:j+W+1<l.length
   ·obtain ⟨b2,off2,e2,hb2,hc2⟩:=hS.at (j+W+1) hnext
    cases e2
    have hcr2:=(hK.cell (p:=⟨b,off+(j+W+1),none⟩) hb2).trans hc2
    rw [show (l.drop W).getD (j+1) 0=l[j+W+1] by simp [show W+(j+1)=j+W+1 by omega,hnext]] at hts
    have hy:=hD.get (j+W+1) hnext
    generalize l[j+W+1]=y at *
    have HT:=hid hts
    clear hts hc2
    go_wp2
    rw [shr_cast]
    have hB1:=hB.set j (x / 2 ^ p)
    have hK1:=hK.setCell (p:=⟨w.heap.size,j,none⟩) (Nat.le_refl _) (n64 (x / 2 ^ p))
    have hcr3:(wr.setCell ⟨w.heap.size,j,none⟩ (n64 (x / 2 ^ p))).cell? ⟨b,off+(j+W+1),none⟩=some (n64 y):=by
     rw [(kept_set wr ⟨w.heap.size,j,none⟩ _).cell (by have:=hB.lt;simp;omega) (by simp;omega)];exact hcr2
    generalize wr.setCell ⟨w.heap.size,j,none⟩ (n64 (x / 2 ^ p))=w1 at *
    have hlj:j<(((shrL p (l.drop W)).take j++List.replicate gk 0).set j (x / 2 ^ p)).length:=by have:=HLL.out;simp at this ⊢;omega
    have hc1:=hB1.cell j hlj
    rw [List.getElem_set_self] at hc1
    have hf1:=hB1.free j
    have q1:(j:Int)+W+1<l.length:=by omega
    have q2:(j:Int)<(l.length:Int)-W:=by omega
    have q3:j<l.length-W:=hlt
    have q4:IntKind.i64.wrap ((j:Int)+W)=(j:Int)+W:=by rw [IntKind.wrap_i64];omega
    have q5:IntKind.i64.wrap ((j:Int)+W+1)=(j:Int)+W+1:=by rw [IntKind.wrap_i64];omega
    have q6:((j:Int)+W+1).toNat=j+W+1:=by omega
    have q7:IntKind.u64.wrap (64-(p:Int))=64-(p:Int):=by rw [wrapU64];omega
    have q8:(64-(p:Int)).toNat=64-p:=by omega
    have q9:(0:Int)≤(j:Int)+W+1:=by omega
    have q10:(0:Int)≤64-(p:Int):=by omega
    clear hcr hco hfo hcr2 hB hK
    go_region
    go_wp2
    go_roundg (gk-1)
    case measure=>have:=HJ.out.1;omega
    case rel =>
     rw [shr_cast,(shr_word x y p hp hx).1]
     refine ⟨j+1,by have:=HJ.out.1;omega,by go_num,?_,(hK1.setCell (p:=⟨w.heap.size,j,none⟩) (Nat.le_refl _) _).drew⟩
     have hs:=(hB1.set j (x / 2 ^ p+y*2 ^ (64-p) % W64)).drew
     have e:(((shrL p (l.drop W)).take j++List.replicate gk 0).set j (x / 2 ^ p)).set j (x / 2 ^ p+y*2 ^ (64-p) % W64)=(shrL p (l.drop W)).take (j+1)++List.replicate (gk-1) 0:=by
      have:=HJ.out
      obtain ⟨g,rfl⟩:∃ g,gk=g+1:=⟨gk-1,by omega⟩
      rw [List.set_set,HT.out,List.set_append_right _ _ (by simp;omega),show j-((shrL p (l.drop W)).take j).length=0 by simp;omega]
      simp [List.replicate_succ]
     rw [e] at hs
     exact hs
   ·rw [show (l.drop W).getD (j+1) 0=0 by simp [show l.length≤W+(j+1) by omega]] at hts
    have HT:=hid hts
    clear hts
    go_wp2
    go_roundg (gk-1)
    case measure=>have:=HJ.out.1;omega
    case rel =>
     rw [shr_cast]
     refine ⟨j+1,by have:=HJ.out.1;omega,by go_num,?_,hK.setCell (p:=⟨w.heap.size,j,none⟩) (Nat.le_refl _) _⟩
     have hs:=hB.set j (x / 2 ^ p)
     have e:((shrL p (l.drop W)).take j++List.replicate gk 0).set j (x / 2 ^ p)=(shrL p (l.drop W)).take (j+1)++List.replicate (gk-1) 0:=by
      have:=HJ.out
      obtain ⟨g,rfl⟩:∃ g,gk=g+1:=⟨gk-1,by omega⟩
      rw [HT.out,List.set_append_right _ _ (by simp;omega),show j-((shrL p (l.drop W)).take j).length=0 by simp;omega]
      simp [List.replicate_succ]
     rw [e] at hs
     exact hs
  ·obtain ⟨hj,hsl⟩:=HJ.out
   obtain rfl:j=l.length-W:=by omega
   obtain rfl:gk=0:=by omega
   rw [List.take_of_length_le oM,List.replicate_zero,List.append_nil] at hB
   go_wp2
   go_ret
   exact ⟨rfl,hB,hK⟩
theorem divW_round (l q:List Nat) (i d r:Nat) (hi:i<l.length) (hql:q.length=l.length) (hd:0<d)
  (hv:val W64 (l.drop (i+1))=d*val W64 (q.drop (i+1))+r) (hlow:q.getD i 0=l.getD i 0) :
  val W64 (l.drop i)=d*val W64 ((q.set i ((r*W64+l.getD i 0) / d)).drop i)+(r*W64+l.getD i 0) % d:=by
 rw [val_drop W64 l i,val_drop W64 (q.set i _) i,hv]
 rw [show (q.set i ((r*W64+l.getD i 0) / d)).getD i 0=(r*W64+l.getD i 0) / d by simp [List.getD_eq_getElem?_getD,show i<q.length by omega]]
 rw [List.drop_set_of_lt (by omega)]
 have e:=Nat.div_add_mod (r*W64+l.getD i 0) d
 generalize l.getD i 0=x at *
 generalize (r*W64+x) / d=a at *
 generalize (r*W64+x) % d=c at *
 have:x+W64*(d*val W64 (q.drop (i+1))+r)=(r*W64+x)+W64*(d*val W64 (q.drop (i+1))):=by grind
 rw [this,← e]
 grind
set_option maxRecDepth 100000 in
set_option maxHeartbeats 800000 in
theorem divWord_any (T:TypeId) (B cap d:Nat) (l:List Nat) (w:World) (hB:BlkT n64 T w B l) (hD:Dig W64 l) (hl:l.length≤100000000) (hcap:l.length≤cap) (hd0:0<d) (hd:d<W64) :
  Calls prog 82 #[.slice (some ⟨B,0,none⟩) l.length cap,n64 d] w fun e w'=>∃ q,e=.returned (.tuple #[.slice (some ⟨B,0,none⟩) (trimL q).length cap,n64 (val W64 l % d)])∧BlkT n64 T w' B q∧q.length=l.length∧Dig W64 q∧val W64 q=val W64 l / d∧Kept (·=B) w w':=by
 go_enter func82,ntmps82
 go_wp2
 go_loopg [6,7] l.length (fun g vr vi wr=>∃ (r:Nat) (q:List Nat),g≤l.length∧vi=.int .i64 ((g:Int)-1)∧vr=.int .u64 r∧r<d∧BlkT n64 T wr B q∧q.length=l.length∧Dig W64 q∧(∀ k,k<g→q.getD k 0=l.getD k 0)∧val W64 (l.drop g)=d*val W64 (q.drop g)+r∧Kept (·=B) w wr)
 case atStart=>exact ⟨0,l,Nat.le_refl _,rfl,rfl,hd0,hB,rfl,hD,fun _ _=>rfl,by simp [val],Kept.refl _ _⟩
 case round =>
  obtain ⟨r,q,hg,rfl,rfl,hr,hBq,hql,hqD,hqs,hqv,hK⟩:=hrel
  have HQ:=hid (And.intro hql (And.intro hqs hqv))
  clear hql hqs hqv
  by_cases h0:gk=0
  ·subst h0
   obtain ⟨hql,hqs,hqv⟩:=HQ.out
   rw [List.drop_zero,List.drop_zero] at hqv
   have hSq:=hBq.blk.sl cap
   rw [hql] at hSq
   have HT:=hid (natTrim_any (some ⟨B,0,none⟩) cap q wr (by rw [hql];exact hSq) oM oM)
   have e1:val W64 l / d=val W64 q:=by rw [hqv,Nat.mul_add_div hd0,Nat.div_eq_of_lt hr,Nat.add_zero]
   have e2:val W64 l % d=r:=by rw [hqv,Nat.mul_add_mod,Nat.mod_eq_of_lt hr]
   have HE:=hid (And.intro e1 e2)
   have HTT:=HT.out
   rw [hql] at HTT
   have HT:=hid HTT
   clear hql hqs hqv hSq e1 e2 HTT
   go_wp2_with fail
   refine HT.out.mono ?_
   rintro e w1 ⟨rfl,rfl⟩
   go_wp2
   go_ret2
   rw [HE.out.1,HE.out.2]
   exact ⟨q,rfl,hBq,HQ.out.1,hqD,rfl,hK⟩
  ·obtain ⟨i,rfl⟩:∃ i,gk=i+1:=⟨gk-1,by omega⟩
   have hiq:i<q.length:=by have:=HQ.out.1;omega
   have hc:=hBq.cell i hiq
   have hx:=hqD.get i hiq
   have hgx:Hid (q.getD i 0=q[i]):=by show _=_;simp [hiq]
   generalize q[i]=x at *
   have hf:=hBq.free i
   have t1:((i+1:Nat):Int)-1=(i:Int):=by omega
   rw [t1]
   clear t1 h0
   go_wp2_with fail
   refine (div64_any r x d wr hr hx hd).mono ?_
   rintro e w1 ⟨rfl,hb1⟩
   have hB1:=hBq.below hb1
   have hc1:=hB1.cell i hiq
   have hf1:=hB1.free i
   generalize hqq:(r*W64+x) / d=qq
   generalize hrr:(r*W64+x) % d=rr
   have HQR:=hid (And.intro hqq hrr)
   clear hqq hrr hc hf
   go_wp2
   go_roundg i
   case measure=>omega
   case rel =>
    obtain ⟨hql,hqs,hqv⟩:=HQ.out
    obtain ⟨hqq,hrr⟩:=HQR.out
    have hlx:l.getD i 0=x:=by rw [← hqs i oM,hgx.out]
    have hrd:=divW_round l q i d r oM hql hd0 hqv (hqs i oM)
    rw [hlx,hqq,hrr] at hrd
    have hqqW:qq<W64:=by
     rw [← hqq]
     apply Nat.div_lt_of_lt_mul
     have:(r+1)*W64≤d*W64:=Nat.mul_le_mul_right _ hr
     rw [Nat.add_mul] at this;omega
    refine ⟨rr,q.set i qq,by omega,rfl,rfl,by rw [← hrr];exact Nat.mod_lt _ hd0,hB1.set i qq,by simpa using hql,hqD.set _ _ hqqW,fun k hk=>?_,hrd,?_⟩
    ·rw [show (q.set i qq).getD k 0=q.getD k 0 by simp [List.getD_eq_getElem?_getD,List.getElem?_set_ne (show i≠k by omega)]]
     exact hqs k oM
    ·exact (hK.trans (Kept.of_below hb1 _)).setCell (p:=⟨B,i,none⟩) (fun _=>rfl) _
structure Gs (v1 v0 u c q r:Nat):Prop where
 eq:q*v1+r=u
 lt:q<W64
 top:u*W64+c<(q+1)*(v1*W64+v0)∨q=W64-1
theorem Gs.done {v1 v0 u c q r:Nat} (h:Gs v1 v0 u c q r) (hz:q*v0≤r*W64+c):q*(v1*W64+v0)≤u*W64+c:=by
 rw [← h.eq]
 have:q*(v1*W64+v0)=q*v1*W64+q*v0:=by grind
 rw [this,Nat.add_mul];omega
theorem Gs.over {v1 v0 u c q r:Nat} (h:Gs v1 v0 u c q r) (hv:v0<W64) (hr:W64≤r):q*v0≤r*W64+c:=by
 have h1:q*v0≤W64*W64:=Nat.mul_le_mul (by have:=h.lt;omega) oM
 have h2:W64*W64≤r*W64:=Nat.mul_le_mul_right _ hr
 omega
theorem Gs.down {v1 v0 u c q r:Nat} (h:Gs v1 v0 u c q r) (hz:r*W64+c<q*v0):0<q∧Gs v1 v0 u c (q-1) (r+v1):=by
 have hq:0<q:=by
  rcases Nat.eq_zero_or_pos q with e | e
  ·rw [e,Nat.zero_mul] at hz;omega
  ·exact e
 obtain ⟨k,rfl⟩:∃ k,q=k+1:=⟨q-1,by omega⟩
 refine ⟨hq,?_,by have:=h.lt;omega,.inl ?_⟩
 ·have:=h.eq
  rw [Nat.add_mul,Nat.one_mul] at this
  rw [Nat.add_sub_cancel];omega
 ·rw [Nat.add_sub_cancel,← h.eq]
  have:(k+1)*(v1*W64+v0)=(k+1)*v1*W64+(k+1)*v0:=by grind
  rw [this,Nat.add_mul];omega
theorem Gs.start {v1 v0 u c:Nat} (hv:0<v1) (hu:u<v1*W64) (hc:c<W64):Gs v1 v0 u c (u / v1) (u % v1):=by
 refine ⟨by rw [Nat.mul_comm];exact Nat.div_add_mod u v1,Nat.div_lt_of_lt_mul hu,.inl ?_⟩
 have e:=Nat.div_add_mod u v1
 have hm:=Nat.mod_lt u hv
 generalize u / v1=q at *
 generalize u % v1=m at *
 subst e
 have h2:(v1*q+m+1)*W64≤(v1*q+v1)*W64:=Nat.mul_le_mul_right _ oM
 have h3:(q+1)*(v1*W64+v0)=(v1*q+v1)*W64+(q+1)*v0:=by grind
 rw [Nat.add_mul _ 1,Nat.one_mul] at h2
 omega
theorem Gs.max {v1 v0 u1 c:Nat}:Gs v1 v0 (v1*W64+u1) c (W64-1) (u1+v1):=by
 refine ⟨?_,by decide,.inr rfl⟩
 have:(W64-1)*v1+v1=v1*W64:=by
  rw [← Nat.succ_mul,Nat.mul_comm];rfl
 omega
theorem two_le {z r c:Nat} (hz:z<W64*W64) (hc:c<W64):z≤r*W64+c↔z / W64<r∨(z / W64=r∧z % W64≤c):=by
 have e:=Nat.div_add_mod z W64
 have hm:=Nat.mod_lt z (show 0<W64 by decide)
 generalize z / W64=a at *
 generalize z % W64=b at *
 subst e
 simp only [W64_val] at *
 omega
set_option maxRecDepth 100000 in
set_option maxHeartbeats 1600000 in
theorem guessWord_any (u2 u1 u0 v1 v0:Nat) (w:World) (h2:u2≤v1) (h1:u1<W64) (h0:u0<W64) (hv1:v1<W64) (hv0:v0<W64) (hn:W64≤2*v1) :
  Calls prog 245 #[n64 u2,n64 u1,n64 u0,n64 v1,n64 v0] w fun e w'=>∃ g,e=.returned (n64 g)∧g<W64∧g*(v1*W64+v0)≤(u2*W64+u1)*W64+u0∧((u2*W64+u1)*W64+u0<(g+1)*(v1*W64+v0)∨g=W64-1)∧Below w.heap.size w w':=by
 have ha:=add64_run0
 have hv1p:0<v1:=by have:=W64_two;omega
 have HV:=hid (And.intro h1 (And.intro h0 (And.intro hv1 (And.intro hv0 hv1p))))
 clear h1 h0 hv1 hv0 hv1p hn
 go_enter func245,ntmps245
 go_upto_if 18 with (fail)
 go_cut [11,12,13] (fun vq vr vo wx=>∃ q rs ov:Nat,vq=.int .u64 q∧vr=.int .u64 rs∧vo=.int .u64 ov∧rs<W64∧ov≤1∧Gs v1 v0 (u2*W64+u1) u0 q (rs+ov*W64)∧Below w.heap.size w wx)
 case first =>
  by_cases he:u2=v1
  ·subst he
   go_wp2
   go_meet
   obtain ⟨h1,h0,hv1,hv0,hv1p⟩:=HV.out
   have hp:=add_parts h1 hv1 (show 0≤1 by omega)
   refine ⟨W64-1,addLo u1 u2 0,addHi u1 u2 0,rfl,rfl,rfl,hp.2.1,hp.2.2,?_,Below.refl _ _⟩
   rw [hp.1,Nat.add_zero]
   exact Gs.max
  ·have t1:((u2:Int) == (v1:Int))=false:=by simp;omega
   obtain ⟨h1,h0,hv1,hv0,hv1p⟩:=HV.out
   have hlt:u2<v1:=by omega
   clear he h0 hv0
   go_wp2_with fail
   refine (div64_any u2 u1 v1 w hlt h1 hv1).mono ?_
   rintro e w1 ⟨rfl,hb1⟩
   have hu:u2*W64+u1<v1*W64:=by
    have:(u2+1)*W64≤v1*W64:=Nat.mul_le_mul_right _ hlt
    rw [Nat.add_mul] at this;omega
   have hG:=Gs.start (v0:=v0) hv1p hu HV.out.2.1
   have hr:(u2*W64+u1) % v1<W64:=Nat.lt_trans (Nat.mod_lt _ hv1p) hv1
   have HG:=hid (And.intro hG hr)
   clear hG hr hu h1 hv1 hv1p
   generalize (u2*W64+u1) / v1=q at *
   generalize (u2*W64+u1) % v1=r at *
   go_wp2
   go_meet
   exact ⟨q,r,0,rfl,rfl,rfl,HG.out.2,by omega,by rw [Nat.zero_mul,Nat.add_zero];exact HG.out.1,hb1⟩
 case rest =>
  obtain ⟨q,rs,ov,rfl,rfl,rfl,hrs,hov,hG,hb⟩:=hcut
  have HG:=hid (And.intro hrs (And.intro hov hG))
  clear hrs hov hG
  go_wp2
  go_loopg [11,12,13,14,15] q (fun g vq vr vo _ _ wr=>∃ q rs ov:Nat,q=g∧vq=.int .u64 q∧vr=.int .u64 rs∧vo=.int .u64 ov∧rs<W64∧ov≤1∧Gs v1 v0 (u2*W64+u1) u0 q (rs+ov*W64)∧Below w.heap.size w wr)
  case atStart=>exact ⟨q,rs,ov,rfl,rfl,rfl,rfl,HG.out.1,HG.out.2.1,HG.out.2.2,hb⟩
  case round =>
   obtain ⟨q,rs,ov,hqg,rfl,rfl,rfl,hrs,hov,hG,hb⟩:=hrel
   by_cases ho:ov=0
   ·subst ho
    rw [Nat.zero_mul,Nat.add_zero] at hG
    obtain ⟨h1,h0,hv1,hv0,hv1p⟩:=HV.out
    have hz:q*v0<W64*W64:=Nat.mul_lt_mul_of_lt_of_lt hG.lt hv0
    have h2e:=two_le (r:=rs) hz h0
    have HQ:=hid (And.intro hqg (And.intro hrs hG))
    clear hqg hrs
    go_wp2_with fail
    refine (Tryz.bits_Mul64 q v0 hG.lt hv0 wr).mono ?_
    rintro e w3 ⟨rfl,rfl⟩
    have hqW:(q:Int)≤18446744073709551615:=by have:=hG.lt;simp only [W64_val] at this;omega
    clear hz hG h1 h0 hv1 hv0 hv1p
    have h2e:q*v0≤rs*W64+u0↔q*v0 / 18446744073709551616<rs∨(q*v0 / 18446744073709551616=rs∧q*v0 % 18446744073709551616≤u0):=h2e
    generalize q*v0 / 18446744073709551616=hi at *
    generalize q*v0 % 18446744073709551616=lw at *
    by_cases hc:q*v0≤rs*W64+u0
    ·have HC:=hid hc
     rcases h2e.1 hc with hlt | ⟨rfl,hle⟩
     ·have t1:decide (hi<rs)=true:=by simpa using hlt
      clear h2e hc
      go_wp2
      go_ret
      have hG:=HQ.out.2.2
      exact ⟨q,rfl,hG.lt,hG.done HC.out,hG.top,hb⟩
     ·have t1:decide (hi<hi)=false:=by simp
      have t2:((hi:Int) == (hi:Int))=true:=by simp
      have t3:decide (lw≤u0)=true:=by simpa using hle
      clear h2e hc
      go_wp2
      go_ret
      have hG:=HQ.out.2.2
      exact ⟨q,rfl,hG.lt,hG.done HC.out,hG.top,hb⟩
    ·have HD:=hid (HQ.out.2.2.down oM)
     have hq1:(1:Int)≤q:=by have:=HD.out.1;omega
     have hlt:¬ hi<rs:=fun h=>hc (h2e.2 (.inl h))
     have t1:decide (hi<rs)=false:=by simpa using hlt
     by_cases heq:hi=rs
     ·subst heq
      have t2:((hi:Int) == (hi:Int))=true:=by simp
      have hle:¬ lw≤u0:=fun h=>hc (h2e.2 (.inr ⟨rfl,h⟩))
      have t3:decide (lw≤u0)=false:=by simpa using hle
      clear h2e hc hlt hle
      go_wp2
      go_roundg (q-1)
      case measure=>have:=HQ.out.1;omega
      case rel =>
       have hp:=add_parts HQ.out.2.1 HV.out.2.2.1 (show 0≤1 by omega)
       exact ⟨q-1,addLo hi v1 0,addHi hi v1 0,rfl,by congr 1;omega,rfl,rfl,hp.2.1,hp.2.2,by rw [hp.1,Nat.add_zero];exact HD.out.2,hb⟩
     ·have t2:((hi:Int) == (rs:Int))=false:=by simp;omega
      clear h2e hc hlt heq
      go_wp2
      go_roundg (q-1)
      case measure=>have:=HQ.out.1;omega
      case rel =>
       have hp:=add_parts HQ.out.2.1 HV.out.2.2.1 (show 0≤1 by omega)
       exact ⟨q-1,addLo rs v1 0,addHi rs v1 0,rfl,by congr 1;omega,rfl,rfl,hp.2.1,hp.2.2,by rw [hp.1,Nat.add_zero];exact HD.out.2,hb⟩
   ·obtain rfl:ov=1:=by omega
    have HQ:=hid (And.intro hrs hG)
    clear hqg hrs hG ho
    go_wp2
    go_ret
    obtain ⟨h1,h0,hv1,hv0,hv1p⟩:=HV.out
    have hG:=HQ.out.2
    exact ⟨q,rfl,hG.lt,hG.done (hG.over hv0 oM),hG.top,hb⟩
def mid (l:List Nat) (j k:Nat):List Nat:=(l.drop j).take k
theorem val_mid (l:List Nat) (j k:Nat) (h:j+k≤l.length):val W64 l=val W64 (l.take j)+W64 ^ j*(val W64 (mid l j k)+W64 ^ k*val W64 (l.drop (j+k))):=by
 rw [val_split W64 l j oM,val_split W64 (l.drop j) k (by simp;omega),List.drop_drop]
 rfl
theorem mid_length (l:List Nat) (j k:Nat) (h:j+k≤l.length):(mid l j k).length=k:=by simp [mid];omega
theorem mid_dig {l:List Nat} (h:Dig W64 l) (j k:Nat):Dig W64 (mid l j k):=(h.drop j).take k
def Alike (l m:List Nat) (j k:Nat):Prop:=l.length=m.length∧∀ i,(i<j∨j+k≤i)→l.getD i 0=m.getD i 0
theorem Alike.refl (l:List Nat) (j k:Nat):Alike l l j k:=⟨rfl,fun _ _=>rfl⟩
theorem Alike.set {l m:List Nat} {j k:Nat} (h:Alike l m j k) (i v:Nat) (hi:j≤i) (hi2:i<j+k):Alike (l.set i v) m j k :=
 ⟨by simpa using h.1,fun x hx=>by rw [getD_set_ne _ _ _ _ (by omega)];exact h.2 x hx⟩
theorem ext_getD {l m:List Nat} (hl:l.length=m.length) (h:∀ i,l.getD i 0=m.getD i 0):l=m:=by
 apply List.ext_getElem hl
 intro i h1 h2
 have:=h i
 simpa [List.getD_eq_getElem?_getD,h1,h2] using this
theorem getD_take (l:List Nat) (j i:Nat):(l.take j).getD i 0=if i<j then l.getD i 0 else 0:=by
 simp only [List.getD_eq_getElem?_getD,List.getElem?_take]
 split <;> simp
theorem getD_drop (l:List Nat) (j i:Nat):(l.drop j).getD i 0=l.getD (j+i) 0:=by
 simp [List.getD_eq_getElem?_getD]
theorem Alike.take {l m:List Nat} {j k:Nat} (h:Alike l m j k):l.take j=m.take j :=
 ext_getD (by simp [h.1]) (fun i=>by
  rw [getD_take,getD_take]
  split
  ·exact h.2 i oM
  ·rfl)
theorem Alike.drop {l m:List Nat} {j k:Nat} (h:Alike l m j k):l.drop (j+k)=m.drop (j+k) :=
 ext_getD (by simp [h.1]) (fun i=>by rw [getD_drop,getD_drop];exact h.2 _ oM)
theorem Alike.mid_eq {l m:List Nat} {j k:Nat} (h:Alike l m j k) (hk:j+k≤l.length) {a b:Nat} (e:val W64 l+a*W64 ^ j=val W64 m+b*W64 ^ (j+k)) :
  val W64 (mid l j k)+a=val W64 (mid m j k)+b*W64 ^ k:=by
 rw [val_mid l j k hk,val_mid m j k (by rw [← h.1];exact hk),h.take,h.drop] at e
 have hp:0<W64 ^ j:=Nat.pow_pos (by decide)
 rw [Nat.pow_add] at e
 generalize val W64 (mid l j k)=x at *
 generalize val W64 (mid m j k)=y at *
 generalize val W64 (m.drop (j+k))=z at *
 generalize val W64 (m.take j)=t at *
 generalize W64 ^ j=P at *
 generalize W64 ^ k=Q at *
 have e2:P*(x+a+Q*z)=P*(y+b*Q+Q*z):=by
  have h1:t+P*(x+Q*z)+a*P=t+P*(x+a+Q*z):=by grind
  have h2:t+P*(y+Q*z)+b*(P*Q)=t+P*(y+b*Q+Q*z):=by grind
  omega
 have:=Nat.eq_of_mul_eq_mul_left hp e2
 omega
theorem sub_round (U U0 v:List Nat) (j i k g c b x vi hi lw:Nat) (hk:k=j+i) (hlen:k<U.length) (hx:x<W64) (hU:U.getD k 0=x) (hvi:v.getD i 0=vi) (hlo:lw<W64) (hhl:hi*W64+lw=g*vi) (hgv:g*vi+c<W64*W64) (hc:c<W64) (hb:b≤1)
  (hv:val W64 U+g*val W64 (v.take i)*W64 ^ j=val W64 U0+(b+c)*W64 ^ k) :
  IntKind.u64.wrap ((hi:Int)+(addHi lw c 0:Int))=((hi+addHi lw c 0:Nat):Int)∧hi+addHi lw c 0<W64∧subHi x (addLo lw c 0) b≤1∧subLo x (addLo lw c 0) b<W64 ∧
  val W64 (U.set k (subLo x (addLo lw c 0) b))+g*val W64 (v.take (i+1))*W64 ^ j=val W64 U0+(subHi x (addLo lw c 0) b+(hi+addHi lw c 0))*W64 ^ (k+1):=by
 have ap:=add_parts hlo hc (show 0≤1 by omega)
 have sp:=sub_parts hx ap.2.1 hb
 generalize addLo lw c 0=s at *
 generalize addHi lw c 0=a at *
 generalize subLo x s b=u' at *
 generalize subHi x s b=b' at *
 have hca:hi+a<W64:=by
  have:(hi+a)*W64<W64*W64:=by rw [Nat.add_mul];omega
  exact Nat.lt_of_mul_lt_mul_right this
 refine ⟨?_,hca,sp.2.2,sp.2.1,?_⟩
 ·rw [← Int.natCast_add,wrapU64_nat]
  simp only [W64_val] at hca
  omega
 ·have v1:=val_set W64 U k u' hlen
  rw [hU] at v1
  rw [val_take_succ,hvi,Nat.pow_succ]
  have e1:g*(val W64 (v.take i)+vi*W64 ^ i)*W64 ^ j=g*val W64 (v.take i)*W64 ^ j+(g*vi)*W64 ^ k:=by
   rw [hk,Nat.pow_add];grind
  rw [e1]
  generalize W64 ^ k=P at *
  generalize g*val W64 (v.take i)*W64 ^ j=G at *
  generalize val W64 (U.set k u')=A at *
  generalize val W64 U=A0 at *
  generalize val W64 U0=Z at *
  have e2:(u'+s+b)*P=(x+b'*W64)*P:=by rw [sp.1]
  have e3:(s+a*W64)*P=(lw+c)*P:=by rw [← Nat.add_zero (lw+c),← ap.1]
  have e4:(hi*W64+lw)*P=(g*vi)*P:=by rw [hhl]
  grind
theorem add_round (U U0 v:List Nat) (j i k c x vi:Nat) (hk:k=j+i) (hlen:k<U.length) (hx:x<W64) (hU:U.getD k 0=x) (hvi:v.getD i 0=vi) (hvW:vi<W64) (hc:c≤1)
  (hv:val W64 U+c*W64 ^ k=val W64 U0+val W64 (v.take i)*W64 ^ j) :
  addLo x vi c<W64∧addHi x vi c≤1∧val W64 (U.set k (addLo x vi c))+addHi x vi c*W64 ^ (k+1)=val W64 U0+val W64 (v.take (i+1))*W64 ^ j:=by
 have ap:=add_parts hx hvW hc
 generalize addLo x vi c=s at *
 generalize addHi x vi c=a at *
 refine ⟨ap.2.1,ap.2.2,?_⟩
 have v1:=val_set W64 U k s hlen
 rw [hU] at v1
 rw [val_take_succ,hvi,Nat.pow_succ]
 have e1:(val W64 (v.take i)+vi*W64 ^ i)*W64 ^ j=val W64 (v.take i)*W64 ^ j+vi*W64 ^ k:=by
  rw [hk,Nat.pow_add];grind
 rw [e1]
 generalize W64 ^ k=P at *
 generalize val W64 (v.take i)*W64 ^ j=G at *
 generalize val W64 (U.set k s)=A at *
 generalize val W64 U=A0 at *
 generalize val W64 U0=Z at *
 have e2:(s+a*W64)*P=(x+vi+c)*P:=by rw [ap.1]
 grind
structure Long (X V n g:Nat) (U q:List Nat):Prop where
 dU:Dig W64 U
 dq:Dig W64 q
 top:val W64 (U.drop g)<V
 sum:X=val W64 U+V*val W64 q
 low:∀ k,k<g→q.getD k 0=0
theorem Long.rem {X V n j:Nat} {U q:List Nat} (h:Long X V n (j+1) U q) (hj:j+(n+1)≤U.length) (hV:V<W64 ^ n) :
  val W64 (mid U j (n+1))<W64*V∧val W64 (U.drop j)=val W64 (mid U j (n+1))∧val W64 (U.drop (j+(n+1)))=0:=by
 have h1:=val_drop W64 U j
 have h2:=h.dU.getD (show 0<W64 by decide) j
 have h3:=h.top
 have h0:val W64 (U.drop (j+(n+1)))=0:=by
  have e:=val_split W64 (U.drop (j+1)) n (by simp;omega)
  rw [List.drop_drop,show j+1+n=j+(n+1) by omega] at e
  rcases Nat.eq_zero_or_pos (val W64 (U.drop (j+(n+1)))) with h | h
  ·exact h
  ·exfalso
   have:W64 ^ n*1≤W64 ^ n*val W64 (U.drop (j+(n+1))):=Nat.mul_le_mul_left _ h
   omega
 have h4:val W64 (U.drop j)=val W64 (mid U j (n+1)):=by
  have e:=val_split W64 (U.drop j) (n+1) (by simp;omega)
  rw [List.drop_drop,h0,Nat.mul_zero,Nat.add_zero] at e
  exact e
 refine ⟨?_,h4,h0⟩
 rw [← h4,h1]
 have:W64*(val W64 (U.drop (j+1))+1)≤W64*V:=Nat.mul_le_mul_left _ h3
 rw [Nat.mul_add] at this;omega
theorem Long.next {X V n j:Nat} {U q U':List Nat} (h:Long X V n (j+1) U q) (hj:j+(n+1)≤U.length) (hV:V<W64 ^ n) (hV0:0<V) (hjq:j<q.length) (ha:Alike U' U j (n+1)) (hD:Dig W64 U')
  (hm:val W64 (mid U' j (n+1))=val W64 (mid U j (n+1)) % V):Long X V n j U' (q.set j (val W64 (mid U j (n+1)) / V)):=by
 obtain ⟨r1,r2,r3⟩:=h.rem hj hV
 have hlt:=Nat.mod_lt (val W64 (mid U j (n+1))) hV0
 have e:=Nat.div_add_mod (val W64 (mid U j (n+1))) V
 have hdg:val W64 (mid U j (n+1)) / V<W64:=Nat.div_lt_of_lt_mul (by rw [Nat.mul_comm];exact r1)
 have hj':j+(n+1)≤U'.length:=by rw [ha.1];exact hj
 refine ⟨hD,h.dq.set _ _ hdg,?_,?_,fun k hk=>by rw [getD_set_ne _ _ _ _ (by omega)];exact h.low k oM⟩
 ·have e2:=val_split W64 (U'.drop j) (n+1) (by simp;omega)
  rw [List.drop_drop,ha.drop,r3,Nat.mul_zero,Nat.add_zero] at e2
  rw [e2]
  show val W64 (mid U' j (n+1))<V
  rw [hm];exact hlt
 ·have v1:=val_set W64 q j (val W64 (mid U j (n+1)) / V) hjq
  rw [h.low j oM,Nat.zero_mul,Nat.add_zero] at v1
  rw [v1,h.sum,val_mid U j (n+1) hj,val_mid U' j (n+1) hj',ha.take,ha.drop,r3,hm]
  generalize val W64 (mid U j (n+1)) / V=d at *
  generalize val W64 (mid U j (n+1)) % V=m at *
  generalize val W64 (mid U j (n+1))=R at *
  subst e
  grind
theorem divisor_facts (y':List Nat) (t s k:Nat) (hD:Dig W64 y') (h1:t<2 ^ k) (h2:2 ^ (k-1)≤t) (hk:0<k) (hs:s+k=64) :
  (val W64 y'+t*W64 ^ y'.length)*2 ^ s<W64 ^ (y'.length+1)∧W64 ^ (y'.length+1)≤2*((val W64 y'+t*W64 ^ y'.length)*2 ^ s):=by
 have hv:=val_lt hD
 have e:W64=2 ^ k*2 ^ s:=by rw [W64_pow,← Nat.pow_add];congr 1;omega
 have e2:W64=2*(2 ^ (k-1)*2 ^ s):=by rw [e,← Nat.mul_assoc,Nat.mul_comm 2,← Nat.pow_succ];congr 2;omega
 rw [Nat.pow_succ]
 generalize val W64 y'=v at *
 generalize W64 ^ y'.length=P at *
 have hs0:0<2 ^ s:=Nat.pow_pos oM
 constructor
 ·have h3:(v+t*P)<2 ^ k*P:=by
   have:(t+1)*P≤2 ^ k*P:=Nat.mul_le_mul_right _ h1
   rw [Nat.add_mul] at this;omega
  have:=Nat.mul_lt_mul_of_pos_right h3 hs0
  have e3:2 ^ k*P*2 ^ s=P*W64:=by rw [e];grind
  omega
 ·have h3:2 ^ (k-1)*P≤v+t*P:=by
   have:2 ^ (k-1)*P≤t*P:=Nat.mul_le_mul_right _ h2
   omega
  have:=Nat.mul_le_mul_right (2 ^ s) h3
  have e3:P*W64=2*(2 ^ (k-1)*P*2 ^ s):=by
   have:P*W64=P*(2*(2 ^ (k-1)*2 ^ s)):=by rw [← e2]
   rw [this];grind
  omega
theorem top_words (l:List Nat) (n:Nat) (h:Dig W64 l) (hl:l.length=n) (hn:2≤n):val W64 l=(l.getD (n-1) 0*W64+l.getD (n-2) 0)*W64 ^ (n-2)+val W64 (l.take (n-2))∧val W64 (l.take (n-2))<W64 ^ (n-2):=by
 have e:=val_split W64 l (n-2) oM
 have hlt:=val_lt (h.take (n-2))
 rw [List.length_take,Nat.min_eq_left (by omega)] at hlt
 refine ⟨?_,hlt⟩
 rw [e,val_drop,val_drop W64 l (n-2+1),show n-2+1=n-1 by omega,List.drop_of_length_le (show l.length≤n-1+1 by omega),val_nil]
 grind
theorem top_half (l:List Nat) (n:Nat) (h:Dig W64 l) (hl:l.length=n) (hn:1≤n) (hV:W64 ^ n≤2*val W64 l):W64≤2*l.getD (n-1) 0:=by
 have e:=val_split W64 l (n-1) oM
 have hlt:=val_lt (h.take (n-1))
 rw [List.length_take,Nat.min_eq_left (by omega)] at hlt
 rw [val_drop,show n-1+1=n by omega,List.drop_of_length_le (show l.length≤n by omega),val_nil,Nat.mul_zero,Nat.add_zero] at e
 generalize l.getD (n-1) 0=v1 at *
 obtain ⟨m,rfl⟩:∃ m,n=m+1:=⟨n-1,by omega⟩
 rw [Nat.add_sub_cancel] at *
 rw [Nat.pow_succ] at hV
 generalize val W64 (l.take m)=a at *
 generalize val W64 l=b at *
 generalize W64 ^ m=P at *
 have h1:P*W64<P*(2*(v1+1)):=by
  have:P*(2*(v1+1))=2*(P*v1)+2*P:=by grind
  omega
 have h2:=Nat.lt_of_mul_lt_mul_left h1
 simp only [W64_val] at *
 omega
theorem top3_words (l:List Nat) (n:Nat) (h:Dig W64 l) (hl:l.length=n+1) (hn:2≤n):val W64 l=((l.getD n 0*W64+l.getD (n-1) 0)*W64+l.getD (n-2) 0)*W64 ^ (n-2)+val W64 (l.take (n-2))∧val W64 (l.take (n-2))<W64 ^ (n-2):=by
 have e:=val_split W64 l (n-2) oM
 have hlt:=val_lt (h.take (n-2))
 rw [List.length_take,Nat.min_eq_left (by omega)] at hlt
 refine ⟨?_,hlt⟩
 rw [e,val_drop,val_drop W64 l (n-2+1),show n-2+1=n-1 by omega,val_drop W64 l (n-1+1),show n-1+1=n by omega,List.drop_of_length_le (show l.length≤n+1 by omega),val_nil]
 grind
theorem getD_mid (l:List Nat) (j k i:Nat) (hi:i<k):(mid l j k).getD i 0=l.getD (j+i) 0:=by
 unfold mid;rw [getD_take,if_pos hi,getD_drop]
theorem Long.guess {X V n j:Nat} {U q vl:List Nat} (h:Long X V n (j+1) U q) (hj:j+(n+1)≤U.length) (hn:2≤n) (hV:V<W64 ^ n) (hVh:W64 ^ n≤2*V) (hvl:vl.length=n) (hvD:Dig W64 vl) (hvV:val W64 vl=V) :
  U.getD (j+n) 0≤vl.getD (n-1) 0∧∀ g,g<W64→g*(vl.getD (n-1) 0*W64+vl.getD (n-2) 0)≤(U.getD (j+n) 0*W64+U.getD (j+(n-1)) 0)*W64+U.getD (j+(n-2)) 0 →
   ((U.getD (j+n) 0*W64+U.getD (j+(n-1)) 0)*W64+U.getD (j+(n-2)) 0<(g+1)*(vl.getD (n-1) 0*W64+vl.getD (n-2) 0)∨g=W64-1) →
   val W64 (mid U j (n+1)) / V≤g∧g≤val W64 (mid U j (n+1)) / V+1:=by
 obtain ⟨r1,r2,r3⟩:=h.rem hj hV
 have htw:=top_words vl n hvD hvl hn
 have h3:=top3_words (mid U j (n+1)) n (mid_dig h.dU _ _) (mid_length _ _ _ hj) hn
 rw [getD_mid _ _ _ _ oM,getD_mid _ _ _ _ oM,getD_mid _ _ _ _ (by omega)] at h3
 rw [hvV] at htw
 have hP:W64*W64 ^ (n-2)≤V:=by
  have e:W64 ^ n=W64*(W64*W64 ^ (n-2)):=by rw [← Nat.mul_assoc,Nat.mul_comm,← Nat.pow_two,← Nat.pow_add];congr 1;omega
  have:2*(W64*W64 ^ (n-2))≤W64*(W64*W64 ^ (n-2)):=Nat.mul_le_mul_right _ W64_two
  omega
 constructor
 ·have e1:(mid U j (n+1)).length=n+1:=mid_length _ _ _ hj
  have h4:=h.top
  have h5:val W64 (U.drop (j+1))≥U.getD (j+n) 0*W64 ^ (n-1):=by
   have e:=val_split W64 (U.drop (j+1)) (n-1) (by simp;omega)
   rw [List.drop_drop,val_drop W64 U (j+1+(n-1)),show j+1+(n-1)=j+n by omega] at e
   have:U.getD (j+n) 0*W64 ^ (n-1)≤W64 ^ (n-1)*(U.getD (j+n) 0+W64*val W64 (U.drop (j+n+1))):=by
    rw [Nat.mul_comm];exact Nat.mul_le_mul_left _ oM
   omega
  have h6:V<(vl.getD (n-1) 0+1)*W64 ^ (n-1):=by
   have e:=val_split W64 vl (n-1) oM
   have hlt:=val_lt (hvD.take (n-1))
   rw [List.length_take,Nat.min_eq_left (by omega)] at hlt
   rw [val_drop,show n-1+1=n by omega,List.drop_of_length_le (show vl.length≤n by omega),val_nil,Nat.mul_zero,Nat.add_zero,hvV] at e
   rw [e,Nat.add_mul,Nat.mul_comm (vl.getD (n-1) 0)];omega
  have h7:U.getD (j+n) 0*W64 ^ (n-1)<(vl.getD (n-1) 0+1)*W64 ^ (n-1):=by omega
  have:=Nat.lt_of_mul_lt_mul_right h7
  omega
 ·intro g hg h1 h2
  exact knuth_guess h3.1 h3.2 htw.1 htw.2 (by decide) r1 hP h1 hg h2
theorem sub_end (U U1:List Nat) (V g c b xu j n:Nat) (hjx:j+(n+1)≤U.length) (hal:Alike U1 U j (n+1)) (hD:Dig W64 U) (hD1:Dig W64 U1) (hxu:U1.getD (j+n) 0=xu) (hc:c<W64) (hb:b≤1)
  (hv:val W64 U1+g*V*W64 ^ j=val W64 U+(b+c)*W64 ^ (j+n)) (hV0:0<V) (hV:V<W64 ^ n) (h1:val W64 (mid U j (n+1)) / V≤g) (h2:g≤val W64 (mid U j (n+1)) / V+1) :
  Alike (U1.set (j+n) (subLo xu c b)) U j (n+1)∧Dig W64 (U1.set (j+n) (subLo xu c b))∧subHi xu c b≤1 ∧
  (subHi xu c b=0→g=val W64 (mid U j (n+1)) / V∧val W64 (mid (U1.set (j+n) (subLo xu c b)) j (n+1))=val W64 (mid U j (n+1)) % V) ∧
  (subHi xu c b=1→g=val W64 (mid U j (n+1)) / V+1∧val W64 (mid (U1.set (j+n) (subLo xu c b)) j (n+1))+V=val W64 (mid U j (n+1)) % V+W64 ^ (n+1)):=by
 have hku:j+n<U1.length:=by rw [hal.1];omega
 have hxW:xu<W64:=by rw [← hxu];exact hD1.getD (by decide) _
 have sp:=sub_parts hxW hc hb
 have hvs:=val_set W64 U1 (j+n) (subLo xu c b) hku
 rw [hxu] at hvs
 have hU2:val W64 (U1.set (j+n) (subLo xu c b))+g*V*W64 ^ j=val W64 U+subHi xu c b*W64 ^ (j+(n+1)):=by
  rw [show j+(n+1)=j+n+1 by omega,Nat.pow_succ]
  have e2:(subLo xu c b+c+b)*W64 ^ (j+n)=(xu+subHi xu c b*W64)*W64 ^ (j+n):=by rw [sp.1]
  generalize W64 ^ (j+n)=P at *
  generalize g*V*W64 ^ j=G at *
  generalize val W64 (U1.set (j+n) (subLo xu c b))=A at *
  generalize subLo xu c b=s at *
  generalize subHi xu c b=t at *
  grind
 have hal2:=hal.set (j+n) (subLo xu c b) oM oM
 have hD2:=hD1.set (j+n) (subLo xu c b) sp.2.1
 have hl2:j+(n+1)≤(U1.set (j+n) (subLo xu c b)).length:=by rw [hal2.1];exact hjx
 have hme:=hal2.mid_eq hl2 hU2
 have hVM:V≤W64 ^ (n+1):=by
  have h2:W64 ^ n≤W64 ^ (n+1):=Nat.pow_le_pow_right (by decide) oM
  omega
 have hRM:val W64 (mid U j (n+1))<W64 ^ (n+1):=by
  have:=val_lt (mid_dig hD j (n+1));rwa [mid_length _ _ _ hjx] at this
 have hdM:val W64 (mid (U1.set (j+n) (subLo xu c b)) j (n+1))<W64 ^ (n+1):=by
  have:=val_lt (mid_dig hD2 j (n+1));rwa [mid_length _ _ _ hl2] at this
 have hks:=knuth_sub hV0 hVM hme hdM hRM h1 h2
 exact ⟨hal2,hD2,sp.2.2,hks.1,fun h=>(hks.2 oM).2⟩
theorem add_end (U2 U3:List Nat) (V c xu j n m:Nat) (hjx:j+(n+1)≤U2.length) (hal:Alike U3 U2 j n) (hD3:Dig W64 U3) (hxu:U3.getD (j+n) 0=xu) (hc:c≤1)
  (hv:val W64 U3+c*W64 ^ (j+n)=val W64 U2+V*W64 ^ j) (hm:val W64 (mid U2 j (n+1))+V=m+W64 ^ (n+1)) (hmM:m<W64 ^ (n+1)) :
  Alike (U3.set (j+n) ((xu+c) % W64)) U2 j (n+1)∧Dig W64 (U3.set (j+n) ((xu+c) % W64))∧val W64 (mid (U3.set (j+n) ((xu+c) % W64)) j (n+1))=m:=by
 have hku:j+n<U3.length:=by rw [hal.1];omega
 have hxW:xu<W64:=by rw [← hxu];exact hD3.getD (by decide) _
 have hal1:Alike U3 U2 j (n+1):=⟨hal.1,fun i hi=>hal.2 i oM⟩
 have hal2:=hal1.set (j+n) ((xu+c) % W64) oM oM
 have hD2:=hD3.set (j+n) ((xu+c) % W64) (Nat.mod_lt _ (by decide))
 have hl2:j+(n+1)≤(U3.set (j+n) ((xu+c) % W64)).length:=by rw [hal2.1];exact hjx
 refine ⟨hal2,hD2,?_⟩
 have hvs:=val_set W64 U3 (j+n) ((xu+c) % W64) hku
 rw [hxu] at hvs
 have e:=Nat.div_add_mod (xu+c) W64
 have hU:val W64 U2+V*W64 ^ j=val W64 (U3.set (j+n) ((xu+c) % W64))+(xu+c) / W64*W64 ^ (j+(n+1)):=by
  rw [show j+(n+1)=j+n+1 by omega,Nat.pow_succ]
  generalize (xu+c) / W64=a at *
  generalize (xu+c) % W64=s at *
  have e2:(W64*a+s)*W64 ^ (j+n)=(xu+c)*W64 ^ (j+n):=by rw [e]
  generalize W64 ^ (j+n)=P at *
  generalize val W64 (U3.set (j+n) s)=A at *
  grind
 have hal3:Alike U2 (U3.set (j+n) ((xu+c) % W64)) j (n+1):=⟨hal2.1.symm,fun i hi=>(hal2.2 i hi).symm⟩
 have hme:=hal3.mid_eq hjx hU
 have hdM:val W64 (mid (U3.set (j+n) ((xu+c) % W64)) j (n+1))<W64 ^ (n+1):=by
  have:=val_lt (mid_dig hD2 j (n+1));rwa [mid_length _ _ _ hl2] at this
 rw [hm] at hme
 generalize val W64 (mid (U3.set (j+n) ((xu+c) % W64)) j (n+1))=d at *
 generalize (xu+c) / W64=a at *
 generalize W64 ^ (n+1)=M at *
 have ha:a=1:=by
  rcases Nat.lt_or_ge a 1 with h | h
  ·have:a=0:=by omega
   subst this;omega
  ·rcases Nat.lt_or_ge a 2 with h2 | h2
   ·omega
   ·have:2*M≤a*M:=Nat.mul_le_mul_right M h2
    omega
 subst ha;omega
theorem Long.final {X V n xv yv s:Nat} {U q:List Nat} (h:Long X V n 0 U q) (hX:X=xv*2 ^ s) (hVv:V=yv*2 ^ s) (hV:V<W64 ^ n) (hn:n≤U.length) (hs:s<64) :
  val W64 q=xv / yv∧val W64 (shrL s (U.take n))=xv % yv:=by
 have htop:=h.top
 rw [List.drop_zero] at htop
 have hsum:=h.sum
 have hV0:0<V:=by omega
 have hs0:0<2 ^ s:=Nat.pow_pos oM
 have e1:X / V=val W64 q:=by rw [hsum,Nat.add_mul_div_left _ _ hV0,Nat.div_eq_of_lt htop,Nat.zero_add]
 have e2:X % V=val W64 U:=by rw [hsum,Nat.add_mul_mod_self_left,Nat.mod_eq_of_lt htop]
 have hUt:val W64 (U.take n)=val W64 U:=by
  have e:=val_split W64 U n hn
  rcases Nat.eq_zero_or_pos (val W64 (U.drop n)) with h0 | h0
  ·rw [h0,Nat.mul_zero,Nat.add_zero] at e;exact e.symm
  ·exfalso
   have:W64 ^ n*1≤W64 ^ n*val W64 (U.drop n):=Nat.mul_le_mul_left _ h0
   omega
 rw [hX,hVv,Nat.mul_div_mul_right _ _ hs0] at e1
 rw [hX,hVv,Nat.mul_mod_mul_right] at e2
 refine ⟨e1.symm,?_⟩
 rw [shrL_val s hs (h.dU.take n),hUt,← e2,Nat.mul_div_cancel _ hs0]
theorem wrap_add1 (x c:Nat):IntKind.u64.wrap ((x:Int)+(c:Int))=(((x+c) % W64:Nat):Int):=by
 rw [← Int.natCast_add,wrapU64_nat];rfl
theorem shiftUp_small (a:Option Addr) (cap p:Nat) (l:List Nat) (w:World) (hS:Sl n64 w (.slice a l.length cap) l) (hD:Dig W64 l) (hl:l.length≤100000000) (hp:p<64) :
  Calls prog 244 #[.slice a l.length cap,.int .i64 (p:Int)] w fun e w'=>∃ out,e=.returned (.slice (some ⟨w.heap.size,0,none⟩) (l.length+1) (l.length+1))∧Blk n64 w' w.heap.size out∧out.length=l.length+1∧Dig W64 out∧val W64 out=val W64 l*2 ^ p∧Below w.heap.size w w':=by
 have:=shiftUp_any a cap 0 p l w hS hD hl oM hp
 simp only [Int.natCast_zero,Int.mul_zero,Int.zero_add,Nat.add_zero,Nat.mul_zero,Nat.zero_add] at this
 exact this
theorem copy_whole (w:World) (g h n:Nat) (old new:List Nat) (hg:Blk n64 w g old) (hh:Blk n64 w h new) (hl:old.length=n) (hn:new.length=n) :
  ∃ w',(Builtin.copy_ #[154,154] 3 #[.slice (some ⟨g,0,none⟩) n n,.slice (some ⟨h,0,none⟩) n n]).run prog w=.ok (.int .i64 (n:Int)) w'∧Blk n64 w' g new∧Kept (·=g) w w':=by
 obtain ⟨T,hT⟩:=hg
 have hrun:=run_copy_row (P:=prog) w 154 154 3 73 g 0 n n ⟨h,0,none⟩ n n (cellsOf n64 old) T (new.map n64) Tryz.underlying154 kR hT (by simp [hn]) (fun j v hj=>by
  rw [List.getElem?_map] at hj
  have hjl:j<new.length:=by
   rcases Nat.lt_or_ge j new.length with h | h
   ·exact h
   ·rw [List.getElem?_eq_none h] at hj;cases hj
  rw [List.getElem?_eq_getElem hjl] at hj
  simp only [Option.map_some,Option.some.injEq] at hj
  rw [← hj]
  have e:(⟨h,0,none⟩:Addr).add j=⟨h,j,none⟩:=by unfold Addr.add;split <;> simp_all
  rw [e];exact hh.cell j hjl) (by simp [cellsOf_size,hl,hn]) (fun v hv=>by rw [List.mem_map] at hv;obtain ⟨z,_,rfl⟩:=hv;rfl)
 have hd:(cellsOf n64 old).toList.take 0++new.map n64++(cellsOf n64 old).toList.drop (0+(new.map n64).length)=new.map n64:=by
  rw [List.drop_of_length_le (by simp [cellsOf,hl,hn])];simp
 rw [hd] at hrun
 refine ⟨_,by rw [hrun];simp [goInt,hn];rfl,⟨T,setRow_heap w g _ _ T _ hT⟩,⟨rfl,rfl,rfl,by simp [World.setRow],fun k _ hk=>setRow_other w g k _ hk⟩⟩
theorem div_setup (x y vo xo:List Nat) (t s:Nat) (hNy:Norm W64 y) (hDx:Dig W64 x) (hy2:2≤y.length) (hxy:y.length≤x.length) (hs64:s<64) (htk:t<2 ^ Lib.bitLen t∧2 ^ (Lib.bitLen t-1)≤t∧0<Lib.bitLen t∧Lib.bitLen t≤64) (hs:s=64-Lib.bitLen t) (hyt:y[y.length-1]'(by omega)=t)
  (hvl:vo.length=y.length+1) (hvD:Dig W64 vo) (hvv:val W64 vo=val W64 y*2 ^ s) (hxl:xo.length=x.length+1) (hxD:Dig W64 xo) (hxv:val W64 xo=val W64 x*2 ^ s) :
  (val W64 vo<W64 ^ y.length∧W64 ^ y.length≤2*val W64 vo)∧val W64 (vo.take y.length)=val W64 vo∧W64≤2*(vo.take y.length).getD (y.length-1) 0∧0<val W64 vo ∧
  Long (val W64 xo) (val W64 vo) y.length (x.length-y.length+1) xo (List.replicate (x.length-y.length+1) 0):=by
 have hyd:y.dropLast++[t]=y:=by
  have hne:y≠[]:=by intro e;rw [e] at hy2;simp at hy2
  have h1:=List.dropLast_concat_getLast hne
  rw [List.getLast_eq_getElem,hyt] at h1
  exact h1
 have hdf:=divisor_facts y.dropLast t s (Lib.bitLen t) (fun z hz=>hNy.1 z ((List.dropLast_sublist y).subset hz)) htk.1 htk.2.1 htk.2.2.1 (by have:=htk.2.2.2;omega)
 rw [← val_snoc,hyd,List.length_dropLast,show y.length-1+1=y.length by omega,← hvv] at hdf
 have hvl2:(vo.take y.length).length=y.length:=by simp;omega
 have hvV:val W64 (vo.take y.length)=val W64 vo:=by
  have e:=val_split W64 vo y.length oM
  rcases Nat.eq_zero_or_pos (val W64 (vo.drop y.length)) with h | h
  ·rw [h,Nat.mul_zero,Nat.add_zero] at e;exact e.symm
  ·exfalso
   have:W64 ^ y.length*1≤W64 ^ y.length*val W64 (vo.drop y.length):=Nat.mul_le_mul_left _ h
   omega
 have hth:=top_half (vo.take y.length) y.length (hvD.take _) hvl2 oM (by rw [hvV];exact hdf.2)
 have htw:=top_words (vo.take y.length) y.length (hvD.take _) hvl2 hy2
 have hV0:0<val W64 vo:=by have:0<W64 ^ y.length:=Nat.pow_pos (by decide);omega
 have hstart:Long (val W64 xo) (val W64 vo) y.length (x.length-y.length+1) xo (List.replicate (x.length-y.length+1) 0):=by
  refine ⟨hxD,Dig.zeros (by decide) _,?_,by rw [val_zeros];simp,fun k _=>by simp [List.getD_eq_getElem?_getD,List.getElem?_replicate];split <;> simp⟩
  have hdr:(xo.drop (x.length-y.length+1)).length=y.length:=by simp;omega
  have hlt:=val_lt hDx
  have e:=val_split W64 xo (x.length-y.length+1) oM
  have hp:0<W64 ^ (x.length-y.length+1):=Nat.pow_pos (by decide)
  have h63:2*2 ^ s≤W64:=by rw [W64_pow,Nat.mul_comm,← Nat.pow_succ];exact Nat.pow_le_pow_right oM oM
  have h1:2*val W64 xo<W64*W64 ^ x.length:=by
   rw [hxv]
   have a1:val W64 x*2 ^ s<W64 ^ x.length*2 ^ s:=Nat.mul_lt_mul_of_pos_right hlt (Nat.pow_pos oM)
   have a2:W64 ^ x.length*(2*2 ^ s)≤W64 ^ x.length*W64:=Nat.mul_le_mul_left _ h63
   have a3:W64 ^ x.length*(2*2 ^ s)=2*(W64 ^ x.length*2 ^ s):=by grind
   rw [Nat.mul_comm W64];omega
  have h2:W64*W64 ^ x.length=W64 ^ (x.length-y.length+1)*W64 ^ y.length:=by rw [← Nat.pow_add,Nat.mul_comm,← Nat.pow_succ];congr 1;omega
  have h3:W64 ^ (x.length-y.length+1)*(2*val W64 (xo.drop (x.length-y.length+1)))<W64 ^ (x.length-y.length+1)*W64 ^ y.length:=by
   rw [← h2]
   have:W64 ^ (x.length-y.length+1)*(2*val W64 (xo.drop (x.length-y.length+1)))=2*(W64 ^ (x.length-y.length+1)*val W64 (xo.drop (x.length-y.length+1))):=by grind
   omega
  have h4:=Nat.lt_of_mul_lt_mul_left h3
  omega
 exact ⟨hdf,hvV,hth,hV0,hstart⟩
set_option maxRecDepth 100000 in
set_option maxHeartbeats 3200000 in
theorem divWords_any (a a':Option Addr) (cap cap':Nat) (x y:List Nat) (w:World) (hSx:Sl n64 w (.slice a x.length cap) x) (hSy:Sl n64 w (.slice a' y.length cap') y) (hDx:Dig W64 x) (hNy:Norm W64 y) (hx:x.length≤100000000) (hy2:2≤y.length) (hxy:y.length≤x.length) :
  Calls prog 235 #[.slice a x.length cap,.slice a' y.length cap'] w fun e w'=>∃ q r g h,e=.returned (.tuple #[.slice (some ⟨g,0,none⟩) q.length q.length,.slice (some ⟨h,0,none⟩) r.length r.length])∧Blk n64 w' g q∧Blk n64 w' h r∧Dig W64 q∧Dig W64 r∧q.length≤x.length∧r.length≤x.length∧val W64 q=val W64 x / val W64 y∧val W64 r=val W64 x % val W64 y∧Below w.heap.size w w'∧w.heap.size≤g∧g<h:=by
 obtain ⟨b,off,rfl,hb,hc⟩:=hSy.at (y.length-1) oM
 have htop:y[y.length-1]'(by omega)≠0:=hNy.2 _ (by rw [List.getLast?_eq_getElem?,List.getElem?_eq_getElem (by omega)])
 have htW:=hNy.1.get (y.length-1) oM
 have hvy:=val_snoc W64 y.dropLast (y[y.length-1]'(by omega))
 generalize hyt:y[y.length-1]'(by omega)=t at *
 have hbl:=bitLen_bounds t htop (by rw [← W64_pow];exact htW)
 obtain ⟨s,hs⟩:∃ s,s=64-Lib.bitLen t:=⟨_,rfl⟩
 have hs64:s<64:=by omega
 have hsI:(64:Int)-(Lib.bitLen t:Int)=(s:Int):=by omega
 have htI:(t:Int)≤18446744073709551615:=by simp only [W64_val] at htW;omega
 have HS:=hid (And.intro hsI (And.intro hbl (And.intro hs (And.intro htop (And.intro htW (And.intro hvy hyt))))))
 clear hsI hbl hs htop htW hvy hyt
 have q1:(y.length:Int)-1<y.length:=by omega
 go_enter func235,ntmps235
 go_wp2_with fail
 refine (Tryz.bits_LeadingZeros64 t w oM htI).mono ?_
 rintro e w1 ⟨rfl,rfl⟩
 rw [Int.toNat_natCast,HS.out.1]
 go_wp2_with fail
 refine (shiftUp_small (some ⟨b,off,none⟩) cap' s y w1 hSy hNy.1 oM hs64).mono ?_
 rintro e w2 ⟨vo,rfl,hBv,hvl,hvD,hvv,hb2⟩
 have hmk:=make_u64z ((x.length:Int)+1) (x.length+1) oM oM
 go_wp2_with fail
 have hBu:=mk64_blk w2 (x.length+1)
 have hz2:=mk64_size w2 (x.length+1)
 have hK3:=mk64_below (Below.refl w2.heap.size w2) (Nat.le_refl _) (x.length+1)
 have hK1:Below w1.heap.size w1 (mk64 w2 (x.length+1)):=mk64_below hb2 hb2.size _
 generalize mk64 w2 (x.length+1)=W3 at *
 have HZ2:=hid hz2
 have hz2':w2.heap.size<W3.heap.size:=by omega
 clear hz2
 refine (shiftUp_small a cap s x W3 (hSx.below hK1) hDx hx hs64).mono ?_
 rintro e w4 ⟨xo,rfl,hBx,hxl,hxD,hxv,hb4⟩
 have hBu4:=hBu.below hb4
 have hBv4:=(hBv.below hK3).below hb4
 have hzv:=hBv.lt
 have hK4:Below w1.heap.size w1 w4:=hK1.trans (hb4.mono hK1.size)
 have hz4:=hb4.size
 obtain ⟨w5,hrun,hB5,hk5⟩:=copy_whole w4 w2.heap.size W3.heap.size (x.length+1) _ xo hBu4 hBx (by simp) hxl
 have hBv5:=hBv4.kept hk5 oM
 have hz5:=hk5.size
 have hmk2:=make_u64z ((x.length:Int)-y.length+1) (x.length-y.length+1) oM oM
 have HF:=hid (And.intro (div_setup x y vo xo t s hNy hDx hy2 hxy hs64 HS.out.2.1 HS.out.2.2.1 HS.out.2.2.2.2.2.2 hvl hvD hvv hxl hxD hxv) (And.intro hvv (And.intro hxv (And.intro hvl hxl))))
 clear hvv hxv hvl hxl
 have ha0:=add64_run0
 have ha1:=add64_run
 have hs1:=sub64_run
 go_wp2
 have hBq:=mk64_blk w5 (x.length-y.length+1)
 have hzq:=mk64_size w5 (x.length-y.length+1)
 have hKq:=mk64_below (Below.refl w5.heap.size w5) (Nat.le_refl _) (x.length-y.length+1)
 have hK5:Below w1.heap.size w1 w5:=hK4.trans (hk5.below w1.heap.size hK4.size (fun k hk e=>by omega))
 generalize mk64 w5 (x.length-y.length+1)=W6 at *
 have HZQ:=hid hzq
 have hB5:=hB5.below hKq
 have hBv5:=hBv5.below hKq
 have hK6:=hK5.trans (hKq.mono hK5.size)
 clear hzq hmk2 hrun hBv hBv4 hBx hBu4 hBu hk5 hKq hK4 hb4
 go_loopg [10,11,12,13,14,15,16,17,18,19,20,89,150] (x.length-y.length+1) (fun g vj _ _ _ _ _ _ _ _ _ _ _ _ wr=>∃ (U q:List Nat),g≤x.length-y.length+1∧vj=.int .i64 ((g:Int)-1)∧Blk n64 wr w2.heap.size U∧U.length=x.length+1∧Blk n64 wr w5.heap.size q∧q.length=x.length-y.length+1∧Long (val W64 xo) (val W64 vo) y.length g U q∧Blk n64 wr w1.heap.size vo∧Below w1.heap.size w1 wr)
 case atStart=>exact ⟨xo,_,Nat.le_refl _,by congr 1;omega,hB5,HF.out.2.2.2.2,hBq,by simp,HF.out.1.2.2.2.2,hBv5,hK6⟩
 case round =>
  obtain ⟨U,q,hg,rfl,hBU,hUl,hBQ,hql,hLong,hBV,hK⟩:=hrel
  have HL:=hid (And.intro hUl (And.intro hql hLong))
  clear hUl hql hLong
  by_cases h0:gk=0
  ·subst h0
   have hUl:=HL.out.1
   have hfin:=HL.out.2.2.final (s:=s) HF.out.2.2.1 HF.out.2.1 HF.out.1.1.1 oM hs64
   have hSu:Sl n64 wr (.slice (some ⟨w2.heap.size,0,none⟩) y.length (x.length+1)) (U.take y.length):=by
    have:=hBU.sl (x.length+1)
    rw [hUl] at this
    exact this.pre y.length oM
   have htl:(U.take y.length).length=y.length:=by simp;omega
   have hsd:=shiftDown_some (some ⟨w2.heap.size,0,none⟩) (x.length+1) 0 s (U.take y.length) wr (by rw [htl];exact hSu) (HL.out.2.2.dU.take _) oM oM hs64
   simp only [htl,Int.natCast_zero,Int.mul_zero,Int.zero_add,Nat.sub_zero,List.drop_zero] at hsd
   have HSD:=hid (And.intro hsd (And.intro hfin htl))
   clear hsd hfin hSu htl hUl
   go_wp2_with fail
   refine HSD.out.1.mono ?_
   rintro e w9 ⟨rfl,hBr,hb9⟩
   go_wp2
   go_ret2
   obtain ⟨_,hfin,htl⟩:=HSD.out
   have hrl:(shrL s (U.take y.length)).length=y.length:=by rw [shrL_length,htl]
   refine ⟨q,shrL s (U.take y.length),w5.heap.size,wr.heap.size,?_,hBQ.below hb9,hBr,HL.out.2.2.dq,shrL_dig s hs64 (HL.out.2.2.dU.take _),by have:=HL.out.2.1;omega,by omega,hfin.1,hfin.2,hK.trans (hb9.mono hK.size),?_,hBQ.lt⟩
   rotate_left
   ·omega
   rw [hrl,HL.out.2.1]
   rfl
  ·obtain ⟨j,rfl⟩:∃ j,gk=j+1:=⟨gk-1,by omega⟩
   rw [show ((j+1:Nat):Int)-1=(j:Int) by omega]
   clear h0
   have hjx:j+(y.length+1)≤U.length:=by have:=HL.out.1;omega
   have hLg:=HL.out.2.2.guess (vl:=vo.take y.length) hjx hy2 HF.out.1.1.1 HF.out.1.1.2 (by have:=HF.out.2.2.2.1;simp;omega) (hvD.take _) HF.out.1.2.1
   have hthh:=HF.out.1.2.2.1
   have hvol:vo.length=y.length+1:=HF.out.2.2.2.1
   have hUl:=HL.out.1
   have c2:=hBU.cell (j+y.length) oM
   have c1:=hBU.cell (j+y.length-1) oM
   have c0:=hBU.cell (j+y.length-2) oM
   have d1:=hBV.cell (y.length-1) oM
   have d0:=hBV.cell (y.length-2) oM
   rw [show U.getD (j+y.length) 0=U[j+y.length]'(by omega) by simp [show j+y.length<U.length by omega],show U.getD (j+(y.length-1)) 0=U[j+y.length-1]'(by omega) by simp [show j+(y.length-1)=j+y.length-1 by omega,show j+y.length-1<U.length by omega],show U.getD (j+(y.length-2)) 0=U[j+y.length-2]'(by omega) by simp [show j+(y.length-2)=j+y.length-2 by omega,show j+y.length-2<U.length by omega],
    show (vo.take y.length).getD (y.length-1) 0=vo[y.length-1]'(by omega) by simp [getD_take,show y.length-1<y.length by omega,show y.length-1<vo.length by omega],show (vo.take y.length).getD (y.length-2) 0=vo[y.length-2]'(by omega) by simp [getD_take,show y.length-2<y.length by omega,show y.length-2<vo.length by omega]] at hLg
   rw [show (vo.take y.length).getD (y.length-1) 0=vo[y.length-1]'(by omega) by simp [getD_take,show y.length-1<y.length by omega,show y.length-1<vo.length by omega]] at hthh
   have b2:=HL.out.2.2.dU.get (j+y.length) oM
   have b1:=HL.out.2.2.dU.get (j+y.length-1) oM
   have b0:=HL.out.2.2.dU.get (j+y.length-2) oM
   have e1:=hvD.get (y.length-1) oM
   have e0:=hvD.get (y.length-2) oM
   generalize U[j+y.length]'(by omega)=u2 at *
   generalize U[j+y.length-1]'(by omega)=u1 at *
   generalize U[j+y.length-2]'(by omega)=u0 at *
   generalize vo[y.length-1]'(by omega)=v1 at *
   generalize vo[y.length-2]'(by omega)=v0 at *
   have HG:=hid (And.intro hLg (And.intro hthh (And.intro b2 (And.intro b1 (And.intro b0 (And.intro e1 e0))))))
   clear hLg hthh hvol hUl b2 b1 b0 e1 e0
   have q2:IntKind.i64.wrap ((j:Int)+y.length)=(j:Int)+y.length:=by rw [IntKind.wrap_i64];omega
   have q3:IntKind.i64.wrap ((j:Int)+y.length-1)=(j:Int)+y.length-1:=by rw [IntKind.wrap_i64];omega
   have q4:IntKind.i64.wrap ((j:Int)+y.length-2)=(j:Int)+y.length-2:=by rw [IntKind.wrap_i64];omega
   have q5:IntKind.i64.wrap ((y.length:Int)-1)=(y.length:Int)-1:=by rw [IntKind.wrap_i64];omega
   have q6:IntKind.i64.wrap ((y.length:Int)-2)=(y.length:Int)-2:=by rw [IntKind.wrap_i64];omega
   have p2:((j:Int)+y.length).toNat=j+y.length:=by omega
   have p3:((j:Int)+y.length-1).toNat=j+y.length-1:=by omega
   have p4:((j:Int)+y.length-2).toNat=j+y.length-2:=by omega
   have p5:((y.length:Int)-1).toNat=y.length-1:=by omega
   have p6:((y.length:Int)-2).toNat=y.length-2:=by omega
   have o2:(0:Int)≤(j:Int)+y.length:=by omega
   have o3:(0:Int)≤(j:Int)+y.length-1:=by omega
   have r3:(1:Int)≤(j:Int)+y.length:=by omega
   have r4:(2:Int)≤(j:Int)+y.length:=by omega
   have r5:(1:Int)≤(y.length:Int):=by omega
   have r6:(2:Int)≤(y.length:Int):=by omega
   have o4:(0:Int)≤(j:Int)+y.length-2:=by omega
   have o5:(0:Int)≤(y.length:Int)-1:=by omega
   have o6:(0:Int)≤(y.length:Int)-2:=by omega
   have l2:(j:Int)+y.length<(x.length:Int)+1:=by omega
   have l3:(j:Int)+y.length-1<(x.length:Int)+1:=by omega
   have l4:(j:Int)+y.length-2<(x.length:Int)+1:=by omega
   have l5:(y.length:Int)-1<(y.length:Int):=by omega
   have l6:(y.length:Int)-2<(y.length:Int):=by omega
   have m2:j+y.length<x.length+1:=by omega
   have m3:j+y.length-1<x.length+1:=by omega
   have m4:j+y.length-2<x.length+1:=by omega
   have m5:y.length-1<y.length:=by omega
   have m6:y.length-2<y.length:=by omega
   go_wp2
   go_still_tail 30,kR
   change wpList _ _ _ _ _ wr.drew
   go_wp2_with fail
   obtain ⟨hLg,hthh,b2,b1,b0,e1,e0⟩:=HG.out
   refine (guessWord_any u2 u1 u0 v1 v0 wr.drew hLg.1 b1 b0 e1 e0 hthh).mono ?_
   rintro e w7 ⟨g,rfl,hg1,hg2,hg3,hb7⟩
   have hgR:=hLg.2 g hg1 hg2 hg3
   have HGR:=hid (And.intro hgR hg1)
   clear hgR hg1 hg2 hg3 hLg hthh b2 b1 b0 e1 e0 HG c2 c1 c0 d1 d0 q2 q3 q4 q5 q6 p2 p3 p4 p5 p6 o2 r3 r4 r5 r6 o3 o4 o5 o6 l2 l3 l4 l5 l6 m2 m3 m4 m5 m6
   have hBU7:=hBU.drew.below hb7
   have hBQ7:=hBQ.drew.below hb7
   have hBV7:=hBV.drew.below hb7
   have hK7:=hK.drew.trans (hb7.mono hK.size)
   clear hBU hBQ hBV hK hb7
   have hd1:decide ((j:Int)≥0)=true:=by simp
   have hd2:decide ((0:Int)≤(j:Int))=true:=by simp
   go_wp2
   go_loopg [12,13,14,15,16,17,18,89] y.length (fun g' vc vb _ _ _ _ _ vi wr=>∃ (i c b:Nat) (U1:List Nat),i+g'=y.length∧vi=.int .i64 i∧vc=.int .u64 c∧vb=.int .u64 b∧c<W64∧b≤1∧Blk n64 wr w2.heap.size U1∧Alike U1 U j (y.length+1)∧Dig W64 U1∧(∀ k,j+i≤k→U1.getD k 0=U.getD k 0)∧val W64 U1+g*val W64 ((vo.take y.length).take i)*W64 ^ j=val W64 U+(b+c)*W64 ^ (j+i)∧Blk n64 wr w1.heap.size vo∧Blk n64 wr w5.heap.size q∧Below w1.heap.size w1 wr)
   case atStart=>exact ⟨0,0,0,U,by omega,rfl,rfl,rfl,by decide,by omega,hBU7,Alike.refl _ _ _,HL.out.2.2.dU,fun _ _=>rfl,by simp [val],hBV7,hBQ7,hK7⟩
   case round =>
    obtain ⟨i,c,b,U1,hi,rfl,rfl,rfl,hcW,hb1,hBU1,hal,hD1,hab,hv1,hBV1,hBQ1,hK1'⟩:=hrel
    have HI:=hid (And.intro hi (And.intro hcW (And.intro hal (And.intro hD1 (And.intro hab hv1)))))
    clear hi hcW hal hD1 hab hv1
    have hU1l:U1.length=x.length+1:=by rw [HI.out.2.2.1.1];exact HL.out.1
    by_cases hlt:i<y.length
    ·have hvol:vo.length=y.length+1:=HF.out.2.2.2.1
     have hcv:=hBV1.cell i oM
     have hvi:=hvD.get i oM
     have hgv:Hid ((vo.take y.length).getD i 0=vo[i]'(by omega)):=by show _=_;simp [getD_take,hlt,show i<vo.length by omega]
     generalize vo[i]'(by omega)=z at *
     have hku:j+i<U1.length:=by omega
     have hcu:=hBU1.cell (j+i) hku
     have hxu:=HI.out.2.2.2.1.get (j+i) hku
     have hgu:Hid (U1.getD (j+i) 0=U1[j+i]):=by show _=_;simp [hku]
     generalize U1[j+i]=xu at *
     have hfu:=hBU1.free (j+i)
     have m1:j+i<x.length+1:=by omega
     have hg1:=HGR.out.2
     have HUL:=hid hU1l
     clear hU1l hvol
     go_wp2_with fail
     refine (Tryz.bits_Mul64 g z hg1 hvi wr).mono ?_
     rintro e w8 ⟨rfl,rfl⟩
     generalize hlw:g*z % 18446744073709551616=lw
     generalize hhi:g*z / 18446744073709551616=hi
     have HM:=hid (And.intro hlw hhi)
     clear hlw hhi hg1
     go_wp2
     go_roundg (gk-1)
     case measure=>have:=HI.out.1;omega
     case rel =>
      obtain ⟨hi',hcW,hal,hD1,hab,hv1⟩:=HI.out
      obtain ⟨hlw,hhi⟩:=HM.out
      have hg1:=HGR.out.2
      have hlwW:lw<W64:=by rw [← hlw];exact Nat.mod_lt _ (by decide)
      have hhl:hi*W64+lw=g*z:=by
       have:=Nat.div_add_mod (g*z) W64
       rw [show g*z / W64=hi from hhi,show g*z % W64=lw from hlw] at this
       rw [Nat.mul_comm];exact this
      have hgz:=mul_lt hg1 hvi (show 0<W64 by decide) hcW
      have sr:=sub_round U1 U (vo.take y.length) j i (j+i) g c b xu z hi lw rfl hku hxu hgu.out hgv.out hlwW hhl oM hcW hb1 hv1
      rw [sr.1]
      refine ⟨i+1,hi+addHi lw c 0,subHi xu (addLo lw c 0) b,U1.set (j+i) (subLo xu (addLo lw c 0) b),by omega,by go_num,rfl,rfl,sr.2.1,sr.2.2.1,hBU1.set (j+i) _,hal.set _ _ oM oM,hD1.set _ _ sr.2.2.2.1,fun k hk=>?_,?_,hBV1.other ⟨w2.heap.size,j+i,none⟩ _ (by simp;omega),hBQ1.other ⟨w2.heap.size,j+i,none⟩ _ (by simp;omega),hK1'.setCell (p:=⟨w2.heap.size,j+i,none⟩) (by simp;omega) _⟩
      ·rw [getD_set_ne _ _ _ _ (by omega)];exact hab k oM
      ·rw [show j+(i+1)=j+i+1 by omega];exact sr.2.2.2.2
    ·obtain ⟨hi',hcW,hal,hD1,hab,hv1⟩:=HI.out
     obtain rfl:i=y.length:=by omega
     have hvol:vo.length=y.length+1:=HF.out.2.2.2.1
     rw [List.take_of_length_le (show (vo.take y.length).length≤y.length by simp;omega),HF.out.1.2.1] at hv1
     have hku:j+y.length<U1.length:=by omega
     have hcu:=hBU1.cell (j+y.length) hku
     have hgu:U1.getD (j+y.length) 0=U1[j+y.length]:=by simp [hku]
     have hse:=sub_end U U1 (val W64 vo) g c b _ j y.length hjx hal HL.out.2.2.dU hD1 hgu hcW hb1 hv1 HF.out.1.2.2.2.1 HF.out.1.1.1 HGR.out.1.1 HGR.out.1.2
     generalize U1[j+y.length]=xu at *
     have hfu:=hBU1.free (j+y.length)
     have m1:j+y.length<x.length+1:=by omega
     have HK:=hid hse
     clear hse hi' hcW hal hD1 hab hv1 hgu hvol
     have hBU2:=hBU1.set (j+y.length) (subLo xu c b)
     have hBV2:=hBV1.other ⟨w2.heap.size,j+y.length,none⟩ (n64 (subLo xu c b)) (by simp;omega)
     have hBQ2:=hBQ1.other ⟨w2.heap.size,j+y.length,none⟩ (n64 (subLo xu c b)) (by simp;omega)
     have hK2:=hK1'.setCell (p:=⟨w2.heap.size,j+y.length,none⟩) (by simp;omega) (n64 (subLo xu c b))
     go_upto_if 146 with (fail)
     generalize wr.setCell ⟨w2.heap.size,j+y.length,none⟩ (n64 (subLo xu c b))=w9 at *
     clear hcu hfu hBU1 hBV1 hBQ1 hK1'
     have hlU2:(U1.set (j+y.length) (subLo xu c b)).length=x.length+1:=by simpa using hU1l
     generalize U1.set (j+y.length) (subLo xu c b)=U2 at *
     generalize subHi xu c b=bb at *
     go_cut [11] (fun vg wx=>vg=.int .u64 ((val W64 (mid U j (y.length+1)) / val W64 vo:Nat):Int)∧∃ U3:List Nat,Blk n64 wx w2.heap.size U3∧Alike U3 U j (y.length+1)∧Dig W64 U3∧val W64 (mid U3 j (y.length+1))=val W64 (mid U j (y.length+1)) % val W64 vo∧Blk n64 wx w1.heap.size vo∧Blk n64 wx w5.heap.size q∧Below w1.heap.size w1 wx)
     case first =>
      by_cases hbb:bb=0
      ·subst hbb
       go_wp2
       go_meet
       obtain ⟨h1,h2,h3,h4,h5⟩:=HK.out
       obtain ⟨z1,z2⟩:=h4 (by simp)
       exact ⟨by rw [← z1],U2,hBU2,h1,h2,z2,hBV2,hBQ2,hK2⟩
      ·obtain rfl:bb=1:=by have:=HK.out.2.2.1;omega
       clear hbb
       obtain ⟨k1,k2,k3,k4,k5⟩:=HK.out
       have k5:=k5 (by simp)
       have hg1:(1:Int)≤g:=by have:1≤g:=by { rw [k5.1];exact Nat.le_add_left 1 _ };omega
       have hg2:(g:Int)≤18446744073709551615:=by have:=HGR.out.2;simp only [W64_val] at this;omega
       have HKK:=hid (And.intro k1 (And.intro k2 k5))
       clear k1 k2 k3 k4 k5 HK
       go_wp2
       go_loopg [19,20,150] y.length (fun g' vc _ vi wr=>∃ (i c:Nat) (U3:List Nat),i+g'=y.length∧vi=.int .i64 i∧vc=.int .u64 c∧c≤1∧Blk n64 wr w2.heap.size U3∧Alike U3 U2 j y.length∧Dig W64 U3∧val W64 U3+c*W64 ^ (j+i)=val W64 U2+val W64 ((vo.take y.length).take i)*W64 ^ j∧Blk n64 wr w1.heap.size vo∧Blk n64 wr w5.heap.size q∧Below w1.heap.size w1 wr)
       case atStart=>exact ⟨0,0,U2,by omega,rfl,rfl,by omega,hBU2,Alike.refl _ _ _,HKK.out.2.1,by simp [val],hBV2,hBQ2,hK2⟩
       case round =>
        obtain ⟨i,c,U3,hi,rfl,rfl,hc1,hB3,hal3,hD3,hv3,hBV3,hBQ3,hK3'⟩:=hrel
        have HI:=hid (And.intro hi (And.intro hal3 (And.intro hD3 hv3)))
        clear hi hal3 hD3 hv3
        have hU3l:U3.length=x.length+1:=by rw [HI.out.2.1.1];exact hlU2
        by_cases hlt:i<y.length
        ·have hvol:vo.length=y.length+1:=HF.out.2.2.2.1
         have hcv:=hBV3.cell i oM
         have hvi:=hvD.get i oM
         have hgv:Hid ((vo.take y.length).getD i 0=vo[i]'(by omega)):=by show _=_;simp [getD_take,hlt,show i<vo.length by omega]
         generalize vo[i]'(by omega)=z at *
         have hku:j+i<U3.length:=by omega
         have hcu:=hB3.cell (j+i) hku
         have hxu:=HI.out.2.2.1.get (j+i) hku
         have hgu:Hid (U3.getD (j+i) 0=U3[j+i]):=by show _=_;simp [hku]
         generalize U3[j+i]=xu at *
         have hfu:=hB3.free (j+i)
         have m1:j+i<x.length+1:=by omega
         have HUL:=hid hU3l
         clear hU3l hvol
         have q2:IntKind.i64.wrap ((j:Int)+i)=(j:Int)+i:=by rw [IntKind.wrap_i64];omega
         have p2:((j:Int)+i).toNat=j+i:=by omega
         have o2:(0:Int)≤(j:Int)+i:=by omega
         have l2:(j:Int)+i<(x.length:Int)+1:=by omega
         go_wp2
         go_region
         go_wp2
         go_roundg (gk-1)
         case measure=>have:=HI.out.1;omega
         case rel =>
          obtain ⟨hi,hal3,hD3,hv3⟩:=HI.out
          have ar:=add_round U3 U2 (vo.take y.length) j i (j+i) c xu z rfl hku hxu hgu.out hgv.out hvi hc1 hv3
          refine ⟨i+1,addHi xu z c,U3.set (j+i) (addLo xu z c),by omega,by go_num,rfl,ar.2.1,(hB3.set (j+i) _).drew,hal3.set _ _ oM oM,hD3.set _ _ ar.1,?_,(hBV3.other ⟨w2.heap.size,j+i,none⟩ _ (by simp;omega)).drew,(hBQ3.other ⟨w2.heap.size,j+i,none⟩ _ (by simp;omega)).drew,(hK3'.setCell (p:=⟨w2.heap.size,j+i,none⟩) (by simp;omega) _).drew⟩
          rw [show j+(i+1)=j+i+1 by omega];exact ar.2.2
        ·obtain ⟨hi,hal3,hD3,hv3⟩:=HI.out
         obtain rfl:i=y.length:=by omega
         have hvol:vo.length=y.length+1:=HF.out.2.2.2.1
         rw [List.take_of_length_le (show (vo.take y.length).length≤y.length by simp;omega),HF.out.1.2.1] at hv3
         have hku:j+y.length<U3.length:=by omega
         have hcu:=hB3.cell (j+y.length) hku
         have hgu:U3.getD (j+y.length) 0=U3[j+y.length]:=by simp [hku]
         have hmM:val W64 (mid U j (y.length+1)) % val W64 vo<W64 ^ (y.length+1):=by
          refine Nat.lt_of_le_of_lt (Nat.mod_le _ _) ?_
          have:=val_lt (mid_dig HL.out.2.2.dU j (y.length+1));rwa [mid_length _ _ _ hjx] at this
         have hae:=add_end U2 U3 (val W64 vo) c _ j y.length _ oM hal3 hD3 hgu hc1 hv3 HKK.out.2.2.2 hmM
         generalize U3[j+y.length]=xu at *
         have hfu:=hB3.free (j+y.length)
         have m1:j+y.length<x.length+1:=by omega
         have HA:=hid hae
         clear hae hi hal3 hD3 hv3 hgu hvol hmM hU3l
         go_wp2
         go_meet
         rw [wrap_add1]
         obtain ⟨a1,a2,a3⟩:=HA.out
         refine ⟨?_,_,hB3.set (j+y.length) _,⟨a1.1.trans HKK.out.1.1,fun k hk=>(a1.2 k hk).trans (HKK.out.1.2 k hk)⟩,a2,a3,hBV3.other ⟨w2.heap.size,j+y.length,none⟩ _ (by simp;omega),hBQ3.other ⟨w2.heap.size,j+y.length,none⟩ _ (by simp;omega),hK3'.setCell (p:=⟨w2.heap.size,j+y.length,none⟩) (by simp;omega) _⟩
         rfl
     case rest =>
      obtain ⟨rfl,U3,hB3,hal3,hD3,hm3,hBV3,hBQ3,hK3'⟩:=hcut
      have hnx:=HL.out.2.2.next hjx HF.out.1.1.1 HF.out.1.2.2.2.1 (by have:=HL.out.2.1;omega) hal3 hD3 hm3
      have HN:=hid (And.intro hnx hal3.1)
      clear hnx hal3 hD3 hm3
      generalize val W64 (mid U j (y.length+1)) / val W64 vo=dg at *
      have hjq:j<q.length:=by have:=HL.out.2.1;omega
      obtain ⟨vq,hcq⟩:=hBQ3.has j hjq
      have hfq:=hBQ3.free j
      have mq:j<x.length-y.length+1:=by omega
      go_wp2
      go_roundg j
      case measure=>omega
      case rel=>exact ⟨U3,q.set j dg,by omega,rfl,hB3.other ⟨w5.heap.size,j,none⟩ _ (by simp;omega),by rw [HN.out.2];exact HL.out.1,hBQ3.set j dg,by simpa using HL.out.2.1,HN.out.1,hBV3.other ⟨w5.heap.size,j,none⟩ _ (by simp;omega),hK3'.setCell (p:=⟨w5.heap.size,j,none⟩) (by simp;omega) _⟩
def SlN {α:Type} (enc:α→Value) (H:Hp) (v:Value) (l:List α):Prop:=SlC H v l.length 1 (l.map enc)
theorem SlN.mono {α:Type} {enc:α→Value} {H G:Hp} {v:Value} {l:List α} (h:SlN enc H v l) (k:H.Le G):SlN enc G v l:=SlC.mono h k
theorem SlN.sl {α:Type} {enc:α→Value} {H:Hp} {v:Value} {l:List α} {W:World} (h:SlN enc H v l) (hf:Fits H W):∃ a cap,v=.slice a l.length cap∧Sl enc W (.slice a l.length cap) l∧(l=[]∨l.length≤cap):=by
 rcases h.2 with ⟨h0,a,cap,rfl⟩ | ⟨b,off,cap,c,rfl,hc,hH,hcs⟩
 ·have:=List.eq_nil_of_length_eq_zero h0
  subst this
  exact ⟨a,cap,rfl,.inl ⟨rfl,a,cap,rfl⟩,.inl rfl⟩
 ·obtain ⟨T,fz,hW⟩:=hf b c hH
  refine ⟨_,cap,rfl,.inr ⟨b,off,cap,rfl,(Array.getElem?_eq_some_iff.1 hW).1,fun j hj=>?_⟩,.inr hc⟩
  rw [cell_of_row W b (off+j) c T fz hW]
  apply hcs
  simp [hj]
theorem SlN.cap {α:Type} {enc:α→Value} {H:Hp} {a:Option Addr} {m cap:Nat} {l:List α} (h:SlN enc H (.slice a m cap) l):m=l.length:=by
 obtain ⟨a',cap',e⟩:=SlC.val h
 cases e;rfl
def Hp.put (H:Hp) (b:Nat) (c:Array Value):Hp:=fun k=>if k=b then some c else H k
theorem pc_new {α:Type} {enc:α→Value} {H:Hp} {W W':World} (hf:Fits H W) (hb:Below W.heap.size W W') {g:Nat} (hg:W.heap.size≤g) {l:List α} (hB:Blk enc W' g l) :
  H.Le (H.put g (cellsOf enc l))∧Fits (H.put g (cellsOf enc l)) W'∧Nw H W.heap.size (H.put g (cellsOf enc l)) W'∧∀ cap,l.length≤cap→SlN enc (H.put g (cellsOf enc l)) (.slice (some ⟨g,0,none⟩) l.length cap) l:=by
 have hn:H g=none:=by
  cases hc:H g with
  | none=>rfl
  | some c=>have:=hf.lt (b:=g) (by rw [hc];simp);omega
 obtain ⟨T,hT⟩:=hB
 refine ⟨fun b c h=>?_,fun b c h=>?_,fun b c h=>?_,fun cap hcap=>⟨by simp,.inr ⟨g,0,cap,cellsOf enc l,rfl,hcap,by simp [Hp.put],fun j x hj=>by simpa [cellsOf] using hj⟩⟩⟩
 ·have:b≠g:=fun e=>by subst e;rw [hn] at h;cases h
  simp only [Hp.put,if_neg this];exact h
 ·by_cases e:b=g
  ·subst e;simp only [Hp.put,if_true] at h;cases h;exact ⟨T,(0,0),hT⟩
  ·simp only [Hp.put,if_neg e] at h;exact hf.below hb b c h
 ·by_cases e:b=g
  ·subst e;simp only [Hp.put,if_true] at h;cases h;exact .inr ⟨hg,T,hT⟩
  ·simp only [Hp.put,if_neg e] at h;exact .inl h
theorem PC.ofBlk {P:Program} {f:FuncId} {args:Array Value} {H:Hp} {α:Type} {enc:α→Value} {Ψ:List α→Prop} (hc:Callable P f)
  (h:∀ W,Fits H W→Fits gH W→Calls P f args W fun e W'=>∃ (l:List α) (g cap:Nat),e=.returned (.slice (some ⟨g,0,none⟩) l.length cap)∧W.heap.size≤g∧l.length≤cap∧Blk enc W' g l∧Ψ l∧Below W.heap.size W W') :
  PC P f args H fun v H'=>∃ l,SlN enc H' v l∧Ψ l :=
 ⟨hc,fun W hW hg=>(h W hW hg).mono fun e W' ⟨l,g,cap,he,hgs,hcap,hB,hΨ,hb⟩=>by
  obtain ⟨h1,h2,h3,h4⟩:=pc_new hW hb hgs hB
  exact ⟨_,_,he,⟨l,h4 cap hcap,hΨ⟩,h1,h2,hb,h3⟩⟩
theorem PC.ofPure {P:Program} {f:FuncId} {args:Array Value} {H:Hp} {v:Value} (hc:Callable P f) (h:∀ W,Fits H W→Fits gH W→Calls P f args W fun e W'=>e=.returned v∧Below W.heap.size W W'):PC P f args H fun x _=>x=v :=
 ⟨hc,fun W hW hg=>(h W hW hg).mono fun e W' ⟨he,hb⟩=>⟨v,H,he,rfl,Hp.Le.refl H,hW.below hb,hb,Nw.refl _ _ _⟩⟩
abbrev big (n:Nat):Prop:=bl n≤1000000000
theorem natOf_pv (n:Nat) (h:n<W64):PV prog 75 #[n64 n] (natV n):=⟨(cO func75),fun W _=>natOf_any n W h⟩
theorem natSmall_pv (n:Nat):PV prog 230 #[natV n] (.tuple #[.int .u64 (if n<W64 then n else 0),.bool (decide (n<W64))]):=⟨(cO func230),fun W _=>natSmall_any n W⟩
theorem bits_pv (n:Nat) (hn:big n):PV prog 117 #[natV n] (.int .i64 (bl n:Int)):=⟨(cO func117),fun W _=>bits_any n W hn⟩
theorem natCmp_pv (a b:Nat) (ha:big a) (hb:big b):PV prog 190 #[natV a,natV b] (.int .i64 (ordN a b)):=⟨(cO func190),fun W _=>cmp_any a b W ha hb⟩
theorem words_pc (n:Nat) (hn:big n) (H:Hp):PC prog 80 #[natV n] H fun v H'=>SlN n64 H' v (dig W64 n):=by
 by_cases h:n=0
 ·subst h
  refine ⟨(cO func80),fun W hW _=>(words_zero W).mono fun e W' ⟨he,hb⟩=>?_⟩
  rw [dig_zero]
  exact ⟨_,H,he,⟨by simp,.inl ⟨rfl,none,0,rfl⟩⟩,Hp.Le.refl H,hW.below hb,hb,Nw.refl _ _ _⟩
 ·refine ⟨(cO func80),fun W hW _=>(words_any n W h hn).mono fun e W' ⟨g,hg,he,hB,hb⟩=>?_⟩
  obtain ⟨h1,h2,h3,h4⟩:=pc_new hW hb hg hB.blk
  exact ⟨_,_,he,h4 _ (Nat.le_refl _),h1,h2,hb,h3⟩
theorem fromWords_pc {v:Value} {l:List Nat} {H:Hp} (h:SlN n64 H v l) (hD:Dig W64 l) (hl:l.length≤100000000):PC prog 78 #[v] H fun x _=>x=natV (val W64 l):=by
 refine PC.ofPure (cO func78) fun W hW _=>?_
 obtain ⟨a,cap,rfl,hS,hc⟩:=h.sl hW
 rcases hc with rfl | hc
 ·exact fromWords_any a cap [] W hS hD hl (by simp)
 ·exact fromWords_any a cap l W hS hD hl hc
theorem mulWords_pc {u v:Value} {x y:List Nat} {H:Hp} (hu:SlN n64 H u x) (hv:SlN n64 H v y) (hDx:Dig W64 x) (hDy:Dig W64 y) (hx:x.length≤100000000) (hy:y.length≤100000000) :
  PC prog 79 #[u,v] H fun r H'=>∃ l,SlN n64 H' r l∧l.length=x.length+y.length∧Dig W64 l∧val W64 l=val W64 x*val W64 y:=by
 refine PC.ofBlk (cO func79) fun W hW _=>?_
 obtain ⟨a,cap,rfl,hS,_⟩:=hu.sl hW
 obtain ⟨a',cap',rfl,hS',_⟩:=hv.sl hW
 refine (mulWords_any a a' cap cap' x y W hS hS' hDx hDy hx hy).mono ?_
 rintro e W' ⟨out,he,hB,hl,hD,hval,hb⟩
 exact ⟨out,_,_,by rw [he,hl],Nat.le_refl _,by rw [hl];exact Nat.le_refl _,hB,⟨hl,hD,hval⟩,hb⟩
theorem shiftUp_pc {v:Value} {l:List Nat} {H:Hp} (h:SlN n64 H v l) (hD:Dig W64 l) (hl:l.length≤100000000) (k:Nat) (hk:k≤1000000000) :
  PC prog 244 #[v,.int .i64 (k:Int)] H fun r H'=>∃ out,SlN n64 H' r out∧out.length=l.length+k / 64+1∧Dig W64 out∧val W64 out=val W64 l*2 ^ k:=by
 refine PC.ofBlk (cO func244) fun W hW _=>?_
 obtain ⟨a,cap,rfl,hS,_⟩:=h.sl hW
 have e:(k:Int)=64*((k / 64:Nat):Int)+((k % 64:Nat):Int):=by omega
 rw [e]
 refine (shiftUp_any a cap (k / 64) (k % 64) l W hS hD hl oM oM).mono ?_
 rintro e W' ⟨out,he,hB,hl',hD',hval,hb⟩
 exact ⟨out,_,_,by rw [he,hl'],Nat.le_refl _,by rw [hl'];exact Nat.le_refl _,hB,⟨hl',hD',by rw [hval,show 64*(k / 64)+k % 64=k by omega]⟩,hb⟩
theorem dig_len_big {n:Nat} (h:big n):(dig W64 n).length≤15625001:=by rw [W64_pow,dig_len_bits 64 n (by omega)];omega
theorem more_eq (n:Nat):((moreB n).toList == ByteArray.toList ⟨#[]⟩)=decide (n<W64):=by
 by_cases h:n<W64
 ·rw [moreB_empty h,decide_eq_true h,show ByteArray.empty=(⟨#[]⟩:ByteArray) from rfl];exact beq_self_eq_true _
 ·have:=moreB_ne h
  rw [decide_eq_false h]
  cases hb:((moreB n).toList == ByteArray.toList ⟨#[]⟩) with
  | false=>rfl
  | true =>
   have e:(moreB n).toList=[]:=by simpa using hb
   rw [e] at this;cases this
theorem more_lt {n:Nat} (h:n<W64):((moreB n).toList == ByteArray.toList ⟨#[]⟩)=true:=by rw [more_eq,decide_eq_true h]
theorem more_ge {n:Nat} (h:¬ n<W64):((moreB n).toList == ByteArray.toList ⟨#[]⟩)=false:=by rw [more_eq,decide_eq_false h]
theorem natMul_tail (a b:Nat) (h:¬ (a<W64∧b<W64)) (ha:big a) (hb:big b) :
  PV prog 34 #[natV a,natV b] (natV (a*b)):=by
 refine PV.of_pc ?_
 refine BD func34 ntmps34 ?_
 try refine RUN ?_
 have la:=dig_len_big ha
 have lb:=dig_len_big hb
 have hpa:=fun G=>words_pc a ha G
 have hpb:=fun G=>words_pc b hb G
 by_cases h1:a<W64
 ·have h2:¬ b<W64:=fun h2=>h ⟨h1,h2⟩
  rw [more_lt h1]
  try refine RUN ?_
  rw [more_ge h2]
  try refine RUN ?_
  apply EV.drawn 6 kR kR
  intro x y
  refine' DJ.val tO rfl rfl rfl rfl rfl ?_;rotate_left
  refine' DJ.call rfl rfl rfl rfl rfl (hpa gH).can (fun G _ _=>hpa G) (fun v G G' h k=>h.mono k) ?_;rotate_left
  refine' DJ.val tO rfl rfl rfl rfl rfl ?_;rotate_left
  refine' DJ.call rfl rfl rfl rfl rfl (hpb gH).can (fun G _ _=>hpb G) (fun v G G' h k=>h.mono k) ?_;rotate_left
  refine' DJ.call rfl rfl rfl rfl rfl (cO func79) (fun G _ hd=>mulWords_pc (hd.tail.head kR) (hd.head kR) (dig_norm W64_two a).1 (dig_norm W64_two b).1 oM oM) (fun v G G' ⟨l,h,r⟩ k=>⟨l,h.mono k,r⟩) ?_;rotate_left
  refine' DJ.callS (v:=natV (a*b)) rfl rfl rfl rfl rfl (cO func78) (fun G _ hd=>?hpc) ?_
  case hpc =>
   obtain ⟨l,hs,hl,hD,hv⟩:=hd.head kR
   rw [dig_val W64_two,dig_val W64_two] at hv
   have:=fromWords_pc hs hD oM
   rwa [hv] at this
  rotate_left
  refine DJ.nil (fun G hG hF=>?_)
  case hS=>rfl
  case hS2=>rfl
  try refine RUN ?_
  rfl
 ·rw [more_ge h1]
  try refine RUN ?_
  apply EV.drawn 6 kR kR
  intro x y
  refine' DJ.val tO rfl rfl rfl rfl rfl ?_;rotate_left
  refine' DJ.call rfl rfl rfl rfl rfl (hpa gH).can (fun G _ _=>hpa G) (fun v G G' h k=>h.mono k) ?_;rotate_left
  refine' DJ.val tO rfl rfl rfl rfl rfl ?_;rotate_left
  refine' DJ.call rfl rfl rfl rfl rfl (hpb gH).can (fun G _ _=>hpb G) (fun v G G' h k=>h.mono k) ?_;rotate_left
  refine' DJ.call rfl rfl rfl rfl rfl (cO func79) (fun G _ hd=>mulWords_pc (hd.tail.head kR) (hd.head kR) (dig_norm W64_two a).1 (dig_norm W64_two b).1 oM oM) (fun v G G' ⟨l,h,r⟩ k=>⟨l,h.mono k,r⟩) ?_;rotate_left
  refine' DJ.callS (v:=natV (a*b)) rfl rfl rfl rfl rfl (cO func78) (fun G _ hd=>?hpc) ?_
  case hpc =>
   obtain ⟨l,hs,hl,hD,hv⟩:=hd.head kR
   rw [dig_val W64_two,dig_val W64_two] at hv
   have:=fromWords_pc hs hD oM
   rwa [hv] at this
  rotate_left
  refine DJ.nil (fun G hG hF=>?_)
  case hS=>rfl
  case hS2=>rfl
  try refine RUN ?_
  rfl
theorem natMul_pv (a b:Nat) (ha:big a) (hb:big b):PV prog 34 #[natV a,natV b] (natV (a*b)):=by
 by_cases h:a<W64∧b<W64
 ·refine ⟨(cO func34),fun W _=>?_⟩
  by_cases hab:a*b<W64
  ·exact mul_one a b W h.1 h.2 hab
  ·exact mul_two a b W h.1 h.2 hab
 ·exact natMul_tail a b h ha hb
end Go.Proofs.YtbcfidllfimehaaGreatDoor
