/- Texts of ours in one: Pg7, Str2, Str3, Bd1, Bd2, Pg9, Bd3, Tg2, Tg3, Kd17, Tg4, Pg8, Tr32, Tr33, Tr34, Tr35, Tr36, PgD, Ot1, Ot2, PgE, PgF, Th1, Th2, Th3, Th4, Tp1, Opn18, GnU, Lw10, Th6, DgP, Tx1, Tx2, Tx3, Tx4, Tx5, Ev29, Ev30, Tx6, Tx7, Tp2, Lc1, Tp3, Lc2, Tx8, Tx9, TxA, Tr3N, ThA, Tc1, Tc2, Tc3, Tc4, Tc5, Tc6, Tc7, Tc8, Ev31, Tc9, ThB, LaidE. -/
import Derived.Test.YtjdpljkildlfaaaGreatDoorC0
import Derived.Test.YtjdpljkildlfaaaGreatDoorC1
import Derived.Test.YtjdpljkildlfaaaGreatDoorC2
import Derived.Test.YtjdpljkildlfaaaGreatDoorC3
import Derived.Test.YtjdpljkildlfaaaGreatDoorC4
import Derived.Lib.ItoaMem
import Derived.Lib.AppendIntMem
import Derived.Lib.ItoaWalk
import Derived.WalkKit
import Derived.BigCall
import Derived.BigGuard
import Derived.Laws.Concat
import Derived.Lib.AppendStr
import Derived.Lib.UnsafeStr
import Derived.Laws.IdiomStrings
import Derived.ProofKit
import Derived.OpenShut
import Derived.LaidMore
import Derived.Lay
import Derived.Stop.Joined
set_option linter.unusedVariables false
set_option linter.unusedSimpArgs false
set_option maxHeartbeats 64000000
namespace Go.Proofs.YtjdpljkildlfaaaGreatDoor
section
open Go.RowKit _root_.Go.Proofs.Tryz
inductive GD where
 | v (qs:List Rat)
 | c (C:Nat) (ls:List Int)
def GD.kd:GD→Int
 | .v _=>2
 | .c _ _=>1
def GD.cl:GD→Int
 | .v _=>0
 | .c C _=>C
def GD.cost:GD→List Int→Rat
 | .v qs=>zhF qs
 | .c _ ls=>zgr ls
def GD.mean:GD→List Int→Rat
 | .v qs=>fun l=>zb5 (atR qs l)
 | .c _ _=>fun _=>0
def GD.cnt:GD→List Int→List Int
 | .v _=>fun _=>[]
 | .c C ls=>fun l=>zds C (atI ls l)
def GD.Ok (n:Nat):GD→Prop
 | .v qs=>qs.length=n∧zrt qs
 | .c C ls=>(1≤C∧C≤12)∧ls.length=n∧∀z,z∈ls→0≤z∧z<(C:Int)
def GD.P (H:Hp) (sl sv:Value):GD→Prop
 | .v qs=>∃la lc va vc,sl=.slice la 0 lc∧sv=.slice va qs.length vc∧QL H sv qs
 | .c _ ls=>∃la lc va vc,sl=.slice la ls.length lc∧sv=.slice va 0 vc∧IL H sl ls
def GD.R (H:Hp) (v:Value):GD→Prop
 | .v qs=>∃s,v=zas 2 0 (.slice none 0 0) s∧RL H s qs
 | .c C ls=>∃s,v=zas 1 C s (.slice none 0 0)∧IL H s ls
theorem zi8.gd {H:Hp} {v:Value} {n:Nat} {qs:List Rat} (h:zi8 H v n qs) (hql:qs.length=n) (hq:∀q,q∈qs→ht q≤5):∃d:GD,d.Ok n∧d.R H v∧d.cl≤4:=by
 rcases h with ⟨s,rfl,hs⟩ | ⟨cl,s,ls,rfl,hc1,hc2,hll,hlb,hs⟩
 ·exact⟨.v qs,⟨hql,zrt.of5 hq⟩,⟨s,rfl,hs⟩,by show (0:Int)≤4;decide⟩
 ·obtain⟨C,rfl⟩:=qh (show 0≤cl by omega);exact⟨.c C ls,⟨⟨by omega,by omega⟩,hll,hlb⟩,⟨s,rfl,hs⟩,hc2⟩
theorem GD.Ok.sm {n:Nat} {d:GD} (hd:d.Ok n):∀l:List Int,l.length≤300→(∀r,r∈l→0≤r∧r<(n:Int))→ht (d.mean l)≤4000∧ht (d.cost l)≤2000000:=by
 intro l hn hr
 cases d with
 | v qs =>
  obtain⟨rfl,hq⟩:=hd;have h2:=hq.small (m:=atR qs l) (fun q k=>zef hr q k) (by rw[zbP];omega);show ht (zb5 (atR qs l))≤4000∧ht (zhF qs l)≤2000000;unfold zhF;omega
 | c C ls =>
  have hsq:=zh5 (atI ls l);have hll:(atI ls l).length=l.length:=zb8 ls l;rw[hll]at hsq;have hsq2:l.length*l.length≤300*300:=Nat.mul_le_mul hn hn;have hn2:=zbz (l.length:Int);have hn3:bl (l.length:Int).natAbs≤20:=zaZ oM;have hs2:=zbz (sqL (atI ls l):Int);have hs3:bl (sqL (atI ls l):Int).natAbs≤20:=zaZ oM;have hdv:=zeO ((sqL (atI ls l):Int):Rat) ((l.length:Int):Rat);have hsb:=zjD ((l.length:Int):Rat) (((sqL (atI ls l):Int):Rat) / ((l.length:Int):Rat));refine⟨by show ht (0:Rat)≤4000;rw[zcr];decide,?_⟩;show ht (zgr ls l)≤2000000;unfold zgr zfP;rw[hll];omega
theorem GD.Ok.plain {n:Nat} {d:GD} (hd:d.Ok n):zi9 d.kd d.cl n d.cost d.mean d.cnt:=by
 have hsm:=hd.sm
 cases d with
 | v qs =>
  obtain⟨rfl,hq⟩:=hd;exact⟨.inr ⟨rfl,rfl⟩,fun _=>rfl,fun _ _ _ _ k=>rfl,fun l c hc=>(by cases hc),fun e=>absurd e (by decide:¬(2:Int)=1),fun e=>absurd e (by decide:¬(2:Int)=1),fun l=>zkM _ _,fun l hn hr=>(hsm l hn hr).2,fun l hn hr=>(hsm l hn hr).1⟩
 | c C ls =>
  obtain⟨hc,rfl,hlb⟩:=hd;refine⟨.inl ⟨rfl,by show (1:Int)≤(C:Int);omega,by show (C:Int)≤12;omega⟩,fun l=>by show ((zds C (atI ls l)).length:Int)=(C:Int);rw[zbo],fun r l m hp k=>zqg C (by have:=hp.map (fun r:Int=>ls.getD r.toNat 0);rwa [qn]at this) k,fun l c hc=>?_,fun _ l hr=>?_,fun _ l=>rfl,fun l=>zjs _,fun l hn hr=>(hsm l hn hr).2,fun l hn hr=>(hsm l hn hr).1⟩
  ·obtain⟨k,_,rfl⟩:=List.mem_map.1 hc;omega
  ·show (zds C (atI ls l)).sum=_;rw[zqh (fun z hz=>hlb z (zp9 hr z hz)),zb8]
theorem GD.Ok.pgoal {H:Hp} {n:Nat} {d:GD} (hd:d.Ok n) (h0:1≤n) (h1:n≤300) {sl sv:Value} (hP:d.P H sl sv) {p:GP} (e0:p.X.length=n) (e1:p.cost=d.cost) (e2:p.mean=d.mean) (e3:p.cnt=d.cnt):∃S wo,zky H d.kd d.cl sl sv p S wo:=by
 have hsm:=hd.sm
 cases d with
 | v qs =>
  obtain⟨rfl,hq⟩:=hd;obtain⟨la,lc,va,vc,rfl,rfl,hv⟩:=hP;have q100:∀q,q∈qs→ht q≤100:=fun q hq'=>qI (hq.bits q hq') oM;have hcnt:=fun (G:Hp) (u:Value)=>zmQ (H:=G) (v:=u) (va:=va) (vc:=vc) (la:=la) (lc:=lc) h0 h1;refine⟨zj9 qs,woV qs,⟨by rw[e0];exact zuv hv h0 h1 q100,by rw[e1];exact zuB qs,?_,?_,?_,?_,?_,?_⟩⟩
  ·rw[e0,e3];exact fun G hG u l hl hn=>hcnt G u
  ·rw[e3];exact fun l=>qQ _
  ·rw[e0,e3];exact fun G hG u l hl hn=>zmt (w:=u) ⟨_,_,_,_,rfl⟩ (hcnt G u) (by show ([]:List Int).length≤300;decide)
  ·rw[e0,e2];exact fun G hG u l hl hn=>zlV hl hn (SlC.mono hv hG) h0 h1 q100
  ·rw[e0,e1];exact fun l hn hr=>(hsm l hn hr).2
  ·rw[e0,e1];exact fun G hG u l hl hn=>zqj hl hn (SlC.mono hv hG) h0 h1 q100
 | c C ls =>
  obtain⟨hc,rfl,hlb⟩:=hd;obtain⟨la,lc,va,vc,rfl,rfl,hv⟩:=hP;have hcnt:=fun (G:Hp) (hG:H.Le G) (u:Value) (l:List Int) (hl:IL G u l) (hn:l.length≤300)=>zmP (va:=va) (vc:=vc) hl hn (SlC.mono hv hG) (C:=C) hc h0 h1 hlb;refine⟨zj8 ls,woL ls,⟨by rw[e0];exact zuu ⟨by show (1:Int)≤(C:Int);omega,by show (C:Int)≤12;omega⟩ hv h0 h1 hlb,by rw[e1];exact zuA (fun z hz=>⟨(hlb z hz).1,by have:=(hlb z hz).2;omega⟩),?_,?_,?_,?_,?_,?_⟩⟩
  ·rw[e0,e3];exact hcnt
  ·rw[e3];exact fun l=>by show (zds C (atI ls l)).length≤12;rw[zbo];omega
  ·rw[e0,e3];exact fun G hG u l hl hn=>zmt (w:=u) ⟨_,_,_,_,rfl⟩ (hcnt G hG u l hl hn) (by show (zds C (atI ls (exL l ls.length))).length≤300;rw[zbo];omega)
  ·rw[e0,e2];exact fun G hG u l hl hn=>zqF
  ·rw[e0,e1];exact fun l hn hr=>(hsm l hn hr).2
  ·rw[e0,e1];exact fun G hG u l hl hn=>zqi (va:=va) (vc:=vc) hl hn (SlC.mono hv hG) ⟨by show (1:Int)≤(C:Int);omega,by show (C:Int)≤12;omega⟩ h0 h1 hlb
end
section
open Go.RowKit Go.Sort Go.Lib
abbrev zt0 (n:Nat):ByteArray:=⟨(Lib.decDigits n).toArray⟩
end
section
open Go.RowKit _root_.Go.Proofs.Tryz
abbrev sb (l:List UInt8):ByteArray:=⟨l.toArray⟩
section
variable {P:Program} {n:Nat} {ops:Array Oper} {o:Oper} {rest:List Oper} {env:Env} {bx:Bxs} {sb':Bxs} {ow:Ows} {H:Hs} {Q:EQ} {τ:Tab} {d:Nat} {s:SV}
theorem zpl {T T':TypeId} {x y:Operand} (ho:o.op=.binOp .add T x y T') (a b:List UInt8) (hx:env.op x=some (.v (.string (sb a)))) (hy:env.op y=some (.v (.string (sb b)))) (ha:a.length≤8388608) (hb:b.length≤8388608) (ev:Operand→Value) (W:World) (he:∀y x,y∈o.op.operands→env.op y=some (.v x)→ev y=x) :
  (execOp ev o).run P W=.ok (.value (.string (sb (a++b)))) W:=by
 have ex:=he x _ (by simp[ho,Op.operands]) hx;have ey:=he y _ (by simp[ho,Op.operands]) hy;unfold execOp;simp[ho,ex,ey,eqGuard,binOp,run_string_add_lists W a b oM (by omega)]
theorem EVL.cat {T T':TypeId} {x y:Operand} (a b:List UInt8) (ho:o.op=.binOp .add T x y T') (hw:zah ops env o=some true) (hd:o.dst=some d) (hn:Nat.blt d n=true) (hx:env.op x=some (.v (.string (sb a)))) (hy:env.op y=some (.v (.string (sb b)))) (ha:a.length≤8388608) (hb:b.length≤8388608)
  (h:EVL P n ops rest ((d,.v (.string (sb (a++b))))::env) bx H Q):EVL P n ops (o::rest) env bx H Q:=EVL.gen hw hd hn (zpl ho a b hx hy ha hb) h
theorem DJ.cat {tail l:List Oper} {x:Nat→Value} {y:Nat→Ows} {ow':Ows} {kl ks:List DK} {i:Nat} {bx':Bxs} {Γ:ze6} {T T':TypeId} {u w:Operand} (a b:List UInt8) (ho:o.op=.binOp .add T u w T') (hw:zah ops env o=some true) (hd:o.dst=some d) (hn:Nat.blt d n=true) (hx:env.op u=some (.v (.string (sb a)))) (hy:env.op w=some (.v (.string (sb b)))) (ha:a.length≤8388608) (hb:b.length≤8388608)
  (h:DJ P n ops tail sb' bx H Q x y kl (i+1) l ks ((d,.v (.string (sb (a++b))))::env) bx' Γ ow'):DJ P n ops tail sb' bx H Q x y kl i (o::l) (.sv (.v (.string (sb (a++b))))::ks) env bx' Γ ow' :=
 DJ.ofVal (zaa.gen hw (zpl ho a b hx hy ha hb)) hd hn rfl h
end
theorem zqm {n:Nat} (h:n<18446744073709551616):(Lib.decDigits n).length≤20:=by
 rw[Lib.decDigits_length];by_cases h1:1≤n
 ·have:=Lib.numDigits_eq n h1 h;split at this <;> omega
 ·have:n=0:=oM;subst this;rw[Lib.nDigits_small (by omega)];omega
theorem zof {n:Nat} (h0:n≠0) (h:n<W64):dig W64 n=[n]:=by
 rw[zc7 zag oM,qT h,Nat.div_eq_of_lt h,zaT]
theorem zfp {P:Program} (w:World) (t u ty e:TypeId) (i:TypeInfo) (ht:P.underlying t=some (.slice e)) (hu:P.underlying u=some .string) (hi:P.info? e=some i) (hz:i.zero=some (.int .u8 0)) (hsize:i.size=1) (hby:i.bytes=1)
  (v:Value) (n:Nat) (xs:List Value) (hown:w.ownsRow 0 e 1 v n xs) (s:ByteArray) (hb:n+s.size≤140737488355328) :
  ∃v' w',(Builtin.append_ #[t,u] ty #[v,.string s]).run P w=.ok v' w'∧w'.ownsRow 0 e 1 v' (n+s.size) (xs++Lib.strCells s)∧w.grownBy w' v.ownBlock∧∀g,v'.ownBlock=some g→v.ownBlock=some g∨w.heap.size≤g:=by
 obtain⟨v',w',hr,h2,h3,h4⟩:=Lib.run_append_own_string (P:=P) w 0 t u ty e i ht hu hi hz hsize hby v n xs hown s (by simp only[maxLen];omega) hb (qQ _);refine⟨v',w',hr,h2,h3,fun g hg=>?_⟩;have hxl:xs.length=n:=by simpa using hown.1
 rcases hown.2 with ⟨rfl,rfl⟩ | ⟨g0,cap,cur,rfl,hbg,hgb,hnc,hcm,hcs,htake⟩
 ·have hx:xs=[]:=List.eq_nil_of_length_eq_zero hxl;subst hx;obtain⟨v2,w2,hr2,h22,_⟩:=Lib.run_append_own_string (P:=P) w w.heap.size t u ty e i ht hu hi hz hsize hby (.slice none 0 0) 0 [] (World.ownsRow_nil w w.heap.size e 1) s (by simp only[maxLen];omega) hb (qH _);rw[hr]at hr2;cases hr2;exact .inr ((h22.lt g hg).1)
 ·by_cases hroom:n+s.size≤cap
  ·have hr2:=Lib.run_append_room_string (P:=P) w t u ty e i ht hu hi hsize g0 n cap cur hgb s hroom (by simp at hcs;omega);rw[hr]at hr2;cases hr2;left;exact hg
  ·have holds:∀j u,xs[j]?=some u→w.cell? ((⟨g0,0,none⟩:Addr).add j)=some u:=hown.cells (g:=g0) rfl;have hr2:=Lib.run_append_grow_string (P:=P) w t u ty e i (.int .u8 0) ht hu hi hz ⟨g0,0,none⟩ n cap xs (by rw[hsize];simpa using hxl) holds s oM oM (by rw[hby];exact growslice_fits oM oM);rw[hr]at hr2;cases hr2;right;have:w.heap.size=g:=by simpa[Value.ownBlock] using hg
   omega
theorem zur {P:Program} {w0:World} {ops:Array Oper} {rest:List Oper} {o:Oper} {a:Act} {Q:Exit→Act→World→Prop} (hgd:o.guard=none) (s x:Operand) (t u:TypeId)
  (ho:o.op=.call { callee:=.builtin .append,args:=#[s,x],argTypes:=#[t,u] })
  (e:TypeId) (hinfo:(P.info? e).map (fun i=>(i.zero,i.size,i.bytes))=some (some (.int .u8 0),1,1)) (ht:P.underlying t=some (.slice e)) (hu:P.underlying u=some .string)
  (v:Value) (n:Nat) (xs:List Value) (hs:a.eval s=v) (hown:w0.ownsRow 0 e 1 v n xs) (y:ByteArray) (hx:a.eval x=.string y) (hb:n+y.size≤140737488355328)
  (h:∀v' w',w'.ownsRow 0 e 1 v' (n+y.size) (xs++Lib.strCells y)→zbb (fun k=>v.ownBlock=some k) w0 w'→(∀g,v'.ownBlock=some g→v.ownBlock=some g∨w0.heap.size≤g)→wpList P ops Q rest (a.put o.dst v') w'):wpList P ops Q (o::rest) a w0:=by
 obtain⟨i0,hi,hz0,hz1,hz2⟩:=info_parts hinfo;refine wpList_plain hgd fun K hK=>?_;obtain⟨v',w',hr,h2,h3,h4⟩:=zfp (P:=P) w0 t u o.type e i0 ht hu hi hz0 hz1 hz2 v n xs hown y hb;unfold Oper.wp execOp;simp only[ho,resolve,invoke,builtin,Sem.run_bind,Sem.run_pure,Result.andThen_ok,List.map_toArray,qw,List.map_nil,hs,hx,hr];exact hK _ _ (h v' w' h2 ((zbb.refl _ w0).grown h3 (fun k e _=>e)) h4)
def zrr (b:Nat) (l:List UInt8) (L:Ows):Prop:=∃p v ow,L=(b,115,[p,v])::ow∧(p=.pointer none∨p=.pointer (some ⟨b,0,none⟩))∧zaE 5 1 v l.length (Lib.byteCells l) ow
theorem zrr.new (b:Nat):zrr b [] [(b,115,[.pointer none,.slice none 0 0])]:=⟨_,_,[],rfl,.inl rfl,zaE.nil _ _⟩
theorem zjj (b:Nat) (p v:Value) (w:World) (hp:p=.pointer none∨p=.pointer (some ⟨b,0,none⟩)) (hB:Box w b #[p,v] 115) :
  Calls prog 111 #[.pointer (some ⟨b,0,none⟩)] w fun e w'=>e=.returned (.tuple #[])∧Box w' b #[.pointer (some ⟨b,0,none⟩),v] 115∧zbb (·=b) w w':=by
 have c0:w.cell? ⟨b,0,none⟩=some p:=by rw[Lib.cell_of_heap hB];rfl
 rcases hp with rfl | rfl
 ·refine(zea b w c0 (by have h:=hB;unfold Box at h;simp[World.shape?,h]) (Lib.frozen_of_heap hB 0)).mono ?_;rintro e w' ⟨rfl,rfl⟩;refine⟨rfl,?_,zbb.setCell (X:=(·=b)) (p:=⟨b,0,none⟩) (zbb.refl _ w) (fun _=>rfl) _⟩;have h:=hB;unfold Box at h ⊢;simp[World.setCell,Array.getElem?_modify,h]
 ·refine(zeF b w c0).mono ?_;rintro e w' ⟨rfl,rfl⟩;exact⟨rfl,hB,zbb.refl _ _⟩
theorem zld {H:Hp} {W:World} {L pre post:Ows} {e:TypeId} {v:Value} {m:Nat} {xs:List Value} {ow:Ows} (h:zaE e 1 v m xs ow) (he:L=pre++(ow++post)) (hL:∀(j b:Nat) (T:TypeId) (cs:List Value),L[j]?=some (b,T,cs)→Box W b cs.toArray T∧H b=none∧gH b=none):W.ownsRow 0 e 1 v m xs:=by
 refine⟨h.1,?_⟩;rcases h.2 with ⟨h2,h3,_⟩ | ⟨g,cap,sp,h2,h3,h4,h5,h6⟩
 ·exact .inl ⟨h2,h3⟩
 ·have hjg:L[pre.length]?=some (g,e,xs++sp):=by rw[he,h3];simp
  exact .inr ⟨g,cap,(xs++sp).toArray,h2,qQ _,(hL _ _ _ _ hjg).1,h5,h6,by simpa using h4,by simp only[List.toList_toArray];rw[←h.1];exact List.take_left⟩
set_option maxRecDepth 100000 in
theorem zjl {H:Hp} {W:World} {b:Nat} {p v:Value} {l:List UInt8} {ow:Ows} (s:ByteArray) (hp:p=.pointer none∨p=.pointer (some ⟨b,0,none⟩)) (hown:zaE 5 1 v l.length (Lib.byteCells l) ow) (hlen:l.length+s.size≤100000000000)
  (hL:∀(j k:Nat) (T:TypeId) (cs:List Value),((b,115,[p,v])::ow)[j]?=some (k,T,cs)→Box W k cs.toArray T∧H k=none∧gH k=none) :
  Calls prog 67 #[.pointer (some ⟨b,0,none⟩),.string s] W fun e W'=>e=.returned (.tuple #[.int .i64 s.size,.nilIface])∧∃v',Box W' b #[.pointer (some ⟨b,0,none⟩),v'] 115∧W'.ownsRow 0 5 1 v' (l.length+s.size) (Lib.byteCells l++Lib.strCells s)∧zbb (fun k=>k=b∨v.ownBlock=some k) W W'∧∀g,v'.ownBlock=some g→v.ownBlock=some g∨W.heap.size≤g:=by
 have hB:=(hL 0 b _ _ rfl).1;have hrow:W.ownsRow 0 5 1 v l.length (Lib.byteCells l):=zld (pre:=[(b,115,[p,v])]) (post:=[]) hown (by simp) hL
 go_enter func67,ntmps67
 go_wp2_with fail;refine(zjj b p v _ hp hB).mono ?_;rintro e w1 ⟨rfl,hB1,hk1⟩;have hbk:w1.heap[b]?=some (.cells #[.pointer (some ⟨b,0,none⟩),v] 115 (0,0)):=hB1;have c1:w1.cell? ⟨b,1,none⟩=some v:=by rw[Lib.cell_of_heap hbk];rfl
 have hne:v.ownBlock≠some b:=Lib.ownBlock_ne hrow hB (by decide)
 have hrow1:w1.ownsRow 0 5 1 v l.length (Lib.byteCells l):=by
  refine hrow.kept (row:=some b) ⟨hk1.os,hk1.tape,hk1.output,hk1.size,fun k hk hne=>hk1.block k hk (fun e=>hne (by rw[e]))⟩ (.inr hne)
 have hs1:=hk1.size
 go_wp2_with (at_builtin;refine zur rfl _ _ _ _ rfl 5 Tryz.infoU8 Tryz.underlying113 Tryz.underlying9 _ _ _ rfl hrow1 s rfl oM ?_);intro v' w2 hown2 hk2 hpl;have hlt:=hB.lt;have hb2:w2.heap[b]?=some (.cells #[.pointer (some ⟨b,0,none⟩),v] 115 (0,0)):=by rw[hk2.block b oM hne];exact hbk
 have d1:w2.cell? ⟨b,1,none⟩=some v:=by rw[Lib.cell_of_heap hb2];rfl
 have f1:w2.frozen? ⟨b,1,none⟩=false:=Lib.frozen_of_heap hb2 1
 obtain⟨ao,n',cap,rfl⟩:∃ao n' cap,v'=.slice ao n' cap:=by
  rcases hown2.2 with ⟨hv,_⟩ | ⟨g,cap,cur,hv,_⟩
  ·exact⟨_,_,_,hv⟩
  ·exact⟨_,_,_,hv⟩
 go_wp2
 go_ret2;have hne2:(Value.slice ao n' cap).ownBlock≠some b:=Lib.ownBlock_ne hown2 hb2 (by decide);refine⟨rfl,.slice ao n' cap,?_,?_,?_,fun g hg=>(hpl g hg).imp id fun h=>by omega⟩
 ·unfold Box;simp[World.setCell,Array.getElem?_modify,hb2]
 ·exact hown2.kept (row:=some b) ⟨rfl,rfl,rfl,by simp[World.setCell],fun k _ hk=>Below.heap_setCell _ _ _ _ (fun e=>hk (by simp[e]))⟩ (.inr hne2)
 ·exact((hk1.mono fun k _ e=>.inl e).trans (hk2.mono fun k _ e=>.inr e)).setCell (p:=⟨b,1,none⟩) (fun _=>.inl rfl) _
theorem zbR {H:Hp} {b:Nat} {l:List UInt8} {L:Ows} (s:List UInt8) (h:zrr b l L) (hlen:l.length+s.length≤100000000000) :
  PW prog 67 #[.pointer (some ⟨b,0,none⟩),.string (sb s)] H L fun r ow _=>r=.tuple #[.int .i64 s.length,.nilIface]∧zrr b (l++s) ow:=by
 obtain⟨p,v,ow,rfl,hp,hown⟩:=h;refine⟨(cO func67),fun W hf hg hL hd=>?_⟩;have hsz:(sb s).size=s.length:=by simp[sb,ByteArray.size]
 refine(zjl (sb s) hp hown (by rw[hsz];exact hlen) hL).mono ?_;rw[hsz];rintro e W' ⟨rfl,v',hB',hrow',hk,hpl⟩;obtain⟨ow',how',hl1,hnew⟩:=zgR hrow'
 have vb:∀k,v.ownBlock=some k→∃xs,ow=[(k,5,xs)]:=fun k hk=>by
  rcases hown.2 with ⟨h2,_,_⟩ | ⟨g,cap,sp,h2,h3,_⟩
  ·rw[h2]at hk;cases hk
  ·rw[h2]at hk;cases hk;exact⟨_,h3⟩
 have vH:∀k,v.ownBlock=some k→H k=none∧k∈Ows.bs ((b,115,[p,v])::ow):=fun k hk=>by
  obtain⟨xs,h2⟩:=vb k hk;exact⟨(hL 1 k _ xs (by rw[h2];rfl)).2.1,Ows.bs_mem (j:=1) (T:=5) (cs:=xs) (by rw[h2];rfl)⟩
 obtain⟨hB,hHb,_⟩:=hL 0 b _ _ rfl;have hbt:Lib.strCells (sb s)=Lib.byteCells s:=by rw[Lib.strCells_eq]
 rw[hbt,←Lib.byteCells_append,show l.length+s.length=(l++s).length by simp]at how'
 have hob:∀k T cs,(k,T,cs)∈ow'→v'.ownBlock=some k:=fun k T cs hm=>by
  rcases how'.2 with ⟨_,_,h3⟩ | ⟨g,cap,sp,h2,h3,_⟩
  ·rw[h3]at hm;cases hm
  ·rw[h3]at hm;rw[h2];simp at hm;simp[Value.ownBlock,hm.1]
 have hneb:v'.ownBlock≠some b:=Lib.ownBlock_ne hrow' hB' (by decide);refine⟨_,(b,115,[.pointer (some ⟨b,0,none⟩),v'])::ow',H,rfl,⟨rfl,_,v',ow',rfl,.inr rfl,how'⟩,Hp.Le.refl _,fun k c hc=>?_,Nw.refl _ _ _,hk.mono (fun k _ e=>?_),fun j k T1 cs hj=>?_,?_⟩
 ·obtain⟨T3,fz,hW⟩:=hf k c hc;refine⟨T3,fz,?_⟩;rw[hk.block k (hf.lt (by rw[hc];simp)) (fun e=>?_)]
  ·exact hW
  ·rcases e with e | e
   ·subst e;rw[hHb]at hc;cases hc
   ·rw[(vH k e).1]at hc;cases hc
 ·rcases e with e | e
  ·subst e;exact Ows.bs_mem (j:=0) rfl
  ·exact(vH k e).2
 ·cases j with
  | zero =>
   cases (show some (b,115,[Value.pointer (some ⟨b,0,none⟩),v'])=some (k,T1,cs) from hj);exact⟨hB',.inr (Ows.bs_mem (j:=0) rfl),hHb⟩
  | succ j =>
   have hm:(k,T1,cs)∈ow':=qF (by simpa using hj);refine⟨(hnew _ _ _ hm).2,?_,?_⟩
   ·rcases hpl k (hob _ _ _ hm) with e | e
    ·exact .inr (vH k e).2
    ·exact .inl e
   ·rcases hpl k (hob _ _ _ hm) with e | e
    ·exact(vH k e).1
    ·cases hc:H k with
     | none=>rfl
     | some c=>have:=hf.lt (b:=k) (by rw[hc];simp);omega
 ·intro j j' k T1 T2 c1 c2 h1 h2;have nb:∀(j:Nat) (T:TypeId) (cs:List Value),ow'[j]?=some (b,T,cs)→False:=fun j T cs hj=>hneb (hob _ _ _ (qF hj))
  cases j with
  | zero =>
   simp only[List.getElem?_cons_zero,Option.some.injEq,Prod.mk.injEq]at h1
   cases j' with
   | zero=>rfl
   | succ j'=>rw[←h1.1]at h2;exact(nb j' _ _ (by simpa using h2)).elim
  | succ j =>
   cases j' with
   | zero =>
    simp only[List.getElem?_cons_zero,Option.some.injEq,Prod.mk.injEq]at h2;rw[←h2.1]at h1;exact(nb j _ _ (by simpa using h1)).elim
   | succ j' =>
    have e1:=(qE.1 (show ow'[j]?=some (k,T1,c1) by simpa using h1)).1;have e2:=(qE.1 (show ow'[j']?=some (k,T2,c2) by simpa using h2)).1;omega
theorem zbb.freeze {X:Nat→Prop} {a w:World} (h:zbb X a w) {p:Addr} (hp:p.block<a.heap.size→X p.block) (n:Nat):zbb X a (w.freeze p n):=by
 unfold World.freeze;split
 ·exact h
 ·refine⟨h.os,h.tape,h.output,by simpa using h.size,fun k hk hx=>?_⟩;simp only[Array.getElem?_modify];rw[if_neg (fun e=>hx (by rw[←e];exact hp (by rw[e];exact hk)))];exact h.block k hk hx
theorem Tryz.cellsU8:Tryz.prog.cellsOf 5=1:=by kernel_rfl
set_option maxRecDepth 100000 in
theorem zih {W:World} {b g cap:Nat} {p:Value} {l:List UInt8} {cur:Array Value} (h0:l≠[]) (hB:Box W b #[p,.slice (some ⟨g,0,none⟩) l.length cap] 115) (hg:Box W g cur 5) (hnc:l.length≤cap) (hcm:cap≤maxLen) (hcs:cur.size=cap) (htake:cur.toList.take l.length=Lib.byteCells l) :
  Calls prog 39 #[.pointer (some ⟨b,0,none⟩)] W fun e W'=>e=.returned (.string ⟨l.toArray⟩)∧W'=W.drew.freeze ⟨g,0,none⟩ l.length:=by
 have hl0:l.length≠0:=by simpa using h0
 have hg':W.drew.heap[g]?=some (.cells cur 5 (0,0)):=hg
 have c1:W.drew.cell? ⟨b,1,none⟩=some (.slice (some ⟨g,0,none⟩) l.length cap):=by
  have:W.drew.heap[b]?=some (.cells #[p,.slice (some ⟨g,0,none⟩) l.length cap] 115 (0,0)):=hB;rw[Lib.cell_of_heap this];rfl
 have hSD:(Builtin.unsafeSliceData_ #[113] 155 #[.slice (some ⟨g,0,none⟩) l.length cap]).run prog W.drew=.ok (.pointer (some ⟨g,0,none⟩)) W.drew :=
  Lib.run_unsafeSliceData_row _ _ _ _ _ _ oM
 have hUS:(Builtin.unsafeString_ #[155,3] 9 #[.pointer (some ⟨g,0,none⟩),.int .i64 l.length]).run prog W.drew=.ok (.string ⟨l.toArray⟩) (W.drew.freeze ⟨g,0,none⟩ l.length):=by
  refine Lib.run_unsafeString_row W.drew 155 3 9 5 Tryz.underlying155 Tryz.cellsU8 g cur.size (by simp[World.shape?,hg']) l h0 oM (by simp only[maxLen]at hcm;omega) ?_;intro j x hx;have hj:=(qE.1 hx).1
  have e1:cur.toList[j]?=some (.int .u8 x.toNat):=by
   have:(cur.toList.take l.length)[j]?=some (.int .u8 x.toNat):=by rw[htake];simp[Lib.byteCells,hx]
   rwa [List.getElem?_take_of_lt hj]at this
  rw[Addr.add_mid,qt,Lib.cell_of_heap hg'];simpa using e1
 have mixed:Tryz.prog.follows Departure.mixedOrders=true:=by kernel_rfl
 go_enter func39,ntmps39;go_wp2
 go_region_o
 all_goals (go_wp2;go_ret;exact⟨rfl,rfl⟩)
theorem zjk {H:Hp} {b:Nat} {l:List UInt8} {L:Ows} (h:zrr b l L) (h0:l≠[]):PW prog 39 #[.pointer (some ⟨b,0,none⟩)] H L fun r ow _=>r=.string (sb l)∧ow=[]:=by
 obtain⟨p,v,ow,rfl,hp,hown⟩:=h;have hl:0<l.length:=List.length_pos_iff.2 h0;refine⟨(cO func39),fun W hf hg hL hd=>?_⟩;obtain⟨g,cap,sp,rfl,rfl,hsp,hnc,hcm⟩:=hown.block hl;obtain⟨hB,hHb,_⟩:=hL 0 b _ _ rfl;obtain⟨hG,hHg,_⟩:=hL 1 g _ _ rfl;refine(zih (cur:=(Lib.byteCells l++sp).toArray) h0 hB hG hnc hcm (by simpa using hsp) (by simp only[List.toList_toArray];rw[show l.length=(Lib.byteCells l).length by rw[Lib.byteCells_length]];exact List.take_left)).mono ?_;rintro e W' ⟨rfl,rfl⟩
 have hk:zbb (fun k=>k∈Ows.bs [(b,115,[p,.slice (some ⟨g,0,none⟩) l.length cap]),(g,5,Lib.byteCells l++sp)]) W (W.drew.freeze ⟨g,0,none⟩ l.length) :=
  zbb.freeze (p:=⟨g,0,none⟩) (zbb.refl _ W).drew (fun _=>Ows.bs_mem (j:=1) rfl) _
 refine⟨_,[],H,rfl,⟨rfl,rfl⟩,Hp.Le.refl _,fun k c hc=>?_,Nw.refl _ _ _,hk,fun j k T1 cs hj=>(by simp at hj),fun j j' k T1 T2 c1 c2 h1 h2=>(by simp at h1)⟩;obtain⟨T3,fz,hW⟩:=hf k c hc;refine⟨T3,fz,?_⟩;rw[hk.block k (hf.lt (by rw[hc];simp)) (fun e=>?_)]
 ·exact hW
 ·simp[Ows.bs]at e;rcases e with e | e
  ·subst e;rw[hHb]at hc;cases hc
  ·subst e;rw[hHg]at hc;cases hc
theorem zra (u:Nat) (h:u<100):PV prog 190 #[.int .i64 (u:Int)] (.string (zt0 u)) :=
 ⟨(cO func190),fun W _=>(Tryz.internal_strconv_small u h W).mono fun e W' ⟨he,hw⟩=>⟨he,by rw[hw];exact Below.refl _ _⟩⟩
theorem zlQ (z:Int) (h0:0≤z) (h:z<100):PV prog 69 #[.int .i64 z] (.string (sb (Lib.decDigits z.toNat))):=by
 obtain⟨u,rfl⟩:=qh h0;exact⟨(cO func69),fun W _=>(Tryz.strconv_Itoa_small u oM W).mono fun e W' ⟨he,hw⟩=>⟨he,by rw[hw];exact Below.refl _ _⟩⟩
theorem zj1 (s:List UInt8) (c:Nat) (hc:c≤1000000) (hs:s.length≤1000000):PV prog 68 #[.string (sb s),.int .i64 (c:Int)] (.string (sb (Lib.repeatL s c))) :=
 ⟨(cO func68),fun W _=>Tryz.strings_Repeat (sb s) c W oM (by
  have e:(sb s).size=s.length:=by simp[sb,ByteArray.size]
  rw[e];have:=Nat.mul_le_mul hs hc;omega)⟩
theorem zsc (u:Nat) (hu:u<100):PV prog 160 #[.int .u64 (u:Int),.int .i64 10] (.string (zt0 u)):=by
 have h0:=zra u hu
 have h1:PV prog 194 #[.int .u64 (u:Int),.int .i64 10] (.string (zt0 u)):=by
  refine PV.of_pc ?_;refine BD func194 ntmps194 ?_;refine uR ?_;rw[qD (show (u:Int)<100 by omega)];refine uR ?_;rw[show IntKind.i64.wrap (u:Int)=(u:Int) by rw[pK];omega]
  repeat (first|refine RUN ?_|refine CV (h0) ?_|refine CE (h0) ?_)
  rfl
 refine PV.of_pc ?_;refine BD func160 ntmps160 ?_
 repeat (first|refine RUN ?_|refine CV (h1) ?_|refine CE (h1) ?_)
 rfl
theorem zk2 (n:Nat) (hn:n<100):PV prog 118 #[zaF n] (.string (zt0 n)):=by
 refine PV.of_pc ?_
 have hb:big n:=by
  show bl n≤_;have:=zaZ (n:=n) (k:=64) oM;omega
 have hw:=fun H=>zdl n hb H
 have hlen:(dig W64 n).length≤1:=by
  by_cases h0:n=0
  ·subst h0;rw[zaT];simp
  ·rw[zof h0 (by simp only[W64];omega)];simp
 have hlo:lo n=n:=zcC (by simp only[W64];omega);have hfmt:=zsc n hn;generalize dig W64 n=L at *
 refine BD func118 ntmps118 ?_;refine uR ?_;refine vA (hw _) ?_;rintro v G hv hG;obtain⟨a,c,rfl⟩:=SlC.val hv;rw[hlo];refine uR ?_;rw[qD (show (L.length:Int)≤1 by omega)]
 repeat (first|refine RUN ?_|refine CV (hfmt) ?_|refine CE (hfmt) ?_)
 rfl
theorem zi3 (n:Nat) (hn:n<100):PV prog 117 #[zem (n:Int)] (.string (sb (Lib.decDigits n))):=by
 have h:=zk2 n hn;refine PV.of_pc ?_;refine BD func117 ntmps117 ?_;refine uR ?_;rw[qC (show ¬(n:Int)<0 by omega)]
 repeat (first|refine RUN ?_|refine CV (h) ?_|refine CE (h) ?_)
 rfl
theorem zjA (n:Nat) (hn:n<100):PV prog 70 #[zae (n:Rat)] (.string (sb (Lib.decDigits n))):=by
 have h:PV prog 117 #[zem ((n:Rat)).num] (.string (sb (Lib.decDigits n))):=zi3 n hn;have hd:((n:Rat)).den=1:=rfl;have hw:=zbp (n:Rat) (by rw[hd];show bl 1≤_;have:=zaZ (n:=1) (k:=1) oM;omega);generalize (n:Rat)=q at *
 refine PV.of_pc ?_;refine BD func70 ntmps70 ?_
 repeat (first|refine RUN ?_|refine CV (hw) ?_|refine CE (hw) ?_)
 rw[qD hd]
 repeat (first|refine RUN ?_|refine CV (h) ?_|refine CE (h) ?_)
 rfl
inductive zkt (T:List Nd) (x:List Rat):Nat→List Int→Prop
 | here {i:Nat} {n:Nd}:T[i]?=some n→n.col = -1→zkt T x i [(i:Int)]
 | low {i:Nat} {l:List Int} {n:Nd}:T[i]?=some n→n.col ≠ -1→x.getD n.col.toNat 0≤n.at'→zkt T x n.left.toNat l→zkt T x i ((i:Int)::l)
 | high {i:Nat} {l:List Int} {n:Nd}:T[i]?=some n→n.col ≠ -1→¬x.getD n.col.toNat 0≤n.at'→zkt T x n.right.toNat l→zkt T x i ((i:Int)::l)
theorem zkt.leaf {T:List Nd} {x:List Rat} {i:Nat} {l:List Int} (h:zkt T x i l):∃(j:Nat) (q:List Int),l=q++[(j:Int)]∧zi6 T x i j:=by
 induction h with
 | here h1 h2=>exact⟨_,[],rfl,.here h1 h2⟩
 | @low i _ _ h1 h2 h3 _ ih=>obtain⟨j,q,rfl,h⟩:=ih;exact⟨j,(i:Int)::q,rfl,.low h1 h2 h3 h⟩
 | @high i _ _ h1 h2 h3 _ ih=>obtain⟨j,q,rfl,h⟩:=ih;exact⟨j,(i:Int)::q,rfl,.high h1 h2 h3 h⟩
set_option maxRecDepth 100000 in
theorem ztV {H:Hp} {cs:List Value} {vx:Value} {kd cl w:Int} {ns:List Nd} {x:List Rat} (ht:zd4 H cs kd cl w ns) (hok:zce ⟨kd,cl,w,ns⟩) (hx:QL H vx x) (hxl:(x.length:Int)=w) (hxs:∀q,q∈x→sm q) :
  PC prog 34 #[.agg cs.toArray,vx] H fun r G=>∃l v,r=.tuple #[v,.int .i64 0]∧IL G v l∧zkt ns x 0 l∧l.length≤2000:=by
 have hck:=zfk ht hok;obtain⟨a,cp,css,rfl,hns,hsl⟩:=ht;obtain⟨hkd,hw,hln,⟨hh,hh10,hsub⟩,hall⟩:=hok;dsimp only at hkd hw hln hsub hall;have hpos:=hsub.end0;obtain⟨xa,xc,rfl⟩:=SlC.val hx;have hxS:SlC H (.slice xa x.length xc) x.length 5 (x.flatMap fun q=>zac (zae q)):=hx;refine BD func34 ntmps34 ?_
 repeat (first|refine RUN ?_|refine CV (hck) ?_|refine CE (hck) ?_)
 rw[show ((x.length:Int) != w)=false by rw[hxl];exact pO _];refine uR ?_;refine EVL.lit tO rfl rfl rfl rfl rfl rfl rfl rfl rfl rfl rfl fun bl=>?_;refine uR ?_;refine EV.loopK (ι:=Nat × List Int × Value × Ows) [1,2] [2] (fun q=>[(6,.v q.2.2.1),(7,.v (.int .i64 (q.1:Int)))]) (fun _=>[]) (fun q=>q.2.2.2) (fun q G=>q.1<ns.length∧zaE 3 1 q.2.2.1 (q.2.1++[(q.1:Int)]).length ((q.2.1++[(q.1:Int)]).map iv) q.2.2.2∧q.2.1.length≤q.1∧∀l,zkt ns x q.1 l→zkt ns x 0 (q.2.1++l)) (fun q=>ns.length-q.1) ((0,[],.slice (some ⟨bl,0,none⟩) 1 1,[(bl,_,_)])) rfl rfl ⟨rfl,rfl,trivial⟩ trivial rfl (fun _=>rfl) (⟨hpos,zaE.full (m:=1) rfl oM,qH _,fun l h=>h⟩) ?_;rintro⟨i,q,u,ow⟩ G1 hG1 ⟨hi,hown,hql,hlf⟩;dsimp only at hi hown hql hlf;obtain⟨oa,oc,rfl⟩:=hown.val;obtain⟨n,hn⟩:=gE hi;obtain⟨c,hcut,hnd⟩:=(hns.mono hG1).get hn;obtain⟨a7,c7,rfl,_⟩:=hnd.cells;obtain⟨n',hn',hN,_⟩:=hall i hi;cases hn.symm.trans hn';obtain⟨h',e',hsi⟩:=hsub.at i (qQ _) hi;have hle:=hsi.lt;have hsl1:=hsl.mono hG1;have hll:(q++[(i:Int)]).length≤1000000:=by rw[qJ,qv];omega
 refine uR ?_;refine EVL.idxM tO rfl rfl rfl rfl rfl rfl rfl rfl rfl (hsl1) (i) (rfl) (hi) (hcut) ?_;refine uR ?_
 cases hsi with
 | leaf q1 q2 q3 q4 q5 =>
  rw[hn]at q1;cases q1;rw[show (n.col != -1)=false by rw[q2];rfl];(first|refine EVL.publishL [] ow [] ((qG _).symm) hown fun G2 hG2 hs2=>?_|refine EV.publishL [] ow [] ((qG _).symm) hown fun G2 hG2 hs2=>?_);refine uR ?_;exact⟨_,_,rfl,hs2,hlf _ (.here hn q2),by rw[qJ,qv];omega⟩
 | @node _ h1 m _ _ q1 q2 q3 q4 q5 s1 s2 =>
  rw[hn]at q1;cases q1;have hm1:=s1.lt;have hm2:=s2.lt;have hcl:n.col.toNat<x.length:=oM;obtain⟨y,hy⟩:∃y,x[n.col.toNat]?=some y:=⟨_,qA hcl⟩;have hyg:x.getD n.col.toNat 0=y:=by rw[qB,hy];rfl
  have hcmp:=zeI y n.at' (hxs y (qF hy)) (zaL hN.small.1 oM);rw[show (n.col != -1)=true from bne_iff_ne.2 (by omega)];refine uR ?_;refine EVL.idxM tO rfl rfl rfl rfl rfl rfl rfl rfl rfl (hsl1) (i) (rfl) (hi) (hcut) ?_;refine uR ?_;apply EV.drawn 9 kR kR;intro xv yw;(repeat refine' DD ?_);refine' DJ.idxM tO rfl rfl rfl rfl rfl rfl rfl rfl rfl ((hxS.mono hG1)) (n.col.toNat) ((by rw[Int.toNat_of_nonneg q2])) (hcl) (QL.at (H:=H) (v:=.bool true) hy) ?_;rotate_left;(repeat (first|refine' DD ?_|(refine' DC (hcmp) (h:=?_);rotate_left)));(refine DJ.nil (fun G2 hG2 hF2=>?_);(case hS|hS2=>rfl));by_cases hle2:y≤n.at'
  ·rw[qD (zoT hle2)];refine uR ?_;refine EVL.app1 tO rfl rfl rfl rfl rfl rfl rfl rfl rfl rfl rfl rfl rfl rfl rfl rfl rfl rfl rfl (fun _=>rfl) (ow) ([]) ((qG _).symm) (hown) (oM) fun _=>?_;intro v' ow' hown';refine uR ?_;refine⟨(n.left.toNat,q++[(i:Int)],v',ow'),⟨rfl,by rw[Int.toNat_of_nonneg (by omega)];rfl,trivial⟩,sB,trivial,sB,qG _,⟨by dsimp only;omega,by dsimp only;rw[Int.toNat_of_nonneg (by omega)];exact hown'.il,by dsimp only;rw[qJ,qv];omega,fun l h=>by dsimp only;rw[qZ];exact hlf _ (.low hn oM (by rw[hyg];exact hle2) h)⟩,hG2,by dsimp only;omega⟩
  ·rw[qC (show ¬zb6 y n.at'≤0 from fun k=>hle2 (Rat.not_lt.1 fun k2=>by have:=(zl8 y n.at').2 k2;omega))];refine uR ?_;refine EVL.app1 tO rfl rfl rfl rfl rfl rfl rfl rfl rfl rfl rfl rfl rfl rfl rfl rfl rfl rfl rfl (fun _=>rfl) (ow) ([]) ((qG _).symm) (hown) (oM) fun _=>?_;intro v' ow' hown';refine uR ?_;refine⟨(n.right.toNat,q++[(i:Int)],v',ow'),⟨rfl,by rw[Int.toNat_of_nonneg (by omega)];rfl,trivial⟩,sB,trivial,sB,qG _,⟨by dsimp only;omega,by dsimp only;rw[Int.toNat_of_nonneg (by omega)];exact hown'.il,by dsimp only;rw[qJ,qv];omega,fun l h=>by dsimp only;rw[qZ];exact hlf _ (.high hn oM (by rw[hyg];exact hle2) h)⟩,hG2,by dsimp only;omega⟩
theorem zmq {H:Hp} {cs:List Value} {vx:Value} {kd cl w:Int} {ns:List Nd} {x:List Rat} (ht:zd4 H cs kd cl w ns) (hok:zce ⟨kd,cl,w,ns⟩) (hx:QL H vx x) (hxl:(x.length:Int)=w) (hxs:∀q,q∈x→sm q) :
  PC prog 12 #[.agg cs.toArray,vx] H fun r _=>∃j:Nat,r=.tuple #[.int .i64 (j:Int),.int .i64 0]∧zi6 ns x 0 j:=by
 have hw:=ztV ht hok hx hxl hxs;obtain⟨a,cp,css,rfl,hns,hsl⟩:=ht;obtain⟨xa,xc,rfl⟩:=SlC.val hx;refine BD func12 ntmps12 ?_;refine uR ?_;refine vA (hw) ?_;rintro r G ⟨l,v,rfl,hil,hp,hlen⟩ hG;obtain⟨j,q,rfl,hlf⟩:=hp.leaf;obtain⟨va,vc,rfl⟩:=SlC.val hil;refine uR ?_
 have e1:IntKind.i64.wrap (((q++[(j:Int)]).length:Int)-1)=(q.length:Int):=by
  rw[qJ,qv]at hlen;rw[qJ,qv,pK];omega
 rw[e1];refine vI (hil) (q.length) (rfl) ((by rw[qJ,qv];omega)) ((by rw[qK,qL (qH _),Nat.sub_self];rfl)) ?_;refine uR ?_;exact⟨j,rfl,hlf⟩
set_option maxRecDepth 100000 in
theorem znH {H:Hp} {cs:List Value} {vx:Value} {kd cl w:Int} {ns:List Nd} {x:List Rat} (ht:zd4 H cs kd cl w ns) (hok:zce ⟨kd,cl,w,ns⟩) (hx:QL H vx x) (hxl:(x.length:Int)=w) (hxs:∀q,q∈x→sm q) :
  PC prog 14 #[.agg cs.toArray,vx] H fun r _=>∃(j:Nat) (n:Nd),r=.tuple #[zae n.value,.int .i64 n.cls,.int .i64 0]∧zi6 ns x 0 j∧ns[j]?=some n:=by
 have hl:=zmq ht hok hx hxl hxs;obtain⟨i0,hlf0,hi0,hni0,_⟩:=zoz hok x;obtain⟨a,cp,css,rfl,hns,hsl⟩:=ht;obtain⟨xa,xc,rfl⟩:=SlC.val hx;refine BD func14 ntmps14 ?_;refine uR ?_;refine vA (hl) ?_;rintro r G ⟨j,rfl,hlf⟩ hG;obtain rfl:i0=j:=hlf0.det hlf;obtain⟨n,hn⟩:∃n,ns[i0]?=some n:=⟨_,hni0⟩;obtain⟨c,hcut,hnd⟩:=(hns.mono hG).get hn;obtain⟨a7,c7,rfl,_⟩:=hnd.cells;have hsl1:=hsl.mono hG;refine uR ?_;apply EV.drawnK [2,4,7] [4] [2] 13 rfl rfl rfl rfl kR kR;intro xv yw;(repeat refine' DD ?_);refine' DJ.idxM tO rfl rfl rfl rfl rfl rfl rfl rfl rfl (hsl1) (i0) (rfl) (hi0) (hcut) ?_;rotate_left;(repeat refine' DD ?_);refine' DJ.idxM tO rfl rfl rfl rfl rfl rfl rfl rfl rfl (hsl1) (i0) (rfl) (hi0) (hcut) ?_;rotate_left;(repeat refine' DD ?_);(refine DJ.nil (fun G hG hF=>?_);(case hS|hS2=>rfl);(case hD=>rfl));refine uR ?_;exact⟨i0,n,rfl,hlf,hn⟩
abbrev zpn (d:Nat):List UInt8:=Lib.repeatL [32,32] d
inductive Txt (T:List Nd) (kd:Int) (f:Rat→List UInt8):Nat→Nat→List UInt8→Prop
 | cls {k d:Nat} {n:Nd}:T[k]?=some n→n.col = -1→kd=1→Txt T kd f k d (zpn d++(([99,108,97,115,115,32]++Lib.decDigits n.cls.toNat)++[10]))
 | val {k d:Nat} {n:Nd}:T[k]?=some n→n.col = -1→kd≠1→Txt T kd f k d (zpn d++(([118,97,108,117,101,32]++f n.value)++[10]))
 | node {k d:Nat} {n:Nd} {a b:List UInt8}:T[k]?=some n→n.col ≠ -1→Txt T kd f n.left.toNat (d+1) a→Txt T kd f n.right.toNat (d+1) b→Txt T kd f k d (zpn d++(((([120]++Lib.decDigits n.col.toNat)++[32,60,61,32])++f n.at')++[10])++a++b)
theorem zeq (s:List UInt8):∀c,(Lib.repeatL s c).length=c*s.length
 | 0=>by simp[Lib.repeatL]
 | c+1=>by rw[Lib.repeatL,qJ,zeq s c,Nat.succ_mul];omega
structure zt7 (H:Hp) (ns:List Nd) (kd w:Int) (f:Rat→List UInt8):Prop where
 wide:w≤100
 cls:∀n,n∈ns→0≤n.cls∧n.cls<100
 atT:∀n,n∈ns→n.col ≠ -1→(f n.at').length≤9000∧∀G,H.Le G→PC prog 70 #[zae n.at'] G fun r _=>r=.string (sb (f n.at'))
 valT:kd≠1→∀n,n∈ns→(f n.value).length≤9000∧∀G,H.Le G→PC prog 70 #[zae n.value] G fun r _=>r=.string (sb (f n.value))
theorem zlD {n:Nat} (h:n<100):(Lib.decDigits n).length≤20:=zqm oM
set_option maxRecDepth 100000 in
theorem zrp {H0:Hp} {ns:List Nd} {kd cl w:Int} {f:Rat→List UInt8} (hF:zt7 H0 ns kd w f):∀{k h e:Nat},Sub ns w k h e→∀(d:Nat),d+h≤1000 →
  ∃l,Txt ns kd f k d l∧0<l.length∧l.length≤(e-k)*20000∧∀{H:Hp} {cs:List Value} {b:Nat} {t:List UInt8} {L:Ows},H0.Le H→zd4 H cs kd cl w ns→zrr b t L→t.length+(e-k)*20000≤100000000 →
   PW prog 38 #[.pointer (some ⟨b,0,none⟩),.agg cs.toArray,.int .i64 (k:Int),.int .i64 (d:Int)] H L fun r ow _=>r=.tuple #[]∧zrr b (t++l) ow:=by
 intro k h e hs
 induction hs with
 | @leaf k h n q1 q2 q3 q4 q5 =>
  intro d hd;have hk:=(qE.1 q1).1;have hmem:=qF q1;obtain⟨hc0,hc1⟩:=hF.cls n hmem;have hrep:=zj1 [32,32] d oM (by simp);have hlr:(zpn d).length=d*2:=zeq _ _;by_cases hkd:kd=1
  ·have hl:=zlD (n:=n.cls.toNat) oM;refine⟨_,.cls q1 q2 hkd,by simp;omega,by simp only[qJ,hlr,qR,qg];omega,fun {H cs b t L} hH ht hb hsz=>?_⟩;have hit:=zlQ n.cls hc0 hc1;obtain⟨a,cp,css,rfl,hns,hsl⟩:=ht;obtain⟨c,hcut,hnd⟩:=hns.get q1;obtain⟨a7,c7,rfl,_⟩:=hnd.cells;obtain⟨p,v,ow,rfl,hp,hown⟩:=id hb;refine PW.body tO func38 rfl kR ntmps38 rfl rfl ?_;refine uR ?_;refine EVL.idxM tO rfl rfl rfl rfl rfl rfl rfl rfl rfl (hsl) (k) (rfl) (hk) (hcut) ?_
   repeat (first|refine RUN ?_|refine CV (hrep) ?_|refine CE (hrep) ?_)
   refine EVL.callW rfl rfl rfl rfl rfl ((b,115,[p,v])::ow) [] (qG _).symm (zbR (zpn d) hb oM) ?_;rintro _ ow1 H1 ⟨rfl,hb1⟩ hH1;refine uR ?_;rw[show (n.col != -1)=false by rw[q2];rfl];refine uR ?_;rw[show (kd == 1)=true by rw[hkd];rfl]
   repeat (first|refine RUN ?_|refine CV (hit) ?_|refine CE (hit) ?_)
   refine EVL.cat [99,108,97,115,115,32] (Lib.decDigits n.cls.toNat) rfl rfl rfl rfl rfl rfl (by decide) oM ?_;refine EVL.cat ([99,108,97,115,115,32]++Lib.decDigits n.cls.toNat) [10] rfl rfl rfl rfl rfl rfl (by simp only[qJ,qR,qg];omega) (by decide) ?_;refine EVL.callW rfl rfl rfl rfl rfl ow1 [] rfl (zbR (([99,108,97,115,115,32]++Lib.decDigits n.cls.toNat)++[10]) hb1 (by simp only[qJ,hlr,qR,qg];omega)) ?_;rintro _ ow2 H2 ⟨rfl,hb2⟩ hH2;refine uR ?_;rw[qZ]at hb2;exact⟨rfl,by rw[qG];exact hb2⟩
  ·obtain⟨hl,hvt⟩:=hF.valT hkd n hmem;refine⟨_,.val q1 q2 hkd,by simp;omega,by simp only[qJ,hlr,qR,qg];omega,fun {H cs b t L} hH ht hb hsz=>?_⟩;obtain⟨a,cp,css,rfl,hns,hsl⟩:=ht;obtain⟨c,hcut,hnd⟩:=hns.get q1;obtain⟨a7,c7,rfl,_⟩:=hnd.cells;obtain⟨p,v,ow,rfl,hp,hown⟩:=id hb;refine PW.body tO func38 rfl kR ntmps38 rfl rfl ?_;refine uR ?_;refine EVL.idxM tO rfl rfl rfl rfl rfl rfl rfl rfl rfl (hsl) (k) (rfl) (hk) (hcut) ?_
   repeat (first|refine RUN ?_|refine CV (hrep) ?_|refine CE (hrep) ?_)
   refine EVL.callW rfl rfl rfl rfl rfl ((b,115,[p,v])::ow) [] (qG _).symm (zbR (zpn d) hb oM) ?_;rintro _ ow1 H1 ⟨rfl,hb1⟩ hH1;refine uR ?_;rw[show (n.col != -1)=false by rw[q2];rfl];refine uR ?_;rw[show (kd == 1)=false from beq_false_of_ne hkd];refine uR ?_;refine vA (hvt _ (hH.trans hH1)) ?_;rintro _ G rfl hG;refine EVL.cat [118,97,108,117,101,32] (f n.value) rfl rfl rfl rfl rfl rfl (by decide) oM ?_;refine EVL.cat ([118,97,108,117,101,32]++f n.value) [10] rfl rfl rfl rfl rfl rfl (by simp only[qJ,qR,qg];omega) (by decide) ?_;refine EVL.callW rfl rfl rfl rfl rfl ow1 [] rfl (zbR (([118,97,108,117,101,32]++f n.value)++[10]) hb1 (by simp only[qJ,hlr,qR,qg];omega)) ?_;rintro _ ow2 H2 ⟨rfl,hb2⟩ hH2;refine uR ?_;rw[qZ]at hb2;exact⟨rfl,by rw[qG];exact hb2⟩
 | @node k h m e n q1 q2 q3 q4 q5 s1 s2 ih1 ih2 =>
  intro d hd;have hk:=(qE.1 q1).1;have hmem:=qF q1;have hrep:=zj1 [32,32] d oM (by simp);have hlr:(zpn d).length=d*2:=zeq _ _;have hw:=hF.wide;have hl0:=zlD (n:=n.col.toNat) oM;have hit:=zlQ n.col q2 oM;have hcm:n.col ≠ -1:=oM;obtain⟨hl,hvt⟩:=hF.atT n hmem hcm;obtain⟨la,hta,ha0,ha1,ha2⟩:=ih1 (d+1) oM;obtain⟨lb,htb,hb0,hb1',hb2'⟩:=ih2 (d+1) oM;have hm1:=s1.lt;have hm2:=s2.lt;refine⟨_,.node q1 hcm (by rw[q4,qU];exact hta) (by rw[q5,qU];exact htb),by simp;omega,by simp only[qJ,hlr,qR,qg];omega,fun {H cs b t L} hH ht hb hsz=>?_⟩;have ht0:=ht;obtain⟨a,cp,css,rfl,hns,hsl⟩:=ht;obtain⟨c,hcut,hnd⟩:=hns.get q1;obtain⟨a7,c7,rfl,_⟩:=hnd.cells;obtain⟨p,v,ow,rfl,hp,hown⟩:=id hb;refine PW.body tO func38 rfl kR ntmps38 rfl rfl ?_;refine uR ?_;refine EVL.idxM tO rfl rfl rfl rfl rfl rfl rfl rfl rfl (hsl) (k) (rfl) (hk) (hcut) ?_
  repeat (first|refine RUN ?_|refine CV (hrep) ?_|refine CE (hrep) ?_)
  refine EVL.callW rfl rfl rfl rfl rfl ((b,115,[p,v])::ow) [] (qG _).symm (zbR (zpn d) hb oM) ?_;rintro _ ow1 H1 ⟨rfl,hb1⟩ hH1;refine uR ?_;rw[show (n.col != -1)=true from bne_iff_ne.2 hcm];refine uR ?_;apply EV.drawn 11 kR kR;intro xv yw;(repeat (first|refine' DD ?_|(refine' DC (hit) (h:=?_);rotate_left)));refine' DJ.cat [120] (Lib.decDigits n.col.toNat) rfl rfl rfl rfl rfl rfl (by decide) oM ?_;rotate_left;refine' DJ.cat ([120]++Lib.decDigits n.col.toNat) [32,60,61,32] rfl rfl rfl rfl rfl rfl (by simp only[qJ,qR,qg];omega) (by decide) ?_;rotate_left;(repeat refine' DD ?_);refine' vC (cO func70) (fun G hG hd=>hvt G ((hH.trans hH1).trans hG)) ?_;rotate_left;refine' DJ.cat (([120]++Lib.decDigits n.col.toNat)++[32,60,61,32]) (f n.at') rfl rfl rfl rfl rfl rfl (by simp only[qJ,qR,qg];omega) oM ?_;rotate_left;refine' DJ.cat ((([120]++Lib.decDigits n.col.toNat)++[32,60,61,32])++f n.at') [10] rfl rfl rfl rfl rfl rfl (by simp only[qJ,qR,qg];omega) (by decide) ?_;rotate_left;(refine DJ.nil (fun G2 hG2 hF2=>?_);(case hS|hS2=>rfl));refine EVL.callW rfl rfl rfl rfl rfl ow1 [] rfl (zbR (((([120]++Lib.decDigits n.col.toNat)++[32,60,61,32])++f n.at')++[10]) hb1 (by simp only[qJ,hlr,qR,qg];omega)) ?_;rintro _ ow2 H2 ⟨rfl,hb2⟩ hH2;refine uR ?_;have ht2:=ht0.mono ((hH1.trans hG2).trans hH2);have hH3:=hH.trans ((hH1.trans hG2).trans hH2);have hX:(zpn d++(((([120]++Lib.decDigits n.col.toNat)++[32,60,61,32])++f n.at')++[10])).length≤20000:=by simp only[qJ,hlr,qR,qg];omega
  rw[qZ]at hb2;generalize zpn d++(((([120]++Lib.decDigits n.col.toNat)++[32,60,61,32])++f n.at')++[10])=X at *
  have pa:=ha2 hH3 ht2 hb2 (by rw[qJ];omega);rw[←q4]at pa;refine EVL.asI ((((d+1:Nat):Int))) ((by rw[pK];omega)) ?_;refine EVL.callW rfl rfl rfl rfl rfl ow2 [] rfl pa ?_;rintro _ ow3 H3 ⟨rfl,hb3⟩ hH4;refine uR ?_;have pb:=hb2' (hH3.trans hH4) (ht2.mono hH4) hb3 (by simp only[qJ];omega);rw[←q5]at pb;refine EVL.asI ((((d+1:Nat):Int))) ((by rw[pK];omega)) ?_;refine EVL.callW rfl rfl rfl rfl rfl ow3 [] rfl pb ?_;rintro _ ow4 H4 ⟨rfl,hb4⟩ hH5;refine uR ?_;exact⟨rfl,by rw[qG];simpa only[qZ] using hb4⟩
set_option maxRecDepth 100000 in
theorem zrj {H:Hp} {cs:List Value} {kd cl w:Int} {ns:List Nd} {f:Rat→List UInt8} (ht:zd4 H cs kd cl w ns) (hok:zce ⟨kd,cl,w,ns⟩) (hF:zt7 H ns kd w f) :
  PC prog 16 #[.agg cs.toArray] H fun r _=>∃l,r=.string (sb l)∧Txt ns kd f 0 0 l:=by
 have hck:=zfk ht hok;obtain⟨hkd,hw,hln,⟨hh,hh10,hsub⟩,hall⟩:=hok;dsimp only at hkd hw hln hsub hall;obtain⟨l,htx,hl0,hl1,hpw⟩:=zrp (cl:=cl) hF hsub 0 oM;have ht0:=ht;obtain⟨a,cp,css,rfl,hns,hsl⟩:=ht;refine BD func16 ntmps16 ?_
 repeat (first|refine RUN ?_|refine CV (hck) ?_|refine CE (hck) ?_)
 (first|refine EVL.unbox (3) rfl fun b=>?_|refine EV.unbox (3) rfl fun b=>?_);refine uR ?_;refine EVL.callW rfl rfl rfl rfl rfl [(b,115,[.pointer none,.slice none 0 0])] [] rfl (hpw (Hp.Le.refl _) ht0 (zrr.new b) (by simp only[qg];omega)) ?_;rintro _ ow1 H1 ⟨rfl,hb1⟩ hH1;refine uR ?_;refine EVL.callW rfl rfl rfl rfl rfl ow1 [] rfl (zjk hb1 (by rw[pM];exact List.length_pos_iff.1 hl0)) ?_;rintro _ ow2 H2 ⟨rfl,rfl⟩ hH2;refine uR ?_;exact⟨l,by rw[pM],htx⟩
def ztv:GD:=.c 2 [0,0,1]
def k18:GP:=⟨[[1],[2],[4]],ztv.cost,ztv.mean,ztv.cnt,1,0,fun s=>(zd5 1,s)⟩
theorem zqy:zd8 [1,2,4]=[1,2,4]:=by
 unfold zd8;exact List.mergeSort_of_pairwise (by decide)
theorem ztx:plQ k18.X 0 [0,1,2]=[3 / 2,3]:=by
 unfold plQ;rw[if_pos kR,show List.map (zbv k18.X 0) [0,1,2]=[1,2,4] by kernel_rfl,zqy]
 kernel_rfl
theorem zqw:k18.best [0,1,2] (zd5 1)=some (0,3,4 / 3):=by
 unfold GP.best zaA;rw[show zd5 1=[0] by kernel_rfl,List.flatMap_cons,List.flatMap_nil,ztx]
 kernel_rfl
theorem zsi:k18.cut [0,1,2] (zd5 1)=some (0,3):=by
 unfold GP.cut;rw[zqw]
 kernel_rfl
set_option maxRecDepth 100000 in
theorem zqx (s:Int):(k18.grow 1 0 [0,1,2] s).1.map (fun n=>(n.col,n.left,n.right,n.cls,n.at'))=[(0,1,2,0,3),(-1,0,0,0,0),(-1,0,0,1,0)]:=by
 rw[GP.grow];rw[show (k18.cols s).1=zd5 1 from rfl,zsi]
 kernel_rfl
abbrev zsZ:List UInt8:=[120,48,32,60,61,32,51,10,32,32,99,108,97,115,115,32,48,10,32,32,99,108,97,115,115,32,49,10]
abbrev f18:Rat→List UInt8:=fun q=>Lib.decDigits q.num.natAbs
def zs7 (ns:List Nd):Prop:=ns.map (fun n=>(n.col,n.left,n.right,n.cls,n.at'))=[(0,1,2,0,3),(-1,0,0,0,0),(-1,0,0,1,0)]
theorem zs7.parts {ns:List Nd} (h:zs7 ns):∃a b c:Nd,ns=[a,b,c]∧(a.col=0∧a.left=1∧a.right=2∧a.cls=0∧a.at'=3)∧(b.col = -1∧b.cls=0)∧(c.col = -1∧c.cls=1):=by
 unfold zs7 at h;have hl:ns.length=3:=by simpa using congrArg List.length h
 match ns,hl with
 | [a,b,c],_ =>
  simp only[qw,List.map_nil,List.cons.injEq,Prod.mk.injEq,and_true]at h;obtain⟨⟨h1,h2,h3,h4,h5⟩,⟨h6,_,_,h7,_⟩,⟨h8,_,_,h9,_⟩⟩:=h;exact⟨a,b,c,rfl,⟨h1,h2,h3,h4,h5⟩,⟨h6,h7⟩,⟨h8,h9⟩⟩
theorem zh6 {ns:List Nd} {f:Rat→List UInt8} {k d:Nat} {n:Nd} {l:List UInt8} (hn:ns[k]?=some n) (hc:n.col = -1) (h:Txt ns 1 f k d l):l=zpn d++(([99,108,97,115,115,32]++Lib.decDigits n.cls.toNat)++[10]):=by
 cases h with
 | cls h1 h2 h3=>cases hn.symm.trans h1;rfl
 | val h1 h2 h3=>exact absurd rfl h3
 | node h1 h2 h3 h4=>cases hn.symm.trans h1;exact absurd hc h2
theorem zrk {ns:List Nd} (h:zs7 ns) {l:List UInt8} (ht:Txt ns 1 f18 0 0 l):l=zsZ:=by
 obtain⟨a,b,c,rfl,⟨h1,h2,h3,h4,h5⟩,⟨h6,h7⟩,⟨h8,h9⟩⟩:=h.parts
 cases ht with
 | cls k1 k2 k3=>cases k1;omega
 | val k1 k2 k3=>exact absurd rfl k3
 | node k1 k2 k3 k4 =>
  cases k1;rw[h2]at k3;rw[h3]at k4;rw[zh6 (n:=b) rfl h6 k3,zh6 (n:=c) rfl h8 k4,h1,h5,h7,h9];decide +kernel
theorem zi9.gpAny {p:GP} {kd cl:Int} {w:Nat} (h:zi9 kd cl p.X.length p.cost p.mean p.cnt) (hX:p.X.length≤300) (hx:∀x,x∈p.X→x.length=w∧∀q,q∈x→ht q≤60) (hg:0≤p.gain) (hc:∀s c,c∈(p.cols s).1→0≤c∧c<(w:Int)):zp1 p kd cl w :=
 ⟨h.kind,hX,fun x k=>(hx x k).1,fun x k=>(hx x k).2,h.clen,h.cadd,h.cpos,h.csum,h.zero,h.cost0,h.csm,h.msm,hg,hc⟩
theorem zry:ztv.Ok 3:=⟨by omega,rfl,by decide⟩
theorem ziA:∀x,x∈k18.X→x.length=1∧∀q,q∈x→ht q≤60:=by decide +kernel
theorem ztw:zp1 k18 1 2 1:=zi9.gpAny (p:=k18) zry.plain (by decide) ziA (by decide +kernel) (fun s c hc=>by
 have:c∈([0]:List Int):=hc;rw[pJ.1 this];omega)
theorem zqz (s:Int):zce ⟨1,2,1,(k18.grow 1 0 [0,1,2] s).1⟩:=zoq ztw ⟨by omega,by omega⟩ oM (by decide) (by decide) (by decide) s
theorem zsj (H:Hp) {ns:List Nd} (h:zs7 ns):zt7 H ns 1 1 f18:=by
 obtain⟨a,b,c,rfl,⟨h1,h2,h3,h4,h5⟩,⟨h6,h7⟩,⟨h8,h9⟩⟩:=h.parts;have hm:∀n,n∈[a,b,c]→n=a∨n=b∨n=c:=fun n hn=>by simpa using hn
 refine⟨by omega,fun n hn=>?_,fun n hn hc=>?_,fun h=>absurd rfl h⟩
 ·rcases hm n hn with rfl | rfl | rfl <;> omega
 ·rcases hm n hn with rfl | rfl | rfl
  ·rw[h5];exact⟨by decide +kernel,fun G _=>((zjA 3 oM).pc G).mono fun _ _ h _=>h.1⟩
  ·exact absurd h6 hc
  ·exact absurd h8 hc
def knX:List (List Rat):=[[1],[2],[4]]
theorem zty {G:Hp} {a b c v:Value} {p q r:Rat} (h1:RL G a [p]) (h2:RL G b [q]) (h3:RL G c [r]) (hm:v∈[a,b,c]):(zac v).length=1:=by
 obtain⟨_,_,rfl⟩:=h1.val;obtain⟨_,_,rfl⟩:=h2.val;obtain⟨_,_,rfl⟩:=h3.val;rcases List.mem_cons.1 hm with rfl | hm
 ·rfl
 ·rcases List.mem_cons.1 hm with rfl | hm
  ·rfl
  ·rw[pJ.1 hm];rfl
theorem ztz {G:Hp} {a b c v:Value} (h1:RL G a [((1:Int):Rat)]) (h2:RL G b [((2:Int):Rat)]) (h3:RL G c [((4:Int):Rat)]) (h:SlC G v 3 1 ([a,b,c].flatMap zac)):RLL G v knX:=by
 obtain⟨_,_,rfl⟩:=h1.val;obtain⟨_,_,rfl⟩:=h2.val;obtain⟨_,_,rfl⟩:=h3.val;exact⟨_,(((RRs.nil G).snoc h1).snoc h2).snoc h3,h⟩
theorem zt9:∀x,x∈knX→∀q,q∈x→ht q≤100:=by decide +kernel
theorem zqA:∀x,x∈knX→x.length≤1000000∧∀q,q∈x→rq q:=fun x hx=>⟨by revert x;decide +kernel,fun q hq=>qI (zt9 x hx q hq) oM⟩
abbrev ztK:Value:=.agg #[.int .i64 1,.int .i64 1,.bool false,.int .u64 0,.string .empty,.int .u64 0,.string .empty]
theorem zq4:ztK=.agg (ztd ((1:Nat):Int) 1 0).toArray:=by
 unfold ztd;rw[zaD];rfl
theorem zoo {G1:Hp} {b:Nat} (hv:IL G1 (.slice (some ⟨b,0,none⟩) 3 3) [0,0,1]) (G:Hp) (hG:G1.Le G) (v8 v9:Value) (h8:QLL G v8 k18.X) (h9:IL G v9 [0,1,2]) :
  PC prog 27 #[zas 1 2 (.slice (some ⟨b,0,none⟩) 3 3) (.slice none 0 0),v8,v9,ztK] G fun v H'=>∃cs ns,v=.tuple #[.agg cs.toArray,.int .i64 0]∧zd4 H' cs 1 2 1 ns∧zs7 ns∧zce ⟨1,2,1,ns⟩:=by
 have hP:ztv.P G (.slice (some ⟨b,0,none⟩) 3 3) (.slice none 0 0):=⟨_,3,none,0,rfl,rfl,hv.mono hG⟩;obtain⟨S,wo,hg⟩:=zry.pgoal oM oM hP (p:=k18) rfl rfl rfl rfl;obtain⟨xa,xc,rfl⟩:=SlC.val h8.choose_spec.2;rw[zq4];exact(zli (p:=k18) (least:=1) (w:=1) (s:=0) (D0:=1) (fun _=>rfl) oM oM (by decide) (by decide) (fun x hx=>(ziA x hx).1) (fun x hx=>(ziA x hx).2) rfl oM (show sm 0 by show ht 0≤100000000;rw[zcr];decide) (by decide +kernel) oM hg h8 h9 (by decide) (by decide) (by decide)).mono fun v H' ⟨cs,e,hp⟩ _=>⟨cs,_,e,hp,zqx 0,zqz 0⟩
set_option maxRecDepth 100000 in
theorem zhN:PV prog 6 #[] (.bool true):=by
 refine PV.of_pc ?_;have hof:=fun (z:Int) (h1:-9223372036854775808≤z) (h2:z<9223372036854775808) (G:Hp)=>za9 (H:=G) z h1 h2;refine BD func6 ntmps6 ?_;refine uR ?_;refine EVL.lit tO rfl rfl rfl rfl rfl rfl rfl rfl rfl rfl rfl fun b=>?_;(first|refine EVL.publish [] [] rfl fun G1 hG1 hb=>?_|refine EV.publish [] [] rfl fun G1 hG1 hb=>?_);have hv:IL G1 (.slice (some ⟨b,0,none⟩) 3 3) [0,0,1]:=⟨rfl,.inr ⟨b,0,3,_,rfl,qH _,hb,fun j x hj=>by rw[qt];simpa using hj⟩⟩;refine uR ?_;apply EV.drawn 17 kR kR;intro xv yw;(repeat refine' DD ?_);refine' vB (cO func29) (fun G hG hd=>hof 1 (by decide) (by decide) G) (fun _ _ _ h k=>RQ.mono h k) ?_;rotate_left;(refine' DJ.litD1 (Φ:=fun w G=>RL G w [((1:Int):Rat)]) (fun _ _ _ h k=>h.mono k) tO rfl rfl rfl rfl rfl rfl rfl rfl rfl rfl rfl (fun G hd=>RQ.len3 (hd.head kR)) (fun G G' w hd hG h=>RL.one h ((hd.head kR).mono hG)) ?_;rotate_left);refine' vB (cO func29) (fun G hG hd=>hof 2 (by decide) (by decide) G) (fun _ _ _ h k=>RQ.mono h k) ?_;rotate_left;(refine' DJ.litD1 (Φ:=fun w G=>RL G w [((2:Int):Rat)]) (fun _ _ _ h k=>h.mono k) tO rfl rfl rfl rfl rfl rfl rfl rfl rfl rfl rfl (fun G hd=>RQ.len3 (hd.head kR)) (fun G G' w hd hG h=>RL.one h ((hd.head kR).mono hG)) ?_;rotate_left);refine' vB (cO func29) (fun G hG hd=>hof 4 (by decide) (by decide) G) (fun _ _ _ h k=>RQ.mono h k) ?_;rotate_left;(refine' DJ.litD1 (Φ:=fun w G=>RL G w [((4:Int):Rat)]) (fun _ _ _ h k=>h.mono k) tO rfl rfl rfl rfl rfl rfl rfl rfl rfl rfl rfl (fun G hd=>RQ.len3 (hd.head kR)) (fun G G' w hd hG h=>RL.one h ((hd.head kR).mono hG)) ?_;rotate_left);(refine' DJ.litD3 (Φ:=fun w G=>RLL G w knX) (fun _ _ _ h k=>h.mono k) tO rfl rfl rfl rfl rfl rfl rfl rfl rfl rfl rfl rfl rfl (fun G hd w hm=>zty (hd.tail.tail.tail.tail.head kR) (hd.tail.tail.head kR) (hd.head kR) hm) (fun G G' w hd hG h=>ztz ((hd.tail.tail.tail.tail.head kR).mono hG) ((hd.tail.tail.head kR).mono hG) ((hd.head kR).mono hG) h) ?_;rotate_left);refine' vB (cO func28) (fun G hG hd=>zov (X:=knX) (hd.head kR) (by decide) zqA) (fun _ _ _ h k=>QLL.mono h k) ?_;rotate_left;(refine' DJ.lit tO rfl rfl rfl rfl rfl rfl rfl rfl rfl rfl rfl rfl ?_;rotate_left);(repeat refine' DD ?_);refine' vB (cO func27) (fun G hG hd=>zoo hv G hG (xv 8) (xv 9) (hd.tail.head kR) (show IL G (xv 9) [0,1,2] from hd.head kR)) (fun _ _ _ h k=>(by obtain⟨cs,ns,e,hp,h1,h2⟩:=h;exact⟨cs,ns,e,hp.mono k,h1,h2⟩)) ?_;rotate_left;refine' DJ.copy (11) (by first|exact .inl rfl|exact .inr rfl) rfl rfl rfl id rfl kR ?_;rotate_left;refine' DJ.extract (11) rfl rfl rfl rfl rfl kR (fun G hd=>(by obtain⟨cs,ns,e,_⟩:=hd.head kR;exact⟨_,e,Nat.zero_lt_succ _⟩)) ?_;rotate_left;refine' DJ.extract (11) rfl rfl rfl rfl rfl kR (fun G hd=>(by obtain⟨cs,ns,e,_⟩:=hd.head kR;exact⟨_,e,Nat.lt_succ_self _⟩)) ?_;rotate_left;(repeat refine' DD ?_);refine' DJ.storeD tO rfl rfl rfl rfl (11) (zcW 0) rfl rfl (15) rfl rfl kR kR rfl (fun G hd=>(by obtain⟨cs,ns,e,hp,_⟩:=hd.head kR;obtain⟨_,_,_,rfl,_⟩:=hp;rw[e];exact⟨rfl,rfl⟩)) ?_;rotate_left;(refine DJ.nil (fun G2 hG2 hF2=>?_);(case hS|hS2=>rfl));obtain⟨⟨cs,ns,e4,hp4,hi4,ho4⟩,_⟩:=hF2;have htx:=zrj hp4 ho4 (zsj G2 hi4);obtain⟨a4,c4,css,rfl,_,_⟩:=id hp4;rw[e4];rw[show zcW 1 (Value.tuple #[.agg (([.int .i64 1,.int .i64 2,.int .i64 1,.slice a4 ns.length c4]:List Value)).toArray,.int .i64 0])=.int .i64 0 from rfl,show zac (zcW 0 (Value.tuple #[.agg (([.int .i64 1,.int .i64 2,.int .i64 1,.slice a4 ns.length c4]:List Value)).toArray,.int .i64 0]))=[.int .i64 1,.int .i64 2,.int .i64 1,.slice a4 ns.length c4] from rfl];refine uR ?_;refine vA (htx) ?_;rintro _ G3 ⟨l,rfl,hl⟩ hG3;obtain rfl:=zrk hi4 hl;have hck3:=zfk (hp4.mono hG3) ho4;refine uR ?_;rw[show ((sb zsZ).toList == (⟨#[120,48,32,60,61,32,51,10,32,32,99,108,97,115,115,32,48,10,32,32,99,108,97,115,115,32,49,10]⟩:ByteArray).toList)=true from beq_self_eq_true (sb zsZ).toList]
 repeat (first|refine RUN ?_|refine CV (hck3) ?_|refine CE (hck3) ?_)
 rfl
theorem GD.Ok.rgoal {H:Hp} {n:Nat} {d:GD} (hd:d.Ok n) (h0:1≤n) (h1:n≤300) {v:Value} (hR:d.R H v):(∃ga gn gc va vn vc,v=zas d.kd d.cl (.slice ga gn gc) (.slice va vn vc))∧zkz H v d.kd n d.cost d.mean d.cnt:=by
 have hsm:=hd.sm
 cases d with
 | v qs =>
  obtain⟨rfl,hq⟩:=hd;obtain⟨s,rfl,hs⟩:=hR;obtain⟨sa,sc,rfl⟩:=hs.val;have q100:∀q,q∈qs→ht q≤100:=fun q hq'=>qI (hq.bits q hq') oM;refine⟨⟨_,_,_,_,_,_,rfl⟩,⟨?_,?_,?_,?_,?_,?_,?_,?_,?_,?_⟩⟩
  ·exact fun e=>absurd e (by decide:¬(2:Int)=1)
  ·exact fun _ l=>rfl
  ·exact fun e=>absurd e (by decide:¬(2:Int)=1)
  ·exact fun l=>qQ _
  ·exact fun G hG u l hl hn=>zgY hl hn (hs.mono hG) q100
  ·exact fun l hn hr=>by have:=(hsm l hn hr).1;omega
  ·exact fun G hG u l hl hn=>zla hl hn (hs.mono hG) q100
  ·exact fun l hn hr=>(hsm l hn hr).2
  ·exact fun G hG=>znk h0 h1
  ·exact zqZ
 | c C ls =>
  obtain⟨hc,rfl,hlb⟩:=hd;obtain⟨s,rfl,hs⟩:=hR;obtain⟨sa,sc,rfl⟩:=SlC.val hs;refine⟨⟨_,_,_,_,_,_,rfl⟩,⟨?_,?_,?_,?_,?_,?_,?_,?_,?_,?_⟩⟩
  ·exact fun _ G hG u l hl hn=>zfG hl hn (SlC.mono hs hG) oM hlb
  ·exact fun e=>absurd rfl e
  ·exact fun _ l=>rfl
  ·exact fun l=>by show (zds C (atI ls l)).length≤12;rw[zbo];omega
  ·intro G hG u l hl hn;have:=zgY (kd:=1) (cl:=(C:Int)) (sl:=.slice sa ls.length sc) hl hn (RL.nil G none 0) (by intro q hq;cases hq);rw[show atR [] (exL l ([]:List Rat).length)=[] by rw[show exL l ([]:List Rat).length=[] from List.filter_eq_nil_iff.2 fun r _=>by unfold inR;simp];rfl,zeR]at this;exact this
  ·exact fun l hn hr=>by have:=(hsm l hn hr).1;omega
  ·exact fun G hG u l hl hn=>zk9 hl hn (SlC.mono hs hG) oM oM hlb
  ·exact fun l hn hr=>(hsm l hn hr).2
  ·exact fun G hG=>zni (SlC.mono hs hG) ⟨by show (1:Int)≤(C:Int);omega,by show (C:Int)≤12;omega⟩ h0 h1 hlb
  ·exact zqY (sv:=.bool true)
def zq5 (t:Int):Rat:=if t.tmod 4=1 then (if (zma t).num<0 then -zma t else zma t) else 0
theorem zq6 {H:Hp} (d0 l0 t:Int) (hd:zfR d0) (hl:zfR l0) (ht:zfR t) :
  PC prog 24 #[.int .i64 d0,.int .i64 l0,.int .i64 t] H fun r H'=>∃b1 a1 l1 c1 a2 l2 c2,r=ziN (d0 % 5) (1+l0 % 3) (.bool b1) (.slice a1 l1 c1) (.slice a2 l2 c2)∧RQ H' (.agg #[.bool b1,.slice a1 l1 c1,.slice a2 l2 c2]) (zq5 t):=by
 have hp1:=zbd d0 5 hd oM oM;have hp2:=zbd l0 3 hl oM oM;refine BD func24 ntmps24 ?_
 repeat (first|refine RUN ?_|refine CV (hp1) ?_|refine CV (hp2) ?_|refine CE (hp1) ?_|refine CE (hp2) ?_)
 rw[show IntKind.i64.wrap (1+l0 % 3)=1+l0 % 3 by rw[pK];omega];refine uR ?_;refine EVL.call rfl rfl rfl rfl rfl (za9 0 oM oM) ?_;intro r1 G1 hr1 hG1;obtain⟨a1,l1,c1,a2,l2,c2,rfl,_⟩:=id hr1;refine uR ?_;by_cases h:t.tmod 4=1
 ·rw[show (t.tmod 4 == 1)=true from beq_iff_eq.2 h];refine uR ?_;refine vA (ztI t ht) ?_;intro r2 G2 hr2 hG2;refine vA (zo6 hr2) ?_;intro r3 G3 hr3 hG3;obtain⟨a3,l3,c3,a4,l4,c4,rfl,_⟩:=id hr3;refine uR ?_;exact⟨_,_,_,_,_,_,_,rfl,by unfold zq5;rw[if_pos h];exact hr3⟩
 ·rw[show (t.tmod 4 == 1)=false from beq_false_of_ne h];refine uR ?_;exact⟨_,_,_,_,_,_,_,rfl,by unfold zq5;rw[if_neg h];exact hr1⟩
def zbq (l:List Int) (N:Nat):List Int:=(l.take 14).map fun z=>z % (N:Int)
def zcv (l:List Int) (N:Nat):List Int:=if zbq l N=[] then zd5 N else zbq l N
theorem zpj {l:List Int} {N:Nat} (hN:1≤N):∀r,r∈zcv l N→0≤r∧r<(N:Int):=by
 intro r hr;unfold zcv at hr;split at hr
 ·obtain⟨i,hi,rfl⟩:=List.mem_map.1 hr;have:=List.mem_range.1 hi;omega
 ·obtain⟨z,_,rfl⟩:=List.mem_map.1 hr;exact⟨Int.emod_nonneg _ oM,Int.emod_lt_of_pos _ oM⟩
theorem znz {l:List Int} {N:Nat} (hN:1≤N) (hN10:N≤10):1≤(zcv l N).length∧(zcv l N).length≤14:=by
 unfold zcv;split
 ·rw[zc0];omega
 ·rename_i h;have h1:=List.length_pos_iff.2 h;have h2:(zbq l N).length≤14:=by unfold zbq;rw[qV,qP];omega
  omega
abbrev zrH (kd n w dp ls gn:Int) (vg vl vr:Value):Value:=.agg #[.int .i64 kd,.int .i64 n,.int .i64 w,.int .i64 dp,.int .i64 ls,.int .i64 gn,vg,vl,vr]
theorem zk6 {l:List Int} {N i:Nat} {z:Int} (h:l[i]?=some z) (hi:i<14):(l.take (i+1)).map (fun z=>z % (N:Int))=(l.take i).map (fun z=>z % (N:Int))++[z % (N:Int)]:=by
 rw[zan h,qn];rfl
theorem zne {l:List Int} {N i:Nat} (h:min l.length 14≤i) (h14:i≤14):(l.take i).map (fun z=>z % (N:Int))=zbq l N:=by
 unfold zbq;by_cases h1:i=14
 ·rw[h1]
 ·rw[qO (show l.length≤i by omega),qO (show l.length≤14 by omega)]
set_option maxRecDepth 100000 in
theorem zqM {H:Hp} {vg vl vr:Value} {lg ll lr:List Int} (kd n w dp ls gn:Int) (hn:zfR n) (hw:zfR w) (hdp:zfR dp) (hls:zfR ls) (hgn:zfR gn) (hg:IL H vg lg) (hgb:∀z,z∈lg→zfR z) (hl:IL H vl ll) (hlb:∀z,z∈ll→zfR z) (hr:IL H vr lr) (hrb:∀z,z∈lr→zfR z) {N W:Nat} (hN:1+n % 10=(N:Int)) (hW:1+w % 3=(W:Int)) :
  PC prog 4 #[zrH kd n w dp ls gn vg vl vr] H fun r H'=>∃kd' cl ga gc' gc va vn vc vx vrows b1 a1 l1 c1 a2 l2 c2,r=.tuple #[zas kd' cl (.slice ga gc' gc) (.slice va vn vc),vx,vrows,ziN (dp % 5) (1+ls % 3) (.bool b1) (.slice a1 l1 c1) (.slice a2 l2 c2)] ∧
   zi8 H' (zas kd' cl (.slice ga gc' gc) (.slice va vn vc)) N (zj3 lg N)∧RLL H' vx (zfS ll N W)∧IL H' vrows (zcv lr N)∧RQ H' (.agg #[.bool b1,.slice a1 l1 c1,.slice a2 l2 c2]) (zq5 gn):=by
 obtain⟨ga0,gc0,rfl⟩:=SlC.val hg;obtain⟨la0,lc0,rfl⟩:=SlC.val hl;obtain⟨ra0,rc0,rfl⟩:=SlC.val hr;have hp1:=zbd n 10 hn oM oM;have hp2:=zbd w 3 hw oM oM;refine BD func4 ntmps4 ?_
 repeat (first|refine RUN ?_|refine CV (hp1) ?_|refine CE (hp1) ?_)
 rw[show IntKind.i64.wrap (1+n % 10)=(N:Int) by rw[pK];omega]
 repeat (first|refine zs8 ?_|refine CV (hp2) ?_|refine CE (hp2) ?_)
 rw[show IntKind.i64.wrap (1+w % 3)=(W:Int) by rw[pK];omega];refine EV.meetK (ι:=Value × Ows) [1,2,5,6,7] [1,2,5] (fun q=>[(8,.v q.1)]) (fun _=>[]) (fun q=>q.2) (fun q G=>H.Le G∧zaE 3 1 q.1 (zbq lr N).length ((zbq lr N).map iv) q.2) rfl rfl (fun _=>rfl) ?_ ?_
 ·try refine uR ?_
  refine EV.loopK (ι:=Nat × Value × Ows) [1,2,5,6,7] [1,2,5] (fun q=>[(8,.v q.2.1),(9,.v (.int .i64 (q.1:Int)))]) (fun _=>[]) (fun q=>q.2.2) (fun q _=>(q.1≤lr.length∧q.1≤14)∧zaE 3 1 q.2.1 q.1 (((lr.take q.1).map fun z=>z % (N:Int)).map iv) q.2.2) (fun q=>14-q.1) ((0,.slice none 0 0,[])) rfl rfl ⟨rfl,rfl,trivial⟩ trivial rfl (fun _=>rfl) (⟨⟨qQ _,qQ _⟩,zaE.nil _ _⟩) ?_;rintro⟨i,v8,ow⟩ G1 hG1 ⟨⟨hi,hi4⟩,hown⟩;dsimp only at hi hi4 hown;obtain⟨a8,c8,rfl⟩:=hown.val;have wi:IntKind.i64.wrap ((i:Int)+1)=((i+1:Nat):Int):=zab i oM;by_cases hgo:i<lr.length∧i<14
  ·obtain⟨z,hz⟩:∃z,lr[i]?=some z:=⟨_,qA hgo.1⟩;have hp:=zbd z (N:Int) (hrb z (qF hz)) oM oM;have hps:=zk6 (N:=N) hz hgo.2;refine uR ?_;rw[qD (show (i:Int)<(lr.length:Int) by omega)];refine uR ?_;rw[qD (show (i:Int)<14 by omega)];refine uR ?_;refine vI ((hr.mono hG1)) (i) (rfl) (hgo.1) ((by rw[qK,hz];rfl)) ?_
   repeat (first|refine RUN ?_|refine CV (hp) ?_|refine CE (hp) ?_)
   refine EVL.app1 tO rfl rfl rfl rfl rfl rfl rfl rfl rfl rfl rfl rfl rfl rfl rfl rfl rfl rfl rfl (fun _=>rfl) (ow) ([]) ((qG _).symm) (hown) oM fun _=>?_;intro v' ow' hown';refine uR ?_;exact⟨(i+1,v',ow'),⟨rfl,by rw[wi];rfl,trivial⟩,sB,trivial,sB,qG _,⟨⟨hgo.1,hgo.2⟩,by dsimp only;rw[hps,qn];exact hown'⟩,Hp.Le.refl _,by dsimp only;omega⟩
  ·have hall:=zne (l:=lr) (N:=N) (i:=i) oM hi4;rw[hall]at hown;have hil0:(zbq lr N).length=i:=by have:=hown.1;rw[qV]at this;omega
   by_cases h1:i<lr.length
   ·try refine uR ?_
    rw[qD (show (i:Int)<(lr.length:Int) by omega)];refine uR ?_;rw[qC (show ¬(i:Int)<14 by omega)];refine uR ?_;exact⟨(_,ow),⟨rfl,trivial⟩,sB,trivial,sB,rfl,hG1,by rw[hil0];exact hown⟩
   ·try refine uR ?_
    rw[qC (show ¬(i:Int)<(lr.length:Int) by omega)];refine uR ?_;exact⟨(_,ow),⟨rfl,trivial⟩,sB,trivial,sB,rfl,hG1,by rw[hil0];exact hown⟩
 ·rintro⟨v8,ow⟩ G1 ⟨hG1,hown⟩;dsimp only at hown;obtain⟨a8,c8,rfl⟩:=hown.val;refine uR ?_;refine EV.meetK (ι:=Value × Ows) [1,2,5,6,7] [1,2,5] (fun q=>[(8,.v q.1)]) (fun _=>[]) (fun q=>q.2) (fun q G=>H.Le G∧zaE 3 1 q.1 (zcv lr N).length ((zcv lr N).map iv) q.2) rfl rfl (fun _=>rfl) ?_ ?_
  ·by_cases h0:zbq lr N=[]
   ·rw[show zcv lr N=zd5 N from if_pos h0];rw[h0]at hown ⊢;rw[show (((([]:List Int).length:Nat):Int) == 0)=true from rfl];refine uR ?_;refine EV.loopK (ι:=Nat × Value × Ows) [1,2,5,6,7] [1,2,5] (fun q=>[(8,.v q.2.1),(10,.v (.int .i64 (q.1:Int)))]) (fun _=>[]) (fun q=>q.2.2) (fun q _=>q.1≤N∧zaE 3 1 q.2.1 q.1 ((zd5 q.1).map iv) q.2.2) (fun q=>N-q.1) ((0,.slice a8 0 c8,ow)) rfl rfl ⟨rfl,rfl,trivial⟩ trivial rfl (fun _=>rfl) (⟨qQ _,hown⟩) ?_;rintro⟨i,v9,ow9⟩ G2 hG2 ⟨hi,hown9⟩;dsimp only at hi hown9;obtain⟨a9,c9,rfl⟩:=hown9.val;have wi:IntKind.i64.wrap ((i:Int)+1)=((i+1:Nat):Int):=zab i oM;refine uR ?_;refine EV.cond rfl (fun hlt=>?_) (fun hlt=>?_)
    ·simp only[nN]at hlt;refine uR ?_;refine EVL.app1 tO rfl rfl rfl rfl rfl rfl rfl rfl rfl rfl rfl rfl rfl rfl rfl rfl rfl rfl rfl (fun _=>rfl) (ow9) ([]) ((qG _).symm) (hown9) oM fun _=>?_;intro v' ow' hown';refine uR ?_;exact⟨(i+1,v',ow'),⟨rfl,by rw[wi];rfl,trivial⟩,sB,trivial,sB,qG _,⟨hlt,by dsimp only;rw[zjb,qn];exact hown'⟩,Hp.Le.refl _,by dsimp only;omega⟩
    ·simp only[nN]at hlt;obtain rfl:i=N:=oM;refine uR ?_;exact⟨(_,ow9),⟨rfl,trivial⟩,sB,trivial,sB,rfl,hG1.trans hG2,by rw[zc0];exact hown9⟩
   ·have hl0:(zbq lr N).length≠0:=fun e=>h0 (qz.1 e);rw[show zcv lr N=zbq lr N from if_neg h0];rw[show (((zbq lr N).length:Int) == 0)=false from pP.2 (by omega)];refine uR ?_;exact⟨(_,ow),⟨rfl,trivial⟩,sB,trivial,sB,rfl,hG1,hown⟩
  ·rintro⟨v9,ow9⟩ G2 ⟨hG2,hown9⟩;dsimp only at hown9;obtain⟨a9,c9,rfl⟩:=hown9.val;(first|refine EVL.publishL [] ow9 [] ((qG _).symm) hown9 fun G3 hG3 hs3=>?_|refine EV.publishL [] ow9 [] ((qG _).symm) hown9 fun G3 hG3 hs3=>?_);have hil:IL G3 (.slice a9 (zcv lr N).length c9) (zcv lr N):=hs3;have hH3:=hG2.trans hG3;generalize hrows:zcv lr N=rows at *
   (first|refine EVL.unbox (1) rfl fun g1=>?_|refine EV.unbox (1) rfl fun g1=>?_);refine EV.seq ?_;refine EVI.start none (g1,24,[.int .i64 kd,.int .i64 n,.int .i64 w,.int .i64 dp,.int .i64 ls,.int .i64 gn,.slice ga0 lg.length gc0,.slice la0 ll.length lc0,.slice ra0 lr.length rc0]) ?_;refine IF 0 ?_;refine IL0 1 ?_;refine IF 2 ?_;refine IL0 3 ?_;refine IV 4 ?_;refine IF 6 ?_;refine IL0 7 ?_;refine IV 8 ?_;refine IV 9 ?_;refine IF 12 ?_;refine IL0 13 ?_;refine IF 14 ?_;refine IL0 15 ?_;refine IF 16 ?_;refine IL0 17 ?_;refine IV 11 ?_;refine EVI.one 5 0 (.inr rfl) kR rfl ?_;refine EVL.call rfl rfl rfl rfl rfl (zse (hg.mono hH3) hgb kd N oM) ?_;intro r5 G5 hr5 hG5
   obtain⟨kd',cl',ga,gn',gc,va,vn,vc,rfl⟩:∃k c ga gn gc va vn vc,r5=zas k c (.slice ga gn gc) (.slice va vn vc):=by
    rcases hr5 with ⟨s,rfl,h⟩ | ⟨c,s,_,rfl,_,_,_,_,h⟩
    ·obtain⟨a,c,rfl⟩:=h.val;exact⟨_,_,_,_,_,_,_,_,rfl⟩
    ·obtain⟨a,c,rfl⟩:=SlC.val h;exact⟨_,_,_,_,_,_,_,_,rfl⟩
   refine EVL.nil ⟨rfl,?_⟩;refine EVI.one 10 0 (.inr rfl) kR rfl ?_;refine EVL.call rfl rfl rfl rfl rfl (zsL (hl.mono (hH3.trans hG5)) hlb N W oM oM) ?_;intro r6 G6 hr6 hG6;obtain⟨xa,xc,rfl⟩:=hr6.val;refine EVL.nil ⟨rfl,?_⟩;refine EVI.one 18 0 (.inr rfl) kR rfl ?_;refine vA (zq6 dp ls gn hdp hls hgn) ?_;rintro r7 G7 ⟨b1,a1,l1,c1,a2,l2,c2,rfl,hq⟩ hG7;refine EVL.nil ⟨rfl,?_⟩;refine EVI.one 19 0 (.inr rfl) kR rfl ?_
   (try refine zey ?_);refine EVL.nil ⟨rfl,?_⟩;refine EVI.one 20 0 (.inr rfl) kR rfl ?_
   (try refine zey ?_);refine EVL.nil ⟨rfl,?_⟩;refine EVI.one 21 0 (.inr rfl) kR rfl ?_
   (try refine zey ?_);refine EVL.nil ⟨rfl,?_⟩;refine EVI.one 22 0 (.inr rfl) kR rfl ?_
   (try refine zey ?_);refine EVL.nil ⟨rfl,?_⟩;refine EVI.nil 0 (.inr rfl) kR ?_;refine uR ?_;have hX67:=hG5.trans (hG6.trans hG7);exact⟨kd',cl',ga,gn',gc,va,vn,vc,.slice xa (zfS ll N W).length xc,.slice a9 rows.length c9,b1,a1,l1,c1,a2,l2,c2,rfl,hr5.mono (hG6.trans hG7),hr6.mono hG7,hil.mono hX67,hq⟩
def TPr (G:Hp) (r:Value) (t:Tr) (e:Int):Prop:=∃cs,r=.tuple #[.agg cs.toArray,.int .i64 e]∧zhs G cs t.kd t.cl t.w t.ns
theorem zeN {p:GP} {kd cl:Int} {w:Nat} (hp:zp1 p kd cl w):∀(d k:Nat) (rows:List Int) (s:Int),1≤rows.length→(∀r,r∈rows→0≤r∧r<(p.X.length:Int))→(p.grow d k rows s).1.length+1≤2*rows.length
 | 0,k,rows,s,h1,hb=>by rw[GP.grow_zero];show 1+1≤_;omega
 | d+1,k,rows,s,h1,hb=>by
  cases h:p.cut rows (p.cols s).1 with
  | none=>rw[GP.grow_none h];show 1+1≤_;omega
  | some ct =>
   obtain⟨c,t⟩:=ct;obtain⟨_,_,hl,hh,hpm,_⟩:=zrw hp hb h;have hpl:=hpm.length_eq;rw[qJ]at hpl;have hlb:∀r,r∈zbe p.X c t rows→0≤r∧r<(p.X.length:Int):=fun r hr=>hb r (List.mem_filter.mp hr).1;have hhb:∀r,r∈zay p.X c t rows→0≤r∧r<(p.X.length:Int):=fun r hr=>hb r (List.mem_filter.mp hr).1;rw[GP.grow_some h];have h2:=zeN hp d (k+1) (zbe p.X c t rows) (p.cols s).2 hl hlb;have h3:=zeN hp d (k+1+(p.grow d (k+1) (zbe p.X c t rows) (p.cols s).2).1.length) (zay p.X c t rows) (p.grow d (k+1) (zbe p.X c t rows) (p.cols s).2).2 hh hhb;simp only[qR,qJ];omega
theorem zm4 {p:GP} {kd cl:Int} {w D:Nat} (hp:zp1 p kd cl w) (hw:1≤w∧w≤20) (hD:D≤10) {rows:List Int} (h1:1≤rows.length) (h2:rows.length≤300) (hb:∀r,r∈rows→0≤r∧r<(p.X.length:Int)) (s:Int):zce ⟨kd,cl,w,(p.grow D 0 rows s).1⟩:=by
 obtain⟨h3,_,h4⟩:=zop hp D 0 rows s h1 h2 hb (p.grow D 0 rows s).1 (fun j n hj=>by rw[qt];exact hj);have hl:=zeN hp D 0 rows s h1 hb;rw[qt]at h3;exact⟨hp.kind,⟨by show (1:Int)≤w;omega,by show (w:Int)≤20;omega⟩,by show (p.grow D 0 rows s).1.length≤2000;omega,⟨D,by omega,h3⟩,fun i hi=>by have:=h4 i hi;rwa [qt]at this⟩
abbrev trP (d:GD) (X:List (List Rat)) (least:Int) (g:Rat) (cols:Int→List Int × Int):GP:=⟨X,d.cost,d.mean,d.cnt,least,g,cols⟩
theorem ztR {d:GD} {N W:Nat} {X:List (List Rat)} {least:Int} {g:Rat} {cols:Int→List Int × Int} (hd:d.Ok N) (hXN:X.length=N) (hN:N≤20) (hXw:∀x,x∈X→x.length=W∧∀q,q∈x→ht q≤60) (hg:0≤g) (hc:∀s c,c∈(cols s).1→0≤c∧c<(W:Int)):zp1 (trP d X least g cols) d.kd d.cl W:=by
 subst hXN;exact zi9.gpAny (p:=trP d X least g cols) hd.plain (by show X.length≤300;omega) hXw hg hc
theorem zp7 {w:Nat}:∀c,c∈zd5 w→0≤c∧c<(w:Int):=fun c hc=>by
 obtain⟨i,hi,rfl⟩:=List.mem_map.1 hc;have:=List.mem_range.1 hi;omega
end
section
end
section
open Go.ChangeShapes Go.WideShapes Go.ChangeAt Go.RowKit
def zrR (H:Hp) (v:Value):Prop:=∃kd n w dp ls gn vg vl vr lg ll lr,v=zrH kd n w dp ls gn vg vl vr∧(zfR n∧zfR w∧zfR dp∧zfR ls∧zfR gn)∧(IL H vg lg∧∀z,z∈lg→zfR z)∧(IL H vl ll∧∀z,z∈ll→zfR z)∧(IL H vr lr∧∀z,z∈lr→zfR z)
theorem zsx {α:Type}:∀{l:List α},l.length=9→∃a b c d e f g h i,l=[a,b,c,d,e,f,g,h,i]
 | [a,b,c,d,e,f,g,h,i],_=>⟨a,b,c,d,e,f,g,h,i,rfl⟩
theorem raw18_open {H:Type} {enc:TypeId × Value→H} {w:World} {base:Nat} {spare:Nat→Bool} {held:Bool} {v:Value} {d:DataW H} {p:List MemPlace} (hv:∃cs,v=.agg cs) (h:DataW.Trod enc Tryz.prog w base spare held 24 v d p):zrR (hpOf w) v:=by
 obtain⟨cs,rfl⟩:=hv;obtain⟨fuel,h⟩:=h;obtain⟨xs,n,_,hx,hl,hlen,hf⟩:=DataW.trod_struct Tryz.underlying24 h;rw[show Tryz.prog.cellsOf 24=9 from by kernel_rfl]at hl;have hl4:cs.toList.length=9:=hl;obtain⟨l,rfl⟩:∃l:List Value,cs=l.toArray:=⟨cs.toList,by simp⟩;have hl4':l.length=9:=by simpa using hl4
 obtain⟨c0,c1,c2,c3,c4,c5,c6,c7,c8,rfl⟩:=zsx hl4';have hx4:xs.length=9:=hlen;have f0:DataW.trod enc Tryz.prog w base spare held n 3 (([c0,c1,c2,c3,c4,c5,c6,c7,c8].drop 0).take (Tryz.prog.cellsOf 3))=xs[0]?:=hf 0 _ rfl;have f1:DataW.trod enc Tryz.prog w base spare held n 3 (([c0,c1,c2,c3,c4,c5,c6,c7,c8].drop 1).take (Tryz.prog.cellsOf 3))=xs[1]?:=hf 1 _ rfl;have f2:DataW.trod enc Tryz.prog w base spare held n 3 (([c0,c1,c2,c3,c4,c5,c6,c7,c8].drop 2).take (Tryz.prog.cellsOf 3))=xs[2]?:=hf 2 _ rfl;have f3:DataW.trod enc Tryz.prog w base spare held n 3 (([c0,c1,c2,c3,c4,c5,c6,c7,c8].drop 3).take (Tryz.prog.cellsOf 3))=xs[3]?:=hf 3 _ rfl;have f4:DataW.trod enc Tryz.prog w base spare held n 3 (([c0,c1,c2,c3,c4,c5,c6,c7,c8].drop 4).take (Tryz.prog.cellsOf 3))=xs[4]?:=hf 4 _ rfl;have f5:DataW.trod enc Tryz.prog w base spare held n 3 (([c0,c1,c2,c3,c4,c5,c6,c7,c8].drop 5).take (Tryz.prog.cellsOf 3))=xs[5]?:=hf 5 _ rfl;have f6:DataW.trod enc Tryz.prog w base spare held n 22 (([c0,c1,c2,c3,c4,c5,c6,c7,c8].drop 6).take (Tryz.prog.cellsOf 22))=xs[6]?:=hf 6 _ rfl;have f7:DataW.trod enc Tryz.prog w base spare held n 22 (([c0,c1,c2,c3,c4,c5,c6,c7,c8].drop 7).take (Tryz.prog.cellsOf 22))=xs[7]?:=hf 7 _ rfl;have f8:DataW.trod enc Tryz.prog w base spare held n 22 (([c0,c1,c2,c3,c4,c5,c6,c7,c8].drop 8).take (Tryz.prog.cellsOf 22))=xs[8]?:=hf 8 _ rfl;rw[show Tryz.prog.cellsOf 3=1 from by kernel_rfl]at f0 f1 f2 f3 f4 f5;rw[show Tryz.prog.cellsOf 22=1 from by kernel_rfl]at f6 f7 f8;rw[qA (by omega)]at f0 f1 f2 f3 f4 f5 f6 f7 f8;obtain⟨z0,e0,_,w0⟩:=DataW.trod_int Tryz.underlying3 f0;obtain⟨z1,e1,_,w1⟩:=DataW.trod_int Tryz.underlying3 f1;obtain⟨z2,e2,_,w2⟩:=DataW.trod_int Tryz.underlying3 f2;obtain⟨z3,e3,_,w3⟩:=DataW.trod_int Tryz.underlying3 f3;obtain⟨z4,e4,_,w4⟩:=DataW.trod_int Tryz.underlying3 f4;obtain⟨z5,e5,_,w5⟩:=DataW.trod_int Tryz.underlying3 f5;obtain⟨a6,l6,k6,b6,e6,s6,d6⟩:=ints_open Tryz.underlying22 Tryz.underlying3 kR f6;obtain⟨a7,l7,k7,b7,e7,s7,d7⟩:=ints_open Tryz.underlying22 Tryz.underlying3 kR f7;obtain⟨a8,l8,k8,b8,e8,s8,d8⟩:=ints_open Tryz.underlying22 Tryz.underlying3 kR f8;have g0:[c0]=[.int .i64 z0]:=e0;have g1:[c1]=[.int .i64 z1]:=e1;have g2:[c2]=[.int .i64 z2]:=e2;have g3:[c3]=[.int .i64 z3]:=e3;have g4:[c4]=[.int .i64 z4]:=e4;have g5:[c5]=[.int .i64 z5]:=e5;have g6:[c6]=[.slice a6 l6 k6]:=e6;have g7:[c7]=[.slice a7 l7 k7]:=e7;have g8:[c8]=[.slice a8 l8 k8]:=e8;cases g0;cases g1;cases g2;cases g3;cases g4;cases g5;cases g6;cases g7;cases g8;exact⟨z0,z1,z2,z3,z4,z5,_,_,_,b6,b7,b8,rfl,⟨i64_bounds w1,i64_bounds w2,i64_bounds w3,i64_bounds w4,i64_bounds w5⟩,⟨s6,fun z hz=>i64_bounds (d6 z hz)⟩,⟨s7,fun z hz=>i64_bounds (d7 z hz)⟩,⟨s8,fun z hz=>i64_bounds (d8 z hz)⟩⟩
theorem zoO {H:Hp} {v:Value} (h:zrR H v):PC Tryz.prog 4 #[v] H fun r G=>∃(kd cl least gn:Int) (ga va a1 a2:Option Addr) (gl gc vn vc N W D l1 c1 l2 c2:Nat) (vx vr:Value) (b1:Bool) (lg ll lr:List Int),
  r=.tuple #[zas kd cl (.slice ga gl gc) (.slice va vn vc),vx,vr,ziN (D:Int) least (.bool b1) (.slice a1 l1 c1) (.slice a2 l2 c2)] ∧
  zi8 G (zas kd cl (.slice ga gl gc) (.slice va vn vc)) N (zj3 lg N)∧RLL G vx (zfS ll N W)∧IL G vr (zcv lr N)∧RQ G (.agg #[.bool b1,.slice a1 l1 c1,.slice a2 l2 c2]) (zq5 gn) ∧
  (1≤N∧N≤10)∧(1≤W∧W≤3)∧D≤4∧(1≤least∧least≤3):=by
 obtain⟨kd,n,w,dp,ls,gn,vg,vl,vr,lg,ll,lr,rfl,⟨hn,hw,hdp,hls,hgn⟩,⟨hg,hgb⟩,⟨hl,hlb⟩,hr,hrb⟩:=h;obtain⟨N,hN⟩:∃N:Nat,1+n % 10=(N:Int):=⟨(1+n % 10).toNat,by omega⟩;obtain⟨W,hW⟩:∃W:Nat,1+w % 3=(W:Int):=⟨(1+w % 3).toNat,by omega⟩;obtain⟨D,hD⟩:∃D:Nat,dp % 5=(D:Int):=⟨(dp % 5).toNat,by omega⟩;refine(zqM kd n w dp ls gn hn hw hdp hls hgn hg hgb hl hlb hr hrb hN hW).mono ?_;rintro r G ⟨kd',cl,ga,gl,gc,va,vn,vc,vx,vrows,b1,a1,l1,c1,a2,l2,c2,rfl,r1,r2,r3,r4⟩ hG;rw[hD];exact⟨kd',cl,1+ls % 3,gn,ga,va,a1,a2,gl,gc,vn,vc,N,W,D,l1,c1,l2,c2,vx,vrows,b1,lg,ll,lr,rfl,r1,r2,r3,r4,by omega,by omega,by omega,by omega⟩
theorem zsN (gn:Int):0≤zq5 gn∧ht (zq5 gn)≤5:=by
 have h5:=zgE gn;unfold zq5;split
 ·split
  ·rename_i h;refine⟨?_,?_⟩
   ·have:zma gn<0:=Rat.not_le.1 fun k=>by have:=Rat.num_nonneg.2 k;omega
    grind
   ·rw[zlO];exact h5
  ·rename_i h;exact⟨Rat.num_nonneg.1 oM,h5⟩
 ·exact⟨Rat.le_refl,by rw[zcr];decide⟩
end
section
end
section
open Go.RowKit _root_.Go.Proofs.Tryz
end
section
end
section
open Go.RowKit _root_.Go.Proofs.Tryz
section
variable {P:Program} {n:Nat} {ops:Array Oper} {o:Oper} {rest:List Oper} {env:Env} {bx:Bxs} {H:Hs} {Q:EQ} {d:Nat}
end
section
variable {n:Nat} {ops:Array Oper} {o:Oper} {env:Env} {bx:Bxs} {H:Hs} {K:Env→Bxs→Hs→Prop} {L:Array Bool} {fuel d:Nat} {v:Value} {I:World→Prop} {z:Option Nat}
theorem IX (i:Nat) {x y:Operand} {T:TypeId} {te te':TE} {e:TypeId} {b off m cap q:Nat} {k:IntKind} {w:Int} (h:EVG I z prog n ops fuel (L.setIfInBounds i true) ((d,.v (.pointer (some ⟨b,off+q*te'.size,none⟩)))::env) bx H K) (hw':w=(q:Int)) (hq:q<m) (hi:ops[i]?=some o:=by exact rfl) (hs:Region.noSelect ops=true:=by kernel_rfl) (hf:Region.free .any ops L i=true:=by kernel_rfl) (hr:(Region.ready .any ops L).contains i=true:=by kernel_rfl) (hy:zmB .any ops L i=true:=by kernel_rfl) (hts:(z == some i)=false:=by kernel_rfl) (hw:zah ops env o=some true:=by exact rfl) (hd:o.dst=some d:=by exact rfl) (hn:Nat.blt d n=true:=by exact rfl)
  (ho:o.op=.indexAddr T x y:=by exact rfl) (hx:env.op x=some (.v (.slice (some ⟨b,off,none⟩) m cap)):=by exact rfl) (hyy:env.op y=some (.v (.int k w)):=by exact rfl) (ht:Tryz.tab.get T=some te:=by exact rfl) (hk:te.kind=.slice e:=by exact rfl) (ht':Tryz.tab.get e=some te':=by exact rfl):EVG I z prog n ops (fuel+1) L env bx H K :=
 EVG.take (J:=fun _=>True) i (.inr ⟨fun _=>trivial,fun e=>by rw[e]at hts;simp at hts⟩) hi hs hf hr hy hw hd hn (fun β a W he _=>by
  have ex:a.eval x=_:=he x _ hx;have ey:a.eval y=_:=he y _ hyy;have hkd:=(tO.get ht).kind;rw[hk]at hkd;have hkd':Tryz.prog.underlying T=some (.slice e):=hkd;unfold execOp;simp[ho,ex,ey,Instr.indexAt,asIntOf,run_underlying hkd',hw',(tO.get ht').size,Addr.add_mid,hq]) h
theorem IRQ (i:Nat) {H0:Hp} {x:Operand} {T:TypeId} {te:TE} {b off:Nat} {c:Array Value} {l:List Value} (hI:∀w,I w→Fits H0 w) (h:EVG I z prog n ops fuel (L.setIfInBounds i true) ((d,.v v)::env) bx H K) (hc:H0 b=some c) (hl:∀(j:Nat) (u:Value),l[j]?=some u→c[off+j]?=some u) (hlen:l.length=te.size) (hv:zfa te.agg l=some v) (hi:ops[i]?=some o:=by exact rfl) (hs:Region.noSelect ops=true:=by kernel_rfl) (hf:Region.free .any ops L i=true:=by kernel_rfl) (hr:(Region.ready .any ops L).contains i=true:=by kernel_rfl) (hy:zmB .any ops L i=true:=by kernel_rfl) (hts:zte .any ops z i=true:=by kernel_rfl) (hw:zah ops env o=some true:=by exact rfl) (hd:o.dst=some d:=by exact rfl) (hn:Nat.blt d n=true:=by exact rfl)
  (ho:o.op=.load T x:=by exact rfl) (hx:env.op x=some (.v (.pointer (some ⟨b,off,none⟩))):=by exact rfl) (ht:Tryz.tab.get T=some te:=by exact rfl):EVG I z prog n ops (fuel+1) L env bx H K :=
 EVG.take (J:=Fits H0) i (.inl ⟨hts,hI⟩) hi hs hf hr hy hw hd hn (fun β a W he hB=>by
  have ex:a.eval x=_:=he x _ hx;obtain⟨T',fz,hW⟩:=hB b c hc
  have hrg:W.rangeAt b off l:=fun j u hj=>by
   rw[cell_of_row W b (off+j) c T' fz hW];exact hl j u hj
  have hrun:=zaY (tO.get ht) hrg hlen hv;unfold execOp;simp only[ho,ex,Sem.run_bind,hrun,Result.andThen_ok,Sem.run_pure]) h
theorem ILQ (i:Nat) {T0:TypeId} {cs:List Value} {x:Operand} {T:TypeId} {te:TE} {b off:Nat} {l:List Value} (hI:∀w,I w→Box w b cs.toArray T0) (h:EVG I z prog n ops fuel (L.setIfInBounds i true) ((d,.v v)::env) bx H K) (hl:(cs.drop off).take te.size=l) (hlen:l.length=te.size) (hv:zfa te.agg l=some v) (hi:ops[i]?=some o:=by exact rfl) (hs:Region.noSelect ops=true:=by kernel_rfl) (hf:Region.free .any ops L i=true:=by kernel_rfl) (hr:(Region.ready .any ops L).contains i=true:=by kernel_rfl) (hy:zmB .any ops L i=true:=by kernel_rfl) (hts:zte .any ops z i=true:=by kernel_rfl) (hw:zah ops env o=some true:=by exact rfl) (hd:o.dst=some d:=by exact rfl) (hn:Nat.blt d n=true:=by exact rfl)
  (ho:o.op=.load T x:=by exact rfl) (hx:env.op x=some (.v (.pointer (some ⟨b,off,none⟩))):=by exact rfl) (ht:Tryz.tab.get T=some te:=by exact rfl):EVG I z prog n ops (fuel+1) L env bx H K :=
 EVG.take (J:=fun w=>Box w b cs.toArray T0) i (.inl ⟨hts,hI⟩) hi hs hf hr hy hw hd hn (fun β a W he hB=>by
  have ex:a.eval x=_:=he x _ hx;have hrg:=hB.range off te.size;rw[hl]at hrg;have hrun:=zaY (tO.get ht) hrg hlen hv;unfold execOp;simp only[ho,ex,Sem.run_bind,hrun,Result.andThen_ok,Sem.run_pure]) h
end
theorem zqN {c:Array Value} {q:Nat} {v:Value} (h:c[q]?=some v):∀(j:Nat) (u:Value),[v][j]?=some u→c[q+j]?=some u:=fun j u hj=>by
 cases j with
 | zero=>cases hj;exact h
 | succ j=>cases hj
theorem za8 {z:Option Nat} {L:Array Bool} {n:Nat} {env:Env} {bx:Bxs} {H:Hs} {p:Nat × TypeId × List Value} {H0:Hp} {jj:Nat} (hj:zen z L=false∨H.ow[jj]?=some p) (h:H0.Le H.ro):zen z L=true→∀W0 β a W,Rel n W0 H.base β env bx H a W→Box W p.1 p.2.2.toArray p.2.1∧Fits H0 W:=fun hn W0 β a W r=>⟨zt1 hj hn W0 β a W r,r.fits.mono h⟩
section
variable {P:Program} {n:Nat} {ops:Array Oper} {o:Oper} {rest:List Oper} {env:Env} {bx:Bxs} {sb':Bxs} {H:Hs} {Q:EQ} {d:Nat}
end
end
section
end
section
open Go.RowKit _root_.Go.Proofs.Tryz
end
section
end
section
open Go.RowKit _root_.Go.Proofs.Tryz
set_option maxRecDepth 100000 in
theorem zq8 {H:Hp} {cs:List Value} {vx:Value} {kd cl w:Int} {ns:List Nd} {x:List Rat} (ht:zhs H cs kd cl w ns) (hok:zce ⟨kd,cl,w,ns⟩) (hx:RL H vx x) (hxl:(x.length:Int)=w) (hxs:∀q,q∈x→rq q) :
  PC prog 42 #[.agg cs.toArray,vx] H fun r G=>∃l:List Int,IL G r l∧zkt ns x 0 l:=by
 obtain⟨a,cp,css,rfl,hns,hsl⟩:=ht;obtain⟨hkd,hw,hln,⟨hh,hh10,hsub⟩,hall⟩:=hok;dsimp only at hkd hw hln hsub hall;have hpos:=hsub.end0;obtain⟨xa,xc,rfl⟩:=hx.val;refine BD func42 ntmps42 ?_;refine uR ?_;refine EVL.lit tO rfl rfl rfl rfl rfl rfl rfl rfl rfl rfl rfl fun bl=>?_;refine uR ?_;refine EV.loopK (ι:=Nat × List Int × Value × Ows) [1,2] [2] (fun q=>[(5,.v q.2.2.1),(6,.v (.int .i64 (q.1:Int)))]) (fun _=>[]) (fun q=>q.2.2.2) (fun q G=>q.1<ns.length∧q.2.1.length≤q.1∧(∀m,zkt ns x q.1 m→zkt ns x 0 (q.2.1++m))∧zaE 3 1 q.2.2.1 (q.2.1.length+1) (q.2.1.map iv++[iv q.1]) q.2.2.2) (fun q=>ns.length-q.1) ((0,[],_,_)) rfl rfl ⟨rfl,rfl,trivial⟩ trivial rfl (fun _=>rfl) (⟨hpos,qH _,fun m h=>h,zaE.full rfl oM⟩) ?_;rintro⟨i,l,vw,ow⟩ G1 hG1 ⟨hi,hll,hlf,hown⟩;dsimp only at hi hll hlf hown;obtain⟨wa,wc,rfl⟩:=hown.val;obtain⟨n,hn,hN,_⟩:=hall i hi;obtain⟨c,hcut,hnd⟩:=(hns.mono hG1).get hn;obtain⟨b1,a1,l1,c1,a2,l2,c2,b3,a3,l3,c3,a4,l4,c4,b5,a5,l5,c5,a6,l6,c6,a7,c7,rfl,hqa,_,_,_⟩:=hnd.cells;obtain⟨h',e',hsi⟩:=hsub.at i (qQ _) hi;have hle:=hsi.lt;refine uR ?_;refine EVL.idxM tO rfl rfl rfl rfl rfl rfl rfl rfl rfl ((hsl.mono hG1)) (i) (rfl) (hi) (hcut) ?_;refine uR ?_
 cases hsi with
 | leaf q1 q2 q3 q4 q5 =>
  rw[hn]at q1;cases q1;rw[qC (show ¬n.col≥0 by omega)];have hil:=hown.il;(first|refine EVL.publishL [] ow [] ((qG _).symm) hil fun G2 hG2 hs2=>?_|refine EV.publishL [] ow [] ((qG _).symm) hil fun G2 hG2 hs2=>?_);refine uR ?_;exact⟨l++[(i:Int)],hs2,hlf _ (.here hn q2)⟩
 | @node _ h1 m _ _ q1 q2 q3 q4 q5 s1 s2 =>
  rw[hn]at q1;cases q1;have hm1:=s1.lt;have hm2:=s2.lt;have hcl:n.col.toNat<x.length:=oM;obtain⟨y,hy⟩:∃y,x[n.col.toNat]?=some y:=⟨_,qA hcl⟩;have hyg:x.getD n.col.toNat 0=y:=by rw[qB,hy];rfl
  obtain⟨xcs,xb,ya1,yl1,yc1,ya2,yl2,yc2,hxS,hxcut,hxq⟩:=hx.slc hy;rw[qD (show n.col≥0 by omega)];refine uR ?_;refine EVL.idxM tO rfl rfl rfl rfl rfl rfl rfl rfl rfl ((hsl.mono hG1)) (i) (rfl) (hi) (hcut) ?_;refine uR ?_;apply EV.drawn 9 kR kR;intro xv yw;(repeat refine' DD ?_);refine' DJ.idxM tO rfl rfl rfl rfl rfl rfl rfl rfl rfl ((hxS.mono hG1)) (n.col.toNat) ((by rw[Int.toNat_of_nonneg q2])) (hcl) (hxcut) ?_;rotate_left;(repeat refine' DD ?_);refine' vC (cO func51) (fun G hG hd=>zbB ((hxq.mono hG1).mono hG) (hqa.mono hG) (hxs y (qF hy)) (by have:=hN.small.1;unfold rq;omega)) ?_;rotate_left;(repeat refine' DD ?_);(refine DJ.nil (fun G2 hG2 hF2=>?_);(case hS|hS2=>rfl));by_cases hle2:y≤n.at'
  ·rw[qD (zoT hle2)];refine uR ?_;refine EVL.app1 tO rfl rfl rfl rfl rfl rfl rfl rfl rfl rfl rfl rfl rfl rfl rfl rfl rfl rfl rfl (fun _=>rfl) (ow) ([]) ((qG _).symm) (hown) oM fun _=>?_;intro v' ow' hown';obtain⟨va,vc,rfl⟩:=hown'.val;refine uR ?_;refine⟨(n.left.toNat,l++[(i:Int)],_,ow'),⟨rfl,by dsimp only;rw[Int.toNat_of_nonneg (by omega)];rfl,trivial⟩,sB,trivial,sB,qG _,⟨by dsimp only;omega,by dsimp only;rw[qJ,qv];omega,fun m h=>by dsimp only;rw[qZ];exact hlf _ (.low hn oM (by rw[hyg];exact hle2) h),by dsimp only;rw[qJ,qn,Int.toNat_of_nonneg (by omega)];exact hown'⟩,hG2,by dsimp only;omega⟩
  ·rw[qC (show ¬zb6 y n.at'≤0 from fun k=>hle2 (Rat.not_lt.1 fun k2=>by have:=(zl8 y n.at').2 k2;omega))];refine uR ?_;refine EVL.app1 tO rfl rfl rfl rfl rfl rfl rfl rfl rfl rfl rfl rfl rfl rfl rfl rfl rfl rfl rfl (fun _=>rfl) (ow) ([]) ((qG _).symm) (hown) oM fun _=>?_;intro v' ow' hown';obtain⟨va,vc,rfl⟩:=hown'.val;refine uR ?_;refine⟨(n.right.toNat,l++[(i:Int)],_,ow'),⟨rfl,by dsimp only;rw[Int.toNat_of_nonneg (by omega)];rfl,trivial⟩,sB,trivial,sB,qG _,⟨by dsimp only;omega,by dsimp only;rw[qJ,qv];omega,fun m h=>by dsimp only;rw[qZ];exact hlf _ (.high hn oM (by rw[hyg];exact hle2) h),by dsimp only;rw[qJ,qn,Int.toNat_of_nonneg (by omega)];exact hown'⟩,hG2,by dsimp only;omega⟩
theorem zpf {H:Hp} {cs:List Value} {vx:Value} {kd cl w:Int} {ns:List Nd} {x:List Rat} (ht:zhs H cs kd cl w ns) (hok:zce ⟨kd,cl,w,ns⟩) (hx:RL H vx x) (hxl:(x.length:Int)=w) (hxs:∀q,q∈x→rq q) (hpl:∀l,zkt ns x 0 l→l.length≤1000000) :
  PC prog 21 #[.agg cs.toArray,vx] H fun r _=>∃i:Nat,r=.int .i64 (i:Int)∧zi6 ns x 0 i:=by
 have hway:=zq8 ht hok hx hxl hxs;obtain⟨a,cp,css,rfl,hns,hsl⟩:=ht;obtain⟨xa,xc,rfl⟩:=hx.val;refine BD func21 ntmps21 ?_;refine uR ?_;refine vA (hway) ?_;rintro r G ⟨l0,hil,hp⟩ hG;have hll:=hpl l0 hp;obtain⟨i,l,rfl,hL⟩:=hp.leaf;rw[qJ,qv]at hll;obtain⟨la,lc,rfl⟩:=SlC.val hil
 have hw:IntKind.i64.wrap (((l++[(i:Int)]).length:Int)-1)=((l.length:Nat):Int):=by
  rw[qJ,qv,pK];omega
 refine uR ?_;rw[hw];refine vI (hil) (l.length) (rfl) ((by rw[qJ,qv];omega)) ((by rw[qK,qL (qH _),Nat.sub_self];rfl)) ?_;refine uR ?_;exact⟨i,rfl,hL⟩
theorem zpd {p:GP} {kd cl least deep:Int} {sm w:Nat} {la va xa:Option Addr} {ln lc vn vc xc:Nat} {g1 g2 g3:Value} {dq:Option Addr} (hq0:dq=none) (hdn:∀s,p.cols s=(zpJ w,s)) (hsm:sm≤w) (hw1:1≤w) (hw2:w≤1000) (hx0:0<p.X.length) (hxw:∀x,x∈p.X→x.length=w) (hxq:∀x,x∈p.X→∀q,q∈x→ht q≤60) (hpl:p.least=least) (hgr:rq p.gain):∀(d:Nat) {H:Hp} {b:Nat} {T:TypeId} {dd s:Int} {vr out:Value} {rows:List Int} {ns:List Nd} {css:List (List Value)} {D ow:Ows},
  zkz H (zas kd cl (.slice la ln lc) (.slice va vn vc)) kd p.X.length p.cost p.mean p.cnt→RLL H (.slice xa p.X.length xc) p.X→RQ H (.agg #[g1,g2,g3]) p.gain→dd+d=deep→0≤dd→deep≤10 →
  IL H vr rows→rows.length≤300→(∀r,r∈rows→0≤r∧r<(p.X.length:Int))→ze7 (.pointer dq) D s→zaE 48 15 out ns.length css.flatten ow→zaR H css ns→ns.length+2 ^ (d+1)≤1000000 →
  PW prog 26 #[.pointer (some ⟨b,0,none⟩),vr,.int .i64 dd] H ((b,T,zd6 kd cl (.slice la ln lc) (.slice va vn vc) (.slice xa p.X.length xc) deep least g1 g2 g3 (.pointer dq) (sm:Int) out)::(D++ow)) fun v ow' H'=>v=.tuple #[]∧∃out' D' ow2 css',ow'=(b,T,zd6 kd cl (.slice la ln lc) (.slice va vn vc) (.slice xa p.X.length xc) deep least g1 g2 g3 (.pointer dq) (sm:Int) out')::(D'++ow2)∧ze7 (.pointer dq) D' (p.grow d ns.length rows s).2∧zaE 48 15 out' (ns++(p.grow d ns.length rows s).1).length css'.flatten ow2∧zaR H' css' (ns++(p.grow d ns.length rows s).1):=by
 intro d
 induction d using Nat.strongRecOn with
 | _ d ih =>
  intro H b T dd s vr out rows ns css D ow hg hX hgq hdd hd0 hd1 hr hn hb hD hown hns hsz;obtain⟨oa,oc,rfl⟩:=hown.val;obtain⟨ra,rc,rfl⟩:=SlC.val hr;have hpw:2≤2 ^ (d+1):=by rw[qX];have:=Nat.one_le_two_pow (n:=d);omega
  refine PW.body tO func26 rfl kR ntmps26 rfl rfl ?_;refine uR ?_;refine RP ?_;refine EVL.loadOwn tO rfl rfl rfl rfl rfl rfl (0) rfl (rfl) rfl rfl ?_;refine uR ?_;refine EV.meetK (ι:=Value × Ows × List Value) [0,1,2,6] [] (fun _=>[]) (fun _=>[]) (fun q=>(b,T,zd6 kd cl (.slice la ln lc) (.slice va vn vc) (.slice xa p.X.length xc) deep least g1 g2 g3 (.pointer dq) (sm:Int) q.1)::(D++q.2.1)) (fun q G=>H.Le G∧zaE 48 15 q.1 (ns.length+1) (css++[q.2.2]).flatten q.2.1∧zdq G q.2.2 (p.nd rows)) rfl rfl (fun _=>rfl) ?_ ?_
  ·refine EVI.start (some 9) (b,T,zd6 kd cl (.slice la ln lc) (.slice va vn vc) (.slice xa p.X.length xc) deep least g1 g2 g3 (.pointer dq) (sm:Int) (.slice oa ns.length oc)) ?_;refine IV 0 ?_;refine IV 1 ?_;refine IN 2 ?_;refine IF 3 ?_;refine IL0 4 ?_;refine IV 5 ?_;refine IV 6 ?_;refine EVI.one 7 0 (.inr rfl) kR rfl ?_;refine vW ([(b,T,zd6 kd cl (.slice la ln lc) (.slice va vn vc) (.slice xa p.X.length xc) deep least g1 g2 g3 (.pointer dq) (sm:Int) (.slice oa ns.length oc))]) (D++ow) (zq0 hg hr hn hb) ?_;rintro _ ow1 G1 ⟨rfl,cs,rfl,hnd⟩ hG1;obtain⟨b1,a1,l1,c1,a2,l2,c2,b3,a3,l3,c3,a4,l4,c4,b5,a5,l5,c5,a6,l6,c6,a7,c7,rfl,_⟩:=hnd.cells;refine EVL.nil ⟨rfl,?_⟩;refine EVI.one 8 0 (.inr rfl) kR rfl ?_;refine EVL.lit tO rfl rfl rfl rfl rfl rfl rfl rfl rfl rfl rfl fun bl=>?_;refine EVL.nil ⟨rfl,?_⟩;refine EVI.one 9 1 (.inr rfl) kR rfl ?_;refine EVL.append tO rfl rfl rfl rfl rfl rfl rfl rfl rfl rfl rfl rfl ([(bl,_,_),(b,T,_)]++D) ow [] (by rw[qG];rfl) hown (zb7.own 0 rfl rfl) rfl oM ?_;intro v2 ow2 hown2;obtain⟨oa2,oc2,rfl⟩:=hown2.val;refine EVL.nil ⟨rfl,?_⟩;refine EVI.one 10 0 (.inl kR) kR rfl ?_;refine EVL.nilB rfl rfl rfl rfl rfl ?_;refine EVL.nil ⟨rfl,?_⟩;refine EVI.one 11 0 (.inl kR) kR rfl ?_;refine EVL.fldB tO rfl rfl rfl rfl rfl rfl rfl ?_;refine EVL.nil ⟨rfl,?_⟩;refine EVI.one 12 0 (.inl kR) kR rfl ?_;refine EVL.storeOwn tO rfl rfl rfl rfl rfl rfl ([(bl,_,_)]) (D++(ow2++[])) rfl rfl rfl rfl ((by exact qH 13)) (rfl) ?_;refine EVL.subOw [] [(bl,_,_)] _ rfl ?_;refine EVL.nil ⟨rfl,?_⟩;refine EVI.nil 0 (.inl kR) kR ?_;exact⟨(_,ow2++[],_),trivial,sB,trivial,trivial,rfl,hG1,(by rw[qG,List.flatten_append];exact hown2),hnd⟩
  ·rintro⟨out1,ow1,c1⟩ G1 ⟨hG1,hown1,hnd1⟩;dsimp only at hown1 hnd1;have hns1:zaR G1 (css++[c1]) (ns++[p.nd rows]):=hns.snoc hG1 hnd1;refine uR ?_;refine RP ?_;refine EVL.loadOwn tO rfl rfl rfl rfl rfl rfl (0) rfl (rfl) rfl rfl ?_;refine uR ?_;by_cases hd:d=0
   ·subst hd;obtain rfl:dd=deep:=oM;rw[show (dd == dd)=true from beq_self_eq_true dd];refine uR ?_;exact⟨rfl,out1,D,ow1,_,rfl,hD,by rw[qJ];exact hown1,hns1⟩
   obtain⟨e,rfl⟩:∃e,d=e+1:=⟨d-1,by omega⟩;have ih':=@ih e oM;clear ih;rw[show (dd == deep)=false from pP.2 (by omega)];refine uR ?_;refine RP ?_;refine EVL.loadOwn tO rfl rfl rfl rfl rfl rfl (0) rfl (rfl) rfl rfl ?_;refine EVL.neqnil Tryz.underlying83 rfl rfl rfl rfl rfl ?_;refine uR ?_;obtain⟨vsx,hvs,hvx⟩:=hX.mono hG1;obtain⟨x0,hxx0⟩:=gE hx0;obtain⟨u0,e0,hu0,_⟩:=hvs.at hxx0;have hx0w:=hxw x0 (qF hxx0);refine EV.meetK (ι:=Value × Ows) [0,1,2,6] [] (fun q=>[(7,.v q.1)]) (fun _=>[]) (fun q=>(b,T,zd6 kd cl (.slice la ln lc) (.slice va vn vc) (.slice xa p.X.length xc) deep least g1 g2 g3 (.pointer dq) (sm:Int) out1)::(q.2++ow1)) (fun q G=>G1.Le G∧IL G q.1 (p.cols s).1∧ze7 (.pointer dq) q.2 (p.cols s).2) rfl rfl (fun _=>rfl) ?_ ?_
   ·rcases hD with ⟨e1,rfl⟩ | ⟨bd,Td,e1,rfl,hs⟩
    ·cases e1;have hcols:=hdn s;have hcs:(p.cols s).1=zpJ w:=by rw[hcols]
     have hcs2:(p.cols s).2=s:=by rw[hcols]
     have hnl0:∀k,k∈b::Ows.bs ow→∀q,q∈([]:Ows)→k≠q.1:=fun k _ q hq=>by cases hq
     refine uR ?_;refine EV.loopK (ι:=Nat × Value × Ows) [0,1,2,6] [] (fun q=>[(7,.v q.2.1),(8,.v (.int .i64 (q.1:Int)))]) (fun _=>[]) (fun q=>q.2.2++((b,T,zd6 kd cl (.slice la ln lc) (.slice va vn vc) (.slice xa p.X.length xc) deep least g1 g2 g3 (.pointer none) (sm:Int) out1)::ow1)) (fun q _=>q.1≤w∧zaE 3 1 q.2.1 q.1 ((zpJ q.1).map iv) q.2.2∧∀k,k∈b::Ows.bs ow→∀r,r∈q.2.2→k≠r.1) (fun q=>w-q.1) ((0,.slice none 0 0,[])) rfl rfl ⟨rfl,rfl,trivial⟩ trivial rfl (fun _=>rfl) (⟨qQ _,zaE.nil _ _,hnl0⟩) ?_;rintro⟨i,v7,ow7⟩ G2 hG2 ⟨hi,hown7,hnl⟩;dsimp only at hi hown7 hnl;obtain⟨a7,c7,rfl⟩:=hown7.val;refine uR ?_;(first|refine EVL.swapOw (ow7) ((b,T,zd6 kd cl (.slice la ln lc) (.slice va vn vc) (.slice xa p.X.length xc) deep least g1 g2 g3 (.pointer none) (sm:Int) out1)::ow1) (rfl) ?_|refine EV.swapOw (ow7) ((b,T,zd6 kd cl (.slice la ln lc) (.slice va vn vc) (.slice xa p.X.length xc) deep least g1 g2 g3 (.pointer none) (sm:Int) out1)::ow1) (rfl) ?_);refine RP ?_;refine EVL.loadOwn tO rfl rfl rfl rfl rfl rfl (0) rfl (rfl) rfl rfl ?_;refine vI (hvx.mono hG2) (0) (rfl) (hx0) (hu0) ?_;refine uR ?_;rw[hx0w];(first|refine EVL.swapOw ((b,T,zd6 kd cl (.slice la ln lc) (.slice va vn vc) (.slice xa p.X.length xc) deep least g1 g2 g3 (.pointer none) (sm:Int) out1)::ow1) (ow7) (rfl) ?_|refine EV.swapOw ((b,T,zd6 kd cl (.slice la ln lc) (.slice va vn vc) (.slice xa p.X.length xc) deep least g1 g2 g3 (.pointer none) (sm:Int) out1)::ow1) (ow7) (rfl) ?_);refine uR ?_;refine EV.cond rfl (fun hlt=>?_) (fun hlt=>?_)
     ·simp only[nN]at hlt;refine uR ?_;refine EVL.app1N tO rfl rfl rfl rfl rfl rfl rfl rfl rfl rfl rfl rfl rfl rfl rfl rfl rfl rfl rfl (fun _=>rfl) (ow7) ((b,T,zd6 kd cl (.slice la ln lc) (.slice va vn vc) (.slice xa p.X.length xc) deep least g1 g2 g3 (.pointer none) (sm:Int) out1)::ow1) (rfl) (hown7) (oM) fun _=>?_;intro v' ow' hown' hnw;refine uR ?_;refine⟨(i+1,v',ow'),⟨rfl,?_,trivial⟩,sB,trivial,trivial,rfl,⟨by dsimp only;omega,by dsimp only;rw[zpK,qn];exact hown',fun k hk=>hnw k hk (hnl k hk)⟩,Hp.Le.refl _,by dsimp only;omega⟩;rw[zab i (by omega)];rfl
     ·simp only[nN]at hlt;obtain rfl:i=w:=oM;have hil:zaE 3 1 (.slice a7 i c7) (zpJ i).length ((zpJ i).map iv) ow7:=by rw[zhg];exact hown7
      (first|refine EVL.publishL [] ow7 ((b,T,zd6 kd cl (.slice la ln lc) (.slice va vn vc) (.slice xa p.X.length xc) deep least g1 g2 g3 (.pointer none) (sm:Int) out1)::ow1) rfl hil (fun G3 hG3 hs7=>?_) (fun k hk=>hnl k hk)|refine EV.publishL [] ow7 ((b,T,zd6 kd cl (.slice la ln lc) (.slice va vn vc) (.slice xa p.X.length xc) deep least g1 g2 g3 (.pointer none) (sm:Int) out1)::ow1) rfl hil (fun G3 hG3 hs7=>?_) (fun k hk=>hnl k hk));refine uR ?_;refine⟨(_,[]),⟨rfl,trivial⟩,sB,trivial,trivial,rfl,hG2.trans hG3,?_,?_⟩
      ·rw[hcs];exact hs7
      ·rw[hcs2];exact .inl ⟨rfl,rfl⟩
    ·cases e1;cases hq0
   ·rintro⟨vc7,D2⟩ G2 ⟨hG2,hcol,hD2⟩;dsimp only at hcol hD2;obtain⟨ca,cc,rfl⟩:=SlC.val hcol;have hH2:=hG1.trans hG2
    have hcl:(p.cols s).1.length≤1000:=by
     rw[hdn s,zhg];exact hw2
    have hbest:=fun (G:Hp) (hG:G2.Le G)=>zno (least:=least) (hg.check G (hH2.trans hG)) hg.len (fun G' k=>hg.cost G' ((hH2.trans hG).trans k)) hg.small (hX.mono (hH2.trans hG)) hxq (hr.mono (hH2.trans hG)) hn (hcol.mono hG) hcl;have hpb:(zaA p.X p.cost rows (max 1 least) (p.cols s).1).foldl zf2 none=p.best rows (p.cols s).1:=by unfold GP.best;rw[hpl]
    have hgb:∀q,p.best rows (p.cols s).1=some q→ht q.2.1≤200∧ht q.2.2≤8000000:=fun q e=>by
     rw[←hpb]at e;have hf:=zcP (zaA p.X p.cost rows (max 1 least) (p.cols s).1);rw[e]at hf;exact zge hg.small hn hb hxq hf.1
    simp only[zdz hb,hpb]at hbest;refine uR ?_;apply EV.drawn 21 kR kR;intro xv yw;(repeat (first|refine' DD ?_|refine' vN ?_|refine' vF ?_));refine' DJ.ofVal (zaa.loadOwn tO rfl rfl rfl rfl (0) rfl (rfl) rfl rfl) rfl rfl rfl ?_;rotate_left;(repeat (first|refine' DD ?_|refine' vN ?_|refine' vF ?_));refine' DJ.ofVal (zaa.loadOwn tO rfl rfl rfl rfl (0) rfl (rfl) rfl rfl) rfl rfl rfl ?_;rotate_left;(repeat (first|refine' DD ?_|refine' vN ?_|refine' vF ?_));refine' DJ.ofVal (zaa.loadOwn tO rfl rfl rfl rfl (0) rfl (rfl) rfl rfl) rfl rfl rfl ?_;rotate_left;refine' vB (cO func50) (fun G hG hd=>hbest G hG) (fun _ _ _ h k=>(by obtain⟨cs,h1,h2⟩:=h;exact⟨cs,h1.mono k,h2⟩)) ?_;rotate_left;refine' DJ.copy (15) (by first|exact .inl rfl|exact .inr rfl) rfl rfl rfl id rfl kR ?_;rotate_left;refine' DJ.extract (15) rfl rfl rfl rfl rfl kR (fun G hd=>(by obtain⟨cs,_,e⟩:=hd.head kR;exact⟨_,e,Nat.zero_lt_succ _⟩)) ?_;rotate_left;refine' DJ.extract (15) rfl rfl rfl rfl rfl kR (fun G hd=>(by obtain⟨cs,_,e⟩:=hd.head kR;exact⟨_,e,Nat.lt_succ_self _⟩)) ?_;rotate_left;(repeat refine' DD ?_);refine' DJ.storeD tO rfl rfl rfl rfl (15) (zcW 0) rfl rfl (19) rfl rfl kR kR rfl (fun G hd=>(by obtain⟨cs,h,e⟩:=hd.head kR;rw[e];obtain⟨c,b1,a1,l1,c1,a2,l2,c2,b3,a3,l3,c3,a4,l4,c4,rfl,_⟩:=h.cells;exact⟨rfl,rfl⟩)) ?_;rotate_left;(refine DJ.nil (fun G3 hG3 hF3=>?_);(case hS|hS2=>rfl));obtain⟨⟨cs,hcs,e33⟩,_⟩:=hF3;obtain⟨c,b1,a1,l1,c1',a2,l2,c2,b3,a3,l3,c3,a4,l4,c4,rfl,hval⟩:=hcs.cells;rw[e33];rw[show zcW 1 (Value.tuple #[.agg ([.int .i64 c,.bool b1,.slice a1 l1 c1',.slice a2 l2 c2,.bool b3,.slice a3 l3 c3,.slice a4 l4 c4]:List Value).toArray,.bool (p.best rows (p.cols s).1).isSome])=.bool (p.best rows (p.cols s).1).isSome from rfl,show zac (zcW 0 (Value.tuple #[.agg ([.int .i64 c,.bool b1,.slice a1 l1 c1',.slice a2 l2 c2,.bool b3,.slice a3 l3 c3,.slice a4 l4 c4]:List Value).toArray,.bool (p.best rows (p.cols s).1).isSome]))=[.int .i64 c,.bool b1,.slice a1 l1 c1',.slice a2 l2 c2,.bool b3,.slice a3 l3 c3,.slice a4 l4 c4] from rfl];refine uR ?_
    cases hbe:p.best rows (p.cols s).1 with
    | none =>
     have hcut:p.cut rows (p.cols s).1=none:=by unfold GP.cut;rw[hbe]
     rw[GP.grow_none hcut];rw[show (none:Option (Int × Rat × Rat)).isSome=false from rfl];apply EV.drawn 13 kR kR;intro xv yw;(repeat refine' DD ?_);(refine DJ.nil (fun G hG hF=>?_);(case hS|hS2=>rfl));refine uR ?_;exact⟨rfl,out1,D2,ow1,_,rfl,hD2,by rw[qJ];exact hown1,hns1.mono (hG2.trans (hG3.trans hG))⟩
    | some q =>
     obtain⟨c',t,g⟩:=q;obtain⟨rfl,hvt,hvg⟩:=hval c' t g hbe;obtain⟨htb,hgb'⟩:=hgb _ hbe;dsimp only at htb hgb';rw[show (some (c,t,g)).isSome=true from rfl];have hgrq:rq g:=by unfold rq;omega
     apply EV.drawn 13 kR kR;intro xv yw;(repeat (first|refine' DD ?_|refine' vN ?_|refine' vF ?_));refine' DJ.ofVal (zaa.loadOwn tO rfl rfl rfl rfl (0) rfl (rfl) rfl rfl) rfl rfl rfl ?_;rotate_left;refine' vC (cO func51) (fun G hG hd=>zbB (RQ.mono hvg hG) (RQ.mono hgq (hH2.trans (hG3.trans hG))) hgrq hgr) ?_;rotate_left;(repeat refine' DD ?_);(refine DJ.nil (fun G4 hG4 hF4=>?_);(case hS|hS2=>rfl));refine uR ?_;by_cases hle:g≤p.gain
     ·have hcut:p.cut rows (p.cols s).1=none:=by unfold GP.cut;rw[hbe];exact if_pos hle
      rw[GP.grow_none hcut];rw[qD (Int.not_lt.1 fun k=>Rat.not_lt.2 hle ((zf1 g p.gain).1 k))];refine uR ?_;exact⟨rfl,out1,D2,ow1,_,rfl,hD2,by rw[qJ];exact hown1,hns1.mono (hG2.trans (hG3.trans hG4))⟩
     have hcut:p.cut rows (p.cols s).1=some (c,t):=by unfold GP.cut;rw[hbe];exact if_neg hle
     rw[GP.grow_some hcut];rw[qC (Int.not_le.2 ((zf1 g p.gain).2 (Rat.not_le.1 hle)))];have hH4:=hH2.trans (hG3.trans hG4);refine uR ?_;apply EV.drawn 14 kR kR;intro xv yw;(repeat (first|refine' DD ?_|refine' vN ?_|refine' vF ?_));refine' DJ.ofVal (zaa.loadOwn tO rfl rfl rfl rfl (0) rfl (rfl) rfl rfl) rfl rfl rfl ?_;rotate_left;(repeat (first|refine' DD ?_|refine' vN ?_|refine' vF ?_));refine' vB (cO func52) (fun G hG hd=>zg0 (col:=c) (t:=t) (hX.mono (hH4.trans hG)) (hr.mono (hH4.trans hG)) oM (fun x hx q hq=>zbZ (hxq x hx q hq) oM) (RQ.mono hvt (hG4.trans hG)) (zbZ htb oM)) (fun _ _ _ h k=>(by obtain⟨u,w,e,hu,hw⟩:=h;exact⟨u,w,e,hu.mono k,hw.mono k⟩)) ?_;rotate_left;refine' DJ.copy (9) (by first|exact .inl rfl|exact .inr rfl) rfl rfl rfl id rfl kR ?_;rotate_left;refine' DJ.extract (9) rfl rfl rfl rfl rfl kR (fun G hd=>(by obtain⟨u,w,e,_⟩:=hd.head kR;exact⟨_,e,Nat.zero_lt_succ _⟩)) ?_;rotate_left;refine' DJ.extract (9) rfl rfl rfl rfl rfl kR (fun G hd=>(by obtain⟨u,w,e,_⟩:=hd.head kR;exact⟨_,e,Nat.lt_succ_self _⟩)) ?_;rotate_left;refine' DJ.copy (9) (.inr rfl) rfl rfl rfl (zcW 0) rfl kR ?_;rotate_left;(refine DJ.nil (fun G5 hG5 hF5=>?_);(case hS|hS2=>rfl));obtain⟨⟨u5,w5,e5,hu5,hw5⟩,_⟩:=hF5;rw[e5];rw[zdz hb]at hu5 hw5;obtain⟨ua,uc,rfl⟩:=SlC.val hu5;obtain⟨wa,wc,rfl⟩:=SlC.val hw5;rw[show zcW 0 (Value.tuple #[.slice ua (zbe p.X c t rows).length uc,.slice wa (zay p.X c t rows).length wc])=.slice ua (zbe p.X c t rows).length uc from rfl,show zcW 1 (Value.tuple #[.slice ua (zbe p.X c t rows).length uc,.slice wa (zay p.X c t rows).length wc])=.slice wa (zay p.X c t rows).length wc from rfl];have hH5:=hH4.trans hG5;have hns5:=hns1.mono (hG2.trans (hG3.trans (hG4.trans hG5)));obtain⟨cA,cc1,cB,ecs,hAl,hnc,hput⟩:=hns5.mid;rw[ecs]at hown1;clear ecs;obtain⟨b9,a9,l9,c9,a10,l10,c10,b11,a11,l11,c11,a12,l12,c12,b13,a13,l13,c13,a14,l14,c14,a15,c15,rfl,k1,k2,k3,k4⟩:=hnc.cells;obtain⟨go,capo,sp,rfl,rfl,hback⟩:=hown1.mid rfl;have wk:IntKind.i64.wrap ((ns.length:Int)+1)=((ns.length+1:Nat):Int):=zab _ oM;have wd:IntKind.i64.wrap (dd+1)=dd+1:=by rw[pK];omega
     refine uR ?_;apply EV.drawn 7 kR kR;intro xv yw;(repeat (first|refine' DD ?_|refine' vN ?_|refine' vF ?_));refine' DJ.ofVal (zaa.loadOwn tO rfl rfl rfl rfl (0) rfl (rfl) rfl rfl) rfl rfl rfl ?_;rotate_left;(repeat (first|refine' DD ?_|refine' vN ?_|refine' vF ?_));(refine DJ.nil (fun G6 hG6 hF6=>?_);(case hS|hS2=>rfl));refine EVL.idxB tO rfl rfl rfl rfl rfl rfl rfl rfl rfl (ns.length) (ns.length*15) (rfl) (oM) (rfl) ?_;refine EVL.fldB tO rfl rfl rfl rfl rfl rfl rfl ?_;refine EVL.storeOwn tO rfl rfl rfl rfl rfl rfl ((b,T,_)::D2) ([]) rfl rfl rfl rfl ((zcE (f:=0) hAl rfl (by show 0+1≤15;omega))) (zdJ (f:=0) hAl rfl rfl (by show 0+1≤15;omega) rfl) ?_;refine uR ?_;apply EV.drawn 7 kR kR;intro xv yw;(repeat (first|refine' DD ?_|refine' vN ?_|refine' vF ?_));refine' DJ.ofVal (zaa.loadOwn tO rfl rfl rfl rfl (0) rfl (rfl) rfl rfl) rfl rfl rfl ?_;rotate_left;(repeat (first|refine' DD ?_|refine' vN ?_|refine' vF ?_));(refine DJ.nil (fun G7 hG7 hF7=>?_);(case hS|hS2=>rfl));refine EVL.idxB tO rfl rfl rfl rfl rfl rfl rfl rfl rfl (ns.length) (ns.length*15) (rfl) (oM) (rfl) ?_;refine EVL.fldB tO rfl rfl rfl rfl rfl rfl rfl ?_;refine EVL.storeOwn tO rfl rfl rfl rfl rfl rfl ((b,T,_)::D2) ([]) rfl rfl rfl rfl ((zcE (f:=5) hAl rfl (by show 5+3≤15;omega))) (zdJ (f:=5) hAl rfl rfl (by show 5+3≤15;omega) rfl) ?_;refine uR ?_;refine RP ?_;refine EVL.loadOwn tO rfl rfl rfl rfl rfl rfl (0) rfl (rfl) rfl rfl ?_;refine uR ?_;rw[wk];refine EVL.idxB tO rfl rfl rfl rfl rfl rfl rfl rfl rfl (ns.length) (ns.length*15) (rfl) (oM) (rfl) ?_;refine EVL.fldB tO rfl rfl rfl rfl rfl rfl rfl ?_;refine EVL.storeOwn tO rfl rfl rfl rfl rfl rfl ((b,T,_)::D2) ([]) rfl rfl rfl rfl ((zcE (f:=1) hAl rfl (by show 1+1≤15;omega))) (zdJ (f:=1) hAl rfl rfl (by show 1+1≤15;omega) rfl) ?_;refine uR ?_;rw[wd];have hH7:=hH5.trans (hG6.trans hG7);have hlo3:(zbe p.X c t rows).length≤300:=qI (List.length_filter_le _ _) hn;have hhi3:(zay p.X c t rows).length≤300:=qI (List.length_filter_le _ _) hn;have hlom:∀r,r∈zbe p.X c t rows→0≤r∧r<(p.X.length:Int):=fun r hr=>hb r (List.mem_filter.mp hr).1;have hhim:∀r,r∈zay p.X c t rows→0≤r∧r<(p.X.length:Int):=fun r hr=>hb r (List.mem_filter.mp hr).1;have hvt7:=RQ.mono hvt (hG4.trans (hG5.trans (hG6.trans hG7)));obtain⟨n1,hn1⟩:∃n1:Nd,({ p.nd rows with col:=c,left:=((ns.length+1:Nat):Int),at':=t }:Nd)=n1:=⟨_,rfl⟩
     have hr1:zdq G7 [.int .i64 c,.int .i64 ((ns.length+1:Nat):Int),.int .i64 0,.int .i64 (p.nd rows).rows,.int .i64 (p.nd rows).cls,.bool b1,.slice a1 l1 c1',.slice a2 l2 c2,.bool b11,.slice a11 l11 c11,.slice a12 l12 c12,.bool b13,.slice a13 l13 c13,.slice a14 l14 c14,.slice a15 (p.nd rows).counts.length c15] n1:=by
      subst hn1;exact⟨_,_,_,_,hvt7,k2.mono (hG6.trans hG7),k3.mono (hG6.trans hG7),k4.mono (hG6.trans hG7),rfl⟩
     have hl1:(ns++[n1]).length=ns.length+1:=by simp
     have hp2:2 ^ (e+1+1)=2 ^ (e+1)+2 ^ (e+1):=by rw[qX];omega
     have hp3:2≤2 ^ (e+1):=by rw[qX];have:=Nat.one_le_two_pow (n:=e);omega
     have hL:=ih' (H:=G7) (b:=b) (T:=T) (dd:=dd+1) (s:=(p.cols s).2) (ns:=ns++[n1]) (hg.mono hH7) (hX.mono hH7) (hgq.mono hH7) oM oM hd1 (hu5.mono (hG6.trans hG7)) hlo3 hlom hD2 (by rw[hl1];exact hback _ rfl) (hput G7 _ n1 (hG6.trans hG7) hr1) (by rw[hl1];omega);rw[hl1]at hL;have hLl:=(p.grow_len e (ns.length+1) (zbe p.X c t rows) (p.cols s).2).2;generalize hLe:p.grow e (ns.length+1) (zbe p.X c t rows) (p.cols s).2=Lp at *
     obtain⟨Ls,s2⟩:=Lp;dsimp only at hL hLl;refine EVL.callW rfl rfl rfl rfl rfl _ [] (qG _).symm hL ?_;rintro _ _ G8 ⟨rfl,out2,D3,ow3,css3,rfl,hD3,hown3,hns3⟩ hG8;rw[qG ((b,T,_)::(D3++ow3))];rw[show ns++[n1]++Ls=ns++n1::Ls by simp]at hown3 hns3;obtain⟨cA3,c31,cB3,ecs3,hAl3,hnc3,hput3⟩:=hns3.mid;rw[ecs3]at hown3;clear ecs3;obtain⟨d9,e9,f9,h9,e10,f10,h10,d11,e11,f11,h11,e12,f12,h12,d13,e13,f13,h13,e14,f14,h14,e15,h15,rfl,j1,j2,j3,j4⟩:=hnc3.cells;obtain⟨go3,capo3,sp3,rfl,rfl,hback3⟩:=hown3.mid rfl;have hl2:(ns++n1::Ls).length=ns.length+1+Ls.length:=by simp;omega
     rw[hl2]at hback3;rw[hl2];refine uR ?_;apply EV.drawn 10 kR kR;intro xv yw;(repeat (first|refine' DD ?_|refine' vN ?_|refine' vF ?_));refine' DJ.ofVal (zaa.loadOwn tO rfl rfl rfl rfl (0) rfl (rfl) rfl rfl) rfl rfl rfl ?_;rotate_left;(repeat (first|refine' DD ?_|refine' vN ?_|refine' vF ?_));refine' DJ.ofVal (zaa.loadOwn tO rfl rfl rfl rfl (0) rfl (rfl) rfl rfl) rfl rfl rfl ?_;rotate_left;(repeat (first|refine' DD ?_|refine' vN ?_|refine' vF ?_));(refine DJ.nil (fun G9 hG9 hF9=>?_);(case hS|hS2=>rfl));refine EVL.idxB tO rfl rfl rfl rfl rfl rfl rfl rfl rfl (ns.length) (ns.length*15) (rfl) (oM) (rfl) ?_;refine EVL.fldB tO rfl rfl rfl rfl rfl rfl rfl ?_;refine EVL.storeOwn tO rfl rfl rfl rfl rfl rfl ((b,T,_)::D3) ([]) rfl rfl rfl rfl ((zcE (f:=2) hAl3 rfl (by show 2+1≤15;omega))) (zdJ (f:=2) hAl3 rfl rfl (by show 2+1≤15;omega) rfl) ?_;refine uR ?_;rw[wd];obtain⟨n2,hn2⟩:∃n2:Nd,({ n1 with right:=((ns.length+1+Ls.length:Nat):Int) }:Nd)=n2:=⟨_,rfl⟩
     have hr2:zdq G9 [.int .i64 n1.col,.int .i64 n1.left,.int .i64 ((ns.length+1+Ls.length:Nat):Int),.int .i64 n1.rows,.int .i64 n1.cls,.bool d9,.slice e9 f9 h9,.slice e10 f10 h10,.bool d11,.slice e11 f11 h11,.slice e12 f12 h12,.bool d13,.slice e13 f13 h13,.slice e14 f14 h14,.slice e15 n1.counts.length h15] n2:=by
      subst hn2;exact⟨_,_,_,_,j1.mono hG9,j2.mono hG9,j3.mono hG9,j4.mono hG9,rfl⟩
     have hH9:=hH7.trans (hG8.trans hG9);have hl3:(ns++n2::Ls).length=ns.length+1+Ls.length:=by simp;omega
     have hR:=ih' (H:=G9) (b:=b) (T:=T) (dd:=dd+1) (s:=s2) (ns:=ns++n2::Ls) (hg.mono hH9) (hX.mono hH9) (hgq.mono hH9) oM oM hd1 (hw5.mono (hG6.trans (hG7.trans (hG8.trans hG9)))) hhi3 hhim hD3 (by rw[hl3];exact hback3 _ rfl) (hput3 G9 _ n2 hG9 hr2) (by rw[hl3];omega);rw[hl3]at hR;generalize hRe:p.grow e (ns.length+1+Ls.length) (zay p.X c t rows) s2=Rp at *
     obtain⟨Rs,s3⟩:=Rp;dsimp only at hR;refine EVL.callW rfl rfl rfl rfl rfl _ [] (qG _).symm hR ?_;rintro _ _ G10 ⟨rfl,out4,D4,ow4,css4,rfl,hD4,hown4,hns4⟩ hG10;rw[qG ((b,T,_)::(D4++ow4))];refine uR ?_
     have hfin:ns++n2::Ls++Rs=ns++({ p.nd rows with col:=c,left:=((ns.length+1:Nat):Int),right:=((ns.length+1+Ls.length:Nat):Int),at':=t }::(Ls++Rs)):=by
      subst hn2;subst hn1;simp
     rw[hfin]at hown4 hns4;refine⟨rfl,out4,D4,ow4,css4,rfl,?_,?_,?_⟩
     ·exact hD4
     ·exact hown4
     ·exact hns4
set_option maxRecDepth 100000 in
theorem zj2 {p:GP} {H:Hp} {kd cl least:Int} {D w:Nat} {s:Int} {la va xa:Option Addr} {ln lc vn vc xc:Nat} {vr:Value} {rows:List Int} {b1:Bool} {a1 a2:Option Addr} {l1 c1 l2 c2:Nat}
  (hdn:∀s,p.cols s=(zpJ w,s)) (hw1:1≤w) (hw2:w≤20) (hx0:0<p.X.length) (hxn:p.X.length≤300) (hxw:∀x,x∈p.X→x.length=w) (hxq:∀x,x∈p.X→∀q,q∈x→ht q≤60) (hpl:p.least=least) (hl:1≤least∧least≤300) (hgr:rq p.gain) (hg0:0≤p.gain) (hD:D≤10)
  (hg:zkz H (zas kd cl (.slice la ln lc) (.slice va vn vc)) kd p.X.length p.cost p.mean p.cnt) (hX:RLL H (.slice xa p.X.length xc) p.X) (hgq:RQ H (.agg #[.bool b1,.slice a1 l1 c1,.slice a2 l2 c2]) p.gain)
  (hr:IL H vr rows) (hr0:0<rows.length) (hn:rows.length≤300) (hb:∀r,r∈rows→0≤r∧r<(p.X.length:Int)) :
  PC prog 5 #[zas kd cl (.slice la ln lc) (.slice va vn vc),.slice xa p.X.length xc,vr,ziN (D:Int) least (.bool b1) (.slice a1 l1 c1) (.slice a2 l2 c2)] H
   fun v H'=>∃cs,v=.tuple #[.agg cs.toArray,.int .i64 0]∧zhs H' cs kd cl (w:Int) (p.grow D 0 rows s).1:=by
 obtain⟨ra,rc,rfl⟩:=SlC.val hr;have hpow:2 ^ (D+1)≤2 ^ 11:=qc oM oM;have herr:=znx (hg.check H (Hp.Le.refl _)) hg.len hX hxw hw1 hw2 oM hxn hr hr0 hn (zqV (deep:=(D:Int)) hgq hg0 oM hl);rw[zlH hb]at herr;obtain⟨vs,hvs,hvx⟩:=id hX;obtain⟨x0,hxx0⟩:=gE hx0;obtain⟨u0,e0,hu0,_⟩:=hvs.at hxx0;rw[hxw x0 (qF hxx0)]at hu0;refine BD func5 ntmps5 ?_
 repeat (first|refine RUN ?_|refine CV (herr) ?_|refine CE (herr) ?_)
 (first|refine EVL.unbox (25) rfl fun gb=>?_|refine EV.unbox (25) rfl fun gb=>?_);refine EVL.callW rfl rfl rfl rfl rfl ((gb,85,_)::([]++[])) ([]) rfl (zpd (dq:=none) (deep:=(D:Int)) (sm:=0) (w:=w) rfl hdn (qQ _) hw1 oM hx0 hxw hxq hpl hgr D (s:=s) (ns:=[]) (css:=[]) hg hX hgq oM (Int.le_refl _) oM hr hn hb (.inl ⟨rfl,rfl⟩) (zaE.nil _ _) ⟨rfl,fun j c n e1 e2=>by cases e1⟩ (by rw[qg];omega)) ?_;rintro _ _ G1 ⟨rfl,out,D',ow2,css,rfl,hD',hown,hns⟩ hG1;rw[pM]at hown hns;rw[qg]at hown hns hD';rcases hD' with ⟨_,rfl⟩|⟨bd',T',e1,_⟩
 case inr=>cases e1
 obtain⟨oa,oc,rfl⟩:=hown.val;refine EVL.publishL [(gb,_,_)] ow2 [] rfl hown (fun G2 hG2 hc=>?_);have hG12:=hG1.trans hG2;refine uR ?_;apply EV.drawn 12 kR kR;intro xv yw;(repeat refine' DD ?_);refine' vJ (hvx.mono hG12) (0) (rfl) (hx0) (hu0) ?_;rotate_left;(repeat (first|refine' DD ?_|refine' vN ?_|refine' vF ?_));refine' DJ.ofVal (zaa.loadOwn tO rfl rfl rfl rfl (0) rfl (rfl) rfl rfl) rfl rfl rfl ?_;rotate_left;(refine DJ.nil (fun G hG hF=>?_);(case hS|hS2=>rfl));(first|refine EVL.subOw [] [(gb,_,_)] [] rfl ?_|refine EV.subOw [] [(gb,_,_)] [] rfl ?_);refine uR ?_;exact⟨_,rfl,oa,oc,css,rfl,hns.mono (hG2.trans hG),SlC.mono hc hG⟩
theorem Sub.pathLen {T:List Nd} {w:Int} {x:List Rat} {k h e:Nat} (h0:Sub T w k h e):∀l,zkt T x k l→l.length≤e-k:=by
 induction h0 with
 | leaf a b _ _ _ =>
  intro l hp
  cases hp with
  | here _ _=>rw[qv];omega
  | low q n _ _=>rw[a]at q;cases q;exact absurd b n
  | high q n _ _=>rw[a]at q;cases q;exact absurd b n
 | node a b c d e s1 s2 ih1 ih2 =>
  intro l hp;have h1:=s1.lt;have h2:=s2.lt
  cases hp with
  | here q n=>rw[a]at q;cases q;omega
  | low q n _ hp=>rw[a]at q;cases q;rw[d,qU]at hp;have:=ih1 _ hp;rw[qR];omega
  | high q n _ hp=>rw[a]at q;cases q;rw[e,qU]at hp;have:=ih2 _ hp;rw[qR];omega
theorem zqW {H:Hp} {d:GD} {N W D:Nat} {least:Int} {g:Rat} {X:List (List Rat)} {rows:List Int} {u v w:Value} {b1:Bool} {a1 a2:Option Addr} {l1 c1 l2 c2:Nat} (hd:d.Ok N) (hN:1≤N∧N≤20) (hW:1≤W∧W≤20) (hD:D≤10) (hl:1≤least∧least≤300) (hg:0≤g∧ht g≤10) (hR:d.R H u) (hX:RLL H v X) (hq:RQ H (.agg #[.bool b1,.slice a1 l1 c1,.slice a2 l2 c2]) g) (hXN:X.length=N) (hXw:∀x,x∈X→x.length=W∧∀q,q∈x→ht q≤60) (hr:IL H w rows) (hr0:0<rows.length) (hrn:rows.length≤20) (hb:∀r,r∈rows→0≤r∧r<(N:Int)) :
  PC prog 5 #[u,v,w,ziN (D:Int) least (.bool b1) (.slice a1 l1 c1) (.slice a2 l2 c2)] H (fun r G=>TPr G r ⟨d.kd,d.cl,(W:Int),((trP d X least g fun s=>(zd5 W,s)).grow D 0 rows 0).1⟩ 0)∧zce ⟨d.kd,d.cl,(W:Int),((trP d X least g fun s=>(zd5 W,s)).grow D 0 rows 0).1⟩∧zp1 (trP d X least g fun s=>(zd5 W,s)) d.kd d.cl W:=by
 subst hXN;obtain⟨⟨ga,gn,gc,va,vn,vc,rfl⟩,hrg⟩:=hd.rgoal hN.1 oM hR;obtain⟨xa,xc,rfl⟩:=hX.val;have hgp:=ztR (least:=least) (cols:=fun s=>(zd5 W,s)) hd rfl hN.2 hXw hg.1 fun s c=>zp7 c;refine⟨?_,zm4 hgp hW hD hr0 oM hb 0,hgp⟩;exact zj2 (p:=trP d X least g (fun s=>(zd5 W,s))) (s:=0) (fun s=>rfl) hW.1 hW.2 (by show 0<X.length;omega) (by show X.length≤300;omega) (fun x hx=>(hXw x hx).1) (fun x hx=>(hXw x hx).2) rfl hl (by have:=hg.2;show rq g;unfold rq;omega) hg.1 hD hrg hX hq hr hr0 oM hb
def zcO (T:List Nd) (w:Int):Nat→Nat→Nat→Int→Option Nat × Int
 | 0,_,_,f=>(none,f)
 | u+1,k,d,f=>match T[k]? with
  | none=>(none,f)
  | some n=>if n.col = -1 then (if n.left=0∧n.right=0∧n.at'=0 then some (k+1) else none,if (d:Int)>f then (d:Int) else f)
   else if n.col<0∨n.col≥w∨n.left≠((k+1:Nat):Int) then (none,f)
   else match zcO T w u (k+1) (d+1) f with
    | (none,g)=>(none,g)
    | (some m,g)=>if n.right≠(m:Int) then (none,g) else zcO T w u m (d+1) g
section
variable {T:List Nd} {w:Int} {u k d:Nat} {f:Int}
theorem zgx (h:T[k]?=none):zcO T w (u+1) k d f=(none,f):=by
 rw[zcO,h]
theorem zgw {n:Nd} (h:T[k]?=some n) (hc:n.col = -1):zcO T w (u+1) k d f=(if n.left=0∧n.right=0∧n.at'=0 then some (k+1) else none,if (d:Int)>f then (d:Int) else f):=by
 rw[zcO,h];dsimp only;rw[if_pos hc]
theorem zit {n:Nd} (h:T[k]?=some n) (hc:n.col ≠ -1) (hb:n.col<0∨n.col≥w∨n.left≠((k+1:Nat):Int)):zcO T w (u+1) k d f=(none,f):=by
 rw[zcO,h];dsimp only;rw[if_neg hc,if_pos hb]
theorem zgy {n:Nd} {g:Int} (h:T[k]?=some n) (hc:n.col ≠ -1) (hb:¬(n.col<0∨n.col≥w∨n.left≠((k+1:Nat):Int))) (h1:zcO T w u (k+1) (d+1) f=(none,g)):zcO T w (u+1) k d f=(none,g):=by
 rw[zcO,h];dsimp only;rw[if_neg hc,if_neg hb,h1]
theorem zgz {n:Nd} {g:Int} {m:Nat} (h:T[k]?=some n) (hc:n.col ≠ -1) (hb:¬(n.col<0∨n.col≥w∨n.left≠((k+1:Nat):Int))) (h1:zcO T w u (k+1) (d+1) f=(some m,g)):zcO T w (u+1) k d f=if n.right≠(m:Int) then (none,g) else zcO T w u m (d+1) g:=by
 rw[zcO,h];dsimp only;rw[if_neg hc,if_neg hb,h1]
end
theorem zc8 {T:List Nd} {w:Int}:∀(u:Nat) {k d m:Nat} {f g:Int},zcO T w u k d f=(some m,g)→∃h:Nat,Sub T w k h m∧f≤g∧((d+h:Nat):Int)≤g
 | 0,_,_,_,_,_,h=>by rw[zcO]at h;cases h
 | u+1,k,d,m,f,g,h=>by
  cases hn:T[k]? with
  | none=>rw[zgx hn]at h;cases h
  | some n =>
   by_cases hc:n.col = -1
   ·rw[zgw hn hc]at h;obtain⟨e1,e2⟩:=Prod.mk.inj h;split at e1
    ·rename_i hl;cases e1;refine⟨0,.leaf hn hc hl.1 hl.2.1 hl.2.2,?_⟩;split at e2 <;> omega
    ·cases e1
   ·by_cases hb:n.col<0∨n.col≥w∨n.left≠((k+1:Nat):Int)
    ·rw[zit hn hc hb]at h;cases h
    ·obtain⟨r,g1,h1⟩:∃r g1,zcO T w u (k+1) (d+1) f=(r,g1):=⟨_,_,rfl⟩
     cases r with
     | none=>rw[zgy hn hc hb h1]at h;cases h
     | some m1 =>
      rw[zgz hn hc hb h1]at h;by_cases hr:n.right≠(m1:Int)
      ·rw[if_pos hr]at h;cases h
      ·rw[if_neg hr]at h;obtain⟨a,s1,l1,l2⟩:=zc8 u h1;obtain⟨b,s2,l3,l4⟩:=zc8 u h;refine⟨max a b+1,.node hn oM oM oM oM (s1.up (Nat.le_max_left ..)) (s2.up (Nat.le_max_right ..)),by omega,by omega⟩
def zt4:Option Nat→Int
 | none => -1
 | some m=>(m:Int)
theorem zfL (q:Rat):q.num.sign=0↔q=0:=by
 rw[Int.sign_eq_zero_iff_zero,Rat.num_eq_zero]
set_option maxRecDepth 100000 in
theorem ziM {kd cl w:Int} {a:Option Addr} {cp:Nat} {ns:List Nd} (hln:ns.length≤1000000):∀(u:Nat) {H:Hp} {css:List (List Value)} {b k:Nat} {T:TypeId} {deep:Nat} {far:Int},zaR H css ns→SlC H (.slice a ns.length cp) ns.length 15 css.flatten→deep≤k→k≤ns.length→ns.length<u+k →
  PW prog 32 #[zri kd cl w (.slice a ns.length cp),.int .i64 (k:Int),.int .i64 (deep:Int),.pointer (some ⟨b,0,none⟩)] H [(b,T,[.int .i64 far])] fun v ow _=>v=.int .i64 (zt4 (zcO ns w u k deep far).1)∧ow=[(b,T,[.int .i64 (zcO ns w u k deep far).2])]
 | 0,_,_,_,_,_,_,_,_,_,_,hk,hu=>by omega
 | u+1,H,css,b,k,T,deep,far,hns,hsl,hdk,hk,hu=>by
  by_cases hlt:k<ns.length
  case neg =>
   rw[zgx (qe oM)];refine PW.body tO func32 rfl kR ntmps32 rfl rfl ?_;refine uR ?_;rw[qC (show ¬(k:Int)<0 by omega)];refine uR ?_;rw[qD (show (k:Int)≥(ns.length:Int) by omega)];refine uR ?_;exact⟨rfl,rfl⟩
  obtain⟨n,hn⟩:=gE hlt;obtain⟨c,hcut,hnd⟩:=hns.get hn;obtain⟨b1,a1,l1,c1,a2,l2,c2,b3,a3,l3,c3,a4,l4,c4,b5,a5,l5,c5,a6,l6,c6,a7,c7,rfl,k1,_⟩:=hnd.cells;by_cases hc:n.col = -1
  ·have hsg:=zdZ k1;rw[zgw hn hc];refine PW.body tO func32 rfl kR ntmps32 rfl rfl ?_;refine uR ?_;rw[qC (show ¬(k:Int)<0 by omega)];refine uR ?_;rw[qC (show ¬(k:Int)≥(ns.length:Int) by omega)];refine uR ?_;rw[qC (show ¬(deep:Int)>(ns.length:Int) by omega)];refine uR ?_;refine EVL.idxM tO rfl rfl rfl rfl rfl rfl rfl rfl rfl (hsl) (k) (rfl) (hlt) (hcut) ?_;refine uR ?_;rw[hc];refine uR ?_;refine EVL.nilB rfl rfl rfl rfl rfl ?_;refine EVL.loadOwn tO rfl rfl rfl rfl rfl rfl (0) rfl (rfl) rfl rfl ?_;refine uR ?_;refine EVL.nilB rfl rfl rfl rfl rfl ?_;refine EVL.storeOwn tO rfl rfl rfl rfl rfl rfl ([]) ([]) rfl rfl rfl rfl ((by exact qH 1)) (rfl) ?_;refine uR ?_;by_cases e1:n.left=0
   ·rw[show (n.left != 0)=false from bne_eq_false_iff_eq.2 e1];refine uR ?_;by_cases e2:n.right=0
    ·rw[show (n.right != 0)=false from bne_eq_false_iff_eq.2 e2]
     repeat (first|refine RUN ?_|refine CV (hsg) ?_|refine CE (hsg) ?_)
     by_cases e3:n.at'=0
     ·rw[show (n.at'.num.sign != 0)=false from bne_eq_false_iff_eq.2 ((zfL _).2 e3)];refine uR ?_;rw[if_pos ⟨e1,e2,e3⟩,zab k (by omega)];exact⟨rfl,rfl⟩
     ·rw[show (n.at'.num.sign != 0)=true from bne_iff_ne.2 (fun h=>e3 ((zfL _).1 h))];refine uR ?_;rw[if_neg (fun h=>e3 h.2.2)];exact⟨rfl,rfl⟩
    ·rw[show (n.right != 0)=true from bne_iff_ne.2 e2];refine uR ?_;rw[if_neg (fun h=>e2 h.2.1)];exact⟨rfl,rfl⟩
   ·rw[show (n.left != 0)=true from bne_iff_ne.2 e1];refine uR ?_;rw[if_neg (fun h=>e1 h.1)];exact⟨rfl,rfl⟩
  ·by_cases hb:n.col<0∨n.col≥w∨n.left≠((k+1:Nat):Int)
   ·rw[zit hn hc hb];refine PW.body tO func32 rfl kR ntmps32 rfl rfl ?_;refine uR ?_;rw[qC (show ¬(k:Int)<0 by omega)];refine uR ?_;rw[qC (show ¬(k:Int)≥(ns.length:Int) by omega)];refine uR ?_;rw[qC (show ¬(deep:Int)>(ns.length:Int) by omega)];refine uR ?_;refine EVL.idxM tO rfl rfl rfl rfl rfl rfl rfl rfl rfl (hsl) (k) (rfl) (hlt) (hcut) ?_;refine uR ?_;rw[show (n.col == -1)=false from pP.2 hc];refine uR ?_;by_cases e1:n.col<0
    ·rw[qD e1];refine uR ?_;exact⟨rfl,rfl⟩
    rw[qC e1];refine uR ?_;by_cases e2:n.col≥w
    ·rw[qD e2];refine uR ?_;exact⟨rfl,rfl⟩
    rw[qC e2];refine uR ?_;rw[zab k oM,show (n.left != ((k+1:Nat):Int))=true from bne_iff_ne.2 (by omega)];refine uR ?_;exact⟨rfl,rfl⟩
   ·obtain⟨r,g1,h1⟩:∃r g1,zcO ns w u (k+1) (deep+1) far=(r,g1):=⟨_,_,rfl⟩;have ih:=ziM (cl:=cl) (kd:=kd) (w:=w) (a:=a) (cp:=cp) hln u (b:=b) (T:=T) (k:=k+1) (deep:=deep+1) (far:=far) hns hsl oM oM oM;rw[h1]at ih;refine PW.body tO func32 rfl kR ntmps32 rfl rfl ?_;refine uR ?_;rw[qC (show ¬(k:Int)<0 by omega)];refine uR ?_;rw[qC (show ¬(k:Int)≥(ns.length:Int) by omega)];refine uR ?_;rw[qC (show ¬(deep:Int)>(ns.length:Int) by omega)];refine uR ?_;refine EVL.idxM tO rfl rfl rfl rfl rfl rfl rfl rfl rfl (hsl) (k) (rfl) (hlt) (hcut) ?_;refine uR ?_;rw[show (n.col == -1)=false from pP.2 hc];refine uR ?_;rw[qC (show ¬n.col<0 by omega)];refine uR ?_;rw[qC (show ¬n.col≥w by omega)];refine uR ?_;rw[show n.left=((k+1:Nat):Int) by omega,zab k oM,show (((k+1:Nat):Int) != ((k+1:Nat):Int))=false from pO _];refine uR ?_;rw[zab k oM,zab deep (by omega)];refine vW ([(b,T,[.int .i64 far])]) ([]) (ih) ?_;rintro _ _ G1 ⟨rfl,rfl⟩ hG1
    cases r with
    | none =>
     rw[zgy hn hc hb h1];refine uR ?_;exact⟨rfl,rfl⟩
    | some m =>
     rw[zgz hn hc hb h1];have hm:=(zc8 u h1).choose_spec.1.lt;have ih2:=ziM (cl:=cl) (kd:=kd) (w:=w) (a:=a) (cp:=cp) hln u (b:=b) (T:=T) (k:=m) (deep:=deep+1) (far:=g1) (hns.mono hG1) (hsl.mono hG1) oM oM oM;rw[show zt4 (some m)=(m:Int) from rfl];refine uR ?_;rw[qC (show ¬(m:Int)<0 by omega)];refine uR ?_;by_cases hr:n.right≠(m:Int)
     ·rw[if_pos hr,show (n.right != (m:Int))=true from bne_iff_ne.2 hr];refine uR ?_;exact⟨rfl,rfl⟩
     ·rw[if_neg hr,show (n.right != (m:Int))=false from bne_eq_false_iff_eq.2 (Decidable.not_not.1 hr)];refine uR ?_;rw[zab deep (by omega)];refine vW ([(b,T,[.int .i64 g1])]) ([]) (ih2) ?_;rintro _ _ G2 ⟨rfl,rfl⟩ hG2;refine uR ?_;exact⟨rfl,rfl⟩
set_option maxRecDepth 100000 in
theorem ziH {kd cl w:Int} {a:Option Addr} {cp:Nat} {ns:List Nd} (hln:ns.length≤1000000) (hsm:∀n,n∈ns→sm n.at'):∀(u:Nat) {H:Hp} {css:List (List Value)} {b k:Nat} {T:TypeId} {deep:Nat} {far:Int},zdn H css ns→SlC H (.slice a ns.length cp) ns.length 21 css.flatten→deep≤k→k≤ns.length→ns.length<u+k →
  PW prog 35 #[.pointer (some ⟨b,0,none⟩),.int .i64 (k:Int),.int .i64 (deep:Int)] H [(b,T,ze5 kd cl w (.slice a ns.length cp) far)] fun v ow _=>(∃x,v=.tuple #[.int .i64 x,.bool (zcO ns w u k deep far).1.isSome]∧∀m,(zcO ns w u k deep far).1=some m→x=(m:Int))∧ow=[(b,T,ze5 kd cl w (.slice a ns.length cp) (zcO ns w u k deep far).2)]
 | 0,_,_,_,_,_,_,_,_,_,_,hk,hu=>by omega
 | u+1,H,css,b,k,T,deep,far,hns,hsl,hdk,hk,hu=>by
  by_cases hlt:k<ns.length
  case neg =>
   rw[zgx (qe oM)];refine PW.body tO func35 rfl kR ntmps35 rfl rfl ?_;refine uR ?_;refine RP ?_;refine EVL.loadOwn tO rfl rfl rfl rfl rfl rfl (0) rfl (rfl) rfl rfl ?_;refine uR ?_;rw[qD (show (k:Int)≥(ns.length:Int) by omega)];refine uR ?_;exact⟨⟨_,rfl,fun m h=>by cases h⟩,rfl⟩
  obtain⟨n,hn⟩:=gE hlt;obtain⟨c,hcut,hnd⟩:=hns.get hn;obtain⟨a7,c7,rfl,_⟩:=hnd.cells;by_cases hc:n.col = -1
  ·have hsg:PV prog 20 #[zae n.at'] (.int .i64 n.at'.num.sign):=zcd n.at' (by have:=(hsm n (qF hn)).num;show bl n.at'.num.natAbs≤_;omega);rw[zgw hn hc];refine PW.body tO func35 rfl kR ntmps35 rfl rfl ?_;refine uR ?_;refine RP ?_;refine EVL.loadOwn tO rfl rfl rfl rfl rfl rfl (0) rfl (rfl) rfl rfl ?_;refine uR ?_;rw[qC (show ¬(k:Int)≥(ns.length:Int) by omega)];refine uR ?_;refine RP ?_;refine EVL.loadOwn tO rfl rfl rfl rfl rfl rfl (0) rfl (rfl) rfl rfl ?_;refine uR ?_;refine EVL.idxM tO rfl rfl rfl rfl rfl rfl rfl rfl rfl (hsl) (k) (rfl) (hlt) (hcut) ?_;refine uR ?_;rw[hc];refine uR ?_;refine RP ?_;refine EVL.loadOwn tO rfl rfl rfl rfl rfl rfl (0) rfl (rfl) rfl rfl ?_;refine uR ?_;refine RP ?_;refine EVL.storeOwn tO rfl rfl rfl rfl rfl rfl ([]) ([]) rfl rfl rfl rfl ((by exact qH 5)) (rfl) ?_;refine uR ?_;by_cases e1:n.left=0
   ·rw[show (n.left == 0)=true from beq_iff_eq.2 e1];refine uR ?_;by_cases e2:n.right=0
    ·rw[show (n.right == 0)=true from beq_iff_eq.2 e2]
     repeat (first|refine RUN ?_|refine CV (hsg) ?_|refine CE (hsg) ?_)
     by_cases e3:n.at'=0
     ·rw[show (n.at'.num.sign == 0)=true from beq_iff_eq.2 ((zfL _).2 e3),if_pos ⟨e1,e2,e3⟩,zab k (by omega)];exact⟨⟨_,rfl,fun m h=>by cases h;rfl⟩,rfl⟩
     ·rw[show (n.at'.num.sign == 0)=false from pP.2 (fun h=>e3 ((zfL _).1 h)),if_neg (fun h=>e3 h.2.2)];exact⟨⟨_,rfl,fun m h=>by cases h⟩,rfl⟩
    ·rw[show (n.right == 0)=false from pP.2 e2];refine uR ?_;rw[if_neg (fun h=>e2 h.2.1)];exact⟨⟨_,rfl,fun m h=>by cases h⟩,rfl⟩
   ·rw[show (n.left == 0)=false from pP.2 e1];refine uR ?_;rw[if_neg (fun h=>e1 h.1)];exact⟨⟨_,rfl,fun m h=>by cases h⟩,rfl⟩
  ·have hh1:(decide (n.col<0)=true∨decide (n.col<0)=false):=by cases decide (n.col<0) <;> simp
   by_cases hb:n.col<0∨n.col≥w∨n.left≠((k+1:Nat):Int)
   ·rw[zit hn hc hb];refine PW.body tO func35 rfl kR ntmps35 rfl rfl ?_;refine uR ?_;refine RP ?_;refine EVL.loadOwn tO rfl rfl rfl rfl rfl rfl (0) rfl (rfl) rfl rfl ?_;refine uR ?_;rw[qC (show ¬(k:Int)≥(ns.length:Int) by omega)];refine uR ?_;refine RP ?_;refine EVL.loadOwn tO rfl rfl rfl rfl rfl rfl (0) rfl (rfl) rfl rfl ?_;refine uR ?_;refine EVL.idxM tO rfl rfl rfl rfl rfl rfl rfl rfl rfl (hsl) (k) (rfl) (hlt) (hcut) ?_;refine uR ?_;rw[show (n.col == -1)=false from pP.2 hc];refine uR ?_;by_cases e1:n.col<0
    ·apply EV.drawn 20 kR kR;intro xv yw;(repeat refine' DD ?_);rw[qD e1];(repeat refine' DD ?_);(refine DJ.nil (fun G1 hG1 hF1=>?_);(case hS|hS2=>rfl));refine uR ?_;exact⟨⟨_,rfl,fun m h=>by cases h⟩,rfl⟩
    by_cases e2:n.col≥w
    ·apply EV.drawn 20 kR kR;intro xv yw;(repeat refine' DD ?_);rw[qC e1];(repeat refine' DD ?_);(repeat (first|refine' DD ?_|refine' vN ?_|refine' vF ?_));refine' DJ.ofVal (zaa.loadOwn tO rfl rfl rfl rfl (0) rfl (rfl) rfl rfl) rfl rfl rfl ?_;rotate_left;(repeat refine' DD ?_);rw[qD e2];(repeat refine' DD ?_);(refine DJ.nil (fun G1 hG1 hF1=>?_);(case hS|hS2=>rfl));refine uR ?_;exact⟨⟨_,rfl,fun m h=>by cases h⟩,rfl⟩
    have e3:n.left≠((k+1:Nat):Int):=oM;apply EV.drawn 20 kR kR;intro xv yw;(repeat refine' DD ?_);rw[qC e1];(repeat refine' DD ?_);(repeat (first|refine' DD ?_|refine' vN ?_|refine' vF ?_));refine' DJ.ofVal (zaa.loadOwn tO rfl rfl rfl rfl (0) rfl (rfl) rfl rfl) rfl rfl rfl ?_;rotate_left;(repeat refine' DD ?_);rw[qC e2];(repeat refine' DD ?_);rw[zab k oM,show (n.left != ((k+1:Nat):Int))=true from bne_iff_ne.2 e3];(repeat refine' DD ?_);(refine DJ.nil (fun G1 hG1 hF1=>?_);(case hS|hS2=>rfl));refine uR ?_;exact⟨⟨_,rfl,fun m h=>by cases h⟩,rfl⟩
   ·obtain⟨r,g1,h1⟩:∃r g1,zcO ns w u (k+1) (deep+1) far=(r,g1):=⟨_,_,rfl⟩;have ih:=fun (G:Hp) (hG:H.Le G)=>ziH (cl:=cl) (kd:=kd) (w:=w) (a:=a) (cp:=cp) hln hsm u (b:=b) (T:=T) (k:=k+1) (deep:=deep+1) (far:=far) (hns.mono hG) (hsl.mono hG) oM oM oM;rw[h1]at ih;refine PW.body tO func35 rfl kR ntmps35 rfl rfl ?_;refine uR ?_;refine RP ?_;refine EVL.loadOwn tO rfl rfl rfl rfl rfl rfl (0) rfl (rfl) rfl rfl ?_;refine uR ?_;rw[qC (show ¬(k:Int)≥(ns.length:Int) by omega)];refine uR ?_;refine RP ?_;refine EVL.loadOwn tO rfl rfl rfl rfl rfl rfl (0) rfl (rfl) rfl rfl ?_;refine uR ?_;refine EVL.idxM tO rfl rfl rfl rfl rfl rfl rfl rfl rfl (hsl) (k) (rfl) (hlt) (hcut) ?_;refine uR ?_;rw[show (n.col == -1)=false from pP.2 hc];refine uR ?_;apply EV.drawn 20 kR kR;intro xv yw;(repeat refine' DD ?_);rw[qC (show ¬n.col<0 by omega)];(repeat refine' DD ?_);(repeat (first|refine' DD ?_|refine' vN ?_|refine' vF ?_));refine' DJ.ofVal (zaa.loadOwn tO rfl rfl rfl rfl (0) rfl (rfl) rfl rfl) rfl rfl rfl ?_;rotate_left;(repeat refine' DD ?_);rw[qC (show ¬n.col≥w by omega)];(repeat refine' DD ?_);rw[show n.left=((k+1:Nat):Int) by omega,zab k oM,show (((k+1:Nat):Int) != ((k+1:Nat):Int))=false from pO _];(repeat refine' DD ?_);(refine DJ.nil (fun G1 hG1 hF1=>?_);(case hS|hS2=>rfl));refine uR ?_;rw[zab k oM,zab deep (by omega)];refine vW ([(b,T,ze5 kd cl w (.slice a ns.length cp) far)]) ([]) (ih _ hG1) ?_;rintro _ _ G2 ⟨⟨x,rfl,hx⟩,rfl⟩ hG2
    cases r with
    | none =>
     rw[zgy hn hc hb h1];refine uR ?_;exact⟨⟨_,rfl,fun m h=>by cases h⟩,rfl⟩
    | some m =>
     obtain rfl:=hx m rfl;rw[zgz hn hc hb h1];have hm:=(zc8 u h1).choose_spec.1.lt;have ih2:=ziH (cl:=cl) (kd:=kd) (w:=w) (a:=a) (cp:=cp) hln hsm u (b:=b) (T:=T) (k:=m) (deep:=deep+1) (far:=g1) (hns.mono (hG1.trans hG2)) (hsl.mono (hG1.trans hG2)) oM oM oM;refine uR ?_;by_cases hr:n.right≠(m:Int)
     ·rw[if_pos hr,show (n.right != (m:Int))=true from bne_iff_ne.2 hr];refine uR ?_;exact⟨⟨_,rfl,fun m h=>by cases h⟩,rfl⟩
     ·rw[if_neg hr,show (n.right != (m:Int))=false from bne_eq_false_iff_eq.2 (Decidable.not_not.1 hr)];refine uR ?_;rw[zab deep (by omega)];refine vW ([(b,T,ze5 kd cl w (.slice a ns.length cp) g1)]) ([]) (ih2) ?_;rintro _ _ G3 ⟨⟨y,rfl,hy⟩,rfl⟩ hG3;refine uR ?_;exact⟨⟨_,rfl,hy⟩,rfl⟩
end
section
structure zcL (kd cl:Int) (n:Nd):Prop where
 rows:1≤n.rows∧n.rows≤1048576
 cost:0≤n.cost
 len:(n.counts.length:Int)=cl
 two:kd=2→n.cls=0
 one:kd=1→(∀c,c∈n.counts→0≤c∧c≤n.rows)∧n.counts.sum=n.rows∧n.cls=(topN n.counts n.counts.length:Int)∧n.value=0
structure znS (n a b:Nd):Prop where
 counts:∀k:Nat,k<n.counts.length→n.counts.getD k 0=a.counts.getD k 0+b.counts.getD k 0
 rows:n.rows=a.rows+b.rows
 cost:a.cost+b.cost≤n.cost
structure ztg (cl:Int) (n a b:Nd):Prop where
 rows:1≤a.rows∧1≤b.rows∧a.rows<n.rows∧b.rows=n.rows-a.rows
 cost:a.cost+b.cost≤n.cost
 counts:∀q:Nat,q<n.counts.length→(a.counts.length:Int)=cl∧(b.counts.length:Int)=cl∧0≤a.counts.getD q 0∧a.counts.getD q 0≤n.counts.getD q 0∧b.counts.getD q 0=n.counts.getD q 0-a.counts.getD q 0
structure zgb (kd cl:Int) (T:List Nd) (n:Nd):Prop where
 rows:1≤n.rows∧n.rows≤1048576
 cost:0≤n.cost
 len:(n.counts.length:Int)=cl
 two:kd=2→n.cls=0
 one:kd=1→n.value=0∧n.cls=(topN n.counts n.counts.length:Int)
 part:∀q:Nat,q<n.counts.length→0≤n.counts.getD q 0∧n.counts.getD q 0≤n.rows-(n.counts.take q).sum
 all:kd=1→n.rows-n.counts.sum=0
 two':n.col<0∨∃a b,T[n.left.toNat]?=some a∧T[n.right.toNat]?=some b∧ztg cl n a b
theorem zlN {l:List Int} {k:Nat} (h:k<l.length):l.getD k 0∈l:=by
 rw[qB,qA h];exact List.getElem_mem h
theorem zeS {l:List Int} {c:Int} (h:c∈l):∃k,k<l.length∧l.getD k 0=c:=by
 obtain⟨k,hk⟩:=List.mem_iff_getElem?.1 h;exact⟨k,(qE.1 hk).1,by rw[qB,hk];rfl⟩
theorem zhM {kd cl:Int} {T:List Nd} {n:Nd} (h:zgb kd cl T n):zcL kd cl n:=by
 refine⟨h.rows,h.cost,h.len,h.two,fun h1=>?_⟩
 have h0:∀c,c∈n.counts→0≤c:=fun c hc=>by
  obtain⟨k,hk,rfl⟩:=zeS hc;exact(h.part k hk).1
 refine⟨fun c hc=>⟨h0 c hc,?_⟩,by have:=h.all h1;omega,(h.one h1).2,(h.one h1).1⟩;obtain⟨k,hk,rfl⟩:=zeS hc;have:=(h.part k hk).2;have:=(zbE h0 k).1;omega
theorem ze8 {kd cl:Int} {n:Nd} (hk:kd=1∨(kd=2∧cl=0)) (h:zcL kd cl n):∀q:Nat,q<n.counts.length→0≤n.counts.getD q 0∧n.counts.getD q 0≤n.rows-(n.counts.take q).sum:=by
 intro q hq;rcases hk with h1 | ⟨_,h2⟩
 ·obtain⟨hp,hs,_,_⟩:=h.one h1;have h0:=hp _ (zlN hq);have h3:=(zbE (fun c hc=>(hp c hc).1) (q+1)).2;have hz:n.counts[q]?=some (n.counts.getD q 0):=by rw[qB,qA hq];rfl
  rw[zan hz,List.sum_append,List.sum_singleton]at h3;omega
 ·have:=h.len;omega
theorem zqs {kd cl w:Int} {T:List Nd} {h e:Nat} (hk:kd=1∨(kd=2∧cl=0)) (hs:Sub T w 0 h e) (he:e=T.length) :
  (∀n,n∈T→zgb kd cl T n)↔(∀n,n∈T→zcL kd cl n)∧∀n,n∈T→n.col ≠ -1→∃a b,T[n.left.toNat]?=some a∧T[n.right.toNat]?=some b∧znS n a b:=by
 subst he
 have hch:∀n,n∈T→n.col = -1∨(0≤n.col∧∃a b,T[n.left.toNat]?=some a∧T[n.right.toNat]?=some b):=fun n hn=>by
  obtain⟨i,hi⟩:=List.mem_iff_getElem?.1 hn;obtain⟨h',e',hsi⟩:=hs.at i (qQ _) (qE.1 hi).1
  cases hsi with
  | leaf q1 q2 _ _ _=>rw[hi]at q1;cases q1;exact .inl q2
  | @node _ _ m _ _ q1 q2 q3 q4 q5 s1 s2 =>
   rw[hi]at q1;cases q1;have h1:=s1.lt;have h2:=s2.lt;exact .inr ⟨q2,_,_,by rw[q4,qU];exact qA oM,by rw[q5,qU];exact qA oM⟩
 constructor
 ·intro hf;refine⟨fun n hn=>zhM (hf n hn),fun n hn hc=>?_⟩;obtain⟨a,b,ha,hb,hC⟩:=(hf n hn).two'.resolve_left (by rcases hch n hn with h | ⟨h,_⟩ <;> omega);obtain⟨r1,r2,r3,r4⟩:=hC.rows;refine⟨a,b,ha,hb,fun k hk=>?_,by omega,hC.cost⟩;obtain⟨_,_,_,_,h5⟩:=hC.counts k hk;omega
 ·rintro⟨ha,hd⟩ n hn;have hA:=ha n hn;refine⟨hA.rows,hA.cost,hA.len,hA.two,fun h1=>⟨(hA.one h1).2.2.2,(hA.one h1).2.2.1⟩,ze8 hk hA,fun h1=>by have:=(hA.one h1).2.1;omega,?_⟩;rcases hch n hn with h1 | ⟨h1,_⟩
  ·exact .inl oM
  ·obtain⟨a,b,e1,e2,hD⟩:=hd n hn oM;have hAa:=ha a (qF e1);have hAb:=ha b (qF e2);have ra:=hAa.rows;have rb:=hAb.rows;have rr:=hD.rows;refine .inr ⟨a,b,e1,e2,⟨by omega,by omega,by omega,by omega⟩,hD.cost,fun q hq=>?_⟩;have l1:=hAa.len;have l2:=hAb.len;have l3:=hA.len;have p1:=(ze8 hk hAa q oM).1;have p2:=(ze8 hk hAb q oM).1;have p3:=hD.counts q hq;exact⟨l1,l2,p1,by omega,by omega⟩
theorem zol {kd cl w:Int} {T:List Nd} {h:Nat} (hk:(kd=1∧1≤cl∧cl≤12)∨(kd=2∧cl=0)) (hw:1≤w∧w≤20) (hl:T.length≤2000) (hs:Sub T w 0 h T.length) (hh:h≤10) (hsm:∀n,n∈T→ht n.at'≤200∧ht n.cost≤2000000∧ht n.value≤4000) (hf:∀n,n∈T→zgb kd cl T n):zce ⟨kd,cl,w,T⟩:=by
 have hk':kd=1∨(kd=2∧cl=0):=hk.imp And.left id;refine⟨hk,hw,hl,⟨h,hh,hs⟩,fun i hi=>?_⟩;dsimp only at hi ⊢;obtain⟨n,hn⟩:=gE hi;have hm:=qF hn;have hF:=hf n hm;have hA:=zhM hF;refine⟨n,hn,⟨hF.rows,hF.cost,hF.len,fun c hc=>?_,fun h1=>(hA.one h1).2.1,?_,fun h1=>(hF.one h1).1,hsm n hm⟩,fun hc=>?_⟩
 ·obtain⟨k,hk,rfl⟩:=zeS hc;exact(hF.part k hk).1
 ·rcases hk with ⟨h1,_⟩ | ⟨h1,h2⟩
  ·exact(hF.one h1).2
  ·have h0:n.counts=[]:=qz.1 (by have:=hF.len;omega);rw[hF.two h1,h0];rfl
 ·obtain⟨h',e',hsi⟩:=hs.at i (qQ _) hi
  cases hsi with
  | leaf q1 q2 _ _ _=>rw[hn]at q1;cases q1;exact absurd q2 hc
  | @node _ _ m _ _ q1 q2 q3 q4 q5 s1 s2 =>
   rw[hn]at q1;cases q1;obtain⟨a,b,ea,eb,hC⟩:=hF.two'.resolve_left oM;obtain⟨r1,r2,r3,r4⟩:=hC.rows;refine⟨q2,by omega,by omega,a,b,ea,eb,by omega,fun k=>?_,hC.cost⟩;have la:=(hf a (qF ea)).len;have lb:=(hf b (qF eb)).len;have ln:=hF.len;by_cases hk2:k<n.counts.length
   ·have:=(hC.counts k hk2).2.2.2.2;omega
   ·have z:∀l:List Int,l.length≤k→l.getD k 0=0:=fun l h=>by rw[qB,qe h];rfl
    rw[z _ oM,z _ oM,z _ (by omega)];rfl
end
section
open Go.RowKit _root_.Go.Proofs.Tryz
theorem zaU {P:Prop} (h:¬P):(false=true↔P):=⟨fun k=>(by cases k),fun k=>absurd k h⟩
theorem zpu {q:Rat} (h:q.num.sign<0):¬0≤q:=fun k=>zpw k h
theorem ziU {q:Rat} (h:¬q.num.sign<0):0≤q:=by
 rw[←Rat.num_nonneg];exact Int.sign_nonneg_iff.1 oM
abbrev SmT (ns:List Nd):Prop:=∀n,n∈ns→ht n.at'≤200∧ht n.cost≤2000000∧ht n.value≤4000
set_option maxRecDepth 100000 in
theorem zpc {H:Hp} {kd cl w:Int} {a:Option Addr} {cp:Nat} {ns:List Nd} {css:List (List Value)} (hkd:(kd=1∧1≤cl∧cl≤12)∨(kd=2∧cl=0)) (hns:zaR H css ns) (hsl:SlC H (.slice a ns.length cp) ns.length 15 css.flatten) (hsm:SmT ns) {i:Nat} {n:Nd} (hn:ns[i]?=some n)
  (hch:n.col = -1∨(0≤n.col∧0≤n.left∧0≤n.right∧∃na nb,ns[n.left.toNat]?=some na∧ns[n.right.toNat]?=some nb)) :
  PC prog 33 #[zri kd cl w (.slice a ns.length cp),.int .i64 (i:Int)] H fun r _=>∃b,r=.bool b∧(b=true↔zgb kd cl ns n):=by
 have hi:=(qE.1 hn).1;have hkd':kd=1∨(kd=2∧cl=0):=hkd.imp And.left id;obtain⟨c,hcut,hnd⟩:=hns.get hn;obtain⟨b1,a1,l1,c1,a2,l2,c2,b3,a3,l3,c3,a4,l4,c4,b5,a5,l5,c5,a6,l6,c6,a7,c7,rfl,k1,k2,k3,k4⟩:=hnd.cells;have hsc:=zdZ k2;refine BD func33 ntmps33 ?_;refine uR ?_;refine EVL.idxM tO rfl rfl rfl rfl rfl rfl rfl rfl rfl (hsl) (i) (rfl) (hi) (hcut) ?_;refine uR ?_;by_cases e1:n.rows<1
 ·rw[qD e1];refine uR ?_;exact⟨false,rfl,zaU fun h=>by have:=h.rows;omega⟩
 rw[qC e1];refine uR ?_;by_cases e2:n.rows>1048576
 ·rw[qD e2];refine uR ?_;exact⟨false,rfl,zaU fun h=>by have:=h.rows;omega⟩
 rw[qC e2]
 repeat (first|refine RUN ?_|refine CV (hsc) ?_|refine CE (hsc) ?_)
 by_cases e3:n.cost.num.sign<0
 ·rw[qD e3];refine uR ?_;exact⟨false,rfl,zaU fun h=>zpu e3 h.cost⟩
 rw[qC e3];refine uR ?_;by_cases e4:(n.counts.length:Int)=cl
 case neg =>
  rw[show ((n.counts.length:Int) != cl)=true from bne_iff_ne.2 e4];refine uR ?_;exact⟨false,rfl,zaU fun h=>e4 h.len⟩
 rw[show ((n.counts.length:Int) != cl)=false from bne_eq_false_iff_eq.2 e4];refine uR ?_;have hl12:n.counts.length≤12:=oM;refine EV.meetK (ι:=Bool) [2,4,5] [2,5] (fun b=>[(64,.v (.bool b))]) (fun _=>[]) (fun _=>[]) (fun b G=>H.Le G∧(b=false↔((kd=2→n.cls=0)∧(kd=1→n.value=0∧n.cls=(topN n.counts n.counts.length:Int))))) rfl rfl (fun _=>rfl) ?_ ?_
 ·rcases hkd with ⟨rfl,_⟩ | ⟨rfl,rfl⟩
  ·have hv0:∀G,H.Le G→PC prog 63 #[.agg #[.bool b5,.slice a5 l5 c5,.slice a6 l6 c6]] G fun r _=>r=.int .i64 n.value.num.sign:=fun G hG=>zdZ (k3.mono hG);by_cases f1:n.value=0
   ·by_cases f2:n.cls=(topN n.counts n.counts.length:Int)
    ·apply EV.drawn 27 kR kR;intro xv yw;(repeat refine' DD ?_);refine' vC (cO func63) (fun G hG hd=>hv0 G hG) ?_;rotate_left;(repeat refine' DD ?_);rw[show (n.value.num.sign != 0)=false from bne_eq_false_iff_eq.2 ((zfL _).2 f1)];(repeat refine' DD ?_);refine' vC (cO func64) (fun G hG hd=>zg2 (k4.mono hG) oM) ?_;rotate_left;(repeat refine' DD ?_);rw[show (n.cls != (topN n.counts n.counts.length:Int))=false from bne_eq_false_iff_eq.2 f2];(repeat refine' DD ?_);(refine DJ.nil (fun G1 hG1 hF1=>?_);(case hS|hS2=>rfl));refine uR ?_;exact⟨false,⟨rfl,trivial⟩,sB,trivial,sB,rfl,hG1,⟨fun _=>⟨fun h=>by omega,fun _=>⟨f1,f2⟩⟩,fun _=>rfl⟩⟩
    ·apply EV.drawn 27 kR kR;intro xv yw;(repeat refine' DD ?_);refine' vC (cO func63) (fun G hG hd=>hv0 G hG) ?_;rotate_left;(repeat refine' DD ?_);rw[show (n.value.num.sign != 0)=false from bne_eq_false_iff_eq.2 ((zfL _).2 f1)];(repeat refine' DD ?_);refine' vC (cO func64) (fun G hG hd=>zg2 (k4.mono hG) oM) ?_;rotate_left;(repeat refine' DD ?_);rw[show (n.cls != (topN n.counts n.counts.length:Int))=true from bne_iff_ne.2 f2];(repeat refine' DD ?_);(refine DJ.nil (fun G1 hG1 hF1=>?_);(case hS|hS2=>rfl));refine uR ?_;exact⟨true,⟨rfl,trivial⟩,sB,trivial,sB,rfl,hG1,⟨fun h=>(by cases h),fun h=>absurd (h.2 rfl).2 f2⟩⟩
   ·apply EV.drawn 27 kR kR;intro xv yw;(repeat refine' DD ?_);refine' vC (cO func63) (fun G hG hd=>hv0 G hG) ?_;rotate_left;(repeat refine' DD ?_);rw[show (n.value.num.sign != 0)=true from bne_iff_ne.2 (fun h=>f1 ((zfL _).1 h))];(repeat refine' DD ?_);(refine DJ.nil (fun G1 hG1 hF1=>?_);(case hS|hS2=>rfl));refine uR ?_;exact⟨true,⟨rfl,trivial⟩,sB,trivial,sB,rfl,hG1,⟨fun h=>(by cases h),fun h=>absurd (h.2 rfl).1 f1⟩⟩
  ·by_cases f1:n.cls=0
   ·apply EV.drawn 27 kR kR;intro xv yw;(repeat refine' DD ?_);rw[show (n.cls != 0)=false from bne_eq_false_iff_eq.2 f1];(repeat refine' DD ?_);(refine DJ.nil (fun G1 hG1 hF1=>?_);(case hS|hS2=>rfl));refine uR ?_;exact⟨false,⟨rfl,trivial⟩,sB,trivial,sB,rfl,hG1,⟨fun _=>⟨fun _=>f1,fun h=>by omega⟩,fun _=>rfl⟩⟩
   ·apply EV.drawn 27 kR kR;intro xv yw;(repeat refine' DD ?_);rw[show (n.cls != 0)=true from bne_iff_ne.2 f1];(repeat refine' DD ?_);(refine DJ.nil (fun G1 hG1 hF1=>?_);(case hS|hS2=>rfl));refine uR ?_;exact⟨true,⟨rfl,trivial⟩,sB,trivial,sB,rfl,hG1,⟨fun h=>(by cases h),fun h=>absurd (h.1 rfl) f1⟩⟩
 rintro b G1 ⟨hG1,hb⟩
 cases b with
 | true =>
  refine uR ?_;exact⟨false,rfl,zaU fun h=>by have:=hb.2 ⟨h.two,h.one⟩;cases this⟩
 | false =>
  obtain⟨htwo,hone⟩:=hb.1 rfl;refine uR ?_;refine EV.loopK (ι:=Nat) [2,5] [2,5] (fun q=>[(6,.v (.int .i64 (n.rows-(n.counts.take q).sum))),(7,.v (.int .i64 (q:Int)))]) (fun _=>[]) (fun _=>[]) (fun q _=>q≤n.counts.length∧0≤(n.counts.take q).sum∧∀k:Nat,k<q→0≤n.counts.getD k 0∧n.counts.getD k 0≤n.rows-(n.counts.take k).sum) (fun q=>n.counts.length-q) (0) rfl rfl ⟨(by rw[List.take_zero,List.sum_nil,Int.sub_zero];rfl),rfl,trivial⟩ trivial rfl (fun _=>rfl) (⟨qQ _,by rw[List.take_zero,List.sum_nil];exact Int.le_refl _,fun k h=>absurd h (Nat.not_lt_zero _)⟩) ?_;rintro q G2 hG2 ⟨hq,hs0,hpr⟩;have hH2:=hG1.trans hG2;refine uR ?_;refine EV.cond rfl (fun hlt=>?_) (fun hlt=>?_)
  ·simp only[nN]at hlt;obtain⟨z,hz⟩:=gE hlt;have hgz:n.counts.getD q 0=z:=by rw[qB,hz];rfl
   have hts:(n.counts.take (q+1)).sum=(n.counts.take q).sum+z:=by rw[zan hz,List.sum_append,List.sum_singleton]
   refine uR ?_;refine vI ((k4.mono hH2)) (q) (rfl) (hlt) ((by rw[qK,hz];rfl)) ?_;refine uR ?_;by_cases f1:z<0
   ·rw[qD f1];refine uR ?_;exact⟨false,rfl,zaU fun h=>by have:=h.part q hlt;omega⟩
   rw[qC f1];refine uR ?_;refine vI ((k4.mono hH2)) (q) (rfl) (hlt) ((by rw[qK,hz];rfl)) ?_;refine uR ?_;by_cases f2:z>n.rows-(n.counts.take q).sum
   ·rw[qD f2];refine uR ?_;exact⟨false,rfl,zaU fun h=>by have:=h.part q hlt;omega⟩
   rw[qC f2];refine uR ?_;refine vI ((k4.mono hH2)) (q) (rfl) (hlt) ((by rw[qK,hz];rfl)) ?_;refine uR ?_;rw[show IntKind.i64.wrap (n.rows-(n.counts.take q).sum-z)=n.rows-(n.counts.take (q+1)).sum by rw[pK];omega];refine⟨q+1,⟨rfl,by rw[zab q (by omega)];rfl,trivial⟩,sB,trivial,sB,rfl,⟨hlt,by omega,fun k hk=>?_⟩,Hp.Le.refl _,by omega⟩;by_cases hk2:k<q
   ·exact hpr k hk2
   ·obtain rfl:k=q:=oM;rw[hgz];exact⟨by omega,by omega⟩
  ·simp only[nN]at hlt;obtain rfl:q=n.counts.length:=oM;rw[qa]at hs0 ⊢;refine uR ?_;refine EVL.meetK (ι:=Bool) [2,5] [2,5] (fun b=>[(102,.v (.bool b))]) (fun _=>[]) (fun _=>[]) (fun b G=>H.Le G∧(b=false↔(kd=1→n.rows-n.counts.sum=0))) rfl rfl (fun _=>rfl) ?_ ?_
   ·rcases hkd with ⟨rfl,_⟩ | ⟨rfl,rfl⟩
    ·by_cases f1:n.rows-n.counts.sum=0
     ·try refine uR ?_
      rw[show (n.rows-n.counts.sum != 0)=false from bne_eq_false_iff_eq.2 f1];refine uR ?_;exact⟨false,⟨rfl,trivial⟩,sB,trivial,sB,rfl,hH2,⟨fun _ _=>f1,fun _=>rfl⟩⟩
     ·try refine uR ?_
      rw[show (n.rows-n.counts.sum != 0)=true from bne_iff_ne.2 f1];refine uR ?_;exact⟨true,⟨rfl,trivial⟩,sB,trivial,sB,rfl,hH2,⟨fun h=>(by cases h),fun h=>absurd (h rfl) f1⟩⟩
    ·try refine uR ?_
     exact⟨false,⟨rfl,trivial⟩,sB,trivial,sB,rfl,hH2,⟨fun _ h=>by omega,fun _=>rfl⟩⟩
   rintro b G3 ⟨hH3,hb3⟩
   cases b with
   | true =>
    refine uR ?_;exact⟨false,rfl,zaU fun h=>by have:=hb3.2 h.all;cases this⟩
   | false =>
    have hall:=hb3.1 rfl;refine uR ?_;rcases hch with hcol | ⟨hc0,hl0,hr0,na,nb,hna,hnb⟩
    ·rw[qD (show n.col<0 by omega)];refine uR ?_;exact⟨true,rfl,⟨fun _=>⟨by omega,ziU e3,e4,htwo,hone,hpr,hall,.inl oM⟩,fun _=>rfl⟩⟩
    have hla:=(qE.1 hna).1;have hlb:=(qE.1 hnb).1;obtain⟨ca,hcuta,hnda⟩:=hns.get hna;obtain⟨cb,hcutb,hndb⟩:=hns.get hnb;obtain⟨xb1,xa1,xl1,xc1,xa2,xl2,xc2,xb3,xa3,xl3,xc3,xa4,xl4,xc4,xb5,xa5,xl5,xc5,xa6,xl6,xc6,xa7,xc7,rfl,ka1,ka2,ka3,ka4⟩:=hnda.cells;obtain⟨yb1,ya1,yl1,yc1,ya2,yl2,yc2,yb3,ya3,yl3,yc3,ya4,yl4,yc4,yb5,ya5,yl5,yc5,ya6,yl6,yc6,ya7,yc7,rfl,kb1,kb2,kb3,kb4⟩:=hndb.cells
    have hC:zgb kd cl ns n→ztg cl n na nb:=fun h=>by
     obtain⟨u,v,eu,ev,hC⟩:=h.two'.resolve_left oM;rw[hna]at eu;cases eu;rw[hnb]at ev;cases ev;exact hC
    have hs0:=hsm n (qF hn);have hsa:=hsm na (qF hna);have hsb:=hsm nb (qF hnb);have hadd:=zcQ na.cost nb.cost;rw[qC (show ¬n.col<0 by omega)];refine uR ?_;refine EVL.idxM tO rfl rfl rfl rfl rfl rfl rfl rfl rfl ((hsl.mono hH3)) (n.left.toNat) ((by rw[Int.toNat_of_nonneg hl0])) (hla) (hcuta) ?_;refine uR ?_;refine EVL.idxM tO rfl rfl rfl rfl rfl rfl rfl rfl rfl ((hsl.mono hH3)) (n.right.toNat) ((by rw[Int.toNat_of_nonneg hr0])) (hlb) (hcutb) ?_;refine uR ?_;by_cases g1:na.rows<1
    ·apply EV.drawn 36 kR kR;intro xv yw;(repeat refine' DD ?_);rw[qD g1];(repeat refine' DD ?_);(refine DJ.nil (fun G4 hG4 hF4=>?_);(case hS|hS2=>rfl));refine uR ?_;exact⟨false,rfl,zaU fun h=>by have:=(hC h).rows;omega⟩
    by_cases g2:nb.rows<1
    ·apply EV.drawn 36 kR kR;intro xv yw;(repeat refine' DD ?_);rw[qC (show ¬na.rows<1 by omega)];(repeat refine' DD ?_);rw[qD g2];(repeat refine' DD ?_);(refine DJ.nil (fun G4 hG4 hF4=>?_);(case hS|hS2=>rfl));refine uR ?_;exact⟨false,rfl,zaU fun h=>by have:=(hC h).rows;omega⟩
    by_cases g3:na.rows≥n.rows
    ·apply EV.drawn 36 kR kR;intro xv yw;(repeat refine' DD ?_);rw[qC (show ¬na.rows<1 by omega)];(repeat refine' DD ?_);rw[qC (show ¬nb.rows<1 by omega)];(repeat refine' DD ?_);rw[qD g3];(repeat refine' DD ?_);(refine DJ.nil (fun G4 hG4 hF4=>?_);(case hS|hS2=>rfl));refine uR ?_;exact⟨false,rfl,zaU fun h=>by have:=(hC h).rows;omega⟩
    by_cases g4:nb.rows=n.rows-na.rows
    case neg =>
     apply EV.drawn 36 kR kR;intro xv yw;(repeat refine' DD ?_);rw[qC (show ¬na.rows<1 by omega)];(repeat refine' DD ?_);rw[qC (show ¬nb.rows<1 by omega)];(repeat refine' DD ?_);rw[qC (show ¬na.rows≥n.rows by omega)];(repeat refine' DD ?_);rw[show IntKind.i64.wrap (n.rows-na.rows)=n.rows-na.rows by rw[pK];omega];rw[show (nb.rows != n.rows-na.rows)=true from bne_iff_ne.2 g4];(repeat refine' DD ?_);(refine DJ.nil (fun G4 hG4 hF4=>?_);(case hS|hS2=>rfl));refine uR ?_;exact⟨false,rfl,zaU fun h=>by have:=(hC h).rows;omega⟩
    by_cases g5:zb6 n.cost (na.cost+nb.cost)<0
    ·apply EV.drawn 36 kR kR;intro xv yw;(repeat refine' DD ?_);rw[qC (show ¬na.rows<1 by omega)];(repeat refine' DD ?_);rw[qC (show ¬nb.rows<1 by omega)];(repeat refine' DD ?_);rw[qC (show ¬na.rows≥n.rows by omega)];(repeat refine' DD ?_);rw[show IntKind.i64.wrap (n.rows-na.rows)=n.rows-na.rows by rw[pK];omega];rw[show (nb.rows != n.rows-na.rows)=false from bne_eq_false_iff_eq.2 g4];(repeat refine' DD ?_);refine' vB (cO func65) (fun G hG hd=>zcu (ka2.mono (hH3.trans hG)) (kb2.mono (hH3.trans hG)) (zbZ hsa.2.1 oM) (zbZ hsb.2.1 oM)) (fun _ _ _ h k=>RQ.mono h k) ?_;rotate_left;refine' vC (cO func51) (fun G hG hd=>zbB (k2.mono (hH3.trans hG)) (hd.head kR) (zbZ hs0.2.1 oM) (by unfold rq;omega)) ?_;rotate_left;(repeat refine' DD ?_);rw[qD g5];(repeat refine' DD ?_);(refine DJ.nil (fun G4 hG4 hF4=>?_);(case hS|hS2=>rfl));refine uR ?_;exact⟨false,rfl,zaU fun h=>Rat.not_lt.2 (hC h).cost ((zde _ _).1 g5)⟩
    apply EV.drawn 36 kR kR;intro xv yw;(repeat refine' DD ?_);rw[qC (show ¬na.rows<1 by omega)];(repeat refine' DD ?_);rw[qC (show ¬nb.rows<1 by omega)];(repeat refine' DD ?_);rw[qC (show ¬na.rows≥n.rows by omega)];(repeat refine' DD ?_);rw[show IntKind.i64.wrap (n.rows-na.rows)=n.rows-na.rows by rw[pK];omega];rw[show (nb.rows != n.rows-na.rows)=false from bne_eq_false_iff_eq.2 g4];(repeat refine' DD ?_);refine' vB (cO func65) (fun G hG hd=>zcu (ka2.mono (hH3.trans hG)) (kb2.mono (hH3.trans hG)) (zbZ hsa.2.1 oM) (zbZ hsb.2.1 oM)) (fun _ _ _ h k=>RQ.mono h k) ?_;rotate_left;refine' vC (cO func51) (fun G hG hd=>zbB (k2.mono (hH3.trans hG)) (hd.head kR) (zbZ hs0.2.1 oM) (by unfold rq;omega)) ?_;rotate_left;(repeat refine' DD ?_);rw[qC g5];(refine DJ.nil (fun G4 hG4 hF4=>?_);(case hS|hS2=>rfl));refine uR ?_;refine EV.loopK (ι:=Nat) [2,5,8,9] [2,5,8,9] (fun q=>[(10,.v (.int .i64 (q:Int)))]) (fun _=>[]) (fun _=>[]) (fun q _=>q≤n.counts.length∧∀k:Nat,k<q→(na.counts.length:Int)=cl∧(nb.counts.length:Int)=cl∧0≤na.counts.getD k 0∧na.counts.getD k 0≤n.counts.getD k 0∧nb.counts.getD k 0=n.counts.getD k 0-na.counts.getD k 0) (fun q=>n.counts.length-q) (0) rfl rfl ⟨rfl,trivial⟩ trivial rfl (fun _=>rfl) (⟨qQ _,fun k h=>absurd h (Nat.not_lt_zero _)⟩) ?_;rintro q G5 hG5 ⟨hq,hpc⟩;have hH5:=hH3.trans (hG4.trans hG5);refine uR ?_;refine EV.cond rfl (fun hlt=>?_) (fun hlt=>?_)
    ·simp only[nN]at hlt;obtain⟨z,hz⟩:=gE hlt;have hgz:n.counts.getD q 0=z:=by rw[qB,hz];rfl
     have hzb:=(hpr q hlt);have hst0:=(zbE (l:=n.counts) (fun c hc=>(by obtain⟨k,hk,rfl⟩:=zeS hc;exact(hpr k hk).1:0≤c)) q).1;have hz20:z≤1048576:=oM;refine uR ?_;by_cases m1:(na.counts.length:Int)=cl
     case neg =>
      apply EV.drawn 54 kR kR;intro xv yw;(repeat refine' DD ?_);rw[show ((na.counts.length:Int) != cl)=true from bne_iff_ne.2 m1];(repeat refine' DD ?_);(refine DJ.nil (fun G hG hF=>?_);(case hS|hS2=>rfl));refine uR ?_;exact⟨false,rfl,zaU fun h=>by have:=(hC h).counts q hlt;omega⟩
     by_cases m2:(nb.counts.length:Int)=cl
     case neg =>
      apply EV.drawn 54 kR kR;intro xv yw;(repeat refine' DD ?_);rw[show ((na.counts.length:Int) != cl)=false from bne_eq_false_iff_eq.2 m1];(repeat refine' DD ?_);rw[show ((nb.counts.length:Int) != cl)=true from bne_iff_ne.2 m2];(repeat refine' DD ?_);(refine DJ.nil (fun G hG hF=>?_);(case hS|hS2=>rfl));refine uR ?_;exact⟨false,rfl,zaU fun h=>by have:=(hC h).counts q hlt;omega⟩
     have hqa:q<na.counts.length:=oM;have hqb:q<nb.counts.length:=oM;obtain⟨za,hza⟩:=gE hqa;obtain⟨zb,hzb⟩:=gE hqb;have hga:na.counts.getD q 0=za:=by rw[qB,hza];rfl
     have hgb:nb.counts.getD q 0=zb:=by rw[qB,hzb];rfl
     by_cases m3:za<0
     ·apply EV.drawn 54 kR kR;intro xv yw;(repeat refine' DD ?_);rw[show ((na.counts.length:Int) != cl)=false from bne_eq_false_iff_eq.2 m1];(repeat refine' DD ?_);rw[show ((nb.counts.length:Int) != cl)=false from bne_eq_false_iff_eq.2 m2];(repeat refine' DD ?_);refine' vJ ((ka4.mono hH5)) (q) (rfl) (hqa) ((by rw[qK,hza];rfl)) ?_;rotate_left;(repeat refine' DD ?_);rw[qD m3];(repeat refine' DD ?_);(refine DJ.nil (fun G hG hF=>?_);(case hS|hS2=>rfl));refine uR ?_;exact⟨false,rfl,zaU fun h=>by have:=(hC h).counts q hlt;omega⟩
     by_cases m4:za>z
     ·apply EV.drawn 54 kR kR;intro xv yw;(repeat refine' DD ?_);rw[show ((na.counts.length:Int) != cl)=false from bne_eq_false_iff_eq.2 m1];(repeat refine' DD ?_);rw[show ((nb.counts.length:Int) != cl)=false from bne_eq_false_iff_eq.2 m2];(repeat refine' DD ?_);refine' vJ ((ka4.mono hH5)) (q) (rfl) (hqa) ((by rw[qK,hza];rfl)) ?_;rotate_left;(repeat refine' DD ?_);rw[qC m3];(repeat refine' DD ?_);refine' vJ ((ka4.mono hH5)) (q) (rfl) (hqa) ((by rw[qK,hza];rfl)) ?_;rotate_left;(repeat refine' DD ?_);refine' vJ ((k4.mono hH5)) (q) (rfl) (hlt) ((by rw[qK,hz];rfl)) ?_;rotate_left;(repeat refine' DD ?_);rw[qD m4];(repeat refine' DD ?_);(refine DJ.nil (fun G hG hF=>?_);(case hS|hS2=>rfl));refine uR ?_;exact⟨false,rfl,zaU fun h=>by have:=(hC h).counts q hlt;omega⟩
     by_cases m5:zb=z-za
     case neg =>
      apply EV.drawn 54 kR kR;intro xv yw;(repeat refine' DD ?_);rw[show ((na.counts.length:Int) != cl)=false from bne_eq_false_iff_eq.2 m1];(repeat refine' DD ?_);rw[show ((nb.counts.length:Int) != cl)=false from bne_eq_false_iff_eq.2 m2];(repeat refine' DD ?_);refine' vJ ((ka4.mono hH5)) (q) (rfl) (hqa) ((by rw[qK,hza];rfl)) ?_;rotate_left;(repeat refine' DD ?_);rw[qC m3];(repeat refine' DD ?_);refine' vJ ((ka4.mono hH5)) (q) (rfl) (hqa) ((by rw[qK,hza];rfl)) ?_;rotate_left;(repeat refine' DD ?_);refine' vJ ((k4.mono hH5)) (q) (rfl) (hlt) ((by rw[qK,hz];rfl)) ?_;rotate_left;(repeat refine' DD ?_);rw[qC m4];(repeat refine' DD ?_);refine' vJ ((kb4.mono hH5)) (q) (rfl) (hqb) ((by rw[qK,hzb];rfl)) ?_;rotate_left;(repeat refine' DD ?_);refine' vJ ((k4.mono hH5)) (q) (rfl) (hlt) ((by rw[qK,hz];rfl)) ?_;rotate_left;(repeat refine' DD ?_);refine' vJ ((ka4.mono hH5)) (q) (rfl) (hqa) ((by rw[qK,hza];rfl)) ?_;rotate_left;(repeat refine' DD ?_);rw[show IntKind.i64.wrap (z-za)=z-za by rw[pK];omega];rw[show (zb != z-za)=true from bne_iff_ne.2 m5];(repeat refine' DD ?_);(refine DJ.nil (fun G hG hF=>?_);(case hS|hS2=>rfl));refine uR ?_;exact⟨false,rfl,zaU fun h=>by have:=(hC h).counts q hlt;omega⟩
     apply EV.drawn 54 kR kR;intro xv yw;(repeat refine' DD ?_);rw[show ((na.counts.length:Int) != cl)=false from bne_eq_false_iff_eq.2 m1];(repeat refine' DD ?_);rw[show ((nb.counts.length:Int) != cl)=false from bne_eq_false_iff_eq.2 m2];(repeat refine' DD ?_);refine' vJ ((ka4.mono hH5)) (q) (rfl) (hqa) ((by rw[qK,hza];rfl)) ?_;rotate_left;(repeat refine' DD ?_);rw[qC m3];(repeat refine' DD ?_);refine' vJ ((ka4.mono hH5)) (q) (rfl) (hqa) ((by rw[qK,hza];rfl)) ?_;rotate_left;(repeat refine' DD ?_);refine' vJ ((k4.mono hH5)) (q) (rfl) (hlt) ((by rw[qK,hz];rfl)) ?_;rotate_left;(repeat refine' DD ?_);rw[qC m4];(repeat refine' DD ?_);refine' vJ ((kb4.mono hH5)) (q) (rfl) (hqb) ((by rw[qK,hzb];rfl)) ?_;rotate_left;(repeat refine' DD ?_);refine' vJ ((k4.mono hH5)) (q) (rfl) (hlt) ((by rw[qK,hz];rfl)) ?_;rotate_left;(repeat refine' DD ?_);refine' vJ ((ka4.mono hH5)) (q) (rfl) (hqa) ((by rw[qK,hza];rfl)) ?_;rotate_left;(repeat refine' DD ?_);rw[show IntKind.i64.wrap (z-za)=z-za by rw[pK];omega];rw[show (zb != z-za)=false from bne_eq_false_iff_eq.2 m5];(repeat refine' DD ?_);(refine DJ.nil (fun G hG hF=>?_);(case hS|hS2=>rfl));refine uR ?_;refine⟨q+1,⟨by rw[zab q (by omega)];rfl,trivial⟩,sB,trivial,sB,rfl,⟨hlt,fun k hk=>?_⟩,hG,by omega⟩;by_cases hk2:k<q
     ·exact hpc k hk2
     ·obtain rfl:k=q:=oM;exact⟨m1,m2,by omega,by omega,by omega⟩
    ·simp only[nN]at hlt;obtain rfl:q=n.counts.length:=oM;refine uR ?_;exact⟨true,rfl,⟨fun _=>⟨by omega,ziU e3,e4,htwo,hone,hpr,hall,.inr ⟨na,nb,hna,hnb,⟨by omega,by omega,by omega,g4⟩,Rat.not_lt.1 fun h=>g5 ((zde _ _).2 h),hpc⟩⟩,fun _=>rfl⟩⟩
set_option maxRecDepth 100000 in
theorem znc {H:Hp} {kd cl w:Int} {vn:Value} {n:Nd} {cs:List Value} (hkd:(kd=1∧1≤cl∧cl≤12)∨(kd=2∧cl=0)) (hnd:zbO H cs n) (hs:ht n.at'≤200∧ht n.cost≤2000000∧ht n.value≤4000) :
  PC prog 36 #[zri kd cl w vn,.agg cs.toArray] H fun r _=>∃b,r=.bool b∧(b=true↔zcL kd cl n):=by
 obtain⟨a7,c7,rfl,k4⟩:=hnd.cells;have hsc:PV prog 20 #[zae n.cost] (.int .i64 n.cost.num.sign):=zcd _ (by have:=(zaL hs.2.1 oM).num;show bl n.cost.num.natAbs≤_;omega);have hsv:PV prog 20 #[zae n.value] (.int .i64 n.value.num.sign):=zcd _ (by have:=(zaL hs.2.2 oM).num;show bl n.value.num.natAbs≤_;omega);refine BD func36 ntmps36 ?_;refine uR ?_;by_cases e1:n.rows<1
 ·rw[qD e1];refine uR ?_;exact⟨false,rfl,zaU fun h=>by have:=h.rows;omega⟩
 rw[qC e1];refine uR ?_;by_cases e2:n.rows>1048576
 ·rw[qD e2];refine uR ?_;exact⟨false,rfl,zaU fun h=>by have:=h.rows;omega⟩
 rw[qC e2]
 repeat (first|refine RUN ?_|refine CV (hsc) ?_|refine CE (hsc) ?_)
 by_cases e3:n.cost.num.sign<0
 ·rw[qD e3];refine uR ?_;exact⟨false,rfl,zaU fun h=>zpu e3 h.cost⟩
 rw[qC e3];refine uR ?_;by_cases e4:(n.counts.length:Int)=cl
 case neg =>
  rw[show ((n.counts.length:Int) != cl)=true from bne_iff_ne.2 e4];refine uR ?_;exact⟨false,rfl,zaU fun h=>e4 h.len⟩
 rw[show ((n.counts.length:Int) != cl)=false from bne_eq_false_iff_eq.2 e4];refine uR ?_;have hl12:n.counts.length≤12:=oM;rcases hkd with ⟨rfl,hc1,hc2⟩ | ⟨rfl,rfl⟩
 ·try refine uR ?_
  refine EV.loopK (ι:=Nat) [2,3,38,39] [2,3] (fun q=>[(5,.v (.int .i64 (n.counts.take q).sum)),(6,.v (.int .i64 (topN n.counts q:Nat))),(40,.v (.int .i64 (q:Int)))]) (fun _=>[]) (fun _=>[]) (fun q _=>q≤n.counts.length∧(0≤(n.counts.take q).sum∧(n.counts.take q).sum≤(q:Int)*1048576)∧∀k:Nat,k<q→0≤n.counts.getD k 0∧n.counts.getD k 0≤n.rows) (fun q=>n.counts.length-q) (0) rfl rfl ⟨rfl,rfl,rfl,trivial⟩ trivial rfl (fun _=>rfl) (⟨qQ _,(by rw[List.take_zero,List.sum_nil];omega),fun k h=>absurd h (Nat.not_lt_zero _)⟩) ?_;rintro q G2 hG2 ⟨hq,hs0,hpr⟩;refine uR ?_;refine EV.cond rfl (fun hlt=>?_) (fun hlt=>?_)
  ·simp only[nN]at hlt;have hti:=zhf n.counts q;have htl:topN n.counts q<n.counts.length:=oM;have g1:=zdA hlt;have g2:=zdA htl;have hts:(n.counts.take (q+1)).sum=(n.counts.take q).sum+n.counts.getD q 0:=by rw[zan g1,List.sum_append,List.sum_singleton]
   have hst:topN n.counts (q+1)=if n.counts.getD (topN n.counts q) 0<n.counts.getD q 0 then q else topN n.counts q:=rfl
   have hno:∀hA:zcL 1 cl n,0≤n.counts.getD q 0∧n.counts.getD q 0≤n.rows:=fun hA=>(hA.one rfl).1 _ (zlN hlt)
   have hnx:0≤n.counts.getD q 0∧n.counts.getD q 0≤n.rows→∀k:Nat,k<q+1→0≤n.counts.getD k 0∧n.counts.getD k 0≤n.rows:=fun h k hk=>by
    by_cases hk2:k<q
    ·exact hpr k hk2
    ·obtain rfl:k=q:=oM;exact h
   generalize topN n.counts q=tp at *
   generalize n.counts.getD tp 0=x at *
   generalize n.counts.getD q 0=y at *
   refine uR ?_;refine vI ((k4.mono hG2)) (q) (rfl) (hlt) ((by rw[qK,g1];rfl)) ?_;refine uR ?_;by_cases f1:y<0
   ·rw[qD f1];refine uR ?_;exact⟨false,rfl,zaU fun h=>by have:=hno h;omega⟩
   rw[qC f1];refine uR ?_;by_cases f2:y>n.rows
   ·rw[qD f2];refine uR ?_;exact⟨false,rfl,zaU fun h=>by have:=hno h;omega⟩
   rw[qC f2];refine uR ?_;rw[show IntKind.i64.wrap ((n.counts.take q).sum+y)=(n.counts.take (q+1)).sum by rw[pK];omega];refine vI ((k4.mono hG2)) (tp) (rfl) (htl) ((by rw[qK,g2];rfl)) ?_;refine uR ?_;by_cases h:y>x
   ·rw[qD h];rw[if_pos h]at hst;refine uR ?_;refine⟨q+1,⟨rfl,by rw[hst];rfl,by rw[zab q (by omega)];rfl,trivial⟩,sB,trivial,sB,rfl,⟨by omega,by omega,hnx ⟨by omega,by omega⟩⟩,Hp.Le.refl _,by omega⟩
   ·rw[qC h];rw[if_neg h]at hst;refine uR ?_;refine⟨q+1,⟨rfl,by rw[hst];rfl,by rw[zab q (by omega)];rfl,trivial⟩,sB,trivial,sB,rfl,⟨by omega,by omega,hnx ⟨by omega,by omega⟩⟩,Hp.Le.refl _,by omega⟩
  ·simp only[nN]at hlt;obtain rfl:q=n.counts.length:=oM;rw[qa]
   have hall:∀c,c∈n.counts→0≤c∧c≤n.rows:=fun c hc=>by
    obtain⟨k,hk,rfl⟩:=zeS hc;exact hpr k hk
   refine uR ?_;by_cases f1:n.counts.sum=n.rows
   case neg =>
    rw[show (n.counts.sum == n.rows)=false from pP.2 f1];refine uR ?_;exact⟨false,rfl,zaU fun h=>f1 (h.one rfl).2.1⟩
   rw[show (n.counts.sum == n.rows)=true from beq_iff_eq.2 f1];refine uR ?_;by_cases f2:n.cls=(topN n.counts n.counts.length:Int)
   case neg =>
    rw[show (n.cls == (topN n.counts n.counts.length:Int))=false from pP.2 f2];refine uR ?_;exact⟨false,rfl,zaU fun h=>f2 (h.one rfl).2.2.1⟩
   rw[show (n.cls == (topN n.counts n.counts.length:Int))=true from beq_iff_eq.2 f2]
   repeat (first|refine RUN ?_|refine CV (hsv) ?_|refine CE (hsv) ?_)
   refine⟨_,rfl,?_⟩;rw[beq_iff_eq,zfL];exact⟨fun f3=>⟨by omega,ziU e3,e4,fun h=>by omega,fun _=>⟨hall,f1,f2,f3⟩⟩,fun h=>(h.one rfl).2.2.2⟩
 ·try refine uR ?_
  refine⟨_,rfl,?_⟩;rw[beq_iff_eq];exact⟨fun f=>⟨by omega,ziU e3,e4,fun _=>f,fun h=>by omega⟩,fun h=>h.two rfl⟩
set_option maxRecDepth 100000 in
theorem zoX {H:Hp} {kd cl:Int} {n na nb:Nd} {cs ca cb:List Value} (hkd:(kd=1∧1≤cl∧cl≤12)∨(kd=2∧cl=0)) (hnd:zbO H cs n) (hnda:zbO H ca na) (hndb:zbO H cb nb) (hs:ht n.at'≤200∧ht n.cost≤2000000∧ht n.value≤4000) (hsa:ht na.at'≤200∧ht na.cost≤2000000∧ht na.value≤4000) (hsb:ht nb.at'≤200∧ht nb.cost≤2000000∧ht nb.value≤4000) (hN:zcL kd cl n) (hNa:zcL kd cl na) (hNb:zcL kd cl nb) :
  PC prog 37 #[.agg cs.toArray,.agg ca.toArray,.agg cb.toArray] H fun r _=>∃b,r=.bool b∧(b=true↔znS n na nb):=by
 obtain⟨a7,c7,rfl,k4⟩:=hnd.cells;obtain⟨xa7,xc7,rfl,ka4⟩:=hnda.cells;obtain⟨ya7,yc7,rfl,kb4⟩:=hndb.cells;have hRa:=hNa.rows;have hRb:=hNb.rows;have hRn:=hN.rows;have hlna:(na.counts.length:Int)=cl:=hNa.len;have hlnb:(nb.counts.length:Int)=cl:=hNb.len;have hlnn:(n.counts.length:Int)=cl:=hN.len;have had:=zcQ na.cost nb.cost;have hadd:=zeD na.cost nb.cost (zaL hsa.2.1 oM) (zaL hsb.2.1 oM);have hcmp:=zeI n.cost (na.cost+nb.cost) (zaL hs.2.1 oM) (by unfold sm;omega);have hwr:IntKind.i64.wrap (na.rows+nb.rows)=na.rows+nb.rows:=by rw[pK];omega
 refine BD func37 ntmps37 ?_;refine uR ?_;refine EV.loopK (ι:=Nat) [3,4,5,10,11] [3,4,5] (fun q=>[(12,.v (.int .i64 (q:Int)))]) (fun _=>[]) (fun _=>[]) (fun q _=>q≤n.counts.length∧∀k:Nat,k<q→n.counts.getD k 0=na.counts.getD k 0+nb.counts.getD k 0) (fun q=>n.counts.length-q) (0) rfl rfl ⟨rfl,trivial⟩ trivial rfl (fun _=>rfl) (⟨qQ _,fun k h=>absurd h (Nat.not_lt_zero _)⟩) ?_;rintro q G1 hG1 ⟨hq,hpr⟩;refine uR ?_;refine EV.cond rfl (fun hlt=>?_) (fun hlt=>?_)
 ·simp only[nN]at hlt
  have hk1:kd=1:=by
   rcases hkd with ⟨e,_⟩ | ⟨_,e⟩
   ·exact e
   ·omega
  obtain⟨z,hz⟩:=gE hlt;have hqa:q<na.counts.length:=oM;have hqb:q<nb.counts.length:=oM;obtain⟨za,hza⟩:=gE hqa;obtain⟨zb,hzb⟩:=gE hqb;have hgz:n.counts.getD q 0=z:=by rw[qB,hz];rfl
  have hga:na.counts.getD q 0=za:=by rw[qB,hza];rfl
  have hgb:nb.counts.getD q 0=zb:=by rw[qB,hzb];rfl
  have ba:=(hNa.one hk1).1 za (qF hza);have bb:=(hNb.one hk1).1 zb (qF hzb);have hwz:IntKind.i64.wrap (za+zb)=za+zb:=by rw[pK];omega
  refine uR ?_;refine vI ((k4.mono hG1)) (q) (rfl) (hlt) ((by rw[qK,hz];rfl)) ?_;refine uR ?_;by_cases f1:z=za+zb
  ·apply EV.drawn 13 kR kR;intro xv yw;(repeat refine' DD ?_);refine' vJ ((ka4.mono hG1)) (q) (rfl) (hqa) ((by rw[qK,hza];rfl)) ?_;rotate_left;(repeat refine' DD ?_);refine' vJ ((kb4.mono hG1)) (q) (rfl) (hqb) ((by rw[qK,hzb];rfl)) ?_;rotate_left;(repeat refine' DD ?_);rw[hwz,show (z != za+zb)=false from bne_eq_false_iff_eq.2 f1];(repeat refine' DD ?_);(refine DJ.nil (fun G hG hF=>?_);(case hS|hS2=>rfl));refine uR ?_;refine⟨q+1,⟨by rw[zab q (by omega)];rfl,trivial⟩,sB,trivial,sB,rfl,⟨hlt,fun k hk=>?_⟩,hG,by omega⟩;by_cases hk2:k<q
   ·exact hpr k hk2
   ·obtain rfl:k=q:=oM;omega
  ·apply EV.drawn 13 kR kR;intro xv yw;(repeat refine' DD ?_);refine' vJ ((ka4.mono hG1)) (q) (rfl) (hqa) ((by rw[qK,hza];rfl)) ?_;rotate_left;(repeat refine' DD ?_);refine' vJ ((kb4.mono hG1)) (q) (rfl) (hqb) ((by rw[qK,hzb];rfl)) ?_;rotate_left;(repeat refine' DD ?_);rw[hwz,show (z != za+zb)=true from bne_iff_ne.2 f1];(repeat refine' DD ?_);(refine DJ.nil (fun G hG hF=>?_);(case hS|hS2=>rfl));refine uR ?_;exact⟨false,rfl,zaU fun h=>by have:=h.counts q hlt;omega⟩
 ·simp only[nN]at hlt;obtain rfl:q=n.counts.length:=oM;by_cases f1:n.rows=na.rows+nb.rows
  ·by_cases f2:zb6 n.cost (na.cost+nb.cost)≥0
   ·try refine uR ?_
    apply EV.drawn 20 kR kR;intro xv yw;(repeat refine' DD ?_);rw[hwr,show (n.rows == na.rows+nb.rows)=true from beq_iff_eq.2 f1];(repeat (first|refine' DD ?_|(refine' DC (hadd) (h:=?_);rotate_left)|(refine' DC (hcmp) (h:=?_);rotate_left)));rw[qD f2];(repeat refine' DD ?_);(refine DJ.nil (fun G hG hF=>?_);(case hS|hS2=>rfl));refine uR ?_;exact⟨true,rfl,⟨fun _=>⟨hpr,f1,Rat.not_lt.1 fun h=>by have:=(zde _ _).2 h;omega⟩,fun _=>rfl⟩⟩
   ·try refine uR ?_
    apply EV.drawn 20 kR kR;intro xv yw;(repeat refine' DD ?_);rw[hwr,show (n.rows == na.rows+nb.rows)=true from beq_iff_eq.2 f1];(repeat (first|refine' DD ?_|(refine' DC (hadd) (h:=?_);rotate_left)|(refine' DC (hcmp) (h:=?_);rotate_left)));rw[qC f2];(repeat refine' DD ?_);(refine DJ.nil (fun G hG hF=>?_);(case hS|hS2=>rfl));refine uR ?_;exact⟨false,rfl,zaU fun h=>Rat.not_lt.2 h.cost ((zde _ _).1 oM)⟩
  ·try refine uR ?_
   apply EV.drawn 20 kR kR;intro xv yw;(repeat refine' DD ?_);rw[hwr,show (n.rows == na.rows+nb.rows)=false from pP.2 f1];(repeat refine' DD ?_);(refine DJ.nil (fun G hG hF=>?_);(case hS|hS2=>rfl));refine uR ?_;exact⟨false,rfl,zaU fun h=>f1 h.rows⟩
abbrev zb0 (kd cl:Int):Prop:=(kd=1∧1≤cl∧cl≤12)∨(kd=2∧cl=0)
open Classical in
noncomputable def zbc (kd cl w:Int) (ns:List Nd):Int :=
 if ¬(kd=1∨kd=2) then 10
 else if ¬(1≤w∧w≤20∧zb0 kd cl∧1≤ns.length∧ns.length≤2000) then 5
 else if (zcO ns w (ns.length+1) 0 0 0).1≠some ns.length then 2
 else if (zcO ns w (ns.length+1) 0 0 0).2>10 then 19
 else if ∀n,n∈ns→zgb kd cl ns n then 0 else 1
section
variable {kd cl w:Int} {ns:List Nd}
theorem zjp (h:¬(kd=1∨kd=2)):zbc kd cl w ns=10:=if_pos h
theorem zcy (h0:kd=1∨kd=2) (h:¬(1≤w∧w≤20∧zb0 kd cl∧1≤ns.length∧ns.length≤2000)):zbc kd cl w ns=5:=by
 unfold zbc;rw[if_neg (fun k=>k h0),if_pos h]
variable (h1:1≤w∧w≤20∧zb0 kd cl∧1≤ns.length∧ns.length≤2000)
include h1
theorem zlS:kd=1∨kd=2:=h1.2.2.1.imp And.left And.left
theorem zil (h:(zcO ns w (ns.length+1) 0 0 0).1≠some ns.length):zbc kd cl w ns=2:=by
 unfold zbc;rw[if_neg (fun k=>k (zlS h1)),if_neg (fun k=>k h1),if_pos h]
theorem zjq (h:(zcO ns w (ns.length+1) 0 0 0).1=some ns.length) (h2:(zcO ns w (ns.length+1) 0 0 0).2>10):zbc kd cl w ns=19:=by
 unfold zbc;rw[if_neg (fun k=>k (zlS h1)),if_neg (fun k=>k h1),if_neg (fun k=>k h),if_pos h2]
theorem zik (h:(zcO ns w (ns.length+1) 0 0 0).1=some ns.length) (h2:¬(zcO ns w (ns.length+1) 0 0 0).2>10) (h3:¬ ∀n,n∈ns→zgb kd cl ns n):zbc kd cl w ns=1:=by
 unfold zbc;rw[if_neg (fun k=>k (zlS h1)),if_neg (fun k=>k h1),if_neg (fun k=>k h),if_neg h2,if_neg h3]
theorem zlB (h:(zcO ns w (ns.length+1) 0 0 0).1=some ns.length) (h2:¬(zcO ns w (ns.length+1) 0 0 0).2>10) (h3:∀n,n∈ns→zgb kd cl ns n):zbc kd cl w ns=0:=by
 unfold zbc;rw[if_neg (fun k=>k (zlS h1)),if_neg (fun k=>k h1),if_neg (fun k=>k h),if_neg h2,if_pos h3]
end
theorem zii {P:Prop} {b:Bool} (h:b=true↔P):b=@decide P (Classical.propDecidable P):=by
 letI:=Classical.propDecidable P;show b=decide P;by_cases p:P
 ·rw[qD p];exact h.2 p
 ·rw[qC p]
  cases b with
  | false=>rfl
  | true=>exact absurd (h.1 rfl) p
theorem Sub.child {T:List Nd} {w:Int} {h:Nat} (hs:Sub T w 0 h T.length) {i:Nat} {n:Nd} (hi:T[i]?=some n):n.col = -1∨(0≤n.col∧0≤n.left∧0≤n.right∧∃na nb,T[n.left.toNat]?=some na∧T[n.right.toNat]?=some nb):=by
 obtain⟨h',e',hsi⟩:=hs.at i (qQ _) (qE.1 hi).1
 cases hsi with
 | leaf q1 q2 _ _ _=>rw[hi]at q1;cases q1;exact .inl q2
 | @node _ _ m _ _ q1 q2 q3 q4 q5 s1 s2 =>
  rw[hi]at q1;cases q1;have h1:=s1.lt;have h2:=s2.lt;exact .inr ⟨q2,by omega,by omega,_,_,by rw[q4,qU];exact qA oM,by rw[q5,qU];exact qA oM⟩
set_option maxRecDepth 100000 in
theorem znj {H:Hp} {kd cl w:Int} {ns:List Nd} {cs:List Value} (ht:zhs H cs kd cl w ns) (hln:ns.length≤100000) (hsm:SmT ns):PC prog 10 #[.agg cs.toArray] H fun r _=>r=.int .i64 (zbc kd cl w ns):=by
 obtain⟨a,cp,css,rfl,hns,hsl⟩:=ht;refine BD func10 ntmps10 ?_;refine uR ?_;by_cases hk:kd=1∨kd=2
 case neg =>
  rw[show (kd != 1)=true from bne_iff_ne.2 (fun h=>hk (.inl h))];refine uR ?_;rw[show (kd != 2)=true from bne_iff_ne.2 (fun h=>hk (.inr h))];refine uR ?_;rw[zjp hk]
 refine EVL.meetK (ι:=Bool) [1,2] [1] (fun _=>[(12,.v (.bool false))]) (fun _=>[]) (fun _=>[]) (fun _ G=>H.Le G) rfl rfl (fun _=>rfl) ?_ ?_
 ·rcases hk with rfl | rfl
  ·try refine uR ?_
   exact⟨true,⟨rfl,trivial⟩,sB,trivial,sB,rfl,Hp.Le.refl _⟩
  ·try refine uR ?_
   exact⟨true,⟨rfl,trivial⟩,sB,trivial,sB,rfl,Hp.Le.refl _⟩
 rintro _ G1 hG1;refine uR ?_;by_cases w1:w<1
 ·rw[qD w1];refine uR ?_;rw[zcy hk (fun h=>by omega)]
 rw[qC w1];refine uR ?_;by_cases w2:w>20
 ·rw[qD w2];refine uR ?_;rw[zcy hk (fun h=>by omega)]
 rw[qC w2];refine uR ?_;refine EVL.meetK (ι:=Bool) [1,2] [1] (fun b=>[(57,.v (.bool b))]) (fun _=>[]) (fun _=>[]) (fun b G=>H.Le G∧(b=false↔zb0 kd cl∧1≤ns.length∧ns.length≤2000)) rfl rfl (fun _=>rfl) ?_ ?_
 ·have hlen:∀(hc:zb0 kd cl),(decide ((ns.length:Int)<1)=true∧¬(zb0 kd cl∧1≤ns.length∧ns.length≤2000))∨(decide ((ns.length:Int)<1)=false∧decide ((ns.length:Int)>2000)=true∧¬(zb0 kd cl∧1≤ns.length∧ns.length≤2000))∨(decide ((ns.length:Int)<1)=false∧decide ((ns.length:Int)>2000)=false∧(zb0 kd cl∧1≤ns.length∧ns.length≤2000)):=fun hc=>by
   by_cases c1:(ns.length:Int)<1
   ·exact .inl ⟨qD c1,fun h=>by omega⟩
   ·by_cases c2:(ns.length:Int)>2000
    ·exact .inr (.inl ⟨qC c1,qD c2,fun h=>by omega⟩)
    ·exact .inr (.inr ⟨qC c1,qC c2,hc,by omega,by omega⟩)
  rcases hk with rfl | rfl
  ·try refine uR ?_
   by_cases d1:cl<1
   ·rw[qD d1];refine uR ?_;exact⟨true,⟨rfl,trivial⟩,sB,trivial,sB,rfl,hG1,⟨fun h=>(by cases h),fun h=>absurd h.1 (by unfold zb0;omega)⟩⟩
   rw[qC d1];refine uR ?_;by_cases d2:cl>12
   ·rw[qD d2];refine uR ?_;exact⟨true,⟨rfl,trivial⟩,sB,trivial,sB,rfl,hG1,⟨fun h=>(by cases h),fun h=>absurd h.1 (by unfold zb0;omega)⟩⟩
   rw[qC d2];refine uR ?_;rcases hlen (.inl ⟨rfl,by omega,by omega⟩) with ⟨c1,hno⟩ | ⟨c1,c2,hno⟩ | ⟨c1,c2,hyes⟩
   ·rw[c1];refine uR ?_;exact⟨true,⟨rfl,trivial⟩,sB,trivial,sB,rfl,hG1,⟨fun h=>(by cases h),fun h=>absurd h hno⟩⟩
   ·rw[c1];refine uR ?_;rw[c2];refine uR ?_;exact⟨true,⟨rfl,trivial⟩,sB,trivial,sB,rfl,hG1,⟨fun h=>(by cases h),fun h=>absurd h hno⟩⟩
   ·rw[c1];refine uR ?_;rw[c2];refine uR ?_;exact⟨false,⟨rfl,trivial⟩,sB,trivial,sB,rfl,hG1,⟨fun _=>hyes,fun _=>rfl⟩⟩
  ·try refine uR ?_
   by_cases d1:cl=0
   case neg =>
    rw[show (cl != 0)=true from bne_iff_ne.2 d1];refine uR ?_;exact⟨true,⟨rfl,trivial⟩,sB,trivial,sB,rfl,hG1,⟨fun h=>(by cases h),fun h=>absurd h.1 (by unfold zb0;omega)⟩⟩
   rw[show (cl != 0)=false from bne_eq_false_iff_eq.2 d1];refine uR ?_;rcases hlen (.inr ⟨rfl,d1⟩) with ⟨c1,hno⟩ | ⟨c1,c2,hno⟩ | ⟨c1,c2,hyes⟩
   ·rw[c1];refine uR ?_;exact⟨true,⟨rfl,trivial⟩,sB,trivial,sB,rfl,hG1,⟨fun h=>(by cases h),fun h=>absurd h hno⟩⟩
   ·rw[c1];refine uR ?_;rw[c2];refine uR ?_;exact⟨true,⟨rfl,trivial⟩,sB,trivial,sB,rfl,hG1,⟨fun h=>(by cases h),fun h=>absurd h hno⟩⟩
   ·rw[c1];refine uR ?_;rw[c2];refine uR ?_;exact⟨false,⟨rfl,trivial⟩,sB,trivial,sB,rfl,hG1,⟨fun _=>hyes,fun _=>rfl⟩⟩
 rintro b G2 ⟨hG2,hb⟩
 cases b with
 | true =>
  refine uR ?_;rw[zcy hk (fun h=>by have:=hb.2 h.2.2;cases this)]
 | false =>
  have hshape:1≤w∧w≤20∧zb0 kd cl∧1≤ns.length∧ns.length≤2000:=⟨by omega,by omega,hb.1 rfl⟩;have hend:=fun (b:Nat) (T:TypeId)=>ziM (b:=b) (T:=T) (kd:=kd) (cl:=cl) (w:=w) (a:=a) (cp:=cp) (by omega:ns.length≤1000000) (ns.length+1) (k:=0) (deep:=0) (far:=0) (hns.mono hG2) (hsl.mono hG2) (qH _) (qQ _) oM;refine uR ?_;(first|refine EVL.unbox (3) rfl fun g3=>?_|refine EV.unbox (3) rfl fun g3=>?_);(first|refine EVL.unbox (1) rfl fun g1=>?_|refine EV.unbox (1) rfl fun g1=>?_);refine EVI.start none (g1,42,[.int .i64 kd,.int .i64 cl,.int .i64 w,.slice a ns.length cp]) ?_;refine IL0 0 ?_;refine IF 2 ?_;refine IL0 3 ?_;refine IV 4 ?_;refine EVI.one 1 0 (.inr rfl) kR rfl ?_;(first|refine EVL.swapOw ([(g1,_,_)]) ([(g3,_,_)]) (rfl) ?_|refine EV.swapOw ([(g1,_,_)]) ([(g3,_,_)]) (rfl) ?_);refine vW ([(g3,_,_)]) ([(g1,_,_)]) (hend _ _) ?_;rintro _ _ G3 ⟨rfl,rfl⟩ hG3;(first|refine EVL.swapOw ([(g3,_,_)]) ([(g1,_,_)]) (rfl) ?_|refine EV.swapOw ([(g3,_,_)]) ([(g1,_,_)]) (rfl) ?_);refine EVL.nil ⟨rfl,?_⟩;refine EVI.one 5 0 (.inr rfl) kR rfl ?_
  (try refine zey ?_);refine EVL.nil ⟨rfl,?_⟩;refine EVI.nil 0 (.inr rfl) kR ?_;obtain⟨r,far,hE⟩:∃r far,zcO ns w (ns.length+1) 0 0 0=(r,far):=⟨_,_,rfl⟩;have hE1:(zcO ns w (ns.length+1) 0 0 0).1=r:=by rw[hE]
  have hE2:(zcO ns w (ns.length+1) 0 0 0).2=far:=by rw[hE]
  rw[hE];dsimp only;by_cases hr:r=some ns.length
  case neg =>
   rw[show (zt4 r != (ns.length:Int))=true from bne_iff_ne.2 (fun h=>by
    cases r with
    | none=>have h':(-1:Int)=(ns.length:Int):=h;omega
    | some m=>have h':(m:Int)=(ns.length:Int):=h;exact hr (by rw[show m=ns.length by omega]))]
   refine uR ?_;rw[zil hshape (by rw[hE1];exact hr)]
  subst hr;rw[show (zt4 (some ns.length) != (ns.length:Int))=false from bne_eq_false_iff_eq.2 rfl];refine uR ?_;refine EVL.loadOwn tO rfl rfl rfl rfl rfl rfl (1) rfl (rfl) rfl rfl ?_;refine uR ?_;by_cases hfar:far>10
  ·rw[qD hfar];refine uR ?_;rw[zjq hshape hE1 (by rw[hE2];exact hfar)]
  rw[qC hfar];obtain⟨hh,hsub,_,_⟩:=zc8 _ hE;have hfine:=fun (G:Hp) (hG:H.Le G) (i:Nat) (n:Nd) (hn:ns[i]?=some n)=>(zpc (w:=w) hshape.2.2.1 (hns.mono hG) (hsl.mono hG) hsm hn (hsub.child hn)).mono (fun r _ h _=>(by obtain⟨b,e,h⟩:=h;rw[e,zii h]:r=.bool (@decide (zgb kd cl ns n) (Classical.propDecidable _))));refine uR ?_;refine EV.loopK (ι:=Nat) [1] [] (fun q=>[(4,.v (.int .i64 (q:Int)))]) (fun _=>[]) (fun _=>[(g1,42,[.int .i64 kd,.int .i64 cl,.int .i64 w,.slice a ns.length cp]),(g3,_,[.int .i64 far])]) (fun q _=>q≤ns.length∧∀(k:Nat) (n:Nd),k<q→ns[k]?=some n→zgb kd cl ns n) (fun q=>ns.length-q) (0) rfl rfl ⟨rfl,trivial⟩ trivial rfl (fun _=>rfl) (⟨qQ _,fun k n h=>absurd h (Nat.not_lt_zero _)⟩) ?_;rintro i G4 hG4 ⟨hi,hpr⟩;have hH4:=hG2.trans (hG3.trans hG4);refine uR ?_;refine EVL.fldB tO rfl rfl rfl rfl rfl rfl rfl ?_;refine EVL.loadOwn tO rfl rfl rfl rfl rfl rfl (0) rfl (rfl) rfl rfl ?_;refine uR ?_;refine EV.cond rfl (fun hlt=>?_) (fun hlt=>?_)
  ·simp only[nN]at hlt;obtain⟨n,hn⟩:=gE hlt;refine uR ?_;refine EVL.loadOwn tO rfl rfl rfl rfl rfl rfl (0) rfl (rfl) rfl rfl ?_
   repeat (first|refine RUN ?_|refine CV (hfine _ hH4 i n hn) ?_|refine CE (hfine _ hH4 i n hn) ?_)
   by_cases hF:zgb kd cl ns n
   ·rw[@qD _ (Classical.propDecidable _) hF];refine uR ?_;refine⟨i+1,⟨by rw[zab i (by omega)];rfl,trivial⟩,sB,trivial,trivial,rfl,⟨hlt,fun k m hk hm=>?_⟩,Hp.Le.refl _,by omega⟩;by_cases hk2:k<i
    ·exact hpr k m hk2 hm
    ·obtain rfl:k=i:=oM;cases hn.symm.trans hm;exact hF
   ·rw[@qC _ (Classical.propDecidable _) hF];refine uR ?_;rw[zik hshape hE1 (by rw[hE2];exact hfar) (fun h=>hF (h n (qF hn)))]
  ·simp only[nN]at hlt;obtain rfl:i=ns.length:=oM;refine uR ?_
   rw[zlB hshape hE1 (by rw[hE2];exact hfar) (fun n hn=>by
    obtain⟨k,hk⟩:=List.mem_iff_getElem?.1 hn;exact hpr k n (qE.1 hk).1 hk)]
set_option maxRecDepth 100000 in
theorem zcR {H:Hp} {kd cl w:Int} {ns:List Nd} {cs:List Value} (ht:zd4 H cs kd cl w ns) (hln:ns.length≤100000) (hsm:SmT ns):PC prog 15 #[.agg cs.toArray] H fun r _=>r=.int .i64 (zbc kd cl w ns):=by
 obtain⟨a,cp,css,rfl,hns,hsl⟩:=ht;refine BD func15 ntmps15 ?_;refine uR ?_;by_cases hk:kd=1∨kd=2
 case neg =>
  rw[show (kd != 1)=true from bne_iff_ne.2 (fun h=>hk (.inl h))];refine uR ?_;rw[show (kd != 2)=true from bne_iff_ne.2 (fun h=>hk (.inr h))];refine uR ?_;rw[zjp hk]
 refine EVL.meetK (ι:=Bool) [1,2] [1] (fun _=>[(17,.v (.bool false))]) (fun _=>[]) (fun _=>[]) (fun _ G=>H.Le G) rfl rfl (fun _=>rfl) ?_ ?_
 ·rcases hk with rfl | rfl
  ·try refine uR ?_
   exact⟨true,⟨rfl,trivial⟩,sB,trivial,sB,rfl,Hp.Le.refl _⟩
  ·try refine uR ?_
   exact⟨true,⟨rfl,trivial⟩,sB,trivial,sB,rfl,Hp.Le.refl _⟩
 rintro _ G1 hG1;refine uR ?_;by_cases w1:w<1
 ·rw[qD w1];refine uR ?_;rw[zcy hk (fun h=>by omega)]
 rw[qC w1];refine uR ?_;by_cases w2:w>20
 ·rw[qD w2];refine uR ?_;rw[zcy hk (fun h=>by omega)]
 rw[qC w2];refine uR ?_;by_cases l1:(ns.length:Int)<1
 ·rw[qD l1];refine uR ?_;rw[zcy hk (fun h=>by omega)]
 rw[qC l1];refine uR ?_;by_cases l2:(ns.length:Int)>2000
 ·rw[qD l2];refine uR ?_;rw[zcy hk (fun h=>by omega)]
 rw[qC l2];refine uR ?_;refine EVL.meetK (ι:=Bool) [1,2] [1] (fun b=>[(60,.v (.bool b))]) (fun _=>[]) (fun _=>[]) (fun b G=>H.Le G∧(b=false↔zb0 kd cl)) rfl rfl (fun _=>rfl) ?_ ?_
 ·rcases hk with rfl | rfl
  ·try refine uR ?_
   by_cases d1:cl<1
   ·rw[qD d1];refine uR ?_;exact⟨true,⟨rfl,trivial⟩,sB,trivial,sB,rfl,hG1,⟨fun h=>(by cases h),fun h=>absurd h (by unfold zb0;omega)⟩⟩
   rw[qC d1];refine uR ?_;by_cases d2:cl>12
   ·rw[qD d2];refine uR ?_;exact⟨true,⟨rfl,trivial⟩,sB,trivial,sB,rfl,hG1,⟨fun h=>(by cases h),fun h=>absurd h (by unfold zb0;omega)⟩⟩
   rw[qC d2];refine uR ?_;exact⟨false,⟨rfl,trivial⟩,sB,trivial,sB,rfl,hG1,⟨fun _=>.inl ⟨rfl,by omega,by omega⟩,fun _=>rfl⟩⟩
  ·try refine uR ?_
   by_cases d1:cl=0
   case neg =>
    rw[show (cl != 0)=true from bne_iff_ne.2 d1];refine uR ?_;exact⟨true,⟨rfl,trivial⟩,sB,trivial,sB,rfl,hG1,⟨fun h=>(by cases h),fun h=>absurd h (by unfold zb0;omega)⟩⟩
   rw[show (cl != 0)=false from bne_eq_false_iff_eq.2 d1];refine uR ?_;exact⟨false,⟨rfl,trivial⟩,sB,trivial,sB,rfl,hG1,⟨fun _=>.inr ⟨rfl,d1⟩,fun _=>rfl⟩⟩
 rintro b G2 ⟨hG2,hb⟩
 cases b with
 | true =>
  refine uR ?_;rw[zcy hk (fun h=>by have:=hb.2 h.2.2.1;cases this)]
 | false =>
  have hshape:1≤w∧w≤20∧zb0 kd cl∧1≤ns.length∧ns.length≤2000:=⟨by omega,by omega,hb.1 rfl,by omega,by omega⟩;have hend:=fun (b:Nat) (T:TypeId)=>ziH (b:=b) (T:=T) (kd:=kd) (cl:=cl) (w:=w) (a:=a) (cp:=cp) (by omega:ns.length≤1000000) (fun n hn=>zaL (hsm n hn).1 oM) (ns.length+1) (k:=0) (deep:=0) (far:=0) (hns.mono hG2) (hsl.mono hG2) (qH _) (qQ _) oM;refine uR ?_;(first|refine EVL.unbox (3) rfl fun g3=>?_|refine EV.unbox (3) rfl fun g3=>?_);refine uR ?_;refine vW ([(g3,107,ze5 kd cl w (.slice a ns.length cp) 0)]) ([]) (hend _ _) ?_;obtain⟨r,far,hE⟩:∃r far,zcO ns w (ns.length+1) 0 0 0=(r,far):=⟨_,_,rfl⟩;have hE1:(zcO ns w (ns.length+1) 0 0 0).1=r:=by rw[hE]
  have hE2:(zcO ns w (ns.length+1) 0 0 0).2=far:=by rw[hE]
  rw[hE];rintro _ _ G3 ⟨⟨x,rfl,hx⟩,rfl⟩ hG3;dsimp only at hx;by_cases hr:r=some ns.length
  case neg =>
   cases r with
   | none =>
    refine uR ?_;rw[zil hshape (by rw[hE1];exact hr)]
   | some m =>
    obtain rfl:=hx m rfl;have hm:m≠ns.length:=fun h=>hr (by rw[h]);refine uR ?_;rw[show ((m:Int) != (ns.length:Int))=true from bne_iff_ne.2 (by omega)];refine uR ?_;rw[zil hshape (by rw[hE1];exact hr)]
  subst hr;obtain rfl:=hx _ rfl;refine uR ?_;rw[show ((ns.length:Int) != (ns.length:Int))=false from pO _];refine uR ?_;refine EVL.fldB tO rfl rfl rfl rfl rfl rfl rfl ?_;refine EVL.loadOwn tO rfl rfl rfl rfl rfl rfl (0) rfl (rfl) rfl rfl ?_;refine uR ?_;by_cases hfar:far>10
  ·rw[qD hfar];refine uR ?_;rw[zjq hshape hE1 (by rw[hE2];exact hfar)]
  rw[qC hfar];obtain⟨hh,hsub,_,_⟩:=zc8 _ hE;have hall:=zqs (hshape.2.2.1.imp And.left id) hsub rfl;have hno1:∀n,n∈ns→¬zcL kd cl n→zbc kd cl w ns=1:=fun n hn h=>zik hshape hE1 (by rw[hE2];exact hfar) (fun k=>h ((hall.1 k).1 n hn));have halone:=fun (G:Hp) (hG:H.Le G) (n:Nd) (c:List Value) (hm:n∈ns) (hnd:zbO G c n)=>(znc (w:=w) (vn:=.slice a ns.length cp) hshape.2.2.1 hnd (hsm n hm)).mono (fun r _ h _=>(by obtain⟨b,e,h⟩:=h;rw[e,zii h]:r=.bool (@decide (zcL kd cl n) (Classical.propDecidable _))));refine uR ?_;refine EV.loopK (ι:=Nat) [1,80,81] [1] (fun q=>[(82,.v (.int .i64 (q:Int)))]) (fun _=>[]) (fun _=>[(g3,_,ze5 kd cl w (.slice a ns.length cp) far)]) (fun q _=>q≤ns.length∧∀(k:Nat) (n:Nd),k<q→ns[k]?=some n→zcL kd cl n) (fun q=>ns.length-q) (0) rfl rfl ⟨rfl,trivial⟩ trivial rfl (fun _=>rfl) (⟨qQ _,fun k n h=>absurd h (Nat.not_lt_zero _)⟩) ?_;rintro i G4 hG4 ⟨hi,hpr⟩;have hH4:=hG2.trans (hG3.trans hG4);refine uR ?_;refine EV.cond rfl (fun hlt=>?_) (fun hlt=>?_)
  ·simp only[nN]at hlt;obtain⟨n,hn⟩:=gE hlt;obtain⟨c,hcut,hnd⟩:=(hns.mono hH4).get hn;have hal:=halone _ hH4 n c (qF hn) hnd;obtain⟨a7,c7,rfl,_⟩:=hnd.cells;refine uR ?_;refine EVL.idxM tO rfl rfl rfl rfl rfl rfl rfl rfl rfl ((hsl.mono hH4)) (i) (rfl) (hlt) (hcut) ?_
   repeat (first|refine RUN ?_|refine CV (hal) ?_|refine CE (hal) ?_)
   by_cases hF:zcL kd cl n
   ·rw[@qD _ (Classical.propDecidable _) hF];refine uR ?_;refine⟨i+1,⟨by rw[zab i (by omega)];rfl,trivial⟩,sB,trivial,sB,rfl,⟨hlt,fun k m hk hm=>?_⟩,Hp.Le.refl _,by omega⟩;by_cases hk2:k<i
    ·exact hpr k m hk2 hm
    ·obtain rfl:k=i:=oM;cases hn.symm.trans hm;exact hF
   ·rw[@qC _ (Classical.propDecidable _) hF];refine uR ?_;rw[hno1 n (qF hn) hF]
  ·simp only[nN]at hlt;obtain rfl:i=ns.length:=oM
   have hA:∀n,n∈ns→zcL kd cl n:=fun n hn=>by
    obtain⟨k,hk⟩:=List.mem_iff_getElem?.1 hn;exact hpr k n (qE.1 hk).1 hk
   refine uR ?_;refine EV.loopK (ι:=Nat) [1,92,93] [1] (fun q=>[(94,.v (.int .i64 (q:Int)))]) (fun _=>[]) (fun _=>[(g3,_,ze5 kd cl w (.slice a ns.length cp) far)]) (fun q _=>q≤ns.length∧∀(k:Nat) (n:Nd),k<q→ns[k]?=some n→n.col ≠ -1→∃a b,ns[n.left.toNat]?=some a∧ns[n.right.toNat]?=some b∧znS n a b) (fun q=>ns.length-q) (0) rfl rfl ⟨rfl,trivial⟩ trivial rfl (fun _=>rfl) (⟨qQ _,fun k n h=>absurd h (Nat.not_lt_zero _)⟩) ?_;rintro j G5 hG5 ⟨hj,hpa⟩;have hH5:=hH4.trans hG5;refine uR ?_;refine EV.cond rfl (fun hlj=>?_) (fun hlj=>?_)
   ·simp only[nN]at hlj;obtain⟨n,hn⟩:=gE hlj;obtain⟨c,hcut,hnd⟩:=(hns.mono hH5).get hn;have hnd0:=hnd;obtain⟨a7,c7,rfl,_⟩:=hnd.cells;have hmn:=qF hn;refine uR ?_;refine EVL.idxM tO rfl rfl rfl rfl rfl rfl rfl rfl rfl ((hsl.mono hH5)) (j) (rfl) (hlj) (hcut) ?_;refine uR ?_;by_cases hcm:n.col = -1
    ·have hb1:(n.col != -1)=false:=bne_eq_false_iff_eq.2 hcm;apply EV.drawn 19 kR kR;intro xv yw;(repeat refine' DD ?_);rw[hb1];(repeat refine' DD ?_);(refine DJ.nil (fun G6 hG6 hF6=>?_);(case hS|hS2=>rfl));refine uR ?_;refine⟨j+1,⟨by rw[zab j (by omega)];rfl,trivial⟩,sB,trivial,sB,rfl,⟨hlj,fun k m hk hm hc=>?_⟩,hG6,by omega⟩;by_cases hk2:k<j
     ·exact hpa k m hk2 hm hc
     ·obtain rfl:k=j:=oM;cases hn.symm.trans hm;exact absurd hcm hc
    ·have hb1:(n.col != -1)=true:=bne_iff_ne.2 hcm;obtain⟨hc0,hl0,hr0,na,nb,hna,hnb⟩:=(hsub.child hn).resolve_left hcm;have hla:=(qE.1 hna).1;have hlb:=(qE.1 hnb).1;obtain⟨ca,hcuta,hnda⟩:=(hns.mono hH5).get hna;obtain⟨cb,hcutb,hndb⟩:=(hns.mono hH5).get hnb;have hma:=qF hna;have hmb:=qF hnb;have hadds:=fun (G:Hp) (hG:G5.Le G)=>(zoX (kd:=kd) (cl:=cl) hshape.2.2.1 (hnd0.mono hG) (hnda.mono hG) (hndb.mono hG) (hsm n hmn) (hsm na hma) (hsm nb hmb) (hA n hmn) (hA na hma) (hA nb hmb)).mono (fun r _ h _=>(by obtain⟨b,e,h⟩:=h;rw[e,zii h]:r=.bool (@decide (znS n na nb) (Classical.propDecidable _))));obtain⟨xa7,xc7,rfl,_⟩:=hnda.cells;obtain⟨ya7,yc7,rfl,_⟩:=hndb.cells;by_cases hF:znS n na nb
     ·rw[@qD _ (Classical.propDecidable _) hF]at hadds;apply EV.drawn 19 kR kR;intro xv yw;(repeat refine' DD ?_);rw[hb1];(repeat refine' DD ?_);refine' DJ.idxM tO rfl rfl rfl rfl rfl rfl rfl rfl rfl ((hsl.mono hH5)) (n.left.toNat) ((by rw[Int.toNat_of_nonneg hl0])) (hla) (hcuta) ?_;rotate_left;(repeat refine' DD ?_);refine' DJ.idxM tO rfl rfl rfl rfl rfl rfl rfl rfl rfl ((hsl.mono hH5)) (n.right.toNat) ((by rw[Int.toNat_of_nonneg hr0])) (hlb) (hcutb) ?_;rotate_left;(repeat refine' DD ?_);refine' vC (cO func37) (fun G hG hd=>hadds G hG) ?_;rotate_left;(repeat refine' DD ?_);(refine DJ.nil (fun G6 hG6 hF6=>?_);(case hS|hS2=>rfl));refine uR ?_;refine⟨j+1,⟨by rw[zab j (by omega)];rfl,trivial⟩,sB,trivial,sB,rfl,⟨hlj,fun k m hk hm hc=>?_⟩,hG6,by omega⟩;by_cases hk2:k<j
      ·exact hpa k m hk2 hm hc
      ·obtain rfl:k=j:=oM;cases hn.symm.trans hm;exact⟨na,nb,hna,hnb,hF⟩
     ·rw[@qC _ (Classical.propDecidable _) hF]at hadds;apply EV.drawn 19 kR kR;intro xv yw;(repeat refine' DD ?_);rw[hb1];(repeat refine' DD ?_);refine' DJ.idxM tO rfl rfl rfl rfl rfl rfl rfl rfl rfl ((hsl.mono hH5)) (n.left.toNat) ((by rw[Int.toNat_of_nonneg hl0])) (hla) (hcuta) ?_;rotate_left;(repeat refine' DD ?_);refine' DJ.idxM tO rfl rfl rfl rfl rfl rfl rfl rfl rfl ((hsl.mono hH5)) (n.right.toNat) ((by rw[Int.toNat_of_nonneg hr0])) (hlb) (hcutb) ?_;rotate_left;(repeat refine' DD ?_);refine' vC (cO func37) (fun G hG hd=>hadds G hG) ?_;rotate_left;(repeat refine' DD ?_);(refine DJ.nil (fun G6 hG6 hF6=>?_);(case hS|hS2=>rfl));refine uR ?_
      rw[zik hshape hE1 (by rw[hE2];exact hfar) (fun h=>hF (by
       obtain⟨a',b',e1,e2,h3⟩:=(hall.1 h).2 n hmn hcm;cases hna.symm.trans e1;cases hnb.symm.trans e2;exact h3))]
   ·simp only[nN]at hlj;obtain rfl:j=ns.length:=oM;refine uR ?_
    rw[zlB hshape hE1 (by rw[hE2];exact hfar) (hall.2 ⟨hA,fun n hn=>by
     obtain⟨k,hk⟩:=List.mem_iff_getElem?.1 hn;exact hpa k n (qE.1 hk).1 hk⟩)]
theorem zn6 {kd cl w:Int} {ns:List Nd} (h:zbc kd cl w ns=0) (hsm:SmT ns):zce ⟨kd,cl,w,ns⟩:=by
 unfold zbc at h;split at h
 ·cases h
 split at h
 ·cases h
 rename_i h1 h2;have h2:=Classical.not_not.1 h2;split at h
 ·cases h
 rename_i h3;have h3:=Classical.not_not.1 h3;split at h
 ·cases h
 rename_i h4;split at h
 case isFalse=>cases h
 rename_i h5;obtain⟨r,far,hE⟩:∃r far,zcO ns w (ns.length+1) 0 0 0=(r,far):=⟨_,_,rfl⟩;rw[hE]at h3 h4;dsimp only at h3 h4;subst h3;obtain⟨hh,hs,_,hf⟩:=zc8 _ hE;exact zol h2.2.2.1 ⟨h2.1,h2.2.1⟩ h2.2.2.2.2 hs oM hsm h5
section
variable {H:Hp} {cs:List Value} {kd cl w:Int} {ns:List Nd} (ht:zd4 H cs kd cl w ns) (hln:ns.length≤100000) (hsm:SmT ns) (he:zbc kd cl w ns≠0)
include ht hln hsm he
theorem zuj (vx:Value) {xa:Option Addr} {xl xc:Nat} (hv:vx=.slice xa xl xc):PC prog 34 #[.agg cs.toArray,vx] H fun r _=>r=.tuple #[.slice none 0 0,.int .i64 1]:=by
 subst hv;have hck:=zcR ht hln hsm;obtain⟨a,cp,css,rfl,hns,hsl⟩:=ht;refine BD func34 ntmps34 ?_
 repeat (first|refine RUN ?_|refine CV (hck) ?_|refine CE (hck) ?_)
 rw[show (zbc kd cl w ns != 0)=true from bne_iff_ne.2 he];refine uR ?_;rfl
theorem zrM (vx:Value) {xa:Option Addr} {xl xc:Nat} (hv:vx=.slice xa xl xc):PC prog 12 #[.agg cs.toArray,vx] H fun r _=>r=.tuple #[.int .i64 0,.int .i64 1]:=by
 have hw:=zuj ht hln hsm he vx hv;subst hv;obtain⟨a,cp,css,rfl,hns,hsl⟩:=ht;refine BD func12 ntmps12 ?_;refine uR ?_;refine vA (hw) ?_;rintro r G rfl hG;refine uR ?_;rfl
theorem zrd (vx:Value) {xa:Option Addr} {xl xc:Nat} (hv:vx=.slice xa xl xc):PC prog 14 #[.agg cs.toArray,vx] H fun r _=>r=.tuple #[zae 0,.int .i64 0,.int .i64 1]:=by
 have hw:=zrM ht hln hsm he vx hv;subst hv;obtain⟨a,cp,css,rfl,hns,hsl⟩:=ht;refine BD func14 ntmps14 ?_;refine uR ?_;refine vA (hw) ?_;rintro r G rfl hG;refine uR ?_;rw[zbU]
theorem zmr:PC prog 17 #[.agg cs.toArray] H fun r _=>r=.slice none 0 0:=by
 have hck:=zcR ht hln hsm;obtain⟨a,cp,css,rfl,hns,hsl⟩:=ht;refine BD func17 ntmps17 ?_
 repeat (first|refine RUN ?_|refine CV (hck) ?_|refine CE (hck) ?_)
 rw[show (zbc kd cl w ns != 0)=true from bne_iff_ne.2 he];refine uR ?_;rfl
theorem zsX:PC prog 18 #[.agg cs.toArray] H fun r _=>r=.int .i64 0:=by
 have hck:=zcR ht hln hsm;obtain⟨a,cp,css,rfl,hns,hsl⟩:=ht;refine BD func18 ntmps18 ?_
 repeat (first|refine RUN ?_|refine CV (hck) ?_|refine CE (hck) ?_)
 rw[show (zbc kd cl w ns != 0)=true from bne_iff_ne.2 he];refine uR ?_;rfl
theorem ztS:PC prog 16 #[.agg cs.toArray] H fun r _=>r=.string ⟨#[]⟩:=by
 have hck:=zcR ht hln hsm;obtain⟨a,cp,css,rfl,hns,hsl⟩:=ht;refine BD func16 ntmps16 ?_
 repeat (first|refine RUN ?_|refine CV (hck) ?_|refine CE (hck) ?_)
 rw[show (zbc kd cl w ns != 0)=true from bne_iff_ne.2 he];refine uR ?_;rfl
theorem ztP:PC prog 19 #[.agg cs.toArray] H fun r _=>r=zae 0:=by
 have hlv:=zmr ht hln hsm he;obtain⟨a,cp,css,rfl,hns,hsl⟩:=ht;refine BD func19 ntmps19 ?_;refine uR ?_;refine vA (hlv) ?_;rintro r G rfl hG;refine uR ?_;refine EV.loopK (ι:=Nat) [1,2,7,8] [1,2] (fun i=>[(3,.p 3 0),(9,.v (.int .i64 (i:Int)))]) (fun i=>[(3,67,zac (zae 0))]) (fun _=>[]) (fun i _=>i=0) (fun i=>0) (0) rfl rfl ⟨rfl,rfl,trivial⟩ ⟨by rw[zaD];rfl,trivial⟩ rfl (fun _=>rfl) (rfl) ?_;rintro i G2 hG2 rfl;refine uR ?_;rfl
end
section
variable {n:Nat} {ops:Array Oper} {fuel:Nat} {L:Array Bool} {env:Env} {bx:Bxs} {H:Hs} {K:Env→Bxs→Hs→Prop} {d:Nat} {o:Oper} {I:World→Prop} {z:Option Nat}
theorem IS (i:Nat) {x:Operand} {lo hi:Option Operand} {T:TypeId} {te te':TE} {e:TypeId} {a0:Option Addr} {m cap:Nat} (l r:Nat) (hlo:lo=none∧l=0∨∃y k,lo=some y∧env.op y=some (.v (.int k (l:Int)))) (hhi:hi=none∧r=m∨∃y k,hi=some y∧env.op y=some (.v (.int k (r:Int)))) (hlh:l≤r) (hhc:r≤cap) (hmc:m≤cap)
  (h:EVG I z prog n ops fuel (L.setIfInBounds i true) ((d,.v (.slice (if cap=l then a0 else a0.map (·.add (l*te'.size))) (r-l) (cap-l)))::env) bx H K) (hi':ops[i]?=some o:=by exact rfl) (hs:Region.noSelect ops=true:=by kernel_rfl) (hf:Region.free .any ops L i=true:=by kernel_rfl) (hr:(Region.ready .any ops L).contains i=true:=by kernel_rfl) (hy:zmB .any ops L i=true:=by kernel_rfl) (hts:(z == some i)=false:=by kernel_rfl) (hw:zah ops env o=some true:=by exact rfl) (hd:o.dst=some d:=by exact rfl) (hn:Nat.blt d n=true:=by exact rfl)
  (ho:o.op=.slice T x lo hi none:=by exact rfl) (hx:env.op x=some (.v (.slice a0 m cap)):=by exact rfl) (ht:Tryz.tab.get T=some te:=by exact rfl) (hk:te.kind=.slice e:=by exact rfl) (ht':Tryz.tab.get e=some te':=by exact rfl):EVG I z prog n ops (fuel+1) L env bx H K :=
 EVG.take (J:=fun _=>True) i (.inr ⟨fun _=>trivial,fun e=>by rw[e]at hts;simp at hts⟩) hi' hs hf hr hy hw hd hn (fun β a W he _=>by
  have hkd:=(tO.get ht).kind;rw[hk]at hkd;have hkd':Tryz.prog.underlying T=some (.slice e):=hkd;have h1:a.eval x=.slice a0 m cap:=he x _ hx;unfold execOp;simp only[ho,Instr.sliceAt,h1,Option.map_none];rcases hlo with ⟨rfl,rfl⟩ | ⟨y,k,rfl,hyy⟩
  ·rcases hhi with ⟨rfl,rfl⟩ | ⟨y',k',rfl,hy'⟩
   ·simp[run_underlying hkd',Instr.slice,Instr.sliceBounds,(tO.get ht').size]
   ·have h2:a.eval y'=.int k' r:=he y' _ hy';simp[run_underlying hkd',Instr.slice,Instr.sliceBounds,Instr.sliceBound,h2,asIntOf,(tO.get ht').size,hhc]
  ·have h3:a.eval y=.int k l:=he y _ hyy;rcases hhi with ⟨rfl,rfl⟩ | ⟨y',k',rfl,hy'⟩
   ·simp[run_underlying hkd',Instr.slice,Instr.sliceBounds,Instr.sliceBound,h3,asIntOf,(tO.get ht').size,hlh]
   ·have h2:a.eval y'=.int k' r:=he y' _ hy';simp[run_underlying hkd',Instr.slice,Instr.sliceBounds,Instr.sliceBound,h2,h3,asIntOf,(tO.get ht').size,hhc,hlh]) h
end
end
section
theorem zlK:∀{css:List (List Value)},(∀c,c∈css→c.length=15)→css.flatten.length=css.length*15
 | [],_=>rfl
 | c::css,h=>by
  have h1:=h c (qf ..);have h2:=zlK (css:=css) fun d hd=>h d (qk _ hd);rw[List.flatten_cons,qJ,qR,h1,h2];omega
theorem zaR.len15 {H:Hp} {css:List (List Value)} {ns:List Nd} (h:zaR H css ns):∀c,c∈css→c.length=15:=fun c hc=>by
 obtain⟨i,hi⟩:=List.mem_iff_getElem?.1 hc;have hl:=(qE.1 hi).1;exact(h.2 i c _ hi (qA (by rw[←h.1];exact hl))).len
theorem zaR.around {H:Hp} {css:List (List Value)} {ns:List Nd} (h:zaR H css ns) {k:Nat} (hk:k<ns.length) {G:Hp} (hG:H.Le G) {d:List Value} {m:Nd} (hd:zdq G d m) :
  ∃css',zaR G css' (ns.set k m)∧(([]++(css.flatten.drop (0*15)).take ((k-0)*15))++d)++(css.flatten.drop ((k+1)*15)).take ((ns.length-(k+1))*15)=css'.flatten:=by
 have h15:=h.len15;have hl:=h.1;obtain⟨A,c,B,rfl,rfl⟩:=zrb (l:=css) (k:=k) (by rw[hl];exact hk);have hA:=zlK (css:=A) fun c hc=>h15 c (List.mem_append_left _ hc);have hB:=zlK (css:=B) fun c hc=>h15 c (List.mem_append_right _ (qk _ hc));have hc:=h15 c (List.mem_append_right _ (qf ..));rw[qJ,qR]at hl;refine⟨A++d::B,zsJ (h.mono hG) hd,?_⟩;have e1:(A++c::B).flatten=A.flatten++(c++B.flatten):=by simp
 rw[e1,Nat.zero_mul,List.drop_zero,Nat.sub_zero,pM,List.take_append_of_le_length oM,qO (by omega)]
 have e2:(A.flatten++(c++B.flatten)).drop ((A.length+1)*15)=B.flatten:=by
  rw[←qZ,List.drop_append_of_le_length (by rw[qJ];omega),qi (by rw[qJ];omega),pM]
 rw[e2,qO (by omega)];simp
theorem zaR.take_flat {H:Hp} {css:List (List Value)} {ns:List Nd} (h:zaR H css ns) {k:Nat} (hk:k≤ns.length):(css.flatten.drop (0*15)).take ((k-0)*15)=(css.take k).flatten:=by
 have h15:=h.len15;have hA:=zlK (css:=css.take k) fun c hc=>h15 c (List.mem_of_mem_take hc);rw[qP,h.1,qm hk]at hA;have e1:css.flatten=(css.take k).flatten++(css.drop k).flatten:=by rw[←List.flatten_append,List.take_append_drop]
 rw[Nat.zero_mul,List.drop_zero,Nat.sub_zero,e1,List.take_append_of_le_length oM,qO (by omega)]
end
section
open Go.RowKit _root_.Go.Proofs.Tryz
structure TN where
 kd:Int
 cl:Int
 w:Int
 cs:List Value
 n:Nd
structure TN.Ok (q:TN) (G:Hp):Prop where
 node:zdq G q.cs q.n
 small:ht q.n.at'≤200∧ht q.n.cost≤2000000∧ht q.n.value≤4000
 cnt:q.n.counts.length≤20
 wide:zfR q.w
theorem zoP:∀{l:List Value},(∀v∈l,v.oneCell'=true)→zdt l=true
 | [],_=>rfl
 | v::l,h=>by
  unfold zdt;rw[h v (qf ..),zoP fun u hu=>h u (qk _ hu)];rfl
theorem zl5 {l:List Value} (h:zdt l=true) (a b:Nat):zdt ((l.drop a).take b)=true :=
 zoP fun v hv=>zdU h v (List.mem_of_mem_drop (List.mem_of_mem_take hv))
theorem zaR.one {H:Hp}:∀{css:List (List Value)} {ns:List Nd},zaR H css ns→zdt css.flatten=true
 | [],_,_=>rfl
 | c::css,[],h=>by have:=h.1;simp at this
 | c::css,n::ns,h=>by
  rw[List.flatten_cons];obtain⟨_,_,_,_,_,_,_,_,_,_,_,_,_,_,_,_,_,_,_,_,_,_,_,rfl,_⟩:=(h.2 0 c n rfl rfl).cells;refine zl3 rfl (zaR.one (ns:=ns) ⟨?_,fun j c' n' e1 e2=>h.2 (j+1) c' n' (by rw[pL];exact e1) (by rw[pL];exact e2)⟩);have:=h.1;simpa using this
set_option maxRecDepth 100000 in
theorem treeChecks_pc {H:Hp} {vx vr0:Value} {row:List Int} (turn at' by':Int) (hx:zrR H vx) (hrw:IL H vr0 row) (hrwb:∀z,z∈row → -9223372036854775808≤z∧z<9223372036854775808) (htn:zfR turn) (hat:zfR at') (hby:zfR by'):PC prog 3 #[vx,.int .i64 turn,.int .i64 at',.int .i64 by',vr0] H fun r _=>r=.bool true:=by
 have ho1:=zoO hx;obtain⟨_,_,_,_,_,_,_,_,_,_,_,_,rfl,_⟩:=hx;obtain⟨wa0,wc0,rfl⟩:=SlC.val hrw;refine BD func3 ntmps3 ?_;refine uR ?_;refine vA (ho1) ?_;rintro r1 G1 ⟨kd,cl,least,gn,ga,va,p1,q1,gl,gc,vn,vc,N,W,D,l1,c1,l2,c2,vX,vR,b1,lg,ll,lr,rfl,hg1,hX1,hr1,hq1,hN,hW,hD,hl⟩ hG1;obtain⟨d,hd,hR,hcl4⟩:=hg1.gd (zeY _ _) (zlc N);have hlen:=zg6 ll N W;have hrows60:=fun x hx=>znA (l:=ll) (n:=N) (w:=W) x hx;generalize zfS ll N W=X at *
 have hrl:=znz (l:=lr) hN.1 hN.2;have hrin:=zpj (l:=lr) hN.1;generalize zcv lr N=rows at *
 obtain⟨hg0,hg5⟩:=zsN gn;generalize zq5 gn=g at *
 have g1:=zqW (D:=D) (least:=least) hd ⟨hN.1,by omega⟩ ⟨hW.1,by omega⟩ oM ⟨hl.1,by omega⟩ ⟨hg0,by omega⟩ hR hX1 hq1 hlen hrows60 hr1 oM oM hrin;obtain⟨hgr,ok1,gp1⟩:=g1;subst hlen;have hl1:=zeN gp1 D 0 rows 0 oM hrin;have hl0:=(GP.grow_len (trP d X least g fun s=>(zd5 W,s)) D 0 rows 0).1;generalize ((trP d X least g fun s=>(zd5 W,s)).grow D 0 rows 0).1=ns at *
 have h1l:ns.length≤40:=oM;obtain⟨ra,rc,rfl⟩:=SlC.val hr1;obtain⟨xa,xc,rfl⟩:=hX1.val;refine uR ?_;refine vA (hgr) ?_;rintro _ G2 ⟨_,rfl,ta,tca,cssa,rfl,hna,hsa⟩ hG2;have hk0:0≤at' % (ns.length:Int)∧at' % (ns.length:Int)<(ns.length:Int):=⟨Int.emod_nonneg _ oM,Int.emod_lt_of_pos _ oM⟩;have hp1:=zbd at' (ns.length:Int) hat oM oM;obtain⟨k,hk⟩:∃k:Nat,at' % (ns.length:Int)=(k:Int):=⟨(at' % (ns.length:Int)).toNat,by omega⟩;rw[hk]at hp1 hk0;have hkl:k<ns.length:=oM;have hp2:=zbd turn 16 htn oM oM;have hm0:0≤turn % 16∧turn % 16<16:=oM;generalize turn % 16=m at *
 obtain⟨n,hn⟩:=gE hkl;obtain⟨c,hcut,hnd⟩:=hna.get hn;obtain⟨b1',a1,l1',c1',a2,l2',c2',b3,a3,l3,c3,a4,l4,c4,b5,a5,l5,c5,a6,l6,c6,a7,c7,rfl,k1,k2,k3,k4⟩:=hnd.cells
 repeat (first|refine RUN ?_|refine CV (hp1) ?_|refine CE (hp1) ?_)
 refine EVL.idxM tO rfl rfl rfl rfl rfl rfl rfl rfl rfl (hsa) (k) (rfl) (hkl) (hcut) ?_;refine uR ?_;(first|refine EVL.unbox (18) rfl fun g8=>?_|refine EV.unbox (18) rfl fun g8=>?_);refine CV hp2 ?_
 (try refine zs8 ?_);refine EV.meetK (ι:=TN) [1,4,15,17,18] [] (fun _=>[]) (fun q=>[(15,42,[.int .i64 q.kd,.int .i64 q.cl,.int .i64 q.w,.slice ta ns.length tca])]) (fun q=>[(g8,48,q.cs)]) (fun q G=>G2.Le G∧q.Ok G) rfl rfl (fun _=>rfl) ?_ ?_
 ·obtain⟨n0,hn0,hN0,_⟩:=ok1.nodes k hkl;cases hn.symm.trans hn0;have hsm0:=hN0.small;have hc20:n.counts.length≤12:=by have hln:=hN0.len;dsimp only at hln;omega
  have hwB:zfR (W:Int):=by unfold zfR;omega
  have h16:m=0∨m=1∨m=2∨m=3∨m=4∨m=5∨m=6∨m=7∨m=8∨m=9∨m=10∨m=11∨m=12∨m=13∨m=14∨m=15:=oM;rcases h16 with rfl | rfl | rfl | rfl | rfl | rfl | rfl | rfl | rfl | rfl | rfl | rfl | rfl | rfl | rfl | rfl
  ·have hp3:=zbd by' 5 hby oM oM
   generalize by' % 5=z at *
   repeat (first|refine RUN ?_|refine CV (hp3) ?_|refine CE (hp3) ?_)
   refine EVL.fldB tO rfl rfl rfl rfl rfl rfl rfl ?_;refine EVL.storeOwn tO rfl rfl rfl rfl rfl rfl ([]) ([]) rfl rfl rfl rfl ((Nat.le_of_ble_eq_true rfl)) (rfl) ?_;refine uR ?_;exact⟨⟨d.kd,d.cl,(W:Int),_,{ n with col:=IntKind.i64.wrap (z-2) }⟩,trivial,sB,⟨rfl,trivial⟩,trivial,rfl,Hp.Le.refl _,⟨⟨_,_,_,_,k1,k2,k3,k4,rfl⟩,hsm0,by dsimp only;omega,hwB⟩⟩
  ·have hp3:=zbd by' 6 hby oM oM
   generalize by' % 6=z at *
   repeat (first|refine RUN ?_|refine CV (hp3) ?_|refine CE (hp3) ?_)
   refine EVL.fldB tO rfl rfl rfl rfl rfl rfl rfl ?_;refine EVL.storeOwn tO rfl rfl rfl rfl rfl rfl ([]) ([]) rfl rfl rfl rfl ((Nat.le_of_ble_eq_true rfl)) (rfl) ?_;refine uR ?_;exact⟨⟨d.kd,d.cl,(W:Int),_,{ n with left:=z }⟩,trivial,sB,⟨rfl,trivial⟩,trivial,rfl,Hp.Le.refl _,⟨⟨_,_,_,_,k1,k2,k3,k4,rfl⟩,hsm0,by dsimp only;omega,hwB⟩⟩
  ·have hp3:=zbd by' 9 hby oM oM
   generalize by' % 9=z at *
   repeat (first|refine RUN ?_|refine CV (hp3) ?_|refine CE (hp3) ?_)
   refine EVL.fldB tO rfl rfl rfl rfl rfl rfl rfl ?_;refine EVL.storeOwn tO rfl rfl rfl rfl rfl rfl ([]) ([]) rfl rfl rfl rfl ((Nat.le_of_ble_eq_true rfl)) (rfl) ?_;refine uR ?_;exact⟨⟨d.kd,d.cl,(W:Int),_,{ n with right:=z }⟩,trivial,sB,⟨rfl,trivial⟩,trivial,rfl,Hp.Le.refl _,⟨⟨_,_,_,_,k1,k2,k3,k4,rfl⟩,hsm0,by dsimp only;omega,hwB⟩⟩
  ·have hp3:=zbd by' 12 hby oM oM
   generalize by' % 12=z at *
   repeat (first|refine RUN ?_|refine CV (hp3) ?_|refine CE (hp3) ?_)
   refine EVL.fldB tO rfl rfl rfl rfl rfl rfl rfl ?_;refine EVL.storeOwn tO rfl rfl rfl rfl rfl rfl ([]) ([]) rfl rfl rfl rfl ((Nat.le_of_ble_eq_true rfl)) (rfl) ?_;refine uR ?_;exact⟨⟨d.kd,d.cl,(W:Int),_,{ n with rows:=z }⟩,trivial,sB,⟨rfl,trivial⟩,trivial,rfl,Hp.Le.refl _,⟨⟨_,_,_,_,k1,k2,k3,k4,rfl⟩,hsm0,by dsimp only;omega,hwB⟩⟩
  ·have hp3:=zbd by' 4 hby oM oM
   generalize by' % 4=z at *
   repeat (first|refine RUN ?_|refine CV (hp3) ?_|refine CE (hp3) ?_)
   refine EVL.fldB tO rfl rfl rfl rfl rfl rfl rfl ?_;refine EVL.storeOwn tO rfl rfl rfl rfl rfl rfl ([]) ([]) rfl rfl rfl rfl ((Nat.le_of_ble_eq_true rfl)) (rfl) ?_;refine uR ?_;exact⟨⟨d.kd,d.cl,(W:Int),_,{ n with cls:=z }⟩,trivial,sB,⟨rfl,trivial⟩,trivial,rfl,Hp.Le.refl _,⟨⟨_,_,_,_,k1,k2,k3,k4,rfl⟩,hsm0,by dsimp only;omega,hwB⟩⟩
  ·have hht:=zgE by'
   refine uR ?_;refine vA (ztI by' hby) ?_;rintro r3 G3 hr hG3;obtain⟨za1,zl1,zc1,za2,zl2,zc2,rfl,_⟩:=id hr;refine uR ?_;refine EVL.fldB tO rfl rfl rfl rfl rfl rfl rfl ?_;refine EVL.storeOwn tO rfl rfl rfl rfl rfl rfl ([]) ([]) rfl rfl rfl rfl ((Nat.le_of_ble_eq_true rfl)) (rfl) ?_;refine uR ?_;exact⟨⟨d.kd,d.cl,(W:Int),_,{ n with at':=zma by' }⟩,trivial,sB,⟨rfl,trivial⟩,trivial,rfl,hG3,⟨⟨_,_,_,_,hr,k2.mono hG3,k3.mono hG3,k4.mono hG3,rfl⟩,⟨by dsimp only;omega,hsm0.2⟩,by dsimp only;omega,hwB⟩⟩
  ·have hht:=zgE by'
   refine uR ?_;refine vA (ztI by' hby) ?_;rintro r3 G3 hr hG3;obtain⟨za1,zl1,zc1,za2,zl2,zc2,rfl,_⟩:=id hr;refine uR ?_;refine EVL.fldB tO rfl rfl rfl rfl rfl rfl rfl ?_;refine EVL.storeOwn tO rfl rfl rfl rfl rfl rfl ([]) ([]) rfl rfl rfl rfl ((Nat.le_of_ble_eq_true rfl)) (rfl) ?_;refine uR ?_;exact⟨⟨d.kd,d.cl,(W:Int),_,{ n with cost:=zma by' }⟩,trivial,sB,⟨rfl,trivial⟩,trivial,rfl,hG3,⟨⟨_,_,_,_,k1.mono hG3,hr,k3.mono hG3,k4.mono hG3,rfl⟩,⟨hsm0.1,by dsimp only;omega,hsm0.2.2⟩,by dsimp only;omega,hwB⟩⟩
  ·have hht:=zgE by'
   refine uR ?_;refine vA (ztI by' hby) ?_;rintro r3 G3 hr hG3;obtain⟨za1,zl1,zc1,za2,zl2,zc2,rfl,_⟩:=id hr;refine uR ?_;refine EVL.fldB tO rfl rfl rfl rfl rfl rfl rfl ?_;refine EVL.storeOwn tO rfl rfl rfl rfl rfl rfl ([]) ([]) rfl rfl rfl rfl ((Nat.le_of_ble_eq_true rfl)) (rfl) ?_;refine uR ?_;exact⟨⟨d.kd,d.cl,(W:Int),_,{ n with value:=zma by' }⟩,trivial,sB,⟨rfl,trivial⟩,trivial,rfl,hG3,⟨⟨_,_,_,_,k1.mono hG3,k2.mono hG3,hr,k4.mono hG3,rfl⟩,⟨hsm0.1,hsm0.2.1,by dsimp only;omega⟩,by dsimp only;omega,hwB⟩⟩
  ·try refine uR ?_
   refine EVL.lit0 tO rfl rfl rfl rfl rfl rfl rfl fun g2=>?_;refine uR ?_;refine EVL.fldB tO rfl rfl rfl rfl rfl rfl rfl ?_;refine EVL.loadOwn tO rfl rfl rfl rfl rfl rfl (1) rfl (rfl) rfl rfl ?_;refine uR ?_;refine EVL.appendR tO rfl rfl rfl rfl rfl rfl rfl rfl rfl rfl rfl rfl rfl [] [(g2,3,[])] [(g8,_,_)] rfl (zaE.full (m:=0) rfl oM) k4 (ziC n.counts) oM ?_;intro v2 ow2 hown2;rw[qt,pM]at hown2;obtain⟨a2',c2'',rfl⟩:=hown2.val;refine uR ?_;refine EVL.app1 tO rfl rfl rfl rfl rfl rfl rfl rfl rfl rfl rfl rfl rfl rfl rfl rfl rfl rfl rfl (fun _=>rfl) (ow2) ([(g8,_,_)]) (rfl) (hown2) oM fun _=>?_;intro v3 ow3 hown3;obtain⟨a3',c3',rfl⟩:=hown3.val;(first|refine EVL.publishL [] ow3 [(g8,_,_)] (rfl) hown3.il fun G5 hG5 hs5=>?_|refine EV.publishL [] ow3 [(g8,_,_)] (rfl) hown3.il fun G5 hG5 hs5=>?_);have hil3:IL G5 (.slice a3' (n.counts.length+1) c3') (n.counts++[0]):=hs5;refine uR ?_;refine EVL.fldB tO rfl rfl rfl rfl rfl rfl rfl ?_;refine EVL.storeOwn tO rfl rfl rfl rfl rfl rfl ([]) ([]) rfl rfl rfl rfl ((Nat.le_of_ble_eq_true rfl)) (rfl) ?_;refine uR ?_;exact⟨⟨d.kd,d.cl,(W:Int),_,{ n with counts:=n.counts++[0] }⟩,trivial,sB,⟨rfl,trivial⟩,trivial,rfl,hG5,⟨⟨_,_,_,_,k1.mono hG5,k2.mono hG5,k3.mono hG5,hil3,rfl⟩,hsm0,by dsimp only;rw[qJ,qv];omega,hwB⟩⟩
  ·by_cases h0:n.counts.length=0
   ·try refine uR ?_
    refine EVL.fldB tO rfl rfl rfl rfl rfl rfl rfl ?_;refine EVL.loadOwn tO rfl rfl rfl rfl rfl rfl (0) rfl (rfl) rfl rfl ?_;refine uR ?_;rw[qC (show ¬(n.counts.length:Int)>0 by omega)];refine uR ?_;exact⟨⟨d.kd,d.cl,(W:Int),_,n⟩,trivial,sB,⟨rfl,trivial⟩,trivial,rfl,Hp.Le.refl _,⟨⟨_,_,_,_,k1,k2,k3,k4,rfl⟩,hsm0,by dsimp only;omega,hwB⟩⟩
   obtain⟨j,hj⟩:∃j,n.counts.length=j+1:=⟨n.counts.length-1,by omega⟩;obtain⟨x,hxj⟩:∃x,n.counts[j]?=some x:=⟨_,qA oM⟩;rcases id k4.2 with ⟨e0,_⟩ | ⟨b7,off7,cap7,cc7,e7,hcap7,hc7,hcells7⟩
   ·exact absurd e0 h0
   cases e7;have hsub:=k4.sub 0 j (qQ _) oM hcap7;have wj:IntKind.i64.wrap ((n.counts.length:Int)-1)=(j:Int):=by rw[pK];omega
   refine uR ?_;refine EVL.fldB tO rfl rfl rfl rfl rfl rfl rfl ?_;refine EVL.loadOwn tO rfl rfl rfl rfl rfl rfl (0) rfl (rfl) rfl rfl ?_;refine uR ?_;rw[qD (show (n.counts.length:Int)>0 by omega)];refine uR ?_;refine EVG.start (fun W=>Box W g8 ([.int .i64 n.col,.int .i64 n.left,.int .i64 n.right,.int .i64 n.rows,.int .i64 n.cls,.bool b1',.slice a1 l1' c1',.slice a2 l2' c2',.bool b3,.slice a3 l3 c3,.slice a4 l4 c4,.bool b5,.slice a5 l5 c5,.slice a6 l6 c6,.slice (some ⟨b7,off7,none⟩) n.counts.length c7]:List Value).toArray 48∧Fits G2 W) (some 23) ?_;refine IF 1 ?_;refine ILQ 2 (b:=g8) (off:=0+14) (te:=Tryz.te22) (cs:=[.int .i64 n.col,.int .i64 n.left,.int .i64 n.right,.int .i64 n.rows,.int .i64 n.cls,.bool b1',.slice a1 l1' c1',.slice a2 l2' c2',.bool b3,.slice a3 l3 c3,.slice a4 l4 c4,.bool b5,.slice a5 l5 c5,.slice a6 l6 c6,.slice (some ⟨b7,off7,none⟩) n.counts.length c7]) (l:=[.slice (some ⟨b7,off7,none⟩) n.counts.length c7]) (fun _ h=>h.1) ?_ rfl rfl rfl;refine IF 3 ?_;refine ILQ 4 (b:=g8) (off:=0+14) (te:=Tryz.te22) (cs:=[.int .i64 n.col,.int .i64 n.left,.int .i64 n.right,.int .i64 n.rows,.int .i64 n.cls,.bool b1',.slice a1 l1' c1',.slice a2 l2' c2',.bool b3,.slice a3 l3 c3,.slice a4 l4 c4,.bool b5,.slice a5 l5 c5,.slice a6 l6 c6,.slice (some ⟨b7,off7,none⟩) n.counts.length c7]) (l:=[.slice (some ⟨b7,off7,none⟩) n.counts.length c7]) (fun _ h=>h.1) ?_ rfl rfl rfl;refine IV 5 ?_;refine IV 6 ?_;rw[wj];refine IS 7 0 j (.inl ⟨rfl,rfl⟩) (.inr ⟨_,IntKind.i64,rfl,rfl⟩) (qQ _) oM hcap7 ?_;refine IF 9 ?_;refine ILQ 10 (b:=g8) (off:=0+14) (te:=Tryz.te22) (cs:=[.int .i64 n.col,.int .i64 n.left,.int .i64 n.right,.int .i64 n.rows,.int .i64 n.cls,.bool b1',.slice a1 l1' c1',.slice a2 l2' c2',.bool b3,.slice a3 l3 c3,.slice a4 l4 c4,.bool b5,.slice a5 l5 c5,.slice a6 l6 c6,.slice (some ⟨b7,off7,none⟩) n.counts.length c7]) (l:=[.slice (some ⟨b7,off7,none⟩) n.counts.length c7]) (fun _ h=>h.1) ?_ rfl rfl rfl;refine IF 11 ?_;refine ILQ 12 (b:=g8) (off:=0+14) (te:=Tryz.te22) (cs:=[.int .i64 n.col,.int .i64 n.left,.int .i64 n.right,.int .i64 n.rows,.int .i64 n.cls,.bool b1',.slice a1 l1' c1',.slice a2 l2' c2',.bool b3,.slice a3 l3 c3,.slice a4 l4 c4,.bool b5,.slice a5 l5 c5,.slice a6 l6 c6,.slice (some ⟨b7,off7,none⟩) n.counts.length c7]) (l:=[.slice (some ⟨b7,off7,none⟩) n.counts.length c7]) (fun _ h=>h.1) ?_ rfl rfl rfl;refine IV 13 ?_;refine IV 14 ?_;rw[wj];refine IX 15 (q:=j) (m:=n.counts.length) ?_ rfl (show j<n.counts.length by omega);refine IRQ 16 (H0:=G2) (b:=b7) (off:=off7+j*1) (l:=[.int .i64 x]) (fun _ h=>h.2) ?_ hc7 (zqN (by rw[Nat.mul_one];exact hcells7 j _ (by rw[qK,hxj];rfl))) rfl rfl;refine IV 17 ?_;refine IV 18 ?_;refine IV 19 ?_
   have hone:zdt (((n.counts.map iv).drop (0*1)).take ((j-0)*1))=true:=by
    rw[Nat.zero_mul,List.drop_zero,←List.map_take];exact ziC _
   have hil:∀(v:Value) (ow:Ows) (m:Nat),zaE 3 1 v m (([]++((n.counts.map iv).drop (0*1)).take ((j-0)*1))++[.int .i64 (IntKind.i64.wrap (x+by'.tmod 3))]) ow→zaE 3 1 v (n.counts.take j++[IntKind.i64.wrap (x+by'.tmod 3)]).length ((n.counts.take j++[IntKind.i64.wrap (x+by'.tmod 3)]).map iv) ow:=fun v ow m h=>by
    have e:(([]++((n.counts.map iv).drop (0*1)).take ((j-0)*1))++[.int .i64 (IntKind.i64.wrap (x+by'.tmod 3))]:List Value)=(n.counts.take j++[IntKind.i64.wrap (x+by'.tmod 3)]).map iv:=by
     rw[Nat.zero_mul,List.drop_zero,pM,Nat.sub_zero,Nat.mul_one,←List.map_take,qn];rfl
    rw[e]at h;have hm:=h.1;rw[qV]at hm;obtain rfl:m=(n.counts.take j++[IntKind.i64.wrap (x+by'.tmod 3)]).length:=oM;exact h
   refine EVG.two 0 20 (za8 (p:=(g8,48,[.int .i64 n.col,.int .i64 n.left,.int .i64 n.right,.int .i64 n.rows,.int .i64 n.cls,.bool b1',.slice a1 l1' c1',.slice a2 l2' c2',.bool b3,.slice a3 l3 c3,.slice a4 l4 c4,.bool b5,.slice a5 l5 c5,.slice a6 l6 c6,.slice (some ⟨b7,off7,none⟩) n.counts.length c7])) (jj:=0) (.inr rfl) (Hp.Le.refl _)) kR rfl rfl ?_ ?_
   ·refine EVL.lit0 tO rfl rfl rfl rfl rfl rfl rfl fun g2=>?_;(first|refine EVL.swapOw ([(g2,_,_)]) ([(g8,_,_)]) (rfl) ?_|refine EV.swapOw ([(g2,_,_)]) ([(g8,_,_)]) (rfl) ?_);refine EVL.nil ⟨rfl,?_⟩;refine EVG.two 8 20 (za8 (p:=(g8,48,[.int .i64 n.col,.int .i64 n.left,.int .i64 n.right,.int .i64 n.rows,.int .i64 n.cls,.bool b1',.slice a1 l1' c1',.slice a2 l2' c2',.bool b3,.slice a3 l3 c3,.slice a4 l4 c4,.bool b5,.slice a5 l5 c5,.slice a6 l6 c6,.slice (some ⟨b7,off7,none⟩) n.counts.length c7])) (jj:=0) (.inr rfl) (Hp.Le.refl _)) kR rfl rfl ?_ ?_
    ·refine EVL.appendR tO rfl rfl rfl rfl rfl rfl rfl rfl rfl rfl rfl rfl rfl [(g8,_,_)] [(g2,3,[])] [] rfl (zaE.full (m:=0) rfl oM) hsub hone oM ?_;intro v2 ow2 hown2;refine EVL.nil ⟨rfl,?_⟩;refine EVG.one 20 (za8 (p:=(g8,48,[.int .i64 n.col,.int .i64 n.left,.int .i64 n.right,.int .i64 n.rows,.int .i64 n.cls,.bool b1',.slice a1 l1' c1',.slice a2 l2' c2',.bool b3,.slice a3 l3 c3,.slice a4 l4 c4,.bool b5,.slice a5 l5 c5,.slice a6 l6 c6,.slice (some ⟨b7,off7,none⟩) n.counts.length c7])) (jj:=0) (.inr rfl) (Hp.Le.refl _)) kR rfl ?_;refine EVL.lit tO rfl rfl rfl rfl rfl rfl rfl rfl rfl rfl rfl fun bl=>?_;refine EVL.nil ⟨rfl,?_⟩;refine EVG.one 21 (za8 (p:=(g8,48,[.int .i64 n.col,.int .i64 n.left,.int .i64 n.right,.int .i64 n.rows,.int .i64 n.cls,.bool b1',.slice a1 l1' c1',.slice a2 l2' c2',.bool b3,.slice a3 l3 c3,.slice a4 l4 c4,.bool b5,.slice a5 l5 c5,.slice a6 l6 c6,.slice (some ⟨b7,off7,none⟩) n.counts.length c7])) (jj:=1) (.inr rfl) (Hp.Le.refl _)) kR rfl ?_;refine EVL.append tO rfl rfl rfl rfl rfl rfl rfl rfl rfl rfl rfl rfl [(bl,_,_),(g8,_,_)] ow2 [] rfl hown2 (zb7.own 0 rfl rfl) rfl oM ?_;intro v3 ow3 hown3;obtain⟨a3',c3',rfl⟩:=hown3.val;refine EVL.subOw [] [(bl,_,_)] _ rfl ?_;refine EVL.nil ⟨rfl,?_⟩;refine EVG.one 22 (za8 (p:=(g8,48,[.int .i64 n.col,.int .i64 n.left,.int .i64 n.right,.int .i64 n.rows,.int .i64 n.cls,.bool b1',.slice a1 l1' c1',.slice a2 l2' c2',.bool b3,.slice a3 l3 c3,.slice a4 l4 c4,.bool b5,.slice a5 l5 c5,.slice a6 l6 c6,.slice (some ⟨b7,off7,none⟩) n.counts.length c7])) (jj:=0) (.inr rfl) (Hp.Le.refl _)) kR rfl ?_;refine EVL.fldB tO rfl rfl rfl rfl rfl rfl rfl ?_;refine EVL.nil ⟨rfl,?_⟩;refine EVG.one 23 (za8 (p:=(g8,48,[.int .i64 n.col,.int .i64 n.left,.int .i64 n.right,.int .i64 n.rows,.int .i64 n.cls,.bool b1',.slice a1 l1' c1',.slice a2 l2' c2',.bool b3,.slice a3 l3 c3,.slice a4 l4 c4,.bool b5,.slice a5 l5 c5,.slice a6 l6 c6,.slice (some ⟨b7,off7,none⟩) n.counts.length c7])) (jj:=0) (.inr rfl) (Hp.Le.refl _)) kR rfl ?_;refine EVL.storeOwn tO rfl rfl rfl rfl rfl rfl ([]) (ow3++[]) rfl rfl rfl rfl ((Nat.le_of_ble_eq_true rfl)) (rfl) ?_;(first|refine EVL.publishL [(g8,_,_)] ow3 [] (rfl) (hil _ _ _ hown3) fun G5 hG5 hs5=>?_|refine EV.publishL [(g8,_,_)] ow3 [] (rfl) (hil _ _ _ hown3) fun G5 hG5 hs5=>?_);refine EVL.nil ⟨rfl,?_⟩;refine EVG.nil (za8 (p:=(g8,48,[.int .i64 n.col,.int .i64 n.left,.int .i64 n.right,.int .i64 n.rows,.int .i64 n.cls,.bool b1',.slice a1 l1' c1',.slice a2 l2' c2',.bool b3,.slice a3 l3 c3,.slice a4 l4 c4,.bool b5,.slice a5 l5 c5,.slice a6 l6 c6,.slice (some ⟨b7,off7,none⟩) n.counts.length c7])) (jj:=0) (.inl kR) hG5) kR ?_;refine uR ?_;exact⟨⟨d.kd,d.cl,(W:Int),_,{ n with counts:=n.counts.take j++[IntKind.i64.wrap (x+by'.tmod 3)] }⟩,trivial,sB,⟨rfl,trivial⟩,trivial,rfl,hG5,⟨⟨_,_,_,_,k1.mono hG5,k2.mono hG5,k3.mono hG5,hs5,rfl⟩,hsm0,by dsimp only;rw[qJ,qv,qP];omega,hwB⟩⟩
    ·refine EVL.lit tO rfl rfl rfl rfl rfl rfl rfl rfl rfl rfl rfl fun bl=>?_;refine EVL.nil ⟨rfl,?_⟩;refine EVG.one 8 (za8 (p:=(g8,48,[.int .i64 n.col,.int .i64 n.left,.int .i64 n.right,.int .i64 n.rows,.int .i64 n.cls,.bool b1',.slice a1 l1' c1',.slice a2 l2' c2',.bool b3,.slice a3 l3 c3,.slice a4 l4 c4,.bool b5,.slice a5 l5 c5,.slice a6 l6 c6,.slice (some ⟨b7,off7,none⟩) n.counts.length c7])) (jj:=1) (.inr rfl) (Hp.Le.refl _)) kR rfl ?_;refine EVL.appendR tO rfl rfl rfl rfl rfl rfl rfl rfl rfl rfl rfl rfl rfl [(bl,_,_),(g8,_,_)] [(g2,3,[])] [] rfl (zaE.full (m:=0) rfl oM) hsub hone oM ?_;intro v2 ow2 hown2;refine EVL.nil ⟨rfl,?_⟩;refine EVG.one 21 (za8 (p:=(g8,48,[.int .i64 n.col,.int .i64 n.left,.int .i64 n.right,.int .i64 n.rows,.int .i64 n.cls,.bool b1',.slice a1 l1' c1',.slice a2 l2' c2',.bool b3,.slice a3 l3 c3,.slice a4 l4 c4,.bool b5,.slice a5 l5 c5,.slice a6 l6 c6,.slice (some ⟨b7,off7,none⟩) n.counts.length c7])) (jj:=1) (.inr rfl) (Hp.Le.refl _)) kR rfl ?_;refine EVL.append tO rfl rfl rfl rfl rfl rfl rfl rfl rfl rfl rfl rfl [(bl,_,_),(g8,_,_)] ow2 [] rfl hown2 (zb7.own 0 rfl rfl) rfl oM ?_;intro v3 ow3 hown3;obtain⟨a3',c3',rfl⟩:=hown3.val;refine EVL.subOw [] [(bl,_,_)] _ rfl ?_;refine EVL.nil ⟨rfl,?_⟩;refine EVG.one 22 (za8 (p:=(g8,48,[.int .i64 n.col,.int .i64 n.left,.int .i64 n.right,.int .i64 n.rows,.int .i64 n.cls,.bool b1',.slice a1 l1' c1',.slice a2 l2' c2',.bool b3,.slice a3 l3 c3,.slice a4 l4 c4,.bool b5,.slice a5 l5 c5,.slice a6 l6 c6,.slice (some ⟨b7,off7,none⟩) n.counts.length c7])) (jj:=0) (.inr rfl) (Hp.Le.refl _)) kR rfl ?_;refine EVL.fldB tO rfl rfl rfl rfl rfl rfl rfl ?_;refine EVL.nil ⟨rfl,?_⟩;refine EVG.one 23 (za8 (p:=(g8,48,[.int .i64 n.col,.int .i64 n.left,.int .i64 n.right,.int .i64 n.rows,.int .i64 n.cls,.bool b1',.slice a1 l1' c1',.slice a2 l2' c2',.bool b3,.slice a3 l3 c3,.slice a4 l4 c4,.bool b5,.slice a5 l5 c5,.slice a6 l6 c6,.slice (some ⟨b7,off7,none⟩) n.counts.length c7])) (jj:=0) (.inr rfl) (Hp.Le.refl _)) kR rfl ?_;refine EVL.storeOwn tO rfl rfl rfl rfl rfl rfl ([]) (ow3++[]) rfl rfl rfl rfl ((Nat.le_of_ble_eq_true rfl)) (rfl) ?_;(first|refine EVL.publishL [(g8,_,_)] ow3 [] (rfl) (hil _ _ _ hown3) fun G5 hG5 hs5=>?_|refine EV.publishL [(g8,_,_)] ow3 [] (rfl) (hil _ _ _ hown3) fun G5 hG5 hs5=>?_);refine EVL.nil ⟨rfl,?_⟩;refine EVG.nil (za8 (p:=(g8,48,[.int .i64 n.col,.int .i64 n.left,.int .i64 n.right,.int .i64 n.rows,.int .i64 n.cls,.bool b1',.slice a1 l1' c1',.slice a2 l2' c2',.bool b3,.slice a3 l3 c3,.slice a4 l4 c4,.bool b5,.slice a5 l5 c5,.slice a6 l6 c6,.slice (some ⟨b7,off7,none⟩) n.counts.length c7])) (jj:=0) (.inl kR) hG5) kR ?_;refine uR ?_;exact⟨⟨d.kd,d.cl,(W:Int),_,{ n with counts:=n.counts.take j++[IntKind.i64.wrap (x+by'.tmod 3)] }⟩,trivial,sB,⟨rfl,trivial⟩,trivial,rfl,hG5,⟨⟨_,_,_,_,k1.mono hG5,k2.mono hG5,k3.mono hG5,hs5,rfl⟩,hsm0,by dsimp only;rw[qJ,qv,qP];omega,hwB⟩⟩
   ·refine EVL.lit tO rfl rfl rfl rfl rfl rfl rfl rfl rfl rfl rfl fun bl=>?_;refine EVL.nil ⟨rfl,?_⟩;refine EVG.one 0 (za8 (p:=(g8,48,[.int .i64 n.col,.int .i64 n.left,.int .i64 n.right,.int .i64 n.rows,.int .i64 n.cls,.bool b1',.slice a1 l1' c1',.slice a2 l2' c2',.bool b3,.slice a3 l3 c3,.slice a4 l4 c4,.bool b5,.slice a5 l5 c5,.slice a6 l6 c6,.slice (some ⟨b7,off7,none⟩) n.counts.length c7])) (jj:=1) (.inr rfl) (Hp.Le.refl _)) kR rfl ?_;refine EVL.lit0 tO rfl rfl rfl rfl rfl rfl rfl fun g2=>?_;(first|refine EVL.swapOw ([(g2,_,_)]) ([(bl,_,_),(g8,_,_)]) (rfl) ?_|refine EV.swapOw ([(g2,_,_)]) ([(bl,_,_),(g8,_,_)]) (rfl) ?_);refine EVL.nil ⟨rfl,?_⟩;refine EVG.one 8 (za8 (p:=(g8,48,[.int .i64 n.col,.int .i64 n.left,.int .i64 n.right,.int .i64 n.rows,.int .i64 n.cls,.bool b1',.slice a1 l1' c1',.slice a2 l2' c2',.bool b3,.slice a3 l3 c3,.slice a4 l4 c4,.bool b5,.slice a5 l5 c5,.slice a6 l6 c6,.slice (some ⟨b7,off7,none⟩) n.counts.length c7])) (jj:=1) (.inr rfl) (Hp.Le.refl _)) kR rfl ?_;refine EVL.appendR tO rfl rfl rfl rfl rfl rfl rfl rfl rfl rfl rfl rfl rfl [(bl,_,_),(g8,_,_)] [(g2,3,[])] [] rfl (zaE.full (m:=0) rfl oM) hsub hone oM ?_;intro v2 ow2 hown2;refine EVL.nil ⟨rfl,?_⟩;refine EVG.one 21 (za8 (p:=(g8,48,[.int .i64 n.col,.int .i64 n.left,.int .i64 n.right,.int .i64 n.rows,.int .i64 n.cls,.bool b1',.slice a1 l1' c1',.slice a2 l2' c2',.bool b3,.slice a3 l3 c3,.slice a4 l4 c4,.bool b5,.slice a5 l5 c5,.slice a6 l6 c6,.slice (some ⟨b7,off7,none⟩) n.counts.length c7])) (jj:=1) (.inr rfl) (Hp.Le.refl _)) kR rfl ?_;refine EVL.append tO rfl rfl rfl rfl rfl rfl rfl rfl rfl rfl rfl rfl [(bl,_,_),(g8,_,_)] ow2 [] rfl hown2 (zb7.own 0 rfl rfl) rfl oM ?_;intro v3 ow3 hown3;obtain⟨a3',c3',rfl⟩:=hown3.val;refine EVL.subOw [] [(bl,_,_)] _ rfl ?_;refine EVL.nil ⟨rfl,?_⟩;refine EVG.one 22 (za8 (p:=(g8,48,[.int .i64 n.col,.int .i64 n.left,.int .i64 n.right,.int .i64 n.rows,.int .i64 n.cls,.bool b1',.slice a1 l1' c1',.slice a2 l2' c2',.bool b3,.slice a3 l3 c3,.slice a4 l4 c4,.bool b5,.slice a5 l5 c5,.slice a6 l6 c6,.slice (some ⟨b7,off7,none⟩) n.counts.length c7])) (jj:=0) (.inr rfl) (Hp.Le.refl _)) kR rfl ?_;refine EVL.fldB tO rfl rfl rfl rfl rfl rfl rfl ?_;refine EVL.nil ⟨rfl,?_⟩;refine EVG.one 23 (za8 (p:=(g8,48,[.int .i64 n.col,.int .i64 n.left,.int .i64 n.right,.int .i64 n.rows,.int .i64 n.cls,.bool b1',.slice a1 l1' c1',.slice a2 l2' c2',.bool b3,.slice a3 l3 c3,.slice a4 l4 c4,.bool b5,.slice a5 l5 c5,.slice a6 l6 c6,.slice (some ⟨b7,off7,none⟩) n.counts.length c7])) (jj:=0) (.inr rfl) (Hp.Le.refl _)) kR rfl ?_;refine EVL.storeOwn tO rfl rfl rfl rfl rfl rfl ([]) (ow3++[]) rfl rfl rfl rfl ((Nat.le_of_ble_eq_true rfl)) (rfl) ?_;(first|refine EVL.publishL [(g8,_,_)] ow3 [] (rfl) (hil _ _ _ hown3) fun G5 hG5 hs5=>?_|refine EV.publishL [(g8,_,_)] ow3 [] (rfl) (hil _ _ _ hown3) fun G5 hG5 hs5=>?_);refine EVL.nil ⟨rfl,?_⟩;refine EVG.nil (za8 (p:=(g8,48,[.int .i64 n.col,.int .i64 n.left,.int .i64 n.right,.int .i64 n.rows,.int .i64 n.cls,.bool b1',.slice a1 l1' c1',.slice a2 l2' c2',.bool b3,.slice a3 l3 c3,.slice a4 l4 c4,.bool b5,.slice a5 l5 c5,.slice a6 l6 c6,.slice (some ⟨b7,off7,none⟩) n.counts.length c7])) (jj:=0) (.inl kR) hG5) kR ?_;refine uR ?_;exact⟨⟨d.kd,d.cl,(W:Int),_,{ n with counts:=n.counts.take j++[IntKind.i64.wrap (x+by'.tmod 3)] }⟩,trivial,sB,⟨rfl,trivial⟩,trivial,rfl,hG5,⟨⟨_,_,_,_,k1.mono hG5,k2.mono hG5,k3.mono hG5,hs5,rfl⟩,hsm0,by dsimp only;rw[qJ,qv,qP];omega,hwB⟩⟩
  ·have hp3:=zbd by' 4 hby oM oM
   generalize by' % 4=z at *
   repeat (first|refine RUN ?_|refine CV (hp3) ?_|refine CE (hp3) ?_)
   exact⟨⟨z,d.cl,(W:Int),_,n⟩,trivial,sB,⟨rfl,trivial⟩,trivial,rfl,Hp.Le.refl _,⟨⟨_,_,_,_,k1,k2,k3,k4,rfl⟩,hsm0,by dsimp only;omega,hwB⟩⟩
  ·try refine uR ?_
   exact⟨⟨d.kd,d.cl,by',_,n⟩,trivial,sB,⟨rfl,trivial⟩,trivial,rfl,Hp.Le.refl _,⟨⟨_,_,_,_,k1,k2,k3,k4,rfl⟩,hsm0,by dsimp only;omega,hby⟩⟩
  ·have hp3:=zbd by' 6 hby oM oM
   generalize by' % 6=z at *
   repeat (first|refine RUN ?_|refine CV (hp3) ?_|refine CE (hp3) ?_)
   exact⟨⟨d.kd,z,(W:Int),_,n⟩,trivial,sB,⟨rfl,trivial⟩,trivial,rfl,Hp.Le.refl _,⟨⟨_,_,_,_,k1,k2,k3,k4,rfl⟩,hsm0,by dsimp only;omega,hwB⟩⟩
  ·try refine uR ?_
   exact⟨⟨d.kd,d.cl,(W:Int),_,n⟩,trivial,sB,⟨rfl,trivial⟩,trivial,rfl,Hp.Le.refl _,⟨⟨_,_,_,_,k1,k2,k3,k4,rfl⟩,hsm0,by dsimp only;omega,hwB⟩⟩
  ·try refine uR ?_
   exact⟨⟨d.kd,d.cl,(W:Int),_,n⟩,trivial,sB,⟨rfl,trivial⟩,trivial,rfl,Hp.Le.refl _,⟨⟨_,_,_,_,k1,k2,k3,k4,rfl⟩,hsm0,by dsimp only;omega,hwB⟩⟩
  ·try refine uR ?_
   exact⟨⟨d.kd,d.cl,(W:Int),_,n⟩,trivial,sB,⟨rfl,trivial⟩,trivial,rfl,Hp.Le.refl _,⟨⟨_,_,_,_,k1,k2,k3,k4,rfl⟩,hsm0,by dsimp only;omega,hwB⟩⟩
 rintro⟨kd',cl',w',cs',n'⟩ G3 ⟨hG3,hq⟩;obtain⟨hnd',hsm',hc',hwB⟩:=hq;dsimp only at hnd' hsm' hc' hwB;have hsa:SlC G2 (.slice ta ns.length tca) ns.length 15 cssa.flatten:=hsa;rcases id hsa.2 with ⟨e0,_⟩ | ⟨ba,offa,capa,ca,ea,hcapa,hca,hcellsa⟩
 ·omega
 cases ea;obtain⟨b1n,a1n,l1n,c1n,a2n,l2n,c2n,b3n,a3n,l3n,c3n,a4n,l4n,c4n,b5n,a5n,l5n,c5n,a6n,l6n,c6n,a7n,c7n,rfl,m1,m2,m3,m4⟩:=hnd'.cells;(first|refine EVL.publish [] [] rfl fun G4 hG4 hb4=>?_|refine EV.publish [] [] rfl fun G4 hG4 hb4=>?_);(first|refine EVL.unbox (15) rfl fun g5=>?_|refine EV.unbox (15) rfl fun g5=>?_);have hK4:G2.Le G4:=hG3.trans hG4;have hsub1:=(hsa.mono hK4).sub 0 k (qQ _) oM hcapa;have hsub2:=(hsa.mono hK4).sub (k+1) ns.length oM (qH _) hcapa;have wk1:IntKind.i64.wrap ((k:Int)+1)=((k+1:Nat):Int):=zab k oM;refine uR ?_;have hone1:=zl5 hna.one (0*15) ((k-0)*15);have hone2:=zl5 hna.one ((k+1)*15) ((ns.length-(k+1))*15);have hM:0+(k-0)+1+(ns.length-(k+1))=ns.length:=oM;refine EV.meetK (ι:=Option Addr × Nat) [1,4,15,17] [] (fun _=>[]) (fun _=>[]) (fun q=>[(g5,42,[.int .i64 kd',.int .i64 cl',.int .i64 w',.slice q.1 ns.length q.2])]) (fun q G=>G4.Le G∧SlC G (.slice q.1 ns.length q.2) ns.length 15 ((([]++(cssa.flatten.drop (0*15)).take ((k-0)*15))++[.int .i64 n'.col,.int .i64 n'.left,.int .i64 n'.right,.int .i64 n'.rows,.int .i64 n'.cls,.bool b1n,.slice a1n l1n c1n,.slice a2n l2n c2n,.bool b3n,.slice a3n l3n c3n,.slice a4n l4n c4n,.bool b5n,.slice a5n l5n c5n,.slice a6n l6n c6n,.slice a7n n'.counts.length c7n])++(cssa.flatten.drop ((k+1)*15)).take ((ns.length-(k+1))*15))) rfl rfl (fun _=>rfl) ?_ ?_
 ·refine EVG.start (fun W=>Box W g5 ([.int .i64 kd',.int .i64 cl',.int .i64 w',.slice (some ⟨ba,offa,none⟩) ns.length tca]:List Value).toArray 42∧Fits G4 W) (some 16) ?_;refine IF 1 ?_;refine ILQ 2 (b:=g5) (off:=0+3) (te:=Tryz.te40) (cs:=[.int .i64 kd',.int .i64 cl',.int .i64 w',.slice (some ⟨ba,offa,none⟩) ns.length tca]) (l:=[.slice (some ⟨ba,offa,none⟩) ns.length tca]) (fun _ h=>h.1) ?_ rfl rfl rfl;refine IV 3 ?_;refine IS 4 0 k (.inl ⟨rfl,rfl⟩) (.inr ⟨_,IntKind.i64,rfl,rfl⟩) (qQ _) oM hcapa ?_;refine IF 9 ?_;refine ILQ 10 (b:=g5) (off:=0+3) (te:=Tryz.te40) (cs:=[.int .i64 kd',.int .i64 cl',.int .i64 w',.slice (some ⟨ba,offa,none⟩) ns.length tca]) (l:=[.slice (some ⟨ba,offa,none⟩) ns.length tca]) (fun _ h=>h.1) ?_ rfl rfl rfl;refine IV 11 ?_;refine IV 12 ?_;rw[wk1];refine IS 13 (k+1) ns.length (.inr ⟨_,IntKind.i64,rfl,rfl⟩) (.inl ⟨rfl,rfl⟩) oM hcapa hcapa ?_;refine IRQ 6 (H0:=G4) (b:=g8) (off:=0) (l:=[.int .i64 n'.col,.int .i64 n'.left,.int .i64 n'.right,.int .i64 n'.rows,.int .i64 n'.cls,.bool b1n,.slice a1n l1n c1n,.slice a2n l2n c2n,.bool b3n,.slice a3n l3n c3n,.slice a4n l4n c4n,.bool b5n,.slice a5n l5n c5n,.slice a6n l6n c6n,.slice a7n n'.counts.length c7n]) (fun _ h=>h.2) ?_ hb4 (fun j u hj=>by rw[qt];simpa using hj) rfl rfl;refine EVG.two 0 7 (za8 (p:=(g5,42,[.int .i64 kd',.int .i64 cl',.int .i64 w',.slice (some ⟨ba,offa,none⟩) ns.length tca])) (jj:=0) (.inr rfl) (Hp.Le.refl _)) kR rfl rfl ?_ ?_
  ·refine EVL.lit0 tO rfl rfl rfl rfl rfl rfl rfl fun g2=>?_;(first|refine EVL.swapOw ([(g2,_,_)]) ([(g5,_,_)]) (rfl) ?_|refine EV.swapOw ([(g2,_,_)]) ([(g5,_,_)]) (rfl) ?_);refine EVL.nil ⟨rfl,?_⟩;refine EVG.two 5 7 (za8 (p:=(g5,42,[.int .i64 kd',.int .i64 cl',.int .i64 w',.slice (some ⟨ba,offa,none⟩) ns.length tca])) (jj:=0) (.inr rfl) (Hp.Le.refl _)) kR rfl rfl ?_ ?_
   ·refine EVL.appendR tO rfl rfl rfl rfl rfl rfl rfl rfl rfl rfl rfl rfl rfl [(g5,_,_)] [(g2,48,[])] [] rfl (zaE.full (m:=0) rfl oM) hsub1 hone1 oM ?_;intro v2 ow2 hown2;refine EVL.nil ⟨rfl,?_⟩;refine EVG.one 7 (za8 (p:=(g5,42,[.int .i64 kd',.int .i64 cl',.int .i64 w',.slice (some ⟨ba,offa,none⟩) ns.length tca])) (jj:=0) (.inr rfl) (Hp.Le.refl _)) kR rfl ?_;refine EVL.lit tO rfl rfl rfl rfl rfl rfl rfl rfl rfl rfl rfl fun bl=>?_;refine EVL.nil ⟨rfl,?_⟩;refine EVG.one 8 (za8 (p:=(g5,42,[.int .i64 kd',.int .i64 cl',.int .i64 w',.slice (some ⟨ba,offa,none⟩) ns.length tca])) (jj:=1) (.inr rfl) (Hp.Le.refl _)) kR rfl ?_;refine EVL.append tO rfl rfl rfl rfl rfl rfl rfl rfl rfl rfl rfl rfl [(bl,_,_),(g5,_,_)] ow2 [] rfl hown2 (zb7.own 0 rfl rfl) rfl oM ?_;intro v3 ow3 hown3;obtain⟨a3',c3',rfl⟩:=hown3.val;refine EVL.subOw [] [(bl,_,_)] _ rfl ?_;refine EVL.nil ⟨rfl,?_⟩;refine EVG.one 14 (za8 (p:=(g5,42,[.int .i64 kd',.int .i64 cl',.int .i64 w',.slice (some ⟨ba,offa,none⟩) ns.length tca])) (jj:=0) (.inr rfl) (Hp.Le.refl _)) kR rfl ?_;refine EVL.appendR tO rfl rfl rfl rfl rfl rfl rfl rfl rfl rfl rfl rfl rfl [(g5,_,_)] ow3 [] rfl (hown3) hsub2 hone2 oM ?_;intro v4 ow4 hown4;rw[hM]at hown4;obtain⟨a4',c4',rfl⟩:=hown4.val;refine EVL.nil ⟨rfl,?_⟩;refine EVG.one 15 (za8 (p:=(g5,42,[.int .i64 kd',.int .i64 cl',.int .i64 w',.slice (some ⟨ba,offa,none⟩) ns.length tca])) (jj:=0) (.inr rfl) (Hp.Le.refl _)) kR rfl ?_;refine EVL.fldB tO rfl rfl rfl rfl rfl rfl rfl ?_;refine EVL.nil ⟨rfl,?_⟩;refine EVG.one 16 (za8 (p:=(g5,42,[.int .i64 kd',.int .i64 cl',.int .i64 w',.slice (some ⟨ba,offa,none⟩) ns.length tca])) (jj:=0) (.inr rfl) (Hp.Le.refl _)) kR rfl ?_;refine EVL.storeOwn tO rfl rfl rfl rfl rfl rfl ([]) (ow4++[]) rfl rfl rfl rfl ((Nat.le_of_ble_eq_true rfl)) (rfl) ?_;(first|refine EVL.publishL [(g5,_,_)] ow4 [] (rfl) hown4 fun G5 hG5 hs5=>?_|refine EV.publishL [(g5,_,_)] ow4 [] (rfl) hown4 fun G5 hG5 hs5=>?_);refine EVL.nil ⟨rfl,?_⟩;refine EVG.nil (za8 (p:=(g5,42,[.int .i64 kd',.int .i64 cl',.int .i64 w',.slice (some ⟨ba,offa,none⟩) ns.length tca])) (jj:=0) (.inl kR) hG5) kR ?_;refine uR ?_;exact⟨(a4',c4'),trivial,sB,trivial,trivial,rfl,hG5,hs5⟩
   ·refine EVL.lit tO rfl rfl rfl rfl rfl rfl rfl rfl rfl rfl rfl fun bl=>?_;refine EVL.nil ⟨rfl,?_⟩;refine EVG.one 5 (za8 (p:=(g5,42,[.int .i64 kd',.int .i64 cl',.int .i64 w',.slice (some ⟨ba,offa,none⟩) ns.length tca])) (jj:=1) (.inr rfl) (Hp.Le.refl _)) kR rfl ?_;refine EVL.appendR tO rfl rfl rfl rfl rfl rfl rfl rfl rfl rfl rfl rfl rfl [(bl,_,_),(g5,_,_)] [(g2,48,[])] [] rfl (zaE.full (m:=0) rfl oM) hsub1 hone1 oM ?_;intro v2 ow2 hown2;refine EVL.nil ⟨rfl,?_⟩;refine EVG.one 8 (za8 (p:=(g5,42,[.int .i64 kd',.int .i64 cl',.int .i64 w',.slice (some ⟨ba,offa,none⟩) ns.length tca])) (jj:=1) (.inr rfl) (Hp.Le.refl _)) kR rfl ?_;refine EVL.append tO rfl rfl rfl rfl rfl rfl rfl rfl rfl rfl rfl rfl [(bl,_,_),(g5,_,_)] ow2 [] rfl hown2 (zb7.own 0 rfl rfl) rfl oM ?_;intro v3 ow3 hown3;obtain⟨a3',c3',rfl⟩:=hown3.val;refine EVL.subOw [] [(bl,_,_)] _ rfl ?_;refine EVL.nil ⟨rfl,?_⟩;refine EVG.one 14 (za8 (p:=(g5,42,[.int .i64 kd',.int .i64 cl',.int .i64 w',.slice (some ⟨ba,offa,none⟩) ns.length tca])) (jj:=0) (.inr rfl) (Hp.Le.refl _)) kR rfl ?_;refine EVL.appendR tO rfl rfl rfl rfl rfl rfl rfl rfl rfl rfl rfl rfl rfl [(g5,_,_)] ow3 [] rfl (hown3) hsub2 hone2 oM ?_;intro v4 ow4 hown4;rw[hM]at hown4;obtain⟨a4',c4',rfl⟩:=hown4.val;refine EVL.nil ⟨rfl,?_⟩;refine EVG.one 15 (za8 (p:=(g5,42,[.int .i64 kd',.int .i64 cl',.int .i64 w',.slice (some ⟨ba,offa,none⟩) ns.length tca])) (jj:=0) (.inr rfl) (Hp.Le.refl _)) kR rfl ?_;refine EVL.fldB tO rfl rfl rfl rfl rfl rfl rfl ?_;refine EVL.nil ⟨rfl,?_⟩;refine EVG.one 16 (za8 (p:=(g5,42,[.int .i64 kd',.int .i64 cl',.int .i64 w',.slice (some ⟨ba,offa,none⟩) ns.length tca])) (jj:=0) (.inr rfl) (Hp.Le.refl _)) kR rfl ?_;refine EVL.storeOwn tO rfl rfl rfl rfl rfl rfl ([]) (ow4++[]) rfl rfl rfl rfl ((Nat.le_of_ble_eq_true rfl)) (rfl) ?_;(first|refine EVL.publishL [(g5,_,_)] ow4 [] (rfl) hown4 fun G5 hG5 hs5=>?_|refine EV.publishL [(g5,_,_)] ow4 [] (rfl) hown4 fun G5 hG5 hs5=>?_);refine EVL.nil ⟨rfl,?_⟩;refine EVG.nil (za8 (p:=(g5,42,[.int .i64 kd',.int .i64 cl',.int .i64 w',.slice (some ⟨ba,offa,none⟩) ns.length tca])) (jj:=0) (.inl kR) hG5) kR ?_;refine uR ?_;exact⟨(a4',c4'),trivial,sB,trivial,trivial,rfl,hG5,hs5⟩
  ·refine EVL.lit tO rfl rfl rfl rfl rfl rfl rfl rfl rfl rfl rfl fun bl=>?_;refine EVL.nil ⟨rfl,?_⟩;refine EVG.one 0 (za8 (p:=(g5,42,[.int .i64 kd',.int .i64 cl',.int .i64 w',.slice (some ⟨ba,offa,none⟩) ns.length tca])) (jj:=1) (.inr rfl) (Hp.Le.refl _)) kR rfl ?_;refine EVL.lit0 tO rfl rfl rfl rfl rfl rfl rfl fun g2=>?_;(first|refine EVL.swapOw ([(g2,_,_)]) ([(bl,_,_),(g5,_,_)]) (rfl) ?_|refine EV.swapOw ([(g2,_,_)]) ([(bl,_,_),(g5,_,_)]) (rfl) ?_);refine EVL.nil ⟨rfl,?_⟩;refine EVG.one 5 (za8 (p:=(g5,42,[.int .i64 kd',.int .i64 cl',.int .i64 w',.slice (some ⟨ba,offa,none⟩) ns.length tca])) (jj:=1) (.inr rfl) (Hp.Le.refl _)) kR rfl ?_;refine EVL.appendR tO rfl rfl rfl rfl rfl rfl rfl rfl rfl rfl rfl rfl rfl [(bl,_,_),(g5,_,_)] [(g2,48,[])] [] rfl (zaE.full (m:=0) rfl oM) hsub1 hone1 oM ?_;intro v2 ow2 hown2;refine EVL.nil ⟨rfl,?_⟩;refine EVG.one 8 (za8 (p:=(g5,42,[.int .i64 kd',.int .i64 cl',.int .i64 w',.slice (some ⟨ba,offa,none⟩) ns.length tca])) (jj:=1) (.inr rfl) (Hp.Le.refl _)) kR rfl ?_;refine EVL.append tO rfl rfl rfl rfl rfl rfl rfl rfl rfl rfl rfl rfl [(bl,_,_),(g5,_,_)] ow2 [] rfl hown2 (zb7.own 0 rfl rfl) rfl oM ?_;intro v3 ow3 hown3;obtain⟨a3',c3',rfl⟩:=hown3.val;refine EVL.subOw [] [(bl,_,_)] _ rfl ?_;refine EVL.nil ⟨rfl,?_⟩;refine EVG.one 14 (za8 (p:=(g5,42,[.int .i64 kd',.int .i64 cl',.int .i64 w',.slice (some ⟨ba,offa,none⟩) ns.length tca])) (jj:=0) (.inr rfl) (Hp.Le.refl _)) kR rfl ?_;refine EVL.appendR tO rfl rfl rfl rfl rfl rfl rfl rfl rfl rfl rfl rfl rfl [(g5,_,_)] ow3 [] rfl (hown3) hsub2 hone2 oM ?_;intro v4 ow4 hown4;rw[hM]at hown4;obtain⟨a4',c4',rfl⟩:=hown4.val;refine EVL.nil ⟨rfl,?_⟩;refine EVG.one 15 (za8 (p:=(g5,42,[.int .i64 kd',.int .i64 cl',.int .i64 w',.slice (some ⟨ba,offa,none⟩) ns.length tca])) (jj:=0) (.inr rfl) (Hp.Le.refl _)) kR rfl ?_;refine EVL.fldB tO rfl rfl rfl rfl rfl rfl rfl ?_;refine EVL.nil ⟨rfl,?_⟩;refine EVG.one 16 (za8 (p:=(g5,42,[.int .i64 kd',.int .i64 cl',.int .i64 w',.slice (some ⟨ba,offa,none⟩) ns.length tca])) (jj:=0) (.inr rfl) (Hp.Le.refl _)) kR rfl ?_;refine EVL.storeOwn tO rfl rfl rfl rfl rfl rfl ([]) (ow4++[]) rfl rfl rfl rfl ((Nat.le_of_ble_eq_true rfl)) (rfl) ?_;(first|refine EVL.publishL [(g5,_,_)] ow4 [] (rfl) hown4 fun G5 hG5 hs5=>?_|refine EV.publishL [(g5,_,_)] ow4 [] (rfl) hown4 fun G5 hG5 hs5=>?_);refine EVL.nil ⟨rfl,?_⟩;refine EVG.nil (za8 (p:=(g5,42,[.int .i64 kd',.int .i64 cl',.int .i64 w',.slice (some ⟨ba,offa,none⟩) ns.length tca])) (jj:=0) (.inl kR) hG5) kR ?_;refine uR ?_;exact⟨(a4',c4'),trivial,sB,trivial,trivial,rfl,hG5,hs5⟩
 rintro⟨a5',c5'⟩ G5 ⟨hG5,hs5⟩;dsimp only at hs5;have hna:zaR G2 cssa ns:=hna;obtain⟨css',hR',hce⟩:=hna.around hkl (hK4.trans hG5) (hnd'.mono (hG4.trans hG5));rw[hce]at hs5
 have hS:∀u,u∈ns.set k n'→(ht u.at'≤200∧ht u.cost≤2000000∧ht u.value≤4000)∧u.counts.length≤20:=fun u hu=>by
  rcases List.mem_or_eq_of_mem_set hu with h | rfl
  ·obtain⟨i,hi⟩:=List.mem_iff_getElem?.1 h;obtain⟨v,hv,ho,_⟩:=ok1.nodes i (qE.1 hi).1;dsimp only at hv;cases hi.symm.trans hv;have hln:=ho.len;dsimp only at hln;exact⟨ho.small,by omega⟩
  ·exact⟨hsm',hc'⟩
 have hsl:(ns.set k n').length=ns.length:=List.length_set ..;generalize ns.set k n'=nt at *
 have hkt:k<nt.length:=oM;rw[←hsl]at hs5 ⊢
 have hcap5:nt.length≤c5':=by
  rcases id hs5.2 with ⟨e0,_⟩ | ⟨_,_,_,_,e,h,_⟩
  ·omega
  ·cases e;exact h
 have hsub5:=hs5.sub 0 k (qQ _) oM hcap5;refine uR ?_;refine EV.meetK (ι:=List (List Value) × List Nd × Option Addr × Nat) [4,15] [] (fun _=>[]) (fun _=>[]) (fun q=>[(g5,42,[.int .i64 kd',.int .i64 cl',.int .i64 w',.slice q.2.2.1 q.2.1.length q.2.2.2])]) (fun q G=>G5.Le G∧zaR G q.1 q.2.1∧SlC G (.slice q.2.2.1 q.2.1.length q.2.2.2) q.2.1.length 15 q.1.flatten∧q.2.1.length≤40∧∀u,u∈q.2.1→(ht u.at'≤200∧ht u.cost≤2000000∧ht u.value≤4000)∧u.counts.length≤20) rfl rfl (fun _=>rfl) ?_ ?_
 ·by_cases h17:turn.tmod 17=16
  ·rw[show (turn.tmod 17 == 16)=true from beq_iff_eq.2 h17];have hkk:(nt.take k).length=k:=by rw[qP];omega
   rw[hR'.take_flat oM,Nat.sub_zero]at hsub5;refine uR ?_;refine EVL.fldB tO rfl rfl rfl rfl rfl rfl rfl ?_;refine EVL.loadOwn tO rfl rfl rfl rfl rfl rfl (0) rfl (rfl) rfl rfl ?_;refine uR ?_;refine EVL.slc (te':=Tryz.te48) tO rfl rfl rfl rfl rfl rfl rfl rfl 0 k (.inl ⟨rfl,rfl⟩) (.inr ⟨_,IntKind.i64,rfl,rfl⟩) (qQ _) oM hcap5 ?_;refine uR ?_;refine EVL.fldB tO rfl rfl rfl rfl rfl rfl rfl ?_;refine EVL.storeOwn tO rfl rfl rfl rfl rfl rfl ([]) ([]) rfl rfl rfl rfl ((Nat.le_of_ble_eq_true rfl)) (rfl) ?_;refine uR ?_;exact⟨(css'.take k,nt.take k,(if c5'=0 then a5' else a5'.map (·.add (0*15))),c5'-0),trivial,sB,trivial,trivial,(by dsimp only;rw[hkk];rfl),Hp.Le.refl _,zsH hR' k,(by dsimp only;rw[hkk];exact hsub5),(by dsimp only;omega),fun u hu=>hS u (List.mem_of_mem_take hu)⟩
  ·rw[show (turn.tmod 17 == 16)=false from pP.2 h17];refine uR ?_;exact⟨(css',nt,a5',c5'),trivial,sB,trivial,trivial,rfl,Hp.Le.refl _,hR',hs5,by dsimp only;omega,hS⟩
 rintro⟨cst,nu,a6',c6'⟩ G6 ⟨hG6,hR6,hs6,hl6,hS6⟩;dsimp only at hR6 hs6 hl6 hS6;have hTr:zhs G6 [.int .i64 kd',.int .i64 cl',.int .i64 w',.slice a6' nu.length c6'] kd' cl' w' nu:=⟨a6',c6',cst,rfl,hR6,hs6⟩;have hSm:SmT nu:=fun u hu=>(hS6 u hu).1
 have hSN:∀u,u∈nu→znX u:=fun u hu=>by
  have:=hS6 u hu;unfold znX rq;omega
 (first|refine EVL.publish [] [] rfl fun G7 hG7 hb7=>?_|refine EV.publish [] [] rfl fun G7 hG7 hb7=>?_);(first|refine EVL.asRo 15 rfl hb7 ?_|refine EV.asRo 15 rfl hb7 ?_);have hTr7:=hTr.mono hG7;refine uR ?_;refine EVL.call rfl rfl rfl rfl rfl (zow hTr7 hSN oM) ?_;rintro _ G8 ⟨_,rfl,tb,tcb,cssb,rfl,hnb,hsb⟩ hG8;have hTb:zd4 G8 [.int .i64 kd',.int .i64 cl',.int .i64 w',.slice tb nu.length tcb] kd' cl' w' nu:=⟨tb,tcb,cssb,rfl,hnb,hsb⟩;refine uR ?_;refine EVL.call rfl rfl rfl rfl rfl (znj (hTr7.mono hG8) oM hSm) ?_;rintro _ G9 rfl hG9;obtain⟨M,hM⟩:∃M:Nat,w' % 21=(M:Int):=⟨(w' % 21).toNat,by omega⟩;have hp5:=zbd w' 21 hwB oM oM;rw[hM]at hp5;have hM21:M<21:=oM;have hKH:H.Le G9:=hG1.trans (hG2.trans (hK4.trans (hG5.trans (hG6.trans (hG7.trans (hG8.trans hG9))))));have hrow:=zpi (hrw.mono hKH) hrwb M oM;have hzl:=zeY row M;have hz5:=zlc (l:=row) M;generalize zj3 row M=z at *
 have hTr9:=hTr7.mono (hG8.trans hG9);have hTb9:=hTb.mono hG9;have hln9:nu.length≤100000:=oM
 repeat (first|refine RUN ?_|refine CV (hp5) ?_|refine CE (hp5) ?_)
 refine vA (hrow) ?_;intro r10 G10 hr10 hG10;obtain⟨xa10,xc10,rfl⟩:=hr10.val;have hTr10:=hTr9.mono hG10;have hTb10:=hTb9.mono hG10;have hin:=fun (G:Hp) (hG:G10.Le G)=>zlP (hr10.mono hG) oM (fun q hq=>zbZ (hz5 q hq) oM);have hzq:∀q,q∈z→sm q:=fun q hq=>zaL (hz5 q hq) oM;have hzr:∀q,q∈z→rq q:=fun q hq=>zbZ (hz5 q hq) oM
 obtain⟨e,j,q,c,cLeaf,cAns,hcase⟩:∃(e j:Int) (q:Rat) (c:Int),
   (∀G v,G10.Le G→QL G v z→PC prog 12 #[.agg ([.int .i64 kd',.int .i64 cl',.int .i64 w',.slice tb nu.length tcb]:List Value).toArray,v] G fun r _=>r=.tuple #[.int .i64 j,.int .i64 e]) ∧
   (∀G v,G10.Le G→QL G v z→PC prog 14 #[.agg ([.int .i64 kd',.int .i64 cl',.int .i64 w',.slice tb nu.length tcb]:List Value).toArray,v] G fun r _=>r=.tuple #[zae q,.int .i64 c,.int .i64 e]) ∧
   ((zbc kd' cl' w' nu≠0∧e=1∧j=0)∨(zbc kd' cl' w' nu=0∧e=0∧zce ⟨kd',cl',w',nu⟩∧(z.length:Int)=w'∧∃i:Nat,j=(i:Int)∧zi6 nu z 0 i)):=by
  by_cases he:zbc kd' cl' w' nu=0
  ·have hok:=zn6 he hSm;have hwd:=hok.wide;dsimp only at hwd;have hzw:(z.length:Int)=w':=oM;obtain⟨i,hlf,hi,hni,_⟩:=zoz hok z;dsimp only at hlf hni;refine⟨0,(i:Int),(zm6 z ⟨kd',cl',w',nu⟩).value,(zm6 z ⟨kd',cl',w',nu⟩).cls,fun G v hG hv=>?_,fun G v hG hv=>?_,.inr ⟨he,rfl,hok,hzw,i,rfl,hlf⟩⟩
   ·refine(zmq (hTb10.mono hG) hok hv hzw hzq).mono ?_;rintro r G' ⟨j,rfl,h⟩ _;rw[h.det hlf]
   ·refine(znH (hTb10.mono hG) hok hv hzw hzq).mono ?_;rintro r G' ⟨j,n,rfl,h,h2⟩ _;obtain rfl:=h.det hlf;rw[hni]at h2;cases h2;rfl
  ·refine⟨1,0,0,0,fun G v hG hv=>?_,fun G v hG hv=>?_,.inl ⟨he,rfl,rfl⟩⟩
   ·obtain⟨a,c,rfl⟩:=hv.val;exact zrM (hTb10.mono hG) hln9 hSm he _ rfl
   ·obtain⟨a,c,rfl⟩:=hv.val;exact zrd (hTb10.mono hG) hln9 hSm he _ rfl
 refine uR ?_;apply EV.drawn 9 kR kR;intro xv yw;(repeat refine' DD ?_);refine' vB (cO func13) (fun G hG hd=>hin G hG) (fun _ _ _ h k=>SlC.mono h k) ?_;rotate_left;refine' vC (cO func12) (fun G hG hd=>cLeaf G _ hG (hd.head kR)) ?_;rotate_left;(repeat refine' DD ?_);(refine DJ.nil (fun G1 hG1 hF1=>?_);(case hS|hS2=>rfl));have hin1:=fun (G:Hp) (hG:G1.Le G)=>hin G (hG1.trans hG);refine uR ?_;apply EV.drawn 11 kR kR;intro xv yw;(repeat refine' DD ?_);refine' vB (cO func13) (fun G hG hd=>hin1 G hG) (fun _ _ _ h k=>SlC.mono h k) ?_;rotate_left;refine' vC (cO func14) (fun G hG hd=>cAns G _ (hG1.trans hG) (hd.head kR)) ?_;rotate_left;(repeat refine' DD ?_);(refine DJ.nil (fun G2 hG2 hF2=>?_);(case hS|hS2=>rfl));have hTb2:=hTb10.mono (hG1.trans hG2);have hTr2:=hTr10.mono (hG1.trans hG2);have hr2:=hr10.mono (hG1.trans hG2);have hck:=zcR hTb2 hln9 hSm
 repeat (first|refine RUN ?_|refine CV (zhN) ?_|refine CV (hck) ?_|refine CE (zhN) ?_|refine CE (hck) ?_)
 rw[pO];refine uR ?_;rcases hcase with ⟨he,rfl,rfl⟩ | ⟨he,rfl,hok,hzw,i,rfl,hlf⟩
 ·rw[show (zbc kd' cl' w' nu != 0)=true from bne_iff_ne.2 he];have c1:=ztS hTb2 hln9 hSm he;have c2:=zmr hTb2 hln9 hSm he;have c3:=zsX hTb2 hln9 hSm he;have c4:=ztP hTb2 hln9 hSm he;have hsg:PV prog 20 #[zae 0] (.int .i64 0):=zcd 0 (by show bl 0≤_;rw[zbt];omega)
  repeat (first|refine RUN ?_|refine CV (c1) ?_|refine CE (c1) ?_)
  rw[beq_self_eq_true (ByteArray.mk #[]).toList]
  repeat (first|refine RUN ?_|refine CV (c2) ?_|refine CV (c3) ?_|refine CV (c4) ?_|refine CV (hsg) ?_|refine CE (c2) ?_|refine CE (c3) ?_|refine CE (c4) ?_|refine CE (hsg) ?_)
  rfl
 ·rw[he]
  have hpl:∀l,zkt nu z 0 l→l.length≤1000000:=fun l hl=>by
   obtain⟨hh,hh10,hsub⟩:=hok.sub;dsimp only at hsub;have:=hsub.pathLen l hl;omega
  have cR:=(zpf hTr2 hok hr2 hzw hzr hpl).mono (fun r _ h _=>(by obtain⟨y,e,h⟩:=h;rw[e,h.det hlf]:r=.int .i64 (i:Int)))
  repeat (first|refine RUN ?_|refine CV (cR) ?_|refine CE (cR) ?_)
  rw[beq_self_eq_true (i:Int)]
end
section
open Go Go.RowKit
theorem zhO {P:Program} {W:World} {n:String} {d:DataW Unit}:∀{l:List (String × DataW Unit)} {ps:List MemPlace},DataW.LaidVars P W l ps→(n,d)∈l →
  ∃p,DataW.LaidVars P W [(n,d)] p
 | [],_,_,h=>by cases h
 | (m,x)::r,ps,h,hm=>by
  obtain⟨g,t,cs,fuel,p,q,h1,h2,h3,h4,h5,h6⟩:=h;rcases List.mem_cons.1 hm with hm | hm
  ·cases hm;exact⟨_,g,t,cs,fuel,p,[],h1,h2,h3,h4,rfl,rfl⟩
  ·exact zhO h5 hm
theorem zsk {P:Program} {l:List (String × DataW Unit)} {W:World} {α:Type} (f:α→Int) (h:laidMet P l W) {n:String} {zs:List α} {kd:IntKind} {g:Nat} {T e:TypeId} (hmem:(n,.agg (zs.map fun z=>.lit (.int kd (f z))))∈l) (hg:P.globalNamed n=some g) (ht:(P.globals[g]?).map (·.type)=some T)
  (hT:P.underlying T=some (.array zs.length e)) (he:P.underlying e=some (.int kd)) (hc:P.cellsOf e=1) (hcT:P.cellsOf T=zs.length) :
  ∃U fz,W.heap[g]?=some (.cells (zs.map fun z=>Value.int kd (f z)).toArray U fz):=by
 obtain⟨ps,hl,_⟩:=h;obtain⟨p0,g',t,cs,fuel,p,q,hg',ht',hv,hd,_,_⟩:=zhO hl hmem;obtain rfl:=Option.some.inj (hg.symm.trans hg');obtain rfl:=Option.some.inj (ht.symm.trans ht');obtain⟨xs,m,_,ex,hcl,hlen,hel⟩:=DataW.trod_array hT hd
 have hb:∃U fz,W.heap[g]?=some (.cells cs U fz):=by
  simp only[World.var?,hg,Option.bind_some]at hv;split at hv
  ·rename_i c U fz hc';cases hv;exact⟨U,fz,hc'⟩
  ·cases hv
 obtain⟨U,fz,hb⟩:=hb;refine⟨U,fz,?_⟩;rw[hb];congr 2;apply Array.ext';rw[hcT]at hcl;have e3:(xs.map (·.1))=zs.map fun n=>.lit (.int kd (f n)):=(DataW.agg.inj (Prod.mk.inj ex).1).symm;apply List.ext_getElem?;intro r;rcases Nat.lt_or_ge r zs.length with hr | hr
 ·have hE:=hel r hr;rw[hc,Nat.mul_one,qA (by omega)]at hE;obtain⟨z,e1,e2,_⟩:=DataW.trod_int he hE;have e4:(xs.map (·.1))[r]?=(zs.map fun n=>(DataW.lit (.int kd (f n)):DataW Unit))[r]?:=by rw[e3]
  rw[qK,qK,qA (by omega:r<xs.length),qA hr,e2]at e4;simp only[Option.map_some,Option.some.injEq,DataW.lit.injEq,Lit.int.injEq,true_and]at e4;have h0:((cs.toList.drop r).take 1)[0]?=some (.int kd z):=by rw[e1];rfl
  simp only[pN,List.getElem?_drop,qY]at h0;rw[if_pos (by omega)]at h0;rw[h0,e4];simp[hr]
 ·rw[qe oM,qe (by simpa using hr)]
theorem fits_gH {l:List (String × DataW Unit)} {W:World} (h:laidMet Tryz.prog l W) (hmem:("math/bits.deBruijn64tab", .agg (Lib.deBruijn64tab.map fun (z:Nat)=>.lit (.int .u8 z)))∈l):Fits gH W:=fun b c hb=>by
 unfold gH at hb;split at hb
 ·rename_i hbb;cases hb;obtain rfl:=qx hbb;exact zsk (fun z:Nat=>(z:Int)) h hmem kR kR Tryz.underlying291 Tryz.underlying5 kR kR
 ·cases hb
end
end Go.Proofs.YtjdpljkildlfaaaGreatDoor
