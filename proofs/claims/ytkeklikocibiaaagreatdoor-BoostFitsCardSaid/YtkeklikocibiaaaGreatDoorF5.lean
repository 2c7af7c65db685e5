/- Texts of ours in one: Pg4, Pg5, Pg6, Pg7, Tg1, Tp0, Tp1, Pg9, Tp2, Tp3, BoP, Ev29, Ev30, Ev32, BoW, BoR, Th1, BoO, BoA, BoC, BoV, BoD, BoE, BoM, BoN, BoL, Tr3N, BoG, Pg8, Tr32, Tr33, Tr34, Tr35, Tr36, PgD, BoF, BoX, BoY, Ev33, Lc1, Lc2, BoZ, BoS, BoT, Bp1, BoR2, Opn21, BoU, Kd17, BoK, BoH, BoP2, FaP, BoQ, ThE. -/
import Derived.Test.YtkeklikocibiaaaGreatDoorF3
import Derived.Test.YtkeklikocibiaaaGreatDoorF4
set_option linter.unusedVariables false
set_option linter.unusedSimpArgs false
set_option maxHeartbeats 64000000
namespace Go.Proofs.YtkeklikocibiaaaGreatDoor
section
open Go.RowKit _root_.Go.Proofs.Tryz
theorem zqD {H:Hp} {v:Value} {X:List (List Rat)} {w:Nat} (h:QLL H v X) (h1:1<=X.length) (h2:X.length<=300) (hw:1<=w/\w<=20) (hx:∀x,x∈X->x.length=w):PC prog 123 #[v] H fun r _=>r=.bool true:=by
 obtain⟨vs,aG,hs⟩:=h;obtain⟨a,c,rfl⟩:=SlC.val hs;obtain⟨x0,fR⟩:=gE h1;obtain⟨a0,c0,jy,_⟩:=aG.at fR;have O6:=hx x0 (qF fR);rw[O6]at jy;refine BD func123 ntmps123 ?_;refine uR ?_;rw[qC (show ¬(X.length:Int)<1 by omega)];refine uR ?_;rw[qC (show ¬(X.length:Int)>300 by omega)];refine uR ?_;refine vI (hs) (0) (rfl) (h1) (jy) ?_;refine uR ?_;rw[qC (show ¬(w:Int)<1 by omega)];refine uR ?_;refine vI (hs) (0) (rfl) (h1) (jy) ?_;refine uR ?_;rw[qC (show ¬(w:Int)>20 by omega)];refine uR ?_;refine EV.loopK (ι:=Nat) [0,27,28] [] (fun i=>[(29,.v (.int .i64 (i:Int)))]) (fun _=>[]) (fun _=>[]) (fun i _=>i<=X.length) (fun i=>X.length-i) (0) Z Z ⟨Z,trivial⟩ trivial rfl (fun _=>rfl) (qQ _) ?_;rintro i G1 aj hi;refine uR ?_;refine EV.cond Z (fun af=>?_) (fun af=>?_)
 ·simp only[nN]at af;obtain⟨x,di⟩:=gE af;obtain⟨a1,c1,dP,_⟩:=aG.at di;have ew:=hx x (qF di);rw[ew]at dP;refine uR ?_;refine vI ((hs.mono aj)) (i) (rfl) (af) (dP) ?_;refine uR ?_;refine vI ((hs.mono aj)) (0) (rfl) (h1) (jy) ?_;refine uR ?_;rw[pP];refine uR ?_;refine⟨i+1,⟨by rw[aO i (by omega)];rfl,trivial⟩,sB,trivial,sB,rfl,af,Hp.Le.refl _,by omega⟩
 ·simp only[nN]at af;refine uR ?_;rfl
abbrev Dm (deep least:Int) (g:Rat):List Value:=.int .i64 deep::.int .i64 least::aB (aC g)
theorem LH {H:Hp} {deep least:Int} {g:Rat} (hg:sm g):PC prog 32 #[.agg (Dm deep least g).toArray] H fun r _=>r=.bool (decide (vz deep least g)):=by
 have hs:=pH g (qI hg.num oM);refine BD func32 ntmps32 ?_;refine uR ?_;by_cases h1:deep>=0
 case neg =>
  rw[qC h1];refine uR ?_;exact yk fun k=>h1 k.1
 rw[qD h1];refine uR ?_;by_cases h2:deep<=10
 case neg =>
  rw[qC h2];refine uR ?_;exact yk fun k=>h2 k.2.1
 rw[qD h2];refine uR ?_;by_cases h3:least>=1
 case neg =>
  rw[qC h3];refine uR ?_;exact yk fun k=>h3 k.2.2.1
 rw[qD h3];refine uR ?_;by_cases h4:least<=300
 case neg =>
  rw[qC h4];refine uR ?_;exact yk fun k=>h4 k.2.2.2.1
 rw[qD h4]
 repeat (first|refine RUN ?_|refine CV (hs) ?_|refine CE (hs) ?_)
 exact congrArg Value.bool (decide_eq_decide.2 ((S4 g).trans ⟨fun k=>⟨h1,h2,h3,h4,k⟩,fun k=>k.2.2.2.2⟩))
theorem zoz {H:Hp} {v:Value} (h:QLL H v []):PC prog 123 #[v] H fun r _=>r=.bool false:=by
 obtain⟨a,c,rfl⟩:=h.val;refine BD func123 ntmps123 ?_;refine uR ?_;rfl
theorem zoy {H:Hp} {kd cl deep least ck:Int} {sl sv vx vr:Value} {X:List (List Rat)} {N:Nat} {rows:List Int} {w:Nat} {g:Rat} (oX:∀G,H.Le G->PC prog 125 #[bG kd cl sl sv] G fun r _=>r=.int .i64 ck) (hlen:PV prog 124 #[bG kd cl sl sv] (.int .i64 (N:Int))) (hX:QLL H vx X) (hN:1<=N) (h2:X.length<=300) (hw:1<=w/\w<=20) (hx:∀x,x∈X->x.length=w)
  (hr:IL H vr rows) (gh:0<rows.length) (wK:rows.length<=300) (gm:sm g) :
  PC prog 74 #[bG kd cl sl sv,vx,vr,.agg (Dm deep least g).toArray] H fun r _=>r=.int .i64 (Dj X.length N ck (decide (vz deep least g)) rows):=by
 obtain⟨ra,rc,rfl⟩:=SlC.val hr;by_cases CS:X.length=0
 ·have hne:X.length≠N:=oM;obtain rfl:=pJ.1 CS;have hv:=zoz hX;obtain⟨xa,xc,rfl⟩:=hX.val;refine BD func74 ntmps74 ?_;refine uR ?_;refine vA (hv) ?_;rintro _ G1 rfl aj;refine uR ?_;rw[HU hne]
 have hv:=zqD hX oM h2 hw hx;obtain⟨xa,xc,rfl⟩:=hX.val;have hf:=fun (G:Hp)=>LH (H:=G) (deep:=deep) (least:=least) gm;generalize decide (vz deep least g)=fb at *
 refine BD func74 ntmps74 ?_;refine uR ?_;refine vA (hv) ?_;rintro _ G1 rfl aj
 repeat (first|refine RUN ?_|refine CV (hlen) ?_|refine CE (hlen) ?_)
 by_cases hne:X.length=N
 case neg =>
  rw[show ((X.length:Int) != (N:Int))=true from bne_iff_ne.2 (by omega)];refine uR ?_;rw[HU hne]
 subst hne;rw[show ((X.length:Int) != (X.length:Int))=false from pP _];refine uR ?_;rw[qC (show ¬(rows.length:Int)<1 by omega)];refine uR ?_;rw[qC (show ¬(rows.length:Int)>300 by omega)];refine uR ?_;refine vA (oX G1 aj) ?_;rintro _ G2 rfl ai;refine uR ?_;by_cases fa:ck=0
 case neg =>
  rw[show (ck != 0)=true from bne_iff_ne.2 fa];refine uR ?_;rw[xY fun k=>fa k.1]
 subst fa;refine uR ?_;refine vA (hf G2) ?_;rintro _ G3 rfl ax;have C9:=aj.trans (ai.trans ax);cases fb
 case false =>
  refine uR ?_;rw[xY fun k=>by cases k.2.1]
 refine uR ?_;refine EV.loopK (ι:=Nat) [1,39,40] [] (fun q=>[(41,.v (.int .i64 (q:Int)))]) (fun _=>[]) (fun _=>[]) (fun q _=>q<=rows.length/\∀r,r∈rows.take q->0<=r/\r<(X.length:Int)) (fun q=>rows.length-q) (0) Z Z ⟨Z,trivial⟩ trivial rfl (fun _=>rfl) (⟨qQ _,fun r hr=>by cases hr⟩) ?_;rintro i G4 aT ⟨hi,av⟩;refine uR ?_;refine EV.cond Z (fun af=>?_) (fun af=>?_)
 ·simp only[nN]at af;obtain⟨r,bB⟩:=gE af;have ee:=qF bB;refine uR ?_;refine vI ((hr.mono (C9.trans aT))) (i) (rfl) (af) ((by rw[qK,bB];rfl)) ?_;refine uR ?_;by_cases gh:r<0
  ·rw[qD gh];refine uR ?_;rw[xY fun k=>by have:=k.2.2 r ee;omega]
  rw[qC gh];refine uR ?_;by_cases Fb:r>=(X.length:Int)
  ·rw[qD Fb];refine uR ?_;rw[xY fun k=>by have:=k.2.2 r ee;omega]
  rw[qC Fb];refine uR ?_;refine⟨i+1,⟨by rw[aO i (by omega)];rfl,trivial⟩,sB,trivial,trivial,rfl,⟨af,fun y hy=>?_⟩,Hp.Le.refl _,by omega⟩;rw[dZ bB]at hy;rcases List.mem_append.1 hy with h | h
  ·exact av y h
  ·rw[pK.1 h];omega
 ·simp only[nN]at af;obtain rfl:i=rows.length:=oM;rw[qa]at av;refine uR ?_;rw[HY av]
theorem Tj (a:Rat):bI a a=0:=Int.le_antisymm (Ih Rat.le_refl) (Lk.2 Rat.lt_irrefl)
inductive GD where
 | v (qs:List Rat)
 | c (C:Nat) (ls:List Int)
def GD.kd:GD->Int
 | .v _=>2
 | .c _ _=>1
def GD.cl:GD->Int
 | .v _=>0
 | .c C _=>C
def GD.cost:GD->List Int->Rat
 | .v qs=>B5 qs
 | .c _ ls=>zJ ls
def GD.mean:GD->List Int->Rat
 | .v qs=>fun l=>fe (atR qs l)
 | .c _ _=>fun _=>0
def GD.cnt:GD->List Int->List Int
 | .v _=>fun _=>[]
 | .c C ls=>fun l=>en C (atI ls l)
def GD.Ok (n:Nat):GD->Prop
 | .v qs=>qs.length=n/\lU qs
 | .c C ls=>(1<=C/\C<=12)/\ls.length=n/\∀z,z∈ls->0<=z/\z<(C:Int)
def GD.P (H:Hp) (sl sv:Value):GD->Prop
 | .v qs=>∃la lc va vc,sl=.slice la 0 lc/\sv=.slice va qs.length vc/\QL H sv qs
 | .c _ ls=>∃la lc va vc,sl=.slice la ls.length lc/\sv=.slice va 0 vc/\IL H sl ls
def GD.R (H:Hp) (v:Value):GD->Prop
 | .v qs=>∃s,v=bG 2 0 (.slice none 0 0) s/\RL H s qs
 | .c C ls=>∃s,v=bG 1 C s (.slice none 0 0)/\IL H s ls
theorem GD.Ok.sm {n:Nat} {d:GD} (hd:d.Ok n):∀l:List Int,l.length<=300->(∀r,r∈l->0<=r/\r<(n:Int))->ht (d.mean l)<=4000/\ht (d.cost l)<=2000000:=by
 intro l hn hr
 cases d with
 | v qs =>
  obtain⟨rfl,hq⟩:=hd;have h2:=hq.small (m:=atR qs l) (fun q k=>yt hr q k) (by rw[lY];omega);show ht (fe (atR qs l))<=4000/\ht (B5 qs l)<=2000000;unfold B5;omega
 | c C ls =>
  have wI:=BX (atI ls l);have dc:(atI ls l).length=l.length:=pV ls l;rw[dc]at wI;have AD:l.length*l.length<=300*300:=Nat.mul_le_mul hn hn;have mj:=ie (l.length:Int);have hn3:bl (l.length:Int).natAbs<=20:=cf oM;have cr:=ie (sqL (atI ls l):Int);have jA:bl (sqL (atI ls l):Int).natAbs<=20:=cf oM;have JX:=tY ((sqL (atI ls l):Int):Rat) ((l.length:Int):Rat);have dI:=DE ((l.length:Int):Rat) (((sqL (atI ls l):Int):Rat) / ((l.length:Int):Rat));refine⟨by show ht (0:Rat)<=4000;rw[rK];decide,?_⟩;show ht (zJ ls l)<=2000000;unfold zJ pA;rw[dc];omega
theorem GD.Ok.plain {n:Nat} {d:GD} (hd:d.Ok n):Hr d.kd d.cl n d.cost d.mean d.cnt:=by
 have eS:=hd.sm
 cases d with
 | v qs =>
  obtain⟨rfl,hq⟩:=hd;exact⟨.inr ⟨rfl,rfl⟩,fun _=>rfl,fun _ _ _ _ k=>rfl,fun l c hc=>(by cases hc),fun e=>absurd e (by decide:¬(2:Int)=1),fun e=>absurd e (by decide:¬(2:Int)=1),fun l=>zlv _ _,fun l hn hr=>(eS l hn hr).2,fun l hn hr=>(eS l hn hr).1⟩
 | c C ls =>
  obtain⟨hc,rfl,df⟩:=hd;refine⟨.inl ⟨rfl,by show (1:Int)<=(C:Int);omega,by show (C:Int)<=12;omega⟩,fun l=>by show ((en C (atI ls l)).length:Int)=(C:Int);rw[om],fun r l m hp k=>zrf C (by have:=hp.map (fun r:Int=>ls.getD r.toNat 0);rwa [qo]at this) k,fun l c hc=>?_,fun _ l hr=>?_,fun _ l=>rfl,fun l=>zjX _,fun l hn hr=>(eS l hn hr).2,fun l hn hr=>(eS l hn hr).1⟩
  ·obtain⟨k,_,rfl⟩:=List.mem_map.1 hc;omega
  ·show (en C (atI ls l)).sum=_;rw[zrg (fun z hz=>df z (zq7 hr z hz)),pV]
theorem GD.Ok.pgoal {H:Hp} {n:Nat} {d:GD} (hd:d.Ok n) (h0:1<=n) (h1:n<=300) {sl sv:Value} (hP:d.P H sl sv) {p:GP} (e0:p.X.length=n) (e1:p.cost=d.cost) (e2:p.mean=d.mean) (e3:p.cnt=d.cnt):∃S wo,zD H d.kd d.cl sl sv p S wo:=by
 have eS:=hd.sm
 cases d with
 | v qs =>
  obtain⟨rfl,hq⟩:=hd;obtain⟨la,lc,va,vc,rfl,rfl,hv⟩:=hP;have oC:∀q,q∈qs->ht q<=100:=fun q lp=>qI (hq.bits q lp) oM;have fJ:=fun (G:Hp) (u:Value)=>znE (H:=G) (v:=u) (va:=va) (vc:=vc) (la:=la) (lc:=lc) h0 h1;refine⟨xU qs,woV qs,⟨by rw[e0];exact XD hv h0 h1 oC,by rw[e1];exact XW qs,?_,?_,?_,?_,?_,?_⟩⟩
  ·rw[e0,e3];exact fun G hG u l hl hn=>fJ G u
  ·rw[e3];exact fun l=>qQ _
  ·rw[e0,e3];exact fun G hG u l hl hn=>Sj (w:=u) ⟨_,_,_,_,rfl⟩ (fJ G u) (by show ([]:List Int).length<=300;decide)
  ·rw[e0,e2];exact fun G hG u l hl hn=>SS hl hn (SlC.mono hv hG) h0 h1 oC
  ·rw[e0,e1];exact fun l hn hr=>(eS l hn hr).2
  ·rw[e0,e1];exact fun G hG u l hl hn=>Z9 hl hn (SlC.mono hv hG) h0 h1 oC
 | c C ls =>
  obtain⟨hc,rfl,df⟩:=hd;obtain⟨la,lc,va,vc,rfl,rfl,hv⟩:=hP;have fJ:=fun (G:Hp) (hG:H.Le G) (u:Value) (l:List Int) (hl:IL G u l) (hn:l.length<=300)=>znD (va:=va) (vc:=vc) hl hn (SlC.mono hv hG) (C:=C) hc h0 h1 df;refine⟨xV ls,woL ls,⟨by rw[e0];exact XE ⟨by show (1:Int)<=(C:Int);omega,by show (C:Int)<=12;omega⟩ hv h0 h1 df,by rw[e1];exact XX (fun z hz=>⟨(df z hz).1,by have:=(df z hz).2;omega⟩),?_,?_,?_,?_,?_,?_⟩⟩
  ·rw[e0,e3];exact fJ
  ·rw[e3];exact fun l=>by show (en C (atI ls l)).length<=12;rw[om];omega
  ·rw[e0,e3];exact fun G hG u l hl hn=>Sj (w:=u) ⟨_,_,_,_,rfl⟩ (fJ G hG u l hl hn) (by show (en C (atI ls (exL l ls.length))).length<=300;rw[om];omega)
  ·rw[e0,e2];exact fun G hG u l hl hn=>zrA
  ·rw[e0,e1];exact fun l hn hr=>(eS l hn hr).2
  ·rw[e0,e1];exact fun G hG u l hl hn=>zrh (va:=va) (vc:=vc) hl hn (SlC.mono hv hG) ⟨by show (1:Int)<=(C:Int);omega,by show (C:Int)<=12;omega⟩ h0 h1 df
def bJ (w:Nat):List Int:=(List.range w).map fun i:Nat=>(i:Int)
theorem kX (w:Nat):(bJ w).length=w:=by simp[bJ]
theorem I4 (w:Nat):bJ (w+1)=bJ w++[(w:Int)]:=by simp[bJ,List.range_succ]
theorem zU (x:Value):∀w:Nat,(List.replicate w [x]).flatten=List.replicate w x
 | 0=>rfl
 | w+1=>by rw[List.replicate_succ,List.flatten_cons,zU x w,List.replicate_succ];rfl
theorem R7 {w i:Nat} (h:i<w) (u:Nat):(bJ i).map iv++List.replicate (w-i) (Value.int .i64 0)=(bJ i).map iv++([Value.int .i64 0]++List.replicate (w-(i+1)) (Value.int .i64 0)):=by
 rw[show w-i=(w-(i+1))+1 by omega,List.replicate_succ];rfl
theorem ZF {w i:Nat} (h:i<w):((bJ i).map iv++List.replicate (w-i) (Value.int .i64 0)).set i (.int .i64 (i:Int))=(bJ (i+1)).map iv++List.replicate (w-(i+1)) (Value.int .i64 0):=by
 rw[R7 h 0,List.set_append_right _ _ (by rw[qV,kX];exact qH _),qV,kX,Nat.sub_self,I4,qo,qZ];rfl
theorem zlS {H:Hp} {p:GP} {a w c:Nat} {sa:Option Addr} (kI:∀s,p.cols s=(bJ w,s)) (ha:H a=some ([.slice sa w c]:List Value).toArray) (bY:IL H (.slice sa w c) (bJ w)):B0 H 76 [.pointer (some ⟨a,0,none⟩)] (.pointer none) p:=by
 intro G hG D s hD;have bC:(p.cols s).1=bJ w:=by rw[kI]
 have jo:(p.cols s).2=s:=by rw[kI]
 rw[bC,jo];have Ph:=bY.mono hG;refine PW.body tO func76 Z kR ntmps76 Z Z ?_;refine EV.asRo 0 Z (hG _ _ ha) ?_;refine uR ?_;exact⟨Ph,hD⟩
theorem Hr.gpAny {p:GP} {kd cl:Int} {w:Nat} (h:Hr kd cl p.X.length p.cost p.mean p.cnt) (hX:p.X.length<=300) (hx:∀x,x∈p.X->x.length=w/\∀q,q∈x->ht q<=60) (hg:0<=p.gain) (hc:∀s c,c∈(p.cols s).1->0<=c/\c<(w:Int)):py p kd cl w :=
 ⟨h.kind,hX,fun x k=>(hx x k).1,fun x k=>(hx x k).2,h.clen,h.cadd,h.cpos,h.csum,h.zero,h.cost0,h.csm,h.msm,hg,hc⟩
theorem I6 {p:GP} {kd cl:Int} {w:Nat} (hp:py p kd cl w):∀(d k:Nat) (rows:List Int) (s:Int),1<=rows.length->(∀r,r∈rows->0<=r/\r<(p.X.length:Int))->(p.grow d k rows s).1.length+1<=2*rows.length
 | 0,k,rows,s,h1,hb=>by rw[GP.grow_zero];show 1+1<=_;omega
 | d+1,k,rows,s,h1,hb=>by
  cases h:p.cut rows (p.cols s).1 with
  | none=>rw[GP.grow_none h];show 1+1<=_;omega
  | some ct =>
   obtain⟨c,t⟩:=ct;obtain⟨_,_,hl,hh,jf,_⟩:=B1 hp hb h;have fS:=jf.length_eq;rw[qJ]at fS;have df:∀r,r∈aR p.X c t rows->0<=r/\r<(p.X.length:Int):=fun r hr=>hb r (List.mem_filter.mp hr).1;have hhb:∀r,r∈bf p.X c t rows->0<=r/\r<(p.X.length:Int):=fun r hr=>hb r (List.mem_filter.mp hr).1;rw[GP.grow_some h];have h2:=I6 hp d (k+1) (aR p.X c t rows) (p.cols s).2 hl df;have h3:=I6 hp d (k+1+(p.grow d (k+1) (aR p.X c t rows) (p.cols s).2).1.length) (bf p.X c t rows) (p.grow d (k+1) (aR p.X c t rows) (p.cols s).2).2 hh hhb;simp only[qR,qJ];omega
theorem znT {p:GP} {kd cl:Int} {w D:Nat} (hp:py p kd cl w) (hw:1<=w/\w<=20) (hD:D<=10) {rows:List Int} (h1:1<=rows.length) (h2:rows.length<=300) (hb:∀r,r∈rows->0<=r/\r<(p.X.length:Int)) (s:Int):kW ⟨kd,cl,w,(p.grow D 0 rows s).1⟩:=by
 obtain⟨h3,_,h4⟩:=YQ hp D 0 rows s h1 h2 hb (p.grow D 0 rows s).1 (fun j n hj=>by rw[qu];exact hj);have hl:=I6 hp D 0 rows s h1 hb;rw[qu]at h3;exact⟨hp.kind,⟨by show (1:Int)<=w;omega,by show (w:Int)<=20;omega⟩,by show (p.grow D 0 rows s).1.length<=2000;omega,⟨D,by omega,h3⟩,fun i hi=>by have:=h4 i hi;rwa [qu]at this⟩
theorem kW.smallN {t:Tr} (h:kW t):∀n,n∈t.ns->ub n:=fun n hn=>by
 obtain⟨i,hi⟩:=List.mem_iff_getElem?.1 hn;obtain⟨m,hm,ho,_⟩:=h.nodes i (qE.1 hi).1;cases hm.symm.trans hi;exact ho.smallN (by have:=h.kind;omega)
abbrev trP (d:GD) (X:List (List Rat)) (least:Int) (g:Rat) (cols:Int->List Int × Int):GP:=⟨X,d.cost,d.mean,d.cnt,least,g,cols⟩
theorem Ye {d:GD} {N W:Nat} {X:List (List Rat)} {least:Int} {g:Rat} {cols:Int->List Int × Int} (hd:d.Ok N) (hXN:X.length=N) (hN:N<=20) (Gm:∀x,x∈X->x.length=W/\∀q,q∈x->ht q<=60) (hg:0<=g) (hc:∀s c,c∈(cols s).1->0<=c/\c<(W:Int)):py (trP d X least g cols) d.kd d.cl W:=by
 subst hXN;exact Hr.gpAny (p:=trP d X least g cols) hd.plain (by show X.length<=300;omega) Gm hg hc
theorem vU {w:Nat}:∀c,c∈bJ w->0<=c/\c<(w:Int):=fun c hc=>by
 obtain⟨i,hi,rfl⟩:=List.mem_map.1 hc;have:=List.mem_range.1 hi;omega
end
section
theorem zlh {X:List (List Rat)} {cost:List Int->Rat} {rs:List Int} {L:Int} {cols:List Int} {u:Int × Rat × Rat}:u∈eX X cost rs L cols↔∃c t,c∈cols/\t∈plQ X c rs/\(L<=((aR X c t rs).length:Int)/\L<=((bf X c t rs).length:Int))/\u=(c,t,cost rs-(cost (aR X c t rs)+cost (bf X c t rs))):=by
 unfold eX jt;constructor
 ·intro h;obtain⟨c,hc,h⟩:=List.mem_flatMap.1 h;obtain⟨t,ht,h⟩:=List.mem_flatMap.1 h;split at h
  ·rename_i k;exact⟨c,t,hc,ht,k,pK.1 h⟩
  ·cases h
 ·rintro⟨c,t,hc,ht,k,rfl⟩;refine List.mem_flatMap.2 ⟨c,hc,List.mem_flatMap.2 ⟨t,ht,?_⟩⟩;rw[if_pos k];exact pK.2 Z
end
section
open Go.RowKit _root_.Go.Proofs.Tryz
inductive dC (T:List Nd) (x:List Rat):Nat->List Int->Prop
 | here {i:Nat} {n:Nd}:T[i]?=some n->n.col = -1->dC T x i [(i:Int)]
 | low {i:Nat} {l:List Int} {n:Nd}:T[i]?=some n->n.col ≠ -1->x.getD n.col.toNat 0<=n.at'->dC T x n.left.toNat l->dC T x i ((i:Int)::l)
 | high {i:Nat} {l:List Int} {n:Nd}:T[i]?=some n->n.col ≠ -1->¬x.getD n.col.toNat 0<=n.at'->dC T x n.right.toNat l->dC T x i ((i:Int)::l)
theorem dC.leaf {T:List Nd} {x:List Rat} {i:Nat} {l:List Int} (h:dC T x i l):∃(j:Nat) (q:List Int),l=q++[(j:Int)]/\mA T x i j:=by
 induction h with
 | here h1 h2=>exact⟨_,[],rfl,.here h1 h2⟩
 | @low i _ _ h1 h2 h3 _ ih=>obtain⟨j,q,rfl,h⟩:=ih;exact⟨j,(i:Int)::q,rfl,.low h1 h2 h3 h⟩
 | @high i _ _ h1 h2 h3 _ ih=>obtain⟨j,q,rfl,h⟩:=ih;exact⟨j,(i:Int)::q,rfl,.high h1 h2 h3 h⟩
end
section
def At (S:List Nd) (k:Nat) (L:List Nd):Prop:=∀(j:Nat) (n:Nd),L[j]?=some n->S[k+j]?=some n
theorem At.head {S L:List Nd} {k:Nat} {n:Nd} (h:At S k (n::L)):S[k]?=some n:=h 0 n rfl
theorem At.left {S A B:List Nd} {k:Nat} {n:Nd} (h:At S k (n::(A++B))):At S (k+1) A:=fun j m hj=>by
 have:=h (j+1) m (by rw[pM,qM (qE.1 hj).1];exact hj);rw[show k+1+j=k+(j+1) by omega];exact this
theorem At.right {S A B:List Nd} {k:Nat} {n:Nd} (h:At S k (n::(A++B))):At S (k+1+A.length) B:=fun j m hj=>by
 have:=h (j+A.length+1) m (by rw[pM,qL oM,Nat.add_sub_cancel];exact hj);rw[show k+1+A.length+j=k+(j+A.length+1) by omega];exact this
theorem At.self (L:List Nd):At L 0 L:=fun j n h=>by rw[qu];exact h
theorem dC.one {T:List Nd} {x:List Rat} {i:Nat} {n:Nd} {l:List Int} (h:dC T x i l) (hn:T[i]?=some n):(n.col = -1/\l=[(i:Int)])\/(n.col ≠ -1/\∃m,l=(i:Int)::m/\m≠[]/\((x.getD n.col.toNat 0<=n.at'/\dC T x n.left.toNat m)\/(¬x.getD n.col.toNat 0<=n.at'/\dC T x n.right.toNat m))):=by
 have hne:∀{j:Nat} {m:List Int},dC T x j m->m≠[]:=fun h=>by cases h <;> simp
 cases h with
 | here h1 h2=>cases h1.symm.trans hn;exact .inl ⟨h2,rfl⟩
 | low h1 h2 h3 h4=>cases h1.symm.trans hn;exact .inr ⟨h2,_,rfl,hne h4,.inl ⟨h3,h4⟩⟩
 | high h1 h2 h3 h4=>cases h1.symm.trans hn;exact .inr ⟨h2,_,rfl,hne h4,.inr ⟨h3,h4⟩⟩
end
section
def GP.rowsAt (p:GP) (cols:List Int):Nat->List Int->List (List Int)
 | 0,rows=>[rows]
 | d+1,rows=>match p.cut rows cols with
  | none=>[rows]
  | some (c,t)=>rows::(p.rowsAt cols d (aR p.X c t rows)++p.rowsAt cols d (bf p.X c t rows))
theorem GP.rowsAt_none {p:GP} {cols:List Int} {d:Nat} {rows:List Int} (h:p.cut rows cols=none):p.rowsAt cols (d+1) rows=[rows]:=by rw[GP.rowsAt,h]
theorem GP.rowsAt_some {p:GP} {cols:List Int} {d:Nat} {rows:List Int} {c:Int} {t:Rat} (h:p.cut rows cols=some (c,t)):p.rowsAt cols (d+1) rows=rows::(p.rowsAt cols d (aR p.X c t rows)++p.rowsAt cols d (bf p.X c t rows)):=by rw[GP.rowsAt,h]
theorem Ur (p:GP) (cols:List Int) (d:Nat) (rows:List Int):∃L,p.rowsAt cols d rows=rows::L:=by
 cases d with
 | zero=>exact⟨[],rfl⟩
 | succ d =>
  cases h:p.cut rows cols with
  | none=>rw[GP.rowsAt_none h];exact⟨_,rfl⟩
  | some q=>obtain⟨c,t⟩:=q;rw[GP.rowsAt_some h];exact⟨_,rfl⟩
structure OfR (p:GP) (n:Nd) (R:List Int):Prop where
 rows:n.rows=(R.length:Int)
 cost:n.cost=p.cost R
 value:n.value=p.mean R
 cls:n.cls=(topN (p.cnt R) (p.cnt R).length:Int)
 counts:n.counts=p.cnt R
theorem OfR.nd (p:GP) (R:List Int) (c l r:Int) (t:Rat):OfR p { p.nd R with col:=c,left:=l,right:=r,at':=t } R:=⟨rfl,rfl,rfl,rfl,rfl⟩
theorem Z6 {p:GP} {rows cols:List Int} {c:Int} {t:Rat} (h:p.cut rows cols=some (c,t)):p.gain<p.cost rows-(p.cost (aR p.X c t rows)+p.cost (bf p.X c t rows))/\p.least<=((aR p.X c t rows).length:Int)/\p.least<=((bf p.X c t rows).length:Int):=by
 unfold GP.cut at h
 cases kq:p.best rows cols with
 | none=>rw[kq]at h;cases h
 | some q =>
  obtain⟨c',t',g⟩:=q;rw[kq]at h;dsimp only at h;split at h
  ·cases h
  ·rename_i hg;cases h;have hf:=Cm (eX p.X p.cost rows (max 1 p.least) cols);rw[show (eX p.X p.cost rows (max 1 p.least) cols).foldl gK none=some (c,t,g) from kq]at hf;obtain⟨c2,t2,_,_,hL,e⟩:=zlh.1 hf.1;cases e;exact⟨Rat.not_le.1 hg,by omega,by omega⟩
structure QK (p:GP) (S:List Nd) (k:Nat) (L:List (List Int)) (w:Nat):Prop where
 node:∀(j:Nat) (R:List Int),L[j]?=some R->∃n,S[k+j]?=some n/\OfR p n R/\(∀r,r∈R->0<=r/\r<(p.X.length:Int))/\1<=R.length/\(n.col = -1\/(0<=n.col/\0<=n.left/\0<=n.right/\∃a b,S[n.left.toNat]?=some a/\S[n.right.toNat]?=some b/\p.gain<n.cost-a.cost-b.cost/\p.least<=a.rows/\p.least<=b.rows))
theorem S0 {p:GP} {kd cl:Int} {w:Nat} (hp:py p kd cl w) {cols:List Int} (aK:∀s,(p.cols s).1=cols) {S:List Nd}:∀(d k:Nat) (rows:List Int) (s:Int),1<=rows.length->(∀r,r∈rows->0<=r/\r<(p.X.length:Int))->At S k (p.grow d k rows s).1->(p.rowsAt cols d rows).length=(p.grow d k rows s).1.length/\QK p S k (p.rowsAt cols d rows) w:=by
 have single:∀(k:Nat) (rows:List Int),1<=rows.length->(∀r,r∈rows->0<=r/\r<(p.X.length:Int))->At S k [p.nd rows]->QK p S k [rows] w:=fun k rows h1 hb hS=>⟨fun j R hj=>by
  cases j with
  | zero=>cases hj;exact⟨_,hS.head,OfR.nd p rows (-1) 0 0 0,hb,h1,.inl Z⟩
  | succ j=>cases hj⟩
 intro d
 induction d with
 | zero =>
  intro k rows s h1 hb hS;rw[GP.grow_zero]at hS ⊢;exact⟨rfl,single k rows h1 hb hS⟩
 | succ d ih =>
  intro k rows s h1 hb hS
  cases hc:p.cut rows (p.cols s).1 with
  | none =>
   rw[GP.grow_none hc]at hS ⊢;rw[GP.rowsAt_none (by rw[<-aK s];exact hc)];exact⟨rfl,single k rows h1 hb hS⟩
  | some q =>
   obtain⟨c,t⟩:=q;obtain⟨uQ,_,ew,dQ,jf,_⟩:=B1 hp hb hc;obtain⟨Wr,dc,y4⟩:=Z6 hc;have cF:∀r,r∈aR p.X c t rows->0<=r/\r<(p.X.length:Int):=fun r hr=>hb r (List.mem_filter.mp hr).1;have cJ:∀r,r∈bf p.X c t rows->0<=r/\r<(p.X.length:Int):=fun r hr=>hb r (List.mem_filter.mp hr).1;rw[GP.grow_some hc]at hS ⊢;rw[GP.rowsAt_some (by rw[<-aK s];exact hc)];dsimp only at hS ⊢;obtain⟨e1,f1⟩:=ih (k+1) _ (p.cols s).2 ew cF hS.left;obtain⟨e2,f2⟩:=ih (k+1+(p.grow d (k+1) (aR p.X c t rows) (p.cols s).2).1.length) _ (p.grow d (k+1) (aR p.X c t rows) (p.cols s).2).2 dQ cJ hS.right;refine⟨by simp only[qR,qJ];omega,⟨fun j R hj=>?_⟩⟩
   cases j with
   | zero =>
    cases hj;obtain⟨LA,ea⟩:=Ur p cols d (aR p.X c t rows);obtain⟨LB,eb⟩:=Ur p cols d (bf p.X c t rows);obtain⟨a,ha,oa,_⟩:=f1.node 0 _ (by rw[ea];rfl);obtain⟨b,dF,ob,_⟩:=f2.node 0 _ (by rw[eb];rfl);rw[qY]at ha dF;refine⟨_,hS.head,OfR.nd p rows c _ _ t,hb,h1,.inr ⟨uQ.1,Int.natCast_nonneg _,Int.natCast_nonneg _,a,b,?_,?_,?_,?_,?_⟩⟩
    ·exact(congrArg (S[·]?) (qU _)).trans ha
    ·exact(congrArg (S[·]?) (qU _)).trans dF
    ·rw[oa.cost,ob.cost];show p.gain<p.cost rows-p.cost (aR p.X c t rows)-p.cost (bf p.X c t rows);grind
    ·rw[oa.rows];exact dc
    ·rw[ob.rows];exact y4
   | succ j =>
    rw[pM]at hj;by_cases fw:j<(p.rowsAt cols d (aR p.X c t rows)).length
    ·rw[qM fw]at hj;have:=f1.node j R hj;rw[show k+1+j=k+(j+1) by omega]at this;exact this
    ·rw[qL (by omega)]at hj;have:=f2.node _ R hj;rw[show k+1+(p.grow d (k+1) (aR p.X c t rows) (p.cols s).2).1.length+(j-(p.rowsAt cols d (aR p.X c t rows)).length)=k+(j+1) by omega]at this;exact this
theorem DL {p:GP} {kd cl:Int} {w:Nat} (hp:py p kd cl w) {S:List Nd} {x:List Rat}:∀(d k:Nat) (rows:List Int) (s:Int),(∀r,r∈rows->0<=r/\r<(p.X.length:Int))->At S k (p.grow d k rows s).1->∀l,dC S x k l->∀z,z∈l->(k:Int)<=z/\z<((k+(p.grow d k rows s).1.length:Nat):Int):=by
 intro d
 induction d with
 | zero =>
  intro k rows s hb hS l hl z hz;rw[GP.grow_zero]at hS ⊢;rcases hl.one hS.head with ⟨_,rfl⟩ | ⟨h,_⟩
  ·have:=pK.1 hz;show _/\z<((k+1:Nat):Int);omega
  ·exact absurd Z h
 | succ d ih =>
  intro k rows s hb hS l hl z hz
  cases hc:p.cut rows (p.cols s).1 with
  | none =>
   rw[GP.grow_none hc]at hS ⊢;rcases hl.one hS.head with ⟨_,rfl⟩ | ⟨h,_⟩
   ·have:=pK.1 hz;show _/\z<((k+1:Nat):Int);omega
   ·exact absurd Z h
  | some q =>
   obtain⟨c,t⟩:=q;obtain⟨uQ,_⟩:=B1 hp hb hc;have cF:∀r,r∈aR p.X c t rows->0<=r/\r<(p.X.length:Int):=fun r hr=>hb r (List.mem_filter.mp hr).1;have cJ:∀r,r∈bf p.X c t rows->0<=r/\r<(p.X.length:Int):=fun r hr=>hb r (List.mem_filter.mp hr).1;rw[GP.grow_some hc]at hS ⊢;dsimp only at hS ⊢;simp only[qR,qJ];rcases hl.one hS.head with ⟨h,_⟩ | ⟨_,m,rfl,_,hm⟩
   ·have:c = -1:=h;omega
   ·rcases List.mem_cons.1 hz with rfl | hz
    ·omega
    ·dsimp only at hm;rcases hm with ⟨_,h2⟩ | ⟨_,h2⟩
     ·rw[qU]at h2;have:=ih _ _ _ cF hS.left _ h2 z hz;omega
     ·rw[qU]at h2;have:=ih _ _ _ cJ hS.right _ h2 z hz;omega
theorem zop {p:GP} {kd cl:Int} {w:Nat} (hp:py p kd cl w) {cols:List Int} (aK:∀s,(p.cols s).1=cols) {S:List Nd}:∀(d k:Nat) (rows:List Int) (s:Int),(∀r,r∈rows->0<=r/\r<(p.X.length:Int))->At S k (p.grow d k rows s).1->∀W:Int->List Int,(∀r,r∈rows->dC S (p.X.getD r.toNat []) k (W r))->∀(j:Nat) (R:List Int),(p.rowsAt cols d rows)[j]?=some R->R=rows.filter fun r=>decide (((k+j:Nat):Int)∈W r):=by
 have root:∀{k:Nat} {rows:List Int} {W:Int->List Int},(∀r,r∈rows->dC S (p.X.getD r.toNat []) k (W r))->rows=rows.filter fun r=>decide (((k+0:Nat):Int)∈W r):=fun {k rows W} h=>(List.filter_eq_self.2 fun r hr=>by
  have:=h r hr;rw[qY];generalize W r=l at this ⊢;cases this <;> simp).symm
 intro d
 induction d with
 | zero =>
  intro k rows s hb hS W hW j R hj
  cases j with
  | zero=>cases hj;exact root hW
  | succ j=>cases hj
 | succ d ih =>
  intro k rows s hb hS W hW j R hj
  cases hc:p.cut rows (p.cols s).1 with
  | none =>
   rw[GP.rowsAt_none (by rw[<-aK s];exact hc)]at hj
   cases j with
   | zero=>cases hj;exact root hW
   | succ j=>cases hj
  | some q =>
   obtain⟨c,t⟩:=q;obtain⟨uQ,_,ew,dQ,_,_⟩:=B1 hp hb hc;have cF:∀r,r∈aR p.X c t rows->0<=r/\r<(p.X.length:Int):=fun r hr=>hb r (List.mem_filter.mp hr).1;have cJ:∀r,r∈bf p.X c t rows->0<=r/\r<(p.X.length:Int):=fun r hr=>hb r (List.mem_filter.mp hr).1;rw[GP.grow_some hc]at hS;rw[GP.rowsAt_some (by rw[<-aK s];exact hc)]at hj;dsimp only at hS
   cases j with
   | zero=>cases hj;exact root hW
   | succ j =>
    rw[pM]at hj
    have fG:∀r,r∈rows->cY p.X c r=true:=fun r hr=>by
     obtain⟨R,rfl⟩:=qh (hb r hr).1;have hR:=(hb _ hr).2;unfold cY;obtain⟨x,hx⟩:∃x,p.X[R]?=some x:=⟨_,qA oM⟩;rw[qU,qB,hx,Option.getD_some,hp.wide x (qF hx)];simp;omega
    have j8:∀r,r∈rows->∃m,W r=(k:Int)::m/\((bD p.X c r<=t/\dC S (p.X.getD r.toNat []) (k+1) m)\/(¬bD p.X c r<=t/\dC S (p.X.getD r.toNat []) (k+1+(p.grow d (k+1) (aR p.X c t rows) (p.cols s).2).1.length) m)):=fun r hr=>by
     rcases (hW r hr).one hS.head with ⟨h,_⟩ | ⟨_,m,e,_,hm⟩
     ·have:c = -1:=h;omega
     ·refine⟨m,e,?_⟩;dsimp only at hm;rw[qU,qU]at hm;exact hm
    have hlW:∀r,r∈aR p.X c t rows->dC S (p.X.getD r.toNat []) (k+1) ((W r).tail):=fun r hr=>by
     obtain⟨h1,h2⟩:=List.mem_filter.1 hr;obtain⟨m,e,hm⟩:=j8 r h1;rw[fG r h1,Bool.true_and]at h2;rw[e];exact(hm.resolve_right fun k=>k.1 (of_decide_eq_true h2)).2
    have hhW:∀r,r∈bf p.X c t rows->dC S (p.X.getD r.toNat []) (k+1+(p.grow d (k+1) (aR p.X c t rows) (p.cols s).2).1.length) ((W r).tail):=fun r hr=>by
     obtain⟨h1,h2⟩:=List.mem_filter.1 hr;obtain⟨m,e,hm⟩:=j8 r h1;rw[fG r h1,Bool.true_and]at h2;rw[e];refine(hm.resolve_left fun k=>?_).2;rw[qD k.1]at h2;cases h2
    have hlen:=(S0 hp aK (S:=S) d (k+1) _ (p.cols s).2 ew cF hS.left).1;by_cases fw:j<(p.rowsAt cols d (aR p.X c t rows)).length
    ·rw[qM fw]at hj;rw[ih _ _ _ cF hS.left _ hlW j R hj];unfold aR;rw[List.filter_filter];refine List.filter_congr fun r hr=>?_;obtain⟨m,e,hm⟩:=j8 r hr;rw[fG r hr,e,Bool.true_and,List.tail_cons];have hne:((k+(j+1):Nat):Int)≠(k:Int):=oM;rcases hm with ⟨h1,h2⟩ | ⟨h1,h2⟩
     ·rw[qD h1,Bool.and_true,show k+1+j=k+(j+1) by omega];exact decide_eq_decide.2 ⟨fun h=>qk _ h,fun h=>(List.mem_cons.1 h).resolve_left hne⟩
     ·rw[qC h1,Bool.and_false];refine(qC fun h=>?_).symm;have:=DL hp d _ _ _ cJ hS.right m h2 _ ((List.mem_cons.1 h).resolve_left hne);omega
    ·rw[qL (by omega)]at hj;rw[ih _ _ _ cJ hS.right _ hhW _ R hj];unfold bf
     rw[List.filter_filter];refine List.filter_congr fun r hr=>?_;obtain⟨m,e,hm⟩:=j8 r hr;rw[fG r hr,e,Bool.true_and,List.tail_cons];have hne:((k+(j+1):Nat):Int)≠(k:Int):=oM;rcases hm with ⟨h1,h2⟩ | ⟨h1,h2⟩
     ·rw[qD h1,Bool.not_true,Bool.and_false];refine(qC fun h=>?_).symm;have:=DL hp d _ _ _ cF hS.left m h2 _ ((List.mem_cons.1 h).resolve_left hne);omega
     ·rw[qC h1,Bool.not_false,Bool.and_true,show k+1+(p.grow d (k+1) (aR p.X c t rows) (p.cols s).2).1.length+(j-(p.rowsAt cols d (aR p.X c t rows)).length)=k+(j+1) by omega];exact decide_eq_decide.2 ⟨fun h=>qk _ h,fun h=>(List.mem_cons.1 h).resolve_left hne⟩
theorem zn2 {p:GP} {kd cl:Int} {w:Nat} (hp:py p kd cl w) {S:List Nd} {x:List Rat}:∀(d k:Nat) (rows:List Int) (s:Int),(∀r,r∈rows->0<=r/\r<(p.X.length:Int))->At S k (p.grow d k rows s).1->∀l,dC S x k l->l.Nodup:=by
 intro d
 induction d with
 | zero =>
  intro k rows s hb hS l hl;rw[GP.grow_zero]at hS;rcases hl.one hS.head with ⟨_,rfl⟩ | ⟨h,_⟩
  ·simp
  ·exact absurd Z h
 | succ d ih =>
  intro k rows s hb hS l hl
  cases hc:p.cut rows (p.cols s).1 with
  | none =>
   rw[GP.grow_none hc]at hS;rcases hl.one hS.head with ⟨_,rfl⟩ | ⟨h,_⟩
   ·simp
   ·exact absurd Z h
  | some q =>
   obtain⟨c,t⟩:=q;obtain⟨uQ,_⟩:=B1 hp hb hc;have cF:∀r,r∈aR p.X c t rows->0<=r/\r<(p.X.length:Int):=fun r hr=>hb r (List.mem_filter.mp hr).1;have cJ:∀r,r∈bf p.X c t rows->0<=r/\r<(p.X.length:Int):=fun r hr=>hb r (List.mem_filter.mp hr).1;rw[GP.grow_some hc]at hS;dsimp only at hS;rcases hl.one hS.head with ⟨h,_⟩ | ⟨_,m,rfl,_,hm⟩
   ·have:c = -1:=h;omega
   ·dsimp only at hm;rw[qU,qU]at hm;rcases hm with ⟨_,h2⟩ | ⟨_,h2⟩
    ·refine List.nodup_cons.2 ⟨fun hk=>?_,ih _ _ _ cF hS.left _ h2⟩;have:=DL hp d _ _ _ cF hS.left m h2 _ hk;omega
    ·refine List.nodup_cons.2 ⟨fun hk=>?_,ih _ _ _ cJ hS.right _ h2⟩;have:=DL hp d _ _ _ cJ hS.right m h2 _ hk;omega
theorem Sub.path {T:List Nd} {w:Int} (x:List Rat) {k h e:Nat} (hs:Sub T w k h e):∃l,dC T x k l:=by
 induction hs with
 | leaf h1 h2 _ _ _=>exact⟨_,.here h1 h2⟩
 | @node k h m e n h1 h2 h3 h4 h5 _ _ p7 pZ =>
  obtain⟨l1,q1⟩:=p7;obtain⟨l2,q2⟩:=pZ;by_cases hc:x.getD n.col.toNat 0<=n.at'
  ·exact⟨_,.low h1 oM hc (by rw[h4,qU];exact q1)⟩
  ·exact⟨_,.high h1 oM hc (by rw[h5,qU];exact q2)⟩
theorem dC.det {T:List Nd} {x:List Rat} {i:Nat} {l:List Int} (h:dC T x i l):∀{m:List Int},dC T x i m->l=m:=by
 induction h with
 | here h1 h2 =>
  intro m hm;rcases hm.one h1 with ⟨_,rfl⟩ | ⟨k,_⟩
  ·rfl
  ·exact absurd h2 k
 | low h1 h2 h3 _ ih =>
  intro m hm;rcases hm.one h1 with ⟨k,_⟩ | ⟨_,m',rfl,_,⟨_,k⟩ | ⟨k,_⟩⟩
  ·exact absurd k h2
  ·rw[ih k]
  ·exact absurd h3 k
 | high h1 h2 h3 _ ih =>
  intro m hm;rcases hm.one h1 with ⟨k,_⟩ | ⟨_,m',rfl,_,⟨k,_⟩ | ⟨_,k⟩⟩
  ·exact absurd k h2
  ·exact absurd k h3
  ·rw[ih k]
def nt (W:Int->List Int) (n:Nat) (done:List Int) (r:Int) (q:List Int):List (List Int):=(List.range n).map fun (j:Nat)=>done.filter (fun r=>decide ((j:Int)∈W r))++if (j:Int)∈q then [r] else []
theorem D9 (W:Int->List Int) (n:Nat) (done:List Int) (r:Int) (q:List Int):(nt W n done r q).length=n:=by simp[nt]
theorem I1 {W:Int->List Int} {n:Nat} {done:List Int} {r:Int} {q:List Int} {j:Nat} (h:j<n):(nt W n done r q)[j]?=some (done.filter (fun r=>decide ((j:Int)∈W r))++if (j:Int)∈q then [r] else []):=by
 unfold nt;rw[qK,List.getElem?_range h];rfl
theorem zpg (W:Int->List Int) (n:Nat) (r:Int):nt W n [] r []=List.replicate n []:=by
 refine List.ext_getElem? fun j=>?_;by_cases h:j<n
 ·rw[I1 h,List.getElem?_replicate,if_pos h];simp
 ·rw[qe (by rw[D9];omega),qe (by rw[List.length_replicate];omega)]
theorem znL {W:Int->List Int} {n:Nat} {done:List Int} {r:Int} {q:List Int} {j:Nat} (hq:(j:Int) ∉ q):(nt W n done r q).set j (done.filter (fun r=>decide ((j:Int)∈W r))++[r])=nt W n done r (q++[(j:Int)]):=by
 refine List.ext_getElem? fun i=>?_;by_cases h:i<n
 ·rw[List.getElem?_set,I1 h,I1 h];by_cases e:j=i
  ·subst e;rw[if_pos rfl,if_pos (by rw[D9];exact h),if_pos (by simp)]
  ·rw[if_neg e]
   have:((i:Int)∈q++[(j:Int)])↔(i:Int)∈q:=by
    rw[List.mem_append,pK];exact⟨fun k=>k.resolve_right oM,.inl⟩
   by_cases hi:(i:Int)∈q
   ·rw[if_pos hi,if_pos (this.2 hi)]
   ·rw[if_neg hi,if_neg fun k=>hi (this.1 k)]
 ·rw[qe (by rw[List.length_set,D9];omega),qe (by rw[D9];omega)]
theorem zph {W:Int->List Int} {n:Nat} {done:List Int} {r r':Int}:nt W n done r (W r)=nt W n (done++[r]) r' []:=by
 unfold nt;refine List.map_congr_left fun j _=>?_;rw[List.filter_append,if_neg List.not_mem_nil,qG];congr 1;by_cases h:(j:Int)∈W r
 ·rw[if_pos h,List.filter_cons_of_pos (by simpa using h)];rfl
 ·rw[if_neg h,List.filter_cons_of_neg (by simpa using h)];rfl
end
section
def tQ (a:Rat) (n:Nat):Nat:=(List.range n).findIdx fun k=>decide (a*((n:Int):Rat)<=(((k+1:Nat):Int):Rat))
def kN (a:Rat) (l:List Rat):Rat:=(gw l).getD (tQ a l.length) 0
def rE (loss:Int) (a:Rat) (l:List Rat):Rat:=if loss=1 then fe l else kN a l
theorem Iu {a:Rat} {n:Nat} (ha:a<1) (hn:1<=n):tQ a n<n:=by
 unfold tQ
 have:=List.findIdx_lt_length_of_exists (xs:=List.range n) (p:=fun k=>decide (a*((n:Int):Rat)<=(((k+1:Nat):Int):Rat))) ⟨n-1,List.mem_range.2 oM,qD (by
  rw[show n-1+1=n by omega];have h0:(0:Rat)<=((n:Int):Rat):=Rat.intCast_nonneg.2 oM;have:=Rat.mul_le_mul_of_nonneg_right (Rat.le_of_lt ha) h0
  rwa [Rat.one_mul]at this)⟩
 rwa [List.length_range]at this
theorem Lr {a:Rat} {n:Nat} (ha:a<1) (hn:1<=n):a*((n:Int):Rat)<=(((tQ a n+1:Nat):Int):Rat):=by
 have h:=Iu ha hn;have:=List.findIdx_getElem (xs:=List.range n) (p:=fun k=>decide (a*((n:Int):Rat)<=(((k+1:Nat):Int):Rat))) (w:=by rw[List.length_range];exact h);rw[List.getElem_range]at this;exact of_decide_eq_true this
theorem LX {a:Rat} {n k:Nat} (hk:k<tQ a n):¬a*((n:Int):Rat)<=(((k+1:Nat):Int):Rat):=fun h=>by
 have h1:tQ a n<=(List.range n).length:=List.findIdx_le_length;rw[List.length_range]at h1;have:=List.not_of_lt_findIdx (xs:=List.range n) (p:=fun k=>decide (a*((n:Int):Rat)<=(((k+1:Nat):Int):Rat))) hk;rw[List.getElem_range]at this;rw[qD h]at this;cases this
theorem Sm {a:Rat} {n k:Nat} (ha:a<1) (hn:1<=n) (h1:a*((n:Int):Rat)<=(((k+1:Nat):Int):Rat)) (h2:∀j,j<k->¬a*((n:Int):Rat)<=(((j+1:Nat):Int):Rat)):k=tQ a n:=by
 rcases Nat.lt_trichotomy k (tQ a n) with h | h | h
 ·exact absurd h1 (LX h)
 ·exact h
 ·exact absurd (Lr ha hn) (h2 _ h)
theorem LD {a:Rat} {l:List Rat} (ha:a<1) (hl:1<=l.length):kN a l∈l:=by
 have h:=Iu ha hl;have hs:=(zZ l).length_eq;unfold kN;rw[qB,qA oM,Option.getD_some];exact(zZ l).mem_iff.1 (List.getElem_mem _)
structure BG where
 loss:Int
 rate:Rat
 tilt:Rat
 X:List (List Rat)
 W:Nat
 D:Nat
 least:Int
 gain:Rat
structure BG.Ok (b:BG):Prop where
 loss:b.loss=1\/b.loss=2
 rate:0<b.rate/\b.rate<=1
 one:b.loss=1->b.tilt=0
 two:b.loss=2->0<b.tilt/\b.tilt<1
 den:b.rate.den<=4/\ht b.tilt<=10
 rows:1<=b.X.length/\b.X.length<=8
 wide:1<=b.W/\b.W<=20
 each:∀x,x∈b.X->x.length=b.W/\∀q,q∈x->ht q<=60
 deep:b.D<=10
 least:1<=b.least/\b.least<=300
 gain:0<=b.gain/\ht b.gain<=10
def BG.mid (b:BG) (l:List Rat):Rat:=rE b.loss b.tilt l
def BG.goal (b:BG) (left:List Rat):List Rat:=if b.loss=1 then left else left.map fun t=>if 0<t then b.tilt else if t=0 then 0 else b.tilt-1
theorem BG.goal_len (b:BG) (left:List Rat):(b.goal left).length=left.length:=by
 unfold BG.goal;split
 ·rfl
 ·exact qV ..
abbrev BG.gp (b:BG) (left:List Rat):GP:=trP (.v (b.goal left)) b.X b.least b.gain fun s=>(bJ b.W,s)
def BG.raw (b:BG) (left:List Rat):List Nd:=((b.gp left).grow b.D 0 (bJ b.X.length) 0).1
noncomputable def mz (ns:List Nd) (x:List Rat):List Int:=Classical.epsilon (dC ns x 0)
theorem KN {ns:List Nd} {x:List Rat} {l:List Int} (h:dC ns x 0 l):mz ns x=l:=(Classical.epsilon_spec (p:=dC ns x 0) ⟨l,h⟩).det h
noncomputable def BG.part (b:BG) (left:List Rat) (ns:List Nd) (j:Nat):List Rat:=atR left ((bJ b.X.length).filter fun r=>decide ((j:Int)∈mz ns (b.X.getD r.toNat [])))
def Hg (n:Nd) (v:Rat):Nd:={ n with value:=v }
noncomputable def BG.midsTo (b:BG) (left:List Rat) (ns:List Nd) (k:Nat):List Nd:=ns.mapIdx fun j n=>if j<k then Hg n (kN b.tilt (b.part left ns j)) else n
noncomputable def BG.mids (b:BG) (left:List Rat) (ns:List Nd):List Nd:=b.midsTo left ns ns.length
noncomputable def BG.nodes (b:BG) (left:List Rat):List Nd:=if b.loss=1 then b.raw left else b.mids left (b.raw left)
noncomputable def BG.tree (b:BG) (left:List Rat):Tr:=⟨2,0,(b.W:Int),b.nodes left⟩
noncomputable def BG.next (b:BG) (left:List Rat):List Rat:=List.zipWith (fun x q=>q-b.rate*(iU x (b.tree left)).value) b.X left
noncomputable def BG.fit (b:BG) (y:List Rat):Nat->List Tr × List Rat
 | 0=>([],y.map fun q=>q-b.mid y)
 | k+1=>((b.fit y k).1++[b.tree (b.fit y k).2],b.next (b.fit y k).2)
noncomputable def jO (base rate:Rat) (ts:List Tr) (x:List Rat):Rat:=base+rate*aJ (vL x ts)
theorem Zj (x:List Rat) (ts:List Tr) (t:Tr):vL x (ts++[t])=vL x ts++[(iU x t).value]:=by unfold vL;rw[qo];rfl
theorem SH (base rate:Rat) (x:List Rat):jO base rate [] x=base:=by
 unfold jO;rw[show vL x []=[] from rfl,zQ,Rat.mul_zero,Rat.add_zero]
theorem TP (base rate:Rat) (ts:List Tr) (t:Tr) (x:List Rat):jO base rate (ts++[t]) x=jO base rate ts x+rate*(iU x t).value:=by
 unfold jO;rw[Zj,uk];grind
theorem Cy {α β γ:Type} {f:α->β->γ} {l:List α} {m:List β} {i:Nat} {a:α} {b:β} (h1:l[i]?=some a) (h2:m[i]?=some b):(List.zipWith f l m)[i]?=some (f a b):=by
 rw[List.getElem?_zipWith,h1,h2]
theorem BG.fit_left (b:BG) (y:List Rat) (hy:y.length=b.X.length) (k:Nat):(b.fit y k).2=List.zipWith (fun x q=>q-jO (b.mid y) b.rate (b.fit y k).1 x) b.X y:=by
 induction k with
 | zero =>
  show (y.map fun q=>q-b.mid y)=List.zipWith (fun x q=>q-jO (b.mid y) b.rate [] x) b.X y;refine List.ext_getElem? fun i=>?_;by_cases hi:i<y.length
  ·rw[Cy (qA (show i<b.X.length by omega)) (qA hi),qK,qA hi,SH];rfl
  ·rw[qe (by rw[qV];omega),qe (by rw[List.length_zipWith];omega)]
 | succ k ih =>
  show List.zipWith (fun x q=>q-b.rate*(iU x (b.tree (b.fit y k).2)).value) b.X (b.fit y k).2=List.zipWith (fun x q=>q-jO (b.mid y) b.rate ((b.fit y k).1++[b.tree (b.fit y k).2]) x) b.X y;generalize b.tree (b.fit y k).2=t;rw[ih];generalize (b.fit y k).1=ts;refine List.ext_getElem? fun i=>?_;by_cases hi:i<y.length
  ·have h1:=qA (show i<b.X.length by omega);have h2:=qA hi;rw[Cy h1 (Cy h1 h2),Cy h1 h2,TP];congr 1;grind
  ·rw[qe (by rw[List.length_zipWith,List.length_zipWith];omega),qe (by rw[List.length_zipWith];omega)]
theorem BG.fit_len (b:BG) (y:List Rat) (hy:y.length=b.X.length) (k:Nat):(b.fit y k).2.length=b.X.length/\(b.fit y k).1.length=k:=by
 induction k with
 | zero=>exact⟨by show (y.map _).length=_;rw[qV];exact hy,rfl⟩
 | succ k ih =>
  refine⟨?_,?_⟩
  ·show (b.next (b.fit y k).2).length=_;unfold BG.next;rw[List.length_zipWith];omega
  ·show ((b.fit y k).1++[_]).length=_;rw[qJ,ih.2];rfl
structure nw (T T':List Nd):Prop where
 len:T'.length=T.length
 node:∀(j:Nat) (n:Nd),T[j]?=some n->∃v,T'[j]?=some (Hg n v)
theorem nw.refl (T:List Nd):nw T T:=⟨rfl,fun j n h=>⟨n.value,h⟩⟩
theorem nw.symm {T T':List Nd} (h:nw T T'):nw T' T:=⟨h.len.symm,fun j n hj=>by
 have hl:=(qE.1 hj).1;have h1:=qA (l:=T) (i:=j) (by have:=h.len;omega);obtain⟨v,e⟩:=h.node j _ h1;rw[e]at hj;cases hj;exact⟨_,h1⟩⟩
theorem nw.sub {T T':List Nd} (h:nw T T') {w:Int} {k hh e:Nat} (s:Sub T w k hh e):Sub T' w k hh e:=by
 induction s with
 | leaf a b c d f =>
  obtain⟨v,q⟩:=h.node _ _ a;exact .leaf q b c d f
 | node a b c d f _ _ p7 pZ =>
  obtain⟨v,q⟩:=h.node _ _ a;exact .node q b c d f p7 pZ
theorem nw.path {T T':List Nd} (h:nw T T') {x:List Rat} {k:Nat} {l:List Int} (s:dC T x k l):dC T' x k l:=by
 induction s with
 | here a b =>
  obtain⟨v,q⟩:=h.node _ _ a;exact .here q b
 | low a b c _ ih =>
  obtain⟨v,q⟩:=h.node _ _ a;exact .low q b c ih
 | high a b c _ ih =>
  obtain⟨v,q⟩:=h.node _ _ a;exact .high q b c ih
theorem nw.ok {T T':List Nd} (h:nw T T') {w:Int} (aM:kW ⟨2,0,w,T⟩) (hv:∀n,n∈T'->ht n.value<=4000):kW ⟨2,0,w,T'⟩:=by
 obtain⟨h1,h2,h3,⟨hh,h4,h5⟩,h6⟩:=aM;dsimp only at h3 h5 h6;refine⟨h1,h2,by have:=h.len;dsimp only;omega,⟨hh,h4,by dsimp only;rw[h.len];exact h.sub h5⟩,fun i hi=>?_⟩;dsimp only at hi ⊢;obtain⟨n,e,o,c⟩:=h6 i (by have:=h.len;omega);obtain⟨v,q⟩:=h.node _ _ e;refine⟨_,q,⟨o.rows,o.cost,o.len,o.pos,o.sum,o.cls,fun k=>absurd k (by decide),o.small.1,o.small.2.1,hv _ (qF q)⟩,fun k=>?_⟩;obtain⟨k1,k2,k3,a,b',q1,q2,q3⟩:=c k;obtain⟨v1,e1⟩:=h.node _ _ q1;obtain⟨v2,e2⟩:=h.node _ _ q2;exact⟨k1,k2,k3,_,_,e1,e2,⟨q3.rows,q3.counts,q3.cost⟩⟩
theorem yF (b:BG) (left:List Rat) (ns:List Nd) (k j:Nat):(b.midsTo left ns k)[j]?=ns[j]?.map fun n=>if j<k then Hg n (kN b.tilt (b.part left ns j)) else n:=List.getElem?_mapIdx
theorem Mo (b:BG) (left:List Rat) (ns:List Nd) (k:Nat):(b.midsTo left ns k).length=ns.length:=List.length_mapIdx
theorem UW (b:BG) (left:List Rat) (ns:List Nd):b.midsTo left ns 0=ns:=by
 refine List.ext_getElem? fun j=>?_;rw[yF];cases ns[j]? <;> rfl
theorem Vf (b:BG) (left:List Rat) (ns:List Nd) (k:Nat):nw ns (b.midsTo left ns k):=⟨Mo ..,fun j n h=>by
 rw[yF,h];by_cases hj:j<k
 ·exact⟨_,by rw[Option.map_some,if_pos hj]⟩
 ·exact⟨n.value,by rw[Option.map_some,if_neg hj];rfl⟩⟩
theorem Ue (b:BG) (left:List Rat) {ns:List Nd} {k:Nat} {n:Nd} (h:(b.midsTo left ns k)[k]?=some n):(b.midsTo left ns k).set k (Hg n (kN b.tilt (b.part left ns k)))=b.midsTo left ns (k+1):=by
 have hk:=(qE.1 h).1;refine List.ext_getElem? fun j=>?_;rw[List.getElem?_set];by_cases e:k=j
 ·subst e;rw[if_pos rfl,if_pos hk,yF];rw[yF]at h
  cases hn:ns[k]? with
  | none=>rw[hn]at h;cases h
  | some m =>
   rw[hn,Option.map_some,if_neg (Nat.lt_irrefl k)]at h;cases h;rw[Option.map_some,if_pos (Nat.lt_succ_self k)]
 ·rw[if_neg e,yF,yF]
  cases ns[j]? with
  | none=>rfl
  | some m =>
   rw[Option.map_some,Option.map_some];by_cases h1:j<k
   ·rw[if_pos h1,if_pos (by omega)]
   ·rw[if_neg h1,if_neg (by omega)]
theorem Q9:∀n:Nat,1<=n->n<=8->n ∣ 840:=fun n h1 h2=>by
 have h:∀m:Fin 9,m.val≠0->m.val ∣ 840:=by decide
 exact h ⟨n,by omega⟩ (by show n≠0;omega)
section
variable {b:BG} (hb:b.Ok)
include hb
theorem BG.Ok.goal_grid {left:List Rat} (hl:lU left):lU (b.goal left):=by
 unfold BG.goal;by_cases h:b.loss=1
 ·rw[if_pos h];exact hl
 rw[if_neg h];obtain⟨h0,h1⟩:=hb.two (hb.loss.resolve_left h);have hd:=oA b.tilt;have Xi:=hb.den.2;have kJ:=b.tilt.den_nz
 have hg:Gr b.tilt.den 2 b.tilt:=by
  refine Gr.ofDen (Nat.dvd_refl _) ?_;have e:=KS b.tilt;have h2:(0:Rat)<(((b.tilt.den:Nat):Int):Rat):=Rat.intCast_pos.2 oM;have h3:=Rat.mul_lt_mul_of_pos_right h1 h2;rw[e,Rat.one_mul]at h3;have h4:b.tilt.num<(b.tilt.den:Int):=Rat.intCast_lt_intCast.1 h3;have h5:0<b.tilt.num:=LC.2 h0;omega
 have uW:Gr b.tilt.den 1 1:=Gr.ofDen (q:=1) (Nat.one_dvd _) (by decide);refine⟨b.tilt.den,3,by omega,by omega,?_,fun q hq=>?_⟩
 ·have:=gQ 3 b.tilt.den;have h3:bl 3<=2:=cf (by decide);omega
 ·obtain⟨t,_,rfl⟩:=List.mem_map.1 hq;split
  ·exact hg.mono oM
  split
  ·exact Gr.zero _ _
  ·exact hg.sub uW
theorem BG.Ok.gd {left:List Rat} (hl:lU left) (hn:left.length=b.X.length):GD.Ok b.X.length (.v (b.goal left)):=⟨by rw[BG.goal_len];exact hn,hb.goal_grid hl⟩
theorem BG.Ok.gp {left:List Rat} (hl:lU left) (hn:left.length=b.X.length):py (b.gp left) 2 0 b.W :=
 Ye (d:=.v (b.goal left)) (hb.gd hl hn) rfl (by have:=hb.rows;omega) hb.each hb.gain.1 fun _=>vU
theorem BG.Ok.raw {left:List Rat} (hl:lU left) (hn:left.length=b.X.length):kW ⟨2,0,(b.W:Int),b.raw left⟩/\1<=(b.raw left).length/\(b.raw left).length<=15:=by
 have h1:=hb.rows;have bH:=kX b.X.length;refine⟨znT (hb.gp hl hn) hb.wide hb.deep (rows:=bJ b.X.length) (show 1<=(bJ b.X.length).length by omega) (show (bJ b.X.length).length<=300 by omega) vU 0,(GP.grow_len _ _ _ _ _).1,?_⟩;have:=I6 (hb.gp hl hn) b.D 0 (bJ b.X.length) 0 oM vU;unfold BG.raw;omega
theorem BG.Ok.part {left:List Rat} (hl:lU left) (hn:left.length=b.X.length) {j:Nat} {n:Nd} (h:(b.raw left)[j]?=some n):(∀q,q∈b.part left (b.raw left) j->q∈left)/\1<=(b.part left (b.raw left) j).length/\(b.part left (b.raw left) j).length<=8/\n.value=fe (atR (b.goal left) ((bJ b.X.length).filter fun r=>decide ((j:Int)∈mz (b.raw left) (b.X.getD r.toNat [])))):=by
 obtain⟨fi,_,_⟩:=hb.raw hl hn;obtain⟨hh,_,aQ⟩:=fi.sub;dsimp only at aQ;have h8:=hb.rows;have bH:=kX b.X.length;obtain⟨e1,f1⟩:=S0 (hb.gp hl hn) (cols:=bJ b.W) (fun _=>rfl) (S:=b.raw left) b.D 0 (bJ b.X.length) 0 oM vU (At.self _);have fw:=(qE.1 h).1;obtain⟨R,hR⟩:∃R,((b.gp left).rowsAt (bJ b.W) b.D (bJ b.X.length))[j]?=some R:=⟨_,qA (by rw[e1];exact fw)⟩
 have hw:=zop (hb.gp hl hn) (cols:=bJ b.W) (fun _=>rfl) (S:=b.raw left) b.D 0 (bJ b.X.length) 0 vU (At.self _) (fun r=>mz (b.raw left) (b.X.getD r.toNat [])) (fun r _=>by
  obtain⟨l,bV⟩:=aQ.path (b.X.getD r.toNat []);have:=KN bV;rw[this];exact bV) j R hR
 obtain⟨n',sJ,ho,W4,hR1,_⟩:=f1.node j R hR;rw[qu]at sJ hw;cases h.symm.trans sJ;unfold BG.part;rw[<-hw]
 have iF:R.length<=b.X.length:=by
  have:=List.length_filter_le (fun r=>decide ((j:Int)∈mz (b.raw left) (b.X.getD r.toNat []))) (bJ b.X.length);rw[hw];omega
 refine⟨yt fun r hr=>?_,by rw[lY];exact hR1,by rw[lY];omega,ho.value⟩;have:=W4 r hr;rw[hn];exact this
theorem BG.Ok.rd:Gr b.rate.den 1 b.rate:=by
 refine Gr.ofDen (Nat.dvd_refl _) ?_;have e:=KS b.rate;have kJ:=b.rate.den_nz;have h2:(0:Rat)<=(((b.rate.den:Nat):Int):Rat):=Rat.intCast_nonneg.2 oM;have h3:=Rat.mul_le_mul_of_nonneg_right hb.rate.2 h2;rw[e,Rat.one_mul]at h3;have h4:b.rate.num<=(b.rate.den:Int):=Rat.intCast_le_intCast.1 h3;have h5:0<b.rate.num:=LC.2 hb.rate.1;omega
theorem BG.Ok.nodes_gr {left:List Rat} {D A:Nat} (hD:1<=D) (hA:1<=A) (cI:bl (A*D)<=95) (hq:∀q,q∈left->Gr D A q) (hn:left.length=b.X.length):∀n,n∈b.nodes left->Gr (D*840) A n.value:=by
 have hg:lU left:=⟨D,A,hD,hA,cI,hq⟩;intro n hm;unfold BG.nodes at hm;by_cases h:b.loss=1
 ·rw[if_pos h]at hm;obtain⟨j,hj⟩:=List.mem_iff_getElem?.1 hm;obtain⟨p1,p2,p3,p4⟩:=hb.part hg hn hj;rw[p4,show b.goal left=left from if_pos h];exact Gr.meanK (fun q k=>hq q (p1 q k)) (Q9 _ p2 p3)
 ·rw[if_neg h]at hm;obtain⟨j,hj⟩:=List.mem_iff_getElem?.1 hm;unfold BG.mids at hj;rw[yF]at hj
  cases sJ:(b.raw left)[j]? with
  | none=>rw[sJ]at hj;cases hj
  | some m =>
   have fw:=(qE.1 sJ).1;rw[sJ,Option.map_some,if_pos fw]at hj;cases hj;obtain⟨p1,p2,p3,_⟩:=hb.part hg hn sJ;exact(hq _ (p1 _ (LD (hb.two (hb.loss.resolve_left h)).2 p2))).up 840
omit hb in
theorem BG.nodes_alikeV (b:BG) (left:List Rat):nw (b.raw left) (b.nodes left):=by
 unfold BG.nodes;split
 ·exact nw.refl _
 ·exact Vf ..
structure tT (w:Nat) (t:Tr):Prop where
 ok:kW t
 kd:t.kd=2
 cl:t.cl=0
 wide:t.w=(w:Int)
 len:1<=t.ns.length/\t.ns.length<=15
 small:∀n,n∈t.ns->ht n.value<=105
theorem BG.Ok.tree {left:List Rat} {D A:Nat} (hD:1<=D) (hA:1<=A) (cI:bl (A*D)<=95) (hq:∀q,q∈left->Gr D A q) (hn:left.length=b.X.length):tT b.W (b.tree left):=by
 have hg:lU left:=⟨D,A,hD,hA,cI,hq⟩;obtain⟨h1,h2,h3⟩:=hb.raw hg hn;have ha:=b.nodes_alikeV left;have hv:=hb.nodes_gr hD hA cI hq hn
 have hs:∀n,n∈b.nodes left->ht n.value<=105:=fun n k=>by
  refine qI ((hv n k).bits oM hA) ?_;rw[<-Nat.mul_assoc];have h4:=gQ (A*D) 840;have h5:bl 840<=10:=cf (by decide);omega
 exact⟨ha.ok h1 fun n k=>qI (hs n k) oM,rfl,rfl,rfl,by have:=ha.len;show 1<=(b.nodes left).length/\(b.nodes left).length<=15;omega,hs⟩
theorem BG.Ok.next {left:List Rat} {D A:Nat} (hD:1<=D) (hA:1<=A) (cI:bl (A*D)<=95) (hq:∀q,q∈left->Gr D A q) (hn:left.length=b.X.length):∀q,q∈b.next left->Gr (D*(840*b.rate.den)) (2*A) q:=by
 have ht:=hb.tree hD hA cI hq hn;have hv:=hb.nodes_gr hD hA cI hq hn;intro q hm;obtain⟨i,hi⟩:=List.mem_iff_getElem?.1 hm;unfold BG.next at hi;rw[List.getElem?_zipWith]at hi
 cases hx:b.X[i]? with
 | none=>rw[hx]at hi;cases hi
 | some x =>
  cases hl:left[i]? with
  | none=>rw[hx,hl]at hi;cases hi
  | some p =>
   rw[hx,hl]at hi;cases hi;obtain⟨j,_,_,hj,_⟩:=Io ht.ok x;have h1:=hq p (qF hl);have h2:=hb.rd.mul (hv _ (qF hj))
   have h3:=(h1.up (840*b.rate.den)).sub (B:=A) (by
    rw[show D*(840*b.rate.den)=b.rate.den*(D*840) by rw[qW b.rate.den,Nat.mul_assoc]]
    rwa [Nat.one_mul]at h2)
   rwa [show 2*A=A+A by omega]
theorem BG.Ok.mid_gr {y:List Rat} {D A:Nat} (hq:∀q,q∈y->Gr D A q) (hn:y.length=b.X.length):Gr (D*840) A (b.mid y):=by
 have h8:=hb.rows;unfold BG.mid rE;by_cases h:b.loss=1
 ·rw[if_pos h];exact Gr.meanK hq (Q9 _ oM oM)
 ·rw[if_neg h];exact(hq _ (LD (hb.two (hb.loss.resolve_left h)).2 oM)).up 840
omit hb in
theorem KL {D A K r k:Nat} (hr:r≠0) (cI:bl ((2*A*2 ^ K)*(D*840*(840*r) ^ K))<=95) (hk:k<=K):bl ((2*A*2 ^ k)*(D*840*(840*r) ^ k))<=95:=qI (ik (Nat.mul_le_mul (qb _ (qc oM hk)) (qb _ (qc oM hk)))) cI
theorem BG.Ok.fit {y:List Rat} {D A:Nat} (hD:1<=D) (hA:1<=A) (hq:∀q,q∈y->Gr D A q) (hn:y.length=b.X.length) {K:Nat} (cI:bl ((2*A*2 ^ K)*(D*840*(840*b.rate.den) ^ K))<=95):∀k,k<=K->(∀q,q∈(b.fit y k).2->Gr (D*840*(840*b.rate.den) ^ k) (2*A*2 ^ k) q)/\(∀t,t∈(b.fit y k).1->tT b.W t):=by
 have jB:=b.rate.den_nz;have jq:∀k,k<=K->bl ((2*A*2 ^ k)*(D*840*(840*b.rate.den) ^ k))<=95:=fun k hk=>KL jB cI hk;intro k
 induction k with
 | zero =>
  refine fun _=>⟨fun q hm=>?_,fun t hm=>by cases hm⟩;obtain⟨p,hp,rfl⟩:=List.mem_map.1 hm;rw[Nat.pow_zero,Nat.pow_zero,Nat.mul_one,Nat.mul_one,show 2*A=A+A by omega];exact((hq p hp).up 840).sub (hb.mid_gr hq hn)
 | succ k ih =>
  intro hk;obtain⟨h1,h2⟩:=ih oM;have hl:=(b.fit_len y hn k).1;have lq:0<(840*b.rate.den) ^ k:=Nat.pow_pos oM;have gi:0<2 ^ k:=Nat.pow_pos oM;have fT:1<=D*840*(840*b.rate.den) ^ k:=Nat.mul_pos oM lq;have ib:1<=2*A*2 ^ k:=Nat.mul_pos oM gi;refine⟨fun q hm=>?_,fun t hm=>?_⟩
  ·have:=hb.next fT ib (jq k oM) h1 hl q hm
   rwa [qX,<-Nat.mul_assoc,qX,show 2*A*(2 ^ k*2)=2*(2*A*2 ^ k) by rw[qW (2 ^ k) 2,<-Nat.mul_assoc,qW (2*A) 2,Nat.mul_assoc 2 (2*A)]]
  ·rcases List.mem_append.1 (show t∈(b.fit y k).1++[b.tree (b.fit y k).2] from hm) with h | h
   ·exact h2 t h
   ·rw[pK.1 h];exact hb.tree fT ib (jq k oM) h1 hl
end
end
section
open Go.RowKit _root_.Go.Proofs.Tryz
section
variable {n:Nat} {ops:Array Oper} {o:Oper} {env:Env} {bx:Bxs} {H:Hs} {K:Env->Bxs->Hs->Prop} {L:Array Bool} {fuel d:Nat} {v:Value} {I:World->Prop} {z:Option Nat}
theorem IX (i:Nat) {x y:Operand} {T:TypeId} {te te':TE} {e:TypeId} {b off m cap q:Nat} {k:IntKind} {w:Int} (h:EVG I z prog n ops fuel (L.setIfInBounds i true) ((d,.v (.pointer (some ⟨b,off+q*te'.size,none⟩)))::env) bx H K) (hw':w=(q:Int)) (hq:q<m) (hi:ops[i]?=some o:=by exact Z) (hs:Region.noSelect ops=true:=by kernel_rfl) (hf:Region.free .any ops L i=true:=by kernel_rfl) (hr:(Region.ready .any ops L).contains i=true:=by kernel_rfl) (hy:nV .any ops L i=true:=by kernel_rfl) (bq:(z == some i)=false:=by kernel_rfl) (hw:aP ops env o=some true:=by exact Z) (hd:o.dst=some d:=by exact Z) (hn:Nat.blt d n=true:=by exact Z)
  (ho:o.op=.indexAddr T x y:=by exact Z) (hx:env.op x=some (.v (.slice (some ⟨b,off,none⟩) m cap)):=by exact Z) (hyy:env.op y=some (.v (.int k w)):=by exact Z) (ht:am.get T=some te:=by exact Z) (hk:te.kind=.slice e:=by exact Z) (aM:am.get e=some te':=by exact Z):EVG I z prog n ops (fuel+1) L env bx H K :=
 EVG.take (J:=fun _=>True) i (.inr ⟨fun _=>trivial,fun e=>by rw[e]at bq;simp at bq⟩) hi hs hf hr hy hw hd hn (fun β a W he _=>by
  have ex:a.eval x=_:=he x _ hx;have ey:a.eval y=_:=he y _ hyy;have aW:=(tO.get ht).kind;rw[hk]at aW;have aN:Tryz.prog.underlying T=some (.slice e):=aW;unfold execOp;simp[ho,ex,ey,Instr.indexAt,asIntOf,run_underlying aN,hw',(tO.get aM).size,Addr.add_mid,hq]) h
theorem IRQ (i:Nat) {H0:Hp} {x:Operand} {T:TypeId} {te:TE} {b off:Nat} {c:Array Value} {l:List Value} (hI:∀w,I w->Fits H0 w) (h:EVG I z prog n ops fuel (L.setIfInBounds i true) ((d,.v v)::env) bx H K) (hc:H0 b=some c) (hl:∀(j:Nat) (u:Value),l[j]?=some u->c[off+j]?=some u) (hlen:l.length=te.size) (hv:nX te.agg l=some v) (hi:ops[i]?=some o:=by exact Z) (hs:Region.noSelect ops=true:=by kernel_rfl) (hf:Region.free .any ops L i=true:=by kernel_rfl) (hr:(Region.ready .any ops L).contains i=true:=by kernel_rfl) (hy:nV .any ops L i=true:=by kernel_rfl) (bq:BF .any ops z i=true:=by kernel_rfl) (hw:aP ops env o=some true:=by exact Z) (hd:o.dst=some d:=by exact Z) (hn:Nat.blt d n=true:=by exact Z)
  (ho:o.op=.load T x:=by exact Z) (hx:env.op x=some (.v (.pointer (some ⟨b,off,none⟩))):=by exact Z) (ht:am.get T=some te:=by exact Z):EVG I z prog n ops (fuel+1) L env bx H K :=
 EVG.take (J:=Fits H0) i (.inl ⟨bq,hI⟩) hi hs hf hr hy hw hd hn (fun β a W he hB=>by
  have ex:a.eval x=_:=he x _ hx;obtain⟨T',fz,hW⟩:=hB b c hc
  have AI:W.rangeAt b off l:=fun j u hj=>by
   rw[cell_of_row W b (off+j) c T' fz hW];exact hl j u hj
  have aY:=Ac (tO.get ht) AI hlen hv;unfold execOp;simp only[ho,ex,Sem.run_bind,aY,Result.andThen_ok,Sem.run_pure]) h
theorem ILQ (i:Nat) {T0:TypeId} {cs:List Value} {x:Operand} {T:TypeId} {te:TE} {b off:Nat} {l:List Value} (hI:∀w,I w->Box w b cs.toArray T0) (h:EVG I z prog n ops fuel (L.setIfInBounds i true) ((d,.v v)::env) bx H K) (hl:(cs.drop off).take te.size=l) (hlen:l.length=te.size) (hv:nX te.agg l=some v) (hi:ops[i]?=some o:=by exact Z) (hs:Region.noSelect ops=true:=by kernel_rfl) (hf:Region.free .any ops L i=true:=by kernel_rfl) (hr:(Region.ready .any ops L).contains i=true:=by kernel_rfl) (hy:nV .any ops L i=true:=by kernel_rfl) (bq:BF .any ops z i=true:=by kernel_rfl) (hw:aP ops env o=some true:=by exact Z) (hd:o.dst=some d:=by exact Z) (hn:Nat.blt d n=true:=by exact Z)
  (ho:o.op=.load T x:=by exact Z) (hx:env.op x=some (.v (.pointer (some ⟨b,off,none⟩))):=by exact Z) (ht:am.get T=some te:=by exact Z):EVG I z prog n ops (fuel+1) L env bx H K :=
 EVG.take (J:=fun w=>Box w b cs.toArray T0) i (.inl ⟨bq,hI⟩) hi hs hf hr hy hw hd hn (fun β a W he hB=>by
  have ex:a.eval x=_:=he x _ hx;have AI:=hB.range off te.size;rw[hl]at AI;have aY:=Ac (tO.get ht) AI hlen hv;unfold execOp;simp only[ho,ex,Sem.run_bind,aY,Result.andThen_ok,Sem.run_pure]) h
end
theorem SlC.expl {H:Hp} {v:Value} {n s:Nat} {xs:List Value} (h:SlC H v n s xs) (h0:0<n):∃b off cap c,v=.slice (some ⟨b,off,none⟩) n cap/\H b=some c/\∀(j:Nat) (x:Value),xs[j]?=some x->c[off+j]?=some x:=by
 rcases h.2 with ⟨e,_⟩ | ⟨b,off,cap,c,e,_,h2,h3⟩
 ·omega
 ·exact⟨b,off,cap,c,e,h2,h3⟩
theorem nu {z:Option Nat} {L:Array Bool} {n:Nat} {env:Env} {bx:Bxs} {H:Hs} {p:Nat × TypeId × List Value} {H0:Hp} {jj:Nat} (hj:mC z L=false\/H.ow[jj]?=some p) (h:H0.Le H.ro):mC z L=true->∀W0 β a W,Rel n W0 H.base β env bx H a W->Box W p.1 p.2.2.toArray p.2.1/\Fits H0 W:=fun hn W0 β a W r=>⟨He hj hn W0 β a W r,r.fits.mono h⟩
theorem PW.reads {P:Program} {f:FuncId} {args:Array Value} {H:Hp} {L:Ows} {b:Nat} {T:TypeId} {cs:List Value} {Φ:Value->Ows->Prop} (oZ:fQ P f) (h:∀G,H.Le G->G b=some cs.toArray->PW P f args G L fun v ow _=>Φ v ow) :
  PW P f args H ((b,T,cs)::L) fun v ow _=>∃au,ow=(b,T,cs)::au/\Φ v au:=by
 refine⟨oZ,fun W hf hg hL hd=>?_⟩;obtain⟨Bp,hH,nQ⟩:=hL 0 b T cs rfl
 have hne:∀(j b':Nat) (T':TypeId) (aq:List Value),L[j]?=some (b',T',aq)->b'≠b:=fun j b' T' aq hj e=>by
  subst e;have:=hd (j+1) 0 b' T' T aq cs (by rw[pM];exact hj) Z;omega
 have ki:b ∉ L.bs:=fun hm=>by
  obtain⟨j,T',aq,hj⟩:=Ows.mem_bs hm;exact hne j b T' aq hj Z
 have hle:H.Le (fun k=>if k=b then some cs.toArray else H k):=fun k c e=>by
  have:k≠b:=fun e'=>by subst e';rw[hH]at e;cases e
  show (if k=b then some cs.toArray else H k)=some c;rw[if_neg this];exact e
 refine((h (fun k=>if k=b then some cs.toArray else H k) hle (if_pos rfl)).run W (fun k c e=>?_) hg (fun j b' T' aq hj=>?_) (fun j j' b' T1 T2 c1 c2 h1 h2=>?_)).mono ?_
 ·change (if k=b then some cs.toArray else H k)=some c at e;by_cases hk:k=b
  ·subst hk;rw[if_pos rfl]at e;cases e;exact⟨T,(0,0),Bp⟩
  ·rw[if_neg hk]at e;exact hf k c e
 ·obtain⟨q1,q2,q3⟩:=hL (j+1) b' T' aq (by rw[pM];exact hj);refine⟨q1,?_,q3⟩;show (if b'=b then some cs.toArray else H b')=none;rw[if_neg (hne j b' T' aq hj)];exact q2
 ·have:=hd (j+1) (j'+1) b' T1 T2 c1 c2 (by rw[pM];exact h1) (by rw[pM];exact h2);omega
 ·rintro e W' ⟨v,ow,H',rfl,hΦ,gT,jI,aL,hk,dF,Pw⟩;have hHb:H' b=some cs.toArray:=gT b _ (if_pos rfl)
  have rv:Box W' b cs.toArray T:=by
   have h2:W'.heap[b]?=W.heap[b]?:=hk.block b Bp.lt ki;have h1:W.heap[b]?=some (.cells cs.toArray T (0,0)):=Bp;show W'.heap[b]?=some (.cells cs.toArray T (0,0));rw[h2];exact h1
  refine⟨v,(b,T,cs)::ow,fun k=>if k=b then none else H' k,rfl,⟨ow,rfl,hΦ⟩,fun k c ek=>?_,fun k c ek=>?_,fun k c ek=>?_,⟨hk.os,hk.tape,hk.output,hk.size,fun k af hx=>hk.block k af fun hm=>hx (qk _ hm)⟩,fun j b' T' aq hj=>?_,fun j j' b' T1 T2 c1 c2 h1 h2=>?_⟩
  ·have fu:k≠b:=fun e'=>by subst e';rw[hH]at ek;cases ek
   show (if k=b then none else H' k)=some c;rw[if_neg fu];exact gT k c (by show (if k=b then some cs.toArray else H k)=some c;rw[if_neg fu];exact ek)
  ·change (if k=b then none else H' k)=some c at ek;by_cases fu:k=b
   ·rw[if_pos fu]at ek;cases ek
   ·rw[if_neg fu]at ek;exact jI k c ek
  ·change (if k=b then none else H' k)=some c at ek;by_cases fu:k=b
   ·rw[if_pos fu]at ek;cases ek
   ·rw[if_neg fu]at ek;rcases aL k c ek with q | q
    ·change (if k=b then some cs.toArray else H k)=some c at q;rw[if_neg fu]at q;exact .inl q
    ·exact .inr q
  ·cases j with
   | zero =>
    cases hj;exact⟨rv,.inr (qf ..),if_pos Z⟩
   | succ j =>
    rw[pM]at hj;obtain⟨q1,q2,q3⟩:=dF j b' T' aq hj;refine⟨q1,q2.imp id (fun k=>qk _ k),?_⟩;show (if b'=b then none else H' b')=none;by_cases fu:b'=b
    ·exact if_pos fu
    ·rw[if_neg fu];exact q3
  ·have bF:∀(j:Nat) (T':TypeId) (aq:List Value),ow[j]?≠some (b,T',aq):=fun j T' aq hj=>by
    have:=(dF j b T' aq hj).2.2;rw[hHb]at this;cases this
   cases j with
   | zero =>
    cases j' with
    | zero=>rfl
    | succ j'=>cases h1;exact absurd h2 (bF j' T2 c2)
   | succ j =>
    cases j' with
    | zero=>cases h2;exact absurd h1 (bF j T1 c1)
    | succ j' =>
     have:=Pw j j' b' T1 T2 c1 c2 h1 h2;omega
theorem PW.publish {P:Program} {f:FuncId} {args:Array Value} {H:Hp} {Φ:Value->Ows->Hp->Prop} {Ψ:Value->Hp->Prop} (h:PW P f args H [] Φ) (k:∀v ow H',Φ v ow H'->∃(e:TypeId) (s:Nat) (u:Value) (m:Nat) (xs:List Value),aF e s u m xs ow/\∀G,H'.Le G->SlC G u m s xs->Ψ v G):PC P f args H Ψ:=by
 refine⟨h.can,fun W hf hg=>(h.run W hf hg (fun j b T cs hj=>by cases hj) (fun j j' b T T' cs aq hj=>by cases hj)).mono ?_⟩;rintro e W' ⟨v,ow,H',rfl,hΦ,hle,jI,aL,hk,hb,_⟩;have kp:Below W.heap.size W W':=⟨hk.os,hk.tape,hk.output,hk.size,fun k af=>hk.block k af (by simp[Ows.bs])⟩;obtain⟨e,s,u,m,xs,ah,hq⟩:=k v ow H' hΦ;rcases ah.2 with ⟨rfl,rfl,rfl⟩ | ⟨g,cap,sp,rfl,rfl,h1,h2,h3⟩
 ·exact⟨v,H',rfl,hq H' (Hp.Le.refl _) ⟨ah.1,.inl ⟨rfl,none,0,rfl⟩⟩,hle,jI,kp,aL⟩
 ·obtain⟨q1,q2,q3⟩:=hb 0 g e (xs++sp) rfl;have q2:W.heap.size<=g:=q2.resolve_right (by simp[Ows.bs])
  have du:H'.Le (fun k=>if k=g then some (xs++sp).toArray else H' k):=fun k c ek=>by
   have:k≠g:=fun e'=>by subst e';rw[q3]at ek;cases ek
   show (if k=g then some (xs++sp).toArray else H' k)=some c;rw[if_neg this];exact ek
  refine⟨v,fun k=>if k=g then some (xs++sp).toArray else H' k,rfl,hq _ du ⟨ah.1,.inr ⟨g,0,cap,_,rfl,h2,if_pos rfl,fun j x hj=>?_⟩⟩,hle.trans du,fun k c ek=>?_,kp,fun k c ek=>?_⟩
  ·simp only[qu,List.getElem?_toArray];rw[qM (qE.1 hj).1];exact hj
  ·change (if k=g then some (xs++sp).toArray else H' k)=some c at ek;by_cases nP:k=g
   ·subst nP;rw[if_pos rfl]at ek;cases ek;exact⟨e,(0,0),q1⟩
   ·rw[if_neg nP]at ek;exact jI k c ek
  ·change (if k=g then some (xs++sp).toArray else H' k)=some c at ek;by_cases nP:k=g
   ·subst nP;rw[if_pos rfl]at ek;cases ek;exact .inr ⟨q2,e,q1⟩
   ·rw[if_neg nP]at ek;exact aL k c ek
section
variable {P:Program} {n:Nat} {ops:Array Oper} {o:Oper} {rest:List Oper} {env:Env} {bx:Bxs} {sb:Bxs} {ow:Ows} {H:Hs} {Q:EQ} {τ:Tab} {d:Nat} {s:SV}
theorem az.callRO {f:FuncId} {args:Array Operand} {bW:Array TypeId} (ho:o.op=.call ⟨.value (.func f),args,bW⟩) (hw:aP ops env o=some true) {vs:List Value} (ha:dX env args.toList some=some vs) (jj:Nat) {b:Nat} {T:TypeId} {cs:List Value} (hj:ow[jj]?=some (b,T,cs))
  (hc:fQ P f) {F:Hp->Prop} {R:Hp} {Φ:Value->Ows->Prop} {Ψ:Value->Hp->Prop} (hpc:∀G,R.Le G->F G->∀G',G.Le G'->G' b=some cs.toArray->PW P f vs.toArray G' [] fun v ow _=>Φ v ow)
  (hΦ:∀v ow,Φ v ow->∃(e:TypeId) (s:Nat) (m:Nat) (xs:List Value),aF e s v m xs ow/\∀G,SlC G v m s xs->Ψ v G):az P ops o env bx ow R F (fun _ v G=>Ψ v G):=fun β a W G hle hf hgl hb ah hs hF=>by
 obtain⟨aX,hk,hm⟩:=oz env _ _ _ ha;cases hk;have aG:=hm β G a.eval (fun y s hy=>hs.op (by simp[ho,Op.operands,Call.operands];exact .inr (by simpa using hy)));have hB:=ah jj b T cs hj;rw[if_pos (hs.want hw)];unfold Oper.wp;rw[yH hc ho aG,Oper.upon_enter]
 have hGb:∀c,G b=some c->c=cs.toArray:=fun c e=>by
  obtain⟨T',fz,h1⟩:=hf b c e;have h2:W.heap[b]?=some (.cells cs.toArray T (0,0)):=hB;rw[h2]at h1;cases h1;rfl
 have du:G.Le (fun k=>if k=b then some cs.toArray else G k):=fun k c e=>by
  show (if k=b then some cs.toArray else G k)=some c;by_cases hk:k=b
  ·subst hk;rw[if_pos rfl,hGb c e]
  ·rw[if_neg hk];exact e
 refine((hpc G hle hF (fun k=>if k=b then some cs.toArray else G k) du (if_pos rfl)).run W (fun k c e=>?_) hgl (fun j b' T' aq h=>by cases h) (fun j j' b' T1 T2 c1 c2 h1 h2=>by cases h1)).mono ?_
 ·change (if k=b then some cs.toArray else G k)=some c at e;by_cases hk:k=b
  ·subst hk;rw[if_pos rfl]at e;cases e;exact⟨T,(0,0),hB⟩
  ·rw[if_neg hk]at e;exact hf k c e
 ·rintro e W' ⟨v,au,H',rfl,hv,gT,jI,aL,hk,dF,_⟩;have kp:Below W.heap.size W W':=⟨hk.os,hk.tape,hk.output,hk.size,fun k af=>hk.block k af (by simp[Ows.bs])⟩;obtain⟨e,s,m,xs,ao,hΨ⟩:=hΦ v au hv
  have zz:∀k c,k≠b->H' k=some c->G k=some c\/(W.heap.size<=k/\∃T,W'.heap[k]?=some (.cells c T (0,0))):=fun k c hk e=>by
   rcases aL k c e with q | q
   ·change (if k=b then some cs.toArray else G k)=some c at q;rw[if_neg hk]at q;exact .inl q
   ·exact .inr q
  have fwd:∀k c,G k=some c->H' k=some c:=fun k c e=>gT k c (du k c e);have CZ:=hf.below kp;rcases ao.2 with ⟨rfl,rfl,rfl⟩ | ⟨g,cap,sp,rfl,rfl,h1,h2,h3⟩
  ·refine⟨_,G,rfl,hΨ G ⟨ao.1,.inl ⟨rfl,none,0,rfl⟩⟩,Hp.Le.refl G,CZ,kp,Nw.refl _ _ _⟩
  ·obtain⟨q1,q2,q3⟩:=dF 0 g e (xs++sp) rfl;have q2:W.heap.size<=g:=q2.resolve_right (by simp[Ows.bs])
   have hGg:G g=none:=by
    cases dV:G g with
    | none=>rfl
    | some c=>have:=hf.lt (b:=g) (by rw[dV];simp);omega
   have wZ:G.Le (fun k=>if k=g then some (xs++sp).toArray else G k):=fun k c ek=>by
    have:k≠g:=fun e'=>by subst e';rw[hGg]at ek;cases ek
    show (if k=g then some (xs++sp).toArray else G k)=some c;rw[if_neg this];exact ek
   refine⟨_,fun k=>if k=g then some (xs++sp).toArray else G k,rfl,hΨ _ ⟨ao.1,.inr ⟨g,0,cap,_,rfl,h2,if_pos rfl,fun j x hj=>?_⟩⟩,wZ,fun k c ek=>?_,kp,fun k c ek=>?_⟩
   ·simp only[qu,List.getElem?_toArray];rw[qM (qE.1 hj).1];exact hj
   ·change (if k=g then some (xs++sp).toArray else G k)=some c at ek;by_cases nP:k=g
    ·subst nP;rw[if_pos rfl]at ek;cases ek;exact⟨e,(0,0),q1⟩
    ·rw[if_neg nP]at ek;exact CZ k c ek
   ·change (if k=g then some (xs++sp).toArray else G k)=some c at ek;by_cases nP:k=g
    ·subst nP;rw[if_pos rfl]at ek;cases ek;exact .inr ⟨q2,e,q1⟩
    ·rw[if_neg nP]at ek;exact .inl ek
theorem DJ.callRO {tail l:List Oper} {x:Nat->Value} {y:Nat->Ows} {au:Ows} {kl ks:List DK} {i:Nat} {aw:Bxs} {Γ:fO} {f:FuncId} {args:Array Operand} {bW:Array TypeId} (ho:o.op=.call ⟨.value (.func f),args,bW⟩) (hw:aP ops env o=some true) (hd:o.dst=some d) (hn:Nat.blt d n=true)
  {vs:List Value} (ha:dX env args.toList some=some vs) (jj:Nat) {b:Nat} {T:TypeId} {cs:List Value} (hj:H.ow[jj]?=some (b,T,cs)) (hc:fQ P f) {Φ:Value->Ows->Prop} {Ψ:Value->Hp->Prop} (hpc:∀G,H.ro.Le G->dD ops i Γ G->∀G',G.Le G'->G' b=some cs.toArray->PW P f vs.toArray G' [] fun v ow _=>Φ v ow)
  (hΦ:∀v ow,Φ v ow->∃(e:TypeId) (s:Nat) (m:Nat) (xs:List Value),aF e s v m xs ow/\∀G,SlC G v m s xs->Ψ v G) (hm:∀v G G',Ψ v G->G.Le G'->Ψ v G')
  (h:DJ P n ops tail sb bx H Q x y kl (i+1) l ks ((d,.v (x i))::env) aw ((i,Ψ (x i))::Γ) au):DJ P n ops tail sb bx H Q x y kl i (o::l) (.call Ψ::ks) env aw Γ au :=
 DJ.ofCall (az.callRO ho hw ha jj hj hc hpc hΦ) hd hn hm h
end
set_option maxRecDepth 100000 in
theorem S9 {H:Hp} {cs:List Value} {vx:Value} {kd cl w:Int} {ns:List Nd} {x:List Rat} (ht:nY H cs kd cl w ns) (fi:kW ⟨kd,cl,w,ns⟩) (hx:RL H vx x) (er:(x.length:Int)=w) (ed:∀q,q∈x->rq q) :
  PW prog 51 #[.agg cs.toArray,vx] H [] fun r ow _=>∃l:List Int,aF 3 1 r l.length (l.map iv) ow/\dC ns x 0 l/\l.length<=2000:=by
 obtain⟨a,cp,css,rfl,bX,bA⟩:=ht;obtain⟨aW,hw,eU,⟨hh,FT,aQ⟩,av⟩:=fi;dsimp only at aW hw eU aQ av;have bQ:=aQ.end0;obtain⟨xa,xc,rfl⟩:=hx.val;refine PW.body tO func51 Z kR ntmps51 Z Z ?_;refine uR ?_;refine EVL.lit tO Z Z Z Z Z Z Z Z Z Z Z fun bl=>?_;refine uR ?_;refine EV.loopK (ι:=Nat × List Int × Value × Ows) [1,2] [2] (fun q=>[(5,.v q.2.2.1),(6,.v (.int .i64 (q.1:Int)))]) (fun _=>[]) (fun q=>q.2.2.2) (fun q G=>q.1<ns.length/\q.2.1.length<=q.1/\(∀m,dC ns x q.1 m->dC ns x 0 (q.2.1++m))/\aF 3 1 q.2.2.1 (q.2.1.length+1) (q.2.1.map iv++[iv q.1]) q.2.2.2) (fun q=>ns.length-q.1) ((0,[],_,_)) Z Z ⟨Z,Z,trivial⟩ trivial rfl (fun _=>rfl) (⟨bQ,qH _,fun m h=>h,aF.full rfl oM⟩) ?_;rintro⟨i,l,vw,ow⟩ G1 aj ⟨hi,dc,sO,ah⟩;dsimp only at hi dc sO ah;obtain⟨wa,wc,rfl⟩:=ah.val;obtain⟨n,hn,hN,_⟩:=av i hi;obtain⟨c,hcut,hnd⟩:=(bX.mono aj).get hn;obtain⟨b1,a1,l1,c1,a2,l2,c2,b3,a3,l3,c3,a4,l4,c4,b5,a5,l5,c5,a6,l6,c6,a7,c7,rfl,JD,_,_,_⟩:=hnd.cells;obtain⟨h',e',AE⟩:=aQ.at i (qQ _) hi;have hle:=AE.lt;refine uR ?_;refine EVL.idxM tO Z Z Z Z Z Z Z Z Z ((bA.mono aj)) (i) (rfl) (hi) (hcut) ?_;refine uR ?_
 cases AE with
 | leaf q1 q2 q3 q4 q5 =>
  rw[hn]at q1;cases q1;rw[qC (show ¬n.col>=0 by omega)];have bY:=ah.il;refine uR ?_;exact⟨l++[(i:Int)],bY,sO _ (.here hn q2),by rw[qJ,qw];omega⟩
 | @node _ h1 m _ _ q1 q2 q3 q4 q5 s1 s2 =>
  rw[hn]at q1;cases q1;have FF:=s1.lt;have sM:=s2.lt;have cj:n.col.toNat<x.length:=oM;obtain⟨y,hy⟩:∃y,x[n.col.toNat]?=some y:=⟨_,qA cj⟩;have EG:x.getD n.col.toNat 0=y:=by rw[qB,hy];rfl
  obtain⟨xcs,xb,CH,CB,CD,CG,CA,CC,Nz,EN,jY⟩:=hx.slc hy;rw[qD (show n.col>=0 by omega)];refine uR ?_;refine EVL.idxM tO Z Z Z Z Z Z Z Z Z ((bA.mono aj)) (i) (rfl) (hi) (hcut) ?_;refine uR ?_;apply EV.drawn 9 kR kR;intro xv yw;(repeat refine' DD ?_);refine' DJ.idxM tO Z Z Z Z Z Z Z Z Z ((Nz.mono aj)) (n.col.toNat) ((by rw[Int.toNat_of_nonneg q2])) (cj) (EN) ?_;rotate_left;(repeat refine' DD ?_);refine' vC (cO func53) (fun G hG hd=>kz ((jY.mono aj).mono hG) (JD.mono hG) (ed y (qF hy)) (by have:=hN.small.1;unfold rq;omega)) ?_;rotate_left;(repeat refine' DD ?_);(refine DJ.nil (fun G2 ai fN=>?_);(case hS|hS2=>rfl));by_cases du:y<=n.at'
  ·rw[qD (KW du)];refine uR ?_;refine EVL.app1 tO Z Z Z Z Z Z Z Z Z Z Z Z Z Z Z Z Z Z Z (fun _=>rfl) (ow) ([]) ((qG _).symm) (ah) oM fun _=>?_;intro v' au ao;obtain⟨va,vc,rfl⟩:=ao.val;refine uR ?_;refine⟨(n.left.toNat,l++[(i:Int)],_,au),⟨rfl,by dsimp only;rw[Int.toNat_of_nonneg (by omega)];rfl,trivial⟩,sB,trivial,sB,qG _,⟨by dsimp only;omega,by dsimp only;rw[qJ,qw];omega,fun m h=>by dsimp only;rw[qZ];exact sO _ (.low hn oM (by rw[EG];exact du) h),by dsimp only;rw[qJ,qo,Int.toNat_of_nonneg (by omega)];exact ao⟩,ai,by dsimp only;omega⟩
  ·rw[qC (show ¬bI y n.at'<=0 from fun k=>du (Rat.not_lt.1 fun k2=>by have:=(DW y n.at').2 k2;omega))];refine uR ?_;refine EVL.app1 tO Z Z Z Z Z Z Z Z Z Z Z Z Z Z Z Z Z Z Z (fun _=>rfl) (ow) ([]) ((qG _).symm) (ah) oM fun _=>?_;intro v' au ao;obtain⟨va,vc,rfl⟩:=ao.val;refine uR ?_;refine⟨(n.right.toNat,l++[(i:Int)],_,au),⟨rfl,by dsimp only;rw[Int.toNat_of_nonneg (by omega)];rfl,trivial⟩,sB,trivial,sB,qG _,⟨by dsimp only;omega,by dsimp only;rw[qJ,qw];omega,fun m h=>by dsimp only;rw[qZ];exact sO _ (.high hn oM (by rw[EG];exact du) h),by dsimp only;rw[qJ,qo,Int.toNat_of_nonneg (by omega)];exact ao⟩,ai,by dsimp only;omega⟩
theorem zr5 {H:Hp} {cs:List Value} {vx:Value} {kd cl w:Int} {ns:List Nd} {x:List Rat} (ht:nY H cs kd cl w ns) (fi:kW ⟨kd,cl,w,ns⟩) (hx:RL H vx x) (er:(x.length:Int)=w) (ed:∀q,q∈x->rq q) :
  PC prog 51 #[.agg cs.toArray,vx] H fun r G=>∃l:List Int,IL G r l/\dC ns x 0 l/\l.length<=2000 :=
 (S9 ht fi hx er ed).publish fun v ow H' ⟨l,h1,h2,h3⟩=>⟨_,_,v,_,_,h1,fun G _ hs=>⟨l,hs,h2,h3⟩⟩
theorem zqc {H:Hp} {cs:List Value} {vx:Value} {kd cl w:Int} {ns:List Nd} {x:List Rat} (ht:nY H cs kd cl w ns) (fi:kW ⟨kd,cl,w,ns⟩) (hx:RL H vx x) (er:(x.length:Int)=w) (ed:∀q,q∈x->rq q) :
  PC prog 95 #[.agg cs.toArray,vx] H fun r _=>∃i:Nat,r=.int .i64 (i:Int)/\mA ns x 0 i:=by
 have rV:=zr5 ht fi hx er ed;obtain⟨a,cp,css,rfl,bX,bA⟩:=ht;obtain⟨xa,xc,rfl⟩:=hx.val;refine BD func95 ntmps95 ?_;refine uR ?_;refine vA (rV) ?_;rintro r G ⟨l0,bY,hp,dc⟩ hG;obtain⟨i,l,rfl,hL⟩:=hp.leaf;rw[qJ,qw]at dc;obtain⟨la,lc,rfl⟩:=SlC.val bY
 have hw:IntKind.i64.wrap (((l++[(i:Int)]).length:Int)-1)=((l.length:Nat):Int):=by
  rw[qJ,qw,pL];omega
 refine uR ?_;rw[hw];refine vI (bY) (l.length) (rfl) ((by rw[qJ,qw];omega)) ((by rw[qK,qL (qH _),Nat.sub_self];rfl)) ?_;refine uR ?_;exact⟨i,rfl,hL⟩
def fP (loss:Int) (rate tilt:Rat):Bool:=decide (0<rate) && (decide (rate<=1) && (if loss=1 then decide (tilt=0) else decide (0<tilt) && decide (tilt<1)))
theorem pI {q:Rat}:q.num.sign<=0↔¬0<q:=by
 rw[<-LC];rcases Int.lt_trichotomy q.num 0 with h | h | h
 ·rw[Int.sign_eq_neg_one_of_neg h];omega
 ·rw[h];simp
 ·rw[Int.sign_eq_one_of_pos h];omega
theorem yj (a b:Rat):bI a b<0↔a<b:=by
 unfold bI;by_cases h:a<b
 ·rw[if_pos h];exact⟨fun _=>h,fun _=>by omega⟩
 ·rw[if_neg h];refine⟨fun k=>?_,fun k=>absurd k h⟩;split at k <;> omega
theorem zV {q:Rat}:q.num.sign=0↔q=0:=by rw[Int.sign_eq_zero_iff_zero,Rat.num_eq_zero]
set_option maxRecDepth 100000 in
theorem Tz {H:Hp} {loss:Int} {b1 b2:Bool} {a1 a2 a3 a4:Option Addr} {l1 c1 l2 c2 l3 c3 l4 c4:Nat} {rate tilt:Rat} (h1:RQ H (.agg #[.bool b1,.slice a1 l1 c1,.slice a2 l2 c2]) rate) (h2:RQ H (.agg #[.bool b2,.slice a3 l3 c3,.slice a4 l4 c4]) tilt) (hr:rq rate) (hZ:rq tilt) :
  PC prog 43 #[.int .i64 loss,.agg #[.bool b1,.slice a1 l1 c1,.slice a2 l2 c2],.agg #[.bool b2,.slice a3 l3 c3,.slice a4 l4 c4]] H fun r _=>r=.bool (fP loss rate tilt):=by
 have kC:=fun (G:Hp) (hG:H.Le G)=>Aa (RQ.mono h1 hG);have cr:=fun (G:Hp) (hG:H.Le G)=>Aa (RQ.mono h2 hG);have q1:rq 1:=by show ht 1<=_;decide +kernel
 have ho:=fun G:Hp=>ju (H:=G) 1 oM oM;rw[show ((1:Int):Rat)=1 from rfl]at ho;refine BD func43 ntmps43 ?_;refine uR ?_;by_cases k1:0<rate
 case neg =>
  apply EV.drawn 9 kR kR;intro xv yw;(repeat refine' DD ?_);refine' vC (cO func48) (fun G hG hd=>kC G hG) ?_;rotate_left;(repeat refine' DD ?_);rw[qD (pI.2 k1)];(repeat refine' DD ?_);(refine DJ.nil (fun G1 aj gV=>?_);(case hS|hS2=>rfl));refine uR ?_;rw[show fP loss rate tilt=false by unfold fP;rw[qC k1];rfl]
 by_cases k2:rate<=1
 case neg =>
  apply EV.drawn 9 kR kR;intro xv yw;(repeat refine' DD ?_);refine' vC (cO func48) (fun G hG hd=>kC G hG) ?_;rotate_left;(repeat refine' DD ?_);rw[qC (fun k=>pI.1 k k1)];(repeat refine' DD ?_);refine' vB (cO func8) (fun G hG hd=>ho G) (fun _ _ _ h k=>RQ.mono h k) ?_;rotate_left;refine' vC (cO func53) (fun G hG hd=>kz (h1.mono hG) (hd.head kR) hr q1) ?_;rotate_left;(repeat refine' DD ?_);rw[qD (show bI rate 1>0 from (DW rate 1).2 (Rat.not_le.1 k2))];(repeat refine' DD ?_);(refine DJ.nil (fun G1 aj gV=>?_);(case hS|hS2=>rfl));refine uR ?_;rw[show fP loss rate tilt=false by unfold fP;rw[qC k2,Bool.false_and,Bool.and_false]]
 apply EV.drawn 9 kR kR;intro xv yw;(repeat refine' DD ?_);refine' vC (cO func48) (fun G hG hd=>kC G hG) ?_;rotate_left;(repeat refine' DD ?_);rw[qC (fun k=>pI.1 k k1)];(repeat refine' DD ?_);refine' vB (cO func8) (fun G hG hd=>ho G) (fun _ _ _ h k=>RQ.mono h k) ?_;rotate_left;refine' vC (cO func53) (fun G hG hd=>kz (h1.mono hG) (hd.head kR) hr q1) ?_;rotate_left;(repeat refine' DD ?_);rw[qC (show ¬bI rate 1>0 from fun k=>absurd ((DW rate 1).1 k) (Rat.not_lt.2 k2))];(repeat refine' DD ?_);(refine DJ.nil (fun G1 aj gV=>?_);(case hS|hS2=>rfl));have xL:=RQ.mono h2 aj;refine uR ?_;by_cases e1:loss=1
 ·subst e1;rw[show ((1:Int) == 1)=true from rfl,show fP 1 rate tilt=decide (tilt=0) by unfold fP;rw[qD k1,qD k2];rfl];refine uR ?_;refine vA (Aa xL) ?_;rintro _ G2 rfl ai;refine uR ?_;by_cases z:tilt=0
  ·rw[qD z,zV.2 z];rfl
  ·rw[qC z,show (tilt.num.sign == 0)=false from pQ.2 fun k=>z (zV.1 k)]
 rw[show (loss == 1)=false from pQ.2 e1,show fP loss rate tilt=(decide (0<tilt) && decide (tilt<1)) by unfold fP;rw[qD k1,qD k2,if_neg e1];rfl];refine uR ?_;by_cases z:0<tilt
 ·apply EV.drawn 10 kR kR;intro xv yw;(repeat refine' DD ?_);refine' vC (cO func48) (fun G hG hd=>Aa (RQ.mono xL hG)) ?_;rotate_left;(repeat refine' DD ?_);rw[qD (show tilt.num.sign>0 from Int.not_le.1 fun k=>pI.1 k z)];(repeat refine' DD ?_);refine' vB (cO func8) (fun G hG hd=>ho G) (fun _ _ _ h k=>RQ.mono h k) ?_;rotate_left;refine' vC (cO func53) (fun G hG hd=>kz (RQ.mono xL hG) (hd.head kR) hZ q1) ?_;rotate_left;(repeat refine' DD ?_);(refine DJ.nil (fun G2 ai fN=>?_);(case hS|hS2=>rfl));refine uR ?_;rw[qD z,Bool.true_and];by_cases y:tilt<1
  ·rw[qD y,qD ((yj tilt 1).2 y)]
  ·rw[qC y,qC fun k=>y ((yj tilt 1).1 k)]
 ·apply EV.drawn 10 kR kR;intro xv yw;(repeat refine' DD ?_);refine' vC (cO func48) (fun G hG hd=>Aa (RQ.mono xL hG)) ?_;rotate_left;(repeat refine' DD ?_);rw[qC (show ¬tilt.num.sign>0 from fun k=>absurd (pI.2 z) oM)];(repeat refine' DD ?_);(refine DJ.nil (fun G2 ai fN=>?_);(case hS|hS2=>rfl));refine uR ?_;rw[qC z];rfl
set_option maxRecDepth 100000 in
theorem Yk {H:Hp} {v:Value} {l:List Int} {n:Int} (h:IL H v l) (hl:l.length<=1000000):PC prog 50 #[v,.int .i64 n] H fun r _=>r=.bool (decide (n∈l)):=by
 obtain⟨a,c,rfl⟩:=SlC.val h;refine BD func50 ntmps50 ?_;refine uR ?_;refine EV.loopK (ι:=Nat) [0,1] [] (fun q=>[(5,.v (.int .i64 (q:Int)))]) (fun _=>[]) (fun _=>[]) (fun q _=>q<=l.length/\n ∉ l.take q) (fun q=>l.length-q) (0) Z Z ⟨Z,trivial⟩ trivial rfl (fun _=>rfl) (⟨qQ _,by simp⟩) ?_;rintro i G hG ⟨hi,hn⟩;refine uR ?_;refine EV.cond Z (fun af=>?_) (fun af=>?_)
 ·simp only[nN]at af;obtain⟨z,hz⟩:=gE af;refine uR ?_;refine vI ((h.mono hG)) (i) (rfl) (af) ((by rw[qK,hz];rfl)) ?_;refine uR ?_;by_cases e:z=n
  ·rw[show (z == n)=true from beq_iff_eq.2 e];refine uR ?_;rw[qD (e ▸ qF hz)]
  ·rw[show (z == n)=false from pQ.2 e];refine uR ?_;refine⟨i+1,⟨by rw[aO i (by omega)];rfl,trivial⟩,sB,trivial,sB,rfl,⟨af,?_⟩,Hp.Le.refl _,by omega⟩;rw[dZ hz,List.mem_append,pK];exact fun k=>k.elim hn fun k=>e k.symm
 ·simp only[nN]at af;obtain rfl:i=l.length:=oM;rw[qa]at hn;refine uR ?_;rw[qC hn]
set_option maxRecDepth 100000 in
theorem TV {H:Hp} {loss:Int} {v:Value} {l:List Rat} {b1:Bool} {a1 a2:Option Addr} {l1 c1 l2 c2:Nat} {tilt:Rat} (hl:RL H v l) (h2:RQ H (.agg #[.bool b1,.slice a1 l1 c1,.slice a2 l2 c2]) tilt) (h0:1<=l.length) (h8:l.length<=1000) (hb:∀q,q∈l->ht q<=100) (hZ:loss≠1->0<tilt/\tilt<1) (FQ:ht tilt<=10) :
  PC prog 45 #[.int .i64 loss,.agg #[.bool b1,.slice a1 l1 c1,.slice a2 l2 c2],v] H fun r G=>RQ G r (rE loss tilt l):=by
 obtain⟨va,vc,rfl⟩:=hl.val;have uC:∀q,q∈l->rq q:=fun q hq=>iL (hb q hq) oM;refine BD func45 ntmps45 ?_;by_cases k1:loss=1
 ·subst k1;rw[show rE 1 tilt l=fe l from if_pos rfl];refine uR ?_;rw[show ((1:Int) == 1)=true from rfl];refine uR ?_;refine EVL.call Z Z Z Z Z (T5 hl oM oM hb) ?_;intro r G hr hG;obtain⟨_,_,_,_,_,_,rfl,_⟩:=id hr;refine uR ?_;exact hr
 ·rw[show rE loss tilt l=kN tilt l from if_neg k1];refine uR ?_;rw[show (loss == 1)=false from pQ.2 k1];refine uR ?_;obtain⟨t0,t1⟩:=hZ k1;refine EVL.call Z Z Z Z Z (T3 hl oM uC) ?_;intro r G hs hG;have bA:(gw l).length=l.length:=(zZ l).length_eq;obtain⟨sa,sc,rfl⟩:=hs.val;rw[bA];have N0:rq tilt:=iL FQ oM;refine uR ?_;refine EV.loopK (ι:=Nat) [4,6,7] [4,6] (fun q=>[(8,.v (.int .i64 (q:Int)))]) (fun _=>[]) (fun _=>[]) (fun q _=>q<=tQ tilt l.length) (fun q=>l.length-q) (0) Z Z ⟨Z,trivial⟩ trivial rfl (fun _=>rfl) (qQ _) ?_;rintro k G2 ai hk;have lB:=Iu (a:=tilt) t1 h0
  have hq:rq (Rat.divInt ((k+1:Nat):Int) (l.length:Int)):=by
   have:=TR ((k+1:Nat):Int) (l.length:Int) oM;refine qI this (Nat.max_le.2 ⟨qI (cf (k:=20) oM) oM,qI (cf (k:=20) oM) oM⟩)
  have hlen:(0:Rat)<((l.length:Int):Rat):=Rat.intCast_pos.2 oM
  have FP:Rat.divInt ((k+1:Nat):Int) (l.length:Int)<tilt↔¬tilt*((l.length:Int):Rat)<=(((k+1:Nat):Int):Rat):=by
   rw[Rat.divInt_eq_div,Rat.not_le,Rat.div_lt_iff hlen]
  have cX:=fun G:Hp=>Cp (H:=G) ((k+1:Nat):Int) (l.length:Int) oM oM oM oM oM;have xL:=RQ.mono h2 (hG.trans ai);have cr:=hs.mono ai;refine uR ?_;apply EV.drawn 8 kR kR;intro xv yw;(repeat refine' DD ?_);rw[aO k (by omega)];refine' vB (cO func19) (fun G hG hd=>cX G) (fun _ _ _ h k=>RQ.mono h k) ?_;rotate_left;(repeat refine' DD ?_);refine' vC (cO func53) (fun G hG hd=>kz (hd.head kR) (RQ.mono xL hG) hq N0) ?_;rotate_left;(repeat refine' DD ?_);(refine DJ.nil (fun G3 ax fM=>?_);(case hS|hS2=>rfl));by_cases hc:Rat.divInt ((k+1:Nat):Int) (l.length:Int)<tilt
  ·rw[qD ((yj _ tilt).2 hc)];refine uR ?_;refine⟨k+1,⟨by rw[aO k (by omega)];rfl,trivial⟩,sB,trivial,sB,rfl,?_,ax,by omega⟩;rcases Nat.lt_or_eq_of_le hk with h | h
   ·exact h
   ·exact absurd (Lr t1 h0) (by rw[<-h];exact FP.1 hc)
  ·rw[qC fun k=>hc ((yj _ tilt).1 k)];have JM:=Sm t1 h0 (Decidable.not_not.1 fun q=>hc (FP.2 q)) fun j hj=>LX (Nat.lt_of_lt_of_le hj hk);have A8:k<(gw l).length:=by rw[bA,JM];exact lB
   obtain⟨x,hx⟩:∃x,(gw l)[k]?=some x:=⟨_,qA A8⟩
   have hmx:kN tilt l=x:=by
    unfold kN;rw[<-JM,qB,hx];rfl
   obtain⟨cs,xb,xa1,xl1,xc1,xa2,xl2,xc2,hS,hcut,jY⟩:=(cr.mono ax).slc hx;rw[bA]at hS;rw[hmx];refine uR ?_;refine EVL.idxM tO Z Z Z Z Z Z Z Z Z (hS) (k) (rfl) (oM) (hcut) ?_;refine uR ?_;exact jY
def Hh (t:Int):Rat:=if t.tmod 4=1 then (if (kP t).num<0 then -kP t else kP t) else 0
theorem zr3 {H:Hp} (d0 l0 t:Int) (hd:gM d0) (hl:gM l0) (ht:gM t) :
  PC prog 20 #[.int .i64 d0,.int .i64 l0,.int .i64 t] H fun r H'=>∃b1 a1 l1 c1 a2 l2 c2,r=zF (d0 % 5) (1+l0 % 3) (.bool b1) (.slice a1 l1 c1) (.slice a2 l2 c2)/\RQ H' (.agg #[.bool b1,.slice a1 l1 c1,.slice a2 l2 c2]) (Hh t):=by
 have lq:=pS d0 5 hd oM oM;have gi:=pS l0 3 hl oM oM;refine BD func20 ntmps20 ?_
 repeat (first|refine RUN ?_|refine CV (lq) ?_|refine CV (gi) ?_|refine CE (lq) ?_|refine CE (gi) ?_)
 rw[show IntKind.i64.wrap (1+l0 % 3)=1+l0 % 3 by rw[pL];omega];refine uR ?_;refine EVL.call Z Z Z Z Z (ju 0 oM oM) ?_;intro r1 G1 dQ aj;obtain⟨a1,l1,c1,a2,l2,c2,rfl,_⟩:=id dQ;refine uR ?_;by_cases h:t.tmod 4=1
 ·rw[show (t.tmod 4 == 1)=true from beq_iff_eq.2 h];refine uR ?_;refine vA (Hi t ht) ?_;intro r2 G2 bM ai;refine vA (zp3 bM) ?_;intro r3 G3 wM ax;obtain⟨a3,l3,c3,a4,l4,c4,rfl,_⟩:=id wM;refine uR ?_;exact⟨_,_,_,_,_,_,_,rfl,by unfold Hh;rw[if_pos h];exact wM⟩
 ·rw[show (t.tmod 4 == 1)=false from beq_false_of_ne h];refine uR ?_;exact⟨_,_,_,_,_,_,_,rfl,by unfold Hh;rw[if_neg h];exact dQ⟩
abbrev QZ (n w dp ls rd rt at':Int) (tl:Bool) (vy vl:Value):Value:=.agg #[.int .i64 n,.int .i64 w,.int .i64 dp,.int .i64 ls,.int .i64 rd,.int .i64 rt,.int .i64 at',.bool tl,vy,vl]
abbrev Dn (loss rounds deep least:Int) (r a g:List Value):List Value:=.int .i64 loss::.int .i64 rounds::(r++(a++(.int .i64 deep::.int .i64 least::g)))
abbrev rc (b:Bool) (a1:Option Addr) (l1 c1:Nat) (a2:Option Addr) (l2 c2:Nat):List Value:=[.bool b,.slice a1 l1 c1,.slice a2 l2 c2]
def zE (tl:Bool) (a:Int):Rat:=if tl then Rat.divInt (1+a % 5) 6 else 0
def tU (G:Hp) (v:Value) (loss rounds deep least:Int) (rate tilt gain:Rat):Prop:=∃b1 a1 l1 c1 a2 l2 c2 b2 a3 l3 c3 a4 l4 c4 b3 a5 l5 c5 a6 l6 c6,v=.agg (Dn loss rounds deep least (rc b1 a1 l1 c1 a2 l2 c2) (rc b2 a3 l3 c3 a4 l4 c4) (rc b3 a5 l5 c5 a6 l6 c6)).toArray/\RQ G (.agg (rc b1 a1 l1 c1 a2 l2 c2).toArray) rate/\RQ G (.agg (rc b2 a3 l3 c3 a4 l4 c4).toArray) tilt/\RQ G (.agg (rc b3 a5 l5 c5 a6 l6 c6).toArray) gain
theorem tU.mono {G K:Hp} {v:Value} {loss rounds deep least:Int} {rate tilt gain:Rat} (h:tU G v loss rounds deep least rate tilt gain) (k:G.Le K):tU K v loss rounds deep least rate tilt gain:=by
 obtain⟨b1,a1,l1,c1,a2,l2,c2,b2,a3,l3,c3,a4,l4,c4,b3,a5,l5,c5,a6,l6,c6,e,h1,h2,h3⟩:=h;exact⟨b1,a1,l1,c1,a2,l2,c2,b2,a3,l3,c3,a4,l4,c4,b3,a5,l5,c5,a6,l6,c6,e,RQ.mono h1 k,RQ.mono h2 k,RQ.mono h3 k⟩
set_option maxRecDepth 100000 in
theorem zrG {H:Hp} {vy vl:Value} {ly ll:List Int} (n w dp ls rd rt at':Int) (tl:Bool) (hn:gM n) (hw:gM w) (Bi:gM dp) (dE:gM ls) (jB:gM rd) (gB:gM rt) (rm:gM at') (hy:IL H vy ly) (Np:∀z,z∈ly->gM z) (hl:IL H vl ll) (df:∀z,z∈ll->gM z) {N W:Nat} (hN:1+n % 8=(N:Int)) (hW:1+w % 3=(W:Int)) :
  PC prog 4 #[QZ n w dp ls rd rt at' tl vy vl] H fun r G=>∃vx vv vs,r=.tuple #[vx,vv,vs]/\RLL G vx (oe ll N W)/\RL G vv (lR ly N)/\tU G vs (if tl then 2 else 1) (rd % 4) (dp % 3) (1+ls % 3) (Rat.divInt 1 (1+rt % 4)) (zE tl at') 0:=by
 obtain⟨ya0,yc0,rfl⟩:=SlC.val hy;obtain⟨la0,lc0,rfl⟩:=SlC.val hl;have lq:=pS n 8 hn oM oM;have gi:=pS rd 4 jB oM oM;have uH:=pS rt 4 gB oM oM;have V7:=pS dp 3 Bi oM oM;have V6:=pS at' 5 rm oM oM;have hp6:=pS w 3 hw oM oM;have w1:IntKind.i64.wrap (1+n % 8)=(N:Int):=by rw[pL];omega
 have w2:IntKind.i64.wrap (1+rt % 4)=1+rt % 4:=by rw[pL];omega
 have w3:IntKind.i64.wrap (1+w % 3)=(W:Int):=by rw[pL];omega
 have w4:IntKind.i64.wrap (1+at' % 5)=1+at' % 5:=by rw[pL];omega
 have cX:=fun G:Hp=>Cp (H:=G) 1 (1+rt % 4) oM oM oM oM oM;have V9:=fun G:Hp=>ju (H:=G) 0 oM oM;rw[show ((0:Int):Rat)=0 from rfl]at V9;have VX:=fun G:Hp=>zr3 (H:=G) (dp % 3) ls 0 (by unfold gM;omega) dE (by unfold gM;omega);rw[show (dp % 3) % 5=dp % 3 by omega,show Hh 0=0 from rfl]at VX;refine BD func4 ntmps4 ?_
 repeat (first|refine RUN ?_|refine CV (lq) ?_|refine CE (lq) ?_)
 rw[w1];refine uR ?_;apply EV.drawn 17 kR kR;intro xv yw;(repeat (first|refine' DD ?_|(refine' DC (gi) (h:=?_);rotate_left)|(refine' DC (uH) (h:=?_);rotate_left)));rw[w2];refine' vB (cO func19) (fun G hG hd=>cX G) (fun _ _ _ h k=>RQ.mono h k) ?_;rotate_left;refine' vB (cO func8) (fun G hG hd=>V9 G) (fun _ _ _ h k=>RQ.mono h k) ?_;rotate_left;(repeat (first|refine' DD ?_|(refine' DC (V7) (h:=?_);rotate_left)));refine' vB (cO func20) (fun G hG hd=>VX G) (fun _ _ _ h k=>(by obtain⟨b1,a1,l1,c1,a2,l2,c2,e,h⟩:=h;exact⟨b1,a1,l1,c1,a2,l2,c2,e,RQ.mono h k⟩)) ?_;rotate_left
 (refine' DJ.plainE tO (fun v G=>tU G v 1 (rd % 4) (dp % 3) (1+ls % 3) (Rat.divInt 1 (1+rt % 4)) 0 0) (fun v G G' h k=>h.mono k) Z Z Z (fun G hd=>(by
  obtain⟨b3,a5,l5,c5,a6,l6,c6,e3,h3⟩:=hd.head kR;obtain⟨a3,l3,c3,a4,l4,c4,e2,h2⟩:=id (show RQ G (xv 8) 0 from hd.tail.head kR);obtain⟨a1,l1,c1,a2,l2,c2,e1,h1⟩:=id (show RQ G (xv 7) (Rat.divInt 1 (1+rt % 4)) from hd.tail.tail.head kR);have xL:=show RQ G (xv 8) 0 from hd.tail.head kR;have uW:=show RQ G (xv 7) (Rat.divInt 1 (1+rt % 4)) from hd.tail.tail.head kR;rw[e1]at uW;rw[e2]at xL;rw[e1,e2,e3];exact⟨_,rfl,_,_,_,_,_,_,_,_,_,_,_,_,_,_,_,_,_,_,_,_,_,rfl,uW,xL,h3⟩)) ?_;rotate_left)
 (repeat refine' DD ?_);(refine DJ.nil (fun G1 aj gV=>?_);(case hS|hS2=>rfl));obtain⟨⟨b1,a1,l1,c1,a2,l2,c2,b2,a3,l3,c3,a4,l4,c4,b3,a5,l5,c5,a6,l6,c6,e,h1,h2,h3⟩,_⟩:=gV;rw[e]
 (try refine zA ?_);refine EV.meetK (ι:=Bool × (Option Addr × Nat × Nat) × (Option Addr × Nat × Nat)) [1,4,5,6] [1,4] (fun _=>[]) (fun q=>[(6,37,Dn (if tl then 2 else 1) (rd % 4) (dp % 3) (1+ls % 3) (rc b1 a1 l1 c1 a2 l2 c2) (rc q.1 q.2.1.1 q.2.1.2.1 q.2.1.2.2 q.2.2.1 q.2.2.2.1 q.2.2.2.2) (rc b3 a5 l5 c5 a6 l6 c6))]) (fun _=>[]) (fun q G=>G1.Le G/\RQ G (.agg (rc q.1 q.2.1.1 q.2.1.2.1 q.2.1.2.2 q.2.2.1 q.2.2.2.1 q.2.2.2.2).toArray) (zE tl at')) Z Z (fun _=>rfl) ?_ ?_
 ·cases tl with
  | false =>
   refine uR ?_;exact⟨⟨b2,(a3,l3,c3),(a4,l4,c4)⟩,trivial,sB,⟨Z,trivial⟩,sB,rfl,Hp.Le.refl _,h2⟩
  | true =>
   repeat (first|refine RUN ?_|refine CV (V6) ?_|refine CE (V6) ?_)
   rw[w4];refine uR ?_;refine EVL.call Z Z Z Z Z (Cp (1+at' % 5) 6 oM oM oM oM oM) ?_;rintro r2 G2 bM ai;obtain⟨uv,tP,ui,uu,tN,uh,rfl,_⟩:=id bM;refine uR ?_;exact⟨⟨_,(_,_,_),(_,_,_)⟩,trivial,sB,⟨Z,trivial⟩,sB,rfl,ai,bM⟩
 rintro⟨b4,⟨a7,l7,c7⟩,⟨a8,l8,c8⟩⟩ G2 ⟨ai,rf⟩;dsimp only at rf;have pb:=aj.trans ai;have Fe:=fun (G:Hp) (hG:G2.Le G)=>Y3 (hl.mono (pb.trans hG)) df N W oM oM;have je:=fun (G:Hp) (hG:G2.Le G)=>QY (hy.mono (pb.trans hG)) Np N oM;refine uR ?_;apply EV.drawn 15 kR kR;intro xv yw;(repeat (first|refine' DD ?_|(refine' DC (hp6) (h:=?_);rotate_left)));rw[w3];(repeat refine' DD ?_);refine' vB (cO func21) (fun G hG hd=>Fe G hG) (fun _ _ _ h k=>RLL.mono h k) ?_;rotate_left;(repeat refine' DD ?_);refine' vB (cO func22) (fun G hG hd=>je G hG) (fun _ _ _ h k=>RL.mono h k) ?_;rotate_left;(repeat refine' DD ?_);refine' DJ.copy (7) (by first|exact .inl rfl|exact .inr Z) Z Z Z id Z kR ?_;rotate_left;refine' DJ.copy (11) (by first|exact .inl rfl|exact .inr Z) Z Z Z id Z kR ?_;rotate_left;(refine DJ.nil (fun G3 ax fM=>?_);(case hS|hS2=>rfl));obtain⟨Qh,Qg,_⟩:=fM;refine uR ?_;exact⟨_,_,_,rfl,Qg,Qh,_,_,_,_,_,_,_,_,_,_,_,_,_,_,_,_,_,_,_,_,_,rfl,RQ.mono h1 (ai.trans ax),RQ.mono rf ax,RQ.mono h3 (ai.trans ax)⟩
abbrev fA (loss w:Int) (b r a:List Value) (ts:Value):List Value:=.int .i64 loss::.int .i64 w::(b++(r++(a++[ts])))
theorem R6 {base rate:Rat} {ts:List Tr} {x:List Rat} {w:Nat} (hb:ht base<=200) (hr:ht rate<=200) (hl:ts.length<=60) (aM:∀t,t∈ts->ht (iU x t).value<=4000):ht (jO base rate ts x)<=400000:=by
 unfold jO
 have h1:=pF 4000 (vL x ts) fun q hq=>by
  obtain⟨t,k,rfl⟩:=List.mem_map.1 hq;exact aM t k
 have h2:(4000+1)*(vL x ts).length<=(4000+1)*60:=qb _ (by unfold vL;rw[qV];exact hl);have h3:=pG rate (aJ (vL x ts));have h4:=pB base (rate*aJ (vL x ts));omega
theorem IB {w:Nat} {t:Tr} (h:tT w t) (x:List Rat):ht (iU x t).value<=105:=by
 obtain⟨i,_,_,hi,_⟩:=Io h.ok x;exact h.small _ (qF hi)
set_option maxRecDepth 100000 in
theorem zrT {H:Hp} {loss:Int} {W:Nat} {base rate:Rat} {b1 b2 b3:Bool} {a1 a2 a3 a4 a5 a6 ta:Option Addr} {l1 c1 l2 c2 l3 c3 l4 c4 l5 c5 l6 c6 tc:Nat} {ts:List Tr} {vx:Value} {x:List Rat}
  (Gd:RQ H (.agg (rc b1 a1 l1 c1 a2 l2 c2).toArray) base) (gB:RQ H (.agg (rc b2 a3 l3 c3 a4 l4 c4).toArray) rate) (aM:RTL H (.slice ta ts.length tc) ts) (fi:∀t,t∈ts->tT W t) (hx:RL H vx x) (er:x.length=W) (ed:∀q,q∈x->ht q<=100) (hb:ht base<=200) (hr:ht rate<=200) (hl:ts.length<=60) :
  PC prog 47 #[.agg (fA loss (W:Int) (rc b1 a1 l1 c1 a2 l2 c2) (rc b2 a3 l3 c3 a4 l4 c4) (rc b3 a5 l5 c5 a6 l6 c6) (.slice ta ts.length tc)).toArray,vx] H fun r G=>RQ G r (jO base rate ts x):=by
 obtain⟨tcs,bq,aK⟩:=aM;obtain⟨xa,xc,rfl⟩:=hx.val;have Ap:∀q,q∈x->rq q:=fun q hq=>iL (ed q hq) oM;have h0:RQ H (.agg (rc b1 a1 l1 c1 a2 l2 c2).toArray) (jO base rate (ts.take 0) x):=by rw[List.take_zero,SH];exact Gd
 refine BD func47 ntmps47 ?_;refine uR ?_;refine EV.loopK (ι:=Nat × Value × Value × Value) [1,2,4,5] [2,4] (fun q=>[(6,.v (.int .i64 (q.1:Int)))]) (fun q=>[(5,33,[q.2.1,q.2.2.1,q.2.2.2])]) (fun _=>[]) (fun q G=>q.1<=ts.length/\H.Le G/\RQ G (.agg #[q.2.1,q.2.2.1,q.2.2.2]) (jO base rate (ts.take q.1) x)) (fun q=>ts.length-q.1) ((0,_,_,_)) Z Z ⟨Z,trivial⟩ ⟨Z,trivial⟩ rfl (fun _=>rfl) (⟨qQ _,Hp.Le.refl _,h0⟩) ?_;rintro⟨i,s1,s2,s3⟩ G1 aj ⟨hi,_,hs⟩;dsimp only at hi hs;refine uR ?_;refine EV.cond Z (fun af=>?_) (fun af=>?_)
 ·simp only[nN]at af;obtain⟨t,kB⟩:=gE af;have hB:=fi t (qF kB);obtain⟨c,hcut,yQ⟩:=(bq.mono aj).get kB;obtain⟨na,nc,css,rfl,bX,bA⟩:=id yQ;obtain⟨i0,sO,xg,uL,_⟩:=Io hB.ok x;have hv:=IB hB x;have fk:=TP base rate (ts.take i) t x;rw[<-dZ kB]at fk;generalize iU x t=n at *
  have dI:ht (jO base rate (ts.take i) x)<=400000:=R6 (w:=W) hb hr (by rw[qP];omega) fun t' h'=>qI (IB (fi t' (List.mem_of_mem_take h')) x) oM;have gR:(x.length:Int)=t.w:=by rw[hB.wide,er]
  have cR:=fun (G:Hp) (hG:G1.Le G)=>(zqc (yQ.mono hG) hB.ok (hx.mono (aj.trans hG)) gR Ap).mono (fun r _ h _=>(by obtain⟨y,e,h⟩:=h;rw[e,h.det sO]:r=.int .i64 (i0:Int)));obtain⟨cn,F3,hnd⟩:=bX.get uL;obtain⟨d1,e1,m1,n1,e2,m2,n2,d3,e3,m3,n3,e4,m4,n4,d5,e5,m5,n5,e6,m6,n6,e7,n7,rfl,k1,k2,k3,k4⟩:=hnd.cells;have kf:=RQ.mono gB aj;have r1:rq rate:=iL hr oM;have r2:rq n.value:=iL hv oM;have hm:=pG rate n.value;have r3:rq (rate*n.value):=qI hm oM;have r4:rq (jO base rate (ts.take i) x):=qI dI oM;have jb:=aK.mono aj;refine uR ?_;apply EV.drawn 21 kR kR;intro xv yw;(repeat refine' DD ?_);refine' DJ.idxM tO Z Z Z Z Z Z Z Z Z (jb) (i) (rfl) (af) (hcut) ?_;rotate_left;(repeat refine' DD ?_);refine' DJ.idxM tO Z Z Z Z Z Z Z Z Z (jb) (i) (rfl) (af) (hcut) ?_;rotate_left;(repeat refine' DD ?_);refine' vC (cO func95) (fun G hG hd=>cR G hG) ?_;rotate_left;refine' DJ.idxM tO Z Z Z Z Z Z Z Z Z (bA) (i0) (rfl) (xg) (F3) ?_;rotate_left;(repeat refine' DD ?_);refine' vB (cO func94) (fun G hG hd=>Mk (RQ.mono kf hG) (RQ.mono k3 hG) r1 r2) (fun _ _ _ h k=>RQ.mono h k) ?_;rotate_left;refine' vB (cO func92) (fun G hG hd=>Ct (RQ.mono hs hG) (hd.head kR) r4 r3) (fun _ _ _ h k=>RQ.mono h k) ?_;rotate_left;(refine DJ.nil (fun G2 ai fN=>?_);(case hS|hS2=>rfl));have hR:=fN.1;rw[<-fk]at hR;obtain⟨_,_,_,_,_,_,e,_,_⟩:=id hR;rw[e]at hR ⊢;refine uR ?_;refine⟨(i+1,_,_,_),⟨by rw[aO i (by omega)];rfl,trivial⟩,sB,⟨Z,trivial⟩,sB,rfl,⟨af,aj.trans ai,hR⟩,ai,by dsimp only;omega⟩
 ·simp only[nN]at af;obtain rfl:i=ts.length:=oM;rw[qa]at hs;obtain⟨_,_,_,_,_,_,e,_,_⟩:=id hs;obtain⟨rfl,rfl,rfl⟩:=Kr e;refine uR ?_;exact hs
structure Hl (w:Nat) (t:Tr):Prop where
 cl:t.cl=0
 wide:t.w=(w:Int)
 w20:1<=w/\w<=20
 ok:t.ns=[]\/kW ⟨2,0,(w:Int),t.ns⟩
 len:t.ns.length<=15
 small:∀n,n∈t.ns->ht n.value<=105
def ni (t:Tr):Int:=if ¬(t.kd=1\/t.kd=2) then 10 else if t.kd=1\/t.ns=[] then 5 else 0
def jN (w:Int) (t:Tr):Int:=if ni t≠0 then ni t else if t.kd≠2\/t.w≠w then 10 else 0
def yf (w:Int):List Tr->Int
 | []=>0
 | t::ts=>if jN w t≠0 then jN w t else yf w ts
def tZ (loss w:Int) (rate tilt:Rat) (ts:List Tr):Int:=if ¬(loss=1\/loss=2) then 10 else if w<1\/w>20\/ts.length>50 then 5 else if fP loss rate tilt=false then 1 else yf w ts
theorem tT.x {w:Nat} {t:Tr} (h:tT w t):Hl w t:=by
 have h1:=h.ok.wide;have h2:=h.wide;have h3:=h.ok;have h4:=h.kd;have h5:=h.cl;have h6:=h.len.2;have h7:=h.small;obtain⟨kd,cl,w',ns⟩:=t;dsimp only at h1 h2 h3 h4 h5 h6 h7;subst h4 h5 h2;exact⟨rfl,rfl,by omega,.inr h3,h6,h7⟩
theorem Mw {w:Int}:∀{i:Nat} {ts:List Tr},(∀t,t∈ts.take i->jN w t=0)->yf w ts=yf w (ts.drop i)
 | 0,ts,_=>rfl
 | i+1,[],_=>rfl
 | i+1,t::ts,h=>by
  have h1:=h t (by rw[List.take_succ_cons];exact qf ..);rw[List.drop_succ_cons,<-Mw fun u hu=>h u (by rw[List.take_succ_cons];exact qk _ hu)];show (if jN w t≠0 then jN w t else yf w ts)=_;rw[if_neg (fun k=>k h1)]
theorem LV {w:Int} {i:Nat} {ts:List Tr} {t:Tr} (h:∀t,t∈ts.take i->jN w t=0) (ht:ts[i]?=some t) (he:jN w t≠0):yf w ts=jN w t:=by
 obtain⟨hl,rfl⟩:=qE.1 ht;rw[Mw h,qp hl];exact if_pos he
theorem Un {w:Int} {ts:List Tr} (h:∀t,t∈ts.take ts.length->jN w t=0):yf w ts=0:=by
 rw[Mw h,List.drop_length];rfl
theorem Zw {P:Tr->Prop} {ts:List Tr} {i:Nat} {t:Tr} (h:∀t,t∈ts.take i->P t) (ht:ts[i]?=some t) (k:P t):∀t,t∈ts.take (i+1)->P t:=fun u hu=>by
 rw[dZ ht,List.mem_append,pK]at hu;rcases hu with hu | rfl
 ·exact h u hu
 ·exact k
theorem zoZ {loss w:Int} {rate tilt:Rat} {ts:List Tr} (h:¬(loss=1\/loss=2)):tZ loss w rate tilt ts=10:=if_pos h
theorem Ly {loss w:Int} {rate tilt:Rat} {ts:List Tr} (h0:loss=1\/loss=2) (h:w<1\/w>20\/ts.length>50):tZ loss w rate tilt ts=5:=by
 unfold tZ;rw[if_neg (fun k=>k h0),if_pos h]
theorem zrb {loss w:Int} {rate tilt:Rat} {ts:List Tr} (h0:loss=1\/loss=2) (h:¬(w<1\/w>20\/ts.length>50)) (h1:fP loss rate tilt=false):tZ loss w rate tilt ts=1:=by
 unfold tZ;rw[if_neg (fun k=>k h0),if_neg h,if_pos h1]
theorem Sz {loss w:Int} {rate tilt:Rat} {ts:List Tr} (h0:loss=1\/loss=2) (h:¬(w<1\/w>20\/ts.length>50)) (h1:fP loss rate tilt=true):tZ loss w rate tilt ts=yf w ts:=by
 unfold tZ;rw[if_neg (fun k=>k h0),if_neg h,if_neg (by rw[h1];decide)]
set_option maxRecDepth 100000 in
theorem SJ {H:Hp} {cs:List Value} {vx:Value} {kd cl w:Int} {ns:List Nd} {x:List Rat} (ht:nZ H cs kd cl w ns) (fi:kW ⟨kd,cl,w,ns⟩) (hx:QL H vx x) (er:(x.length:Int)=w) (ed:∀q,q∈x->sm q) :
  PW prog 77 #[.agg cs.toArray,vx] H [] fun r ow _=>∃l:List Int,aF 3 1 r l.length (l.map iv) ow/\dC ns x 0 l/\l.length<=2000:=by
 obtain⟨a,cp,css,rfl,bX,bA⟩:=ht;obtain⟨aW,hw,eU,⟨hh,FT,aQ⟩,av⟩:=fi;dsimp only at aW hw eU aQ av;have bQ:=aQ.end0;obtain⟨xa,xc,rfl⟩:=SlC.val hx;have Nz:SlC H (.slice xa x.length xc) x.length 5 (x.flatMap fun q=>aB (aC q)):=hx;refine PW.body tO func77 Z kR ntmps77 Z Z ?_;refine uR ?_;refine EVL.lit tO Z Z Z Z Z Z Z Z Z Z Z fun bl=>?_;refine uR ?_;refine EV.loopK (ι:=Nat × List Int × Value × Ows) [1,2] [2] (fun q=>[(5,.v (.int .i64 (q.1:Int))),(6,.v q.2.2.1)]) (fun _=>[]) (fun q=>q.2.2.2) (fun q G=>q.1<ns.length/\aF 3 1 q.2.2.1 (q.2.1++[(q.1:Int)]).length ((q.2.1++[(q.1:Int)]).map iv) q.2.2.2/\q.2.1.length<=q.1/\∀l,dC ns x q.1 l->dC ns x 0 (q.2.1++l)) (fun q=>ns.length-q.1) ((0,[],.slice (some ⟨bl,0,none⟩) 1 1,[(bl,_,_)])) Z Z ⟨Z,Z,trivial⟩ trivial rfl (fun _=>rfl) (⟨bQ,aF.full (m:=1) rfl oM,qH _,fun l h=>h⟩) ?_;rintro⟨i,q,u,ow⟩ G1 aj ⟨hi,ah,fF,sO⟩;dsimp only at hi ah fF sO;obtain⟨oa,oc,rfl⟩:=ah.val;obtain⟨n,hn⟩:=gE hi;obtain⟨c,hcut,hnd⟩:=(bX.mono aj).get hn;obtain⟨a7,c7,rfl,_⟩:=hnd.cells;obtain⟨n',sJ,hN,_⟩:=av i hi;cases hn.symm.trans sJ;obtain⟨h',e',AE⟩:=aQ.at i (qQ _) hi;have hle:=AE.lt;have wJ:=bA.mono aj;have dc:(q++[(i:Int)]).length<=1000000:=by rw[qJ,qw];omega
 refine uR ?_;refine EVL.idxM tO Z Z Z Z Z Z Z Z Z (wJ) (i) (rfl) (hi) (hcut) ?_;refine uR ?_
 cases AE with
 | leaf q1 q2 q3 q4 q5 =>
  rw[hn]at q1;cases q1;rw[show (n.col != -1)=false by rw[q2];rfl];refine uR ?_;exact⟨_,ah,sO _ (.here hn q2),by rw[qJ,qw];omega⟩
 | @node _ h1 m _ _ q1 q2 q3 q4 q5 s1 s2 =>
  rw[hn]at q1;cases q1;have FF:=s1.lt;have sM:=s2.lt;have cj:n.col.toNat<x.length:=oM;obtain⟨y,hy⟩:∃y,x[n.col.toNat]?=some y:=⟨_,qA cj⟩;have EG:x.getD n.col.toNat 0=y:=by rw[qB,hy];rfl
  have aS:=pC y n.at' (ed y (qF hy)) (bE hN.small.1 oM);rw[show (n.col != -1)=true from bne_iff_ne.2 (by omega)];refine uR ?_;refine EVL.idxM tO Z Z Z Z Z Z Z Z Z (wJ) (i) (rfl) (hi) (hcut) ?_;refine uR ?_;apply EV.drawn 9 kR kR;intro xv yw;(repeat refine' DD ?_);refine' DJ.idxM tO Z Z Z Z Z Z Z Z Z ((Nz.mono aj)) (n.col.toNat) ((by rw[Int.toNat_of_nonneg q2])) (cj) (QL.at (H:=H) (v:=.bool true) hy) ?_;rotate_left;(repeat (first|refine' DD ?_|(refine' DC (aS) (h:=?_);rotate_left)));(refine DJ.nil (fun G2 ai fN=>?_);(case hS|hS2=>rfl));by_cases du:y<=n.at'
  ·rw[qD (KW du)];refine uR ?_;refine EVL.app1 tO Z Z Z Z Z Z Z Z Z Z Z Z Z Z Z Z Z Z Z (fun _=>rfl) (ow) ([]) ((qG _).symm) (ah) (oM) fun _=>?_;intro v' au ao;refine uR ?_;refine⟨(n.left.toNat,q++[(i:Int)],v',au),⟨by rw[Int.toNat_of_nonneg (by omega)];rfl,rfl,trivial⟩,sB,trivial,sB,qG _,⟨by dsimp only;omega,by dsimp only;rw[Int.toNat_of_nonneg (by omega)];exact ao.il,by dsimp only;rw[qJ,qw];omega,fun l h=>by dsimp only;rw[qZ];exact sO _ (.low hn oM (by rw[EG];exact du) h)⟩,ai,by dsimp only;omega⟩
  ·rw[qC (show ¬bI y n.at'<=0 from fun k=>du (Rat.not_lt.1 fun k2=>by have:=(DW y n.at').2 k2;omega))];refine uR ?_;refine EVL.app1 tO Z Z Z Z Z Z Z Z Z Z Z Z Z Z Z Z Z Z Z (fun _=>rfl) (ow) ([]) ((qG _).symm) (ah) (oM) fun _=>?_;intro v' au ao;refine uR ?_;refine⟨(n.right.toNat,q++[(i:Int)],v',au),⟨by rw[Int.toNat_of_nonneg (by omega)];rfl,rfl,trivial⟩,sB,trivial,sB,qG _,⟨by dsimp only;omega,by dsimp only;rw[Int.toNat_of_nonneg (by omega)];exact ao.il,by dsimp only;rw[qJ,qw];omega,fun l h=>by dsimp only;rw[qZ];exact sO _ (.high hn oM (by rw[EG];exact du) h)⟩,ai,by dsimp only;omega⟩
theorem zrQ {H:Hp} {cs:List Value} {vx:Value} {kd cl w:Int} {ns:List Nd} {x:List Rat} (ht:nZ H cs kd cl w ns) (fi:kW ⟨kd,cl,w,ns⟩) (hx:QL H vx x) (er:(x.length:Int)=w) (ed:∀q,q∈x->sm q) :
  PC prog 77 #[.agg cs.toArray,vx] H fun r G=>∃l:List Int,IL G r l/\dC ns x 0 l/\l.length<=2000 :=
 (SJ ht fi hx er ed).publish fun v ow H' ⟨l,h1,h2,h3⟩=>⟨_,_,v,_,_,h1,fun G _ hs=>⟨l,hs,h2,h3⟩⟩
set_option maxRecDepth 100000 in
theorem zp1 {H:Hp} {cs:List Value} {vx:Value} {kd cl w:Int} {ns:List Nd} {x:List Rat} (ht:nZ H cs kd cl w ns) (fi:kW ⟨kd,cl,w,ns⟩) (hx:QL H vx x) (er:(x.length:Int)=w) (ed:∀q,q∈x->sm q) :
  PC prog 39 #[.agg cs.toArray,vx] H fun r _=>r=aC (iU x ⟨kd,cl,w,ns⟩).value:=by
 have hw:=zrQ ht fi hx er ed;obtain⟨a,cp,css,rfl,bX,bA⟩:=ht;obtain⟨xa,xc,rfl⟩:=SlC.val hx;refine BD func39 ntmps39 ?_;refine uR ?_;refine vA (hw) ?_;rintro r G ⟨l0,bY,hp,dc⟩ hG;obtain⟨j,l,rfl,hL⟩:=hp.leaf;obtain⟨i0,OV,xg,Fw,_⟩:=Io fi x;obtain rfl:i0=j:=OV.det hL;generalize iU x ⟨kd,cl,w,ns⟩=n at *
 dsimp only at xg Fw;rw[qJ,qw]at dc;obtain⟨la,lc,rfl⟩:=SlC.val bY
 have hw':IntKind.i64.wrap (((l++[(i0:Int)]).length:Int)-1)=((l.length:Nat):Int):=by
  rw[qJ,qw,pL];omega
 obtain⟨c,hcut,hnd⟩:=(bX.mono hG).get Fw;obtain⟨a7,c7,rfl,_⟩:=hnd.cells;have wJ:=bA.mono hG;refine uR ?_;apply EV.drawn 11 kR kR;intro xv yw;(repeat refine' DD ?_);rw[hw'];refine' vJ (bY) (l.length) (rfl) ((by rw[qJ,qw];omega)) ((by rw[qK,qL (qH _),Nat.sub_self];rfl)) ?_;rotate_left;(repeat refine' DD ?_);refine' DJ.idxM tO Z Z Z Z Z Z Z Z Z (wJ) (i0) (rfl) (xg) (hcut) ?_;rotate_left;(repeat refine' DD ?_);(refine DJ.nil (fun G2 ai fN=>?_);(case hS|hS2=>rfl));refine uR ?_;rfl
abbrev pD (loss w:Int) (base rate tilt:Rat) (ts:Value):List Value:=.int .i64 loss::.int .i64 w::(aB (aC base)++(aB (aC rate)++(aB (aC tilt)++[ts])))
def kM (loss:Int) (rate tilt:Rat):Bool:=(decide (loss=1) || decide (loss=2)) && fP loss rate tilt
theorem KX {loss:Int} {rate tilt:Rat} (h:loss=1\/loss=2):kM loss rate tilt=fP loss rate tilt:=by
 unfold kM;rcases h with rfl | rfl <;> rfl
theorem MD {loss:Int} {rate tilt:Rat} (h1:sm rate) (h2:sm tilt):PV prog 31 #[.int .i64 loss,aC rate,aC tilt] (.bool (kM loss rate tilt)):=by
 refine PV.of_pc ?_;have s1:sm 1:=by show ht 1<=_;decide +kernel
 have ho:=np 1 oM oM;rw[show ((1:Int):Rat)=1 from rfl]at ho;have kC:=pH rate (qI h1.num oM);have cr:=pH tilt (qI h2.num oM);have eA:=pC rate 1 h1 s1;have cM:=pC tilt 1 h2 s1;refine BD func31 ntmps31 ?_
 repeat (first|refine RUN ?_|refine CV (ho) ?_|refine CV (kC) ?_|refine CE (ho) ?_|refine CE (kC) ?_)
 by_cases k1:0<rate
 case neg =>
  rw[qD (pI.2 k1)];refine uR ?_;rw[show kM loss rate tilt=false by unfold kM fP;rw[qC k1,Bool.false_and,Bool.and_false]]
 rw[qC (fun k=>pI.1 k k1)]
 repeat (first|refine RUN ?_|refine CV (eA) ?_|refine CE (eA) ?_)
 by_cases k2:rate<=1
 case neg =>
  rw[qD (show bI rate 1>0 from (DW rate 1).2 (Rat.not_le.1 k2))];refine uR ?_;rw[show kM loss rate tilt=false by unfold kM fP;rw[qC k2,Bool.false_and,Bool.and_false,Bool.and_false]]
 rw[qC (show ¬bI rate 1>0 by have:=KW k2;omega)];refine uR ?_;by_cases e1:loss=1
 ·subst e1;rw[show ((1:Int) == 1)=true from rfl]
  repeat (first|refine RUN ?_|refine CV (cr) ?_|refine CE (cr) ?_)
  rw[show kM 1 rate tilt=decide (tilt=0) by unfold kM fP;rw[qD k1,qD k2];rfl];by_cases z:tilt=0
  ·rw[qD z,zV.2 z];rfl
  ·rw[qC z,show (tilt.num.sign == 0)=false from pQ.2 fun k=>z (zV.1 k)]
 rw[show (loss == 1)=false from pQ.2 e1];refine uR ?_;by_cases e2:loss=2
 ·subst e2;have e:kM 2 rate tilt=(decide (0<tilt) && decide (tilt<1)):=by unfold kM fP;rw[qD k1,qD k2];rfl
  rw[e,show ((2:Int) == 2)=true from rfl]
  repeat (first|refine RUN ?_|refine CV (cr) ?_|refine CE (cr) ?_)
  by_cases z:0<tilt
  ·rw[qD z,qD (show tilt.num.sign>0 from Int.not_le.1 fun k=>pI.1 k z)]
   repeat (first|refine RUN ?_|refine CV (cM) ?_|refine CE (cM) ?_)
   rw[Bool.true_and];by_cases y:tilt<1
   ·rw[qD y,qD ((yj tilt 1).2 y)]
   ·rw[qC y,qC fun k=>y ((yj tilt 1).1 k)]
  ·rw[qC z,qC (show ¬tilt.num.sign>0 from fun k=>absurd (pI.2 z) oM)];refine uR ?_;rfl
 rw[show (loss == 2)=false from pQ.2 e2];refine uR ?_;rw[show kM loss rate tilt=false by unfold kM;rw[qC e1,qC e2];rfl]
set_option maxRecDepth 100000 in
theorem zn6 {H:Hp} {t:Tr} {w:Nat} {cs:List Value} (ht:nZ H cs t.kd t.cl t.w t.ns) (hx:Hl w t):PC prog 57 #[.agg cs.toArray] H fun r _=>r=.int .i64 (ni t):=by
 obtain⟨kd,cl,w',ns⟩:=t;obtain⟨cj,hw,hw20,fi,_,_⟩:=hx;dsimp only at ht cj hw fi;subst cj hw;by_cases hk:kd=1\/kd=2
 case neg =>
  obtain⟨a,cp,css,rfl,bX,bA⟩:=ht;refine BD func57 ntmps57 ?_;refine uR ?_;rw[show (kd != 1)=true from bne_iff_ne.2 (fun h=>hk (.inl h))];refine uR ?_;rw[show (kd != 2)=true from bne_iff_ne.2 (fun h=>hk (.inr h))];refine uR ?_;rw[show ni ⟨kd,0,(w:Int),ns⟩=10 from if_pos hk]
 have w1:decide ((w:Int)<1)=false:=qC oM;have w2:decide ((w:Int)>20)=false:=qC oM;by_cases h0:kd=2/\ns≠[]
 ·obtain⟨rfl,hn⟩:=h0;have hc:ni ⟨2,0,(w:Int),ns⟩=0:=by unfold ni;rw[if_neg (fun k=>k (.inr rfl)),if_neg (fun k=>k.elim (fun k=>absurd k (by decide:¬(2:Int)=1)) hn)]
  rw[hc];exact zn5 ht (fi.resolve_left hn)
 have hc:ni ⟨kd,0,(w:Int),ns⟩=5:=by
  unfold ni;rw[if_neg (fun k=>k hk),if_pos];rcases hk with h | h
  ·exact .inl h
  ·exact .inr (Classical.not_not.1 fun k=>h0 ⟨h,k⟩)
 rw[hc];obtain⟨a,cp,css,rfl,bX,bA⟩:=ht;rcases hk with rfl | rfl
 ·refine BD func57 ntmps57 ?_;refine uR ?_;rw[w1];refine uR ?_;rw[w2];refine uR ?_;by_cases n0:ns=[]
  ·subst n0;refine uR ?_;rfl
  ·have hT:=fi.resolve_left n0;have n1:=hT.len;have n2:ns.length≠0:=fun k=>n0 (pJ.1 k);dsimp only at n1;rw[qC (show ¬(ns.length:Int)<1 by omega)];refine uR ?_;rw[qC (show ¬(ns.length:Int)>2000 by omega)];refine uR ?_;rfl
 ·obtain rfl:ns=[]:=Classical.not_not.1 fun k=>h0 ⟨rfl,k⟩;refine BD func57 ntmps57 ?_;refine uR ?_;rw[w1];refine uR ?_;rw[w2];refine uR ?_;rfl
set_option maxRecDepth 100000 in
theorem zn4 {H:Hp} {loss w:Int} {W:Nat} {base rate tilt:Rat} {ta:Option Addr} {tc:Nat} {ts:List Tr} (ht:PTL H (.slice ta ts.length tc) ts) (hx:∀t,t∈ts->Hl W t) (hr:sm rate) (hq:sm tilt) (hl:ts.length<=1000000) :
  PC prog 18 #[.agg (pD loss w base rate tilt (.slice ta ts.length tc)).toArray] H fun r _=>r=.int .i64 (tZ loss w rate tilt ts):=by
 obtain⟨tcs,bq,aK⟩:=ht;refine BD func18 ntmps18 ?_;refine uR ?_;by_cases hk:loss=1\/loss=2
 case neg =>
  rw[show (loss != 1)=true from bne_iff_ne.2 (fun h=>hk (.inl h))];refine uR ?_;rw[show (loss != 2)=true from bne_iff_ne.2 (fun h=>hk (.inr h))];refine uR ?_;rw[zoZ hk]
 refine EVL.meetK (ι:=Bool) [1,2] [1] (fun _=>[(13,.v (.bool false))]) (fun _=>[]) (fun _=>[]) (fun _ G=>H.Le G) Z Z (fun _=>rfl) ?_ ?_
 ·rcases hk with e | e
  ·rw[show (loss != 1)=false by rw[e];rfl];refine uR ?_;exact⟨true,⟨Z,trivial⟩,sB,trivial,sB,rfl,Hp.Le.refl _⟩
  ·rw[show (loss != 1)=true by rw[e];rfl];refine uR ?_;rw[show (loss != 2)=false by rw[e];rfl];refine uR ?_;exact⟨true,⟨Z,trivial⟩,sB,trivial,sB,rfl,Hp.Le.refl _⟩
 rintro _ G1 aj;refine uR ?_;by_cases w1:w<1
 ·rw[qD w1];refine uR ?_;rw[Ly hk (.inl w1)]
 rw[qC w1];refine uR ?_;by_cases w2:w>20
 ·rw[qD w2];refine uR ?_;rw[Ly hk (.inr (.inl w2))]
 rw[qC w2];refine uR ?_;by_cases w3:ts.length>50
 ·rw[qD (show (ts.length:Int)>50 by omega)];refine uR ?_;rw[Ly hk (.inr (.inr w3))]
 rw[qC (show ¬(ts.length:Int)>50 by omega)];have h5:¬(w<1\/w>20\/ts.length>50):=oM;have kf:=MD (loss:=loss) hr hq;rw[KX hk]at kf
 cases uD:fP loss rate tilt with
 | false =>
  rw[uD]at kf
  repeat (first|refine RUN ?_|refine CV (kf) ?_|refine CE (kf) ?_)
  rw[zrb hk h5 uD]
 | true =>
  rw[uD]at kf;rw[Sz hk h5 uD]
  repeat (first|refine RUN ?_|refine CV (kf) ?_|refine CE (kf) ?_)
  refine EV.loopK (ι:=Nat) [1,37,38] [1] (fun q=>[(39,.v (.int .i64 (q:Int)))]) (fun _=>[]) (fun _=>[]) (fun q G=>q<=ts.length/\G1.Le G/\∀t,t∈ts.take q->jN w t=0) (fun q=>ts.length-q) (0) Z Z ⟨Z,trivial⟩ trivial rfl (fun _=>rfl) (⟨qQ _,Hp.Le.refl _,fun t h=>(by rw[List.take_zero]at h;cases h)⟩) ?_;rintro i G2 ai ⟨hi,dw,av⟩;have iG:=aj.trans dw;refine uR ?_;refine EV.cond Z (fun af=>?_) (fun af=>?_)
  ·simp only[nN]at af;obtain⟨t,oE⟩:=gE af;obtain⟨c,hcut,yQ⟩:=(bq.mono iG).get oE;have oX:=zn6 yQ (hx t (qF oE));obtain⟨na,nc,css,rfl,_⟩:=id yQ;have N4:=aK.mono iG;refine uR ?_;refine EVL.idxM tO Z Z Z Z Z Z Z Z Z (N4) (i) (rfl) (af) (hcut) ?_
   repeat (first|refine RUN ?_|refine CV (oX) ?_|refine CE (oX) ?_)
   by_cases e0:ni t=0
   case neg =>
    rw[show (ni t != 0)=true from bne_iff_ne.2 e0];refine uR ?_;have he:jN w t=ni t:=if_pos e0;rw[LV av oE (by rw[he];exact e0),he]
   rw[show (ni t != 0)=false by rw[e0];rfl];refine uR ?_;by_cases e2:t.kd=2
   case neg =>
    rw[show (t.kd != 2)=true from bne_iff_ne.2 e2];refine uR ?_;have he:jN w t=10:=by unfold jN;rw[if_neg (fun k=>k e0),if_pos (.inl e2)]
    rw[LV av oE (by rw[he];decide),he]
   rw[show (t.kd != 2)=false from bne_eq_false_iff_eq.2 e2];refine uR ?_;by_cases e3:t.w=w
   case neg =>
    rw[show (t.w != w)=true from bne_iff_ne.2 e3];refine uR ?_;have he:jN w t=10:=by unfold jN;rw[if_neg (fun k=>k e0),if_pos (.inr e3)]
    rw[LV av oE (by rw[he];decide),he]
   have he:jN w t=0:=by unfold jN;rw[if_neg (fun k=>k e0),if_neg fun k=>k.elim (fun k=>k e2) fun k=>k e3]
   rw[show (t.w != w)=false from bne_eq_false_iff_eq.2 e3];refine uR ?_;exact⟨i+1,⟨by rw[aO i (by omega)];rfl,trivial⟩,sB,trivial,sB,rfl,⟨af,dw,Zw av oE he⟩,Hp.Le.refl _,by omega⟩
  ·simp only[nN]at af;obtain rfl:i=ts.length:=oM;rw[Un av];refine uR ?_;rfl
abbrev KD (loss rounds deep least:Int) (rate tilt gain:Rat):List Value:=.int .i64 loss::.int .i64 rounds::(aB (aC rate)++(aB (aC tilt)++(.int .i64 deep::.int .i64 least::aB (aC gain))))
set_option maxRecDepth 100000 in
theorem Ua {H:Hp} {loss:Int} {v:Value} {l:List Rat} {tilt:Rat} (hl:QL H v l) (h0:1<=l.length) (h8:l.length<=12) (hb:∀q,q∈l->ht q<=100) (hZ:loss≠1->0<tilt/\tilt<1) (FQ:ht tilt<=10) :
  PC prog 33 #[.int .i64 loss,aC tilt,v] H fun r _=>r=aC (rE loss tilt l):=by
 obtain⟨va,vc,rfl⟩:=SlC.val hl;have eS:∀q,q∈l->sm q:=fun q hq=>bE (hb q hq) oM;refine BD func33 ntmps33 ?_;by_cases k1:loss=1
 ·subst k1;rw[show rE 1 tilt l=fe l from if_pos rfl];refine uR ?_;rw[show ((1:Int) == 1)=true from rfl];refine uR ?_;refine EVL.call Z Z Z Z Z (Tl hl oM hb) ?_;rintro _ G rfl hG;refine uR ?_;rfl
 ·rw[show rE loss tilt l=kN tilt l from if_neg k1];refine uR ?_;rw[show (loss == 1)=false from pQ.2 k1];refine uR ?_;obtain⟨t0,t1⟩:=hZ k1;refine vA (zr7 hl h8 eS) ?_;intro r G hs hG;have bA:(gw l).length=l.length:=(zZ l).length_eq;obtain⟨sa,sc,rfl⟩:=SlC.val hs;have aK:sm tilt:=bE FQ oM;have y4:=ie (l.length:Int);have df:bl (l.length:Int).natAbs<=20:=cf oM;have ho:=np (l.length:Int) oM oM;have hm:=Du tilt ((l.length:Int):Rat) aK (bE (n:=30) oM oM);have AY:=pG tilt ((l.length:Int):Rat);have lB:=Iu (a:=tilt) t1 h0;have VS:SlC G (.slice sa (gw l).length sc) (gw l).length 5 ((gw l).flatMap fun q=>aB (aC q)):=hs;rw[bA]at VS ⊢;refine uR ?_;apply EV.drawn 6 kR kR;intro xv yw;(repeat (first|refine' DD ?_|(refine' DC (ho) (h:=?_);rotate_left)|(refine' DC (hm) (h:=?_);rotate_left)));(refine DJ.nil (fun G5 bj Ke=>?_);(case hS|hS2=>rfl));refine uR ?_;refine EV.loopK (ι:=Nat) [6,9,27,28] [6,9] (fun q=>[(29,.v (.int .i64 (q:Int)))]) (fun _=>[]) (fun _=>[]) (fun q G'=>q<=tQ tilt l.length/\G.Le G') (fun q=>l.length-q) (0) Z Z ⟨Z,trivial⟩ trivial rfl (fun _=>rfl) (⟨qQ _,bj⟩) ?_;rintro k G2 ai ⟨hk,GC⟩;have A8:k<(gw l).length:=oM;obtain⟨x,hx⟩:∃x,(gw l)[k]?=some x:=⟨_,qA A8⟩;have hkh:=ie ((k+1:Nat):Int);have fu:bl ((k+1:Nat):Int).natAbs<=20:=cf oM;have oJ:=np ((k+1:Nat):Int) oM oM;have cM:=pC (((k+1:Nat):Int):Rat) (tilt*((l.length:Int):Rat)) (bE (n:=30) oM oM) (bE (n:=100) oM oM);refine uR ?_;rw[qD (show (k:Int)<(l.length:Int) by omega)];refine uR ?_;refine EVL.idxM tO Z Z Z Z Z Z Z Z Z ((VS.mono GC)) (k) (rfl) (oM) ((QL.at (H:=H) (v:=.bool true) hx)) ?_;refine uR ?_;apply EV.drawn 6 kR kR;intro xv yw;(repeat refine' DD ?_);rw[aO k (by omega)];(repeat (first|refine' DD ?_|(refine' DC (oJ) (h:=?_);rotate_left)|(refine' DC (cM) (h:=?_);rotate_left)));(refine DJ.nil (fun G6 bu Qf=>?_);(case hS|hS2=>rfl));by_cases hc:tilt*((l.length:Int):Rat)<=(((k+1:Nat):Int):Rat)
  ·rw[qD (show bI (((k+1:Nat):Int):Rat) (tilt*((l.length:Int):Rat))>=0 from Int.not_lt.1 fun c=>absurd ((yj _ _).1 c) (Rat.not_lt.2 hc))];have JM:=Sm t1 h0 hc fun j hj=>LX (Nat.lt_of_lt_of_le hj hk)
   have hmx:kN tilt l=x:=by
    unfold kN;rw[<-JM,qB,hx];rfl
   rw[hmx];refine uR ?_;rfl
  ·rw[qC (show ¬bI (((k+1:Nat):Int):Rat) (tilt*((l.length:Int):Rat))>=0 from fun c=>hc (Rat.not_lt.1 fun q=>absurd ((yj _ _).2 q) oM))];refine uR ?_;refine⟨k+1,⟨by rw[aO k (by omega)];rfl,trivial⟩,sB,trivial,sB,rfl,⟨?_,GC.trans bu⟩,bu,by omega⟩;rcases Nat.lt_or_eq_of_le hk with h | h
   ·exact h
   ·exact absurd (Lr t1 h0) (by rw[<-h];exact hc)
set_option maxRecDepth 100000 in
theorem TB {H:Hp} {vx:Value} {X:List (List Rat)} {w:Nat} (hX:QLL H vx X) (hw:∀x,x∈X->x.length=w) (h0:1<=X.length) (hn:X.length<=300) (h1:1<=w) (h2:w<=20):PC prog 30 #[vx] H fun r _=>r=.bool true:=by
 obtain⟨vs,aG,jx⟩:=id hX;obtain⟨xa,xc,rfl⟩:=hX.val;obtain⟨x0,dA⟩:=gE h0;obtain⟨u0,e0,eR,_⟩:=aG.at dA;rw[hw x0 (qF dA)]at eR;refine BD func30 ntmps30 ?_;refine uR ?_;rw[qC (show ¬(X.length:Int)<1 by omega)];refine uR ?_;rw[qC (show ¬(X.length:Int)>300 by omega)];refine uR ?_;refine vI (jx) (0) (rfl) (h0) (eR) ?_;refine uR ?_;rw[qC (show ¬(w:Int)<1 by omega)];refine uR ?_;refine vI (jx) (0) (rfl) (h0) (eR) ?_;refine uR ?_;rw[qC (show ¬(w:Int)>20 by omega)];refine uR ?_;refine EV.loopK (ι:=Nat) [0,27,28] [] (fun q=>[(29,.v (.int .i64 (q:Int)))]) (fun _=>[]) (fun _=>[]) (fun q G=>q<=X.length/\H.Le G) (fun q=>X.length-q) (0) Z Z ⟨Z,trivial⟩ trivial rfl (fun _=>rfl) (⟨qQ _,Hp.Le.refl _⟩) ?_;rintro i G hG ⟨hi,pb⟩;refine uR ?_;refine EV.cond Z (fun af=>?_) (fun af=>?_)
 ·simp only[nN]at af;obtain⟨x,hx⟩:=gE af;obtain⟨u,e,hu,_⟩:=aG.at hx;rw[hw x (qF hx)]at hu;have VK:=jx.mono pb;refine uR ?_;refine vI (VK) (i) (rfl) (af) (hu) ?_;refine uR ?_;refine vI (VK) (0) (rfl) (h0) (eR) ?_;refine uR ?_;rw[show ((w:Int) != (w:Int))=false from pP _];refine uR ?_;exact⟨i+1,⟨by rw[aO i (by omega)];rfl,trivial⟩,sB,trivial,sB,rfl,⟨af,pb⟩,Hp.Le.refl _,by omega⟩
 ·simp only[nN]at af;refine uR ?_;rfl
theorem ZE {w i:Nat} (h:i<w) (v:Int) (hv:v=(i:Int)):((bJ i).map iv++List.replicate (w-i) (Value.int .i64 0)).take (i*1)++[Value.int .i64 v]++((bJ i).map iv++List.replicate (w-i) (Value.int .i64 0)).drop (i*1+1)=(bJ (i+1)).map iv++List.replicate (w-(i+1)) (Value.int .i64 0):=by
 subst hv;rw[R7 h 0,pR (A:=(bJ i).map iv) (c:=[Value.int .i64 0]) (B:=List.replicate (w-(i+1)) (Value.int .i64 0)) (vs:=[Value.int .i64 (i:Int)]) (c':=[Value.int .i64 (i:Int)]) (k:=i) (s:=1) (f:=0) (m:=1) (q:=i*1) (by rw[qV,kX,Nat.mul_one]) Z Z (qH 1) rfl,I4,qo,qZ];rfl
theorem zp2 {b:BG} (hb:b.Ok):fP b.loss b.rate b.tilt=true:=by
 unfold fP;rw[qD hb.rate.1,qD hb.rate.2];rcases hb.loss with e | e
 ·rw[if_pos e,qD (hb.one e)];rfl
 ·rw[if_neg oM,qD (hb.two e).1,qD (hb.two e).2];rfl
theorem YA {b:BG} (hb:b.Ok):kM b.loss b.rate b.tilt=true:=by rw[KX hb.loss,zp2 hb]
def Hf (loss:Int) (tilt:Rat):BG:=⟨loss,1 / 2,tilt,[[0],[0],[0]],1,0,1,0⟩
def rG:List Rat:=[1,2,6]
theorem ZX:(Hf 1 0).Ok:=⟨.inl rfl,by decide +kernel,fun _=>rfl,fun k=>absurd k (by decide),by decide +kernel,by decide,by decide,by decide +kernel,by decide,by decide,by decide +kernel⟩
theorem ZW:(Hf 2 (1 / 2)).Ok:=⟨.inr rfl,by decide +kernel,fun k=>absurd k (by decide),fun _=>by decide +kernel,by decide +kernel,by decide,by decide,by decide +kernel,by decide,by decide,by decide +kernel⟩
theorem YK:(Hf 1 0).mid rG=3:=by
 show fe rG=3;decide +kernel
theorem YJ:(Hf 2 (1 / 2)).mid rG=2:=by
 show kN (1 / 2) rG=2;have hs:gw rG=rG:=(IK (List.Perm.refl _) (by show List.Pairwise _ _;decide +kernel)).symm;unfold kN;rw[hs];decide +kernel
theorem zp9 {p:GP} {kd cl least deep:Int} {sm w:Nat} {la va xa:Option Addr} {ln lc vn vc xc:Nat} {g1 g2 g3:Value} {dq:Option Addr} (nI:dq=none) (kJ:∀s,p.cols s=(rD w,s)) (eS:sm<=w) (nz:1<=w) (mO:w<=1000) (fR:0<p.X.length) (gR:∀x,x∈p.X->x.length=w) (jY:∀x,x∈p.X->∀q,q∈x->ht q<=60) (fS:p.least=least) (cK:rq p.gain):∀(d:Nat) {H:Hp} {b:Nat} {T:TypeId} {dd s:Int} {vr out:Value} {rows:List Int} {ns:List Nd} {css:List (List Value)} {D ow:Ows},
  zC H (bG kd cl (.slice la ln lc) (.slice va vn vc)) kd p.X.length p.cost p.mean p.cnt->RLL H (.slice xa p.X.length xc) p.X->RQ H (.agg #[g1,g2,g3]) p.gain->dd+d=deep->0<=dd->deep<=10 ->
  IL H vr rows->rows.length<=300->(∀r,r∈rows->0<=r/\r<(p.X.length:Int))->xW (.pointer dq) D s->aF 123 15 out ns.length css.flatten ow->jR H css ns->ns.length+2 ^ (d+1)<=1000000 ->
  PW prog 98 #[.pointer (some ⟨b,0,none⟩),vr,.int .i64 dd] H ((b,T,lW kd cl (.slice la ln lc) (.slice va vn vc) (.slice xa p.X.length xc) deep least g1 g2 g3 (.pointer dq) (sm:Int) out)::(D++ow)) fun v au H'=>v=.tuple #[]/\∃out' D' cC dh,au=(b,T,lW kd cl (.slice la ln lc) (.slice va vn vc) (.slice xa p.X.length xc) deep least g1 g2 g3 (.pointer dq) (sm:Int) out')::(D'++cC)/\xW (.pointer dq) D' (p.grow d ns.length rows s).2/\aF 123 15 out' (ns++(p.grow d ns.length rows s).1).length dh.flatten cC/\jR H' dh (ns++(p.grow d ns.length rows s).1):=by
 intro d
 induction d using Nat.strongRecOn with
 | _ d ih =>
  intro H b T dd s vr out rows ns css D ow hg hX jk hdd uP fT hr hn hb hD ah bX cd;obtain⟨oa,oc,rfl⟩:=ah.val;obtain⟨ra,rc,rfl⟩:=SlC.val hr;have uF:2<=2 ^ (d+1):=by rw[qX];have:=Nat.one_le_two_pow (n:=d);omega
  refine PW.body tO func98 Z kR ntmps98 Z Z ?_;refine uR ?_;refine RP ?_;refine EVL.loadOwn tO Z Z Z Z Z Z (0) Z (rfl) Z Z ?_;refine uR ?_;refine EV.meetK (ι:=Value × Ows × List Value) [0,1,2,6] [] (fun _=>[]) (fun _=>[]) (fun q=>(b,T,lW kd cl (.slice la ln lc) (.slice va vn vc) (.slice xa p.X.length xc) deep least g1 g2 g3 (.pointer dq) (sm:Int) q.1)::(D++q.2.1)) (fun q G=>H.Le G/\aF 123 15 q.1 (ns.length+1) (css++[q.2.2]).flatten q.2.1/\gz G q.2.2 (p.nd rows)) Z Z (fun _=>rfl) ?_ ?_
  ·refine EVI.start (some 9) (b,T,lW kd cl (.slice la ln lc) (.slice va vn vc) (.slice xa p.X.length xc) deep least g1 g2 g3 (.pointer dq) (sm:Int) (.slice oa ns.length oc)) ?_;refine IV 0 ?_;refine IV 1 ?_;refine IN 2 ?_;refine IF 3 ?_;refine IL0 4 ?_;refine IV 5 ?_;refine IV 6 ?_;refine EVI.one 7 0 (.inr Z) kR Z ?_;refine vW ([(b,T,lW kd cl (.slice la ln lc) (.slice va vn vc) (.slice xa p.X.length xc) deep least g1 g2 g3 (.pointer dq) (sm:Int) (.slice oa ns.length oc))]) (D++ow) (zrZ hg hr hn hb) ?_;rintro _ bS G1 ⟨rfl,cs,rfl,hnd⟩ aj;obtain⟨b1,a1,l1,c1,a2,l2,c2,b3,a3,l3,c3,a4,l4,c4,b5,a5,l5,c5,a6,l6,c6,a7,c7,rfl,_⟩:=hnd.cells;refine EVL.nil ⟨rfl,?_⟩;refine EVI.one 8 0 (.inr Z) kR Z ?_;refine EVL.lit tO Z Z Z Z Z Z Z Z Z Z Z fun bl=>?_;refine EVL.nil ⟨rfl,?_⟩;refine EVI.one 9 1 (.inr Z) kR Z ?_;refine EVL.append tO Z Z Z Z Z Z Z Z Z Z Z Z ([(bl,_,_),(b,T,_)]++D) ow [] (by rw[qG];rfl) ah (iJ.own 0 Z Z) rfl oM ?_;intro v2 cC aD;obtain⟨oa2,oc2,rfl⟩:=aD.val;refine EVL.nil ⟨rfl,?_⟩;refine EVI.one 10 0 (.inl kR) kR Z ?_;refine EVL.nilB Z Z Z Z Z ?_;refine EVL.nil ⟨rfl,?_⟩;refine EVI.one 11 0 (.inl kR) kR Z ?_;refine EVL.fldB tO Z Z Z Z Z Z Z ?_;refine EVL.nil ⟨rfl,?_⟩;refine EVI.one 12 0 (.inl kR) kR Z ?_;refine EVL.storeOwn tO Z Z Z Z Z Z ([(bl,_,_)]) (D++(cC++[])) Z Z Z Z ((by exact qH 13)) (rfl) ?_;refine EVL.subOw [] [(bl,_,_)] _ Z ?_;refine EVL.nil ⟨rfl,?_⟩;refine EVI.nil 0 (.inl kR) kR ?_;exact⟨(_,cC++[],_),trivial,sB,trivial,trivial,rfl,aj,(by rw[qG,List.flatten_append];exact aD),hnd⟩
  ·rintro⟨fW,bS,c1⟩ G1 ⟨aj,aE,sH⟩;dsimp only at aE sH;have kh:jR G1 (css++[c1]) (ns++[p.nd rows]):=bX.snoc aj sH;refine uR ?_;refine RP ?_;refine EVL.loadOwn tO Z Z Z Z Z Z (0) Z (rfl) Z Z ?_;refine uR ?_;by_cases hd:d=0
   ·subst hd;obtain rfl:dd=deep:=oM;rw[show (dd == dd)=true from beq_self_eq_true dd];refine uR ?_;exact⟨rfl,fW,D,bS,_,rfl,hD,by rw[qJ];exact aE,kh⟩
   obtain⟨e,rfl⟩:∃e,d=e+1:=⟨d-1,by omega⟩;have EE:=@ih e oM;clear ih;rw[show (dd == deep)=false from pQ.2 (by omega)];refine uR ?_;refine RP ?_;refine EVL.loadOwn tO Z Z Z Z Z Z (0) Z (rfl) Z Z ?_;refine EVL.neqnil Tryz.underlying167 Z Z Z Z Z ?_;refine uR ?_;obtain⟨vsx,aG,jx⟩:=hX.mono aj;obtain⟨x0,dA⟩:=gE fR;obtain⟨u0,e0,eR,_⟩:=aG.at dA;have ND:=gR x0 (qF dA);refine EV.meetK (ι:=Value × Ows) [0,1,2,6] [] (fun q=>[(7,.v q.1)]) (fun _=>[]) (fun q=>(b,T,lW kd cl (.slice la ln lc) (.slice va vn vc) (.slice xa p.X.length xc) deep least g1 g2 g3 (.pointer dq) (sm:Int) fW)::(q.2++bS)) (fun q G=>G1.Le G/\IL G q.1 (p.cols s).1/\xW (.pointer dq) q.2 (p.cols s).2) Z Z (fun _=>rfl) ?_ ?_
   ·rcases hD with ⟨e1,rfl⟩ | ⟨bd,Td,e1,rfl,hs⟩
    ·cases e1;have jJ:=kJ s;have bC:(p.cols s).1=rD w:=by rw[jJ]
     have jo:(p.cols s).2=s:=by rw[jJ]
     have OD:∀k,k∈b::Ows.bs ow->∀q,q∈([]:Ows)->k≠q.1:=fun k _ q hq=>by cases hq
     refine uR ?_;refine EV.loopK (ι:=Nat × Value × Ows) [0,1,2,6] [] (fun q=>[(7,.v q.2.1),(8,.v (.int .i64 (q.1:Int)))]) (fun _=>[]) (fun q=>q.2.2++((b,T,lW kd cl (.slice la ln lc) (.slice va vn vc) (.slice xa p.X.length xc) deep least g1 g2 g3 (.pointer none) (sm:Int) fW)::bS)) (fun q _=>q.1<=w/\aF 3 1 q.2.1 q.1 ((rD q.1).map iv) q.2.2/\∀k,k∈b::Ows.bs ow->∀r,r∈q.2.2->k≠r.1) (fun q=>w-q.1) ((0,.slice none 0 0,[])) Z Z ⟨Z,Z,trivial⟩ trivial rfl (fun _=>rfl) (⟨qQ _,aF.nil _ _,OD⟩) ?_;rintro⟨i,v7,rQ⟩ G2 ai ⟨hi,fh,iO⟩;dsimp only at hi fh iO;obtain⟨a7,c7,rfl⟩:=fh.val;refine uR ?_;(first|refine EVL.swapOw (rQ) ((b,T,lW kd cl (.slice la ln lc) (.slice va vn vc) (.slice xa p.X.length xc) deep least g1 g2 g3 (.pointer none) (sm:Int) fW)::bS) (rfl) ?_|refine EV.swapOw (rQ) ((b,T,lW kd cl (.slice la ln lc) (.slice va vn vc) (.slice xa p.X.length xc) deep least g1 g2 g3 (.pointer none) (sm:Int) fW)::bS) (rfl) ?_);refine RP ?_;refine EVL.loadOwn tO Z Z Z Z Z Z (0) Z (rfl) Z Z ?_;refine vI (jx.mono ai) (0) (rfl) (fR) (eR) ?_;refine uR ?_;rw[ND];(first|refine EVL.swapOw ((b,T,lW kd cl (.slice la ln lc) (.slice va vn vc) (.slice xa p.X.length xc) deep least g1 g2 g3 (.pointer none) (sm:Int) fW)::bS) (rQ) (rfl) ?_|refine EV.swapOw ((b,T,lW kd cl (.slice la ln lc) (.slice va vn vc) (.slice xa p.X.length xc) deep least g1 g2 g3 (.pointer none) (sm:Int) fW)::bS) (rQ) (rfl) ?_);refine uR ?_;refine EV.cond Z (fun af=>?_) (fun af=>?_)
     ·simp only[nN]at af;refine uR ?_;refine EVL.app1N tO Z Z Z Z Z Z Z Z Z Z Z Z Z Z Z Z Z Z Z (fun _=>rfl) (rQ) ((b,T,lW kd cl (.slice la ln lc) (.slice va vn vc) (.slice xa p.X.length xc) deep least g1 g2 g3 (.pointer none) (sm:Int) fW)::bS) (rfl) (fh) (oM) fun _=>?_;intro v' au ao ia;refine uR ?_;refine⟨(i+1,v',au),⟨rfl,?_,trivial⟩,sB,trivial,trivial,rfl,⟨by dsimp only;omega,by dsimp only;rw[zqI,qo];exact ao,fun k hk=>ia k hk (iO k hk)⟩,Hp.Le.refl _,by dsimp only;omega⟩;rw[aO i (by omega)];rfl
     ·simp only[nN]at af;obtain rfl:i=w:=oM;have bY:aF 3 1 (.slice a7 i c7) (rD i).length ((rD i).map iv) rQ:=by rw[UE];exact fh
      (first|refine EVL.publishL [] rQ ((b,T,lW kd cl (.slice la ln lc) (.slice va vn vc) (.slice xa p.X.length xc) deep least g1 g2 g3 (.pointer none) (sm:Int) fW)::bS) Z bY (fun G3 ax VW=>?_) (fun k hk=>iO k hk)|refine EV.publishL [] rQ ((b,T,lW kd cl (.slice la ln lc) (.slice va vn vc) (.slice xa p.X.length xc) deep least g1 g2 g3 (.pointer none) (sm:Int) fW)::bS) Z bY (fun G3 ax VW=>?_) (fun k hk=>iO k hk));refine uR ?_;refine⟨(_,[]),⟨Z,trivial⟩,sB,trivial,trivial,rfl,ai.trans ax,?_,?_⟩
      ·rw[bC];exact VW
      ·rw[jo];exact .inl ⟨rfl,rfl⟩
    ·cases e1;cases nI
   ·rintro⟨vc7,D2⟩ G2 ⟨ai,eg,gW⟩;dsimp only at eg gW;obtain⟨ca,cc,rfl⟩:=SlC.val eg;have iG:=aj.trans ai
    have cj:(p.cols s).1.length<=1000:=by
     rw[kJ s,UE];exact mO
    have gI:=fun (G:Hp) (hG:G2.Le G)=>zof (least:=least) (hg.check G (iG.trans hG)) hg.len (fun G' k=>hg.cost G' ((iG.trans hG).trans k)) hg.small (hX.mono (iG.trans hG)) jY (hr.mono (iG.trans hG)) hn (eg.mono hG) cj;have kD:(eX p.X p.cost rows (max 1 least) (p.cols s).1).foldl gK none=p.best rows (p.cols s).1:=by unfold GP.best;rw[fS]
    have nQ:∀q,p.best rows (p.cols s).1=some q->ht q.2.1<=200/\ht q.2.2<=8000000:=fun q e=>by
     rw[<-kD]at e;have hf:=Cm (eX p.X p.cost rows (max 1 least) (p.cols s).1);rw[e]at hf;exact L7 hg.small hn hb jY hf.1
    simp only[yp hb,kD]at gI;refine uR ?_;apply EV.drawn 21 kR kR;intro xv yw;(repeat (first|refine' DD ?_|refine' vN ?_|refine' vF ?_));refine' DJ.ofVal (az.loadOwn tO Z Z Z Z (0) Z (rfl) Z Z) Z Z Z ?_;rotate_left;(repeat (first|refine' DD ?_|refine' vN ?_|refine' vF ?_));refine' DJ.ofVal (az.loadOwn tO Z Z Z Z (0) Z (rfl) Z Z) Z Z Z ?_;rotate_left;(repeat (first|refine' DD ?_|refine' vN ?_|refine' vF ?_));refine' DJ.ofVal (az.loadOwn tO Z Z Z Z (0) Z (rfl) Z Z) Z Z Z ?_;rotate_left;refine' vB (cO func144) (fun G hG hd=>gI G hG) (fun _ _ _ h k=>(by obtain⟨cs,h1,h2⟩:=h;exact⟨cs,h1.mono k,h2⟩)) ?_;rotate_left;refine' DJ.copy (15) (by first|exact .inl rfl|exact .inr Z) Z Z Z id Z kR ?_;rotate_left;refine' DJ.extract (15) Z Z Z Z Z kR (fun G hd=>(by obtain⟨cs,_,e⟩:=hd.head kR;exact⟨_,e,Nat.zero_lt_succ _⟩)) ?_;rotate_left;refine' DJ.extract (15) Z Z Z Z Z kR (fun G hd=>(by obtain⟨cs,_,e⟩:=hd.head kR;exact⟨_,e,Nat.lt_succ_self _⟩)) ?_;rotate_left;(repeat refine' DD ?_);refine' DJ.storeD tO Z Z Z Z (15) (js 0) Z Z (19) Z Z kR kR Z (fun G hd=>(by obtain⟨cs,h,e⟩:=hd.head kR;rw[e];obtain⟨c,b1,a1,l1,c1,a2,l2,c2,b3,a3,l3,c3,a4,l4,c4,rfl,_⟩:=h.cells;exact⟨rfl,rfl⟩)) ?_;rotate_left;(refine DJ.nil (fun G3 ax fM=>?_);(case hS|hS2=>rfl));obtain⟨⟨cs,bC,e33⟩,_⟩:=fM;obtain⟨c,b1,a1,l1,Di,a2,l2,c2,b3,a3,l3,c3,a4,l4,c4,rfl,hval⟩:=bC.cells;rw[e33];rw[show js 1 (Value.tuple #[.agg ([.int .i64 c,.bool b1,.slice a1 l1 Di,.slice a2 l2 c2,.bool b3,.slice a3 l3 c3,.slice a4 l4 c4]:List Value).toArray,.bool (p.best rows (p.cols s).1).isSome])=.bool (p.best rows (p.cols s).1).isSome from rfl,show aB (js 0 (Value.tuple #[.agg ([.int .i64 c,.bool b1,.slice a1 l1 Di,.slice a2 l2 c2,.bool b3,.slice a3 l3 c3,.slice a4 l4 c4]:List Value).toArray,.bool (p.best rows (p.cols s).1).isSome]))=[.int .i64 c,.bool b1,.slice a1 l1 Di,.slice a2 l2 c2,.bool b3,.slice a3 l3 c3,.slice a4 l4 c4] from rfl];refine uR ?_
    cases kq:p.best rows (p.cols s).1 with
    | none =>
     have hcut:p.cut rows (p.cols s).1=none:=by unfold GP.cut;rw[kq]
     rw[GP.grow_none hcut];rw[show (none:Option (Int × Rat × Rat)).isSome=false from rfl];apply EV.drawn 13 kR kR;intro xv yw;(repeat refine' DD ?_);(refine DJ.nil (fun G hG hF=>?_);(case hS|hS2=>rfl));refine uR ?_;exact⟨rfl,fW,D2,bS,_,rfl,gW,by rw[qJ];exact aE,kh.mono (ai.trans (ax.trans hG))⟩
    | some q =>
     obtain⟨c',t,g⟩:=q;obtain⟨rfl,EU,hvg⟩:=hval c' t g kq;obtain⟨nC,Pq⟩:=nQ _ kq;dsimp only at nC Pq;rw[show (some (c,t,g)).isSome=true from rfl];have Po:rq g:=by unfold rq;omega
     apply EV.drawn 13 kR kR;intro xv yw;(repeat (first|refine' DD ?_|refine' vN ?_|refine' vF ?_));refine' DJ.ofVal (az.loadOwn tO Z Z Z Z (0) Z (rfl) Z Z) Z Z Z ?_;rotate_left;refine' vC (cO func53) (fun G hG hd=>kz (RQ.mono hvg hG) (RQ.mono jk (iG.trans (ax.trans hG))) Po cK) ?_;rotate_left;(repeat refine' DD ?_);(refine DJ.nil (fun G4 aT xF=>?_);(case hS|hS2=>rfl));refine uR ?_;by_cases hle:g<=p.gain
     ·have hcut:p.cut rows (p.cols s).1=none:=by unfold GP.cut;rw[kq];exact if_pos hle
      rw[GP.grow_none hcut];rw[qD (Int.not_lt.1 fun k=>Rat.not_lt.2 hle ((Iz g p.gain).1 k))];refine uR ?_;exact⟨rfl,fW,D2,bS,_,rfl,gW,by rw[qJ];exact aE,kh.mono (ai.trans (ax.trans aT))⟩
     have hcut:p.cut rows (p.cols s).1=some (c,t):=by unfold GP.cut;rw[kq];exact if_neg hle
     rw[GP.grow_some hcut];rw[qC (Int.not_le.2 ((Iz g p.gain).2 (Rat.not_le.1 hle)))];have fU:=iG.trans (ax.trans aT);refine uR ?_;apply EV.drawn 14 kR kR;intro xv yw;(repeat (first|refine' DD ?_|refine' vN ?_|refine' vF ?_));refine' DJ.ofVal (az.loadOwn tO Z Z Z Z (0) Z (rfl) Z Z) Z Z Z ?_;rotate_left;(repeat (first|refine' DD ?_|refine' vN ?_|refine' vF ?_));refine' vB (cO func145) (fun G hG hd=>Ut (col:=c) (t:=t) (hX.mono (fU.trans hG)) (hr.mono (fU.trans hG)) oM (fun x hx q hq=>iL (jY x hx q hq) oM) (RQ.mono EU (aT.trans hG)) (iL nC oM)) (fun _ _ _ h k=>(by obtain⟨u,w,e,hu,hw⟩:=h;exact⟨u,w,e,hu.mono k,hw.mono k⟩)) ?_;rotate_left;refine' DJ.copy (9) (by first|exact .inl rfl|exact .inr Z) Z Z Z id Z kR ?_;rotate_left;refine' DJ.extract (9) Z Z Z Z Z kR (fun G hd=>(by obtain⟨u,w,e,_⟩:=hd.head kR;exact⟨_,e,Nat.zero_lt_succ _⟩)) ?_;rotate_left;refine' DJ.extract (9) Z Z Z Z Z kR (fun G hd=>(by obtain⟨u,w,e,_⟩:=hd.head kR;exact⟨_,e,Nat.lt_succ_self _⟩)) ?_;rotate_left;refine' DJ.copy (9) (.inr Z) Z Z Z (js 0) Z kR ?_;rotate_left;(refine DJ.nil (fun G5 bj Ke=>?_);(case hS|hS2=>rfl));obtain⟨⟨u5,w5,e5,Ay,Av⟩,_⟩:=Ke;rw[e5];rw[yp hb]at Ay Av;obtain⟨ua,uc,rfl⟩:=SlC.val Ay;obtain⟨wa,wc,rfl⟩:=SlC.val Av;rw[show js 0 (Value.tuple #[.slice ua (aR p.X c t rows).length uc,.slice wa (bf p.X c t rows).length wc])=.slice ua (aR p.X c t rows).length uc from rfl,show js 1 (Value.tuple #[.slice ua (aR p.X c t rows).length uc,.slice wa (bf p.X c t rows).length wc])=.slice wa (bf p.X c t rows).length wc from rfl];have jK:=fU.trans bj;have AW:=kh.mono (ai.trans (ax.trans (aT.trans bj)));obtain⟨cA,QA,cB,Ha,lN,JH,sj⟩:=AW.mid;rw[Ha]at aE;clear Ha;obtain⟨b9,a9,l9,c9,a10,l10,rB,b11,a11,l11,pj,a12,l12,QD,b13,Ko,l13,Kn,a14,l14,c14,a15,c15,rfl,k1,k2,k3,k4⟩:=JH.cells;obtain⟨go,QB,sp,rfl,rfl,lK⟩:=aE.mid rfl;have wk:IntKind.i64.wrap ((ns.length:Int)+1)=((ns.length+1:Nat):Int):=aO _ oM;have wd:IntKind.i64.wrap (dd+1)=dd+1:=by rw[pL];omega
     refine uR ?_;apply EV.drawn 7 kR kR;intro xv yw;(repeat (first|refine' DD ?_|refine' vN ?_|refine' vF ?_));refine' DJ.ofVal (az.loadOwn tO Z Z Z Z (0) Z (rfl) Z Z) Z Z Z ?_;rotate_left;(repeat (first|refine' DD ?_|refine' vN ?_|refine' vF ?_));(refine DJ.nil (fun G6 bu Qf=>?_);(case hS|hS2=>rfl));refine EVL.idxB tO Z Z Z Z Z Z Z Z Z (ns.length) (ns.length*15) (rfl) (oM) (rfl) ?_;refine EVL.fldB tO Z Z Z Z Z Z Z ?_;refine EVL.storeOwn tO Z Z Z Z Z Z ((b,T,_)::D2) ([]) Z Z Z Z ((vQ (f:=0) lN rfl (by show 0+1<=15;omega))) (pR (f:=0) lN Z Z (by show 0+1<=15;omega) rfl) ?_;refine uR ?_;apply EV.drawn 7 kR kR;intro xv yw;(repeat (first|refine' DD ?_|refine' vN ?_|refine' vF ?_));refine' DJ.ofVal (az.loadOwn tO Z Z Z Z (0) Z (rfl) Z Z) Z Z Z ?_;rotate_left;(repeat (first|refine' DD ?_|refine' vN ?_|refine' vF ?_));(refine DJ.nil (fun G7 aZ Da=>?_);(case hS|hS2=>rfl));refine EVL.idxB tO Z Z Z Z Z Z Z Z Z (ns.length) (ns.length*15) (rfl) (oM) (rfl) ?_;refine EVL.fldB tO Z Z Z Z Z Z Z ?_;refine EVL.storeOwn tO Z Z Z Z Z Z ((b,T,_)::D2) ([]) Z Z Z Z ((vQ (f:=5) lN rfl (by show 5+3<=15;omega))) (pR (f:=5) lN Z Z (by show 5+3<=15;omega) rfl) ?_;refine uR ?_;refine RP ?_;refine EVL.loadOwn tO Z Z Z Z Z Z (0) Z (rfl) Z Z ?_;refine uR ?_;rw[wk];refine EVL.idxB tO Z Z Z Z Z Z Z Z Z (ns.length) (ns.length*15) (rfl) (oM) (rfl) ?_;refine EVL.fldB tO Z Z Z Z Z Z Z ?_;refine EVL.storeOwn tO Z Z Z Z Z Z ((b,T,_)::D2) ([]) Z Z Z Z ((vQ (f:=1) lN rfl (by show 1+1<=15;omega))) (pR (f:=1) lN Z Z (by show 1+1<=15;omega) rfl) ?_;refine uR ?_;rw[wd];have Kb:=jK.trans (bu.trans aZ);have oR:(aR p.X c t rows).length<=300:=qI (List.length_filter_le _ _) hn;have oU:(bf p.X c t rows).length<=300:=qI (List.length_filter_le _ _) hn;have oQ:∀r,r∈aR p.X c t rows->0<=r/\r<(p.X.length:Int):=fun r hr=>hb r (List.mem_filter.mp hr).1;have oT:∀r,r∈bf p.X c t rows->0<=r/\r<(p.X.length:Int):=fun r hr=>hb r (List.mem_filter.mp hr).1;have NP:=RQ.mono EU (aT.trans (bj.trans (bu.trans aZ)));obtain⟨n1,uM⟩:∃n1:Nd,({ p.nd rows with col:=c,left:=((ns.length+1:Nat):Int),at':=t }:Nd)=n1:=⟨_,rfl⟩
     have dQ:gz G7 [.int .i64 c,.int .i64 ((ns.length+1:Nat):Int),.int .i64 0,.int .i64 (p.nd rows).rows,.int .i64 (p.nd rows).cls,.bool b1,.slice a1 l1 Di,.slice a2 l2 c2,.bool b11,.slice a11 l11 pj,.slice a12 l12 QD,.bool b13,.slice Ko l13 Kn,.slice a14 l14 c14,.slice a15 (p.nd rows).counts.length c15] n1:=by
      subst uM;exact⟨_,_,_,_,NP,k2.mono (bu.trans aZ),k3.mono (bu.trans aZ),k4.mono (bu.trans aZ),rfl⟩
     have ew:(ns++[n1]).length=ns.length+1:=by simp
     have gi:2 ^ (e+1+1)=2 ^ (e+1)+2 ^ (e+1):=by rw[qX];omega
     have uH:2<=2 ^ (e+1):=by rw[qX];have:=Nat.one_le_two_pow (n:=e);omega
     have hL:=EE (H:=G7) (b:=b) (T:=T) (dd:=dd+1) (s:=(p.cols s).2) (ns:=ns++[n1]) (hg.mono Kb) (hX.mono Kb) (jk.mono Kb) oM oM fT (Ay.mono (bu.trans aZ)) oR oQ gW (by rw[ew];exact lK _ Z) (sj G7 _ n1 (bu.trans aZ) dQ) (by rw[ew];omega);rw[ew]at hL;have zo:=(p.grow_len e (ns.length+1) (aR p.X c t rows) (p.cols s).2).2;generalize hLe:p.grow e (ns.length+1) (aR p.X c t rows) (p.cols s).2=Lp at *
     obtain⟨Ls,s2⟩:=Lp;dsimp only at hL zo;refine EVL.callW Z Z Z Z Z _ [] (qG _).symm hL ?_;rintro _ _ G8 ⟨rfl,M9,D3,rR,Qy,rfl,gJ,eD,wU⟩ bt;rw[qG ((b,T,_)::(D3++rR))];rw[show ns++[n1]++Ls=ns++n1::Ls by simp]at eD wU;obtain⟨cA3,BC,cB3,GZ,GQ,OE,Fo⟩:=wU.mid;rw[GZ]at eD;clear GZ;obtain⟨d9,e9,f9,h9,e10,f10,Xi,d11,e11,f11,h11,e12,f12,Dd,d13,e13,f13,h13,e14,f14,Ki,e15,GV,rfl,j1,j2,j3,j4⟩:=OE.cells;obtain⟨go3,Xr,sp3,rfl,rfl,tr⟩:=eD.mid rfl;have eH:(ns++n1::Ls).length=ns.length+1+Ls.length:=by simp;omega
     rw[eH]at tr;rw[eH];refine uR ?_;apply EV.drawn 10 kR kR;intro xv yw;(repeat (first|refine' DD ?_|refine' vN ?_|refine' vF ?_));refine' DJ.ofVal (az.loadOwn tO Z Z Z Z (0) Z (rfl) Z Z) Z Z Z ?_;rotate_left;(repeat (first|refine' DD ?_|refine' vN ?_|refine' vF ?_));refine' DJ.ofVal (az.loadOwn tO Z Z Z Z (0) Z (rfl) Z Z) Z Z Z ?_;rotate_left;(repeat (first|refine' DD ?_|refine' vN ?_|refine' vF ?_));(refine DJ.nil (fun G9 dG hF9=>?_);(case hS|hS2=>rfl));refine EVL.idxB tO Z Z Z Z Z Z Z Z Z (ns.length) (ns.length*15) (rfl) (oM) (rfl) ?_;refine EVL.fldB tO Z Z Z Z Z Z Z ?_;refine EVL.storeOwn tO Z Z Z Z Z Z ((b,T,_)::D3) ([]) Z Z Z Z ((vQ (f:=2) GQ rfl (by show 2+1<=15;omega))) (pR (f:=2) GQ Z Z (by show 2+1<=15;omega) rfl) ?_;refine uR ?_;rw[wd];obtain⟨n2,mj⟩:∃n2:Nd,({ n1 with right:=((ns.length+1+Ls.length:Nat):Int) }:Nd)=n2:=⟨_,rfl⟩
     have bM:gz G9 [.int .i64 n1.col,.int .i64 n1.left,.int .i64 ((ns.length+1+Ls.length:Nat):Int),.int .i64 n1.rows,.int .i64 n1.cls,.bool d9,.slice e9 f9 h9,.slice e10 f10 Xi,.bool d11,.slice e11 f11 h11,.slice e12 f12 Dd,.bool d13,.slice e13 f13 h13,.slice e14 f14 Ki,.slice e15 n1.counts.length GV] n2:=by
      subst mj;exact⟨_,_,_,_,j1.mono dG,j2.mono dG,j3.mono dG,j4.mono dG,rfl⟩
     have Qa:=Kb.trans (bt.trans dG);have xd:(ns++n2::Ls).length=ns.length+1+Ls.length:=by simp;omega
     have hR:=EE (H:=G9) (b:=b) (T:=T) (dd:=dd+1) (s:=s2) (ns:=ns++n2::Ls) (hg.mono Qa) (hX.mono Qa) (jk.mono Qa) oM oM fT (Av.mono (bu.trans (aZ.trans (bt.trans dG)))) oU oT gJ (by rw[xd];exact tr _ Z) (Fo G9 _ n2 dG bM) (by rw[xd];omega);rw[xd]at hR;generalize hRe:p.grow e (ns.length+1+Ls.length) (bf p.X c t rows) s2=Rp at *
     obtain⟨Rs,s3⟩:=Rp;dsimp only at hR;refine EVL.callW Z Z Z Z Z _ [] (qG _).symm hR ?_;rintro _ _ G10 ⟨rfl,Ey,D4,CJ,BB,rfl,Qj,jD,sF⟩ fL;rw[qG ((b,T,_)::(D4++CJ))];refine uR ?_
     have bn:ns++n2::Ls++Rs=ns++({ p.nd rows with col:=c,left:=((ns.length+1:Nat):Int),right:=((ns.length+1+Ls.length:Nat):Int),at':=t }::(Ls++Rs)):=by
      subst mj;subst uM;simp
     rw[bn]at jD sF;refine⟨rfl,Ey,D4,CJ,BB,rfl,?_,?_,?_⟩
     ·exact Qj
     ·exact jD
     ·exact sF
set_option maxRecDepth 100000 in
theorem zqa {p:GP} {H:Hp} {kd cl least:Int} {D w:Nat} {s:Int} {la va xa:Option Addr} {ln lc vn vc xc:Nat} {vr:Value} {rows:List Int} {b1:Bool} {a1 a2:Option Addr} {l1 c1 l2 c2:Nat}
  (kJ:∀s,p.cols s=(rD w,s)) (nz:1<=w) (mO:w<=20) (fR:0<p.X.length) (hxn:p.X.length<=300) (gR:∀x,x∈p.X->x.length=w) (jY:∀x,x∈p.X->∀q,q∈x->ht q<=60) (fS:p.least=least) (hl:1<=least/\least<=300) (cK:rq p.gain) (lF:0<=p.gain) (hD:D<=10)
  (hg:zC H (bG kd cl (.slice la ln lc) (.slice va vn vc)) kd p.X.length p.cost p.mean p.cnt) (hX:RLL H (.slice xa p.X.length xc) p.X) (jk:RQ H (.agg #[.bool b1,.slice a1 l1 c1,.slice a2 l2 c2]) p.gain)
  (hr:IL H vr rows) (gh:0<rows.length) (hn:rows.length<=300) (hb:∀r,r∈rows->0<=r/\r<(p.X.length:Int)) :
  PW prog 49 #[bG kd cl (.slice la ln lc) (.slice va vn vc),.slice xa p.X.length xc,vr,zF (D:Int) least (.bool b1) (.slice a1 l1 c1) (.slice a2 l2 c2)] H []
   fun v ow G=>∃oa oc css,v=.tuple #[.agg #[.int .i64 kd,.int .i64 cl,.int .i64 (w:Int),.slice oa (p.grow D 0 rows s).1.length oc],.int .i64 0]/\jR G css (p.grow D 0 rows s).1/\aF 123 15 (.slice oa (p.grow D 0 rows s).1.length oc) (p.grow D 0 rows s).1.length css.flatten ow:=by
 obtain⟨ra,rc,rfl⟩:=SlC.val hr;have Ou:2 ^ (D+1)<=2 ^ 11:=qc oM oM;have Bf:=zon (hg.check H (Hp.Le.refl _)) hg.len hX gR nz mO oM hxn hr gh hn (Tc (deep:=(D:Int)) jk lF oM hl);rw[HY hb]at Bf;obtain⟨vs,aG,jx⟩:=id hX;obtain⟨x0,dA⟩:=gE fR;obtain⟨u0,e0,eR,_⟩:=aG.at dA;rw[gR x0 (qF dA)]at eR;refine PW.body tO func49 Z kR ntmps49 Z Z ?_
 repeat (first|refine RUN ?_|refine CV (Bf) ?_|refine CE (Bf) ?_)
 (first|refine EVL.unbox (25) Z fun gb=>?_|refine EV.unbox (25) Z fun gb=>?_);refine EVL.callW Z Z Z Z Z ((gb,169,_)::([]++[])) ([]) Z (zp9 (dq:=none) (deep:=(D:Int)) (sm:=0) (w:=w) rfl kJ (qQ _) nz oM fR gR jY fS cK D (s:=s) (ns:=[]) (css:=[]) hg hX jk oM (Int.le_refl _) oM hr hn hb (.inl ⟨rfl,rfl⟩) (aF.nil _ _) ⟨rfl,fun j c n e1 e2=>by cases e1⟩ (by rw[qg];omega)) ?_;rintro _ _ G1 ⟨rfl,out,D',cC,css,rfl,uV,ah,bX⟩ aj;rw[pN]at ah bX;rw[qg]at ah bX uV;rcases uV with ⟨_,rfl⟩|⟨bd',T',e1,_⟩
 case inr=>cases e1
 obtain⟨oa,oc,rfl⟩:=ah.val;refine uR ?_;apply EV.drawn 12 kR kR;intro xv yw;(repeat refine' DD ?_);refine' vJ (jx.mono aj) (0) (rfl) (fR) (eR) ?_;rotate_left;(repeat (first|refine' DD ?_|refine' vN ?_|refine' vF ?_));refine' DJ.ofVal (az.loadOwn tO Z Z Z Z (0) Z (rfl) Z Z) Z Z Z ?_;rotate_left;(refine DJ.nil (fun G hG hF=>?_);(case hS|hS2=>rfl));(first|refine EVL.subOw [] [(gb,_,_)] (cC++[]) Z ?_|refine EV.subOw [] [(gb,_,_)] (cC++[]) Z ?_|refine EVL.subOw [] [(gb,_,_)] cC Z ?_);refine uR ?_;refine⟨oa,oc,css,rfl,bX.mono hG,?_⟩
 first|exact ah|simpa using ah
theorem znU {H:Hp} {deep least:Int} {b1:Bool} {a1 a2:Option Addr} {l1 c1 l2 c2:Nat} {g:Rat} (hq:RQ H (.agg #[.bool b1,.slice a1 l1 c1,.slice a2 l2 c2]) g) (hg:rq g) :
  PC prog 41 #[zF deep least (.bool b1) (.slice a1 l1 c1) (.slice a2 l2 c2)] H fun r _=>r=.agg (Dm deep least g).toArray:=by
 refine BD func41 ntmps41 ?_;refine uR ?_;apply EV.drawn 8 kR kR;intro xv yw;(repeat refine' DD ?_);refine' vC (cO func40) (fun G hG hd=>Dr (RQ.mono hq hG) hg) ?_;rotate_left;(repeat refine' DD ?_);(refine DJ.nil (fun G hG hF=>?_);(case hS|hS2=>rfl));refine uR ?_;rfl
theorem GD.Ok.rgoal {H:Hp} {n:Nat} {d:GD} (hd:d.Ok n) (h0:1<=n) (h1:n<=300) {v:Value} (hR:d.R H v):(∃ga gn gc va vn vc,v=bG d.kd d.cl (.slice ga gn gc) (.slice va vn vc))/\zC H v d.kd n d.cost d.mean d.cnt:=by
 have eS:=hd.sm
 cases d with
 | v qs =>
  obtain⟨rfl,hq⟩:=hd;obtain⟨s,rfl,hs⟩:=hR;obtain⟨sa,sc,rfl⟩:=hs.val;have oC:∀q,q∈qs->ht q<=100:=fun q lp=>qI (hq.bits q lp) oM;refine⟨⟨_,_,_,_,_,_,rfl⟩,⟨?_,?_,?_,?_,?_,?_,?_,?_,?_,?_⟩⟩
  ·exact fun e=>absurd e (by decide:¬(2:Int)=1)
  ·exact fun _ l=>rfl
  ·exact fun e=>absurd e (by decide:¬(2:Int)=1)
  ·exact fun l=>qQ _
  ·exact fun G hG u l hl hn=>Uu hl hn (hs.mono hG) oC
  ·exact fun l hn hr=>by have:=(eS l hn hr).1;omega
  ·exact fun G hG u l hl hn=>zlY hl hn (hs.mono hG) oC
  ·exact fun l hn hr=>(eS l hn hr).2
  ·exact fun G hG=>zob h0 h1
  ·exact zrY
 | c C ls =>
  obtain⟨hc,rfl,df⟩:=hd;obtain⟨s,rfl,hs⟩:=hR;obtain⟨sa,sc,rfl⟩:=SlC.val hs;refine⟨⟨_,_,_,_,_,_,rfl⟩,⟨?_,?_,?_,?_,?_,?_,?_,?_,?_,?_⟩⟩
  ·exact fun _ G hG u l hl hn=>Vb hl hn (SlC.mono hs hG) oM df
  ·exact fun e=>absurd rfl e
  ·exact fun _ l=>rfl
  ·exact fun l=>by show (en C (atI ls l)).length<=12;rw[om];omega
  ·intro G hG u l hl hn;have:=Uu (kd:=1) (cl:=(C:Int)) (sl:=.slice sa ls.length sc) hl hn (RL.nil G none 0) (by intro q hq;cases hq);rw[show atR [] (exL l ([]:List Rat).length)=[] by rw[show exL l ([]:List Rat).length=[] from List.filter_eq_nil_iff.2 fun r _=>by unfold inR;simp];rfl,I5]at this;exact this
  ·exact fun l hn hr=>by have:=(eS l hn hr).1;omega
  ·exact fun G hG u l hl hn=>zlX hl hn (SlC.mono hs hG) oM oM df
  ·exact fun l hn hr=>(eS l hn hr).2
  ·exact fun G hG=>zoa (SlC.mono hs hG) ⟨by show (1:Int)<=(C:Int);omega,by show (C:Int)<=12;omega⟩ h0 h1 df
  ·exact zrX (sv:=.bool true)
theorem Te {b:BG} (hb:b.Ok):fP b.loss b.rate b.tilt=true:=by
 unfold fP;rw[qD hb.rate.1,qD hb.rate.2];rcases hb.loss with e | e
 ·rw[if_pos e,qD (hb.one e)];rfl
 ·rw[if_neg oM,qD (hb.two e).1,qD (hb.two e).2];rfl
def BG.goalQ (b:BG) (q:Rat):Rat:=if b.loss=1 then q else if 0<q then b.tilt else if q=0 then 0 else b.tilt-1
theorem BG.goal_get (b:BG) {left:List Rat} {i:Nat} {q:Rat} (h:left[i]?=some q):(b.goal left)[i]?=some (b.goalQ q):=by
 unfold BG.goal BG.goalQ;by_cases e:b.loss=1
 ·rw[if_pos e,if_pos e];exact h
 ·rw[if_neg e,if_neg e,qK,h];rfl
theorem RTL.nil (H:Hp) (a:Option Addr) (c:Nat):RTL H (.slice a 0 c) []:=⟨[],⟨rfl,fun j c t e=>by cases e⟩,rfl,.inl ⟨rfl,a,c,rfl⟩⟩
set_option maxRecDepth 100000 in
theorem zrU {H:Hp} {b:BG} (hb:b.Ok) {vx vy vs:Value} {y:List Rat} {K D0 A0:Nat} (hX:RLL H vx b.X) (hy:RL H vy y) (fD:y.length=b.X.length) (aK:tU H vs b.loss (K:Int) (b.D:Int) b.least b.rate b.tilt b.gain)
  (hD:1<=D0) (hA:1<=A0) (hg:∀q,q∈y->Gr D0 A0 q) (hK:K<=50) (cI:bl ((2*A0*2 ^ K)*(D0*840*(840*b.rate.den) ^ K))<=95) :
  PC prog 14 #[vx,vy,vs] H fun r G=>∃b1 a1 l1 c1 a2 l2 c2 b2 a3 l3 c3 a4 l4 c4 b4 a7 l7 c7 a8 l8 c8 ta tc,r=.tuple #[.agg (fA b.loss (b.W:Int) (rc b4 a7 l7 c7 a8 l8 c8) (rc b1 a1 l1 c1 a2 l2 c2) (rc b2 a3 l3 c3 a4 l4 c4) (.slice ta K tc)).toArray,.int .i64 0]/\RQ G (.agg (rc b4 a7 l7 c7 a8 l8 c8).toArray) (b.mid y)/\RQ G (.agg (rc b1 a1 l1 c1 a2 l2 c2).toArray) b.rate/\RQ G (.agg (rc b2 a3 l3 c3 a4 l4 c4).toArray) b.tilt/\RTL G (.slice ta K tc) (b.fit y K).1:=by
 obtain⟨b1,a1,l1,c1,a2,l2,c2,b2,a3,l3,c3,a4,l4,c4,b3,a5,l5,c5,a6,l6,c6,rfl,h1,h2,h3⟩:=aK;have h8:=hb.rows;have hw:=hb.wide;have Bi:=hb.deep;have gR:=fun x hx=>(hb.each x hx).1;have mN:=fun x hx=>(hb.each x hx).2;have mY:=hb.fit hD hA hg fD cI;have jB:=b.rate.den_nz;have jq:bl (A0*(D0*840))<=95:=qI (ik (Nat.mul_le_mul (by rw[qW 2 A0,Nat.mul_assoc];exact Nat.le_mul_of_pos_right A0 (Nat.mul_pos oM (Nat.pow_pos oM))) (Nat.le_mul_of_pos_right _ (Nat.pow_pos oM)))) cI;have mK:∀q,q∈y->ht q<=95:=fun q k=>qI (((hg q k).up 840).bits oM hA) jq;have EL:∀q,q∈y->ht q<=100:=fun q k=>qI (mK q k) oM;have oO:ht (b.mid y)<=95:=qI ((hb.mid_gr hg fD).bits oM hA) jq
 have ix:ht b.rate<=10:=by
  have h:=hb.rd.bits oM oM;rw[Nat.one_mul]at h;exact qI h (qI (ik hb.den.1) (cf (by decide)))
 have q1:rq b.rate:=iL ix oM;have q2:rq b.tilt:=iL hb.den.2 oM;have q3:rq b.gain:=iL hb.gain.2 oM;obtain⟨vs,aG,jx⟩:=id hX;obtain⟨xa,xc,rfl⟩:=hX.val;obtain⟨ya,yc,rfl⟩:=hy.val;obtain⟨x0,dA⟩:∃x,b.X[0]?=some x:=⟨_,qA h8.1⟩;obtain⟨u0,e0,eR,_⟩:=aG.at dA;rw[gR x0 (qF dA)]at eR;have eU:=LF hX gR hw.1 hw.2 h8.1 oM;have gB:=Tz (loss:=b.loss) h1 h2 q1 q2;rw[Te hb]at gB;have kH:=Tc (deep:=(b.D:Int)) (least:=b.least) h3 hb.gain.1 oM hb.least;refine BD func14 ntmps14 ?_
 repeat (first|refine RUN ?_|refine CV (eU) ?_|refine CE (eU) ?_)
 rw[show ((y.length:Int) != (b.X.length:Int))=false by rw[fD];exact pP _];refine uR ?_;refine EVL.meetK (ι:=Unit) [0,1,5,6] [5,6] (fun _=>[(66,.v (.bool false))]) (fun _=>[]) (fun _=>[]) (fun _ G=>H.Le G) Z Z (fun _=>rfl) ?_ ?_
 ·rcases hb.loss with e | e
  ·rw[show (b.loss != 1)=false by rw[e];rfl]
   repeat (first|refine RUN ?_|refine CV (gB) ?_|refine CE (gB) ?_)
   rw[qC (show ¬(K:Int)<0 by omega)];refine uR ?_;rw[qC (show ¬(K:Int)>50 by omega)]
   repeat (first|refine RUN ?_|refine CV (kH) ?_|refine CE (kH) ?_)
   exact⟨(),⟨Z,trivial⟩,sB,trivial,sB,rfl,Hp.Le.refl _⟩
  ·rw[show (b.loss != 1)=true by rw[e];rfl];refine uR ?_;rw[show (b.loss != 2)=false by rw[e];rfl]
   repeat (first|refine RUN ?_|refine CV (gB) ?_|refine CE (gB) ?_)
   rw[qC (show ¬(K:Int)<0 by omega)];refine uR ?_;rw[qC (show ¬(K:Int)>50 by omega)]
   repeat (first|refine RUN ?_|refine CV (kH) ?_|refine CE (kH) ?_)
   exact⟨(),⟨Z,trivial⟩,sB,trivial,sB,rfl,Hp.Le.refl _⟩
 rintro _ G1 aj;have JJ:=fun (G:Hp) (hG:G1.Le G)=>TV (loss:=b.loss) (hy.mono (aj.trans hG)) (RQ.mono h2 (aj.trans hG)) oM oM EL (fun k=>hb.two (hb.loss.resolve_left k)) hb.den.2;refine uR ?_;apply EV.drawn 18 kR kR;intro xv yw;(repeat refine' DD ?_);refine' vJ (jx.mono aj) (0) (rfl) (h8.1) (eR) ?_;rotate_left;(repeat refine' DD ?_);refine' vB (cO func45) (fun G hG hd=>JJ G hG) (fun _ _ _ h k=>RQ.mono h k) ?_;rotate_left;(repeat refine' DD ?_)
 (refine' DJ.plainE tO (fun v G=>∃b4 a7 l7 c7 a8 l8 c8,v=.agg (fA b.loss (b.W:Int) (rc b4 a7 l7 c7 a8 l8 c8) (rc b1 a1 l1 c1 a2 l2 c2) (rc b2 a3 l3 c3 a4 l4 c4) (.slice none 0 0)).toArray/\RQ G (.agg (rc b4 a7 l7 c7 a8 l8 c8).toArray) (b.mid y)) (fun v G G' ⟨b4,a7,l7,c7,a8,l8,c8,e,h⟩ k=>⟨b4,a7,l7,c7,a8,l8,c8,e,RQ.mono h k⟩) Z Z Z (fun G hd=>(by
  have hq:=show RQ G (xv 11) (b.mid y) from hd.head kR;obtain⟨a7,l7,c7,a8,l8,c8,e,_⟩:=id hq;rw[e]at hq;rw[e];exact⟨_,rfl,_,_,_,_,_,_,_,rfl,hq⟩)) ?_;rotate_left)
 (repeat refine' DD ?_);(refine DJ.nil (fun G2 ai fN=>?_);(case hS|hS2=>rfl));obtain⟨⟨b4,a7,l7,c7,a8,l8,c8,e4,Gd⟩,_⟩:=fN;rw[e4];have iG:=aj.trans ai;refine uR ?_;refine EV.loopK (ι:=Nat × Value × Ows) [0,1,5,6,8] [5,6,8] (fun q=>[(9,.v q.2.1),(10,.v (.int .i64 (q.1:Int)))]) (fun _=>[]) (fun q=>q.2.2) (fun q _=>q.1<=b.X.length/\aF 3 1 q.2.1 q.1 ((bJ q.1).map iv) q.2.2) (fun q=>b.X.length-q.1) ((0,.slice none 0 0,[])) Z Z ⟨Z,Z,trivial⟩ trivial rfl (fun _=>rfl) (⟨qQ _,aF.nil _ _⟩) ?_;rintro⟨i,v9,wy⟩ G3 ax ⟨hi,gD⟩;dsimp only at hi gD;obtain⟨a9,c9,rfl⟩:=gD.val;have wi:IntKind.i64.wrap ((i:Int)+1)=((i+1:Nat):Int):=aO i oM;refine uR ?_;refine EV.cond Z (fun af=>?_) (fun af=>?_)
 ·simp only[nN]at af;refine uR ?_;refine EVL.app1 tO Z Z Z Z Z Z Z Z Z Z Z Z Z Z Z Z Z Z Z (fun _=>rfl) (wy) ([]) ((qG _).symm) (gD) oM fun _=>?_;intro v' au ao;refine uR ?_;exact⟨(i+1,v',au),⟨rfl,by rw[wi];rfl,trivial⟩,sB,trivial,sB,qG _,⟨af,by dsimp only;rw[I4,qo];exact ao⟩,Hp.Le.refl _,by dsimp only;omega⟩
 simp only[nN]at af;obtain rfl:i=b.X.length:=oM;clear hi af wi;(first|refine EVL.publishL [] wy [] ((qG _).symm) gD fun G4 aT JC=>?_|refine EV.publishL [] wy [] ((qG _).symm) gD fun G4 aT JC=>?_)
 have Pf:IL G4 (.slice a9 b.X.length c9) (bJ b.X.length):=by
  show SlC G4 (.slice a9 b.X.length c9) (bJ b.X.length).length 1 _;rw[kX];exact JC
 have fU:=iG.trans (ax.trans aT);have Gc:=RQ.mono Gd (ax.trans aT);have Ki:=RQ.mono h1 fU;have Xh:=RQ.mono h2 fU;have h34:=RQ.mono h3 fU;(first|refine EVL.unbox (8) Z fun g8=>?_|refine EV.unbox (8) Z fun g8=>?_);refine uR ?_;refine EV.loopK (ι:=Nat × Option Addr × Nat) [0,1,5,6,8,9] [5,6] (fun q=>[(11,.v (.int .i64 (q.1:Int)))]) (fun _=>[]) (fun q=>[(g8,69,fA b.loss (b.W:Int) (rc b4 a7 l7 c7 a8 l8 c8) (rc b1 a1 l1 c1 a2 l2 c2) (rc b2 a3 l3 c3 a4 l4 c4) (.slice q.2.1 q.1 q.2.2))]) (fun q G=>q.1<=K/\G4.Le G/\RTL G (.slice q.2.1 q.1 q.2.2) (b.fit y q.1).1) (fun q=>K-q.1) ((0,none,0)) Z Z ⟨Z,trivial⟩ trivial rfl (fun _=>rfl) (⟨qQ _,Hp.Le.refl _,RTL.nil _ _ _⟩) ?_;rintro⟨k,ta,tc⟩ G5 bj ⟨hk,iH,bq⟩;dsimp only at hk bq iH;refine uR ?_;refine EV.cond Z (fun af=>?_) (fun af=>?_)
 case refine_2 =>
  simp only[nN]at af;obtain rfl:k=K:=oM;refine uR ?_;refine EVL.loadOwn tO Z Z Z Z Z Z (0) Z (rfl) Z Z ?_;refine uR ?_;exact⟨b1,a1,l1,c1,a2,l2,c2,b2,a3,l3,c3,a4,l4,c4,b4,a7,l7,c7,a8,l8,c8,ta,tc,rfl,RQ.mono Gc iH,RQ.mono Ki iH,RQ.mono Xh iH,bq⟩
 simp only[nN]at af;obtain⟨cK,nC⟩:=mY k oM;obtain⟨gl,FG⟩:=b.fit_len y fD k;have FI:=b.fit_left y fD k;have dr:(b.fit y (k+1)).1=(b.fit y k).1++[b.tree (b.fit y k).2]:=rfl;have fT:1<=D0*840*(840*b.rate.den) ^ k:=Nat.mul_pos oM (Nat.pow_pos oM);have ib:1<=2*A0*2 ^ k:=Nat.mul_pos oM (Nat.pow_pos oM);have xq:=KL (k:=k) jB cI oM;have fH:lU (b.fit y k).2:=⟨_,_,fT,ib,xq,cK⟩;obtain⟨Fg,yV,AL⟩:=hb.raw fH gl;have yY:=fun (j:Nat) (n:Nd) (h:(b.raw (b.fit y k).2)[j]?=some n)=>hb.part fH gl h;have kF:=hb.gd fH gl;have bH:=b.nodes_alikeV (b.fit y k).2;have mX:=fH.bits;clear cK mY;generalize (b.fit y k).2=left at *
 generalize (b.fit y k).1=ts at *
 subst FG;have jK:=fU.trans iH;have PF:=RQ.mono Gc iH;have GV:=RQ.mono Ki iH;have Xg:=RQ.mono Xh iH;refine uR ?_;refine EV.loopK (ι:=Nat × List Value × Value × Ows × List Value × Value × Ows) [0,1,5,6,8,9,11] [5,6] (fun q=>[(12,.v q.2.2.1),(13,.v q.2.2.2.2.2.1),(14,.v (.int .i64 (q.1:Int)))]) (fun _=>[]) (fun q=>(g8,69,fA b.loss (b.W:Int) (rc b4 a7 l7 c7 a8 l8 c8) (rc b1 a1 l1 c1 a2 l2 c2) (rc b2 a3 l3 c3 a4 l4 c4) (.slice ta ts.length tc))::(q.2.2.2.1++q.2.2.2.2.2.2)) (fun q G=>q.1<=b.X.length/\G5.Le G/\RVs G q.2.1 (left.take q.1)/\aF 33 3 q.2.2.1 q.1 (q.2.1.flatMap aB) q.2.2.2.1/\RVs G q.2.2.2.2.1 ((b.goal left).take q.1)/\aF 33 3 q.2.2.2.2.2.1 q.1 (q.2.2.2.2.1.flatMap aB) q.2.2.2.2.2.2) (fun q=>b.X.length-q.1) ((0,[],.slice none 0 0,[],[],.slice none 0 0,[])) Z Z ⟨Z,Z,Z,trivial⟩ trivial rfl (fun _=>rfl) (⟨qQ _,Hp.Le.refl _,RVs.nil _,aF.nil _ _,RVs.nil _,aF.nil _ _⟩) ?_;rintro⟨i,us,v12,rT,gs,v13,eC⟩ G6 bu ⟨hi,gU,fX,iy,gm,eE⟩;dsimp only at hi gU fX iy gm eE;obtain⟨a12,QD,rfl⟩:=iy.val;obtain⟨Ko,Kn,rfl⟩:=eE.val;refine uR ?_;refine EV.cond Z (fun mW=>?_) (fun mW=>?_)
 ·simp only[nN]at mW
  (try refine zA ?_);refine EV.meetK (ι:=List Value × Value × Ows × List Value × Value × Ows) [0,1,5,6,8,9,11,14] [5,6] (fun q=>[(12,.v q.2.1),(13,.v q.2.2.2.2.1)]) (fun _=>[]) (fun q=>(g8,69,fA b.loss (b.W:Int) (rc b4 a7 l7 c7 a8 l8 c8) (rc b1 a1 l1 c1 a2 l2 c2) (rc b2 a3 l3 c3 a4 l4 c4) (.slice ta ts.length tc))::(q.2.2.1++q.2.2.2.2.2)) (fun q G=>G6.Le G/\RVs G q.1 (left.take (i+1))/\aF 33 3 q.2.1 (i+1) (q.1.flatMap aB) q.2.2.1/\RVs G q.2.2.2.1 ((b.goal left).take (i+1))/\aF 33 3 q.2.2.2.2.1 (i+1) (q.2.2.2.1.flatMap aB) q.2.2.2.2.2) Z Z (fun _=>rfl) ?_ ?_
  ·obtain⟨x,hx⟩:=gE mW;obtain⟨q0,nI⟩:∃q,y[i]?=some q:=⟨_,qA oM⟩;obtain⟨ux,ex,wD,Ap⟩:=aG.at hx;have er:=gR x (qF hx);have mM:=fun q hq=>qI (mN x (qF hx) q hq) (show 60<=100 by omega);obtain⟨ycs,yb,CH,CB,CD,CG,CA,CC,Ns,EH,hyq⟩:=hy.slc nI;have dR:left[i]?=some (q0-jO (b.mid y) b.rate ts x):=by rw[FI,Cy hx nI]
   have y9:=b.goal_get dR;have pb:=jK.trans gU;have Nq:=Ns.mono pb;have NN:=jx.mono pb;have Nk:=RQ.mono hyq pb;have NZ:=bq.mono gU;have r1:rq q0:=iL (mK q0 (qF nI)) oM;have r2:rq (jO (b.mid y) b.rate ts x):=iL (R6 (w:=b.W) (qI oO oM) (qI ix oM) oM fun t h=>qI (IB (nC t h) x) oM) oM;have r3:rq (q0-jO (b.mid y) b.rate ts x):=iL (mX _ (qF dR)) oM;have cA:=fun (G:Hp) (hG:G6.Le G)=>zrT (loss:=b.loss) (b3:=b2) (a5:=a3) (l5:=l3) (c5:=c3) (a6:=a4) (l6:=l4) (c6:=c4) (RQ.mono PF (gU.trans hG)) (RQ.mono GV (gU.trans hG)) (NZ.mono hG) nC (Ap.mono (pb.trans hG)) er mM (qI oO oM) (qI ix oM) oM;rw[er]at wD cA;refine uR ?_;apply EV.drawn 12 kR kR;intro xv yw;(repeat refine' DD ?_);refine' DJ.idxM tO Z Z Z Z Z Z Z Z Z (Nq) (i) (rfl) (oM) (EH) ?_;rotate_left;(repeat refine' DD ?_);refine' DJ.ofVal (az.loadOwn tO Z Z Z Z (0) Z (rfl) Z Z) Z Z Z ?_;rotate_left;(repeat refine' DD ?_);refine' vJ (NN) (i) (rfl) (mW) (wD) ?_;rotate_left;(repeat refine' DD ?_);refine' vB (cO func47) (fun G hG hd=>cA G hG) (fun _ _ _ h k=>RQ.mono h k) ?_;rotate_left;refine' vB (cO func46) (fun G hG hd=>D8 (RQ.mono Nk hG) (hd.head kR) r1 r2) (fun _ _ _ h k=>RQ.mono h k) ?_;rotate_left;(repeat refine' DD ?_);(refine DJ.nil (fun G7 aZ Da=>?_);(case hS|hS2=>rfl));have hR:=Da.1;generalize q0-jO (b.mid y) b.rate ts x=q at *
   obtain⟨uv,tP,ui,uu,tN,uh,e,_⟩:=id hR;rw[e]at hR ⊢;have lg:=Aa hR;have wE:RVs G7 (us++[.agg (rc (decide (q.num<0)) uv tP ui uu tN uh).toArray]) (left.take (i+1)):=by rw[dZ dR];exact(fX.mono aZ).snoc hR
   refine uR ?_;(first|refine EVL.swapOw ([(g8,_,_)]) (rT++eC) (rfl) ?_|refine EV.swapOw ([(g8,_,_)]) (rT++eC) (rfl) ?_);refine EVL.app1 tO Z Z Z Z Z Z Z Z Z Z Z Z Z Z Z Z Z Z Z (fun _=>rfl) (rT) (eC++[(g8,_,_)]) ((qZ ..)) (iy) oM fun _=>?_;intro MS bR dm;obtain⟨a12',c12',rfl⟩:=dm.val;(first|refine EVL.swapOw (bR) (eC++[(g8,_,_)]) (rfl) ?_|refine EV.swapOw (bR) (eC++[(g8,_,_)]) (rfl) ?_)
   repeat (first|refine RUN ?_|refine CV (lg) ?_|refine CE (lg) ?_)
   by_cases e1:b.loss=1
   ·have gq:b.goalQ q=q:=if_pos e1;rw[show (b.loss == 1)=true from beq_iff_eq.2 e1];refine uR ?_;refine EVL.app1 tO Z Z Z Z Z Z Z Z Z Z Z Z Z Z Z Z Z Z Z (fun _=>rfl) (eC) ([(g8,_,_)]++bR) ((qZ ..)) (eE) oM fun _=>?_;intro jT cq ch;(first|refine EVL.swapOw (cq) ([(g8,_,_)]++bR) (rfl) ?_|refine EV.swapOw (cq) ([(g8,_,_)]++bR) (rfl) ?_);refine uR ?_;exact⟨(us++[.agg (rc (decide (q.num<0)) uv tP ui uu tN uh).toArray],_,bR,gs++[_],jT,cq),⟨Z,Z,trivial⟩,sB,trivial,sB,rfl,aZ,wE,by dsimp only;rw[List.flatMap_append];exact dm,by dsimp only;rw[dZ y9,gq];exact(gm.mono aZ).snoc hR,by dsimp only;rw[List.flatMap_append];exact ch⟩
   rw[show (b.loss == 1)=false from pQ.2 e1];refine uR ?_;by_cases e2:0<q
   ·have gq:b.goalQ q=b.tilt:=by unfold BG.goalQ;rw[if_neg e1,if_pos e2]
    rw[qD (show q.num.sign>0 from Int.not_le.1 fun k=>pI.1 k e2)];refine uR ?_;refine EVL.app1 tO Z Z Z Z Z Z Z Z Z Z Z Z Z Z Z Z Z Z Z (fun _=>rfl) (eC) ([(g8,_,_)]++bR) ((qZ ..)) (eE) oM fun _=>?_;intro jT cq ch;(first|refine EVL.swapOw (cq) ([(g8,_,_)]++bR) (rfl) ?_|refine EV.swapOw (cq) ([(g8,_,_)]++bR) (rfl) ?_);refine uR ?_;exact⟨(us++[.agg (rc (decide (q.num<0)) uv tP ui uu tN uh).toArray],_,bR,gs++[_],jT,cq),⟨Z,Z,trivial⟩,sB,trivial,sB,rfl,aZ,wE,by dsimp only;rw[List.flatMap_append];exact dm,by dsimp only;rw[dZ y9,gq];exact(gm.mono aZ).snoc (RQ.mono Xg (gU.trans aZ)),by dsimp only;rw[List.flatMap_append];exact ch⟩
   rw[qC (show ¬q.num.sign>0 from fun k=>absurd (pI.2 e2) oM)];refine uR ?_;by_cases e3:q=0
   ·have gq:b.goalQ q=0:=by unfold BG.goalQ;rw[if_neg e1,if_neg e2,if_pos e3]
    rw[show (q.num.sign == 0)=true from beq_iff_eq.2 (zV.2 e3)];have eP:=ju (H:=G7) 0 oM oM;rw[show ((0:Int):Rat)=0 from rfl]at eP;refine uR ?_;refine vA (eP) ?_;rintro rz Gz hz Qc;obtain⟨CH,CB,CD,CG,CA,CC,rfl,_⟩:=id hz;refine uR ?_;refine EVL.app1 tO Z Z Z Z Z Z Z Z Z Z Z Z Z Z Z Z Z Z Z (fun _=>rfl) (eC) ([(g8,_,_)]++bR) ((qZ ..)) (eE) oM fun _=>?_;intro jT cq ch;(first|refine EVL.swapOw (cq) ([(g8,_,_)]++bR) (rfl) ?_|refine EV.swapOw (cq) ([(g8,_,_)]++bR) (rfl) ?_);refine uR ?_;exact⟨(us++[.agg (rc (decide (q.num<0)) uv tP ui uu tN uh).toArray],_,bR,gs++[_],jT,cq),⟨Z,Z,trivial⟩,sB,trivial,sB,rfl,aZ.trans Qc,wE.mono Qc,by dsimp only;rw[List.flatMap_append];exact dm,by dsimp only;rw[dZ y9,gq];exact(gm.mono (aZ.trans Qc)).snoc hz,by dsimp only;rw[List.flatMap_append];exact ch⟩
   have gq:b.goalQ q=b.tilt-1:=by unfold BG.goalQ;rw[if_neg e1,if_neg e2,if_neg e3]
   rw[show (q.num.sign == 0)=false from pQ.2 fun k=>e3 (zV.1 k)];have fC:=fun G:Hp=>ju (H:=G) 1 oM oM;rw[show ((1:Int):Rat)=1 from rfl]at fC;have h27:=RQ.mono Xg (gU.trans aZ);refine uR ?_;apply EV.drawn 6 kR kR;intro xv yw;(repeat refine' DD ?_);refine' vB (cO func8) (fun G hG hd=>fC G) (fun _ _ _ h k=>RQ.mono h k) ?_;rotate_left;refine' vB (cO func46) (fun G hG hd=>D8 (RQ.mono h27 hG) (hd.head kR) q2 (by show ht 1<=_;decide +kernel)) (fun _ _ _ h k=>RQ.mono h k) ?_;rotate_left
   (refine' DJ.litD1 (Φ:=fun v G=>∃b' a l c a2 l2 c2,SlC G v 1 3 (rc b' a l c a2 l2 c2)/\RQ G (.agg (rc b' a l c a2 l2 c2).toArray) (b.tilt-1)) (fun v G G' ⟨b,a,l,c,a2,l2,c2,e,h⟩ k=>⟨b,a,l,c,a2,l2,c2,e.mono k,RQ.mono h k⟩) tO Z Z Z Z Z Z Z Z Z Z Z (fun G hd=>by obtain⟨_,_,_,_,_,_,e,_⟩:=id (show RQ G (xv 4) (b.tilt-1) from hd.head kR);rw[e];rfl) (fun G G' v hd hG h=>(by
    have hq:=show RQ G (xv 4) (b.tilt-1) from hd.head kR;obtain⟨_,_,_,_,_,_,e,_⟩:=id hq;rw[e]at hq h;exact⟨_,_,_,_,_,_,_,h,RQ.mono hq hG⟩)) ?_;rotate_left)
   (refine DJ.nil (fun G8 bt uT=>?_);(case hS|hS2=>rfl));obtain⟨⟨zb,CH,CB,CD,CG,CA,CC,N9,V2⟩,_⟩:=uT;refine EVL.append tO Z Z Z Z Z Z Z Z Z Z Z Z [] eC ([(g8,_,_)]++bR) (qZ ..) eE (iJ.ro N9 oM) Z oM ?_;intro jT cq ch;(first|refine EVL.swapOw (cq) ([(g8,_,_)]++bR) (rfl) ?_|refine EV.swapOw (cq) ([(g8,_,_)]++bR) (rfl) ?_);refine uR ?_;exact⟨(us++[.agg (rc (decide (q.num<0)) uv tP ui uu tN uh).toArray],_,bR,gs++[.agg (rc zb CH CB CD CG CA CC).toArray],jT,cq),⟨Z,Z,trivial⟩,sB,trivial,sB,rfl,aZ.trans bt,wE.mono bt,by dsimp only;rw[List.flatMap_append];exact dm,by dsimp only;rw[dZ y9,gq];exact(gm.mono (aZ.trans bt)).snoc V2,by dsimp only;rw[List.flatMap_append];exact ch⟩
  rintro⟨us',MS,bR,gs',jT,cq⟩ G8 ⟨bt,EZ,dm,FV,ch⟩;dsimp only at EZ dm FV ch;refine uR ?_;exact⟨(i+1,us',_,bR,gs',jT,cq),⟨rfl,rfl,by rw[aO i (by omega)];rfl,trivial⟩,sB,trivial,sB,rfl,⟨mW,gU.trans bt,EZ,dm,FV,ch⟩,bt,by dsimp only;omega⟩
 ·simp only[nN]at mW;obtain rfl:i=b.X.length:=oM;have hgl:=b.goal_len left;rw[qO (by omega)]at fX gm;(first|refine EVL.publishL [(g8,_,_)] rT eC (rfl) iy fun G7 aZ oH=>?_|refine EV.publishL [(g8,_,_)] rT eC (rfl) iy fun G7 aZ oH=>?_);(first|refine EVL.publishL [(g8,69,fA b.loss (b.W:Int) (rc b4 a7 l7 c7 a8 l8 c8) (rc b1 a1 l1 c1 a2 l2 c2) (rc b2 a3 l3 c3 a4 l4 c4) (.slice ta ts.length tc))] eC [] ((show [(g8,69,fA b.loss (b.W:Int) (rc b4 a7 l7 c7 a8 l8 c8) (rc b1 a1 l1 c1 a2 l2 c2) (rc b2 a3 l3 c3 a4 l4 c4) (.slice ta ts.length tc))]++eC=[(g8,69,fA b.loss (b.W:Int) (rc b4 a7 l7 c7 a8 l8 c8) (rc b1 a1 l1 c1 a2 l2 c2) (rc b2 a3 l3 c3 a4 l4 c4) (.slice ta ts.length tc))]++(eC++[]) by rw[qG])) eE fun G8 bt r9=>?_|refine EV.publishL [(g8,69,fA b.loss (b.W:Int) (rc b4 a7 l7 c7 a8 l8 c8) (rc b1 a1 l1 c1 a2 l2 c2) (rc b2 a3 l3 c3 a4 l4 c4) (.slice ta ts.length tc))] eC [] ((show [(g8,69,fA b.loss (b.W:Int) (rc b4 a7 l7 c7 a8 l8 c8) (rc b1 a1 l1 c1 a2 l2 c2) (rc b2 a3 l3 c3 a4 l4 c4) (.slice ta ts.length tc))]++eC=[(g8,69,fA b.loss (b.W:Int) (rc b4 a7 l7 c7 a8 l8 c8) (rc b1 a1 l1 c1 a2 l2 c2) (rc b2 a3 l3 c3 a4 l4 c4) (.slice ta ts.length tc))]++(eC++[]) by rw[qG])) eE fun G8 bt r9=>?_);have hLL:RL G8 (.slice a12 b.X.length QD) left:=(fX.mono (aZ.trans bt)).rl (by rw[gl];exact oH.mono bt);have hGL:RL G8 (.slice Ko b.X.length Kn) (b.goal left):=(gm.mono (aZ.trans bt)).rl (by rw[hgl,gl];exact r9);have tv:=jK.trans (gU.trans (aZ.trans bt));have hRG:=(kF.rgoal (H:=G8) h8.1 oM (v:=bG 2 0 (.slice none 0 0) (.slice Ko b.X.length Kn)) ⟨_,rfl,hGL⟩).2;have iD:=zqa (p:=b.gp left) (D:=b.D) (w:=b.W) (s:=0) (fun s=>rfl) hw.1 hw.2 h8.1 (by show b.X.length<=300;omega) gR mN rfl hb.least q3 hb.gain.1 Bi hRG (hX.mono tv) (RQ.mono h34 (iH.trans (gU.trans (aZ.trans bt)))) (Pf.mono (iH.trans (gU.trans (aZ.trans bt)))) (by rw[kX];exact h8.1) (by rw[kX];omega) vU;have Og:((b.gp left).grow b.D 0 (bJ b.X.length) 0).1=b.raw left:=rfl;rw[Og]at iD;refine uR ?_;refine vW ([]) ([(g8,_,_)]) (iD) ?_;rintro _ Ex G9 ⟨oa,oc,css,rfl,bX,ah⟩ dG;have FC:=UW b left (b.raw left);have Fz:=Mo b left (b.raw left);have FB:=Vf b left (b.raw left);have FA:=yF b left (b.raw left);have Fy:=fun (k:Nat) (n:Nd) (h:(b.midsTo left (b.raw left) k)[k]?=some n)=>Ue b left h;refine uR ?_;refine EV.meetK (ι:=List (List Value) × Ows) [0,1,5,6,8,9,11,17] [5,6,17] (fun _=>[]) (fun _=>[]) (fun q=>q.2++[(g8,69,fA b.loss (b.W:Int) (rc b4 a7 l7 c7 a8 l8 c8) (rc b1 a1 l1 c1 a2 l2 c2) (rc b2 a3 l3 c3 a4 l4 c4) (.slice ta ts.length tc))]) (fun q G=>G9.Le G/\jR G q.1 (b.nodes left)/\aF 123 15 (.slice oa (b.raw left).length oc) (b.raw left).length q.1.flatten q.2) Z Z (fun _=>rfl) ?_ ?_
  ·by_cases e1:b.loss=1
   ·rw[show b.nodes left=b.raw left from if_pos e1];refine uR ?_;rw[show (b.loss == 2)=false by rw[e1];rfl];refine uR ?_;exact⟨(css,Ex),trivial,sB,trivial,sB,rfl,Hp.Le.refl _,bX,ah⟩
   have e2:=hb.loss.resolve_left e1;obtain⟨t0,t1⟩:=hb.two e2;have sG:b.nodes left=b.midsTo left (b.raw left) (b.raw left).length:=if_neg e1;rw[sG];clear sG;refine uR ?_;rw[show (b.loss == 2)=true by rw[e2];rfl];refine uR ?_;refine EV.loopK (ι:=Nat × List (List Value) × Ows) [0,1,5,6,8,9,11,12,17] [5,6,17] (fun q=>[(19,.v (.int .i64 (q.1:Int)))]) (fun _=>[]) (fun q=>q.2.2++[(g8,69,fA b.loss (b.W:Int) (rc b4 a7 l7 c7 a8 l8 c8) (rc b1 a1 l1 c1 a2 l2 c2) (rc b2 a3 l3 c3 a4 l4 c4) (.slice ta ts.length tc))]) (fun q G=>q.1<=(b.raw left).length/\G9.Le G/\jR G q.2.1 (b.midsTo left (b.raw left) q.1)/\aF 123 15 (.slice oa (b.raw left).length oc) (b.raw left).length q.2.1.flatten q.2.2) (fun q=>(b.raw left).length-q.1) ((0,css,Ex)) Z Z ⟨Z,trivial⟩ trivial rfl (fun _=>rfl) (⟨qQ _,Hp.Le.refl _,by rw[FC];exact bX,ah⟩) ?_;rintro⟨j,cs7,rQ⟩ G10 fL ⟨hj,jL,wT,fh⟩;dsimp only at hj jL wT fh;refine uR ?_;refine EV.cond Z (fun dJ=>?_) (fun dJ=>?_)
   case refine_2 =>
    simp only[nN]at dJ;obtain rfl:j=(b.raw left).length:=oM;refine uR ?_;exact⟨(cs7,rQ),trivial,sB,trivial,sB,rfl,jL,wT,fh⟩
   simp only[nN]at dJ;have ON:(b.midsTo left (b.raw left) j).length=(b.raw left).length:=Fz j;have WM:=FB j
   have OI:kW ⟨2,0,(b.W:Int),b.midsTo left (b.raw left) j⟩:=WM.ok Fg fun n hn=>by
    obtain⟨i,hi⟩:=List.mem_iff_getElem?.1 hn;rw[FA]at hi
    cases hm:(b.raw left)[i]? with
    | none=>rw[hm]at hi;cases hi
    | some m =>
     rw[hm,Option.map_some]at hi;by_cases c:i<j
     ·rw[if_pos c]at hi;cases hi;obtain⟨p1,p2,_⟩:=yY i m hm;exact qI (mX _ (p1 _ (LD t1 p2))) oM
     ·rw[if_neg c]at hi;cases hi;obtain⟨m',e,o,_⟩:=Fg.nodes i (qE.1 hm).1;cases hm.symm.trans e;exact o.small.2.2
   obtain⟨rj,CO⟩:∃n,(b.raw left)[j]?=some n:=⟨_,qA dJ⟩;obtain⟨lq,gi,uH,_⟩:=yY j rj CO;have yZ:=Fy j;have rV:∀x l,dC (b.midsTo left (b.raw left) j) x 0 l->mz (b.raw left) x=l:=fun x l h=>KN (WM.symm.path h);have uG:b.part left (b.raw left) j=atR left ((bJ b.X.length).filter fun r=>decide ((j:Int)∈mz (b.raw left) (b.X.getD r.toNat []))):=rfl;rw[uG]at yZ lq gi uH;generalize b.midsTo left (b.raw left) j=M0 at *
   have Qb:=tv.trans (dG.trans jL);have hj15:j<15:=oM;generalize hRn:b.raw left=R at *
   obtain⟨Aj,nj,Bj,rfl,lN⟩:=K8 (l:=M0) (k:=j) oM;have OC:=wT;obtain⟨cA,cN,cB,rfl,cj,JH,sj⟩:=wT.mid;obtain⟨d1,zr,m1,n1,zq,m2,n2,d3,e3,m3,n3,e4,m4,n4,d5,e5,m5,n5,e6,m6,n6,e7,n7,rfl,k1,k2,k3,k4⟩:=JH.cells;have Nx:=fh.1;obtain⟨gN,capN,Jp,e8,rfl,lK⟩:=fh.mid rfl;cases e8
   have bZ:R.length<=oc:=by
    rcases fh.2 with ⟨e,_⟩ | ⟨_,_,_,e,_,_,h,_⟩
    ·cases e
    ·cases e;exact h
   have ko:∀(q:Nat) (u:Value),((cA++[.int .i64 nj.col,.int .i64 nj.left,.int .i64 nj.right,.int .i64 nj.rows,.int .i64 nj.cls,.bool d1,.slice zr m1 n1,.slice zq m2 n2,.bool d3,.slice e3 m3 n3,.slice e4 m4 n4,.bool d5,.slice e5 m5 n5,.slice e6 m6 n6,.slice e7 nj.counts.length n7]::cB).flatten)[q]?=some u->(cA.flatten++([.int .i64 nj.col,.int .i64 nj.left,.int .i64 nj.right,.int .i64 nj.rows,.int .i64 nj.cls,.bool d1,.slice zr m1 n1,.slice zq m2 n2,.bool d3,.slice e3 m3 n3,.slice e4 m4 n4,.bool d5,.slice e5 m5 n5,.slice e6 m6 n6,.slice e7 nj.counts.length n7]++(cB.flatten++Jp)))[q]?=some u:=fun q u h=>by
    rw[show cA.flatten++([.int .i64 nj.col,.int .i64 nj.left,.int .i64 nj.right,.int .i64 nj.rows,.int .i64 nj.cls,.bool d1,.slice zr m1 n1,.slice zq m2 n2,.bool d3,.slice e3 m3 n3,.slice e4 m4 n4,.bool d5,.slice e5 m5 n5,.slice e6 m6 n6,.slice e7 nj.counts.length n7]++(cB.flatten++Jp))=(cA++[.int .i64 nj.col,.int .i64 nj.left,.int .i64 nj.right,.int .i64 nj.rows,.int .i64 nj.cls,.bool d1,.slice zr m1 n1,.slice zq m2 n2,.bool d3,.slice e3 m3 n3,.slice e4 m4 n4,.bool d5,.slice e5 m5 n5,.slice e6 m6 n6,.slice e7 nj.counts.length n7]::cB).flatten++Jp by simp];rw[qM (qE.1 h).1];exact h
   generalize hCN:cA.flatten++([.int .i64 nj.col,.int .i64 nj.left,.int .i64 nj.right,.int .i64 nj.rows,.int .i64 nj.cls,.bool d1,.slice zr m1 n1,.slice zq m2 n2,.bool d3,.slice e3 m3 n3,.slice e4 m4 n4,.bool d5,.slice e5 m5 n5,.slice e6 m6 n6,.slice e7 nj.counts.length n7]++(cB.flatten++Jp))=CN at ko ⊢;refine uR ?_;refine EV.loopK (ι:=Nat × List Value × Value × Ows) [0,1,5,6,8,9,11,12,17,19] [5,6,17] (fun q=>[(20,.v q.2.2.1),(21,.v (.int .i64 (q.1:Int)))]) (fun _=>[]) (fun q=>(gN,123,CN)::(g8,69,fA b.loss (b.W:Int) (rc b4 a7 l7 c7 a8 l8 c8) (rc b1 a1 l1 c1 a2 l2 c2) (rc b2 a3 l3 c3 a4 l4 c4) (.slice ta ts.length tc))::q.2.2.2) (fun q G=>q.1<=b.X.length/\G10.Le G/\RVs G q.2.1 (atR left ((bJ q.1).filter fun r=>decide ((j:Int)∈mz R (b.X.getD r.toNat []))))/\aF 33 3 q.2.2.1 (atR left ((bJ q.1).filter fun r=>decide ((j:Int)∈mz R (b.X.getD r.toNat [])))).length (q.2.1.flatMap aB) q.2.2.2) (fun q=>b.X.length-q.1) ((0,[],.slice none 0 0,[])) Z Z ⟨Z,Z,trivial⟩ trivial rfl (fun _=>rfl) (⟨qQ _,Hp.Le.refl _,RVs.nil _,aF.nil _ _⟩) ?_;rintro⟨i,us,v20,iX⟩ G11 lL ⟨hi,eK,fX,gj⟩;dsimp only at hi eK fX gj;obtain⟨a20,BE,rfl⟩:=gj.val;refine uR ?_;refine EV.cond Z (fun lA=>?_) (fun lA=>?_)
   ·simp only[nN]at lA;obtain⟨x,hx⟩:=gE lA;obtain⟨q,dR⟩:∃q,left[i]?=some q:=⟨_,qA oM⟩;obtain⟨ux,ex,wD,Ap⟩:=aG.at hx;have er:=gR x (qF hx);have jY:∀q,q∈x->rq q:=fun q hq=>iL (mN x (qF hx) q hq) oM;have Ao:(x.length:Int)=(b.W:Int):=by rw[er]
    have pb:=Qb.trans eK
    have hRT:∀G',G11.Le G'->G' gN=some CN.toArray->nY G' [.int .i64 2,.int .i64 0,.int .i64 (b.W:Int),.slice (some ⟨gN,0,none⟩) R.length oc] 2 0 (b.W:Int) (Aj++nj::Bj):=fun G' mo dF=>by
     rw[<-ON];refine⟨_,_,_,rfl,OC.mono (eK.trans mo),?_,.inr ⟨gN,0,oc,_,rfl,by rw[ON];exact bZ,dF,fun q u hq=>?_⟩⟩
     ·rw[ON];exact Nx
     ·rw[qu,List.getElem?_toArray];exact ko q u hq
    have ES:=jx.mono pb;have yN:=Ap.mono pb;rw[er]at wD yN
    have xj:(bJ (i+1)).filter (fun r=>decide ((j:Int)∈mz R (b.X.getD r.toNat [])))=(bJ i).filter (fun r=>decide ((j:Int)∈mz R (b.X.getD r.toNat [])))++(if (j:Int)∈mz R x then [(i:Int)] else []):=by
     rw[I4,List.filter_append];congr 1;have Ny:b.X.getD ((i:Int)).toNat []=x:=by rw[qU,qB,hx];rfl
     by_cases lC:(j:Int)∈mz R x
     ·rw[if_pos lC,List.filter_cons_of_pos (by rw[Ny];exact qD lC)];rfl
     ·rw[if_neg lC,List.filter_cons_of_neg (by rw[Ny];simpa using lC)];rfl
    have rm:atR left [(i:Int)]=[q]:=by
     show [left.getD ((i:Int)).toNat 0]=[q];rw[qU,qB,dR];rfl
    have xt:∀A B:List Int,atR left (A++B)=atR left A++atR left B:=fun A B=>qo;refine uR ?_;apply EV.drawn 7 kR kR;intro xv yw;(repeat refine' DD ?_);refine' vJ (ES) (i) (rfl) (lA) (wD) ?_;rotate_left;(repeat refine' DD ?_);(refine' DJ.callRO (Ψ:=fun v G=>∃l:List Int,IL G v l/\dC (Aj++nj::Bj) x 0 l/\l.length<=2000) Z Z Z Z Z 0 rfl (cO func51) (fun G hG hd G' Xc dF=>S9 (hRT G' (hG.trans Xc) dF) OI (yN.mono (hG.trans Xc)) Ao jY) (fun v ow ⟨l,h1,h2,h3⟩=>⟨_,_,_,_,h1,fun G hs=>⟨l,hs,h2,h3⟩⟩) (fun v G G' ⟨l,h1,h2,h3⟩ k=>⟨l,h1.mono k,h2,h3⟩) ?_;rotate_left);(repeat refine' DD ?_);(refine DJ.nil (fun G3 ax fM=>?_);(case hS|hS2=>rfl));obtain⟨⟨l,bY,fS,dc⟩,_⟩:=fM;obtain⟨la,lc,e⟩:=SlC.val bY;rw[e]at bY ⊢;have wC:=rV x l fS;rw[wC]at xj;have hqL:=hLL.slc dR;obtain⟨lcs,lb,la1,ll1,lc1,la2,ll2,lc2,JL,FK,Wi⟩:=hqL;have hK:=dG.trans (jL.trans (eK.trans ax));refine uR ?_;refine EVL.call Z Z Z Z Z (Yk bY oM) ?_;rintro _ G13 rfl fc;have y5:=JL.mono (hK.trans fc);rw[gl]at y5;by_cases lC:(j:Int)∈l
    ·rw[qD lC];refine uR ?_;refine EVL.idxM tO Z Z Z Z Z Z Z Z Z (y5) (i) (rfl) (lA) (FK) ?_;refine uR ?_;(first|refine EVL.swapOw ([(gN,123,CN),(g8,_,_)]) (iX) (rfl) ?_|refine EV.swapOw ([(gN,123,CN),(g8,_,_)]) (iX) (rfl) ?_);refine EVL.app1 tO Z Z Z Z Z Z Z Z Z Z Z Z Z Z Z Z Z Z Z (fun _=>rfl) (iX) ([(gN,123,CN),(g8,_,_)]) (rfl) (gj) ((by rw[lY];have:=List.length_filter_le (fun r=>decide ((j:Int)∈mz R (b.X.getD r.toNat []))) (bJ i);rw[kX]at this;omega)) fun _=>?_;intro MR rS Qt;(first|refine EVL.swapOw (rS) ([(gN,123,CN),(g8,_,_)]) (rfl) ?_|refine EV.swapOw (rS) ([(gN,123,CN),(g8,_,_)]) (rfl) ?_);refine uR ?_;exact⟨(i+1,us++[.agg (rc lb la1 ll1 lc1 la2 ll2 lc2).toArray],MR,rS),⟨rfl,by rw[aO i (by omega)];rfl,trivial⟩,sB,trivial,sB,rfl,⟨lA,eK.trans (ax.trans fc),by dsimp only;rw[xj,xt,if_pos lC,rm];exact(fX.mono (ax.trans fc)).snoc (RQ.mono Wi (hK.trans fc)),by dsimp only;rw[xj,xt,if_pos lC,rm,List.flatMap_append,qJ];exact Qt⟩,ax.trans fc,by dsimp only;omega⟩
    ·rw[qC lC];refine uR ?_;exact⟨(i+1,us,_,iX),⟨rfl,by rw[aO i (by omega)];rfl,trivial⟩,sB,trivial,sB,rfl,⟨lA,eK.trans (ax.trans fc),by dsimp only;rw[xj,xt,if_neg lC,show atR left []=[] from rfl,qG];exact fX.mono (ax.trans fc),by dsimp only;rw[xj,xt,if_neg lC,show atR left []=[] from rfl,qG];exact gj⟩,ax.trans fc,by dsimp only;omega⟩
   simp only[nN]at lA;obtain rfl:i=b.X.length:=oM;(first|refine EVL.publishL [(gN,123,CN),(g8,69,fA b.loss (b.W:Int) (rc b4 a7 l7 c7 a8 l8 c8) (rc b1 a1 l1 c1 a2 l2 c2) (rc b2 a3 l3 c3 a4 l4 c4) (.slice ta ts.length tc))] iX [] ((show [(gN,123,CN),(g8,69,fA b.loss (b.W:Int) (rc b4 a7 l7 c7 a8 l8 c8) (rc b1 a1 l1 c1 a2 l2 c2) (rc b2 a3 l3 c3 a4 l4 c4) (.slice ta ts.length tc))]++iX=[(gN,123,CN),(g8,69,fA b.loss (b.W:Int) (rc b4 a7 l7 c7 a8 l8 c8) (rc b1 a1 l1 c1 a2 l2 c2) (rc b2 a3 l3 c3 a4 l4 c4) (.slice ta ts.length tc))]++(iX++[]) by rw[qG])) gj fun G12 dw Fa=>?_|refine EV.publishL [(gN,123,CN),(g8,69,fA b.loss (b.W:Int) (rc b4 a7 l7 c7 a8 l8 c8) (rc b1 a1 l1 c1 a2 l2 c2) (rc b2 a3 l3 c3 a4 l4 c4) (.slice ta ts.length tc))] iX [] ((show [(gN,123,CN),(g8,69,fA b.loss (b.W:Int) (rc b4 a7 l7 c7 a8 l8 c8) (rc b1 a1 l1 c1 a2 l2 c2) (rc b2 a3 l3 c3 a4 l4 c4) (.slice ta ts.length tc))]++iX=[(gN,123,CN),(g8,69,fA b.loss (b.W:Int) (rc b4 a7 l7 c7 a8 l8 c8) (rc b1 a1 l1 c1 a2 l2 c2) (rc b2 a3 l3 c3 a4 l4 c4) (.slice ta ts.length tc))]++(iX++[]) by rw[qG])) gj fun G12 dw Fa=>?_);have hPL:=(fX.mono dw).rl Fa;have hK:=dG.trans (jL.trans (eK.trans dw));have h2k:=RQ.mono h2 (tv.trans hK);have OP:=fun (G:Hp) (hG:G12.Le G)=>TV (loss:=2) (RL.mono hPL hG) (RQ.mono h2k hG) gi oM (fun q hq=>qI (mX q (lq q hq)) oM) (fun _=>⟨t0,t1⟩) hb.den.2;refine uR ?_;apply EV.drawn 7 kR kR;intro xv yw;(repeat refine' DD ?_);refine' vB (cO func45) (fun G hG hd=>OP G hG) (fun _ _ _ h k=>RQ.mono h k) ?_;rotate_left;(refine DJ.nil (fun G3 ax fM=>?_);(case hS|hS2=>rfl));have hR:=fM.1;rw[show ∀l,rE 2 b.tilt l=kN b.tilt l from fun l=>if_neg (by decide)]at hR;obtain⟨uv,tP,ui,uu,tN,uh,e,_,_⟩:=id hR;rw[e]at hR ⊢;subst hCN;subst lN;have FF:=yZ nj (by rw[qL (qH _),Nat.sub_self];rfl);rw[List.set_append_right _ _ (qH _),Nat.sub_self,List.set_cons_zero]at FF;refine EVL.idxB tO Z Z Z Z Z Z Z Z Z (Aj.length) (Aj.length*15) (rfl) (dJ) (rfl) ?_;refine EVL.fldB tO Z Z Z Z Z Z Z ?_;refine EVL.storeOwn tO Z Z Z Z Z Z ([]) ([(g8,69,fA b.loss (b.W:Int) (rc b4 a7 l7 c7 a8 l8 c8) (rc b1 a1 l1 c1 a2 l2 c2) (rc b2 a3 l3 c3 a4 l4 c4) (.slice ta ts.length tc))]) Z Z Z Z ((vQ (f:=11) cj rfl (by show 11+3<=15;omega))) (pR (f:=11) cj Z Z (by show 11+3<=15;omega) rfl) ?_;refine uR ?_;have uS:=eK.trans (dw.trans ax);refine⟨(Aj.length+1,cA++[.int .i64 nj.col,.int .i64 nj.left,.int .i64 nj.right,.int .i64 nj.rows,.int .i64 nj.cls,.bool d1,.slice zr m1 n1,.slice zq m2 n2,.bool d3,.slice e3 m3 n3,.slice e4 m4 n4,.bool _,.slice uv tP ui,.slice uu tN uh,.slice e7 nj.counts.length n7]::cB,[(gN,_,_)]),⟨by rw[aO Aj.length (by omega)];rfl,trivial⟩,sB,trivial,sB,rfl,⟨dJ,jL.trans uS,?_,lK _ rfl⟩,uS,by dsimp only;omega⟩;dsimp only;rw[<-FF];exact sj _ _ _ uS ⟨_,_,_,_,k1.mono uS,k2.mono uS,hR,k4.mono uS,rfl⟩
  rintro⟨dh,yI⟩ G10 ⟨fL,mU,ao⟩;dsimp only at mU ao;have iO:(b.nodes left).length=(b.raw left).length:=bH.len;(first|refine EVL.publishL [] yI [(g8,_,_)] (rfl) ao fun G11 lL VT=>?_|refine EV.publishL [] yI [(g8,_,_)] (rfl) ao fun G11 lL VT=>?_);have J7:nY G11 [.int .i64 2,.int .i64 0,.int .i64 (b.W:Int),.slice oa (b.raw left).length oc] 2 0 (b.W:Int) (b.nodes left):=⟨oa,oc,dh,by rw[iO],mU.mono lL,by rw[iO];exact VT⟩;(first|refine EVL.unbox (17) Z fun g17=>?_|refine EV.unbox (17) Z fun g17=>?_);(first|refine EVL.publish [] [(g8,_,_)] Z fun G12 dw Gj=>?_|refine EV.publish [] [(g8,_,_)] Z fun G12 dw Gj=>?_);have xD:=gU.trans (aZ.trans (bt.trans (dG.trans (fL.trans (lL.trans dw)))));obtain⟨tcs,E3,bA⟩:=bq;have yS:=bA.mono xD;have eF:=RTs.one E3
  have bn:∀(G:Hp) (_:G12.Le G) (a:Option Addr) (c:Nat),SlC G (.slice a (ts.length+1) c) (ts.length+1) 4 (tcs.flatten++[.int .i64 2,.int .i64 0,.int .i64 (b.W:Int),.slice oa (b.raw left).length oc])->RTL G (.slice a (ts.length+1) c) (b.fit y (ts.length+1)).1:=fun G hG a c hs=>by
   rw[dr];refine⟨tcs++[[.int .i64 2,.int .i64 0,.int .i64 (b.W:Int),.slice oa (b.raw left).length oc]],Cg (E3.mono (xD.trans hG)) (J7.mono (dw.trans hG)),?_⟩;rw[qJ,qw,List.flatten_append];exact(by simpa using hs)
  refine EVG.start (fun W=>Box W g8 (fA b.loss (b.W:Int) (rc b4 a7 l7 c7 a8 l8 c8) (rc b1 a1 l1 c1 a2 l2 c2) (rc b2 a3 l3 c3 a4 l4 c4) (.slice ta ts.length tc)).toArray 69/\Fits G12 W) (some 8) ?_;refine IF 1 ?_;refine ILQ 2 (b:=g8) (off:=0+11) (te:=aa67) (cs:=fA b.loss (b.W:Int) (rc b4 a7 l7 c7 a8 l8 c8) (rc b1 a1 l1 c1 a2 l2 c2) (rc b2 a3 l3 c3 a4 l4 c4) (.slice ta ts.length tc)) (l:=[.slice ta ts.length tc]) (fun _ h=>h.1) ?_ Z Z Z;refine IRQ 4 (H0:=G12) (b:=g17) (off:=0) (l:=[.int .i64 2,.int .i64 0,.int .i64 (b.W:Int),.slice oa (b.raw left).length oc]) (fun _ h=>h.2) ?_ Gj (fun j u hj=>by rw[qu];simpa using hj) Z Z;refine EVG.two 0 5 (nu (p:=(g8,_,_)) (jj:=0) (.inr rfl) (Hp.Le.refl _)) kR Z Z ?_ ?_;rotate_left;refine EVL.lit tO Z Z Z Z Z Z Z Z Z Z Z fun bl=>?_;refine EVL.nil ⟨rfl,?_⟩;refine EVG.one 0 (nu (p:=(g8,_,_)) (jj:=1) (.inr rfl) (Hp.Le.refl _)) kR rfl ?_;refine EVL.lit0 tO Z Z Z Z Z Z Z fun g2=>?_;(first|refine EVL.swapOw ([(g2,_,_)]) ([(bl,_,_),(g8,_,_)]) (rfl) ?_|refine EV.swapOw ([(g2,_,_)]) ([(bl,_,_),(g8,_,_)]) (rfl) ?_);refine EVL.nil ⟨rfl,?_⟩;rotate_left;refine EVL.lit0 tO Z Z Z Z Z Z Z fun g2=>?_;(first|refine EVL.swapOw ([(g2,_,_)]) ([(g8,_,_)]) (rfl) ?_|refine EV.swapOw ([(g2,_,_)]) ([(g8,_,_)]) (rfl) ?_);refine EVL.nil ⟨rfl,?_⟩;refine EVG.two 3 5 (nu (p:=(g8,_,_)) (jj:=0) (.inr rfl) (Hp.Le.refl _)) kR Z Z ?_ ?_;rotate_left;refine EVL.lit tO Z Z Z Z Z Z Z Z Z Z Z fun bl=>?_;refine EVL.nil ⟨rfl,?_⟩;rotate_left;rotate_left;refine EVL.appendR tO Z Z Z Z Z Z Z Z Z Z Z Z Z [(g8,_,_)] [(g2,115,[])] [] Z (aF.full (m:=0) rfl oM) yS eF oM ?_;intro v2 cC aD;rw[qu,pN]at aD;refine EVL.nil ⟨rfl,?_⟩;refine EVG.one 5 (nu (p:=(g8,_,_)) (jj:=0) (.inr rfl) (Hp.Le.refl _)) kR rfl ?_;refine EVL.lit tO Z Z Z Z Z Z Z Z Z Z Z fun bl=>?_;refine EVL.nil ⟨rfl,?_⟩;rotate_left
  iterate 2
   refine EVG.one 3 (nu (p:=(g8,_,_)) (jj:=1) (.inr rfl) (Hp.Le.refl _)) kR rfl ?_;refine EVL.appendR tO Z Z Z Z Z Z Z Z Z Z Z Z Z [(bl,_,_),(g8,_,_)] [(g2,115,[])] [] Z (aF.full (m:=0) rfl oM) yS eF oM ?_;intro v2 cC aD;rw[qu,pN]at aD;refine EVL.nil ⟨rfl,?_⟩;rotate_left
  all_goals
   refine EVG.one 6 (nu (p:=(g8,_,_)) (jj:=1) (.inr rfl) (Hp.Le.refl _)) kR rfl ?_;refine EVL.append tO Z Z Z Z Z Z Z Z Z Z Z Z [(bl,_,_),(g8,_,_)] cC [] Z aD (iJ.own 0 Z Z) Z oM ?_;intro v3 rR eD;obtain⟨Xz,Xv,rfl⟩:=eD.val;refine EVL.subOw [] [(bl,_,_)] _ Z ?_;refine EVL.nil ⟨rfl,?_⟩;refine EVG.one 7 (nu (p:=(g8,_,_)) (jj:=0) (.inr rfl) (Hp.Le.refl _)) kR rfl ?_;refine EVL.fldB tO Z Z Z Z Z Z Z ?_;refine EVL.nil ⟨rfl,?_⟩;refine EVG.one 8 (nu (p:=(g8,_,_)) (jj:=0) (.inr rfl) (Hp.Le.refl _)) kR rfl ?_;refine EVL.storeOwn tO Z Z Z Z Z Z ([]) (rR++[]) Z Z Z Z ((Nat.le_of_ble_eq_true Z)) (rfl) ?_;(first|refine EVL.publishL [(g8,69,_)] rR [] (rfl) eD fun G13 fc r9=>?_|refine EV.publishL [(g8,69,_)] rR [] (rfl) eD fun G13 fc r9=>?_);refine EVL.nil ⟨rfl,?_⟩;refine EVG.nil (nu (p:=(g8,_,_)) (jj:=0) (.inl kR) fc) kR ?_;refine uR ?_;exact⟨(ts.length+1,Xz,Xv),⟨by rw[aO ts.length (by omega)];rfl,trivial⟩,sB,trivial,sB,rfl,⟨af,iH.trans (xD.trans fc),bn G13 fc Xz Xv r9⟩,xD.trans fc,by dsimp only;omega⟩
theorem RB {L G:List Rat} {i:Nat} {g:Rat} (hl:G.length=L.length) (hg:G[i]?=some g):(G.take i++L.drop i).set i g=G.take (i+1)++L.drop (i+1):=by
 have hi:i<L.length:=by have:=(qE.1 hg).1;omega
 have ht:(G.take i).length=i:=by rw[qP];omega
 rw[List.set_append_right _ _ oM,ht,Nat.sub_self,qp hi,dZ hg,qZ];rfl
theorem RC {L G:List Rat} (hl:G.length=L.length) (i:Nat):(G.take i++L.drop i).length=L.length:=by
 rw[qJ,qP,qt];omega
set_option maxRecDepth 100000 in
theorem ZZ {H:Hp} {b:BG} {vl:Value} {left:List Rat} (dE:b.loss=1\/b.loss=2) (kB:ht b.tilt<=10) (hL:QL H vl left) (h0:0<left.length) (hn:left.length<=1000) (hq:∀q,q∈left->ht q<=100) :
  PW prog 35 #[.int .i64 b.loss,aC b.tilt,vl] H [] fun v ow _=>aF 51 5 v left.length (b6 (b.goal left)) ow:=by
 have hgl:=b.goal_len left;have cj:=Sy hL h0 hn;obtain⟨la,lc,rfl⟩:=SlC.val hL;have P6:SlC H (.slice la left.length lc) left.length 5 (left.flatMap fun q=>aB (aC q)):=hL;have ho:=np 1 oM oM;rw[show ((1:Int):Rat)=1 from rfl]at ho;have s1:ht 1<=2:=by decide +kernel
 have dI:=zG b.tilt 1 (bE kB oM) (bE s1 oM);refine PW.body tO func35 Z kR ntmps35 Z Z ?_;refine uR ?_;refine vW ([]) ([]) (cj) ?_;intro v ow G1 ah aj;obtain⟨ga,gc,rfl⟩:=ah.val;refine uR ?_;rcases dE with e1 | e1
 ·rw[show (b.loss == 1)=true by rw[e1];rfl];refine uR ?_;rw[show b.goal left=left from if_pos e1];exact(by first|exact ah|(rw[qG];exact ah))
 rw[show (b.loss == 1)=false by rw[e1];rfl];obtain⟨g,cap,sp,e,rfl,fg⟩:=ah.same h0;cases e;refine uR ?_;refine EV.loopK (ι:=Nat) [4,7,15,16] [4] (fun i=>[(17,.v (.int .i64 (i:Int)))]) (fun _=>[]) (fun i=>[(g,51,b6 ((b.goal left).take i++left.drop i)++sp)]) (fun i G=>i<=left.length/\H.Le G) (fun i=>left.length-i) (0) Z Z ⟨Z,trivial⟩ trivial rfl (fun _=>rfl) (⟨qQ _,aj⟩) ?_;rintro i G2 ai ⟨hi,iG⟩;have gS:=RC hgl i;refine uR ?_;refine EV.cond Z (fun af=>?_) (fun af=>?_)
 ·simp only[nN]at af;obtain⟨q,dR⟩:=gE af;have y9:=b.goal_get dR;have aK:=fun (x:Rat) (h:(b.goal left)[i]?=some x)=>(B3 (l:=(b.goal left).take i++left.drop i) (j:=i) sp x oM).trans (by rw[RB hgl h]);have lg:=pH q (qI (bE (hq q (qF dR)) oM).num oM);have P5:=P6.mono iG;refine uR ?_;refine EVL.idxM tO Z Z Z Z Z Z Z Z Z (P5) (i) (rfl) (af) (QL.at (H:=H) (v:=.bool true) dR) ?_
  repeat (first|refine RUN ?_|refine CV (lg) ?_|refine CE (lg) ?_)
  have c3:=pI (q:=q);have c4:=zV (q:=q);have c5:=Int.sign_trichotomy q.num;by_cases c1:0<q
  ·have c6:q.num.sign=1:=by
    rcases c5 with c | c | c
    ·exact c
    ·exact absurd c1 (c3.1 oM)
    ·exact absurd c1 (c3.1 oM)
   rw[show (q.num.sign == 1)=true from beq_iff_eq.2 c6];have hs:=aK b.tilt (by rw[y9];exact congrArg some (by unfold BG.goalQ;rw[if_neg oM,if_pos c1]));refine uR ?_;refine EVL.idxB tO Z Z Z Z Z Z Z Z Z (i) (i*5) (rfl) (af) (rfl) ?_;refine EVL.storeOwn tO Z Z Z Z Z Z ([]) ([]) Z Z Z Z ((by rw[qJ,rH,gS];show i*5+5<=_;omega)) (hs) ?_;refine uR ?_;exact⟨i+1,⟨by rw[aO i (by omega)];rfl,trivial⟩,sB,trivial,sB,rfl,⟨af,iG⟩,Hp.Le.refl _,by omega⟩
  have c6:¬q.num.sign=1:=fun k=>by have:=c3.2 c1;omega
  rw[show (q.num.sign == 1)=false from pQ.2 c6];refine uR ?_;by_cases c2:q=0
  ·rw[show (q.num.sign == 0)=true from beq_iff_eq.2 (c4.2 c2)];have hs:=aK 0 (by rw[y9];exact congrArg some (by unfold BG.goalQ;rw[if_neg oM,if_neg c1,if_pos c2]));rw[show aB (aC 0)=_ from rN]at hs;refine uR ?_;refine EVL.idxB tO Z Z Z Z Z Z Z Z Z (i) (i*5) (rfl) (af) (rfl) ?_;refine EVL.storeOwn tO Z Z Z Z Z Z ([]) ([]) Z Z Z Z ((by rw[qJ,rH,gS];show i*5+5<=_;omega)) (hs) ?_;refine uR ?_;exact⟨i+1,⟨by rw[aO i (by omega)];rfl,trivial⟩,sB,trivial,sB,rfl,⟨af,iG⟩,Hp.Le.refl _,by omega⟩
  rw[show (q.num.sign == 0)=false from pQ.2 fun k=>c2 (c4.1 k)];have hs:=aK (b.tilt-1) (by rw[y9];exact congrArg some (by unfold BG.goalQ;rw[if_neg oM,if_neg c1,if_neg c2]));refine uR ?_;apply EV.drawn 5 kR kR;intro xv yw;(repeat (first|refine' DD ?_|(refine' DC (ho) (h:=?_);rotate_left)|(refine' DC (dI) (h:=?_);rotate_left)));(refine DJ.nil (fun G3 ax fM=>?_);(case hS|hS2=>rfl));refine EVL.idxB tO Z Z Z Z Z Z Z Z Z (i) (i*5) (rfl) (af) (rfl) ?_;refine EVL.storeOwn tO Z Z Z Z Z Z ([]) ([]) Z Z Z Z ((by rw[qJ,rH,gS];show i*5+5<=_;omega)) (hs) ?_;refine uR ?_;exact⟨i+1,⟨by rw[aO i (by omega)];rfl,trivial⟩,sB,trivial,sB,rfl,⟨af,iG.trans ax⟩,ax,by omega⟩
 ·simp only[nN]at af;obtain rfl:i=left.length:=oM;rw[List.drop_length,qG,qO (Nat.le_of_eq hgl)];refine uR ?_;have hk:=fg (b6 (b.goal left)) (by rw[rH,rH,hgl]);exact(by first|exact hk|(rw[qG];exact hk))
set_option maxRecDepth 100000 in
theorem zqB {p:GP} {H:Hp} {kd cl least:Int} {D0 w:Nat} {S:List Int->List Value} {wo:List Int->Rat} {la va xa:Option Addr} {ln lc vn vc xc:Nat} {f:FuncId} {lO:List Value} {vr:Value} {rows:List Int} {s:Int}
  (cj:∀s,(p.cols s).1.length<=1000) (fR:0<p.X.length) (xx:p.X.length<=20) (gR:∀x,x∈p.X->x.length=w) (jY:∀x,x∈p.X->∀q,q∈x->ht q<=60) (fS:p.least=least) (cK:sm p.gain) (Kf:D0<=10)
  (hg:zD H kd cl (.slice la ln lc) (.slice va vn vc) p S wo) (hX:QLL H (.slice xa p.X.length xc) p.X) (Bm:B0 H f lO (.pointer none) p) (hr:IL H vr rows) (hn:rows.length<=20) (hb:∀r,r∈rows->0<=r/\r<(p.X.length:Int)) :
  PW prog 75 #[bG kd cl (.slice la ln lc) (.slice va vn vc),.slice xa p.X.length xc,vr,.agg (Dm (D0:Int) least p.gain).toArray,.func (.func f) #[] lO.toArray] H []
   fun v ow G=>∃oa oc css,v=.agg #[.int .i64 kd,.int .i64 cl,.int .i64 (w:Int),.slice oa (p.grow D0 0 rows s).1.length oc]/\ig G css (p.grow D0 0 rows s).1/\aF 150 21 (.slice oa (p.grow D0 0 rows s).1.length oc) (p.grow D0 0 rows s).1.length css.flatten ow:=by
 obtain⟨ra,rc,rfl⟩:=SlC.val hr;have Ou:2 ^ (D0+1)<=2 ^ 11:=qc oM oM;obtain⟨vs,aG,jx⟩:=id hX;obtain⟨x0,dA⟩:=gE fR;obtain⟨u0,e0,eR,_⟩:=aG.at dA;rw[gR x0 (qF dA)]at eR;refine PW.body tO func75 Z kR ntmps75 Z Z ?_;refine uR ?_;(first|refine EVL.unbox (11) Z fun gb=>?_|refine EV.unbox (11) Z fun gb=>?_);refine EVL.callW Z Z Z Z Z ((gb,197,_)::([]++[])) [] (by rw[qG,qG]) (zrN (p:=p) (deep:=(D0:Int)) cj fR xx jY fS cK D0 (s:=s) (D:=[]) (ns:=[]) (css:=[]) hg hX Bm oM (Int.le_refl _) oM hr hn hb (.inl ⟨rfl,rfl⟩) (aF.nil _ _) ⟨rfl,fun j c n e1 e2=>by cases e1⟩ (by rw[qg];omega)) ?_;rintro _ _ G1 ⟨rfl,out,D',cC,css,rfl,uV,ah,bX⟩ aj;rw[pN]at ah bX;rw[qg]at ah bX uV;rcases uV with ⟨_,rfl⟩|⟨bd',T',e1,_⟩
 case inr=>cases e1
 obtain⟨oa,oc,rfl⟩:=ah.val;refine uR ?_;apply EV.drawn 11 kR kR;intro xv yw;(repeat refine' DD ?_);refine' vJ (jx.mono aj) (0) (rfl) (fR) (eR) ?_;rotate_left;(repeat (first|refine' DD ?_|refine' vN ?_|refine' vF ?_));refine' DJ.ofVal (az.loadOwn tO Z Z Z Z (0) Z (rfl) Z Z) Z Z Z ?_;rotate_left;(repeat (first|refine' DD ?_|refine' vN ?_|refine' vF ?_));(refine DJ.nil (fun G hG hF=>?_);(case hS|hS2=>rfl));(first|refine EVL.subOw [] [(gb,_,_)] (cC++[]) Z ?_|refine EV.subOw [] [(gb,_,_)] (cC++[]) Z ?_|refine EVL.subOw [] [(gb,_,_)] cC Z ?_);refine uR ?_;refine⟨oa,oc,css,rfl,bX.mono hG,?_⟩
 first|exact ah|simpa using ah
set_option maxRecDepth 100000 in
theorem zpU {p:GP} {H:Hp} {kd cl least:Int} {D0 w:Nat} {s:Int} {S:List Int->List Value} {wo:List Int->Rat} {la va xa:Option Addr} {ln lc vn vc xc:Nat} {vr:Value} {rows:List Int}
  (kI:∀s,p.cols s=(bJ w,s)) (nz:1<=w) (mO:w<=20) (fR:0<p.X.length) (xx:p.X.length<=20) (gR:∀x,x∈p.X->x.length=w) (jY:∀x,x∈p.X->∀q,q∈x->ht q<=60) (fS:p.least=least) (hl:1<=least/\least<=300) (cK:sm p.gain) (lF:0<=p.gain) (Kf:D0<=10)
  (hg:zD H kd cl (.slice la ln lc) (.slice va vn vc) p S wo) (hX:QLL H (.slice xa p.X.length xc) p.X) (hr:IL H vr rows) (gh:0<rows.length) (hn:rows.length<=20) (hb:∀r,r∈rows->0<=r/\r<(p.X.length:Int)) :
  PW prog 36 #[bG kd cl (.slice la ln lc) (.slice va vn vc),.slice xa p.X.length xc,vr,.agg (Dm (D0:Int) least p.gain).toArray] H []
   fun v ow G=>∃oa oc css,v=.tuple #[.agg #[.int .i64 kd,.int .i64 cl,.int .i64 (w:Int),.slice oa (p.grow D0 0 rows s).1.length oc],.int .i64 0]/\ig G css (p.grow D0 0 rows s).1/\aF 150 21 (.slice oa (p.grow D0 0 rows s).1.length oc) (p.grow D0 0 rows s).1.length css.flatten ow:=by
 obtain⟨ra,rc,rfl⟩:=SlC.val hr;have VZ:=zoy (deep:=(D0:Int)) (least:=least) hg.ok.check hg.ok.leng hX oM oM ⟨by omega,mO⟩ gR hr gh oM cK;rw[qD (show vz (D0:Int) least p.gain from ⟨by omega,by omega,by omega,by omega,lF⟩),HY hb]at VZ;obtain⟨vs,aG,jx⟩:=id hX;obtain⟨x0,dA⟩:=gE fR;obtain⟨u0,e0,eR,_⟩:=aG.at dA;rw[gR x0 (qF dA)]at eR;refine PW.body tO func36 Z kR ntmps36 Z Z ?_;refine uR ?_;refine vA (VZ) ?_;rintro _ G1 rfl aj;refine uR ?_;refine vI ((jx.mono aj)) (0) (rfl) (fR) (eR) ?_;refine uR ?_;refine EVL.make tO Z Z Z Z Z Z Z Z Z (w) (rfl) oM (by rfl) (by rfl) fun b=>?_;refine uR ?_;(first|refine EVL.swapOw ([(b,3,(bJ 0).map iv++List.replicate (w-0) (.int .i64 0))]) ([]) ((by rw[show (aa3).zero=[Value.int .i64 0] from rfl,zU];rfl)) ?_|refine EV.swapOw ([(b,3,(bJ 0).map iv++List.replicate (w-0) (.int .i64 0))]) ([]) ((by rw[show (aa3).zero=[Value.int .i64 0] from rfl,zU];rfl)) ?_);refine EV.loopK (ι:=Nat) [1,2,4,7,8,11,28] [4,7,8,11] (fun i=>[(29,.v (.int .i64 (i:Int)))]) (fun _=>[]) (fun i=>[(b,3,(bJ i).map iv++List.replicate (w-i) (.int .i64 0))]) (fun i _=>i<=w) (fun i=>w-i) (0) Z Z ⟨Z,trivial⟩ trivial rfl (fun _=>rfl) (qQ _) ?_;rintro i G2 ai hi;refine uR ?_;refine EV.cond Z (fun af=>?_) (fun af=>?_)
 ·simp only[nN]at af;have wn:IntKind.i64.wrap ((i:Int)+1)=((i+1:Nat):Int):=aO i oM;refine uR ?_;refine EVL.idxB tO Z Z Z Z Z Z Z Z Z (i) (i*1) (rfl) (af) (rfl) ?_;rw[Nat.mul_one];refine uR ?_;refine EVL.set1 tO Z Z Z Z Z Z Z Z Z Z ((by rw[qJ,qV,kX,List.length_replicate];omega)) ?_;rw[ZF af];refine uR ?_;refine⟨i+1,⟨by rw[wn];rfl,trivial⟩,sB,trivial,sB,rfl,af,Hp.Le.refl _,by omega⟩
 ·simp only[nN]at af;obtain rfl:i=w:=oM;rw[Nat.sub_self,List.replicate_zero];(first|refine EVL.publish [] [] Z fun G3 ax ei=>?_|refine EV.publish [] [] Z fun G3 ax ei=>?_);(first|refine EVL.unbox (11) Z fun ga=>?_|refine EV.unbox (11) Z fun ga=>?_);(first|refine EVL.publish [] [] Z fun G4 aT mZ=>?_|refine EV.publish [] [] Z fun G4 aT mZ=>?_);refine uR ?_;refine EVL.fn1 Z Z Z Z Z ?_;have fU:=aj.trans (ai.trans (ax.trans aT));have Bm:=zlS (p:=p) (H:=G4) kI mZ (Hz (aT _ _ ei) (kX _));refine EVL.callW Z Z Z Z Z [] [] Z (zqB (w:=i) (s:=s) (fun s=>by rw[kI];show (bJ i).length<=1000;rw[kX];omega) fR xx gR jY fS cK Kf (hg.mono fU) (hX.mono fU) Bm (hr.mono fU) hn hb) ?_;rintro _ D' G5 ⟨oa,oc,css,rfl,bX,ah⟩ bj;refine uR ?_;refine⟨oa,oc,css,rfl,bX,?_⟩
  first|exact ah|simpa using ah
def QLs (H:Hp) (vs:List Value) (es:List (List Rat)):Prop:=vs.length=es.length/\∀(j:Nat) (v:Value) (l:List Rat),vs[j]?=some v->es[j]?=some l->QL H v l
theorem QLs.mono {H G:Hp} {vs:List Value} {es:List (List Rat)} (h:QLs H vs es) (k:H.Le G):QLs G vs es:=⟨h.1,fun j v l e1 e2=>SlC.mono (h.2 j v l e1 e2) k⟩
def vd (T:TypeId) (vs:List Value) (es:List (List Rat)) (ows:List Ows):Prop:=vs.length=es.length/\ows.length=es.length/\∀(j:Nat) (v:Value) (e:List Rat) (o:Ows),vs[j]?=some v->es[j]?=some e->ows[j]?=some o->aF T 5 v e.length (b6 e) o
theorem vd.nils (T:TypeId) (n:Nat):vd T (List.replicate n (.slice none 0 0)) (List.replicate n []) (List.replicate n []):=by
 refine⟨by simp,by simp,fun j v e o h1 h2 h3=>?_⟩;rw[List.getElem?_replicate]at h1 h2 h3;split at h1
 ·rename_i h;rw[if_pos h]at h2 h3;cases h1;cases h2;cases h3;exact aF.nil _ _
 ·cases h1
theorem vd.put {T:TypeId} {vs:List Value} {es:List (List Rat)} {A B:List Ows} {o o':Ows} {v':Value} {e':List Rat} (h:vd T vs es (A++o::B)) (k:aF T 5 v' e'.length (b6 e') o'):vd T (vs.set A.length v') (es.set A.length e') (A++o'::B):=by
 obtain⟨h1,h2,h3⟩:=h;refine⟨by rw[List.length_set,List.length_set];exact h1,by rw[List.length_set];simpa using h2,fun j v e q e1 e2 e3=>?_⟩;rw[List.getElem?_set]at e1 e2;by_cases hj:A.length=j
 ·subst hj;rw[if_pos rfl]at e1 e2;rw[qL (qH _),Nat.sub_self]at e3;cases e3;split at e1
  ·split at e2
   ·cases e1;cases e2;exact k
   ·cases e2
  ·cases e1
 ·rw[if_neg hj]at e1 e2;refine h3 j v e q e1 e2 ?_;rw[<-e3];by_cases hl:j<A.length
  ·rw[qM hl,qM hl]
  ·rw[qL oM,qL (by omega)];obtain⟨i,hi⟩:∃i,j-A.length=i+1:=⟨j-A.length-1,by omega⟩;rw[hi];rfl
theorem EV.pubQ {P:Program} {n:Nat} {env:Env} {bx:Bxs} {Q:EQ} {c:Code} {T:TypeId}:∀(ows:List Ows) {H:Hs} {vs:List Value} {es:List (List Rat)} (pre post:Ows),vd T vs es ows->H.ow=pre++(ows.flatten++post)->(∀k,k∈H.base.lent->∀q,q∈ows.flatten->k≠q.1)->(∀G,H.ro.Le G->QLs G vs es->EV P n c env bx ⟨G,pre++post,H.base⟩ Q)->EV P n c env bx H Q
 | [],H,vs,es,pre,post,hm,e,hb,h=>by
  have h0:es=[]:=pJ.1 hm.2.1.symm;subst h0;have h1:vs=[]:=pJ.1 hm.1;subst h1;have:=h H.ro (Hp.Le.refl _) ⟨rfl,fun j v l e1 _=>by cases e1⟩;rw[<-show H.ow=pre++post from e]at this;exact this
 | o::ows,H,[],es,pre,post,hm,e,hb,h=>by
  have h1:=hm.1;have h2:=hm.2.1;rw[<-h1]at h2;cases h2
 | o::ows,H,v::vs,[],pre,post,hm,e,hb,h=>by have h1:=hm.1;cases h1
 | o::ows,H,v::vs,l::es,pre,post,hm,e,hb,h=>by
  have ho:=hm.2.2 0 v l o Z Z Z;refine EV.publishL pre o (ows.flatten++post) (by rw[e,List.flatten_cons,qZ]) ho (fun G hG hc=>?_) (fun k hk q hq=>hb k hk q (by rw[List.flatten_cons];exact List.mem_append_left _ hq));refine EV.pubQ ows pre post ⟨Nat.succ.inj hm.1,Nat.succ.inj hm.2.1,fun j v' e' o' e1 e2 e3=>hm.2.2 (j+1) v' e' o' e1 e2 e3⟩ rfl (fun k hk q hq=>hb k hk q (by rw[List.flatten_cons];exact List.mem_append_right _ hq)) fun G2 ai hs=>h G2 (hG.trans ai) ⟨by rw[qR,qR,hs.1],fun j v' l' e1 e2=>?_⟩
  cases j with
  | zero=>cases e1;cases e2;exact SlC.mono hc ai
  | succ j=>exact hs.2 j v' l' e1 e2
theorem zpf (W:Int->List Int) (n:Nat) (done:List Int) (r r':Int):nt W n done r []=nt W n done r' []:=by
 unfold nt;exact List.map_congr_left fun j _=>by rw[if_neg List.not_mem_nil,if_neg List.not_mem_nil]
theorem Zv {A:List Int} {k:Nat} {z:Int} (h:A.Nodup) (hz:A[k]?=some z):z ∉ A.take k:=fun hm=>by
 obtain⟨j,hj⟩:=List.mem_iff_getElem?.1 hm;rw[pO]at hj;split at hj
 ·rename_i CW;have:=(List.getElem?_inj (qE.1 hj).1 h).1 (hj.trans hz.symm);omega
 ·cases hj
def mG (left:List Rat) (Wf:Int->List Int) (n:Nat) (done:List Int) (r:Int) (q:List Int):List (List Rat):=(nt Wf n done r q).map (atR left)
theorem LO (left:List Rat) (Wf:Int->List Int) (n:Nat) (done:List Int) (r:Int) (q:List Int):(mG left Wf n done r q).length=n:=by
 unfold mG;rw[qV,D9]
theorem zpR (left:List Rat) (Wf:Int->List Int) (n:Nat) (r:Int):mG left Wf n [] r []=List.replicate n []:=by
 unfold mG;rw[zpg,List.map_replicate];rfl
theorem Tg {left:List Rat} {Wf:Int->List Int} {n:Nat} {done:List Int} {r:Int} {q:List Int} {j:Nat} (h:j<n) (hq:(j:Int) ∉ q):(mG left Wf n done r q)[j]?=some (atR left (done.filter fun r=>decide ((j:Int)∈Wf r))):=by
 unfold mG;rw[qK,I1 h,if_neg hq,qG];rfl
theorem zn1 {left:List Rat} {Wf:Int->List Int} {n:Nat} {done:List Int} {r:Int} {q:List Int} {j:Nat} {x:Rat} (hq:(j:Int) ∉ q) (hx:left.getD r.toNat 0=x):(mG left Wf n done r q).set j (atR left (done.filter fun r=>decide ((j:Int)∈Wf r))++[x])=mG left Wf n done r (q++[(j:Int)]):=by
 unfold mG;rw[<-znL hq,List.map_set];congr 1;unfold atR;rw[qo,List.map_singleton,hx]
theorem zpS {left:List Rat} {Wf:Int->List Int} {n:Nat} {done:List Int} {r r':Int}:mG left Wf n done r (Wf r)=mG left Wf n (done++[r]) r' []:=by
 unfold mG;rw[zph]
theorem YX {l:List Value} {i:Nat} (v:Value) (h:i<l.length):l.take (i*1)++[v]++l.drop (i*1+1)=l.set i v:=by
 rw[Nat.mul_one,List.set_eq_take_append_cons_drop,if_pos h,qZ];rfl
theorem UX {D ow post:Ows} (h:yB (D++(ow++post))):∀k,k∈Ows.bs D->∀q,q∈ow->k≠q.1:=fun k hk q hq e=>by
 have hn:=Ji.1 h;unfold Ows.bs at hn hk;simp only[qo,List.nodup_append]at hn;exact hn.2.2 k hk q.1 (List.mem_append_left _ (List.mem_map.2 ⟨q,hq,rfl⟩)) e
theorem ZP {l:List Rat} {i:Nat} {q:Rat} (h:l[i]?=some q):∀(j:Nat) (u:Value),(aB (aC q))[j]?=some u->(b6 l)[i*5+j]?=some u:=fun j u hj=>by
 have h1:(l.flatMap (fun q=>aB (aC q))).drop (i*5) |>.take 5 |> (·=aB (aC q)):=QL.at (H:=fun _=>none) (v:=.bool true) h;have h2:j<5:=(qE.1 hj).1;have h3:(((l.flatMap (fun q=>aB (aC q))).drop (i*5)).take 5)[j]?=some u:=by rw[show ((l.flatMap (fun q=>aB (aC q))).drop (i*5)).take 5=aB (aC q) from h1];exact hj
 rw[pO,if_pos h2,List.getElem?_drop]at h3;exact h3
set_option maxRecDepth 100000 in
theorem zlU {H0 H:Hp} {b:BG} (hb:b.Ok) (dE:b.loss=2) {vx vl:Value} {left:List Rat} (h0:H0.Le H) (hX:QLL H vx b.X) (hL:QL H vl left) (hlen:left.length=b.X.length) (cK:lU left) (FM:∀q,q∈left->ht q<=100) {g cap:Nat} {css:List (List Value)} {sp:List Value} (bX:ig H0 css (b.raw left)) (bZ:(b.raw left).length<=cap) :
  PW prog 37 #[.agg #[.int .i64 2,.int .i64 0,.int .i64 (b.W:Int),.slice (some ⟨g,0,none⟩) (b.raw left).length cap],vx,vl,aC b.tilt] H [(g,150,css.flatten++sp)]
   fun _ ow _=>∃dh,ow=[(g,150,dh.flatten++sp)]/\dh.length=css.length/\ig H0 dh (b.mids left (b.raw left)):=by
 obtain⟨fi,dQ,hr15⟩:=hb.raw cK hlen;have CQ:=fun j n (h:(b.raw left)[j]?=some n)=>hb.part cK hlen h;have h8:=hb.rows;have hw:=hb.wide;have bH:=kX b.X.length;have Xk:=hb.gp cK hlen;obtain⟨hh,_,aQ⟩:=fi.sub;dsimp only at aQ;obtain⟨Wf,J5⟩:=Classical.axiomOfChoice (fun r:Int=>aQ.path (b.X.getD r.toNat []));have NK:=fun r=>DL Xk b.D 0 (bJ b.X.length) 0 vU (At.self _) (Wf r) (J5 r);have NJ:=fun r=>zn2 Xk b.D 0 (bJ b.X.length) 0 vU (At.self _) (Wf r) (J5 r);have PS:∀r:Int,mz (b.raw left) (b.X.getD r.toNat [])=Wf r:=fun r=>KN (J5 r)
 have uG:∀j,b.part left (b.raw left) j=atR left ((bJ b.X.length).filter fun r=>decide ((j:Int)∈Wf r)):=fun j=>by
  unfold BG.part;simp only[PS]
 obtain⟨vs,aG,jx⟩:=id hX;obtain⟨xa,xc,rfl⟩:=hX.val;obtain⟨la,lc,rfl⟩:=SlC.val hL;have P6:SlC H (.slice la left.length lc) left.length 5 (left.flatMap fun q=>aB (aC q)):=hL;have hmt:=hb.two dE;have kB:=hb.den.2;have iO:=bX.1;generalize hN:b.raw left=ns at *
 refine PW.body tO func37 Z kR ntmps37 Z Z ?_;refine uR ?_;refine EVL.make tO Z Z Z Z Z Z Z Z Z (ns.length) (rfl) oM (by rfl) (by rfl) fun g8=>?_;refine uR ?_;(first|refine EVL.swapOw ([(g8,60,List.replicate ns.length (.slice none 0 0))]) ([(g,150,css.flatten++sp)]) ((by rw[show (aa60).zero=[Value.slice none 0 0] from rfl,zU];rfl)) ?_|refine EV.swapOw ([(g8,60,List.replicate ns.length (.slice none 0 0))]) ([(g,150,css.flatten++sp)]) ((by rw[show (aa60).zero=[Value.slice none 0 0] from rfl,zU];rfl)) ?_);(first|refine EVL.swapOw ((List.replicate ns.length ([]:Ows)).flatten) ([(g,150,css.flatten++sp),(g8,60,List.replicate ns.length (.slice none 0 0))]) ((by rw[List.flatten_replicate_nil];rfl)) ?_|refine EV.swapOw ((List.replicate ns.length ([]:Ows)).flatten) ([(g,150,css.flatten++sp),(g8,60,List.replicate ns.length (.slice none 0 0))]) ((by rw[List.flatten_replicate_nil];rfl)) ?_);refine EV.loopK (ι:=Nat × List Value × List Ows) [2,4,7,8,18,19] [4,7] (fun q=>[(20,.v (.int .i64 (q.1:Int)))]) (fun _=>[]) (fun q=>(g,150,css.flatten++sp)::(g8,60,q.2.1)::q.2.2.flatten) (fun q G=>q.1<=b.X.length/\H.Le G/\vd 51 q.2.1 (mG left Wf ns.length ((bJ b.X.length).take q.1) 0 []) q.2.2) (fun q=>b.X.length-q.1) ((0,List.replicate ns.length (.slice none 0 0),List.replicate ns.length [])) Z Z ⟨Z,trivial⟩ trivial rfl (fun _=>rfl) (⟨qQ _,Hp.Le.refl _,by dsimp only;rw[List.take_zero,zpR];exact vd.nils _ _⟩) ?_;rintro⟨i,pY,ows⟩ G1 aj ⟨hi,Gw,hm⟩;dsimp only at hi Gw hm;refine uR ?_;refine EV.cond Z (fun af=>?_) (fun af=>?_)
 ·simp only[nN]at af;obtain⟨x,di⟩:=gE af;obtain⟨ux,ex,wD,er⟩:=aG.at di;obtain⟨gR,mN⟩:=hb.each x (qF di);obtain⟨ql,dR⟩:∃q,left[i]?=some q:=⟨_,qA oM⟩;have NO:=jx.mono Gw;have rV:=PW.reads (H:=G1) (L:=[]) (b:=g) (T:=150) (cs:=css.flatten++sp) (Φ:=fun v ow=>∃l:List Int,aF 3 1 v l.length (l.map iv) ow/\dC ns x 0 l/\l.length<=2000) (cO func77) (fun G hG hg=>SJ (cs:=[.int .i64 2,.int .i64 0,.int .i64 (b.W:Int),.slice (some ⟨g,0,none⟩) ns.length cap]) ⟨some ⟨g,0,none⟩,cap,css,rfl,bX.mono (h0.trans (Gw.trans hG)),by rw[<-iO];exact⟨bX.flat_len,.inr ⟨g,0,cap,_,rfl,by omega,hg,fun j y hy=>by rw[qu];simpa using (qM (qE.1 hy).1).trans hy⟩⟩⟩ fi (SlC.mono er (Gw.trans hG)) (by rw[gR]) (fun q hq=>bE (mN q hq) oM));refine uR ?_;refine vI (NO) (i) (rfl) (af) (wD) ?_;refine uR ?_;refine vW ([(g,150,css.flatten++sp)]) ((g8,60,pY)::ows.flatten) (rV) ?_;rintro vw cC G2 ⟨Vr,rfl,l,ah,fS,dc⟩ ai
  obtain rfl:l=Wf (i:Int):=by
   have h1:=J5 (i:Int);rw[qU,qB,di]at h1;exact fS.det h1
  obtain⟨wa,wc,rfl⟩:=ah.val;(first|refine EVL.apart fun oV=>?_|refine EV.apart fun oV=>?_);(first|refine EVL.publishL [(g,_,_)] Vr ((g8,60,pY)::ows.flatten) Z ah (fun G3 ax jA=>?_) (UX (post:=(g8,60,pY)::ows.flatten) oV)|refine EV.publishL [(g,_,_)] Vr ((g8,60,pY)::ows.flatten) Z ah (fun G3 ax jA=>?_) (UX (post:=(g8,60,pY)::ows.flatten) oV));have C9:=Gw.trans (ai.trans ax);have uS:=ai.trans ax;obtain⟨bL,Na,capL,cL,eL,hcL,Bn⟩:=SlC.expl P6 oM;cases eL;refine uR ?_;refine EV.loopK (ι:=Nat × List Value × List Ows) [2,4,7,8,9,18,19,20,27,28] [4,7] (fun q=>[(29,.v (.int .i64 (q.1:Int)))]) (fun _=>[]) (fun q=>(g,150,css.flatten++sp)::(g8,60,q.2.1)::q.2.2.flatten) (fun q _=>q.1<=(Wf (i:Int)).length/\vd 51 q.2.1 (mG left Wf ns.length ((bJ b.X.length).take i) (i:Int) ((Wf (i:Int)).take q.1)) q.2.2) (fun q=>(Wf (i:Int)).length-q.1) ((0,pY,ows)) Z Z ⟨Z,trivial⟩ trivial rfl (fun _=>rfl) (⟨qQ _,by dsimp only;rw[List.take_zero];unfold mG;rw[zpf _ _ _ _ 0];exact hm⟩) ?_;rintro⟨k,us,os⟩ Gk Kc ⟨hk,lu⟩;dsimp only at hk lu;have wk:IntKind.i64.wrap ((k:Int)+1)=((k+1:Nat):Int):=aO k oM;refine uR ?_;refine EV.cond Z (fun ji=>?_) (fun ji=>?_)
  ·simp only[nN]at ji;obtain⟨z,hz⟩:∃z,(Wf (i:Int))[k]?=some z:=⟨_,qA ji⟩;have CL:=NK (i:Int) z (qF hz);have yK:=Zv (NJ (i:Int)) hz;have hzt:=dZ hz;obtain⟨J,rfl⟩:=qh (show 0<=z by omega)
   have hJ:J<ns.length:=by
    have h:=CL.2;rw[show ((b.gp left).grow b.D 0 (bJ b.X.length) 0).1=ns from hN]at h;omega
   have jF:os.length=ns.length:=by rw[lu.2.1,LO]
   have VL:us.length=ns.length:=by rw[lu.1,LO]
   obtain⟨OA,o,OB,rfl,rfl⟩:=K8 (l:=os) (k:=J) oM;obtain⟨v,hv⟩:∃v,us[OA.length]?=some v:=⟨_,qA oM⟩;have heJ:=Tg (left:=left) (Wf:=Wf) (done:=(bJ b.X.length).take i) (r:=(i:Int)) hJ yK;have ah:=lu.2.2 OA.length v _ o hv heJ (by rw[qL (qH _),Nat.sub_self];rfl);have aK:=zn1 (left:=left) (Wf:=Wf) (n:=ns.length) (done:=(bJ b.X.length).take i) (r:=(i:Int)) (x:=ql) yK (by rw[qU,qB,dR];rfl)
   have Wy:(atR left (((bJ b.X.length).take i).filter fun r=>decide (((OA.length:Nat):Int)∈Wf r))).length<=20:=by
    unfold atR;rw[qV];exact qI (List.length_filter_le _ _) (by rw[qP];omega)
   generalize atR left (((bJ b.X.length).take i).filter fun r=>decide (((OA.length:Nat):Int)∈Wf r))=es at *
   obtain⟨va1,vc1,rfl⟩:=ah.val;have hHk:=C9.trans Kc;have PB:=hHk _ _ hcL;have Oc:=SlC.mono jA Kc;refine uR ?_;refine vI (Oc) (k) (rfl) (ji) ((by rw[qK,hz];rfl)) ?_;refine uR ?_;refine EVG.start (fun W=>Box W g8 us.toArray 60/\Fits Gk W) (some 13) ?_;refine IV 0 ?_;refine IV 1 ?_;refine IV 2 ?_;refine IV 3 ?_;refine IX 4 (q:=OA.length) (m:=ns.length) ?_ rfl hJ
   refine ILQ 5 (b:=g8) (off:=0+OA.length*1) (te:=aa60) (cs:=us) (l:=[.slice va1 es.length vc1]) (fun _ h=>h.1) ?_ (by
    obtain⟨h1,h2⟩:=qE.1 hv;rw[qu,Nat.mul_one,qp h1,h2];rfl) Z Z
   refine IV 6 ?_;refine IV 7 ?_;refine IX 8 (q:=i) (m:=left.length) ?_ rfl oM;refine IRQ 9 (H0:=Gk) (b:=bL) (off:=Na+i*5) (l:=aB (aC ql)) (fun _ h=>h.2) ?_ PB (fun j u hj=>by rw[Nat.add_assoc];exact Bn _ u (ZP dR j u hj)) Z Z;refine EVG.one 10 (nu (p:=(g8,60,us)) (jj:=1) (.inr rfl) (Hp.Le.refl _)) kR rfl ?_;refine EVL.lit tO Z Z Z Z Z Z Z Z Z Z Z fun bl=>?_;refine EVL.nil ⟨rfl,?_⟩;refine EVG.one 11 (nu (p:=(g8,60,us)) (jj:=2) (.inr rfl) (Hp.Le.refl _)) kR rfl ?_;refine EVL.append tO Z Z Z Z Z Z Z Z Z Z Z Z ((bl,_,_)::(g,_,_)::(g8,_,_)::OA.flatten) o OB.flatten (by rw[List.flatten_append,List.flatten_cons];rfl) ah (iJ.own 0 Z Z) rfl oM ?_;intro v2 o2 aD;refine EVL.subOw [] [(bl,_,_)] _ Z ?_;refine EVL.nil ⟨rfl,?_⟩;refine EVG.one 12 (nu (p:=(g8,60,us)) (jj:=1) (.inr rfl) (Hp.Le.refl _)) kR rfl ?_;refine EVL.idxB tO Z Z Z Z Z Z Z Z Z (OA.length) (OA.length*1) (rfl) (hJ) (rfl) ?_;refine EVL.nil ⟨rfl,?_⟩;refine EVG.one 13 (nu (p:=(g8,60,us)) (jj:=1) (.inr rfl) (Hp.Le.refl _)) kR rfl ?_;obtain⟨va2,vc2,rfl⟩:=aD.val;refine EVL.storeOwn tO Z Z Z Z Z Z ([(g,150,_)]) (OA.flatten++(o2++OB.flatten)) Z Z Z Z ((by rw[Nat.mul_one];show OA.length+1<=us.length;omega)) (YX (l:=us) (i:=OA.length) _ oM) ?_;refine EVL.nil ⟨rfl,?_⟩;refine EVG.nil (nu (p:=(g8,60,us)) (jj:=1) (.inl kR) (Hp.Le.refl _)) kR ?_;refine uR ?_;refine⟨(k+1,us.set OA.length (.slice va2 (es.length+1) vc2),OA++o2::OB),⟨by rw[wk];rfl,trivial⟩,sB,trivial,sB,?_,⟨ji,?_⟩,Hp.Le.refl _,by dsimp only;omega⟩
   ·dsimp only;rw[List.flatten_append,List.flatten_cons];rfl
   ·dsimp only;rw[hzt,<-aK];refine lu.put ?_;rw[qJ];show aF _ _ _ _ ((es++[ql]).flatMap _) _;rw[List.flatMap_append];exact aD
  ·simp only[nN]at ji;obtain rfl:k=(Wf (i:Int)).length:=oM;have hai:(bJ b.X.length)[i]?=some (i:Int):=by unfold bJ;rw[qK,List.getElem?_range af];rfl
   rw[qa,zpS (r':=0),<-dZ hai]at lu;refine uR ?_;exact⟨(i+1,us,os),⟨by rw[aO i (by omega)];rfl,trivial⟩,sB,trivial,sB,rfl,⟨af,C9.trans Kc,lu⟩,uS.trans Kc,by dsimp only;omega⟩
 ·simp only[nN]at af;obtain rfl:i=b.X.length:=oM;rw[qO (Nat.le_of_eq bH)]at hm;have eQ:pY.length=ns.length:=by rw[hm.1,LO]
  (first|refine EVL.apart fun oV=>?_|refine EV.apart fun oV=>?_)
  have C4:(∀k,k∈Ows.bs [(g,150,css.flatten++sp)]->∀q,q∈ows.flatten->k≠q.1)/\g≠g8:=by
   have hn:=Ji.1 oV;unfold Ows.bs at hn ⊢;simp only[qx,List.nodup_cons,List.map_nil,pK]at hn ⊢;refine⟨fun k hk q hq e=>?_,fun e=>hn.1 (by rw[e];exact qf ..)⟩;subst hk;exact hn.1 (qk _ (by rw[e];exact List.mem_map.2 ⟨q,hq,rfl⟩))
  refine EV.pubQ ows [(g,150,css.flatten++sp),(g8,60,pY)] [] hm (by rw[qG];rfl) C4.1 fun G7 aZ hQL=>?_;(first|refine EV.publish [(g,150,css.flatten++sp)] [] Z (fun G8 bt PK=>?_) (fun k hk=>by rw[pK.1 hk];exact C4.2)|refine EVL.publish [(g,150,css.flatten++sp)] [] Z (fun G8 bt PK=>?_) (fun k hk=>by rw[pK.1 hk];exact C4.2));have hE8:SlC G8 (.slice (some ⟨g8,0,none⟩) ns.length ns.length) ns.length 1 pY:=⟨by rw[eQ,Nat.mul_one],.inr ⟨g8,0,ns.length,pY.toArray,rfl,qH _,PK,fun j y hy=>by rw[qu];simpa using hy⟩⟩;have hQ8:=hQL.mono bt;refine uR ?_;refine EV.loopK (ι:=Nat × List (List Value)) [4,7,8,50] [4,7] (fun q=>[(51,.v (.int .i64 (q.1:Int)))]) (fun _=>[]) (fun q=>[(g,150,q.2.flatten++sp)]) (fun q G=>q.1<=ns.length/\G8.Le G/\q.2.length=css.length/\ig H0 q.2 (b.midsTo left ns q.1)) (fun q=>ns.length-q.1) ((0,css)) Z Z ⟨Z,trivial⟩ trivial rfl (fun _=>rfl) (⟨qQ _,Hp.Le.refl _,rfl,by dsimp only;rw[UW];exact bX⟩) ?_;rintro⟨k,ds⟩ G9 dG ⟨hk,gu,kn,kI⟩;dsimp only at hk gu kn kI;have gS:=Mo b left ns k;refine uR ?_;refine EV.cond Z (fun ji=>?_) (fun ji=>?_)
  ·simp only[nN]at ji;obtain⟨nr,hnr⟩:=gE ji;obtain⟨nd,hnd⟩:∃n,(b.midsTo left ns k)[k]?=some n:=⟨_,qA oM⟩;obtain⟨lq,gi,uH,_⟩:=CQ k nr hnr;obtain⟨v,hv⟩:∃v,pY[k]?=some v:=⟨_,qA oM⟩;have Wz:=Tg (left:=left) (Wf:=Wf) (done:=bJ b.X.length) (r:=0) (q:=[]) ji List.not_mem_nil;rw[<-uG k]at Wz;have nH:=hQ8.2 k v _ hv Wz;have aK:=Ue b left hnd;have mV:=fun (G:Hp) (hG:G9.Le G)=>Ua (loss:=2) (SlC.mono nH (gu.trans hG)) gi oM (fun q hq=>FM q (lq q hq)) (fun _=>hmt) kB;rw[show rE 2 b.tilt (b.part left ns k)=kN b.tilt (b.part left ns k) from if_neg (by decide)]at mV;generalize b.part left ns k=pl at *
   obtain⟨pa,pc,rfl⟩:=SlC.val nH;generalize kN b.tilt pl=mv at *
   have hE9:=hE8.mono gu;obtain⟨A,c,B,rfl,hAk⟩:=K8 (l:=ds) (k:=k) oM;subst hAk;obtain⟨a7,c7,bY,rfl⟩:=kI.2 A.length c nd (by rw[qL (qH _),Nat.sub_self];rfl) hnd;have Xf:=kI.left.flat_len;rw[SZ];refine uR ?_;apply EV.drawn 9 kR kR;intro xv yw;(repeat refine' DD ?_);refine' DJ.idxM tO Z Z Z Z Z Z Z Z Z (hE9) (A.length) (rfl) (ji) ((show (pY.drop (A.length*1)).take 1=[Value.slice pa pl.length pc] by rw[Nat.mul_one,qp (qE.1 hv).1,(qE.1 hv).2];rfl)) ?_;rotate_left;(repeat refine' DD ?_);refine' vC (cO func33) (fun G hG hd=>mV G hG) ?_;rotate_left;(refine DJ.nil (fun G2 ai fN=>?_);(case hS|hS2=>rfl));refine EVL.idxB tO Z Z Z Z Z Z Z Z Z (A.length) (A.length*21) (rfl) (ji) (rfl) ?_;refine EVL.fldB tO Z Z Z Z Z Z Z ?_;refine EVL.storeOwn tO Z Z Z Z Z Z ([]) ([]) Z Z Z Z ((by rw[qJ,Xf,qJ];show A.length*21+15+5<=A.length*21+(21+(B.flatten++sp).length);omega)) ((pR Xf Z Z (Nat.le_of_ble_eq_true rfl) rfl)) ?_;refine uR ?_;refine⟨(A.length+1,A++_::B),⟨by rw[aO A.length (by omega)];rfl,trivial⟩,sB,trivial,sB,by dsimp only;rw[SZ];rfl,⟨ji,gu.trans ai,by dsimp only;rw[<-kn];simp,?_⟩,ai,by dsimp only;omega⟩;rw[<-aK];exact Y6 kI ⟨a7,c7,bY,rfl⟩
  ·simp only[nN]at ji;obtain rfl:k=ns.length:=oM;refine uR ?_;exact⟨ds,rfl,kn,kI⟩
theorem QL.ofOwn {G:Hp} {g n:Nat} {l:List Rat} (h:G g=some (b6 l).toArray) (hn:l.length=n):QL G (.slice (some ⟨g,0,none⟩) n n) l:=by
 subst hn;exact⟨flat_len _ 5 l (fun _ _=>rfl),.inr ⟨g,0,l.length,_,rfl,qH _,h,fun j y hy=>by rw[qu];simpa using hy⟩⟩
theorem PTs.nil (H:Hp):PTs H [] []:=⟨rfl,fun j c t e=>by cases e⟩
set_option maxRecDepth 100000 in
theorem Li {H:Hp} {b:BG} (hb:b.Ok) {vx vy:Value} {y:List Rat} {K D0 A0:Nat} (hX:QLL H vx b.X) (hy:QL H vy y) (fD:y.length=b.X.length)
  (hD:1<=D0) (hA:1<=A0) (hg:∀q,q∈y->Gr D0 A0 q) (hK:K<=50) (cI:bl ((2*A0*2 ^ K)*(D0*840*(840*b.rate.den) ^ K))<=95) :
  PC prog 10 #[vx,vy,.agg (KD b.loss (K:Int) (b.D:Int) b.least b.rate b.tilt b.gain).toArray] H fun r G=>∃ta tc,r=.tuple #[.agg (pD b.loss (b.W:Int) (b.mid y) b.rate b.tilt (.slice ta K tc)).toArray,.int .i64 0]/\PTL G (.slice ta K tc) (b.fit y K).1:=by
 have h8:=hb.rows;have hw:=hb.wide;have Bi:=hb.deep;have gR:=fun x hx=>(hb.each x hx).1;have mN:=fun x hx=>(hb.each x hx).2;have mY:=hb.fit hD hA hg fD cI;have jB:=b.rate.den_nz;have jq:bl (A0*(D0*840))<=95:=qI (ik (Nat.mul_le_mul (by rw[qW 2 A0,Nat.mul_assoc];exact Nat.le_mul_of_pos_right A0 (Nat.mul_pos oM (Nat.pow_pos oM))) (Nat.le_mul_of_pos_right _ (Nat.pow_pos oM)))) cI;have mK:∀q,q∈y->ht q<=95:=fun q k=>qI (((hg q k).up 840).bits oM hA) jq;have oO:ht (b.mid y)<=95:=qI ((hb.mid_gr hg fD).bits oM hA) jq
 have hr:ht b.rate<=10:=by
  have h:=hb.rd.bits oM oM;rw[Nat.one_mul]at h;exact qI h (qI (ik hb.den.1) (cf (by decide)))
 have EX:=TB hX gR h8.1 oM hw.1 hw.2;have uK:=MD (loss:=b.loss) (bE hr oM) (bE hb.den.2 oM);rw[YA hb]at uK;have gm:sm b.gain:=bE hb.gain.2 oM;have kH:=fun G:Hp=>LH (H:=G) (deep:=(b.D:Int)) (least:=b.least) gm;rw[qD (show vz (b.D:Int) b.least b.gain from ⟨by omega,by omega,hb.least.1,hb.least.2,hb.gain.1⟩)]at kH;have JJ:=fun (G:Hp) (hG:H.Le G)=>Ua (loss:=b.loss) (SlC.mono hy hG) oM oM (fun q k=>qI (mK q k) oM) (fun k=>hb.two (hb.loss.resolve_left k)) hb.den.2;rw[show rE b.loss b.tilt y=b.mid y from rfl]at JJ;obtain⟨vs,aG,jx⟩:=id hX;obtain⟨xa,xc,rfl⟩:=hX.val;obtain⟨ya,yc,rfl⟩:=SlC.val hy;obtain⟨x0,dA⟩:∃x,b.X[0]?=some x:=⟨_,qA h8.1⟩;obtain⟨u0,e0,eR,_⟩:=aG.at dA;rw[gR x0 (qF dA)]at eR;have Ns:SlC H (.slice ya y.length yc) y.length 5 (y.flatMap fun q=>aB (aC q)):=hy;have hfz:(b.fit y 0).2=y.map fun q=>q-b.mid y:=rfl;refine BD func10 ntmps10 ?_
 repeat (first|refine RUN ?_|refine CV (EX) ?_|refine CE (EX) ?_)
 rw[show ((y.length:Int) != (b.X.length:Int))=false by rw[fD];exact pP _];have FY:=kH H
 repeat (first|refine RUN ?_|refine CV (uK) ?_|refine CE (uK) ?_)
 rw[qC (show ¬(K:Int)<0 by omega)];refine uR ?_;rw[qC (show ¬(K:Int)>50 by omega)]
 repeat (first|refine RUN ?_|refine CV (FY) ?_|refine CE (FY) ?_)
 apply EV.drawn 18 kR kR;intro xv yw;(repeat refine' DD ?_);refine' vJ (jx) (0) (rfl) (h8.1) (eR) ?_;rotate_left;(repeat refine' DD ?_);refine' vC (cO func33) (fun G hG hd=>JJ G hG) ?_;rotate_left;(repeat refine' DD ?_);(refine DJ.nil (fun G1 aj gV=>?_);(case hS|hS2=>rfl));refine uR ?_;refine EVL.make tO Z Z Z Z Z Z Z Z Z (b.X.length) (rfl) oM (by rfl) (by rfl) fun g9=>?_;refine uR ?_;refine EVL.make tO Z Z Z Z Z Z Z Z Z (b.X.length) (rfl) oM (by rfl) (by rfl) fun g10=>?_;refine uR ?_;(first|refine EVL.swapOw ([(g10,51,(([]:List Rat)++List.replicate (b.X.length-0) 0).flatMap cqF)]) ([(g9,3,_)]) ((by rw[<-Sx];rfl)) ?_|refine EV.swapOw ([(g10,51,(([]:List Rat)++List.replicate (b.X.length-0) 0).flatMap cqF)]) ([(g9,3,_)]) ((by rw[<-Sx];rfl)) ?_);(first|refine EVL.swapOw ([(g9,3,(bJ 0).map iv++List.replicate (b.X.length-0) (.int .i64 0))]) ([(g10,51,(([]:List Rat)++List.replicate (b.X.length-0) 0).flatMap cqF)]) ((by rw[show (aa3).zero=[Value.int .i64 0] from rfl,zU];rfl)) ?_|refine EV.swapOw ([(g9,3,(bJ 0).map iv++List.replicate (b.X.length-0) (.int .i64 0))]) ([(g10,51,(([]:List Rat)++List.replicate (b.X.length-0) 0).flatMap cqF)]) ((by rw[show (aa3).zero=[Value.int .i64 0] from rfl,zU];rfl)) ?_);generalize Ge:b.mid y=bm at *
 refine EV.loopK (ι:=List Rat) [0,1,5,6,8,9,10,77] [5,6,8] (fun qs=>[(78,.v (.int .i64 (qs.length:Int)))]) (fun _=>[]) (fun qs=>[(g10,51,(qs++List.replicate (b.X.length-qs.length) 0).flatMap cqF),(g9,3,(bJ qs.length).map iv++List.replicate (b.X.length-qs.length) (.int .i64 0))]) (fun qs G=>qs.length<=b.X.length/\G1.Le G/\qs=(y.map fun q=>q-bm).take qs.length) (fun qs=>b.X.length-qs.length) ([]) Z Z ⟨Z,trivial⟩ trivial rfl (fun _=>rfl) (⟨qQ _,Hp.Le.refl _,rfl⟩) ?_;rintro qs G2 ai ⟨hi,dw,mR⟩;refine uR ?_;refine EV.cond Z (fun af=>?_) (fun af=>?_)
 ·simp only[nN]at af;obtain⟨q,hq⟩:∃q,y[qs.length]?=some q:=⟨_,qA oM⟩;have AP:=mK q (qF hq);have aQ:=zG q bm (bE AP oM) (bE oO oM);have Nr:=Ns.mono (aj.trans dw)
  have fk:qs++[q-bm]=(y.map fun q=>q-bm).take (qs.length+1):=by
   have hm:(y.map fun q=>q-bm)[qs.length]?=some (q-bm):=by rw[qK,hq];rfl
   rw[dZ hm,<-mR]
  refine uR ?_;refine EVL.idxB tO Z Z Z Z Z Z Z Z Z (qs.length) (qs.length*1) (rfl) (af) (rfl) ?_;refine uR ?_;refine EVL.storeOwn tO Z Z Z Z Z Z ([(g10,51,_)]) ([]) Z Z Z Z ((by rw[qJ,qV,kX,List.length_replicate];show qs.length*1+1<=_;omega)) (ZE af _ rfl) ?_;refine uR ?_;apply EV.drawn 9 kR kR;intro xv yw;(repeat refine' DD ?_);refine' DJ.idxM tO Z Z Z Z Z Z Z Z Z (Nr) (qs.length) (rfl) (oM) (QL.at (H:=H) (v:=.bool true) hq) ?_;rotate_left;(repeat (first|refine' DD ?_|(refine' DC (aQ) (h:=?_);rotate_left)));(refine DJ.nil (fun G3 ax fM=>?_);(case hS|hS2=>rfl));refine EVL.idxB tO Z Z Z Z Z Z Z Z Z (qs.length) (qs.length*5) (rfl) (af) (rfl) ?_;refine uR ?_;refine EVL.storeOwn tO Z Z Z Z Z Z ([]) ([(g9,3,_)]) Z Z Z Z ((by rw[Sa,qJ,List.length_replicate];show qs.length*5+5<=_;omega)) (ZQ qs (q-bm) af) ?_;refine uR ?_;have ew:(qs++[q-bm]).length=qs.length+1:=by rw[qJ];rfl
  refine⟨qs++[q-bm],⟨by rw[aO qs.length oM,ew];rfl,trivial⟩,sB,trivial,sB,by rw[ew];rfl,⟨by rw[ew];exact af,dw.trans ax,by rw[ew];exact fk⟩,ax,by rw[ew];omega⟩
 simp only[nN]at af;have fF:qs.length=b.X.length:=oM
 have nI:qs++List.replicate (b.X.length-qs.length) 0=(b.fit y 0).2:=by
  rw[fF,Nat.sub_self,List.replicate_zero,qG,hfz,mR,fF];exact qO (by rw[qV];omega)
 rw[nI,fF,Nat.sub_self,List.replicate_zero,qG];clear mR nI hi af fF;(first|refine EVL.publish [(g10,51,_)] [] Z fun G3 ax ei=>?_|refine EV.publish [(g10,51,_)] [] Z fun G3 ax ei=>?_);have Pg:IL G3 (.slice (some ⟨g9,0,none⟩) b.X.length b.X.length) (bJ b.X.length):=Hz (sp:=[]) (by rw[qG];exact ei) (kX _);have C9:=aj.trans (dw.trans ax);refine uR ?_;refine EV.loopK (ι:=Nat × Value × Ows × List (List Value)) [0,5,6,8,9,10,97] [5,6] (fun q=>[(98,.v (.int .i64 (q.1:Int)))]) (fun q=>[(8,54,pD b.loss (b.W:Int) bm b.rate b.tilt q.2.1)]) (fun q=>(g10,51,b6 (b.fit y q.1).2)::q.2.2.1) (fun q G=>q.1<=K/\G3.Le G/\aF 100 4 q.2.1 q.1 q.2.2.2.flatten q.2.2.1/\PTs G q.2.2.2 (b.fit y q.1).1) (fun q=>K-q.1) ((0,.slice none 0 0,[],[])) Z Z ⟨Z,trivial⟩ ⟨Z,trivial⟩ rfl (fun _=>rfl) (⟨qQ _,Hp.Le.refl _,aF.nil _ _,PTs.nil _⟩) ?_;rintro⟨k,v8,gY,tcs⟩ G4 aT ⟨hk,xE,lr,bq⟩;dsimp only at hk xE lr bq;obtain⟨a8,c8,rfl⟩:=lr.val;refine uR ?_;refine EV.cond Z (fun af=>?_) (fun af=>?_)
 case refine_2 =>
  simp only[nN]at af;obtain rfl:k=K:=oM;(first|refine EVL.publishL [(g10,51,b6 (b.fit y k).2)] gY [] ((show (g10,51,b6 (b.fit y k).2)::gY=[(g10,51,b6 (b.fit y k).2)]++(gY++[]) by rw[qG];rfl)) lr fun G5 bj E9=>?_|refine EV.publishL [(g10,51,b6 (b.fit y k).2)] gY [] ((show (g10,51,b6 (b.fit y k).2)::gY=[(g10,51,b6 (b.fit y k).2)]++(gY++[]) by rw[qG];rfl)) lr fun G5 bj E9=>?_);refine uR ?_;exact⟨a8,c8,rfl,tcs,bq.mono bj,by rw[(b.fit_len y fD k).2];exact E9⟩
 simp only[nN]at af;obtain⟨cK,nC⟩:=mY k oM;obtain⟨gl,FG⟩:=b.fit_len y fD k;have uM:(b.fit y (k+1)).1=(b.fit y k).1++[b.tree (b.fit y k).2]:=rfl;have mj:(b.fit y (k+1)).2=b.next (b.fit y k).2:=rfl;have fT:1<=D0*840*(840*b.rate.den) ^ k:=Nat.mul_pos oM (Nat.pow_pos oM);have ib:1<=2*A0*2 ^ k:=Nat.mul_pos oM (Nat.pow_pos oM);have xq:=KL (k:=k) jB cI oM;have fH:lU (b.fit y k).2:=⟨_,_,fT,ib,xq,cK⟩;have WX:=hb.tree fT ib xq cK gl;obtain⟨_,yV,AL⟩:=hb.raw fH gl;have kF:=hb.gd fH gl;have bH:=b.nodes_alikeV (b.fit y k).2;have mX:=fH.bits;clear cK mY;generalize (b.fit y k).2=left at *
 generalize (b.fit y k).1=ts at *
 have fU:=C9.trans xE;have iO:(b.nodes left).length=(b.raw left).length:=bH.len;have y8:=PW.reads (H:=G4) (L:=[]) (b:=g10) (T:=51) (cs:=b6 left) (Φ:=fun v ow=>aF 51 5 v left.length (b6 (b.goal left)) ow) (cO func35) (fun G hG hg=>ZZ (b:=b) hb.loss hb.den.2 (QL.ofOwn hg gl) oM oM (fun q hq=>qI (mX q hq) oM));refine uR ?_;refine vW ([(g10,51,b6 left)]) (gY) (y8) ?_;rintro vg owg G5 ⟨Vs,rfl,Ox⟩ bj;obtain⟨ga,gc,rfl⟩:=Ox.val;(first|refine EVL.publishL [(g10,51,b6 left)] Vs gY (rfl) Ox fun G6 bu lg=>?_|refine EV.publishL [(g10,51,b6 left)] Vs gY (rfl) Ox fun G6 bu lg=>?_);have hgl:=b.goal_len left;have hQg:QL G6 (.slice ga left.length gc) (b.goal left):=by unfold QL;rw[hgl];exact lg
 have Xb:=fU.trans (bj.trans bu);have hP:GD.P G6 (.slice none 0 0) (.slice ga left.length gc) (.v (b.goal left)):=⟨none,0,ga,gc,rfl,by rw[hgl],hQg⟩;obtain⟨S,wo,hpg⟩:=kF.pgoal (H:=G6) h8.1 oM hP (p:=b.gp left) Z Z Z Z;have iD:=zpU (p:=b.gp left) (D0:=b.D) (w:=b.W) (s:=0) (fun _=>rfl) hw.1 hw.2 h8.1 (by show b.X.length<=20;omega) gR mN rfl hb.least gm hb.gain.1 Bi hpg (hX.mono Xb) (SlC.mono Pg (xE.trans (bj.trans bu))) (by rw[kX];exact h8.1) (by rw[kX];omega) vU;have Og:((b.gp left).grow b.D 0 (bJ b.X.length) 0).1=b.raw left:=rfl;rw[Og]at iD;(first|refine EVL.swapOw ([(g10,51,b6 left)]) (gY) (rfl) ?_|refine EV.swapOw ([(g10,51,b6 left)]) (gY) (rfl) ?_);refine uR ?_;refine vW ([]) (gY++[(g10,51,b6 left)]) (iD) ?_;rintro _ owN G7 ⟨oa,oc,css,rfl,bX,ah⟩ aZ;rcases ah.2 with ⟨_,e0,_⟩|⟨g,cap,sp,e0,rfl,_,bZ,_⟩
 ·omega
 cases e0;obtain⟨_,_,rP,e1,e2,fg⟩:=ah.same yV;cases e1
 obtain rfl:rP=sp:=by
  have e3:=List.cons.inj e2;have e4:=congrArg (fun q:Nat × TypeId × List Value=>q.2.2) e3.1;exact(List.append_cancel_left (show css.flatten++sp=css.flatten++rP from e4)).symm
 clear e2;(first|refine EVL.swapOw ((g,150,css.flatten++rP)::gY) ([(g10,51,b6 left)]) (rfl) ?_|refine EV.swapOw ((g,150,css.flatten++rP)::gY) ([(g10,51,b6 left)]) (rfl) ?_);refine uR ?_;refine EV.meetK (ι:=List (List Value)) [0,5,6,8,9,10,13,97,98] [5,6,8,13] (fun _=>[]) (fun _=>[]) (fun _=>(g10,51,b6 left)::gY) (fun q G=>G7.Le G/\ig G q (b.nodes left)/\SlC G (.slice (some ⟨g,0,none⟩) (b.raw left).length oc) (b.raw left).length 21 q.flatten) Z Z (fun _=>rfl) ?_ ?_
 ·by_cases e1:b.loss=1
  ·rw[show b.nodes left=b.raw left from if_pos e1];rw[show (b.loss == 2)=false by rw[e1];rfl];(first|refine EVL.publishL [(g10,51,b6 left)] [(g,150,css.flatten++rP)] gY (rfl) ah fun G8 bt E9=>?_|refine EV.publishL [(g10,51,b6 left)] [(g,150,css.flatten++rP)] gY (rfl) ah fun G8 bt E9=>?_);refine uR ?_;exact⟨css,trivial,sB,trivial,sB,rfl,bt,bX.mono bt,E9⟩
  have e2:=hb.loss.resolve_left e1;have OO:=PW.reads (H:=G7) (L:=[(g,150,css.flatten++rP)]) (b:=g10) (T:=51) (cs:=b6 left) (Φ:=fun _ ow=>∃dh,ow=[(g,150,dh.flatten++rP)]/\dh.length=css.length/\ig G7 dh (b.mids left (b.raw left))) (cO func37) (fun G hG hg=>zlU (H0:=G7) hb e2 hG (hX.mono ((Xb.trans aZ).trans hG)) (QL.ofOwn hg gl) gl fH (fun q hq=>qI (mX q hq) oM) bX bZ);rw[show b.nodes left=b.mids left (b.raw left) from if_neg e1];rw[show (b.loss == 2)=true by rw[e2];rfl];refine uR ?_;refine vW ([(g10,51,b6 left),(g,150,css.flatten++rP)]) (gY) (OO) ?_;rintro _ _ G8 ⟨_,rfl,dh,rfl,cj,mU⟩ bt;have ao:=fg dh.flatten (by rw[mU.flat_len,bX.flat_len,cj]);(first|refine EVL.publishL [(g10,51,b6 left)] [(g,150,dh.flatten++rP)] gY (rfl) ao fun G9 dG VV=>?_|refine EV.publishL [(g10,51,b6 left)] [(g,150,dh.flatten++rP)] gY (rfl) ao fun G9 dG VV=>?_);refine uR ?_;exact⟨dh,trivial,sB,trivial,sB,rfl,bt.trans dG,mU.mono (bt.trans dG),VV⟩
 rintro dh G8 ⟨bt,mU,fk⟩;have J7:nZ G8 [.int .i64 2,.int .i64 0,.int .i64 (b.W:Int),.slice (some ⟨g,0,none⟩) (b.raw left).length oc] 2 0 (b.W:Int) (b.nodes left):=⟨some ⟨g,0,none⟩,oc,dh,by rw[iO],mU,by rw[iO];exact fk⟩;have xB:=bj.trans (bu.trans (aZ.trans bt));have tv:=fU.trans xB;have hQ0:=hX.mono tv;have NM:=jx.mono tv;(first|refine EVL.swapOw ([(g10,51,b6 left)]) (gY) (rfl) ?_|refine EV.swapOw ([(g10,51,b6 left)]) (gY) (rfl) ?_);refine uR ?_;refine EVL.app1 tO Z Z Z Z Z Z Z Z Z Z Z Z Z Z Z Z Z Z Z (fun _=>rfl) (gY) ([(g10,51,b6 left)]) (rfl) (lr) oM fun _=>?_;intro v9 wy gD;obtain⟨a9,c9,rfl⟩:=gD.val;(first|refine EVL.swapOw (wy) ([(g10,51,b6 left)]) (rfl) ?_|refine EV.swapOw (wy) ([(g10,51,b6 left)]) (rfl) ?_);refine uR ?_;refine EV.loopK (ι:=Nat) [0,5,6,8,9,10,13,97,98,135,136] [5,6,8,13] (fun i=>[(137,.v (.int .i64 (i:Int)))]) (fun _=>[]) (fun i=>(g10,51,b6 ((b.next left).take i++left.drop i))::wy) (fun i G=>i<=b.X.length/\G8.Le G) (fun i=>b.X.length-i) (0) Z Z ⟨Z,trivial⟩ trivial rfl (fun _=>rfl) (⟨qQ _,Hp.Le.refl _⟩) ?_;rintro i G9 dG ⟨hi,gu⟩;have er:(b.next left).length=left.length:=by unfold BG.next;rw[List.length_zipWith];omega
 have gS:=RC er i;refine uR ?_;refine EV.cond Z (fun mW=>?_) (fun mW=>?_)
 ·simp only[nN]at mW;obtain⟨x,hx⟩:=gE mW;obtain⟨q,dR⟩:∃q,left[i]?=some q:=⟨_,qA oM⟩;obtain⟨ux,ex,wD,Ap⟩:=aG.at hx;obtain⟨Ao,EP⟩:=hb.each x (qF hx);have uJ:(b.next left)[i]?=some (q-b.rate*(iU x (b.tree left)).value):=Cy hx dR;have df:=IB WX x;have AP:=mX q (qF dR);have hval:=fun (G:Hp) (hG:G9.Le G)=>zp1 (J7.mono (gu.trans hG)) WX.ok (SlC.mono Ap (tv.trans (gu.trans hG))) (by rw[Ao]) (fun q hq=>bE (EP q hq) oM);have hmul:=Du b.rate (iU x (b.tree left)).value (bE hr oM) (bE df oM);have AY:=pG b.rate (iU x (b.tree left)).value;have aQ:=zG q (b.rate*(iU x (b.tree left)).value) (bE AP oM) (bE (n:=1000) oM oM)
  have OO:((b.next left).take i++left.drop i)[i]?=some q:=by
   rw[qL (by rw[qP];omega),qP,qn oM,Nat.sub_self,List.getElem?_drop];exact dR
  have aK:=B3 (l:=(b.next left).take i++left.drop i) (j:=i) [] (q-b.rate*(iU x (b.tree left)).value) oM;rw[RB er uJ,qG,qG]at aK;have nB:∀(G:Hp),G9.Le G->PC prog 39 #[.agg [.int .i64 2,.int .i64 0,.int .i64 (b.W:Int),.slice (some ⟨g,0,none⟩) (b.raw left).length oc].toArray,.slice ux x.length ex] G fun r _=>r=aC (iU x (b.tree left)).value:=hval;generalize (iU x (b.tree left)).value=vl at *
  refine uR ?_;refine vI ((NM.mono gu)) (i) (rfl) (mW) (wD) ?_;refine uR ?_;apply EV.drawn 13 kR kR;intro xv yw;(repeat refine' DD ?_);refine' DJ.idxB tO Z Z Z Z Z Z Z Z Z (i) (i*5) (rfl) (mW) (rfl) ?_;rotate_left;refine' DJ.ofVal (az.loadOwn tO Z Z Z Z (0) Z (QL.at (H:=H) (v:=.bool true) OO) Z Z) Z Z Z ?_;rotate_left;(repeat refine' DD ?_);refine' vC (cO func39) (fun G hG hd=>nB G hG) ?_;rotate_left;(repeat (first|refine' DD ?_|(refine' DC (hmul) (h:=?_);rotate_left)|(refine' DC (aQ) (h:=?_);rotate_left)));(refine DJ.nil (fun G1 aj gV=>?_);(case hS|hS2=>rfl));refine EVL.idxB tO Z Z Z Z Z Z Z Z Z (i) (i*5) (rfl) (mW) (rfl) ?_;refine EVL.storeOwn tO Z Z Z Z Z Z ([]) (wy) Z Z Z Z ((by rw[rH,gS];show i*5+5<=_;omega)) (aK) ?_;refine uR ?_;exact⟨i+1,⟨by rw[aO i (by omega)];rfl,trivial⟩,sB,trivial,sB,rfl,⟨mW,gu.trans aj⟩,aj,by omega⟩
 ·simp only[nN]at mW;obtain rfl:i=b.X.length:=oM;rw[qO oM,List.drop_eq_nil_of_le oM,qG];refine uR ?_;exact⟨(k+1,.slice a9 (k+1) c9,wy,tcs++[[.int .i64 2,.int .i64 0,.int .i64 (b.W:Int),.slice (some ⟨g,0,none⟩) (b.raw left).length oc]]),⟨by rw[aO k (by omega)];rfl,trivial⟩,sB,⟨Z,trivial⟩,sB,by dsimp only;rw[mj],⟨af,xE.trans (xB.trans gu),by dsimp only;rw[List.flatten_append,List.flatten_cons,List.flatten_nil,qG];exact gD,by dsimp only;rw[uM];exact Cg (R:=fun c (t:Tr)=>nZ G9 c t.kd t.cl t.w t.ns) (x:=[.int .i64 2,.int .i64 0,.int .i64 (b.W:Int),.slice (some ⟨g,0,none⟩) (b.raw left).length oc]) (y:=b.tree left) (bq.mono (xB.trans gu)) (J7.mono gu)⟩,xB.trans gu,by dsimp only;omega⟩
theorem zos {H:Hp} {vs:Value} {loss rounds deep least:Int} {rate tilt gain:Rat} (h:tU H vs loss rounds deep least rate tilt gain) (q1:rq rate) (q2:rq tilt) (q3:rq gain) :
  PC prog 13 #[vs] H fun r _=>r=.agg (KD loss rounds deep least rate tilt gain).toArray:=by
 obtain⟨b1,a1,l1,c1,a2,l2,c2,b2,a3,l3,c3,a4,l4,c4,b3,a5,l5,c5,a6,l6,c6,rfl,h1,h2,h3⟩:=h;refine BD func13 ntmps13 ?_;refine uR ?_;apply EV.drawn 14 kR kR;intro xv yw;(repeat refine' DD ?_);refine' vC (cO func40) (fun G hG hd=>Dr (RQ.mono h1 hG) q1) ?_;rotate_left;(repeat refine' DD ?_);refine' vC (cO func40) (fun G hG hd=>Dr (RQ.mono h2 hG) q2) ?_;rotate_left;(repeat refine' DD ?_);refine' vC (cO func41) (fun G hG hd=>znU (RQ.mono h3 hG) q3) ?_;rotate_left;(repeat refine' DD ?_);(refine DJ.nil (fun G1 aj gV=>?_);(case hS|hS2=>rfl));refine uR ?_;rfl
end
section
open Go.ChangeShapes Go.WideShapes Go.ChangeAt Go.RowKit
def Kw (H:Hp) (v:Value):Prop:=∃n w dp ls rd rt at' tl vy vl ly ll,v=QZ n w dp ls rd rt at' tl vy vl/\(gM n/\gM w/\gM dp/\gM ls/\gM rd/\gM rt/\gM at')/\(IL H vy ly/\∀z,z∈ly->gM z)/\(IL H vl ll/\∀z,z∈ll->gM z)
theorem raw21_open {H:Type} {enc:TypeId × Value->H} {w:World} {base:Nat} {spare:Nat->Bool} {held:Bool} {v:Value} {d:DataW H} {p:List MemPlace} (hv:∃cs,v=.agg cs) (h:DataW.Trod enc Tryz.prog w base spare held 24 v d p):Kw (BI w) v:=by
 obtain⟨cs,rfl⟩:=hv;obtain⟨fuel,h⟩:=h;obtain⟨xs,n,_,hx,hl,hlen,hf⟩:=DataW.trod_struct Tryz.underlying24 h;rw[show Tryz.prog.cellsOf 24=10 from by kernel_rfl]at hl;have FL:cs.toList.length=10:=hl;obtain⟨l,rfl⟩:∃l:List Value,cs=l.toArray:=⟨cs.toList,by simp⟩;have O5:l.length=10:=by simpa using FL
 obtain⟨c0,c1,c2,c3,c4,c5,c6,c7,c8,c9,rfl⟩:=Yg O5;have NB:xs.length=10:=hlen;have f0:DataW.trod enc Tryz.prog w base spare held n 3 (([c0,c1,c2,c3,c4,c5,c6,c7,c8,c9].drop 0).take (Tryz.prog.cellsOf 3))=xs[0]?:=hf 0 _ rfl;have f1:DataW.trod enc Tryz.prog w base spare held n 3 (([c0,c1,c2,c3,c4,c5,c6,c7,c8,c9].drop 1).take (Tryz.prog.cellsOf 3))=xs[1]?:=hf 1 _ rfl;have f2:DataW.trod enc Tryz.prog w base spare held n 3 (([c0,c1,c2,c3,c4,c5,c6,c7,c8,c9].drop 2).take (Tryz.prog.cellsOf 3))=xs[2]?:=hf 2 _ rfl;have f3:DataW.trod enc Tryz.prog w base spare held n 3 (([c0,c1,c2,c3,c4,c5,c6,c7,c8,c9].drop 3).take (Tryz.prog.cellsOf 3))=xs[3]?:=hf 3 _ rfl;have f4:DataW.trod enc Tryz.prog w base spare held n 3 (([c0,c1,c2,c3,c4,c5,c6,c7,c8,c9].drop 4).take (Tryz.prog.cellsOf 3))=xs[4]?:=hf 4 _ rfl;have f5:DataW.trod enc Tryz.prog w base spare held n 3 (([c0,c1,c2,c3,c4,c5,c6,c7,c8,c9].drop 5).take (Tryz.prog.cellsOf 3))=xs[5]?:=hf 5 _ rfl;have f6:DataW.trod enc Tryz.prog w base spare held n 3 (([c0,c1,c2,c3,c4,c5,c6,c7,c8,c9].drop 6).take (Tryz.prog.cellsOf 3))=xs[6]?:=hf 6 _ rfl;have f7:DataW.trod enc Tryz.prog w base spare held n 4 (([c0,c1,c2,c3,c4,c5,c6,c7,c8,c9].drop 7).take (Tryz.prog.cellsOf 4))=xs[7]?:=hf 7 _ rfl;have f8:DataW.trod enc Tryz.prog w base spare held n 22 (([c0,c1,c2,c3,c4,c5,c6,c7,c8,c9].drop 8).take (Tryz.prog.cellsOf 22))=xs[8]?:=hf 8 _ rfl;have f9:DataW.trod enc Tryz.prog w base spare held n 22 (([c0,c1,c2,c3,c4,c5,c6,c7,c8,c9].drop 9).take (Tryz.prog.cellsOf 22))=xs[9]?:=hf 9 _ rfl;rw[show Tryz.prog.cellsOf 3=1 from by kernel_rfl]at f0 f1 f2 f3 f4 f5 f6;rw[show Tryz.prog.cellsOf 4=1 from by kernel_rfl]at f7;rw[show Tryz.prog.cellsOf 22=1 from by kernel_rfl]at f8 f9;rw[qA (by omega)]at f0 f1 f2 f3 f4 f5 f6 f7 f8 f9;obtain⟨z0,e0,_,w0⟩:=DataW.trod_int Tryz.underlying3 f0;obtain⟨z1,e1,_,w1⟩:=DataW.trod_int Tryz.underlying3 f1;obtain⟨z2,e2,_,w2⟩:=DataW.trod_int Tryz.underlying3 f2;obtain⟨z3,e3,_,w3⟩:=DataW.trod_int Tryz.underlying3 f3;obtain⟨z4,e4,_,w4⟩:=DataW.trod_int Tryz.underlying3 f4;obtain⟨z5,e5,_,w5⟩:=DataW.trod_int Tryz.underlying3 f5;obtain⟨z6,e6,_,w6⟩:=DataW.trod_int Tryz.underlying3 f6;obtain⟨b7,e7,_⟩:=DataW.trod_bool Tryz.underlying4 f7;obtain⟨a8,l8,k8,b8,e8,s8,d8⟩:=To Tryz.underlying22 Tryz.underlying3 kR f8;obtain⟨a9,l9,k9,b9,e9,s9,d9⟩:=To Tryz.underlying22 Tryz.underlying3 kR f9;have g0:[c0]=[.int .i64 z0]:=e0;have g1:[c1]=[.int .i64 z1]:=e1;have g2:[c2]=[.int .i64 z2]:=e2;have g3:[c3]=[.int .i64 z3]:=e3;have g4:[c4]=[.int .i64 z4]:=e4;have g5:[c5]=[.int .i64 z5]:=e5;have g6:[c6]=[.int .i64 z6]:=e6;have g7:[c7]=[.bool b7]:=e7;have g8:[c8]=[.slice a8 l8 k8]:=e8;have g9:[c9]=[.slice a9 l9 k9]:=e9;cases g0;cases g1;cases g2;cases g3;cases g4;cases g5;cases g6;cases g7;cases g8;cases g9;exact⟨z0,z1,z2,z3,z4,z5,z6,b7,_,_,b8,b9,rfl,⟨i64_bounds w0,i64_bounds w1,i64_bounds w2,i64_bounds w3,i64_bounds w4,i64_bounds w5,i64_bounds w6⟩,⟨s8,fun z hz=>i64_bounds (d8 z hz)⟩,⟨s9,fun z hz=>i64_bounds (d9 z hz)⟩⟩
theorem Zc (z:Int):Gr 12 20 (kP z):=by
 unfold kP;have jB:=Jd (z.tdiv 41 % 6).toNat
 have m1:=Int.emod_nonneg z (show (41:Int)≠0 by omega);have m2:=Int.emod_lt_of_pos z (show (0:Int)<41 by omega);generalize u7 (z.tdiv 41 % 6).toNat=d at *
 generalize hn:z % 41-20=n at *
 rw[Rat.divInt_eq_div];have hd:d=1\/d=2\/d=3\/d=4:=oM;have Dd:(((12:Nat):Int):Rat)=12:=rfl;rcases hd with rfl | rfl | rfl | rfl
 ·exact⟨n*12,by rw[Dd,Rat.intCast_mul];have:((1:Int):Rat)=1:=rfl;have:((12:Int):Rat)=12:=rfl;grind,by omega⟩
 ·exact⟨n*6,by rw[Dd,Rat.intCast_mul];have:((2:Int):Rat)=2:=rfl;have:((6:Int):Rat)=6:=rfl;grind,by omega⟩
 ·exact⟨n*4,by rw[Dd,Rat.intCast_mul];have:((3:Int):Rat)=3:=rfl;have:((4:Int):Rat)=4:=rfl;grind,by omega⟩
 ·exact⟨n*3,by rw[Dd,Rat.intCast_mul];have:((4:Int):Rat)=4:=rfl;have:((3:Int):Rat)=3:=rfl;grind,by omega⟩
theorem Y5 {l:List Int} {n:Nat}:∀q,q∈lR l n->Gr 12 20 q:=fun q hq=>by
 obtain⟨i,hi,rfl⟩:=List.mem_map.1 hq;split
 ·exact Zc _
 ·exact Gr.zero _ _
def Kp (n w dp ls rt at':Int) (tl:Bool) (ll:List Int):BG:=⟨if tl then 2 else 1,Rat.divInt 1 (1+rt % 4),zE tl at',oe ll (1+n % 8).toNat (1+w % 3).toNat,(1+w % 3).toNat,(dp % 3).toNat,1+ls % 3,0⟩
theorem Y9 (r:Int):(0<Rat.divInt 1 (1+r % 4)/\Rat.divInt 1 (1+r % 4)<=1)/\(Rat.divInt 1 (1+r % 4)).den<=4:=by
 have h:r % 4=0\/r % 4=1\/r % 4=2\/r % 4=3:=oM;rcases h with h | h | h | h <;> rw[h] <;> decide +kernel
theorem Zm (a:Int):(0<zE true a/\zE true a<1)/\ht (zE true a)<=10:=by
 unfold zE;have h:a % 5=0\/a % 5=1\/a % 5=2\/a % 5=3\/a % 5=4:=oM;rcases h with h | h | h | h | h <;> rw[h] <;> decide +kernel
theorem Y8 (n w dp ls rt at':Int) (tl:Bool) (ll:List Int):(Kp n w dp ls rt at' tl ll).Ok:=by
 have h1:=IP ll (1+n % 8).toNat (1+w % 3).toNat
 obtain⟨r1,r2⟩:=Y9 rt;obtain⟨t1,t2⟩:=Zm at';have hn:=Int.emod_nonneg n (show (8:Int)≠0 by omega);have mj:=Int.emod_lt_of_pos n (show (0:Int)<8 by omega);have hw:=Int.emod_nonneg w (show (3:Int)≠0 by omega);have mO:=Int.emod_lt_of_pos w (show (0:Int)<3 by omega);have hl:=Int.emod_nonneg ls (show (3:Int)≠0 by omega);have eH:=Int.emod_lt_of_pos ls (show (0:Int)<3 by omega);have ri:=Int.emod_lt_of_pos dp (show (0:Int)<3 by omega);refine⟨?_,r1,?_,?_,⟨r2,?_⟩,?_,?_,fun x hx=>zoq x hx,?_,?_,?_⟩
 ·cases tl
  ·exact .inl Z
  ·exact .inr Z
 ·cases tl
  ·exact fun _=>rfl
  ·exact fun k=>absurd k (by decide:¬(2:Int)=1)
 ·cases tl
  ·exact fun k=>absurd k (by decide:¬(1:Int)=2)
  ·exact fun _=>t1
 ·cases tl
  ·show ht 0<=10;rw[rK];decide
  ·exact t2
 ·show 1<=(oe ll (1+n % 8).toNat (1+w % 3).toNat).length/\(oe ll (1+n % 8).toNat (1+w % 3).toNat).length<=8;rw[h1];omega
 ·show 1<=(1+w % 3).toNat/\(1+w % 3).toNat<=20;omega
 ·show (dp % 3).toNat<=10;omega
 ·show 1<=1+ls % 3/\1+ls % 3<=300;omega
 ·exact⟨Rat.le_refl,by show ht 0<=10;rw[rK];decide⟩
theorem Rb {r K:Nat} (hr:r<=4) (hK:K<=6):bl ((2*20*2 ^ K)*(12*840*(840*r) ^ K))<=95:=by
 by_cases h0:r=0
 ·subst h0;refine qI (ik (Nat.mul_le_mul (qb _ (qc oM hK)) (qb _ (show (840*0) ^ K<=1 by rw[Nat.mul_zero];cases K with | zero=>exact qH _ | succ k=>rw[Nat.zero_pow (by omega)];omega)))) (cf (by decide))
 exact qI (ik (Nat.mul_le_mul (qb _ (qc oM hK)) (qb _ (qI (qc oM hK) (Nat.pow_le_pow_left (qb 840 hr) 6))))) (cf (by decide))
theorem zpH {H:Hp} {v:Value} (h:Kw H v):PC Tryz.prog 4 #[v] H fun r G=>∃(b:BG) (y:List Rat) (K:Nat) (vx vv vs:Value),r=.tuple #[vx,vv,vs]/\b.Ok/\RLL G vx b.X/\RL G vv y/\tU G vs b.loss (K:Int) (b.D:Int) b.least b.rate b.tilt b.gain/\y.length=b.X.length/\(∀q,q∈y->Gr 12 20 q)/\K<=3/\b.gain=0/\b.W<=3:=by
 obtain⟨n,w,dp,ls,rd,rt,at',tl,vy,vl,ly,ll,rfl,⟨hn,hw,Bi,dE,jB,gB,rm⟩,⟨hy,Np⟩,hl,df⟩:=h;have e1:=Int.emod_nonneg n (show (8:Int)≠0 by omega);have e2:=Int.emod_nonneg w (show (3:Int)≠0 by omega);have e3:=Int.emod_nonneg dp (show (3:Int)≠0 by omega);have e4:=Int.emod_nonneg rd (show (4:Int)≠0 by omega);have e5:=Int.emod_lt_of_pos rd (show (0:Int)<4 by omega);have e6:=Int.emod_lt_of_pos w (show (0:Int)<3 by omega);refine(zrG n w dp ls rd rt at' tl hn hw Bi dE jB gB rm hy Np hl df (N:=(1+n % 8).toNat) (W:=(1+w % 3).toNat) oM oM).mono ?_;rintro r G ⟨vx,vv,vs,rfl,r1,r2,r3⟩ hG;refine⟨Kp n w dp ls rt at' tl ll,_,(rd % 4).toNat,vx,vv,vs,rfl,Y8 ..,r1,r2,?_,?_,Y5,by omega,rfl,by show (1+w % 3).toNat<=3;omega⟩
 ·rw[show (((rd % 4).toNat:Nat):Int)=rd % 4 by omega,show ((Kp n w dp ls rt at' tl ll).D:Int)=dp % 3 by show (((dp % 3).toNat:Nat):Int)=dp % 3;omega];exact r3
 ·show (lR ly (1+n % 8).toNat).length=(oe ll (1+n % 8).toNat (1+w % 3).toNat).length;rw[Ix,IP]
end
section
open Go.RowKit _root_.Go.Proofs.Tryz
theorem tT.e {W:Nat} {t:Tr} (h:tT W t):jN (W:Int) t=0:=by
 have h1:t.ns≠[]:=fun e=>by have:=h.len.1;rw[e]at this;exact absurd this (by decide)
 have hc:ni t=0:=by
  unfold ni;rw[if_neg (fun k=>k (.inr h.kd)),if_neg];rintro (k | k)
  ·rw[h.kd]at k;exact absurd k (by decide)
  ·exact h1 k
 unfold jN;rw[if_neg (fun k=>k hc),if_neg];rintro (k | k)
 ·exact k h.kd
 ·exact k h.wide
theorem zls {loss:Int} {W:Nat} {rate tilt:Rat} {ts:List Tr} (h0:loss=1\/loss=2) (hW:1<=W/\W<=20) (hl:ts.length<=50) (hr:fP loss rate tilt=true) (ht:∀t,t∈ts->tT W t):tZ loss (W:Int) rate tilt ts=0:=by
 rw[Sz h0 oM hr];exact Un fun t h=>(ht t (List.mem_of_mem_take h)).e
abbrev z5:List Value:=[.bool false,.int .u64 0,.string ⟨#[]⟩,.int .u64 0,.string ⟨#[]⟩]
theorem QV:z5=aB (aC 0):=rN.symm
theorem RF:∀q,q∈rG->Gr 1 6 q:=fun q hq=>by
 rcases List.mem_cons.1 hq with rfl | hq
 ·exact⟨1,by decide +kernel,by decide⟩
 rcases List.mem_cons.1 hq with rfl | hq
 ·exact⟨2,by decide +kernel,by decide⟩
 rcases List.mem_cons.1 hq with rfl | hq
 ·exact⟨6,by decide +kernel,by decide⟩
 ·cases hq
theorem YM {H:Hp} {vx vy:Value} (hX:QLL H vx [[0],[0],[0]]) (hy:QL H vy rG):PC prog 10 #[vx,vy,.agg (.int .i64 1::.int .i64 0::(aB (aC (1 / 2))++(z5++(.int .i64 0::.int .i64 1::z5)))).toArray] H fun r _=>∃ta tc,r=.tuple #[.agg (pD 1 1 3 (1 / 2) 0 (.slice ta 0 tc)).toArray,.int .i64 0]:=by
 have h:=Li ZX (y:=rG) (K:=0) hX hy rfl oM oM RF oM (cf (by decide));rw[YK]at h;rw[QV];exact h.mono fun r G ⟨ta,tc,e,_⟩ _=>⟨ta,tc,e⟩
theorem YL {H:Hp} {vx vy:Value} (hX:QLL H vx [[0],[0],[0]]) (hy:QL H vy rG):PC prog 10 #[vx,vy,.agg (.int .i64 2::.int .i64 0::(aB (aC (1 / 2))++(aB (aC (1 / 2))++(.int .i64 0::.int .i64 1::z5)))).toArray] H fun r _=>∃ta tc,r=.tuple #[.agg (pD 2 1 2 (1 / 2) (1 / 2) (.slice ta 0 tc)).toArray,.int .i64 0]:=by
 have h:=Li ZW (y:=rG) (K:=0) hX hy rfl oM oM RF oM (cf (by decide));rw[YJ]at h;rw[QV];exact h.mono fun r G ⟨ta,tc,e,_⟩ _=>⟨ta,tc,e⟩
theorem KU {H:Hp} {b m s:Nat} {cs:List Value} (h:H b=some cs.toArray) (hl:cs.length=m*s):SlC H (.slice (some ⟨b,0,none⟩) m m) m s cs:=⟨hl,.inr ⟨b,0,m,_,rfl,qH _,h,fun j x hj=>by rw[qu];simpa using hj⟩⟩
theorem KV {G:Hp} {b:Nat} {c0 c1 c2:Value} {q:Rat} (h:G b=some #[c0,c1,c2]) (hx:RQ G (.agg #[c0,c1,c2]) q):RL G (.slice (some ⟨b,0,none⟩) 1 1) [q]:=RL.one (x:=.agg #[c0,c1,c2]) (KU (cs:=[c0,c1,c2]) h rfl) hx
theorem Yy {G:Hp} {b:Nat} {c0 c1 c2 d0 d1 d2 e0 e1 e2:Value} {p q r:Rat} (h:G b=some #[c0,c1,c2,d0,d1,d2,e0,e1,e2]) (h1:RQ G (.agg #[c0,c1,c2]) p) (h2:RQ G (.agg #[d0,d1,d2]) q) (h3:RQ G (.agg #[e0,e1,e2]) r):RL G (.slice (some ⟨b,0,none⟩) 3 3) [p,q,r] :=
 ⟨[.agg #[c0,c1,c2],.agg #[d0,d1,d2],.agg #[e0,e1,e2]],rfl,fun j v x e1 e2=>(by
  match j,e1,e2 with
  | 0,e1,e2=>cases e1;cases e2;exact h1
  | 1,e1,e2=>cases e1;cases e2;exact h2
  | 2,e1,e2=>cases e1;cases e2;exact h3),KU (cs:=[c0,c1,c2,d0,d1,d2,e0,e1,e2]) h rfl⟩
set_option maxRecDepth 100000 in
theorem Mp {H:Hp}:PC prog 9 #[] H fun r _=>r=.bool true:=by
 have eT:=fun (z:Int) (h1:-9223372036854775808<=z) (h2:z<9223372036854775808) (G:Hp)=>ju (H:=G) z h1 h2;have cX:PV prog 28 #[.int .i64 1,.int .i64 2] (.tuple #[aC (1 / 2),.bool true]):=(zrI 1 2 oM oM).of_eq (by rw[show mkRat 1 (2:Int).natAbs=1 / 2 by decide +kernel]);have i1:=fun G:Hp=>QO (H:=G) 3 (by show ht 3<=_;decide +kernel) 3 1 oM oM oM oM oM (by decide +kernel);have i2:=fun G:Hp=>QO (H:=G) 2 (by show ht 2<=_;decide +kernel) 2 1 oM oM oM oM oM (by decide +kernel);refine BD func9 ntmps9 ?_;refine uR ?_;refine EVL.call Z Z Z Z Z (eT 0 oM oM _) ?_;rintro r1 G1 h1 aj;obtain⟨_,_,_,_,_,_,rfl,_⟩:=id h1;refine uR ?_;refine EVL.lit tO Z Z Z Z Z Z Z Z Z Z Z fun b1=>?_;(first|refine EVL.publish [] [] Z fun G2 ai cG=>?_|refine EV.publish [] [] Z fun G2 ai cG=>?_);have l1:RL G2 (.slice (some ⟨b1,0,none⟩) 1 1) [((0:Int):Rat)]:=KV cG (h1.mono ai);refine uR ?_;refine EVL.call Z Z Z Z Z (eT 0 oM oM _) ?_;rintro r2 G3 h2 ax;obtain⟨_,_,_,_,_,_,rfl,_⟩:=id h2;refine uR ?_;refine EVL.lit tO Z Z Z Z Z Z Z Z Z Z Z fun b2=>?_;(first|refine EVL.publish [] [] Z fun G4 aT cP=>?_|refine EV.publish [] [] Z fun G4 aT cP=>?_);have l2:RL G4 (.slice (some ⟨b2,0,none⟩) 1 1) [((0:Int):Rat)]:=KV cP (h2.mono aT);refine uR ?_;refine EVL.call Z Z Z Z Z (eT 0 oM oM _) ?_;rintro r3 G5 h3 bj;obtain⟨_,_,_,_,_,_,rfl,_⟩:=id h3;refine uR ?_;refine EVL.lit tO Z Z Z Z Z Z Z Z Z Z Z fun b3=>?_;(first|refine EVL.publish [] [] Z fun G6 bu ei=>?_|refine EV.publish [] [] Z fun G6 bu ei=>?_);have l3:RL G6 (.slice (some ⟨b3,0,none⟩) 1 1) [((0:Int):Rat)]:=KV ei (h3.mono bu);refine uR ?_;refine EVL.lit tO Z Z Z Z Z Z Z Z Z Z Z fun b4=>?_;(first|refine EVL.publish [] [] Z fun G7 aZ mZ=>?_|refine EV.publish [] [] Z fun G7 aZ mZ=>?_)
 have hX:RLL G7 (.slice (some ⟨b4,0,none⟩) 3 3) [[((0:Int):Rat)],[((0:Int):Rat)],[((0:Int):Rat)]]:=⟨[.slice (some ⟨b1,0,none⟩) 1 1,.slice (some ⟨b2,0,none⟩) 1 1,.slice (some ⟨b3,0,none⟩) 1 1],⟨rfl,fun j v x e1 e2=>(by
  match j,e1,e2 with
  | 0,e1,e2=>cases e1;cases e2;exact l1.mono (ax.trans (aT.trans (bj.trans (bu.trans aZ))))
  | 1,e1,e2=>cases e1;cases e2;exact l2.mono (bj.trans (bu.trans aZ))
  | 2,e1,e2=>cases e1;cases e2;exact l3.mono aZ)⟩,KU mZ Z⟩
 refine uR ?_;refine vA (TQ hX (by decide) (show ∀x,x∈[[((0:Int):Rat)],[((0:Int):Rat)],[((0:Int):Rat)]]->x.length<=1000000/\∀q,q∈x->ht q<=100000000 by decide +kernel)) ?_;rintro r4 G8 WQ bt;obtain⟨xa,xc,rfl⟩:=WQ.val;refine uR ?_;refine EVL.call Z Z Z Z Z (eT 1 oM oM _) ?_;rintro r5 G9 h5 dG;obtain⟨_,_,_,_,_,_,rfl,_⟩:=id h5;refine uR ?_;refine EVL.call Z Z Z Z Z (eT 2 oM oM _) ?_;rintro r6 G10 h6 fL;obtain⟨_,_,_,_,_,_,rfl,_⟩:=id h6;refine uR ?_;refine EVL.call Z Z Z Z Z (eT 6 oM oM _) ?_;rintro r7 G11 h7 lL;obtain⟨_,_,_,_,_,_,rfl,_⟩:=id h7;refine uR ?_;refine EVL.lit tO Z Z Z Z Z Z Z Z Z Z Z fun b5=>?_;(first|refine EVL.publish [] [] Z fun G12 dw J2=>?_|refine EV.publish [] [] Z fun G12 dw J2=>?_);have hY:RL G12 (.slice (some ⟨b5,0,none⟩) 3 3) [((1:Int):Rat),((2:Int):Rat),((6:Int):Rat)]:=Yy J2 (h5.mono (fL.trans (lL.trans dw))) (h6.mono (lL.trans dw)) (h7.mono dw);refine uR ?_;refine vA (LG hY (by decide) (show ∀q,q∈[((1:Int):Rat),((2:Int):Rat),((6:Int):Rat)]->ht q<=100000000 by decide +kernel)) ?_;rintro r8 G13 Bv fc;obtain⟨ya,yc,rfl⟩:=SlC.val Bv;have Gn:=WQ.mono (dG.trans (fL.trans (lL.trans (dw.trans fc))))
 repeat (first|refine RUN ?_|refine CV (cX) ?_|refine CE (cX) ?_)
 refine vA (YM Gn Bv) ?_;rintro _ G14 ⟨_,_,rfl⟩ GG;refine uR ?_;refine vA (YL (Gn.mono GG) (SlC.mono Bv GG)) ?_;rintro _ G15 ⟨_,_,rfl⟩ hG15;have j1:=i1 G15;have j2:=i2 G15
 repeat (first|refine RUN ?_|refine CV (j1) ?_|refine CV (j2) ?_|refine CE (j1) ?_|refine CE (j2) ?_)
 rfl
structure Ys (b:BG) (y:List Rat) (K:Nat):Prop where
 trees:∀t,t∈(b.fit y K).1->tT b.W t
 len:(b.fit y K).1.length=K
 mid:ht (b.mid y)<=95
 rate:ht b.rate<=10
 y95:∀q,q∈y->ht q<=95
 check:tZ b.loss (b.W:Int) b.rate b.tilt (b.fit y K).1=0
theorem QQ {b:BG} (hb:b.Ok) {y:List Rat} {K D A:Nat} (fD:y.length=b.X.length) (hD:1<=D) (hA:1<=A) (hg:∀q,q∈y->Gr D A q) (hK:K<=50) (cI:bl ((2*A*2 ^ K)*(D*840*(840*b.rate.den) ^ K))<=95):Ys b y K:=by
 have hT:=(hb.fit hD hA hg fD cI K (qH _)).2;have eU:=(b.fit_len y fD K).2;have jB:=b.rate.den_nz;have jq:bl (A*(D*840))<=95:=qI (ik (Nat.mul_le_mul (by rw[qW 2 A,Nat.mul_assoc];exact Nat.le_mul_of_pos_right A (Nat.mul_pos oM (Nat.pow_pos oM))) (Nat.le_mul_of_pos_right _ (Nat.pow_pos oM)))) cI;refine⟨hT,eU,qI ((hb.mid_gr hg fD).bits oM hA) jq,?_,fun q k=>qI (((hg q k).up 840).bits oM hA) jq,zls hb.loss ⟨hb.wide.1,hb.wide.2⟩ oM (Te hb) hT⟩;have h:=hb.rd.bits oM oM;rw[Nat.one_mul]at h;exact qI h (qI (ik hb.den.1) (cf (by decide)))
end
section
end
section
end
section
open Go.RowKit _root_.Go.Proofs.Tryz
end
end Go.Proofs.YtkeklikocibiaaaGreatDoor
