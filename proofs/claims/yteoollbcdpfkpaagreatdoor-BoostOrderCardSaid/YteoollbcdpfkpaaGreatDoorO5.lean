/- Texts of ours in one: BoN, BoL, Tr3N, BoG, Pg8, Tr32, Tr33, Tr34, Tr35, Tr36, PgD, BoF, BoX, BoY, Ev33, Lc1, Lc2, BoZ, BoS, BoT, Bp1, BoR2, Opn21, BoU, Kd17, BoK, BoH, SiP, BoP2, SiB, GnU, Lw10, OrP, SmB, ThG, ThI, LaidE. -/
import Derived.Test.YteoollbcdpfkpaaGreatDoorO0
import Derived.Test.YteoollbcdpfkpaaGreatDoorO1
import Derived.Test.YteoollbcdpfkpaaGreatDoorO3
import Derived.Test.YteoollbcdpfkpaaGreatDoorO4
import Derived.ProofKit
import Derived.OpenShut
import Derived.LaidMore
import Derived.Lay
import Derived.Stop.Joined
set_option linter.unusedVariables false
set_option linter.unusedSimpArgs false
set_option maxHeartbeats 64000000
namespace Go.Proofs.YteoollbcdpfkpaaGreatDoor
section
open Go.RowKit _root_.Go.Proofs.Tryz
theorem zov {w i:Nat} (h:i<w) (v:Int) (hv:v=(i:Int)):((za8 i).map iv++List.replicate (w-i) (Value.int .i64 0)).take (i*1)++[Value.int .i64 v]++((za8 i).map iv++List.replicate (w-i) (Value.int .i64 0)).drop (i*1+1)=(za8 (i+1)).map iv++List.replicate (w-(i+1)) (Value.int .i64 0):=by
 subst hv;rw[zow h 0,zc4 (A:=(za8 i).map iv) (c:=[Value.int .i64 0]) (B:=List.replicate (w-(i+1)) (Value.int .i64 0)) (vs:=[Value.int .i64 (i:Int)]) (c':=[Value.int .i64 (i:Int)]) (k:=i) (s:=1) (f:=0) (m:=1) (q:=i*1) (by rw[qV,zaW,Nat.mul_one]) rfl rfl (qH 1) rfl,zjg,qr,qZ];rfl
theorem zpY {b:BG} (hb:b.Ok):zdW b.loss b.rate b.tilt=true:=by
 unfold zdW;rw[qD hb.rate.1,qD hb.rate.2];rcases hb.loss with e | e
 ·rw[if_pos e,qD (hb.one e)];rfl
 ·rw[if_neg oM,qD (hb.two e).1,qD (hb.two e).2];rfl
theorem zpD {b:BG} (hb:b.Ok):zmt b.loss b.rate b.tilt=true:=by rw[zpC hb.loss,zpY hb]
set_option maxRecDepth 100000 in
theorem zmB {H:Hp} {b:BG} (hb:b.Ok) {vx vy:Value} {y:List Rat} (hX:QLL H vx b.X) (hy:QL H vy y) (hyl:y.length=b.X.length) (hy95:∀q,q∈y→ht q≤95) (hm95:ht (b.mid y)≤95) (hr:ht b.rate≤10) :
  PC prog 13 #[vx,vy,.agg (zkd b.loss 0 (b.D:Int) b.least b.rate b.tilt b.gain).toArray] H fun r _=>r=.tuple #[.agg (zbE b.loss (b.W:Int) (b.mid y) b.rate b.tilt (.slice none 0 0)).toArray,.int .i64 0]:=by
 have h8:=hb.rows;have hw:=hb.wide;have hdp:=hb.deep;have hxw:=fun x hx=>(hb.each x hx).1;have hvd:=zj9 hX hxw h8.1 oM hw.1 hw.2;have hnm:=zeg (loss:=b.loss) (zai hr oM) (zai hb.den.2 oM);rw[zpD hb]at hnm;have hfi:=fun G:Hp=>zg9 (H:=G) (deep:=(b.D:Int)) (least:=b.least) (zai hb.gain.2 oM);rw[qD (show zm3 (b.D:Int) b.least b.gain from ⟨by omega,by omega,hb.least.1,hb.least.2,hb.gain.1⟩)]at hfi;have hmd:=fun (G:Hp) (hG:H.Le G)=>zff (loss:=b.loss) (SlC.mono hy hG) oM oM (fun q k=>qI (hy95 q k) oM) (fun k=>hb.two (hb.loss.resolve_left k)) hb.den.2;rw[show zpr b.loss b.tilt y=b.mid y from rfl]at hmd;obtain⟨vs,hvs,hvx⟩:=id hX;obtain⟨xa,xc,rfl⟩:=hX.val;obtain⟨ya,yc,rfl⟩:=SlC.val hy;obtain⟨x0,hxx0⟩:∃x,b.X[0]?=some x:=⟨_,qA h8.1⟩;obtain⟨u0,e0,hu0,_⟩:=hvs.at hxx0;rw[hxw x0 (qF hxx0)]at hu0;have hyS:SlC H (.slice ya y.length yc) y.length 5 (y.flatMap fun q=>zac (zaa q)):=hy;refine BD func13 ntmps13 ?_
 repeat (first|refine RUN ?_|refine CV (hvd) ?_|refine CE (hvd) ?_)
 rw[show ((y.length:Int) != (b.X.length:Int))=false by rw[hyl];exact pQ _];have hfi0:=hfi H
 repeat (first|refine RUN ?_|refine CV (hnm) ?_|refine CV (hfi0) ?_|refine CE (hnm) ?_|refine CE (hfi0) ?_)
 apply EV.drawn 18 kR kR;intro xv yw;(repeat refine' DD ?_);refine' vJ (hvx) (0) (rfl) (h8.1) (hu0) ?_;rotate_left;(repeat refine' DD ?_);refine' vC (cO func49) (fun G hG hd=>hmd G hG) ?_;rotate_left;(repeat refine' DD ?_);(refine DJ.nil (fun G1 hG1 hF1=>?_);(case hS|hS2=>rfl));refine uR ?_;refine EVL.make tO rfl rfl rfl rfl rfl rfl rfl rfl rfl (b.X.length) (rfl) oM (by rfl) (by rfl) fun g9=>?_;refine uR ?_;refine EVL.make tO rfl rfl rfl rfl rfl rfl rfl rfl rfl (b.X.length) (rfl) oM (by rfl) (by rfl) fun g10=>?_;refine uR ?_;(first|refine EVL.swapOw ([(g10,51,(([]:List Rat)++List.replicate (b.X.length-0) 0).flatMap cqF)]) ([(g9,3,_)]) ((by rw[←zfH];rfl)) ?_|refine EV.swapOw ([(g10,51,(([]:List Rat)++List.replicate (b.X.length-0) 0).flatMap cqF)]) ([(g9,3,_)]) ((by rw[←zfH];rfl)) ?_);(first|refine EVL.swapOw ([(g9,3,(za8 0).map iv++List.replicate (b.X.length-0) (.int .i64 0))]) ([(g10,51,(([]:List Rat)++List.replicate (b.X.length-0) 0).flatMap cqF)]) ((by rw[show (Tryz.te3).zero=[Value.int .i64 0] from rfl,zb7];rfl)) ?_|refine EV.swapOw ([(g9,3,(za8 0).map iv++List.replicate (b.X.length-0) (.int .i64 0))]) ([(g10,51,(([]:List Rat)++List.replicate (b.X.length-0) 0).flatMap cqF)]) ((by rw[show (Tryz.te3).zero=[Value.int .i64 0] from rfl,zb7];rfl)) ?_);generalize hbm:b.mid y=bm at *
 refine EV.loopK (ι:=List Rat) [0,1,5,6,8,9,10,77] [5,6,8] (fun qs=>[(78,.v (.int .i64 (qs.length:Int)))]) (fun _=>[]) (fun qs=>[(g10,51,(qs++List.replicate (b.X.length-qs.length) 0).flatMap cqF),(g9,3,(za8 qs.length).map iv++List.replicate (b.X.length-qs.length) (.int .i64 0))]) (fun qs G=>qs.length≤b.X.length∧G1.Le G∧qs=(y.map fun q=>q-bm).take qs.length) (fun qs=>b.X.length-qs.length) ([]) rfl rfl ⟨rfl,trivial⟩ trivial rfl (fun _=>rfl) (⟨qQ _,Hp.Le.refl _,rfl⟩) ?_;rintro qs G2 hG2 ⟨hi,hG12,hqs⟩;refine uR ?_;refine EV.cond rfl (fun hlt=>?_) (fun hlt=>?_)
 ·simp only[nN]at hlt;obtain⟨q,hq⟩:∃q,y[qs.length]?=some q:=⟨_,qA oM⟩;have hq95:=hy95 q (qF hq);have hsub:=zfz q bm (zai hq95 oM) (zai hm95 oM);have hyS2:=hyS.mono (hG1.trans hG12)
  have hsn:qs++[q-bm]=(y.map fun q=>q-bm).take (qs.length+1):=by
   have hm:(y.map fun q=>q-bm)[qs.length]?=some (q-bm):=by rw[qK,hq];rfl
   rw[zan hm,←hqs]
  refine uR ?_;refine EVL.idxB tO rfl rfl rfl rfl rfl rfl rfl rfl rfl (qs.length) (qs.length*1) (rfl) (hlt) (rfl) ?_;refine uR ?_;refine EVL.storeOwn tO rfl rfl rfl rfl rfl rfl ([(g10,51,_)]) ([]) rfl rfl rfl rfl ((by rw[qJ,qV,zaW,List.length_replicate];show qs.length*1+1≤_;omega)) (zov hlt _ rfl) ?_;refine uR ?_;apply EV.drawn 9 kR kR;intro xv yw;(repeat refine' DD ?_);refine' DJ.idxM tO rfl rfl rfl rfl rfl rfl rfl rfl rfl (hyS2) (qs.length) (rfl) (oM) (QL.at (H:=H) (v:=.bool true) hq) ?_;rotate_left;(repeat (first|refine' DD ?_|(refine' DC (hsub) (h:=?_);rotate_left)));(refine DJ.nil (fun G3 hG3 hF3=>?_);(case hS|hS2=>rfl));refine EVL.idxB tO rfl rfl rfl rfl rfl rfl rfl rfl rfl (qs.length) (qs.length*5) (rfl) (hlt) (rfl) ?_;refine uR ?_;refine EVL.storeOwn tO rfl rfl rfl rfl rfl rfl ([]) ([(g9,3,_)]) rfl rfl rfl rfl ((by rw[zk3,qJ,List.length_replicate];show qs.length*5+5≤_;omega)) (zoV qs (q-bm) hlt) ?_;refine uR ?_;have hl1:(qs++[q-bm]).length=qs.length+1:=by rw[qJ];rfl
  refine⟨qs++[q-bm],⟨by rw[zad qs.length oM,hl1];rfl,trivial⟩,sB,trivial,sB,by rw[hl1];rfl,⟨by rw[hl1];exact hlt,hG12.trans hG3,by rw[hl1];exact hsn⟩,hG3,by rw[hl1];omega⟩
 ·simp only[nN]at hlt;refine uR ?_;refine EV.loopK (ι:=Nat) [0,5,6,8,9,10,97] [5,6,8] (fun i=>[(98,.v (.int .i64 (i:Int)))]) (fun _=>[]) (fun _=>[(g10,51,(qs++List.replicate (b.X.length-qs.length) 0).flatMap cqF),(g9,3,(za8 qs.length).map iv++List.replicate (b.X.length-qs.length) (.int .i64 0))]) (fun i _=>i=0) (fun i=>0) (0) rfl rfl ⟨rfl,trivial⟩ trivial rfl (fun _=>rfl) (rfl) ?_;rintro i G3 hG3 rfl;refine uR ?_;rfl
def zuO (loss:Int) (tilt:Rat):BG:=⟨loss,1 / 2,tilt,[[0],[0],[0]],1,0,1,0⟩
def zhp:List Rat:=[1,2,6]
theorem zrh:(zuO 1 0).Ok:=⟨.inl rfl,by decide +kernel,fun _=>rfl,fun k=>absurd k (by decide),by decide +kernel,by decide,by decide,by decide +kernel,by decide,by decide,by decide +kernel⟩
theorem zri:(zuO 2 (1 / 2)).Ok:=⟨.inr rfl,by decide +kernel,fun k=>absurd k (by decide),fun _=>by decide +kernel,by decide +kernel,by decide,by decide,by decide +kernel,by decide,by decide,by decide +kernel⟩
theorem zph:(zuO 1 0).mid zhp=3:=by
 show za0 zhp=3;decide +kernel
theorem zpi:(zuO 2 (1 / 2)).mid zhp=2:=by
 show zkH (1 / 2) zhp=2;have hs:zc6 zhp=zhp:=(zcL (List.Perm.refl _) (by show List.Pairwise _ _;decide +kernel)).symm;unfold zkH;rw[hs];decide +kernel
theorem znD {H:Hp} {deep least:Int} {b1:Bool} {a1 a2:Option Addr} {l1 c1 l2 c2:Nat} {g:Rat} (hq:RQ H (.agg #[.bool b1,.slice a1 l1 c1,.slice a2 l2 c2]) g) (hg:rq g) :
  PC prog 56 #[zux deep least (.bool b1) (.slice a1 l1 c1) (.slice a2 l2 c2)] H fun r _=>r=.agg (zuw deep least g).toArray:=by
 refine BD func56 ntmps56 ?_;refine uR ?_;apply EV.drawn 8 kR kR;intro xv yw;(repeat refine' DD ?_);refine' vC (cO func55) (fun G hG hd=>znE (RQ.mono hq hG) hg) ?_;rotate_left;(repeat refine' DD ?_);(refine DJ.nil (fun G hG hF=>?_);(case hS|hS2=>rfl));refine uR ?_;rfl
theorem zrF {b:BG} (hb:b.Ok):zdW b.loss b.rate b.tilt=true:=by
 unfold zdW;rw[qD hb.rate.1,qD hb.rate.2];rcases hb.loss with e | e
 ·rw[if_pos e,qD (hb.one e)];rfl
 ·rw[if_neg oM,qD (hb.two e).1,qD (hb.two e).2];rfl
def BG.goalQ (b:BG) (q:Rat):Rat:=if b.loss=1 then q else if 0<q then b.tilt else if q=0 then 0 else b.tilt-1
theorem BG.goal_get (b:BG) {left:List Rat} {i:Nat} {q:Rat} (h:left[i]?=some q):(b.goal left)[i]?=some (b.goalQ q):=by
 unfold BG.goal BG.goalQ;by_cases e:b.loss=1
 ·rw[if_pos e,if_pos e];exact h
 ·rw[if_neg e,if_neg e,qK,h];rfl
theorem zpw {L G:List Rat} {i:Nat} {g:Rat} (hl:G.length=L.length) (hg:G[i]?=some g):(G.take i++L.drop i).set i g=G.take (i+1)++L.drop (i+1):=by
 have hi:i<L.length:=by have:=(qE.1 hg).1;omega
 have ht:(G.take i).length=i:=by rw[qP];omega
 rw[List.set_append_right _ _ oM,ht,Nat.sub_self,qt hi,zan hg,qZ];rfl
theorem zpu {L G:List Rat} (hl:G.length=L.length) (i:Nat):(G.take i++L.drop i).length=L.length:=by
 rw[qJ,qP,qu];omega
set_option maxRecDepth 100000 in
theorem zre {H:Hp} {b:BG} {vl:Value} {left:List Rat} (hls:b.loss=1∨b.loss=2) (hti:ht b.tilt≤10) (hL:QL H vl left) (h0:0<left.length) (hn:left.length≤1000) (hq:∀q,q∈left→ht q≤100) :
  PW prog 51 #[.int .i64 b.loss,zaa b.tilt,vl] H [] fun v ow _=>zaO 51 5 v left.length (zak (b.goal left)) ow:=by
 have hgl:=b.goal_len left;have hcl:=zl6 hL h0 hn;obtain⟨la,lc,rfl⟩:=SlC.val hL;have hLS:SlC H (.slice la left.length lc) left.length 5 (left.flatMap fun q=>zac (zaa q)):=hL;have ho:=zec 1 oM oM;rw[show ((1:Int):Rat)=1 from rfl]at ho;have s1:ht 1≤2:=by decide +kernel
 have hsb:=zfz b.tilt 1 (zai hti oM) (zai s1 oM);refine PW.body tO func51 rfl kR ntmps51 rfl rfl ?_;refine uR ?_;refine vW ([]) ([]) (hcl) ?_;intro v ow G1 hown hG1;obtain⟨ga,gc,rfl⟩:=hown.val;refine uR ?_;rcases hls with e1 | e1
 ·rw[show (b.loss == 1)=true by rw[e1];rfl];refine uR ?_;rw[show b.goal left=left from if_pos e1];exact(by first|exact hown|(rw[qG];exact hown))
 rw[show (b.loss == 1)=false by rw[e1];rfl];obtain⟨g,cap,sp,e,rfl,hsame⟩:=hown.same h0;cases e;refine uR ?_;refine EV.loopK (ι:=Nat) [4,7,15,16] [4] (fun i=>[(17,.v (.int .i64 (i:Int)))]) (fun _=>[]) (fun i=>[(g,51,zak ((b.goal left).take i++left.drop i)++sp)]) (fun i G=>i≤left.length∧H.Le G) (fun i=>left.length-i) (0) rfl rfl ⟨rfl,trivial⟩ trivial rfl (fun _=>rfl) (⟨qQ _,hG1⟩) ?_;rintro i G2 hG2 ⟨hi,hH2⟩;have hml:=zpu hgl i;refine uR ?_;refine EV.cond rfl (fun hlt=>?_) (fun hlt=>?_)
 ·simp only[nN]at hlt;obtain⟨q,hqi⟩:=gE hlt;have hgi:=b.goal_get hqi;have hst:=fun (x:Rat) (h:(b.goal left)[i]?=some x)=>(zhE (l:=(b.goal left).take i++left.drop i) (j:=i) sp x oM).trans (by rw[zpw hgl h]);have hsg:=zcp q (qI (zai (hq q (qF hqi)) oM).num oM);have hLS2:=hLS.mono hH2;refine uR ?_;refine EVL.idxM tO rfl rfl rfl rfl rfl rfl rfl rfl rfl (hLS2) (i) (rfl) (hlt) (QL.at (H:=H) (v:=.bool true) hqi) ?_
  repeat (first|refine RUN ?_|refine CV (hsg) ?_|refine CE (hsg) ?_)
  have c3:=zg3 (q:=q);have c4:=zg4 (q:=q);have c5:=Int.sign_trichotomy q.num;by_cases c1:0<q
  ·have c6:q.num.sign=1:=by
    rcases c5 with c | c | c
    ·exact c
    ·exact absurd c1 (c3.1 oM)
    ·exact absurd c1 (c3.1 oM)
   rw[show (q.num.sign == 1)=true from beq_iff_eq.2 c6];have hs:=hst b.tilt (by rw[hgi];exact congrArg some (by unfold BG.goalQ;rw[if_neg oM,if_pos c1]));refine uR ?_;refine EVL.idxB tO rfl rfl rfl rfl rfl rfl rfl rfl rfl (i) (i*5) (rfl) (hlt) (rfl) ?_;refine EVL.storeOwn tO rfl rfl rfl rfl rfl rfl ([]) ([]) rfl rfl rfl rfl ((by rw[qJ,zds,hml];show i*5+5≤_;omega)) (hs) ?_;refine uR ?_;exact⟨i+1,⟨by rw[zad i (by omega)];rfl,trivial⟩,sB,trivial,sB,rfl,⟨hlt,hH2⟩,Hp.Le.refl _,by omega⟩
  have c6:¬q.num.sign=1:=fun k=>by have:=c3.2 c1;omega
  rw[show (q.num.sign == 1)=false from pR.2 c6];refine uR ?_;by_cases c2:q=0
  ·rw[show (q.num.sign == 0)=true from beq_iff_eq.2 (c4.2 c2)];have hs:=hst 0 (by rw[hgi];exact congrArg some (by unfold BG.goalQ;rw[if_neg oM,if_neg c1,if_pos c2]));rw[show zac (zaa 0)=_ from zar]at hs;refine uR ?_;refine EVL.idxB tO rfl rfl rfl rfl rfl rfl rfl rfl rfl (i) (i*5) (rfl) (hlt) (rfl) ?_;refine EVL.storeOwn tO rfl rfl rfl rfl rfl rfl ([]) ([]) rfl rfl rfl rfl ((by rw[qJ,zds,hml];show i*5+5≤_;omega)) (hs) ?_;refine uR ?_;exact⟨i+1,⟨by rw[zad i (by omega)];rfl,trivial⟩,sB,trivial,sB,rfl,⟨hlt,hH2⟩,Hp.Le.refl _,by omega⟩
  rw[show (q.num.sign == 0)=false from pR.2 fun k=>c2 (c4.1 k)];have hs:=hst (b.tilt-1) (by rw[hgi];exact congrArg some (by unfold BG.goalQ;rw[if_neg oM,if_neg c1,if_neg c2]));refine uR ?_;apply EV.drawn 5 kR kR;intro xv yw;(repeat (first|refine' DD ?_|(refine' DC (ho) (h:=?_);rotate_left)|(refine' DC (hsb) (h:=?_);rotate_left)));(refine DJ.nil (fun G3 hG3 hF3=>?_);(case hS|hS2=>rfl));refine EVL.idxB tO rfl rfl rfl rfl rfl rfl rfl rfl rfl (i) (i*5) (rfl) (hlt) (rfl) ?_;refine EVL.storeOwn tO rfl rfl rfl rfl rfl rfl ([]) ([]) rfl rfl rfl rfl ((by rw[qJ,zds,hml];show i*5+5≤_;omega)) (hs) ?_;refine uR ?_;exact⟨i+1,⟨by rw[zad i (by omega)];rfl,trivial⟩,sB,trivial,sB,rfl,⟨hlt,hH2.trans hG3⟩,hG3,by omega⟩
 ·simp only[nN]at hlt;obtain rfl:i=left.length:=oM;rw[List.drop_length,qG,qO (Nat.le_of_eq hgl)];refine uR ?_;have hk:=hsame (zak (b.goal left)) (by rw[zds,zds,hgl]);exact(by first|exact hk|(rw[qG];exact hk))
set_option maxRecDepth 100000 in
theorem zql {p:GP} {H:Hp} {kd cl least:Int} {D0 w:Nat} {S:List Int→List Value} {wo:List Int→Rat} {la va xa:Option Addr} {ln lc vn vc xc:Nat} {f:FuncId} {ccs:List Value} {vr:Value} {rows:List Int} {s:Int}
  (hcl:∀s,(p.cols s).1.length≤1000) (hx0:0<p.X.length) (hX20:p.X.length≤20) (hxw:∀x,x∈p.X→x.length=w) (hxq:∀x,x∈p.X→∀q,q∈x→ht q≤60) (hpl:p.least=least) (hgr:sm p.gain) (hD0:D0≤10)
  (hg:zkM H kd cl (.slice la ln lc) (.slice va vn vc) p S wo) (hX:QLL H (.slice xa p.X.length xc) p.X) (hcf:zhu H f ccs (.pointer none) p) (hr:IL H vr rows) (hn:rows.length≤20) (hb:∀r,r∈rows→0≤r∧r<(p.X.length:Int)) :
  PW prog 109 #[zbg kd cl (.slice la ln lc) (.slice va vn vc),.slice xa p.X.length xc,vr,.agg (zuw (D0:Int) least p.gain).toArray,.func (.func f) #[] ccs.toArray] H []
   fun v ow G=>∃oa oc css,v=.agg #[.int .i64 kd,.int .i64 cl,.int .i64 (w:Int),.slice oa (p.grow D0 0 rows s).1.length oc]∧zaJ G css (p.grow D0 0 rows s).1∧zaO 160 21 (.slice oa (p.grow D0 0 rows s).1.length oc) (p.grow D0 0 rows s).1.length css.flatten ow:=by
 obtain⟨ra,rc,rfl⟩:=SlC.val hr;have hpow:2 ^ (D0+1)≤2 ^ 11:=qf oM oM;obtain⟨vs,hvs,hvx⟩:=id hX;obtain⟨x0,hxx0⟩:=gE hx0;obtain⟨u0,e0,hu0,_⟩:=hvs.at hxx0;rw[hxw x0 (qF hxx0)]at hu0;refine PW.body tO func109 rfl kR ntmps109 rfl rfl ?_;refine uR ?_;(first|refine EVL.unbox (11) rfl fun gb=>?_|refine EV.unbox (11) rfl fun gb=>?_);refine EVL.callW rfl rfl rfl rfl rfl ((gb,238,_)::([]++[])) [] (by rw[qG,qG]) (zrA (p:=p) (deep:=(D0:Int)) hcl hx0 hX20 hxq hpl hgr D0 (s:=s) (D:=[]) (ns:=[]) (css:=[]) hg hX hcf oM (Int.le_refl _) oM hr hn hb (.inl ⟨rfl,rfl⟩) (zaO.nil _ _) ⟨rfl,fun j c n e1 e2=>by cases e1⟩ (by rw[qi];omega)) ?_;rintro _ _ G1 ⟨rfl,out,D',ow2,css,rfl,hD',hown,hns⟩ hG1;rw[pO]at hown hns;rw[qi]at hown hns hD';rcases hD' with ⟨_,rfl⟩|⟨bd',T',e1,_⟩
 case inr=>cases e1
 obtain⟨oa,oc,rfl⟩:=hown.val;refine uR ?_;apply EV.drawn 11 kR kR;intro xv yw;(repeat refine' DD ?_);refine' vJ (hvx.mono hG1) (0) (rfl) (hx0) (hu0) ?_;rotate_left;(repeat (first|refine' DD ?_|refine' vN ?_|refine' vF ?_));refine' DJ.ofVal (zab.loadOwn tO rfl rfl rfl rfl (0) rfl (rfl) rfl rfl) rfl rfl rfl ?_;rotate_left;(repeat (first|refine' DD ?_|refine' vN ?_|refine' vF ?_));(refine DJ.nil (fun G hG hF=>?_);(case hS|hS2=>rfl));(first|refine EVL.subOw [] [(gb,_,_)] (ow2++[]) rfl ?_|refine EV.subOw [] [(gb,_,_)] (ow2++[]) rfl ?_|refine EVL.subOw [] [(gb,_,_)] ow2 rfl ?_);refine uR ?_;refine⟨oa,oc,css,rfl,hns.mono hG,?_⟩
 first|exact hown|simpa using hown
set_option maxRecDepth 100000 in
theorem zpT {p:GP} {H:Hp} {kd cl least:Int} {D0 w:Nat} {s:Int} {S:List Int→List Value} {wo:List Int→Rat} {la va xa:Option Addr} {ln lc vn vc xc:Nat} {vr:Value} {rows:List Int}
  (hds:∀s,p.cols s=(za8 w,s)) (hw1:1≤w) (hw2:w≤20) (hx0:0<p.X.length) (hX20:p.X.length≤20) (hxw:∀x,x∈p.X→x.length=w) (hxq:∀x,x∈p.X→∀q,q∈x→ht q≤60) (hpl:p.least=least) (hl:1≤least∧least≤300) (hgr:sm p.gain) (hg0:0≤p.gain) (hD0:D0≤10)
  (hg:zkM H kd cl (.slice la ln lc) (.slice va vn vc) p S wo) (hX:QLL H (.slice xa p.X.length xc) p.X) (hr:IL H vr rows) (hr0:0<rows.length) (hn:rows.length≤20) (hb:∀r,r∈rows→0≤r∧r<(p.X.length:Int)) :
  PW prog 52 #[zbg kd cl (.slice la ln lc) (.slice va vn vc),.slice xa p.X.length xc,vr,.agg (zuw (D0:Int) least p.gain).toArray] H []
   fun v ow G=>∃oa oc css,v=.tuple #[.agg #[.int .i64 kd,.int .i64 cl,.int .i64 (w:Int),.slice oa (p.grow D0 0 rows s).1.length oc],.int .i64 0]∧zaJ G css (p.grow D0 0 rows s).1∧zaO 160 21 (.slice oa (p.grow D0 0 rows s).1.length oc) (p.grow D0 0 rows s).1.length css.flatten ow:=by
 obtain⟨ra,rc,rfl⟩:=SlC.val hr;have hrf:=zoe (deep:=(D0:Int)) (least:=least) hg.ok.check hg.ok.leng hX oM oM ⟨by omega,hw2⟩ hxw hr hr0 oM hgr;rw[qD (show zm3 (D0:Int) least p.gain from ⟨by omega,by omega,by omega,by omega,hg0⟩),zsc hb]at hrf;obtain⟨vs,hvs,hvx⟩:=id hX;obtain⟨x0,hxx0⟩:=gE hx0;obtain⟨u0,e0,hu0,_⟩:=hvs.at hxx0;rw[hxw x0 (qF hxx0)]at hu0;refine PW.body tO func52 rfl kR ntmps52 rfl rfl ?_;refine uR ?_;refine vA (hrf) ?_;rintro _ G1 rfl hG1;refine uR ?_;refine vI ((hvx.mono hG1)) (0) (rfl) (hx0) (hu0) ?_;refine uR ?_;refine EVL.make tO rfl rfl rfl rfl rfl rfl rfl rfl rfl (w) (rfl) oM (by rfl) (by rfl) fun b=>?_;refine uR ?_;(first|refine EVL.swapOw ([(b,3,(za8 0).map iv++List.replicate (w-0) (.int .i64 0))]) ([]) ((by rw[show (Tryz.te3).zero=[Value.int .i64 0] from rfl,zb7];rfl)) ?_|refine EV.swapOw ([(b,3,(za8 0).map iv++List.replicate (w-0) (.int .i64 0))]) ([]) ((by rw[show (Tryz.te3).zero=[Value.int .i64 0] from rfl,zb7];rfl)) ?_);refine EV.loopK (ι:=Nat) [1,2,4,7,8,11,28] [4,7,8,11] (fun i=>[(29,.v (.int .i64 (i:Int)))]) (fun _=>[]) (fun i=>[(b,3,(za8 i).map iv++List.replicate (w-i) (.int .i64 0))]) (fun i _=>i≤w) (fun i=>w-i) (0) rfl rfl ⟨rfl,trivial⟩ trivial rfl (fun _=>rfl) (qQ _) ?_;rintro i G2 hG2 hi;refine uR ?_;refine EV.cond rfl (fun hlt=>?_) (fun hlt=>?_)
 ·simp only[nN]at hlt;have wn:IntKind.i64.wrap ((i:Int)+1)=((i+1:Nat):Int):=zad i oM;refine uR ?_;refine EVL.idxB tO rfl rfl rfl rfl rfl rfl rfl rfl rfl (i) (i*1) (rfl) (hlt) (rfl) ?_;rw[Nat.mul_one];refine uR ?_;refine EVL.set1 tO rfl rfl rfl rfl rfl rfl rfl rfl rfl rfl ((by rw[qJ,qV,zaW,List.length_replicate];omega)) ?_;rw[zsK hlt];refine uR ?_;refine⟨i+1,⟨by rw[wn];rfl,trivial⟩,sB,trivial,sB,rfl,hlt,Hp.Le.refl _,by omega⟩
 ·simp only[nN]at hlt;obtain rfl:i=w:=oM;rw[Nat.sub_self,List.replicate_zero];(first|refine EVL.publish [] [] rfl fun G3 hG3 hb3=>?_|refine EV.publish [] [] rfl fun G3 hG3 hb3=>?_);(first|refine EVL.unbox (11) rfl fun ga=>?_|refine EV.unbox (11) rfl fun ga=>?_);(first|refine EVL.publish [] [] rfl fun G4 hG4 hb4=>?_|refine EV.publish [] [] rfl fun G4 hG4 hb4=>?_);refine uR ?_;refine EVL.fn1 rfl rfl rfl rfl rfl ?_;have hH4:=hG1.trans (hG2.trans (hG3.trans hG4));have hcf:=zlw (p:=p) (H:=G4) hds hb4 (zpf (hG4 _ _ hb3) (zaW _));refine EVL.callW rfl rfl rfl rfl rfl [] [] rfl (zql (w:=i) (s:=s) (fun s=>by rw[hds];show (za8 i).length≤1000;rw[zaW];omega) hx0 hX20 hxw hxq hpl hgr hD0 (hg.mono hH4) (hX.mono hH4) hcf (hr.mono hH4) hn hb) ?_;rintro _ D' G5 ⟨oa,oc,css,rfl,hns,hown⟩ hG5;refine uR ?_;refine⟨oa,oc,css,rfl,hns,?_⟩
  first|exact hown|simpa using hown
def QLs (H:Hp) (vs:List Value) (es:List (List Rat)):Prop:=vs.length=es.length∧∀(j:Nat) (v:Value) (l:List Rat),vs[j]?=some v→es[j]?=some l→QL H v l
theorem QLs.mono {H G:Hp} {vs:List Value} {es:List (List Rat)} (h:QLs H vs es) (k:H.Le G):QLs G vs es:=⟨h.1,fun j v l e1 e2=>SlC.mono (h.2 j v l e1 e2) k⟩
def zqM (T:TypeId) (vs:List Value) (es:List (List Rat)) (ows:List Ows):Prop:=vs.length=es.length∧ows.length=es.length∧∀(j:Nat) (v:Value) (e:List Rat) (o:Ows),vs[j]?=some v→es[j]?=some e→ows[j]?=some o→zaO T 5 v e.length (zak e) o
theorem zqM.nils (T:TypeId) (n:Nat):zqM T (List.replicate n (.slice none 0 0)) (List.replicate n []) (List.replicate n []):=by
 refine⟨by simp,by simp,fun j v e o h1 h2 h3=>?_⟩;rw[List.getElem?_replicate]at h1 h2 h3;split at h1
 ·rename_i h;rw[if_pos h]at h2 h3;cases h1;cases h2;cases h3;exact zaO.nil _ _
 ·cases h1
theorem zqM.put {T:TypeId} {vs:List Value} {es:List (List Rat)} {A B:List Ows} {o o':Ows} {v':Value} {e':List Rat} (h:zqM T vs es (A++o::B)) (k:zaO T 5 v' e'.length (zak e') o'):zqM T (vs.set A.length v') (es.set A.length e') (A++o'::B):=by
 obtain⟨h1,h2,h3⟩:=h;refine⟨by rw[List.length_set,List.length_set];exact h1,by rw[List.length_set];simpa using h2,fun j v e q e1 e2 e3=>?_⟩;rw[List.getElem?_set]at e1 e2;by_cases hj:A.length=j
 ·subst hj;rw[if_pos rfl]at e1 e2;rw[qL (qH _),Nat.sub_self]at e3;cases e3;split at e1
  ·split at e2
   ·cases e1;cases e2;exact k
   ·cases e2
  ·cases e1
 ·rw[if_neg hj]at e1 e2;refine h3 j v e q e1 e2 ?_;rw[←e3];by_cases hl:j<A.length
  ·rw[qM hl,qM hl]
  ·rw[qL oM,qL (by omega)];obtain⟨i,hi⟩:∃i,j-A.length=i+1:=⟨j-A.length-1,by omega⟩;rw[hi];rfl
theorem EV.pubQ {P:Program} {n:Nat} {env:Env} {bx:Bxs} {Q:EQ} {c:Code} {T:TypeId}:∀(ows:List Ows) {H:Hs} {vs:List Value} {es:List (List Rat)} (pre post:Ows),zqM T vs es ows→H.ow=pre++(ows.flatten++post)→(∀k,k∈H.base.lent→∀q,q∈ows.flatten→k≠q.1)→(∀G,H.ro.Le G→QLs G vs es→EV P n c env bx ⟨G,pre++post,H.base⟩ Q)→EV P n c env bx H Q
 | [],H,vs,es,pre,post,hm,e,hb,h=>by
  have h0:es=[]:=pK.1 hm.2.1.symm;subst h0;have h1:vs=[]:=pK.1 hm.1;subst h1;have:=h H.ro (Hp.Le.refl _) ⟨rfl,fun j v l e1 _=>by cases e1⟩;rw[←show H.ow=pre++post from e]at this;exact this
 | o::ows,H,[],es,pre,post,hm,e,hb,h=>by
  have h1:=hm.1;have h2:=hm.2.1;rw[←h1]at h2;cases h2
 | o::ows,H,v::vs,[],pre,post,hm,e,hb,h=>by have h1:=hm.1;cases h1
 | o::ows,H,v::vs,l::es,pre,post,hm,e,hb,h=>by
  have ho:=hm.2.2 0 v l o rfl rfl rfl;refine EV.publishL pre o (ows.flatten++post) (by rw[e,List.flatten_cons,qZ]) ho (fun G hG hc=>?_) (fun k hk q hq=>hb k hk q (by rw[List.flatten_cons];exact List.mem_append_left _ hq));refine EV.pubQ ows pre post ⟨Nat.succ.inj hm.1,Nat.succ.inj hm.2.1,fun j v' e' o' e1 e2 e3=>hm.2.2 (j+1) v' e' o' e1 e2 e3⟩ rfl (fun k hk q hq=>hb k hk q (by rw[List.flatten_cons];exact List.mem_append_right _ hq)) fun G2 hG2 hs=>h G2 (hG.trans hG2) ⟨by rw[qR,qR,hs.1],fun j v' l' e1 e2=>?_⟩
  cases j with
  | zero=>cases e1;cases e2;exact SlC.mono hc hG2
  | succ j=>exact hs.2 j v' l' e1 e2
theorem zo3 (W:Int→List Int) (n:Nat) (done:List Int) (r r':Int):zeB W n done r []=zeB W n done r' []:=by
 unfold zeB;exact List.map_congr_left fun j _=>by rw[if_neg List.not_mem_nil,if_neg List.not_mem_nil]
theorem zrV {A:List Int} {k:Nat} {z:Int} (h:A.Nodup) (hz:A[k]?=some z):z ∉ A.take k:=fun hm=>by
 obtain⟨j,hj⟩:=List.mem_iff_getElem?.1 hm;rw[pP]at hj;split at hj
 ·rename_i hjk;have:=(List.getElem?_inj (qE.1 hj).1 h).1 (hj.trans hz.symm);omega
 ·cases hj
def zef (left:List Rat) (Wf:Int→List Int) (n:Nat) (done:List Int) (r:Int) (q:List Int):List (List Rat):=(zeB Wf n done r q).map (atR left)
theorem zgM (left:List Rat) (Wf:Int→List Int) (n:Nat) (done:List Int) (r:Int) (q:List Int):(zef left Wf n done r q).length=n:=by
 unfold zef;rw[qV,zdu]
theorem zpP (left:List Rat) (Wf:Int→List Int) (n:Nat) (r:Int):zef left Wf n [] r []=List.replicate n []:=by
 unfold zef;rw[zo4,List.map_replicate];rfl
theorem zj1 {left:List Rat} {Wf:Int→List Int} {n:Nat} {done:List Int} {r:Int} {q:List Int} {j:Nat} (h:j<n) (hq:(j:Int) ∉ q):(zef left Wf n done r q)[j]?=some (atR left (done.filter fun r=>decide ((j:Int)∈Wf r))):=by
 unfold zef;rw[qK,zeC h,if_neg hq,qG];rfl
theorem znN {left:List Rat} {Wf:Int→List Int} {n:Nat} {done:List Int} {r:Int} {q:List Int} {j:Nat} {x:Rat} (hq:(j:Int) ∉ q) (hx:left.getD r.toNat 0=x):(zef left Wf n done r q).set j (atR left (done.filter fun r=>decide ((j:Int)∈Wf r))++[x])=zef left Wf n done r (q++[(j:Int)]):=by
 unfold zef;rw[←znv hq,List.map_set];congr 1;unfold atR;rw[qr,List.map_singleton,hx]
theorem zpQ {left:List Rat} {Wf:Int→List Int} {n:Nat} {done:List Int} {r r':Int}:zef left Wf n done r (Wf r)=zef left Wf n (done++[r]) r' []:=by
 unfold zef;rw[zo5]
theorem ztF {l:List Value} {i:Nat} (v:Value) (h:i<l.length):l.take (i*1)++[v]++l.drop (i*1+1)=l.set i v:=by
 rw[Nat.mul_one,List.set_eq_take_append_cons_drop,if_pos h,qZ];rfl
theorem zgx {D ow post:Ows} (h:zct (D++(ow++post))):∀k,k∈Ows.bs D→∀q,q∈ow→k≠q.1:=fun k hk q hq e=>by
 have hn:=zcu.1 h;unfold Ows.bs at hn hk;simp only[qr,List.nodup_append]at hn;exact hn.2.2 k hk q.1 (List.mem_append_left _ (List.mem_map.2 ⟨q,hq,rfl⟩)) e
theorem zsU {l:List Rat} {i:Nat} {q:Rat} (h:l[i]?=some q):∀(j:Nat) (u:Value),(zac (zaa q))[j]?=some u→(zak l)[i*5+j]?=some u:=fun j u hj=>by
 have h1:(l.flatMap (fun q=>zac (zaa q))).drop (i*5) |>.take 5 |> (·=zac (zaa q)):=QL.at (H:=fun _=>none) (v:=.bool true) h;have h2:j<5:=(qE.1 hj).1;have h3:(((l.flatMap (fun q=>zac (zaa q))).drop (i*5)).take 5)[j]?=some u:=by rw[show ((l.flatMap (fun q=>zac (zaa q))).drop (i*5)).take 5=zac (zaa q) from h1];exact hj
 rw[pP,if_pos h2,List.getElem?_drop]at h3;exact h3
set_option maxRecDepth 100000 in
theorem zlz {H0 H:Hp} {b:BG} (hb:b.Ok) (hls:b.loss=2) {vx vl:Value} {left:List Rat} (h0:H0.Le H) (hX:QLL H vx b.X) (hL:QL H vl left) (hlen:left.length=b.X.length) (hgr:zhl left) (hl100:∀q,q∈left→ht q≤100) {g cap:Nat} {css:List (List Value)} {sp:List Value} (hns:zaJ H0 css (b.raw left)) (hcap:(b.raw left).length≤cap) :
  PW prog 53 #[.agg #[.int .i64 2,.int .i64 0,.int .i64 (b.W:Int),.slice (some ⟨g,0,none⟩) (b.raw left).length cap],vx,vl,zaa b.tilt] H [(g,160,css.flatten++sp)]
   fun _ ow _=>∃css',ow=[(g,160,css'.flatten++sp)]∧css'.length=css.length∧zaJ H0 css' (b.mids left (b.raw left)):=by
 obtain⟨hok,hr1,hr15⟩:=hb.raw hgr hlen;have hpt:=fun j n (h:(b.raw left)[j]?=some n)=>hb.part hgr hlen h;have h8:=hb.rows;have hw:=hb.wide;have hal:=zaW b.X.length;have gp1:=hb.gp hgr hlen;obtain⟨hh,_,hsub⟩:=hok.sub;dsimp only at hsub;obtain⟨Wf,hWf⟩:=Classical.axiomOfChoice (fun r:Int=>hsub.path (b.X.getD r.toNat []));have hwin:=fun r=>zgN gp1 b.D 0 (za8 b.X.length) 0 zbb (At.self _) (Wf r) (hWf r);have hwnd:=fun r=>znO gp1 b.D 0 (za8 b.X.length) 0 zbb (At.self _) (Wf r) (hWf r);have hWeq:∀r:Int,zr2 (b.raw left) (b.X.getD r.toNat [])=Wf r:=fun r=>zi5 (hWf r)
 have hpe:∀j,b.part left (b.raw left) j=atR left ((za8 b.X.length).filter fun r=>decide ((j:Int)∈Wf r)):=fun j=>by
  unfold BG.part;simp only[hWeq]
 obtain⟨vs,hvs,hvx⟩:=id hX;obtain⟨xa,xc,rfl⟩:=hX.val;obtain⟨la,lc,rfl⟩:=SlC.val hL;have hLS:SlC H (.slice la left.length lc) left.length 5 (left.flatMap fun q=>zac (zaa q)):=hL;have hmt:=hb.two hls;have hti:=hb.den.2;have hnl:=hns.1;generalize hN:b.raw left=ns at *
 refine PW.body tO func53 rfl kR ntmps53 rfl rfl ?_;refine uR ?_;refine EVL.make tO rfl rfl rfl rfl rfl rfl rfl rfl rfl (ns.length) (rfl) oM (by rfl) (by rfl) fun g8=>?_;refine uR ?_;(first|refine EVL.swapOw ([(g8,60,List.replicate ns.length (.slice none 0 0))]) ([(g,160,css.flatten++sp)]) ((by rw[show (Tryz.te60).zero=[Value.slice none 0 0] from rfl,zb7];rfl)) ?_|refine EV.swapOw ([(g8,60,List.replicate ns.length (.slice none 0 0))]) ([(g,160,css.flatten++sp)]) ((by rw[show (Tryz.te60).zero=[Value.slice none 0 0] from rfl,zb7];rfl)) ?_);(first|refine EVL.swapOw ((List.replicate ns.length ([]:Ows)).flatten) ([(g,160,css.flatten++sp),(g8,60,List.replicate ns.length (.slice none 0 0))]) ((by rw[List.flatten_replicate_nil];rfl)) ?_|refine EV.swapOw ((List.replicate ns.length ([]:Ows)).flatten) ([(g,160,css.flatten++sp),(g8,60,List.replicate ns.length (.slice none 0 0))]) ((by rw[List.flatten_replicate_nil];rfl)) ?_);refine EV.loopK (ι:=Nat × List Value × List Ows) [2,4,7,8,18,19] [4,7] (fun q=>[(20,.v (.int .i64 (q.1:Int)))]) (fun _=>[]) (fun q=>(g,160,css.flatten++sp)::(g8,60,q.2.1)::q.2.2.flatten) (fun q G=>q.1≤b.X.length∧H.Le G∧zqM 51 q.2.1 (zef left Wf ns.length ((za8 b.X.length).take q.1) 0 []) q.2.2) (fun q=>b.X.length-q.1) ((0,List.replicate ns.length (.slice none 0 0),List.replicate ns.length [])) rfl rfl ⟨rfl,trivial⟩ trivial rfl (fun _=>rfl) (⟨qQ _,Hp.Le.refl _,by dsimp only;rw[List.take_zero,zpP];exact zqM.nils _ _⟩) ?_;rintro⟨i,vs8,ows⟩ G1 hG1 ⟨hi,hH1,hm⟩;dsimp only at hi hH1 hm;refine uR ?_;refine EV.cond rfl (fun hlt=>?_) (fun hlt=>?_)
 ·simp only[nN]at hlt;obtain⟨x,hxi⟩:=gE hlt;obtain⟨ux,ex,hux,hxl⟩:=hvs.at hxi;obtain⟨hxw,hx60⟩:=hb.each x (qF hxi);obtain⟨ql,hqi⟩:∃q,left[i]?=some q:=⟨_,qA oM⟩;have hvx1:=hvx.mono hH1;have hway:=PW.reads (H:=G1) (L:=[]) (b:=g) (T:=160) (cs:=css.flatten++sp) (Φ:=fun v ow=>∃l:List Int,zaO 3 1 v l.length (l.map iv) ow∧zdn ns x 0 l∧l.length≤2000) (cO func111) (fun G hG hg=>zmF (cs:=[.int .i64 2,.int .i64 0,.int .i64 (b.W:Int),.slice (some ⟨g,0,none⟩) ns.length cap]) ⟨some ⟨g,0,none⟩,cap,css,rfl,hns.mono (h0.trans (hH1.trans hG)),by rw[←hnl];exact⟨hns.flat_len,.inr ⟨g,0,cap,_,rfl,by omega,hg,fun j y hy=>by rw[qv];simpa using (qM (qE.1 hy).1).trans hy⟩⟩⟩ hok (SlC.mono hxl (hH1.trans hG)) (by rw[hxw]) (fun q hq=>zai (hx60 q hq) oM));refine uR ?_;refine vI (hvx1) (i) (rfl) (hlt) (hux) ?_;refine uR ?_;refine vW ([(g,160,css.flatten++sp)]) ((g8,60,vs8)::ows.flatten) (hway) ?_;rintro vw ow2 G2 ⟨oww,rfl,l,hown,hpl,hll⟩ hG2
  obtain rfl:l=Wf (i:Int):=by
   have h1:=hWf (i:Int);rw[qU,qB,hxi]at h1;exact hpl.det h1
  obtain⟨wa,wc,rfl⟩:=hown.val;(first|refine EVL.apart fun hdis=>?_|refine EV.apart fun hdis=>?_);(first|refine EVL.publishL [(g,_,_)] oww ((g8,60,vs8)::ows.flatten) rfl hown (fun G3 hG3 hs3=>?_) (zgx (post:=(g8,60,vs8)::ows.flatten) hdis)|refine EV.publishL [(g,_,_)] oww ((g8,60,vs8)::ows.flatten) rfl hown (fun G3 hG3 hs3=>?_) (zgx (post:=(g8,60,vs8)::ows.flatten) hdis));have hH3:=hH1.trans (hG2.trans hG3);have hK3:=hG2.trans hG3;obtain⟨bL,offL,capL,cL,eL,hcL,hcellL⟩:=SlC.expl hLS oM;cases eL;refine uR ?_;refine EV.loopK (ι:=Nat × List Value × List Ows) [2,4,7,8,9,18,19,20,27,28] [4,7] (fun q=>[(29,.v (.int .i64 (q.1:Int)))]) (fun _=>[]) (fun q=>(g,160,css.flatten++sp)::(g8,60,q.2.1)::q.2.2.flatten) (fun q _=>q.1≤(Wf (i:Int)).length∧zqM 51 q.2.1 (zef left Wf ns.length ((za8 b.X.length).take i) (i:Int) ((Wf (i:Int)).take q.1)) q.2.2) (fun q=>(Wf (i:Int)).length-q.1) ((0,vs8,ows)) rfl rfl ⟨rfl,trivial⟩ trivial rfl (fun _=>rfl) (⟨qQ _,by dsimp only;rw[List.take_zero];unfold zef;rw[zo3 _ _ _ _ 0];exact hm⟩) ?_;rintro⟨k,us,os⟩ Gk hGk ⟨hk,hmk⟩;dsimp only at hk hmk;have wk:IntKind.i64.wrap ((k:Int)+1)=((k+1:Nat):Int):=zad k oM;refine uR ?_;refine EV.cond rfl (fun hlk=>?_) (fun hlk=>?_)
  ·simp only[nN]at hlk;obtain⟨z,hz⟩:∃z,(Wf (i:Int))[k]?=some z:=⟨_,qA hlk⟩;have hzb:=hwin (i:Int) z (qF hz);have hznot:=zrV (hwnd (i:Int)) hz;have hzt:=zan hz;obtain⟨J,rfl⟩:=qj (show 0≤z by omega)
   have hJ:J<ns.length:=by
    have h:=hzb.2;rw[show ((b.gp left).grow b.D 0 (za8 b.X.length) 0).1=ns from hN]at h;omega
   have hol:os.length=ns.length:=by rw[hmk.2.1,zgM]
   have hul:us.length=ns.length:=by rw[hmk.1,zgM]
   obtain⟨OA,o,OB,rfl,rfl⟩:=zfV (l:=os) (k:=J) oM;obtain⟨v,hv⟩:∃v,us[OA.length]?=some v:=⟨_,qA oM⟩;have heJ:=zj1 (left:=left) (Wf:=Wf) (done:=(za8 b.X.length).take i) (r:=(i:Int)) hJ hznot;have hown:=hmk.2.2 OA.length v _ o hv heJ (by rw[qL (qH _),Nat.sub_self];rfl);have hst:=znN (left:=left) (Wf:=Wf) (n:=ns.length) (done:=(za8 b.X.length).take i) (r:=(i:Int)) (x:=ql) hznot (by rw[qU,qB,hqi];rfl)
   have hfl:(atR left (((za8 b.X.length).take i).filter fun r=>decide (((OA.length:Nat):Int)∈Wf r))).length≤20:=by
    unfold atR;rw[qV];exact qI (List.length_filter_le _ _) (by rw[qP];omega)
   generalize atR left (((za8 b.X.length).take i).filter fun r=>decide (((OA.length:Nat):Int)∈Wf r))=es at *
   obtain⟨va1,vc1,rfl⟩:=hown.val;have hHk:=hH3.trans hGk;have hcLk:=hHk _ _ hcL;have hs3k:=SlC.mono hs3 hGk;refine uR ?_;refine vI (hs3k) (k) (rfl) (hlk) ((by rw[qK,hz];rfl)) ?_;refine uR ?_;refine EVG.start (fun W=>Box W g8 us.toArray 60∧Fits Gk W) (some 13) ?_;refine IV 0 ?_;refine IV 1 ?_;refine IV 2 ?_;refine IV 3 ?_;refine IX 4 (q:=OA.length) (m:=ns.length) ?_ rfl hJ
   refine ILQ 5 (b:=g8) (off:=0+OA.length*1) (te:=Tryz.te60) (cs:=us) (l:=[.slice va1 es.length vc1]) (fun _ h=>h.1) ?_ (by
    obtain⟨h1,h2⟩:=qE.1 hv;rw[qv,Nat.mul_one,qt h1,h2];rfl) rfl rfl
   refine IV 6 ?_;refine IV 7 ?_;refine IX 8 (q:=i) (m:=left.length) ?_ rfl oM;refine IRQ 9 (H0:=Gk) (b:=bL) (off:=offL+i*5) (l:=zac (zaa ql)) (fun _ h=>h.2) ?_ hcLk (fun j u hj=>by rw[Nat.add_assoc];exact hcellL _ u (zsU hqi j u hj)) rfl rfl;refine EVG.one 10 (zpg (p:=(g8,60,us)) (jj:=1) (.inr rfl) (Hp.Le.refl _)) kR rfl ?_;refine EVL.lit tO rfl rfl rfl rfl rfl rfl rfl rfl rfl rfl rfl fun bl=>?_;refine EVL.nil ⟨rfl,?_⟩;refine EVG.one 11 (zpg (p:=(g8,60,us)) (jj:=2) (.inr rfl) (Hp.Le.refl _)) kR rfl ?_;refine EVL.append tO rfl rfl rfl rfl rfl rfl rfl rfl rfl rfl rfl rfl ((bl,_,_)::(g,_,_)::(g8,_,_)::OA.flatten) o OB.flatten (by rw[List.flatten_append,List.flatten_cons];rfl) hown (zdj.own 0 rfl rfl) rfl oM ?_;intro v2 o2 hown2;refine EVL.subOw [] [(bl,_,_)] _ rfl ?_;refine EVL.nil ⟨rfl,?_⟩;refine EVG.one 12 (zpg (p:=(g8,60,us)) (jj:=1) (.inr rfl) (Hp.Le.refl _)) kR rfl ?_;refine EVL.idxB tO rfl rfl rfl rfl rfl rfl rfl rfl rfl (OA.length) (OA.length*1) (rfl) (hJ) (rfl) ?_;refine EVL.nil ⟨rfl,?_⟩;refine EVG.one 13 (zpg (p:=(g8,60,us)) (jj:=1) (.inr rfl) (Hp.Le.refl _)) kR rfl ?_;obtain⟨va2,vc2,rfl⟩:=hown2.val;refine EVL.storeOwn tO rfl rfl rfl rfl rfl rfl ([(g,160,_)]) (OA.flatten++(o2++OB.flatten)) rfl rfl rfl rfl ((by rw[Nat.mul_one];show OA.length+1≤us.length;omega)) (ztF (l:=us) (i:=OA.length) _ oM) ?_;refine EVL.nil ⟨rfl,?_⟩;refine EVG.nil (zpg (p:=(g8,60,us)) (jj:=1) (.inl kR) (Hp.Le.refl _)) kR ?_;refine uR ?_;refine⟨(k+1,us.set OA.length (.slice va2 (es.length+1) vc2),OA++o2::OB),⟨by rw[wk];rfl,trivial⟩,sB,trivial,sB,?_,⟨hlk,?_⟩,Hp.Le.refl _,by dsimp only;omega⟩
   ·dsimp only;rw[List.flatten_append,List.flatten_cons];rfl
   ·dsimp only;rw[hzt,←hst];refine hmk.put ?_;rw[qJ];show zaO _ _ _ _ ((es++[ql]).flatMap _) _;rw[List.flatMap_append];exact hown2
  ·simp only[nN]at hlk;obtain rfl:k=(Wf (i:Int)).length:=oM;have hai:(za8 b.X.length)[i]?=some (i:Int):=by unfold za8;rw[qK,List.getElem?_range hlt];rfl
   rw[qb,zpQ (r':=0),←zan hai]at hmk;refine uR ?_;exact⟨(i+1,us,os),⟨by rw[zad i (by omega)];rfl,trivial⟩,sB,trivial,sB,rfl,⟨hlt,hH3.trans hGk,hmk⟩,hK3.trans hGk,by dsimp only;omega⟩
 ·simp only[nN]at hlt;obtain rfl:i=b.X.length:=oM;rw[qO (Nat.le_of_eq hal)]at hm;have hvl:vs8.length=ns.length:=by rw[hm.1,zgM]
  (first|refine EVL.apart fun hdis=>?_|refine EV.apart fun hdis=>?_)
  have hap:(∀k,k∈Ows.bs [(g,160,css.flatten++sp)]→∀q,q∈ows.flatten→k≠q.1)∧g≠g8:=by
   have hn:=zcu.1 hdis;unfold Ows.bs at hn ⊢;simp only[qy,List.nodup_cons,List.map_nil,pL]at hn ⊢;refine⟨fun k hk q hq e=>?_,fun e=>hn.1 (by rw[e];exact qh ..)⟩;subst hk;exact hn.1 (qn _ (by rw[e];exact List.mem_map.2 ⟨q,hq,rfl⟩))
  refine EV.pubQ ows [(g,160,css.flatten++sp),(g8,60,vs8)] [] hm (by rw[qG];rfl) hap.1 fun G7 hG7 hQL=>?_;(first|refine EV.publish [(g,160,css.flatten++sp)] [] rfl (fun G8 hG8 hb8=>?_) (fun k hk=>by rw[pL.1 hk];exact hap.2)|refine EVL.publish [(g,160,css.flatten++sp)] [] rfl (fun G8 hG8 hb8=>?_) (fun k hk=>by rw[pL.1 hk];exact hap.2));have hE8:SlC G8 (.slice (some ⟨g8,0,none⟩) ns.length ns.length) ns.length 1 vs8:=⟨by rw[hvl,Nat.mul_one],.inr ⟨g8,0,ns.length,vs8.toArray,rfl,qH _,hb8,fun j y hy=>by rw[qv];simpa using hy⟩⟩;have hQ8:=hQL.mono hG8;refine uR ?_;refine EV.loopK (ι:=Nat × List (List Value)) [4,7,8,50] [4,7] (fun q=>[(51,.v (.int .i64 (q.1:Int)))]) (fun _=>[]) (fun q=>[(g,160,q.2.flatten++sp)]) (fun q G=>q.1≤ns.length∧G8.Le G∧q.2.length=css.length∧zaJ H0 q.2 (b.midsTo left ns q.1)) (fun q=>ns.length-q.1) ((0,css)) rfl rfl ⟨rfl,trivial⟩ trivial rfl (fun _=>rfl) (⟨qQ _,Hp.Le.refl _,rfl,by dsimp only;rw[zlh];exact hns⟩) ?_;rintro⟨k,ds⟩ G9 hG9 ⟨hk,hG89,hdl,hds⟩;dsimp only at hk hG89 hdl hds;have hml:=zhO b left ns k;refine uR ?_;refine EV.cond rfl (fun hlk=>?_) (fun hlk=>?_)
  ·simp only[nN]at hlk;obtain⟨nr,hnr⟩:=gE hlk;obtain⟨nd,hnd⟩:∃n,(b.midsTo left ns k)[k]?=some n:=⟨_,qA oM⟩;obtain⟨hp1,hp2,hp3,_⟩:=hpt k nr hnr;obtain⟨v,hv⟩:∃v,vs8[k]?=some v:=⟨_,qA oM⟩;have heK:=zj1 (left:=left) (Wf:=Wf) (done:=za8 b.X.length) (r:=0) (q:=[]) hlk List.not_mem_nil;rw[←hpe k]at heK;have hqv:=hQ8.2 k v _ hv heK;have hst:=znI b left hnd;have hmid:=fun (G:Hp) (hG:G9.Le G)=>zff (loss:=2) (SlC.mono hqv (hG89.trans hG)) hp2 oM (fun q hq=>hl100 q (hp1 q hq)) (fun _=>hmt) hti;rw[show zpr 2 b.tilt (b.part left ns k)=zkH b.tilt (b.part left ns k) from if_neg (by decide)]at hmid;generalize b.part left ns k=pl at *
   obtain⟨pa,pc,rfl⟩:=SlC.val hqv;generalize zkH b.tilt pl=mv at *
   have hE9:=hE8.mono hG89;obtain⟨A,c,B,rfl,hAk⟩:=zfV (l:=ds) (k:=k) oM;subst hAk;obtain⟨a7,c7,hil,rfl⟩:=hds.2 A.length c nd (by rw[qL (qH _),Nat.sub_self];rfl) hnd;have hAf:=hds.left.flat_len;rw[zfK];refine uR ?_;apply EV.drawn 9 kR kR;intro xv yw;(repeat refine' DD ?_);refine' DJ.idxM tO rfl rfl rfl rfl rfl rfl rfl rfl rfl (hE9) (A.length) (rfl) (hlk) ((show (vs8.drop (A.length*1)).take 1=[Value.slice pa pl.length pc] by rw[Nat.mul_one,qt (qE.1 hv).1,(qE.1 hv).2];rfl)) ?_;rotate_left;(repeat refine' DD ?_);refine' vC (cO func49) (fun G hG hd=>hmid G hG) ?_;rotate_left;(refine DJ.nil (fun G2 hG2 hF2=>?_);(case hS|hS2=>rfl));refine EVL.idxB tO rfl rfl rfl rfl rfl rfl rfl rfl rfl (A.length) (A.length*21) (rfl) (hlk) (rfl) ?_;refine EVL.fldB tO rfl rfl rfl rfl rfl rfl rfl ?_;refine EVL.storeOwn tO rfl rfl rfl rfl rfl rfl ([]) ([]) rfl rfl rfl rfl ((by rw[qJ,hAf,qJ];show A.length*21+15+5≤A.length*21+(21+(B.flatten++sp).length);omega)) ((zc4 hAf rfl rfl (Nat.le_of_ble_eq_true rfl) rfl)) ?_;refine uR ?_;refine⟨(A.length+1,A++_::B),⟨by rw[zad A.length (by omega)];rfl,trivial⟩,sB,trivial,sB,by dsimp only;rw[zfK];rfl,⟨hlk,hG89.trans hG2,by dsimp only;rw[←hdl];simp,?_⟩,hG2,by dsimp only;omega⟩;rw[←hst];exact zp2 hds ⟨a7,c7,hil,rfl⟩
  ·simp only[nN]at hlk;obtain rfl:k=ns.length:=oM;refine uR ?_;exact⟨ds,rfl,hdl,hds⟩
theorem zne {H:Hp} {a:Option Addr} {cap:Nat}:PW prog 89 #[.slice a 0 cap] H [] fun r _ _=>∃a' c',r=.slice a' 0 c':=by
 refine PW.body tO func89 rfl kR ntmps89 rfl rfl ?_;refine uR ?_;refine EVL.eqnil tO rfl rfl rfl rfl rfl rfl rfl ?_
 cases a with
 | none =>
  refine uR ?_;exact⟨_,_,rfl⟩
 | some x =>
  refine uR ?_;refine EVL.lit0 tO rfl rfl rfl rfl rfl rfl rfl fun g0=>?_;refine uR ?_;refine EVL.append0 tO rfl rfl rfl rfl rfl rfl rfl rfl rfl (qH _) ?_;refine uR ?_;exact⟨_,_,rfl⟩
theorem zo9:∀{css:List (List Value)},(∀c,c∈css→c.length=4)→css.flatten.length=css.length*4
 | [],_=>rfl
 | c::css,h=>by
  have h1:=h c (qh ..);have h2:=zo9 (css:=css) fun d hd=>h d (qn _ hd);rw[List.flatten_cons,qJ,qR,h1,h2];omega
theorem zmI {A c B:List Value} {k s:Nat} (hA:A.length=k*s) (hc:c.length=s):((A++(c++B)).drop (k*s)).take s=c:=by
 rw[←hA,List.drop_left,←hc,List.take_left]
theorem PTs.four {H:Hp} {tcs:List (List Value)} {ts:List Tr} (h:PTs H tcs ts):∀c,c∈tcs→c.length=4:=fun d hd=>by
 obtain⟨i,hi⟩:=List.mem_iff_getElem?.1 hd;have hl:=(qE.1 hi).1;exact(h.2 i d _ hi (qA (by rw[←h.1];exact hl))).len
theorem PTs.one {H:Hp}:∀{tcs:List (List Value)} {ts:List Tr},PTs H tcs ts→zed tcs.flatten=true
 | [],_,_=>rfl
 | c::css,[],h=>by have:=h.1;simp at this
 | c::css,n::ns,h=>by
  rw[List.flatten_cons];refine zfP (h.2 0 c n rfl rfl).one (PTs.one (ts:=ns) ⟨?_,fun j c' n' e1 e2=>h.2 (j+1) c' n' (by rw[pN];exact e1) (by rw[pN];exact e2)⟩);have:=h.1;simpa using this
theorem zrN {α:Type} {l:List α} {i:Nat} {x:α} (h:l[i]?=some x):l.set i x=l:=by
 refine List.ext_getElem? fun j=>?_;rw[List.getElem?_set];by_cases e:i=j
 ·subst e;rw[if_pos rfl,if_pos (qE.1 h).1,h]
 ·rw[if_neg e]
theorem PTs.put {H:Hp} {A B:List (List Value)} {c c':List Value} {ts:List Tr} {t:Tr} (h:PTs H (A++c::B) ts) (ht:ts[A.length]?=some t) (h':zcs H c' t.kd t.cl t.w t.ns):PTs H (A++c'::B) ts:=by
 have:=zp2 (y:=t) h h'
 rwa [zrN ht]at this
theorem PTs.take {H:Hp} {tcs:List (List Value)} {ts:List Tr} (h:PTs H tcs ts) (k:Nat):PTs H (tcs.take k) (ts.take k):=ztw h k
theorem PTs.take_flat {H:Hp} {tcs:List (List Value)} {ts:List Tr} (h:PTs H tcs ts) {k:Nat} (hk:k≤ts.length):(tcs.flatten.drop (0*4)).take ((k-0)*4)=(tcs.take k).flatten:=by
 have h4:=h.four;have hA:=zo9 (css:=tcs.take k) fun c hc=>h4 c (List.mem_of_mem_take hc);rw[qP,h.1,qp hk]at hA;have e1:tcs.flatten=(tcs.take k).flatten++(tcs.drop k).flatten:=by rw[←List.flatten_append,List.take_append_drop]
 rw[Nat.zero_mul,List.drop_zero,Nat.sub_zero,e1,List.take_append_of_le_length oM,qO (by omega)]
theorem zoM {H:Hp} {v:Value} {ts:List Tr} {tcs:List (List Value)} (hts:PTs H tcs ts) (h:SlC H v ts.length 4 tcs.flatten) (h0:0<ts.length) (hl:ts.length≤1000000):PW prog 89 #[v] H [] fun r ow _=>zaO 116 4 r ts.length tcs.flatten ow:=by
 have hs:=h.2;rcases hs with ⟨e,_⟩ | ⟨b,off,cap,c,rfl,_⟩
 ·omega
 ·refine PW.body tO func89 rfl kR ntmps89 rfl rfl ?_;refine uR ?_;refine EVL.eqnil tO rfl rfl rfl rfl rfl rfl rfl ?_;refine uR ?_;refine EVL.lit0 tO rfl rfl rfl rfl rfl rfl rfl fun g0=>?_;refine uR ?_;refine EVL.append tO rfl rfl rfl rfl rfl rfl rfl rfl rfl rfl rfl rfl [] [(g0,116,[])] [] rfl (zaO.full (m:=0) rfl oM) (zdj.ro h h0) hts.one oM ?_;intro v1 ow1 hown1;refine uR ?_;rw[qv]at hown1;rw[qG];exact hown1
set_option maxRecDepth 100000 in
theorem ztk {H:Hp} {loss w:Int} {W k:Nat} {base rate tilt:Rat} {ta:Option Addr} {tc:Nat} {ts:List Tr} (ht':PTL H (.slice ta ts.length tc) ts) (hx':∀t,t∈ts→zdV W t) (hr:sm rate) (hq:sm tilt) (hl:ts.length≤1000) (hc0:za9 loss w rate tilt ts=0) (h0:0<k) (hk:k≤ts.length) :
  PC prog 31 #[.agg (zbE loss w base rate tilt (.slice ta ts.length tc)).toArray,.int .i64 (k:Int)] H fun r G=>∃a c,r=.tuple #[.agg (zbE loss w base rate tilt (.slice a k c)).toArray,.int .i64 0]∧PTL G (.slice a k c) (ts.take k):=by
 have hck:=zfc (loss:=loss) (w:=w) (base:=base) ht' (fun t h=>(hx' t h).x) hr hq oM;rw[hc0]at hck;obtain⟨tcs,hts,hsl⟩:=ht'
 have hcap:ts.length≤tc:=by
  rcases hsl.2 with ⟨e,_⟩ | ⟨_,_,_,_,e,h,_⟩
  ·omega
  ·cases e;exact h
 have hsub:=hsl.sub 0 k (qQ _) hk hcap;rw[hts.take_flat hk,Nat.sub_zero,Nat.sub_zero]at hsub;have htk:(ts.take k).length=k:=by rw[qP];omega
 have hTk:=hts.take k;refine BD func31 ntmps31 ?_
 repeat (first|refine RUN ?_|refine CV (hck) ?_|refine CE (hck) ?_)
 rw[qC (show ¬(k:Int)<0 by omega)];refine uR ?_;rw[qC (show ¬(k:Int)>(ts.length:Int) by omega)];refine uR ?_;refine EVL.slc (te':=Tryz.te116) tO rfl rfl rfl rfl rfl rfl rfl rfl 0 k (.inl ⟨rfl,rfl⟩) (.inr ⟨_,IntKind.i64,rfl,rfl⟩) (qQ _) oM hcap ?_;refine uR ?_;refine EVL.callW rfl rfl rfl rfl rfl ([]) ([]) rfl (zoM hTk (by rw[htk];exact hsub) oM oM) ?_;intro v29 ow29 G1 hown29 hG1;rw[htk]at hown29;obtain⟨a29,c29,rfl⟩:=hown29.val;refine uR ?_;refine EV.loopK (ι:=Nat × List (List Value) × Ows) [2,4,32,33] [2,4] (fun q=>[(34,.v (.int .i64 (q.1:Int)))]) (fun _=>[]) (fun q=>q.2.2) (fun q G=>q.1≤k∧G1.Le G∧PTs G q.2.1 (ts.take k)∧zaO 116 4 (.slice a29 k c29) k q.2.1.flatten q.2.2) (fun q=>k-q.1) ((0,tcs.take k,ow29++[])) rfl rfl ⟨rfl,trivial⟩ trivial rfl (fun _=>rfl) (⟨qQ _,Hp.Le.refl _,hTk.mono hG1,(by rw[qG];exact hown29)⟩) ?_;rintro⟨i,cs2,ow2⟩ G2 hG2 ⟨hi,hG12,hps,hown⟩;dsimp only at hi hG12 hps hown;refine uR ?_;refine EV.cond rfl (fun hlt=>?_) (fun hlt=>?_)
 case refine_2 =>
  simp only[nN]at hlt;obtain rfl:i=k:=oM;(first|refine EVL.publishL [] ow2 [] ((qG _).symm) hown fun G3 hG3 hs3=>?_|refine EV.publishL [] ow2 [] ((qG _).symm) hown fun G3 hG3 hs3=>?_);refine uR ?_;exact⟨_,_,rfl,cs2,hps.mono hG3,by rw[htk];exact hs3⟩
 simp only[nN]at hlt;obtain⟨t,hti⟩:∃t,(ts.take k)[i]?=some t:=⟨_,qA oM⟩;have hB:=hx' t (List.mem_of_mem_take (qF hti));obtain⟨kk1,kk2,kk3⟩:=hB.ok.copies;have hpl:=hps.1;obtain⟨A,c,B,rfl,hAi⟩:=zfV (l:=cs2) (k:=i) oM;subst hAi;have hptr:=hps.2 A.length c t (by rw[qL (qH _),Nat.sub_self];rfl) hti;have hA4:A.flatten.length=A.length*4:=zo9 fun d hd=>hps.four d (List.mem_append_left _ hd);obtain⟨na,nc,css,rfl,hns,hnl⟩:=hptr;obtain⟨gT,capT,spT,e,rfl,hback⟩:=zaO.midS (show 0<4 by omega) hown rfl;cases e;refine uR ?_;refine EVL.idxB tO rfl rfl rfl rfl rfl rfl rfl rfl rfl (A.length) (A.length*4) (rfl) (hlt) (rfl) ?_;refine EVL.loadOwn tO rfl rfl rfl rfl rfl rfl (0) rfl (zmI hA4 rfl) rfl rfl ?_;refine uR ?_;generalize hCT:A.flatten++([.int .i64 t.kd,.int .i64 t.cl,.int .i64 t.w,.slice na t.ns.length nc]++(B.flatten++spT))=CT;refine vW ([]) ([(gT,116,CT)]) (zoL hns hnl kk1 kk2) ?_;intro r41 ow41 G3 hown41 hG3;obtain⟨gN,capN,spN,rfl,rfl,hsame⟩:=hown41.same kk1;refine uR ?_;refine EV.loopK (ι:=Nat × List (List Value)) [2,4,6,7,32,33,34,44,45] [2,4,7] (fun q=>[(46,.v (.int .i64 (q.1:Int)))]) (fun _=>[]) (fun q=>[(gN,160,q.2.flatten++spN),(gT,116,CT)]) (fun q G=>q.1≤t.ns.length∧G3.Le G∧zaJ G q.2 t.ns) (fun q=>t.ns.length-q.1) ((0,css)) rfl rfl ⟨rfl,trivial⟩ trivial rfl (fun _=>rfl) (⟨qQ _,Hp.Le.refl _,hns.mono hG3⟩) ?_;rintro⟨j,ds⟩ G4 hG4 ⟨hj,hG34,hds⟩;dsimp only at hj hG34 hds;refine uR ?_;refine EV.cond rfl (fun hlj=>?_) (fun hlj=>?_)
 ·simp only[nN]at hlj;obtain⟨n,hni⟩:=gE hlj;have hdl:=hds.1;obtain⟨D,c,E,rfl,hDl⟩:=zfV (l:=ds) (k:=j) oM;subst hDl;have hnd:=hds.2 D.length c n (by rw[qL (qH _),Nat.sub_self];rfl) hni;obtain⟨a7,c7,rfl,hil⟩:=hnd.cells;have hDf:=hds.left.flat_len;rw[zfK];refine uR ?_;refine EVL.idxB tO rfl rfl rfl rfl rfl rfl rfl rfl rfl (D.length) (D.length*21) (rfl) (hlj) (rfl) ?_;refine EVL.loadOwn tO rfl rfl rfl rfl rfl rfl (0) rfl (zmI hDf rfl) rfl rfl ?_;refine uR ?_;apply EV.drawn 6 kR kR;intro xv yw;(repeat refine' DD ?_);refine' vB (cO func91) (fun G hG hd=>zoJ (hil.mono hG) (kk3 n (qF hni))) (fun _ _ _ h k=>SlC.mono h k) ?_;rotate_left;(refine DJ.nil (fun G5 hG5 hF5=>?_);(case hS|hS2=>rfl));have hR:=hF5.1;obtain⟨a8,c8,e8⟩:=SlC.val hR;rw[e8]at hR;rw[e8];refine uR ?_;refine EVL.idxB tO rfl rfl rfl rfl rfl rfl rfl rfl rfl (D.length) (D.length*21) (rfl) (hlj) (rfl) ?_;refine EVL.fldB tO rfl rfl rfl rfl rfl rfl rfl ?_;refine EVL.storeOwn tO rfl rfl rfl rfl rfl rfl ([]) ([(gT,116,CT)]) rfl rfl rfl rfl ((by rw[qJ,hDf,qJ];show D.length*21+20+1≤_;simp;omega)) ((zc4 hDf rfl rfl (Nat.le_of_ble_eq_true rfl) rfl)) ?_;refine uR ?_;refine⟨(D.length+1,D++_::E),⟨by rw[zad D.length (by omega)];rfl,trivial⟩,sB,trivial,sB,by dsimp only;rw[zfK];rfl,⟨hlj,hG34.trans hG5,(hds.mono hG5).put hni ⟨a8,c8,hR,rfl⟩⟩,hG5,by dsimp only;omega⟩
 simp only[nN]at hlj;have hownN:=hsame ds.flatten (by rw[hds.flat_len,hns.flat_len,hds.1,hns.1]);(first|refine EVL.publishL [] [(gN,160,ds.flatten++spN)] [(gT,116,CT)] (rfl) hownN fun G5 hG5 hs5=>?_|refine EV.publishL [] [(gN,160,ds.flatten++spN)] [(gT,116,CT)] (rfl) hownN fun G5 hG5 hs5=>?_);have hpt:zcs G5 [.int .i64 t.kd,.int .i64 t.cl,.int .i64 t.w,.slice (some ⟨gN,0,none⟩) t.ns.length capN] t.kd t.cl t.w t.ns:=⟨_,_,ds,rfl,hds.mono hG5,hs5⟩;subst hCT;refine uR ?_;refine EVL.idxB tO rfl rfl rfl rfl rfl rfl rfl rfl rfl (A.length) (A.length*4) (rfl) (hlt) (rfl) ?_;refine EVL.storeOwn tO rfl rfl rfl rfl rfl rfl ([]) ([]) rfl rfl rfl rfl ((by rw[qJ,hA4,qJ];show A.length*4+4≤_;simp)) ((zc4 (f:=0) (m:=4) (c':=[.int .i64 t.kd,.int .i64 t.cl,.int .i64 t.w,.slice (some ⟨gN,0,none⟩) t.ns.length capN]) hA4 rfl rfl (qH 4) rfl)) ?_;refine uR ?_;have hK:=hG3.trans (hG34.trans hG5);exact⟨(A.length+1,A++[.int .i64 t.kd,.int .i64 t.cl,.int .i64 t.w,.slice (some ⟨gN,0,none⟩) t.ns.length capN]::B,[(gT,_,_)]),⟨by rw[zad A.length (by omega)];rfl,trivial⟩,sB,trivial,sB,rfl,⟨hlt,hG12.trans hK,(hps.mono hK).put hti hpt,hback _ rfl⟩,hK,by dsimp only;omega⟩
theorem QL.ofOwn {G:Hp} {g n:Nat} {l:List Rat} (h:G g=some (zak l).toArray) (hn:l.length=n):QL G (.slice (some ⟨g,0,none⟩) n n) l:=by
 subst hn;exact⟨flat_len _ 5 l (fun _ _=>rfl),.inr ⟨g,0,l.length,_,rfl,qH _,h,fun j y hy=>by rw[qv];simpa using hy⟩⟩
theorem PTs.nil (H:Hp):PTs H [] []:=⟨rfl,fun j c t e=>by cases e⟩
set_option maxRecDepth 100000 in
theorem zfQ {H:Hp} {b:BG} (hb:b.Ok) {vx vy:Value} {y:List Rat} {K D0 A0:Nat} (hX:QLL H vx b.X) (hy:QL H vy y) (hyl:y.length=b.X.length)
  (hD:1≤D0) (hA:1≤A0) (hg:∀q,q∈y→Gr D0 A0 q) (hK:K≤50) (hbl:bl ((2*A0*2 ^ K)*(D0*840*(840*b.rate.den) ^ K))≤95) :
  PC prog 13 #[vx,vy,.agg (zkd b.loss (K:Int) (b.D:Int) b.least b.rate b.tilt b.gain).toArray] H fun r G=>∃ta tc,r=.tuple #[.agg (zbE b.loss (b.W:Int) (b.mid y) b.rate b.tilt (.slice ta K tc)).toArray,.int .i64 0]∧PTL G (.slice ta K tc) (b.fit y K).1:=by
 have h8:=hb.rows;have hw:=hb.wide;have hdp:=hb.deep;have hxw:=fun x hx=>(hb.each x hx).1;have hx60:=fun x hx=>(hb.each x hx).2;have hfit:=hb.fit hD hA hg hyl hbl;have hrd:=b.rate.den_nz;have hb0:bl (A0*(D0*840))≤95:=qI (zaZ (Nat.mul_le_mul (by rw[qW 2 A0,Nat.mul_assoc];exact Nat.le_mul_of_pos_right A0 (Nat.mul_pos oM (Nat.pow_pos oM))) (Nat.le_mul_of_pos_right _ (Nat.pow_pos oM)))) hbl;have hy95:∀q,q∈y→ht q≤95:=fun q k=>qI (((hg q k).up 840).bits oM hA) hb0;have hm95:ht (b.mid y)≤95:=qI ((hb.mid_gr hg hyl).bits oM hA) hb0
 have hr:ht b.rate≤10:=by
  have h:=hb.rd.bits oM oM;rw[Nat.one_mul]at h;exact qI h (qI (zaZ hb.den.1) (zaU (by decide)))
 have hvd:=zj9 hX hxw h8.1 oM hw.1 hw.2;have hnm:=zeg (loss:=b.loss) (zai hr oM) (zai hb.den.2 oM);rw[zpD hb]at hnm;have hgs:sm b.gain:=zai hb.gain.2 oM;have hfi:=fun G:Hp=>zg9 (H:=G) (deep:=(b.D:Int)) (least:=b.least) hgs;rw[qD (show zm3 (b.D:Int) b.least b.gain from ⟨by omega,by omega,hb.least.1,hb.least.2,hb.gain.1⟩)]at hfi;have hmd:=fun (G:Hp) (hG:H.Le G)=>zff (loss:=b.loss) (SlC.mono hy hG) oM oM (fun q k=>qI (hy95 q k) oM) (fun k=>hb.two (hb.loss.resolve_left k)) hb.den.2;rw[show zpr b.loss b.tilt y=b.mid y from rfl]at hmd;obtain⟨vs,hvs,hvx⟩:=id hX;obtain⟨xa,xc,rfl⟩:=hX.val;obtain⟨ya,yc,rfl⟩:=SlC.val hy;obtain⟨x0,hxx0⟩:∃x,b.X[0]?=some x:=⟨_,qA h8.1⟩;obtain⟨u0,e0,hu0,_⟩:=hvs.at hxx0;rw[hxw x0 (qF hxx0)]at hu0;have hyS:SlC H (.slice ya y.length yc) y.length 5 (y.flatMap fun q=>zac (zaa q)):=hy;have hfz:(b.fit y 0).2=y.map fun q=>q-b.mid y:=rfl;refine BD func13 ntmps13 ?_
 repeat (first|refine RUN ?_|refine CV (hvd) ?_|refine CE (hvd) ?_)
 rw[show ((y.length:Int) != (b.X.length:Int))=false by rw[hyl];exact pQ _];have hfi0:=hfi H
 repeat (first|refine RUN ?_|refine CV (hnm) ?_|refine CE (hnm) ?_)
 rw[qC (show ¬(K:Int)<0 by omega)];refine uR ?_;rw[qC (show ¬(K:Int)>50 by omega)]
 repeat (first|refine RUN ?_|refine CV (hfi0) ?_|refine CE (hfi0) ?_)
 apply EV.drawn 18 kR kR;intro xv yw;(repeat refine' DD ?_);refine' vJ (hvx) (0) (rfl) (h8.1) (hu0) ?_;rotate_left;(repeat refine' DD ?_);refine' vC (cO func49) (fun G hG hd=>hmd G hG) ?_;rotate_left;(repeat refine' DD ?_);(refine DJ.nil (fun G1 hG1 hF1=>?_);(case hS|hS2=>rfl));refine uR ?_;refine EVL.make tO rfl rfl rfl rfl rfl rfl rfl rfl rfl (b.X.length) (rfl) oM (by rfl) (by rfl) fun g9=>?_;refine uR ?_;refine EVL.make tO rfl rfl rfl rfl rfl rfl rfl rfl rfl (b.X.length) (rfl) oM (by rfl) (by rfl) fun g10=>?_;refine uR ?_;(first|refine EVL.swapOw ([(g10,51,(([]:List Rat)++List.replicate (b.X.length-0) 0).flatMap cqF)]) ([(g9,3,_)]) ((by rw[←zfH];rfl)) ?_|refine EV.swapOw ([(g10,51,(([]:List Rat)++List.replicate (b.X.length-0) 0).flatMap cqF)]) ([(g9,3,_)]) ((by rw[←zfH];rfl)) ?_);(first|refine EVL.swapOw ([(g9,3,(za8 0).map iv++List.replicate (b.X.length-0) (.int .i64 0))]) ([(g10,51,(([]:List Rat)++List.replicate (b.X.length-0) 0).flatMap cqF)]) ((by rw[show (Tryz.te3).zero=[Value.int .i64 0] from rfl,zb7];rfl)) ?_|refine EV.swapOw ([(g9,3,(za8 0).map iv++List.replicate (b.X.length-0) (.int .i64 0))]) ([(g10,51,(([]:List Rat)++List.replicate (b.X.length-0) 0).flatMap cqF)]) ((by rw[show (Tryz.te3).zero=[Value.int .i64 0] from rfl,zb7];rfl)) ?_);generalize hbm:b.mid y=bm at *
 refine EV.loopK (ι:=List Rat) [0,1,5,6,8,9,10,77] [5,6,8] (fun qs=>[(78,.v (.int .i64 (qs.length:Int)))]) (fun _=>[]) (fun qs=>[(g10,51,(qs++List.replicate (b.X.length-qs.length) 0).flatMap cqF),(g9,3,(za8 qs.length).map iv++List.replicate (b.X.length-qs.length) (.int .i64 0))]) (fun qs G=>qs.length≤b.X.length∧G1.Le G∧qs=(y.map fun q=>q-bm).take qs.length) (fun qs=>b.X.length-qs.length) ([]) rfl rfl ⟨rfl,trivial⟩ trivial rfl (fun _=>rfl) (⟨qQ _,Hp.Le.refl _,rfl⟩) ?_;rintro qs G2 hG2 ⟨hi,hG12,hqs⟩;refine uR ?_;refine EV.cond rfl (fun hlt=>?_) (fun hlt=>?_)
 ·simp only[nN]at hlt;obtain⟨q,hq⟩:∃q,y[qs.length]?=some q:=⟨_,qA oM⟩;have hq95:=hy95 q (qF hq);have hsub:=zfz q bm (zai hq95 oM) (zai hm95 oM);have hyS2:=hyS.mono (hG1.trans hG12)
  have hsn:qs++[q-bm]=(y.map fun q=>q-bm).take (qs.length+1):=by
   have hm:(y.map fun q=>q-bm)[qs.length]?=some (q-bm):=by rw[qK,hq];rfl
   rw[zan hm,←hqs]
  refine uR ?_;refine EVL.idxB tO rfl rfl rfl rfl rfl rfl rfl rfl rfl (qs.length) (qs.length*1) (rfl) (hlt) (rfl) ?_;refine uR ?_;refine EVL.storeOwn tO rfl rfl rfl rfl rfl rfl ([(g10,51,_)]) ([]) rfl rfl rfl rfl ((by rw[qJ,qV,zaW,List.length_replicate];show qs.length*1+1≤_;omega)) (zov hlt _ rfl) ?_;refine uR ?_;apply EV.drawn 9 kR kR;intro xv yw;(repeat refine' DD ?_);refine' DJ.idxM tO rfl rfl rfl rfl rfl rfl rfl rfl rfl (hyS2) (qs.length) (rfl) (oM) (QL.at (H:=H) (v:=.bool true) hq) ?_;rotate_left;(repeat (first|refine' DD ?_|(refine' DC (hsub) (h:=?_);rotate_left)));(refine DJ.nil (fun G3 hG3 hF3=>?_);(case hS|hS2=>rfl));refine EVL.idxB tO rfl rfl rfl rfl rfl rfl rfl rfl rfl (qs.length) (qs.length*5) (rfl) (hlt) (rfl) ?_;refine uR ?_;refine EVL.storeOwn tO rfl rfl rfl rfl rfl rfl ([]) ([(g9,3,_)]) rfl rfl rfl rfl ((by rw[zk3,qJ,List.length_replicate];show qs.length*5+5≤_;omega)) (zoV qs (q-bm) hlt) ?_;refine uR ?_;have hl1:(qs++[q-bm]).length=qs.length+1:=by rw[qJ];rfl
  refine⟨qs++[q-bm],⟨by rw[zad qs.length oM,hl1];rfl,trivial⟩,sB,trivial,sB,by rw[hl1];rfl,⟨by rw[hl1];exact hlt,hG12.trans hG3,by rw[hl1];exact hsn⟩,hG3,by rw[hl1];omega⟩
 simp only[nN]at hlt;have hql:qs.length=b.X.length:=oM
 have hq0:qs++List.replicate (b.X.length-qs.length) 0=(b.fit y 0).2:=by
  rw[hql,Nat.sub_self,List.replicate_zero,qG,hfz,hqs,hql];exact qO (by rw[qV];omega)
 rw[hq0,hql,Nat.sub_self,List.replicate_zero,qG];clear hqs hq0 hi hlt hql;(first|refine EVL.publish [(g10,51,_)] [] rfl fun G3 hG3 hb3=>?_|refine EV.publish [(g10,51,_)] [] rfl fun G3 hG3 hb3=>?_);have hil3:IL G3 (.slice (some ⟨g9,0,none⟩) b.X.length b.X.length) (za8 b.X.length):=zpf (sp:=[]) (by rw[qG];exact hb3) (zaW _);have hH3:=hG1.trans (hG12.trans hG3);refine uR ?_;refine EV.loopK (ι:=Nat × Value × Ows × List (List Value)) [0,5,6,8,9,10,97] [5,6] (fun q=>[(98,.v (.int .i64 (q.1:Int)))]) (fun q=>[(8,54,zbE b.loss (b.W:Int) bm b.rate b.tilt q.2.1)]) (fun q=>(g10,51,zak (b.fit y q.1).2)::q.2.2.1) (fun q G=>q.1≤K∧G3.Le G∧zaO 116 4 q.2.1 q.1 q.2.2.2.flatten q.2.2.1∧PTs G q.2.2.2 (b.fit y q.1).1) (fun q=>K-q.1) ((0,.slice none 0 0,[],[])) rfl rfl ⟨rfl,trivial⟩ ⟨rfl,trivial⟩ rfl (fun _=>rfl) (⟨qQ _,Hp.Le.refl _,zaO.nil _ _,PTs.nil _⟩) ?_;rintro⟨k,v8,ow8,tcs⟩ G4 hG4 ⟨hk,hG34,hown8,hts⟩;dsimp only at hk hG34 hown8 hts;obtain⟨a8,c8,rfl⟩:=hown8.val;refine uR ?_;refine EV.cond rfl (fun hlt=>?_) (fun hlt=>?_)
 case refine_2 =>
  simp only[nN]at hlt;obtain rfl:k=K:=oM;(first|refine EVL.publishL [(g10,51,zak (b.fit y k).2)] ow8 [] ((show (g10,51,zak (b.fit y k).2)::ow8=[(g10,51,zak (b.fit y k).2)]++(ow8++[]) by rw[qG];rfl)) hown8 fun G5 hG5 hs8=>?_|refine EV.publishL [(g10,51,zak (b.fit y k).2)] ow8 [] ((show (g10,51,zak (b.fit y k).2)::ow8=[(g10,51,zak (b.fit y k).2)]++(ow8++[]) by rw[qG];rfl)) hown8 fun G5 hG5 hs8=>?_);refine uR ?_;exact⟨a8,c8,rfl,tcs,hts.mono hG5,by rw[(b.fit_len y hyl k).2];exact hs8⟩
 simp only[nN]at hlt;obtain⟨hgr,htb⟩:=hfit k oM;obtain⟨hln1,hln2⟩:=b.fit_len y hyl k;have hn1:(b.fit y (k+1)).1=(b.fit y k).1++[b.tree (b.fit y k).2]:=rfl;have hn2:(b.fit y (k+1)).2=b.next (b.fit y k).2:=rfl;have hd1:1≤D0*840*(840*b.rate.den) ^ k:=Nat.mul_pos oM (Nat.pow_pos oM);have ha1:1≤2*A0*2 ^ k:=Nat.mul_pos oM (Nat.pow_pos oM);have hbl1:=zoD (k:=k) hrd hbl oM;have hgrid:zhl (b.fit y k).2:=⟨_,_,hd1,ha1,hbl1,hgr⟩;have hTB:=hb.tree hd1 ha1 hbl1 hgr hln1;obtain⟨_,hraw1,hraw15⟩:=hb.raw hgrid hln1;have hgd:=hb.gd hgrid hln1;have hal:=b.nodes_alikeV (b.fit y k).2;have hl95:=hgrid.bits;clear hgr hfit;generalize (b.fit y k).2=left at *
 generalize (b.fit y k).1=ts at *
 have hH4:=hH3.trans hG34;have hnl:(b.nodes left).length=(b.raw left).length:=hal.len;have hgo:=PW.reads (H:=G4) (L:=[]) (b:=g10) (T:=51) (cs:=zak left) (Φ:=fun v ow=>zaO 51 5 v left.length (zak (b.goal left)) ow) (cO func51) (fun G hG hg=>zre (b:=b) hb.loss hb.den.2 (QL.ofOwn hg hln1) oM oM (fun q hq=>qI (hl95 q hq) oM));refine uR ?_;refine vW ([(g10,51,zak left)]) (ow8) (hgo) ?_;rintro vg owg G5 ⟨owh,rfl,hog⟩ hG5;obtain⟨ga,gc,rfl⟩:=hog.val;(first|refine EVL.publishL [(g10,51,zak left)] owh ow8 (rfl) hog fun G6 hG6 hsg=>?_|refine EV.publishL [(g10,51,zak left)] owh ow8 (rfl) hog fun G6 hG6 hsg=>?_);have hgl:=b.goal_len left;have hQg:QL G6 (.slice ga left.length gc) (b.goal left):=by unfold QL;rw[hgl];exact hsg
 have hH6:=hH4.trans (hG5.trans hG6);have hP:GD.P G6 (.slice none 0 0) (.slice ga left.length gc) (.v (b.goal left)):=⟨none,0,ga,gc,rfl,by rw[hgl],hQg⟩;obtain⟨S,wo,hpg⟩:=hgd.pgoal (H:=G6) h8.1 oM hP (p:=b.gp left) rfl rfl rfl rfl;have hgrow:=zpT (p:=b.gp left) (D0:=b.D) (w:=b.W) (s:=0) (fun _=>rfl) hw.1 hw.2 h8.1 (by show b.X.length≤20;omega) hxw hx60 rfl hb.least hgs hb.gain.1 hdp hpg (hX.mono hH6) (SlC.mono hil3 (hG34.trans (hG5.trans hG6))) (by rw[zaW];exact h8.1) (by rw[zaW];omega) zbb;have hrw:((b.gp left).grow b.D 0 (za8 b.X.length) 0).1=b.raw left:=rfl;rw[hrw]at hgrow;(first|refine EVL.swapOw ([(g10,51,zak left)]) (ow8) (rfl) ?_|refine EV.swapOw ([(g10,51,zak left)]) (ow8) (rfl) ?_);refine uR ?_;refine vW ([]) (ow8++[(g10,51,zak left)]) (hgrow) ?_;rintro _ owN G7 ⟨oa,oc,css,rfl,hns,hown⟩ hG7;rcases hown.2 with ⟨_,e0,_⟩|⟨g,cap,sp,e0,rfl,_,hcap,_⟩
 ·omega
 cases e0;obtain⟨_,_,sp',e1,e2,hsame⟩:=hown.same hraw1;cases e1
 obtain rfl:sp'=sp:=by
  have e3:=List.cons.inj e2;have e4:=congrArg (fun q:Nat × TypeId × List Value=>q.2.2) e3.1;exact(List.append_cancel_left (show css.flatten++sp=css.flatten++sp' from e4)).symm
 clear e2;(first|refine EVL.swapOw ((g,160,css.flatten++sp')::ow8) ([(g10,51,zak left)]) (rfl) ?_|refine EV.swapOw ((g,160,css.flatten++sp')::ow8) ([(g10,51,zak left)]) (rfl) ?_);refine uR ?_;refine EV.meetK (ι:=List (List Value)) [0,5,6,8,9,10,13,97,98] [5,6,8,13] (fun _=>[]) (fun _=>[]) (fun _=>(g10,51,zak left)::ow8) (fun q G=>G7.Le G∧zaJ G q (b.nodes left)∧SlC G (.slice (some ⟨g,0,none⟩) (b.raw left).length oc) (b.raw left).length 21 q.flatten) rfl rfl (fun _=>rfl) ?_ ?_
 ·by_cases e1:b.loss=1
  ·rw[show b.nodes left=b.raw left from if_pos e1];rw[show (b.loss == 2)=false by rw[e1];rfl];(first|refine EVL.publishL [(g10,51,zak left)] [(g,160,css.flatten++sp')] ow8 (rfl) hown fun G8 hG8 hs8=>?_|refine EV.publishL [(g10,51,zak left)] [(g,160,css.flatten++sp')] ow8 (rfl) hown fun G8 hG8 hs8=>?_);refine uR ?_;exact⟨css,trivial,sB,trivial,sB,rfl,hG8,hns.mono hG8,hs8⟩
  have e2:=hb.loss.resolve_left e1;have hmi:=PW.reads (H:=G7) (L:=[(g,160,css.flatten++sp')]) (b:=g10) (T:=51) (cs:=zak left) (Φ:=fun _ ow=>∃css',ow=[(g,160,css'.flatten++sp')]∧css'.length=css.length∧zaJ G7 css' (b.mids left (b.raw left))) (cO func53) (fun G hG hg=>zlz (H0:=G7) hb e2 hG (hX.mono ((hH6.trans hG7).trans hG)) (QL.ofOwn hg hln1) hln1 hgrid (fun q hq=>qI (hl95 q hq) oM) hns hcap);rw[show b.nodes left=b.mids left (b.raw left) from if_neg e1];rw[show (b.loss == 2)=true by rw[e2];rfl];refine uR ?_;refine vW ([(g10,51,zak left),(g,160,css.flatten++sp')]) (ow8) (hmi) ?_;rintro _ _ G8 ⟨_,rfl,css',rfl,hcl,hns'⟩ hG8;have hown':=hsame css'.flatten (by rw[hns'.flat_len,hns.flat_len,hcl]);(first|refine EVL.publishL [(g10,51,zak left)] [(g,160,css'.flatten++sp')] ow8 (rfl) hown' fun G9 hG9 hs9=>?_|refine EV.publishL [(g10,51,zak left)] [(g,160,css'.flatten++sp')] ow8 (rfl) hown' fun G9 hG9 hs9=>?_);refine uR ?_;exact⟨css',trivial,sB,trivial,sB,rfl,hG8.trans hG9,hns'.mono (hG8.trans hG9),hs9⟩
 rintro css' G8 ⟨hG8,hns',hsn⟩;have hTr:zcs G8 [.int .i64 2,.int .i64 0,.int .i64 (b.W:Int),.slice (some ⟨g,0,none⟩) (b.raw left).length oc] 2 0 (b.W:Int) (b.nodes left):=⟨some ⟨g,0,none⟩,oc,css',by rw[hnl],hns',by rw[hnl];exact hsn⟩;have hK48:=hG5.trans (hG6.trans (hG7.trans hG8));have hH8:=hH4.trans hK48;have hQ0:=hX.mono hH8;have hvx8:=hvx.mono hH8;(first|refine EVL.swapOw ([(g10,51,zak left)]) (ow8) (rfl) ?_|refine EV.swapOw ([(g10,51,zak left)]) (ow8) (rfl) ?_);refine uR ?_;refine EVL.app1 tO rfl rfl rfl rfl rfl rfl rfl rfl rfl rfl rfl rfl rfl rfl rfl rfl rfl rfl rfl (fun _=>rfl) (ow8) ([(g10,51,zak left)]) (rfl) (hown8) oM fun _=>?_;intro v9 ow9 hown9;obtain⟨a9,c9,rfl⟩:=hown9.val;(first|refine EVL.swapOw (ow9) ([(g10,51,zak left)]) (rfl) ?_|refine EV.swapOw (ow9) ([(g10,51,zak left)]) (rfl) ?_);refine uR ?_;refine EV.loopK (ι:=Nat) [0,5,6,8,9,10,13,97,98,135,136] [5,6,8,13] (fun i=>[(137,.v (.int .i64 (i:Int)))]) (fun _=>[]) (fun i=>(g10,51,zak ((b.next left).take i++left.drop i))::ow9) (fun i G=>i≤b.X.length∧G8.Le G) (fun i=>b.X.length-i) (0) rfl rfl ⟨rfl,trivial⟩ trivial rfl (fun _=>rfl) (⟨qQ _,Hp.Le.refl _⟩) ?_;rintro i G9 hG9 ⟨hi,hG89⟩;have hxl:(b.next left).length=left.length:=by unfold BG.next;rw[List.length_zipWith];omega
 have hml:=zpu hxl i;refine uR ?_;refine EV.cond rfl (fun hli=>?_) (fun hli=>?_)
 ·simp only[nN]at hli;obtain⟨x,hx⟩:=gE hli;obtain⟨q,hqi⟩:∃q,left[i]?=some q:=⟨_,qA oM⟩;obtain⟨ux,ex,hux,hxr⟩:=hvs.at hx;obtain⟨hxw',hx60'⟩:=hb.each x (qF hx);have hnx:(b.next left)[i]?=some (q-b.rate*(zb3 x (b.tree left)).value):=zhk hx hqi;have hlb:=zfN hTB x;have hq95:=hl95 q (qF hqi);have hval:=fun (G:Hp) (hG:G9.Le G)=>zka (hTr.mono (hG89.trans hG)) hTB.ok (SlC.mono hxr (hH8.trans (hG89.trans hG))) (by rw[hxw']) (fun q hq=>zai (hx60' q hq) oM);have hmul:=zgD b.rate (zb3 x (b.tree left)).value (zai hr oM) (zai hlb oM);have hmh:=zdx b.rate (zb3 x (b.tree left)).value;have hsub:=zfz q (b.rate*(zb3 x (b.tree left)).value) (zai hq95 oM) (zai (n:=1000) oM oM)
  have hmi:((b.next left).take i++left.drop i)[i]?=some q:=by
   rw[qL (by rw[qP];omega),qP,qp oM,Nat.sub_self,List.getElem?_drop];exact hqi
  have hst:=zhE (l:=(b.next left).take i++left.drop i) (j:=i) [] (q-b.rate*(zb3 x (b.tree left)).value) oM;rw[zpw hxl hnx,qG,qG]at hst;have hval':∀(G:Hp),G9.Le G→PC prog 54 #[.agg [.int .i64 2,.int .i64 0,.int .i64 (b.W:Int),.slice (some ⟨g,0,none⟩) (b.raw left).length oc].toArray,.slice ux x.length ex] G fun r _=>r=zaa (zb3 x (b.tree left)).value:=hval;generalize (zb3 x (b.tree left)).value=vl at *
  refine uR ?_;refine vI ((hvx8.mono hG89)) (i) (rfl) (hli) (hux) ?_;refine uR ?_;apply EV.drawn 13 kR kR;intro xv yw;(repeat refine' DD ?_);refine' DJ.idxB tO rfl rfl rfl rfl rfl rfl rfl rfl rfl (i) (i*5) (rfl) (hli) (rfl) ?_;rotate_left;refine' DJ.ofVal (zab.loadOwn tO rfl rfl rfl rfl (0) rfl (QL.at (H:=H) (v:=.bool true) hmi) rfl rfl) rfl rfl rfl ?_;rotate_left;(repeat refine' DD ?_);refine' vC (cO func54) (fun G hG hd=>hval' G hG) ?_;rotate_left;(repeat (first|refine' DD ?_|(refine' DC (hmul) (h:=?_);rotate_left)|(refine' DC (hsub) (h:=?_);rotate_left)));(refine DJ.nil (fun G1 hG1 hF1=>?_);(case hS|hS2=>rfl));refine EVL.idxB tO rfl rfl rfl rfl rfl rfl rfl rfl rfl (i) (i*5) (rfl) (hli) (rfl) ?_;refine EVL.storeOwn tO rfl rfl rfl rfl rfl rfl ([]) (ow9) rfl rfl rfl rfl ((by rw[zds,hml];show i*5+5≤_;omega)) (hst) ?_;refine uR ?_;exact⟨i+1,⟨by rw[zad i (by omega)];rfl,trivial⟩,sB,trivial,sB,rfl,⟨hli,hG89.trans hG1⟩,hG1,by omega⟩
 ·simp only[nN]at hli;obtain rfl:i=b.X.length:=oM;rw[qO oM,List.drop_eq_nil_of_le oM,qG];refine uR ?_;exact⟨(k+1,.slice a9 (k+1) c9,ow9,tcs++[[.int .i64 2,.int .i64 0,.int .i64 (b.W:Int),.slice (some ⟨g,0,none⟩) (b.raw left).length oc]]),⟨by rw[zad k (by omega)];rfl,trivial⟩,sB,⟨rfl,trivial⟩,sB,by dsimp only;rw[hn2],⟨hlt,hG34.trans (hK48.trans hG89),by dsimp only;rw[List.flatten_append,List.flatten_cons,List.flatten_nil,qG];exact hown9,by dsimp only;rw[hn1];exact zmG (R:=fun c (t:Tr)=>zcs G9 c t.kd t.cl t.w t.ns) (x:=[.int .i64 2,.int .i64 0,.int .i64 (b.W:Int),.slice (some ⟨g,0,none⟩) (b.raw left).length oc]) (y:=b.tree left) (hts.mono (hK48.trans hG89)) (hTr.mono hG89)⟩,hK48.trans hG89,by dsimp only;omega⟩
theorem zn5 {H:Hp} {vs:Value} {loss rounds deep least:Int} {rate tilt gain:Rat} (h:zkN H vs loss rounds deep least rate tilt gain) (q1:rq rate) (q2:rq tilt) (q3:rq gain) :
  PC prog 16 #[vs] H fun r _=>r=.agg (zkd loss rounds deep least rate tilt gain).toArray:=by
 obtain⟨b1,a1,l1,c1,a2,l2,c2,b2,a3,l3,c3,a4,l4,c4,b3,a5,l5,c5,a6,l6,c6,rfl,h1,h2,h3⟩:=h;refine BD func16 ntmps16 ?_;refine uR ?_;apply EV.drawn 14 kR kR;intro xv yw;(repeat refine' DD ?_);refine' vC (cO func55) (fun G hG hd=>znE (RQ.mono h1 hG) q1) ?_;rotate_left;(repeat refine' DD ?_);refine' vC (cO func55) (fun G hG hd=>znE (RQ.mono h2 hG) q2) ?_;rotate_left;(repeat refine' DD ?_);refine' vC (cO func56) (fun G hG hd=>znD (RQ.mono h3 hG) q3) ?_;rotate_left;(repeat refine' DD ?_);(refine DJ.nil (fun G1 hG1 hF1=>?_);(case hS|hS2=>rfl));refine uR ?_;rfl
end
section
open Go.ChangeShapes Go.WideShapes Go.ChangeAt Go.RowKit
def zsD (H:Hp) (v:Value):Prop:=∃n w dp ls rd rt at' tl vy vl ly ll,v=zsq n w dp ls rd rt at' tl vy vl∧(zfD n∧zfD w∧zfD dp∧zfD ls∧zfD rd∧zfD rt∧zfD at')∧(IL H vy ly∧∀z,z∈ly→zfD z)∧(IL H vl ll∧∀z,z∈ll→zfD z)
theorem raw21_open {H:Type} {enc:TypeId × Value→H} {w:World} {base:Nat} {spare:Nat→Bool} {held:Bool} {v:Value} {d:DataW H} {p:List MemPlace} (hv:∃cs,v=.agg cs) (h:DataW.Trod enc Tryz.prog w base spare held 24 v d p):zsD (hpOf w) v:=by
 obtain⟨cs,rfl⟩:=hv;obtain⟨fuel,h⟩:=h;obtain⟨xs,n,_,hx,hl,hlen,hf⟩:=DataW.trod_struct Tryz.underlying24 h;rw[show Tryz.prog.cellsOf 24=10 from by kernel_rfl]at hl;have hl4:cs.toList.length=10:=hl;obtain⟨l,rfl⟩:∃l:List Value,cs=l.toArray:=⟨cs.toList,by simp⟩;have hl4':l.length=10:=by simpa using hl4
 obtain⟨c0,c1,c2,c3,c4,c5,c6,c7,c8,c9,rfl⟩:=zuC hl4';have hx4:xs.length=10:=hlen;have f0:DataW.trod enc Tryz.prog w base spare held n 3 (([c0,c1,c2,c3,c4,c5,c6,c7,c8,c9].drop 0).take (Tryz.prog.cellsOf 3))=xs[0]?:=hf 0 _ rfl;have f1:DataW.trod enc Tryz.prog w base spare held n 3 (([c0,c1,c2,c3,c4,c5,c6,c7,c8,c9].drop 1).take (Tryz.prog.cellsOf 3))=xs[1]?:=hf 1 _ rfl;have f2:DataW.trod enc Tryz.prog w base spare held n 3 (([c0,c1,c2,c3,c4,c5,c6,c7,c8,c9].drop 2).take (Tryz.prog.cellsOf 3))=xs[2]?:=hf 2 _ rfl;have f3:DataW.trod enc Tryz.prog w base spare held n 3 (([c0,c1,c2,c3,c4,c5,c6,c7,c8,c9].drop 3).take (Tryz.prog.cellsOf 3))=xs[3]?:=hf 3 _ rfl;have f4:DataW.trod enc Tryz.prog w base spare held n 3 (([c0,c1,c2,c3,c4,c5,c6,c7,c8,c9].drop 4).take (Tryz.prog.cellsOf 3))=xs[4]?:=hf 4 _ rfl;have f5:DataW.trod enc Tryz.prog w base spare held n 3 (([c0,c1,c2,c3,c4,c5,c6,c7,c8,c9].drop 5).take (Tryz.prog.cellsOf 3))=xs[5]?:=hf 5 _ rfl;have f6:DataW.trod enc Tryz.prog w base spare held n 3 (([c0,c1,c2,c3,c4,c5,c6,c7,c8,c9].drop 6).take (Tryz.prog.cellsOf 3))=xs[6]?:=hf 6 _ rfl;have f7:DataW.trod enc Tryz.prog w base spare held n 4 (([c0,c1,c2,c3,c4,c5,c6,c7,c8,c9].drop 7).take (Tryz.prog.cellsOf 4))=xs[7]?:=hf 7 _ rfl;have f8:DataW.trod enc Tryz.prog w base spare held n 22 (([c0,c1,c2,c3,c4,c5,c6,c7,c8,c9].drop 8).take (Tryz.prog.cellsOf 22))=xs[8]?:=hf 8 _ rfl;have f9:DataW.trod enc Tryz.prog w base spare held n 22 (([c0,c1,c2,c3,c4,c5,c6,c7,c8,c9].drop 9).take (Tryz.prog.cellsOf 22))=xs[9]?:=hf 9 _ rfl;rw[show Tryz.prog.cellsOf 3=1 from by kernel_rfl]at f0 f1 f2 f3 f4 f5 f6;rw[show Tryz.prog.cellsOf 4=1 from by kernel_rfl]at f7;rw[show Tryz.prog.cellsOf 22=1 from by kernel_rfl]at f8 f9;rw[qA (by omega)]at f0 f1 f2 f3 f4 f5 f6 f7 f8 f9;obtain⟨z0,e0,_,w0⟩:=DataW.trod_int Tryz.underlying3 f0;obtain⟨z1,e1,_,w1⟩:=DataW.trod_int Tryz.underlying3 f1;obtain⟨z2,e2,_,w2⟩:=DataW.trod_int Tryz.underlying3 f2;obtain⟨z3,e3,_,w3⟩:=DataW.trod_int Tryz.underlying3 f3;obtain⟨z4,e4,_,w4⟩:=DataW.trod_int Tryz.underlying3 f4;obtain⟨z5,e5,_,w5⟩:=DataW.trod_int Tryz.underlying3 f5;obtain⟨z6,e6,_,w6⟩:=DataW.trod_int Tryz.underlying3 f6;obtain⟨b7,e7,_⟩:=DataW.trod_bool Tryz.underlying4 f7;obtain⟨a8,l8,k8,b8,e8,s8,d8⟩:=ints_open Tryz.underlying22 Tryz.underlying3 kR f8;obtain⟨a9,l9,k9,b9,e9,s9,d9⟩:=ints_open Tryz.underlying22 Tryz.underlying3 kR f9;have g0:[c0]=[.int .i64 z0]:=e0;have g1:[c1]=[.int .i64 z1]:=e1;have g2:[c2]=[.int .i64 z2]:=e2;have g3:[c3]=[.int .i64 z3]:=e3;have g4:[c4]=[.int .i64 z4]:=e4;have g5:[c5]=[.int .i64 z5]:=e5;have g6:[c6]=[.int .i64 z6]:=e6;have g7:[c7]=[.bool b7]:=e7;have g8:[c8]=[.slice a8 l8 k8]:=e8;have g9:[c9]=[.slice a9 l9 k9]:=e9;cases g0;cases g1;cases g2;cases g3;cases g4;cases g5;cases g6;cases g7;cases g8;cases g9;exact⟨z0,z1,z2,z3,z4,z5,z6,b7,_,_,b8,b9,rfl,⟨i64_bounds w0,i64_bounds w1,i64_bounds w2,i64_bounds w3,i64_bounds w4,i64_bounds w5,i64_bounds w6⟩,⟨s8,fun z hz=>i64_bounds (d8 z hz)⟩,⟨s9,fun z hz=>i64_bounds (d9 z hz)⟩⟩
theorem ztr (z:Int):Gr 12 20 (zgR z):=by
 unfold zgR;have hrd:=zfg (z.tdiv 41 % 6).toNat
 have m1:=Int.emod_nonneg z (show (41:Int)≠0 by omega);have m2:=Int.emod_lt_of_pos z (show (0:Int)<41 by omega);generalize zsp (z.tdiv 41 % 6).toNat=d at *
 generalize hn:z % 41-20=n at *
 rw[Rat.divInt_eq_div];have hd:d=1∨d=2∨d=3∨d=4:=oM;have h12:(((12:Nat):Int):Rat)=12:=rfl;rcases hd with rfl | rfl | rfl | rfl
 ·exact⟨n*12,by rw[h12,Rat.intCast_mul];have:((1:Int):Rat)=1:=rfl;have:((12:Int):Rat)=12:=rfl;grind,by omega⟩
 ·exact⟨n*6,by rw[h12,Rat.intCast_mul];have:((2:Int):Rat)=2:=rfl;have:((6:Int):Rat)=6:=rfl;grind,by omega⟩
 ·exact⟨n*4,by rw[h12,Rat.intCast_mul];have:((3:Int):Rat)=3:=rfl;have:((4:Int):Rat)=4:=rfl;grind,by omega⟩
 ·exact⟨n*3,by rw[h12,Rat.intCast_mul];have:((4:Int):Rat)=4:=rfl;have:((3:Int):Rat)=3:=rfl;grind,by omega⟩
theorem ztz {l:List Int} {n:Nat}:∀q,q∈zkc l n→Gr 12 20 q:=fun q hq=>by
 obtain⟨i,hi,rfl⟩:=List.mem_map.1 hq;split
 ·exact ztr _
 ·exact Gr.zero _ _
def zu2 (n w dp ls rt at':Int) (tl:Bool) (ll:List Int):BG:=⟨if tl then 2 else 1,Rat.divInt 1 (1+rt % 4),zlG tl at',zfi ll (1+n % 8).toNat (1+w % 3).toNat,(1+w % 3).toNat,(dp % 3).toNat,1+ls % 3,0⟩
theorem ztu (r:Int):(0<Rat.divInt 1 (1+r % 4)∧Rat.divInt 1 (1+r % 4)≤1)∧(Rat.divInt 1 (1+r % 4)).den≤4:=by
 have h:r % 4=0∨r % 4=1∨r % 4=2∨r % 4=3:=oM;rcases h with h | h | h | h <;> rw[h] <;> decide +kernel
theorem ztQ (a:Int):(0<zlG true a∧zlG true a<1)∧ht (zlG true a)≤10:=by
 unfold zlG;have h:a % 5=0∨a % 5=1∨a % 5=2∨a % 5=3∨a % 5=4:=oM;rcases h with h | h | h | h | h <;> rw[h] <;> decide +kernel
theorem ztv (n w dp ls rt at':Int) (tl:Bool) (ll:List Int):(zu2 n w dp ls rt at' tl ll).Ok:=by
 have h1:=zeS ll (1+n % 8).toNat (1+w % 3).toNat
 obtain⟨r1,r2⟩:=ztu rt;obtain⟨t1,t2⟩:=ztQ at';have hn:=Int.emod_nonneg n (show (8:Int)≠0 by omega);have hn2:=Int.emod_lt_of_pos n (show (0:Int)<8 by omega);have hw:=Int.emod_nonneg w (show (3:Int)≠0 by omega);have hw2:=Int.emod_lt_of_pos w (show (0:Int)<3 by omega);have hl:=Int.emod_nonneg ls (show (3:Int)≠0 by omega);have hl2:=Int.emod_lt_of_pos ls (show (0:Int)<3 by omega);have hd2:=Int.emod_lt_of_pos dp (show (0:Int)<3 by omega);refine⟨?_,r1,?_,?_,⟨r2,?_⟩,?_,?_,fun x hx=>zn4 x hx,?_,?_,?_⟩
 ·cases tl
  ·exact .inl rfl
  ·exact .inr rfl
 ·cases tl
  ·exact fun _=>rfl
  ·exact fun k=>absurd k (by decide:¬(2:Int)=1)
 ·cases tl
  ·exact fun k=>absurd k (by decide:¬(1:Int)=2)
  ·exact fun _=>t1
 ·cases tl
  ·show ht 0≤10;rw[zcD];decide
  ·exact t2
 ·show 1≤(zfi ll (1+n % 8).toNat (1+w % 3).toNat).length∧(zfi ll (1+n % 8).toNat (1+w % 3).toNat).length≤8;rw[h1];omega
 ·show 1≤(1+w % 3).toNat∧(1+w % 3).toNat≤20;omega
 ·show (dp % 3).toNat≤10;omega
 ·show 1≤1+ls % 3∧1+ls % 3≤300;omega
 ·exact⟨Rat.le_refl,by show ht 0≤10;rw[zcD];decide⟩
theorem zsa {r K:Nat} (hr:r≤4) (hK:K≤6):bl ((2*20*2 ^ K)*(12*840*(840*r) ^ K))≤95:=by
 by_cases h0:r=0
 ·subst h0;refine qI (zaZ (Nat.mul_le_mul (qe _ (qf oM hK)) (qe _ (show (840*0) ^ K≤1 by rw[Nat.mul_zero];cases K with | zero=>exact qH _ | succ k=>rw[Nat.zero_pow (by omega)];omega)))) (zaU (by decide))
 exact qI (zaZ (Nat.mul_le_mul (qe _ (qf oM hK)) (qe _ (qI (qf oM hK) (Nat.pow_le_pow_left (qe 840 hr) 6))))) (zaU (by decide))
end
section
open Go.RowKit _root_.Go.Proofs.Tryz
theorem zdV.e {W:Nat} {t:Tr} (h:zdV W t):zfC (W:Int) t=0:=by
 have h1:t.ns≠[]:=fun e=>by have:=h.len.1;rw[e]at this;exact absurd this (by decide)
 have hc:zkG t=0:=by
  unfold zkG;rw[if_neg (fun k=>k (.inr h.kd)),if_neg];rintro (k | k)
  ·rw[h.kd]at k;exact absurd k (by decide)
  ·exact h1 k
 unfold zfC;rw[if_neg (fun k=>k hc),if_neg];rintro (k | k)
 ·exact k h.kd
 ·exact k h.wide
theorem zk0 {loss:Int} {W:Nat} {rate tilt:Rat} {ts:List Tr} (h0:loss=1∨loss=2) (hW:1≤W∧W≤20) (hl:ts.length≤50) (hr:zdW loss rate tilt=true) (ht:∀t,t∈ts→zdV W t):za9 loss (W:Int) rate tilt ts=0:=by
 rw[zl5 h0 oM hr];exact zh4 fun t h=>(ht t (List.mem_of_mem_take h)).e
theorem zrw {H:Hp} {loss w:Int} {W k:Nat} {base rate tilt:Rat} {ta:Option Addr} {tc:Nat} {ts:List Tr} (ht':PTL H (.slice ta ts.length tc) ts) (hx':∀t,t∈ts→zdV W t) (hr:sm rate) (hq:sm tilt) (hl:ts.length≤1000) (hc0:za9 loss w rate tilt ts=0) (hk:k≤ts.length) :
  PC prog 31 #[.agg (zbE loss w base rate tilt (.slice ta ts.length tc)).toArray,.int .i64 (k:Int)] H fun r G=>∃a c,r=.tuple #[.agg (zbE loss w base rate tilt (.slice a k c)).toArray,.int .i64 0]∧PTL G (.slice a k c) (ts.take k):=by
 by_cases h0:0<k
 ·exact ztk ht' hx' hr hq hl hc0 h0 hk
 obtain rfl:k=0:=oM;have hck:=zfc (loss:=loss) (w:=w) (base:=base) ht' (fun t h=>(hx' t h).x) hr hq oM;rw[hc0]at hck;rw[List.take_zero]
 have hcap:ts.length≤tc∨ts.length=0:=by
  obtain⟨tcs,_,hs⟩:=ht';rcases hs.2 with ⟨e,_⟩ | ⟨_,_,_,_,e,h,_⟩
  ·exact .inr e
  ·cases e;exact .inl h
 refine BD func31 ntmps31 ?_
 repeat (first|refine RUN ?_|refine CV (hck) ?_|refine CE (hck) ?_)
 rw[qC (show ¬(((0:Nat):Int))>(ts.length:Int) by omega)];refine uR ?_;refine EVL.slc (te':=Tryz.te116) tO rfl rfl rfl rfl rfl rfl rfl rfl 0 0 (.inl ⟨rfl,rfl⟩) (.inr ⟨_,IntKind.i64,rfl,rfl⟩) (qQ _) (qQ _) oM ?_;refine uR ?_;refine vW ([]) ([]) (zne) ?_;rintro _ ow G1 ⟨a1,c1,rfl⟩ hG1;refine uR ?_;refine EV.loopK (ι:=Nat) [2,4,32,33] [2,4] (fun q=>[(34,.v (.int .i64 (q:Int)))]) (fun _=>[]) (fun _=>ow++[]) (fun q _=>q=0) (fun q=>0) (0) rfl rfl ⟨rfl,trivial⟩ trivial rfl (fun _=>rfl) (rfl) ?_;rintro i G2 hG2 rfl;refine uR ?_;exact⟨_,_,rfl,[],⟨rfl,fun j c t e=>by cases e⟩,rfl,.inl ⟨rfl,_,_,rfl⟩⟩
abbrev z5:List Value:=[.bool false,.int .u64 0,.string ⟨#[]⟩,.int .u64 0,.string ⟨#[]⟩]
theorem zuM:z5=zac (zaa 0):=zar.symm
theorem zs7 {H:Hp} {vx vy:Value} (hX:QLL H vx [[0],[0],[0]]) (hy:QL H vy zhp):PC prog 13 #[vx,vy,.agg (.int .i64 1::.int .i64 0::(zac (zaa (1 / 2))++(z5++(.int .i64 0::.int .i64 1::z5)))).toArray] H fun r _=>r=.tuple #[.agg (zbE 1 1 3 (1 / 2) 0 (.slice none 0 0)).toArray,.int .i64 0]:=by
 have h:=zmB zrh (y:=zhp) hX hy rfl (by decide +kernel) (by rw[zph];decide +kernel) (by decide +kernel);rw[zph]at h;rw[zuM];exact h
theorem zs8 {H:Hp} {vx vy:Value} (hX:QLL H vx [[0],[0],[0]]) (hy:QL H vy zhp):PC prog 13 #[vx,vy,.agg (.int .i64 2::.int .i64 0::(zac (zaa (1 / 2))++(zac (zaa (1 / 2))++(.int .i64 0::.int .i64 1::z5)))).toArray] H fun r _=>r=.tuple #[.agg (zbE 2 1 2 (1 / 2) (1 / 2) (.slice none 0 0)).toArray,.int .i64 0]:=by
 have h:=zmB zri (y:=zhp) hX hy rfl (by decide +kernel) (by rw[zpi];decide +kernel) (by decide +kernel);rw[zpi]at h;rw[zuM];exact h
theorem zlv {H:Hp} {b m s:Nat} {cs:List Value} (h:H b=some cs.toArray) (hl:cs.length=m*s):SlC H (.slice (some ⟨b,0,none⟩) m m) m s cs:=⟨hl,.inr ⟨b,0,m,_,rfl,qH _,h,fun j x hj=>by rw[qv];simpa using hj⟩⟩
theorem zlu {G:Hp} {b:Nat} {c0 c1 c2:Value} {q:Rat} (h:G b=some #[c0,c1,c2]) (hx:RQ G (.agg #[c0,c1,c2]) q):RL G (.slice (some ⟨b,0,none⟩) 1 1) [q]:=RL.one (x:=.agg #[c0,c1,c2]) (zlv (cs:=[c0,c1,c2]) h rfl) hx
theorem ztj {G:Hp} {b:Nat} {c0 c1 c2 d0 d1 d2 e0 e1 e2:Value} {p q r:Rat} (h:G b=some #[c0,c1,c2,d0,d1,d2,e0,e1,e2]) (h1:RQ G (.agg #[c0,c1,c2]) p) (h2:RQ G (.agg #[d0,d1,d2]) q) (h3:RQ G (.agg #[e0,e1,e2]) r):RL G (.slice (some ⟨b,0,none⟩) 3 3) [p,q,r] :=
 ⟨[.agg #[c0,c1,c2],.agg #[d0,d1,d2],.agg #[e0,e1,e2]],rfl,fun j v x e1 e2=>(by
  match j,e1,e2 with
  | 0,e1,e2=>cases e1;cases e2;exact h1
  | 1,e1,e2=>cases e1;cases e2;exact h2
  | 2,e1,e2=>cases e1;cases e2;exact h3),zlv (cs:=[c0,c1,c2,d0,d1,d2,e0,e1,e2]) h rfl⟩
set_option maxRecDepth 100000 in
theorem znF {H:Hp}:PC prog 12 #[] H fun r _=>r=.bool true:=by
 have hof:=fun (z:Int) (h1:-9223372036854775808≤z) (h2:z<9223372036854775808) (G:Hp)=>zfR (H:=G) z h1 h2;have hov:PV prog 44 #[.int .i64 1,.int .i64 2] (.tuple #[zaa (1 / 2),.bool true]):=(zrv 1 2 oM oM).of_eq (by rw[show mkRat 1 (2:Int).natAbs=1 / 2 by decide +kernel]);have i1:=fun G:Hp=>zul (H:=G) 3 (by show ht 3≤_;decide +kernel) 3 1 oM oM oM oM oM (by decide +kernel);have i2:=fun G:Hp=>zul (H:=G) 2 (by show ht 2≤_;decide +kernel) 2 1 oM oM oM oM oM (by decide +kernel);refine BD func12 ntmps12 ?_;refine uR ?_;refine EVL.call rfl rfl rfl rfl rfl (hof 0 oM oM _) ?_;rintro r1 G1 h1 hG1;obtain⟨_,_,_,_,_,_,rfl,_⟩:=id h1;refine uR ?_;refine EVL.lit tO rfl rfl rfl rfl rfl rfl rfl rfl rfl rfl rfl fun b1=>?_;(first|refine EVL.publish [] [] rfl fun G2 hG2 hb1=>?_|refine EV.publish [] [] rfl fun G2 hG2 hb1=>?_);have l1:RL G2 (.slice (some ⟨b1,0,none⟩) 1 1) [((0:Int):Rat)]:=zlu hb1 (h1.mono hG2);refine uR ?_;refine EVL.call rfl rfl rfl rfl rfl (hof 0 oM oM _) ?_;rintro r2 G3 h2 hG3;obtain⟨_,_,_,_,_,_,rfl,_⟩:=id h2;refine uR ?_;refine EVL.lit tO rfl rfl rfl rfl rfl rfl rfl rfl rfl rfl rfl fun b2=>?_;(first|refine EVL.publish [] [] rfl fun G4 hG4 hb2=>?_|refine EV.publish [] [] rfl fun G4 hG4 hb2=>?_);have l2:RL G4 (.slice (some ⟨b2,0,none⟩) 1 1) [((0:Int):Rat)]:=zlu hb2 (h2.mono hG4);refine uR ?_;refine EVL.call rfl rfl rfl rfl rfl (hof 0 oM oM _) ?_;rintro r3 G5 h3 hG5;obtain⟨_,_,_,_,_,_,rfl,_⟩:=id h3;refine uR ?_;refine EVL.lit tO rfl rfl rfl rfl rfl rfl rfl rfl rfl rfl rfl fun b3=>?_;(first|refine EVL.publish [] [] rfl fun G6 hG6 hb3=>?_|refine EV.publish [] [] rfl fun G6 hG6 hb3=>?_);have l3:RL G6 (.slice (some ⟨b3,0,none⟩) 1 1) [((0:Int):Rat)]:=zlu hb3 (h3.mono hG6);refine uR ?_;refine EVL.lit tO rfl rfl rfl rfl rfl rfl rfl rfl rfl rfl rfl fun b4=>?_;(first|refine EVL.publish [] [] rfl fun G7 hG7 hb4=>?_|refine EV.publish [] [] rfl fun G7 hG7 hb4=>?_)
 have hX:RLL G7 (.slice (some ⟨b4,0,none⟩) 3 3) [[((0:Int):Rat)],[((0:Int):Rat)],[((0:Int):Rat)]]:=⟨[.slice (some ⟨b1,0,none⟩) 1 1,.slice (some ⟨b2,0,none⟩) 1 1,.slice (some ⟨b3,0,none⟩) 1 1],⟨rfl,fun j v x e1 e2=>(by
  match j,e1,e2 with
  | 0,e1,e2=>cases e1;cases e2;exact l1.mono (hG3.trans (hG4.trans (hG5.trans (hG6.trans hG7))))
  | 1,e1,e2=>cases e1;cases e2;exact l2.mono (hG5.trans (hG6.trans hG7))
  | 2,e1,e2=>cases e1;cases e2;exact l3.mono hG7)⟩,zlv hb4 rfl⟩
 refine uR ?_;refine vA (zjG hX (by decide) (show ∀x,x∈[[((0:Int):Rat)],[((0:Int):Rat)],[((0:Int):Rat)]]→x.length≤1000000∧∀q,q∈x→ht q≤100000000 by decide +kernel)) ?_;rintro r4 G8 hX8 hG8;obtain⟨xa,xc,rfl⟩:=hX8.val;refine uR ?_;refine EVL.call rfl rfl rfl rfl rfl (hof 1 oM oM _) ?_;rintro r5 G9 h5 hG9;obtain⟨_,_,_,_,_,_,rfl,_⟩:=id h5;refine uR ?_;refine EVL.call rfl rfl rfl rfl rfl (hof 2 oM oM _) ?_;rintro r6 G10 h6 hG10;obtain⟨_,_,_,_,_,_,rfl,_⟩:=id h6;refine uR ?_;refine EVL.call rfl rfl rfl rfl rfl (hof 6 oM oM _) ?_;rintro r7 G11 h7 hG11;obtain⟨_,_,_,_,_,_,rfl,_⟩:=id h7;refine uR ?_;refine EVL.lit tO rfl rfl rfl rfl rfl rfl rfl rfl rfl rfl rfl fun b5=>?_;(first|refine EVL.publish [] [] rfl fun G12 hG12 hb5=>?_|refine EV.publish [] [] rfl fun G12 hG12 hb5=>?_);have hY:RL G12 (.slice (some ⟨b5,0,none⟩) 3 3) [((1:Int):Rat),((2:Int):Rat),((6:Int):Rat)]:=ztj hb5 (h5.mono (hG10.trans (hG11.trans hG12))) (h6.mono (hG11.trans hG12)) (h7.mono hG12);refine uR ?_;refine vA (zfM hY (by decide) (show ∀q,q∈[((1:Int):Rat),((2:Int):Rat),((6:Int):Rat)]→ht q≤100000000 by decide +kernel)) ?_;rintro r8 G13 hY13 hG13;obtain⟨ya,yc,rfl⟩:=SlC.val hY13;have hX13:=hX8.mono (hG9.trans (hG10.trans (hG11.trans (hG12.trans hG13))))
 repeat (first|refine RUN ?_|refine CV (hov) ?_|refine CE (hov) ?_)
 refine vA (zs7 hX13 hY13) ?_;rintro _ G14 rfl hG14;refine uR ?_;refine vA (zs8 (hX13.mono hG14) (SlC.mono hY13 hG14)) ?_;rintro _ G15 rfl hG15;have j1:=i1 G15;have j2:=i2 G15
 repeat (first|refine RUN ?_|refine CV (j1) ?_|refine CV (j2) ?_|refine CE (j1) ?_|refine CE (j2) ?_)
 rfl
structure zsB (b:BG) (y:List Rat) (K:Nat):Prop where
 trees:∀t,t∈(b.fit y K).1→zdV b.W t
 len:(b.fit y K).1.length=K
 mid:ht (b.mid y)≤95
 rate:ht b.rate≤10
 y95:∀q,q∈y→ht q≤95
 check:za9 b.loss (b.W:Int) b.rate b.tilt (b.fit y K).1=0
theorem zsZ {b:BG} (hb:b.Ok) {y:List Rat} {K D A:Nat} (hyl:y.length=b.X.length) (hD:1≤D) (hA:1≤A) (hg:∀q,q∈y→Gr D A q) (hK:K≤50) (hbl:bl ((2*A*2 ^ K)*(D*840*(840*b.rate.den) ^ K))≤95):zsB b y K:=by
 have hT:=(hb.fit hD hA hg hyl hbl K (qH _)).2;have hln:=(b.fit_len y hyl K).2;have hrd:=b.rate.den_nz;have hb0:bl (A*(D*840))≤95:=qI (zaZ (Nat.mul_le_mul (by rw[qW 2 A,Nat.mul_assoc];exact Nat.le_mul_of_pos_right A (Nat.mul_pos oM (Nat.pow_pos oM))) (Nat.le_mul_of_pos_right _ (Nat.pow_pos oM)))) hbl;refine⟨hT,hln,qI ((hb.mid_gr hg hyl).bits oM hA) hb0,?_,fun q k=>qI (((hg q k).up 840).bits oM hA) hb0,zk0 hb.loss ⟨hb.wide.1,hb.wide.2⟩ oM (zrF hb) hT⟩;have h:=hb.rd.bits oM oM;rw[Nat.one_mul]at h;exact qI h (qI (zaZ hb.den.1) (zaU (by decide)))
theorem zrc (b:BG) (y:List Rat) (hyl:y.length=b.X.length) {i K:Nat} (h:i≤K):(b.fit y K).1.take i=(b.fit y i).1:=by
 obtain⟨m,e⟩:=b.fit_pre y i (K-i);rw[show i+(K-i)=K by omega]at e;rw[e,List.take_left' (b.fit_len y hyl i).2]
theorem zmA {H:Hp} {b:BG} {y:List Rat} {K:Nat} (hf:zsB b y K) (hb:b.Ok) (hK:K≤50) {ta:Option Addr} {tc:Nat} {vx:Value} {x:List Rat} (hP:PTL H (.slice ta K tc) (b.fit y K).1) (hx:QL H vx x) (hx100:∀q,q∈x→ht q≤100) (hxl:x.length=b.W) :
  PC prog 28 #[.agg (zbE b.loss (b.W:Int) (b.mid y) b.rate b.tilt (.slice ta K tc)).toArray,vx] H fun r _=>r=.tuple #[zaa (zkP (b.mid y) b.rate (b.fit y K).1 x),.int .i64 0]:=by
 have h1:=hf.mid;have h2:=hf.rate;have h3:=hb.den.2;have hA:=znM (loss:=b.loss) (w:=(b.W:Int)) (base:=b.mid y) (rate:=b.rate) (tilt:=b.tilt) (ta:=ta) (tc:=tc) (by rw[hf.len];exact hP) (fun t h=>(hf.trees t h).x) hx hx100 (show ht (b.mid y)≤200 by omega) (show ht b.rate≤200 by omega) (show ht b.tilt≤200 by omega) (by rw[hf.len];omega)
 have h0:(if za9 b.loss (b.W:Int) b.rate b.tilt (b.fit y K).1≠0 then 1 else if (x.length:Int)≠(b.W:Int) then 5 else 0:Int)=0:=by
  rw[if_neg (fun k=>k hf.check),if_neg (fun k=>k (show (x.length:Int)=(b.W:Int) by omega))]
 rw[h0,hf.len]at hA;refine hA.mono ?_;rintro r G' ⟨q,rfl,h,_⟩ _;rw[h hf.check (by omega)]
theorem zsM {b:BG} {y:List Rat} {K:Nat} (hf:zsB b y K) (hK:K≤50) (x:List Rat):ht (zkP (b.mid y) b.rate (b.fit y K).1 x)≤400000:=by
 have h1:=hf.mid;have h2:=hf.rate;exact zsN (w:=b.W) (show ht (b.mid y)≤200 by omega) (show ht b.rate≤200 by omega) (by rw[hf.len];omega) fun t h=>qI (zfN (hf.trees t h) x) oM
theorem zh5 {H:Hp} {v:Value} {x:List Rat} {K M:Rat} (h:QL H v x) (hl:x.length≤1000) (hb:∀q,q∈x→ht q≤100) (hK:ht K≤100) (hM:ht M≤100):PC prog 26 #[v,zaa K,zaa M] H fun r H'=>QL H' r (x.map fun z=>z*K+M):=by
 obtain⟨xa,xc,rfl⟩:=SlC.val h;have hS:SlC H (.slice xa x.length xc) x.length 5 (x.flatMap fun q=>zac (zaa q)):=h;refine BD func26 ntmps26 ?_;refine uR ?_;refine EV.loopK (ι:=Nat × Value × Ows) [0,4,5] [4,5] (fun q=>[(7,.v q.2.1),(8,.v (.int .i64 (q.1:Int)))]) (fun _=>[]) (fun q=>q.2.2) (fun q _=>q.1≤x.length∧zaO 51 5 q.2.1 q.1 (((x.map fun z=>z*K+M).take q.1).flatMap fun q=>zac (zaa q)) q.2.2) (fun q=>x.length-q.1) ((0,.slice none 0 0,[])) rfl rfl ⟨rfl,rfl,trivial⟩ trivial rfl (fun _=>rfl) (⟨qQ _,zaO.nil _ _⟩) ?_;rintro⟨j,u,ou⟩ G1 hG1 ⟨hj,hou⟩;dsimp only at hj hou;obtain⟨ua,uc,rfl⟩:=hou.val;refine uR ?_;refine EV.cond rfl (fun hlj=>?_) (fun hlj=>?_)
 ·simp only[nN]at hlj;obtain⟨z,hz⟩:=gE hlj;have hzb:=hb z (qF hz);have hyz:(x.map fun z=>z*K+M)[j]?=some (z*K+M):=by rw[qK,hz];rfl
  have hmul:=zgD z K (zai hzb oM) (zai hK oM);have hzm:=zdx z K;have hadd:=zdf (z*K) M (zai hzm oM) (zai hM oM);have hS1:=hS.mono hG1;refine uR ?_;apply EV.drawn 10 kR kR;intro xv yw;(repeat refine' DD ?_);refine' DJ.idxM tO rfl rfl rfl rfl rfl rfl rfl rfl rfl (hS1) (j) (rfl) (hlj) (QL.at (H:=H) (v:=.bool true) hz) ?_;rotate_left;(repeat (first|refine' DD ?_|(refine' DC (hmul) (h:=?_);rotate_left)|(refine' DC (hadd) (h:=?_);rotate_left)));(refine' DJ.lit tO rfl rfl rfl rfl rfl rfl rfl rfl rfl rfl rfl rfl ?_;rotate_left);(refine DJ.nil (fun G2 hG2 hF2=>?_);(case hS|hS2=>rfl));refine EVL.append tO rfl rfl rfl rfl rfl rfl rfl rfl rfl rfl rfl rfl [] ou [] (qG _).symm hou (zdj.ro hF2.1 oM) rfl oM ?_;intro v1 ou1 hou1;refine uR ?_;refine⟨(j+1,v1,ou1),⟨rfl,by rw[zad j (by omega)];rfl,trivial⟩,sB,trivial,sB,qG _,⟨hlj,by dsimp only;rw[zan hyz,List.flatMap_append];exact hou1⟩,by assumption,by dsimp only;omega⟩
 ·simp only[nN]at hlj;obtain rfl:j=x.length:=oM;rw[qO (by rw[qV];exact qH _)]at hou;(first|refine EVL.publishL [] ou [] ((qG _).symm) hou fun G2 hG2 hrow=>?_|refine EV.publishL [] ou [] ((qG _).symm) hou fun G2 hG2 hrow=>?_);refine uR ?_;unfold QL;rw[qV];exact hrow
theorem zpF {H:Hp} {v:Value} (h:zsD H v):PC prog 7 #[v] H fun r G=>∃(b:BG) (y:List Rat) (K:Nat) (vx vv vs:Value),r=.tuple #[vx,vv,vs]∧b.Ok∧RLL G vx b.X∧RL G vv y∧zkN G vs b.loss (K:Int) (b.D:Int) b.least b.rate b.tilt b.gain∧y.length=b.X.length∧(∀q,q∈y→Gr 12 20 q)∧K≤3∧b.gain=0∧b.W≤3∧(∀x,x∈b.X→x.length=b.W∧∀q,q∈x→ht q≤5):=by
 obtain⟨n,w,dp,ls,rd,rt,at',tl,vy,vl,ly,ll,rfl,⟨hn,hw,hdp,hls,hrd,hrt,hat⟩,⟨hy,hyb⟩,hl,hlb⟩:=h;have e1:=Int.emod_nonneg n (show (8:Int)≠0 by omega);have e2:=Int.emod_nonneg w (show (3:Int)≠0 by omega);have e3:=Int.emod_nonneg dp (show (3:Int)≠0 by omega);have e4:=Int.emod_nonneg rd (show (4:Int)≠0 by omega);have e5:=Int.emod_lt_of_pos rd (show (0:Int)<4 by omega);have e6:=Int.emod_lt_of_pos w (show (0:Int)<3 by omega);refine(zrt n w dp ls rd rt at' tl hn hw hdp hls hrd hrt hat hy hyb hl hlb (N:=(1+n % 8).toNat) (W:=(1+w % 3).toNat) oM oM).mono ?_;rintro r G ⟨vx,vv,vs,rfl,r1,r2,r3⟩ hG;refine⟨zu2 n w dp ls rt at' tl ll,_,(rd % 4).toNat,vx,vv,vs,rfl,ztv ..,r1,r2,?_,?_,ztz,by omega,rfl,by show (1+w % 3).toNat≤3;omega,fun x hx=>ziP x hx⟩
 ·rw[show (((rd % 4).toNat:Nat):Int)=rd % 4 by omega,show ((zu2 n w dp ls rt at' tl ll).D:Int)=dp % 3 by show (((dp % 3).toNat:Nat):Int)=dp % 3;omega];exact r3
 ·show (zkc ly (1+n % 8).toNat).length=(zfi ll (1+n % 8).toNat (1+w % 3).toNat).length;rw[zeR,zeS]
end
section
theorem zou {X Y:List (List Rat)} {c:Int} {σ:Int→Int} {rs rs':List Int} (hr:(rs'.map σ).Perm rs) (hk:∀r,r∈rs'→zbO Y c r=zbO X c (σ r)):rs'.all (zbO Y c)=rs.all (zbO X c):=by
 rw[Bool.eq_iff_iff,List.all_eq_true,List.all_eq_true];constructor
 ·intro h r hm;obtain⟨r',h1,rfl⟩:=List.mem_map.1 (hr.mem_iff.2 hm);rw[←hk r' h1];exact h r' h1
 ·intro h r hm;rw[hk r hm];exact h _ (hr.mem_iff.1 (List.mem_map.2 ⟨r,hm,rfl⟩))
theorem zj4 {X Y:List (List Rat)} {c:Int} {σ:Int→Int} {rs rs':List Int} {f:Rat→Rat} (hr:(rs'.map σ).Perm rs) (hlt:∀a b:Rat,a<b↔f a<f b) (hmid:∀a b:Rat,(f a+f b) / 2=f ((a+b) / 2)) (hk:∀r,r∈rs'→zbO Y c r=zbO X c (σ r)∧zbi Y c r=f (zbi X c (σ r))):plQ Y c rs'=(plQ X c rs).map f:=by
 unfold plQ;rw[zou hr fun r h=>(hk r h).1];by_cases ha:rs.all (zbO X c)=true
 ·rw[if_pos ha,if_pos ha];have hmono:∀a b:Rat,a≤b→f a≤f b:=fun a b h=>Rat.not_lt.1 fun k=>absurd ((hlt b a).2 k) (Rat.not_lt.2 h)
  have e:(zc6 (rs.map (zbi X c))).map f=zc6 (rs'.map (zbi Y c)):=by
   refine zcL ?_ ?_
   ·refine((zbq _).map f).trans ?_;rw[List.map_map,show rs'.map (zbi Y c)=(rs'.map σ).map (f ∘ zbi X c) by rw[List.map_map];exact List.map_congr_left fun r h=>(hk r h).2];exact(hr.map _).symm
   ·exact List.pairwise_map.2 ((zcz _).imp fun {a b} h=>hmono a b h)
  have hl:rs'.length=rs.length:=by rw[←hr.length_eq,qV]
  rw[←e,hl];exact zjE hlt hmid _ _ (by rw[(zbq _).length_eq,qV];exact qH _)
 ·rw[if_neg ha,if_neg ha];rfl
theorem zd6 {σ:Int→Int} {l:List Int} {p q:Int→Bool} (h:∀r,r∈l→p r=q (σ r)):(l.filter p).map σ=(l.map σ).filter q:=by
 rw[List.filter_map];congr 1;exact List.filter_congr h
theorem zhM {X Y:List (List Rat)} {c:Int} {t:Rat} {σ:Int→Int} {rs rs':List Int} {f:Rat→Rat} (hr:(rs'.map σ).Perm rs) (hlt:∀a b:Rat,a<b↔f a<f b) (hk:∀r,r∈rs'→zbO Y c r=zbO X c (σ r)∧zbi Y c r=f (zbi X c (σ r))):((za5 Y c (f t) rs').map σ).Perm (za5 X c t rs)∧((zaB Y c (f t) rs').map σ).Perm (zaB X c t rs):=by
 have hle:∀a b:Rat,(f a≤f b)↔(a≤b):=fun a b=>by rw[←Rat.not_lt,←Rat.not_lt,←hlt]
 have e1:(za5 Y c (f t) rs').map σ=(rs'.map σ).filter fun r=>zbO X c r && decide (zbi X c r≤t):=zd6 fun r h=>by rw[(hk r h).1,(hk r h).2,decide_eq_decide.2 (hle _ _)]
 have e2:(zaB Y c (f t) rs').map σ=(rs'.map σ).filter fun r=>zbO X c r && !decide (zbi X c r≤t):=zd6 fun r h=>by rw[(hk r h).1,(hk r h).2,decide_eq_decide.2 (hle _ _)]
 rw[e1,e2];exact⟨hr.filter _,hr.filter _⟩
structure GS (σ:Int→Int) (f:Rat→Rat) (κ m:Rat) (w:Nat) (p p':GP):Prop where
 lt:∀a b:Rat,a<b↔f a<f b
 mid:∀a b:Rat,(f a+f b) / 2=f ((a+b) / 2)
 pos:0<κ
 rng:∀r:Int,0≤r∧r<(p'.X.length:Int)→0≤σ r∧σ r<(p.X.length:Int)
 key:∀c r:Int,0≤c∧c<(w:Int)→0≤r∧r<(p'.X.length:Int)→zbO p'.X c r=zbO p.X c (σ r)∧zbi p'.X c r=f (zbi p.X c (σ r))
 cost:∀l:List Int,(∀r,r∈l→0≤r∧r<(p'.X.length:Int))→p'.cost l=κ*p.cost (l.map σ)
 mean:∀l:List Int,(∀r,r∈l→0≤r∧r<(p'.X.length:Int))→p'.mean l=m*p.mean (l.map σ)
 cnt:∀l:List Int,(∀r,r∈l→0≤r∧r<(p'.X.length:Int))→p'.cnt l=p.cnt (l.map σ)
 least:p'.least=p.least
 gain:p'.gain=κ*p.gain
 cols:∀s s' c,c∈(p'.cols s').1↔c∈(p.cols s).1
 range:∀s c,c∈(p.cols s).1→0≤c∧c<(w:Int)
 pcost:∀l m:List Int,l.Perm m→p.cost l=p.cost m
 pmean:∀l m:List Int,l.Perm m→p.mean l=p.mean m
 pcnt:∀l m:List Int,l.Perm m→p.cnt l=p.cnt m
def zju (f:Rat→Rat) (κ:Rat) (u:Int × Rat × Rat):Int × Rat × Rat:=(u.1,f u.2.1,κ*u.2.2)
theorem zcc {κ a b:Rat} (h:0<κ):κ*a<κ*b↔a<b:=by
 constructor
 ·intro k;refine Rat.not_le.1 fun k'=>?_;exact absurd k (Rat.not_lt.2 (Rat.mul_le_mul_of_nonneg_left k' (Rat.le_of_lt h)))
 ·intro k;have:=Rat.mul_lt_mul_of_pos_right k h
  rwa [Rat.mul_comm a,Rat.mul_comm b]at this
theorem zhP {κ a b:Rat} (h:0<κ):κ*a=κ*b↔a=b:=by
 constructor
 ·intro k;refine Rat.le_antisymm (Rat.not_lt.1 fun q=>?_) (Rat.not_lt.1 fun q=>?_)
  ·have:=(zcc h).2 q;rw[k]at this;exact absurd this (Rat.lt_irrefl)
  ·have:=(zcc h).2 q;rw[k]at this;exact absurd this (Rat.lt_irrefl)
 ·rintro rfl;rfl
theorem znS {f:Rat→Rat} {κ:Rat} (hlt:∀a b:Rat,a<b↔f a<f b) (hκ:0<κ) (a b:Int × Rat × Rat):zje (zju f κ a) (zju f κ b)↔zje a b:=by
 unfold zje zju;dsimp only;rw[←hlt a.2.1 b.2.1,zcc hκ,zhP hκ]
theorem GS.best {σ:Int→Int} {f:Rat→Rat} {κ m:Rat} {w:Nat} {p p':GP} (h:GS σ f κ m w p p') {rows rows':List Int} (hr:(rows'.map σ).Perm rows) (hb:∀r,r∈rows'→0≤r∧r<(p'.X.length:Int)) (s s':Int):p'.best rows' (p'.cols s').1=(p.best rows (p.cols s).1).map (zju f κ):=by
 have h1:=(zcb (zaY p'.X p'.cost rows' (max 1 p'.least) (p'.cols s').1)).p;have h2:=(zcb (zaY p.X p.cost rows (max 1 p.least) (p.cols s).1)).p;have hlow:∀(c:Int) (t:Rat),(∀r,r∈za5 p'.X c t rows'→0≤r∧r<(p'.X.length:Int))∧(∀r,r∈zaB p'.X c t rows'→0≤r∧r<(p'.X.length:Int)):=fun c t=>⟨fun r k=>hb r (List.mem_filter.1 k).1,fun r k=>hb r (List.mem_filter.1 k).1⟩
 have hval:∀(c:Int) (t:Rat),0≤c∧c<(w:Int)→p'.cost rows'-(p'.cost (za5 p'.X c (f t) rows')+p'.cost (zaB p'.X c (f t) rows'))=κ*(p.cost rows-(p.cost (za5 p.X c t rows)+p.cost (zaB p.X c t rows)))∧(za5 p'.X c (f t) rows').length=(za5 p.X c t rows).length∧(zaB p'.X c (f t) rows').length=(zaB p.X c t rows).length:=fun c t hc=>by
  obtain⟨hl,hh⟩:=zhM (t:=t) hr h.lt fun r hm=>h.key c r hc (hb r hm);refine⟨?_,by rw[←hl.length_eq,qV],by rw[←hh.length_eq,qV]⟩;rw[h.cost _ hb,h.cost _ (hlow c (f t)).1,h.cost _ (hlow c (f t)).2,h.pcost _ _ hr,h.pcost _ _ hl,h.pcost _ _ hh];grind
 have hmem:∀u,u∈zaY p'.X p'.cost rows' (max 1 p'.least) (p'.cols s').1↔∃v,v∈zaY p.X p.cost rows (max 1 p.least) (p.cols s).1∧u=zju f κ v:=by
  intro u;constructor
  ·intro k;obtain⟨c,t,hc,ht,hL,rfl⟩:=zcg.1 k;have hc':=(h.cols s s' c).1 hc;have hcw:=h.range s c hc';rw[zj4 hr h.lt h.mid fun r hm=>h.key c r hcw (hb r hm)]at ht;obtain⟨t0,ht0,rfl⟩:=List.mem_map.1 ht;obtain⟨v1,v2,v3⟩:=hval c t0 hcw;rw[v2,v3,h.least]at hL;refine⟨_,zcg.2 ⟨c,t0,hc',ht0,hL,rfl⟩,?_⟩;unfold zju;rw[v1]
  ·rintro⟨v,k,rfl⟩;obtain⟨c,t,hc,ht,hL,rfl⟩:=zcg.1 k;have hcw:=h.range s c hc;obtain⟨v1,v2,v3⟩:=hval c t hcw;refine zcg.2 ⟨c,f t,(h.cols s s' c).2 hc,?_,?_,?_⟩
   ·rw[zj4 hr h.lt h.mid fun r hm=>h.key c r hcw (hb r hm)];exact List.mem_map.2 ⟨t,ht,rfl⟩
   ·rw[v2,v3,h.least];exact hL
   ·unfold zju;rw[v1]
 unfold GP.best;refine zhK (Q:=fun u=>∃v,v∈zaY p.X p.cost rows (max 1 p.least) (p.cols s).1∧u=zju f κ v) h1 ?_ hmem;generalize (zaY p.X p.cost rows (max 1 p.least) (p.cols s).1).foldl zqL none=o at *
 cases o with
 | none=>exact fun u ⟨v,hv,_⟩=>h2 v hv
 | some v =>
  refine⟨⟨v,h2.1,rfl⟩,?_⟩;rintro u ⟨v',hv',rfl⟩ k;exact h2.2 v' hv' ((znS h.lt h.pos _ _).1 k)
theorem GS.cut {σ:Int→Int} {f:Rat→Rat} {κ m:Rat} {w:Nat} {p p':GP} (h:GS σ f κ m w p p') {rows rows':List Int} (hr:(rows'.map σ).Perm rows) (hb:∀r,r∈rows'→0≤r∧r<(p'.X.length:Int)) (s s':Int):p'.cut rows' (p'.cols s').1=(p.cut rows (p.cols s).1).map fun q=>(q.1,f q.2):=by
 unfold GP.cut;rw[h.best hr hb s s']
 cases p.best rows (p.cols s).1 with
 | none=>rfl
 | some q =>
  obtain⟨c,t,g⟩:=q;show (if κ*g≤p'.gain then none else some (c,f t))=Option.map _ (if g≤p.gain then none else some (c,t));rw[h.gain];by_cases k:g≤p.gain
  ·rw[if_pos k,if_pos (Rat.not_lt.1 fun e=>absurd ((zcc h.pos).1 e) (Rat.not_lt.2 k))];rfl
  ·rw[if_neg k,if_neg fun e=>k (Rat.not_lt.1 fun e'=>absurd ((zcc h.pos).2 e') (Rat.not_lt.2 e))];rfl
def zf0 (f:Rat→Rat) (κ m:Rat) (n:Nd):Nd:={ n with at':=if n.col = -1 then n.at' else f n.at',cost:=κ*n.cost,value:=m*n.value }
theorem ztT (n:Nd):zf0 (fun q=>q) 1 1 n=n:=by
 unfold zf0;rw[Rat.one_mul,Rat.one_mul,ite_self]
theorem zlf (l:List Nd):l.map (zf0 (fun q=>q) 1 1)=l:=by
 rw[show zf0 (fun q=>q) 1 1=id from funext ztT,List.map_id]
theorem GS.grow {σ:Int→Int} {f:Rat→Rat} {κ m:Rat} {w:Nat} {p p':GP} (h:GS σ f κ m w p p') {kd cl:Int} (hp:zm4 p kd cl w):∀(d k:Nat) (rows rows':List Int) (s s':Int),(rows'.map σ).Perm rows→(∀r,r∈rows'→0≤r∧r<(p'.X.length:Int))→(p'.grow d k rows' s').1=(p.grow d k rows s).1.map (zf0 f κ m):=by
 have hnd:∀rows rows':List Int,(rows'.map σ).Perm rows→(∀r,r∈rows'→0≤r∧r<(p'.X.length:Int))→p'.nd rows'=zf0 f κ m (p.nd rows):=fun rows rows' hr hb=>by
  have hl:rows'.length=rows.length:=by rw[←hr.length_eq,qV]
  unfold GP.nd zf0;dsimp only;rw[h.cost _ hb,h.mean _ hb,h.cnt _ hb,h.pcost _ _ hr,h.pmean _ _ hr,h.pcnt _ _ hr,hl,if_pos rfl]
 intro d
 induction d with
 | zero =>
  intro k rows rows' s s' hr hb;rw[GP.grow_zero,GP.grow_zero,hnd rows rows' hr hb];rfl
 | succ d ih =>
  intro k rows rows' s s' hr hb;have hc:=h.cut hr hb s s'
  have hb0:∀r,r∈rows→0≤r∧r<(p.X.length:Int):=fun r hm=>by
   obtain⟨r',h1,rfl⟩:=List.mem_map.1 (hr.mem_iff.2 hm);exact h.rng r' (hb r' h1)
  cases hcu:p.cut rows (p.cols s).1 with
  | none =>
   rw[hcu]at hc;rw[GP.grow_none hcu,GP.grow_none hc,hnd rows rows' hr hb];rfl
  | some q =>
   obtain⟨c,t⟩:=q;rw[hcu]at hc;obtain⟨hcw,_,_,_,_,_⟩:=zgm hp hb0 hcu;obtain⟨hl,hh⟩:=zhM (t:=t) hr h.lt fun r hm=>h.key c r hcw (hb r hm);rw[GP.grow_some hcu,GP.grow_some (c:=c) (t:=f t) hc];have hL:=ih (k+1) _ _ (p.cols s).2 (p'.cols s').2 hl fun r hr=>hb r (List.mem_filter.mp hr).1;have hlen:(p'.grow d (k+1) (za5 p'.X c (f t) rows') (p'.cols s').2).1.length=(p.grow d (k+1) (za5 p.X c t rows) (p.cols s).2).1.length:=by rw[hL,qV]
   have hR:=ih (k+1+(p.grow d (k+1) (za5 p.X c t rows) (p.cols s).2).1.length) _ _ (p.grow d (k+1) (za5 p.X c t rows) (p.cols s).2).2 (p'.grow d (k+1) (za5 p'.X c (f t) rows') (p'.cols s').2).2 hh fun r hr=>hb r (List.mem_filter.mp hr).1;dsimp only;rw[hlen,hR,hL,hnd rows rows' hr hb,qy,qr];congr 1;unfold zf0;dsimp only;rw[if_neg (show ¬c = -1 by omega)]
theorem zdn.simK {f:Rat→Rat} {κ m:Rat} (hlt:∀a b:Rat,a<b↔f a<f b) {T:List Nd} {x x':List Rat} {w:Int} (hx:∀c:Int,0≤c∧c<w→x'.getD c.toNat 0=f (x.getD c.toNat 0)) (hall:∀n,n∈T→n.col ≠ -1→0≤n.col∧n.col<w) {i:Nat} {l:List Int} (h:zdn T x i l):zdn (T.map (zf0 f κ m)) x' i l:=by
 have hle:∀a b:Rat,(f a≤f b)↔(a≤b):=fun a b=>by rw[←Rat.not_lt,←Rat.not_lt,←hlt]
 have hat:∀n:Nd,n.col ≠ -1→(zf0 f κ m n).at'=f n.at':=fun n k=>if_neg k;have hget:∀{i:Nat} {n:Nd},T[i]?=some n→(T.map (zf0 f κ m))[i]?=some (zf0 f κ m n):=fun h=>by rw[qK,h];rfl
 induction h with
 | here h1 h2=>exact .here (hget h1) h2
 | @low i l n h1 h2 h3 _ ih =>
  refine .low (hget h1) h2 ?_ ih;rw[hat _ h2,show (zf0 f κ m n).col=n.col from rfl,hx _ (hall _ (qF h1) h2)];exact(hle _ _).2 h3
 | @high i l n h1 h2 h3 _ ih =>
  refine .high (hget h1) h2 ?_ ih;rw[hat _ h2,show (zf0 f κ m n).col=n.col from rfl,hx _ (hall _ (qF h1) h2)];exact fun k=>h3 ((hle _ _).1 k)
theorem zjb.simK {f:Rat→Rat} {κ m:Rat} (hlt:∀a b:Rat,a<b↔f a<f b) {T:List Nd} {x x':List Rat} {w:Int} (hx:∀c:Int,0≤c∧c<w→x'.getD c.toNat 0=f (x.getD c.toNat 0)) (hall:∀n,n∈T→n.col ≠ -1→0≤n.col∧n.col<w) {i j:Nat} (h:zjb T x i j):zjb (T.map (zf0 f κ m)) x' i j:=by
 have hle:∀a b:Rat,(f a≤f b)↔(a≤b):=fun a b=>by rw[←Rat.not_lt,←Rat.not_lt,←hlt]
 have hat:∀n:Nd,n.col ≠ -1→(zf0 f κ m n).at'=f n.at':=fun n k=>if_neg k;have hget:∀{i:Nat} {n:Nd},T[i]?=some n→(T.map (zf0 f κ m))[i]?=some (zf0 f κ m n):=fun h=>by rw[qK,h];rfl
 induction h with
 | here h1 h2=>exact .here (hget h1) h2
 | @low i j n h1 h2 h3 _ ih =>
  refine .low (hget h1) h2 ?_ ih;rw[hat _ h2,show (zf0 f κ m n).col=n.col from rfl,hx _ (hall _ (qF h1) h2)];exact(hle _ _).2 h3
 | @high i j n h1 h2 h3 _ ih =>
  refine .high (hget h1) h2 ?_ ih;rw[hat _ h2,show (zf0 f κ m n).col=n.col from rfl,hx _ (hall _ (qF h1) h2)];exact fun k=>h3 ((hle _ _).1 k)
end
section
theorem zoy (l:List Rat) {n:Nat} (h:l.length=n):atR l (za8 n)=l:=by
 subst h;refine List.ext_getElem? fun i=>?_;unfold atR za8;rw[List.map_map,qK];by_cases hi:i<l.length
 ·rw[List.getElem?_range hi,qA hi];show some (l.getD ((i:Int)).toNat 0)=_;rw[qU,qB,qA hi];rfl
 ·rw[qg (by rw[List.length_range];omega),qg (by omega)];rfl
end
section
theorem zmT (k c:Rat):∀l:List Rat,zaR (l.reverse.map fun q=>k*q+c)=k*zaR l.reverse+((l.length:Int):Rat)*c
 | []=>by
  rw[show ([]:List Rat).reverse.map (fun q=>k*q+c)=[] from rfl,show ([]:List Rat).reverse=[] from rfl,zc7,show ((([]:List Rat).length:Int):Rat)=0 from rfl];grind
 | q::l=>by
  have ih:=zmT k c l;have e:(((q::l).length:Int):Rat)=((l.length:Int):Rat)+1:=by rw[qR,Int.natCast_add,Rat.intCast_add];rfl
  rw[List.reverse_cons,qr,List.map_singleton,zby,zby,ih,e];grind
theorem zg6 (k c:Rat) (l:List Rat):zaR (l.map fun q=>k*q+c)=k*zaR l+((l.length:Int):Rat)*c:=by
 have:=zmT k c l.reverse
 rwa [List.reverse_reverse,List.length_reverse]at this
theorem zjM {k c:Rat} {l:List Rat} (h:1≤l.length):za0 (l.map fun q=>k*q+c)=k*za0 l+c:=by
 unfold za0;rw[zg6,qV];have:=zc0 (n:=l.length) oM;grind
theorem zjO {k:Rat} {l:List Rat}:za0 (l.map fun q=>k*q)=k*za0 l:=by
 by_cases h:l.length=0
 ·obtain rfl:=pK.1 h;rw[show za0 ([].map fun q=>k*q)=0 from zaH _,show za0 []=0 from zaH _,Rat.mul_zero]
 ·have:=zjM (k:=k) (c:=0) (l:=l) oM;simpa only[Rat.add_zero] using this
theorem zqf {k c:Rat} (hk:0<k) (l:List Rat):zc6 (l.map fun q=>k*q+c)=(zc6 l).map fun q=>k*q+c:=by
 refine(zcL ((zbq l).map _) (List.pairwise_map.2 ((zcz l).imp fun {a b} h=>?_))).symm;have:=Rat.mul_le_mul_of_nonneg_left h (Rat.le_of_lt hk);grind
theorem zmn {loss:Int} {a k c:Rat} (hk:0<k) (ha:loss≠1→a<1) {P Q:List Rat} (hp:Q.Perm (P.map fun q=>k*q+c)) (h:1≤P.length):zpr loss a Q=k*zpr loss a P+c:=by
 unfold zpr;by_cases e:loss=1
 ·rw[if_pos e,if_pos e,←zjM h];unfold za0;rw[zdE hp,hp.length_eq]
 ·rw[if_neg e,if_neg e]
  have hs:zc6 Q=(zc6 P).map fun q=>k*q+c:=by
   rw[←zqf hk];exact(zcL ((zbq Q).trans hp) (zcz Q))
  have hl:Q.length=P.length:=by rw[hp.length_eq,qV]
  have hK:=zfX (ha e) h;unfold zkH;rw[hs,hl,qB,qB,qK,qA (by rw[(zbq P).length_eq];exact hK)];rfl
theorem zrp {a k c:Rat} (hk:0<k) (ha:a<1) {P Q:List Rat} (hp:Q.Perm (P.map fun q=>k*q+c)) (h:1≤P.length):zkH a Q=k*zkH a P+c:=zmn (loss:=2) hk (fun _=>ha) hp h
structure zf6 (σ:Int→Int) (n:Nat) (k c:Rat) (L L':List Rat):Prop where
 len:L.length=n
 len':L'.length=n
 at':∀r:Int,0≤r∧r<(n:Int)→L'.getD r.toNat 0=k*L.getD (σ r).toNat 0+c
theorem zf6.atR {σ:Int→Int} {n:Nat} {k c:Rat} {L L':List Rat} (h:zf6 σ n k c L L') {l:List Int} (hl:∀r,r∈l→0≤r∧r<(n:Int)):Go.Proofs.YteoollbcdpfkpaaGreatDoor.atR L' l=(Go.Proofs.YteoollbcdpfkpaaGreatDoor.atR L (l.map σ)).map fun q=>k*q+c:=by
 unfold Go.Proofs.YteoollbcdpfkpaaGreatDoor.atR;rw[List.map_map,List.map_map];exact List.map_congr_left fun r hr=>h.at' r (hl r hr)
theorem zf6.perm {σ:Int→Int} {n:Nat} {k c:Rat} {L L':List Rat} (h:zf6 σ n k c L L') (hp:((za8 n).map σ).Perm (za8 n)):L'.Perm (L.map fun q=>k*q+c):=by
 have h1:=h.atR (l:=za8 n) zbb;rw[zoy L' h.len']at h1;rw[h1];have h2:(Go.Proofs.YteoollbcdpfkpaaGreatDoor.atR L ((za8 n).map σ)).Perm (Go.Proofs.YteoollbcdpfkpaaGreatDoor.atR L (za8 n)):=hp.map _;rw[zoy L h.len]at h2;exact h2.map _
theorem ztg (k:Rat) (l:List Rat):(l.map fun q=>k*q+0)=l.map fun q=>k*q:=List.map_congr_left fun q _=>Rat.add_zero _
theorem zni {vals vals':List Rat} {l l':List Int} {k:Rat} (h:atR vals' l'=(atR vals l).map fun q=>k*q):zfr vals' l'=k*k*zfr vals l:=by
 unfold zfr;rw[h,zjO];generalize atR vals l=P;generalize za0 P=m
 have e:zdl (k*m) (P.map fun q=>k*q)=(zdl m P).map fun q=>(k*k)*q+0:=by
  unfold zdl;rw[List.map_map,List.map_map];exact List.map_congr_left fun q _=>by show (k*q-k*m)*(k*q-k*m)=(k*k)*((q-m)*(q-m))+0;grind
 rw[e,zg6,Rat.mul_zero,Rat.add_zero]
structure zht (σ:Int→Int) (f:Rat→Rat) (k:Rat) (b b':BG):Prop where
 lt:∀a b:Rat,a<b↔f a<f b
 mid:∀a b:Rat,(f a+f b) / 2=f ((a+b) / 2)
 k:0<k
 loss:b'.loss=b.loss
 rate:b'.rate=b.rate
 tilt:b'.tilt=b.tilt
 D:b'.D=b.D
 least:b'.least=b.least
 W:b'.W=b.W
 g:b.gain=0
 g':b'.gain=0
 len:b'.X.length=b.X.length
 perm:((za8 b.X.length).map σ).Perm (za8 b.X.length)
 key:∀c r:Int,0≤c∧c<(b.W:Int)→0≤r∧r<(b.X.length:Int)→zbO b'.X c r=zbO b.X c (σ r)∧zbi b'.X c r=f (zbi b.X c (σ r))
def zop (f:Rat→Rat) (κ m:Rat) (t:Tr):Tr:=⟨t.kd,t.cl,t.w,t.ns.map (zf0 f κ m)⟩
theorem zlg (ts:List Tr):ts.map (zop (fun q=>q) 1 1)=ts:=by
 rw[show zop (fun q=>q) 1 1=id from funext fun t=>by unfold zop;rw[zlf];rfl,List.map_id]
theorem zha {t:Tr} (h:zcf t):∀n,n∈t.ns→n.col ≠ -1→0≤n.col∧n.col<t.w:=fun n hn hc=>by
 obtain⟨i,hi⟩:=List.mem_iff_getElem?.1 hn;obtain⟨_,_,_,⟨hh,_,hsub⟩,_⟩:=h;obtain⟨h',e',hs⟩:=hsub.at i (qQ _) (qE.1 hi).1
 cases hs with
 | leaf q1 q2 _ _ _=>rw[hi]at q1;cases q1;exact absurd q2 hc
 | node q1 q2 q3 _ _ _ _=>rw[hi]at q1;cases q1;exact⟨q2,q3⟩
theorem zjJ {f:Rat→Rat} {κ m:Rat} {w:Nat} {t:Tr} (hlt:∀a b:Rat,a<b↔f a<f b) (hT:zdV w t) {x x':List Rat} (hx:∀c:Int,0≤c∧c<(w:Int)→x'.getD c.toNat 0=f (x.getD c.toNat 0)):(zb3 x' (zop f κ m t)).value=m*(zb3 x t).value:=by
 obtain⟨i,h1,h2,h3,_⟩:=ziA hT.ok x;have hcols:=zha hT.ok;rw[hT.wide]at hcols;have h4:zjb (zop f κ m t).ns x' 0 i:=h1.simK hlt hx hcols;have h6:(zop f κ m t).ns[i]?=some (zf0 f κ m (zb3 x t)):=by unfold zop;rw[qK,h3];rfl
 rw[zml h4 h6];rfl
def kgB (loss:Int) (k:Rat):Rat:=if loss=1 then k else 1
section
variable {σ:Int→Int} {f:Rat→Rat} {k:Rat} {b b':BG} (h:zht σ f k b b')
include h
theorem zht.rng (r:Int) (hr:0≤r∧r<(b.X.length:Int)):0≤σ r∧σ r<(b.X.length:Int):=by
 refine zbb _ (h.perm.mem_iff.1 (List.mem_map.2 ⟨r,?_,rfl⟩));unfold za8;exact List.mem_map.2 ⟨r.toNat,List.mem_range.2 oM,by omega⟩
theorem zht.kg:0<kgB b.loss k:=by
 unfold kgB;split
 ·exact h.k
 ·decide
theorem zht.goal {L L':List Rat} (hL:zf6 σ b.X.length k 0 L L'):zf6 σ b.X.length (kgB b.loss k) 0 (b.goal L) (b'.goal L'):=by
 refine⟨by rw[BG.goal_len];exact hL.len,by rw[BG.goal_len];exact hL.len',fun r hr=>?_⟩;have h0:=hL.at' r hr;have hσ:=h.rng r hr;unfold BG.goal kgB;rw[h.loss,h.tilt];by_cases e:b.loss=1
 ·rw[if_pos e,if_pos e,if_pos e];exact h0
 ·rw[if_neg e,if_neg e,if_neg e];have hl1:=hL.len;have hl2:=hL.len';rw[qB,qA (show r.toNat<L'.length by omega),qB,qA (show (σ r).toNat<L.length by omega),Option.getD_some,Option.getD_some]at h0;rw[qB,qK,qA (show r.toNat<L'.length by omega),qB,qK,qA (show (σ r).toNat<L.length by omega),Option.map_some,Option.map_some,Option.getD_some,Option.getD_some,h0,Rat.one_mul,Rat.add_zero,Rat.add_zero];generalize L[(σ r).toNat]=t
  have e1:0<k*t↔0<t:=by
   have:=zcc (a:=0) (b:=t) h.k
   rwa [Rat.mul_zero]at this
  have e2:k*t=0↔t=0:=by
   have:=zhP (a:=t) (b:=0) h.k
   rwa [Rat.mul_zero]at this
  simp only[e1,e2]
theorem zht.gs {L L':List Rat} (hL:zf6 σ b.X.length k 0 L L'):GS σ f (kgB b.loss k*kgB b.loss k) (kgB b.loss k) b.W (b.gp L) (b'.gp L'):=by
 have hg:=h.goal hL;have hk:=h.kg
 have hat:∀l:List Int,(∀r,r∈l→0≤r∧r<(b'.X.length:Int))→atR (b'.goal L') l=(atR (b.goal L) (l.map σ)).map fun q=>kgB b.loss k*q:=fun l hl=>by
  rw[hg.atR fun r hr=>(by have:=hl r hr;rw[h.len]at this;exact this),ztg]
 have hpm:∀l m:List Int,l.Perm m→(atR (b.goal L) l).Perm (atR (b.goal L) m):=fun l m e=>e.map _
 have hme:∀l m:List Int,l.Perm m→za0 (atR (b.goal L) l)=za0 (atR (b.goal L) m):=fun l m e=>by
  unfold za0;rw[zdE (hpm l m e),(hpm l m e).length_eq]
 exact {
  lt:=h.lt
  mid:=h.mid
  pos:=by have:=Rat.mul_lt_mul_of_pos_right hk hk;rwa [Rat.zero_mul]at this
  rng:=fun r hr=>h.rng r (by have e:=h.len;have e2:((b'.gp L').X.length:Int)=(b'.X.length:Int):=rfl;rw[e2,e]at hr;exact hr)
  key:=fun c r hc hr=>h.key c r hc (by have e:=h.len;have e2:((b'.gp L').X.length:Int)=(b'.X.length:Int):=rfl;rw[e2,e]at hr;exact hr)
  cost:=fun l hl=>zni (hat l hl)
  mean:=fun l hl=>by show za0 (atR (b'.goal L') l)=_;rw[hat l hl,zjO];rfl
  cnt:=fun _ _=>rfl
  least:=h.least
  gain:=by show b'.gain=_*b.gain;rw[h.g,h.g',Rat.mul_zero]
  cols:=fun s s' c=>by show c∈za8 b'.W↔c∈za8 b.W;rw[h.W]
  range:=fun s c hc=>zbb c hc
  pcost:=fun l m e=>by
   show zaR (zdl (za0 (atR (b.goal L) l)) (atR (b.goal L) l))=zaR (zdl (za0 (atR (b.goal L) m)) (atR (b.goal L) m));rw[hme l m e];exact zdE ((hpm l m e).map _)
  pmean:=hme
  pcnt:=fun _ _ _=>rfl }
theorem zht.raw (hb:b.Ok) {L L':List Rat} (hL:zf6 σ b.X.length k 0 L L') (hg:zhl L):b'.raw L'=(b.raw L).map (zf0 f (kgB b.loss k*kgB b.loss k) (kgB b.loss k)):=by
 have:=(h.gs hL).grow (hb.gp hg hL.len) b.D 0 (za8 b.X.length) (za8 b'.X.length) 0 0 (by rw[h.len];exact h.perm) zbb;unfold BG.raw;rw[h.D];exact this
theorem zht.row {r:Int} (hr:0≤r∧r<(b.X.length:Int)):∀c:Int,0≤c∧c<(b.W:Int)→(b'.X.getD r.toNat []).getD c.toNat 0=f ((b.X.getD (σ r).toNat []).getD c.toNat 0):=fun c hc=>(h.key c r hc hr).2
theorem zht.part (hb:b.Ok) {L L':List Rat} (hL:zf6 σ b.X.length k 0 L L') (hg:zhl L) (j:Nat):(b'.part L' (b'.raw L') j).Perm ((b.part L (b.raw L) j).map fun q=>k*q+0):=by
 obtain⟨hraw,_,_⟩:=hb.raw hg hL.len;have hcols:=zha hraw;obtain⟨hh,_,hsub⟩:=hraw.sub;dsimp only at hsub hcols
 have hw:∀r,r∈za8 b.X.length→decide ((j:Int)∈zr2 (b'.raw L') (b'.X.getD r.toNat []))=decide ((j:Int)∈zr2 (b.raw L) (b.X.getD (σ r).toNat [])):=fun r hr=>by
  obtain⟨l,hl⟩:=hsub.path (b.X.getD (σ r).toNat []);have h2:=hl.simK (κ:=kgB b.loss k*kgB b.loss k) (m:=kgB b.loss k) h.lt (x':=b'.X.getD r.toNat []) (h.row (zbb r hr)) hcols;rw[←h.raw hb hL hg]at h2;rw[zi5 hl,zi5 h2]
 unfold BG.part;rw[h.len,hL.atR fun r hr=>zbb r (List.mem_filter.1 hr).1,zd6 (q:=fun r=>decide ((j:Int)∈zr2 (b.raw L) (b.X.getD r.toNat []))) hw];exact((h.perm.filter _).map _).map _
theorem zht.nodes (hb:b.Ok) {L L':List Rat} (hL:zf6 σ b.X.length k 0 L L') (hg:zhl L):b'.nodes L'=(b.nodes L).map (zf0 f (kgB b.loss k*kgB b.loss k) k):=by
 have hraw:=h.raw hb hL hg;have hpart:=h.part hb hL hg;unfold BG.nodes;rw[h.loss];by_cases e:b.loss=1
 ·rw[if_pos e,if_pos e,hraw,show kgB b.loss k=k from if_pos e]
 ·rw[if_neg e,if_neg e];have k1:kgB b.loss k=1:=if_neg e;refine List.ext_getElem? fun j=>?_;unfold BG.mids;rw[zbp,qK,zbp,hraw,qV,qK]
  cases hj:(b.raw L)[j]? with
  | none=>rfl
  | some n =>
   have hjl:=(qE.1 hj).1;obtain⟨_,p2,_,_⟩:=hb.part hg hL.len hj;have hm:=zrp h.k (hb.two (hb.loss.resolve_left e)).2 (hpart j) p2;rw[Rat.add_zero]at hm;rw[←hraw];simp only[Option.map_some,if_pos hjl,h.tilt,hm,k1];rfl
theorem zht.tree (hb:b.Ok) {L L':List Rat} (hL:zf6 σ b.X.length k 0 L L') (hg:zhl L):b'.tree L'=zop f (kgB b.loss k*kgB b.loss k) k (b.tree L):=by
 unfold BG.tree zop;rw[h.nodes hb hL hg,h.W]
theorem zht.mids {y y':List Rat} {c:Rat} (hb:b.Ok) (hy:zf6 σ b.X.length k c y y'):b'.mid y'=k*b.mid y+c:=by
 have h8:=hb.rows;have hl:=hy.len;unfold BG.mid;rw[h.loss,h.tilt];exact zmn h.k (fun e=>(hb.two (hb.loss.resolve_left e)).2) (hy.perm h.perm) oM
theorem zht.next (hb:b.Ok) {L L':List Rat} (hL:zf6 σ b.X.length k 0 L L') (hg:zhl L) (hT:zdV b.W (b.tree L)):zf6 σ b.X.length k 0 (b.next L) (b'.next L'):=by
 have hl:=hL.len;have hl':=hL.len';have hX:=h.len
 have g1:∀(b:BG) (L:List Rat) (r:Int),L.length=b.X.length→0≤r∧r<(b.X.length:Int)→(b.next L).getD r.toNat 0=L.getD r.toNat 0-b.rate*(zb3 (b.X.getD r.toNat []) (b.tree L)).value:=fun b L r hl hr=>by
  have e1:=qA (l:=b.X) (i:=r.toNat) oM;have e2:=qA (l:=L) (i:=r.toNat) oM;unfold BG.next;rw[qB,zhk e1 e2,qB,e2,qB,e1];rfl
 refine⟨by unfold BG.next;rw[List.length_zipWith];omega,by unfold BG.next;rw[List.length_zipWith];omega,fun r hr=>?_⟩;have hσ:=h.rng r hr;rw[g1 b' L' r oM oM,g1 b L (σ r) oM hσ,hL.at' r hr,h.rate,h.tree hb hL hg,zjJ h.lt hT (h.row hr)];grind
theorem zht.fit (hb:b.Ok) {y y':List Rat} {c:Rat} (hy:zf6 σ b.X.length k c y y') {D A:Nat} (hD:1≤D) (hA:1≤A) (hq:∀q,q∈y→Gr D A q) {K:Nat} (hbl:bl ((2*A*2 ^ K)*(D*840*(840*b.rate.den) ^ K))≤95):∀j,j≤K→zf6 σ b.X.length k 0 (b.fit y j).2 (b'.fit y' j).2∧(b'.fit y' j).1=(b.fit y j).1.map (zop f (kgB b.loss k*kgB b.loss k) k):=by
 have hrd:=b.rate.den_nz;intro j
 induction j with
 | zero =>
  refine fun _=>⟨⟨?_,?_,fun r hr=>?_⟩,rfl⟩
  ·show (y.map _).length=_;rw[qV];exact hy.len
  ·show (y'.map _).length=_;rw[qV];exact hy.len'
  ·have hσ:=h.rng r hr;have hl:=hy.len;have hl':=hy.len';have h0:=hy.at' r hr;show (y'.map fun q=>q-b'.mid y').getD r.toNat 0=k*(y.map fun q=>q-b.mid y).getD (σ r).toNat 0+0;rw[qB,qA (show r.toNat<y'.length by omega),qB,qA (show (σ r).toNat<y.length by omega),Option.getD_some,Option.getD_some]at h0;rw[qB,qK,qA (show r.toNat<y'.length by omega),qB,qK,qA (show (σ r).toNat<y.length by omega),Option.map_some,Option.map_some,Option.getD_some,Option.getD_some,h0,h.mids hb hy];grind
 | succ j ih =>
  intro hj;obtain⟨i1,i2⟩:=ih oM;obtain⟨h1,_⟩:=hb.fit hD hA hq hy.len hbl j oM;have hl:=(b.fit_len y hy.len j).1;have hd1:1≤D*840*(840*b.rate.den) ^ j:=Nat.mul_pos oM (Nat.pow_pos oM);have ha1:1≤2*A*2 ^ j:=Nat.mul_pos oM (Nat.pow_pos oM);have hb1:=zoD (k:=j) hrd hbl oM;have hT:=hb.tree hd1 ha1 hb1 h1 hl;have hg:zhl (b.fit y j).2:=⟨_,_,hd1,ha1,hb1,h1⟩;refine⟨h.next hb i1 hg hT,?_⟩;show (b'.fit y' j).1++[b'.tree (b'.fit y' j).2]=((b.fit y j).1++[b.tree (b.fit y j).2]).map _;rw[i2,h.tree hb i1 hg,qr,List.map_singleton]
theorem zht.ans (hb:b.Ok) {y y':List Rat} {c:Rat} (hy:zf6 σ b.X.length k c y y') {D A:Nat} (hD:1≤D) (hA:1≤A) (hq:∀q,q∈y→Gr D A q) {K:Nat} (hbl:bl ((2*A*2 ^ K)*(D*840*(840*b.rate.den) ^ K))≤95) {x x':List Rat} (hx:∀c:Int,0≤c∧c<(b.W:Int)→x'.getD c.toNat 0=f (x.getD c.toNat 0)):zkP (b'.mid y') b'.rate (b'.fit y' K).1 x'=k*zkP (b.mid y) b.rate (b.fit y K).1 x+c:=by
 obtain⟨_,h2⟩:=h.fit hb hy hD hA hq hbl K (qH _);obtain⟨_,hT⟩:=hb.fit hD hA hq hy.len hbl K (qH _);rw[h2,h.mids hb hy,h.rate];generalize (b.fit y K).1=ts at *
 have e:vL x' (ts.map (zop f (kgB b.loss k*kgB b.loss k) k))=(vL x ts).map fun q=>k*q+0:=by
  unfold vL;rw[List.map_map,List.map_map]
  exact List.map_congr_left fun t ht=>by
   show (zb3 x' (zop f _ k t)).value=k*(zb3 x t).value+0;rw[zjJ h.lt (hT t ht) hx,Rat.add_zero]
 unfold zkP;rw[e,zg6,Rat.mul_zero];grind
end
end
section
end
section
open Go.RowKit _root_.Go.Proofs.Tryz
theorem zqZ {X:List (List Rat)} {f:Rat→Rat} {c r:Int}:zbO (X.map fun x=>x.map f) c r=zbO X c r∧(zbO X c r=true→zbi (X.map fun x=>x.map f) c r=f (zbi X c r)):=by
 have hg:(X.map fun x=>x.map f).getD r.toNat []=(X.getD r.toNat []).map f:=by
  rw[qB,qB,qK];cases X[r.toNat]? <;> rfl
 unfold zbO zbi;rw[hg,qV];refine⟨rfl,fun h=>?_⟩;simp only[Bool.and_eq_true,decide_eq_true_eq]at h;generalize X.getD r.toNat []=x at *
 have hl:c.toNat<x.length:=oM;simp[qB,hl]
theorem zub {K M:Rat} (hK:0<K) (a b:Rat):a<b↔a*K+M<b*K+M:=by
 constructor
 ·intro h;have:=Rat.mul_pos (show 0<b-a by grind) hK;grind
 ·intro h;refine Rat.not_le.1 fun k=>?_;have:=Rat.mul_nonneg (show 0≤a-b by grind) (Rat.le_of_lt hK);grind
end
section
def zbt (X:List (List Rat)) (o:List Int):List (List Rat):=o.map fun j=>X.getD j.toNat []
def zdi (y:List Rat) (o:List Int):List Rat:=o.map fun j=>y.getD j.toNat 0
def zbz (X:List (List Rat)) (K M:Rat):List (List Rat):=X.map fun x=>x.map fun z=>z*K+M
def BG.withX (b:BG) (X:List (List Rat)):BG:={ b with X:=X }
theorem zro {X:List (List Rat)} {j:Int} (h:0≤j∧j<(X.length:Int)):X.getD j.toNat []∈X:=by
 rw[qB,qA (show j.toNat<X.length by omega)];exact List.getElem_mem _
theorem zjY {n:Nat} {o:List Int} (ho:o.Perm (za8 n)):∀j,j∈o→0≤j∧j<(n:Int):=fun j hj=>zbb j (ho.mem_iff.1 hj)
theorem BG.Ok.order {b:BG} (hb:b.Ok) {o:List Int} (ho:o.Perm (za8 b.X.length)):(b.withX (zbt b.X o)).Ok:=by
 have hl:(zbt b.X o).length=b.X.length:=by unfold zbt;rw[qV,ho.length_eq,zaW]
 exact⟨hb.loss,hb.rate,hb.one,hb.two,hb.den,by show 1≤(zbt b.X o).length∧(zbt b.X o).length≤8;rw[hl];exact hb.rows,hb.wide,fun x hx=>by
  obtain⟨j,hj,rfl⟩:=List.mem_map.1 (show x∈zbt b.X o from hx);exact hb.each _ (zro (zjY ho j hj)),hb.deep,hb.least,hb.gain⟩
theorem zku {x:List Rat} {K M:Rat} (hb:∀q,q∈x→ht q≤5) (hK:ht K≤30) (hM:ht M≤5):∀q,q∈x.map (fun z=>z*K+M)→ht q≤60:=fun q hq=>by
 obtain⟨z,hz,rfl⟩:=List.mem_map.1 hq;have h0:=hb z hz;have h1:=zdx z K;have h2:=zdw (z*K) M;omega
theorem BG.Ok.units {b:BG} (hb:b.Ok) {K M:Rat} (h5:∀x,x∈b.X→x.length=b.W∧∀q,q∈x→ht q≤5) (hK:ht K≤30) (hM:ht M≤5):(b.withX (zbz b.X K M)).Ok :=
 ⟨hb.loss,hb.rate,hb.one,hb.two,hb.den,by show 1≤(zbz b.X K M).length∧(zbz b.X K M).length≤8;unfold zbz;rw[qV];exact hb.rows,hb.wide,fun x hx=>by
  obtain⟨x0,h0,rfl⟩:=List.mem_map.1 (show x∈zbz b.X K M from hx);exact⟨by rw[qV];exact(h5 x0 h0).1,zku (h5 x0 h0).2 hK hM⟩,hb.deep,hb.least,hb.gain⟩
def zlx (o:List Int) (r:Int):Int:=o.getD r.toNat 0
theorem zpS {o:List Int} {n:Nat} (h:o.length=n):(za8 n).map (zlx o)=o:=by
 subst h;refine List.ext_getElem? fun i=>?_;unfold za8 zlx;rw[List.map_map,qK];by_cases hi:i<o.length
 ·rw[List.getElem?_range hi,qA hi];show some (o.getD ((i:Int)).toNat 0)=_;rw[qU,qB,qA hi];rfl
 ·rw[qg (by rw[List.length_range];omega),qg (by omega)];rfl
theorem zht.order {b:BG} (hg:b.gain=0) {o:List Int} (ho:o.Perm (za8 b.X.length)):zht (zlx o) (fun q=>q) 1 b (b.withX (zbt b.X o)):=by
 have hol:o.length=b.X.length:=by rw[ho.length_eq,zaW]
 refine⟨fun _ _=>Iff.rfl,fun _ _=>rfl,by decide,rfl,rfl,rfl,rfl,rfl,rfl,hg,hg,by show (zbt b.X o).length=_;unfold zbt;rw[qV];exact hol,by rw[zpS hol];exact ho,fun c r _ hr=>?_⟩
 have e:(zbt b.X o).getD r.toNat []=b.X.getD (zlx o r).toNat []:=by
  unfold zbt zlx;rw[qB,qK,qA (show r.toNat<o.length by omega),Option.map_some,Option.getD_some,qB (l:=o),qA (show r.toNat<o.length by omega),Option.getD_some]
 refine⟨?_,?_⟩
 ·show zbO (zbt b.X o) c r=_;unfold zbO;rw[e]
 ·show zbi (zbt b.X o) c r=_;unfold zbi;rw[e]
theorem zf6.order {y:List Rat} {n:Nat} (hy:y.length=n) {o:List Int} (ho:o.Perm (za8 n)):zf6 (zlx o) n 1 0 y (zdi y o):=by
 have hol:o.length=n:=by rw[ho.length_eq,zaW]
 refine⟨hy,by unfold zdi;rw[qV];exact hol,fun r hr=>?_⟩;unfold zdi zlx;rw[qB,qK,qA (show r.toNat<o.length by omega),Option.map_some,Option.getD_some,qB (l:=o),qA (show r.toNat<o.length by omega),Option.getD_some,Rat.one_mul,Rat.add_zero]
theorem zf6.same {y:List Rat} {n:Nat} (hy:y.length=n):zf6 (fun r=>r) n 1 0 y y:=⟨hy,hy,fun r _=>by rw[Rat.one_mul,Rat.add_zero]⟩
theorem zht.units {b:BG} (hg:b.gain=0) {K M:Rat} (hK:0<K) (hw:∀x,x∈b.X→x.length=b.W):zht (fun r=>r) (fun q=>q*K+M) 1 b (b.withX (zbz b.X K M)):=by
 refine⟨zub hK,fun a b=>by rw[Rat.div_def,Rat.div_def];grind,by decide,rfl,rfl,rfl,rfl,rfl,rfl,hg,hg,by show (zbz b.X K M).length=_;unfold zbz;rw[qV],by rw[List.map_id'],fun c r hc hr=>?_⟩;obtain⟨h1,h2⟩:=zqZ (X:=b.X) (f:=fun z=>z*K+M) (c:=c) (r:=r);refine⟨h1,h2 ?_⟩;obtain⟨R,rfl⟩:=qj hr.1;unfold zbO;obtain⟨x,hx⟩:∃x,b.X[R]?=some x:=⟨_,qA oM⟩;rw[qU,qB,hx,Option.getD_some,hw x (qF hx)];simp;omega
section
variable {b:BG} (hb:b.Ok) (hg:b.gain=0) {y:List Rat} (hy:y.length=b.X.length) {D A:Nat} (hD:1≤D) (hA:1≤A) (hq:∀q,q∈y→Gr D A q) {K:Nat} (hbl:bl ((2*A*2 ^ K)*(D*840*(840*b.rate.den) ^ K))≤95)
include hb hg hy hD hA hq hbl
theorem zo7 {o:List Int} (ho:o.Perm (za8 b.X.length)):(b.withX (zbt b.X o)).mid (zdi y o)=b.mid y∧((b.withX (zbt b.X o)).fit (zdi y o) K).1=(b.fit y K).1:=by
 have h:=zht.order hg ho;have hl:=zf6.order hy ho;obtain⟨_,h2⟩:=h.fit hb hl hD hA hq hbl K (qH _);refine⟨by rw[h.mids hb hl,Rat.one_mul,Rat.add_zero],?_⟩;have e:kgB b.loss 1=1:=by unfold kgB;split <;> rfl
 rw[h2,e,Rat.mul_one,zlg]
theorem zo8 {Kq M:Rat} (hK:0<Kq) (hw:∀x,x∈b.X→x.length=b.W) {z:List Rat} (hz:z.length=b.W):zkP (b.mid y) b.rate ((b.withX (zbz b.X Kq M)).fit y K).1 (z.map fun q=>q*Kq+M)=zkP (b.mid y) b.rate (b.fit y K).1 z:=by
 have h:=zht.units (M:=M) hg hK hw
 have:=h.ans hb (zf6.same hy) hD hA hq hbl (x:=z) (x':=z.map fun q=>q*Kq+M) fun c hc=>by
  rw[qB,qK,qB,qA (show c.toNat<z.length by omega)];rfl
 rw[Rat.one_mul,Rat.add_zero]at this;exact this
end
end
section
open Go.RowKit _root_.Go.Proofs.Tryz
set_option maxRecDepth 100000 in
theorem zj7 {H:Hp} {loss w:Int} {base rate tilt:Rat} {a1 b1:Option Addr} {n1 m1 c1 d1:Nat} {ts:List Tr} (ht:PTL H (.slice a1 n1 c1) ts) (ht':PTL H (.slice b1 m1 d1) ts) (hl:ts.length≤1000000) (h:∀t,t∈ts→t.ns.length≤1000000∧∀n,n∈t.ns→SmN n) (h1:sm base) (h2:sm rate) (h3:sm tilt) :
  PC prog 35 #[.agg (zbE loss w base rate tilt (.slice a1 n1 c1)).toArray,.agg (zbE loss w base rate tilt (.slice b1 m1 d1)).toArray] H fun r _=>r=.bool true:=by
 have he:=fun (G:Hp) (hG:H.Le G)=>znx (ht.mono hG) (ht'.mono hG) hl fun G hG c d t hm hc hd=>zrM hc hd (h t hm).1 (h t hm).2;have e1:=(zbF base base h1 h1).of_eq (congrArg _ (zcJ _));have e2:=(zbF rate rate h2 h2).of_eq (congrArg _ (zcJ _));have e3:=(zbF tilt tilt h3 h3).of_eq (congrArg _ (zcJ _));refine BD func35 ntmps35 ?_;refine uR ?_;rw[beq_self_eq_true loss];refine uR ?_;rw[beq_self_eq_true w]
 repeat (first|refine RUN ?_|refine CV (e1) ?_|refine CV (e2) ?_|refine CV (e3) ?_|refine CE (e1) ?_|refine CE (e2) ?_|refine CE (e3) ?_)
 refine vA (he _ (Hp.Le.refl _)) ?_;rintro _ G rfl hG;refine uR ?_;rfl
theorem zod {t:Tr} (h:zcf t):∀n,n∈t.ns→SmN n:=fun n hn=>by
 obtain⟨i,hi⟩:=List.mem_iff_getElem?.1 hn;obtain⟨m,hm,ho,_⟩:=h.nodes i (qE.1 hi).1;cases hm.symm.trans hi;obtain⟨h1,h2,h3⟩:=ho.small;have hk:=h.kind;have hc:=ho.len;exact⟨zai h1 oM,zai h2 oM,zai h3 oM,by omega⟩
structure OrS where
 i:Nat
 bs:List Value
 vb:Value
 ob:Ows
 vu:Value
 ou:Ows
 zs:List Value
 vz:Value
 oz:Ows
structure OrS.Ok (q:OrS) (n:Nat) (B:List (List Rat)) (U:List Rat) (Z:List (List Rat)) (G:Hp):Prop where
 le:q.i≤n
 bs:QVs G q.bs (B.take q.i)
 vb:zaO 60 1 q.vb q.i q.bs q.ob
 vu:zaO 51 5 q.vu q.i (zak (U.take q.i)) q.ou
 zs:QVs G q.zs (Z.take q.i)
 vz:zaO 60 1 q.vz q.i q.zs q.oz
set_option maxRecDepth 100000 in
theorem boostOrder_pc {H:Hp} {vx vr:Value} {row:List Int} (by' more seed:Int) (hx:zsD H vx) (hby:zfD by') (hmo:zfD more) (hsd:0≤seed) (hrw:IL H vr row) (hrwb:∀z,z∈row → -9223372036854775808≤z∧z<9223372036854775808):PC prog 6 #[vx,.int .i64 by',.int .i64 more,.int .u64 seed,vr] H fun r _=>r=.bool true:=by
 have ho1:=zpF hx;obtain⟨_,_,_,_,_,_,_,_,_,_,_,_,rfl,_⟩:=hx;obtain⟨wa,wc,rfl⟩:=SlC.val hrw;refine BD func6 ntmps6 ?_;refine uR ?_;refine vA (ho1) ?_;rintro r1 G1 ⟨b,y,K,vX,vY,vS,rfl,hb,hX,hY,hst,hyl,hg,hK,hg0,hW,hX5⟩ hG1;have h8:=hb.rows;have hwd:=hb.wide;have hyb:=zix by'
 have hmb:=zix more;have hQ1:=zmi by' hby
 have hQ2:=zmi more hmo;have hab:=zsF (zgR by') (zai hyb oM);have hof1:=zec 1 oM oM
 have h1h:ht ((1:Int):Rat)≤10:=by
  have:=zbG 1;have h2:bl (1:Int).natAbs≤5:=zaU (by decide);omega
 have hah:=zs2 (zgR by');have hKa:=zdf (zqI (zgR by')) ((1:Int):Rat) (by unfold sm;omega) (by unfold sm;omega);have hKh:=zdw (zqI (zgR by')) ((1:Int):Rat)
 have hKp:0<zqI (zgR by')+((1:Int):Rat):=by
  have:=zqO (zgR by');rw[show ((1:Int):Rat)=1 from rfl];generalize zqI (zgR by')=x at *
  grind
 have hKb:ht (zqI (zgR by')+((1:Int):Rat))≤30:=oM;generalize zqI (zgR by')+((1:Int):Rat)=Kq at *
 generalize zgR more=M at *
 clear hah hKh;have hbl:=zsa hb.den.1 (show K≤6 by omega);have hbl1:=zsa hb.den.1 (show K+1≤6 by omega);have f1:=zsZ hb hyl oM oM hg oM hbl;have f4:=zsZ hb hyl oM oM hg oM hbl1;have q1:rq b.rate:=zc5 f1.rate oM;have q2:rq b.tilt:=zc5 hb.den.2 oM;have q3:rq b.gain:=zc5 hb.gain.2 oM;have hy95:=f1.y95;obtain⟨vs0,hvs0,hvx0⟩:=id hX;obtain⟨xa,xc,rfl⟩:=hX.val;obtain⟨ya,yc,rfl⟩:=hY.val;obtain⟨x0,hxx0⟩:∃x,b.X[0]?=some x:=⟨_,qA h8.1⟩;obtain⟨u0,e0,hu0,_⟩:=hvs0.at hxx0;rw[(hX5 x0 (qF hxx0)).1]at hu0;obtain⟨b1,a1,l1,c1,a2,l2,c2,b2,a3,l3,c3,a4,l4,c4,b3,a5,l5,c5,a6,l6,c6,rfl,s1,s2,s3⟩:=hst;have cRu:=fun (k:Nat) (G:Hp) (hG:G1.Le G)=>zn5 (vs:=.agg (ztM b.loss (k:Int) (b.D:Int) b.least (rc b1 a1 l1 c1 a2 l2 c2) (rc b2 a3 l3 c3 a4 l4 c4) (rc b3 a5 l5 c5 a6 l6 c6)).toArray) ⟨_,_,_,_,_,_,_,_,_,_,_,_,_,_,_,_,_,_,_,_,_,rfl,s1.mono hG,s2.mono hG,s3.mono hG⟩ q1 q2 q3;refine uR ?_;refine EVL.call rfl rfl rfl rfl rfl (zfM hY oM (fun q k=>zc5 (hy95 q k) oM)) ?_;rintro v14 G2 hY14 hG2;obtain⟨qa,qc,rfl⟩:=SlC.val hY14;refine uR ?_;refine EVL.call rfl rfl rfl rfl rfl (zjG (hX.mono hG2) oM (fun x h=>⟨by rw[(hX5 x h).1];omega,fun q k=>zc5 ((hX5 x h).2 q k) oM⟩)) ?_;rintro v15 G3 hX15 hG3;obtain⟨vs,hvs,hvx⟩:=id hX15;obtain⟨pa,pc,rfl⟩:=hX15.val;refine uR ?_;refine EVL.callO rfl rfl rfl rfl rfl (zsX seed) ?_;rintro vd owd ⟨bd,rfl,rfl⟩;refine uR ?_;refine vA (znF) ?_;rintro _ G4 rfl hG4;refine uR ?_;refine EVL.eqnilP (e:=164) kR rfl rfl rfl rfl rfl ?_
 repeat (first|refine RUN ?_|refine CV (hQ1) ?_|refine CV (hab) ?_|refine CV (hof1) ?_|refine CV (hKa) ?_|refine CV (hQ2) ?_|refine CE (hQ1) ?_|refine CE (hab) ?_|refine CE (hof1) ?_|refine CE (hKa) ?_|refine CE (hQ2) ?_)
 refine EVL.callW rfl rfl rfl rfl rfl ([(bd,164,[.int .u64 seed])]) ([]) rfl (zpV hsd oM oM) ?_;rintro v5 _ G5 ⟨⟨T5,rfl⟩,hs5,hil5,oa5,rfl⟩ hG5;have hop:(zcx b.X.length seed).1.Perm (za8 b.X.length):=zls b.X.length seed oM;have hol:=zhQ b.X.length seed;generalize (zcx b.X.length seed).1=o at *
 (first|refine EVL.subOw [] [(bd,T5,_)] [] rfl ?_|refine EV.subOw [] [(bd,T5,_)] [] rfl ?_);have hom:=zjY hop;have hH5:=hG3.trans (hG4.trans hG5);have hH15:=hG2.trans hH5;have hH35:=hG4.trans hG5;refine uR ?_;refine EV.loopK (ι:=OrS) [4,11,13,14,15,17,18,19] [13,17,18] (fun q=>[(20,.v q.vb),(21,.v q.vz),(22,.v q.vu),(23,.v (.int .i64 (q.i:Int)))]) (fun _=>[]) (fun q=>q.ob++(q.ou++q.oz)) (fun q G=>G5.Le G∧q.Ok b.X.length (zbt b.X o) (zdi y o) (zbz b.X Kq M) G) (fun q=>b.X.length-q.i) (⟨0,[],.slice none 0 0,[],.slice none 0 0,[],[],.slice none 0 0,[]⟩) rfl rfl ⟨rfl,rfl,rfl,rfl,trivial⟩ trivial rfl (fun _=>rfl) (⟨Hp.Le.refl _,qQ _,QVs.nil _,zaO.nil _ _,zaO.nil _ _,QVs.nil _,zaO.nil _ _⟩) ?_;rintro⟨i,bs,vb,ob,vu,ou,zs,vz,oz⟩ G6 hG6 ⟨hG56,hi,hbs,hvb,hvu,hzs,hvz⟩;dsimp only at hi hbs hvb hvu hzs hvz;obtain⟨ba,bc,rfl⟩:=hvb.val;obtain⟨ua,uc,rfl⟩:=hvu.val;obtain⟨za,zc,rfl⟩:=hvz.val;refine uR ?_;refine EV.cond rfl (fun hlt=>?_) (fun hlt=>?_)
 ·simp only[nN]at hlt;rw[hol]at hlt;obtain⟨j,hj⟩:∃j,o[i]?=some j:=⟨_,qA oM⟩;have hjb:=hom j (qF hj);obtain⟨J,rfl⟩:=qj hjb.1;have hJ:J<b.X.length:=oM;obtain⟨xJ,hxJ⟩:=gE hJ;obtain⟨yJ,hyJ⟩:∃q,y[J]?=some q:=⟨_,qA oM⟩;obtain⟨xi,hxi⟩:=gE hlt
  have hBi:(zbt b.X o)[i]?=some xJ:=by
   unfold zbt;rw[qK,hj,Option.map_some,qU,qB,hxJ];rfl
  have hUi:(zdi y o)[i]?=some yJ:=by
   unfold zdi;rw[qK,hj,Option.map_some,qU,qB,hyJ];rfl
  have hZi:(zbz b.X Kq M)[i]?=some (xi.map fun z=>z*Kq+M):=by
   unfold zbz;rw[qK,hxi];rfl
  have hK36:=hH35.trans hG56;obtain⟨tJ,eJ,huJ,hQJ⟩:=(hvs.mono hK36).at hxJ;obtain⟨ti,ei,hui,hQi⟩:=(hvs.mono hK36).at hxi;obtain⟨hxil,hxi5⟩:=hX5 xi (qF hxi);have hun:=fun (G:Hp) (hG:G6.Le G)=>zh5 (K:=Kq) (M:=M) (QL.mono hQi hG) oM (fun q k=>qI (hxi5 q k) oM) oM oM;have hil6:=hil5.mono hG56;have hvx6:=hvx.mono hK36;have hyS:SlC G6 (.slice qa y.length qc) y.length 5 (y.flatMap fun q=>zac (zaa q)):=SlC.mono hY14 (hG3.trans hK36);refine uR ?_;refine vI (hil6) (i) (rfl) (oM) ((by rw[qK,hj];rfl)) ?_;refine uR ?_;refine vI (hvx6) (J) (rfl) (hJ) (huJ) ?_;refine uR ?_;refine EVL.app1 tO rfl rfl rfl rfl rfl rfl rfl rfl rfl rfl rfl rfl rfl rfl rfl rfl rfl rfl rfl (fun _=>rfl) (ob) (ou++oz) (rfl) (hvb) oM fun _=>?_;intro vb' ob' hvb';obtain⟨ba',bc',rfl⟩:=hvb'.val;(first|refine EVL.swapOw (ob') (ou++oz) (rfl) ?_|refine EV.swapOw (ob') (ou++oz) (rfl) ?_);refine uR ?_;refine vI (hil6) (i) (rfl) (oM) ((by rw[qK,hj];rfl)) ?_;refine uR ?_;refine EVL.idxM tO rfl rfl rfl rfl rfl rfl rfl rfl rfl (hyS) (J) (rfl) (oM) (QL.at (H:=H) (v:=.bool true) hyJ) ?_;refine uR ?_;refine EVL.app1 tO rfl rfl rfl rfl rfl rfl rfl rfl rfl rfl rfl rfl rfl rfl rfl rfl rfl rfl rfl (fun _=>rfl) (ou) (oz++ob') ((qZ ..)) (hvu) oM fun _=>?_;intro vu' ou' hvu';obtain⟨ua',uc',rfl⟩:=hvu'.val;(first|refine EVL.swapOw (ou') (oz++ob') (rfl) ?_|refine EV.swapOw (ou') (oz++ob') (rfl) ?_);refine uR ?_;apply EV.drawn 9 kR kR;intro xv yw;(repeat refine' DD ?_);refine' vJ (hvx6) (i) (rfl) (hlt) (hui) ?_;rotate_left;(repeat refine' DD ?_);refine' vB (cO func26) (fun G hG hd=>hun G hG) (fun _ _ _ h k=>QL.mono h k) ?_;rotate_left
  (refine' DJ.litD1 (Φ:=fun v G=>∃u,SlC G v 1 1 [u]∧QL G u (xi.map fun z=>z*Kq+M)) (fun v G G' ⟨u,e,h⟩ k=>⟨u,e.mono k,QL.mono h k⟩) tO rfl rfl rfl rfl rfl rfl rfl rfl rfl rfl rfl (fun G hd=>by obtain⟨a,c,e⟩:=SlC.val (hd.head kR);rw[e];rfl) (fun G G' v hd hG h=>(by
   have hh:=hd.head kR;obtain⟨a,c,e⟩:=SlC.val hh;rw[e]at hh;rw[e]at h;exact⟨_,h,QL.mono hh hG⟩)) ?_;rotate_left)
  (refine DJ.nil (fun G9 hG9 hF9=>?_);(case hS|hS2=>rfl));obtain⟨u3,hs3,hp3⟩:=hF9.1;refine EVL.append tO rfl rfl rfl rfl rfl rfl rfl rfl rfl rfl rfl rfl [] oz (ob'++ou') (qZ ..) hvz (zdj.ro hs3 (Nat.succ_pos 0)) (by obtain⟨a,c,e⟩:=SlC.val hp3;rw[e];rfl) oM ?_;intro vz' oz' hvz';(first|refine EVL.swapOw (oz') (ob'++ou') (rfl) ?_|refine EV.swapOw (oz') (ob'++ou') (rfl) ?_);refine uR ?_;exact⟨⟨i+1,bs++[_],_,ob',_,ou',zs++[u3],vz',oz'⟩,⟨rfl,rfl,rfl,by rw[zad i (by omega)];rfl,trivial⟩,sB,trivial,sB,qZ ..,⟨hG56.trans hG9,hlt,by dsimp only;rw[zan hBi];exact(hbs.mono hG9).snoc (QL.mono hQJ hG9),hvb',by dsimp only;rw[zan hUi];unfold zak;rw[List.flatMap_append];exact hvu',by dsimp only;rw[zan hZi];exact(hzs.mono hG9).snoc hp3,hvz'⟩,hG9,by dsimp only;omega⟩
 simp only[nN]at hlt;rw[hol]at hlt;obtain rfl:i=b.X.length:=oM;have hBl:(zbt b.X o).length=b.X.length:=by unfold zbt;rw[qV];exact hol
 have hUl:(zdi y o).length=b.X.length:=by unfold zdi;rw[qV];exact hol
 have hZl:(zbz b.X Kq M).length=b.X.length:=by unfold zbz;rw[qV]
 rw[qO (by omega)]at hbs hvu hzs;(first|refine EVL.publishL [] ob (ou++oz) (rfl) hvb fun G7 hG7 hsb=>?_|refine EV.publishL [] ob (ou++oz) (rfl) hvb fun G7 hG7 hsb=>?_);(first|refine EVL.publishL [] ou oz (rfl) hvu fun G8 hG8 hsu=>?_|refine EV.publishL [] ou oz (rfl) hvu fun G8 hG8 hsu=>?_);(first|refine EVL.publishL [] oz [] ((qG _).symm) hvz fun G9 hG9 hsz=>?_|refine EV.publishL [] oz [] ((qG _).symm) hvz fun G9 hG9 hsz=>?_);have hK69:=hG7.trans (hG8.trans hG9);have hB:QLL G9 (.slice ba b.X.length bc) (zbt b.X o):=⟨bs,hbs.mono hK69,by rw[hBl];exact hsb.mono (hG8.trans hG9)⟩
 have hU:QL G9 (.slice ua b.X.length uc) (zdi y o):=by
  unfold QL;rw[hUl];exact hsu.mono hG9
 have hZ:QLL G9 (.slice za b.X.length zc) (zbz b.X Kq M):=⟨zs,hzs.mono hK69,by rw[hZl];exact hsz⟩;clear hbs hvb hvu hzs hvz hsb hsu hsz hlt hi;have hK59:=hG56.trans hK69;have hK19:=hH15.trans hK59;have hX9:=hX15.mono (hH35.trans hK59);have hY9:QL G9 (.slice qa y.length qc) y:=SlC.mono hY14 (hH5.trans hK59);have hb1:=hb.order hop;have hb2:=hb.units (K:=Kq) (M:=M) hX5 oM oM;obtain⟨om,of⟩:=zo7 hb hg0 hyl oM oM hg hbl hop
 have hgB:∀q,q∈zdi y o→Gr 12 20 q:=fun q hq=>by
  obtain⟨j,hj,rfl⟩:=List.mem_map.1 hq;have:=hom j hj;rw[qB,qA (show j.toNat<y.length by omega)];exact hg _ (List.getElem_mem _)
 have f3:=zsZ hb2 (y:=y) (K:=K) (by show y.length=(zbz b.X Kq M).length;rw[hZl];exact hyl) oM oM hg oM hbl;have cF1:=fun (G:Hp) (hG:G9.Le G)=>zfQ hb (hX9.mono hG) (SlC.mono hY9 hG) hyl oM oM hg oM hbl;have cF4:=fun (G:Hp) (hG:G9.Le G)=>zfQ hb (hX9.mono hG) (SlC.mono hY9 hG) hyl oM oM hg oM hbl1
 have cF2:∀G,G9.Le G→PC prog 13 #[.slice ba b.X.length bc,.slice ua b.X.length uc,.agg (zkd b.loss (K:Int) (b.D:Int) b.least b.rate b.tilt b.gain).toArray] G fun r G=>∃ta tc,r=.tuple #[.agg (zbE b.loss (b.W:Int) (b.mid y) b.rate b.tilt (.slice ta K tc)).toArray,.int .i64 0]∧PTL G (.slice ta K tc) (b.fit y K).1:=fun G hG=>by
  have:=zfQ hb1 (hB.mono hG) (SlC.mono hU hG) (by show _=(zbt b.X o).length;rw[hUl,hBl]) oM oM hgB (show K≤50 by omega) hbl;rw[om,of]at this;exact this
 have cF3:∀G,G9.Le G→PC prog 13 #[.slice za b.X.length zc,.slice qa y.length qc,.agg (zkd b.loss (K:Int) (b.D:Int) b.least b.rate b.tilt b.gain).toArray] G fun r G=>∃ta tc,r=.tuple #[.agg (zbE b.loss (b.W:Int) (b.mid y) b.rate b.tilt (.slice ta K tc)).toArray,.int .i64 0]∧PTL G (.slice ta K tc) ((b.withX (zbz b.X Kq M)).fit y K).1:=fun G hG=>zfQ hb2 (hZ.mono hG) (SlC.mono hY9 hG) (by show _=(zbz b.X Kq M).length;rw[hZl];exact hyl) oM oM hg (show K≤50 by omega) hbl;have hun9:=fun (z:List Rat) (hz:z.length=b.W)=>zo8 (M:=M) hb hg0 hyl oM oM hg hbl hKp (fun x h=>(hX5 x h).1) hz;refine uR ?_;refine vA (cRu K _ hK19) ?_;rintro _ G10 rfl hG10;refine uR ?_;refine vA (cF1 _ hG10) ?_;rintro _ G11 ⟨ta,tc,rfl,hP1⟩ hG11;refine uR ?_;refine vA (cRu K _ (hK19.trans (hG10.trans hG11))) ?_;rintro _ G12 rfl hG12;refine uR ?_;refine vA (cF2 _ (hG10.trans (hG11.trans hG12))) ?_;rintro _ G13 ⟨tb,td,rfl,hP2⟩ hG13;have hK13:=hG10.trans (hG11.trans (hG12.trans hG13));refine uR ?_;refine vA (cRu K _ (hK19.trans hK13)) ?_;rintro _ G14 rfl hG14;refine uR ?_;refine vA (cF3 _ (hK13.trans hG14)) ?_;rintro _ G15 ⟨te,tf,rfl,hP3⟩ hG15;have hK15:=hK13.trans (hG14.trans hG15);refine uR ?_;rw[zad K (by omega)];refine uR ?_;refine vA (cRu (K+1) _ (hK19.trans hK15)) ?_;rintro _ G16 rfl hG16;refine uR ?_;refine vA (cF4 _ (hK15.trans hG16)) ?_;rintro _ G17 ⟨tg,th,rfl,hP4⟩ hG17;have hK17:=hK15.trans (hG16.trans hG17);have hr10:=f1.rate;have hm95:=f1.mid;have hti10:=hb.den.2;have hsmT:∀t,t∈(b.fit y K).1→t.ns.length≤1000000∧∀n,n∈t.ns→SmN n:=fun t ht=>⟨by have:=(f1.trees t ht).len;omega,zod (f1.trees t ht).ok⟩;have hlK:(b.fit y K).1.length≤1000000:=by rw[f1.len];omega
 refine uR ?_;refine EVL.call rfl rfl rfl rfl rfl (zj7 (hP1.mono (hG12.trans (hG13.trans (hG14.trans (hG15.trans (hG16.trans hG17)))))) (hP2.mono (hG14.trans (hG15.trans (hG16.trans hG17)))) hlK hsmT (zai hm95 oM) (zai hr10 oM) (zai hti10 oM)) ?_;rintro _ G18 rfl hG18;have cFew:=zrw (k:=K) (loss:=b.loss) (w:=(b.W:Int)) (base:=b.mid y) (rate:=b.rate) (tilt:=b.tilt) (ta:=tg) (tc:=th) (ts:=(b.fit y (K+1)).1) (by rw[f4.len];exact hP4.mono hG18) f4.trees (zai hr10 oM) (zai hti10 oM) (by rw[f4.len];omega) f4.check (by rw[f4.len];omega);rw[f4.len,zrc b y hyl (show K≤K+1 by omega)]at cFew;refine uR ?_;refine vA (cFew) ?_;rintro _ G19 ⟨fa,fc,rfl,hF⟩ hG19;have hK19':=hK17.trans (hG18.trans hG19);have hzl:=zeR row b.W;have hz5:=zp4 (l:=row) b.W;have hrow:=zp7 (hrw.mono (hG1.trans (hK19.trans hK19'))) hrwb b.W oM;generalize zkc row b.W=z at *
 refine uR ?_;refine vI ((hvx0.mono (hK19.trans hK19'))) (0) (rfl) (h8.1) (hu0) ?_;refine uR ?_;refine vA (hrow) ?_;rintro v66 G20 hz hG20;obtain⟨rza,rzc,rfl⟩:=hz.val;refine uR ?_;refine EVL.call rfl rfl rfl rfl rfl (zfM hz oM (fun q hq=>zc5 (hz5 q hq) oM)) ?_;rintro v20 G21 hz21 hG21;obtain⟨z8a,z8c,rfl⟩:=SlC.val hz21;have hz100:∀q,q∈z→ht q≤100:=fun q k=>qI (hz5 q k) oM;have hK1121:=hG12.trans (hG13.trans (hG14.trans (hG15.trans (hG16.trans (hG17.trans (hG18.trans (hG19.trans (hG20.trans hG21))))))));refine uR ?_;refine EVL.call rfl rfl rfl rfl rfl (zmA f1 hb oM (hP1.mono hK1121) hz21 hz100 hzl) ?_;rintro _ G22 rfl hG22;have hz22:=SlC.mono hz21 hG22;have cUn:=fun (G:Hp) (hG:G22.Le G)=>zh5 (K:=Kq) (M:=M) (SlC.mono hz22 hG) oM (fun q k=>hz100 q k) oM oM;have hu60:=zku hz5 hKb hmb;have hA3:=hun9 z hzl
 have cAns:∀(G:Hp) (v:Value),G22.Le G→QL G v (z.map fun q=>q*Kq+M)→PC prog 28 #[.agg (zbE b.loss (b.W:Int) (b.mid y) b.rate b.tilt (.slice te K tf)).toArray,v] G fun r _=>r=.tuple #[zaa (zkP (b.mid y) b.rate (b.fit y K).1 z),.int .i64 0]:=fun G v hG hv=>by
  have:=zmA f3 hb2 oM (hP3.mono (hG16.trans (hG17.trans (hG18.trans (hG19.trans (hG20.trans (hG21.trans (hG22.trans hG)))))))) hv (fun q k=>qI (hu60 q k) oM) (by rw[qV];exact hzl);rw[show zkP ((b.withX (zbz b.X Kq M)).mid y) (b.withX (zbz b.X Kq M)).rate ((b.withX (zbz b.X Kq M)).fit y K).1 (z.map fun q=>q*Kq+M)=zkP (b.mid y) b.rate (b.fit y K).1 z from hA3]at this;exact this
 have a1:=zsM f1 oM z;generalize zkP (b.mid y) b.rate (b.fit y K).1 z=A1 at *
 have hcm:=zug A1 A1 (zai a1 oM) (zai a1 oM) rfl;refine uR ?_;apply EV.drawn 11 kR kR;intro xv yw;(repeat refine' DD ?_);refine' vB (cO func26) (fun G hG hd=>cUn G hG) (fun _ _ _ h k=>SlC.mono h k) ?_;rotate_left;refine' vC (cO func28) (fun G hG hd=>cAns G _ hG (hd.head kR)) ?_;rotate_left;(repeat refine' DD ?_);(refine DJ.nil (fun G3 hG3 hF3=>?_);(case hS|hS2=>rfl));have hK1922:=hG20.trans (hG21.trans (hG22.trans hG3));refine uR ?_;refine EVL.call rfl rfl rfl rfl rfl (zj7 (hF.mono hK1922) (hP1.mono (hK1121.trans (hG22.trans hG3))) hlK hsmT (zai hm95 oM) (zai hr10 oM) (zai hti10 oM)) ?_;rintro _ G23 rfl hG23
 repeat (first|refine RUN ?_|refine CV (hcm) ?_|refine CE (hcm) ?_)
 rfl
end
section
open Go Go.RowKit
theorem zhL {P:Program} {W:World} {n:String} {d:DataW Unit}:∀{l:List (String × DataW Unit)} {ps:List MemPlace},DataW.LaidVars P W l ps→(n,d)∈l →
  ∃p,DataW.LaidVars P W [(n,d)] p
 | [],_,_,h=>by cases h
 | (m,x)::r,ps,h,hm=>by
  obtain⟨g,t,cs,fuel,p,q,h1,h2,h3,h4,h5,h6⟩:=h;rcases List.mem_cons.1 hm with hm | hm
  ·cases hm;exact⟨_,g,t,cs,fuel,p,[],h1,h2,h3,h4,rfl,rfl⟩
  ·exact zhL h5 hm
theorem zs9 {P:Program} {l:List (String × DataW Unit)} {W:World} {α:Type} (f:α→Int) (h:laidMet P l W) {n:String} {zs:List α} {kd:IntKind} {g:Nat} {T e:TypeId} (hmem:(n,.agg (zs.map fun z=>.lit (.int kd (f z))))∈l) (hg:P.globalNamed n=some g) (ht:(P.globals[g]?).map (·.type)=some T)
  (hT:P.underlying T=some (.array zs.length e)) (he:P.underlying e=some (.int kd)) (hc:P.cellsOf e=1) (hcT:P.cellsOf T=zs.length) :
  ∃U fz,W.heap[g]?=some (.cells (zs.map fun z=>Value.int kd (f z)).toArray U fz):=by
 obtain⟨ps,hl,_⟩:=h;obtain⟨p0,g',t,cs,fuel,p,q,hg',ht',hv,hd,_,_⟩:=zhL hl hmem;obtain rfl:=Option.some.inj (hg.symm.trans hg');obtain rfl:=Option.some.inj (ht.symm.trans ht');obtain⟨xs,m,_,ex,hcl,hlen,hel⟩:=DataW.trod_array hT hd
 have hb:∃U fz,W.heap[g]?=some (.cells cs U fz):=by
  simp only[World.var?,hg,Option.bind_some]at hv;split at hv
  ·rename_i c U fz hc';cases hv;exact⟨U,fz,hc'⟩
  ·cases hv
 obtain⟨U,fz,hb⟩:=hb;refine⟨U,fz,?_⟩;rw[hb];congr 2;apply Array.ext';rw[hcT]at hcl;have e3:(xs.map (·.1))=zs.map fun n=>.lit (.int kd (f n)):=(DataW.agg.inj (Prod.mk.inj ex).1).symm;apply List.ext_getElem?;intro r;rcases Nat.lt_or_ge r zs.length with hr | hr
 ·have hE:=hel r hr;rw[hc,Nat.mul_one,qA (by omega)]at hE;obtain⟨z,e1,e2,_⟩:=DataW.trod_int he hE;have e4:(xs.map (·.1))[r]?=(zs.map fun n=>(DataW.lit (.int kd (f n)):DataW Unit))[r]?:=by rw[e3]
  rw[qK,qK,qA (by omega:r<xs.length),qA hr,e2]at e4;simp only[Option.map_some,Option.some.injEq,DataW.lit.injEq,Lit.int.injEq,true_and]at e4;have h0:((cs.toList.drop r).take 1)[0]?=some (.int kd z):=by rw[e1];rfl
  simp only[pP,List.getElem?_drop,qY]at h0;rw[if_pos (by omega)]at h0;rw[h0,e4];simp[hr]
 ·rw[qg oM,qg (by simpa using hr)]
theorem fits_gH {l:List (String × DataW Unit)} {W:World} (h:laidMet Tryz.prog l W) (hmem:("math/bits.deBruijn64tab", .agg (Lib.deBruijn64tab.map fun (z:Nat)=>.lit (.int .u8 z)))∈l):Fits gH W:=fun b c hb=>by
 unfold gH at hb;split at hb
 ·rename_i hbb;cases hb;obtain rfl:=qz hbb;exact zs9 (fun z:Nat=>(z:Int)) h hmem kR kR Tryz.underlying319 Tryz.underlying5 kR kR
 ·cases hb
end
end Go.Proofs.YteoollbcdpfkpaaGreatDoor
