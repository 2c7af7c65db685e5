/- Texts of ours in one: NatD, NatDK, NatDL, NatE, NatF, Oct, NatG, Gcd, Gc0, Rp1, DivR, Wr, Ev12, Ev13, Ev14, Ev15, Ev16, Ev17, Ev18, Ev19, Ev20, Ev21, Re1, Re2, Re3, Re4, Re5, Gs32, Re6, Re7, Re8, Wh1, Rf1, Wh2, Wh3, Rf2, Rf3, Gc1, Gc2. -/
import Derived.Test.YtkeklikocibiaaaGreatDoorF0
import Derived.Test.YtkeklikocibiaaaGreatDoorF1
import Derived.Lib.TrailingZeros
import Derived.Deep.Upon
set_option linter.unusedVariables false
set_option linter.unusedSimpArgs false
set_option maxHeartbeats 64000000

namespace Go.Proofs.YtkeklikocibiaaaGreatDoor
section
open Go.RowKit _root_.Go.Proofs.Tryz
structure DB (x y cur:List Nat) (i c:Nat):Prop where
 len:cur.length=x.length
 dig:Dig W64 cur
 keep:∀k,i<=k->cur.getD k 0=x.getD k 0
 sum:val W64 (cur.take i)+val W64 (y.take i)=val W64 (x.take i)+c*W64 ^ i
 carry:c<=1
theorem YR {s w c u c' p B vc vy vx:Nat} (h1:s+w+c=u+c'*B) (hs:vc+vy=vx+c*p):vc+s*p+(vy+w*p)=vx+u*p+c'*(p*B):=by
 have h5:s*p+w*p+c*p=u*p+c'*(p*B):=by
  have:=congrArg (· * p) h1;simp only[qv]at this;rw[this,Nat.mul_assoc c' B p,qW B p]
 generalize s*p=A1 at *
 generalize w*p=A2 at *
 generalize c*p=A3 at *
 generalize u*p=A4 at *
 generalize c'*(p*B)=A5 at *
 omega
theorem znS (l:List Nat) (i x:Nat) (h:i<l.length):(l.set i x).getD i 0=x:=by
 rw[qB,List.getElem?_set_self h];rfl
theorem DB.step {x y cur:List Nat} {i c:Nat} (h:DB x y cur i c) (hi:i<x.length) (hy:Dig W64 y):DB x y (cur.set i (subLo (cur.getD i 0) (y.getD i 0) c)) (i+1) (subHi (cur.getD i 0) (y.getD i 0) c):=by
 have bY:i<cur.length:=by rw[h.len];exact hi
 have hx:cur.getD i 0<W64:=by simp only[qB,qA bY,Option.getD_some];exact h.dig.get i bY
 have p8:y.getD i 0<W64:=by
  by_cases hl:i<y.length
  ·simp only[qB,qA hl,Option.getD_some];exact hy.get i hl
  ·simp[Nat.not_lt.1 hl];decide
 obtain⟨h1,h2,h3⟩:=Cr hx p8 h.carry;refine⟨by simp[h.len],h.dig.set _ _ h2,fun k hk=>?_,?_,h3⟩
 ·rw[<-h.keep k (by omega)];simp[qB,List.getElem?_set_ne (show i≠k by omega)]
 ·have e1:val W64 ((cur.set i (subLo (cur.getD i 0) (y.getD i 0) c)).take (i+1))=val W64 (cur.take i)+subLo (cur.getD i 0) (y.getD i 0) c*W64 ^ i:=by
   rw[Cv,List.take_set_of_le (qH _),znS _ _ _ bY]
  have e2:=Cv x i;have e3:=Cv y i;have e4:=h.keep i (qH _);rw[e1,e2,e3,<-e4,qX];exact YR h1 h.sum
theorem zlJ (a b:Nat) (h:a<b) (ha:big a) (hb:big b):PV prog 156 #[aH a,aH b] (.tuple #[aH 0,.bool false]):=by
 refine PV.of_pc ?_;rw[iK (n:=0) (by decide)];refine BD func156 ntmps156 ?_
 repeat (first|refine RUN ?_|refine CV (mg _ _ ha hb) ?_|refine CE (mg _ _ ha hb) ?_)
 rw[show decide (br a b<0)=true by rw[pT h];rfl];refine uR ?_;rfl
theorem zkp (a b:Nat) (h:b<=a) (ha:a<W64):PV prog 156 #[aH a,aH b] (.tuple #[aH (a-b),.bool true]):=by
 have hb:b<W64:=oM;have h1:big a:=qI (cf (k:=64) (by rw[<-fB];exact ha)) oM;have h2:big b:=qI (cf (k:=64) (by rw[<-fB];exact hb)) oM;refine PV.of_pc ?_;rw[iK (n:=a-b) (by omega)];refine BD func156 ntmps156 ?_
 repeat (first|refine RUN ?_|refine CV (mg _ _ h1 h2) ?_|refine CE (mg _ _ h1 h2) ?_)
 rw[show decide (br a b<0)=false by rcases Nat.lt_or_eq_of_le h with h | h;(rw[rJ h];rfl);(subst h;simp[br])];refine uR ?_;rw[Ca ha];refine uR ?_;rw[zS ha,zS hb,show IntKind.u64.wrap ((a:Int)-(b:Int))=((a-b:Nat):Int) by rw[dz];simp only[cH]at *;omega]
theorem znY (a b:Nat) (h:b<=a) (h0:¬a<W64) (ha:big a) (hb:big b):PV prog 156 #[aH a,aH b] (.tuple #[aH (a-b),.bool true]):=by
 refine PV.of_pc ?_;refine BD func156 ntmps156 ?_
 repeat (first|refine RUN ?_|refine CV (mg _ _ ha hb) ?_|refine CE (mg _ _ ha hb) ?_)
 rw[show decide (br a b<0)=false by rcases Nat.lt_or_eq_of_le h with h | h;(rw[rJ h];rfl);(subst h;simp[br])];refine uR ?_;rw[yn h0];refine uR ?_;have kE:=fun G=>Iq a ha G;have kD:=fun G=>Iq b hb G;apply EV.drawn 6 kR kR;intro x y;refine' DJ.val tO Z Z Z Z Z ?_;rotate_left;refine' DJ.callO Z Z Z Z Z (kE gH).can (fun G _ _=>kE G) ?_;rotate_left;refine' DJ.val tO Z Z Z Z Z ?_;rotate_left;refine' DJ.callO Z Z Z Z Z (kD gH).can (fun G _ _=>kD G) ?_;rotate_left;refine' DJ.copy (0+1) (.inr Z) Z Z Z id Z kR ?_;rotate_left;refine' DJ.copy (0+1+1+1) (.inr Z) Z Z Z id Z kR ?_;rotate_left;refine DJ.nil (fun G hG hF=>?_)
 case hS=>rfl
 case hS2=>rfl
 obtain⟨nJ,wQ,_⟩:=hF;change aF _ _ _ _ _ _ at nJ wQ;change EVL _ _ _ _ ((7,.v (x (0+1+1+1)))::(6,.v (x (0+1)))::_) _ _ _;generalize x (0+1+1+1)=vb at *
 generalize x (0+1)=va at *
 generalize y (0+1+1+1)=ob at *
 generalize y (0+1)=oa at *
 obtain⟨ab,cb,rfl⟩:=nJ.val;have la:=pX ha;have Af:=cW cm a;have En:=cW cm b;have da:=(eo cm a).1;have db:=(eo cm b).1;have hlen:(dig W64 b).length<=(dig W64 a).length:=Ec cm h
 have pos:0<(dig W64 a).length:=by
  rcases qz (dig W64 a).length with e | e
  ·have h1:=rO cm e;exact absurd (by rw[h1];decide) h0
  ·exact e
 obtain⟨g,cap,sp,rfl,rfl,h2,h3,h4⟩:=wQ.block pos;generalize dig W64 a=xa at *
 generalize dig W64 b=xb at *
 clear kE kD ha hb wQ;refine EVL.publishL [] ob [(g,45,xa.map n64++sp)] Z nJ fun G1 aj hs=>?_;refine uR ?_
 refine EV.loop (ι:=Nat × Nat × List Nat) (fun q=>[(4,.p 4 0),(6,.v (.slice (some ⟨g,0,none⟩) xa.length cap)),(7,.v (.slice ab xb.length cb)),(8,.v (n64 q.2.1)),(30,.v (.int .i64 (xa.length:Int))),(31,.v (.int .i64 (q.1:Int)))]) (fun _=>[(4,47,aa47.zero)]) (fun q=>[(g,45,q.2.2.map n64++sp)])
  (fun q G=>q.1<=xa.length/\DB xa xb q.2.2 q.1 q.2.1/\SlN n64 G (.slice ab xb.length cb) xb) (fun q=>xa.length-q.1) (0,0,xa) ⟨Z,Z,Z,Z,Z,Z,trivial⟩ ⟨Z,trivial⟩ rfl (fun _=>rfl) ⟨qQ _,⟨rfl,da,fun _ _=>rfl,by simp[val],qQ _⟩,hs⟩ ?_
 rintro⟨i,c,cur⟩ G2 ai ⟨hi,hinv,cr⟩;dsimp only at hi hinv;refine uR ?_;by_cases af:i<xa.length
 ·rw[show decide ((i:Int)<(xa.length:Int))=true by simpa using af];refine uR ?_;refine EV.meet (fun aA aw H'=>fq aA [(4,.p 4 0),(6,.v (.slice (some ⟨g,0,none⟩) xa.length cap)),(7,.v (.slice ab xb.length cb)),(8,.v (n64 c)),(30,.v (.int .i64 (xa.length:Int))),(31,.v (.int .i64 (i:Int))),(9,.v (.int .i64 (i:Int))),(10,.v (n64 (xb.getD i 0)))]/\fx aw [(4,47,aa47.zero)]/\H'.ow=[(g,45,cur.map n64++sp)]/\G2.Le H'.ro) ?_ ?_
  ·rintro aA aw ⟨G3,rR,tJ⟩ iE ⟨he,dt,h1,hle⟩;obtain rfl:tJ=⟨fun _=>none,[]⟩:=iE;refine EV.less _ _ he dt Z ?_;have uW:rR=[(g,45,cur.map n64++sp)]:=h1;subst uW;have bY:i<cur.length:=by rw[hinv.len];exact af
   have oY:(cur.map n64++sp)[i]?=some (n64 (cur.getD i 0)):=by
    rw[qM (by simpa using bY)];simp[bY]
   refine uR ?_;refine EVL.ofVal (az.idxP1 tO Z Z Z Z Z Z Z Z i Z af) Z Z Z fun G4 aT=>?_;refine EVL.load1 tO Z Z Z Z Z Z Z Z 0 Z oY ?_;refine uR ?_;refine EVL.ext Z Z Z Z Z (fun W=>LI (cur.getD i 0) (xb.getD i 0) c W hinv.carry) ?_;refine uR ?_;refine EVL.ofVal (az.idxP1 tO Z Z Z Z Z Z Z Z i Z af) Z Z Z fun G5 bj=>?_;refine EVL.set1 tO Z Z Z Z Z Z Z Z Z Z (by simp;omega) ?_;refine uR ?_;refine⟨(i+1,subHi (cur.getD i 0) (xb.getD i 0) c,cur.set i (subLo (cur.getD i 0) (xb.getD i 0) c)),⟨rfl,rfl,rfl,rfl,rfl,?_,trivial⟩,⟨Z,trivial⟩,?_,⟨by dsimp only;omega,hinv.step af db,cr.mono (hle.trans (aT.trans bj))⟩,hle.trans (aT.trans bj),by dsimp only;omega⟩
   ·have e:IntKind.i64.wrap ((i:Int)+1)=((i+1:Nat):Int):=by rw[pL];omega
    rw[e];rfl
   ·dsimp only;rw[List.set_append_left _ _ (by simpa using bY),List.map_set]
  ·by_cases nO:i<xb.length
   ·rw[show decide ((i:Int)<(xb.length:Int))=true by simpa using nO];have xk:(xb.map n64)[i]?=some (n64 (xb.getD i 0)):=by simp[nO]
    refine uR ?_;refine EVL.ofVal (az.idx1 tO Z Z Z Z Z Z Z Z cr i Z nO xk) Z Z Z fun G4 aT=>?_;refine uR ?_;exact⟨⟨Z,Z,Z,Z,Z,Z,Z,Z,trivial⟩,⟨Z,trivial⟩,rfl,aT⟩
   ·rw[show decide ((i:Int)<(xb.length:Int))=false by simpa using nO];refine uR ?_;refine⟨⟨rfl,rfl,rfl,rfl,rfl,rfl,rfl,?_,trivial⟩,⟨Z,trivial⟩,rfl,Hp.Le.refl _⟩;rw[show xb.getD i 0=0 by simp[Nat.not_lt.1 nO]];rfl
 ·rw[show decide ((i:Int)<(xa.length:Int))=false by simpa using af];obtain rfl:i=xa.length:=oM;have cj:=hinv.len;have bn:=hinv.sum;rw[qO oM,qO oM,qO oM,Af,En]at bn
  have ah:aF 45 1 (.slice (some ⟨g,0,none⟩) xa.length cap) xa.length (cur.map n64) [(g,45,cur.map n64++sp)] :=
   ⟨by simp[cj],.inr ⟨g,cap,sp,rfl,rfl,by rw[<-h2];simp[cj],h3,h4⟩⟩
  have hcv:=cZ hinv.dig;rw[cj]at hcv
  have fa:c=0:=by
   rcases qz c with e | e
   ·exact e
   ·have:W64 ^ xa.length*1<=W64 ^ xa.length*c:=qb _ e;rw[qW c]at bn;omega
  rw[fa]at bn;refine EV.publishL [] [(g,45,cur.map n64++sp)] [] Z ah fun G' mo fZ=>?_;have hl:SlN n64 G' (.slice (some ⟨g,0,none⟩) xa.length cap) cur:=by unfold SlN;rw[cj];exact fZ
  have hf:=uq hl hinv.dig oM;rw[show val W64 cur=a-b by omega]at hf;refine uR ?_;refine EVL.call Z Z Z Z Z hf ?_;rintro v' H' rfl hle;refine uR ?_;rfl
theorem IQ (a b:Nat) (ha:big a) (hb:big b):PV prog 156 #[aH a,aH b] (.tuple #[aH (a-b),.bool (decide (b<=a))]):=by
 by_cases h:b<=a
 ·rw[qD h];by_cases h0:a<W64
  ·exact zkp a b h h0
  ·exact znY a b h h0 ha hb
 ·rw[qC h,show a-b=0 by omega];exact zlJ a b oM ha hb
theorem Cx (n:Nat):((bl n:Int) == 0)=decide (n=0):=by
 by_cases h:n=0
 ·subst h;rw[lX];rfl
 ·have:bl n≠0:=fun e=>h (UH.1 e);simp[h];omega
theorem SY (w w1:World) (o1 o2 o3 o4:Obj) (n:Nat) (hn:n=w.heap.size) (hb:Below ((((w.alloc o1).alloc o2).alloc o3).alloc o4).heap.size ((((w.alloc o1).alloc o2).alloc o3).alloc o4) w1) :
  w1.heap[n]?=some o1/\w1.heap[n+1]?=some o2/\w1.heap[n+1+1]?=some o3/\w1.heap[n+1+1+1]?=some o4/\n+4<=w1.heap.size:=by
 subst hn;have hs:=hb.size;simp at hs;have a2:((w.alloc o1).alloc o2).heap[w.heap.size+1]?=some o2:=by have:=heap_alloc_new (w.alloc o1) o2;simpa using this
 have a3:(((w.alloc o1).alloc o2).alloc o3).heap[w.heap.size+1+1]?=some o3:=by have:=heap_alloc_new ((w.alloc o1).alloc o2) o3;simpa using this
 have a4:((((w.alloc o1).alloc o2).alloc o3).alloc o4).heap[w.heap.size+1+1+1]?=some o4:=by have:=heap_alloc_new (((w.alloc o1).alloc o2).alloc o3) o4;simpa using this
 refine⟨?_,?_,?_,?_,by omega⟩
 ·rw[hb.block _ (by simp <;> omega),Below.heap_alloc _ _ _ (by simp <;> omega),Below.heap_alloc _ _ _ (by simp <;> omega),Below.heap_alloc _ _ _ (by simp)];exact heap_alloc_new w o1
 ·rw[hb.block _ (by simp <;> omega),Below.heap_alloc _ _ _ (by simp <;> omega),Below.heap_alloc _ _ _ (by simp)];exact a2
 ·rw[hb.block _ (by simp <;> omega),Below.heap_alloc _ _ _ (by simp)];exact a3
 ·rw[hb.block _ (by simp)];exact a4
theorem ff {W:World} {b:Nat} {cs:Array Value} {T:TypeId} (h:W.heap[b]?=some (.cells cs T (0,0))) (j:Nat):W.cell? ⟨b,j,none⟩=cs[j]?:=by
 rw[cell_of_row W b j cs T (0,0) h]
theorem pU {W:World} {b:Nat} {cs:Array Value} {T:TypeId} (h:W.heap[b]?=some (.cells cs T (0,0))) (j:Nat):W.frozen? ⟨b,j,none⟩=false:=by
 simp[World.frozen?,h]
theorem Ii {W:World} {b:Nat} {x y x' y':Value} {T:TypeId} (h:W.heap[b]?=some (.cells #[x,y] T (0,0))):((W.setCell ⟨b,0,none⟩ x').setCell ⟨b,1,none⟩ y').heap[b]?=some (.cells #[x',y'] T (0,0)):=by
 simp[World.setCell,Array.getElem?_modify,h]
theorem zqF {W:World} {b c:Nat} {x' y':Value} (hne:b≠c):((W.setCell ⟨b,0,none⟩ x').setCell ⟨b,1,none⟩ y').heap[c]?=W.heap[c]?:=by
 simp[World.setCell,Array.getElem?_modify,hne]
theorem Is (W:World) (b:Nat) (x' y':Value):bK (fun k=>k=b) W ((W.setCell ⟨b,0,none⟩ x').setCell ⟨b,1,none⟩ y') :=
 ⟨rfl,rfl,rfl,by simp[World.setCell],fun k _ hk=>zqF (fun e=>hk e.symm)⟩
set_option maxRecDepth 100000 in
theorem div_one (a b:Nat) (w:World) (h:b≠0) (ha:a<W64) (hb:b<W64) :
  Calls prog 128 #[aH a,aH b] w fun e w'=>e=.returned (.tuple #[aH (a / b),aH (a % b),.bool true])/\Below w.heap.size w w':=by
 have h2:big b:=qI (cf (k:=64) (by rw[<-fB];exact hb)) oM;have q1:a / b<W64:=Nat.lt_of_le_of_lt (Nat.div_le_self a b) ha;have q2:a % b<W64:=Nat.lt_of_le_of_lt (Nat.mod_le a b) ha;have hz:(b:Int)≠0:=oM;have cV:=fun w=>Lz b w h2;rw[iK hb]at cV;rw[iK ha,iK hb,iK q1,iK q2];have e1:((bl b:Int) == 0)=false:=by rw[Cx,qC h]
 have HB:=hid cV;clear cV h2
 go_enter func128,ntmps128
 go_wp2_with fail;refine(HB.out _).mono ?_;rintro e w1 ⟨rfl,cG⟩;obtain⟨n,hn⟩:∃n,n=w.heap.size:=⟨_,rfl⟩;obtain⟨r1,r2,r3,r4,hs⟩:=SY w w1 _ _ _ _ n hn cG;have iQ:Below w.heap.size w w1:=((((((Below.refl _ w).alloc (qH _) _).alloc (by simp) _).alloc (by simp;omega) _).alloc (by simp;omega) _)).trans (cG.mono (by simp;omega));rw[<-hn];have HB1:=hid (And.intro cG (And.intro hn iQ));clear cG hn iQ;have rB:=ff r1 0;have pj:=ff r1 1;have BE:=ff r2 0;have Dh:=ff r2 1;have Dg:=ff r3 0;have BC:=ff r3 1;have Df:=ff r4 0;have De:=ff r4 1;have f30:=pU r3 0;have f31:=pU r3 1;have f40:=pU r4 0;have f41:=pU r4 1;simp only[List.getElem?_toArray,List.getElem?_cons_zero,pM]at rB pj BE Dh Dg BC Df De;have R:=hid (And.intro r1 (And.intro r2 (And.intro r3 r4)));clear r1 r2 r3 r4
 go_wp2_with fail
 go_region;go_wp2
 have e2:IntKind.u64.wrap ((a:Int) / (b:Int))=((a / b:Nat):Int):=by
  rw[show ((a:Int) / (b:Int))=((a / b:Nat):Int) by simp,dz];simp only[cH]at q1;generalize a / b=q at *
  omega
 have e3:((a:Int) % (b:Int))=((a % b:Nat):Int):=by simp
 rw[e2,e3];obtain⟨r1,r2,r3,r4⟩:=R.out;obtain⟨cG,hn,iQ⟩:=HB1.out;have k3:=Is w1 (n+1+1) (.int .u64 ((a / b:Nat):Int)) (.string ⟨#[]⟩);have s3:=Ii (x':=.int .u64 ((a / b:Nat):Int)) (y':=.string ⟨#[]⟩) r3;have s4:=(k3.block _ (lt_of_block r4) oM).trans r4;generalize ((w1.setCell ⟨n+1+1,0,none⟩ (.int .u64 ((a / b:Nat):Int))).setCell ⟨n+1+1,1,none⟩ (.string ⟨#[]⟩))=w2 at *
 have k4:=Is w2 (n+1+1+1) (.int .u64 ((a % b:Nat):Int)) (.string ⟨#[]⟩);have s5:=Ii (x':=.int .u64 ((a % b:Nat):Int)) (y':=.string ⟨#[]⟩) s4;have s6:=(k4.block _ (lt_of_block s3) oM).trans s3;generalize ((w2.setCell ⟨n+1+1+1,0,none⟩ (.int .u64 ((a % b:Nat):Int))).setCell ⟨n+1+1+1,1,none⟩ (.string ⟨#[]⟩))=w3 at *
 have t30:=ff s6 0;have t31:=ff s6 1;have t40:=ff s5 0;have t41:=ff s5 1;simp only[List.getElem?_toArray,List.getElem?_cons_zero,pM]at t30 t31 t40 t41;refine bodyPost_ret (v:=.tuple #[.agg #[.int .u64 ((a / b:Nat):Int),.string ⟨#[]⟩],.agg #[.int .u64 ((a % b:Nat):Int),.string ⟨#[]⟩],.bool true]) (by simp[results,Tryz.results128,go_sem,t30,t31,t40,t41]) rfl ⟨rfl,?_⟩
 have ei:Below w.heap.size w w3:=by
  refine iQ.trans ((k3.below _ iQ.size fun j hj e=>by omega).trans (k4.below _ ?_ fun j hj e=>by omega));have:=k3.size;have:=iQ.size;omega
 exact⟨ei.os,ei.tape,ei.output,ei.size,ei.block⟩
theorem U4 (n:Nat):(aU n).toList.isEmpty=decide (n<W64):=by
 by_cases h:n<W64
 ·rw[Cz h,qD h];simp
 ·rw[D1 h,qC h]
set_option maxRecDepth 100000 in
theorem Z4 (a b:Nat) (w:World) (h:a<b) (hs:¬(a<W64/\b<W64)) (ha:big a) (h2:big b) :
  Calls prog 128 #[aH a,aH b] w fun e w'=>e=.returned (.tuple #[aH 0,aH a,.bool true])/\Below w.heap.size w w':=by
 have cV:=fun w=>Lz b w h2;have aS:=fun w=>Sc a b w ha h2;rw[pT h]at aS;have e1:((bl b:Int) == 0)=false:=by rw[Cx,qC (by omega)]
 have hm:((aU a).toList.isEmpty=true/\(aU b).toList.isEmpty=false)\/(aU a).toList.isEmpty=false:=by
  rw[U4,U4];by_cases h1:a<W64
  ·exact .inl ⟨qD h1,qC fun h2=>hs ⟨h1,h2⟩⟩
  ·exact .inr (qC h1)
 rw[iK (show 0<W64 by decide)];unfold aH at *
 generalize lo a=la at *
 generalize lo b=lb at *
 generalize aU a=ma at *
 generalize aU b=mb at *
 have HB:=hid (And.intro cV aS);clear cV aS h2 ha
 go_enter func128,ntmps128
 go_wp2_with fail;refine(HB.out.1 _).mono ?_;rintro e w1 ⟨rfl,cG⟩;obtain⟨n,hn⟩:∃n,n=w.heap.size:=⟨_,rfl⟩;obtain⟨r1,r2,r3,r4,hs⟩:=SY w w1 _ _ _ _ n hn cG;have iQ:Below w.heap.size w w1:=((((((Below.refl _ w).alloc (qH _) _).alloc (by simp) _).alloc (by simp;omega) _).alloc (by simp;omega) _)).trans (cG.mono (by simp;omega));rw[<-hn];have HB1:=hid (And.intro cG (And.intro hn iQ));clear cG hn iQ;have rB:=ff r1 0;have pj:=ff r1 1;have BE:=ff r2 0;have Dh:=ff r2 1;have Dg:=ff r3 0;have BC:=ff r3 1;have Df:=ff r4 0;have De:=ff r4 1;have f30:=pU r3 0;have f31:=pU r3 1;have f40:=pU r4 0;have f41:=pU r4 1;simp only[List.getElem?_toArray,List.getElem?_cons_zero,pM]at rB pj BE Dh Dg BC Df De;have R:=hid (And.intro r1 (And.intro r2 (And.intro r3 r4)));clear r1 r2 r3 r4;clear hs;rcases hm with ⟨m1,m2⟩ | m1
 all_goals
  go_wp2_with fail;refine(HB.out.2 _).mono ?_;rintro e w2 ⟨rfl,cP⟩;clear rB pj BE Dh Dg BC Df De f30 f31 f40 f41;obtain⟨r1,r2,r3,r4⟩:=R.out;obtain⟨cG,hn,iQ⟩:=HB1.out;have r1:=(cP.block _ (lt_of_block r1)).trans r1;have r2:=(cP.block _ (lt_of_block r2)).trans r2;have r3:=(cP.block _ (lt_of_block r3)).trans r3;have r4:=(cP.block _ (lt_of_block r4)).trans r4;have iQ:=iQ.trans (cP.mono iQ.size);have HB2:=hid (And.intro hn iQ);clear R HB1 cG hn iQ cP;have rB:=ff r1 0;have pj:=ff r1 1;have BE:=ff r2 0;have Dh:=ff r2 1;have Dg:=ff r3 0;have BC:=ff r3 1;have Df:=ff r4 0;have De:=ff r4 1;have f30:=pU r3 0;have f31:=pU r3 1;have f40:=pU r4 0;have f41:=pU r4 1;simp only[List.getElem?_toArray,List.getElem?_cons_zero,pM]at rB pj BE Dh Dg BC Df De;have R:=hid (And.intro r1 (And.intro r2 (And.intro r3 r4)));clear r1 r2 r3 r4
  go_wp2_with fail
  go_region;go_wp2;obtain⟨r1,r2,r3,r4⟩:=R.out;obtain⟨hn,iQ⟩:=HB2.out;have k3:=Is w2 (n+1+1) (.int .u64 0) (.string ⟨#[]⟩);have s3:=Ii (x':=.int .u64 0) (y':=.string ⟨#[]⟩) r3;have s4:=(k3.block _ (lt_of_block r4) oM).trans r4;generalize ((w2.setCell ⟨n+1+1,0,none⟩ (.int .u64 0)).setCell ⟨n+1+1,1,none⟩ (.string ⟨#[]⟩))=w3 at *
  have k4:=Is w3 (n+1+1+1) (.int .u64 (la:Int)) (.string ma);have s5:=Ii (x':=.int .u64 (la:Int)) (y':=.string ma) s4;have s6:=(k4.block _ (lt_of_block s3) oM).trans s3;generalize ((w3.setCell ⟨n+1+1+1,0,none⟩ (.int .u64 (la:Int))).setCell ⟨n+1+1+1,1,none⟩ (.string ma))=w4 at *
  have t30:=ff s6 0;have t31:=ff s6 1;have t40:=ff s5 0;have t41:=ff s5 1;simp only[List.getElem?_toArray,List.getElem?_cons_zero,pM]at t30 t31 t40 t41;refine bodyPost_ret (v:=.tuple #[.agg #[.int .u64 0,.string ⟨#[]⟩],.agg #[.int .u64 (la:Int),.string ma],.bool true]) (by simp[results,Tryz.results128,go_sem,t30,t31,t40,t41]) rfl ⟨rfl,?_⟩
  have ei:Below w.heap.size w w4:=by
   refine iQ.trans ((k3.below _ iQ.size fun j hj e=>by omega).trans (k4.below _ ?_ fun j hj e=>by omega));have:=k3.size;have:=iQ.size;omega
  exact⟨ei.os,ei.tape,ei.output,ei.size,ei.block⟩
theorem Yx {α:Type} {enc:α->Value} {H:Hp} {W W':World} (hf:Fits H W) (hb:Below W.heap.size W W') {g h:Nat} (hg:W.heap.size<=g) (Wt:g<h) {l m:List α} (hB:Blk enc W' g l) (hC:Blk enc W' h m) :
  ∃H':Hp,H.Le H'/\Fits H' W'/\Nw H W.heap.size H' W'/\SlN enc H' (.slice (some ⟨g,0,none⟩) l.length l.length) l/\SlN enc H' (.slice (some ⟨h,0,none⟩) m.length m.length) m:=by
 have hn:∀k,W.heap.size<=k->H k=none:=fun k hk=>by
  cases hc:H k with
  | none=>rfl
  | some c=>have:=hf.lt (b:=k) (by rw[hc];simp);omega
 obtain⟨T,hT⟩:=hB;obtain⟨U,hU⟩:=hC;refine⟨(H.put g (cellsOf enc l)).put h (cellsOf enc m),fun b c e=>?_,fun b c e=>?_,fun b c e=>?_,⟨by simp,.inr ⟨g,0,l.length,cellsOf enc l,rfl,qH _,?_,fun j x hj=>by simpa[cellsOf] using hj⟩⟩,⟨by simp,.inr ⟨h,0,m.length,cellsOf enc m,rfl,qH _,?_,fun j x hj=>by simpa[cellsOf] using hj⟩⟩⟩
 ·have h1:b≠g:=fun e'=>by subst e';rw[hn _ hg]at e;cases e
  have h2:b≠h:=fun e'=>by subst e';rw[hn _ (by omega)]at e;cases e
  simp only[Hp.put,if_neg h1,if_neg h2];exact e
 ·simp only[Hp.put]at e;split at e
  ·rename_i e';subst e';cases e;exact⟨U,(0,0),hU⟩
  ·split at e
   ·rename_i e';subst e';cases e;exact⟨T,(0,0),hT⟩
   ·exact hf.below hb b c e
 ·simp only[Hp.put]at e;split at e
  ·rename_i e';subst e';cases e;exact .inr ⟨by omega,U,hU⟩
  ·split at e
   ·rename_i e';subst e';cases e;exact .inr ⟨hg,T,hT⟩
   ·exact .inl e
 ·simp only[Hp.put,if_neg (show g≠h by omega),if_true]
 ·simp only[Hp.put,if_true]
theorem YT {H:Hp} {g cap:Nat} {q:List Nat} (h:H g=some (q.map n64).toArray) (k:Nat) (hk:k<=q.length) (hc:k<=cap):SlN n64 H (.slice (some ⟨g,0,none⟩) k cap) (q.take k):=by
 have e:(q.take k).length=k:=by simp;omega
 unfold SlN;rw[e];refine⟨by simp;omega,.inr ⟨g,0,cap,_,rfl,hc,h,fun j x hj=>?_⟩⟩;rw[qK,pO]at hj;split at hj
 ·simpa using hj
 ·cases hj
theorem zoD (n:Nat) (h:n≠0) (hn:big n) (H:Hp):PO prog 134 #[aH n] H fun v ow=>∃g,v=.slice (some ⟨g,0,none⟩) (dig W64 n).length (dig W64 n).length/\ow=[(g,45,(dig W64 n).map n64)]:=by
 refine⟨(cO func134),fun W hW _=>(LU n W h hn).mono fun e W' ⟨g,hg,he,hB,hb⟩=>?_⟩;refine⟨_,[(g,45,(dig W64 n).map n64)],he,⟨g,rfl,rfl⟩,⟨by simp,fun b T cs hm=>?_⟩,hb⟩;simp at hm;obtain⟨rfl,rfl,rfl⟩:=hm;exact⟨hg,hB⟩
theorem znJ (B cap d:Nat) (l:List Nat) (H:Hp) (hD:Dig W64 l) (hl:l.length<=100000000) (bZ:l.length<=cap) (uP:0<d) (hd:d<W64) :
  PM prog 164 #[.slice (some ⟨B,0,none⟩) l.length cap,n64 d] H B (l.map n64) fun v cs=>∃q,v=.tuple #[.slice (some ⟨B,0,none⟩) (cg q).length cap,n64 (val W64 l % d)]/\cs=q.map n64/\q.length=l.length/\Dig W64 q/\val W64 q=val W64 l / d :=
 ⟨(cO func164),fun W T _ _ hB=>(zlw T B cap d l W hB hD hl bZ uP hd).mono fun e W' ⟨q,he,hq,h1,h2,h3,hk⟩=>⟨_,_,he,⟨q,rfl,rfl,h1,h2,h3⟩,hq,hk⟩⟩
theorem zlx {u v:Value} {x y:List Nat} {H:Hp} (hu:SlN n64 H u x) (hv:SlN n64 H v y) (uU:Dig W64 x) (zm:eM W64 y) (hx:x.length<=100000000) (iM:2<=y.length) (jX:y.length<=x.length) :
  PC prog 165 #[u,v] H fun r H'=>∃a b q m,r=.tuple #[a,b]/\SlN n64 H' a q/\SlN n64 H' b m/\Dig W64 q/\Dig W64 m/\q.length<=x.length/\m.length<=x.length/\val W64 q=val W64 x / val W64 y/\val W64 m=val W64 x % val W64 y:=by
 refine⟨(cO func165),fun W hW _=>?_⟩;obtain⟨a,cap,rfl,hS,_⟩:=hu.sl hW;obtain⟨a',bz,rfl,P0,_⟩:=hv.sl hW;refine(zj3 a a' cap bz x y W hS P0 uU zm hx iM jX).mono ?_;rintro e W' ⟨q,r,g,h,he,xI,Ql,Qi,hDr,fF,ft,Jt,hvr,hb,hg,Wt⟩;obtain⟨H',h1,h2,h3,h4,h5⟩:=Yx hW hb hg Wt xI Ql;exact⟨_,H',he,⟨_,_,q,r,rfl,h4,h5,Qi,hDr,fF,ft,Jt,hvr⟩,h1,h2,hb,h3⟩
theorem zkm (a b:Nat) (h:b≠0) (ha:a<W64) (hb:b<W64):PV prog 128 #[aH a,aH b] (.tuple #[aH (a / b),aH (a % b),.bool true]) :=
 ⟨(cO func128),fun W _=>div_one a b W h ha hb⟩
theorem zlF (a b:Nat) (h:a<b) (hs:¬(a<W64/\b<W64)) (ha:big a) (hb:big b):PV prog 128 #[aH a,aH b] (.tuple #[aH (a / b),aH (a % b),.bool true]):=by
 rw[Nat.div_eq_of_lt h,qT h];exact⟨(cO func128),fun W _=>Z4 a b W h hs ha hb⟩
theorem zlG (a b:Nat) (h:b≠0) (h1:¬a<W64) (h2:b<W64) (ha:big a):PV prog 128 #[aH a,aH b] (.tuple #[aH (a / b),aH (a % b),.bool true]):=by
 have hb:big b:=qI (cf (k:=64) (by rw[<-fB];exact h2)) oM;have q2:a % b<W64:=Nat.lt_trans (qm _ oM) h2;have hge:decide (br a b<0)=false:=by rw[rJ (by omega)];rfl
 have la:=pX ha;have Af:=cW cm a;have da:=(eo cm a).1;have kE:=fun G=>zoD a (by have:=cm;omega) ha G;refine PV.of_pc ?_;rw[iK q2];refine BD func128 ntmps128 ?_
 repeat (first|refine RUN ?_|refine CV (jP b hb) ?_|refine CE (jP b hb) ?_)
 rw[Cx,qC h];refine uR ?_;rw[yn h1]
 repeat (first|refine RUN ?_|refine CV (mg _ _ ha hb) ?_|refine CE (mg _ _ ha hb) ?_)
 rw[hge];refine uR ?_;rw[Ca h2];refine uR ?_;refine EVD.start kR ?_;apply EVD.head0 4 kR;intro x y;(repeat refine' DD ?_);refine' DJ.callO Z Z Z Z Z (kE gH).can (fun G _ _=>kE G) ?_;rotate_left;(repeat refine' DD ?_);(refine DJ.nil (fun G hG hF=>?_);(case hS|hS2=>rfl));obtain⟨⟨g,hv,how⟩,_⟩:=hF;rw[hv,how];rw[zS h2];refine EVL.nil ⟨rfl,?_⟩;refine EVD.one kR Z ?_;have jf:=znJ g (dig W64 a).length b (dig W64 a) G da oM (qH _) oM h2;rw[Af]at jf;refine EVL.callM Z Z Z Z Z [] [] Z jf ?_;rintro v cs ⟨q,rfl,rfl,fF,Fl,nH⟩;refine EVL.nil ⟨rfl,?_⟩;refine EVD.one kR Z ?_;refine uR ?_;refine⟨rfl,?_⟩;refine EVD.shift 6 kR (by decide) ?_;apply EVD.drawn 3 kR;intro x y;(repeat refine' DD ?_);(refine DJ.nil (fun G hG hF=>?_);(case hS|hS2=>rfl));refine uR ?_;refine EVL.publish [] [] Z fun G2 du ai=>?_;have bA:=YT (cap:=(dig W64 a).length) ai (cg q).length (Cw q) (by rw[<-fF];exact Cw q);rw[IZ]at bA;have f1:=uq bA (Ei Fl).1 (by have:=Cw q;omega);rw[Cq,nH]at f1;refine EVL.call Z Z Z Z Z f1 ?_;rintro v' H1 rfl hle;refine uR ?_;rfl
theorem zkn (a b:Nat) (cQ:b<=a) (h2:¬b<W64) (ha:big a) (hb:big b):PV prog 128 #[aH a,aH b] (.tuple #[aH (a / b),aH (a % b),.bool true]):=by
 have jq:b≠0:=by have:=cm;omega
 have h1:¬a<W64:=oM
 have hge:decide (br a b<0)=false:=by
  rcases Nat.lt_or_eq_of_le cQ with h | h
  ·rw[rJ h];rfl
  ·subst h;simp[br]
 have la:=pX ha;have lb:=pX hb
 have df:2<=(dig W64 b).length:=by
  rw[L0 b jq];have:hiW b≠[]:=fun e=>h2 (Cb.1 e);have:=List.length_pos_iff.2 this;simp;omega
 have O2:(dig W64 b).length<=(dig W64 a).length:=Ec cm cQ;have kE:=fun G=>Cd a ha G;have kD:=fun G=>Cd b hb G;refine PV.of_pc ?_;refine BD func128 ntmps128 ?_
 repeat (first|refine RUN ?_|refine CV (jP b hb) ?_|refine CE (jP b hb) ?_)
 rw[Cx,qC jq];refine uR ?_;rw[yn h1]
 repeat (first|refine RUN ?_|refine CV (mg _ _ ha hb) ?_|refine CE (mg _ _ ha hb) ?_)
 rw[hge];refine uR ?_;rw[yn h2];refine uR ?_;apply EV.drawn 9 kR kR;intro xv yw;(repeat refine' DD ?_);refine' vB (kE gH).can (fun G _ _=>kE G) (fun v G G' h k=>h.mono k) ?_;rotate_left;(repeat refine' DD ?_);refine' vB (kD gH).can (fun G _ _=>kD G) (fun v G G' h k=>h.mono k) ?_;rotate_left;refine' vB (cO func165) (fun G _ hd=>zlx (hd.tail.head kR) (hd.head kR) (eo cm a).1 (eo cm b) oM df O2) (fun v G G' ⟨u,w,q,m,e,h1,h2,r⟩ k=>⟨u,w,q,m,e,h1.mono k,h2.mono k,r⟩) ?_;rotate_left;refine' DJ.copy (0+1+1+1+1) (.inl Z) Z Z Z id Z kR ?_;rotate_left;refine' DJ.extract (0+1+1+1+1) (k:=0) Z Z Z Z Z kR (fun G hd=>?e1) ?_
 case e1=>obtain⟨u,w,q,m,e,_⟩:=hd.head kR;exact⟨_,e,by simp⟩
 rotate_left;refine' DJ.extract (0+1+1+1+1) (k:=1) Z Z Z Z Z kR (fun G hd=>?e2) ?_
 case e2=>obtain⟨u,w,q,m,e,_⟩:=hd.head kR;exact⟨_,e,by simp⟩
 rotate_left;refine' DJ.copy (0+1+1+1+1) (.inr Z) Z Z Z (js 0) Z kR ?_;rotate_left;(refine DJ.nil (fun G hG hF=>?_);(case hS|hS2=>rfl));obtain⟨⟨u,w,q,m,e,hq,hm,Qi,hDm,Wi,sN,Jt,VI⟩,_⟩:=hF;rw[e];rw[cW cm,cW cm]at Jt VI;have f1:=fun G=>uq (H:=G) (v:=u) (l:=q);have f2:=fun G=>uq (H:=G) (v:=w) (l:=m);rw[Jt]at f1;rw[VI]at f2;refine uR ?_;refine EVL.call Z Z Z Z Z (f1 _ hq Qi oM) ?_;rintro v' H1 rfl hle;refine uR ?_;refine EVL.call Z Z Z Z Z (f2 _ (hm.mono hle) hDm oM) ?_;rintro v' H2 rfl du;refine uR ?_;rfl
theorem IU (a b:Nat) (h:b≠0) (ha:big a) (hb:big b):PV prog 128 #[aH a,aH b] (.tuple #[aH (a / b),aH (a % b),.bool true]):=by
 by_cases hs:a<W64/\b<W64
 ·exact zkm a b h hs.1 hs.2
 ·rcases Nat.lt_or_ge a b with hl | hge
  ·exact zlF a b hl hs ha hb
  ·by_cases h2:b<W64
   ·exact zlG a b h (fun h1=>hs ⟨h1,h2⟩) h2 ha
   ·exact zkn a b hge h2 ha hb
theorem zlI (a k:Nat) (hk:k<=65536) (ha:big a):PV prog 172 #[aH a,.int .i64 (k:Int)] (aH (a*2 ^ k)):=by
 have la:=pX ha;have hs:=fun v H h=>zot (v:=v) (l:=dig W64 a) (H:=H) h (eo cm a).1 oM k oM;rw[cW cm]at hs;refine PV.of_pc ?_;refine BD func172 ntmps172 ?_;refine uR ?_;rw[show (if (if (65536:Int)<k then 65536 else (k:Int)) > -65536 then (if (65536:Int)<k then 65536 else (k:Int)) else -65536)=(k:Int) by (repeat split) <;> omega];refine uR ?_;rw[show decide ((k:Int)<0)=false by simp];refine uR ?_;refine vA (Cd a ha _) ?_;rintro v H1 hv hle;refine uR ?_;refine vA (hs _ _ hv) ?_;rintro v2 H2 ⟨out,h1,h2,h3,h4⟩ du;refine uR ?_;have hf:=uq h1 h3 oM;rw[h4]at hf;refine EVL.call Z Z Z Z Z hf ?_;rintro v3 H3 rfl wZ;refine uR ?_;rfl
end
section
def pk (K B:Nat) (l:List Nat) (m:Nat):List Nat:=(List.range m).map fun j=>val B ((l.drop (K*j)).take K)
theorem jv (K B:Nat) (l:List Nat) (m:Nat):(pk K B l m).length=m:=by simp[pk]
theorem Hx (K B m:Nat):pk K B [] m=List.replicate m 0:=by
 apply List.ext_getElem?;intro i;rw[pk,qK,List.getElem?_replicate];by_cases h:i<m
 ·rw[List.getElem?_range h,if_pos h];simp[val]
 ·rw[if_neg h,qe (by simp;omega)];rfl
theorem Ib (K B:Nat) (l:List Nat) (m j:Nat) (h:j<m):(pk K B l m).getD j 0=val B ((l.drop (K*j)).take K):=by
 rw[qB,pk,qK,List.getElem?_range h];rfl
theorem BU {K B:Nat} {l:List Nat} (hB:0<B) (hD:Dig B l) (m:Nat):Dig (B ^ K) (pk K B l m):=by
 intro x hx;rw[pk,List.mem_map]at hx;obtain⟨j,_,rfl⟩:=hx;refine Nat.lt_of_lt_of_le (cZ ((hD.drop _).take _)) (qc hB ?_);rw[qP];omega
theorem Q2 {K B:Nat} {l:List Nat} (hK:0<K) (hD:Dig B l) (m:Nat) (h:l.length<K*m):(pk K B l m).getD (l.length / K) 0<B ^ (l.length % K):=by
 rw[Ib _ _ _ _ _ (Nat.div_lt_of_lt_mul h)];have h1:=cZ ((hD.drop (K*(l.length / K))).take K);have h2:=qj l.length K;have h3:=qm l.length hK
 rwa [qP,qt,Nat.min_eq_right oM,show l.length-K*(l.length / K)=l.length % K by omega]at h1
theorem KT {K B:Nat} {l:List Nat} (hK:0<K) (m x:Nat) (h:l.length<K*m) :
  pk K B (l++[x]) m=(pk K B l m).set (l.length / K) ((pk K B l m).getD (l.length / K) 0+x*B ^ (l.length % K)):=by
 have hq:l.length / K<m:=Nat.div_lt_of_lt_mul h;have h2:=qj l.length K;have h3:=qm l.length hK;apply List.ext_getElem?;intro i;by_cases hi:i<m
 ·have e1:(pk K B (l++[x]) m)[i]?=some (val B (((l++[x]).drop (K*i)).take K)):=by rw[pk,qK,List.getElem?_range hi];rfl
  rw[e1];by_cases e:l.length / K=i
  ·subst e;rw[List.getElem?_set_self (by rw[jv];exact hi),Ib _ _ _ _ _ hq];congr 1;rw[List.drop_append_of_le_length oM,qO (by rw[qJ,qt,qw];omega),qO (by rw[qt];omega),vP,qt,show l.length-K*(l.length / K)=l.length % K by omega]
  ·rw[List.getElem?_set_ne e,pk,qK,List.getElem?_range hi];simp only[Option.map_some];congr 2;by_cases af:i<l.length / K
   ·have:K*(i+1)<=K*(l.length / K):=qb K af;rw[Nat.mul_add]at this;rw[List.drop_append_of_le_length oM,List.take_append_of_le_length (by rw[qt];omega)]
   ·have:K*(l.length / K+1)<=K*i:=qb K oM;rw[Nat.mul_add]at this;rw[qi (by rw[qJ,qw];omega),qi (by omega)]
 ·rw[qe (by rw[jv];omega),qe (by rw[List.length_set,jv];omega)]
theorem BT (K B:Nat) (hK:0<K) (m:Nat):∀l:List Nat,l.length<=K*m->val (B ^ K) (pk K B l m)=val B l:=by
 intro l;generalize hn:l.length=n
 induction n generalizing l with
 | zero=>intro _;rw[List.eq_nil_of_length_eq_zero hn,Hx,pW];rfl
 | succ n ih =>
  intro h;have hne:l≠[]:=by intro e;rw[e]at hn;cases hn
  have hd:=List.dropLast_concat_getLast hne;have hl:l.dropLast.length=n:=by rw[List.length_dropLast,hn];rfl
  have h1:=ih l.dropLast hl oM;rw[<-hd];generalize l.dropLast=s at *
  generalize l.getLast hne=x at *
  rw[KT hK m x oM,vP];have h2:=kx (B ^ K) (pk K B s m) (s.length / K) ((pk K B s m).getD (s.length / K) 0+x*B ^ (s.length % K)) (by rw[jv];exact Nat.div_lt_of_lt_mul oM)
  have h3:x*B ^ s.length=x*B ^ (s.length % K)*(B ^ K) ^ (s.length / K):=by
   rw[<-Nat.pow_mul,Nat.mul_assoc,<-Nat.pow_add,Nat.add_comm,qj]
  rw[qv,<-h3,h1]at h2;omega
def ku (n:Nat):List Nat:=(dig 256 n).reverse
theorem Eg (n:Nat):(ku n).length=(dig 256 n).length:=by simp[ku]
theorem Ln (n:Nat):Dig 256 (ku n):=fun x hx=>(eo (by decide) n).1 x (by simpa[ku] using hx)
theorem SQ (n:Nat):val 256 (ku n).reverse=n:=by rw[ku,List.reverse_reverse];exact cW (by decide) n
theorem RX (n N:Nat) (hN:N=(dig 256 n).length) (out:List Nat) (h:out.length=N) (hj:∀j,j<N->out.getD (N-1-j) 0=n / 256 ^ j % 256):out=ku n:=by
 apply List.ext_getElem?;intro i;by_cases hi:i<N
 ·have h1:=hj (N-1-i) oM;rw[show N-1-(N-1-i)=i by omega,<-Z5 (by decide)]at h1;rw[ku,List.getElem?_reverse oM,<-hN];rw[qB,qB,qA oM,qA (by omega)]at h1;rw[qA oM,qA (by omega)];exact congrArg some h1
 ·rw[qe oM,qe (by rw[Eg];omega)]
end
section
open Go.RowKit _root_.Go.Proofs.Tryz
theorem q8 (i:Nat) (h:i<=2000000000):IntKind.i64.wrap ((i:Int).tdiv 8)=((i / 8:Nat):Int):=by
 rw[pL,Int.tdiv_eq_ediv_of_nonneg (by omega)];omega
theorem r8 (i:Nat):IntKind.i64.wrap (8*(i:Int).tmod 8)=((8*(i % 8):Nat):Int):=by
 rw[pL,Int.tmod_eq_emod_of_nonneg (by omega)];omega
theorem zz (n i:Nat) (h:i<n) (hn:n<=2000000000):IntKind.i64.wrap (IntKind.i64.wrap ((n:Int)-1)-(i:Int))=((n-1-i:Nat):Int):=by
 rw[pL,pL];omega
theorem R4 (c x p:Nat) (hc:c<2 ^ p) (hx:x<256) (hp:p<=56) :
  IntKind.u64.wrap (((BitVec.ofInt IntKind.u64.bits (c:Int) ||| BitVec.ofInt IntKind.u64.bits (IntKind.u64.wrap (IntKind.u64.wrap (x:Int)*2 ^ (min p IntKind.u64.bits)))).toNat:Nat):Int)=((c+x*2 ^ p:Nat):Int):=by
 have h56:(2:Nat) ^ p<=2 ^ 56:=qc oM hp;have h1:x*2 ^ p<=255*2 ^ 56:=Nat.mul_le_mul oM h56
 have e1:IntKind.u64.wrap (IntKind.u64.wrap (x:Int)*2 ^ (min p IntKind.u64.bits))=((x*2 ^ p:Nat):Int):=by
  rw[show min p IntKind.u64.bits=p from qn (by show p<=64;omega),vZ,qT oM,show ((x:Int)*2 ^ p)=((x*2 ^ p:Nat):Int) by push_cast;rfl,vZ,qT (by omega)]
 rw[e1];refine(u64_or_nat _ _ oM oM).trans ?_;rw[pE _ _ p (2 ^ p) rfl hc]
theorem Dig.rev {B:Nat} {l:List Nat} (h:Dig B l):Dig B l.reverse:=fun x hx=>h x (List.mem_reverse.1 hx)
theorem Vh {v:Value} {l:List Nat} {H:Hp} (h:SlN n8 H v l) (hD:Dig 256 l) (hl:l.length<=200000000):PC prog 135 #[v] H fun r _=>r=aH (val 256 l.reverse):=by
 obtain⟨a,cap,rfl⟩:=SlC.val h;generalize hm:(l.length+7) / 8=m;refine BD func135 ntmps135 ?_;refine uR ?_;refine EVL.make tO Z Z Z Z Z Z Z Z Z m ?_ oM (by rfl) (by rfl) fun g=>?_
 ·rw[show IntKind.i64.wrap ((l.length:Int)+7)=((l.length+7:Nat):Int) by rw[pL];omega,q8 _ oM,hm]
 refine uR ?_
 have e0:(List.replicate m (aa45.zero)).flatten=(pk 8 256 (l.reverse.take 0) m).map n64:=by
  rw[List.take_zero,Hx,List.map_replicate];rw[show (aa45.zero)=[n64 0] from rfl];simp
 rw[e0]
 refine EV.loop (ι:=Nat) (fun i=>[(2,.p 2 0),(0,.v (.slice a l.length cap)),(3,.v (.slice (some ⟨g,0,none⟩) m m)),(11,.v (.int .i64 (l.length:Int))),(12,.v (.int .i64 (i:Int)))]) (fun _=>[(2,47,aa47.zero)]) (fun i=>[(g,45,(pk 8 256 (l.reverse.take i) m).map n64)])
  (fun i G=>i<=l.length/\SlN n8 G (.slice a l.length cap) l) (fun i=>l.length-i) 0 ⟨Z,Z,Z,Z,Z,trivial⟩ ⟨Z,trivial⟩ rfl (fun _=>rfl) ⟨qQ _,h⟩ ?_
 rintro i G hG ⟨hi,hs⟩;refine uR ?_;by_cases af:i<l.length
 ·have iP:i / 8<m:=oM;have ft:(l.reverse.take i).length=i:=by rw[qP,List.length_reverse];omega
  have hx:l.getD (l.length-1-i) 0<256:=hD.getD (by decide) _
  have ed:(l.map n8)[l.length-1-i]?=some (n8 (l.getD (l.length-1-i) 0)):=by
   rw[qK,qB,qA (show l.length-1-i<l.length by omega)];rfl
  have fI:((pk 8 256 (l.reverse.take i) m).map n64)[i / 8]?=some (n64 ((pk 8 256 (l.reverse.take i) m).getD (i / 8) 0)):=by
   rw[qK,qB,qA (by rw[jv];exact iP)];rfl
  have cU:=Q2 (K:=8) (B:=256) (by decide) ((hD.rev).take i) m (by rw[ft];omega);rw[ft]at cU;have fk:=KT (K:=8) (B:=256) (l:=l.reverse.take i) (by decide) m (l.getD (l.length-1-i) 0) (by rw[ft];omega);rw[ft]at fk;rw[show decide ((i:Int)<(l.length:Int))=true by simpa using af];refine uR ?_;apply EV.drawn 18 kR kR;intro xv yw;(repeat refine' DD ?_);refine' DJ.ofVal (az.idxP1 tO Z Z Z Z Z Z Z Z (i / 8) (q8 i oM) iP) Z Z Z ?_;rotate_left;refine' DJ.ofVal (az.load1 tO Z Z Z Z Z Z 0 Z fI) Z Z Z ?_;rotate_left;(repeat refine' DD ?_);refine' DJ.ofVal (az.idx1 tO Z Z Z Z Z Z Z Z hs (l.length-1-i) (zz _ _ af oM) oM ed) Z Z Z ?_;rotate_left;(repeat refine' DD ?_);refine' DJ.ofVal (az.shl Z Z Z Z (by rw[r8];omega)) Z Z Z ?_;rotate_left;(refine DJ.nil (fun G hG hF=>?_);(case hS|hS2=>rfl));rw[r8,qU];refine uR ?_;rw[R4 _ _ _ (by rw[Nat.pow_mul];exact cU) hx (by omega)];refine EVL.ofVal (az.idxP1 tO Z Z Z Z Z Z Z Z (i / 8) (q8 i oM) iP) Z Z Z fun G4 aT=>?_;refine EVL.set1 tO Z Z Z Z Z Z Z Z Z Z (by rw[qV,jv];exact iP) ?_;refine uR ?_
  have dr:l.reverse.take (i+1)=l.reverse.take i++[l.getD (l.length-1-i) 0]:=by
   rw[qS (by rw[List.length_reverse];exact af),List.getElem_reverse,qB,qA (show l.length-1-i<l.length by omega)];rfl
  refine⟨i+1,⟨rfl,rfl,rfl,rfl,?_,trivial⟩,⟨Z,trivial⟩,?_,⟨by omega,hs.mono (hG.trans aT)⟩,hG.trans aT,by omega⟩
  ·rw[show IntKind.i64.wrap ((i:Int)+1)=((i+1:Nat):Int) by rw[pL];omega];rfl
  ·rw[dr,fk,List.map_set,show (256:Nat) ^ (i % 8)=2 ^ (8*(i % 8)) by rw[Nat.pow_mul]]
 ·rw[show decide ((i:Int)<(l.length:Int))=false by simpa using af];obtain rfl:i=l.length:=oM;rw[qO (by rw[List.length_reverse];exact qH _)];refine uR ?_;refine EVL.publish [] [] Z fun G2 ai hg=>?_;have fS:(pk 8 256 l.reverse m).length=m:=jv _ _ _ _
  have bA:SlN n64 G2 (.slice (some ⟨g,0,none⟩) m m) (pk 8 256 l.reverse m):=by
   unfold SlN;rw[fS];exact⟨by simp[fS],.inr ⟨g,0,m,_,rfl,qH _,hg,fun j x hj=>by simpa using hj⟩⟩
  have hf:=uq bA (by rw[ug];exact BU (by decide) hD.rev m) oM;rw[ug,BT 8 256 (by decide) m l.reverse (by rw[List.length_reverse];omega)]at hf;refine EVL.call Z Z Z Z Z hf ?_;rintro v' H' rfl hle;refine uR ?_;rfl
theorem St (c p:Nat) (hc:c<W64) (hp:p<=63):IntKind.u8.wrap ((c:Int).fdiv (2 ^ (min p IntKind.u64.bits)))=((c / 2 ^ p % 256:Nat):Int):=by
 rw[show min p IntKind.u64.bits=p from qn (by show p<=64;omega),show ((2:Int) ^ p)=((2 ^ p:Nat):Int) by push_cast;rfl,Int.fdiv_eq_ediv_of_nonneg _ (Int.natCast_nonneg _),<-Int.natCast_ediv,Rg];omega
theorem UT (n:Nat) (hn:big n) (H:Hp):PC prog 151 #[aH n] H fun r H'=>SlN n8 H' r (ku n):=by
 have hN:(dig 256 n).length=(bl n+7) / 8:=by have:=ur 8 n oM;rw[show (2:Nat) ^ 8=256 by decide]at this;rw[this];omega
 generalize Gt:(bl n+7) / 8=N at *
 have NH:=fun G=>Cd n hn G;refine BD func151 ntmps151 ?_
 repeat (first|refine RUN ?_|refine CV (jP n hn) ?_|refine CE (jP n hn) ?_)
 rw[show IntKind.i64.wrap ((bl n:Int)+7)=((bl n+7:Nat):Int) by rw[pL];omega,q8 _ oM,Gt];refine uR ?_;refine EVL.make tO Z Z Z Z Z Z Z Z Z N Z oM (by rfl) (by rfl) fun g=>?_;refine uR ?_
 have e0:(List.replicate N (aa5.zero)).flatten=(List.replicate N 0).map n8:=by
  rw[List.map_replicate,show (aa5.zero)=[n8 0] from rfl];simp
 rw[e0];refine vA (NH _) ?_;rintro v H1 hv hle;refine uR ?_
 refine EV.loop (ι:=Nat × List Nat) (fun q=>[(3,.v (.int .i64 (N:Int))),(4,.v (.slice (some ⟨g,0,none⟩) N N)),(5,.v v),(15,.v (.int .i64 (N:Int))),(16,.v (.int .i64 (q.1:Int)))]) (fun _=>[]) (fun q=>[(g,5,q.2.map n8)])
  (fun q G=>q.1<=N/\q.2.length=N/\(∀j,j<q.1->q.2.getD (N-1-j) 0=n / 256 ^ j % 256)/\SlN n64 G v (dig W64 n)) (fun q=>N-q.1) (0,List.replicate N 0) ⟨Z,Z,Z,Z,Z,trivial⟩ trivial rfl (fun _=>rfl) ⟨qQ _,by simp,fun j hj=>absurd hj (Nat.not_lt_zero _),hv⟩ ?_
 rintro⟨i,cur⟩ G hG ⟨hi,hlen,bC,hs⟩;dsimp only at hi hlen bC;refine uR ?_;by_cases af:i<N
 ·have wC:i / 8<(dig W64 n).length:=by
   have:=ur 64 n oM;rw[<-fB]at this;rw[this];omega
  have ed:((dig W64 n).map n64)[i / 8]?=some (n64 ((dig W64 n).getD (i / 8) 0)):=by
   rw[qK,qB,qA wC];rfl
  have aQ:=MK (C:=256) (k:=8) (by decide) (by decide) (l:=dig W64 n) (by rw[<-ug];exact(eo cm n).1) i;rw[<-ug,cW cm,show (256:Nat) ^ (i % 8)=2 ^ (8*(i % 8)) by rw[Nat.pow_mul]]at aQ;have hw:=((eo cm n).1).getD (by decide) (i / 8);rw[show decide ((i:Int)<(N:Int))=true by simpa using af];refine uR ?_;refine EVL.ofVal (az.idx1 tO Z Z Z Z Z Z Z Z hs (i / 8) (q8 i oM) wC ed) Z Z Z fun G4 aT=>?_;refine uR ?_;refine EVL.ofVal (az.shr Z Z Z Z (by rw[r8];omega)) Z Z Z fun G5 bj=>?_;refine uR ?_;rw[r8,qU,St _ _ hw oM,aQ,zz N i af (by omega)];refine EVL.ofVal (az.idxP1 tO Z Z Z Z Z Z Z Z (N-1-i) Z oM) Z Z Z fun G6 bu=>?_;refine EVL.set1 tO Z Z Z Z Z Z Z Z Z Z (by rw[qV,hlen];omega) ?_;refine uR ?_;refine⟨(i+1,cur.set (N-1-i) (n / 256 ^ i % 256)),⟨rfl,rfl,rfl,rfl,?_,trivial⟩,trivial,?_,⟨by dsimp only;omega,by dsimp only;rw[List.length_set];exact hlen,fun j hj=>?_,hs.mono (aT.trans (bj.trans bu))⟩,aT.trans (bj.trans bu),by dsimp only;omega⟩
  ·rw[show IntKind.i64.wrap ((i:Int)+1)=((i+1:Nat):Int) by rw[pL];omega];rfl
  ·dsimp only;rw[List.map_set]
  ·dsimp only at hj ⊢;by_cases e:j=i
   ·subst e;rw[qB,List.getElem?_set_self (by omega)];rfl
   ·rw[qB,List.getElem?_set_ne oM,<-qB];exact bC j oM
 ·rw[show decide ((i:Int)<(N:Int))=false by simpa using af];obtain rfl:i=N:=oM;have ho:=RX n i hN.symm cur hlen bC;subst ho
  first|refine EVL.publish [] [] Z fun G2 ai hg=>?_|refine EV.publish [] [] Z fun G2 ai hg=>?_
  refine uR ?_;unfold SlN;rw[hlen];exact⟨by simp[hlen],.inr ⟨g,0,i,_,rfl,qH _,hg,fun j x hj=>by simpa using hj⟩⟩
end
section
theorem zgP (k w:Nat) (hw:w % 2=1):Nat.Coprime (2 ^ k) w:=by
 apply Nat.Coprime.pow_left;rw[Nat.coprime_comm];show Nat.gcd w 2=1;rw[Nat.gcd_comm,Nat.gcd_rec,hw];decide
theorem Mr (k m w:Nat) (hw:w % 2=1):Nat.gcd (2 ^ k*m) w=Nat.gcd m w:=Nat.Coprime.gcd_mul_left_cancel m (zgP k w hw)
theorem znR (x y zx zy v w:Nat) (hx:x=2 ^ zx*v) (hy:y=2 ^ zy*w) (hv:v % 2=1) (hw:w % 2=1):Nat.gcd x y=2 ^ min zx zy*Nat.gcd v w:=by
 subst hx hy;by_cases h:zx<=zy
 ·rw[qn h];obtain⟨k,rfl⟩:∃k,zy=zx+k:=⟨zy-zx,by omega⟩;rw[Nat.pow_add,Nat.mul_assoc,Nat.gcd_mul_left,Nat.gcd_comm v,Mr k w v hv,Nat.gcd_comm]
 ·rw[Nat.min_eq_right (by omega)];obtain⟨k,rfl⟩:∃k,zx=zy+k:=⟨zx-zy,by omega⟩;rw[Nat.pow_add,Nat.mul_assoc,Nat.gcd_mul_left,Mr k v w hw]
theorem zpj (v w z m:Nat) (hw:w % 2=1) (hle:w<=v) (h:v-w=2 ^ z*m):Nat.gcd m w=Nat.gcd v w:=by
 rw[<-Mr z m w hw,<-h,Nat.gcd_sub_self_left hle]
end
section
open Go.RowKit _root_.Go.Proofs.Tryz
theorem ME {B:Nat} {l:List Nat}:∀i,(∀j,j<i->l.getD j 0=0)->val B (l.take i)=0
 | 0,_=>rfl
 | i+1,h=>by rw[mf,ME i (fun j hj=>h j oM),h i (by omega)];simp
theorem zqY {l:List Nat} (hD:Dig W64 l) {i:Nat} (hz:∀j,j<i->l.getD j 0=0) (h0:l.getD i 0≠0) :
  ∃m,val W64 l=2 ^ (64*i+Lib.ctz 64 (l.getD i 0))*m/\m % 2=1/\Lib.ctz 64 (l.getD i 0)<64:=by
 have hi:i<l.length:=by
  refine Nat.lt_of_not_le fun h=>h0 ?_;rw[qB,qe h];rfl
 have hx:=hD.getD (by decide) i
 have hv:val W64 l=W64 ^ i*(l.getD i 0+W64*val W64 (l.drop (i+1))):=by
  rw[ep W64 l i oM,ME i hz,dO,qu]
 rw[hv];clear hz hv;generalize val W64 (l.drop (i+1))=V;generalize l.getD i 0=x at *
 obtain⟨m,h1,h2⟩:=Lib.ctzFrom_spec 64 x oM (by rw[<-fB];exact hx);have e:Lib.ctz 64 x=Lib.ctzFrom 64 x:=by unfold Lib.ctz;rw[if_neg h0]
 rw[e];generalize Lib.ctzFrom 64 x=k at *
 have hp:W64=2 ^ k*2 ^ (64-k):=by rw[<-Nat.pow_add,fB];congr 1;omega
 refine⟨2*m+1+2 ^ (64-k)*V,?_,?_,h2⟩
 ·rw[Hq,Nat.mul_assoc];congr 1;rw[h1];generalize 2 ^ k=a at *
  generalize 2 ^ (64-k)=b at *
  rw[hp,Nat.mul_add,Nat.mul_assoc,Nat.mul_add,Nat.mul_add a]
 ·rw[show 64-k=(63-k)+1 by omega,qX,qW (2 ^ (63-k)) 2,Nat.mul_assoc];omega
theorem IA {B:Nat} (hB:0<B):∀{l m:List Nat},Dig B l->Dig B m->l.length=m.length->val B l=val B m->l=m
 | [],[],_,_,_,_=>rfl
 | [],_::_,_,_,h,_=>by cases h
 | _::_,[],_,_,h,_=>by cases h
 | x::l,y::m,hl,hm,h,e=>by
  have hx:=hl x (qf ..);have hy:=hm y (qf ..);rw[kA,kA]at e
  have e1:x=y:=by
   have h1:(x+B*val B l) % B=x:=by rw[Nat.add_mul_mod_self_left,qT hx]
   have h2:(y+B*val B m) % B=y:=by rw[Nat.add_mul_mod_self_left,qT hy]
   rw[<-h1,<-h2,e]
  subst e1;have e2:val B l=val B m:=Nat.eq_of_mul_eq_mul_left hB oM;rw[IA hB (fun z hz=>hl z (qk _ hz)) (fun z hz=>hm z (qk _ hz)) (by simpa using h) e2]
theorem Zf (n:Nat) (m:Nat) (hm:m=(dig W64 n).length) (hl:(dig 256 n).length<=8*m):pk 8 256 (ku n).reverse m=dig W64 n:=by
 rw[ku,List.reverse_reverse];refine IA (B:=W64) (by decide) ?_ (eo cm n).1 (by rw[jv,hm]) ?_
 ·rw[ug];exact BU (by decide) (eo (by decide) n).1 m
 ·rw[cW cm,ug,BT 8 256 (by decide) m _ hl,cW (by decide)]
theorem SP {z z' m m':Nat} (h:2 ^ z*m=2 ^ z'*m') (hm:m % 2=1) (lz:m' % 2=1):z=z':=by
 have key:∀(z z' m m':Nat),z<z'->2 ^ z*m=2 ^ z'*m'->m % 2=1->False:=fun z z' m m' af h hm=>by
  obtain⟨k,rfl⟩:∃k,z'=z+(k+1):=⟨z'-z-1,by omega⟩;rw[Nat.pow_add,Nat.mul_assoc]at h;have:=Nat.eq_of_mul_eq_mul_left (Nat.pow_pos (by decide)) h;rw[this,qX,qW (2 ^ k) 2,Nat.mul_assoc]at hm;omega
 rcases Nat.lt_trichotomy z z' with h1 | h1 | h1
 ·exact(key z z' m m' h1 h hm).elim
 ·exact h1
 ·exact(key z' z m' m h1 h.symm lz).elim
theorem Ci {B:Nat} (hB:2<=B) {l m:List Nat} (hl:Dig B l) (hm:eM B m) (h:l.length<m.length):val B l<val B m:=by
 have h1:=cZ hl;have h2:=MN oM hm (by intro e;rw[e]at h;cases h);have h3:B ^ l.length<=B ^ (m.length-1):=qc oM oM;omega
theorem znx (n N:Nat) (out:List Nat) (hN:n<256 ^ N) (h:out.length=N) (hj:∀j,j<N->out.getD (N-1-j) 0=n / 256 ^ j % 256):val 256 out.reverse=n:=by
 have e:out.reverse=kv 256 n N:=by
  apply List.ext_getElem?;intro i;by_cases hi:i<N
  ·rw[List.getElem?_reverse oM,h,kv,qK,List.getElem?_range hi];have:=hj i hi;rw[qB,qA (by omega)]at this;rw[qA (by omega)];exact congrArg some this
  ·rw[qe (by rw[List.length_reverse];omega),qe (by rw[wg];omega)]
 rw[e,Lu,qT hN]
end
section
theorem UY (l:List Nat) (i v:Nat) (h:i<l.length) (B:Nat):val B ((l.set i v).take (i+1))=val B (l.take i)+v*B ^ i:=by
 rw[mf,List.take_set_of_le (qH _)];simp[qB,h]
structure BO (B:Nat) (x y cur:List Nat) (i c:Nat):Prop where
 dig:Dig B cur
 sum:val B (cur.take i)+c*B ^ i=val B (x.take i)+val B (y.take i)
 carry:c<=1
theorem BO.step {B:Nat} {x y cur:List Nat} {i c:Nat} (hB:0<B) (h:BO B x y cur i c) (hi:i<cur.length) (hx:Dig B x) (hy:Dig B y) :
  BO B x y (cur.set i ((c+x.getD i 0+y.getD i 0) % B)) (i+1) ((c+x.getD i 0+y.getD i 0) / B):=by
 have h1:=hx.getD hB i;have h2:=hy.getD hB i;have h3:=h.carry;refine⟨h.dig.set _ _ (qm _ hB),?_,?_⟩
 ·rw[UY _ _ _ hi,mf,mf B y];have hs:=h.sum;have hd:=qj (c+x.getD i 0+y.getD i 0) B;generalize (c+x.getD i 0+y.getD i 0) / B=q at *
  generalize (c+x.getD i 0+y.getD i 0) % B=s at *
  generalize x.getD i 0=u at *
  generalize y.getD i 0=w at *
  rw[qX];generalize B ^ i=p at *
  have h5:(B*q+s)*p=(c+u+w)*p:=by rw[hd]
  grind
 ·have:(c+x.getD i 0+y.getD i 0) / B<2:=Nat.div_lt_of_lt_mul oM;omega
def subS (B x y c:Nat):Nat:=if y+c<=x then x-y-c else x+B-y-c
def subC (x y c:Nat):Nat:=if y+c<=x then 0 else 1
structure BL (B:Nat) (x y cur:List Nat) (i c:Nat):Prop where
 dig:Dig B cur
 sum:val B (cur.take i)+val B (y.take i)=val B (x.take i)+c*B ^ i
 carry:c<=1
theorem BL.step {B:Nat} {x y cur:List Nat} {i c:Nat} (hB:0<B) (h:BL B x y cur i c) (hi:i<cur.length) (hx:Dig B x) (hy:Dig B y) :
  BL B x y (cur.set i (subS B (x.getD i 0) (y.getD i 0) c)) (i+1) (subC (x.getD i 0) (y.getD i 0) c):=by
 have h1:=hx.getD hB i;have h2:=hy.getD hB i;have h3:=h.carry
 have h4:subS B (x.getD i 0) (y.getD i 0) c+y.getD i 0+c=x.getD i 0+subC (x.getD i 0) (y.getD i 0) c*B:=by
  unfold subS subC;split <;> omega
 have h5:subS B (x.getD i 0) (y.getD i 0) c<B:=by unfold subS;split <;> omega
 have h6:subC (x.getD i 0) (y.getD i 0) c<=1:=by unfold subC;split <;> omega
 refine⟨h.dig.set _ _ h5,?_,h6⟩;rw[UY _ _ _ hi,mf B y,mf B x];have hs:=h.sum;generalize subS B (x.getD i 0) (y.getD i 0) c=s at *
 generalize subC (x.getD i 0) (y.getD i 0) c=q at *
 generalize x.getD i 0=u at *
 generalize y.getD i 0=w at *
 rw[qX];generalize B ^ i=p at *
 have h7:(s+w+c)*p=(u+q*B)*p:=by rw[h4]
 grind
structure ve (B m:Nat) (y dM:List Nat) (i:Nat) (cur:List Nat) (k c:Nat):Prop where
 len:cur.length=dM.length
 dig:Dig B cur
 carry:c<B
 keep:∀j,i+k<=j->cur.getD j 0=dM.getD j 0
 sum:val B cur+c*B ^ (i+k)=val B dM+m*val B (y.take k)*B ^ i
theorem ve.start {B m:Nat} {y dM:List Nat} {i:Nat} (hB:0<B) (h:Dig B dM):ve B m y dM i dM 0 0:=⟨rfl,h,hB,fun _ _=>rfl,by simp[val]⟩
theorem zpB {B c o m n:Nat} (hc:c<B) (ho:o<B) (hm:m<B) (hn:n<B):(c+o+m*n) / B<B:=by
 refine Nat.div_lt_of_lt_mul ?_;have h1:m*n<=(B-1)*(B-1):=Nat.mul_le_mul oM oM;obtain⟨b,rfl⟩:∃b,B=b+1:=⟨B-1,by omega⟩;rw[Nat.add_sub_cancel]at h1;have:(b+1)*(b+1)=b*b+2*b+1:=by grind
 omega
theorem ve.step {B m:Nat} {y dM:List Nat} {i:Nat} {cur:List Nat} {k c:Nat} (hB:0<B) (h:ve B m y dM i cur k c) (hk:i+k<cur.length) (hm:m<B) (hy:Dig B y) :
  ve B m y dM i (cur.set (i+k) ((c+cur.getD (i+k) 0+m*y.getD k 0) % B)) (k+1) ((c+cur.getD (i+k) 0+m*y.getD k 0) / B):=by
 refine⟨by rw[List.length_set];exact h.len,h.dig.set _ _ (qm _ hB),zpB h.carry (h.dig.getD hB _) hm (hy.getD hB _),fun j hj=>?_,?_⟩
 ·rw[getD_set_ne _ _ _ _ (by omega)];exact h.keep j oM
 ·have hv:=kx B cur (i+k) ((c+cur.getD (i+k) 0+m*y.getD k 0) % B) hk;have hs:=h.sum;have hd:=qj (c+cur.getD (i+k) 0+m*y.getD k 0) B;rw[mf];generalize (c+cur.getD (i+k) 0+m*y.getD k 0) / B=q at *
  generalize (c+cur.getD (i+k) 0+m*y.getD k 0) % B=s at *
  generalize cur.getD (i+k) 0=o at *
  generalize y.getD k 0=w at *
  generalize val B (cur.set (i+k) s)=v1 at *
  rw[show i+(k+1)=(i+k)+1 by omega,qX];have hp:B ^ (i+k)=B ^ k*B ^ i:=by rw[Nat.pow_add,qW]
  rw[hp]at hv hs ⊢;clear h hk hm hy hp;generalize B ^ i=p at *
  generalize B ^ k=r at *
  have h5:(B*q+s)*(r*p)=(c+o+m*w)*(r*p):=by rw[hd]
  generalize val B cur=v0 at *
  generalize val B dM=v00 at *
  generalize val B (y.take k)=vy at *
  grind
theorem ve.done {B m:Nat} {y dM:List Nat} {i:Nat} {cur:List Nat} {c:Nat} (h:ve B m y dM i cur y.length c) (hk:i+y.length<cur.length) (h0:dM.getD (i+y.length) 0=0) :
  val B (cur.set (i+y.length) c)=val B dM+m*val B y*B ^ i:=by
 have hv:=kx B cur (i+y.length) c hk;have hs:=h.sum;rw[h.keep _ (qH _),h0]at hv;rw[qa]at hs;omega
theorem zkY (B:Nat) (x:List Nat) (i V:Nat):val B (x.take i)*V+x.getD i 0*V*B ^ i=val B (x.take (i+1))*V:=by
 rw[mf];grind
structure BM (B p:Nat) (x d:List Nat) (c:Nat):Prop where
 dig:Dig B d
 carry:c<2 ^ p
 sum:val B d+c*B ^ d.length=val B (x.take d.length)*2 ^ p
theorem BM.step {B p:Nat} {x d:List Nat} {c:Nat} (hB:0<B) (h:BM B p x d c) (hx:Dig B x):BM B p x (d++[(c+x.getD d.length 0*2 ^ p) % B]) ((c+x.getD d.length 0*2 ^ p) / B):=by
 have h1:=hx.getD hB d.length;have h2:=h.carry;have hs:=h.sum;refine⟨h.dig.snoc (qm _ hB),Nat.div_lt_of_lt_mul ?_,?_⟩
 ·have:x.getD d.length 0*2 ^ p<=(B-1)*2 ^ p:=qN _ oM;obtain⟨b,rfl⟩:∃b,B=b+1:=⟨B-1,by omega⟩;rw[Nat.add_sub_cancel]at this;rw[qv];omega
 ·have hd:=qj (c+x.getD d.length 0*2 ^ p) B;rw[vP,qJ,qw,mf,qX];generalize (c+x.getD d.length 0*2 ^ p) / B=q at *
  generalize (c+x.getD d.length 0*2 ^ p) % B=s at *
  generalize x.getD d.length 0=w at *
  generalize B ^ d.length=r at *
  generalize val B (x.take d.length)=V at *
  have h5:(B*q+s)*r=(c+w*2 ^ p)*r:=by rw[hd]
  generalize 2 ^ p=t at *
  grind
structure Dk (B b:Nat) (x q:List Nat) (i r:Nat):Prop where
 dig:Dig B q
 len:q.length=x.length
 rest:r<b
 sum:val B (q.drop i)*b+r=val B (x.drop i)
theorem Dk.step {B b:Nat} {x q:List Nat} {i r:Nat} (hb:0<b) (h:Dk B b x q (i+1) r) (hi:i<x.length) (hx:Dig B x) :
  Dk B b x (q.set i ((r*B+x.getD i 0) / b)) i ((r*B+x.getD i 0) % b):=by
 have di:=hx.get i hi;have Ny:x.getD i 0<B:=by rw[qB,qA hi];exact di
 have hr:=h.rest;refine⟨h.dig.set _ _ ?_,by rw[List.length_set];exact h.len,qm _ hb,?_⟩
 ·refine Nat.div_lt_of_lt_mul ?_;have:(r+1)*B<=b*B:=qN _ hr;rw[qv]at this;omega
 ·have hs:=h.sum;have hd:=qj (r*B+x.getD i 0) b;rw[dO,dO B x,List.drop_set_of_lt oM,<-hs,show (q.set i ((r*B+x.getD i 0) / b)).getD i 0=(r*B+x.getD i 0) / b from yC _ _ _ (by rw[h.len];exact hi)];generalize (r*B+x.getD i 0) / b=u at *
  generalize (r*B+x.getD i 0) % b=w at *
  generalize val B (q.drop (i+1))=v at *
  grind
theorem Zq {B:Nat} (hB:0<B) {l m:List Nat} (k:Nat) (hl:Dig B l) (hm:Dig B m) (he:l.length=m.length) (hk:k<l.length) (hd:l.drop (k+1)=m.drop (k+1)) (hx:l.getD k 0≠m.getD k 0):br (val B l) (val B m)=br (l.getD k 0) (m.getD k 0):=by
 rw[ep B l k oM,ep B m k oM,dO B l k,dO B m k,hd];have h1:=cZ (hl.take k);have h2:=cZ (hm.take k);rw[qP,qn (by omega)]at h1 h2;rw[LP h1 h2 (by omega)];unfold br;generalize val B (m.drop (k+1))=V;generalize B*V=Z_0;split <;> split <;> (try split) <;> (try split) <;> omega
theorem zkw {K B:Nat} (hK:0<K) (hB:0<B) (m k x:Nat) (r:List Nat) (hx:x<B) (hr:Dig B r) (h:k+1+r.length<=K*m) :
  pk K B (List.replicate k 0++x::r) m=(pk K B (List.replicate (k+1) 0++r) m).set (k / K) ((pk K B (List.replicate (k+1) 0++r) m).getD (k / K) 0+x*B ^ (k % K)):=by
 have uO:k / K<m:=Nat.div_lt_of_lt_mul oM;have oS:=qj k K;have Pc:=qm k hK;have Kf:Dig B (List.replicate (k+1) 0++r):=(Dig.zeros hB _).append hr;have iR:Dig B (List.replicate k 0++x::r):=(Dig.zeros hB _).append (Dig.cons hx hr);have hP0:Dig (B ^ K) (pk K B (List.replicate (k+1) 0++r) m):=BU hB Kf m
 have hw:(pk K B (List.replicate (k+1) 0++r) m).getD (k / K) 0+x*B ^ (k % K)<B ^ K:=by
  rw[Ib _ _ _ _ _ uO,List.drop_append_of_le_length (by simp;omega),List.drop_replicate,show k+1-K*(k / K)=k % K+1 by omega,List.take_append,List.length_replicate,qO (by simp;omega),uj,pW,List.length_replicate,qu];have hv:=cZ (hr.take (K-(k % K+1)));have hl:(r.take (K-(k % K+1))).length<=K-(k % K+1):=by rw[qP];omega
  have h1:B ^ (r.take (K-(k % K+1))).length<=B ^ (K-(k % K+1)):=qc hB hl;generalize val B (r.take (K-(k % K+1)))=v at *
  have h2:B ^ K=B ^ (k % K+1)*B ^ (K-(k % K+1)):=by rw[<-Nat.pow_add];congr 1;omega
  rw[h2];have h3:B ^ (k % K+1)*(v+1)<=B ^ (k % K+1)*B ^ (K-(k % K+1)):=qb _ oM;have h4:(x+1)*B ^ (k % K)<=B*B ^ (k % K):=qN _ hx;have h5:0<B ^ (k % K):=Nat.pow_pos hB;rw[Nat.mul_add,qX,qW (B ^ (k % K)) B]at h3;rw[qv]at h4;rw[qX,qW (B ^ (k % K)) B];omega
 refine IA (B:=B ^ K) (Nat.pow_pos hB) (BU hB iR m) (hP0.set _ _ hw) (by rw[List.length_set,jv,jv]) ?_;have hs:=kx (B ^ K) (pk K B (List.replicate (k+1) 0++r) m) (k / K) ((pk K B (List.replicate (k+1) 0++r) m).getD (k / K) 0+x*B ^ (k % K)) (by rw[jv];exact uO);rw[BT K B hK m _ (by simp;omega)]at hs ⊢
 have e1:val B (List.replicate k 0++x::r)=val B (List.replicate (k+1) 0++r)+x*B ^ k:=by
  rw[uj,uj,pW,pW,kA,List.length_replicate,List.length_replicate,qX];grind
 have e2:x*B ^ k=x*B ^ (k % K)*(B ^ K) ^ (k / K):=by
  rw[<-Nat.pow_mul,Nat.mul_assoc,<-Nat.pow_add];congr 2;omega
 rw[qv,<-e2]at hs;omega
theorem X5 {k low top:Nat} (h:low<2 ^ k) (ht:top≠0):bl (low+2 ^ k*top)=k+bl top:=by
 have h1:=og top;have h2:=Ku ht;have h3:=Ho ht;refine Nat.le_antisymm (cf ?_) ?_
 ·rw[Nat.pow_add];have:2 ^ k*(top+1)<=2 ^ k*2 ^ bl top:=qb _ h1;rw[Nat.mul_add]at this;omega
 ·refine Nat.le_of_not_lt fun af=>?_;have h4:low+2 ^ k*top<2 ^ (k+(bl top-1)):=Nat.lt_of_lt_of_le (og _) (qc oM oM);rw[Nat.pow_add]at h4;have:=qb (2 ^ k) h2;omega
end
section
open Go.RowKit _root_.Go.Proofs.Tryz
def B32:Nat:=4294967296
theorem bN:2<=B32:=by decide
theorem dY:B32=4294967296:=rfl
theorem im:B32=2 ^ 32:=by decide
theorem DO:B32=256 ^ 4:=by decide
namespace L32
def addLo (x y c:Nat):Nat:=(x+y+c) % B32
def addHi (x y c:Nat):Nat:=(x+y+c) / B32
def subLo (x y b:Nat):Nat:=(x+B32-y-b) % B32
def subHi (x y b:Nat):Nat:=if x<y+b then 1 else 0
theorem uo {x y c:Nat} (hx:x<B32) (hy:y<B32) (hc:c<=1):addLo x y c+addHi x y c*B32=x+y+c/\addLo x y c<B32/\addHi x y c<=1:=by
 unfold addLo addHi;have:=dY;simp only[dY]at *
 omega
theorem Cr {x y b:Nat} (hx:x<B32) (hy:y<B32) (hb:b<=1):subLo x y b+y+b=x+subHi x y b*B32/\subLo x y b<B32/\subHi x y b<=1:=by
 unfold subLo subHi;simp only[dY]at *
 split <;> omega
def mid (l:List Nat) (j k:Nat):List Nat:=(l.drop j).take k
theorem vH (l:List Nat) (j k:Nat) (h:j+k<=l.length):val B32 l=val B32 (l.take j)+B32 ^ j*(val B32 (mid l j k)+B32 ^ k*val B32 (l.drop (j+k))):=by
 rw[ep B32 l j oM,ep B32 (l.drop j) k (by simp;omega),List.drop_drop];rfl
theorem mid_length (l:List Nat) (j k:Nat) (h:j+k<=l.length):(mid l j k).length=k:=by simp[mid];omega
theorem mid_dig {l:List Nat} (h:Dig B32 l) (j k:Nat):Dig B32 (mid l j k):=(h.drop j).take k
def Alike (l m:List Nat) (j k:Nat):Prop:=l.length=m.length/\∀i,(i<j\/j+k<=i)->l.getD i 0=m.getD i 0
theorem Alike.refl (l:List Nat) (j k:Nat):Alike l l j k:=⟨rfl,fun _ _=>rfl⟩
theorem Alike.set {l m:List Nat} {j k:Nat} (h:Alike l m j k) (i v:Nat) (hi:j<=i) (Pk:i<j+k):Alike (l.set i v) m j k :=
 ⟨by simpa using h.1,fun x hx=>by rw[getD_set_ne _ _ _ _ (by omega)];exact h.2 x hx⟩
theorem D6 {l m:List Nat} (hl:l.length=m.length) (h:∀i,l.getD i 0=m.getD i 0):l=m:=by
 apply List.ext_getElem hl;intro i h1 h2;have:=h i;simpa[qB,h1,h2] using this
theorem oo (l:List Nat) (j i:Nat):(l.take j).getD i 0=if i<j then l.getD i 0 else 0:=by
 simp only[qB,pO];split <;> simp
theorem yu (l:List Nat) (j i:Nat):(l.drop j).getD i 0=l.getD (j+i) 0:=by
 simp[qB]
theorem Alike.take {l m:List Nat} {j k:Nat} (h:Alike l m j k):l.take j=m.take j :=
 D6 (by simp[h.1]) (fun i=>by
  rw[oo,oo];split
  ·exact h.2 i oM
  ·rfl)
theorem Alike.drop {l m:List Nat} {j k:Nat} (h:Alike l m j k):l.drop (j+k)=m.drop (j+k) :=
 D6 (by simp[h.1]) (fun i=>by rw[yu,yu];exact h.2 _ oM)
theorem Alike.mid_eq {l m:List Nat} {j k:Nat} (h:Alike l m j k) (hk:j+k<=l.length) {a b:Nat} (e:val B32 l+a*B32 ^ j=val B32 m+b*B32 ^ (j+k)) :
  val B32 (mid l j k)+a=val B32 (mid m j k)+b*B32 ^ k:=by
 rw[vH l j k hk,vH m j k (by rw[<-h.1];exact hk),h.take,h.drop]at e;have hp:0<B32 ^ j:=Nat.pow_pos (by decide);rw[Nat.pow_add]at e;generalize val B32 (mid l j k)=x at *
 generalize val B32 (mid m j k)=y at *
 generalize val B32 (m.drop (j+k))=z at *
 generalize val B32 (m.take j)=t at *
 generalize B32 ^ j=P at *
 generalize B32 ^ k=Q at *
 have e2:P*(x+a+Q*z)=P*(y+b*Q+Q*z):=by
  have h1:t+P*(x+Q*z)+a*P=t+P*(x+a+Q*z):=by grind
  have h2:t+P*(y+Q*z)+b*(P*Q)=t+P*(y+b*Q+Q*z):=by grind
  omega
 have:=Nat.eq_of_mul_eq_mul_left hp e2;omega
theorem sub_round (U U0 v:List Nat) (j i k g c b x vi hi lw:Nat) (hk:k=j+i) (hlen:k<U.length) (hx:x<B32) (hU:U.getD k 0=x) (p9:v.getD i 0=vi) (cF:lw<B32) (Bb:hi*B32+lw=g*vi) (Bc:g*vi+c<B32*B32) (hc:c<B32) (hb:b<=1)
  (hv:val B32 U+g*val B32 (v.take i)*B32 ^ j=val B32 U0+(b+c)*B32 ^ k) :
  hi+addHi lw c 0<B32/\subHi x (addLo lw c 0) b<=1/\subLo x (addLo lw c 0) b<B32 /\
  val B32 (U.set k (subLo x (addLo lw c 0) b))+g*val B32 (v.take (i+1))*B32 ^ j=val B32 U0+(subHi x (addLo lw c 0) b+(hi+addHi lw c 0))*B32 ^ (k+1):=by
 have ap:=uo cF hc (show 0<=1 by omega);have sp:=Cr hx ap.2.1 hb;generalize addLo lw c 0=s at *
 generalize addHi lw c 0=a at *
 generalize subLo x s b=u' at *
 generalize subHi x s b=b' at *
 have Bo:hi+a<B32:=by
  have:(hi+a)*B32<B32*B32:=by rw[qv];omega
  exact Nat.lt_of_mul_lt_mul_right this
 refine⟨Bo,sp.2.2,sp.2.1,?_⟩
 ·have v1:=kx B32 U k u' hlen;rw[hU]at v1;rw[mf,p9,qX]
  have e1:g*(val B32 (v.take i)+vi*B32 ^ i)*B32 ^ j=g*val B32 (v.take i)*B32 ^ j+(g*vi)*B32 ^ k:=by
   rw[hk,Nat.pow_add];grind
  rw[e1];generalize B32 ^ k=P at *
  generalize g*val B32 (v.take i)*B32 ^ j=G at *
  generalize val B32 (U.set k u')=A at *
  generalize val B32 U=A0 at *
  generalize val B32 U0=Z_0 at *
  have e2:(u'+s+b)*P=(x+b'*B32)*P:=by rw[sp.1]
  have e3:(s+a*B32)*P=(lw+c)*P:=by rw[<-qY (lw+c),<-ap.1]
  have e4:(hi*B32+lw)*P=(g*vi)*P:=by rw[Bb]
  grind
theorem add_round (U U0 v:List Nat) (j i k c x vi:Nat) (hk:k=j+i) (hlen:k<U.length) (hx:x<B32) (hU:U.getD k 0=x) (p9:v.getD i 0=vi) (NS:vi<B32) (hc:c<=1)
  (hv:val B32 U+c*B32 ^ k=val B32 U0+val B32 (v.take i)*B32 ^ j) :
  addLo x vi c<B32/\addHi x vi c<=1/\val B32 (U.set k (addLo x vi c))+addHi x vi c*B32 ^ (k+1)=val B32 U0+val B32 (v.take (i+1))*B32 ^ j:=by
 have ap:=uo hx NS hc;generalize addLo x vi c=s at *
 generalize addHi x vi c=a at *
 refine⟨ap.2.1,ap.2.2,?_⟩;have v1:=kx B32 U k s hlen;rw[hU]at v1;rw[mf,p9,qX]
 have e1:(val B32 (v.take i)+vi*B32 ^ i)*B32 ^ j=val B32 (v.take i)*B32 ^ j+vi*B32 ^ k:=by
  rw[hk,Nat.pow_add];grind
 rw[e1];generalize B32 ^ k=P at *
 generalize val B32 (v.take i)*B32 ^ j=G at *
 generalize val B32 (U.set k s)=A at *
 generalize val B32 U=A0 at *
 generalize val B32 U0=Z_0 at *
 have e2:(s+a*B32)*P=(x+vi+c)*P:=by rw[ap.1]
 grind
structure Long (X V n g:Nat) (U q:List Nat):Prop where
 dU:Dig B32 U
 dq:Dig B32 q
 top:val B32 (U.drop g)<V
 sum:X=val B32 U+V*val B32 q
 low:∀k,k<g->q.getD k 0=0
theorem Long.rem {X V n j:Nat} {U q:List Nat} (h:Long X V n (j+1) U q) (hj:j+(n+1)<=U.length) (hV:V<B32 ^ n) :
  val B32 (mid U j (n+1))<B32*V/\val B32 (U.drop j)=val B32 (mid U j (n+1))/\val B32 (U.drop (j+(n+1)))=0:=by
 have h1:=dO B32 U j;have h2:=h.dU.getD (show 0<B32 by decide) j;have h3:=h.top
 have h0:val B32 (U.drop (j+(n+1)))=0:=by
  have e:=ep B32 (U.drop (j+1)) n (by simp;omega);rw[List.drop_drop,show j+1+n=j+(n+1) by omega]at e;rcases qz (val B32 (U.drop (j+(n+1)))) with h | h
  ·exact h
  ·exfalso;have:B32 ^ n*1<=B32 ^ n*val B32 (U.drop (j+(n+1))):=qb _ h;omega
 have h4:val B32 (U.drop j)=val B32 (mid U j (n+1)):=by
  have e:=ep B32 (U.drop j) (n+1) (by simp;omega);rw[List.drop_drop,h0,Nat.mul_zero,qY]at e;exact e
 refine⟨?_,h4,h0⟩;rw[<-h4,h1];have:B32*(val B32 (U.drop (j+1))+1)<=B32*V:=qb _ h3;rw[Nat.mul_add]at this;omega
theorem Long.next {X V n j:Nat} {U q U':List Nat} (h:Long X V n (j+1) U q) (hj:j+(n+1)<=U.length) (hV:V<B32 ^ n) (ng:0<V) (FN:j<q.length) (ha:Alike U' U j (n+1)) (hD:Dig B32 U')
  (hm:val B32 (mid U' j (n+1))=val B32 (mid U j (n+1)) % V):Long X V n j U' (q.set j (val B32 (mid U j (n+1)) / V)):=by
 obtain⟨r1,r2,r3⟩:=h.rem hj hV;have af:=qm (val B32 (mid U j (n+1))) ng;have e:=qj (val B32 (mid U j (n+1))) V;have Px:val B32 (mid U j (n+1)) / V<B32:=Nat.div_lt_of_lt_mul (by rw[qW];exact r1);have ak:j+(n+1)<=U'.length:=by rw[ha.1];exact hj
 refine⟨hD,h.dq.set _ _ Px,?_,?_,fun k hk=>by rw[getD_set_ne _ _ _ _ (by omega)];exact h.low k oM⟩
 ·have e2:=ep B32 (U'.drop j) (n+1) (by simp;omega);rw[List.drop_drop,ha.drop,r3,Nat.mul_zero,qY]at e2;rw[e2];show val B32 (mid U' j (n+1))<V;rw[hm];exact af
 ·have v1:=kx B32 q j (val B32 (mid U j (n+1)) / V) FN;rw[h.low j oM,Nat.zero_mul,qY]at v1;rw[v1,h.sum,vH U j (n+1) hj,vH U' j (n+1) ak,ha.take,ha.drop,r3,hm];generalize val B32 (mid U j (n+1)) / V=d at *
  generalize val B32 (mid U j (n+1)) % V=m at *
  generalize val B32 (mid U j (n+1))=R at *
  subst e;grind
theorem Ve (y':List Nat) (t s k:Nat) (hD:Dig B32 y') (h1:t<2 ^ k) (h2:2 ^ (k-1)<=t) (hk:0<k) (hs:s+k=32) :
  (val B32 y'+t*B32 ^ y'.length)*2 ^ s<B32 ^ (y'.length+1)/\B32 ^ (y'.length+1)<=2*((val B32 y'+t*B32 ^ y'.length)*2 ^ s):=by
 have hv:=cZ hD;have e:B32=2 ^ k*2 ^ s:=by rw[im,<-Nat.pow_add];congr 1;omega
 have e2:B32=2*(2 ^ (k-1)*2 ^ s):=by rw[e,<-Nat.mul_assoc,qW 2,<-qX];congr 2;omega
 rw[qX];generalize val B32 y'=v at *
 generalize B32 ^ y'.length=P at *
 have nG:0<2 ^ s:=Nat.pow_pos oM;constructor
 ·have h3:(v+t*P)<2 ^ k*P:=by
   have:(t+1)*P<=2 ^ k*P:=qN _ h1;rw[qv]at this;omega
  have:=Nat.mul_lt_mul_of_pos_right h3 nG;have e3:2 ^ k*P*2 ^ s=P*B32:=by rw[e];grind
  omega
 ·have h3:2 ^ (k-1)*P<=v+t*P:=by
   have:2 ^ (k-1)*P<=t*P:=qN _ h2;omega
  have:=qN (2 ^ s) h3
  have e3:P*B32=2*(2 ^ (k-1)*P*2 ^ s):=by
   have:P*B32=P*(2*(2 ^ (k-1)*2 ^ s)):=by rw[<-e2]
   rw[this];grind
  omega
theorem top_words (l:List Nat) (n:Nat) (h:Dig B32 l) (hl:l.length=n) (hn:2<=n):val B32 l=(l.getD (n-1) 0*B32+l.getD (n-2) 0)*B32 ^ (n-2)+val B32 (l.take (n-2))/\val B32 (l.take (n-2))<B32 ^ (n-2):=by
 have e:=ep B32 l (n-2) oM;have af:=cZ (h.take (n-2));rw[qP,qn (by omega)]at af;refine⟨?_,af⟩;rw[e,dO,dO B32 l (n-2+1),show n-2+1=n-1 by omega,qi (show l.length<=n-1+1 by omega),nx];grind
theorem top_half (l:List Nat) (n:Nat) (h:Dig B32 l) (hl:l.length=n) (hn:1<=n) (hV:B32 ^ n<=2*val B32 l):B32<=2*l.getD (n-1) 0:=by
 have e:=ep B32 l (n-1) oM;have af:=cZ (h.take (n-1));rw[qP,qn (by omega)]at af;rw[dO,show n-1+1=n by omega,qi (show l.length<=n by omega),nx,Nat.mul_zero,qY]at e;generalize l.getD (n-1) 0=v1 at *
 obtain⟨m,rfl⟩:∃m,n=m+1:=⟨n-1,by omega⟩;rw[Nat.add_sub_cancel]at *
 rw[qX]at hV;generalize val B32 (l.take m)=a at *
 generalize val B32 l=b at *
 generalize B32 ^ m=P at *
 have h1:P*B32<P*(2*(v1+1)):=by
  have:P*(2*(v1+1))=2*(P*v1)+2*P:=by grind
  omega
 have h2:=Nat.lt_of_mul_lt_mul_left h1;simp only[dY]at *
 omega
theorem top3_words (l:List Nat) (n:Nat) (h:Dig B32 l) (hl:l.length=n+1) (hn:2<=n):val B32 l=((l.getD n 0*B32+l.getD (n-1) 0)*B32+l.getD (n-2) 0)*B32 ^ (n-2)+val B32 (l.take (n-2))/\val B32 (l.take (n-2))<B32 ^ (n-2):=by
 have e:=ep B32 l (n-2) oM;have af:=cZ (h.take (n-2));rw[qP,qn (by omega)]at af;refine⟨?_,af⟩;rw[e,dO,dO B32 l (n-2+1),show n-2+1=n-1 by omega,dO B32 l (n-1+1),show n-1+1=n by omega,qi (show l.length<=n+1 by omega),nx];grind
theorem getD_mid (l:List Nat) (j k i:Nat) (hi:i<k):(mid l j k).getD i 0=l.getD (j+i) 0:=by
 unfold mid;rw[oo,if_pos hi,yu]
theorem Long.guess {X V n j:Nat} {U q vl:List Nat} (h:Long X V n (j+1) U q) (hj:j+(n+1)<=U.length) (hn:2<=n) (hV:V<B32 ^ n) (WU:B32 ^ n<=2*V) (eQ:vl.length=n) (k6:Dig B32 vl) (uB:val B32 vl=V) :
  U.getD (j+n) 0<=vl.getD (n-1) 0/\∀g,g<B32->g*(vl.getD (n-1) 0*B32+vl.getD (n-2) 0)<=(U.getD (j+n) 0*B32+U.getD (j+(n-1)) 0)*B32+U.getD (j+(n-2)) 0 ->
   ((U.getD (j+n) 0*B32+U.getD (j+(n-1)) 0)*B32+U.getD (j+(n-2)) 0<(g+1)*(vl.getD (n-1) 0*B32+vl.getD (n-2) 0)\/g=B32-1) ->
   val B32 (mid U j (n+1)) / V<=g/\g<=val B32 (mid U j (n+1)) / V+1:=by
 obtain⟨r1,r2,r3⟩:=h.rem hj hV;have wG:=top_words vl n k6 eQ hn;have h3:=top3_words (mid U j (n+1)) n (mid_dig h.dU _ _) (mid_length _ _ _ hj) hn;rw[getD_mid _ _ _ _ oM,getD_mid _ _ _ _ oM,getD_mid _ _ _ _ (by omega)]at h3;rw[uB]at wG
 have hP:B32*B32 ^ (n-2)<=V:=by
  have e:B32 ^ n=B32*(B32*B32 ^ (n-2)):=by rw[<-Nat.mul_assoc,qW,<-Nat.pow_two,<-Nat.pow_add];congr 1;omega
  have:2*(B32*B32 ^ (n-2))<=B32*(B32*B32 ^ (n-2)):=qN _ bN;omega
 constructor
 ·have e1:(mid U j (n+1)).length=n+1:=mid_length _ _ _ hj;have h4:=h.top
  have h5:val B32 (U.drop (j+1))>=U.getD (j+n) 0*B32 ^ (n-1):=by
   have e:=ep B32 (U.drop (j+1)) (n-1) (by simp;omega);rw[List.drop_drop,dO B32 U (j+1+(n-1)),show j+1+(n-1)=j+n by omega]at e
   have:U.getD (j+n) 0*B32 ^ (n-1)<=B32 ^ (n-1)*(U.getD (j+n) 0+B32*val B32 (U.drop (j+n+1))):=by
    rw[qW];exact qb _ oM
   omega
  have h6:V<(vl.getD (n-1) 0+1)*B32 ^ (n-1):=by
   have e:=ep B32 vl (n-1) oM;have af:=cZ (k6.take (n-1));rw[qP,qn (by omega)]at af;rw[dO,show n-1+1=n by omega,qi (show vl.length<=n by omega),nx,Nat.mul_zero,qY,uB]at e;rw[e,qv,qW (vl.getD (n-1) 0)];omega
  have h7:U.getD (j+n) 0*B32 ^ (n-1)<(vl.getD (n-1) 0+1)*B32 ^ (n-1):=oM;have:=Nat.lt_of_mul_lt_mul_right h7;omega
 ·intro g hg h1 h2;exact UJ h3.1 h3.2 wG.1 wG.2 (by decide) r1 hP h1 hg h2
theorem sub_end (U U1:List Nat) (V g c b xu j n:Nat) (ml:j+(n+1)<=U.length) (bH:Alike U1 U j (n+1)) (hD:Dig B32 U) (iR:Dig B32 U1) (mL:U1.getD (j+n) 0=xu) (hc:c<B32) (hb:b<=1)
  (hv:val B32 U1+g*V*B32 ^ j=val B32 U+(b+c)*B32 ^ (j+n)) (ng:0<V) (hV:V<B32 ^ n) (h1:val B32 (mid U j (n+1)) / V<=g) (h2:g<=val B32 (mid U j (n+1)) / V+1) :
  Alike (U1.set (j+n) (subLo xu c b)) U j (n+1)/\Dig B32 (U1.set (j+n) (subLo xu c b))/\subHi xu c b<=1 /\
  (subHi xu c b=0->g=val B32 (mid U j (n+1)) / V/\val B32 (mid (U1.set (j+n) (subLo xu c b)) j (n+1))=val B32 (mid U j (n+1)) % V) /\
  (subHi xu c b=1->g=val B32 (mid U j (n+1)) / V+1/\val B32 (mid (U1.set (j+n) (subLo xu c b)) j (n+1))+V=val B32 (mid U j (n+1)) % V+B32 ^ (n+1)):=by
 have iB:j+n<U1.length:=by rw[bH.1];omega
 have EO:xu<B32:=by rw[<-mL];exact iR.getD (by decide) _
 have sp:=Cr EO hc hb;have aG:=kx B32 U1 (j+n) (subLo xu c b) iB;rw[mL]at aG
 have PX:val B32 (U1.set (j+n) (subLo xu c b))+g*V*B32 ^ j=val B32 U+subHi xu c b*B32 ^ (j+(n+1)):=by
  rw[show j+(n+1)=j+n+1 by omega,qX];have e2:(subLo xu c b+c+b)*B32 ^ (j+n)=(xu+subHi xu c b*B32)*B32 ^ (j+n):=by rw[sp.1]
  generalize B32 ^ (j+n)=P at *
  generalize g*V*B32 ^ j=G at *
  generalize val B32 (U1.set (j+n) (subLo xu c b))=A at *
  generalize subLo xu c b=s at *
  generalize subHi xu c b=t at *
  grind
 have eJ:=bH.set (j+n) (subLo xu c b) oM oM;have gW:=iR.set (j+n) (subLo xu c b) sp.2.1;have eH:j+(n+1)<=(U1.set (j+n) (subLo xu c b)).length:=by rw[eJ.1];exact ml
 have AZ:=eJ.mid_eq eH PX
 have J6:V<=B32 ^ (n+1):=by
  have h2:B32 ^ n<=B32 ^ (n+1):=qc (by decide) oM;omega
 have P2:val B32 (mid U j (n+1))<B32 ^ (n+1):=by
  have:=cZ (mid_dig hD j (n+1));rwa [mid_length _ _ _ ml]at this
 have F2:val B32 (mid (U1.set (j+n) (subLo xu c b)) j (n+1))<B32 ^ (n+1):=by
  have:=cZ (mid_dig gW j (n+1));rwa [mid_length _ _ _ eH]at this
 have y6:=Tn ng J6 AZ F2 P2 h1 h2;exact⟨eJ,gW,sp.2.2,y6.1,fun h=>(y6.2 oM).2⟩
theorem add_end (U2 U3:List Nat) (V c xu j n m:Nat) (ml:j+(n+1)<=U2.length) (bH:Alike U3 U2 j n) (gJ:Dig B32 U3) (mL:U3.getD (j+n) 0=xu) (hc:c<=1)
  (hv:val B32 U3+c*B32 ^ (j+n)=val B32 U2+V*B32 ^ j) (hm:val B32 (mid U2 j (n+1))+V=m+B32 ^ (n+1)) (CT:m<B32 ^ (n+1)) :
  Alike (U3.set (j+n) ((xu+c) % B32)) U2 j (n+1)/\Dig B32 (U3.set (j+n) ((xu+c) % B32))/\val B32 (mid (U3.set (j+n) ((xu+c) % B32)) j (n+1))=m:=by
 have iB:j+n<U3.length:=by rw[bH.1];omega
 have EO:xu<B32:=by rw[<-mL];exact gJ.getD (by decide) _
 have Bt:Alike U3 U2 j (n+1):=⟨bH.1,fun i hi=>bH.2 i oM⟩;have eJ:=Bt.set (j+n) ((xu+c) % B32) oM oM;have gW:=gJ.set (j+n) ((xu+c) % B32) (qm _ (by decide));have eH:j+(n+1)<=(U3.set (j+n) ((xu+c) % B32)).length:=by rw[eJ.1];exact ml
 refine⟨eJ,gW,?_⟩;have aG:=kx B32 U3 (j+n) ((xu+c) % B32) iB;rw[mL]at aG;have e:=qj (xu+c) B32
 have hU:val B32 U2+V*B32 ^ j=val B32 (U3.set (j+n) ((xu+c) % B32))+(xu+c) / B32*B32 ^ (j+(n+1)):=by
  rw[show j+(n+1)=j+n+1 by omega,qX];generalize (xu+c) / B32=a at *
  generalize (xu+c) % B32=s at *
  have e2:(B32*a+s)*B32 ^ (j+n)=(xu+c)*B32 ^ (j+n):=by rw[e]
  generalize B32 ^ (j+n)=P at *
  generalize val B32 (U3.set (j+n) s)=A at *
  grind
 have dB:Alike U2 (U3.set (j+n) ((xu+c) % B32)) j (n+1):=⟨eJ.1.symm,fun i hi=>(eJ.2 i hi).symm⟩;have AZ:=dB.mid_eq ml hU
 have F2:val B32 (mid (U3.set (j+n) ((xu+c) % B32)) j (n+1))<B32 ^ (n+1):=by
  have:=cZ (mid_dig gW j (n+1));rwa [mid_length _ _ _ eH]at this
 rw[hm]at AZ;generalize val B32 (mid (U3.set (j+n) ((xu+c) % B32)) j (n+1))=d at *
 generalize (xu+c) / B32=a at *
 generalize B32 ^ (n+1)=M at *
 have ha:a=1:=by
  rcases Nat.lt_or_ge a 1 with h | h
  ·have:a=0:=oM;subst this;omega
  ·rcases Nat.lt_or_ge a 2 with h2 | h2
   ·omega
   ·have:2*M<=a*M:=qN M h2;omega
 subst ha;omega
theorem Long.final {X V n xv yv s:Nat} {U q:List Nat} (h:Long X V n 0 U q) (hX:X=xv*2 ^ s) (Gp:V=yv*2 ^ s) (hV:V<B32 ^ n) (hn:n<=U.length) :
  val B32 q=xv / yv/\val B32 (U.take n) / 2 ^ s=xv % yv:=by
 have cD:=h.top;rw[List.drop_zero]at cD;have bk:=h.sum;have ng:0<V:=oM;have nG:0<2 ^ s:=Nat.pow_pos oM;have e1:X / V=val B32 q:=by rw[bk,Nat.add_mul_div_left _ _ ng,Nat.div_eq_of_lt cD,qu]
 have e2:X % V=val B32 U:=by rw[bk,Nat.add_mul_mod_self_left,qT cD]
 have PT:val B32 (U.take n)=val B32 U:=by
  have e:=ep B32 U n hn;rcases qz (val B32 (U.drop n)) with h0 | h0
  ·rw[h0,Nat.mul_zero,qY]at e;exact e.symm
  ·exfalso;have:B32 ^ n*1<=B32 ^ n*val B32 (U.drop n):=qb _ h0;omega
 rw[hX,Gp,Nat.mul_div_mul_right _ _ nG]at e1;rw[hX,Gp,Nat.mul_mod_mul_right]at e2;refine⟨e1.symm,?_⟩;rw[PT,<-e2,Nat.mul_div_cancel _ nG]
end L32
theorem aO (i:Nat) (h:i<=4000000000000):IntKind.i64.wrap ((i:Int)+1)=((i+1:Nat):Int):=by rw[pL];omega
theorem Dy (i:Nat) (h0:0<i) (h:i<=4000000000000):IntKind.i64.wrap ((i:Int)-1)=((i-1:Nat):Int):=by rw[pL];omega
theorem BW (i j:Nat) (h:i+j<=4000000000000):IntKind.i64.wrap ((i:Int)+(j:Int))=((i+j:Nat):Int):=by rw[pL];omega
theorem Rh (i j:Nat) (h0:j<=i) (h:i<=4000000000000):IntKind.i64.wrap ((i:Int)-(j:Int))=((i-j:Nat):Int):=by rw[pL];omega
theorem KG (k i:Nat) (h:k*i<=4000000000000):IntKind.i64.wrap ((k:Int)*(i:Int))=((k*i:Nat):Int):=by
 rw[<-Int.natCast_mul,pL];generalize k*i=q at *
 omega
theorem vD (i k:Nat) (h:i<=4000000000000):IntKind.i64.wrap ((i:Int).tdiv (k:Int))=((i / k:Nat):Int):=by
 rw[Int.tdiv_eq_ediv_of_nonneg oM,<-Int.natCast_ediv,pL];have:=Nat.div_le_self i k;generalize i / k=q at *
 omega
theorem Dx (i k:Nat):(i:Int).tmod (k:Int)=((i % k:Nat):Int):=by
 rw[Int.tmod_eq_emod_of_nonneg oM,Int.natCast_emod]
theorem X8 (n:Nat):IntKind.u64.wrap (n:Int)=((n % W64:Nat):Int):=vZ n
theorem gX (n:Nat) (h:n<W64):IntKind.u64.wrap (n:Int)=(n:Int):=by rw[X8,qT h]
theorem pn (n:Nat):IntKind.u32.wrap (n:Int)=((n % B32:Nat):Int):=by rw[DN,show B32=4294967296 from rfl];omega
theorem tV (a b:Nat) (h:a+b<W64):IntKind.u64.wrap ((a:Int)+(b:Int))=((a+b:Nat):Int):=by rw[<-Int.natCast_add,gX _ h]
theorem KE (a b:Nat) (h:a*b<W64):IntKind.u64.wrap ((a:Int)*(b:Int))=((a*b:Nat):Int):=by rw[<-Int.natCast_mul,gX _ h]
theorem Hm (x p:Nat):(x:Int).fdiv (2 ^ p)=((x / 2 ^ p:Nat):Int):=by
 rw[show ((2:Int) ^ p)=((2 ^ p:Nat):Int) by push_cast;rfl,Int.fdiv_eq_ediv_of_nonneg _ (Int.natCast_nonneg _),<-Int.natCast_ediv]
theorem Dw (x p:Nat):IntKind.u64.wrap ((x:Int)*2 ^ p)=((x*2 ^ p % W64:Nat):Int):=DU x p
theorem tX (a b:Nat) (h:a<b):decide ((a:Int)<(b:Int))=true:=by simpa using h
theorem ue (a b:Nat) (h:¬a<b):decide ((a:Int)<(b:Int))=false:=by simpa using h
theorem iV {enc:Nat->Value} {l:List Nat} {i:Nat} (h:i<l.length):(l.map enc)[i]?=some (enc (l.getD i 0)):=by
 rw[qK,qB,qA h];rfl
def xT {α:Type} (env:Env):List Nat->(Env->Option α)->Option α
 | [],k=>k []
 | t::ts,k=>match env.get t with
  | some s=>xT env ts fun r=>k ((t,s)::r)
  | none=>none
def vk {α:Type} (bx:Bxs):List Nat->(Bxs->Option α)->Option α
 | [],k=>k []
 | t::ts,k=>match bx.get t with
  | some s=>vk bx ts fun r=>k ((t,s)::r)
  | none=>none
theorem Uc {α:Type} {env:Env}:∀{ts:List Nat} {k:Env->Option α} {r:α},xT env ts k=some r->∃K,k K=some r/\fq env K
 | [],k,r,h=>⟨[],h,trivial⟩
 | t::ts,k,r,h=>by
  unfold xT at h;split at h
  ·rename_i s hs;obtain⟨K,h1,h2⟩:=Uc h;exact⟨_,h1,hs,h2⟩
  ·cases h
theorem Ub {α:Type} {bx:Bxs}:∀{ts:List Nat} {k:Bxs->Option α} {r:α},vk bx ts k=some r->∃K,k K=some r/\fx bx K
 | [],k,r,h=>⟨[],h,trivial⟩
 | t::ts,k,r,h=>by
  unfold vk at h;split at h
  ·rename_i s hs;obtain⟨K,h1,h2⟩:=Ub h;exact⟨_,h1,hs,h2⟩
  ·cases h
theorem Ud {env:Env} {ts:List Nat} {K:Env} (h:xT env ts some=some K):fq env K:=by
 obtain⟨K',h1,h2⟩:=Uc h;cases h1;exact h2
theorem Mm {bx:Bxs} {ts:List Nat} {K:Bxs} (h:vk bx ts some=some K):fx bx K:=by
 obtain⟨K',h1,h2⟩:=Ub h;cases h1;exact h2
theorem fq.app {env:Env}:∀{M K:Env},fq env M->fq env K->fq env (M++K)
 | [],_,_,h=>h
 | (_,_)::_,_,h,k=>⟨h.1,fq.app h.2 k⟩
theorem fx.app {bx:Bxs}:∀{M K:Bxs},fx bx M->fx bx K->fx bx (M++K)
 | [],_,_,h=>h
 | (_,_)::_,_,h,k=>⟨h.1,fx.app h.2 k⟩
section
variable {P:Program} {n:Nat} {ops:Array Oper} {o:Oper} {rest:List Oper} {env:Env} {bx:Bxs} {sb:Bxs} {ow:Ows} {H:Hs} {Q:EQ} {τ:Tab} {d:Nat} {s:SV}
theorem EV.loopK {c:Code} {ι:Type} (ks kb:List Nat) (M:ι->Env) (MB:ι->Bxs) (O:ι->Ows) (I:ι->Hp->Prop) (μ:ι->Nat) (i0:ι) {K:Env} {KB:Bxs}
  (hk:xT env ks some=some K) (fu:vk bx kb some=some KB) (he:fq env (M i0)) (hb:fx bx (MB i0)) (ho:H.ow=O i0) (hp:∀i,zH (M i++K) (MB i++KB)=true) (h0:I i0 H.ro)
  (h:∀i G,H.ro.Le G->I i G->EV P n c (M i++K) (MB i++KB) ⟨G,O i,H.base⟩ (eO (fun aA aw G'=>∃i',fq aA (M i')/\fq aA K/\fx aw (MB i')/\fx aw KB/\G'.ow=O i'/\I i' G'.ro/\G.Le G'.ro/\μ i'<μ i) Q)):EV P n (.loop c) env bx H Q:=by
 refine EV.loop (fun i=>M i++K) (fun i=>MB i++KB) O I μ i0 (he.app (Ud hk)) (hb.app (Mm fu)) ho hp h0 fun i G hG hI=>?_;refine EV.meet _ ?_ (h i G hG hI);rintro aA aw G' _ ⟨i',h1,h2,h3,h4,h5⟩;exact⟨i',h1.app h2,h3.app h4,h5⟩
theorem EV.meetK {c c':Code} {Q':EQ} {ι:Type} (ks kb:List Nat) (M:ι->Env) (MB:ι->Bxs) (O:ι->Ows) (I:ι->Hp->Prop) {K:Env} {KB:Bxs}
  (hk:xT env ks some=some K) (fu:vk bx kb some=some KB) (hp:∀i,zH (M i++K) (MB i++KB)=true)
  (h:EV P n c env bx H (eO (fun aA aw G'=>∃i,fq aA (M i)/\fq aA K/\fx aw (MB i)/\fx aw KB/\G'.ow=O i/\I i G'.ro) Q))
  (hR:∀i G,I i G->EV P n c' (M i++K) (MB i++KB) ⟨G,O i,H.base⟩ Q'):EV P n c env bx H (eO (fun env bx H=>EV P n c' env bx H Q') Q):=by
 refine EV.meet _ ?_ h;rintro aA aw ⟨ro,ow,base⟩ hb ⟨i,h1,h2,h3,h4,h5,h6⟩;have dF:base=H.base:=hb;have GR:ow=O i:=h5;subst dF GR;exact EV.less _ _ (h1.app h2) (h3.app h4) (hp i) (hR i ro h6)
theorem EVL.meetK {c':Code} {Q':EQ} {ι:Type} (ks kb:List Nat) (M:ι->Env) (MB:ι->Bxs) (O:ι->Ows) (I:ι->Hp->Prop) {K:Env} {KB:Bxs}
  (hk:xT env ks some=some K) (fu:vk bx kb some=some KB) (hp:∀i,zH (M i++K) (MB i++KB)=true)
  (h:EVL P n ops rest env bx H (eO (fun aA aw G'=>∃i,fq aA (M i)/\fq aA K/\fx aw (MB i)/\fx aw KB/\G'.ow=O i/\I i G'.ro) Q))
  (hR:∀i G,I i G->EV P n c' (M i++K) (MB i++KB) ⟨G,O i,H.base⟩ Q'):EVL P n ops rest env bx H (eO (fun env bx H=>EV P n c' env bx H Q') Q):=by
 refine EVL.meet _ ?_ h;rintro aA aw ⟨ro,ow,base⟩ hb ⟨i,h1,h2,h3,h4,h5,h6⟩;have dF:base=H.base:=hb;have GR:ow=O i:=h5;subst dF GR;exact EV.less _ _ (h1.app h2) (h3.app h4) (hp i) (hR i ro h6)
theorem EVL.app1 {o1 o2:Oper} {d1:Nat} (hτ:bp P τ) {T:TypeId} {len:Nat} {parts:Array (Nat × Operand)} {x:Operand} (wS:o1.op=.buildSlice T len parts) (km:o1.guard=none) (fT:o1.dst=some d1) (uM:Nat.blt d1 n=true)
  (oJ:o2.op=.call { callee:=.builtin .append,args:=#[x,.tmp d1],argTypes:=#[T,T] }) (nT:o2.guard=none) (ri:o2.dst=some d) (mj:Nat.blt d n=true) {te te':TE} {e:TypeId} (ht:τ.get T=some te) (hk:te.kind=.slice e) (aM:τ.get e=some te')
  (cd:Nat.beq te'.zero.length te'.size=true) (bQ:Nat.ble 1 (len*te'.size)=true) (eS:Nat.ble (len*te'.size) 10000=true) {cs:List Value} (hc:zI te'.zero len (fun zs=>zt env te'.size parts.toList zs some)=some cs)
  (su:Nat.ble 1 te'.size=true) (lI:Nat.ble te'.bytes 10000=true) (h1:oneB cs=true) (cj:cs.length=len*te'.size)
  {v:Value} (hx:∀b,Env.op ((d1,.v (.slice (some ⟨b,0,none⟩) len len))::env) x=some (.v v)) (ow post:Ows) (he:H.ow=ow++post) {m1:Nat} {xs:List Value} (ah:aF e te'.size v m1 xs ow) (hm:m1+len<=1000000000)
  (h:∀b v' au,aF e te'.size v' (m1+len) (xs++cs) au->EVL P n ops rest ((d,.v v')::(d1,.v (.slice (some ⟨b,0,none⟩) len len))::env) bx ⟨H.ro,au++post,H.base⟩ Q):EVL P n ops (o1::o2::rest) env bx H Q:=by
 refine EVL.lit hτ wS km fT uM ht hk aM cd bQ eS hc fun b=>?_;refine EVL.append hτ oJ nT ri mj ht hk aM cd su lI (hx b) (u:=.slice (some ⟨b,0,none⟩) len len) (m2:=len) (ys:=cs) ?_ [(b,e,cs)] ow post (by rw[he];rfl) ah (iJ.own 0 rfl cj) h1 hm fun v' au ao=>?_
 ·simp only[Env.op,Env.get_cons,if_pos]
 ·exact EVL.subOw [] [(b,e,cs)] (au++post) Z (h b v' au ao)
theorem EVL.app1N {o1 o2:Oper} {d1:Nat} (hτ:bp P τ) {T:TypeId} {len:Nat} {parts:Array (Nat × Operand)} {x:Operand} (wS:o1.op=.buildSlice T len parts) (km:o1.guard=none) (fT:o1.dst=some d1) (uM:Nat.blt d1 n=true)
  (oJ:o2.op=.call { callee:=.builtin .append,args:=#[x,.tmp d1],argTypes:=#[T,T] }) (nT:o2.guard=none) (ri:o2.dst=some d) (mj:Nat.blt d n=true) {te te':TE} {e:TypeId} (ht:τ.get T=some te) (hk:te.kind=.slice e) (aM:τ.get e=some te')
  (cd:Nat.beq te'.zero.length te'.size=true) (bQ:Nat.ble 1 (len*te'.size)=true) (eS:Nat.ble (len*te'.size) 10000=true) {cs:List Value} (hc:zI te'.zero len (fun zs=>zt env te'.size parts.toList zs some)=some cs)
  (su:Nat.ble 1 te'.size=true) (lI:Nat.ble te'.bytes 10000=true) (h1:oneB cs=true) (cj:cs.length=len*te'.size)
  {v:Value} (hx:∀b,Env.op ((d1,.v (.slice (some ⟨b,0,none⟩) len len))::env) x=some (.v v)) (ow post:Ows) (he:H.ow=ow++post) {m1:Nat} {xs:List Value} (ah:aF e te'.size v m1 xs ow) (hm:m1+len<=1000000000)
  (h:∀b v' au,aF e te'.size v' (m1+len) (xs++cs) au->(∀k,k∈H.base.lent->(∀p,p∈ow->k≠p.1)->∀p,p∈au->k≠p.1)->EVL P n ops rest ((d,.v v')::(d1,.v (.slice (some ⟨b,0,none⟩) len len))::env) bx ⟨H.ro,au++post,H.base⟩ Q):EVL P n ops (o1::o2::rest) env bx H Q:=by
 refine EVL.lit hτ wS km fT uM ht hk aM cd bQ eS hc fun b=>?_;refine EVL.appendN hτ oJ nT ri mj ht hk aM cd su lI (hx b) (u:=.slice (some ⟨b,0,none⟩) len len) (m2:=len) (ys:=cs) ?_ [(b,e,cs)] ow post (by rw[he];rfl) ah (iJ.own 0 rfl cj) h1 hm fun v' au ao ia=>?_
 ·simp only[Env.op,Env.get_cons,if_pos]
 ·exact EVL.subOw [] [(b,e,cs)] (au++post) Z (h b v' au ao ia)
end
section
variable {P:Program} {n:Nat} {ops:Array Oper} {o:Oper} {rest:List Oper} {env:Env} {bx:Bxs} {H:Hs} {Q:EQ}
theorem EV.drawnK {id:Nat} {l:List Oper} (ks ka kb:List Nat) (m:Nat) {K:Env} {SB KB:Bxs} {kl:List DK} (hk:xT env ks some=some K) (xe:vk bx ka some=some SB) (fu:vk bx kb some=some KB) (hp:zH K (SB++KB)=true)
  (hm:P.follows .mixedOrders=true) (hB:BH l.toArray m n=true)
  (h:∀x y,DJ P n l.toArray (l.drop m) SB KB H Q x y kl 0 (l.take m) kl K (SB++KB) [] H.ow) (hS:ot 0 kl []=true) (hS2:od kl []=true) (hD:(SB.all fun p=>(KB.get p.1).isNone)=true):EV P n (.region id l.toArray true) env bx H Q :=
 EV.less _ _ (Ud hk) ((Mm xe).app (Mm fu)) hp (EV.drawnS SB m hm hB h hS hS2 hD)
end
section
variable {P:Program} {n:Nat} {ops:Array Oper} {o:Oper} {rest:List Oper} {env:Env} {bx:Bxs} {H:Hs} {Q:EQ} {τ:Tab} {d:Nat}
theorem Su {T e:TypeId} (hk:P.underlying T=some (.slice e)) (size:Nat) (a:Option Addr) (c:Nat) (W:World):Src P size T (.slice a 0 c) 0 [] W:=by
 refine⟨.inl ⟨e,hk⟩,fun w'=>by simp[Builtin.lenOf],?_,?_,by simp,by simp⟩ <;> cases a <;> simp[Builtin.firstCells,loadCells,loadCellsFrom]
theorem EVL.append0 (hτ:bp P τ) {T:TypeId} {x y:Operand} (ho:o.op=.call { callee:=.builtin .append,args:=#[x,y],argTypes:=#[T,T] }) (hw:aP ops env o=some true) (hd:o.dst=some d) (hn:Nat.blt d n=true) {te te':TE} {e:TypeId} (ht:τ.get T=some te) (hk:te.kind=.slice e) (aM:τ.get e=some te')
  {a a':Option Addr} {m c c':Nat} (hx:env.op x=some (.v (.slice a m c))) (hy:env.op y=some (.v (.slice a' 0 c'))) (hle:m<=c)
  (h:EVL P n ops rest ((d,.v (.slice a m c))::env) bx H Q):EVL P n ops (o::rest) env bx H Q:=by
 have aW:=(hτ.get ht).kind;rw[hk]at aW;have aN:P.underlying T=some (.slice e):=aW;obtain⟨zv,cz,mi⟩:=(hτ.get aM).info;obtain⟨i0,hi,eP,fC,iY⟩:=info_parts cz;refine EVL.gen hw hd hn (fun ev W he=>?_) h;have ex:=he x _ (by rw[ho];simp[Op.operands,Call.operands]) hx;have ey:=he y _ (by rw[ho];simp[Op.operands,Call.operands]) hy;have wK:=run_append_nothing (P:=P) W T T o.type e i0 aN hi a m c hle (.slice a' 0 c') (Su aN _ _ _ _);unfold execOp;simp only[ho,resolve,invoke,builtin,Sem.run_bind,Sem.run_pure,Result.andThen_ok,List.map_toArray,qx,List.map_nil,ex,ey,wK]
end
theorem Mg {α:Type} {env:Env}:∀{l:List Operand} {k:List Value->Option α} {r:α},dX env l k=some r->∃vs,k vs=some r/\∀ev:Operand->Value,(∀y x,y∈l->env.op y=some (.v x)->ev y=x)->l.map ev=vs
 | [],k,r,h=>⟨[],h,fun _ _=>rfl⟩
 | x::l,k,r,h=>by
  unfold dX at h;split at h
  ·rename_i v hv;obtain⟨vs,h1,h2⟩:=Mg h;exact⟨v::vs,h1,fun ev he=>by rw[qx,he x v (by simp) hv,h2 ev fun y x hy=>he y x (by simp[hy])]⟩
  ·cases h
section
variable {P:Program} {n:Nat} {ops:Array Oper} {o:Oper} {rest:List Oper} {env:Env} {bx:Bxs} {H:Hs} {Q:EQ} {τ:Tab} {d:Nat}
theorem EVL.buildArr {T:TypeId} {parts:Array (Nat × Operand)} (ho:o.op=.build T parts) (hw:aP ops env o=some true) (hd:o.dst=some d) (hn:Nat.blt d n=true) {vs:List Value} (ha:dX env (parts.toList.map (·.2)) some=some vs) {cs:List Value}
  (hb:P.built T ((parts.toList.map (·.1)).zip vs)=some cs.toArray) (h:EVL P n ops rest ((d,.v (.agg cs.toArray))::env) bx H Q):EVL P n ops (o::rest) env bx H Q:=by
 refine EVL.gen hw hd hn (fun ev W he=>?_) h;obtain⟨aX,e1,h2⟩:=Mg ha;cases e1;have h3:=h2 ev fun y x hy=>he y x (by rw[ho];simpa[Op.operands] using hy)
 have h4:((parts.map fun (i,x)=>(i,ev x)):Array (Nat × Value)).toList=(parts.toList.map (·.1)).zip vs:=by
  rw[<-h3,Array.toList_map];generalize parts.toList=l
  induction l with
  | nil=>rfl
  | cons p l ih=>simp only[qx,List.zip_cons_cons,ih]
 have:=run_build (P:=P) W T (parts.map fun (i,x)=>(i,ev x)) cs.toArray (by rw[h4];exact hb);unfold execOp;rw[ho];simp[this]
theorem EVL.indexArr (hτ:bp P τ) {T e:TypeId} {x y:Operand} (ho:o.op=.index T x y) (hw:aP ops env o=some true) (hd:o.dst=some d) (hn:Nat.blt d n=true) {len:Nat} (hu:P.underlying T=some (.array len e)) {te:TE} (ht:τ.get e=some te) (zh:te.agg=false) (cd:te.size=1)
  {cs:List Value} (hx:env.op x=some (.v (.agg cs.toArray))) {k:IntKind} {z:Int} (hy:env.op y=some (.v (.int k z))) (j:Nat) (hz:z=j) (hj:j<len) {v:Value} (hc:cs[j]?=some v)
  (h:EVL P n ops rest ((d,.v v)::env) bx H Q):EVL P n ops (o::rest) env bx H Q:=by
 refine EVL.gen hw hd hn (fun ev W he=>?_) h;have e1:=he x _ (by rw[ho];simp[Op.operands]) hx;have e2:=he y _ (by rw[ho];simp[Op.operands]) hy;subst hz;have hp:(part e cs.toArray j).run P W=.ok v W:=by simp[part,(hτ.get ht).agg,zh,hc]
 unfold execOp;simp only[ho,e1,e2,Instr.index,asIntOf,Sem.run_bind,Sem.run_pure,Result.andThen_ok,run_underlying hu];rw[if_pos ⟨by omega,by omega⟩];simp only[Sem.run_bind,(hτ.get ht).size,Result.andThen_ok,qU,cd,Nat.mul_one,hp]
end
theorem flat_len {α:Type} (f:α->List Value) (s:Nat):∀(l:List α),(∀x,x∈l->(f x).length=s)->(l.flatMap f).length=l.length*s
 | [],_=>by simp
 | y::l,h=>by
  have h1:=h y (qf ..);have:=flat_len f s l (fun z hz=>h z (qk _ hz));rw[List.flatMap_cons,qJ,this,h1,qR,Nat.succ_mul];omega
theorem yy {α:Type} (f:α->List Value) (s:Nat):∀(l:List α),(∀x,x∈l->(f x).length=s)->∀(j:Nat) (x:α),l[j]?=some x->((l.flatMap f).drop (j*s)).take s=f x
 | [],_,j,x,h=>by simp at h
 | y::l,hl,0,x,h=>by
  have hy:=hl y (qf ..);simp at h;subst h;rw[List.flatMap_cons,Nat.zero_mul,List.drop_zero,<-hy,List.take_left'];rfl
 | y::l,hl,j+1,x,h=>by
  have hy:=hl y (qf ..);have:=yy f s l (fun z hz=>hl z (qk _ hz)) j x (by simpa using h);rw[List.flatMap_cons,Nat.succ_mul,Nat.add_comm,<-List.drop_drop,List.drop_left' hy];exact this
section
variable {P:Program} {n:Nat} {ops:Array Oper} {o:Oper} {rest:List Oper} {env:Env} {bx:Bxs} {sb:Bxs} {ow:Ows} {H:Hs} {Q:EQ} {τ:Tab} {d:Nat} {s:SV}
theorem EVL.idxM (hτ:bp P τ) {T:TypeId} {x y:Operand} (ho:o.op=.indexAddr T x y) (hw:aP ops env o=some true) (hd:o.dst=some d) (hn:Nat.blt d n=true) {te te':TE} {e:TypeId} (ht:τ.get T=some te) (hk:te.kind=.slice e) (aM:τ.get e=some te')
  {v:Value} (hx:env.op x=some (.v v)) {k:IntKind} {z:Int} (hy:env.op y=some (.v (.int k z))) {m:Nat} {xs:List Value} (hs:SlC H.ro v m te'.size xs) (j:Nat) (hz:z=j) (hj:j<m) {cs:List Value} (hc:(xs.drop (j*te'.size)).take te'.size=cs)
  (h:EVL P n ops rest ((d,.ro cs)::env) bx H Q):EVL P n ops (o::rest) env bx H Q:=fun W0 β a W r=>by
 subst hc;have ex:a.eval x=v:=r.op hx;have ey:a.eval y=.int k z:=r.op hy;have aW:=(hτ.get ht).kind;rw[hk]at aW;have aN:P.underlying T=some (.slice e):=aW;rcases hs.2 with ⟨h0,_⟩ | ⟨b,off,cap,c',rfl,dV,hH,bC⟩
 ·omega
 ·have aY:(execOp a.eval o).run P W=.ok (.value (.pointer (some ⟨b,off+j*te'.size,none⟩))) W:=by
   unfold execOp;simp[ho,ex,ey,Instr.indexAt,asIntOf,run_underlying aN,hz,(hτ.get aM).size,Addr.add_mid,hj]
  unfold wpList;rw[if_pos (r.want hw)];refine .inl ?_;unfold Oper.wp;rw[aY,Oper.upon_value,hd];refine h W0 β _ W (r.put hn ⟨b,off+j*te'.size,c',rfl,hH,fun q u hq=>?_⟩ rfl);rw[pO]at hq;split at hq
  ·rw[List.getElem?_drop]at hq;rw[Nat.add_assoc];exact bC _ _ hq
  ·cases hq
theorem DJ.idxM {tail l:List Oper} {x:Nat->Value} {y:Nat->Ows} {au:Ows} {kl ks:List DK} {i:Nat} {aw:Bxs} {Γ:fO} (hτ:bp P τ) {T:TypeId} {u w:Operand} (ho:o.op=.indexAddr T u w) (hw:aP ops env o=some true) (hd:o.dst=some d) (hn:Nat.blt d n=true) {te te':TE} {e:TypeId} (ht:τ.get T=some te) (hk:te.kind=.slice e) (aM:τ.get e=some te')
  {v:Value} (hx:env.op u=some (.v v)) {k:IntKind} {z:Int} (hy:env.op w=some (.v (.int k z))) {m:Nat} {xs:List Value} (hs:SlC H.ro v m te'.size xs) (j:Nat) (hz:z=j) (hj:j<m) {cs:List Value} (hc:(xs.drop (j*te'.size)).take te'.size=cs)
  (h:DJ P n ops tail sb bx H Q x y kl (i+1) l ks ((d,.ro cs)::env) aw Γ au):DJ P n ops tail sb bx H Q x y kl i (o::l) (.sv (.ro cs)::ks) env aw Γ au:=by
 subst hc;exact DJ.ofVal (az.idx hτ ho hw ht hk aM hx hy hs j hz hj) hd hn Z h
theorem zjo {f:FuncId} (hc:fQ P f) {t:Nat} {args:Array Operand} {bW:Array TypeId} {o:Oper} (ho:o.op=.call ⟨.value (.tmp t),args,bW⟩) {a:Act} (ht:a.eval (.tmp t)=.func (.func f) #[] #[]) {vs:List Value} (hv:args.toList.map a.eval=vs) (W:World) :
  (execOp a.eval o).run P W=.ok (.enter f vs.toArray) W:=by
 have hm:args.map a.eval=vs.toArray:=by rw[<-hv,<-Array.toList_map]
 unfold execOp;simp only[ho,resolve,hm,ht,Deferred.ofValue,Sem.run_bind,Sem.run_pure,Result.andThen_ok,invoke];simp[hc vs.toArray W]
theorem az.callD {f:FuncId} {t:Nat} {args:Array Operand} {bW:Array TypeId} (ho:o.op=.call ⟨.value (.tmp t),args,bW⟩) (hw:aP ops env o=some true) (ht:env.get t=some (.v (.func (.func f) #[] #[]))) {vs:List Value} (ha:dX env args.toList some=some vs) {F:Hp->Prop} {Φ:Value->Hp->Prop} (hc:fQ P f) {R:Hp}
  (hpc:∀G,R.Le G->F G->PC P f vs.toArray G Φ):az P ops o env bx ow R F (fun _ v G=>Φ v G):=fun β a W G hle hf hgl hb _ hs hF=>by
 obtain⟨aX,hk,hm⟩:=oz env _ _ _ ha;cases hk;have aG:=hm β G a.eval (fun y s hy=>hs.op (by simp[ho,Op.operands,Call.operands];exact .inr (by simpa using hy)));have E1:a.eval (.tmp t)=.func (.func f) #[] #[]:=hs.op (s:=.v (.func (.func f) #[] #[])) (by simp[ho,Op.operands,Call.operands]) ht;rw[if_pos (hs.want hw)];unfold Oper.wp;rw[zjo hc ho E1 aG,Oper.upon_enter];refine((hpc G hle hF).run W hf hgl).mono ?_;rintro e W' ⟨v,H',rfl,hΦ,gT,jI,dF,aL⟩;exact⟨v,H',rfl,hΦ,gT,jI,dF,aL⟩
theorem DJ.callD {tail l:List Oper} {x:Nat->Value} {y:Nat->Ows} {au:Ows} {kl ks:List DK} {i:Nat} {aw:Bxs} {Γ:fO} {f:FuncId} {t:Nat} {args:Array Operand} {bW:Array TypeId} (ho:o.op=.call ⟨.value (.tmp t),args,bW⟩) (hw:aP ops env o=some true) (hd:o.dst=some d) (hn:Nat.blt d n=true)
  (ht:env.get t=some (.v (.func (.func f) #[] #[]))) {vs:List Value} (ha:dX env args.toList some=some vs) {v:Value} (hpc:PV P f vs.toArray v)
  (h:DJ P n ops tail sb bx H Q x y kl (i+1) l ks ((d,.v v)::env) aw Γ au):DJ P n ops tail sb bx H Q x y kl i (o::l) (.sv (.v v)::ks) env aw Γ au:=by
 refine⟨d,hd,hn,rfl,?_,h⟩;have:=az.callD (P:=P) (ops:=ops) (bx:=bx) (ow:=H.ow) (R:=H.ro) (F:=dD ops i Γ) (Φ:=fun u _=>u=v) ho hw ht ha hpc.can (fun G _ _=>(hpc.pc G).mono fun _ _ h _=>h.1);exact this
end
section
variable {P:Program} {ops:Array Oper} {md:Region.Mode} {Q Q':Exit->Act->World->Prop}
theorem Oper.wp_monoQ {o:Oper} {a:Act} {W:World} {K K':Act->World->Prop} (hk:∀a W,K a W->K' a W) (hq:∀e a W,Q e a W->Q' e a W) (h:Oper.wp P o a W K Q):Oper.wp P o a W K' Q':=by
 have h2:=Oper.wp_mono hk h;unfold Oper.wp at *
 generalize (execOp a.eval o).run P W=r at *
 cases r with
 | ok m w' =>
  cases m <;> simp only[Oper.upon]at h2 ⊢ <;> try exact h2
  case enter f args =>
   refine h2.mono fun e Em he=>?_
   cases e with
   | returned v=>exact he
   | panicked c=>exact hq _ _ _ he
   | outgrown=>obtain⟨a0,w0,h⟩:=he;exact⟨a0,w0,hq _ _ _ h⟩
 | halt y w' =>
  cases y <;> simp only[Oper.upon]at h2 ⊢
  case panic v=>exact hq _ _ _ h2
theorem zoE {i:Nat} {a:Act} {W:World} {K K':Act->World->Prop} (hk:∀a W,K a W->K' a W) (hq:∀e a W,Q e a W->Q' e a W) (h:wpOp P ops Q i K a W):wpOp P ops Q' i K' a W:=by
 unfold wpOp at *
 split at h
 ·exact hk _ _ h
 ·split at h
  ·rename_i hw;rw[if_pos hw];rcases h with h | ⟨h1,a0,w0,h2⟩
   ·exact .inl (Oper.wp_monoQ hk hq h)
   ·exact .inr ⟨h1,a0,w0,hq _ _ _ h2⟩
  ·rename_i hw;rw[if_neg hw];exact hk _ _ h
theorem Ui (hq:∀e a W,Q e a W->Q' e a W):∀(fuel:Nat) (L:Array Bool) (a:Act) (W:World),wpAny P md ops Q fuel L a W->wpAny P md ops Q' fuel L a W
 | 0,_,_,_,h=>⟨h.1,hq _ _ _ h.2⟩
 | fuel+1,_,_,_,h=>⟨fun e=>hq _ _ _ (h.1 e),fun i hi=>zoE (fun a W k=>Ui hq fuel _ a W k) hq (h.2 i hi)⟩
end
def EVA (P:Program) (n:Nat) (ops:Array Oper) (fuel:Nat) (L:Array Bool) (env:Env) (bx:Bxs) (H:Hs) (K:Env->Bxs->Hs->Prop):Prop :=
 ∀W0 β a W,Rel n W0 H.base β env bx H a W->wpAny P .any ops (fun e a W=>e=.normal/\kO n W0 H.base (fun _ env bx H=>K env bx H) .normal a W) fuel L a W
section
variable {P:Program} {n:Nat} {ops:Array Oper} {fuel:Nat} {L:Array Bool} {env:Env} {bx:Bxs} {H:Hs} {K:Env->Bxs->Hs->Prop} {τ:Tab} {d:Nat} {o:Oper} {v:Value}
theorem EVA.start {id:Nat} {l:List Oper} {Q:EQ} (hm:P.follows .mixedOrders=true) (h:EVA P n l.toArray l.length (Array.replicate l.length false) env bx H (fun env bx H=>Q .normal env bx H)):EV P n (.region id l.toArray true) env bx H Q:=fun W0 β a W r=>by
 refine wp_region_any hm ?_;have h1:=h W0 β a W.drew r.drew;refine Ui ?_ _ _ _ _ h1;rintro e a W ⟨rfl,β,aA,aw,H',hb,hq,hr⟩;exact⟨β,aA,aw,H',hb,hq,hr⟩
theorem EVA.take (i:Nat) (hi:ops[i]?=some o) (hs:Region.noSelect ops=true) (hf:Region.free .any ops L i=true) (hr:(Region.ready .any ops L).contains i=true) (hw:aP ops env o=some true) (hd:o.dst=some d) (hn:Nat.blt d n=true)
  (hx:∀(ev:Operand->Value) (W:World),(∀y x,y∈o.op.operands->env.op y=some (.v x)->ev y=x)->(execOp ev o).run P W=.ok (.value v) W)
  (h:EVA P n ops fuel (L.setIfInBounds i true) ((d,.v v)::env) bx H K):EVA P n ops (fuel+1) L env bx H K:=fun W0 β a W r=>by
 refine wpAny_take (v:=v) hi hs hf hr (fun c a w e=>by cases e.1) (.inl ⟨r.want hw,fun w=>hx a.eval w (fun y x _ hy=>r.op hy)⟩) ?_;rw[hd];exact h W0 β _ W (r.put hn Z Z)
def Hw (env:Env) (y:Operand):Bool:=match env.op y with
 | some (.v _)=>true
 | some _=>false
 | none=>true
def Dt (env:Env):List Operand->Bool
 | []=>true
 | y::l=>match Hw env y with
  | true=>Dt env l
  | false=>false
theorem Ml {env:Env}:∀{l:List Operand},Dt env l=true->∀y,y∈l->Hw env y=true
 | [],_,y,h=>by cases h
 | z::l,h,y,hm=>by
  unfold Dt at h;split at h
  ·rename_i hz;rcases List.mem_cons.1 hm with rfl | hm
   ·exact hz
   ·exact Ml h y hm
  ·cases h
theorem Tf {env:Env} {y:Operand} {s:SV} {β:Nat->Nat} {G G':Hp} {x:Value} (hp:Hw env y=true) (hy:env.op y=some s) (h:s.rep β G x):s.rep β G' x:=by
 unfold Hw at hp;rw[hy]at hp
 cases s with
 | v u=>exact h
 | p i off=>cases hp
 | ro cs=>cases hp
theorem EVA.val (hτ:bp P τ) (i:Nat) (hi:ops[i]?=some o) (hs:Region.noSelect ops=true) (hf:Region.free .any ops L i=true) (hr:(Region.ready .any ops L).contains i=true) (hw:aP ops env o=some true) (hd:o.dst=some d) (hn:Nat.blt d n=true)
  (hv:tM τ env [] o.op=some (.v v)) (fS:Dt env o.op.operands.toList=true) (h:EVA P n ops fuel (L.setIfInBounds i true) ((d,.v v)::env) bx H K):EVA P n ops (fuel+1) L env bx H K:=fun W0 β a W r=>by
 refine wpAny_take (v:=v) hi hs hf hr (fun c a w e=>by cases e.1) (.inl ⟨r.want hw,fun w=>?_⟩) ?_
 ·obtain⟨x,hx,hr⟩:=Ck (β:=β) (H:=fun _=>none) (W:=w) (a:=a) hτ hv (fun y s hm hy=>Tf (Ml fS y (by simpa using hm)) hy (r.op hy)) (fun i T cs e=>by cases e) (fun b c e=>by cases e)
  ·have e:x=v:=hr;rw[<-e];exact hx
 ·rw[hd];exact h W0 β _ W (r.put hn Z Z)
theorem EVA.step (hk:∀p,p∈Region.ready .any ops L->∃o,ops[p]?=some o/\EVL P n ops [o] env bx H (fun e env bx H'=>e=.normal/\EVA P n ops fuel (L.setIfInBounds p true) env bx H' K)) (hne:(Region.ready .any ops L).isEmpty=false):EVA P n ops (fuel+1) L env bx H K:=fun W0 β a W r=>by
 refine⟨fun e=>(by rw[e]at hne;cases hne),fun p hp=>?_⟩;obtain⟨o,ho,h⟩:=hk p hp;have h1:=h W0 β a W r
 have A9:∀a W,kO n W0 H.base (fun e env bx H'=>e=.normal/\EVA P n ops fuel (L.setIfInBounds p true) env bx H' K) .normal a W->wpAny P .any ops (fun e a W=>e=.normal/\kO n W0 H.base (fun _ env bx H=>K env bx H) .normal a W) fuel (L.setIfInBounds p true) a W:=by
  rintro a W ⟨β',aA,aw,H',aI,⟨_,hE⟩,rel⟩;have:=hE W0 β' a W (by rw[aI];exact rel)
  rwa [aI]at this
 unfold wpOp;simp only[ho];unfold wpList at h1;split
 ·rename_i hw;rw[if_pos hw]at h1;rcases h1 with h1 | ⟨h1,h2⟩
  ·refine .inl (Oper.wp_exits (fun c a W hq=>?_) (fun hq=>?_) (Oper.wp_mono (fun a W h=>A9 a W h) h1))
   ·obtain⟨_,_,_,_,_,⟨e,_⟩,_⟩:=hq;cases e
   ·obtain⟨a0,w0,_,_,_,_,_,⟨e,_⟩,_⟩:=hq;cases e
  ·obtain⟨a0,w0,_,_,_,_,_,⟨e,_⟩,_⟩:=h2;cases e
 ·rename_i hw;rw[if_neg hw]at h1;exact A9 _ _ h1
theorem EVA.one (p:Nat) (hr:(Region.ready .any ops L == [p])=true) (ho:ops[p]?=some o) (h:EVL P n ops [o] env bx H (fun e env bx H'=>e=.normal/\EVA P n ops fuel (L.setIfInBounds p true) env bx H' K)):EVA P n ops (fuel+1) L env bx H K:=by
 have jC:=eq_of_beq hr;refine EVA.step (fun q hq=>?_) (by rw[jC];rfl);rw[jC]at hq;obtain rfl:q=p:=by simpa using hq
 exact⟨o,ho,h⟩
theorem EVA.two {o':Oper} (p q:Nat) (hr:(Region.ready .any ops L == [p,q])=true) (ho:ops[p]?=some o) (mT:ops[q]?=some o') (h:EVL P n ops [o] env bx H (fun e env bx H'=>e=.normal/\EVA P n ops fuel (L.setIfInBounds p true) env bx H' K))
  (h':EVL P n ops [o'] env bx H (fun e env bx H'=>e=.normal/\EVA P n ops fuel (L.setIfInBounds q true) env bx H' K)):EVA P n ops (fuel+1) L env bx H K:=by
 have jC:=eq_of_beq hr;refine EVA.step (fun s hs=>?_) (by rw[jC];rfl);rw[jC]at hs;rcases List.mem_cons.1 hs with rfl | hs
 ·exact⟨o,ho,h⟩
 ·obtain rfl:s=q:=by simpa using hs
  exact⟨o',mT,h'⟩
theorem EVA.nil (hr:(Region.ready .any ops L).isEmpty=true) (h:K env bx H):EVA P n ops fuel L env bx H K:=fun W0 β a W r =>
 wpAny_done (List.isEmpty_iff.1 hr) ⟨rfl,β,env,bx,H,rfl,h,r⟩ fuel
end
theorem MO {α:Type} {f:α->List Value} {s:Nat} {l:List α} (h:∀x,x∈l->(f x).length=s) (sp:List Value) {j:Nat} {x:α} (hj:l[j]?=some x):((l.flatMap f++sp).drop (j*s)).take s=f x:=by
 obtain⟨hl,_⟩:=qE.1 hj;have hf:=flat_len f s l h;have hb:j*s+s<=l.length*s:=by rw[<-Nat.succ_mul];exact qN _ hl
 rw[List.drop_append_of_le_length (by rw[hf];omega),List.take_append_of_le_length (by rw[qt,hf];omega)];exact yy f s l h j x hj
theorem Eb {α:Type} {f:α->List Value} {s:Nat}:∀{l:List α},(∀x,x∈l->(f x).length=s)->∀(sp:List Value) {j:Nat} (y:α),j<l.length->(l.flatMap f++sp).take (j*s)++f y++(l.flatMap f++sp).drop (j*s+s)=(l.set j y).flatMap f++sp
 | [],_,_,j,y,hj=>by simp at hj
 | x::l,h,sp,0,y,_=>by
  have hx:=h x (qf ..);rw[List.flatMap_cons,List.set_cons_zero,List.flatMap_cons,Nat.zero_mul,List.take_zero,pN,qu,qZ,qZ,List.drop_left' hx]
 | x::l,h,sp,j+1,y,hj=>by
  have hx:=h x (qf ..);have ih:=Eb (f:=f) (fun z hz=>h z (qk _ hz)) sp y (show j<l.length by simpa using hj);generalize hA:l.flatMap f++sp=A at *
  have e1:(x::l).flatMap f++sp=f x++A:=by rw[List.flatMap_cons,qZ,hA]
  have e2:((x::l).set (j+1) y).flatMap f++sp=f x++((l.set j y).flatMap f++sp):=by rw[List.set_cons_succ,List.flatMap_cons,qZ]
  have e3:(j+1)*s=(f x).length+j*s:=by rw[Nat.succ_mul,hx];omega
  rw[e1,e2,<-ih,e3,List.take_length_add_append,show (f x).length+j*s+s=(f x).length+(j*s+s) by omega,List.drop_length_add_append];simp only[qZ]
section
variable {P:Program} {n:Nat} {ops:Array Oper} {o:Oper} {rest:List Oper} {env:Env} {bx:Bxs} {sb:Bxs} {ow:Ows} {H:Hs} {Q:EQ} {τ:Tab} {d:Nat} {s:SV}
theorem Ld (hτ:bp P τ) {T:TypeId} {x y:Operand} (ho:o.op=.indexAddr T x y) {te te':TE} {e:TypeId} (ht:τ.get T=some te) (hk:te.kind=.slice e) (aM:τ.get e=some te')
  {b m cap:Nat} (hx:env.op x=some (.v (.slice (some ⟨b,0,none⟩) m cap))) {k:IntKind} {z:Int} (hy:env.op y=some (.v (.int k z))) (j q:Nat) (hz:z=j) (hj:j<m) (hq:j*te'.size=q) (ev:Operand->Value) (W:World) (he:∀y x,y∈o.op.operands->env.op y=some (.v x)->ev y=x) :
  (execOp ev o).run P W=.ok (.value (.pointer (some ⟨b,q,none⟩))) W:=by
 have ex:=he x _ (by simp[ho,Op.operands]) hx;have ey:=he y _ (by simp[ho,Op.operands]) hy;have aW:=(hτ.get ht).kind;rw[hk]at aW;have aN:P.underlying T=some (.slice e):=aW;unfold execOp;simp[ho,ex,ey,Instr.indexAt,asIntOf,run_underlying aN,hz,(hτ.get aM).size,Addr.add_mid,hj,hq]
theorem EVL.idxB (hτ:bp P τ) {T:TypeId} {x y:Operand} (ho:o.op=.indexAddr T x y) (hw:aP ops env o=some true) (hd:o.dst=some d) (hn:Nat.blt d n=true) {te te':TE} {e:TypeId} (ht:τ.get T=some te) (hk:te.kind=.slice e) (aM:τ.get e=some te')
  {b m cap:Nat} (hx:env.op x=some (.v (.slice (some ⟨b,0,none⟩) m cap))) {k:IntKind} {z:Int} (hy:env.op y=some (.v (.int k z))) (j q:Nat) (hz:z=j) (hj:j<m) (hq:j*te'.size=q)
  (h:EVL P n ops rest ((d,.v (.pointer (some ⟨b,q,none⟩)))::env) bx H Q):EVL P n ops (o::rest) env bx H Q:=EVL.gen hw hd hn (Ld hτ ho ht hk aM hx hy j q hz hj hq) h
theorem DJ.idxB {tail l:List Oper} {x:Nat->Value} {y:Nat->Ows} {au:Ows} {kl ks:List DK} {i:Nat} {aw:Bxs} {Γ:fO} (hτ:bp P τ) {T:TypeId} {u w:Operand} (ho:o.op=.indexAddr T u w) (hw:aP ops env o=some true) (hd:o.dst=some d) (hn:Nat.blt d n=true) {te te':TE} {e:TypeId} (ht:τ.get T=some te) (hk:te.kind=.slice e) (aM:τ.get e=some te')
  {b m cap:Nat} (hx:env.op u=some (.v (.slice (some ⟨b,0,none⟩) m cap))) {k:IntKind} {z:Int} (hy:env.op w=some (.v (.int k z))) (j q:Nat) (hz:z=j) (hj:j<m) (hq:j*te'.size=q)
  (h:DJ P n ops tail sb bx H Q x y kl (i+1) l ks ((d,.v (.pointer (some ⟨b,q,none⟩)))::env) aw Γ au):DJ P n ops tail sb bx H Q x y kl i (o::l) (.sv (.v (.pointer (some ⟨b,q,none⟩)))::ks) env aw Γ au :=
 DJ.ofVal (az.gen hw (Ld hτ ho ht hk aM hx hy j q hz hj hq)) hd hn rfl h
theorem EVA.idxB {fuel:Nat} {L:Array Bool} {K:Env->Bxs->Hs->Prop} (hτ:bp P τ) (i:Nat) (hi:ops[i]?=some o) (hs:Region.noSelect ops=true) (hf:Region.free .any ops L i=true) (hr:(Region.ready .any ops L).contains i=true) (hw:aP ops env o=some true) (hd:o.dst=some d) (hn:Nat.blt d n=true)
  {T:TypeId} {x y:Operand} (ho:o.op=.indexAddr T x y) {te te':TE} {e:TypeId} (ht:τ.get T=some te) (hk:te.kind=.slice e) (aM:τ.get e=some te')
  {b m cap:Nat} (hx:env.op x=some (.v (.slice (some ⟨b,0,none⟩) m cap))) {k:IntKind} {z:Int} (hy:env.op y=some (.v (.int k z))) (j q:Nat) (hz:z=j) (hj:j<m) (hq:j*te'.size=q)
  (h:EVA P n ops fuel (L.setIfInBounds i true) ((d,.v (.pointer (some ⟨b,q,none⟩)))::env) bx H K):EVA P n ops (fuel+1) L env bx H K :=
 EVA.take i hi hs hf hr hw hd hn (Ld hτ ho ht hk aM hx hy j q hz hj hq) h
theorem zhr {d:Nat} {T e:TypeId} {a:Option Addr} {m c:Nat} {W:World} (hT:P.underlying T=some (.slice e)):(Op.equalIn (d+1) T (.slice a m c) (.slice none 0 0)).run P W=.ok a.isNone W:=by
 unfold Op.equalIn;cases a <;> simp[run_underlying hT]
theorem EVL.eqnil (hτ:bp P τ) {T T':TypeId} {x:Operand} {a:Option Addr} {m c:Nat} (ho:o.op=.binOp .eql T x (.const (.slice none 0 0)) T') (hw:aP ops env o=some true) (hd:o.dst=some d) (hn:Nat.blt d n=true) {te:TE} {e:TypeId} (ht:τ.get T=some te) (hk:te.kind=.slice e)
  (hx:env.op x=some (.v (.slice a m c))) (h:EVL P n ops rest ((d,.v (.bool a.isNone))::env) bx H Q):EVL P n ops (o::rest) env bx H Q :=
 EVL.gen hw hd hn (fun ev W he=>by
  have ex:=he x _ (by simp[ho,Op.operands]) hx;have ey:=he (.const (.slice none 0 0)) _ (by simp[ho,Op.operands]) rfl;have aW:=(hτ.get ht).kind;rw[hk]at aW;have aN:P.underlying T=some (.slice e):=aW;have hq:=zhr (P:=P) (d:=9999) (a:=a) (m:=m) (c:=c) (W:=W) aN;have hm:Op.maxDepth=9999+1:=rfl;unfold execOp;cases a <;> simp[ho,ex,ey,eqGuard,binOp,Op.equal,hm,hq]) h
end
def unS (d b:Nat):SV->SV
 | .p i off=>match Nat.beq i d with
  | true=>.v (.pointer (some ⟨b,off,none⟩))
  | false=>.p i off
 | s=>s
theorem RA (d b off:Nat):unS d b (.p d off)=.v (.pointer (some ⟨b,off,none⟩)):=by
 unfold unS;simp only[Nat.beq_refl]
theorem Si {d b i off:Nat} (h:i≠d):unS d b (.p i off)=.p i off:=by
 have:Nat.beq i d=false:=by cases hb:Nat.beq i d with | false=>rfl | true=>exact absurd (qy hb) h
 unfold unS;simp only[this]
def unP (d b:Nat):Env->Env
 | []=>[]
 | (t,s)::e=>(t,unS d b s)::unP d b e
def unB (d:Nat):Bxs->Bxs
 | []=>[]
 | (i,x)::e=>match Nat.beq i d with
  | true=>unB d e
  | false=>(i,x)::unB d e
theorem K1 (d:Nat):∀(e:Bxs) (i:Nat),(unB d e).get i=if i=d then none else e.get i
 | [],i=>by simp[unB,Bxs.get]
 | (j,x)::e,i=>by
  have ih:=K1 d e i;unfold unB
  cases hb:Nat.beq j d with
  | true =>
   obtain rfl:=qy hb;simp only;rw[ih,Bxs.get_cons];by_cases h:i=j
   ·rw[if_pos h,if_pos h]
   ·rw[if_neg h,if_neg h,if_neg (fun k=>h k.symm)]
  | false =>
   have hne:j≠d:=fun h=>by subst h;rw[Nat.beq_refl]at hb;cases hb
   simp only;rw[Bxs.get_cons,Bxs.get_cons,ih];by_cases h:j=i
   ·subst h;rw[if_pos rfl,if_pos rfl,if_neg hne]
   ·rw[if_neg h,if_neg h]
theorem K0 (d b:Nat):∀(e:Env) (t:Nat),(unP d b e).get t=(e.get t).map (unS d b)
 | [],t=>rfl
 | (u,s)::e,t=>by
  have ih:=K0 d b e t;have key:unP d b ((u,s)::e)=(u,unS d b s)::unP d b e:=rfl;rw[key,Env.get_cons,Env.get_cons,ih];by_cases h:u=t
  ·rw[if_pos h,if_pos h];rfl
  ·rw[if_neg h,if_neg h]
theorem Rel.unbox {n:Nat} {W0:World} {H0:Bs} {β:Nat->Nat} {env:Env} {bx:Bxs} {H:Hs} {a:Act} {W:World} (r:Rel n W0 H0 β env bx H a W) (d:Nat) {T:TypeId} {cs:List Value} (hg:bx.get d=some (T,cs)) :
  Rel n W0 H0 β (unP d (β d) env) (unB d bx) ⟨H.ro,(β d,T,cs)::H.ow,H.base⟩ a W:=by
 have JY:(bx.get d).isSome=true:=by rw[hg];rfl
 have gt:∀i x,(unB d bx).get i=some x->i≠d/\bx.get i=some x:=fun i x hi=>by
  rw[K1]at hi;by_cases h:i=d
  ·rw[if_pos h]at hi;cases hi
  ·rw[if_neg h]at hi;exact⟨h,hi⟩
 have gs:∀i,((unB d bx).get i).isSome=true->i≠d/\(bx.get i).isSome=true:=fun i hi=>by
  obtain⟨x,hx⟩:=Option.isSome_iff_exists.1 hi;obtain⟨h1,h2⟩:=gt i x hx;exact⟨h1,by rw[h2];rfl⟩
 refine⟨r.size,r.defers,fun t u hu=>?_,fun i T' aq hi=>r.box i T' aq (gt i _ hi).2,fun i hi=>r.low i (gs i hi).2,fun i j hi hj sU=>r.inj i j (gs i hi).2 (gs j hj).2 sU,fun t i off hu=>?_,r.fits,r.le,r.new,r.bel,r.glob,fun j b T' aq hj=>?_,fun j j' b T1 T2 c1 c2 hj ak=>?_⟩
 ·rw[K0]at hu;obtain⟨s,hs,rfl⟩:=Option.map_eq_some_iff.1 hu;obtain⟨y,hy,hr⟩:=r.slot t s hs;refine⟨y,hy,?_⟩
  cases s with
  | v x=>exact hr
  | ro cs=>exact hr
  | p i off =>
   by_cases h:i=d
   ·subst h;rw[RA];exact hr
   ·rw[Si h];exact hr
 ·rw[K0]at hu;obtain⟨s,hs,he⟩:=Option.map_eq_some_iff.1 hu
  cases s with
  | v x=>cases he
  | ro cs=>cases he
  | p i' dH =>
   by_cases h:i'=d
   ·subst h;rw[RA]at he;cases he
   ·rw[Si h]at he;cases he;have:=r.pin t i off hs;rw[K1,if_neg h];exact this
 ·cases j with
  | zero =>
   simp at hj;obtain⟨rfl,rfl,rfl⟩:=hj;exact⟨r.box d T cs hg,.inl (r.low d JY).1,(r.low d JY).2,fun i hi e=>(gs i hi).1 (r.inj i d (gs i hi).2 JY e)⟩
  | succ j =>
   obtain⟨h1,h2,h3,h4⟩:=r.own j b T' aq (by simpa using hj);exact⟨h1,h2,h3,fun i hi=>h4 i (gs i hi).2⟩
 ·have lt:∀j T c,H.ow[j]?=some (β d,T,c)->False:=fun j T c hj=>(r.own j _ T c hj).2.2.2 d JY rfl
  cases j with
  | zero =>
   simp at hj
   cases j' with
   | zero=>rfl
   | succ j'=>exact(lt j' T2 c2 (by rw[hj.1];simpa using ak)).elim
  | succ j =>
   cases j' with
   | zero=>simp at ak;exact(lt j T1 c1 (by rw[ak.1];simpa using hj)).elim
   | succ j'=>rw[r.one j j' b T1 T2 c1 c2 (by simpa using hj) (by simpa using ak)]
section
variable {P:Program} {n:Nat} {ops:Array Oper} {o:Oper} {rest:List Oper} {env:Env} {bx:Bxs} {sb:Bxs} {ow:Ows} {H:Hs} {Q:EQ} {τ:Tab} {d:Nat} {s:SV}
theorem EVL.unbox (i:Nat) {T:TypeId} {cs:List Value} (hg:bx.get i=some (T,cs)) (h:∀b,EVL P n ops rest (unP i b env) (unB i bx) ⟨H.ro,(b,T,cs)::H.ow,H.base⟩ Q):EVL P n ops rest env bx H Q :=
 fun W0 β a W r=>h (β i) W0 β a W (r.unbox i hg)
theorem EV.unbox {c:Code} (i:Nat) {T:TypeId} {cs:List Value} (hg:bx.get i=some (T,cs)) (h:∀b,EV P n c (unP i b env) (unB i bx) ⟨H.ro,(b,T,cs)::H.ow,H.base⟩ Q):EV P n c env bx H Q :=
 fun W0 β a W r=>h (β i) W0 β a W (r.unbox i hg)
theorem Lf (hτ:bp P τ) {T:TypeId} {x:Operand} {f:Nat} (ho:o.op=.fieldAddr T x f) {te:TE} (ht:τ.get T=some te) {fo sz:Nat} {ag:Bool} (hf:te.fields[f]?=some (fo,ag,sz)) {b q:Nat} (hx:env.op x=some (.v (.pointer (some ⟨b,q,none⟩)))) (ev:Operand->Value) (W:World) (he:∀y x,y∈o.op.operands->env.op y=some (.v x)->ev y=x) :
  (execOp ev o).run P W=.ok (.value (.pointer (some ⟨b,q+fo,none⟩))) W:=by
 have ex:=he x _ (by simp[ho,Op.operands]) hx;have:=((hτ.get ht).fields.get hf).1 W ⟨b,q,none⟩;rw[qu]at this;unfold execOp;simp only[ho,ex,Sem.run_bind,this,Result.andThen_ok,Sem.run_pure,Addr.add_mid]
theorem EVL.fldB (hτ:bp P τ) {T:TypeId} {x:Operand} {f:Nat} (ho:o.op=.fieldAddr T x f) (hw:aP ops env o=some true) (hd:o.dst=some d) (hn:Nat.blt d n=true) {te:TE} (ht:τ.get T=some te) {fo sz:Nat} {ag:Bool} (hf:te.fields[f]?=some (fo,ag,sz)) {b q:Nat} (hx:env.op x=some (.v (.pointer (some ⟨b,q,none⟩))))
  (h:EVL P n ops rest ((d,.v (.pointer (some ⟨b,q+fo,none⟩)))::env) bx H Q):EVL P n ops (o::rest) env bx H Q:=EVL.gen hw hd hn (Lf hτ ho ht hf hx) h
theorem DJ.fldB {tail l:List Oper} {x:Nat->Value} {y:Nat->Ows} {au:Ows} {kl ks:List DK} {i:Nat} {aw:Bxs} {Γ:fO} (hτ:bp P τ) {T:TypeId} {u:Operand} {f:Nat} (ho:o.op=.fieldAddr T u f) (hw:aP ops env o=some true) (hd:o.dst=some d) (hn:Nat.blt d n=true) {te:TE} (ht:τ.get T=some te) {fo sz:Nat} {ag:Bool} (hf:te.fields[f]?=some (fo,ag,sz)) {b q:Nat} (hx:env.op u=some (.v (.pointer (some ⟨b,q,none⟩))))
  (h:DJ P n ops tail sb bx H Q x y kl (i+1) l ks ((d,.v (.pointer (some ⟨b,q+fo,none⟩)))::env) aw Γ au):DJ P n ops tail sb bx H Q x y kl i (o::l) (.sv (.v (.pointer (some ⟨b,q+fo,none⟩)))::ks) env aw Γ au :=
 DJ.ofVal (az.gen hw (Lf hτ ho ht hf hx)) hd hn rfl h
theorem Lc {x:Operand} (ho:o.op=.nilCheck x) {c:Addr} (hx:env.op x=some (.v (.pointer (some c)))) (ev:Operand->Value) (W:World) (he:∀y x,y∈o.op.operands->env.op y=some (.v x)->ev y=x) :
  (execOp ev o).run P W=.ok (.value (.pointer (some c))) W:=by
 have ex:=he x _ (by simp[ho,Op.operands]) hx;unfold execOp;simp only[ho,ex,Sem.run_pure]
theorem EVL.nilB {x:Operand} (ho:o.op=.nilCheck x) (hw:aP ops env o=some true) (hd:o.dst=some d) (hn:Nat.blt d n=true) {c:Addr} (hx:env.op x=some (.v (.pointer (some c))))
  (h:EVL P n ops rest ((d,.v (.pointer (some c)))::env) bx H Q):EVL P n ops (o::rest) env bx H Q:=EVL.gen hw hd hn (Lc ho hx) h
theorem DJ.nilB {tail l:List Oper} {x:Nat->Value} {y:Nat->Ows} {au:Ows} {kl ks:List DK} {i:Nat} {aw:Bxs} {Γ:fO} {u:Operand} (ho:o.op=.nilCheck u) (hw:aP ops env o=some true) (hd:o.dst=some d) (hn:Nat.blt d n=true) {c:Addr} (hx:env.op u=some (.v (.pointer (some c))))
  (h:DJ P n ops tail sb bx H Q x y kl (i+1) l ks ((d,.v (.pointer (some c)))::env) aw Γ au):DJ P n ops tail sb bx H Q x y kl i (o::l) (.sv (.v (.pointer (some c)))::ks) env aw Γ au :=
 DJ.ofVal (az.gen hw (Lc ho hx)) hd hn rfl h
theorem zr4 (hτ:bp P τ) {T e:TypeId} {x y:Operand} (ho:o.op=.indexAddr T x y) {len:Nat} (hu:P.underlying T=some (.array len e)) {te:TE} (ht:τ.get e=some te) (hs:te.size=1)
  {b q:Nat} (hx:env.op x=some (.v (.pointer (some ⟨b,q,none⟩)))) {k:IntKind} {z:Int} (hy:env.op y=some (.v (.int k z))) (j:Nat) (hz:z=j) (hj:j<len) (ev:Operand->Value) (W:World) (he:∀y x,y∈o.op.operands->env.op y=some (.v x)->ev y=x) :
  (execOp ev o).run P W=.ok (.value (.pointer (some ⟨b,q+j,none⟩))) W:=by
 have ex:=he x _ (by simp[ho,Op.operands]) hx;have ey:=he y _ (by simp[ho,Op.operands]) hy;subst hz;unfold execOp;simp[ho,ex,ey,Instr.indexAt,asIntOf,run_underlying hu,Instr.sureAddr,(hτ.get ht).size,hs,hj,Addr.add_mid]
theorem DJ.idxA {tail l:List Oper} {x:Nat->Value} {y:Nat->Ows} {au:Ows} {kl ks:List DK} {i:Nat} {aw:Bxs} {Γ:fO} (hτ:bp P τ) {T e:TypeId} {u w:Operand} (ho:o.op=.indexAddr T u w) (hw:aP ops env o=some true) (hd:o.dst=some d) (hn:Nat.blt d n=true) {len:Nat} (hu:P.underlying T=some (.array len e)) {te:TE} (ht:τ.get e=some te) (hs:te.size=1)
  {b q:Nat} (hx:env.op u=some (.v (.pointer (some ⟨b,q,none⟩)))) {k:IntKind} {z:Int} (hy:env.op w=some (.v (.int k z))) (j:Nat) (hz:z=j) (hj:j<len)
  (h:DJ P n ops tail sb bx H Q x y kl (i+1) l ks ((d,.v (.pointer (some ⟨b,q+j,none⟩)))::env) aw Γ au):DJ P n ops tail sb bx H Q x y kl i (o::l) (.sv (.v (.pointer (some ⟨b,q+j,none⟩)))::ks) env aw Γ au :=
 DJ.ofVal (az.gen hw (zr4 hτ ho hu ht hs hx hy j hz hj)) hd hn rfl h
end
theorem RP {G G':Prop} (h:G') (f:G'->G:=by intro h;(repeat (first|refine EVL.nilB Z Z Z Z Z ?_|refine EVL.fldB tO Z Z Z Z Z Z Z ?_|refine EVL.val tO Z Z Z Z Z ?_));exact h):G:=f h
section
variable {P:Program} {n:Nat} {ops:Array Oper} {tail:List Oper} {sb bx:Bxs} {H:Hs} {Q:EQ} {x:Nat->Value} {y:Nat->Ows} {au:Ows} {kl:List DK} {i:Nat} {o:Oper} {l rest:List Oper} {ks:List DK} {env:Env} {aw:Bxs} {Γ:fO} {d:Nat} {f:FuncId} {args:Array Operand} {bW:Array TypeId} {vs:List Value}
theorem vN {u:Operand} {c:Addr} (h:DJ P n ops tail sb bx H Q x y kl (i+1) l ks ((d,.v (.pointer (some c)))::env) aw Γ au) (ho:o.op=.nilCheck u:=by exact Z) (hw:aP ops env o=some true:=by exact Z) (hd:o.dst=some d:=by exact Z) (hn:Nat.blt d n=true:=by exact Z) (hx:env.op u=some (.v (.pointer (some c))):=by exact Z):DJ P n ops tail sb bx H Q x y kl i (o::l) (.sv (.v (.pointer (some c)))::ks) env aw Γ au:=DJ.nilB ho hw hd hn hx h
theorem vF {T:TypeId} {u:Operand} {f b q fo sz:Nat} {ag:Bool} {te:TE} (h:DJ Tryz.prog n ops tail sb bx H Q x y kl (i+1) l ks ((d,.v (.pointer (some ⟨b,q+fo,none⟩)))::env) aw Γ au) (ho:o.op=.fieldAddr T u f:=by exact Z) (hw:aP ops env o=some true:=by exact Z) (hd:o.dst=some d:=by exact Z) (hn:Nat.blt d n=true:=by exact Z) (ht:am.get T=some te:=by exact Z) (hf:te.fields[f]?=some (fo,ag,sz):=by exact Z) (hx:env.op u=some (.v (.pointer (some ⟨b,q,none⟩))):=by exact Z):DJ Tryz.prog n ops tail sb bx H Q x y kl i (o::l) (.sv (.v (.pointer (some ⟨b,q+fo,none⟩)))::ks) env aw Γ au:=DJ.fldB tO ho hw hd hn ht hf hx h
end
theorem Q7 {H:Hp} {W W':World} (hf:Fits H W) (hb:Below W.heap.size W W') {c:Array Value} {T:TypeId} (hT:W'.heap[W.heap.size]?=some (.cells c T (0,0))) :
  H.Le (H.put W.heap.size c)/\Fits (H.put W.heap.size c) W'/\Nw H W.heap.size (H.put W.heap.size c) W':=by
 have hn:H W.heap.size=none:=by
  cases hc:H W.heap.size with
  | none=>rfl
  | some c=>have:=hf.lt (b:=W.heap.size) (by rw[hc];simp);omega
 refine⟨fun b c h=>?_,fun b c h=>?_,fun b c h=>?_⟩
 ·have:b≠W.heap.size:=fun e=>by subst e;rw[hn]at h;cases h
  simp only[Hp.put,if_neg this];exact h
 ·by_cases e:b=W.heap.size
  ·subst e;simp only[Hp.put,if_true]at h;cases h;exact⟨T,(0,0),hT⟩
  ·simp only[Hp.put,if_neg e]at h;exact hf.below hb b c h
 ·by_cases e:b=W.heap.size
  ·subst e;simp only[Hp.put,if_true]at h;cases h;exact .inr ⟨qH _,T,hT⟩
  ·simp only[Hp.put,if_neg e]at h;exact .inl h
section
variable {P:Program} {n:Nat} {ops:Array Oper} {o:Oper} {rest:List Oper} {env:Env} {bx:Bxs} {sb:Bxs} {ow:Ows} {H:Hs} {Q:EQ} {τ:Tab} {d:Nat} {s:SV}
theorem az.newSl {R:Hp} {F:Hp->Prop} {m size:Nat} {ys:List Value} (hw:aP ops env o=some true) (hl:ys.length=m*size)
  (h:∀(β:Nat->Nat) (a:Act) (W:World) (G:Hp),R.Le G->Fits G W->(∀y s,y∈o.op.operands->env.op y=some s->s.rep β G (a.eval y))->F G->∃(cap:Nat) (c:Array Value) (e:TypeId) (W1:World),
   (execOp a.eval o).run P W=.ok (.value (.slice (some ⟨W.heap.size,0,none⟩) m cap)) W1/\Below W.heap.size W W1/\W1.heap[W.heap.size]?=some (.cells c e (0,0))/\m<=cap/\∀(q:Nat) (x:Value),ys[q]?=some x->c[q]?=some x) :
  az P ops o env bx ow R F (fun _ v G'=>SlC G' v m size ys):=fun β a W G hle hf _ hb _ hs hF=>by
 rw[if_pos (hs.want hw)];obtain⟨cap,c,e,W1,hr,hB,hT,hc,hx⟩:=h β a W G hle hf (fun y s hm hy=>hs.op hm hy) hF;obtain⟨h1,h2,h3⟩:=Q7 hf hB hT;unfold Oper.wp;rw[hr,Oper.upon_value];exact⟨_,_,rfl,⟨hl,.inr ⟨W.heap.size,0,cap,c,rfl,hc,by simp[Hp.put],fun j x hj=>by rw[qu];exact hx j x hj⟩⟩,h1,h2,hB,h3⟩
variable {tail l:List Oper} {x:Nat->Value} {y:Nat->Ows} {au:Ows} {kl ks:List DK} {i:Nat} {aw:Bxs} {Γ:fO}
theorem DJ.lit (hτ:bp P τ) {T:TypeId} {len:Nat} {parts:Array (Nat × Operand)} (ho:o.op=.buildSlice T len parts) (hw:aP ops env o=some true) (hd:o.dst=some d) (hn:Nat.blt d n=true) {te te':TE} {e:TypeId} (ht:τ.get T=some te) (hk:te.kind=.slice e) (aM:τ.get e=some te')
  (cd:Nat.beq te'.zero.length te'.size=true) (bQ:Nat.ble 1 (len*te'.size)=true) (eS:Nat.ble (len*te'.size) 10000=true) {cs:List Value} (hc:zI te'.zero len (fun zs=>zt env te'.size parts.toList zs some)=some cs) (cj:Nat.beq cs.length (len*te'.size)=true)
  (h:DJ P n ops tail sb bx H Q x y kl (i+1) l ks ((d,.v (x i))::env) aw ((i,fun G=>SlC G (x i) len te'.size cs)::Γ) au):DJ P n ops tail sb bx H Q x y kl i (o::l) (.call (fun v G=>SlC G v len te'.size cs)::ks) env aw Γ au:=by
 have aW:=(hτ.get ht).kind;rw[hk]at aW;have aN:P.underlying T=some (.slice e):=aW;obtain⟨zv,cz,mi⟩:=(hτ.get aM).info;obtain⟨i0,hi,eP,fC,iY⟩:=info_parts cz;have hl:=qy cd;have hp:=Nat.le_of_ble_eq_true bQ;have hm:=Nat.le_of_ble_eq_true eS;rw[LR]at hc;obtain⟨aq,bC,dS⟩:=Mc _ _ _ _ hc;cases bC;refine DJ.ofCall (az.newSl hw (qy cj) fun β a W G hle hf hs hF=>?_) hd hn (fun _ _ _ h k=>SlC.mono h k) h;have FZ:=dS β G a.eval (fun y s' hm hy=>hs y s' (by simpa[ho,Op.operands] using hm) hy)
 have aY:=run_buildSlice (P:=P) W T e len (parts.map fun (i,x)=>(i,a.eval x)) cs.toArray i0 zv aN hi eP (by rw[fC];omega) (by rw[fC];omega) (by
  rw[fC,mi,Mb te'.zero te'.size len hl,<-FZ];congr 1;simp)
 refine⟨len,cs.toArray,e,W.alloc (.cells cs.toArray e),?_,(Below.refl _ _).alloc (qH _) _,(Box.new W cs.toArray e),qH _,fun q x hq=>by simpa using hq⟩;unfold execOp;simp only[ho,Sem.run_bind,aY,Result.andThen_ok,Sem.run_pure]
theorem DJ.lit0 (hτ:bp P τ) {T:TypeId} (ho:o.op=.buildSlice T 0 #[]) (hw:aP ops env o=some true) (hd:o.dst=some d) (hn:Nat.blt d n=true) {te te':TE} {e:TypeId} (ht:τ.get T=some te) (hk:te.kind=.slice e) (aM:τ.get e=some te')
  (h:DJ P n ops tail sb bx H Q x y kl (i+1) l ks ((d,.v (x i))::env) aw ((i,fun _=>∃g,x i=.slice (some ⟨g,0,none⟩) 0 0)::Γ) au):DJ P n ops tail sb bx H Q x y kl i (o::l) (.call (fun v _=>∃g,v=.slice (some ⟨g,0,none⟩) 0 0)::ks) env aw Γ au:=by
 have aW:=(hτ.get ht).kind;rw[hk]at aW;have aN:P.underlying T=some (.slice e):=aW;refine DJ.ofCall (fun β a W G hle hf _ hb _ hs hF=>?_) hd hn (fun _ _ _ h _=>h) h;rw[if_pos (hs.want hw)]
 have hx':(execOp a.eval o).run P W=.ok (.value (.slice (some ⟨W.heap.size,0,none⟩) 0 0)) (W.alloc (.cells ([]:List Value).toArray e)):=by
  unfold execOp;have cd:(sizeOf e).run P W=.ok te'.size W:=(hτ.get aM).size W;simp[ho,Instr.buildSlice,run_underlying aN,cd,Instr.fill,newRow,Array.range_zero']
 have hB:Below W.heap.size W (W.alloc (.cells ([]:List Value).toArray e)):=(Below.refl _ _).alloc (qH _) _;unfold Oper.wp;rw[hx',Oper.upon_value];exact⟨_,G,rfl,⟨_,rfl⟩,Hp.Le.refl _,hf.below hB,hB,(Nw.refl _ _ _).below hf hB⟩
theorem DJ.appendE (hτ:bp P τ) {T:TypeId} {u w:Operand} (ho:o.op=.call { callee:=.builtin .append,args:=#[u,w],argTypes:=#[T,T] }) (hw:aP ops env o=some true) (hd:o.dst=some d) (hn:Nat.blt d n=true) {te te':TE} {e:TypeId} (ht:τ.get T=some te) (hk:te.kind=.slice e) (aM:τ.get e=some te')
  (lI:Nat.ble te'.bytes 10000=true) {u0:Value} (hx:env.op u=some (.v u0)) {w0:Value} (hy:env.op w=some (.v w0)) {m:Nat} {ys:List Value} (hu:∀G,dD ops i Γ G->∃g,u0=.slice (some ⟨g,0,none⟩) 0 0) (ir:SlC H.ro w0 m te'.size ys) (rh:0<m) (hm:m<=1000000000)
  (h:DJ P n ops tail sb bx H Q x y kl (i+1) l ks ((d,.v (x i))::env) aw ((i,fun G=>SlC G (x i) m te'.size ys)::Γ) au):DJ P n ops tail sb bx H Q x y kl i (o::l) (.call (fun v G=>SlC G v m te'.size ys)::ks) env aw Γ au:=by
 have aW:=(hτ.get ht).kind;rw[hk]at aW;have aN:P.underlying T=some (.slice e):=aW;obtain⟨zv,cz,mi⟩:=(hτ.get aM).info;obtain⟨i0,hi,eP,fC,iY⟩:=info_parts cz;have hb:=Nat.le_of_ble_eq_true lI
 have o0:m*te'.bytes<=140737488355328:=by
  have:m*te'.bytes<=1000000000*10000:=Nat.mul_le_mul hm hb;omega
 refine DJ.ofCall (az.newSl hw ir.1 fun β a W G hle hf hs hF=>?_) hd hn (fun _ _ _ h k=>SlC.mono h k) h;obtain⟨g,rfl⟩:=hu G hF;have ex:a.eval u=_:=hs u _ (by simp[ho,Op.operands,Call.operands]) hx;have ey:a.eval w=_:=hs w _ (by simp[ho,Op.operands,Call.operands]) hy;rcases ir.2 with ⟨h0,_⟩ | ⟨b,off,cap,c,rfl,hc,hH,bC⟩
 ·omega
 obtain⟨T',fz,hW⟩:=hf b c (hle b c hH);have hr:=run_append_grow (P:=P) (w:=W) T o.type e i0 zv aN hi eP ⟨g,0,none⟩ 0 0 [] (by simp) (fun j v hj=>by simp at hj) ⟨b,off,none⟩ m cap ys (by rw[fC];exact ir.1) (fun j v hj=>by rw[Addr.add_mid,cell_of_row W b (off+j) c T' fz hW];exact bC j v hj) oM oM (growslice_fits oM (by rw[iY,qu];exact o0));have bZ:0+m<=grownCap W (0+m) 0 e:=by unfold grownCap Question.cut;exact Nat.le_add_right _ _
 rw[qu]at hr bZ
 have dK:∀(q:Nat) (x:Value),ys[q]?=some x->(#[]++ys.toArray++Builtin.zeroCells zv.cells (grownCap W m 0 e-m))[q]?=some x:=fun q x hq=>by
  have hl:=(qE.1 hq).1;rw[Array.empty_append,Array.getElem?_append_left (by simpa using hl)];simpa using hq
 generalize #[]++ys.toArray++Builtin.zeroCells zv.cells (grownCap W m 0 e-m)=C at hr dK;refine⟨_,C,e,W.drew.alloc (.cells C e),?_,((Below.refl _ _).drew).alloc (qH _) _,Box.new W.drew C e,bZ,dK⟩;unfold execOp;simp only[ho,resolve,invoke,builtin,Sem.run_bind,Sem.run_pure,Result.andThen_ok,List.map_toArray,qx,List.map_nil,ex,ey,hr]
theorem DJ.append0E (hτ:bp P τ) {T:TypeId} {u w:Operand} (ho:o.op=.call { callee:=.builtin .append,args:=#[u,w],argTypes:=#[T,T] }) (hw:aP ops env o=some true) (hd:o.dst=some d) (hn:Nat.blt d n=true) {te te':TE} {e:TypeId} (ht:τ.get T=some te) (hk:te.kind=.slice e) (aM:τ.get e=some te')
  {u0:Value} (hx:env.op u=some (.v u0)) {w0:Value} (hy:env.op w=some (.v w0)) (a':Option Addr) (c':Nat) (uA:w0=.slice a' 0 c') (hu:∀G,dD ops i Γ G->∃g,u0=.slice (some ⟨g,0,none⟩) 0 0)
  (h:DJ P n ops tail sb bx H Q x y kl (i+1) l ks ((d,.v (x i))::env) aw ((i,fun _=>∃g,x i=.slice (some ⟨g,0,none⟩) 0 0)::Γ) au):DJ P n ops tail sb bx H Q x y kl i (o::l) (.call (fun v _=>∃g,v=.slice (some ⟨g,0,none⟩) 0 0)::ks) env aw Γ au:=by
 have aW:=(hτ.get ht).kind;rw[hk]at aW;have aN:P.underlying T=some (.slice e):=aW;obtain⟨zv,cz,mi⟩:=(hτ.get aM).info;obtain⟨i0,hi,eP,fC,iY⟩:=info_parts cz;subst uA;refine DJ.ofCall (fun β a W G _ hf _ hb _ hs hF=>?_) hd hn (fun _ _ _ h _=>h) h;rw[if_pos (hs.want hw)];obtain⟨g,rfl⟩:=hu G hF;have ex:a.eval u=_:=hs.op (by simp[ho,Op.operands,Call.operands]) hx;have ey:a.eval w=_:=hs.op (by simp[ho,Op.operands,Call.operands]) hy;have wK:=run_append_nothing (P:=P) W T T o.type e i0 aN hi (some ⟨g,0,none⟩) 0 0 (qH _) (.slice a' 0 c') (Su aN _ _ _ _)
 have hr:(execOp a.eval o).run P W=.ok (.value (.slice (some ⟨g,0,none⟩) 0 0)) W:=by
  unfold execOp;simp only[ho,resolve,invoke,builtin,Sem.run_bind,Sem.run_pure,Result.andThen_ok,List.map_toArray,qx,List.map_nil,ex,ey,wK]
 unfold Oper.wp;rw[hr,Oper.upon_value];exact⟨_,G,rfl,⟨_,rfl⟩,Hp.Le.refl G,hf,Below.refl _ _,Nw.refl _ _ _⟩
end
section
variable {P:Program} {n:Nat} {ops:Array Oper} {o:Oper} {rest:List Oper} {env:Env} {bx:Bxs} {sb:Bxs} {ow:Ows} {H:Hs} {Q:EQ} {τ:Tab} {d:Nat} {s:SV}
theorem YZ {f:Fn} {x y:Operand} (ho:o.op=.makeFunc f #[] #[x,y]) {u v:Value} (hx:env.op x=some (.v u)) (hy:env.op y=some (.v v)) (ev:Operand->Value) (W:World) (he:∀y x,y∈o.op.operands->env.op y=some (.v x)->ev y=x) :
  (execOp ev o).run P W=.ok (.value (.func f #[] #[u,v])) W:=by
 have ex:=he x _ (by simp[ho,Op.operands]) hx;have ey:=he y _ (by simp[ho,Op.operands]) hy;unfold execOp;simp[ho,ex,ey,Instr.makeFunc]
theorem EVL.fn2 {f:Fn} {x y:Operand} (ho:o.op=.makeFunc f #[] #[x,y]) (hw:aP ops env o=some true) (hd:o.dst=some d) (hn:Nat.blt d n=true) {u v:Value} (hx:env.op x=some (.v u)) (hy:env.op y=some (.v v))
  (h:EVL P n ops rest ((d,.v (.func f #[] #[u,v]))::env) bx H Q):EVL P n ops (o::rest) env bx H Q:=EVL.gen hw hd hn (YZ ho hx hy) h
theorem U7 {f:FuncId} (hc:fQ P f) {t:Nat} {args:Array Operand} {bW:Array TypeId} {o:Oper} (ho:o.op=.call ⟨.value (.tmp t),args,bW⟩) {a:Act} {cs:List Value} (ht:a.eval (.tmp t)=.func (.func f) #[] cs.toArray) {vs:List Value} (hv:args.toList.map a.eval=vs) (W:World) :
  (execOp a.eval o).run P W=.ok (.enter f (vs++cs).toArray) W:=by
 have hm:args.map a.eval=vs.toArray:=by rw[<-hv,<-Array.toList_map]
 unfold execOp;simp only[ho,resolve,hm,ht,Deferred.ofValue,Sem.run_bind,Sem.run_pure,Result.andThen_ok,invoke];simp[hc (vs++cs).toArray W]
theorem az.callC {f:FuncId} {t:Nat} {args:Array Operand} {bW:Array TypeId} (ho:o.op=.call ⟨.value (.tmp t),args,bW⟩) (hw:aP ops env o=some true) {cs:List Value} (ht:env.get t=some (.v (.func (.func f) #[] cs.toArray))) {vs:List Value} (ha:dX env args.toList some=some vs) {F:Hp->Prop} {Φ:Value->Hp->Prop} (hc:fQ P f) {R:Hp}
  (hpc:∀G,R.Le G->F G->PC P f (vs++cs).toArray G Φ):az P ops o env bx ow R F (fun _ v G=>Φ v G):=fun β a W G hle hf hgl hb _ hs hF=>by
 obtain⟨aX,hk,hm⟩:=oz env _ _ _ ha;cases hk;have aG:=hm β G a.eval (fun y s hy=>hs.op (by simp[ho,Op.operands,Call.operands];exact .inr (by simpa using hy)));have E1:a.eval (.tmp t)=.func (.func f) #[] cs.toArray:=hs.op (s:=.v (.func (.func f) #[] cs.toArray)) (by simp[ho,Op.operands,Call.operands]) ht;rw[if_pos (hs.want hw)];unfold Oper.wp;rw[U7 hc ho E1 aG,Oper.upon_enter];refine((hpc G hle hF).run W hf hgl).mono ?_;rintro e W' ⟨v,H',rfl,hΦ,gT,jI,dF,aL⟩;exact⟨v,H',rfl,hΦ,gT,jI,dF,aL⟩
theorem DJ.callC {tail l:List Oper} {x:Nat->Value} {y:Nat->Ows} {au:Ows} {kl ks:List DK} {i:Nat} {aw:Bxs} {Γ:fO} {f:FuncId} {t:Nat} {args:Array Operand} {bW:Array TypeId} (ho:o.op=.call ⟨.value (.tmp t),args,bW⟩) (hw:aP ops env o=some true) (hd:o.dst=some d) (hn:Nat.blt d n=true)
  {cs:List Value} (ht:env.get t=some (.v (.func (.func f) #[] cs.toArray))) {vs:List Value} (ha:dX env args.toList some=some vs) (hc:fQ P f) {v:Value} (hpc:∀G,H.ro.Le G->PC P f (vs++cs).toArray G fun u _=>u=v)
  (h:DJ P n ops tail sb bx H Q x y kl (i+1) l ks ((d,.v v)::env) aw Γ au):DJ P n ops tail sb bx H Q x y kl i (o::l) (.sv (.v v)::ks) env aw Γ au:=by
 refine⟨d,hd,hn,rfl,?_,h⟩;have:=az.callC (P:=P) (ops:=ops) (bx:=bx) (ow:=H.ow) (R:=H.ro) (F:=dD ops i Γ) (Φ:=fun u _=>u=v) ho hw ht ha hc (fun G hG _=>hpc G hG);exact this
end
abbrev n32 (x:Nat):Value:=.int .u32 (x:Int)
theorem rM {v:Value} {l:List Nat} {H:Hp} (h:SlN n32 H v l) (hD:Dig B32 l) (hl:l.length<=1000000000) (i:Nat):PC prog 152 #[v,.int .i64 (i:Int)] H fun r _=>r=n64 (l.getD i 0):=by
 obtain⟨a,cap,rfl⟩:=SlC.val h;refine BD func152 ntmps152 ?_;refine uR ?_;by_cases hi:i<l.length
 ·rw[tX _ _ hi];have hx:l.getD i 0<B32:=hD.getD (by decide) i;refine uR ?_;refine vI (h) (i) (rfl) (hi) (iV hi) ?_;refine uR ?_;rw[gX _ (by rw[dY]at hx;rw[cH];omega)]
 ·rw[ue _ _ hi];refine uR ?_;rw[qB,qe (by omega)];rfl
theorem SlN.le {α:Type} {enc:α->Value} {H:Hp} {a:Option Addr} {cap:Nat} {l:List α} (h:SlN enc H (.slice a l.length cap) l):l.length<=cap:=by
 rcases h.2 with ⟨h0,_⟩ | ⟨b,off,bz,c,e,hc,_⟩
 ·omega
 ·cases e;exact hc
theorem SlN.pre {α:Type} {enc:α->Value} {H:Hp} {a:Option Addr} {cap:Nat} {l:List α} (h:SlN enc H (.slice a l.length cap) l) (n:Nat) (hn:n<=l.length) (s:Nat):SlN enc H (.slice (if cap=0 then a else a.map (·.add (0*s))) (n-0) (cap-0)) (l.take n):=by
 have e:(l.take n).length=n:=by simp;omega
 unfold SlN;rw[e,Nat.sub_zero,Nat.sub_zero];rcases h.2 with ⟨h0,a',bz,e'⟩ | ⟨b,off,bz,c,e',hc,hH,bC⟩
 ·have:n=0:=oM;subst this;exact⟨by simp,.inl ⟨rfl,_,_,rfl⟩⟩
 ·cases e';refine⟨by simp;omega,?_⟩;by_cases h0:n=0
  ·subst h0;exact .inl ⟨rfl,_,_,rfl⟩
  ·refine .inr ⟨b,off,cap,c,?_,by omega,hH,fun j x hj=>bC j x ?_⟩
   ·rw[if_neg (by omega)];simp[Addr.add]
   ·rw[qK,pO]at hj;rw[qK];split at hj
    ·exact hj
    ·cases hj
set_option maxRecDepth 20000 in
theorem TY {v:Value} {l:List Nat} {H:Hp} (h:SlN n32 H v l) (hl:l.length<=1000000000):PC prog 63 #[v] H fun r H'=>SlN n32 H' r (cg l):=by
 obtain⟨a,cap,rfl⟩:=SlC.val h;have bZ:=h.le;refine BD func63 ntmps63 ?_;refine uR ?_
 refine EV.loop (ι:=Nat) (fun n=>[(0,.v (.slice a l.length cap)),(3,.v (.int .i64 (n:Int)))]) (fun _=>[]) (fun _=>[])
  (fun n G=>n<=l.length/\cg (l.take n)=cg l/\SlN n32 G (.slice a l.length cap) l) (fun n=>n) l.length ⟨Z,Z,trivial⟩ trivial rfl (fun _=>rfl) ⟨qH _,by rw[qa],h⟩ ?_
 rintro n G hG ⟨hn,ht,hs⟩
 have fin:cg (l.take n)=l.take n->SlN n32 G (.slice (if cap=0 then a else a.map (·.add (0*1))) (n-0) (cap-0)) (cg l):=fun e=>by
  rw[<-ht,e];exact hs.pre n hn 1
 refine uR ?_;by_cases h0:n=0
 ·subst h0;rw[show decide (((0:Nat):Int)>0)=false from rfl];refine uR ?_;refine EVL.ofVal (az.sliceV (te':=aa135) (a:=a) (m:=l.length) (cap:=cap) tO Z Z Z Z Z Z 0 0 (.inl ⟨rfl,rfl⟩) (.inr ⟨_,IntKind.i64,rfl,rfl⟩) (qH _) (qQ _) bZ) Z Z Z fun G4 aT=>?_;refine uR ?_;exact(fin (by simp[cg])).mono aT
 ·rw[show decide ((n:Int)>0)=true by simp;omega]
  have ed:(l.map n32)[n-1]?=some (n32 (l.getD (n-1) 0)):=by
   rw[qK,qB,qA (show n-1<l.length by omega)];rfl
  have k7:l.take n=l.take (n-1)++[l.getD (n-1) 0]:=by
   have:=qS (show n-1<l.length by omega);rw[show n-1+1=n by omega]at this;rw[this,qB,qA (show n-1<l.length by omega)];rfl
  refine uR ?_;refine EVL.ofVal (az.idx1 tO Z Z Z Z Z Z Z Z hs (n-1) (by rw[pL];omega) oM ed) Z Z Z fun G4 aT=>?_;refine uR ?_;by_cases hz:l.getD (n-1) 0=0
  ·rw[hz,show (((0:Nat):Int) == 0)=true from rfl];refine uR ?_;refine⟨n-1,⟨rfl,?_,trivial⟩,trivial,rfl,⟨by omega,?_,hs.mono aT⟩,aT,by omega⟩
   ·rw[show IntKind.i64.wrap ((n:Int)-1)=((n-1:Nat):Int) by rw[pL];omega];rfl
   ·rw[<-ht,k7,hz,MQ]
  ·rw[show (((l.getD (n-1) 0:Nat):Int) == 0)=false by simpa using hz];refine uR ?_;refine EVL.ofVal (az.sliceV (te':=aa135) (a:=a) (m:=l.length) (cap:=cap) tO Z Z Z Z Z Z 0 n (.inl ⟨rfl,rfl⟩) (.inr ⟨_,IntKind.i64,rfl,rfl⟩) (qQ _) (qI hn bZ) bZ) Z Z Z fun G5 bj=>?_;refine uR ?_;exact(fin (by rw[k7,MF _ _ hz])).mono (aT.trans bj)
theorem yg {α:Type} {enc:α->Value} {G:Hp} {g k:Nat} {l:List α} (hg:G g=some (l.map enc).toArray) (hl:l.length=k):SlN enc G (.slice (some ⟨g,0,none⟩) k k) l:=by
 unfold SlN;rw[hl];exact⟨by simp[hl],.inr ⟨g,0,k,_,rfl,qH _,hg,fun j x hj=>by rw[qu,<-hj];exact List.getElem?_toArray⟩⟩
theorem we {v:Value} {l:List Nat} {H:Hp} (h:SlN n32 H v l) (hD:Dig B32 l) (hl:l.length<=1000000000) {n:Nat} (hn:val B32 l=n):PC prog 63 #[v] H fun r H'=>SlN n32 H' r (dig B32 n):=by
 have:=TY h hl
 rwa [S2 bN hD,hn]at this
theorem zN (m:Nat):(List.replicate m (aa135.zero)).flatten=(List.replicate m 0).map n32:=by
 rw[List.map_replicate,show (aa135.zero)=[n32 0] from rfl];simp
theorem Dp (s:Nat):(s:Int).fdiv (2 ^ (min 32 IntKind.u64.bits))=((s / B32:Nat):Int):=by
 rw[show (2:Int) ^ (min 32 IntKind.u64.bits)=((2 ^ 32:Nat):Int) from rfl,Int.fdiv_eq_ediv_of_nonneg _ (Int.natCast_nonneg _),<-Int.natCast_ediv];rfl
theorem yA (n:Nat):Dig B32 (dig B32 n):=(eo bN n).1
theorem zqE (n:Nat) (hn:n<W64):cg [n % B32,n / B32]=dig B32 n:=by
 have hB:B32=4294967296:=rfl;have hD:Dig B32 [n % B32,n / B32]:=Dig.cons (qm _ (by decide)) (Dig.cons (by rw[cH]at hn;rw[hB];omega) (Dig.nil _));rw[S2 bN hD];congr 1;simp only[val,Nat.mul_zero,qY];exact Nat.mod_add_div n B32
theorem I8 (n:Nat) (hn:n<W64) (H:Hp):PC prog 27 #[n64 n] H fun r H'=>SlN n32 H' r (dig B32 n):=by
 refine BD func27 ntmps27 ?_;refine uR ?_;have e1:IntKind.u32.wrap (n:Int)=((n % B32:Nat):Int):=by rw[DN];rfl
 have e2:IntKind.u32.wrap ((n:Int).fdiv (2 ^ (min 32 IntKind.u64.bits)))=((n / B32:Nat):Int):=by
  rw[show (2:Int) ^ (min 32 IntKind.u64.bits)=4294967296 from rfl,Int.fdiv_eq_ediv_of_nonneg _ oM,DN,show B32=4294967296 from rfl];rw[cH]at hn;omega
 rw[e1,e2];refine EVL.lit tO Z Z Z Z Z Z Z Z Z Z Z fun g=>?_;refine EVL.publish [] [] Z fun G hG hg=>?_;have hs:SlN n32 G (.slice (some ⟨g,0,none⟩) 2 2) [n % B32,n / B32]:=yg hg rfl;have ht:=TY hs (by simp);rw[zqE n hn]at ht;refine EVL.call Z Z Z Z Z ht ?_;rintro v H2 hv hle;refine uR ?_;exact hv
theorem Ej {u v:Value} {l m:List Nat} {H:Hp} (hu:SlN n32 H u l) (hv:SlN n32 H v m) (hl:eM B32 l) (hm:eM B32 m) (dc:l.length<=1000000000):PC prog 109 #[u,v] H fun r _=>r=.int .i64 (br (val B32 l) (val B32 m)):=by
 obtain⟨aa,ca,rfl⟩:=SlC.val hu;obtain⟨ab,cb,rfl⟩:=SlC.val hv;refine BD func109 ntmps109 ?_;refine uR ?_;by_cases he:l.length=m.length
 ·rw[show (((l.length:Nat):Int) != (m.length:Int))=false by simp[he]];refine uR ?_;refine EV.loopK (ι:=Nat) [0,1] [] (fun n=>[(5,.v (.int .i64 ((n:Int)-1)))]) (fun _=>[]) (fun _=>[]) (fun n G=>n<=l.length/\l.drop n=m.drop n) (fun n=>n) (l.length) Z Z ⟨by rw[show IntKind.i64.wrap ((l.length:Int)-1)=(l.length:Int)-1 by rw[pL];omega];rfl,trivial⟩ trivial rfl (fun _=>rfl) (⟨qH _,by rw[qi (qH _),qi (by omega)]⟩) ?_;rintro n G1 aj ⟨hn,hd⟩;refine uR ?_;by_cases h0:n=0
  ·subst h0;rw[show decide ((((0:Nat):Int)-1)>=0)=false from rfl];refine uR ?_;rw[List.drop_zero,List.drop_zero]at hd;subst hd;rw[RT rfl]
  ·rw[show decide (((n:Int)-1)>=0)=true by simp;omega];have hx:=iV (enc:=n32) (show n-1<l.length by omega);have hy:=iV (enc:=n32) (show n-1<m.length by omega);have NR:=Zq (B:=B32) (by decide) (l:=l) (m:=m) (n-1) hl.1 hm.1 he oM (by rw[show n-1+1=n by omega];exact hd)
   have kn:l.drop (n-1)=l.getD (n-1) 0::l.drop n:=by
    rw[qp (show n-1<l.length by omega),qB,qA (show n-1<l.length by omega),show n-1+1=n by omega];rfl
   have F1:m.drop (n-1)=m.getD (n-1) 0::m.drop n:=by
    rw[qp (show n-1<m.length by omega),qB,qA (show n-1<m.length by omega),show n-1+1=n by omega];rfl
   generalize l.getD (n-1) 0=a at *
   generalize m.getD (n-1) 0=b at *
   refine uR ?_;apply EV.drawn 9 kR kR;intro xv yw;(repeat refine' DD ?_);refine' DJ.ofVal (az.idx1 tO Z Z Z Z Z Z Z Z (hu.mono aj) (n-1) oM oM (hx)) Z Z Z ?_;rotate_left;(repeat refine' DD ?_);refine' DJ.ofVal (az.idx1 tO Z Z Z Z Z Z Z Z (hv.mono aj) (n-1) oM oM (hy)) Z Z Z ?_;rotate_left;(repeat refine' DD ?_);(refine DJ.nil (fun G2 ai fN=>?_);(case hS|hS2=>rfl));refine uR ?_;refine EV.cond Z (fun hc=>?_) (fun hc=>?_)
   ·simp only[nN]at hc;refine uR ?_;apply EV.drawn 9 kR kR;intro xv yw;(repeat refine' DD ?_);refine' DJ.ofVal (az.idx1 tO Z Z Z Z Z Z Z Z ((hu.mono aj).mono ai) (n-1) oM oM (hx)) Z Z Z ?_;rotate_left;(repeat refine' DD ?_);refine' DJ.ofVal (az.idx1 tO Z Z Z Z Z Z Z Z ((hv.mono aj).mono ai) (n-1) oM oM (hy)) Z Z Z ?_;rotate_left;(repeat refine' DD ?_);(refine DJ.nil (fun G3 ax fM=>?_);(case hS|hS2=>rfl));refine uR ?_;rw[NR hc];refine EV.cond Z (fun af=>?_) (fun af=>?_)
    ·simp only[nN]at af;refine uR ?_;rw[pT af]
    ·simp only[nN]at af;refine uR ?_;rw[rJ (by omega)]
   ·simp only[nN]at hc;refine uR ?_;refine⟨n-1,⟨?_,trivial⟩,sB,trivial,trivial,rfl,⟨by omega,by rw[kn,F1,hd,hc]⟩,ai,by omega⟩;rw[show IntKind.i64.wrap ((n:Int)-1-1)=((n-1:Nat):Int)-1 by rw[pL];omega];rfl
 ·rw[show (((l.length:Nat):Int) != (m.length:Int))=true by simp;omega];refine uR ?_;by_cases af:l.length<m.length
  ·rw[tX _ _ af,pT (Ci bN hl.1 hm af)];refine uR ?_;rfl
  ·rw[ue _ _ af,rJ (Ci bN hm.1 hl oM)];refine uR ?_;rfl
theorem BO.done {B:Nat} {x y cur:List Nat} {m c:Nat} (hB:2<=B) (h:BO B x y cur (m+1) c) (hl:cur.length=m+1) (hx:Dig B x) (hy:Dig B y) (er:x.length<=m) (fD:y.length<=m):val B cur=val B x+val B y:=by
 have hs:=h.sum;rw[qO oM,qO oM,qO (by omega)]at hs;have h1:=Nat.lt_of_lt_of_le (cZ hx) (qc (by omega:0<B) er);have h2:=Nat.lt_of_lt_of_le (cZ hy) (qc (by omega:0<B) fD);have h3:2*B ^ m<=B ^ (m+1):=by rw[qX,qW];exact qb _ hB
 have hc:c=0:=by
  rcases qz c with e | e
  ·exact e
  ·have:B ^ (m+1)<=c*B ^ (m+1):=Nat.le_mul_of_pos_left _ e;omega
 rw[hc]at hs;omega
theorem YF (a b:Nat):(if (b:Int)>(a:Int) then (b:Int) else (a:Int))=((max a b:Nat):Int):=by split <;> omega
theorem zoe {u v:Value} {x y:List Nat} {H:Hp} (hu:SlN n32 H u x) (hv:SlN n32 H v y) (hx:Dig B32 x) (hy:Dig B32 y) (er:x.length<=200000000) (fD:y.length<=200000000) :
  PC prog 178 #[u,v] H fun r H'=>SlN n32 H' r (dig B32 (val B32 x+val B32 y)):=by
 obtain⟨aa,ca,rfl⟩:=SlC.val hu;obtain⟨ab,cb,rfl⟩:=SlC.val hv;refine BD func178 ntmps178 ?_;refine uR ?_;rw[YF];have hmx:x.length<=max x.length y.length:=Nat.le_max_left ..;have Wc:y.length<=max x.length y.length:=Nat.le_max_right ..;have gS:max x.length y.length<=200000000:=Nat.max_le.2 ⟨er,fD⟩;generalize max x.length y.length=m at *
 refine EVL.make tO Z Z Z Z Z Z Z Z Z (m+1) (aO m oM) oM (by rfl) (by rfl) fun g=>?_;refine uR ?_;rw[zN];refine EV.loopK (ι:=Nat × Nat × List Nat) [0,1,5,6] [] (fun q=>[(7,.v (n64 q.2.1)),(8,.v (.int .i64 (q.1:Int)))]) (fun _=>[]) (fun q=>[(g,135,q.2.2.map n32)]) (fun q G=>q.1<=m+1/\q.2.2.length=m+1/\BO B32 x y q.2.2 q.1 q.2.1) (fun q=>m+1-q.1) ((0,0,List.replicate (m+1) 0)) Z Z ⟨Z,Z,trivial⟩ trivial rfl (fun _=>rfl) (⟨qQ _,by simp,⟨Dig.zeros (by decide) _,by simp[val],qQ _⟩⟩) ?_;rintro⟨i,c,cur⟩ G hG ⟨hi,hlen,hinv⟩;dsimp only at hi hlen hinv;refine uR ?_;refine EV.cond Z (fun af=>?_) (fun af=>?_)
 ·simp only[nN]at af;have di:x.getD i 0<B32:=hx.getD (by decide) i;have p8:y.getD i 0<B32:=hy.getD (by decide) i;have aK:=hinv.step (by decide) oM hx hy;have Bo:=hinv.carry
  repeat (first|refine RUN ?_|refine CV (rM (hu.mono hG) hx oM i) ?_|refine CV (rM (hv.mono hG) hy oM i) ?_|refine CE (rM (hu.mono hG) hx oM i) ?_|refine CE (rM (hv.mono hG) hy oM i) ?_)
  generalize x.getD i 0=xi at *
  generalize y.getD i 0=yi at *
  have bk:c+xi+yi<W64:=by rw[dY]at di p8;rw[cH];omega
  rw[tV c xi oM,tV (c+xi) yi bk];refine uR ?_;rw[pn];refine EVL.idx0 tO Z Z Z Z Z Z Z Z Z Z (i) (rfl) oM ?_;refine EVL.set1 tO Z Z Z Z Z Z Z Z Z Z ((by rw[qV];dsimp only;omega)) ?_;refine uR ?_;refine⟨(i+1,(c+xi+yi) / B32,cur.set i ((c+xi+yi) % B32)),⟨?_,?_,trivial⟩,sB,trivial,trivial,?_,⟨by dsimp only;omega,by simp[hlen],aK⟩,Hp.Le.refl _,by dsimp only;omega⟩
  ·rw[Dp];rfl
  ·rw[aO i (by omega)];rfl
  ·dsimp only;rw[List.map_set]
 ·simp only[nN]at af;obtain rfl:i=m+1:=oM;refine uR ?_;refine EVL.publish [] [] Z fun G2 ai hg=>?_;have hd:=hinv.done bN hlen hx hy oM oM;have ht:=we (l:=cur) (yg (enc:=n32) hg hlen) hinv.dig oM hd;refine vA (ht) ?_;rintro r H' hr hle;refine uR ?_;exact hr
theorem w32 {n:Nat} (h:n<B32):n<W64:=by rw[dY]at h;rw[cH];omega
theorem Zx {x y c:Nat} (hx:x<B32) (hy:y<B32) (hc:c<=1) :
  IntKind.u32.wrap (IntKind.u64.wrap (IntKind.u64.wrap ((x:Int)-(y:Int))-(c:Int)))=((subS B32 x y c:Nat):Int)/\(IntKind.u64.wrap (IntKind.u64.wrap ((x:Int)-(y:Int))-(c:Int))).fdiv (2 ^ (min 63 IntKind.u64.bits))=((subC x y c:Nat):Int):=by
 rw[dY]at hx hy;rw[DN,dz,dz,show (2:Int) ^ (min 63 IntKind.u64.bits)=9223372036854775808 from rfl,Int.fdiv_eq_ediv_of_nonneg _ (by decide)];unfold subS subC;rw[dY];split <;> omega
theorem RU {c x p:Nat} (hc:c<2 ^ p) (h:c+x*2 ^ p<W64) :
  IntKind.u64.wrap (((BitVec.ofInt IntKind.u64.bits (c:Int) ||| BitVec.ofInt IntKind.u64.bits ((x*2 ^ p:Nat):Int)).toNat:Nat):Int)=((c+x*2 ^ p:Nat):Int):=by
 rw[cH]at h;refine(u64_or_nat _ _ oM oM).trans ?_;rw[pE _ _ p (2 ^ p) rfl hc]
theorem Ll {c x p:Nat} (hc:c<2 ^ p) (h:c+x*2 ^ p<W64) :
  IntKind.u64.wrap (((BitVec.ofInt IntKind.u64.bits ((x*2 ^ p:Nat):Int) ||| BitVec.ofInt IntKind.u64.bits (c:Int)).toNat:Nat):Int)=((c+x*2 ^ p:Nat):Int):=by
 rw[cH]at h;refine(u64_or_nat _ _ oM oM).trans ?_;rw[Nat.or_comm,pE _ _ p (2 ^ p) rfl hc]
theorem BL.done {B:Nat} {x y cur:List Nat} {c:Nat} (hB:2<=B) (h:BL B x y cur x.length c) (hl:cur.length=x.length) (hx:Dig B x) (hy:eM B y) (hge:val B y<=val B x):val B cur=val B x-val B y/\y.length<=x.length:=by
 have fD:y.length<=x.length:=by
  rcases Nat.lt_or_ge x.length y.length with e | e
  ·have:=Ci hB hx hy e;omega
  ·exact e
 refine⟨?_,fD⟩;have hs:=h.sum;rw[qO (by omega:cur.length<=x.length),qO (qH _),qO fD]at hs;have h2:=cZ h.dig;rw[hl]at h2
 have hc:c=0:=by
  rcases qz c with e | e
  ·exact e
  ·have:1*B ^ x.length<=c*B ^ x.length:=qN _ e;omega
 rw[hc]at hs;omega
theorem TZ {u v:Value} {x y:List Nat} {H:Hp} (hu:SlN n32 H u x) (hv:SlN n32 H v y) (hx:Dig B32 x) (hy:eM B32 y) (er:x.length<=200000000) (fD:y.length<=200000000) (hge:val B32 y<=val B32 x) :
  PC prog 179 #[u,v] H fun r H'=>SlN n32 H' r (dig B32 (val B32 x-val B32 y)):=by
 obtain⟨aa,ca,rfl⟩:=SlC.val hu;obtain⟨ab,cb,rfl⟩:=SlC.val hv;refine BD func179 ntmps179 ?_;refine uR ?_;refine EVL.make tO Z Z Z Z Z Z Z Z Z (x.length) (rfl) oM (by rfl) (by rfl) fun g=>?_;refine uR ?_;rw[zN];refine EV.loopK (ι:=Nat × Nat × List Nat) [0,1,5] [] (fun q=>[(6,.v (n64 q.2.1)),(7,.v (.int .i64 (q.1:Int)))]) (fun _=>[]) (fun q=>[(g,135,q.2.2.map n32)]) (fun q G=>q.1<=x.length/\q.2.2.length=x.length/\BL B32 x y q.2.2 q.1 q.2.1) (fun q=>x.length-q.1) ((0,0,List.replicate x.length 0)) Z Z ⟨Z,Z,trivial⟩ trivial rfl (fun _=>rfl) (⟨qQ _,by simp,⟨Dig.zeros (by decide) _,by simp[val],qQ _⟩⟩) ?_;rintro⟨i,c,cur⟩ G1 aj ⟨hi,hlen,hinv⟩;dsimp only at hi hlen hinv;refine uR ?_;refine EV.cond Z (fun af=>?_) (fun af=>?_)
 ·simp only[nN]at af;have di:x.getD i 0<B32:=hx.getD (by decide) i;have p8:y.getD i 0<B32:=hy.1.getD (by decide) i;have aK:=hinv.step (by decide) oM hx hy.1;have ed:=iV (enc:=n32) af;have rm:=rM (hv.mono aj) hy.1 oM i;obtain⟨e1,e2⟩:=Zx di p8 hinv.carry;refine uR ?_;apply EV.drawn 12 kR kR;intro xv yw;(repeat refine' DD ?_);refine' vJ (hu.mono aj) (i) (rfl) (af) (ed) ?_;rotate_left;(repeat refine' DD ?_);refine' DJ.callS Z Z Z Z Z rm.can (fun G hG _=>rM ((hv.mono aj).mono hG) hy.1 oM i) ?_;rotate_left;(repeat refine' DD ?_);(refine DJ.nil (fun G2 ai fN=>?_);(case hS|hS2=>rfl));refine uR ?_;rw[gX _ (w32 di),e1];refine EVL.idx0 tO Z Z Z Z Z Z Z Z Z Z (i) (rfl) (af) ?_;refine EVL.set1 tO Z Z Z Z Z Z Z Z Z Z ((by rw[qV];dsimp only;omega)) ?_;refine uR ?_;refine⟨(i+1,subC (x.getD i 0) (y.getD i 0) c,cur.set i (subS B32 (x.getD i 0) (y.getD i 0) c)),⟨?_,?_,trivial⟩,sB,trivial,trivial,?_,⟨by dsimp only;omega,by simp[hlen],aK⟩,ai,by dsimp only;omega⟩
  ·rw[e2];rfl
  ·rw[aO i (by omega)];rfl
  ·dsimp only;rw[List.map_set]
 ·simp only[nN]at af;obtain rfl:i=x.length:=oM;refine uR ?_;refine EVL.publish [] [] Z fun G2 ai hg=>?_;have hd:=hinv.done bN hlen hx hy hge;have ht:=we (l:=cur) (yg (enc:=n32) hg hlen) hinv.dig oM hd.1;refine vA (ht) ?_;rintro r H' hr hle;refine uR ?_;exact hr
theorem YC {c o m n:Nat} (hc:c<B32) (ho:o<B32) (hm:m<B32) (hn:n<B32):m*n<W64/\c+o+m*n<W64:=by
 have:m*n<=(B32-1)*(B32-1):=Nat.mul_le_mul oM oM;rw[dY]at *
 rw[cH];omega
theorem zok {u v:Value} {x y:List Nat} {H:Hp} (hu:SlN n32 H u x) (hv:SlN n32 H v y) (hx:Dig B32 x) (hy:Dig B32 y) (er:x.length<=200000000) (fD:y.length<=200000000) :
  PC prog 62 #[u,v] H fun r H'=>SlN n32 H' r (dig B32 (val B32 x*val B32 y)):=by
 obtain⟨aa,ca,rfl⟩:=SlC.val hu;obtain⟨ab,cb,rfl⟩:=SlC.val hv;refine BD func62 ntmps62 ?_;refine uR ?_;refine EVL.make tO Z Z Z Z Z Z Z Z Z (x.length+y.length) (BW _ _ oM) oM (by rfl) (by rfl) fun g=>?_;refine uR ?_;rw[zN];refine EV.loopK (ι:=Nat × List Nat) [0,1,5] [] (fun q=>[(6,.v (.int .i64 (q.1:Int)))]) (fun _=>[]) (fun q=>[(g,135,q.2.map n32)]) (fun q G=>q.1<=x.length/\q.2.length=x.length+y.length/\Dig B32 q.2/\val B32 q.2=val B32 (x.take q.1)*val B32 y/\∀j,q.1+y.length<=j->q.2.getD j 0=0) (fun q=>x.length-q.1) ((0,List.replicate (x.length+y.length) 0)) Z Z ⟨Z,trivial⟩ trivial rfl (fun _=>rfl) (⟨qQ _,by simp,Dig.zeros (by decide) _,by dsimp only;rw[pW];simp[val],fun j _=>by simp[qB,List.getElem?_replicate];split <;> rfl⟩) ?_;rintro⟨i,dM⟩ G1 aj ⟨hi,hlen,hD,hval,hz⟩;dsimp only at hi hlen hD hval hz;refine uR ?_;refine EV.cond Z (fun af=>?_) (fun af=>?_)
 ·simp only[nN]at af;have di:x.getD i 0<B32:=hx.getD (by decide) i;have ed:=iV (enc:=n32) af;refine uR ?_;refine EV.loopK (ι:=Nat × Nat × List Nat) [0,1,5,6] [] (fun q=>[(7,.v (n64 q.2.1)),(8,.v (.int .i64 (q.1:Int)))]) (fun _=>[]) (fun q=>[(g,135,q.2.2.map n32)]) (fun q G=>q.1<=y.length/\ve B32 (x.getD i 0) y dM i q.2.2 q.1 q.2.1) (fun q=>y.length-q.1) ((0,0,dM)) Z Z ⟨Z,Z,trivial⟩ trivial rfl (fun _=>rfl) (⟨qQ _,ve.start (by decide) hD⟩) ?_;rintro⟨k,c,cur⟩ G2 ai ⟨hk,hinv⟩;dsimp only at hk hinv;have cj:=hinv.len;refine uR ?_;refine EV.cond Z (fun ji=>?_) (fun ji=>?_)
  ·simp only[nN]at ji;have Jr:y.getD k 0<B32:=hy.getD (by decide) k;have yM:=iV (enc:=n32) ji;have CY:i+k<cur.length:=oM;have oX:cur.getD (i+k) 0<B32:=hinv.dig.getD (by decide) _;have bC:=iV (enc:=n32) CY;have aK:=hinv.step (by decide) CY di hy;obtain⟨s1,s2⟩:=YC hinv.carry oX di Jr;refine uR ?_;apply EV.drawn 22 kR kR;intro xv yw;(repeat refine' DD ?_);refine' DJ.ofVal (az.idxP1 tO Z Z Z Z Z Z Z Z (i+k) (BW _ _ oM) oM) Z Z Z ?_;rotate_left;refine' DJ.ofVal (az.load1 tO Z Z Z Z Z Z (0) Z (bC)) Z Z Z ?_;rotate_left;(repeat refine' DD ?_);refine' vJ ((hu.mono aj).mono ai) (i) (rfl) (af) (ed) ?_;rotate_left;(repeat refine' DD ?_);refine' vJ ((hv.mono aj).mono ai) (k) (rfl) (ji) (yM) ?_;rotate_left;(repeat refine' DD ?_);(refine DJ.nil (fun G3 ax fM=>?_);(case hS|hS2=>rfl));refine uR ?_;rw[gX _ (w32 oX),gX _ (w32 di),gX _ (w32 Jr),KE _ _ s1,tV _ _ (by omega:c+cur.getD (i+k) 0<W64),tV _ _ s2];refine uR ?_;rw[pn];refine EVL.idx0 tO Z Z Z Z Z Z Z Z Z Z (i+k) (BW _ _ oM) oM ?_;refine EVL.set1 tO Z Z Z Z Z Z Z Z Z Z ((by rw[qV];dsimp only;omega)) ?_;refine uR ?_;refine⟨(k+1,(c+cur.getD (i+k) 0+x.getD i 0*y.getD k 0) / B32,cur.set (i+k) ((c+cur.getD (i+k) 0+x.getD i 0*y.getD k 0) % B32)),⟨?_,?_,trivial⟩,sB,trivial,trivial,?_,⟨by dsimp only;omega,aK⟩,ax,by dsimp only;omega⟩
   ·rw[Dp];rfl
   ·rw[aO k (by omega)];rfl
   ·dsimp only;rw[List.map_set]
  ·simp only[nN]at ji;obtain rfl:k=y.length:=oM;refine uR ?_;rw[pn,qT hinv.carry];refine EVL.idx0 tO Z Z Z Z Z Z Z Z Z Z (i+y.length) (BW _ _ oM) oM ?_;refine EVL.set1 tO Z Z Z Z Z Z Z Z Z Z ((by rw[qV];dsimp only;omega)) ?_;refine uR ?_;have hd:=hinv.done oM (hz _ (qH _));refine⟨(i+1,cur.set (i+y.length) c),⟨?_,trivial⟩,sB,trivial,trivial,?_,⟨by dsimp only;omega,by simp;omega,hinv.dig.set _ _ hinv.carry,?_,fun j hj=>?_⟩,ai,by dsimp only;omega⟩
   ·rw[aO i (by omega)];rfl
   ·dsimp only;rw[List.map_set]
   ·dsimp only;rw[hd,hval,zkY]
   ·dsimp only at hj ⊢;rw[getD_set_ne _ _ _ _ oM,hinv.keep j (by omega)];exact hz j oM
 ·simp only[nN]at af;obtain rfl:i=x.length:=oM;rw[qO (qH _)]at hval;refine uR ?_;refine EVL.publish [] [] Z fun G2 ai hg=>?_;have ht:=we (l:=dM) (yg (enc:=n32) hg hlen) hD oM hval;refine vA (ht) ?_;rintro r H' hr hle;refine uR ?_;exact hr
theorem Rz {B:Nat} (hB:0<B) {l:List Nat} (h:Dig B l) (i:Nat):val B l / B ^ i=val B (l.drop i):=by
 by_cases hi:i<=l.length
 ·have h1:=ep B l i hi;have h2:=cZ (h.take i);rw[qP,qn hi]at h2;rw[h1,Nat.add_mul_div_left _ _ oM,Nat.div_eq_of_lt h2,qu]
 ·rw[qi oM,nx];exact Nat.div_eq_of_lt (Nat.lt_of_lt_of_le (cZ h) (qc hB oM))
theorem BM.done {B p:Nat} {x d:List Nat} {c:Nat} (h:BM B p x d c) (hl:d.length=x.length+1) (hx:Dig B x) (hp:2 ^ p<=B):val B d=val B x*2 ^ p:=by
 have hs:=h.sum;rw[qO oM,hl]at hs;have h1:=cZ hx
 have h2:val B x*2 ^ p<B ^ (x.length+1):=by
  rw[qX];exact Nat.lt_of_lt_of_le (Nat.mul_lt_mul_of_pos_right h1 (Nat.two_pow_pos p)) (qb _ hp)
 rcases qz c with e | e
 ·rw[e]at hs;omega
 ·have:1*B ^ (x.length+1)<=c*B ^ (x.length+1):=qN _ e;omega
theorem Re (W p:Nat):2 ^ (32*W+p)=B32 ^ W*2 ^ p:=by rw[Nat.pow_add,Nat.pow_mul,im]
theorem zjE (B W:Nat) (d:List Nat):val B (List.replicate W 0++d)=B ^ W*val B d:=by rw[uj,pW,List.length_replicate,qu]
theorem Q4 {α:Type} {enc:α->Value} {G:Hp} {v:Value} {m:Nat} {l:List α} (h:SlC G v m 1 (l.map enc)) (hl:l.length=m):SlN enc G v l:=by unfold SlN;rw[hl];exact h
theorem XQ (k:Nat):IntKind.u64.wrap ((k:Int).tmod 32)=((k % 32:Nat):Int):=by
 rw[show (k:Int).tmod 32=((k % 32:Nat):Int) from Dx k 32,gX _ (by rw[cH];omega)]
theorem shm (m:Nat) (h:m<=64):min (m % ((2:Int) ^ IntKind.u64.bits).natAbs) IntKind.u64.bits=m:=by
 rw[show ((2:Int) ^ IntKind.u64.bits).natAbs=18446744073709551616 from rfl,show IntKind.u64.bits=64 from rfl];omega
theorem Mj {v:Value} {l:List Nat} {H:Hp} (h:SlN n32 H v l) (hD:Dig B32 l) (hl:l.length<=100000000) (k:Nat) (hk:k<=1000000000) :
  PC prog 112 #[v,.int .i64 (k:Int)] H fun r H'=>SlN n32 H' r (dig B32 (val B32 l*2 ^ k)):=by
 obtain⟨a,cap,rfl⟩:=SlC.val h;refine BD func112 ntmps112 ?_;refine uR ?_;rw[show decide ((k:Int)>=0)=true by simp];refine uR ?_;refine EVL.make tO Z Z Z Z Z Z Z Z Z (k / 32) (vD k 32 oM) oM (by rfl) (by rfl) fun g=>?_;refine uR ?_;rw[zN];have O9:2 ^ k=B32 ^ (k / 32)*2 ^ (k % 32):=by rw[<-Re,qj]
 have hp:k % 32<32:=qm _ (by decide);have hW:k / 32<=100000000:=oM;have lj:=XQ k;generalize k / 32=W at *
 generalize uG:k % 32=p at *
 have V5:2 ^ p<=B32:=by rw[im];exact qc (by decide) oM
 refine EV.loopK (ι:=Nat × Nat × List Nat × Value × Ows) [0,1] [] (fun q=>[(5,.v q.2.2.2.1),(6,.v (n64 q.2.1)),(7,.v (.int .i64 (q.1:Int)))]) (fun _=>[]) (fun q=>q.2.2.2.2) (fun q G=>q.1<=l.length+1/\q.2.2.1.length=q.1/\BM B32 p l q.2.2.1 q.2.1/\aF 135 1 q.2.2.2.1 (W+q.1) ((List.replicate W 0++q.2.2.1).map n32) q.2.2.2.2) (fun q=>l.length+1-q.1) ((0,0,[],.slice (some ⟨g,0,none⟩) W W,[(g,135,(List.replicate W 0).map n32)])) Z Z ⟨Z,Z,Z,trivial⟩ trivial rfl (fun _=>rfl) (⟨qQ _,rfl,⟨Dig.nil _,Nat.two_pow_pos p,by simp[val]⟩,by rw[qG];exact aF.full (by simp) oM⟩) ?_;rintro⟨i,c,d,w,ow⟩ G1 aj ⟨hi,kn,hinv,ah⟩;dsimp only at hi kn hinv ah;refine uR ?_;refine EV.cond Z (fun hle=>?_) (fun hle=>?_)
 ·simp only[nN]at hle;have di:l.getD i 0<B32:=hD.getD (by decide) i;have aK:=hinv.step (by decide) hD;rw[kn]at aK;have hm:l.getD i 0*2 ^ p<=(B32-1)*2 ^ 31:=Nat.mul_le_mul oM (qc (by decide) oM);have hc:=hinv.carry;have cM:c+l.getD i 0*2 ^ p<W64:=by rw[dY]at *;rw[cH];omega
  repeat (first|refine RUN ?_|refine CV (rM (h.mono aj) hD oM i) ?_|refine CE (rM (h.mono aj) hD oM i) ?_)
  rw[shm (k % 32) oM,uG,Dw,qT (by omega:l.getD i 0*2 ^ p<W64),RU hc cM,pn];refine EVL.app1 tO Z Z Z Z Z Z Z Z Z Z Z Z Z Z Z Z Z Z Z (fun _=>rfl) (ow) ([]) ((qG _).symm) (ah) oM fun _=>?_;intro v' au ao;refine uR ?_;refine⟨(i+1,(c+l.getD i 0*2 ^ p) / B32,d++[(c+l.getD i 0*2 ^ p) % B32],v',au),⟨rfl,?_,?_,trivial⟩,sB,trivial,trivial,qG _,⟨by dsimp only;omega,by simp[kn],aK,?_⟩,Hp.Le.refl _,by dsimp only;omega⟩
  ·rw[Dp];rfl
  ·rw[aO i (by omega)];rfl
  ·dsimp only;rw[<-qZ,qo];exact ao
 ·simp only[nN]at hle;obtain rfl:i=l.length+1:=oM;refine uR ?_;refine EVL.publishL [] ow [] (qG _).symm ah fun G2 ai hs=>?_;have hv:val B32 (List.replicate W 0++d)=val B32 l*2 ^ k:=by rw[zjE,hinv.done kn hD V5,O9,Nat.mul_left_comm]
  have ht:=we (Q4 hs (by simp;omega)) (Dig.append (Dig.zeros (by decide) _) hinv.dig) (by simp;omega) hv;refine vA (ht) ?_;rintro r H' hr hle;refine uR ?_;exact hr
theorem zqr {l:List Nat} (hD:Dig B32 l) (W p j:Nat) (hp:p<=32):val B32 (l.drop W) / 2 ^ p / B32 ^ j % B32=(l.getD (W+j) 0+l.getD (W+j+1) 0*B32) / 2 ^ p % B32:=by
 rw[Nat.div_div_eq_div_mul,qW,<-Nat.div_div_eq_div_mul,Rz (by decide) (hD.drop W) j,List.drop_drop];have h1:=dO B32 l (W+j);have h2:=dO B32 l (W+j+1);rw[h1,h2];generalize l.getD (W+j) 0=x;generalize l.getD (W+j+1) 0=y;generalize val B32 (l.drop (W+j+1+1))=r;have e:B32=2 ^ p*2 ^ (32-p):=by rw[<-Nat.pow_add,im];congr 1;omega
 have e2:x+B32*(y+B32*r)=(x+y*B32)+2 ^ p*(B32*(2 ^ (32-p)*r)):=by
  have:B32*(B32*r)=2 ^ p*(B32*(2 ^ (32-p)*r)):=by
   conv=>lhs;lhs;rw[e]
   simp only[Nat.mul_assoc,Nat.mul_left_comm]
  rw[Nat.mul_add,this];rw[qW B32 y];omega
 rw[e2,Nat.add_mul_div_left _ _ (Nat.two_pow_pos p),Nat.add_mul_mod_self_left]
theorem zom {v:Value} {l:List Nat} {H:Hp} (h:SlN n32 H v l) (hD:Dig B32 l) (hl:l.length<=100000000) (k:Nat) (hk:k<=1000000000) (h0:0<k) :
  PC prog 112 #[v,.int .i64 (-(k:Int))] H fun r H'=>SlN n32 H' r (dig B32 (val B32 l / 2 ^ k)):=by
 obtain⟨a,cap,rfl⟩:=SlC.val h;refine BD func112 ntmps112 ?_;refine uR ?_;rw[show decide (-(k:Int)>=0)=false by simp;omega];refine uR ?_;rw[show IntKind.i64.wrap (0 - -(k:Int))=(k:Int) by rw[pL];omega];rw[show IntKind.i64.wrap ((k:Int).tdiv 32)=((k / 32:Nat):Int) from vD k 32 (by omega)];have O9:2 ^ k=B32 ^ (k / 32)*2 ^ (k % 32):=by rw[<-Re,qj]
 have hp:k % 32<32:=qm _ (by decide);have hW:k / 32<=100000000:=oM;generalize k / 32=W at *
 generalize uG:k % 32=p at *
 have V5:2 ^ p<=B32:=by rw[im];exact qc (by decide) oM
 have Pv:=fun j=>zqr hD W p j oM
 have hN:val B32 (l.drop W) / 2 ^ p<B32 ^ (l.length-W):=by
  have:=cZ (hD.drop W);rw[qt]at this;exact Nat.lt_of_le_of_lt (Nat.div_le_self _ _) this
 have hNk:val B32 l / 2 ^ k=val B32 (l.drop W) / 2 ^ p:=by rw[O9,<-Nat.div_div_eq_div_mul,Rz (by decide) hD]
 generalize val B32 (l.drop W) / 2 ^ p=N at *
 rw[hNk];refine EV.loopK (ι:=Nat × List Nat × Value × Ows) [0,1] [] (fun q=>[(8,.v q.2.2.1),(9,.v (.int .i64 ((W+q.1:Nat):Int)))]) (fun _=>[]) (fun q=>q.2.2.2) (fun q G=>(q.1=0\/W+q.1<=l.length)/\q.2.1=kv B32 N q.1/\aF 135 1 q.2.2.1 q.1 (q.2.1.map n32) q.2.2.2) (fun q=>l.length-q.1) ((0,[],.slice none 0 0,[])) Z Z ⟨Z,Z,trivial⟩ trivial rfl (fun _=>rfl) (⟨.inl rfl,rfl,aF.nil _ _⟩) ?_;rintro⟨i,d,w,ow⟩ G1 aj ⟨hi,hd,ah⟩;dsimp only at hi hd ah;refine uR ?_;refine EV.cond Z (fun af=>?_) (fun af=>?_)
 ·simp only[nN]at af;have di:l.getD (W+i) 0<B32:=hD.getD (by decide) _;have p8:l.getD (W+i+1) 0<B32:=hD.getD (by decide) _;have Br:=rM (h.mono aj) hD oM (W+i+1);rw[<-aO (W+i) (by omega)]at Br
  repeat (first|refine RUN ?_|refine CV (rM (h.mono aj) hD oM (W+i)) ?_|refine CV (Br) ?_|refine CE (rM (h.mono aj) hD oM (W+i)) ?_|refine CE (Br) ?_)
  have Pw:=Pv i;generalize l.getD (W+i) 0=x at *
  generalize l.getD (W+i+1) 0=y at *
  have jX:x+y*2 ^ 32<W64:=by rw[dY]at *;rw[cH];omega
  rw[shm (k % 32) oM,uG,show min 32 IntKind.u64.bits=32 from rfl,Dw,qT (by omega:y*2 ^ 32<W64),RU (by rw[<-im];exact di) jX];rw[Hm,pn];refine EVL.app1 tO Z Z Z Z Z Z Z Z Z Z Z Z Z Z Z Z Z Z Z (fun _=>rfl) (ow) ([]) ((qG _).symm) (ah) oM fun _=>?_;intro v' au ao;refine uR ?_;refine⟨(i+1,kv B32 N (i+1),v',au),⟨rfl,?_,trivial⟩,sB,trivial,trivial,qG _,⟨by dsimp only;omega,rfl,?_⟩,Hp.Le.refl _,by dsimp only;omega⟩
  ·rw[aO _ (by omega)];rfl
  ·dsimp only;rw[L1,<-hd,qo,Pw,im];exact ao
 ·simp only[nN]at af;refine uR ?_;refine EVL.publishL [] ow [] (qG _).symm ah fun G2 ai hs=>?_;have Pk:l.length-W<=i:=oM
  have hv:val B32 d=N:=by
   rw[hd,Lu];exact qT (Nat.lt_of_lt_of_le hN (qc (by decide) Pk))
  have ht:=we (Q4 hs (by rw[hd,wg])) (by rw[hd];exact S3 (by decide) _ _) (by rw[hd,wg];omega) hv;refine vA (ht) ?_;rintro r H' hr hle;refine uR ?_;exact hr
theorem ZA {x:Nat} (h:x≠0):bl x=bl (x / 2)+1:=by
 unfold bl;rw[yq (qH _) h];rfl
theorem T7 {v:Value} {l:List Nat} {H:Hp} (h:SlN n32 H v l) (hD:eM B32 l) (hl:l.length<=100000000) :
  PC prog 111 #[v] H fun r _=>r=.int .i64 ((bl (val B32 l):Nat):Int):=by
 obtain⟨a,cap,rfl⟩:=SlC.val h;refine BD func111 ntmps111 ?_;refine uR ?_;refine EV.cond Z (fun h0=>?_) (fun h0=>?_)
 ·simp only[nN]at h0;have:l=[]:=pJ.1 oM;subst this;refine uR ?_;rw[nx,lX];rfl
 ·simp only[nN]at h0;have Xj:0<l.length:=oM;have ed:=iV (enc:=n32) (show l.length-1<l.length by omega);refine uR ?_;refine EVL.idxR tO Z Z Z Z Z Z Z Z Z Z (h) (l.length-1) (Dy _ Xj oM) oM (ed) ?_;refine uR ?_
  have cD:l.getD (l.length-1) 0≠0:=by
   apply hD.2;rw[List.getLast?_eq_getElem?,qB,qA (by omega)];rfl
  have hval:val B32 l=val B32 (l.take (l.length-1))+2 ^ (32*(l.length-1))*l.getD (l.length-1) 0:=by
   have h1:=ep B32 l (l.length-1) oM;have h2:=dO B32 l (l.length-1);rw[show l.length-1+1=l.length by omega,List.drop_length,nx,Nat.mul_zero,qY]at h2;rw[h2]at h1;rw[Nat.pow_mul,<-im];exact h1
  have cU:val B32 (l.take (l.length-1))<2 ^ (32*(l.length-1)):=by
   have:=cZ (hD.1.take (l.length-1));rw[qP,qn (by omega)]at this;rw[Nat.pow_mul,<-im];exact this
  have cI:=X5 cU cD;rw[<-hval]at cI;have Ar:l.getD (l.length-1) 0<B32:=hD.1.getD (by decide) _;have hbt:bl (l.getD (l.length-1) 0)<=32:=cf (by rw[<-im];exact Ar);generalize l.getD (l.length-1) 0=x at *
  refine EV.loopK (ι:=Nat × Nat) [] [] (fun q=>[(3,.v (.int .i64 (q.1:Int))),(4,.v (n32 q.2))]) (fun _=>[]) (fun _=>[]) (fun q _=>q.1+bl q.2=bl (val B32 l)/\q.1<=32*100000000+32/\q.2<B32) (fun q=>q.2) ((32*(l.length-1),x)) Z Z ⟨?_,rfl,trivial⟩ trivial rfl (fun _=>rfl) (⟨cI.symm,by dsimp only;omega,Ar⟩) ?_
  ·rw[Dy _ Xj oM,show IntKind.i64.wrap (32*((l.length-1:Nat):Int))=((32*(l.length-1):Nat):Int) from KG 32 _ (by omega)];rfl
  rintro⟨n,y⟩ G1 aj ⟨hs,hn,hy⟩;dsimp only at hs hn hy;refine uR ?_;by_cases An:y=0
  ·subst An;rw[show decide (((0:Nat):Int)>0)=false from rfl];refine uR ?_;rw[lX,qY]at hs;rw[hs]
  ·rw[show decide ((y:Int)>0)=true by simp;omega];have hb:=ZA An;refine uR ?_;refine⟨(n+1,y / 2),⟨?_,?_,trivial⟩,trivial,trivial,trivial,rfl,⟨by dsimp only;omega,by dsimp only;omega,Nat.lt_of_le_of_lt (Nat.div_le_self _ _) hy⟩,Hp.Le.refl _,by dsimp only;omega⟩
   ·rw[aO n (by omega)];rfl
   ·rw[show min 1 IntKind.u32.bits=1 from rfl,Hm];rfl
theorem Rf (a b:Nat) (h:a<W64):IntKind.u64.wrap ((a:Int).tdiv (b:Int))=((a / b:Nat):Int):=by
 rw[show (a:Int).tdiv (b:Int)=((a / b:Nat):Int) from rfl,gX _ (Nat.lt_of_le_of_lt (Nat.div_le_self _ _) h)]
theorem zp6 {v:Value} {l:List Nat} {H:Hp} (h:SlN n32 H v l) (hD:Dig B32 l) (hl:l.length<=100000000) (b:Nat) (hb:0<b) (Gh:b<B32) :
  PC prog 110 #[v,n32 b] H fun r H'=>∃s,r=.tuple #[s,n32 (val B32 l % b)]/\SlN n32 H' s (dig B32 (val B32 l / b)):=by
 obtain⟨a,cap,rfl⟩:=SlC.val h;refine BD func110 ntmps110 ?_;refine uR ?_;refine EVL.make tO Z Z Z Z Z Z Z Z Z (l.length) (rfl) oM (by rfl) (by rfl) fun g=>?_;refine uR ?_;rw[zN];refine EV.loopK (ι:=Nat × Nat × List Nat) [0,1,6] [] (fun q=>[(7,.v (n64 q.2.1)),(8,.v (.int .i64 ((q.1:Int)-1)))]) (fun _=>[]) (fun q=>[(g,135,q.2.2.map n32)]) (fun q G=>q.1<=l.length/\Dk B32 b l q.2.2 q.1 q.2.1) (fun q=>q.1) ((l.length,0,List.replicate l.length 0)) Z Z ⟨rfl,?_,trivial⟩ trivial rfl (fun _=>rfl) (⟨qH _,⟨Dig.zeros (by decide) _,by simp,hb,by simp[val]⟩⟩) ?_
 ·rw[show IntKind.i64.wrap ((l.length:Int)-1)=(l.length:Int)-1 by rw[pL];omega];rfl
 rintro⟨n,r,q⟩ G1 aj ⟨hn,hinv⟩;dsimp only at hn hinv;have lh:=hinv.rest;have hlen:=hinv.len;refine uR ?_;by_cases h0:n=0
 ·subst h0;rw[show decide ((((0:Nat):Int)-1)>=0)=false from rfl];refine uR ?_;refine EVL.publish [] [] Z fun G2 ai hg=>?_;have hs:=hinv.sum;rw[List.drop_zero,List.drop_zero]at hs;have hq:val B32 q=val B32 l / b:=by rw[<-hs,qW,Nat.mul_add_div hb,Nat.div_eq_of_lt lh,qY]
  have hr:r=val B32 l % b:=by rw[<-hs,qW,Nat.mul_add_mod,qT lh]
  have ht:=we (l:=q) (yg (enc:=n32) hg hlen) hinv.dig oM hq;refine vA (ht) ?_;rintro s H' fZ hle;refine uR ?_;refine⟨s,?_,fZ⟩;rw[pn,qT (show r<B32 by omega),hr]
 ·rw[show decide (((n:Int)-1)>=0)=true by simp;omega];have af:n-1<l.length:=oM;have di:l.getD (n-1) 0<B32:=hD.getD (by decide) _;have ed:=iV (enc:=n32) af;have aK:=Dk.step (i:=n-1) hb (by rw[show n-1+1=n by omega];exact hinv) af hD;refine uR ?_;refine EVL.idxR tO Z Z Z Z Z Z Z Z Z Z (h.mono aj) (n-1) oM (af) (ed) ?_;refine uR ?_;generalize l.getD (n-1) 0=x at *
  have Oi:r*2 ^ 32+x<W64:=by rw[dY]at *;rw[cH];omega
  rw[show min 32 IntKind.u64.bits=32 from rfl,Dw,qT (Nat.lt_of_le_of_lt (Nat.le_add_right _ _) Oi:r*2 ^ 32<W64),gX _ (w32 di),Ll (by rw[<-im];exact di) (by rw[Nat.add_comm];exact Oi),Nat.add_comm x];refine uR ?_;rw[gX _ (w32 Gh)];refine EVL.quoI Z Z Z Z Z Z oM ?_;rw[Rf _ _ Oi];refine uR ?_
  have Oo:(r*2 ^ 32+x) / b<B32:=by
   rw[Nat.div_lt_iff_lt_mul hb];have:(r+1)*B32<=b*B32:=qN _ lh;rw[qv]at this;rw[<-im,qW B32];omega
  rw[pn,qT Oo];refine EVL.idx0 tO Z Z Z Z Z Z Z Z Z Z (n-1) oM oM ?_;refine EVL.set1 tO Z Z Z Z Z Z Z Z Z Z ((by rw[qV];dsimp only;omega)) ?_;refine uR ?_;rw[gX _ (w32 Gh)];refine EVL.remI Z Z Z Z Z Z oM ?_;rw[Dx];refine uR ?_;rw[im]at aK;refine⟨(n-1,(r*2 ^ 32+x) % b,q.set (n-1) ((r*2 ^ 32+x) / b)),⟨rfl,?_,trivial⟩,sB,trivial,trivial,?_,⟨by dsimp only;omega,by rw[im];exact aK⟩,Hp.Le.refl _,by dsimp only;omega⟩
  ·rw[show IntKind.i64.wrap ((n:Int)-1-1)=((n-1:Nat):Int)-1 by rw[pL];omega];rfl
  ·dsimp only;rw[List.map_set]
end
section
structure G2 (B v1 v0 u c q r:Nat):Prop where
 eq:q*v1+r=u
 up:u*B+c<(q+1)*(v1*B+v0)\/q=B-1
theorem G2.start {B v1 v0 u c:Nat} (h1:0<v1) (hc:c<B):G2 B v1 v0 u c (u / v1) (u % v1):=by
 refine⟨by rw[qW];exact qj u v1,.inl ?_⟩;have e:=qj u v1;have hm:=qm u h1;generalize u / v1=q at *
 generalize u % v1=m at *
 subst e;have h2:(v1*q+m+1)*B<=(v1*q+v1)*B:=qN B oM;have h3:(q+1)*(v1*B+v0)=(v1*q+v1)*B+(q+1)*v0:=by grind
 rw[qv _ 1,Nat.one_mul]at h2;omega
theorem G2.high {B v1 v0 u c q r:Nat} (h:G2 B v1 v0 u c q r) (h1:0<v1) (hu:u<=v1*B+v0) (hc:c<B) (hq:B<=q):G2 B v1 v0 u c (q-1) (r+v1):=by
 have h0:0<q:=oM;refine⟨?_,?_⟩
 ·obtain⟨k,rfl⟩:∃k,q=k+1:=⟨q-1,by omega⟩;have:=h.eq;rw[Nat.add_sub_cancel];rw[qv,Nat.one_mul]at this;omega
 ·by_cases e:q=B
  ·exact .inr oM
  ·refine .inl ?_;have h2:(B+1)*(v1*B+v0)<=(q-1+1)*(v1*B+v0):=qN _ oM;have h3:u*B<=(v1*B+v0)*B:=qN B hu;have h4:1*B<=v1*B:=qN B h1;rw[qv B 1,qW B (v1*B+v0)]at h2;omega
theorem G2.down {B v1 v0 u c q r:Nat} (h:G2 B v1 v0 u c q r) (hq:r*B+c<q*v0):0<q/\G2 B v1 v0 u c (q-1) (r+v1):=by
 have h0:0<q:=by
  rcases qz q with e | e
  ·rw[e]at hq;omega
  ·exact e
 refine⟨h0,?_,.inl ?_⟩
 ·obtain⟨k,rfl⟩:∃k,q=k+1:=⟨q-1,by omega⟩;have:=h.eq;rw[Nat.add_sub_cancel];rw[qv,Nat.one_mul]at this;omega
 ·rw[Nat.sub_add_cancel h0,<-h.eq];have:q*(v1*B+v0)=q*v1*B+q*v0:=by grind
  rw[this,qv];omega
theorem G2.over {B v1 v0 u c q r:Nat} (h:G2 B v1 v0 u c q r) (hu:u<=v1*B+v0) (hv:v0<B) (hr:B<=r):q<B/\q*v0<=r*B+c:=by
 have CP:q<B:=by
  rcases Nat.lt_or_ge q B with h1 | h1
  ·exact h1
  ·exfalso;have:=qN v1 h1;have e:=h.eq;rw[qW B v1]at this;omega
 refine⟨CP,?_⟩;have h1:q*v0<=B*B:=Nat.mul_le_mul oM oM;have h2:B*B<=r*B:=qN B hr;omega
theorem G2.done {B v1 v0 u c q r:Nat} (h:G2 B v1 v0 u c q r) (hq:q*v0<=r*B+c):q*(v1*B+v0)<=u*B+c/\(u*B+c<(q+1)*(v1*B+v0)\/q=B-1):=by
 refine⟨?_,h.up⟩;rw[<-h.eq];have:q*(v1*B+v0)=q*v1*B+q*v0:=by grind
 rw[this,qv];omega
theorem G2.small {B v1 v0 u c q r:Nat} (h:G2 B v1 v0 u c q r) (hu:u<=v1*B+v0) (dP:B<=2*v1) (jy:v0<B):q<=B+1:=by
 rcases Nat.lt_or_ge q (B+2) with h1 | h1
 ·omega
 ·exfalso;have:=qN v1 h1;have e:=h.eq;rw[qv,qW B v1]at this;omega
end
section
open Go.RowKit _root_.Go.Proofs.Tryz
def Wm (cs:List Value) (l:List Nat):Prop:=l.length<=cs.length/\∀j,j<l.length->cs[j]?=some (n32 (l.getD j 0))
theorem Wm.of (l:List Nat) (sp:List Value):Wm (l.map n32++sp) l:=⟨by simp,fun j hj=>by rw[qM (by simpa using hj)];exact iV hj⟩
theorem Wm.set {cs:List Value} {l:List Nat} (h:Wm cs l) (k x:Nat) (hk:k<l.length):Wm (cs.set k (n32 x)) (l.set k x):=by
 refine⟨by rw[List.length_set,List.length_set];exact h.1,fun j hj=>?_⟩;rw[List.length_set]at hj;by_cases e:k=j
 ·subst e;rw[List.getElem?_set_self (by have:=h.1;omega),yC _ _ _ hk]
 ·rw[List.getElem?_set_ne oM,getD_set_ne _ _ _ _ (Ne.symm e)];exact h.2 j hj
theorem Wm.sl {cs:List Value} {l:List Nat} (h:Wm cs l) {G:Hp} {g n cap:Nat} (hg:G g=some cs.toArray) (hl:l.length=n) (hc:n<=cap):SlN n32 G (.slice (some ⟨g,0,none⟩) n cap) l:=by
 unfold SlN;rw[hl];refine⟨by simp[hl],.inr ⟨g,0,cap,_,rfl,hc,hg,fun j x hj=>?_⟩⟩
 have fw:j<l.length:=by
  rcases Nat.lt_or_ge j l.length with e | e
  ·exact e
  ·rw[qe (by simpa using e)]at hj;cases hj
 rw[iV fw]at hj;rw[qu,<-hj];simpa using h.2 j fw
theorem zld {l m k:List Nat} {j n:Nat} (h:L32.Alike l m j n) (h':Alike m k j n):L32.Alike l k j n:=⟨h.1.trans h'.1,fun i hi=>(h.2 i hi).trans (h'.2 i hi)⟩
theorem Tu {x y c:Nat} (hx:x<B32) (hy:y<B32) (hc:c<=1) :
  IntKind.u32.wrap (IntKind.u64.wrap (IntKind.u64.wrap ((x:Int)-(y:Int))-(c:Int)))=((L32.subLo x y c:Nat):Int)/\(IntKind.u64.wrap (IntKind.u64.wrap ((x:Int)-(y:Int))-(c:Int))).fdiv (2 ^ (min 63 IntKind.u64.bits))=((L32.subHi x y c:Nat):Int):=by
 rw[dY]at hx hy;rw[DN,dz,dz,show (2:Int) ^ (min 63 IntKind.u64.bits)=9223372036854775808 from rfl,Int.fdiv_eq_ediv_of_nonneg _ (by decide)];unfold L32.subLo L32.subHi;rw[dY];constructor
 ·omega
 ·split <;> omega
theorem zol {v:Value} {l:List Nat} {H:Hp} (h:SlN n32 H v l) (hD:Dig B32 l) (hl:l.length<=100000000) (k:Nat) (hk:k<=1000000000) :
  PC prog 112 #[v,.int .i64 (-(k:Int))] H fun r H'=>SlN n32 H' r (dig B32 (val B32 l / 2 ^ k)):=by
 rcases qz k with e | e
 ·subst e;have:=Mj h hD hl 0 oM;simpa using this
 ·exact zom h hD hl k hk e
theorem Yf {B P D lv t u0 low:Nat} (Wg:lv<P) (h:(t*B+u0)*P+low<B*(D*P+lv)):t<=D:=by
 rcases Nat.lt_or_ge D t with e | e
 ·exfalso;have h1:(D+1)*B*P<=t*B*P:=qN _ (qN _ e);have h2:t*B*P<=(t*B+u0)*P:=qN _ (Nat.le_add_right _ _);have h3:B*(D*P+lv)<=B*(D*P+P):=qb _ oM;have h4:B*(D*P+P)=(D+1)*B*P:=by rw[qv,qv,Nat.one_mul,Nat.mul_add,Nat.mul_assoc D,Nat.mul_left_comm D]
  omega
 ·exact e
theorem zl4 {b n:Nat} (h0:b≠0) (hn:(dig B32 b).length=n):bl b<=32*n/\b*2 ^ (32*n-bl b)<B32 ^ n/\B32 ^ n<=2*(b*2 ^ (32*n-bl b))/\(dig B32 (b*2 ^ (32*n-bl b))).length=n/\32*n-bl b<32:=by
 have h1:=xZ bN b;rw[hn]at h1;have hP:B32 ^ n=2 ^ (32*n):=by rw[Nat.pow_mul,<-im]
 have h2:bl b<=32*n:=cf (by rw[<-hP];exact h1);have h3:=og b;have h4:=Ku h0;have h5:=Ho h0;have e1:2 ^ bl b*2 ^ (32*n-bl b)=B32 ^ n:=by rw[hP,<-Nat.pow_add];congr 1;omega
 have e2:2*(2 ^ (bl b-1)*2 ^ (32*n-bl b))=B32 ^ n:=by rw[<-e1,<-Nat.mul_assoc,<-Nat.pow_succ'];congr 2;omega
 have a1:b*2 ^ (32*n-bl b)<B32 ^ n:=by rw[<-e1];exact Nat.mul_lt_mul_of_pos_right h3 (Nat.two_pow_pos _)
 have a2:B32 ^ n<=2*(b*2 ^ (32*n-bl b)):=by rw[<-e2];exact qb _ (qN _ h4)
 have CS:0<n:=by rw[<-hn];exact List.length_pos_iff.2 (Me bN h0)
 have cU:32*(n-1)<bl b:=by
  have:=H9 bN b h0;rw[hn,im,<-Nat.pow_mul]at this;rcases Nat.lt_or_ge (32*(n-1)) (bl b) with e | e
  ·exact e
  ·have:=qc (n:=2) oM e;omega
 refine⟨h2,a1,a2,?_,by omega⟩;have a3:=Cn bN _ _ a1;have a4:=xZ bN (b*2 ^ (32*n-bl b));rcases Nat.lt_or_ge (dig B32 (b*2 ^ (32*n-bl b))).length n with e | e
 ·exfalso;have a5:B32 ^ (dig B32 (b*2 ^ (32*n-bl b))).length<=B32 ^ (n-1):=qc (by decide) oM;have a6:B32 ^ n=B32 ^ (n-1)*B32:=by rw[<-qX];congr 1;omega
  have a7:B32 ^ (n-1)*2<=B32 ^ (n-1)*B32:=qb _ bN;omega
 ·omega
theorem znW {A V n:Nat} (hn:2<=n) (hV:V<B32 ^ n) (WU:B32 ^ n<=2*V) (Qr:V<=A) :
  L32.Long A V n ((dig B32 A).length+2-n) (dig B32 A++[0,0]) (List.replicate ((dig B32 A).length+2-n) 0):=by
 have hD:=(eo bN A).1;refine⟨hD.append (Dig.cons (by decide) (Dig.cons (by decide) (Dig.nil _))),Dig.zeros (by decide) _,?_,?_,fun k hk=>by simp[qB,hk]⟩
 ·have hl:n<=(dig B32 A).length:=by
   rcases Nat.lt_or_ge (dig B32 A).length n with e | e
   ·exfalso;have h1:=xZ bN A;have h2:B32 ^ (dig B32 A).length<=B32 ^ (n-1):=qc (by decide) oM;have h3:B32 ^ n=B32 ^ (n-1)*B32:=by rw[<-qX];congr 1;omega
    have h4:B32 ^ (n-1)*2<=B32 ^ (n-1)*B32:=qb _ bN;omega
   ·exact e
  rw[List.drop_append_of_le_length oM,uj];have h1:=cZ (hD.drop ((dig B32 A).length+2-n));rw[qt,show (dig B32 A).length-((dig B32 A).length+2-n)=n-2 by omega]at h1;have h2:B32 ^ n=B32 ^ (n-2)*(B32*B32):=by rw[<-Nat.mul_assoc,<-qX,<-qX];congr 1;omega
  have h3:B32 ^ (n-2)*2<=B32 ^ (n-2)*(B32*B32):=qb _ (by decide);simp only[val,Nat.mul_zero,qY];omega
 ·rw[pW,uj,cW bN];simp[val]
theorem ZU {X V n j:Nat} {U q vl:List Nat} (h:L32.Long X V n (j+1) U q) (hj:j+(n+1)<=U.length) (hn:2<=n) (hV:V<B32 ^ n) (eQ:vl.length=n) (k6:Dig B32 vl) (uB:val B32 vl=V) :
  U.getD (j+n) 0*B32+U.getD (j+(n-1)) 0<=vl.getD (n-1) 0*B32+vl.getD (n-2) 0:=by
 have hr:=h.rem hj hV;have h1:=L32.top_words vl n k6 eQ hn;have h2:=L32.top3_words (L32.mid U j (n+1)) n (L32.mid_dig h.dU _ _) (L32.mid_length _ _ _ hj) hn;rw[L32.getD_mid _ _ _ _ oM,L32.getD_mid _ _ _ _ oM,L32.getD_mid _ _ _ _ (by omega)]at h2;have h3:=hr.1;rw[<-uB,h1.1,h2.1]at h3;exact Yf h1.2 h3
theorem vp {m n:Nat} (h0:0<m) (h:m+n<=4000000000000):IntKind.i64.wrap ((m:Int)-1+(n:Int))=((m-1+n:Nat):Int):=by rw[pL];omega
theorem Yb {m n:Nat} (h0:0<m) (hn:1<=n) (h:m+n<=4000000000000):IntKind.i64.wrap (IntKind.i64.wrap ((m:Int)-1+(n:Int))-1)=((m-1+(n-1):Nat):Int):=by rw[pL,pL];omega
theorem Ya {m n:Nat} (h0:0<m) (hn:2<=n) (h:m+n<=4000000000000):IntKind.i64.wrap (IntKind.i64.wrap ((m:Int)-1+(n:Int))-2)=((m-1+(n-2):Nat):Int):=by rw[pL,pL];omega
theorem ZD (c:Nat) (h:c<W64):IntKind.u64.wrap (((BitVec.ofInt IntKind.u64.bits (c:Int) &&& BitVec.ofInt IntKind.u64.bits 4294967295).toNat:Nat):Int)=((c % B32:Nat):Int):=by
 rw[cH]at h
 have e:(BitVec.ofInt 64 (c:Int) &&& BitVec.ofInt 64 4294967295).toNat=c % 4294967296:=by
  rw[BitVec.toNat_and];rw[show (BitVec.ofInt 64 (c:Int)).toNat=c by rw[BitVec.toNat_ofInt];omega,show (BitVec.ofInt 64 4294967295).toNat=2 ^ 32-1 by decide,Nat.and_two_pow_sub_one_eq_mod]
 rw[show IntKind.u64.bits=64 from rfl,e,vZ,dY];omega
theorem XV {n k s:Nat} (hs:32*n-k=s) (h:k<=32*n) (hn:n<=100000000):IntKind.i64.wrap (IntKind.i64.wrap (32*(n:Int))-(k:Int))=(s:Int):=by rw[pL,pL];omega
theorem Zg {m n:Nat} (h:n<=m) (hm:m<=4000000000):IntKind.i64.wrap (IntKind.i64.wrap ((m:Int)-(n:Int))-1)=((m-n:Nat):Int)-1:=by rw[pL,pL];omega
theorem X9 (s:Nat) (h:s<=4000000000):IntKind.i64.wrap (0-(s:Int)) = -(s:Int):=by rw[pL];omega
theorem KF (g:Nat) (h0:0<g) (h:g<W64):IntKind.u64.wrap ((g:Int)-1)=((g-1:Nat):Int):=by rw[cH]at h;rw[dz];omega
theorem Zh {m:Nat} (h:0<m) (hm:m<=4000000000):IntKind.i64.wrap ((m:Int)-1-1)=((m-1:Nat):Int)-1:=by rw[pL];omega
theorem Q6 {α:Type} (enc:α->Value) (H:Hp):SlN enc H (.slice none 0 0) []:=⟨rfl,.inl ⟨rfl,none,0,rfl⟩⟩
theorem ziU (a:Nat) {s:Nat} (h:s<32):(dig B32 (a*2 ^ s)).length<=(dig B32 a).length+1:=by
 apply Cn bN;rw[qX];exact Nat.lt_of_lt_of_le (Nat.mul_lt_mul_of_pos_right (xZ bN a) (Nat.two_pow_pos _)) (qb _ (by rw[im];exact qc (by decide) oM))
theorem SN:∀l:List Nat,oneB (l.map n32)=true
 | []=>rfl
 | _::l=>by rw[qx];unfold oneB;rw[SN l];rfl
theorem zkM {l:List Nat} {b n:Nat} (hl:eM B32 l) (hv:val B32 l=b) (h0:b≠0) (hn:l.length=n):bl b<=32*n/\b*2 ^ (32*n-bl b)<B32 ^ n/\B32 ^ n<=2*(b*2 ^ (32*n-bl b))/\(dig B32 (b*2 ^ (32*n-bl b))).length=n/\32*n-bl b<32:=by
 subst hv;exact zl4 h0 (by rw[DH bN hl];exact hn)
set_option maxRecDepth 20000 in
theorem zoh {u v:Value} {H:Hp} {a b:Nat} {la lb:List Nat} (hu:SlN n32 H u la) (hv:SlN n32 H v lb) (kj:la.length<=50000000) (df:lb.length<=50000000) (oK:eM B32 la) (ki:eM B32 lb) (rW:val B32 la=a) (fr:val B32 lb=b) (cQ:b<=a) (h2:2<=lb.length) :
  PC prog 60 #[u,v] H fun r H'=>∃s t,r=.tuple #[s,t]/\SlN n32 H' s (dig B32 (a / b))/\SlN n32 H' t (dig B32 (a % b)):=by
 have jq:b≠0:=fun e=>by rw[LQ (by decide) ki (by rw[fr];exact e)]at h2;simp at h2
 obtain⟨f1,f2,f3,f4,f5⟩:=zkM ki fr jq rfl;have aS:=Ej hu hv oK ki oM;have cV:=T7 hv ki oM;have AH:=Mj (k:=32*lb.length-bl b) hv ki.1 oM oM;rw[rW,fr]at aS;rw[fr]at cV AH;obtain⟨aa,ca,rfl⟩:=SlC.val hu;obtain⟨ab,cb,rfl⟩:=SlC.val hv;have ho:decide (br a b<0)=false:=by unfold br;rw[if_neg (by omega)];split <;> rfl
 generalize br a b=oab at *
 generalize bl b=xQ at *
 have Qr:b*2 ^ (32*lb.length-xQ)<=a*2 ^ (32*lb.length-xQ):=qN _ cQ;have aK:=znW h2 f2 f3 Qr;have xy:0<b*2 ^ (32*lb.length-xQ):=Nat.mul_pos (Nat.pos_of_ne_zero jq) (Nat.two_pow_pos _);have Wk:0<(dig B32 (a*2 ^ (32*lb.length-xQ))).length:=List.length_pos_iff.2 (Me bN oM)
 have O4:(dig B32 (a*2 ^ (32*lb.length-xQ))).length<=50000001:=by
  have:=ziU a f5;rw[<-rW,DH bN oK,rW]at this;omega
 have hlV:lb.length<=(dig B32 (a*2 ^ (32*lb.length-xQ))).length:=by
  have:=Ec bN Qr;rw[f4]at this;exact this
 have wA:=eo bN (b*2 ^ (32*lb.length-xQ));have EJ:=cW bN (b*2 ^ (32*lb.length-xQ));generalize hs:32*lb.length-xQ=s at *
 have AG:=fun G1 (aj:H.Le G1)=>Mj (k:=s) (hu.mono aj) oK.1 oM oM;rw[rW]at AG;generalize dig B32 (a*2 ^ s)=A at *
 generalize dig B32 (b*2 ^ s)=Y at *
 generalize hn:lb.length=n at *
 have ha:a*2 ^ s / (b*2 ^ s)=a / b:=Nat.mul_div_mul_right _ _ (Nat.two_pow_pos s);have hr:a*2 ^ s % (b*2 ^ s) / 2 ^ s=a % b:=by rw[Nat.mul_mod_mul_right,Nat.mul_div_cancel _ (Nat.two_pow_pos s)]
 rw[<-ha,<-hr];generalize a*2 ^ s=X at *
 generalize b*2 ^ s=V at *
 clear ha hr rW fr cQ ki jq;refine BD func60 ntmps60 ?_
 repeat (first|refine RUN ?_|refine CV (aS) ?_|refine CE (aS) ?_)
 rw[ho];refine uR ?_;rw[show ((n:Int) == 1)=false by simp;omega]
 repeat (first|refine RUN ?_|refine CV (cV) ?_|refine CE (cV) ?_)
 rw[XV hs f1 (by omega)];refine vA (AH) ?_;rintro vy G1 hy aj;obtain⟨ay,cy,rfl⟩:=SlC.val hy;have yT:=AG G1 aj;refine uR ?_;refine EVL.lit0 tO Z Z Z Z Z Z Z fun g0=>?_;refine uR ?_;refine vA (yT) ?_;rintro vx Gx hx ai;refine uR ?_;refine EVL.append tO Z Z Z Z Z Z Z Z Z Z Z Z [] [(g0,135,[])] [] Z (aF.full (m:=0) rfl oM) (iJ.ro hx Wk) (SN _) oM ?_;intro v1 bS aE;refine uR ?_;refine EVL.app1 tO Z Z Z Z Z Z Z Z Z Z Z Z Z Z Z Z Z Z Z (fun _=>rfl) (bS) ([]) (rfl) (aE) oM fun _=>?_;intro v2 cC aD;obtain⟨gx,cx,sp,rfl,rfl,ew,eH,xd⟩:=aD.block oM;have hX:∃N X0,N=A.length+2/\X0=A++[0,0]/\X0.length=N/\0+A.length+2=N:=⟨_,_,rfl,rfl,by simp,by omega⟩;obtain⟨N,X0,hN,J4,WO,Gt⟩:=hX;rw[Gt]at eH ⊢
 have WT:Wm ([]++A.map n32++[n32 0,n32 0]++sp) X0:=by
  have:=Wm.of X0 sp;rw[J4,qo]at this;simpa[J4] using this
 have E6:L32.Long X V n (N-n) X0 (List.replicate (N-n) 0):=by rw[hN,J4];exact aK
 generalize []++A.map n32++[n32 0,n32 0]++sp=cs0 at *
 have jV:Y.getD (n-1) 0<B32:=wA.1.getD (by decide) _;have iM:Y.getD (n-2) 0<B32:=wA.1.getD (by decide) _;have Nn:=iV (enc:=n32) (l:=Y) (i:=n-1) oM;have Nl:=iV (enc:=n32) (l:=Y) (i:=n-2) oM;have C6:N<=50000003:=oM;have hNn:n+2<=N:=oM;have wz:=hy.mono ai;have WW:B32<=2*Y.getD (n-1) 0:=L32.top_half Y n wA.1 f4 oM (by rw[EJ];exact f3);clear aK J4 Wk O4 hlV ew xd hN;refine uR ?_;refine EVL.idxR tO Z Z Z Z Z Z Z Z Z Z (wz) (n-1) ((by rw[f4];exact Dy n oM oM)) oM (Nn) ?_;refine uR ?_;refine EVL.idxR tO Z Z Z Z Z Z Z Z Z Z (wz) (n-2) ((by rw[f4];exact Rh n 2 oM oM)) oM (Nl) ?_;refine uR ?_;rw[gX _ (w32 jV),gX _ (w32 iM),f4,Rh N n oM (by omega)];refine EVL.make tO Z Z Z Z Z Z Z Z Z (N-n) (rfl) oM (by rfl) (by rfl) fun gq=>?_;refine uR ?_;rw[zN];generalize dP:Y.getD (n-1) 0=v1 at *
 generalize jy:Y.getD (n-2) 0=v0 at *
 have fE:0<v1:=by rw[dY]at WW;omega
 refine EV.loopK (ι:=Nat × List Nat × List Nat × List Value) [8,9,10,11,12,13,14] [] (fun q=>[(15,.v (.int .i64 ((q.1:Int)-1)))]) (fun _=>[]) (fun q=>[(gq,135,q.2.2.1.map n32),(gx,135,q.2.2.2)]) (fun q G=>q.1<=N-n/\q.2.1.length=N/\q.2.2.1.length=N-n/\L32.Long X V n q.1 q.2.1 q.2.2.1/\Wm q.2.2.2 q.2.1) (fun q=>q.1) ((N-n,X0,List.replicate (N-n) 0,cs0)) Z Z ⟨?_,trivial⟩ trivial rfl (fun _=>rfl) (⟨qH _,WO,by simp,E6,WT⟩) ?_
 ·rw[Zg oM (by omega)];rfl
 rintro⟨m,U,q,Km⟩ G3 ax ⟨hm,o9,fF,hL,hW⟩;dsimp only at hm o9 fF hL hW;have Nv:=wz.mono ax;clear WT E6 WO aS ho cV AH AG yT hx hy wz;refine uR ?_;by_cases rh:m=0
 ·subst rh;rw[show decide ((((0:Nat):Int)-1)>=0)=false from rfl];refine uR ?_;refine EVL.publish [] [(gx,135,Km)] Z fun G4 aT jk=>?_;refine EVL.publish [] [] Z fun G5 bj Pn=>?_;have VJ:val B32 U<V:=by have:=hL.top;rwa [List.drop_zero]at this
  have hq:val B32 q=X / V:=by rw[hL.sum,Nat.add_mul_div_left _ _ xy,Nat.div_eq_of_lt VJ,qu]
  have hU:val B32 U=X % V:=by rw[hL.sum,Nat.add_mul_mod_self_left,qT VJ]
  have N0:=we (l:=q) (yg (enc:=n32) (bj _ _ jk) fF) hL.dq oM hq;refine vA (N0) ?_;rintro vq G6 hq6 bu;refine uR ?_;have NW:=we (l:=U) ((hW.sl Pn o9 eH).mono bu) hL.dU oM hU;refine vA (NW) ?_;rintro vu G7 hu7 aZ;refine uR ?_;have nF:=zol hu7 (yA _) (qI (Cn bN _ N (by rw[<-hU,<-o9];exact cZ hL.dU)) oM) s oM;rw[cW bN,<-X9 s (by omega)]at nF;refine vA (nF) ?_;rintro vr G8 hr8 bt;refine uR ?_;exact⟨vq,vr,rfl,(hq6.mono aZ).mono bt,hr8⟩
 ·rw[show decide (((m:Int)-1)>=0)=true by simp;omega];have nM:0<m:=Nat.pos_of_ne_zero rh;have hmN:m+n<=N:=oM;have JI:m+n<=4000000000000:=oM;obtain⟨j,hj⟩:∃j,j=m-1:=⟨_,rfl⟩;have Gv:L32.Long X V n (j+1) U q:=by rw[show j+1=m by omega];exact hL
  have Ba:j+(n+1)<=U.length:=oM;have jH:=Gv.guess Ba h2 f2 f3 f4 wA.1 EJ;have cD:=ZU Gv Ba h2 f2 f4 wA.1 EJ;have dr:=fun U'=>Gv.next (U':=U') Ba f2 xy oM;rw[dP,jy]at jH cD;have Az:U.getD (j+n) 0<B32:=hL.dU.getD (by decide) _;have jz:U.getD (j+(n-1)) 0<B32:=hL.dU.getD (by decide) _;have eR:U.getD (j+(n-2)) 0<B32:=hL.dU.getD (by decide) _;have cM:=hW.2 (j+n) oM;have eA:=hW.2 (j+(n-1)) oM;have fa:=hW.2 (j+(n-2)) oM;obtain⟨u2,WB⟩:∃x,x=U.getD (j+n) 0:=⟨_,rfl⟩;obtain⟨u1,WC⟩:∃x,x=U.getD (j+(n-1)) 0:=⟨_,rfl⟩;obtain⟨u0,Pt⟩:∃x,x=U.getD (j+(n-2)) 0:=⟨_,rfl⟩;rw[<-WB]at jH cD Az cM;rw[<-WC]at jH cD jz eA;rw[<-Pt]at jH eR fa;have wF:u1+u2*2 ^ 32<W64:=by rw[dY]at jz Az;rw[cH];omega
  have e1:u1+u2*2 ^ 32=u2*B32+u1:=by rw[<-im,Nat.add_comm]
  refine uR ?_;apply EV.drawn 18 kR kR;intro xv yw;(repeat refine' DD ?_);refine' DJ.ofVal (az.idxP1 tO Z Z Z Z Z Z Z Z (j+n) ((by rw[hj];exact vp nM JI)) oM) Z Z Z ?_;rotate_left;refine' DJ.ofVal (az.load1 tO Z Z Z Z Z Z (1) Z (cM)) Z Z Z ?_;rotate_left;(repeat refine' DD ?_);refine' DJ.ofVal (az.idxP1 tO Z Z Z Z Z Z Z Z (j+(n-1)) ((by rw[hj];exact Yb nM oM JI)) oM) Z Z Z ?_;rotate_left;refine' DJ.ofVal (az.load1 tO Z Z Z Z Z Z (1) Z (eA)) Z Z Z ?_;rotate_left;(repeat refine' DD ?_);(refine DJ.nil (fun G4 aT xF=>?_);(case hS|hS2=>rfl));refine uR ?_;rw[gX _ (w32 Az),gX _ (w32 jz),show min 32 IntKind.u64.bits=32 from rfl,Dw,qT (Nat.lt_of_le_of_lt (Nat.le_add_left _ _) wF),Ll (by rw[<-im];exact jz) wF,e1];rw[e1]at wF;have aK:=G2.start (B:=B32) (v0:=v0) (u:=u2*B32+u1) (c:=u0) fE eR;generalize hu:u2*B32+u1=u at *
  refine uR ?_;refine EVL.quoI Z Z Z Z Z Z oM ?_;rw[Rf _ _ wF]
  (try refine zA ?_);refine EVL.remI Z Z Z Z Z Z oM ?_;rw[Dx]
  (try refine zA ?_);refine EV.meetK (ι:=Nat) [8,9,10,11,12,13,14,15] [] (fun g=>[(17,.v (n64 g))]) (fun _=>[]) (fun _=>[(gq,135,q.map n32),(gx,135,Km)]) (fun g G=>G4.Le G/\g<B32/\g*(v1*B32+v0)<=u*B32+u0/\(u*B32+u0<(g+1)*(v1*B32+v0)\/g=B32-1)) Z Z (fun _=>rfl) ?_ ?_
  ·try refine uR ?_
   refine EV.loopK (ι:=Nat × Nat) [8,9,10,11,12,13,14,15] [] (fun p=>[(17,.v (n64 p.1)),(18,.v (n64 p.2))]) (fun _=>[]) (fun _=>[(gq,135,q.map n32),(gx,135,Km)]) (fun p G=>G2 B32 v1 v0 u u0 p.1 p.2/\p.2<B32) (fun p=>p.1) ((u / v1,u % v1)) Z Z ⟨Z,Z,trivial⟩ trivial rfl (fun _=>rfl) (⟨aK,Nat.lt_trans (qm _ fE) (by rw[<-dP];exact wA.1.getD (by decide) _)⟩) ?_;rintro⟨g,r⟩ G5 bj ⟨hg,hr⟩;dsimp only at hg hr;have gm:=hg.small cD WW iM;have EY:v1<B32:=by rw[<-dP];exact wA.1.getD (by decide) _
   refine uR ?_;by_cases sX:B32<=g
   ·rw[show decide ((g:Int)>=4294967296)=true from qD (by rw[dY]at sX;omega)];have FW:0<g:=by rw[dY]at sX;omega
    have jb:=hg.high fE cD eR sX;refine uR ?_;rw[KF g FW (by rw[dY]at gm;rw[cH];omega),tV r v1 (by rw[cH];rw[dY]at hr EY;omega)];by_cases cX:B32<=r+v1
    ·rw[show decide (((r+v1:Nat):Int)>=4294967296)=true from qD (by rw[dY]at cX;omega)];refine uR ?_;have ho:=jb.over cD iM cX;exact⟨g-1,⟨Z,trivial⟩,sB,trivial,trivial,rfl,bj,ho.1,jb.done ho.2⟩
    ·rw[show decide (((r+v1:Nat):Int)>=4294967296)=false from qC (by rw[dY]at cX;omega)];refine uR ?_;exact⟨(g-1,r+v1),⟨Z,Z,trivial⟩,sB,trivial,trivial,rfl,⟨jb,by dsimp only;omega⟩,Hp.Le.refl _,by dsimp only;omega⟩
   ·rw[show decide ((g:Int)>=4294967296)=false from qC (by rw[dY]at sX;omega)];refine EVL.val tO Z Z Z Z Z ?_;refine EVL.val tO Z Z Z Z Z ?_;rw[show decide ((r:Int)<4294967296)=true from qD (by rw[dY]at hr;omega)]
    have Bc:g*v0<W64:=by
     have:g*v0<=(B32-1)*(B32-1):=Nat.mul_le_mul oM oM;rw[dY]at this;rw[cH];omega
    have e3:u0+r*2 ^ 32=r*B32+u0:=by rw[<-im,Nat.add_comm]
    have V0:u0+r*2 ^ 32<W64:=by rw[dY]at hr eR;rw[cH];omega
    refine uR ?_;refine EVL.idx0 tO Z Z Z Z Z Z Z Z Z Z (j+(n-2)) ((by rw[hj];exact Ya nM h2 JI)) oM ?_;refine EVL.load1 tO Z Z Z Z Z Z Z Z (1) Z (fa) ?_
    (try refine gO ?_);rw[KE _ _ Bc,gX _ (w32 eR),show min 32 IntKind.u64.bits=32 from rfl,Dw,qT (Nat.lt_of_le_of_lt (Nat.le_add_left _ _) V0),Ll (by rw[<-im];exact eR) V0,e3];by_cases hd:r*B32+u0<g*v0
    ·rw[show decide (((g*v0:Nat):Int)>((r*B32+u0:Nat):Int))=true from qD (by omega)];have kF:=hg.down hd;have FW:=kF.1;have jb:=kF.2;refine uR ?_;rw[KF g FW (by rw[dY]at gm;rw[cH];omega),tV r v1 (by rw[cH];rw[dY]at hr EY;omega)];by_cases cX:B32<=r+v1
     ·rw[show decide (((r+v1:Nat):Int)>=4294967296)=true from qD (by rw[dY]at cX;omega)];refine uR ?_;have ho:=jb.over cD iM cX;exact⟨g-1,⟨Z,trivial⟩,sB,trivial,trivial,rfl,bj,ho.1,jb.done ho.2⟩
     ·rw[show decide (((r+v1:Nat):Int)>=4294967296)=false from qC (by rw[dY]at cX;omega)];refine uR ?_;exact⟨(g-1,r+v1),⟨Z,Z,trivial⟩,sB,trivial,trivial,rfl,⟨jb,by dsimp only;omega⟩,Hp.Le.refl _,by dsimp only;omega⟩
    ·rw[show decide (((g*v0:Nat):Int)>((r*B32+u0:Nat):Int))=false from qC (by omega)];refine uR ?_;exact⟨g,⟨Z,trivial⟩,sB,trivial,trivial,rfl,bj,by omega,hg.done oM⟩
  ·rintro g G5 ⟨bj,sX,km,nT⟩;have jk:=jH.2 g sX km nT;have Nu:=Nv.mono (aT.trans bj);clear jH cD aK km nT;refine uR ?_;refine EV.loopK (ι:=Nat × Nat × Nat × List Nat × List Value) [8,9,10,11,12,13,14,15,17] [] (fun p=>[(19,.v (n64 p.2.1)),(20,.v (n64 p.2.2.1)),(21,.v (.int .i64 (p.1:Int)))]) (fun _=>[]) (fun p=>[(gq,135,q.map n32),(gx,135,p.2.2.2.2)]) (fun p G=>p.1<=n/\p.2.1<B32/\p.2.2.1<=1/\L32.Alike p.2.2.2.1 U j (n+1)/\Dig B32 p.2.2.2.1/\val B32 p.2.2.2.1+g*val B32 (Y.take p.1)*B32 ^ j=val B32 U+(p.2.2.1+p.2.1)*B32 ^ (j+p.1)/\Wm p.2.2.2.2 p.2.2.2.1) (fun p=>n-p.1) ((0,0,0,U,Km)) Z Z ⟨Z,Z,Z,trivial⟩ trivial rfl (fun _=>rfl) (⟨qQ _,(show (0:Nat)<B32 by decide),qQ _,L32.Alike.refl _ _ _,Gv.dU,by simp[val],hW⟩) ?_;rintro⟨k,c,bo,U1,Kl⟩ G6 bu ⟨hk,J0,cG,bH,iR,hval,zk⟩;dsimp only at hk J0 cG bH iR hval zk;have tu:U1.length=N:=by rw[bH.1];exact o9
   have Am:=Nu.mono bu;rw[f4]at Am;refine uR ?_;refine EV.cond Z (fun O8=>?_) (fun O8=>?_)
   ·simp only[nN]at O8;have Jr:Y.getD k 0<B32:=wA.1.getD (by decide) _;have Al:=iV (enc:=n32) (l:=Y) (i:=k) oM;have Aq:U1.getD (j+k) 0<B32:=iR.getD (by decide) _;have yO:=zk.2 (j+k) oM;have hmul:g*Y.getD k 0<=(B32-1)*(B32-1):=Nat.mul_le_mul oM oM;have JS:g*Y.getD k 0<W64/\c+g*Y.getD k 0<W64/\g*Y.getD k 0+c<B32*B32:=by rw[dY]at *;rw[cH];omega
    have F1:g*Y.getD k 0 / B32*B32+g*Y.getD k 0 % B32=g*Y.getD k 0:=by rw[qW];exact qj _ _
    have sr:=L32.sub_round U1 U Y j k (j+k) g c bo (U1.getD (j+k) 0) (Y.getD k 0) (g*Y.getD k 0 / B32) (g*Y.getD k 0 % B32) rfl oM Aq Z Z (qm _ (by decide)) F1 JS.2.2 J0 cG hval;have el:L32.addLo (g*Y.getD k 0 % B32) c 0=(c+g*Y.getD k 0) % B32:=by unfold L32.addLo;rw[qY,Nat.mod_add_mod,Nat.add_comm]
    have eh:g*Y.getD k 0 / B32+L32.addHi (g*Y.getD k 0 % B32) c 0=(c+g*Y.getD k 0) / B32:=by
     unfold L32.addHi;rw[qY];generalize g*Y.getD k 0=z;rw[dY];omega
    rw[el,eh]at sr;obtain⟨s1,s2,s3,s4⟩:=sr;obtain⟨w1,w2⟩:=Tu (y:=(c+g*Y.getD k 0) % B32) Aq (qm _ (by decide)) cG;refine uR ?_;refine vI (Am) (k) (rfl) (oM) (Al) ?_;refine uR ?_;rw[gX _ (w32 Jr),KE _ _ JS.1,tV _ _ JS.2.1];refine uR ?_;refine EVL.idx0 tO Z Z Z Z Z Z Z Z Z Z (j+k) ((by rw[hj];exact vp nM oM)) oM ?_;refine EVL.load1 tO Z Z Z Z Z Z Z Z (1) Z (yO) ?_;refine uR ?_;rw[ZD _ JS.2.1,gX _ (w32 Aq)];rw[w1];refine EVL.idx0 tO Z Z Z Z Z Z Z Z Z Z (j+k) ((by rw[hj];exact vp nM oM)) oM ?_;refine EVL.setO tO Z Z Z Z Z Z Z ([(gq,135,q.map n32)]) Z Z Z ((show j+k<Kl.length by have:=zk.1;omega)) ?_;refine uR ?_;refine⟨(k+1,(c+g*Y.getD k 0) / B32,L32.subHi (U1.getD (j+k) 0) ((c+g*Y.getD k 0) % B32) bo,U1.set (j+k) (L32.subLo (U1.getD (j+k) 0) ((c+g*Y.getD k 0) % B32) bo),Kl.set (j+k) (n32 (L32.subLo (U1.getD (j+k) 0) ((c+g*Y.getD k 0) % B32) bo))),⟨?_,?_,?_,trivial⟩,sB,trivial,trivial,rfl,⟨by dsimp only;omega,s1,s2,bH.set _ _ oM oM,iR.set _ _ s3,s4,zk.set _ _ oM⟩,Hp.Le.refl _,by dsimp only;omega⟩
    ·rw[Dp];rfl
    ·rw[w2];rfl
    ·rw[aO k (by omega)];rfl
   ·simp only[nN]at O8;obtain rfl:k=n:=oM;have Aq:U1.getD (j+k) 0<B32:=iR.getD (by decide) _;have yO:=zk.2 (j+k) oM;have nB:val B32 U1+g*V*B32 ^ j=val B32 U+(bo+c)*B32 ^ (j+k):=by rw[qO oM,EJ]at hval;exact hval
    obtain⟨a1,a2,a3,a4,a5⟩:=L32.sub_end U U1 V g c bo _ j k Ba bH Gv.dU iR rfl J0 cG nB xy f2 jk.1 jk.2;obtain⟨w1,w2⟩:=Tu Aq J0 cG;refine uR ?_;refine EVL.idx0 tO Z Z Z Z Z Z Z Z Z Z (j+k) ((by rw[hj];exact vp nM oM)) oM ?_;refine EVL.load1 tO Z Z Z Z Z Z Z Z (1) Z (yO) ?_;refine uR ?_;rw[gX _ (w32 Aq)];rw[w1];have WS:=zk.set (j+k) (L32.subLo (U1.getD (j+k) 0) c bo) oM;have PU:(U1.set (j+k) (L32.subLo (U1.getD (j+k) 0) c bo)).length=N:=by rw[List.length_set];exact tu
    refine EVL.idx0 tO Z Z Z Z Z Z Z Z Z Z (j+k) ((by rw[hj];exact vp nM oM)) oM ?_;refine EVL.setO tO Z Z Z Z Z Z Z ([(gq,135,q.map n32)]) Z Z Z ((show j+k<Kl.length by have:=zk.1;omega)) ?_;generalize U1.set (j+k) (L32.subLo (U1.getD (j+k) 0) c bo)=U2 at *
    generalize Kl.set (j+k) (n32 (L32.subLo (U1.getD (j+k) 0) c bo))=Xq at *
    (try refine zA ?_);rw[w2];generalize L32.subHi (U1.getD (j+k) 0) c bo=hb at *
    clear hval nB w1 w2 zk bH iR Aq yO
    (try refine zA ?_);refine EV.meetK (ι:=List Nat × List Value) [8,9,10,11,12,13,14,15] [] (fun _=>[(17,.v (n64 (val B32 (L32.mid U j (k+1)) / V)))]) (fun _=>[]) (fun p=>[(gq,135,q.map n32),(gx,135,p.2)]) (fun p G=>G6.Le G/\Wm p.2 p.1/\L32.Alike p.1 U j (k+1)/\Dig B32 p.1/\val B32 (L32.mid p.1 j (k+1))=val B32 (L32.mid U j (k+1)) % V) Z Z (fun _=>rfl) ?_ ?_
    ·rcases (by omega:hb=0\/hb=1) with h0 | h0
     ·subst h0;obtain⟨b1,b2⟩:=a4 rfl;rw[show (((0:Nat):Int) == 1)=false from rfl];refine uR ?_;exact⟨(U2,Xq),⟨by rw[<-b1];rfl,trivial⟩,sB,trivial,trivial,rfl,Hp.Le.refl _,WS,a1,a2,b2⟩
     ·subst h0;obtain⟨b1,b2⟩:=a5 rfl;rw[show (((1:Nat):Int) == 1)=true from rfl];have FW:0<g:=by rw[b1];exact Nat.succ_pos _
      have hgm:g-1=val B32 (L32.mid U j (k+1)) / V:=by rw[b1];exact Nat.add_sub_cancel _ _
      have hmV:=qm (val B32 (L32.mid U j (k+1))) xy
      have CT:val B32 (L32.mid U j (k+1)) % V<B32 ^ (k+1):=by
       have:B32 ^ k<=B32 ^ (k+1):=qc (by decide) oM;exact Nat.lt_of_lt_of_le (Nat.lt_trans hmV f2) this
      refine uR ?_;rw[KF g FW (w32 sX),hgm];refine uR ?_;refine EV.loopK (ι:=Nat × Nat × List Nat × List Value) [8,9,10,11,12,13,14,15,17] [] (fun p=>[(19,.v (n64 p.2.1)),(24,.v (.int .i64 (p.1:Int)))]) (fun _=>[]) (fun p=>[(gq,135,q.map n32),(gx,135,p.2.2.2)]) (fun p G=>p.1<=k/\p.2.1<=1/\L32.Alike p.2.2.1 U2 j k/\Dig B32 p.2.2.1/\val B32 p.2.2.1+p.2.1*B32 ^ (j+p.1)=val B32 U2+val B32 (Y.take p.1)*B32 ^ j/\Wm p.2.2.2 p.2.2.1) (fun p=>k-p.1) ((0,0,U2,Xq)) Z Z ⟨Z,Z,trivial⟩ trivial rfl (fun _=>rfl) (⟨qQ _,qQ _,L32.Alike.refl _ _ _,a2,by simp[val],WS⟩) ?_;rintro⟨i,c',U3,Kk⟩ G7 aZ ⟨hi,dV,dB,gJ,nA,zj⟩;dsimp only at hi dV dB gJ nA zj;have xz:U3.length=N:=by rw[dB.1];exact PU
      have Nt:=Am.mono aZ;refine uR ?_;refine EV.cond Z (fun CY=>?_) (fun CY=>?_)
      ·simp only[nN]at CY;have p8:Y.getD i 0<B32:=wA.1.getD (by decide) _;have Al:=iV (enc:=n32) (l:=Y) (i:=i) oM;have di:U3.getD (j+i) 0<B32:=gJ.getD (by decide) _;have yO:=zj.2 (j+i) oM;obtain⟨r1,r2,r3⟩:=L32.add_round U3 U2 Y j i (j+i) c' (U3.getD (j+i) 0) (Y.getD i 0) rfl oM di Z Z p8 dV nA;have el:L32.addLo (U3.getD (j+i) 0) (Y.getD i 0) c'=(c'+U3.getD (j+i) 0+Y.getD i 0) % B32:=by unfold L32.addLo;congr 1;omega
       have eh:L32.addHi (U3.getD (j+i) 0) (Y.getD i 0) c'=(c'+U3.getD (j+i) 0+Y.getD i 0) / B32:=by unfold L32.addHi;congr 1;omega
       rw[el]at r1 r3;rw[eh]at r2 r3;have JA:c'+U3.getD (j+i) 0<W64/\c'+U3.getD (j+i) 0+Y.getD i 0<W64:=by rw[dY]at di p8;rw[cH];omega
       refine uR ?_;apply EV.drawn 16 kR kR;intro xv yw;(repeat refine' DD ?_);refine' DJ.ofVal (az.idxP1 tO Z Z Z Z Z Z Z Z (j+i) ((by rw[hj];exact vp nM oM)) oM) Z Z Z ?_;rotate_left;refine' DJ.ofVal (az.load1 tO Z Z Z Z Z Z (1) Z (yO)) Z Z Z ?_;rotate_left;(repeat refine' DD ?_);refine' vJ (Nt) (i) (rfl) (oM) (Al) ?_;rotate_left;(repeat refine' DD ?_);(refine DJ.nil (fun G8 bt uT=>?_);(case hS|hS2=>rfl));refine uR ?_;rw[gX _ (w32 di),gX _ (w32 p8),tV _ _ JA.1,tV _ _ JA.2];rw[pn];refine EVL.idx0 tO Z Z Z Z Z Z Z Z Z Z (j+i) ((by rw[hj];exact vp nM oM)) oM ?_;refine EVL.setO tO Z Z Z Z Z Z Z ([(gq,135,q.map n32)]) Z Z Z ((show j+i<Kk.length by have:=zj.1;omega)) ?_;refine uR ?_;refine⟨(i+1,(c'+U3.getD (j+i) 0+Y.getD i 0) / B32,U3.set (j+i) ((c'+U3.getD (j+i) 0+Y.getD i 0) % B32),Kk.set (j+i) (n32 ((c'+U3.getD (j+i) 0+Y.getD i 0) % B32))),⟨?_,?_,trivial⟩,sB,trivial,trivial,rfl,⟨by dsimp only;omega,r2,dB.set _ _ oM oM,gJ.set _ _ r1,r3,zj.set _ _ oM⟩,bt,by dsimp only;omega⟩
       ·rw[Dp];rfl
       ·rw[aO i (by omega)];rfl
      ·simp only[nN]at CY;obtain rfl:i=k:=oM;have di:U3.getD (j+i) 0<B32:=gJ.getD (by decide) _;have yO:=zj.2 (j+i) oM;rw[qO oM,EJ]at nA;obtain⟨e1,e2,e3⟩:=L32.add_end U2 U3 V c' _ j i _ oM dB gJ rfl dV nA b2 CT;have JA:U3.getD (j+i) 0+c'<W64:=by rw[dY]at di;rw[cH];omega
       refine uR ?_;refine EVL.idx0 tO Z Z Z Z Z Z Z Z Z Z (j+i) ((by rw[hj];exact vp nM oM)) oM ?_;refine EVL.load1 tO Z Z Z Z Z Z Z Z (1) Z (yO) ?_;refine uR ?_;rw[gX _ (w32 di),tV _ _ JA];rw[pn];refine EVL.idx0 tO Z Z Z Z Z Z Z Z Z Z (j+i) ((by rw[hj];exact vp nM oM)) oM ?_;refine EVL.setO tO Z Z Z Z Z Z Z ([(gq,135,q.map n32)]) Z Z Z ((show j+i<Kk.length by have:=zj.1;omega)) ?_;refine uR ?_;exact⟨(U3.set (j+i) ((U3.getD (j+i) 0+c') % B32),Kk.set (j+i) (n32 ((U3.getD (j+i) 0+c') % B32))),⟨Z,trivial⟩,sB,trivial,trivial,rfl,aZ,zj.set _ _ oM,zld e1 a1,e2,e3⟩
    ·rintro⟨U',cx'⟩ G7 ⟨aZ,hW',Bu,uV,lz⟩;dsimp only at hW' Bu uV lz;have CP:val B32 (L32.mid U j (k+1)) / V<B32:=Nat.lt_of_le_of_lt jk.1 sX;have bn:=dr U' Bu uV lz;generalize val B32 (L32.mid U j (k+1)) / V=qd at *
     refine uR ?_;rw[pn,qT CP];refine EVL.idx0 tO Z Z Z Z Z Z Z Z Z Z (j) (oM) oM ?_;refine EVL.set1 tO Z Z Z Z Z Z Z Z Z Z ((by rw[qV];omega)) ?_;refine uR ?_;refine⟨(j,U',q.set j qd,cx'),⟨?_,trivial⟩,sB,trivial,trivial,?_,⟨by dsimp only;omega,by dsimp only;rw[Bu.1];exact o9,by dsimp only;rw[List.length_set];exact fF,bn,hW'⟩,((aT.trans bj).trans bu).trans aZ,by dsimp only;omega⟩
     ·rw[hj,Zh nM (by omega)];rfl
     ·dsimp only;rw[List.map_set]
theorem XH (b:Nat) (h:b<=4000000000):IntKind.i64.wrap ((IntKind.i64.wrap ((b:Int)+7)).tdiv 8)=(((b+7) / 8:Nat):Int):=by
 rw[show IntKind.i64.wrap ((b:Int)+7)=((b+7:Nat):Int) by rw[pL];omega];exact vD (b+7) 8 oM
theorem XI (b:Nat) (h:b<=4000000000):IntKind.i64.wrap ((IntKind.i64.wrap ((b:Int)+3)).tdiv 4)=(((b+3) / 4:Nat):Int):=by
 rw[show IntKind.i64.wrap ((b:Int)+3)=((b+3:Nat):Int) by rw[pL];omega];exact vD (b+3) 4 oM
theorem zog {u v:Value} {H:Hp} {a b:Nat} {la lb:List Nat} (hu:SlN n32 H u la) (hv:SlN n32 H v lb) (kj:la.length<=50000000) (df:lb.length<=50000000) (oK:eM B32 la) (ki:eM B32 lb) (rW:val B32 la=a) (fr:val B32 lb=b) (h0:b≠0) :
  PC prog 60 #[u,v] H fun r H'=>∃s t,r=.tuple #[s,t]/\SlN n32 H' s (dig B32 (a / b))/\SlN n32 H' t (dig B32 (a % b)):=by
 by_cases cQ:a<b
 ·have aS:=Ej hu hv oK ki oM;rw[rW,fr,pT cQ]at aS;rw[Nat.div_eq_of_lt cQ,qT cQ,mH,<-rW,DH bN oK];refine BD func60 ntmps60 ?_
  repeat (first|refine RUN ?_|refine CV (aS) ?_|refine CE (aS) ?_)
  exact⟨_,_,rfl,Q6 _ _,hu⟩
 ·by_cases h2:2<=lb.length
  ·exact zoh hu hv kj df oK ki rW fr oM h2
  ·have h1:lb.length=1:=by
    rcases qz lb.length with e | e
    ·rw[pJ.1 e]at fr;exact absurd fr.symm h0
    ·omega
   obtain⟨b0,rfl⟩:=List.length_eq_one_iff.1 h1;have jq:b0=b:=by rw[<-fr];simp[val]
   subst jq;have Gh:b0<B32:=ki.1 b0 (by simp);have aS:=Ej hu hv oK ki oM;rw[rW,fr]at aS;have ho:decide (br a b0<0)=false:=by unfold br;rw[if_neg cQ];split <;> rfl
   generalize br a b0=oab at *
   have eF:=zp6 hu oK.1 oM b0 (Nat.pos_of_ne_zero h0) Gh;rw[rW]at eF;obtain⟨ab,cb,rfl⟩:=SlC.val hv;refine BD func60 ntmps60 ?_
   repeat (first|refine RUN ?_|refine CV (aS) ?_|refine CE (aS) ?_)
   rw[ho];refine uR ?_;refine vI (hv) (0) (rfl) (Nat.zero_lt_one) (rfl) ?_;refine uR ?_;refine vA (eF) ?_;rintro r G1 ⟨s,rfl,hs⟩ aj;refine uR ?_;have hm:a % b0<W64:=w32 (Nat.lt_trans (qm _ (Nat.pos_of_ne_zero h0)) Gh);rw[gX _ hm];refine vA (I8 (a % b0) hm G1) ?_;rintro t G2 ht ai;refine uR ?_;exact⟨s,t,rfl,hs.mono ai,ht⟩
abbrev RN (H:Hp) (v:Value) (n:Nat):Prop:=SlN n32 H v (dig B32 n)
def rsm (n:Nat):Prop:=bl n<=800000000
theorem znG {n k:Nat} (h:bl n<=32*k):(dig B32 n).length<=k:=by
 apply Cn bN;rw[im,<-Nat.pow_mul];exact zoW.1 h
theorem rsm.len {n:Nat} (h:rsm n):(dig B32 n).length<=25000000:=znG h
theorem rsm.le {n m:Nat} (h:rsm n) (hm:m<=n):rsm m:=qI (ik hm) h
theorem LM {u v:Value} {H:Hp} {a b:Nat} (hu:RN H u a) (hv:RN H v b) (ha:rsm a) (hb:rsm b) (h0:b≠0) :
  PC prog 60 #[u,v] H fun r H'=>∃s t,r=.tuple #[s,t]/\RN H' s (a / b)/\RN H' t (a % b) :=
 zog hu hv (qI ha.len oM) (qI hb.len oM) (eo bN a) (eo bN b) (cW bN a) (cW bN b) h0
theorem zp4 {u v:Value} {H:Hp} {a b:Nat} (hu:RN H u a) (hv:RN H v b) (ha:rsm a) (hb:rsm b) :
  PC prog 59 #[u,v] H fun r H'=>RN H' r (Nat.gcd a b):=by
 refine BD func59 ntmps59 ?_;refine uR ?_;refine EV.loopK (ι:=Nat × Nat × Value × Value) [] [] (fun q=>[(0,.v q.2.2.1),(1,.v q.2.2.2)]) (fun _=>[]) (fun _=>[]) (fun q G=>RN G q.2.2.1 q.1/\RN G q.2.2.2 q.2.1/\rsm q.1/\rsm q.2.1/\Nat.gcd q.1 q.2.1=Nat.gcd a b) (fun q=>q.2.1) ((a,b,u,v)) Z Z ⟨Z,Z,trivial⟩ trivial rfl (fun _=>rfl) (⟨hu,hv,ha,hb,rfl⟩) ?_;rintro⟨x,y,vx,vy⟩ G1 aj ⟨hx,hy,ed,yM,hg⟩;dsimp only at hx hy ed yM hg;obtain⟨ay,cy,rfl⟩:=SlC.val hy;have hl:(dig B32 y).length=0->y=0:=rO bN;by_cases h0:y=0
 ·subst h0;rw[mH]at hy;rw[mH,Nat.gcd_zero_right]at *
  subst hg;refine uR ?_;exact hx
 ·have hdiv:=LM hx hy ed yM h0;have OJ:Nat.gcd y (x % y)=Nat.gcd a b:=by rw[<-hg,Nat.gcd_comm y,<-Nat.gcd_rec,Nat.gcd_comm]
  have af:=qm x (Nat.pos_of_ne_zero h0);generalize hn:(dig B32 y).length=n at *
  have CS:n≠0:=fun e=>h0 (hl e);refine uR ?_;rw[show decide ((n:Int)>0)=true by simp;omega];refine uR ?_;refine vA (hdiv) ?_;rintro r G2 ⟨s,t,rfl,hs,ht⟩ ai;refine uR ?_;exact⟨(y,x % y,_,t),⟨Z,Z,trivial⟩,trivial,trivial,trivial,rfl,⟨hy.mono ai,ht,yM,yM.le (Nat.le_of_lt af),OJ⟩,ai,af⟩
theorem r4 (i:Nat):IntKind.u64.wrap (IntKind.i64.wrap (8*(i:Int).tmod 4))=((8*(i % 4):Nat):Int):=by
 rw[dz,pL,Int.tmod_eq_emod_of_nonneg (by omega)];omega
theorem Yc (x p:Nat):IntKind.u8.wrap ((x:Int).fdiv (2 ^ p))=((x / 2 ^ p % 256:Nat):Int):=by rw[Hm,Rg];omega
theorem zlW {v:Value} {H:Hp} {n:Nat} (h:RN H v n) (hn:rsm n):PC prog 136 #[v] H fun r H'=>SlN n8 H' r (ku n):=by
 have hN:(dig 256 n).length=(bl n+7) / 8:=by have:=ur 8 n oM;rw[show (2:Nat) ^ 8=256 by decide]at this;rw[this];omega
 have hL:(dig B32 n).length=(bl n+31) / 32:=by have:=ur 32 n oM;rw[<-im]at this;rw[this];omega
 have hD:=yA n;have cV:=T7 h (eo bN n) (qI hn.len oM);rw[cW bN]at cV;have aQ:=fun i=>MK (C:=256) (k:=4) (by decide) (by decide) (l:=dig B32 n) (by rw[<-DO];exact hD) i;rw[<-DO,cW bN]at aQ;have Wh:=fun i=>hD.getD (by decide) i;have oN:=fun i=>iV (enc:=n32) (l:=dig B32 n) (i:=i);have Oy:=RX n ((bl n+7) / 8) hN.symm;have PK:bl n<=800000000:=hn;unfold RN at h;obtain⟨a,cap,rfl⟩:=SlC.val h;generalize hDe:dig B32 n=D at *
 generalize bl n=b at *
 generalize Gt:(b+7) / 8=N at *
 refine BD func136 ntmps136 ?_
 repeat (first|refine RUN ?_|refine CV (cV) ?_|refine CE (cV) ?_)
 rw[XH b oM,Gt];refine uR ?_;refine EVL.make tO Z Z Z Z Z Z Z Z Z (N) (rfl) oM (by rfl) (by rfl) fun g=>?_;refine uR ?_
 have e0:(List.replicate N (aa5.zero)).flatten=(List.replicate N 0).map n8:=by
  rw[List.map_replicate,show (aa5.zero)=[n8 0] from rfl];simp
 rw[e0];refine EV.loopK (ι:=Nat × List Nat) [0,3,4] [] (fun q=>[(5,.v (.int .i64 (q.1:Int)))]) (fun _=>[]) (fun q=>[(g,5,q.2.map n8)]) (fun q G=>q.1<=N/\q.2.length=N/\(∀j,j<q.1->q.2.getD (N-1-j) 0=n / 256 ^ j % 256)) (fun q=>N-q.1) ((0,List.replicate N 0)) Z Z ⟨Z,trivial⟩ trivial rfl (fun _=>rfl) (⟨qQ _,by simp,fun j hj=>absurd hj (Nat.not_lt_zero _)⟩) ?_;rintro⟨i,cur⟩ G1 aj ⟨hi,hlen,bC⟩;dsimp only at hi hlen bC;refine uR ?_;refine EV.cond Z (fun af=>?_) (fun af=>?_)
 ·simp only[nN]at af;have bY:i / 4<D.length:=oM;refine uR ?_;refine EVL.idxR tO Z Z Z Z Z Z Z Z Z Z (h.mono aj) (i / 4) (vD i 4 oM) (bY) (oN _ bY) ?_;refine uR ?_;refine EVL.shrI Z Z Z Z Z Z (r4 i) ((show 8*(i % 4)<=32 by omega)) ?_;refine uR ?_;rw[Yc,Nat.pow_mul,show (2:Nat) ^ 8=256 by decide,aQ i];refine EVL.idx0 tO Z Z Z Z Z Z Z Z Z Z (N-1-i) (zz N i af oM) oM ?_;refine EVL.set1 tO Z Z Z Z Z Z Z Z Z Z ((by rw[qV];dsimp only;omega)) ?_;refine uR ?_;refine⟨(i+1,cur.set (N-1-i) (n / 256 ^ i % 256)),⟨?_,trivial⟩,sB,trivial,trivial,?_,⟨by dsimp only;omega,by dsimp only;rw[List.length_set];exact hlen,fun j hj=>?_⟩,Hp.Le.refl _,by dsimp only;omega⟩
  ·rw[aO i (by omega)];rfl
  ·dsimp only;rw[List.map_set]
  ·dsimp only at hj ⊢;by_cases e:j=i
   ·subst e;rw[yC _ _ _ (by omega)]
   ·rw[getD_set_ne _ _ _ _ (by omega)];exact bC j oM
 ·simp only[nN]at af;obtain rfl:i=N:=oM;have ho:=Oy cur hlen bC;subst ho;(first|refine EVL.publish [] [] Z fun G2 ai hg=>?_|refine EV.publish [] [] Z fun G2 ai hg=>?_);refine uR ?_;exact yg hg hlen
theorem Yu {K B:Nat} (hK:0<K) (m k:Nat) (r:List Nat) (h:k+1+r.length<=K*m):∃e,(pk K B (List.replicate (k+1) 0++r) m).getD (k / K) 0=e*B ^ (k % K+1):=by
 have uO:k / K<m:=Nat.div_lt_of_lt_mul oM;have oS:=qj k K;have Pc:=qm k hK;rw[Ib _ _ _ _ _ uO,List.drop_append_of_le_length (by simp;omega),List.drop_replicate,show k+1-K*(k / K)=k % K+1 by omega,List.take_append,List.length_replicate,qO (by simp;omega),uj,pW,List.length_replicate,qu];exact⟨_,qW _ _⟩
theorem Yo {e x p:Nat} (hx:x<256) (h:e*2 ^ (p+8)+x*2 ^ p<B32) :
  IntKind.u32.wrap (((BitVec.ofInt IntKind.u32.bits ((e*2 ^ (p+8):Nat):Int) ||| BitVec.ofInt IntKind.u32.bits ((x*2 ^ p:Nat):Int)).toNat:Nat):Int)=((e*2 ^ (p+8)+x*2 ^ p:Nat):Int):=by
 rw[dY]at h;refine(u32_or_nat _ _ oM oM).trans ?_;rw[Nat.or_comm,pE _ _ (p+8) (2 ^ (p+8)) rfl (by rw[Nat.pow_add,qW];exact Nat.mul_lt_mul_of_pos_left hx (Nat.two_pow_pos p)),Nat.add_comm]
theorem zoj {v:Value} {l:List Nat} {H:Hp} (h:SlN n8 H v l) (hD:Dig 256 l) (hl:l.length<=200000000):PC prog 150 #[v] H fun r H'=>RN H' r (val 256 l.reverse):=by
 obtain⟨a,cap,rfl⟩:=SlC.val h;obtain⟨m,hm⟩:∃m,m=(l.length+3) / 4:=⟨_,rfl⟩;have Ow:=fun i=>BU (K:=4) (B:=256) (by decide) (Dig.append (Dig.zeros (by decide) (l.length-i)) (hD.take i).rev) m;refine BD func150 ntmps150 ?_;refine uR ?_;refine EVL.make tO Z Z Z Z Z Z Z Z Z (m) ((by rw[hm];exact XI _ oM)) oM (by rfl) (by rfl) fun g=>?_;refine uR ?_;rw[zN,<-Hx 4 256 m]
 have e0:pk 4 256 [] m=pk 4 256 (List.replicate (l.length-0) 0++(l.take 0).reverse) m:=by
  refine IA (B:=256 ^ 4) (by decide) (BU (by decide) (Dig.nil _) m) (Ow 0) (by rw[jv,jv]) ?_;rw[BT 4 256 (by decide) m _ (qQ _),BT 4 256 (by decide) m _ (by simp;omega)];simp[pW,val]
 rw[e0];refine EV.loopK (ι:=Nat) [0,3] [] (fun i=>[(4,.v (.int .i64 (i:Int)))]) (fun _=>[]) (fun i=>[(g,135,(pk 4 256 (List.replicate (l.length-i) 0++(l.take i).reverse) m).map n32)]) (fun i G=>i<=l.length) (fun i=>l.length-i) (0) Z Z ⟨Z,trivial⟩ trivial rfl (fun _=>rfl) (qQ _) ?_;rintro i G1 aj hi;refine uR ?_;refine EV.cond Z (fun af=>?_) (fun af=>?_)
 ·simp only[nN]at af;obtain⟨k,hk⟩:∃k,k=l.length-1-i:=⟨_,rfl⟩;have CU:l.length-i=k+1:=oM;have uO:k / 4<m:=oM;have hx:l.getD i 0<256:=hD.getD (by decide) i;have ed:=iV (enc:=n8) af;have ft:(l.take i).reverse.length=i:=by rw[List.length_reverse,qP];omega
  obtain⟨e,he⟩:=Yu (K:=4) (B:=256) (by decide) m k (l.take i).reverse (by rw[ft];omega);have Bd:=zkw (K:=4) (B:=256) (by decide) (by decide) m k (l.getD i 0) (l.take i).reverse hx (hD.take i).rev (by rw[ft];omega);have fI:=iV (enc:=n32) (l:=pk 4 256 (List.replicate (k+1) 0++(l.take i).reverse) m) (i:=k / 4) (by rw[jv];exact uO);have Ft:=Ow (i+1)
  have dr:List.replicate (l.length-(i+1)) 0++(l.take (i+1)).reverse=List.replicate k 0++l.getD i 0::(l.take i).reverse:=by
   rw[show l.length-(i+1)=k by omega,qS af,List.reverse_append,qB,qA af];rfl
  rw[dr,Bd]at Ft
  have bk:(pk 4 256 (List.replicate (k+1) 0++(l.take i).reverse) m).getD (k / 4) 0+l.getD i 0*256 ^ (k % 4)<B32:=by
   have:=Ft.getD (by decide) (k / 4);rw[yC _ _ _ (by rw[jv];exact uO)]at this;rw[DO];exact this
  rw[CU];generalize jn:pk 4 256 (List.replicate (k+1) 0++(l.take i).reverse) m=cur at *
  have cj:cur.length=m:=by rw[<-jn,jv]
  refine uR ?_;rw[zz _ _ af oM,<-hk];refine uR ?_;apply EV.drawn 19 kR kR;intro xv yw;(repeat refine' DD ?_);refine' DJ.ofVal (az.idxP1 tO Z Z Z Z Z Z Z Z (k / 4) (vD k 4 oM) (uO)) Z Z Z ?_;rotate_left;refine' DJ.ofVal (az.load1 tO Z Z Z Z Z Z (0) Z (fI)) Z Z Z ?_;rotate_left;(repeat refine' DD ?_);refine' vJ (h.mono aj) (i) (rfl) (af) (ed) ?_;rotate_left;(repeat refine' DD ?_);refine' DJ.ofVal (az.shl Z Z Z Z ((by rw[r4];omega))) Z Z Z ?_;rotate_left;(repeat refine' DD ?_);(refine DJ.nil (fun G2 ai fN=>?_);(case hS|hS2=>rfl));rw[r4,qU];rw[show IntKind.u32.wrap ((l.getD i 0:Nat):Int)=((l.getD i 0:Nat):Int) by rw[pn,qT (Nat.lt_trans hx (by decide))]];rw[show min (8*(k % 4)) IntKind.u32.bits=8*(k % 4) from qn (by show 8*(k % 4)<=32;omega)];have e1:(256:Nat) ^ (k % 4)=2 ^ (8*(k % 4)):=by rw[Nat.pow_mul]
  have e2:(256:Nat) ^ (k % 4+1)=2 ^ (8*(k % 4)+8):=by rw[show 8*(k % 4)+8=8*(k % 4+1) by omega,Nat.pow_mul]
  rw[e1]at bk Bd;rw[e2]at he
  have nF:IntKind.u32.wrap (((l.getD i 0:Nat):Int)*2 ^ (8*(k % 4)))=((l.getD i 0*2 ^ (8*(k % 4)):Nat):Int):=by
   rw[L5,<-Int.natCast_mul,pn,qT (Nat.lt_of_le_of_lt (Nat.le_add_left _ _) bk)]
  rw[nF];have V8:=Yo (e:=e) hx (by rw[<-he];exact bk);rw[<-he]at V8;rw[V8];refine EVL.idx0 tO Z Z Z Z Z Z Z Z Z Z (k / 4) (vD k 4 oM) (uO) ?_;refine EVL.set1 tO Z Z Z Z Z Z Z Z Z Z ((by rw[qV,cj];exact uO)) ?_;refine uR ?_;refine⟨i+1,⟨?_,trivial⟩,sB,trivial,trivial,?_,by omega,ai,by omega⟩
  ·rw[aO i (by omega)];rfl
  ·rw[dr,Bd,List.map_set]
 ·simp only[nN]at af;obtain rfl:i=l.length:=oM;refine uR ?_;(first|refine EVL.publish [] [] Z fun G2 ai hg=>?_|refine EV.publish [] [] Z fun G2 ai hg=>?_)
  have hv:val B32 (pk 4 256 (List.replicate (l.length-l.length) 0++(l.take l.length).reverse) m)=val 256 l.reverse:=by
   rw[DO,BT 4 256 (by decide) m _ (by simp;omega),Nat.sub_self,qa];rfl
  have ht:=we (yg (enc:=n32) hg (jv _ _ _ _)) (by rw[DO];exact Ow _) (by rw[jv];omega) hv;refine vA (ht) ?_;rintro r H' hr hle;refine uR ?_;exact hr
def sg (b:Bool) (n:Nat):Int:=if b then -(n:Int) else n
abbrev fj (z:Int):Value:=.agg #[.bool (decide (z<0)),.int .u64 (lo z.natAbs:Int),.string (aU z.natAbs)]
abbrev gv (z:Int):Prop:=big z.natAbs
theorem znu (n:Nat):(0<bl n)↔n≠0:=by
 constructor
 ·intro h e;subst e;rw[lX]at h;omega
 ·exact Ho
theorem QT (n:Nat):decide ((bl n:Int)>0)=decide (n≠0):=by rw[decide_eq_decide,<-znu];omega
theorem zqo (b:Bool) (n:Nat):(sg b n).natAbs=n:=by unfold sg;cases b <;> simp
theorem Rm (z:Int):sg (decide (z<0)) z.natAbs=z:=by
 unfold sg;by_cases h:z<0
 ·rw[qD h,if_pos rfl];omega
 ·rw[qC h,if_neg (by simp)];omega
theorem YO (b:Bool) (n:Nat):fj (sg b n)=.agg #[.bool (b && decide (n≠0)),.int .u64 (lo n:Int),.string (aU n)]:=by
 unfold sg;cases b
 ·simp
 ·have:(-(n:Int)).natAbs=n:=oM;simp only[if_true,fj,this,Bool.true_and];have e:decide (-(n:Int)<0)=decide (n≠0):=by by_cases h:n=0 <;> simp[h];omega
  rw[e]
theorem lZ (b:Bool) (n:Nat) (hn:big n):PV prog 81 #[.bool b,aH n] (fj (sg b n)):=by
 rw[YO];refine PV.of_pc ?_;refine BD func81 ntmps81 ?_;cases b
 ·try refine uR ?_
  (apply EV.drawn 8 kR kR;intro xv yw;(repeat (first|refine' DD ?_));refine DJ.nil (fun G hG hF=>?_);(case hS|hS2=>rfl));refine uR ?_;rfl
 ·try refine uR ?_
  (apply EV.drawn 8 kR kR;intro xv yw;(repeat (first|refine' DD ?_|(refine' DC (jP _ hn) (h:=?_);rotate_left)));refine DJ.nil (fun G hG hF=>?_);(case hS|hS2=>rfl));refine uR ?_;rw[QT];rfl
theorem Ef (z:Int):PV prog 115 #[fj z] (aH z.natAbs):=by
 refine PV.of_pc ?_;refine BD func115 ntmps115 ?_;refine uR ?_;rfl
theorem Mv (z:Int) (hz:gv z):PV prog 113 #[fj z] (fj (-z)):=by
 have e:sg (!decide (z<0)) z.natAbs = -z:=by
  unfold sg;by_cases h:z<0
  ·simp only[h,decide_true,Bool.not_true,Bool.false_eq_true,if_false];omega
  ·simp only[h,decide_false,Bool.not_false,if_true];omega
 have hf:=lZ (!decide (z<0)) z.natAbs hz;rw[e]at hf;refine PV.of_pc ?_;refine BD func113 ntmps113 ?_
 repeat (first|refine RUN ?_|refine CV (hf) ?_|refine CE (hf) ?_)
 rfl
theorem yD (z:Int) (hz:gv z):PV prog 52 #[fj z] (.int .i64 z.sign):=by
 refine PV.of_pc ?_;refine BD func52 ntmps52 ?_;refine uR ?_;by_cases h:z<0
 ·rw[qD h];refine uR ?_;rw[Int.sign_eq_neg_one_of_neg h]
 ·rw[qC h]
  repeat (first|refine RUN ?_|refine CV (jP _ hz) ?_|refine CE (jP _ hz) ?_)
  rw[QT];by_cases h0:z=0
  ·subst h0;rw[show decide ((0:Int).natAbs≠0)=false from rfl];refine uR ?_;rfl
  ·rw[show decide (z.natAbs≠0)=true by simp;omega];refine uR ?_;rw[Int.sign_eq_one_of_pos (by omega)]
theorem UA (a b:Int) (ha:gv a) (hb:gv b):PV prog 117 #[fj a,fj b] (.int .i64 (gL a b)):=by
 refine PV.of_pc ?_;refine BD func117 ntmps117 ?_;refine uR ?_;by_cases h:a<0
 ·rw[qD h];refine uR ?_;by_cases h':b<0
  ·rw[qD h']
   repeat (first|refine RUN ?_|refine CV (mg _ _ hb ha) ?_|refine CE (mg _ _ hb ha) ?_)
   have e:br b.natAbs a.natAbs=gL a b:=by unfold br gL;repeat' split <;> omega
   rw[e]
  ·rw[qC h'];refine uR ?_;rw[show gL a b = -1 by unfold gL;rw[if_pos (by omega)]]
 ·rw[qC h];refine uR ?_;by_cases h':b<0
  ·rw[qD h'];refine uR ?_;rw[show gL a b=1 by unfold gL;rw[if_neg oM,if_pos (by omega)]]
  ·rw[qC h']
   repeat (first|refine RUN ?_|refine CV (mg _ _ ha hb) ?_|refine CE (mg _ _ ha hb) ?_)
   have e:br a.natAbs b.natAbs=gL a b:=by unfold br gL;repeat' split <;> omega
   rw[e]
theorem IY (z:Int) (h1:-9223372036854775808<=z) (h2:z<9223372036854775808):PV prog 65 #[.int .i64 z] (fj z):=by
 refine PV.of_pc ?_;refine BD func65 ntmps65 ?_;refine uR ?_;have hn:z.natAbs<W64:=by rw[cH];omega
 by_cases h:z<0
 ·rw[qD h];refine uR ?_;rw[show IntKind.u64.wrap (0-IntKind.u64.wrap z)=(z.natAbs:Int) by rw[dz,dz];omega]
  repeat (first|refine RUN ?_|refine CV (yx z.natAbs hn) ?_|refine CE (yx z.natAbs hn) ?_)
  simp only[fj,qD h]
 ·rw[qC h];refine uR ?_;rw[show IntKind.u64.wrap z=(z.natAbs:Int) by rw[dz];omega]
  repeat (first|refine RUN ?_|refine CV (yx z.natAbs hn) ?_|refine CE (yx z.natAbs hn) ?_)
  simp only[fj,qC h]
def RI (H:Hp) (v:Value) (z:Int):Prop:=∃a l cap,v=.agg #[.bool (decide (z<0)),.slice a l cap]/\RN H (.slice a l cap) z.natAbs
theorem RI.mono {H G:Hp} {v:Value} {z:Int} (h:RI H v z) (k:H.Le G):RI G v z:=by
 obtain⟨a,l,c,e,hs⟩:=h;exact⟨a,l,c,e,SlN.mono hs k⟩
theorem RN.mono {H G:Hp} {v:Value} {n:Nat} (h:RN H v n) (k:H.Le G):RN G v n:=SlN.mono h k
theorem XN (b:Bool) (n:Nat):decide (sg b n<0)=(b && decide (n≠0)):=by
 unfold sg;cases b
 ·simp
 ·simp only[if_true,Bool.true_and,decide_eq_decide];omega
theorem RI.of {H:Hp} {s:Value} {b:Bool} {n:Nat} (h:RN H s n):RI H (.agg #[.bool (b && decide (n≠0)),s]) (sg b n):=by
 obtain⟨a,c,rfl⟩:=SlC.val h;exact⟨a,_,c,by rw[XN],by rw[zqo];exact h⟩
theorem ou {H:Hp} (b:Bool) {s:Value} {n:Nat} (h:RN H s n):PC prog 61 #[.bool b,s] H fun r H'=>RI H' r (sg b n):=by
 have eT:=RI.of (b:=b) h;have hz:(dig B32 n).length=0↔n=0:=⟨rO bN,fun e=>by rw[e,mH];rfl⟩;unfold RN at h;obtain⟨a,cap,rfl⟩:=SlC.val h;generalize (dig B32 n).length=l at *
 have hd:decide ((l:Int)>0)=decide (n≠0):=by rw[decide_eq_decide];omega
 refine BD func61 ntmps61 ?_;cases b
 ·try refine uR ?_
  exact eT
 ·try refine uR ?_
  rw[hd];exact eT
theorem Jg {H:Hp} {v:Value} {z:Int} (h:RI H v z):PC prog 96 #[v] H fun r _=>r=.int .i64 z.sign:=by
 obtain⟨sa,sl,sc,rfl,hs⟩:=h;have hz:(dig B32 z.natAbs).length=0↔z=0:=⟨fun e=>Int.natAbs_eq_zero.1 (rO bN e),fun e=>by rw[e,Int.natAbs_zero,mH];rfl⟩;unfold RN at hs;obtain⟨a,cap,e⟩:=SlC.val hs;cases e;generalize (dig B32 z.natAbs).length=l at *
 refine BD func96 ntmps96 ?_;refine uR ?_;by_cases h0:z=0
 ·subst h0;rw[show ((l:Int) == 0)=true by simp;exact hz.2 rfl];refine uR ?_;rfl
 ·rw[show ((l:Int) == 0)=false by simp;exact fun e=>h0 (hz.1 e)];by_cases hn:z<0
  ·rw[qD hn];refine uR ?_;rw[Int.sign_eq_neg_one_of_neg hn]
  ·rw[qC hn];refine uR ?_;rw[Int.sign_eq_one_of_pos (by omega)]
theorem U9 {H:Hp} {v:Value} {z:Int} (h:RI H v z):PC prog 139 #[v] H fun r H'=>RI H' r (-z):=by
 obtain⟨sa,sl,sc,rfl,hs⟩:=h;have hi:=ou (!(decide (z<0))) hs;rw[show sg (!(decide (z<0))) z.natAbs = -z by unfold sg;by_cases hz:z<0 <;> simp[hz] <;> omega]at hi;refine BD func139 ntmps139 ?_;refine uR ?_;refine vA (hi) ?_;rintro r G ⟨ta,tl,tc,rfl,ht⟩ hG;refine uR ?_;exact⟨ta,tl,tc,rfl,ht⟩
theorem MC {H:Hp} (z:Int) (h1:-9223372036854775808<=z) (h2:z<9223372036854775808):PC prog 26 #[.int .i64 z] H fun r H'=>RI H' r z:=by
 refine BD func26 ntmps26 ?_;refine uR ?_;by_cases hz:z<0
 ·rw[qD hz];refine uR ?_;rw[show IntKind.u64.wrap (0-IntKind.u64.wrap z)=((z.natAbs:Nat):Int) by rw[dz,dz];omega];refine vA (I8 z.natAbs (by rw[cH];omega) H) ?_;rintro r G hr hG;refine uR ?_;refine vA (ou true hr) ?_;rintro r2 G2 ⟨ta,tl,tc,rfl,ht⟩ ai;refine uR ?_;refine⟨ta,tl,tc,?_,?_⟩
  ·rw[show sg true z.natAbs=z by unfold sg;simp;omega]
  ·rw[show sg true z.natAbs=z by unfold sg;simp;omega]at ht;exact ht
 ·rw[qC hz];refine uR ?_;rw[show IntKind.u64.wrap z=((z.natAbs:Nat):Int) by rw[dz];omega];refine vA (I8 z.natAbs (by rw[cH];omega) H) ?_;rintro r G hr hG;refine uR ?_;refine vA (ou false hr) ?_;rintro r2 G2 ⟨ta,tl,tc,rfl,ht⟩ ai;refine uR ?_;refine⟨ta,tl,tc,?_,?_⟩
  ·rw[show sg false z.natAbs=z by unfold sg;simp;omega]
  ·rw[show sg false z.natAbs=z by unfold sg;simp;omega]at ht;exact ht
theorem K4 (a:Int) (n:Nat):sg (decide (a<0)) n=if a<0 then -(n:Int) else n:=by unfold sg;simp
theorem Va {H:Hp} {u v:Value} {a b:Int} (hu:RI H u a) (hv:RI H v b) (ha:rsm a.natAbs) (hb:rsm b.natAbs):PC prog 138 #[u,v] H fun r H'=>RI H' r (a+b):=by
 obtain⟨sa,sl,sc,rfl,hs⟩:=hu;obtain⟨ta,tl,tc,rfl,ht⟩:=hv;have la:=ha.len;have lb:=hb.len
 have Bo:∀G,H.Le G->PC prog 178 #[.slice sa sl sc,.slice ta tl tc] G fun r H'=>RN H' r (a.natAbs+b.natAbs):=fun G hG=>by
  have:=zoe (SlN.mono hs hG) (SlN.mono ht hG) (yA _) (yA _) oM oM
  rwa [cW bN,cW bN]at this
 have bC:∀G,H.Le G->b.natAbs<=a.natAbs->PC prog 179 #[.slice sa sl sc,.slice ta tl tc] G fun r H'=>RN H' r (a.natAbs-b.natAbs):=fun G hG hle=>by
  have:=TZ (SlN.mono hs hG) (SlN.mono ht hG) (yA _) (eo bN _) oM oM (by rw[cW bN,cW bN];exact hle)
  rwa [cW bN,cW bN]at this
 have tj:∀G,H.Le G->a.natAbs<=b.natAbs->PC prog 179 #[.slice ta tl tc,.slice sa sl sc] G fun r H'=>RN H' r (b.natAbs-a.natAbs):=fun G hG hle=>by
  have:=TZ (SlN.mono ht hG) (SlN.mono hs hG) (yA _) (eo bN _) oM oM (by rw[cW bN,cW bN];exact hle)
  rwa [cW bN,cW bN]at this
 have aS:=Ej hs ht (eo bN _) (eo bN _) oM;rw[cW bN,cW bN]at aS
 have OS:a+b=sg (decide (a<0)) (a.natAbs+b.natAbs)\/decide (a<0)≠decide (b<0):=by
  rw[K4];by_cases h1:a<0 <;> by_cases h2:b<0 <;> simp[h1,h2] <;> omega
 have iz:decide (a<0)≠decide (b<0)->b.natAbs<=a.natAbs->a+b=sg (decide (a<0)) (a.natAbs-b.natAbs):=by
  rw[K4];by_cases h1:a<0 <;> by_cases h2:b<0 <;> simp[h1,h2] <;> omega
 have oP:decide (a<0)≠decide (b<0)->a.natAbs<=b.natAbs->a+b=sg (decide (b<0)) (b.natAbs-a.natAbs):=by
  rw[K4];by_cases h1:a<0 <;> by_cases h2:b<0 <;> simp[h1,h2] <;> omega
 generalize decide (a<0)=na at *
 generalize decide (b<0)=nb at *
 generalize a.natAbs=x at *
 generalize b.natAbs=y at *
 refine BD func138 ntmps138 ?_;refine uR ?_;refine EVL.eqb Z Z Z Z Z Z kR ?_;refine uR ?_;by_cases he:na=nb
 ·rw[show (na == nb)=true by simp[he]];have bk:=OS.resolve_right (fun h=>h he);rw[bk];refine uR ?_;apply EV.drawn 8 kR kR;intro xv yw;(repeat refine' DD ?_);refine' vB (cO func178) (fun G hG hd=>Bo G hG) (fun _ _ _ h k=>SlN.mono h k) ?_;rotate_left;(repeat refine' DD ?_);refine' vB (cO func61) (fun G hG hd=>ou na (hd.head kR)) (fun _ _ _ h k=>RI.mono h k) ?_;rotate_left;(refine DJ.nil (fun G hG hF=>?_);(case hS|hS2=>rfl));obtain⟨⟨ra,rl,rc,dQ,bM⟩,_⟩:=hF;rw[dQ];refine uR ?_;exact⟨ra,rl,rc,rfl,bM⟩
 ·repeat (first|refine RUN ?_|refine CV (aS) ?_|refine CE (aS) ?_)
  rw[show (na == nb)=false by simpa using he]
  repeat (first|refine RUN ?_|refine CV (aS) ?_|refine CE (aS) ?_)
  by_cases af:x<y
  ·rw[show decide (br x y>=0)=false by rw[pT af];rfl,oP he (by omega)];refine uR ?_;apply EV.drawn 8 kR kR;intro xv yw;(repeat refine' DD ?_);refine' vB (cO func179) (fun G hG hd=>tj G hG oM) (fun _ _ _ h k=>SlN.mono h k) ?_;rotate_left;(repeat refine' DD ?_);refine' vB (cO func61) (fun G hG hd=>ou nb (hd.head kR)) (fun _ _ _ h k=>RI.mono h k) ?_;rotate_left;(refine DJ.nil (fun G hG hF=>?_);(case hS|hS2=>rfl));obtain⟨⟨ra,rl,rc,dQ,bM⟩,_⟩:=hF;rw[dQ];refine uR ?_;exact⟨ra,rl,rc,rfl,bM⟩
  ·rw[show decide (br x y>=0)=true by unfold br;rw[if_neg af];split <;> rfl,iz he (by omega)];refine uR ?_;apply EV.drawn 8 kR kR;intro xv yw;(repeat refine' DD ?_);refine' vB (cO func179) (fun G hG hd=>bC G hG oM) (fun _ _ _ h k=>SlN.mono h k) ?_;rotate_left;(repeat refine' DD ?_);refine' vB (cO func61) (fun G hG hd=>ou na (hd.head kR)) (fun _ _ _ h k=>RI.mono h k) ?_;rotate_left;(refine DJ.nil (fun G hG hF=>?_);(case hS|hS2=>rfl));obtain⟨⟨ra,rl,rc,dQ,bM⟩,_⟩:=hF;rw[dQ];refine uR ?_;exact⟨ra,rl,rc,rfl,bM⟩
theorem Rl (a b:Int):sg (!(decide (a<0) == decide (b<0))) (a.natAbs*b.natAbs)=a*b:=by
 rw[<-Int.natAbs_mul];unfold sg;by_cases ha:a<0 <;> by_cases hb:b<0
 ·have:=Int.mul_pos_of_neg_of_neg ha hb;simp[ha,hb];omega
 ·have:=Int.mul_nonpos_of_nonpos_of_nonneg (Int.le_of_lt ha) (Int.not_lt.1 hb);simp[ha,hb];omega
 ·have:=Int.mul_nonpos_of_nonneg_of_nonpos (Int.not_lt.1 ha) (Int.le_of_lt hb);simp[ha,hb];omega
 ·have:=Int.mul_nonneg (Int.not_lt.1 ha) (Int.not_lt.1 hb);simp[ha,hb];omega
theorem Uz (a b:Int) (ha:gv a) (hb:gv b) (cQ:gv (a*b)):PV prog 79 #[fj a,fj b] (fj (a*b)):=by
 have hf:=lZ (!(decide (a<0) == decide (b<0))) (a.natAbs*b.natAbs) (by rw[<-Int.natAbs_mul];exact cQ);rw[Rl]at hf;refine PV.of_pc ?_;refine BD func79 ntmps79 ?_;refine uR ?_;apply EV.drawn 10 kR kR;intro xv yw;(repeat refine' DD ?_);refine' DJ.ofVal (az.neb Z Z Z Z kR) Z Z Z ?_;rotate_left;(repeat (first|refine' DD ?_|(refine' DC (L9 _ _ ha hb) (h:=?_);rotate_left)));(refine DJ.nil (fun G hG hF=>?_);(case hS|hS2=>rfl))
 repeat (first|refine RUN ?_|refine CV (hf) ?_|refine CE (hf) ?_)
 rfl
theorem UB (a b:Int) (ha:gv a) (hb:gv b) (hs:big (a.natAbs+b.natAbs)):PV prog 122 #[fj a,fj b] (fj (a+b)):=by
 have hm:big (a.natAbs-b.natAbs):=qI (ik (Nat.sub_le _ _)) ha;have lz:big (b.natAbs-a.natAbs):=qI (ik (Nat.sub_le _ _)) hb;have f1:=lZ (decide (a<0)) _ hs;have f2:=lZ (decide (a<0)) _ hm;have f3:=lZ (decide (b<0)) _ lz;refine PV.of_pc ?_;refine BD func122 ntmps122 ?_;refine uR ?_;refine EVL.eqb Z Z Z Z Z Z kR ?_;refine uR ?_;by_cases h:decide (a<0)=decide (b<0)
 ·have e:sg (decide (a<0)) (a.natAbs+b.natAbs)=a+b:=by
   rw[decide_eq_decide]at h;unfold sg;by_cases ha:a<0 <;> simp[ha] <;> omega
  rw[e]at f1;rw[beq_iff_eq.2 h];refine uR ?_;apply EV.drawn 8 kR kR;intro xv yw;(repeat (first|refine' DD ?_|(refine' DC (zpE _ _ ha hb) (h:=?_);rotate_left)|(refine' DC (f1) (h:=?_);rotate_left)));(refine DJ.nil (fun G hG hF=>?_);(case hS|hS2=>rfl));refine uR ?_;rfl
 ·rw[pQ.2 h];rw[decide_eq_decide]at h
  repeat (first|refine RUN ?_|refine CV (IQ _ _ ha hb) ?_|refine CE (IQ _ _ ha hb) ?_)
  by_cases hle:b.natAbs<=a.natAbs
  ·have e:sg (decide (a<0)) (a.natAbs-b.natAbs)=a+b:=by
    unfold sg;by_cases ha:a<0 <;> simp[ha] <;> omega
   rw[e]at f2;rw[qD hle]
   repeat (first|refine RUN ?_|refine CV (f2) ?_|refine CE (f2) ?_)
   rfl
  ·have e:sg (decide (b<0)) (b.natAbs-a.natAbs)=a+b:=by
    unfold sg;by_cases ha:b<0 <;> simp[ha] <;> omega
   rw[e]at f3;rw[qC hle]
   repeat (first|refine RUN ?_|refine CV (IQ _ _ hb ha) ?_|refine CV (f3) ?_|refine CE (IQ _ _ hb ha) ?_|refine CE (f3) ?_)
   rfl
theorem Y2 {a:Int} (h:rsm a.natAbs):rsm (-a).natAbs:=by rwa [Int.natAbs_neg]
theorem zkF {H:Hp} {u v:Value} {a b:Int} (hu:RI H u a) (hv:RI H v b) (ha:rsm a.natAbs) (hb:rsm b.natAbs):PC prog 148 #[u,v] H fun r H'=>RI H' r (a-b):=by
 obtain⟨sa,sl,sc,rfl,hs⟩:=id hu;obtain⟨ta,tl,tc,rfl,ht⟩:=id hv;refine BD func148 ntmps148 ?_;refine uR ?_;apply EV.drawn 4 kR kR;intro xv yw;(repeat refine' DD ?_);refine' vB (cO func139) (fun G hG hd=>U9 (hv.mono hG)) (fun _ _ _ h k=>RI.mono h k) ?_;rotate_left;refine' vB (cO func138) (fun G hG hd=>Va (hu.mono hG) (hd.head kR) ha (Y2 hb)) (fun _ _ _ h k=>RI.mono h k) ?_;rotate_left;(refine DJ.nil (fun G hG hF=>?_);(case hS|hS2=>rfl));obtain⟨⟨ra,rl,rc,dQ,bM⟩,_⟩:=hF;rw[dQ];refine uR ?_;rw[<-Int.sub_eq_add_neg]at *
 exact⟨ra,rl,rc,rfl,bM⟩
theorem LL {H:Hp} {u v:Value} {a b:Nat} (hu:RN H u a) (hv:RN H v b) (ha:rsm a) (hb:rsm b):PC prog 62 #[u,v] H fun r H'=>RN H' r (a*b):=by
 have la:=ha.len;have lb:=hb.len;have:=zok hu hv (yA _) (yA _) oM oM
 rwa [cW bN,cW bN]at this
theorem zX {H:Hp} {u v:Value} {a b:Int} (hu:RI H u a) (hv:RI H v b) (ha:rsm a.natAbs) (hb:rsm b.natAbs):PC prog 24 #[u,v] H fun r H'=>RI H' r (a*b):=by
 obtain⟨sa,sl,sc,rfl,hs⟩:=id hu;obtain⟨ta,tl,tc,rfl,ht⟩:=id hv;refine BD func24 ntmps24 ?_;refine uR ?_;apply EV.drawn 11 kR kR;intro xv yw;(repeat refine' DD ?_);refine' DJ.ofVal (az.neb Z Z Z Z kR) Z Z Z ?_;rotate_left;(repeat refine' DD ?_);refine' vB (cO func62) (fun G hG hd=>LL (RN.mono hs hG) (RN.mono ht hG) ha hb) (fun _ _ _ h k=>SlN.mono h k) ?_;rotate_left;refine' vB (cO func61) (fun G hG hd=>ou (!(decide (a<0) == decide (b<0))) (hd.head kR)) (fun _ _ _ h k=>RI.mono h k) ?_;rotate_left;(refine DJ.nil (fun G hG hF=>?_);(case hS|hS2=>rfl));obtain⟨⟨ra,rl,rc,dQ,bM⟩,_⟩:=hF;rw[Rl]at dQ bM;rw[dQ];refine uR ?_;exact⟨ra,rl,rc,rfl,bM⟩
theorem zkE {H:Hp} {u v:Value} {a b:Int} (hu:RI H u a) (hv:RI H v b) (ha:rsm a.natAbs) (hb:rsm b.natAbs):PC prog 100 #[u,v] H fun r _=>r=.int .i64 (gL a b):=by
 obtain⟨sa,sl,sc,rfl,hs⟩:=id hu;obtain⟨ta,tl,tc,rfl,ht⟩:=id hv;refine BD func100 ntmps100 ?_;refine uR ?_;refine vA (zkF hu hv ha hb) ?_;rintro r G hr hG
 repeat (first|refine RUN ?_|refine CV (Jg hr) ?_|refine CE (Jg hr) ?_)
 congr 1;unfold gL;rcases Int.lt_trichotomy a b with h | h | h
 ·rw[if_pos h,Int.sign_eq_neg_one_of_neg (by omega)]
 ·rw[if_neg oM,if_neg oM,show a-b=0 by omega];rfl
 ·rw[if_neg oM,if_pos h,Int.sign_eq_one_of_pos (by omega)]
def RQ (H:Hp) (v:Value) (q:Rat):Prop:=∃a l c a' l' c',v=.agg #[.bool (decide (q.num<0)),.slice a l c,.slice a' l' c']/\RN H (.slice a l c) q.num.natAbs/\RN H (.slice a' l' c') q.den
theorem RQ.mono {H G:Hp} {v:Value} {q:Rat} (h:RQ H v q) (k:H.Le G):RQ G v q:=by
 obtain⟨a,l,c,a',l',c',e,h1,h2⟩:=h;exact⟨a,l,c,a',l',c',e,RN.mono h1 k,RN.mono h2 k⟩
def rq (q:Rat):Prop:=ht q<=100000000
theorem rq.num {q:Rat} (h:rq q):rsm q.num.natAbs:=qI (um q) (qI h oM)
theorem rq.den {q:Rat} (h:rq q):rsm q.den:=qI (oA q) (qI h oM)
theorem TT (n d:Int) (h:d≠0):Rat.divInt n d=mkRat (if d<0 then -n else n) d.natAbs:=by
 cases d with
 | ofNat m =>
  rw[if_neg (show ¬Int.ofNat m<0 from Int.not_lt.2 (Int.natCast_nonneg m))];rfl
 | negSucc m =>
  rw[if_pos (by omega)];show Rat.normalize (-n) (m+1) (Nat.succ_ne_zero m)=_;rw[Rat.normalize_eq_mkRat];rfl
theorem YG (n d:Int) (h:d≠0):(Rat.divInt n d).num=sg (!(decide (n<0) == decide (d<0))) (n.natAbs / Nat.gcd n.natAbs d.natAbs)/\(Rat.divInt n d).den=d.natAbs / Nat.gcd n.natAbs d.natAbs:=by
 rw[TT n d h];obtain⟨h1,h2⟩:=Jc (if d<0 then -n else n) d.natAbs oM;have e:(if d<0 then -n else n).natAbs=n.natAbs:=by split <;> simp
 rw[e]at h1 h2;refine⟨?_,h2⟩;rw[h1,RO _ _ (by rw[e];exact Nat.gcd_dvd_left _ _),e];unfold sg;rcases Int.lt_trichotomy n 0 with hn | hn | hn
 ·by_cases hd:d<0
  ·rw[if_pos hd,if_neg oM,qD hn,qD hd];rfl
  ·rw[if_neg hd,if_pos hn,qD hn,qC hd];rfl
 ·subst hn;by_cases hd:d<0 <;> simp[hd]
 ·by_cases hd:d<0
  ·rw[if_pos hd,if_pos oM,qC oM,qD hd];rfl
  ·rw[if_neg hd,if_neg oM,qC oM,qC hd];rfl
theorem I0 {H:Hp} {u v:Value} {n d:Int} (hu:RI H u n) (hv:RI H v d) (hn:rsm n.natAbs) (hd:rsm d.natAbs) (h0:d≠0):PC prog 23 #[u,v] H fun r H'=>RQ H' r (Rat.divInt n d):=by
 obtain⟨sa,sl,sc,rfl,hs⟩:=id hu;obtain⟨ta,tl,tc,rfl,ht⟩:=id hv;obtain⟨e1,e2⟩:=YG n d h0;have hg:Nat.gcd n.natAbs d.natAbs≠0:=fun e=>h0 (by have:=Nat.eq_zero_of_gcd_eq_zero_right e;omega);have gm:rsm (Nat.gcd n.natAbs d.natAbs):=hd.le (Nat.gcd_le_right _ oM);refine BD func23 ntmps23 ?_;refine uR ?_;refine vA (zp4 hs ht hn hd) ?_;rintro g G1 km aj;generalize Nat.gcd n.natAbs d.natAbs=gg at *
 refine uR ?_;refine vA (LM (RN.mono hs aj) km hn gm hg) ?_;rintro r G2 ⟨x,y,rfl,hx,hy⟩ ai;refine uR ?_;refine vA (LM (RN.mono ht (aj.trans ai)) (RN.mono km ai) hd gm hg) ?_;rintro r G3 ⟨x',y',rfl,hx',jW⟩ ax;refine uR ?_;refine EVL.neb Z Z Z Z Z Z kR ?_;refine uR ?_;refine vA (ou (!(decide (n<0) == decide (d<0))) (RN.mono hx ax)) ?_;rintro r G4 ⟨ra,rl,rc,rfl,hr⟩ aT;obtain⟨xa,xc,rfl⟩:=SlC.val hx';refine uR ?_;rw[<-e1]at *
 rw[<-e2]at *
 exact⟨ra,rl,rc,xa,_,xc,rfl,hr,RN.mono hx' aT⟩
theorem ju {H:Hp} (z:Int) (h1:-9223372036854775808<=z) (h2:z<9223372036854775808):PC prog 8 #[.int .i64 z] H fun r H'=>RQ H' r (z:Rat):=by
 refine BD func8 ntmps8 ?_;refine uR ?_;refine vA (MC z h1 h2) ?_;rintro r G ⟨ra,rl,rc,rfl,hr⟩ hG;refine uR ?_;refine vA (I8 1 (by decide) G) ?_;rintro s G2 hs ai;obtain⟨xa,xc,rfl⟩:=SlC.val hs;refine uR ?_;exact⟨ra,rl,rc,xa,_,xc,rfl,RN.mono hr ai,hs⟩
theorem Cp {H:Hp} (n d:Int) (h1:-9223372036854775808<=n) (h2:n<9223372036854775808) (h3:-9223372036854775808<=d) (h4:d<9223372036854775808) (h0:d≠0):PC prog 19 #[.int .i64 n,.int .i64 d] H fun r H'=>RQ H' r (Rat.divInt n d):=by
 have hb:∀z:Int,-9223372036854775808<=z->z<9223372036854775808->rsm z.natAbs:=fun z h1 h2=>qI (cf (k:=64) oM) oM;refine BD func19 ntmps19 ?_;refine uR ?_;refine vA (MC n h1 h2) ?_;rintro r G hr hG;refine uR ?_;refine vA (MC d h3 h4) ?_;rintro s G2 hs ai;refine uR ?_;refine vA (I0 (hr.mono ai) hs (hb n h1 h2) (hb d h3 h4) h0) ?_;rintro t G3 ⟨ra,rl,rc,xa,xl,xc,rfl,hn,hd⟩ ax;refine uR ?_;exact⟨ra,rl,rc,xa,xl,xc,rfl,hn,hd⟩
theorem Cs {H:Hp} {v:Value} {q:Rat} (h:RQ H v q):PC prog 25 #[v] H fun r H'=>RI H' r (q.den:Int):=by
 obtain⟨ra,rl,rc,xa,xl,xc,rfl,hn,hd⟩:=h;have hi:=ou false hd;rw[show sg false q.den=(q.den:Int) from rfl]at hi;refine BD func25 ntmps25 ?_;refine uR ?_;refine vA (hi) ?_;rintro r G ⟨ra,rl,rc,rfl,hr⟩ hG;refine uR ?_;exact⟨ra,rl,rc,rfl,hr⟩
theorem RQ.rnum {H:Hp} {a:Option Addr} {l c:Nat} {q:Rat} (h:RN H (.slice a l c) q.num.natAbs):RI H (.agg #[.bool (decide (q.num<0)),.slice a l c]) q.num:=⟨a,l,c,rfl,h⟩
theorem zhT (a b:Rat):Rat.divInt (a.num*(b.den:Int)+b.num*(a.den:Int)) ((a.den*b.den:Nat):Int)=a+b:=by
 rw[Rat.add_def'];rfl
theorem BS {a b:Rat} (ha:rq a) (hb:rq b):rsm (a.num*(b.den:Int)).natAbs:=by
 rw[Int.natAbs_mul,Int.natAbs_natCast];refine qI (gQ _ _) ?_;have:=um a;have:=oA b;unfold rq at *;omega
theorem Rv {a b:Rat} (ha:rq a) (hb:rq b):bl (a.num*(b.den:Int)).natAbs<=200000000:=by
 rw[Int.natAbs_mul,Int.natAbs_natCast];refine qI (gQ _ _) ?_;have:=um a;have:=oA b;unfold rq at *;omega
theorem Ct {H:Hp} {u v:Value} {a b:Rat} (hu:RQ H u a) (hv:RQ H v b) (ha:rq a) (hb:rq b):PC prog 92 #[u,v] H fun r H'=>RQ H' r (a+b):=by
 obtain⟨sa,sl,sc,ta,tl,tc,rfl,hs,ht⟩:=id hu;obtain⟨Ew,Eu,Ev,Et,Ep,Er,rfl,fZ,aM⟩:=id hv
 have hdd:rsm (a.den*b.den):=by
  have:=oA a;have:=oA b;have:=gQ a.den b.den;unfold rq at ha hb;unfold rsm;omega
 have bk:rsm (a.num*(b.den:Int)+b.num*(a.den:Int)).natAbs:=by
  have:=MI (a.num*(b.den:Int)) (b.num*(a.den:Int));have:=Rv ha hb;have:=Rv hb ha;unfold rsm;omega
 have hne:((a.den*b.den:Nat):Int)≠0:=by have:=Nat.mul_ne_zero a.den_nz b.den_nz;omega
 have AJ:=zhT a b;refine BD func92 ntmps92 ?_;refine uR ?_;apply EV.drawn 18 kR kR;intro xv yw;(repeat refine' DD ?_);refine' vB (cO func25) (fun G hG hd=>Cs (hv.mono hG)) (fun _ _ _ h k=>RI.mono h k) ?_;rotate_left;refine' vB (cO func24) (fun G hG hd=>zX (RQ.rnum (RN.mono hs hG)) (hd.head kR) ha.num hb.den) (fun _ _ _ h k=>RI.mono h k) ?_;rotate_left;(repeat refine' DD ?_);refine' vB (cO func25) (fun G hG hd=>Cs (hu.mono hG)) (fun _ _ _ h k=>RI.mono h k) ?_;rotate_left;refine' vB (cO func24) (fun G hG hd=>zX (RQ.rnum (RN.mono fZ hG)) (hd.head kR) hb.num ha.den) (fun _ _ _ h k=>RI.mono h k) ?_;rotate_left;refine' vB (cO func138) (fun G hG hd=>Va (hd.tail.tail.head kR) (hd.head kR) (BS ha hb) (BS hb ha)) (fun _ _ _ h k=>RI.mono h k) ?_;rotate_left;(repeat refine' DD ?_);refine' vB (cO func62) (fun G hG hd=>LL (RN.mono ht hG) (RN.mono aM hG) ha.den hb.den) (fun _ _ _ h k=>RN.mono h k) ?_;rotate_left;refine' vB (cO func61) (fun G hG hd=>ou false (hd.head kR)) (fun _ _ _ h k=>RI.mono h k) ?_;rotate_left;refine' vB (cO func23) (fun G hG hd=>I0 (hd.tail.tail.head kR) (hd.head kR) bk hdd hne) (fun _ _ _ h k=>RQ.mono h k) ?_;rotate_left;(refine DJ.nil (fun G hG hF=>?_);(case hS|hS2=>rfl));obtain⟨⟨ra,rl,rc,xa,xl,xc,hr,h1,h2⟩,_⟩:=hF;rw[hr];refine uR ?_;rw[<-AJ];exact⟨ra,rl,rc,xa,xl,xc,rfl,h1,h2⟩
theorem zp5 {H:Hp} {u:Value} {a:Rat} (hu:RQ H u a):PC prog 93 #[u] H fun r H'=>RQ H' r (-a):=by
 obtain⟨sa,sl,sc,ta,tl,tc,rfl,hs,ht⟩:=id hu;refine BD func93 ntmps93 ?_;refine uR ?_;apply EV.drawn 5 kR kR;intro xv yw;(repeat refine' DD ?_);refine' vB (cO func139) (fun G hG hd=>U9 (RQ.rnum (RN.mono hs hG))) (fun _ _ _ h k=>RI.mono h k) ?_;rotate_left;(repeat refine' DD ?_);(refine DJ.nil (fun G hG hF=>?_);(case hS|hS2=>rfl));obtain⟨⟨ra,rl,rc,hr,h1⟩,_⟩:=hF;rw[hr];refine uR ?_;exact⟨ra,rl,rc,ta,tl,tc,by rw[Rat.neg_num],by rw[Rat.neg_num];exact h1,by rw[Rat.neg_den];exact RN.mono ht hG⟩
theorem zp3 {H:Hp} {u:Value} {a:Rat} (hu:RQ H u a):PC prog 58 #[u] H fun r H'=>RQ H' r (if a.num<0 then -a else a):=by
 obtain⟨sa,sl,sc,ta,tl,tc,rfl,hs,ht⟩:=id hu
 have e:sg false a.num.natAbs=(if a.num<0 then -a else a).num:=by
  show ((a.num.natAbs:Nat):Int)=_;split
  ·rw[Rat.neg_num];omega
  ·omega
 have e2:(if a.num<0 then -a else a).den=a.den:=by split <;> simp
 refine BD func58 ntmps58 ?_;refine uR ?_;apply EV.drawn 6 kR kR;intro xv yw;(repeat refine' DD ?_);refine' vB (cO func61) (fun G hG hd=>ou false (RN.mono hs hG)) (fun _ _ _ h k=>RI.mono h k) ?_;rotate_left;(repeat refine' DD ?_);(refine DJ.nil (fun G hG hF=>?_);(case hS|hS2=>rfl));obtain⟨⟨ra,rl,rc,hr,h1⟩,_⟩:=hF;rw[hr];refine uR ?_;rw[e]at *
 exact⟨ra,rl,rc,ta,tl,tc,rfl,h1,by rw[e2];exact RN.mono ht hG⟩
theorem Yj {a:Rat} (h:rq a):rq (-a):=by unfold rq;rw[KH];exact h
theorem D8 {H:Hp} {u v:Value} {a b:Rat} (hu:RQ H u a) (hv:RQ H v b) (ha:rq a) (hb:rq b):PC prog 46 #[u,v] H fun r H'=>RQ H' r (a-b):=by
 obtain⟨sa,sl,sc,ta,tl,tc,rfl,hs,ht⟩:=id hu;obtain⟨Ew,Eu,Ev,Et,Ep,Er,rfl,fZ,aM⟩:=id hv;refine BD func46 ntmps46 ?_;refine uR ?_;apply EV.drawn 4 kR kR;intro xv yw;(repeat refine' DD ?_);refine' vB (cO func93) (fun G hG hd=>zp5 (hv.mono hG)) (fun _ _ _ h k=>RQ.mono h k) ?_;rotate_left;refine' vB (cO func92) (fun G hG hd=>Ct (hu.mono hG) (hd.head kR) ha (Yj hb)) (fun _ _ _ h k=>RQ.mono h k) ?_;rotate_left;(refine DJ.nil (fun G hG hF=>?_);(case hS|hS2=>rfl));obtain⟨⟨ra,rl,rc,xa,xl,xc,hr,h1,h2⟩,_⟩:=hF;rw[hr];refine uR ?_;rw[Rat.sub_eq_add_neg];exact⟨ra,rl,rc,xa,xl,xc,rfl,h1,h2⟩
theorem XP {a b:Rat} (ha:rq a) (hb:rq b):rsm (a.den*b.den):=by
 have:=oA a;have:=oA b;have:=gQ a.den b.den;unfold rq at ha hb;unfold rsm;omega
theorem XO {a b:Rat} (ha:rq a) (hb:rq b):rsm (a.num*b.num).natAbs:=by
 rw[Int.natAbs_mul];have:=um a;have:=um b;have:=gQ a.num.natAbs b.num.natAbs;unfold rq at ha hb;unfold rsm;omega
theorem Yr (a b:Rat):((a.den*b.den:Nat):Int)≠0:=by have:=Nat.mul_ne_zero a.den_nz b.den_nz;omega
theorem Mk {H:Hp} {u v:Value} {a b:Rat} (hu:RQ H u a) (hv:RQ H v b) (ha:rq a) (hb:rq b):PC prog 94 #[u,v] H fun r H'=>RQ H' r (a*b):=by
 obtain⟨sa,sl,sc,ta,tl,tc,rfl,hs,ht⟩:=id hu;obtain⟨Ew,Eu,Ev,Et,Ep,Er,rfl,fZ,aM⟩:=id hv;have AJ:Rat.divInt (a.num*b.num) ((a.den*b.den:Nat):Int)=a*b:=by rw[Rat.mul_def'];rfl
 refine BD func94 ntmps94 ?_;refine uR ?_;apply EV.drawn 12 kR kR;intro xv yw;(repeat refine' DD ?_);refine' vB (cO func24) (fun G hG hd=>zX (RQ.rnum (RN.mono hs hG)) (RQ.rnum (RN.mono fZ hG)) ha.num hb.num) (fun _ _ _ h k=>RI.mono h k) ?_;rotate_left;(repeat refine' DD ?_);refine' vB (cO func62) (fun G hG hd=>LL (RN.mono ht hG) (RN.mono aM hG) ha.den hb.den) (fun _ _ _ h k=>RN.mono h k) ?_;rotate_left;refine' vB (cO func61) (fun G hG hd=>ou false (hd.head kR)) (fun _ _ _ h k=>RI.mono h k) ?_;rotate_left;refine' vB (cO func23) (fun G hG hd=>I0 (hd.tail.tail.head kR) (hd.head kR) (XO ha hb) (XP ha hb) (Yr a b)) (fun _ _ _ h k=>RQ.mono h k) ?_;rotate_left;(refine DJ.nil (fun G hG hF=>?_);(case hS|hS2=>rfl));obtain⟨⟨ra,rl,rc,xa,xl,xc,hr,h1,h2⟩,_⟩:=hF;rw[hr];refine uR ?_;rw[<-AJ];exact⟨ra,rl,rc,xa,xl,xc,rfl,h1,h2⟩
theorem zhU (a b:Rat):Rat.divInt (a.num*(b.den:Int)) ((a.den:Int)*b.num)=a / b:=by
 rw[<-Rat.divInt_mul_divInt,Rat.num_divInt_den,Rat.div_def,Rat.inv_def]
theorem Jb {H:Hp} {u v:Value} {a b:Rat} (hu:RQ H u a) (hv:RQ H v b) (ha:rq a) (hb:rq b) (h0:b.num≠0):PC prog 7 #[u,v] H fun r H'=>RQ H' r (a / b):=by
 obtain⟨sa,sl,sc,ta,tl,tc,rfl,hs,ht⟩:=id hu;obtain⟨Ew,Eu,Ev,Et,Ep,Er,rfl,fZ,aM⟩:=id hv;have hne:(a.den:Int)*b.num≠0:=Int.mul_ne_zero (by have:=a.den_nz;omega) h0;have kJ:rsm ((a.den:Int)*b.num).natAbs:=by rw[Int.mul_comm];exact BS hb ha
 refine BD func7 ntmps7 ?_;refine uR ?_;apply EV.drawn 11 kR kR;intro xv yw;(repeat refine' DD ?_);refine' vB (cO func25) (fun G hG hd=>Cs (hv.mono hG)) (fun _ _ _ h k=>RI.mono h k) ?_;rotate_left;refine' vB (cO func24) (fun G hG hd=>zX (RQ.rnum (RN.mono hs hG)) (hd.head kR) ha.num hb.den) (fun _ _ _ h k=>RI.mono h k) ?_;rotate_left;(repeat refine' DD ?_);refine' vB (cO func25) (fun G hG hd=>Cs (hu.mono hG)) (fun _ _ _ h k=>RI.mono h k) ?_;rotate_left;(repeat refine' DD ?_);refine' vB (cO func24) (fun G hG hd=>zX (hd.head kR) (RQ.rnum (RN.mono fZ hG)) ha.den hb.num) (fun _ _ _ h k=>RI.mono h k) ?_;rotate_left;refine' vB (cO func23) (fun G hG hd=>I0 (hd.tail.tail.head kR) (hd.head kR) (BS ha hb) kJ hne) (fun _ _ _ h k=>RQ.mono h k) ?_;rotate_left;(refine DJ.nil (fun G hG hF=>?_);(case hS|hS2=>rfl));obtain⟨⟨ra,rl,rc,xa,xl,xc,hr,h1,h2⟩,_⟩:=hF;rw[hr];refine uR ?_;rw[<-zhU];exact⟨ra,rl,rc,xa,xl,xc,rfl,h1,h2⟩
theorem Aa {H:Hp} {u:Value} {a:Rat} (hu:RQ H u a):PC prog 48 #[u] H fun r _=>r=.int .i64 a.num.sign:=by
 obtain⟨sa,sl,sc,ta,tl,tc,rfl,hs,ht⟩:=id hu;refine BD func48 ntmps48 ?_
 repeat (first|refine RUN ?_|refine CV (Jg (RQ.rnum hs)) ?_|refine CE (Jg (RQ.rnum hs)) ?_)
 rfl
theorem kz {H:Hp} {u v:Value} {a b:Rat} (hu:RQ H u a) (hv:RQ H v b) (ha:rq a) (hb:rq b):PC prog 53 #[u,v] H fun r _=>r=.int .i64 (bI a b):=by
 obtain⟨sa,sl,sc,ta,tl,tc,rfl,hs,ht⟩:=id hu;obtain⟨Ew,Eu,Ev,Et,Ep,Er,rfl,fZ,aM⟩:=id hv;refine BD func53 ntmps53 ?_;refine uR ?_;apply EV.drawn 11 kR kR;intro xv yw;(repeat refine' DD ?_);refine' vB (cO func25) (fun G hG hd=>Cs (hv.mono hG)) (fun _ _ _ h k=>RI.mono h k) ?_;rotate_left;refine' vB (cO func24) (fun G hG hd=>zX (RQ.rnum (RN.mono hs hG)) (hd.head kR) ha.num hb.den) (fun _ _ _ h k=>RI.mono h k) ?_;rotate_left;(repeat refine' DD ?_);refine' vB (cO func25) (fun G hG hd=>Cs (hu.mono hG)) (fun _ _ _ h k=>RI.mono h k) ?_;rotate_left;refine' vB (cO func24) (fun G hG hd=>zX (RQ.rnum (RN.mono fZ hG)) (hd.head kR) hb.num ha.den) (fun _ _ _ h k=>RI.mono h k) ?_;rotate_left;refine' vC (cO func100) (fun G hG hd=>zkE (hd.tail.tail.head kR) (hd.head kR) (BS ha hb) (BS hb ha)) ?_;rotate_left;(refine DJ.nil (fun G hG hF=>?_);(case hS|hS2=>rfl));refine uR ?_;rw[Ig]
def Wn (cs:List Value) (off:Nat) (l:List Nat):Prop:=off+l.length<=cs.length/\∀j,j<l.length->cs[off+j]?=some (n64 (l.getD j 0))
theorem Wn.of (l:List Nat):Wn (l.map n64) 0 l:=⟨by simp,fun j hj=>by rw[qu];exact iV hj⟩
theorem Wn.take {cs:List Value} {off:Nat} {l:List Nat} (h:Wn cs off l) (k:Nat):Wn cs off (l.take k):=by
 refine⟨by have:=h.1;rw[qP];omega,fun j hj=>?_⟩;rw[qP]at hj;rw[h.2 j oM,oo,if_pos (by omega)]
theorem Wn.drop {cs:List Value} {off:Nat} {l:List Nat} (h:Wn cs off l) (k:Nat) (hk:k<=l.length):Wn cs (off+k) (l.drop k):=by
 refine⟨by have:=h.1;rw[qt];omega,fun j hj=>?_⟩;rw[qt]at hj;rw[Nat.add_assoc,h.2 (k+j) oM,yu]
theorem Wn.set {cs:List Value} {off:Nat} {l:List Nat} (h:Wn cs off l) (k x:Nat) (hk:k<l.length):Wn (cs.set (off+k) (n64 x)) off (l.set k x):=by
 refine⟨by rw[List.length_set,List.length_set];exact h.1,fun j hj=>?_⟩;rw[List.length_set]at hj;by_cases e:k=j
 ·subst e;rw[List.getElem?_set_self (by have:=h.1;omega),yC _ _ _ hk]
 ·rw[List.getElem?_set_ne oM,getD_set_ne _ _ _ _ (Ne.symm e)];exact h.2 j hj
theorem YV (b off n cap:Nat) (hc:cap≠0):Value.slice (if cap=0 then some ⟨b,off,none⟩ else (some (⟨b,off,none⟩:Addr)).map (·.add (0*1))) (n-0) (cap-0)=.slice (some ⟨b,off,none⟩) n cap:=by
 rw[if_neg hc];simp[Addr.add_mid]
theorem YU (b off k m cap:Nat) (hc:k<cap):Value.slice (if cap=k then some ⟨b,off,none⟩ else (some (⟨b,off,none⟩:Addr)).map (·.add (k*1))) (m-k) (cap-k)=.slice (some ⟨b,off+k,none⟩) (m-k) (cap-k):=by
 rw[if_neg (by omega)];simp[Addr.add_mid]
theorem Sd {H:Hp} {b off cap:Nat} {T:TypeId} {cs:List Value} {l:List Nat} (hw:Wn cs off l) (hc:l.length<=cap) (hl:l.length<=1000000000) :
  PW prog 212 #[.slice (some ⟨b,off,none⟩) l.length cap] H [(b,T,cs)] fun v ow _=>ow=[(b,T,cs)]/\v=.slice (some ⟨b,off,none⟩) (cg l).length cap:=by
 refine PW.body tO func212 Z kR ntmps212 Z Z ?_;refine uR ?_
 refine EV.loop (ι:=Nat) (fun n=>[(0,.v (.slice (some ⟨b,off,none⟩) n cap))]) (fun _=>[]) (fun _=>[(b,T,cs)])
  (fun n _=>n<=l.length/\cg (l.take n)=cg l) (fun n=>n) l.length ⟨Z,trivial⟩ trivial rfl (fun _=>rfl) ⟨qH _,by rw[qa]⟩ ?_
 rintro n G hG ⟨hn,ht⟩;have fin:cg (l.take n)=l.take n->(cg l).length=n:=fun e=>by rw[<-ht,e,qP];omega
 refine uR ?_;by_cases h0:n=0
 ·subst h0;rw[show decide (((0:Nat):Int)>0)=false from rfl];refine uR ?_;rw[fin (by simp[cg])];exact⟨rfl,rfl⟩
 ·rw[show decide ((n:Int)>0)=true by simp;omega]
  have k7:l.take n=l.take (n-1)++[l.getD (n-1) 0]:=by
   have:=qS (show n-1<l.length by omega);rw[show n-1+1=n by omega]at this;rw[this,qB,qA (show n-1<l.length by omega)];rfl
  refine uR ?_;refine EVL.asI (((n-1:Nat):Int)) (Dy n oM oM) ?_;refine EVL.idxO tO Z Z Z Z Z Z Z Z Z Z (n-1) (rfl) oM ?_;refine EVL.load1 tO Z Z Z Z Z Z Z Z (0) Z (hw.2 (n-1) oM) ?_;refine uR ?_;by_cases hz:l.getD (n-1) 0=0
  ·rw[hz,show (((0:Nat):Int) == 0)=true from rfl];refine uR ?_;refine EVL.asI (((n-1:Nat):Int)) (Dy n oM oM) ?_;refine EVL.slc tO Z Z Z Z Z Z Z Z 0 (n-1) (.inl ⟨rfl,rfl⟩) (.inr ⟨_,IntKind.i64,rfl,rfl⟩) (qQ _) oM oM ?_;refine EVL.as (congrArg SV.v (YV b off (n-1) cap oM)) ?_;refine uR ?_;exact⟨n-1,⟨Z,trivial⟩,trivial,rfl,⟨by omega,by rw[<-ht,k7,hz,MQ]⟩,Hp.Le.refl _,by omega⟩
  ·rw[show (((l.getD (n-1) 0:Nat):Int) == 0)=false by simpa using hz];refine uR ?_;rw[fin (by rw[k7,MF _ _ hz])];exact⟨rfl,rfl⟩
theorem zmd {H:Hp} {b off cap b' dH bz:Nat} {T T':TypeId} {cs aq:List Value} {l m:List Nat} (hw:Wn cs off l) (hw':Wn aq dH m) (hl:eM W64 l) (hm:eM W64 m) (dc:l.length<=1000000000) :
  PW prog 169 #[.slice (some ⟨b,off,none⟩) l.length cap,.slice (some ⟨b',dH,none⟩) m.length bz] H [(b,T,cs),(b',T',aq)] fun v ow _=>ow=[(b,T,cs),(b',T',aq)]/\v=.int .i64 (br (val W64 l) (val W64 m)):=by
 refine PW.body tO func169 Z kR ntmps169 Z Z ?_;refine uR ?_;by_cases he:l.length=m.length
 ·rw[show (((l.length:Nat):Int) != (m.length:Int))=false by simp[he]];refine uR ?_
  refine EV.loop (ι:=Nat) (fun n=>[(0,.v (.slice (some ⟨b,off,none⟩) l.length cap)),(1,.v (.slice (some ⟨b',dH,none⟩) m.length bz)),(5,.v (.int .i64 ((n:Int)-1)))]) (fun _=>[]) (fun _=>[(b,T,cs),(b',T',aq)])
   (fun n _=>n<=l.length/\l.drop n=m.drop n) (fun n=>n) l.length ⟨rfl,rfl,?_,trivial⟩ trivial rfl (fun _=>rfl) ⟨qH _,by rw[qi (qH _),qi (by omega)]⟩ ?_
  ·rw[show IntKind.i64.wrap ((l.length:Int)-1)=(l.length:Int)-1 by rw[pL];omega];rfl
  rintro n G hG ⟨hn,hd⟩;refine uR ?_;by_cases h0:n=0
  ·subst h0;rw[show decide ((((0:Nat):Int)-1)>=0)=false from rfl];refine uR ?_;rw[List.drop_zero,List.drop_zero]at hd;subst hd;exact⟨rfl,by rw[RT rfl]⟩
  ·rw[show decide (((n:Int)-1)>=0)=true by simp;omega];have hx:=hw.2 (n-1) oM;have hy:=hw'.2 (n-1) oM;have NR:=Ry (l:=l) (m:=m) (n-1) hl.1 hm.1 he oM (by rw[show n-1+1=n by omega];exact hd);have JW:=dO 0 l (n-1)
   have kn:l.drop (n-1)=l.getD (n-1) 0::l.drop n:=by
    rw[qp (show n-1<l.length by omega),qB,qA (show n-1<l.length by omega),show n-1+1=n by omega];rfl
   have F1:m.drop (n-1)=m.getD (n-1) 0::m.drop n:=by
    rw[qp (show n-1<m.length by omega),qB,qA (show n-1<m.length by omega),show n-1+1=n by omega];rfl
   generalize l.getD (n-1) 0=u at *
   generalize m.getD (n-1) 0=w at *
   refine uR ?_;apply EV.drawn 9 kR kR;intro xv yw;(repeat refine' DD ?_);refine' DJ.ofVal (az.idxO tO Z Z Z Z Z Z Z Z (n-1) oM oM) Z Z Z ?_;rotate_left;refine' DJ.ofVal (az.load1 tO Z Z Z Z Z Z (0) Z (hx)) Z Z Z ?_;rotate_left;(repeat refine' DD ?_);refine' DJ.ofVal (az.idxO tO Z Z Z Z Z Z Z Z (n-1) oM oM) Z Z Z ?_;rotate_left;refine' DJ.ofVal (az.load1 tO Z Z Z Z Z Z (1) Z (hy)) Z Z Z ?_;rotate_left;(repeat refine' DD ?_);(refine DJ.nil (fun G hG hF=>?_);(case hS|hS2=>rfl));refine uR ?_;by_cases jX:u=w
   ·subst jX;rw[show (((u:Nat):Int) != (u:Int))=false by simp];refine uR ?_;refine⟨n-1,⟨rfl,rfl,?_,trivial⟩,trivial,rfl,⟨by omega,by rw[kn,F1,hd]⟩,hG,by omega⟩;rw[show IntKind.i64.wrap ((n:Int)-1-1)=((n-1:Nat):Int)-1 by rw[pL];omega];rfl
   ·rw[show (((u:Nat):Int) != (w:Int))=true by simp;omega];have ho:=NR jX;refine uR ?_;apply EV.drawn 9 kR kR;intro xv yw;(repeat refine' DD ?_);refine' DJ.ofVal (az.idxO tO Z Z Z Z Z Z Z Z (n-1) oM oM) Z Z Z ?_;rotate_left;refine' DJ.ofVal (az.load1 tO Z Z Z Z Z Z (0) Z (hx)) Z Z Z ?_;rotate_left;(repeat refine' DD ?_);refine' DJ.ofVal (az.idxO tO Z Z Z Z Z Z Z Z (n-1) oM oM) Z Z Z ?_;rotate_left;refine' DJ.ofVal (az.load1 tO Z Z Z Z Z Z (1) Z (hy)) Z Z Z ?_;rotate_left;(repeat refine' DD ?_);(refine DJ.nil (fun G hG hF=>?_);(case hS|hS2=>rfl));refine uR ?_;rw[ho];by_cases af:u<w
    ·rw[tX u w af,pT af];refine uR ?_;exact⟨rfl,rfl⟩
    ·rw[ue u w af,rJ (by omega)];refine uR ?_;exact⟨rfl,rfl⟩
 ·rw[show (((l.length:Nat):Int) != (m.length:Int))=true by simp;omega];refine uR ?_;by_cases af:l.length<m.length
  ·rw[tX _ _ af,pT (Ci cm hl.1 hm af)];refine uR ?_;exact⟨rfl,rfl⟩
  ·rw[ue _ _ af,rJ (Ci cm hm.1 hl oM)];refine uR ?_;exact⟨rfl,rfl⟩
theorem zk5 {H:Hp} {b off cap b' dH bz:Nat} {T T':TypeId} {cs aq:List Value} {l m:List Nat} (hw:Wn cs off l) (hw':Wn aq dH m) (hl:Dig W64 l) (hm:Dig W64 m) (dc:l.length<=1000000000) (gS:m.length<=l.length) (hc:l.length<=cap) (hge:val W64 m<=val W64 l) :
  PW prog 170 #[.slice (some ⟨b,off,none⟩) l.length cap,.slice (some ⟨b',dH,none⟩) m.length bz] H [(b,T,cs),(b',T',aq)] fun v ow _=>∃Hb r,ow=[(b,T,Hb),(b',T',aq)]/\Wn Hb off r/\eM W64 r/\r.length<=l.length/\v=.slice (some ⟨b,off,none⟩) r.length cap/\val W64 r=val W64 l-val W64 m:=by
 refine PW.body tO func170 Z kR ntmps170 Z Z ?_;refine uR ?_
 refine EV.loop (ι:=Nat × Nat × List Nat × List Value) (fun q=>[(0,.v (.slice (some ⟨b,off,none⟩) l.length cap)),(1,.v (.slice (some ⟨b',dH,none⟩) m.length bz)),(5,.v (n64 q.2.1)),(9,.v (.int .i64 (l.length:Int))),(10,.v (.int .i64 (q.1:Int)))]) (fun _=>[]) (fun q=>[(b,T,q.2.2.2),(b',T',aq)])
  (fun q _=>q.1<=l.length/\DB l m q.2.2.1 q.1 q.2.1/\Wn q.2.2.2 off q.2.2.1) (fun q=>l.length-q.1) (0,0,l,cs) ⟨Z,Z,Z,Z,Z,trivial⟩ trivial rfl (fun _=>rfl) ⟨qQ _,⟨rfl,hl,fun _ _=>rfl,by simp[val],qQ _⟩,hw⟩ ?_
 rintro⟨i,c,cur,cu⟩ G hG ⟨hi,hinv,jn⟩;dsimp only at hi hinv jn;refine uR ?_;by_cases af:i<l.length
 ·rw[tX _ _ af];have bY:i<cur.length:=by rw[hinv.len];exact af
  have xm:=jn.2 i bY;refine uR ?_;refine EV.meet (fun aA aw H'=>fq aA [(0,.v (.slice (some ⟨b,off,none⟩) l.length cap)),(1,.v (.slice (some ⟨b',dH,none⟩) m.length bz)),(5,.v (n64 c)),(6,.v (.int .i64 (i:Int))),(7,.v (n64 (m.getD i 0))),(9,.v (.int .i64 (l.length:Int))),(10,.v (.int .i64 (i:Int)))]/\H'=⟨G,[(b,T,cu),(b',T',aq)],⟨H,[b,b']⟩⟩) ?_ ?_
  ·rintro aA aw H' _ ⟨he,rfl⟩;refine EV.less _ [] he trivial Z ?_;refine uR ?_;refine EVL.idxO tO Z Z Z Z Z Z Z Z Z Z (i) (rfl) (af) ?_;refine EVL.load1 tO Z Z Z Z Z Z Z Z (0) Z (xm) ?_;refine uR ?_;refine EVL.ext Z Z Z Z Z (fun W=>LI (cur.getD i 0) (m.getD i 0) c W hinv.carry) ?_;refine uR ?_;refine EVL.idxO tO Z Z Z Z Z Z Z Z Z Z (i) (rfl) (af) ?_;refine EVL.setO tO Z Z Z Z Z Z Z ([]) Z Z Z ((by have:=jn.1;omega)) ?_;refine uR ?_;refine⟨(i+1,subHi (cur.getD i 0) (m.getD i 0) c,cur.set i (subLo (cur.getD i 0) (m.getD i 0) c),cu.set (off+i) (n64 (subLo (cur.getD i 0) (m.getD i 0) c))),⟨rfl,rfl,rfl,rfl,?_,trivial⟩,trivial,rfl,⟨by dsimp only;omega,hinv.step af hm,jn.set i _ bY⟩,Hp.Le.refl _,by dsimp only;omega⟩;rw[aO i (by omega)];rfl
  ·by_cases sN:i<m.length
   ·rw[tX _ _ sN];refine uR ?_;refine EVL.idxO tO Z Z Z Z Z Z Z Z Z Z (i) (rfl) (sN) ?_;refine EVL.load1 tO Z Z Z Z Z Z Z Z (1) Z (hw'.2 i sN) ?_;refine uR ?_;exact⟨⟨Z,Z,Z,Z,Z,Z,Z,trivial⟩,rfl⟩
   ·rw[ue _ _ sN];refine uR ?_;refine⟨⟨rfl,rfl,rfl,rfl,?_,rfl,rfl,trivial⟩,rfl⟩;rw[show m.getD i 0=0 by simp[Nat.not_lt.1 sN]];rfl
 ·rw[ue _ _ af];obtain rfl:i=l.length:=oM;have bn:=hinv.sum;have hlen:=hinv.len;rw[qO oM,qO (qH _),qO (by omega)]at bn;have iz:=cZ hinv.dig;rw[hlen]at iz
  have fa:c=0:=by
   have:=hinv.carry;rcases qz c with e | e
   ·exact e
   ·exfalso;have h1:c=1:=oM;rw[h1,Nat.one_mul]at bn;have h2:=cZ hm;have h3:W64 ^ m.length<=W64 ^ l.length:=qc (by decide) gS;omega
  rw[fa,Nat.zero_mul,qY]at bn;refine uR ?_;have ht:=Sd (H:=G) (b:=b) (T:=T) (cap:=cap) jn oM oM;rw[hlen]at ht;refine vW ([(b,T,cu)]) ([(b',T',aq)]) (ht) ?_;rintro v ow H' ⟨rfl,rfl⟩ hle;refine uR ?_;refine⟨cu,cg cur,rfl,?_,Ei hinv.dig,?_,rfl,?_⟩
  ·have:=jn.take (cg cur).length
   rwa [IZ]at this
  ·have:=Cw cur;omega
  ·rw[Cq];omega
end
end Go.Proofs.YtkeklikocibiaaaGreatDoor
