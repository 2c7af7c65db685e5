/- Texts of ours in one: NatD, NatDK, NatDL, NatE, NatF, Oct, NatG, Gcd, Gc0, Rp1, DivR, Wr, Ev12, Ev13, Ev14, Ev15, Ev16, Ev17, Ev18, Ev19, Ev20, Ev21, Re1, Re2, Re3, Re4, Re5, Gs32, Re6, Re7, Re8, Wh1, Rf1, Wh2, Wh3, Rf2, Rf3, Gc1, Gc2, Tz, Gc3, Gc4, Gc5, GcdS. -/
import Derived.Test.YteoollbcdpfkpaaGreatDoorO0
import Derived.Test.YteoollbcdpfkpaaGreatDoorO1
import Derived.Lib.TrailingZeros
import Derived.Deep.Upon
import Derived.Shelf.Spec.TrailingZeros
set_option linter.unusedVariables false
set_option linter.unusedSimpArgs false
set_option maxHeartbeats 64000000

namespace Go.Proofs.YteoollbcdpfkpaaGreatDoor
open Go.RowKit _root_.Go.Proofs.Tryz
structure zjf (x y cur:List Nat) (i c:Nat):Prop where
 len:cur.length=x.length
 dig:Dig W64 cur
 keep:∀k,i≤k→cur.getD k 0=x.getD k 0
 sum:val W64 (cur.take i)+val W64 (y.take i)=val W64 (x.take i)+c*W64 ^ i
 carry:c≤1
theorem ztN {s w c u c' p B vc vy vx:Nat} (h1:s+w+c=u+c'*B) (hs:vc+vy=vx+c*p):vc+s*p+(vy+w*p)=vx+u*p+c'*(p*B):=by
 have h5:s*p+w*p+c*p=u*p+c'*(p*B):=by
  have:=congrArg (· * p) h1;simp only[qw]at this;rw[this,Nat.mul_assoc c' B p,qW B p]
 generalize s*p=A1 at *
 generalize w*p=A2 at *
 generalize c*p=A3 at *
 generalize u*p=A4 at *
 generalize c'*(p*B)=A5 at *
 omega
theorem znB (l:List Nat) (i x:Nat) (h:i<l.length):(l.set i x).getD i 0=x:=by
 rw[qB,List.getElem?_set_self h];rfl
theorem zjf.step {x y cur:List Nat} {i c:Nat} (h:zjf x y cur i c) (hi:i<x.length) (hy:Dig W64 y):zjf x y (cur.set i (subLo (cur.getD i 0) (y.getD i 0) c)) (i+1) (subHi (cur.getD i 0) (y.getD i 0) c):=by
 have hil:i<cur.length:=by rw[h.len];exact hi
 have hx:cur.getD i 0<W64:=by simp only[qB,qA hil,Option.getD_some];exact h.dig.get i hil
 have hyi:y.getD i 0<W64:=by
  by_cases hl:i<y.length
  ·simp only[qB,qA hl,Option.getD_some];exact hy.get i hl
  ·simp[Nat.not_lt.1 hl];decide
 obtain⟨h1,h2,h3⟩:=zcM hx hyi h.carry;refine⟨by simp[h.len],h.dig.set _ _ h2,fun k hk=>?_,?_,h3⟩
 ·rw[←h.keep k (by omega)];simp[qB,List.getElem?_set_ne (show i≠k by omega)]
 ·have e1:val W64 ((cur.set i (subLo (cur.getD i 0) (y.getD i 0) c)).take (i+1))=val W64 (cur.take i)+subLo (cur.getD i 0) (y.getD i 0) c*W64 ^ i:=by
   rw[zbs,List.take_set_of_le (qH _),znB _ _ _ hil]
  have e2:=zbs x i;have e3:=zbs y i;have e4:=h.keep i (qH _);rw[e1,e2,e3,←e4,qX];exact ztN h1 h.sum
theorem zln (a b:Nat) (h:a<b) (ha:big a) (hb:big b):PV prog 135 #[zaD a,zaD b] (.tuple #[zaD 0,.bool false]):=by
 refine PV.of_pc ?_;rw[zap (n:=0) (by decide)];refine BD func135 ntmps135 ?_
 repeat (first|refine RUN ?_|refine CV (zaL _ _ ha hb) ?_|refine CE (zaL _ _ ha hb) ?_)
 rw[show decide (zbv a b<0)=true by rw[zco h];rfl];refine uR ?_;rfl
theorem zjW (a b:Nat) (h:b≤a) (ha:a<W64):PV prog 135 #[zaD a,zaD b] (.tuple #[zaD (a-b),.bool true]):=by
 have hb:b<W64:=oM;have h1:big a:=qI (zaU (k:=64) (by rw[←zaC];exact ha)) oM;have h2:big b:=qI (zaU (k:=64) (by rw[←zaC];exact hb)) oM;refine PV.of_pc ?_;rw[zap (n:=a-b) (by omega)];refine BD func135 ntmps135 ?_
 repeat (first|refine RUN ?_|refine CV (zaL _ _ h1 h2) ?_|refine CE (zaL _ _ h1 h2) ?_)
 rw[show decide (zbv a b<0)=false by rcases Nat.lt_or_eq_of_le h with h | h;(rw[zcn h];rfl);(subst h;simp[zbv])];refine uR ?_;rw[zfa ha];refine uR ?_;rw[zcW ha,zcW hb,show IntKind.u64.wrap ((a:Int)-(b:Int))=((a-b:Nat):Int) by rw[zaq];simp only[zaj]at *;omega]
theorem znK (a b:Nat) (h:b≤a) (h0:¬a<W64) (ha:big a) (hb:big b):PV prog 135 #[zaD a,zaD b] (.tuple #[zaD (a-b),.bool true]):=by
 refine PV.of_pc ?_;refine BD func135 ntmps135 ?_
 repeat (first|refine RUN ?_|refine CV (zaL _ _ ha hb) ?_|refine CE (zaL _ _ ha hb) ?_)
 rw[show decide (zbv a b<0)=false by rcases Nat.lt_or_eq_of_le h with h | h;(rw[zcn h];rfl);(subst h;simp[zbv])];refine uR ?_;rw[zdy h0];refine uR ?_;have hpa:=fun G=>zf2 a ha G;have hpb:=fun G=>zf2 b hb G;apply EV.drawn 6 kR kR;intro x y;refine' DJ.val tO rfl rfl rfl rfl rfl ?_;rotate_left;refine' DJ.callO rfl rfl rfl rfl rfl (hpa gH).can (fun G _ _=>hpa G) ?_;rotate_left;refine' DJ.val tO rfl rfl rfl rfl rfl ?_;rotate_left;refine' DJ.callO rfl rfl rfl rfl rfl (hpb gH).can (fun G _ _=>hpb G) ?_;rotate_left;refine' DJ.copy (0+1) (.inr rfl) rfl rfl rfl id rfl kR ?_;rotate_left;refine' DJ.copy (0+1+1+1) (.inr rfl) rfl rfl rfl id rfl kR ?_;rotate_left;refine DJ.nil (fun G hG hF=>?_)
 case hS=>rfl
 case hS2=>rfl
 obtain⟨hob,hoa,_⟩:=hF;change zaO _ _ _ _ _ _ at hob hoa;change EVL _ _ _ _ ((7,.v (x (0+1+1+1)))::(6,.v (x (0+1)))::_) _ _ _;generalize x (0+1+1+1)=vb at *
 generalize x (0+1)=va at *
 generalize y (0+1+1+1)=ob at *
 generalize y (0+1)=oa at *
 obtain⟨ab,cb,rfl⟩:=hob.val;have la:=zaI ha;have vla:=zaw zaf a;have vlb:=zaw zaf b;have da:=(zao zaf a).1;have db:=(zao zaf b).1;have hlen:(dig W64 b).length≤(dig W64 a).length:=zbX zaf h
 have pos:0<(dig W64 a).length:=by
  rcases pJ (dig W64 a).length with e | e
  ·have h1:=zaX zaf e;exact absurd (by rw[h1];decide) h0
  ·exact e
 obtain⟨g,cap,sp,rfl,rfl,h2,h3,h4⟩:=hoa.block pos;generalize dig W64 a=xa at *
 generalize dig W64 b=xb at *
 clear hpa hpb ha hb hoa;refine EVL.publishL [] ob [(g,45,xa.map n64++sp)] rfl hob fun G1 hG1 hs=>?_;refine uR ?_
 refine EV.loop (ι:=Nat × Nat × List Nat) (fun q=>[(4,.p 4 0),(6,.v (.slice (some ⟨g,0,none⟩) xa.length cap)),(7,.v (.slice ab xb.length cb)),(8,.v (n64 q.2.1)),(30,.v (.int .i64 (xa.length:Int))),(31,.v (.int .i64 (q.1:Int)))]) (fun _=>[(4,47,Tryz.te47.zero)]) (fun q=>[(g,45,q.2.2.map n64++sp)])
  (fun q G=>q.1≤xa.length∧zjf xa xb q.2.2 q.1 q.2.1∧SlN n64 G (.slice ab xb.length cb) xb) (fun q=>xa.length-q.1) (0,0,xa) ⟨rfl,rfl,rfl,rfl,rfl,rfl,trivial⟩ ⟨rfl,trivial⟩ rfl (fun _=>rfl) ⟨qQ _,⟨rfl,da,fun _ _=>rfl,by simp[val],qQ _⟩,hs⟩ ?_
 rintro⟨i,c,cur⟩ G2 hG2 ⟨hi,hinv,hs2⟩;dsimp only at hi hinv;refine uR ?_;by_cases hlt:i<xa.length
 ·rw[show decide ((i:Int)<(xa.length:Int))=true by simpa using hlt];refine uR ?_;refine EV.meet (fun env' bx' H'=>zeq env' [(4,.p 4 0),(6,.v (.slice (some ⟨g,0,none⟩) xa.length cap)),(7,.v (.slice ab xb.length cb)),(8,.v (n64 c)),(30,.v (.int .i64 (xa.length:Int))),(31,.v (.int .i64 (i:Int))),(9,.v (.int .i64 (i:Int))),(10,.v (n64 (xb.getD i 0)))]∧zeu bx' [(4,47,Tryz.te47.zero)]∧H'.ow=[(g,45,cur.map n64++sp)]∧G2.Le H'.ro) ?_ ?_
  ·rintro env' bx' ⟨G3,ow3,base3⟩ hbsbase3 ⟨he,hbx,h1,hle⟩;obtain rfl:base3=⟨fun _=>none,[]⟩:=hbsbase3;refine EV.less _ _ he hbx rfl ?_;have h1':ow3=[(g,45,cur.map n64++sp)]:=h1;subst h1';have hil:i<cur.length:=by rw[hinv.len];exact hlt
   have hci:(cur.map n64++sp)[i]?=some (n64 (cur.getD i 0)):=by
    rw[qM (by simpa using hil)];simp[hil]
   refine uR ?_;refine EVL.ofVal (zab.idxP1 tO rfl rfl rfl rfl rfl rfl rfl rfl i rfl hlt) rfl rfl rfl fun G4 hG4=>?_;refine EVL.load1 tO rfl rfl rfl rfl rfl rfl rfl rfl 0 rfl hci ?_;refine uR ?_;refine EVL.ext rfl rfl rfl rfl rfl (fun W=>zg5 (cur.getD i 0) (xb.getD i 0) c W hinv.carry) ?_;refine uR ?_;refine EVL.ofVal (zab.idxP1 tO rfl rfl rfl rfl rfl rfl rfl rfl i rfl hlt) rfl rfl rfl fun G5 hG5=>?_;refine EVL.set1 tO rfl rfl rfl rfl rfl rfl rfl rfl rfl rfl (by simp;omega) ?_;refine uR ?_;refine⟨(i+1,subHi (cur.getD i 0) (xb.getD i 0) c,cur.set i (subLo (cur.getD i 0) (xb.getD i 0) c)),⟨rfl,rfl,rfl,rfl,rfl,?_,trivial⟩,⟨rfl,trivial⟩,?_,⟨by dsimp only;omega,hinv.step hlt db,hs2.mono (hle.trans (hG4.trans hG5))⟩,hle.trans (hG4.trans hG5),by dsimp only;omega⟩
   ·have e:IntKind.i64.wrap ((i:Int)+1)=((i+1:Nat):Int):=by rw[pM];omega
    rw[e];rfl
   ·dsimp only;rw[List.set_append_left _ _ (by simpa using hil),List.map_set]
  ·by_cases hly:i<xb.length
   ·rw[show decide ((i:Int)<(xb.length:Int))=true by simpa using hly];have hcy:(xb.map n64)[i]?=some (n64 (xb.getD i 0)):=by simp[hly]
    refine uR ?_;refine EVL.ofVal (zab.idx1 tO rfl rfl rfl rfl rfl rfl rfl rfl hs2 i rfl hly hcy) rfl rfl rfl fun G4 hG4=>?_;refine uR ?_;exact⟨⟨rfl,rfl,rfl,rfl,rfl,rfl,rfl,rfl,trivial⟩,⟨rfl,trivial⟩,rfl,hG4⟩
   ·rw[show decide ((i:Int)<(xb.length:Int))=false by simpa using hly];refine uR ?_;refine⟨⟨rfl,rfl,rfl,rfl,rfl,rfl,rfl,?_,trivial⟩,⟨rfl,trivial⟩,rfl,Hp.Le.refl _⟩;rw[show xb.getD i 0=0 by simp[Nat.not_lt.1 hly]];rfl
 ·rw[show decide ((i:Int)<(xa.length:Int))=false by simpa using hlt];obtain rfl:i=xa.length:=oM;have hcl:=hinv.len;have hfin:=hinv.sum;rw[qO oM,qO oM,qO oM,vla,vlb]at hfin
  have hown:zaO 45 1 (.slice (some ⟨g,0,none⟩) xa.length cap) xa.length (cur.map n64) [(g,45,cur.map n64++sp)] :=
   ⟨by simp[hcl],.inr ⟨g,cap,sp,rfl,rfl,by rw[←h2];simp[hcl],h3,h4⟩⟩
  have hcv:=zax hinv.dig;rw[hcl]at hcv
  have hc0:c=0:=by
   rcases pJ c with e | e
   ·exact e
   ·have:W64 ^ xa.length*1≤W64 ^ xa.length*c:=qe _ e;rw[qW c]at hfin;omega
  rw[hc0]at hfin;refine EV.publishL [] [(g,45,cur.map n64++sp)] [] rfl hown fun G' hG' hs'=>?_;have hl:SlN n64 G' (.slice (some ⟨g,0,none⟩) xa.length cap) cur:=by unfold SlN;rw[hcl];exact hs'
  have hf:=zaQ hl hinv.dig oM;rw[show val W64 cur=a-b by omega]at hf;refine uR ?_;refine EVL.call rfl rfl rfl rfl rfl hf ?_;rintro v' H' rfl hle;refine uR ?_;rfl
theorem zeM (a b:Nat) (ha:big a) (hb:big b):PV prog 135 #[zaD a,zaD b] (.tuple #[zaD (a-b),.bool (decide (b≤a))]):=by
 by_cases h:b≤a
 ·rw[qD h];by_cases h0:a<W64
  ·exact zjW a b h h0
  ·exact znK a b h h0 ha hb
 ·rw[qC h,show a-b=0 by omega];exact zln a b oM ha hb
theorem zbK (n:Nat):((bl n:Int) == 0)=decide (n=0):=by
 by_cases h:n=0
 ·subst h;rw[zbA];rfl
 ·have:bl n≠0:=fun e=>h (zhA.1 e);simp[h];omega
theorem zmg (w w1:World) (o1 o2 o3 o4:Obj) (n:Nat) (hn:n=w.heap.size) (hb:Below ((((w.alloc o1).alloc o2).alloc o3).alloc o4).heap.size ((((w.alloc o1).alloc o2).alloc o3).alloc o4) w1) :
  w1.heap[n]?=some o1∧w1.heap[n+1]?=some o2∧w1.heap[n+1+1]?=some o3∧w1.heap[n+1+1+1]?=some o4∧n+4≤w1.heap.size:=by
 subst hn;have hs:=hb.size;simp at hs;have a2:((w.alloc o1).alloc o2).heap[w.heap.size+1]?=some o2:=by have:=heap_alloc_new (w.alloc o1) o2;simpa using this
 have a3:(((w.alloc o1).alloc o2).alloc o3).heap[w.heap.size+1+1]?=some o3:=by have:=heap_alloc_new ((w.alloc o1).alloc o2) o3;simpa using this
 have a4:((((w.alloc o1).alloc o2).alloc o3).alloc o4).heap[w.heap.size+1+1+1]?=some o4:=by have:=heap_alloc_new (((w.alloc o1).alloc o2).alloc o3) o4;simpa using this
 refine⟨?_,?_,?_,?_,by omega⟩
 ·rw[hb.block _ (by simp <;> omega),Below.heap_alloc _ _ _ (by simp <;> omega),Below.heap_alloc _ _ _ (by simp <;> omega),Below.heap_alloc _ _ _ (by simp)];exact heap_alloc_new w o1
 ·rw[hb.block _ (by simp <;> omega),Below.heap_alloc _ _ _ (by simp <;> omega),Below.heap_alloc _ _ _ (by simp)];exact a2
 ·rw[hb.block _ (by simp <;> omega),Below.heap_alloc _ _ _ (by simp)];exact a3
 ·rw[hb.block _ (by simp)];exact a4
theorem zav {W:World} {b:Nat} {cs:Array Value} {T:TypeId} (h:W.heap[b]?=some (.cells cs T (0,0))) (j:Nat):W.cell? ⟨b,j,none⟩=cs[j]?:=by
 rw[cell_of_row W b j cs T (0,0) h]
theorem zb2 {W:World} {b:Nat} {cs:Array Value} {T:TypeId} (h:W.heap[b]?=some (.cells cs T (0,0))) (j:Nat):W.frozen? ⟨b,j,none⟩=false:=by
 simp[World.frozen?,h]
theorem zi3 {W:World} {b:Nat} {x y x' y':Value} {T:TypeId} (h:W.heap[b]?=some (.cells #[x,y] T (0,0))):((W.setCell ⟨b,0,none⟩ x').setCell ⟨b,1,none⟩ y').heap[b]?=some (.cells #[x',y'] T (0,0)):=by
 simp[World.setCell,Array.getElem?_modify,h]
theorem zqq {W:World} {b c:Nat} {x' y':Value} (hne:b≠c):((W.setCell ⟨b,0,none⟩ x').setCell ⟨b,1,none⟩ y').heap[c]?=W.heap[c]?:=by
 simp[World.setCell,Array.getElem?_modify,hne]
theorem zfZ (W:World) (b:Nat) (x' y':Value):zbf (fun k=>k=b) W ((W.setCell ⟨b,0,none⟩ x').setCell ⟨b,1,none⟩ y') :=
 ⟨rfl,rfl,rfl,by simp[World.setCell],fun k _ hk=>zqq (fun e=>hk e.symm)⟩
set_option maxRecDepth 100000 in
theorem div_one (a b:Nat) (w:World) (h:b≠0) (ha:a<W64) (hb:b<W64) :
  Calls prog 137 #[zaD a,zaD b] w fun e w'=>e=.returned (.tuple #[zaD (a / b),zaD (a % b),.bool true])∧Below w.heap.size w w':=by
 have h2:big b:=qI (zaU (k:=64) (by rw[←zaC];exact hb)) oM;have q1:a / b<W64:=Nat.lt_of_le_of_lt (Nat.div_le_self a b) ha;have q2:a % b<W64:=Nat.lt_of_le_of_lt (Nat.mod_le a b) ha;have hz:(b:Int)≠0:=oM;have hbits:=fun w=>zie b w h2;rw[zap hb]at hbits;rw[zap ha,zap hb,zap q1,zap q2];have e1:((bl b:Int) == 0)=false:=by rw[zbK,qC h]
 have HB:=hid hbits;clear hbits h2
 go_enter func137,ntmps137
 go_wp2_with fail;refine(HB.out _).mono ?_;rintro e w1 ⟨rfl,hb1⟩;obtain⟨n,hn⟩:∃n,n=w.heap.size:=⟨_,rfl⟩;obtain⟨r1,r2,r3,r4,hs⟩:=zmg w w1 _ _ _ _ n hn hb1;have hbw:Below w.heap.size w w1:=((((((Below.refl _ w).alloc (qH _) _).alloc (by simp) _).alloc (by simp;omega) _).alloc (by simp;omega) _)).trans (hb1.mono (by simp;omega));rw[←hn];have HB1:=hid (And.intro hb1 (And.intro hn hbw));clear hb1 hn hbw;have c10:=zav r1 0;have c11:=zav r1 1;have c20:=zav r2 0;have c21:=zav r2 1;have c30:=zav r3 0;have c31:=zav r3 1;have c40:=zav r4 0;have c41:=zav r4 1;have f30:=zb2 r3 0;have f31:=zb2 r3 1;have f40:=zb2 r4 0;have f41:=zb2 r4 1;simp only[List.getElem?_toArray,List.getElem?_cons_zero,pN]at c10 c11 c20 c21 c30 c31 c40 c41;have R:=hid (And.intro r1 (And.intro r2 (And.intro r3 r4)));clear r1 r2 r3 r4
 go_wp2_with fail
 go_region;go_wp2
 have e2:IntKind.u64.wrap ((a:Int) / (b:Int))=((a / b:Nat):Int):=by
  rw[show ((a:Int) / (b:Int))=((a / b:Nat):Int) by simp,zaq];simp only[zaj]at q1;generalize a / b=q at *
  omega
 have e3:((a:Int) % (b:Int))=((a % b:Nat):Int):=by simp
 rw[e2,e3];obtain⟨r1,r2,r3,r4⟩:=R.out;obtain⟨hb1,hn,hbw⟩:=HB1.out;have k3:=zfZ w1 (n+1+1) (.int .u64 ((a / b:Nat):Int)) (.string ⟨#[]⟩);have s3:=zi3 (x':=.int .u64 ((a / b:Nat):Int)) (y':=.string ⟨#[]⟩) r3;have s4:=(k3.block _ (lt_of_block r4) oM).trans r4;generalize ((w1.setCell ⟨n+1+1,0,none⟩ (.int .u64 ((a / b:Nat):Int))).setCell ⟨n+1+1,1,none⟩ (.string ⟨#[]⟩))=w2 at *
 have k4:=zfZ w2 (n+1+1+1) (.int .u64 ((a % b:Nat):Int)) (.string ⟨#[]⟩);have s5:=zi3 (x':=.int .u64 ((a % b:Nat):Int)) (y':=.string ⟨#[]⟩) s4;have s6:=(k4.block _ (lt_of_block s3) oM).trans s3;generalize ((w2.setCell ⟨n+1+1+1,0,none⟩ (.int .u64 ((a % b:Nat):Int))).setCell ⟨n+1+1+1,1,none⟩ (.string ⟨#[]⟩))=w3 at *
 have t30:=zav s6 0;have t31:=zav s6 1;have t40:=zav s5 0;have t41:=zav s5 1;simp only[List.getElem?_toArray,List.getElem?_cons_zero,pN]at t30 t31 t40 t41;refine bodyPost_ret (v:=.tuple #[.agg #[.int .u64 ((a / b:Nat):Int),.string ⟨#[]⟩],.agg #[.int .u64 ((a % b:Nat):Int),.string ⟨#[]⟩],.bool true]) (by simp[results,Tryz.results137,go_sem,t30,t31,t40,t41]) rfl ⟨rfl,?_⟩
 have hb3:Below w.heap.size w w3:=by
  refine hbw.trans ((k3.below _ hbw.size fun j hj e=>by omega).trans (k4.below _ ?_ fun j hj e=>by omega));have:=k3.size;have:=hbw.size;omega
 exact⟨hb3.os,hb3.tape,hb3.output,hb3.size,hb3.block⟩
theorem zfw (n:Nat):(zal n).toList.isEmpty=decide (n<W64):=by
 by_cases h:n<W64
 ·rw[zbP h,qD h];simp
 ·rw[zeJ h,qC h]
set_option maxRecDepth 100000 in
theorem zq8 (a b:Nat) (w:World) (h:a<b) (hs:¬(a<W64∧b<W64)) (ha:big a) (h2:big b) :
  Calls prog 137 #[zaD a,zaD b] w fun e w'=>e=.returned (.tuple #[zaD 0,zaD a,.bool true])∧Below w.heap.size w w':=by
 have hbits:=fun w=>zie b w h2;have hcmp:=fun w=>zoP a b w ha h2;rw[zco h]at hcmp;have e1:((bl b:Int) == 0)=false:=by rw[zbK,qC (by omega)]
 have hm:((zal a).toList.isEmpty=true∧(zal b).toList.isEmpty=false)∨(zal a).toList.isEmpty=false:=by
  rw[zfw,zfw];by_cases h1:a<W64
  ·exact .inl ⟨qD h1,qC fun h2=>hs ⟨h1,h2⟩⟩
  ·exact .inr (qC h1)
 rw[zap (show 0<W64 by decide)];unfold zaD at *
 generalize lo a=la at *
 generalize lo b=lb at *
 generalize zal a=ma at *
 generalize zal b=mb at *
 have HB:=hid (And.intro hbits hcmp);clear hbits hcmp h2 ha
 go_enter func137,ntmps137
 go_wp2_with fail;refine(HB.out.1 _).mono ?_;rintro e w1 ⟨rfl,hb1⟩;obtain⟨n,hn⟩:∃n,n=w.heap.size:=⟨_,rfl⟩;obtain⟨r1,r2,r3,r4,hs⟩:=zmg w w1 _ _ _ _ n hn hb1;have hbw:Below w.heap.size w w1:=((((((Below.refl _ w).alloc (qH _) _).alloc (by simp) _).alloc (by simp;omega) _).alloc (by simp;omega) _)).trans (hb1.mono (by simp;omega));rw[←hn];have HB1:=hid (And.intro hb1 (And.intro hn hbw));clear hb1 hn hbw;have c10:=zav r1 0;have c11:=zav r1 1;have c20:=zav r2 0;have c21:=zav r2 1;have c30:=zav r3 0;have c31:=zav r3 1;have c40:=zav r4 0;have c41:=zav r4 1;have f30:=zb2 r3 0;have f31:=zb2 r3 1;have f40:=zb2 r4 0;have f41:=zb2 r4 1;simp only[List.getElem?_toArray,List.getElem?_cons_zero,pN]at c10 c11 c20 c21 c30 c31 c40 c41;have R:=hid (And.intro r1 (And.intro r2 (And.intro r3 r4)));clear r1 r2 r3 r4;clear hs;rcases hm with ⟨m1,m2⟩ | m1
 all_goals
  go_wp2_with fail;refine(HB.out.2 _).mono ?_;rintro e w2 ⟨rfl,hb2⟩;clear c10 c11 c20 c21 c30 c31 c40 c41 f30 f31 f40 f41;obtain⟨r1,r2,r3,r4⟩:=R.out;obtain⟨hb1,hn,hbw⟩:=HB1.out;have r1:=(hb2.block _ (lt_of_block r1)).trans r1;have r2:=(hb2.block _ (lt_of_block r2)).trans r2;have r3:=(hb2.block _ (lt_of_block r3)).trans r3;have r4:=(hb2.block _ (lt_of_block r4)).trans r4;have hbw:=hbw.trans (hb2.mono hbw.size);have HB2:=hid (And.intro hn hbw);clear R HB1 hb1 hn hbw hb2;have c10:=zav r1 0;have c11:=zav r1 1;have c20:=zav r2 0;have c21:=zav r2 1;have c30:=zav r3 0;have c31:=zav r3 1;have c40:=zav r4 0;have c41:=zav r4 1;have f30:=zb2 r3 0;have f31:=zb2 r3 1;have f40:=zb2 r4 0;have f41:=zb2 r4 1;simp only[List.getElem?_toArray,List.getElem?_cons_zero,pN]at c10 c11 c20 c21 c30 c31 c40 c41;have R:=hid (And.intro r1 (And.intro r2 (And.intro r3 r4)));clear r1 r2 r3 r4
  go_wp2_with fail
  go_region;go_wp2;obtain⟨r1,r2,r3,r4⟩:=R.out;obtain⟨hn,hbw⟩:=HB2.out;have k3:=zfZ w2 (n+1+1) (.int .u64 0) (.string ⟨#[]⟩);have s3:=zi3 (x':=.int .u64 0) (y':=.string ⟨#[]⟩) r3;have s4:=(k3.block _ (lt_of_block r4) oM).trans r4;generalize ((w2.setCell ⟨n+1+1,0,none⟩ (.int .u64 0)).setCell ⟨n+1+1,1,none⟩ (.string ⟨#[]⟩))=w3 at *
  have k4:=zfZ w3 (n+1+1+1) (.int .u64 (la:Int)) (.string ma);have s5:=zi3 (x':=.int .u64 (la:Int)) (y':=.string ma) s4;have s6:=(k4.block _ (lt_of_block s3) oM).trans s3;generalize ((w3.setCell ⟨n+1+1+1,0,none⟩ (.int .u64 (la:Int))).setCell ⟨n+1+1+1,1,none⟩ (.string ma))=w4 at *
  have t30:=zav s6 0;have t31:=zav s6 1;have t40:=zav s5 0;have t41:=zav s5 1;simp only[List.getElem?_toArray,List.getElem?_cons_zero,pN]at t30 t31 t40 t41;refine bodyPost_ret (v:=.tuple #[.agg #[.int .u64 0,.string ⟨#[]⟩],.agg #[.int .u64 (la:Int),.string ma],.bool true]) (by simp[results,Tryz.results137,go_sem,t30,t31,t40,t41]) rfl ⟨rfl,?_⟩
  have hb3:Below w.heap.size w w4:=by
   refine hbw.trans ((k3.below _ hbw.size fun j hj e=>by omega).trans (k4.below _ ?_ fun j hj e=>by omega));have:=k3.size;have:=hbw.size;omega
  exact⟨hb3.os,hb3.tape,hb3.output,hb3.size,hb3.block⟩
theorem ztl {α:Type} {enc:α→Value} {H:Hp} {W W':World} (hf:Fits H W) (hb:Below W.heap.size W W') {g h:Nat} (hg:W.heap.size≤g) (hgh:g<h) {l m:List α} (hB:Blk enc W' g l) (hC:Blk enc W' h m) :
  ∃H':Hp,H.Le H'∧Fits H' W'∧Nw H W.heap.size H' W'∧SlN enc H' (.slice (some ⟨g,0,none⟩) l.length l.length) l∧SlN enc H' (.slice (some ⟨h,0,none⟩) m.length m.length) m:=by
 have hn:∀k,W.heap.size≤k→H k=none:=fun k hk=>by
  cases hc:H k with
  | none=>rfl
  | some c=>have:=hf.lt (b:=k) (by rw[hc];simp);omega
 obtain⟨T,hT⟩:=hB;obtain⟨U,hU⟩:=hC;refine⟨(H.put g (cellsOf enc l)).put h (cellsOf enc m),fun b c e=>?_,fun b c e=>?_,fun b c e=>?_,⟨by simp,.inr ⟨g,0,l.length,cellsOf enc l,rfl,qH _,?_,fun j x hj=>by simpa[cellsOf] using hj⟩⟩,⟨by simp,.inr ⟨h,0,m.length,cellsOf enc m,rfl,qH _,?_,fun j x hj=>by simpa[cellsOf] using hj⟩⟩⟩
 ·have h1:b≠g:=fun e'=>by subst e';rw[hn _ hg]at e;cases e
  have h2:b≠h:=fun e'=>by subst e';rw[hn _ (by omega)]at e;cases e
  simp only[Hp.put,if_neg h1,if_neg h2];exact e
 ·simp only[Hp.put]at e;split at e
  ·rename_i e';subst e';cases e;exact⟨U,(0,0),hU⟩
  ·split at e
   ·rename_i e';subst e';cases e;exact⟨T,(0,0),hT⟩
   ·exact hf.below hb b c e
 ·simp only[Hp.put]at e;split at e
  ·rename_i e';subst e';cases e;exact .inr ⟨by omega,U,hU⟩
  ·split at e
   ·rename_i e';subst e';cases e;exact .inr ⟨hg,T,hT⟩
   ·exact .inl e
 ·simp only[Hp.put,if_neg (show g≠h by omega),if_true]
 ·simp only[Hp.put,if_true]
theorem ztK {H:Hp} {g cap:Nat} {q:List Nat} (h:H g=some (q.map n64).toArray) (k:Nat) (hk:k≤q.length) (hc:k≤cap):SlN n64 H (.slice (some ⟨g,0,none⟩) k cap) (q.take k):=by
 have e:(q.take k).length=k:=by simp;omega
 unfold SlN;rw[e];refine⟨by simp;omega,.inr ⟨g,0,cap,_,rfl,hc,h,fun j x hj=>?_⟩⟩;rw[qK,pP]at hj;split at hj
 ·simpa using hj
 ·cases hj
theorem zoj (n:Nat) (h:n≠0) (hn:big n) (H:Hp):PO prog 144 #[zaD n] H fun v ow=>∃g,v=.slice (some ⟨g,0,none⟩) (dig W64 n).length (dig W64 n).length∧ow=[(g,45,(dig W64 n).map n64)]:=by
 refine⟨(cO func144),fun W hW _=>(zhh n W h hn).mono fun e W' ⟨g,hg,he,hB,hb⟩=>?_⟩;refine⟨_,[(g,45,(dig W64 n).map n64)],he,⟨g,rfl,rfl⟩,⟨by simp,fun b T cs hm=>?_⟩,hb⟩;simp at hm;obtain⟨rfl,rfl,rfl⟩:=hm;exact⟨hg,hB⟩
theorem zns (B cap d:Nat) (l:List Nat) (H:Hp) (hD:Dig W64 l) (hl:l.length≤100000000) (hcap:l.length≤cap) (hd0:0<d) (hd:d<W64) :
  PM prog 182 #[.slice (some ⟨B,0,none⟩) l.length cap,n64 d] H B (l.map n64) fun v cs=>∃q,v=.tuple #[.slice (some ⟨B,0,none⟩) (zaG q).length cap,n64 (val W64 l % d)]∧cs=q.map n64∧q.length=l.length∧Dig W64 q∧val W64 q=val W64 l / d :=
 ⟨(cO func182),fun W T _ _ hB=>(zk5 T B cap d l W hB hD hl hcap hd0 hd).mono fun e W' ⟨q,he,hq,h1,h2,h3,hk⟩=>⟨_,_,he,⟨q,rfl,rfl,h1,h2,h3⟩,hq,hk⟩⟩
theorem zk6 {u v:Value} {x y:List Nat} {H:Hp} (hu:SlN n64 H u x) (hv:SlN n64 H v y) (hDx:Dig W64 x) (hNy:zdX W64 y) (hx:x.length≤100000000) (hy2:2≤y.length) (hxy:y.length≤x.length) :
  PC prog 183 #[u,v] H fun r H'=>∃a b q m,r=.tuple #[a,b]∧SlN n64 H' a q∧SlN n64 H' b m∧Dig W64 q∧Dig W64 m∧q.length≤x.length∧m.length≤x.length∧val W64 q=val W64 x / val W64 y∧val W64 m=val W64 x % val W64 y:=by
 refine⟨(cO func183),fun W hW _=>?_⟩;obtain⟨a,cap,rfl,hS,_⟩:=hu.sl hW;obtain⟨a',cap',rfl,hS',_⟩:=hv.sl hW;refine(zjz a a' cap cap' x y W hS hS' hDx hNy hx hy2 hxy).mono ?_;rintro e W' ⟨q,r,g,h,he,hBq,hBr,hDq,hDr,hql,hrl,hvq,hvr,hb,hg,hgh⟩;obtain⟨H',h1,h2,h3,h4,h5⟩:=ztl hW hb hg hgh hBq hBr;exact⟨_,H',he,⟨_,_,q,r,rfl,h4,h5,hDq,hDr,hql,hrl,hvq,hvr⟩,h1,h2,hb,h3⟩
theorem zjT (a b:Nat) (h:b≠0) (ha:a<W64) (hb:b<W64):PV prog 137 #[zaD a,zaD b] (.tuple #[zaD (a / b),zaD (a % b),.bool true]) :=
 ⟨(cO func137),fun W _=>div_one a b W h ha hb⟩
theorem zlj (a b:Nat) (h:a<b) (hs:¬(a<W64∧b<W64)) (ha:big a) (hb:big b):PV prog 137 #[zaD a,zaD b] (.tuple #[zaD (a / b),zaD (a % b),.bool true]):=by
 rw[Nat.div_eq_of_lt h,qT h];exact⟨(cO func137),fun W _=>zq8 a b W h hs ha hb⟩
theorem zlk (a b:Nat) (h:b≠0) (h1:¬a<W64) (h2:b<W64) (ha:big a):PV prog 137 #[zaD a,zaD b] (.tuple #[zaD (a / b),zaD (a % b),.bool true]):=by
 have hb:big b:=qI (zaU (k:=64) (by rw[←zaC];exact h2)) oM;have q2:a % b<W64:=Nat.lt_trans (qo _ oM) h2;have hge:decide (zbv a b<0)=false:=by rw[zcn (by omega)];rfl
 have la:=zaI ha;have vla:=zaw zaf a;have da:=(zao zaf a).1;have hpa:=fun G=>zoj a (by have:=zaf;omega) ha G;refine PV.of_pc ?_;rw[zap q2];refine BD func137 ntmps137 ?_
 repeat (first|refine RUN ?_|refine CV (zbc b hb) ?_|refine CE (zbc b hb) ?_)
 rw[zbK,qC h];refine uR ?_;rw[zdy h1]
 repeat (first|refine RUN ?_|refine CV (zaL _ _ ha hb) ?_|refine CE (zaL _ _ ha hb) ?_)
 rw[hge];refine uR ?_;rw[zfa h2];refine uR ?_;refine EVD.start kR ?_;apply EVD.head0 4 kR;intro x y;(repeat refine' DD ?_);refine' DJ.callO rfl rfl rfl rfl rfl (hpa gH).can (fun G _ _=>hpa G) ?_;rotate_left;(repeat refine' DD ?_);(refine DJ.nil (fun G hG hF=>?_);(case hS|hS2=>rfl));obtain⟨⟨g,hv,how⟩,_⟩:=hF;rw[hv,how];rw[zcW h2];refine EVL.nil ⟨rfl,?_⟩;refine EVD.one kR rfl ?_;have hpm:=zns g (dig W64 a).length b (dig W64 a) G da oM (qH _) oM h2;rw[vla]at hpm;refine EVL.callM rfl rfl rfl rfl rfl [] [] rfl hpm ?_;rintro v cs ⟨q,rfl,rfl,hql,hqD,hqv⟩;refine EVL.nil ⟨rfl,?_⟩;refine EVD.one kR rfl ?_;refine uR ?_;refine⟨rfl,?_⟩;refine EVD.shift 6 kR (by decide) ?_;apply EVD.drawn 3 kR;intro x y;(repeat refine' DD ?_);(refine DJ.nil (fun G hG hF=>?_);(case hS|hS2=>rfl));refine uR ?_;refine EVL.publish [] [] rfl fun G2 hle2 hG2=>?_;have hsl:=ztK (cap:=(dig W64 a).length) hG2 (zaG q).length (za7 q) (by rw[←hql];exact za7 q);rw[zdR]at hsl;have f1:=zaQ hsl (zcN hqD).1 (by have:=za7 q;omega);rw[zcO,hqv]at f1;refine EVL.call rfl rfl rfl rfl rfl f1 ?_;rintro v' H1 rfl hle;refine uR ?_;rfl
theorem zjU (a b:Nat) (hab:b≤a) (h2:¬b<W64) (ha:big a) (hb:big b):PV prog 137 #[zaD a,zaD b] (.tuple #[zaD (a / b),zaD (a % b),.bool true]):=by
 have hb0:b≠0:=by have:=zaf;omega
 have h1:¬a<W64:=oM
 have hge:decide (zbv a b<0)=false:=by
  rcases Nat.lt_or_eq_of_le hab with h | h
  ·rw[zcn h];rfl
  ·subst h;simp[zbv]
 have la:=zaI ha;have lb:=zaI hb
 have hlb:2≤(dig W64 b).length:=by
  rw[zgp b hb0];have:hiW b≠[]:=fun e=>h2 (ze8.1 e);have:=List.length_pos_iff.2 this;simp;omega
 have hlab:(dig W64 b).length≤(dig W64 a).length:=zbX zaf hab;have hpa:=fun G=>zdU a ha G;have hpb:=fun G=>zdU b hb G;refine PV.of_pc ?_;refine BD func137 ntmps137 ?_
 repeat (first|refine RUN ?_|refine CV (zbc b hb) ?_|refine CE (zbc b hb) ?_)
 rw[zbK,qC hb0];refine uR ?_;rw[zdy h1]
 repeat (first|refine RUN ?_|refine CV (zaL _ _ ha hb) ?_|refine CE (zaL _ _ ha hb) ?_)
 rw[hge];refine uR ?_;rw[zdy h2];refine uR ?_;apply EV.drawn 9 kR kR;intro xv yw;(repeat refine' DD ?_);refine' vB (hpa gH).can (fun G _ _=>hpa G) (fun v G G' h k=>h.mono k) ?_;rotate_left;(repeat refine' DD ?_);refine' vB (hpb gH).can (fun G _ _=>hpb G) (fun v G G' h k=>h.mono k) ?_;rotate_left;refine' vB (cO func183) (fun G _ hd=>zk6 (hd.tail.head kR) (hd.head kR) (zao zaf a).1 (zao zaf b) oM hlb hlab) (fun v G G' ⟨u,w,q,m,e,h1,h2,r⟩ k=>⟨u,w,q,m,e,h1.mono k,h2.mono k,r⟩) ?_;rotate_left;refine' DJ.copy (0+1+1+1+1) (.inl rfl) rfl rfl rfl id rfl kR ?_;rotate_left;refine' DJ.extract (0+1+1+1+1) (k:=0) rfl rfl rfl rfl rfl kR (fun G hd=>?e1) ?_
 case e1=>obtain⟨u,w,q,m,e,_⟩:=hd.head kR;exact⟨_,e,by simp⟩
 rotate_left;refine' DJ.extract (0+1+1+1+1) (k:=1) rfl rfl rfl rfl rfl kR (fun G hd=>?e2) ?_
 case e2=>obtain⟨u,w,q,m,e,_⟩:=hd.head kR;exact⟨_,e,by simp⟩
 rotate_left;refine' DJ.copy (0+1+1+1+1) (.inr rfl) rfl rfl rfl (zkt 0) rfl kR ?_;rotate_left;(refine DJ.nil (fun G hG hF=>?_);(case hS|hS2=>rfl));obtain⟨⟨u,w,q,m,e,hq,hm,hDq,hDm,hlq,hlm,hvq,hvm⟩,_⟩:=hF;rw[e];rw[zaw zaf,zaw zaf]at hvq hvm;have f1:=fun G=>zaQ (H:=G) (v:=u) (l:=q);have f2:=fun G=>zaQ (H:=G) (v:=w) (l:=m);rw[hvq]at f1;rw[hvm]at f2;refine uR ?_;refine EVL.call rfl rfl rfl rfl rfl (f1 _ hq hDq oM) ?_;rintro v' H1 rfl hle;refine uR ?_;refine EVL.call rfl rfl rfl rfl rfl (f2 _ (hm.mono hle) hDm oM) ?_;rintro v' H2 rfl hle2;refine uR ?_;rfl
theorem zeL (a b:Nat) (h:b≠0) (ha:big a) (hb:big b):PV prog 137 #[zaD a,zaD b] (.tuple #[zaD (a / b),zaD (a % b),.bool true]):=by
 by_cases hs:a<W64∧b<W64
 ·exact zjT a b h hs.1 hs.2
 ·rcases Nat.lt_or_ge a b with hl | hge
  ·exact zlj a b hl hs ha hb
  ·by_cases h2:b<W64
   ·exact zlk a b h (fun h1=>hs ⟨h1,h2⟩) h2 ha
   ·exact zjU a b hge h2 ha hb
theorem zlm (a k:Nat) (hk:k≤65536) (ha:big a):PV prog 190 #[zaD a,.int .i64 (k:Int)] (zaD (a*2 ^ k)):=by
 have la:=zaI ha;have hs:=fun v H h=>zn6 (v:=v) (l:=dig W64 a) (H:=H) h (zao zaf a).1 oM k oM;rw[zaw zaf]at hs;refine PV.of_pc ?_;refine BD func190 ntmps190 ?_;refine uR ?_;rw[show (if (if (65536:Int)<k then 65536 else (k:Int)) > -65536 then (if (65536:Int)<k then 65536 else (k:Int)) else -65536)=(k:Int) by (repeat split) <;> omega];refine uR ?_;rw[show decide ((k:Int)<0)=false by simp];refine uR ?_;refine vA (zdU a ha _) ?_;rintro v H1 hv hle;refine uR ?_;refine vA (hs _ _ hv) ?_;rintro v2 H2 ⟨out,h1,h2,h3,h4⟩ hle2;refine uR ?_;have hf:=zaQ h1 h3 oM;rw[h4]at hf;refine EVL.call rfl rfl rfl rfl rfl hf ?_;rintro v3 H3 rfl hle3;refine uR ?_;rfl
end Go.Proofs.YteoollbcdpfkpaaGreatDoor
namespace Go.Proofs.YteoollbcdpfkpaaGreatDoor
def pk (K B:Nat) (l:List Nat) (m:Nat):List Nat:=(List.range m).map fun j=>val B ((l.drop (K*j)).take K)
theorem zaA (K B:Nat) (l:List Nat) (m:Nat):(pk K B l m).length=m:=by simp[pk]
theorem zmC (K B m:Nat):pk K B [] m=List.replicate m 0:=by
 apply List.ext_getElem?;intro i;rw[pk,qK,List.getElem?_replicate];by_cases h:i<m
 ·rw[List.getElem?_range h,if_pos h];simp[val]
 ·rw[if_neg h,qg (by simp;omega)];rfl
theorem ziM (K B:Nat) (l:List Nat) (m j:Nat) (h:j<m):(pk K B l m).getD j 0=val B ((l.drop (K*j)).take K):=by
 rw[qB,pk,qK,List.getElem?_range h];rfl
theorem zhU {K B:Nat} {l:List Nat} (hB:0<B) (hD:Dig B l) (m:Nat):Dig (B ^ K) (pk K B l m):=by
 intro x hx;rw[pk,List.mem_map]at hx;obtain⟨j,_,rfl⟩:=hx;refine Nat.lt_of_lt_of_le (zax ((hD.drop _).take _)) (qf hB ?_);rw[qP];omega
theorem zsn {K B:Nat} {l:List Nat} (hK:0<K) (hD:Dig B l) (m:Nat) (h:l.length<K*m):(pk K B l m).getD (l.length / K) 0<B ^ (l.length % K):=by
 rw[ziM _ _ _ _ _ (Nat.div_lt_of_lt_mul h)];have h1:=zax ((hD.drop (K*(l.length / K))).take K);have h2:=qm l.length K;have h3:=qo l.length hK
 rwa [qP,qu,Nat.min_eq_right oM,show l.length-K*(l.length / K)=l.length % K by omega]at h1
theorem zly {K B:Nat} {l:List Nat} (hK:0<K) (m x:Nat) (h:l.length<K*m) :
  pk K B (l++[x]) m=(pk K B l m).set (l.length / K) ((pk K B l m).getD (l.length / K) 0+x*B ^ (l.length % K)):=by
 have hq:l.length / K<m:=Nat.div_lt_of_lt_mul h;have h2:=qm l.length K;have h3:=qo l.length hK;apply List.ext_getElem?;intro i;by_cases hi:i<m
 ·have e1:(pk K B (l++[x]) m)[i]?=some (val B (((l++[x]).drop (K*i)).take K)):=by rw[pk,qK,List.getElem?_range hi];rfl
  rw[e1];by_cases e:l.length / K=i
  ·subst e;rw[List.getElem?_set_self (by rw[zaA];exact hi),ziM _ _ _ _ _ hq];congr 1;rw[List.drop_append_of_le_length oM,qO (by rw[qJ,qu,qx];omega),qO (by rw[qu];omega),zb9,qu,show l.length-K*(l.length / K)=l.length % K by omega]
  ·rw[List.getElem?_set_ne e,pk,qK,List.getElem?_range hi];simp only[Option.map_some];congr 2;by_cases hlt:i<l.length / K
   ·have:K*(i+1)≤K*(l.length / K):=qe K hlt;rw[Nat.mul_add]at this;rw[List.drop_append_of_le_length oM,List.take_append_of_le_length (by rw[qu];omega)]
   ·have:K*(l.length / K+1)≤K*i:=qe K oM;rw[Nat.mul_add]at this;rw[qk (by rw[qJ,qx];omega),qk (by omega)]
 ·rw[qg (by rw[zaA];omega),qg (by rw[List.length_set,zaA];omega)]
theorem zhV (K B:Nat) (hK:0<K) (m:Nat):∀l:List Nat,l.length≤K*m→val (B ^ K) (pk K B l m)=val B l:=by
 intro l;generalize hn:l.length=n
 induction n generalizing l with
 | zero=>intro _;rw[List.eq_nil_of_length_eq_zero hn,zmC,zbo];rfl
 | succ n ih =>
  intro h;have hne:l≠[]:=by intro e;rw[e]at hn;cases hn
  have hd:=List.dropLast_concat_getLast hne;have hl:l.dropLast.length=n:=by rw[List.length_dropLast,hn];rfl
  have h1:=ih l.dropLast hl oM;rw[←hd];generalize l.dropLast=s at *
  generalize l.getLast hne=x at *
  rw[zly hK m x oM,zb9];have h2:=zbu (B ^ K) (pk K B s m) (s.length / K) ((pk K B s m).getD (s.length / K) 0+x*B ^ (s.length % K)) (by rw[zaA];exact Nat.div_lt_of_lt_mul oM)
  have h3:x*B ^ s.length=x*B ^ (s.length % K)*(B ^ K) ^ (s.length / K):=by
   rw[←Nat.pow_mul,Nat.mul_assoc,←Nat.pow_add,Nat.add_comm,qm]
  rw[qw,←h3,h1]at h2;omega
def zjd (n:Nat):List Nat:=(dig 256 n).reverse
theorem zcm (n:Nat):(zjd n).length=(dig 256 n).length:=by simp[zjd]
theorem ziF (n:Nat):Dig 256 (zjd n):=fun x hx=>(zao (by decide) n).1 x (by simpa[zjd] using hx)
theorem zmu (n:Nat):val 256 (zjd n).reverse=n:=by rw[zjd,List.reverse_reverse];exact zaw (by decide) n
theorem zpE (n N:Nat) (hN:N=(dig 256 n).length) (out:List Nat) (h:out.length=N) (hj:∀j,j<N→out.getD (N-1-j) 0=n / 256 ^ j % 256):out=zjd n:=by
 apply List.ext_getElem?;intro i;by_cases hi:i<N
 ·have h1:=hj (N-1-i) oM;rw[show N-1-(N-1-i)=i by omega,←zq5 (by decide)]at h1;rw[zjd,List.getElem?_reverse oM,←hN];rw[qB,qB,qA oM,qA (by omega)]at h1;rw[qA oM,qA (by omega)];exact congrArg some h1
 ·rw[qg oM,qg (by rw[zcm];omega)]
end Go.Proofs.YteoollbcdpfkpaaGreatDoor
namespace Go.Proofs.YteoollbcdpfkpaaGreatDoor
open Go.RowKit _root_.Go.Proofs.Tryz
theorem q8 (i:Nat) (h:i≤2000000000):IntKind.i64.wrap ((i:Int).tdiv 8)=((i / 8:Nat):Int):=by
 rw[pM,Int.tdiv_eq_ediv_of_nonneg (by omega)];omega
theorem r8 (i:Nat):IntKind.i64.wrap (8*(i:Int).tmod 8)=((8*(i % 8):Nat):Int):=by
 rw[pM,Int.tmod_eq_emod_of_nonneg (by omega)];omega
theorem zt0 (n i:Nat) (h:i<n) (hn:n≤2000000000):IntKind.i64.wrap (IntKind.i64.wrap ((n:Int)-1)-(i:Int))=((n-1-i:Nat):Int):=by
 rw[pM,pM];omega
theorem zoF (c x p:Nat) (hc:c<2 ^ p) (hx:x<256) (hp:p≤56) :
  IntKind.u64.wrap (((BitVec.ofInt IntKind.u64.bits (c:Int) ||| BitVec.ofInt IntKind.u64.bits (IntKind.u64.wrap (IntKind.u64.wrap (x:Int)*2 ^ (min p IntKind.u64.bits)))).toNat:Nat):Int)=((c+x*2 ^ p:Nat):Int):=by
 have h56:(2:Nat) ^ p≤2 ^ 56:=qf oM hp;have h1:x*2 ^ p≤255*2 ^ 56:=Nat.mul_le_mul oM h56
 have e1:IntKind.u64.wrap (IntKind.u64.wrap (x:Int)*2 ^ (min p IntKind.u64.bits))=((x*2 ^ p:Nat):Int):=by
  rw[show min p IntKind.u64.bits=p from qp (by show p≤64;omega),zbe,qT oM,show ((x:Int)*2 ^ p)=((x*2 ^ p:Nat):Int) by push_cast;rfl,zbe,qT (by omega)]
 rw[e1];refine(u64_or_nat _ _ oM oM).trans ?_;rw[zdh _ _ p (2 ^ p) rfl hc]
theorem Dig.rev {B:Nat} {l:List Nat} (h:Dig B l):Dig B l.reverse:=fun x hx=>h x (List.mem_reverse.1 hx)
theorem zdz {v:Value} {l:List Nat} {H:Hp} (h:SlN n8 H v l) (hD:Dig 256 l) (hl:l.length≤200000000):PC prog 162 #[v] H fun r _=>r=zaD (val 256 l.reverse):=by
 obtain⟨a,cap,rfl⟩:=SlC.val h;generalize hm:(l.length+7) / 8=m;refine BD func162 ntmps162 ?_;refine uR ?_;refine EVL.make tO rfl rfl rfl rfl rfl rfl rfl rfl rfl m ?_ oM (by rfl) (by rfl) fun g=>?_
 ·rw[show IntKind.i64.wrap ((l.length:Int)+7)=((l.length+7:Nat):Int) by rw[pM];omega,q8 _ oM,hm]
 refine uR ?_
 have e0:(List.replicate m (Tryz.te45.zero)).flatten=(pk 8 256 (l.reverse.take 0) m).map n64:=by
  rw[List.take_zero,zmC,List.map_replicate];rw[show (Tryz.te45.zero)=[n64 0] from rfl];simp
 rw[e0]
 refine EV.loop (ι:=Nat) (fun i=>[(2,.p 2 0),(0,.v (.slice a l.length cap)),(3,.v (.slice (some ⟨g,0,none⟩) m m)),(11,.v (.int .i64 (l.length:Int))),(12,.v (.int .i64 (i:Int)))]) (fun _=>[(2,47,Tryz.te47.zero)]) (fun i=>[(g,45,(pk 8 256 (l.reverse.take i) m).map n64)])
  (fun i G=>i≤l.length∧SlN n8 G (.slice a l.length cap) l) (fun i=>l.length-i) 0 ⟨rfl,rfl,rfl,rfl,rfl,trivial⟩ ⟨rfl,trivial⟩ rfl (fun _=>rfl) ⟨qQ _,h⟩ ?_
 rintro i G hG ⟨hi,hs⟩;refine uR ?_;by_cases hlt:i<l.length
 ·have him:i / 8<m:=oM;have hrl:(l.reverse.take i).length=i:=by rw[qP,List.length_reverse];omega
  have hx:l.getD (l.length-1-i) 0<256:=hD.getD (by decide) _
  have hxs:(l.map n8)[l.length-1-i]?=some (n8 (l.getD (l.length-1-i) 0)):=by
   rw[qK,qB,qA (show l.length-1-i<l.length by omega)];rfl
  have hcur:((pk 8 256 (l.reverse.take i) m).map n64)[i / 8]?=some (n64 ((pk 8 256 (l.reverse.take i) m).getD (i / 8) 0)):=by
   rw[qK,qB,qA (by rw[zaA];exact him)];rfl
  have hlow:=zsn (K:=8) (B:=256) (by decide) ((hD.rev).take i) m (by rw[hrl];omega);rw[hrl]at hlow;have hsn:=zly (K:=8) (B:=256) (l:=l.reverse.take i) (by decide) m (l.getD (l.length-1-i) 0) (by rw[hrl];omega);rw[hrl]at hsn;rw[show decide ((i:Int)<(l.length:Int))=true by simpa using hlt];refine uR ?_;apply EV.drawn 18 kR kR;intro xv yw;(repeat refine' DD ?_);refine' DJ.ofVal (zab.idxP1 tO rfl rfl rfl rfl rfl rfl rfl rfl (i / 8) (q8 i oM) him) rfl rfl rfl ?_;rotate_left;refine' DJ.ofVal (zab.load1 tO rfl rfl rfl rfl rfl rfl 0 rfl hcur) rfl rfl rfl ?_;rotate_left;(repeat refine' DD ?_);refine' DJ.ofVal (zab.idx1 tO rfl rfl rfl rfl rfl rfl rfl rfl hs (l.length-1-i) (zt0 _ _ hlt oM) oM hxs) rfl rfl rfl ?_;rotate_left;(repeat refine' DD ?_);refine' DJ.ofVal (zab.shl rfl rfl rfl rfl (by rw[r8];omega)) rfl rfl rfl ?_;rotate_left;(refine DJ.nil (fun G hG hF=>?_);(case hS|hS2=>rfl));rw[r8,qU];refine uR ?_;rw[zoF _ _ _ (by rw[Nat.pow_mul];exact hlow) hx (by omega)];refine EVL.ofVal (zab.idxP1 tO rfl rfl rfl rfl rfl rfl rfl rfl (i / 8) (q8 i oM) him) rfl rfl rfl fun G4 hG4=>?_;refine EVL.set1 tO rfl rfl rfl rfl rfl rfl rfl rfl rfl rfl (by rw[qV,zaA];exact him) ?_;refine uR ?_
  have hnext:l.reverse.take (i+1)=l.reverse.take i++[l.getD (l.length-1-i) 0]:=by
   rw[qS (by rw[List.length_reverse];exact hlt),List.getElem_reverse,qB,qA (show l.length-1-i<l.length by omega)];rfl
  refine⟨i+1,⟨rfl,rfl,rfl,rfl,?_,trivial⟩,⟨rfl,trivial⟩,?_,⟨by omega,hs.mono (hG.trans hG4)⟩,hG.trans hG4,by omega⟩
  ·rw[show IntKind.i64.wrap ((i:Int)+1)=((i+1:Nat):Int) by rw[pM];omega];rfl
  ·rw[hnext,hsn,List.map_set,show (256:Nat) ^ (i % 8)=2 ^ (8*(i % 8)) by rw[Nat.pow_mul]]
 ·rw[show decide ((i:Int)<(l.length:Int))=false by simpa using hlt];obtain rfl:i=l.length:=oM;rw[qO (by rw[List.length_reverse];exact qH _)];refine uR ?_;refine EVL.publish [] [] rfl fun G2 hG2 hg=>?_;have hpl:(pk 8 256 l.reverse m).length=m:=zaA _ _ _ _
  have hsl:SlN n64 G2 (.slice (some ⟨g,0,none⟩) m m) (pk 8 256 l.reverse m):=by
   unfold SlN;rw[hpl];exact⟨by simp[hpl],.inr ⟨g,0,m,_,rfl,qH _,hg,fun j x hj=>by simpa using hj⟩⟩
  have hf:=zaQ hsl (by rw[zcB];exact zhU (by decide) hD.rev m) oM;rw[zcB,zhV 8 256 (by decide) m l.reverse (by rw[List.length_reverse];omega)]at hf;refine EVL.call rfl rfl rfl rfl rfl hf ?_;rintro v' H' rfl hle;refine uR ?_;rfl
theorem zmP (c p:Nat) (hc:c<W64) (hp:p≤63):IntKind.u8.wrap ((c:Int).fdiv (2 ^ (min p IntKind.u64.bits)))=((c / 2 ^ p % 256:Nat):Int):=by
 rw[show min p IntKind.u64.bits=p from qp (by show p≤64;omega),show ((2:Int) ^ p)=((2 ^ p:Nat):Int) by push_cast;rfl,Int.fdiv_eq_ediv_of_nonneg _ (Int.natCast_nonneg _),←Int.natCast_ediv,zsy];omega
theorem zgE (n:Nat) (hn:big n) (H:Hp):PC prog 178 #[zaD n] H fun r H'=>SlN n8 H' r (zjd n):=by
 have hN:(dig 256 n).length=(bl n+7) / 8:=by have:=zaP 8 n oM;rw[show (2:Nat) ^ 8=256 by decide]at this;rw[this];omega
 generalize hNe:(bl n+7) / 8=N at *
 have hwp:=fun G=>zdU n hn G;refine BD func178 ntmps178 ?_
 repeat (first|refine RUN ?_|refine CV (zbc n hn) ?_|refine CE (zbc n hn) ?_)
 rw[show IntKind.i64.wrap ((bl n:Int)+7)=((bl n+7:Nat):Int) by rw[pM];omega,q8 _ oM,hNe];refine uR ?_;refine EVL.make tO rfl rfl rfl rfl rfl rfl rfl rfl rfl N rfl oM (by rfl) (by rfl) fun g=>?_;refine uR ?_
 have e0:(List.replicate N (Tryz.te5.zero)).flatten=(List.replicate N 0).map n8:=by
  rw[List.map_replicate,show (Tryz.te5.zero)=[n8 0] from rfl];simp
 rw[e0];refine vA (hwp _) ?_;rintro v H1 hv hle;refine uR ?_
 refine EV.loop (ι:=Nat × List Nat) (fun q=>[(3,.v (.int .i64 (N:Int))),(4,.v (.slice (some ⟨g,0,none⟩) N N)),(5,.v v),(15,.v (.int .i64 (N:Int))),(16,.v (.int .i64 (q.1:Int)))]) (fun _=>[]) (fun q=>[(g,5,q.2.map n8)])
  (fun q G=>q.1≤N∧q.2.length=N∧(∀j,j<q.1→q.2.getD (N-1-j) 0=n / 256 ^ j % 256)∧SlN n64 G v (dig W64 n)) (fun q=>N-q.1) (0,List.replicate N 0) ⟨rfl,rfl,rfl,rfl,rfl,trivial⟩ trivial rfl (fun _=>rfl) ⟨qQ _,by simp,fun j hj=>absurd hj (Nat.not_lt_zero _),hv⟩ ?_
 rintro⟨i,cur⟩ G hG ⟨hi,hlen,hcs,hs⟩;dsimp only at hi hlen hcs;refine uR ?_;by_cases hlt:i<N
 ·have hwl:i / 8<(dig W64 n).length:=by
   have:=zaP 64 n oM;rw[←zaC]at this;rw[this];omega
  have hxs:((dig W64 n).map n64)[i / 8]?=some (n64 ((dig W64 n).getD (i / 8) 0)):=by
   rw[qK,qB,qA hwl];rfl
  have hsub:=zdF (C:=256) (k:=8) (by decide) (by decide) (l:=dig W64 n) (by rw[←zcB];exact(zao zaf n).1) i;rw[←zcB,zaw zaf,show (256:Nat) ^ (i % 8)=2 ^ (8*(i % 8)) by rw[Nat.pow_mul]]at hsub;have hw:=((zao zaf n).1).getD (by decide) (i / 8);rw[show decide ((i:Int)<(N:Int))=true by simpa using hlt];refine uR ?_;refine EVL.ofVal (zab.idx1 tO rfl rfl rfl rfl rfl rfl rfl rfl hs (i / 8) (q8 i oM) hwl hxs) rfl rfl rfl fun G4 hG4=>?_;refine uR ?_;refine EVL.ofVal (zab.shr rfl rfl rfl rfl (by rw[r8];omega)) rfl rfl rfl fun G5 hG5=>?_;refine uR ?_;rw[r8,qU,zmP _ _ hw oM,hsub,zt0 N i hlt (by omega)];refine EVL.ofVal (zab.idxP1 tO rfl rfl rfl rfl rfl rfl rfl rfl (N-1-i) rfl oM) rfl rfl rfl fun G6 hG6=>?_;refine EVL.set1 tO rfl rfl rfl rfl rfl rfl rfl rfl rfl rfl (by rw[qV,hlen];omega) ?_;refine uR ?_;refine⟨(i+1,cur.set (N-1-i) (n / 256 ^ i % 256)),⟨rfl,rfl,rfl,rfl,?_,trivial⟩,trivial,?_,⟨by dsimp only;omega,by dsimp only;rw[List.length_set];exact hlen,fun j hj=>?_,hs.mono (hG4.trans (hG5.trans hG6))⟩,hG4.trans (hG5.trans hG6),by dsimp only;omega⟩
  ·rw[show IntKind.i64.wrap ((i:Int)+1)=((i+1:Nat):Int) by rw[pM];omega];rfl
  ·dsimp only;rw[List.map_set]
  ·dsimp only at hj ⊢;by_cases e:j=i
   ·subst e;rw[qB,List.getElem?_set_self (by omega)];rfl
   ·rw[qB,List.getElem?_set_ne oM,←qB];exact hcs j oM
 ·rw[show decide ((i:Int)<(N:Int))=false by simpa using hlt];obtain rfl:i=N:=oM;have ho:=zpE n i hN.symm cur hlen hcs;subst ho
  first|refine EVL.publish [] [] rfl fun G2 hG2 hg=>?_|refine EV.publish [] [] rfl fun G2 hG2 hg=>?_
  refine uR ?_;unfold SlN;rw[hlen];exact⟨by simp[hlen],.inr ⟨g,0,i,_,rfl,qH _,hg,fun j x hj=>by simpa using hj⟩⟩
end Go.Proofs.YteoollbcdpfkpaaGreatDoor
namespace Go.Proofs.YteoollbcdpfkpaaGreatDoor
theorem zgl (k w:Nat) (hw:w % 2=1):Nat.Coprime (2 ^ k) w:=by
 apply Nat.Coprime.pow_left;rw[Nat.coprime_comm];show Nat.gcd w 2=1;rw[Nat.gcd_comm,Nat.gcd_rec,hw];decide
theorem zd7 (k m w:Nat) (hw:w % 2=1):Nat.gcd (2 ^ k*m) w=Nat.gcd m w:=Nat.Coprime.gcd_mul_left_cancel m (zgl k w hw)
theorem znA (x y zx zy v w:Nat) (hx:x=2 ^ zx*v) (hy:y=2 ^ zy*w) (hv:v % 2=1) (hw:w % 2=1):Nat.gcd x y=2 ^ min zx zy*Nat.gcd v w:=by
 subst hx hy;by_cases h:zx≤zy
 ·rw[qp h];obtain⟨k,rfl⟩:∃k,zy=zx+k:=⟨zy-zx,by omega⟩;rw[Nat.pow_add,Nat.mul_assoc,Nat.gcd_mul_left,Nat.gcd_comm v,zd7 k w v hv,Nat.gcd_comm]
 ·rw[Nat.min_eq_right (by omega)];obtain⟨k,rfl⟩:∃k,zx=zy+k:=⟨zx-zy,by omega⟩;rw[Nat.pow_add,Nat.mul_assoc,Nat.gcd_mul_left,zd7 k v w hw]
theorem zpb (v w z m:Nat) (hw:w % 2=1) (hle:w≤v) (h:v-w=2 ^ z*m):Nat.gcd m w=Nat.gcd v w:=by
 rw[←zd7 z m w hw,←h,Nat.gcd_sub_self_left hle]
end Go.Proofs.YteoollbcdpfkpaaGreatDoor
namespace Go.Proofs.YteoollbcdpfkpaaGreatDoor
open Go.RowKit _root_.Go.Proofs.Tryz
theorem zdd {B:Nat} {l:List Nat}:∀i,(∀j,j<i→l.getD j 0=0)→val B (l.take i)=0
 | 0,_=>rfl
 | i+1,h=>by rw[zaN,zdd i (fun j hj=>h j oM),h i (by omega)];simp
theorem zqH {l:List Nat} (hD:Dig W64 l) {i:Nat} (hz:∀j,j<i→l.getD j 0=0) (h0:l.getD i 0≠0) :
  ∃m,val W64 l=2 ^ (64*i+Lib.ctz 64 (l.getD i 0))*m∧m % 2=1∧Lib.ctz 64 (l.getD i 0)<64:=by
 have hi:i<l.length:=by
  refine Nat.lt_of_not_le fun h=>h0 ?_;rw[qB,qg h];rfl
 have hx:=hD.getD (by decide) i
 have hv:val W64 l=W64 ^ i*(l.getD i 0+W64*val W64 (l.drop (i+1))):=by
  rw[zae W64 l i oM,zdd i hz,zah,qv]
 rw[hv];clear hz hv;generalize val W64 (l.drop (i+1))=V;generalize l.getD i 0=x at *
 obtain⟨m,h1,h2⟩:=Lib.ctzFrom_spec 64 x oM (by rw[←zaC];exact hx);have e:Lib.ctz 64 x=Lib.ctzFrom 64 x:=by unfold Lib.ctz;rw[if_neg h0]
 rw[e];generalize Lib.ctzFrom 64 x=k at *
 have hp:W64=2 ^ k*2 ^ (64-k):=by rw[←Nat.pow_add,zaC];congr 1;omega
 refine⟨2*m+1+2 ^ (64-k)*V,?_,?_,h2⟩
 ·rw[zlU,Nat.mul_assoc];congr 1;rw[h1];generalize 2 ^ k=a at *
  generalize 2 ^ (64-k)=b at *
  rw[hp,Nat.mul_add,Nat.mul_assoc,Nat.mul_add,Nat.mul_add a]
 ·rw[show 64-k=(63-k)+1 by omega,qX,qW (2 ^ (63-k)) 2,Nat.mul_assoc];omega
theorem zfO {B:Nat} (hB:0<B):∀{l m:List Nat},Dig B l→Dig B m→l.length=m.length→val B l=val B m→l=m
 | [],[],_,_,_,_=>rfl
 | [],_::_,_,_,h,_=>by cases h
 | _::_,[],_,_,h,_=>by cases h
 | x::l,y::m,hl,hm,h,e=>by
  have hx:=hl x (qh ..);have hy:=hm y (qh ..);rw[zaT,zaT]at e
  have e1:x=y:=by
   have h1:(x+B*val B l) % B=x:=by rw[Nat.add_mul_mod_self_left,qT hx]
   have h2:(y+B*val B m) % B=y:=by rw[Nat.add_mul_mod_self_left,qT hy]
   rw[←h1,←h2,e]
  subst e1;have e2:val B l=val B m:=Nat.eq_of_mul_eq_mul_left hB oM;rw[zfO hB (fun z hz=>hl z (qn _ hz)) (fun z hz=>hm z (qn _ hz)) (by simpa using h) e2]
theorem ztp (n:Nat) (m:Nat) (hm:m=(dig W64 n).length) (hl:(dig 256 n).length≤8*m):pk 8 256 (zjd n).reverse m=dig W64 n:=by
 rw[zjd,List.reverse_reverse];refine zfO (B:=W64) (by decide) ?_ (zao zaf n).1 (by rw[zaA,hm]) ?_
 ·rw[zcB];exact zhU (by decide) (zao (by decide) n).1 m
 ·rw[zaw zaf,zcB,zhV 8 256 (by decide) m _ hl,zaw (by decide)]
theorem zmv {z z' m m':Nat} (h:2 ^ z*m=2 ^ z'*m') (hm:m % 2=1) (hm':m' % 2=1):z=z':=by
 have key:∀(z z' m m':Nat),z<z'→2 ^ z*m=2 ^ z'*m'→m % 2=1→False:=fun z z' m m' hlt h hm=>by
  obtain⟨k,rfl⟩:∃k,z'=z+(k+1):=⟨z'-z-1,by omega⟩;rw[Nat.pow_add,Nat.mul_assoc]at h;have:=Nat.eq_of_mul_eq_mul_left (Nat.pow_pos (by decide)) h;rw[this,qX,qW (2 ^ k) 2,Nat.mul_assoc]at hm;omega
 rcases Nat.lt_trichotomy z z' with h1 | h1 | h1
 ·exact(key z z' m m' h1 h hm).elim
 ·exact h1
 ·exact(key z' z m' m h1 h.symm hm').elim
theorem zeI {B:Nat} (hB:2≤B) {l m:List Nat} (hl:Dig B l) (hm:zdX B m) (h:l.length<m.length):val B l<val B m:=by
 have h1:=zax hl;have h2:=zdA oM hm (by intro e;rw[e]at h;cases h);have h3:B ^ l.length≤B ^ (m.length-1):=qf oM oM;omega
theorem znc (n N:Nat) (out:List Nat) (hN:n<256 ^ N) (h:out.length=N) (hj:∀j,j<N→out.getD (N-1-j) 0=n / 256 ^ j % 256):val 256 out.reverse=n:=by
 have e:out.reverse=zjc 256 n N:=by
  apply List.ext_getElem?;intro i;by_cases hi:i<N
  ·rw[List.getElem?_reverse oM,h,zjc,qK,List.getElem?_range hi];have:=hj i hi;rw[qB,qA (by omega)]at this;rw[qA (by omega)];exact congrArg some this
  ·rw[qg (by rw[List.length_reverse];omega),qg (by rw[zbd];omega)]
 rw[e,zio,qT hN]
end Go.Proofs.YteoollbcdpfkpaaGreatDoor
namespace Go.Proofs.YteoollbcdpfkpaaGreatDoor
structure ztZ (B p:Nat) (x d:List Nat) (c:Nat):Prop where
 dig:Dig B d
 carry:c<2 ^ p
 sum:val B d+c*B ^ d.length=val B (x.take d.length)*2 ^ p
theorem ztZ.step {B p:Nat} {x d:List Nat} {c:Nat} (hB:0<B) (h:ztZ B p x d c) (hx:Dig B x):ztZ B p x (d++[(c+x.getD d.length 0*2 ^ p) % B]) ((c+x.getD d.length 0*2 ^ p) / B):=by
 have h1:=hx.getD hB d.length;have h2:=h.carry;have hs:=h.sum;refine⟨h.dig.snoc (qo _ hB),Nat.div_lt_of_lt_mul ?_,?_⟩
 ·have:x.getD d.length 0*2 ^ p≤(B-1)*2 ^ p:=qN _ oM;obtain⟨b,rfl⟩:∃b,B=b+1:=⟨B-1,by omega⟩;rw[Nat.add_sub_cancel]at this;rw[qw];omega
 ·have hd:=qm (c+x.getD d.length 0*2 ^ p) B;rw[zb9,qJ,qx,zaN,qX];generalize (c+x.getD d.length 0*2 ^ p) / B=q at *
  generalize (c+x.getD d.length 0*2 ^ p) % B=s at *
  generalize x.getD d.length 0=w at *
  generalize B ^ d.length=r at *
  generalize val B (x.take d.length)=V at *
  have h5:(B*q+s)*r=(c+w*2 ^ p)*r:=by rw[hd]
  generalize 2 ^ p=t at *
  grind
structure zt7 (B b:Nat) (x q:List Nat) (i r:Nat):Prop where
 dig:Dig B q
 len:q.length=x.length
 rest:r<b
 sum:val B (q.drop i)*b+r=val B (x.drop i)
theorem zt7.step {B b:Nat} {x q:List Nat} {i r:Nat} (hb:0<b) (h:zt7 B b x q (i+1) r) (hi:i<x.length) (hx:Dig B x) :
  zt7 B b x (q.set i ((r*B+x.getD i 0) / b)) i ((r*B+x.getD i 0) % b):=by
 have hxi:=hx.get i hi;have hxd:x.getD i 0<B:=by rw[qB,qA hi];exact hxi
 have hr:=h.rest;refine⟨h.dig.set _ _ ?_,by rw[List.length_set];exact h.len,qo _ hb,?_⟩
 ·refine Nat.div_lt_of_lt_mul ?_;have:(r+1)*B≤b*B:=qN _ hr;rw[qw]at this;omega
 ·have hs:=h.sum;have hd:=qm (r*B+x.getD i 0) b;rw[zah,zah B x,List.drop_set_of_lt oM,←hs,show (q.set i ((r*B+x.getD i 0) / b)).getD i 0=(r*B+x.getD i 0) / b from zbn _ _ _ (by rw[h.len];exact hi)];generalize (r*B+x.getD i 0) / b=u at *
  generalize (r*B+x.getD i 0) % b=w at *
  generalize val B (q.drop (i+1))=v at *
  grind
theorem zr1 {B:Nat} (hB:0<B) {l m:List Nat} (k:Nat) (hl:Dig B l) (hm:Dig B m) (he:l.length=m.length) (hk:k<l.length) (hd:l.drop (k+1)=m.drop (k+1)) (hx:l.getD k 0≠m.getD k 0):zbv (val B l) (val B m)=zbv (l.getD k 0) (m.getD k 0):=by
 rw[zae B l k oM,zae B m k oM,zah B l k,zah B m k,hd];have h1:=zax (hl.take k);have h2:=zax (hm.take k);rw[qP,qp (by omega)]at h1 h2;rw[zgJ h1 h2 (by omega)];unfold zbv;generalize val B (m.drop (k+1))=V;generalize B*V=Z;split <;> split <;> (try split) <;> (try split) <;> omega
theorem zj3 {K B:Nat} (hK:0<K) (hB:0<B) (m k x:Nat) (r:List Nat) (hx:x<B) (hr:Dig B r) (h:k+1+r.length≤K*m) :
  pk K B (List.replicate k 0++x::r) m=(pk K B (List.replicate (k+1) 0++r) m).set (k / K) ((pk K B (List.replicate (k+1) 0++r) m).getD (k / K) 0+x*B ^ (k % K)):=by
 have hkm:k / K<m:=Nat.div_lt_of_lt_mul oM;have hk2:=qm k K;have hk3:=qo k hK;have hD0:Dig B (List.replicate (k+1) 0++r):=(Dig.zeros hB _).append hr;have hD1:Dig B (List.replicate k 0++x::r):=(Dig.zeros hB _).append (Dig.cons hx hr);have hP0:Dig (B ^ K) (pk K B (List.replicate (k+1) 0++r) m):=zhU hB hD0 m
 have hw:(pk K B (List.replicate (k+1) 0++r) m).getD (k / K) 0+x*B ^ (k % K)<B ^ K:=by
  rw[ziM _ _ _ _ _ hkm,List.drop_append_of_le_length (by simp;omega),List.drop_replicate,show k+1-K*(k / K)=k % K+1 by omega,List.take_append,List.length_replicate,qO (by simp;omega),zbh,zbo,List.length_replicate,qv];have hv:=zax (hr.take (K-(k % K+1)));have hl:(r.take (K-(k % K+1))).length≤K-(k % K+1):=by rw[qP];omega
  have h1:B ^ (r.take (K-(k % K+1))).length≤B ^ (K-(k % K+1)):=qf hB hl;generalize val B (r.take (K-(k % K+1)))=v at *
  have h2:B ^ K=B ^ (k % K+1)*B ^ (K-(k % K+1)):=by rw[←Nat.pow_add];congr 1;omega
  rw[h2];have h3:B ^ (k % K+1)*(v+1)≤B ^ (k % K+1)*B ^ (K-(k % K+1)):=qe _ oM;have h4:(x+1)*B ^ (k % K)≤B*B ^ (k % K):=qN _ hx;have h5:0<B ^ (k % K):=Nat.pow_pos hB;rw[Nat.mul_add,qX,qW (B ^ (k % K)) B]at h3;rw[qw]at h4;rw[qX,qW (B ^ (k % K)) B];omega
 refine zfO (B:=B ^ K) (Nat.pow_pos hB) (zhU hB hD1 m) (hP0.set _ _ hw) (by rw[List.length_set,zaA,zaA]) ?_;have hs:=zbu (B ^ K) (pk K B (List.replicate (k+1) 0++r) m) (k / K) ((pk K B (List.replicate (k+1) 0++r) m).getD (k / K) 0+x*B ^ (k % K)) (by rw[zaA];exact hkm);rw[zhV K B hK m _ (by simp;omega)]at hs ⊢
 have e1:val B (List.replicate k 0++x::r)=val B (List.replicate (k+1) 0++r)+x*B ^ k:=by
  rw[zbh,zbh,zbo,zbo,zaT,List.length_replicate,List.length_replicate,qX];grind
 have e2:x*B ^ k=x*B ^ (k % K)*(B ^ K) ^ (k / K):=by
  rw[←Nat.pow_mul,Nat.mul_assoc,←Nat.pow_add];congr 2;omega
 rw[qw,←e2]at hs;omega
theorem zuf {k low top:Nat} (h:low<2 ^ k) (ht:top≠0):bl (low+2 ^ k*top)=k+bl top:=by
 have h1:=ze9 top;have h2:=zta ht;have h3:=zl0 ht;refine Nat.le_antisymm (zaU ?_) ?_
 ·rw[Nat.pow_add];have:2 ^ k*(top+1)≤2 ^ k*2 ^ bl top:=qe _ h1;rw[Nat.mul_add]at this;omega
 ·refine Nat.le_of_not_lt fun hlt=>?_;have h4:low+2 ^ k*top<2 ^ (k+(bl top-1)):=Nat.lt_of_lt_of_le (ze9 _) (qf oM oM);rw[Nat.pow_add]at h4;have:=qe (2 ^ k) h2;omega
end Go.Proofs.YteoollbcdpfkpaaGreatDoor
namespace Go.Proofs.YteoollbcdpfkpaaGreatDoor
open Go.RowKit _root_.Go.Proofs.Tryz
def B32:Nat:=4294967296
theorem zam:2≤B32:=by decide
theorem zau:B32=4294967296:=rfl
theorem zaS:B32=2 ^ 32:=by decide
theorem zf3:B32=256 ^ 4:=by decide
namespace L32
def addLo (x y c:Nat):Nat:=(x+y+c) % B32
def addHi (x y c:Nat):Nat:=(x+y+c) / B32
def subLo (x y b:Nat):Nat:=(x+B32-y-b) % B32
def subHi (x y b:Nat):Nat:=if x<y+b then 1 else 0
theorem zbw {x y c:Nat} (hx:x<B32) (hy:y<B32) (hc:c≤1):addLo x y c+addHi x y c*B32=x+y+c∧addLo x y c<B32∧addHi x y c≤1:=by
 unfold addLo addHi;have:=zau;simp only[zau]at *
 omega
theorem zcM {x y b:Nat} (hx:x<B32) (hy:y<B32) (hb:b≤1):subLo x y b+y+b=x+subHi x y b*B32∧subLo x y b<B32∧subHi x y b≤1:=by
 unfold subLo subHi;simp only[zau]at *
 split <;> omega
def mid (l:List Nat) (j k:Nat):List Nat:=(l.drop j).take k
theorem zdc (l:List Nat) (j k:Nat) (h:j+k≤l.length):val B32 l=val B32 (l.take j)+B32 ^ j*(val B32 (mid l j k)+B32 ^ k*val B32 (l.drop (j+k))):=by
 rw[zae B32 l j oM,zae B32 (l.drop j) k (by simp;omega),List.drop_drop];rfl
theorem mid_length (l:List Nat) (j k:Nat) (h:j+k≤l.length):(mid l j k).length=k:=by simp[mid];omega
theorem mid_dig {l:List Nat} (h:Dig B32 l) (j k:Nat):Dig B32 (mid l j k):=(h.drop j).take k
def Alike (l m:List Nat) (j k:Nat):Prop:=l.length=m.length∧∀i,(i<j∨j+k≤i)→l.getD i 0=m.getD i 0
theorem Alike.refl (l:List Nat) (j k:Nat):Alike l l j k:=⟨rfl,fun _ _=>rfl⟩
theorem Alike.set {l m:List Nat} {j k:Nat} (h:Alike l m j k) (i v:Nat) (hi:j≤i) (hi2:i<j+k):Alike (l.set i v) m j k :=
 ⟨by simpa using h.1,fun x hx=>by rw[getD_set_ne _ _ _ _ (by omega)];exact h.2 x hx⟩
theorem zeE {l m:List Nat} (hl:l.length=m.length) (h:∀i,l.getD i 0=m.getD i 0):l=m:=by
 apply List.ext_getElem hl;intro i h1 h2;have:=h i;simpa[qB,h1,h2] using this
theorem za6 (l:List Nat) (j i:Nat):(l.take j).getD i 0=if i<j then l.getD i 0 else 0:=by
 simp only[qB,pP];split <;> simp
theorem zbY (l:List Nat) (j i:Nat):(l.drop j).getD i 0=l.getD (j+i) 0:=by
 simp[qB]
theorem Alike.take {l m:List Nat} {j k:Nat} (h:Alike l m j k):l.take j=m.take j :=
 zeE (by simp[h.1]) (fun i=>by
  rw[za6,za6];split
  ·exact h.2 i oM
  ·rfl)
theorem Alike.drop {l m:List Nat} {j k:Nat} (h:Alike l m j k):l.drop (j+k)=m.drop (j+k) :=
 zeE (by simp[h.1]) (fun i=>by rw[zbY,zbY];exact h.2 _ oM)
theorem Alike.mid_eq {l m:List Nat} {j k:Nat} (h:Alike l m j k) (hk:j+k≤l.length) {a b:Nat} (e:val B32 l+a*B32 ^ j=val B32 m+b*B32 ^ (j+k)) :
  val B32 (mid l j k)+a=val B32 (mid m j k)+b*B32 ^ k:=by
 rw[zdc l j k hk,zdc m j k (by rw[←h.1];exact hk),h.take,h.drop]at e;have hp:0<B32 ^ j:=Nat.pow_pos (by decide);rw[Nat.pow_add]at e;generalize val B32 (mid l j k)=x at *
 generalize val B32 (mid m j k)=y at *
 generalize val B32 (m.drop (j+k))=z at *
 generalize val B32 (m.take j)=t at *
 generalize B32 ^ j=P at *
 generalize B32 ^ k=Q at *
 have e2:P*(x+a+Q*z)=P*(y+b*Q+Q*z):=by
  have h1:t+P*(x+Q*z)+a*P=t+P*(x+a+Q*z):=by grind
  have h2:t+P*(y+Q*z)+b*(P*Q)=t+P*(y+b*Q+Q*z):=by grind
  omega
 have:=Nat.eq_of_mul_eq_mul_left hp e2;omega
theorem sub_round (U U0 v:List Nat) (j i k g c b x vi hi lw:Nat) (hk:k=j+i) (hlen:k<U.length) (hx:x<B32) (hU:U.getD k 0=x) (hvi:v.getD i 0=vi) (hlo:lw<B32) (hhl:hi*B32+lw=g*vi) (hgv:g*vi+c<B32*B32) (hc:c<B32) (hb:b≤1)
  (hv:val B32 U+g*val B32 (v.take i)*B32 ^ j=val B32 U0+(b+c)*B32 ^ k) :
  hi+addHi lw c 0<B32∧subHi x (addLo lw c 0) b≤1∧subLo x (addLo lw c 0) b<B32 ∧
  val B32 (U.set k (subLo x (addLo lw c 0) b))+g*val B32 (v.take (i+1))*B32 ^ j=val B32 U0+(subHi x (addLo lw c 0) b+(hi+addHi lw c 0))*B32 ^ (k+1):=by
 have ap:=zbw hlo hc (show 0≤1 by omega);have sp:=zcM hx ap.2.1 hb;generalize addLo lw c 0=s at *
 generalize addHi lw c 0=a at *
 generalize subLo x s b=u' at *
 generalize subHi x s b=b' at *
 have hca:hi+a<B32:=by
  have:(hi+a)*B32<B32*B32:=by rw[qw];omega
  exact Nat.lt_of_mul_lt_mul_right this
 refine⟨hca,sp.2.2,sp.2.1,?_⟩
 ·have v1:=zbu B32 U k u' hlen;rw[hU]at v1;rw[zaN,hvi,qX]
  have e1:g*(val B32 (v.take i)+vi*B32 ^ i)*B32 ^ j=g*val B32 (v.take i)*B32 ^ j+(g*vi)*B32 ^ k:=by
   rw[hk,Nat.pow_add];grind
  rw[e1];generalize B32 ^ k=P at *
  generalize g*val B32 (v.take i)*B32 ^ j=G at *
  generalize val B32 (U.set k u')=A at *
  generalize val B32 U=A0 at *
  generalize val B32 U0=Z at *
  have e2:(u'+s+b)*P=(x+b'*B32)*P:=by rw[sp.1]
  have e3:(s+a*B32)*P=(lw+c)*P:=by rw[←qY (lw+c),←ap.1]
  have e4:(hi*B32+lw)*P=(g*vi)*P:=by rw[hhl]
  grind
theorem add_round (U U0 v:List Nat) (j i k c x vi:Nat) (hk:k=j+i) (hlen:k<U.length) (hx:x<B32) (hU:U.getD k 0=x) (hvi:v.getD i 0=vi) (hvW:vi<B32) (hc:c≤1)
  (hv:val B32 U+c*B32 ^ k=val B32 U0+val B32 (v.take i)*B32 ^ j) :
  addLo x vi c<B32∧addHi x vi c≤1∧val B32 (U.set k (addLo x vi c))+addHi x vi c*B32 ^ (k+1)=val B32 U0+val B32 (v.take (i+1))*B32 ^ j:=by
 have ap:=zbw hx hvW hc;generalize addLo x vi c=s at *
 generalize addHi x vi c=a at *
 refine⟨ap.2.1,ap.2.2,?_⟩;have v1:=zbu B32 U k s hlen;rw[hU]at v1;rw[zaN,hvi,qX]
 have e1:(val B32 (v.take i)+vi*B32 ^ i)*B32 ^ j=val B32 (v.take i)*B32 ^ j+vi*B32 ^ k:=by
  rw[hk,Nat.pow_add];grind
 rw[e1];generalize B32 ^ k=P at *
 generalize val B32 (v.take i)*B32 ^ j=G at *
 generalize val B32 (U.set k s)=A at *
 generalize val B32 U=A0 at *
 generalize val B32 U0=Z at *
 have e2:(s+a*B32)*P=(x+vi+c)*P:=by rw[ap.1]
 grind
structure Long (X V n g:Nat) (U q:List Nat):Prop where
 dU:Dig B32 U
 dq:Dig B32 q
 top:val B32 (U.drop g)<V
 sum:X=val B32 U+V*val B32 q
 low:∀k,k<g→q.getD k 0=0
theorem Long.rem {X V n j:Nat} {U q:List Nat} (h:Long X V n (j+1) U q) (hj:j+(n+1)≤U.length) (hV:V<B32 ^ n) :
  val B32 (mid U j (n+1))<B32*V∧val B32 (U.drop j)=val B32 (mid U j (n+1))∧val B32 (U.drop (j+(n+1)))=0:=by
 have h1:=zah B32 U j;have h2:=h.dU.getD (show 0<B32 by decide) j;have h3:=h.top
 have h0:val B32 (U.drop (j+(n+1)))=0:=by
  have e:=zae B32 (U.drop (j+1)) n (by simp;omega);rw[List.drop_drop,show j+1+n=j+(n+1) by omega]at e;rcases pJ (val B32 (U.drop (j+(n+1)))) with h | h
  ·exact h
  ·exfalso;have:B32 ^ n*1≤B32 ^ n*val B32 (U.drop (j+(n+1))):=qe _ h;omega
 have h4:val B32 (U.drop j)=val B32 (mid U j (n+1)):=by
  have e:=zae B32 (U.drop j) (n+1) (by simp;omega);rw[List.drop_drop,h0,Nat.mul_zero,qY]at e;exact e
 refine⟨?_,h4,h0⟩;rw[←h4,h1];have:B32*(val B32 (U.drop (j+1))+1)≤B32*V:=qe _ h3;rw[Nat.mul_add]at this;omega
theorem Long.next {X V n j:Nat} {U q U':List Nat} (h:Long X V n (j+1) U q) (hj:j+(n+1)≤U.length) (hV:V<B32 ^ n) (hV0:0<V) (hjq:j<q.length) (ha:Alike U' U j (n+1)) (hD:Dig B32 U')
  (hm:val B32 (mid U' j (n+1))=val B32 (mid U j (n+1)) % V):Long X V n j U' (q.set j (val B32 (mid U j (n+1)) / V)):=by
 obtain⟨r1,r2,r3⟩:=h.rem hj hV;have hlt:=qo (val B32 (mid U j (n+1))) hV0;have e:=qm (val B32 (mid U j (n+1))) V;have hdg:val B32 (mid U j (n+1)) / V<B32:=Nat.div_lt_of_lt_mul (by rw[qW];exact r1);have hj':j+(n+1)≤U'.length:=by rw[ha.1];exact hj
 refine⟨hD,h.dq.set _ _ hdg,?_,?_,fun k hk=>by rw[getD_set_ne _ _ _ _ (by omega)];exact h.low k oM⟩
 ·have e2:=zae B32 (U'.drop j) (n+1) (by simp;omega);rw[List.drop_drop,ha.drop,r3,Nat.mul_zero,qY]at e2;rw[e2];show val B32 (mid U' j (n+1))<V;rw[hm];exact hlt
 ·have v1:=zbu B32 q j (val B32 (mid U j (n+1)) / V) hjq;rw[h.low j oM,Nat.zero_mul,qY]at v1;rw[v1,h.sum,zdc U j (n+1) hj,zdc U' j (n+1) hj',ha.take,ha.drop,r3,hm];generalize val B32 (mid U j (n+1)) / V=d at *
  generalize val B32 (mid U j (n+1)) % V=m at *
  generalize val B32 (mid U j (n+1))=R at *
  subst e;grind
theorem zeA (y':List Nat) (t s k:Nat) (hD:Dig B32 y') (h1:t<2 ^ k) (h2:2 ^ (k-1)≤t) (hk:0<k) (hs:s+k=32) :
  (val B32 y'+t*B32 ^ y'.length)*2 ^ s<B32 ^ (y'.length+1)∧B32 ^ (y'.length+1)≤2*((val B32 y'+t*B32 ^ y'.length)*2 ^ s):=by
 have hv:=zax hD;have e:B32=2 ^ k*2 ^ s:=by rw[zaS,←Nat.pow_add];congr 1;omega
 have e2:B32=2*(2 ^ (k-1)*2 ^ s):=by rw[e,←Nat.mul_assoc,qW 2,←qX];congr 2;omega
 rw[qX];generalize val B32 y'=v at *
 generalize B32 ^ y'.length=P at *
 have hs0:0<2 ^ s:=Nat.pow_pos oM;constructor
 ·have h3:(v+t*P)<2 ^ k*P:=by
   have:(t+1)*P≤2 ^ k*P:=qN _ h1;rw[qw]at this;omega
  have:=Nat.mul_lt_mul_of_pos_right h3 hs0;have e3:2 ^ k*P*2 ^ s=P*B32:=by rw[e];grind
  omega
 ·have h3:2 ^ (k-1)*P≤v+t*P:=by
   have:2 ^ (k-1)*P≤t*P:=qN _ h2;omega
  have:=qN (2 ^ s) h3
  have e3:P*B32=2*(2 ^ (k-1)*P*2 ^ s):=by
   have:P*B32=P*(2*(2 ^ (k-1)*2 ^ s)):=by rw[←e2]
   rw[this];grind
  omega
theorem top_words (l:List Nat) (n:Nat) (h:Dig B32 l) (hl:l.length=n) (hn:2≤n):val B32 l=(l.getD (n-1) 0*B32+l.getD (n-2) 0)*B32 ^ (n-2)+val B32 (l.take (n-2))∧val B32 (l.take (n-2))<B32 ^ (n-2):=by
 have e:=zae B32 l (n-2) oM;have hlt:=zax (h.take (n-2));rw[qP,qp (by omega)]at hlt;refine⟨?_,hlt⟩;rw[e,zah,zah B32 l (n-2+1),show n-2+1=n-1 by omega,qk (show l.length≤n-1+1 by omega),zbI];grind
theorem top_half (l:List Nat) (n:Nat) (h:Dig B32 l) (hl:l.length=n) (hn:1≤n) (hV:B32 ^ n≤2*val B32 l):B32≤2*l.getD (n-1) 0:=by
 have e:=zae B32 l (n-1) oM;have hlt:=zax (h.take (n-1));rw[qP,qp (by omega)]at hlt;rw[zah,show n-1+1=n by omega,qk (show l.length≤n by omega),zbI,Nat.mul_zero,qY]at e;generalize l.getD (n-1) 0=v1 at *
 obtain⟨m,rfl⟩:∃m,n=m+1:=⟨n-1,by omega⟩;rw[Nat.add_sub_cancel]at *
 rw[qX]at hV;generalize val B32 (l.take m)=a at *
 generalize val B32 l=b at *
 generalize B32 ^ m=P at *
 have h1:P*B32<P*(2*(v1+1)):=by
  have:P*(2*(v1+1))=2*(P*v1)+2*P:=by grind
  omega
 have h2:=Nat.lt_of_mul_lt_mul_left h1;simp only[zau]at *
 omega
theorem top3_words (l:List Nat) (n:Nat) (h:Dig B32 l) (hl:l.length=n+1) (hn:2≤n):val B32 l=((l.getD n 0*B32+l.getD (n-1) 0)*B32+l.getD (n-2) 0)*B32 ^ (n-2)+val B32 (l.take (n-2))∧val B32 (l.take (n-2))<B32 ^ (n-2):=by
 have e:=zae B32 l (n-2) oM;have hlt:=zax (h.take (n-2));rw[qP,qp (by omega)]at hlt;refine⟨?_,hlt⟩;rw[e,zah,zah B32 l (n-2+1),show n-2+1=n-1 by omega,zah B32 l (n-1+1),show n-1+1=n by omega,qk (show l.length≤n+1 by omega),zbI];grind
theorem getD_mid (l:List Nat) (j k i:Nat) (hi:i<k):(mid l j k).getD i 0=l.getD (j+i) 0:=by
 unfold mid;rw[za6,if_pos hi,zbY]
theorem Long.guess {X V n j:Nat} {U q vl:List Nat} (h:Long X V n (j+1) U q) (hj:j+(n+1)≤U.length) (hn:2≤n) (hV:V<B32 ^ n) (hVh:B32 ^ n≤2*V) (hvl:vl.length=n) (hvD:Dig B32 vl) (hvV:val B32 vl=V) :
  U.getD (j+n) 0≤vl.getD (n-1) 0∧∀g,g<B32→g*(vl.getD (n-1) 0*B32+vl.getD (n-2) 0)≤(U.getD (j+n) 0*B32+U.getD (j+(n-1)) 0)*B32+U.getD (j+(n-2)) 0 →
   ((U.getD (j+n) 0*B32+U.getD (j+(n-1)) 0)*B32+U.getD (j+(n-2)) 0<(g+1)*(vl.getD (n-1) 0*B32+vl.getD (n-2) 0)∨g=B32-1) →
   val B32 (mid U j (n+1)) / V≤g∧g≤val B32 (mid U j (n+1)) / V+1:=by
 obtain⟨r1,r2,r3⟩:=h.rem hj hV;have htw:=top_words vl n hvD hvl hn;have h3:=top3_words (mid U j (n+1)) n (mid_dig h.dU _ _) (mid_length _ _ _ hj) hn;rw[getD_mid _ _ _ _ oM,getD_mid _ _ _ _ oM,getD_mid _ _ _ _ (by omega)]at h3;rw[hvV]at htw
 have hP:B32*B32 ^ (n-2)≤V:=by
  have e:B32 ^ n=B32*(B32*B32 ^ (n-2)):=by rw[←Nat.mul_assoc,qW,←Nat.pow_two,←Nat.pow_add];congr 1;omega
  have:2*(B32*B32 ^ (n-2))≤B32*(B32*B32 ^ (n-2)):=qN _ zam;omega
 constructor
 ·have e1:(mid U j (n+1)).length=n+1:=mid_length _ _ _ hj;have h4:=h.top
  have h5:val B32 (U.drop (j+1))≥U.getD (j+n) 0*B32 ^ (n-1):=by
   have e:=zae B32 (U.drop (j+1)) (n-1) (by simp;omega);rw[List.drop_drop,zah B32 U (j+1+(n-1)),show j+1+(n-1)=j+n by omega]at e
   have:U.getD (j+n) 0*B32 ^ (n-1)≤B32 ^ (n-1)*(U.getD (j+n) 0+B32*val B32 (U.drop (j+n+1))):=by
    rw[qW];exact qe _ oM
   omega
  have h6:V<(vl.getD (n-1) 0+1)*B32 ^ (n-1):=by
   have e:=zae B32 vl (n-1) oM;have hlt:=zax (hvD.take (n-1));rw[qP,qp (by omega)]at hlt;rw[zah,show n-1+1=n by omega,qk (show vl.length≤n by omega),zbI,Nat.mul_zero,qY,hvV]at e;rw[e,qw,qW (vl.getD (n-1) 0)];omega
  have h7:U.getD (j+n) 0*B32 ^ (n-1)<(vl.getD (n-1) 0+1)*B32 ^ (n-1):=oM;have:=Nat.lt_of_mul_lt_mul_right h7;omega
 ·intro g hg h1 h2;exact zgv h3.1 h3.2 htw.1 htw.2 (by decide) r1 hP h1 hg h2
theorem sub_end (U U1:List Nat) (V g c b xu j n:Nat) (hjx:j+(n+1)≤U.length) (hal:Alike U1 U j (n+1)) (hD:Dig B32 U) (hD1:Dig B32 U1) (hxu:U1.getD (j+n) 0=xu) (hc:c<B32) (hb:b≤1)
  (hv:val B32 U1+g*V*B32 ^ j=val B32 U+(b+c)*B32 ^ (j+n)) (hV0:0<V) (hV:V<B32 ^ n) (h1:val B32 (mid U j (n+1)) / V≤g) (h2:g≤val B32 (mid U j (n+1)) / V+1) :
  Alike (U1.set (j+n) (subLo xu c b)) U j (n+1)∧Dig B32 (U1.set (j+n) (subLo xu c b))∧subHi xu c b≤1 ∧
  (subHi xu c b=0→g=val B32 (mid U j (n+1)) / V∧val B32 (mid (U1.set (j+n) (subLo xu c b)) j (n+1))=val B32 (mid U j (n+1)) % V) ∧
  (subHi xu c b=1→g=val B32 (mid U j (n+1)) / V+1∧val B32 (mid (U1.set (j+n) (subLo xu c b)) j (n+1))+V=val B32 (mid U j (n+1)) % V+B32 ^ (n+1)):=by
 have hku:j+n<U1.length:=by rw[hal.1];omega
 have hxW:xu<B32:=by rw[←hxu];exact hD1.getD (by decide) _
 have sp:=zcM hxW hc hb;have hvs:=zbu B32 U1 (j+n) (subLo xu c b) hku;rw[hxu]at hvs
 have hU2:val B32 (U1.set (j+n) (subLo xu c b))+g*V*B32 ^ j=val B32 U+subHi xu c b*B32 ^ (j+(n+1)):=by
  rw[show j+(n+1)=j+n+1 by omega,qX];have e2:(subLo xu c b+c+b)*B32 ^ (j+n)=(xu+subHi xu c b*B32)*B32 ^ (j+n):=by rw[sp.1]
  generalize B32 ^ (j+n)=P at *
  generalize g*V*B32 ^ j=G at *
  generalize val B32 (U1.set (j+n) (subLo xu c b))=A at *
  generalize subLo xu c b=s at *
  generalize subHi xu c b=t at *
  grind
 have hal2:=hal.set (j+n) (subLo xu c b) oM oM;have hD2:=hD1.set (j+n) (subLo xu c b) sp.2.1;have hl2:j+(n+1)≤(U1.set (j+n) (subLo xu c b)).length:=by rw[hal2.1];exact hjx
 have hme:=hal2.mid_eq hl2 hU2
 have hVM:V≤B32 ^ (n+1):=by
  have h2:B32 ^ n≤B32 ^ (n+1):=qf (by decide) oM;omega
 have hRM:val B32 (mid U j (n+1))<B32 ^ (n+1):=by
  have:=zax (mid_dig hD j (n+1));rwa [mid_length _ _ _ hjx]at this
 have hdM:val B32 (mid (U1.set (j+n) (subLo xu c b)) j (n+1))<B32 ^ (n+1):=by
  have:=zax (mid_dig hD2 j (n+1));rwa [mid_length _ _ _ hl2]at this
 have hks:=zjI hV0 hVM hme hdM hRM h1 h2;exact⟨hal2,hD2,sp.2.2,hks.1,fun h=>(hks.2 oM).2⟩
theorem add_end (U2 U3:List Nat) (V c xu j n m:Nat) (hjx:j+(n+1)≤U2.length) (hal:Alike U3 U2 j n) (hD3:Dig B32 U3) (hxu:U3.getD (j+n) 0=xu) (hc:c≤1)
  (hv:val B32 U3+c*B32 ^ (j+n)=val B32 U2+V*B32 ^ j) (hm:val B32 (mid U2 j (n+1))+V=m+B32 ^ (n+1)) (hmM:m<B32 ^ (n+1)) :
  Alike (U3.set (j+n) ((xu+c) % B32)) U2 j (n+1)∧Dig B32 (U3.set (j+n) ((xu+c) % B32))∧val B32 (mid (U3.set (j+n) ((xu+c) % B32)) j (n+1))=m:=by
 have hku:j+n<U3.length:=by rw[hal.1];omega
 have hxW:xu<B32:=by rw[←hxu];exact hD3.getD (by decide) _
 have hal1:Alike U3 U2 j (n+1):=⟨hal.1,fun i hi=>hal.2 i oM⟩;have hal2:=hal1.set (j+n) ((xu+c) % B32) oM oM;have hD2:=hD3.set (j+n) ((xu+c) % B32) (qo _ (by decide));have hl2:j+(n+1)≤(U3.set (j+n) ((xu+c) % B32)).length:=by rw[hal2.1];exact hjx
 refine⟨hal2,hD2,?_⟩;have hvs:=zbu B32 U3 (j+n) ((xu+c) % B32) hku;rw[hxu]at hvs;have e:=qm (xu+c) B32
 have hU:val B32 U2+V*B32 ^ j=val B32 (U3.set (j+n) ((xu+c) % B32))+(xu+c) / B32*B32 ^ (j+(n+1)):=by
  rw[show j+(n+1)=j+n+1 by omega,qX];generalize (xu+c) / B32=a at *
  generalize (xu+c) % B32=s at *
  have e2:(B32*a+s)*B32 ^ (j+n)=(xu+c)*B32 ^ (j+n):=by rw[e]
  generalize B32 ^ (j+n)=P at *
  generalize val B32 (U3.set (j+n) s)=A at *
  grind
 have hal3:Alike U2 (U3.set (j+n) ((xu+c) % B32)) j (n+1):=⟨hal2.1.symm,fun i hi=>(hal2.2 i hi).symm⟩;have hme:=hal3.mid_eq hjx hU
 have hdM:val B32 (mid (U3.set (j+n) ((xu+c) % B32)) j (n+1))<B32 ^ (n+1):=by
  have:=zax (mid_dig hD2 j (n+1));rwa [mid_length _ _ _ hl2]at this
 rw[hm]at hme;generalize val B32 (mid (U3.set (j+n) ((xu+c) % B32)) j (n+1))=d at *
 generalize (xu+c) / B32=a at *
 generalize B32 ^ (n+1)=M at *
 have ha:a=1:=by
  rcases Nat.lt_or_ge a 1 with h | h
  ·have:a=0:=oM;subst this;omega
  ·rcases Nat.lt_or_ge a 2 with h2 | h2
   ·omega
   ·have:2*M≤a*M:=qN M h2;omega
 subst ha;omega
theorem Long.final {X V n xv yv s:Nat} {U q:List Nat} (h:Long X V n 0 U q) (hX:X=xv*2 ^ s) (hVv:V=yv*2 ^ s) (hV:V<B32 ^ n) (hn:n≤U.length) :
  val B32 q=xv / yv∧val B32 (U.take n) / 2 ^ s=xv % yv:=by
 have htop:=h.top;rw[List.drop_zero]at htop;have hsum:=h.sum;have hV0:0<V:=oM;have hs0:0<2 ^ s:=Nat.pow_pos oM;have e1:X / V=val B32 q:=by rw[hsum,Nat.add_mul_div_left _ _ hV0,Nat.div_eq_of_lt htop,qv]
 have e2:X % V=val B32 U:=by rw[hsum,Nat.add_mul_mod_self_left,qT htop]
 have hUt:val B32 (U.take n)=val B32 U:=by
  have e:=zae B32 U n hn;rcases pJ (val B32 (U.drop n)) with h0 | h0
  ·rw[h0,Nat.mul_zero,qY]at e;exact e.symm
  ·exfalso;have:B32 ^ n*1≤B32 ^ n*val B32 (U.drop n):=qe _ h0;omega
 rw[hX,hVv,Nat.mul_div_mul_right _ _ hs0]at e1;rw[hX,hVv,Nat.mul_mod_mul_right]at e2;refine⟨e1.symm,?_⟩;rw[hUt,←e2,Nat.mul_div_cancel _ hs0]
end L32
theorem zad (i:Nat) (h:i≤4000000000000):IntKind.i64.wrap ((i:Int)+1)=((i+1:Nat):Int):=by rw[pM];omega
theorem zkA (i:Nat) (h0:0<i) (h:i≤4000000000000):IntKind.i64.wrap ((i:Int)-1)=((i-1:Nat):Int):=by rw[pM];omega
theorem zsw (i j:Nat) (h:i+j≤4000000000000):IntKind.i64.wrap ((i:Int)+(j:Int))=((i+j:Nat):Int):=by rw[pM];omega
theorem zsx (i j:Nat) (h0:j≤i) (h:i≤4000000000000):IntKind.i64.wrap ((i:Int)-(j:Int))=((i-j:Nat):Int):=by rw[pM];omega
theorem zqz (k i:Nat) (h:k*i≤4000000000000):IntKind.i64.wrap ((k:Int)*(i:Int))=((k*i:Nat):Int):=by
 rw[←Int.natCast_mul,pM];generalize k*i=q at *
 omega
theorem zeX (i k:Nat) (h:i≤4000000000000):IntKind.i64.wrap ((i:Int).tdiv (k:Int))=((i / k:Nat):Int):=by
 rw[Int.tdiv_eq_ediv_of_nonneg oM,←Int.natCast_ediv,pM];have:=Nat.div_le_self i k;generalize i / k=q at *
 omega
theorem zkB (i k:Nat):(i:Int).tmod (k:Int)=((i % k:Nat):Int):=by
 rw[Int.tmod_eq_emod_of_nonneg oM,Int.natCast_emod]
theorem zuL (n:Nat):IntKind.u64.wrap (n:Int)=((n % W64:Nat):Int):=zbe n
theorem zcP (n:Nat) (h:n<W64):IntKind.u64.wrap (n:Int)=(n:Int):=by rw[zuL,qT h]
theorem zr5 (n:Nat):IntKind.u32.wrap (n:Int)=((n % B32:Nat):Int):=by rw[zi8,show B32=4294967296 from rfl];omega
theorem zib (a b:Nat) (h:a+b<W64):IntKind.u64.wrap ((a:Int)+(b:Int))=((a+b:Nat):Int):=by rw[←Int.natCast_add,zcP _ h]
theorem zsz (a b:Nat) (h:a*b<W64):IntKind.u64.wrap ((a:Int)*(b:Int))=((a*b:Nat):Int):=by rw[←Int.natCast_mul,zcP _ h]
theorem zm2 (x p:Nat):(x:Int).fdiv (2 ^ p)=((x / 2 ^ p:Nat):Int):=by
 rw[show ((2:Int) ^ p)=((2 ^ p:Nat):Int) by push_cast;rfl,Int.fdiv_eq_ediv_of_nonneg _ (Int.natCast_nonneg _),←Int.natCast_ediv]
theorem zkE (x p:Nat):IntKind.u64.wrap ((x:Int)*2 ^ p)=((x*2 ^ p % W64:Nat):Int):=zeU x p
theorem zdZ (a b:Nat) (h:a<b):decide ((a:Int)<(b:Int))=true:=by simpa using h
theorem zcE (a b:Nat) (h:¬a<b):decide ((a:Int)<(b:Int))=false:=by simpa using h
theorem zbZ {enc:Nat→Value} {l:List Nat} {i:Nat} (h:i<l.length):(l.map enc)[i]?=some (enc (l.getD i 0)):=by
 rw[qK,qB,qA h];rfl
def zj2 {α:Type} (env:Env):List Nat→(Env→Option α)→Option α
 | [],k=>k []
 | t::ts,k=>match env.get t with
  | some s=>zj2 env ts fun r=>k ((t,s)::r)
  | none=>none
def ziL {α:Type} (bx:Bxs):List Nat→(Bxs→Option α)→Option α
 | [],k=>k []
 | t::ts,k=>match bx.get t with
  | some s=>ziL bx ts fun r=>k ((t,s)::r)
  | none=>none
theorem zhS {α:Type} {env:Env}:∀{ts:List Nat} {k:Env→Option α} {r:α},zj2 env ts k=some r→∃K,k K=some r∧zeq env K
 | [],k,r,h=>⟨[],h,trivial⟩
 | t::ts,k,r,h=>by
  unfold zj2 at h;split at h
  ·rename_i s hs;obtain⟨K,h1,h2⟩:=zhS h;exact⟨_,h1,hs,h2⟩
  ·cases h
theorem zhT {α:Type} {bx:Bxs}:∀{ts:List Nat} {k:Bxs→Option α} {r:α},ziL bx ts k=some r→∃K,k K=some r∧zeu bx K
 | [],k,r,h=>⟨[],h,trivial⟩
 | t::ts,k,r,h=>by
  unfold ziL at h;split at h
  ·rename_i s hs;obtain⟨K,h1,h2⟩:=zhT h;exact⟨_,h1,hs,h2⟩
  ·cases h
theorem zhR {env:Env} {ts:List Nat} {K:Env} (h:zj2 env ts some=some K):zeq env K:=by
 obtain⟨K',h1,h2⟩:=zhS h;cases h1;exact h2
theorem zfd {bx:Bxs} {ts:List Nat} {K:Bxs} (h:ziL bx ts some=some K):zeu bx K:=by
 obtain⟨K',h1,h2⟩:=zhT h;cases h1;exact h2
theorem zeq.app {env:Env}:∀{M K:Env},zeq env M→zeq env K→zeq env (M++K)
 | [],_,_,h=>h
 | (_,_)::_,_,h,k=>⟨h.1,zeq.app h.2 k⟩
theorem zeu.app {bx:Bxs}:∀{M K:Bxs},zeu bx M→zeu bx K→zeu bx (M++K)
 | [],_,_,h=>h
 | (_,_)::_,_,h,k=>⟨h.1,zeu.app h.2 k⟩
section
variable {P:Program} {n:Nat} {ops:Array Oper} {o:Oper} {rest:List Oper} {env:Env} {bx:Bxs} {sb:Bxs} {ow:Ows} {H:Hs} {Q:EQ} {τ:Tab} {d:Nat} {s:SV}
theorem EV.loopK {c:Code} {ι:Type} (ks kb:List Nat) (M:ι→Env) (MB:ι→Bxs) (O:ι→Ows) (I:ι→Hp→Prop) (μ:ι→Nat) (i0:ι) {K:Env} {KB:Bxs}
  (hk:zj2 env ks some=some K) (hkb:ziL bx kb some=some KB) (he:zeq env (M i0)) (hb:zeu bx (MB i0)) (ho:H.ow=O i0) (hp:∀i,zgO (M i++K) (MB i++KB)=true) (h0:I i0 H.ro)
  (h:∀i G,H.ro.Le G→I i G→EV P n c (M i++K) (MB i++KB) ⟨G,O i,H.base⟩ (zbr (fun env' bx' G'=>∃i',zeq env' (M i')∧zeq env' K∧zeu bx' (MB i')∧zeu bx' KB∧G'.ow=O i'∧I i' G'.ro∧G.Le G'.ro∧μ i'<μ i) Q)):EV P n (.loop c) env bx H Q:=by
 refine EV.loop (fun i=>M i++K) (fun i=>MB i++KB) O I μ i0 (he.app (zhR hk)) (hb.app (zfd hkb)) ho hp h0 fun i G hG hI=>?_;refine EV.meet _ ?_ (h i G hG hI);rintro env' bx' G' _ ⟨i',h1,h2,h3,h4,h5⟩;exact⟨i',h1.app h2,h3.app h4,h5⟩
theorem EV.meetK {c c':Code} {Q':EQ} {ι:Type} (ks kb:List Nat) (M:ι→Env) (MB:ι→Bxs) (O:ι→Ows) (I:ι→Hp→Prop) {K:Env} {KB:Bxs}
  (hk:zj2 env ks some=some K) (hkb:ziL bx kb some=some KB) (hp:∀i,zgO (M i++K) (MB i++KB)=true)
  (h:EV P n c env bx H (zbr (fun env' bx' G'=>∃i,zeq env' (M i)∧zeq env' K∧zeu bx' (MB i)∧zeu bx' KB∧G'.ow=O i∧I i G'.ro) Q))
  (hR:∀i G,I i G→EV P n c' (M i++K) (MB i++KB) ⟨G,O i,H.base⟩ Q'):EV P n c env bx H (zbr (fun env bx H=>EV P n c' env bx H Q') Q):=by
 refine EV.meet _ ?_ h;rintro env' bx' ⟨ro,ow,base⟩ hb ⟨i,h1,h2,h3,h4,h5,h6⟩;have hb':base=H.base:=hb;have h5':ow=O i:=h5;subst hb' h5';exact EV.less _ _ (h1.app h2) (h3.app h4) (hp i) (hR i ro h6)
theorem EVL.meetK {c':Code} {Q':EQ} {ι:Type} (ks kb:List Nat) (M:ι→Env) (MB:ι→Bxs) (O:ι→Ows) (I:ι→Hp→Prop) {K:Env} {KB:Bxs}
  (hk:zj2 env ks some=some K) (hkb:ziL bx kb some=some KB) (hp:∀i,zgO (M i++K) (MB i++KB)=true)
  (h:EVL P n ops rest env bx H (zbr (fun env' bx' G'=>∃i,zeq env' (M i)∧zeq env' K∧zeu bx' (MB i)∧zeu bx' KB∧G'.ow=O i∧I i G'.ro) Q))
  (hR:∀i G,I i G→EV P n c' (M i++K) (MB i++KB) ⟨G,O i,H.base⟩ Q'):EVL P n ops rest env bx H (zbr (fun env bx H=>EV P n c' env bx H Q') Q):=by
 refine EVL.meet _ ?_ h;rintro env' bx' ⟨ro,ow,base⟩ hb ⟨i,h1,h2,h3,h4,h5,h6⟩;have hb':base=H.base:=hb;have h5':ow=O i:=h5;subst hb' h5';exact EV.less _ _ (h1.app h2) (h3.app h4) (hp i) (hR i ro h6)
theorem EVL.app1 {o1 o2:Oper} {d1:Nat} (hτ:zay P τ) {T:TypeId} {len:Nat} {parts:Array (Nat × Operand)} {x:Operand} (ho1:o1.op=.buildSlice T len parts) (hg1:o1.guard=none) (hd1:o1.dst=some d1) (hn1:Nat.blt d1 n=true)
  (ho2:o2.op=.call { callee:=.builtin .append,args:=#[x,.tmp d1],argTypes:=#[T,T] }) (hg2:o2.guard=none) (hd2:o2.dst=some d) (hn2:Nat.blt d n=true) {te te':TE} {e:TypeId} (ht:τ.get T=some te) (hk:te.kind=.slice e) (ht':τ.get e=some te')
  (hsz:Nat.beq te'.zero.length te'.size=true) (hpos:Nat.ble 1 (len*te'.size)=true) (hsm:Nat.ble (len*te'.size) 10000=true) {cs:List Value} (hc:zic te'.zero len (fun zs=>zt3 env te'.size parts.toList zs some)=some cs)
  (hpos':Nat.ble 1 te'.size=true) (hby:Nat.ble te'.bytes 10000=true) (h1:zed cs=true) (hcl:cs.length=len*te'.size)
  {v:Value} (hx:∀b,Env.op ((d1,.v (.slice (some ⟨b,0,none⟩) len len))::env) x=some (.v v)) (ow post:Ows) (he:H.ow=ow++post) {m1:Nat} {xs:List Value} (hown:zaO e te'.size v m1 xs ow) (hm:m1+len≤1000000000)
  (h:∀b v' ow',zaO e te'.size v' (m1+len) (xs++cs) ow'→EVL P n ops rest ((d,.v v')::(d1,.v (.slice (some ⟨b,0,none⟩) len len))::env) bx ⟨H.ro,ow'++post,H.base⟩ Q):EVL P n ops (o1::o2::rest) env bx H Q:=by
 refine EVL.lit hτ ho1 hg1 hd1 hn1 ht hk ht' hsz hpos hsm hc fun b=>?_;refine EVL.append hτ ho2 hg2 hd2 hn2 ht hk ht' hsz hpos' hby (hx b) (u:=.slice (some ⟨b,0,none⟩) len len) (m2:=len) (ys:=cs) ?_ [(b,e,cs)] ow post (by rw[he];rfl) hown (zdj.own 0 rfl hcl) h1 hm fun v' ow' hown'=>?_
 ·simp only[Env.op,Env.get_cons,if_pos]
 ·exact EVL.subOw [] [(b,e,cs)] (ow'++post) rfl (h b v' ow' hown')
end
section
variable {P:Program} {n:Nat} {ops:Array Oper} {o:Oper} {rest:List Oper} {env:Env} {bx:Bxs} {H:Hs} {Q:EQ}
theorem EV.drawnK {id:Nat} {l:List Oper} (ks ka kb:List Nat) (m:Nat) {K:Env} {SB KB:Bxs} {kl:List DK} (hk:zj2 env ks some=some K) (hka:ziL bx ka some=some SB) (hkb:ziL bx kb some=some KB) (hp:zgO K (SB++KB)=true)
  (hm:P.follows .mixedOrders=true) (hB:zt4 l.toArray m n=true)
  (h:∀x y,DJ P n l.toArray (l.drop m) SB KB H Q x y kl 0 (l.take m) kl K (SB++KB) [] H.ow) (hS:zbT 0 kl []=true) (hS2:zfj kl []=true) (hD:(SB.all fun p=>(KB.get p.1).isNone)=true):EV P n (.region id l.toArray true) env bx H Q :=
 EV.less _ _ (zhR hk) ((zfd hka).app (zfd hkb)) hp (EV.drawnS SB m hm hB h hS hS2 hD)
end
section
variable {P:Program} {n:Nat} {ops:Array Oper} {o:Oper} {rest:List Oper} {env:Env} {bx:Bxs} {H:Hs} {Q:EQ} {τ:Tab} {d:Nat}
theorem zrT {T e:TypeId} (hk:P.underlying T=some (.slice e)) (size:Nat) (a:Option Addr) (c:Nat) (W:World):Src P size T (.slice a 0 c) 0 [] W:=by
 refine⟨.inl ⟨e,hk⟩,fun w'=>by simp[Builtin.lenOf],?_,?_,by simp,by simp⟩ <;> cases a <;> simp[Builtin.firstCells,loadCells,loadCellsFrom]
theorem EVL.append0 (hτ:zay P τ) {T:TypeId} {x y:Operand} (ho:o.op=.call { callee:=.builtin .append,args:=#[x,y],argTypes:=#[T,T] }) (hw:zag ops env o=some true) (hd:o.dst=some d) (hn:Nat.blt d n=true) {te te':TE} {e:TypeId} (ht:τ.get T=some te) (hk:te.kind=.slice e) (ht':τ.get e=some te')
  {a a':Option Addr} {m c c':Nat} (hx:env.op x=some (.v (.slice a m c))) (hy:env.op y=some (.v (.slice a' 0 c'))) (hle:m≤c)
  (h:EVL P n ops rest ((d,.v (.slice a m c))::env) bx H Q):EVL P n ops (o::rest) env bx H Q:=by
 have hkd:=(hτ.get ht).kind;rw[hk]at hkd;have hkd':P.underlying T=some (.slice e):=hkd;obtain⟨zv,hinfo,hzc⟩:=(hτ.get ht').info;obtain⟨i0,hi,hz0,hz1,hz2⟩:=info_parts hinfo;refine EVL.gen hw hd hn (fun ev W he=>?_) h;have ex:=he x _ (by rw[ho];simp[Op.operands,Call.operands]) hx;have ey:=he y _ (by rw[ho];simp[Op.operands,Call.operands]) hy;have hrn:=run_append_nothing (P:=P) W T T o.type e i0 hkd' hi a m c hle (.slice a' 0 c') (zrT hkd' _ _ _ _);unfold execOp;simp only[ho,resolve,invoke,builtin,Sem.run_bind,Sem.run_pure,Result.andThen_ok,List.map_toArray,qy,List.map_nil,ex,ey,hrn]
end
theorem ze0 {α:Type} {env:Env}:∀{l:List Operand} {k:List Value→Option α} {r:α},zbk env l k=some r→∃vs,k vs=some r∧∀ev:Operand→Value,(∀y x,y∈l→env.op y=some (.v x)→ev y=x)→l.map ev=vs
 | [],k,r,h=>⟨[],h,fun _ _=>rfl⟩
 | x::l,k,r,h=>by
  unfold zbk at h;split at h
  ·rename_i v hv;obtain⟨vs,h1,h2⟩:=ze0 h;exact⟨v::vs,h1,fun ev he=>by rw[qy,he x v (by simp) hv,h2 ev fun y x hy=>he y x (by simp[hy])]⟩
  ·cases h
section
variable {P:Program} {n:Nat} {ops:Array Oper} {o:Oper} {rest:List Oper} {env:Env} {bx:Bxs} {H:Hs} {Q:EQ} {τ:Tab} {d:Nat}
theorem EVL.buildArr {T:TypeId} {parts:Array (Nat × Operand)} (ho:o.op=.build T parts) (hw:zag ops env o=some true) (hd:o.dst=some d) (hn:Nat.blt d n=true) {vs:List Value} (ha:zbk env (parts.toList.map (·.2)) some=some vs) {cs:List Value}
  (hb:P.built T ((parts.toList.map (·.1)).zip vs)=some cs.toArray) (h:EVL P n ops rest ((d,.v (.agg cs.toArray))::env) bx H Q):EVL P n ops (o::rest) env bx H Q:=by
 refine EVL.gen hw hd hn (fun ev W he=>?_) h;obtain⟨vs',e1,h2⟩:=ze0 ha;cases e1;have h3:=h2 ev fun y x hy=>he y x (by rw[ho];simpa[Op.operands] using hy)
 have h4:((parts.map fun (i,x)=>(i,ev x)):Array (Nat × Value)).toList=(parts.toList.map (·.1)).zip vs:=by
  rw[←h3,Array.toList_map];generalize parts.toList=l
  induction l with
  | nil=>rfl
  | cons p l ih=>simp only[qy,List.zip_cons_cons,ih]
 have:=run_build (P:=P) W T (parts.map fun (i,x)=>(i,ev x)) cs.toArray (by rw[h4];exact hb);unfold execOp;rw[ho];simp[this]
theorem EVL.indexArr (hτ:zay P τ) {T e:TypeId} {x y:Operand} (ho:o.op=.index T x y) (hw:zag ops env o=some true) (hd:o.dst=some d) (hn:Nat.blt d n=true) {len:Nat} (hu:P.underlying T=some (.array len e)) {te:TE} (ht:τ.get e=some te) (hag:te.agg=false) (hsz:te.size=1)
  {cs:List Value} (hx:env.op x=some (.v (.agg cs.toArray))) {k:IntKind} {z:Int} (hy:env.op y=some (.v (.int k z))) (j:Nat) (hz:z=j) (hj:j<len) {v:Value} (hc:cs[j]?=some v)
  (h:EVL P n ops rest ((d,.v v)::env) bx H Q):EVL P n ops (o::rest) env bx H Q:=by
 refine EVL.gen hw hd hn (fun ev W he=>?_) h;have e1:=he x _ (by rw[ho];simp[Op.operands]) hx;have e2:=he y _ (by rw[ho];simp[Op.operands]) hy;subst hz;have hp:(part e cs.toArray j).run P W=.ok v W:=by simp[part,(hτ.get ht).agg,hag,hc]
 unfold execOp;simp only[ho,e1,e2,Instr.index,asIntOf,Sem.run_bind,Sem.run_pure,Result.andThen_ok,run_underlying hu];rw[if_pos ⟨by omega,by omega⟩];simp only[Sem.run_bind,(hτ.get ht).size,Result.andThen_ok,qU,hsz,Nat.mul_one,hp]
end
theorem flat_len {α:Type} (f:α→List Value) (s:Nat):∀(l:List α),(∀x,x∈l→(f x).length=s)→(l.flatMap f).length=l.length*s
 | [],_=>by simp
 | y::l,h=>by
  have h1:=h y (qh ..);have:=flat_len f s l (fun z hz=>h z (qn _ hz));rw[List.flatMap_cons,qJ,this,h1,qR,Nat.succ_mul];omega
theorem zdI {α:Type} (f:α→List Value) (s:Nat):∀(l:List α),(∀x,x∈l→(f x).length=s)→∀(j:Nat) (x:α),l[j]?=some x→((l.flatMap f).drop (j*s)).take s=f x
 | [],_,j,x,h=>by simp at h
 | y::l,hl,0,x,h=>by
  have hy:=hl y (qh ..);simp at h;subst h;rw[List.flatMap_cons,Nat.zero_mul,List.drop_zero,←hy,List.take_left'];rfl
 | y::l,hl,j+1,x,h=>by
  have hy:=hl y (qh ..);have:=zdI f s l (fun z hz=>hl z (qn _ hz)) j x (by simpa using h);rw[List.flatMap_cons,Nat.succ_mul,Nat.add_comm,←List.drop_drop,List.drop_left' hy];exact this
section
variable {P:Program} {n:Nat} {ops:Array Oper} {o:Oper} {rest:List Oper} {env:Env} {bx:Bxs} {sb:Bxs} {ow:Ows} {H:Hs} {Q:EQ} {τ:Tab} {d:Nat} {s:SV}
theorem EVL.idxM (hτ:zay P τ) {T:TypeId} {x y:Operand} (ho:o.op=.indexAddr T x y) (hw:zag ops env o=some true) (hd:o.dst=some d) (hn:Nat.blt d n=true) {te te':TE} {e:TypeId} (ht:τ.get T=some te) (hk:te.kind=.slice e) (ht':τ.get e=some te')
  {v:Value} (hx:env.op x=some (.v v)) {k:IntKind} {z:Int} (hy:env.op y=some (.v (.int k z))) {m:Nat} {xs:List Value} (hs:SlC H.ro v m te'.size xs) (j:Nat) (hz:z=j) (hj:j<m) {cs:List Value} (hc:(xs.drop (j*te'.size)).take te'.size=cs)
  (h:EVL P n ops rest ((d,.ro cs)::env) bx H Q):EVL P n ops (o::rest) env bx H Q:=fun W0 β a W r=>by
 subst hc;have ex:a.eval x=v:=r.op hx;have ey:a.eval y=.int k z:=r.op hy;have hkd:=(hτ.get ht).kind;rw[hk]at hkd;have hkd':P.underlying T=some (.slice e):=hkd;rcases hs.2 with ⟨h0,_⟩ | ⟨b,off,cap,c',rfl,hc',hH,hcs⟩
 ·omega
 ·have hrun:(execOp a.eval o).run P W=.ok (.value (.pointer (some ⟨b,off+j*te'.size,none⟩))) W:=by
   unfold execOp;simp[ho,ex,ey,Instr.indexAt,asIntOf,run_underlying hkd',hz,(hτ.get ht').size,Addr.add_mid,hj]
  unfold wpList;rw[if_pos (r.want hw)];refine .inl ?_;unfold Oper.wp;rw[hrun,Oper.upon_value,hd];refine h W0 β _ W (r.put hn ⟨b,off+j*te'.size,c',rfl,hH,fun q u hq=>?_⟩ rfl);rw[pP]at hq;split at hq
  ·rw[List.getElem?_drop]at hq;rw[Nat.add_assoc];exact hcs _ _ hq
  ·cases hq
theorem DJ.idxM {tail l:List Oper} {x:Nat→Value} {y:Nat→Ows} {ow':Ows} {kl ks:List DK} {i:Nat} {bx':Bxs} {Γ:zeZ} (hτ:zay P τ) {T:TypeId} {u w:Operand} (ho:o.op=.indexAddr T u w) (hw:zag ops env o=some true) (hd:o.dst=some d) (hn:Nat.blt d n=true) {te te':TE} {e:TypeId} (ht:τ.get T=some te) (hk:te.kind=.slice e) (ht':τ.get e=some te')
  {v:Value} (hx:env.op u=some (.v v)) {k:IntKind} {z:Int} (hy:env.op w=some (.v (.int k z))) {m:Nat} {xs:List Value} (hs:SlC H.ro v m te'.size xs) (j:Nat) (hz:z=j) (hj:j<m) {cs:List Value} (hc:(xs.drop (j*te'.size)).take te'.size=cs)
  (h:DJ P n ops tail sb bx H Q x y kl (i+1) l ks ((d,.ro cs)::env) bx' Γ ow'):DJ P n ops tail sb bx H Q x y kl i (o::l) (.sv (.ro cs)::ks) env bx' Γ ow':=by
 subst hc;exact DJ.ofVal (zab.idx hτ ho hw ht hk ht' hx hy hs j hz hj) hd hn rfl h
theorem ziQ {f:FuncId} (hc:zat P f) {t:Nat} {args:Array Operand} {tys:Array TypeId} {o:Oper} (ho:o.op=.call ⟨.value (.tmp t),args,tys⟩) {a:Act} (ht:a.eval (.tmp t)=.func (.func f) #[] #[]) {vs:List Value} (hv:args.toList.map a.eval=vs) (W:World) :
  (execOp a.eval o).run P W=.ok (.enter f vs.toArray) W:=by
 have hm:args.map a.eval=vs.toArray:=by rw[←hv,←Array.toList_map]
 unfold execOp;simp only[ho,resolve,hm,ht,Deferred.ofValue,Sem.run_bind,Sem.run_pure,Result.andThen_ok,invoke];simp[hc vs.toArray W]
theorem zab.callD {f:FuncId} {t:Nat} {args:Array Operand} {tys:Array TypeId} (ho:o.op=.call ⟨.value (.tmp t),args,tys⟩) (hw:zag ops env o=some true) (ht:env.get t=some (.v (.func (.func f) #[] #[]))) {vs:List Value} (ha:zbk env args.toList some=some vs) {F:Hp→Prop} {Φ:Value→Hp→Prop} (hc:zat P f) {R:Hp}
  (hpc:∀G,R.Le G→F G→PC P f vs.toArray G Φ):zab P ops o env bx ow R F (fun _ v G=>Φ v G):=fun β a W G hle hf hgl hb _ hs hF=>by
 obtain⟨vs',hk,hm⟩:=zaV env _ _ _ ha;cases hk;have hvs:=hm β G a.eval (fun y s hy=>hs.op (by simp[ho,Op.operands,Call.operands];exact .inr (by simpa using hy)));have htv:a.eval (.tmp t)=.func (.func f) #[] #[]:=hs.op (s:=.v (.func (.func f) #[] #[])) (by simp[ho,Op.operands,Call.operands]) ht;rw[if_pos (hs.want hw)];unfold Oper.wp;rw[ziQ hc ho htv hvs,Oper.upon_enter];refine((hpc G hle hF).run W hf hgl).mono ?_;rintro e W' ⟨v,H',rfl,hΦ,hle',hf',hb',hnew⟩;exact⟨v,H',rfl,hΦ,hle',hf',hb',hnew⟩
theorem DJ.callD {tail l:List Oper} {x:Nat→Value} {y:Nat→Ows} {ow':Ows} {kl ks:List DK} {i:Nat} {bx':Bxs} {Γ:zeZ} {f:FuncId} {t:Nat} {args:Array Operand} {tys:Array TypeId} (ho:o.op=.call ⟨.value (.tmp t),args,tys⟩) (hw:zag ops env o=some true) (hd:o.dst=some d) (hn:Nat.blt d n=true)
  (ht:env.get t=some (.v (.func (.func f) #[] #[]))) {vs:List Value} (ha:zbk env args.toList some=some vs) {v:Value} (hpc:PV P f vs.toArray v)
  (h:DJ P n ops tail sb bx H Q x y kl (i+1) l ks ((d,.v v)::env) bx' Γ ow'):DJ P n ops tail sb bx H Q x y kl i (o::l) (.sv (.v v)::ks) env bx' Γ ow':=by
 refine⟨d,hd,hn,rfl,?_,h⟩;have:=zab.callD (P:=P) (ops:=ops) (bx:=bx) (ow:=H.ow) (R:=H.ro) (F:=zdm ops i Γ) (Φ:=fun u _=>u=v) ho hw ht ha hpc.can (fun G _ _=>(hpc.pc G).mono fun _ _ h _=>h.1);exact this
end
section
variable {P:Program} {ops:Array Oper} {md:Region.Mode} {Q Q':Exit→Act→World→Prop}
theorem Oper.wp_monoQ {o:Oper} {a:Act} {W:World} {K K':Act→World→Prop} (hk:∀a W,K a W→K' a W) (hq:∀e a W,Q e a W→Q' e a W) (h:Oper.wp P o a W K Q):Oper.wp P o a W K' Q':=by
 have h2:=Oper.wp_mono hk h;unfold Oper.wp at *
 generalize (execOp a.eval o).run P W=r at *
 cases r with
 | ok m w' =>
  cases m <;> simp only[Oper.upon]at h2 ⊢ <;> try exact h2
  case enter f args =>
   refine h2.mono fun e w'' he=>?_
   cases e with
   | returned v=>exact he
   | panicked c=>exact hq _ _ _ he
   | outgrown=>obtain⟨a0,w0,h⟩:=he;exact⟨a0,w0,hq _ _ _ h⟩
 | halt y w' =>
  cases y <;> simp only[Oper.upon]at h2 ⊢
  case panic v=>exact hq _ _ _ h2
theorem zok {i:Nat} {a:Act} {W:World} {K K':Act→World→Prop} (hk:∀a W,K a W→K' a W) (hq:∀e a W,Q e a W→Q' e a W) (h:wpOp P ops Q i K a W):wpOp P ops Q' i K' a W:=by
 unfold wpOp at *
 split at h
 ·exact hk _ _ h
 ·split at h
  ·rename_i hw;rw[if_pos hw];rcases h with h | ⟨h1,a0,w0,h2⟩
   ·exact .inl (Oper.wp_monoQ hk hq h)
   ·exact .inr ⟨h1,a0,w0,hq _ _ _ h2⟩
  ·rename_i hw;rw[if_neg hw];exact hk _ _ h
theorem zia (hq:∀e a W,Q e a W→Q' e a W):∀(fuel:Nat) (L:Array Bool) (a:Act) (W:World),wpAny P md ops Q fuel L a W→wpAny P md ops Q' fuel L a W
 | 0,_,_,_,h=>⟨h.1,hq _ _ _ h.2⟩
 | fuel+1,_,_,_,h=>⟨fun e=>hq _ _ _ (h.1 e),fun i hi=>zok (fun a W k=>zia hq fuel _ a W k) hq (h.2 i hi)⟩
end
def EVA (P:Program) (n:Nat) (ops:Array Oper) (fuel:Nat) (L:Array Bool) (env:Env) (bx:Bxs) (H:Hs) (K:Env→Bxs→Hs→Prop):Prop :=
 ∀W0 β a W,Rel n W0 H.base β env bx H a W→wpAny P .any ops (fun e a W=>e=.normal∧zjK n W0 H.base (fun _ env bx H=>K env bx H) .normal a W) fuel L a W
section
variable {P:Program} {n:Nat} {ops:Array Oper} {fuel:Nat} {L:Array Bool} {env:Env} {bx:Bxs} {H:Hs} {K:Env→Bxs→Hs→Prop} {τ:Tab} {d:Nat} {o:Oper} {v:Value}
theorem EVA.start {id:Nat} {l:List Oper} {Q:EQ} (hm:P.follows .mixedOrders=true) (h:EVA P n l.toArray l.length (Array.replicate l.length false) env bx H (fun env bx H=>Q .normal env bx H)):EV P n (.region id l.toArray true) env bx H Q:=fun W0 β a W r=>by
 refine wp_region_any hm ?_;have h1:=h W0 β a W.drew r.drew;refine zia ?_ _ _ _ _ h1;rintro e a W ⟨rfl,β,env',bx',H',hb,hq,hr⟩;exact⟨β,env',bx',H',hb,hq,hr⟩
theorem EVA.take (i:Nat) (hi:ops[i]?=some o) (hs:Region.noSelect ops=true) (hf:Region.free .any ops L i=true) (hr:(Region.ready .any ops L).contains i=true) (hw:zag ops env o=some true) (hd:o.dst=some d) (hn:Nat.blt d n=true)
  (hx:∀(ev:Operand→Value) (W:World),(∀y x,y∈o.op.operands→env.op y=some (.v x)→ev y=x)→(execOp ev o).run P W=.ok (.value v) W)
  (h:EVA P n ops fuel (L.setIfInBounds i true) ((d,.v v)::env) bx H K):EVA P n ops (fuel+1) L env bx H K:=fun W0 β a W r=>by
 refine wpAny_take (v:=v) hi hs hf hr (fun c a w e=>by cases e.1) (.inl ⟨r.want hw,fun w=>hx a.eval w (fun y x _ hy=>r.op hy)⟩) ?_;rw[hd];exact h W0 β _ W (r.put hn rfl rfl)
def zmD (env:Env) (y:Operand):Bool:=match env.op y with
 | some (.v _)=>true
 | some _=>false
 | none=>true
def zj5 (env:Env):List Operand→Bool
 | []=>true
 | y::l=>match zmD env y with
  | true=>zj5 env l
  | false=>false
theorem zfe {env:Env}:∀{l:List Operand},zj5 env l=true→∀y,y∈l→zmD env y=true
 | [],_,y,h=>by cases h
 | z::l,h,y,hm=>by
  unfold zj5 at h;split at h
  ·rename_i hz;rcases List.mem_cons.1 hm with rfl | hm
   ·exact hz
   ·exact zfe h y hm
  ·cases h
theorem zj6 {env:Env} {y:Operand} {s:SV} {β:Nat→Nat} {G G':Hp} {x:Value} (hp:zmD env y=true) (hy:env.op y=some s) (h:s.rep β G x):s.rep β G' x:=by
 unfold zmD at hp;rw[hy]at hp
 cases s with
 | v u=>exact h
 | p i off=>cases hp
 | ro cs=>cases hp
theorem EVA.val (hτ:zay P τ) (i:Nat) (hi:ops[i]?=some o) (hs:Region.noSelect ops=true) (hf:Region.free .any ops L i=true) (hr:(Region.ready .any ops L).contains i=true) (hw:zag ops env o=some true) (hd:o.dst=some d) (hn:Nat.blt d n=true)
  (hv:zrD τ env [] o.op=some (.v v)) (hpl:zj5 env o.op.operands.toList=true) (h:EVA P n ops fuel (L.setIfInBounds i true) ((d,.v v)::env) bx H K):EVA P n ops (fuel+1) L env bx H K:=fun W0 β a W r=>by
 refine wpAny_take (v:=v) hi hs hf hr (fun c a w e=>by cases e.1) (.inl ⟨r.want hw,fun w=>?_⟩) ?_
 ·obtain⟨x,hx,hr⟩:=zcK (β:=β) (H:=fun _=>none) (W:=w) (a:=a) hτ hv (fun y s hm hy=>zj6 (zfe hpl y (by simpa using hm)) hy (r.op hy)) (fun i T cs e=>by cases e) (fun b c e=>by cases e)
  ·have e:x=v:=hr;rw[←e];exact hx
 ·rw[hd];exact h W0 β _ W (r.put hn rfl rfl)
theorem EVA.step (hk:∀p,p∈Region.ready .any ops L→∃o,ops[p]?=some o∧EVL P n ops [o] env bx H (fun e env bx H'=>e=.normal∧EVA P n ops fuel (L.setIfInBounds p true) env bx H' K)) (hne:(Region.ready .any ops L).isEmpty=false):EVA P n ops (fuel+1) L env bx H K:=fun W0 β a W r=>by
 refine⟨fun e=>(by rw[e]at hne;cases hne),fun p hp=>?_⟩;obtain⟨o,ho,h⟩:=hk p hp;have h1:=h W0 β a W r
 have hkk:∀a W,zjK n W0 H.base (fun e env bx H'=>e=.normal∧EVA P n ops fuel (L.setIfInBounds p true) env bx H' K) .normal a W→wpAny P .any ops (fun e a W=>e=.normal∧zjK n W0 H.base (fun _ env bx H=>K env bx H) .normal a W) fuel (L.setIfInBounds p true) a W:=by
  rintro a W ⟨β',env',bx',H',hbase,⟨_,hE⟩,rel⟩;have:=hE W0 β' a W (by rw[hbase];exact rel)
  rwa [hbase]at this
 unfold wpOp;simp only[ho];unfold wpList at h1;split
 ·rename_i hw;rw[if_pos hw]at h1;rcases h1 with h1 | ⟨h1,h2⟩
  ·refine .inl (Oper.wp_exits (fun c a W hq=>?_) (fun hq=>?_) (Oper.wp_mono (fun a W h=>hkk a W h) h1))
   ·obtain⟨_,_,_,_,_,⟨e,_⟩,_⟩:=hq;cases e
   ·obtain⟨a0,w0,_,_,_,_,_,⟨e,_⟩,_⟩:=hq;cases e
  ·obtain⟨a0,w0,_,_,_,_,_,⟨e,_⟩,_⟩:=h2;cases e
 ·rename_i hw;rw[if_neg hw]at h1;exact hkk _ _ h1
theorem EVA.one (p:Nat) (hr:(Region.ready .any ops L == [p])=true) (ho:ops[p]?=some o) (h:EVL P n ops [o] env bx H (fun e env bx H'=>e=.normal∧EVA P n ops fuel (L.setIfInBounds p true) env bx H' K)):EVA P n ops (fuel+1) L env bx H K:=by
 have hr':=eq_of_beq hr;refine EVA.step (fun q hq=>?_) (by rw[hr'];rfl);rw[hr']at hq;obtain rfl:q=p:=by simpa using hq
 exact⟨o,ho,h⟩
theorem EVA.two {o':Oper} (p q:Nat) (hr:(Region.ready .any ops L == [p,q])=true) (ho:ops[p]?=some o) (ho':ops[q]?=some o') (h:EVL P n ops [o] env bx H (fun e env bx H'=>e=.normal∧EVA P n ops fuel (L.setIfInBounds p true) env bx H' K))
  (h':EVL P n ops [o'] env bx H (fun e env bx H'=>e=.normal∧EVA P n ops fuel (L.setIfInBounds q true) env bx H' K)):EVA P n ops (fuel+1) L env bx H K:=by
 have hr':=eq_of_beq hr;refine EVA.step (fun s hs=>?_) (by rw[hr'];rfl);rw[hr']at hs;rcases List.mem_cons.1 hs with rfl | hs
 ·exact⟨o,ho,h⟩
 ·obtain rfl:s=q:=by simpa using hs
  exact⟨o',ho',h'⟩
theorem EVA.nil (hr:(Region.ready .any ops L).isEmpty=true) (h:K env bx H):EVA P n ops fuel L env bx H K:=fun W0 β a W r =>
 wpAny_done (List.isEmpty_iff.1 hr) ⟨rfl,β,env,bx,H,rfl,h,r⟩ fuel
end
theorem zjC {α:Type} {f:α→List Value} {s:Nat} {l:List α} (h:∀x,x∈l→(f x).length=s) (sp:List Value) {j:Nat} {x:α} (hj:l[j]?=some x):((l.flatMap f++sp).drop (j*s)).take s=f x:=by
 obtain⟨hl,_⟩:=qE.1 hj;have hf:=flat_len f s l h;have hb:j*s+s≤l.length*s:=by rw[←Nat.succ_mul];exact qN _ hl
 rw[List.drop_append_of_le_length (by rw[hf];omega),List.take_append_of_le_length (by rw[qu,hf];omega)];exact zdI f s l h j x hj
theorem zft {α:Type} {f:α→List Value} {s:Nat}:∀{l:List α},(∀x,x∈l→(f x).length=s)→∀(sp:List Value) {j:Nat} (y:α),j<l.length→(l.flatMap f++sp).take (j*s)++f y++(l.flatMap f++sp).drop (j*s+s)=(l.set j y).flatMap f++sp
 | [],_,_,j,y,hj=>by simp at hj
 | x::l,h,sp,0,y,_=>by
  have hx:=h x (qh ..);rw[List.flatMap_cons,List.set_cons_zero,List.flatMap_cons,Nat.zero_mul,List.take_zero,pO,qv,qZ,qZ,List.drop_left' hx]
 | x::l,h,sp,j+1,y,hj=>by
  have hx:=h x (qh ..);have ih:=zft (f:=f) (fun z hz=>h z (qn _ hz)) sp y (show j<l.length by simpa using hj);generalize hA:l.flatMap f++sp=A at *
  have e1:(x::l).flatMap f++sp=f x++A:=by rw[List.flatMap_cons,qZ,hA]
  have e2:((x::l).set (j+1) y).flatMap f++sp=f x++((l.set j y).flatMap f++sp):=by rw[List.set_cons_succ,List.flatMap_cons,qZ]
  have e3:(j+1)*s=(f x).length+j*s:=by rw[Nat.succ_mul,hx];omega
  rw[e1,e2,←ih,e3,List.take_length_add_append,show (f x).length+j*s+s=(f x).length+(j*s+s) by omega,List.drop_length_add_append];simp only[qZ]
section
variable {P:Program} {n:Nat} {ops:Array Oper} {o:Oper} {rest:List Oper} {env:Env} {bx:Bxs} {sb:Bxs} {ow:Ows} {H:Hs} {Q:EQ} {τ:Tab} {d:Nat} {s:SV}
theorem ziS (hτ:zay P τ) {T:TypeId} {x y:Operand} (ho:o.op=.indexAddr T x y) {te te':TE} {e:TypeId} (ht:τ.get T=some te) (hk:te.kind=.slice e) (ht':τ.get e=some te')
  {b m cap:Nat} (hx:env.op x=some (.v (.slice (some ⟨b,0,none⟩) m cap))) {k:IntKind} {z:Int} (hy:env.op y=some (.v (.int k z))) (j q:Nat) (hz:z=j) (hj:j<m) (hq:j*te'.size=q) (ev:Operand→Value) (W:World) (he:∀y x,y∈o.op.operands→env.op y=some (.v x)→ev y=x) :
  (execOp ev o).run P W=.ok (.value (.pointer (some ⟨b,q,none⟩))) W:=by
 have ex:=he x _ (by simp[ho,Op.operands]) hx;have ey:=he y _ (by simp[ho,Op.operands]) hy;have hkd:=(hτ.get ht).kind;rw[hk]at hkd;have hkd':P.underlying T=some (.slice e):=hkd;unfold execOp;simp[ho,ex,ey,Instr.indexAt,asIntOf,run_underlying hkd',hz,(hτ.get ht').size,Addr.add_mid,hj,hq]
theorem EVL.idxB (hτ:zay P τ) {T:TypeId} {x y:Operand} (ho:o.op=.indexAddr T x y) (hw:zag ops env o=some true) (hd:o.dst=some d) (hn:Nat.blt d n=true) {te te':TE} {e:TypeId} (ht:τ.get T=some te) (hk:te.kind=.slice e) (ht':τ.get e=some te')
  {b m cap:Nat} (hx:env.op x=some (.v (.slice (some ⟨b,0,none⟩) m cap))) {k:IntKind} {z:Int} (hy:env.op y=some (.v (.int k z))) (j q:Nat) (hz:z=j) (hj:j<m) (hq:j*te'.size=q)
  (h:EVL P n ops rest ((d,.v (.pointer (some ⟨b,q,none⟩)))::env) bx H Q):EVL P n ops (o::rest) env bx H Q:=EVL.gen hw hd hn (ziS hτ ho ht hk ht' hx hy j q hz hj hq) h
theorem DJ.idxB {tail l:List Oper} {x:Nat→Value} {y:Nat→Ows} {ow':Ows} {kl ks:List DK} {i:Nat} {bx':Bxs} {Γ:zeZ} (hτ:zay P τ) {T:TypeId} {u w:Operand} (ho:o.op=.indexAddr T u w) (hw:zag ops env o=some true) (hd:o.dst=some d) (hn:Nat.blt d n=true) {te te':TE} {e:TypeId} (ht:τ.get T=some te) (hk:te.kind=.slice e) (ht':τ.get e=some te')
  {b m cap:Nat} (hx:env.op u=some (.v (.slice (some ⟨b,0,none⟩) m cap))) {k:IntKind} {z:Int} (hy:env.op w=some (.v (.int k z))) (j q:Nat) (hz:z=j) (hj:j<m) (hq:j*te'.size=q)
  (h:DJ P n ops tail sb bx H Q x y kl (i+1) l ks ((d,.v (.pointer (some ⟨b,q,none⟩)))::env) bx' Γ ow'):DJ P n ops tail sb bx H Q x y kl i (o::l) (.sv (.v (.pointer (some ⟨b,q,none⟩)))::ks) env bx' Γ ow' :=
 DJ.ofVal (zab.gen hw (ziS hτ ho ht hk ht' hx hy j q hz hj hq)) hd hn rfl h
theorem EVA.idxB {fuel:Nat} {L:Array Bool} {K:Env→Bxs→Hs→Prop} (hτ:zay P τ) (i:Nat) (hi:ops[i]?=some o) (hs:Region.noSelect ops=true) (hf:Region.free .any ops L i=true) (hr:(Region.ready .any ops L).contains i=true) (hw:zag ops env o=some true) (hd:o.dst=some d) (hn:Nat.blt d n=true)
  {T:TypeId} {x y:Operand} (ho:o.op=.indexAddr T x y) {te te':TE} {e:TypeId} (ht:τ.get T=some te) (hk:te.kind=.slice e) (ht':τ.get e=some te')
  {b m cap:Nat} (hx:env.op x=some (.v (.slice (some ⟨b,0,none⟩) m cap))) {k:IntKind} {z:Int} (hy:env.op y=some (.v (.int k z))) (j q:Nat) (hz:z=j) (hj:j<m) (hq:j*te'.size=q)
  (h:EVA P n ops fuel (L.setIfInBounds i true) ((d,.v (.pointer (some ⟨b,q,none⟩)))::env) bx H K):EVA P n ops (fuel+1) L env bx H K :=
 EVA.take i hi hs hf hr hw hd hn (ziS hτ ho ht hk ht' hx hy j q hz hj hq) h
theorem zgZ {d:Nat} {T e:TypeId} {a:Option Addr} {m c:Nat} {W:World} (hT:P.underlying T=some (.slice e)):(Op.equalIn (d+1) T (.slice a m c) (.slice none 0 0)).run P W=.ok a.isNone W:=by
 unfold Op.equalIn;cases a <;> simp[run_underlying hT]
theorem EVL.eqnil (hτ:zay P τ) {T T':TypeId} {x:Operand} {a:Option Addr} {m c:Nat} (ho:o.op=.binOp .eql T x (.const (.slice none 0 0)) T') (hw:zag ops env o=some true) (hd:o.dst=some d) (hn:Nat.blt d n=true) {te:TE} {e:TypeId} (ht:τ.get T=some te) (hk:te.kind=.slice e)
  (hx:env.op x=some (.v (.slice a m c))) (h:EVL P n ops rest ((d,.v (.bool a.isNone))::env) bx H Q):EVL P n ops (o::rest) env bx H Q :=
 EVL.gen hw hd hn (fun ev W he=>by
  have ex:=he x _ (by simp[ho,Op.operands]) hx;have ey:=he (.const (.slice none 0 0)) _ (by simp[ho,Op.operands]) rfl;have hkd:=(hτ.get ht).kind;rw[hk]at hkd;have hkd':P.underlying T=some (.slice e):=hkd;have hq:=zgZ (P:=P) (d:=9999) (a:=a) (m:=m) (c:=c) (W:=W) hkd';have hm:Op.maxDepth=9999+1:=rfl;unfold execOp;cases a <;> simp[ho,ex,ey,eqGuard,binOp,Op.equal,hm,hq]) h
end
def unS (d b:Nat):SV→SV
 | .p i off=>match Nat.beq i d with
  | true=>.v (.pointer (some ⟨b,off,none⟩))
  | false=>.p i off
 | s=>s
theorem zqr (d b off:Nat):unS d b (.p d off)=.v (.pointer (some ⟨b,off,none⟩)):=by
 unfold unS;simp only[Nat.beq_refl]
theorem zmW {d b i off:Nat} (h:i≠d):unS d b (.p i off)=.p i off:=by
 have:Nat.beq i d=false:=by cases hb:Nat.beq i d with | false=>rfl | true=>exact absurd (qz hb) h
 unfold unS;simp only[this]
def unP (d b:Nat):Env→Env
 | []=>[]
 | (t,s)::e=>(t,unS d b s)::unP d b e
def unB (d:Nat):Bxs→Bxs
 | []=>[]
 | (i,x)::e=>match Nat.beq i d with
  | true=>unB d e
  | false=>(i,x)::unB d e
theorem zlI (d:Nat):∀(e:Bxs) (i:Nat),(unB d e).get i=if i=d then none else e.get i
 | [],i=>by simp[unB,Bxs.get]
 | (j,x)::e,i=>by
  have ih:=zlI d e i;unfold unB
  cases hb:Nat.beq j d with
  | true =>
   obtain rfl:=qz hb;simp only;rw[ih,Bxs.get_cons];by_cases h:i=j
   ·rw[if_pos h,if_pos h]
   ·rw[if_neg h,if_neg h,if_neg (fun k=>h k.symm)]
  | false =>
   have hne:j≠d:=fun h=>by subst h;rw[Nat.beq_refl]at hb;cases hb
   simp only;rw[Bxs.get_cons,Bxs.get_cons,ih];by_cases h:j=i
   ·subst h;rw[if_pos rfl,if_pos rfl,if_neg hne]
   ·rw[if_neg h,if_neg h]
theorem zlJ (d b:Nat):∀(e:Env) (t:Nat),(unP d b e).get t=(e.get t).map (unS d b)
 | [],t=>rfl
 | (u,s)::e,t=>by
  have ih:=zlJ d b e t;have key:unP d b ((u,s)::e)=(u,unS d b s)::unP d b e:=rfl;rw[key,Env.get_cons,Env.get_cons,ih];by_cases h:u=t
  ·rw[if_pos h,if_pos h];rfl
  ·rw[if_neg h,if_neg h]
theorem Rel.unbox {n:Nat} {W0:World} {H0:Bs} {β:Nat→Nat} {env:Env} {bx:Bxs} {H:Hs} {a:Act} {W:World} (r:Rel n W0 H0 β env bx H a W) (d:Nat) {T:TypeId} {cs:List Value} (hg:bx.get d=some (T,cs)) :
  Rel n W0 H0 β (unP d (β d) env) (unB d bx) ⟨H.ro,(β d,T,cs)::H.ow,H.base⟩ a W:=by
 have hdS:(bx.get d).isSome=true:=by rw[hg];rfl
 have gt:∀i x,(unB d bx).get i=some x→i≠d∧bx.get i=some x:=fun i x hi=>by
  rw[zlI]at hi;by_cases h:i=d
  ·rw[if_pos h]at hi;cases hi
  ·rw[if_neg h]at hi;exact⟨h,hi⟩
 have gs:∀i,((unB d bx).get i).isSome=true→i≠d∧(bx.get i).isSome=true:=fun i hi=>by
  obtain⟨x,hx⟩:=Option.isSome_iff_exists.1 hi;obtain⟨h1,h2⟩:=gt i x hx;exact⟨h1,by rw[h2];rfl⟩
 refine⟨r.size,r.defers,fun t u hu=>?_,fun i T' cs' hi=>r.box i T' cs' (gt i _ hi).2,fun i hi=>r.low i (gs i hi).2,fun i j hi hj hij=>r.inj i j (gs i hi).2 (gs j hj).2 hij,fun t i off hu=>?_,r.fits,r.le,r.new,r.bel,r.glob,fun j b T' cs' hj=>?_,fun j j' b T1 T2 c1 c2 hj hj'=>?_⟩
 ·rw[zlJ]at hu;obtain⟨s,hs,rfl⟩:=Option.map_eq_some_iff.1 hu;obtain⟨y,hy,hr⟩:=r.slot t s hs;refine⟨y,hy,?_⟩
  cases s with
  | v x=>exact hr
  | ro cs=>exact hr
  | p i off =>
   by_cases h:i=d
   ·subst h;rw[zqr];exact hr
   ·rw[zmW h];exact hr
 ·rw[zlJ]at hu;obtain⟨s,hs,he⟩:=Option.map_eq_some_iff.1 hu
  cases s with
  | v x=>cases he
  | ro cs=>cases he
  | p i' off' =>
   by_cases h:i'=d
   ·subst h;rw[zqr]at he;cases he
   ·rw[zmW h]at he;cases he;have:=r.pin t i off hs;rw[zlI,if_neg h];exact this
 ·cases j with
  | zero =>
   simp at hj;obtain⟨rfl,rfl,rfl⟩:=hj;exact⟨r.box d T cs hg,.inl (r.low d hdS).1,(r.low d hdS).2,fun i hi e=>(gs i hi).1 (r.inj i d (gs i hi).2 hdS e)⟩
  | succ j =>
   obtain⟨h1,h2,h3,h4⟩:=r.own j b T' cs' (by simpa using hj);exact⟨h1,h2,h3,fun i hi=>h4 i (gs i hi).2⟩
 ·have lt:∀j T c,H.ow[j]?=some (β d,T,c)→False:=fun j T c hj=>(r.own j _ T c hj).2.2.2 d hdS rfl
  cases j with
  | zero =>
   simp at hj
   cases j' with
   | zero=>rfl
   | succ j'=>exact(lt j' T2 c2 (by rw[hj.1];simpa using hj')).elim
  | succ j =>
   cases j' with
   | zero=>simp at hj';exact(lt j T1 c1 (by rw[hj'.1];simpa using hj)).elim
   | succ j'=>rw[r.one j j' b T1 T2 c1 c2 (by simpa using hj) (by simpa using hj')]
section
variable {P:Program} {n:Nat} {ops:Array Oper} {o:Oper} {rest:List Oper} {env:Env} {bx:Bxs} {sb:Bxs} {ow:Ows} {H:Hs} {Q:EQ} {τ:Tab} {d:Nat} {s:SV}
theorem EVL.unbox (i:Nat) {T:TypeId} {cs:List Value} (hg:bx.get i=some (T,cs)) (h:∀b,EVL P n ops rest (unP i b env) (unB i bx) ⟨H.ro,(b,T,cs)::H.ow,H.base⟩ Q):EVL P n ops rest env bx H Q :=
 fun W0 β a W r=>h (β i) W0 β a W (r.unbox i hg)
theorem EV.unbox {c:Code} (i:Nat) {T:TypeId} {cs:List Value} (hg:bx.get i=some (T,cs)) (h:∀b,EV P n c (unP i b env) (unB i bx) ⟨H.ro,(b,T,cs)::H.ow,H.base⟩ Q):EV P n c env bx H Q :=
 fun W0 β a W r=>h (β i) W0 β a W (r.unbox i hg)
theorem ziR (hτ:zay P τ) {T:TypeId} {x:Operand} {f:Nat} (ho:o.op=.fieldAddr T x f) {te:TE} (ht:τ.get T=some te) {fo sz:Nat} {ag:Bool} (hf:te.fields[f]?=some (fo,ag,sz)) {b q:Nat} (hx:env.op x=some (.v (.pointer (some ⟨b,q,none⟩)))) (ev:Operand→Value) (W:World) (he:∀y x,y∈o.op.operands→env.op y=some (.v x)→ev y=x) :
  (execOp ev o).run P W=.ok (.value (.pointer (some ⟨b,q+fo,none⟩))) W:=by
 have ex:=he x _ (by simp[ho,Op.operands]) hx;have:=((hτ.get ht).fields.get hf).1 W ⟨b,q,none⟩;rw[qv]at this;unfold execOp;simp only[ho,ex,Sem.run_bind,this,Result.andThen_ok,Sem.run_pure,Addr.add_mid]
theorem EVL.fldB (hτ:zay P τ) {T:TypeId} {x:Operand} {f:Nat} (ho:o.op=.fieldAddr T x f) (hw:zag ops env o=some true) (hd:o.dst=some d) (hn:Nat.blt d n=true) {te:TE} (ht:τ.get T=some te) {fo sz:Nat} {ag:Bool} (hf:te.fields[f]?=some (fo,ag,sz)) {b q:Nat} (hx:env.op x=some (.v (.pointer (some ⟨b,q,none⟩))))
  (h:EVL P n ops rest ((d,.v (.pointer (some ⟨b,q+fo,none⟩)))::env) bx H Q):EVL P n ops (o::rest) env bx H Q:=EVL.gen hw hd hn (ziR hτ ho ht hf hx) h
theorem DJ.fldB {tail l:List Oper} {x:Nat→Value} {y:Nat→Ows} {ow':Ows} {kl ks:List DK} {i:Nat} {bx':Bxs} {Γ:zeZ} (hτ:zay P τ) {T:TypeId} {u:Operand} {f:Nat} (ho:o.op=.fieldAddr T u f) (hw:zag ops env o=some true) (hd:o.dst=some d) (hn:Nat.blt d n=true) {te:TE} (ht:τ.get T=some te) {fo sz:Nat} {ag:Bool} (hf:te.fields[f]?=some (fo,ag,sz)) {b q:Nat} (hx:env.op u=some (.v (.pointer (some ⟨b,q,none⟩))))
  (h:DJ P n ops tail sb bx H Q x y kl (i+1) l ks ((d,.v (.pointer (some ⟨b,q+fo,none⟩)))::env) bx' Γ ow'):DJ P n ops tail sb bx H Q x y kl i (o::l) (.sv (.v (.pointer (some ⟨b,q+fo,none⟩)))::ks) env bx' Γ ow' :=
 DJ.ofVal (zab.gen hw (ziR hτ ho ht hf hx)) hd hn rfl h
theorem ziT {x:Operand} (ho:o.op=.nilCheck x) {c:Addr} (hx:env.op x=some (.v (.pointer (some c)))) (ev:Operand→Value) (W:World) (he:∀y x,y∈o.op.operands→env.op y=some (.v x)→ev y=x) :
  (execOp ev o).run P W=.ok (.value (.pointer (some c))) W:=by
 have ex:=he x _ (by simp[ho,Op.operands]) hx;unfold execOp;simp only[ho,ex,Sem.run_pure]
theorem EVL.nilB {x:Operand} (ho:o.op=.nilCheck x) (hw:zag ops env o=some true) (hd:o.dst=some d) (hn:Nat.blt d n=true) {c:Addr} (hx:env.op x=some (.v (.pointer (some c))))
  (h:EVL P n ops rest ((d,.v (.pointer (some c)))::env) bx H Q):EVL P n ops (o::rest) env bx H Q:=EVL.gen hw hd hn (ziT ho hx) h
theorem DJ.nilB {tail l:List Oper} {x:Nat→Value} {y:Nat→Ows} {ow':Ows} {kl ks:List DK} {i:Nat} {bx':Bxs} {Γ:zeZ} {u:Operand} (ho:o.op=.nilCheck u) (hw:zag ops env o=some true) (hd:o.dst=some d) (hn:Nat.blt d n=true) {c:Addr} (hx:env.op u=some (.v (.pointer (some c))))
  (h:DJ P n ops tail sb bx H Q x y kl (i+1) l ks ((d,.v (.pointer (some c)))::env) bx' Γ ow'):DJ P n ops tail sb bx H Q x y kl i (o::l) (.sv (.v (.pointer (some c)))::ks) env bx' Γ ow' :=
 DJ.ofVal (zab.gen hw (ziT ho hx)) hd hn rfl h
theorem zrK (hτ:zay P τ) {T e:TypeId} {x y:Operand} (ho:o.op=.indexAddr T x y) {len:Nat} (hu:P.underlying T=some (.array len e)) {te:TE} (ht:τ.get e=some te) (hs:te.size=1)
  {b q:Nat} (hx:env.op x=some (.v (.pointer (some ⟨b,q,none⟩)))) {k:IntKind} {z:Int} (hy:env.op y=some (.v (.int k z))) (j:Nat) (hz:z=j) (hj:j<len) (ev:Operand→Value) (W:World) (he:∀y x,y∈o.op.operands→env.op y=some (.v x)→ev y=x) :
  (execOp ev o).run P W=.ok (.value (.pointer (some ⟨b,q+j,none⟩))) W:=by
 have ex:=he x _ (by simp[ho,Op.operands]) hx;have ey:=he y _ (by simp[ho,Op.operands]) hy;subst hz;unfold execOp;simp[ho,ex,ey,Instr.indexAt,asIntOf,run_underlying hu,Instr.sureAddr,(hτ.get ht).size,hs,hj,Addr.add_mid]
theorem DJ.idxA {tail l:List Oper} {x:Nat→Value} {y:Nat→Ows} {ow':Ows} {kl ks:List DK} {i:Nat} {bx':Bxs} {Γ:zeZ} (hτ:zay P τ) {T e:TypeId} {u w:Operand} (ho:o.op=.indexAddr T u w) (hw:zag ops env o=some true) (hd:o.dst=some d) (hn:Nat.blt d n=true) {len:Nat} (hu:P.underlying T=some (.array len e)) {te:TE} (ht:τ.get e=some te) (hs:te.size=1)
  {b q:Nat} (hx:env.op u=some (.v (.pointer (some ⟨b,q,none⟩)))) {k:IntKind} {z:Int} (hy:env.op w=some (.v (.int k z))) (j:Nat) (hz:z=j) (hj:j<len)
  (h:DJ P n ops tail sb bx H Q x y kl (i+1) l ks ((d,.v (.pointer (some ⟨b,q+j,none⟩)))::env) bx' Γ ow'):DJ P n ops tail sb bx H Q x y kl i (o::l) (.sv (.v (.pointer (some ⟨b,q+j,none⟩)))::ks) env bx' Γ ow' :=
 DJ.ofVal (zab.gen hw (zrK hτ ho hu ht hs hx hy j hz hj)) hd hn rfl h
end
theorem RP {G G':Prop} (h:G') (f:G'→G:=by intro h;(repeat (first|refine EVL.nilB rfl rfl rfl rfl rfl ?_|refine EVL.fldB tO rfl rfl rfl rfl rfl rfl rfl ?_|refine EVL.val tO rfl rfl rfl rfl rfl ?_));exact h):G:=f h
section
variable {P:Program} {n:Nat} {ops:Array Oper} {tail:List Oper} {sb bx:Bxs} {H:Hs} {Q:EQ} {x:Nat→Value} {y:Nat→Ows} {ow':Ows} {kl:List DK} {i:Nat} {o:Oper} {l rest:List Oper} {ks:List DK} {env:Env} {bx':Bxs} {Γ:zeZ} {d:Nat} {f:FuncId} {args:Array Operand} {tys:Array TypeId} {vs:List Value}
theorem vN {u:Operand} {c:Addr} (h:DJ P n ops tail sb bx H Q x y kl (i+1) l ks ((d,.v (.pointer (some c)))::env) bx' Γ ow') (ho:o.op=.nilCheck u:=by exact rfl) (hw:zag ops env o=some true:=by exact rfl) (hd:o.dst=some d:=by exact rfl) (hn:Nat.blt d n=true:=by exact rfl) (hx:env.op u=some (.v (.pointer (some c))):=by exact rfl):DJ P n ops tail sb bx H Q x y kl i (o::l) (.sv (.v (.pointer (some c)))::ks) env bx' Γ ow':=DJ.nilB ho hw hd hn hx h
theorem vF {T:TypeId} {u:Operand} {f b q fo sz:Nat} {ag:Bool} {te:TE} (h:DJ Tryz.prog n ops tail sb bx H Q x y kl (i+1) l ks ((d,.v (.pointer (some ⟨b,q+fo,none⟩)))::env) bx' Γ ow') (ho:o.op=.fieldAddr T u f:=by exact rfl) (hw:zag ops env o=some true:=by exact rfl) (hd:o.dst=some d:=by exact rfl) (hn:Nat.blt d n=true:=by exact rfl) (ht:Tryz.tab.get T=some te:=by exact rfl) (hf:te.fields[f]?=some (fo,ag,sz):=by exact rfl) (hx:env.op u=some (.v (.pointer (some ⟨b,q,none⟩))):=by exact rfl):DJ Tryz.prog n ops tail sb bx H Q x y kl i (o::l) (.sv (.v (.pointer (some ⟨b,q+fo,none⟩)))::ks) env bx' Γ ow':=DJ.fldB tO ho hw hd hn ht hf hx h
end
theorem zsi {H:Hp} {W W':World} (hf:Fits H W) (hb:Below W.heap.size W W') {c:Array Value} {T:TypeId} (hT:W'.heap[W.heap.size]?=some (.cells c T (0,0))) :
  H.Le (H.put W.heap.size c)∧Fits (H.put W.heap.size c) W'∧Nw H W.heap.size (H.put W.heap.size c) W':=by
 have hn:H W.heap.size=none:=by
  cases hc:H W.heap.size with
  | none=>rfl
  | some c=>have:=hf.lt (b:=W.heap.size) (by rw[hc];simp);omega
 refine⟨fun b c h=>?_,fun b c h=>?_,fun b c h=>?_⟩
 ·have:b≠W.heap.size:=fun e=>by subst e;rw[hn]at h;cases h
  simp only[Hp.put,if_neg this];exact h
 ·by_cases e:b=W.heap.size
  ·subst e;simp only[Hp.put,if_true]at h;cases h;exact⟨T,(0,0),hT⟩
  ·simp only[Hp.put,if_neg e]at h;exact hf.below hb b c h
 ·by_cases e:b=W.heap.size
  ·subst e;simp only[Hp.put,if_true]at h;cases h;exact .inr ⟨qH _,T,hT⟩
  ·simp only[Hp.put,if_neg e]at h;exact .inl h
section
variable {P:Program} {n:Nat} {ops:Array Oper} {o:Oper} {rest:List Oper} {env:Env} {bx:Bxs} {sb:Bxs} {ow:Ows} {H:Hs} {Q:EQ} {τ:Tab} {d:Nat} {s:SV}
theorem zab.newSl {R:Hp} {F:Hp→Prop} {m size:Nat} {ys:List Value} (hw:zag ops env o=some true) (hl:ys.length=m*size)
  (h:∀(β:Nat→Nat) (a:Act) (W:World) (G:Hp),R.Le G→Fits G W→(∀y s,y∈o.op.operands→env.op y=some s→s.rep β G (a.eval y))→F G→∃(cap:Nat) (c:Array Value) (e:TypeId) (W1:World),
   (execOp a.eval o).run P W=.ok (.value (.slice (some ⟨W.heap.size,0,none⟩) m cap)) W1∧Below W.heap.size W W1∧W1.heap[W.heap.size]?=some (.cells c e (0,0))∧m≤cap∧∀(q:Nat) (x:Value),ys[q]?=some x→c[q]?=some x) :
  zab P ops o env bx ow R F (fun _ v G'=>SlC G' v m size ys):=fun β a W G hle hf _ hb _ hs hF=>by
 rw[if_pos (hs.want hw)];obtain⟨cap,c,e,W1,hr,hB,hT,hc,hx⟩:=h β a W G hle hf (fun y s hm hy=>hs.op hm hy) hF;obtain⟨h1,h2,h3⟩:=zsi hf hB hT;unfold Oper.wp;rw[hr,Oper.upon_value];exact⟨_,_,rfl,⟨hl,.inr ⟨W.heap.size,0,cap,c,rfl,hc,by simp[Hp.put],fun j x hj=>by rw[qv];exact hx j x hj⟩⟩,h1,h2,hB,h3⟩
variable {tail l:List Oper} {x:Nat→Value} {y:Nat→Ows} {ow':Ows} {kl ks:List DK} {i:Nat} {bx':Bxs} {Γ:zeZ}
theorem DJ.lit (hτ:zay P τ) {T:TypeId} {len:Nat} {parts:Array (Nat × Operand)} (ho:o.op=.buildSlice T len parts) (hw:zag ops env o=some true) (hd:o.dst=some d) (hn:Nat.blt d n=true) {te te':TE} {e:TypeId} (ht:τ.get T=some te) (hk:te.kind=.slice e) (ht':τ.get e=some te')
  (hsz:Nat.beq te'.zero.length te'.size=true) (hpos:Nat.ble 1 (len*te'.size)=true) (hsm:Nat.ble (len*te'.size) 10000=true) {cs:List Value} (hc:zic te'.zero len (fun zs=>zt3 env te'.size parts.toList zs some)=some cs) (hcl:Nat.beq cs.length (len*te'.size)=true)
  (h:DJ P n ops tail sb bx H Q x y kl (i+1) l ks ((d,.v (x i))::env) bx' ((i,fun G=>SlC G (x i) len te'.size cs)::Γ) ow'):DJ P n ops tail sb bx H Q x y kl i (o::l) (.call (fun v G=>SlC G v len te'.size cs)::ks) env bx' Γ ow':=by
 have hkd:=(hτ.get ht).kind;rw[hk]at hkd;have hkd':P.underlying T=some (.slice e):=hkd;obtain⟨zv,hinfo,hzc⟩:=(hτ.get ht').info;obtain⟨i0,hi,hz0,hz1,hz2⟩:=info_parts hinfo;have hl:=qz hsz;have hp:=Nat.le_of_ble_eq_true hpos;have hm:=Nat.le_of_ble_eq_true hsm;rw[zhj]at hc;obtain⟨cs',hcs,hfill⟩:=zgy _ _ _ _ hc;cases hcs;refine DJ.ofCall (zab.newSl hw (qz hcl) fun β a W G hle hf hs hF=>?_) hd hn (fun _ _ _ h k=>SlC.mono h k) h;have hff:=hfill β G a.eval (fun y s' hm hy=>hs y s' (by simpa[ho,Op.operands] using hm) hy)
 have hrun:=run_buildSlice (P:=P) W T e len (parts.map fun (i,x)=>(i,a.eval x)) cs.toArray i0 zv hkd' hi hz0 (by rw[hz1];omega) (by rw[hz1];omega) (by
  rw[hz1,hzc,zgz te'.zero te'.size len hl,←hff];congr 1;simp)
 refine⟨len,cs.toArray,e,W.alloc (.cells cs.toArray e),?_,(Below.refl _ _).alloc (qH _) _,(Box.new W cs.toArray e),qH _,fun q x hq=>by simpa using hq⟩;unfold execOp;simp only[ho,Sem.run_bind,hrun,Result.andThen_ok,Sem.run_pure]
end
section
variable {P:Program} {n:Nat} {ops:Array Oper} {o:Oper} {rest:List Oper} {env:Env} {bx:Bxs} {sb:Bxs} {ow:Ows} {H:Hs} {Q:EQ} {τ:Tab} {d:Nat} {s:SV}
theorem ztD {f:Fn} {x y:Operand} (ho:o.op=.makeFunc f #[] #[x,y]) {u v:Value} (hx:env.op x=some (.v u)) (hy:env.op y=some (.v v)) (ev:Operand→Value) (W:World) (he:∀y x,y∈o.op.operands→env.op y=some (.v x)→ev y=x) :
  (execOp ev o).run P W=.ok (.value (.func f #[] #[u,v])) W:=by
 have ex:=he x _ (by simp[ho,Op.operands]) hx;have ey:=he y _ (by simp[ho,Op.operands]) hy;unfold execOp;simp[ho,ex,ey,Instr.makeFunc]
theorem EVL.fn2 {f:Fn} {x y:Operand} (ho:o.op=.makeFunc f #[] #[x,y]) (hw:zag ops env o=some true) (hd:o.dst=some d) (hn:Nat.blt d n=true) {u v:Value} (hx:env.op x=some (.v u)) (hy:env.op y=some (.v v))
  (h:EVL P n ops rest ((d,.v (.func f #[] #[u,v]))::env) bx H Q):EVL P n ops (o::rest) env bx H Q:=EVL.gen hw hd hn (ztD ho hx hy) h
theorem zfx {f:FuncId} (hc:zat P f) {t:Nat} {args:Array Operand} {tys:Array TypeId} {o:Oper} (ho:o.op=.call ⟨.value (.tmp t),args,tys⟩) {a:Act} {cs:List Value} (ht:a.eval (.tmp t)=.func (.func f) #[] cs.toArray) {vs:List Value} (hv:args.toList.map a.eval=vs) (W:World) :
  (execOp a.eval o).run P W=.ok (.enter f (vs++cs).toArray) W:=by
 have hm:args.map a.eval=vs.toArray:=by rw[←hv,←Array.toList_map]
 unfold execOp;simp only[ho,resolve,hm,ht,Deferred.ofValue,Sem.run_bind,Sem.run_pure,Result.andThen_ok,invoke];simp[hc (vs++cs).toArray W]
theorem zab.callC {f:FuncId} {t:Nat} {args:Array Operand} {tys:Array TypeId} (ho:o.op=.call ⟨.value (.tmp t),args,tys⟩) (hw:zag ops env o=some true) {cs:List Value} (ht:env.get t=some (.v (.func (.func f) #[] cs.toArray))) {vs:List Value} (ha:zbk env args.toList some=some vs) {F:Hp→Prop} {Φ:Value→Hp→Prop} (hc:zat P f) {R:Hp}
  (hpc:∀G,R.Le G→F G→PC P f (vs++cs).toArray G Φ):zab P ops o env bx ow R F (fun _ v G=>Φ v G):=fun β a W G hle hf hgl hb _ hs hF=>by
 obtain⟨vs',hk,hm⟩:=zaV env _ _ _ ha;cases hk;have hvs:=hm β G a.eval (fun y s hy=>hs.op (by simp[ho,Op.operands,Call.operands];exact .inr (by simpa using hy)));have htv:a.eval (.tmp t)=.func (.func f) #[] cs.toArray:=hs.op (s:=.v (.func (.func f) #[] cs.toArray)) (by simp[ho,Op.operands,Call.operands]) ht;rw[if_pos (hs.want hw)];unfold Oper.wp;rw[zfx hc ho htv hvs,Oper.upon_enter];refine((hpc G hle hF).run W hf hgl).mono ?_;rintro e W' ⟨v,H',rfl,hΦ,hle',hf',hb',hnew⟩;exact⟨v,H',rfl,hΦ,hle',hf',hb',hnew⟩
theorem DJ.callC {tail l:List Oper} {x:Nat→Value} {y:Nat→Ows} {ow':Ows} {kl ks:List DK} {i:Nat} {bx':Bxs} {Γ:zeZ} {f:FuncId} {t:Nat} {args:Array Operand} {tys:Array TypeId} (ho:o.op=.call ⟨.value (.tmp t),args,tys⟩) (hw:zag ops env o=some true) (hd:o.dst=some d) (hn:Nat.blt d n=true)
  {cs:List Value} (ht:env.get t=some (.v (.func (.func f) #[] cs.toArray))) {vs:List Value} (ha:zbk env args.toList some=some vs) (hc:zat P f) {v:Value} (hpc:∀G,H.ro.Le G→PC P f (vs++cs).toArray G fun u _=>u=v)
  (h:DJ P n ops tail sb bx H Q x y kl (i+1) l ks ((d,.v v)::env) bx' Γ ow'):DJ P n ops tail sb bx H Q x y kl i (o::l) (.sv (.v v)::ks) env bx' Γ ow':=by
 refine⟨d,hd,hn,rfl,?_,h⟩;have:=zab.callC (P:=P) (ops:=ops) (bx:=bx) (ow:=H.ow) (R:=H.ro) (F:=zdm ops i Γ) (Φ:=fun u _=>u=v) ho hw ht ha hc (fun G hG _=>hpc G hG);exact this
end
abbrev n32 (x:Nat):Value:=.int .u32 (x:Int)
theorem zeQ {v:Value} {l:List Nat} {H:Hp} (h:SlN n32 H v l) (hD:Dig B32 l) (hl:l.length≤1000000000) (i:Nat):PC prog 195 #[v,.int .i64 (i:Int)] H fun r _=>r=n64 (l.getD i 0):=by
 obtain⟨a,cap,rfl⟩:=SlC.val h;refine BD func195 ntmps195 ?_;refine uR ?_;by_cases hi:i<l.length
 ·rw[zdZ _ _ hi];have hx:l.getD i 0<B32:=hD.getD (by decide) i;refine uR ?_;refine vI (h) (i) (rfl) (hi) (zbZ hi) ?_;refine uR ?_;rw[zcP _ (by rw[zau]at hx;rw[zaj];omega)]
 ·rw[zcE _ _ hi];refine uR ?_;rw[qB,qg (by omega)];rfl
theorem SlN.le {α:Type} {enc:α→Value} {H:Hp} {a:Option Addr} {cap:Nat} {l:List α} (h:SlN enc H (.slice a l.length cap) l):l.length≤cap:=by
 rcases h.2 with ⟨h0,_⟩ | ⟨b,off,cap',c,e,hc,_⟩
 ·omega
 ·cases e;exact hc
theorem SlN.pre {α:Type} {enc:α→Value} {H:Hp} {a:Option Addr} {cap:Nat} {l:List α} (h:SlN enc H (.slice a l.length cap) l) (n:Nat) (hn:n≤l.length) (s:Nat):SlN enc H (.slice (if cap=0 then a else a.map (·.add (0*s))) (n-0) (cap-0)) (l.take n):=by
 have e:(l.take n).length=n:=by simp;omega
 unfold SlN;rw[e,Nat.sub_zero,Nat.sub_zero];rcases h.2 with ⟨h0,a',cap',e'⟩ | ⟨b,off,cap',c,e',hc,hH,hcs⟩
 ·have:n=0:=oM;subst this;exact⟨by simp,.inl ⟨rfl,_,_,rfl⟩⟩
 ·cases e';refine⟨by simp;omega,?_⟩;by_cases h0:n=0
  ·subst h0;exact .inl ⟨rfl,_,_,rfl⟩
  ·refine .inr ⟨b,off,cap,c,?_,by omega,hH,fun j x hj=>hcs j x ?_⟩
   ·rw[if_neg (by omega)];simp[Addr.add]
   ·rw[qK,pP]at hj;rw[qK];split at hj
    ·exact hj
    ·cases hj
set_option maxRecDepth 20000 in
theorem zh1 {v:Value} {l:List Nat} {H:Hp} (h:SlN n32 H v l) (hl:l.length≤1000000000):PC prog 101 #[v] H fun r H'=>SlN n32 H' r (zaG l):=by
 obtain⟨a,cap,rfl⟩:=SlC.val h;have hcap:=h.le;refine BD func101 ntmps101 ?_;refine uR ?_
 refine EV.loop (ι:=Nat) (fun n=>[(0,.v (.slice a l.length cap)),(3,.v (.int .i64 (n:Int)))]) (fun _=>[]) (fun _=>[])
  (fun n G=>n≤l.length∧zaG (l.take n)=zaG l∧SlN n32 G (.slice a l.length cap) l) (fun n=>n) l.length ⟨rfl,rfl,trivial⟩ trivial rfl (fun _=>rfl) ⟨qH _,by rw[qb],h⟩ ?_
 rintro n G hG ⟨hn,ht,hs⟩
 have fin:zaG (l.take n)=l.take n→SlN n32 G (.slice (if cap=0 then a else a.map (·.add (0*1))) (n-0) (cap-0)) (zaG l):=fun e=>by
  rw[←ht,e];exact hs.pre n hn 1
 refine uR ?_;by_cases h0:n=0
 ·subst h0;rw[show decide (((0:Nat):Int)>0)=false from rfl];refine uR ?_;refine EVL.ofVal (zab.sliceV (te':=Tryz.te174) (a:=a) (m:=l.length) (cap:=cap) tO rfl rfl rfl rfl rfl rfl 0 0 (.inl ⟨rfl,rfl⟩) (.inr ⟨_,IntKind.i64,rfl,rfl⟩) (qH _) (qQ _) hcap) rfl rfl rfl fun G4 hG4=>?_;refine uR ?_;exact(fin (by simp[zaG])).mono hG4
 ·rw[show decide ((n:Int)>0)=true by simp;omega]
  have hxs:(l.map n32)[n-1]?=some (n32 (l.getD (n-1) 0)):=by
   rw[qK,qB,qA (show n-1<l.length by omega)];rfl
  have hsnoc:l.take n=l.take (n-1)++[l.getD (n-1) 0]:=by
   have:=qS (show n-1<l.length by omega);rw[show n-1+1=n by omega]at this;rw[this,qB,qA (show n-1<l.length by omega)];rfl
  refine uR ?_;refine EVL.ofVal (zab.idx1 tO rfl rfl rfl rfl rfl rfl rfl rfl hs (n-1) (by rw[pM];omega) oM hxs) rfl rfl rfl fun G4 hG4=>?_;refine uR ?_;by_cases hz:l.getD (n-1) 0=0
  ·rw[hz,show (((0:Nat):Int) == 0)=true from rfl];refine uR ?_;refine⟨n-1,⟨rfl,?_,trivial⟩,trivial,rfl,⟨by omega,?_,hs.mono hG4⟩,hG4,by omega⟩
   ·rw[show IntKind.i64.wrap ((n:Int)-1)=((n-1:Nat):Int) by rw[pM];omega];rfl
   ·rw[←ht,hsnoc,hz,zcq]
  ·rw[show (((l.getD (n-1) 0:Nat):Int) == 0)=false by simpa using hz];refine uR ?_;refine EVL.ofVal (zab.sliceV (te':=Tryz.te174) (a:=a) (m:=l.length) (cap:=cap) tO rfl rfl rfl rfl rfl rfl 0 n (.inl ⟨rfl,rfl⟩) (.inr ⟨_,IntKind.i64,rfl,rfl⟩) (qQ _) (qI hn hcap) hcap) rfl rfl rfl fun G5 hG5=>?_;refine uR ?_;exact(fin (by rw[hsnoc,zc9 _ _ hz])).mono (hG4.trans hG5)
theorem zkl {α:Type} {enc:α→Value} {G:Hp} {g k:Nat} {l:List α} (hg:G g=some (l.map enc).toArray) (hl:l.length=k):SlN enc G (.slice (some ⟨g,0,none⟩) k k) l:=by
 unfold SlN;rw[hl];exact⟨by simp[hl],.inr ⟨g,0,k,_,rfl,qH _,hg,fun j x hj=>by rw[qv,←hj];exact List.getElem?_toArray⟩⟩
theorem zbR {v:Value} {l:List Nat} {H:Hp} (h:SlN n32 H v l) (hD:Dig B32 l) (hl:l.length≤1000000000) {n:Nat} (hn:val B32 l=n):PC prog 101 #[v] H fun r H'=>SlN n32 H' r (dig B32 n):=by
 have:=zh1 h hl
 rwa [zmc zam hD,hn]at this
theorem zja (m:Nat):(List.replicate m (Tryz.te174.zero)).flatten=(List.replicate m 0).map n32:=by
 rw[List.map_replicate,show (Tryz.te174.zero)=[n32 0] from rfl];simp
theorem ztG (s:Nat):(s:Int).fdiv (2 ^ (min 32 IntKind.u64.bits))=((s / B32:Nat):Int):=by
 rw[show (2:Int) ^ (min 32 IntKind.u64.bits)=((2 ^ 32:Nat):Int) from rfl,Int.fdiv_eq_ediv_of_nonneg _ (Int.natCast_nonneg _),←Int.natCast_ediv];rfl
theorem zl9 (n:Nat):Dig B32 (dig B32 n):=(zao zam n).1
theorem zqp (n:Nat) (hn:n<W64):zaG [n % B32,n / B32]=dig B32 n:=by
 have hB:B32=4294967296:=rfl;have hD:Dig B32 [n % B32,n / B32]:=Dig.cons (qo _ (by decide)) (Dig.cons (by rw[zaj]at hn;rw[hB];omega) (Dig.nil _));rw[zmc zam hD];congr 1;simp only[val,Nat.mul_zero,qY];exact Nat.mod_add_div n B32
theorem zc3 (n:Nat) (hn:n<W64) (H:Hp):PC prog 43 #[n64 n] H fun r H'=>SlN n32 H' r (dig B32 n):=by
 refine BD func43 ntmps43 ?_;refine uR ?_;have e1:IntKind.u32.wrap (n:Int)=((n % B32:Nat):Int):=by rw[zi8];rfl
 have e2:IntKind.u32.wrap ((n:Int).fdiv (2 ^ (min 32 IntKind.u64.bits)))=((n / B32:Nat):Int):=by
  rw[show (2:Int) ^ (min 32 IntKind.u64.bits)=4294967296 from rfl,Int.fdiv_eq_ediv_of_nonneg _ oM,zi8,show B32=4294967296 from rfl];rw[zaj]at hn;omega
 rw[e1,e2];refine EVL.lit tO rfl rfl rfl rfl rfl rfl rfl rfl rfl rfl rfl fun g=>?_;refine EVL.publish [] [] rfl fun G hG hg=>?_;have hs:SlN n32 G (.slice (some ⟨g,0,none⟩) 2 2) [n % B32,n / B32]:=zkl hg rfl;have ht:=zh1 hs (by simp);rw[zqp n hn]at ht;refine EVL.call rfl rfl rfl rfl rfl ht ?_;rintro v H2 hv hle;refine uR ?_;exact hv
theorem zdO {u v:Value} {l m:List Nat} {H:Hp} (hu:SlN n32 H u l) (hv:SlN n32 H v m) (hl:zdX B32 l) (hm:zdX B32 m) (hll:l.length≤1000000000):PC prog 149 #[u,v] H fun r _=>r=.int .i64 (zbv (val B32 l) (val B32 m)):=by
 obtain⟨aa,ca,rfl⟩:=SlC.val hu;obtain⟨ab,cb,rfl⟩:=SlC.val hv;refine BD func149 ntmps149 ?_;refine uR ?_;by_cases he:l.length=m.length
 ·rw[show (((l.length:Nat):Int) != (m.length:Int))=false by simp[he]];refine uR ?_;refine EV.loopK (ι:=Nat) [0,1] [] (fun n=>[(5,.v (.int .i64 ((n:Int)-1)))]) (fun _=>[]) (fun _=>[]) (fun n G=>n≤l.length∧l.drop n=m.drop n) (fun n=>n) (l.length) rfl rfl ⟨by rw[show IntKind.i64.wrap ((l.length:Int)-1)=(l.length:Int)-1 by rw[pM];omega];rfl,trivial⟩ trivial rfl (fun _=>rfl) (⟨qH _,by rw[qk (qH _),qk (by omega)]⟩) ?_;rintro n G1 hG1 ⟨hn,hd⟩;refine uR ?_;by_cases h0:n=0
  ·subst h0;rw[show decide ((((0:Nat):Int)-1)≥0)=false from rfl];refine uR ?_;rw[List.drop_zero,List.drop_zero]at hd;subst hd;rw[zpI rfl]
  ·rw[show decide (((n:Int)-1)≥0)=true by simp;omega];have hx:=zbZ (enc:=n32) (show n-1<l.length by omega);have hy:=zbZ (enc:=n32) (show n-1<m.length by omega);have hvo:=zr1 (B:=B32) (by decide) (l:=l) (m:=m) (n-1) hl.1 hm.1 he oM (by rw[show n-1+1=n by omega];exact hd)
   have hdl:l.drop (n-1)=l.getD (n-1) 0::l.drop n:=by
    rw[qt (show n-1<l.length by omega),qB,qA (show n-1<l.length by omega),show n-1+1=n by omega];rfl
   have hdm:m.drop (n-1)=m.getD (n-1) 0::m.drop n:=by
    rw[qt (show n-1<m.length by omega),qB,qA (show n-1<m.length by omega),show n-1+1=n by omega];rfl
   generalize l.getD (n-1) 0=a at *
   generalize m.getD (n-1) 0=b at *
   refine uR ?_;apply EV.drawn 9 kR kR;intro xv yw;(repeat refine' DD ?_);refine' DJ.ofVal (zab.idx1 tO rfl rfl rfl rfl rfl rfl rfl rfl (hu.mono hG1) (n-1) oM oM (hx)) rfl rfl rfl ?_;rotate_left;(repeat refine' DD ?_);refine' DJ.ofVal (zab.idx1 tO rfl rfl rfl rfl rfl rfl rfl rfl (hv.mono hG1) (n-1) oM oM (hy)) rfl rfl rfl ?_;rotate_left;(repeat refine' DD ?_);(refine DJ.nil (fun G2 hG2 hF2=>?_);(case hS|hS2=>rfl));refine uR ?_;refine EV.cond rfl (fun hc=>?_) (fun hc=>?_)
   ·simp only[nN]at hc;refine uR ?_;apply EV.drawn 9 kR kR;intro xv yw;(repeat refine' DD ?_);refine' DJ.ofVal (zab.idx1 tO rfl rfl rfl rfl rfl rfl rfl rfl ((hu.mono hG1).mono hG2) (n-1) oM oM (hx)) rfl rfl rfl ?_;rotate_left;(repeat refine' DD ?_);refine' DJ.ofVal (zab.idx1 tO rfl rfl rfl rfl rfl rfl rfl rfl ((hv.mono hG1).mono hG2) (n-1) oM oM (hy)) rfl rfl rfl ?_;rotate_left;(repeat refine' DD ?_);(refine DJ.nil (fun G3 hG3 hF3=>?_);(case hS|hS2=>rfl));refine uR ?_;rw[hvo hc];refine EV.cond rfl (fun hlt=>?_) (fun hlt=>?_)
    ·simp only[nN]at hlt;refine uR ?_;rw[zco hlt]
    ·simp only[nN]at hlt;refine uR ?_;rw[zcn (by omega)]
   ·simp only[nN]at hc;refine uR ?_;refine⟨n-1,⟨?_,trivial⟩,sB,trivial,trivial,rfl,⟨by omega,by rw[hdl,hdm,hd,hc]⟩,hG2,by omega⟩;rw[show IntKind.i64.wrap ((n:Int)-1-1)=((n-1:Nat):Int)-1 by rw[pM];omega];rfl
 ·rw[show (((l.length:Nat):Int) != (m.length:Int))=true by simp;omega];refine uR ?_;by_cases hlt:l.length<m.length
  ·rw[zdZ _ _ hlt,zco (zeI zam hl.1 hm hlt)];refine uR ?_;rfl
  ·rw[zcE _ _ hlt,zcn (zeI zam hm.1 hl oM)];refine uR ?_;rfl
theorem w32 {n:Nat} (h:n<B32):n<W64:=by rw[zau]at h;rw[zaj];omega
theorem zpH {c x p:Nat} (hc:c<2 ^ p) (h:c+x*2 ^ p<W64) :
  IntKind.u64.wrap (((BitVec.ofInt IntKind.u64.bits (c:Int) ||| BitVec.ofInt IntKind.u64.bits ((x*2 ^ p:Nat):Int)).toNat:Nat):Int)=((c+x*2 ^ p:Nat):Int):=by
 rw[zaj]at h;refine(u64_or_nat _ _ oM oM).trans ?_;rw[zdh _ _ p (2 ^ p) rfl hc]
theorem ziG {c x p:Nat} (hc:c<2 ^ p) (h:c+x*2 ^ p<W64) :
  IntKind.u64.wrap (((BitVec.ofInt IntKind.u64.bits ((x*2 ^ p:Nat):Int) ||| BitVec.ofInt IntKind.u64.bits (c:Int)).toNat:Nat):Int)=((c+x*2 ^ p:Nat):Int):=by
 rw[zaj]at h;refine(u64_or_nat _ _ oM oM).trans ?_;rw[Nat.or_comm,zdh _ _ p (2 ^ p) rfl hc]
theorem zqu {B:Nat} (hB:0<B) {l:List Nat} (h:Dig B l) (i:Nat):val B l / B ^ i=val B (l.drop i):=by
 by_cases hi:i≤l.length
 ·have h1:=zae B l i hi;have h2:=zax (h.take i);rw[qP,qp hi]at h2;rw[h1,Nat.add_mul_div_left _ _ oM,Nat.div_eq_of_lt h2,qv]
 ·rw[qk oM,zbI];exact Nat.div_eq_of_lt (Nat.lt_of_lt_of_le (zax h) (qf hB oM))
theorem ztZ.done {B p:Nat} {x d:List Nat} {c:Nat} (h:ztZ B p x d c) (hl:d.length=x.length+1) (hx:Dig B x) (hp:2 ^ p≤B):val B d=val B x*2 ^ p:=by
 have hs:=h.sum;rw[qO oM,hl]at hs;have h1:=zax hx
 have h2:val B x*2 ^ p<B ^ (x.length+1):=by
  rw[qX];exact Nat.lt_of_lt_of_le (Nat.mul_lt_mul_of_pos_right h1 (Nat.two_pow_pos p)) (qe _ hp)
 rcases pJ c with e | e
 ·rw[e]at hs;omega
 ·have:1*B ^ (x.length+1)≤c*B ^ (x.length+1):=qN _ e;omega
theorem zr7 (W p:Nat):2 ^ (32*W+p)=B32 ^ W*2 ^ p:=by rw[Nat.pow_add,Nat.pow_mul,zaS]
theorem zi4 (B W:Nat) (d:List Nat):val B (List.replicate W 0++d)=B ^ W*val B d:=by rw[zbh,zbo,List.length_replicate,qv]
theorem zsl {α:Type} {enc:α→Value} {G:Hp} {v:Value} {m:Nat} {l:List α} (h:SlC G v m 1 (l.map enc)) (hl:l.length=m):SlN enc G v l:=by unfold SlN;rw[hl];exact h
theorem zu3 (k:Nat):IntKind.u64.wrap ((k:Int).tmod 32)=((k % 32:Nat):Int):=by
 rw[show (k:Int).tmod 32=((k % 32:Nat):Int) from zkB k 32,zcP _ (by rw[zaj];omega)]
theorem shm (m:Nat) (h:m≤64):min (m % ((2:Int) ^ IntKind.u64.bits).natAbs) IntKind.u64.bits=m:=by
 rw[show ((2:Int) ^ IntKind.u64.bits).natAbs=18446744073709551616 from rfl,show IntKind.u64.bits=64 from rfl];omega
theorem zfh {v:Value} {l:List Nat} {H:Hp} (h:SlN n32 H v l) (hD:Dig B32 l) (hl:l.length≤100000000) (k:Nat) (hk:k≤1000000000) :
  PC prog 152 #[v,.int .i64 (k:Int)] H fun r H'=>SlN n32 H' r (dig B32 (val B32 l*2 ^ k)):=by
 obtain⟨a,cap,rfl⟩:=SlC.val h;refine BD func152 ntmps152 ?_;refine uR ?_;rw[show decide ((k:Int)≥0)=true by simp];refine uR ?_;refine EVL.make tO rfl rfl rfl rfl rfl rfl rfl rfl rfl (k / 32) (zeX k 32 oM) oM (by rfl) (by rfl) fun g=>?_;refine uR ?_;rw[zja];have hkW:2 ^ k=B32 ^ (k / 32)*2 ^ (k % 32):=by rw[←zr7,qm]
 have hp:k % 32<32:=qo _ (by decide);have hW:k / 32≤100000000:=oM;have hrem:=zu3 k;generalize k / 32=W at *
 generalize hpe:k % 32=p at *
 have hpB:2 ^ p≤B32:=by rw[zaS];exact qf (by decide) oM
 refine EV.loopK (ι:=Nat × Nat × List Nat × Value × Ows) [0,1] [] (fun q=>[(5,.v q.2.2.2.1),(6,.v (n64 q.2.1)),(7,.v (.int .i64 (q.1:Int)))]) (fun _=>[]) (fun q=>q.2.2.2.2) (fun q G=>q.1≤l.length+1∧q.2.2.1.length=q.1∧ztZ B32 p l q.2.2.1 q.2.1∧zaO 174 1 q.2.2.2.1 (W+q.1) ((List.replicate W 0++q.2.2.1).map n32) q.2.2.2.2) (fun q=>l.length+1-q.1) ((0,0,[],.slice (some ⟨g,0,none⟩) W W,[(g,174,(List.replicate W 0).map n32)])) rfl rfl ⟨rfl,rfl,rfl,trivial⟩ trivial rfl (fun _=>rfl) (⟨qQ _,rfl,⟨Dig.nil _,Nat.two_pow_pos p,by simp[val]⟩,by rw[qG];exact zaO.full (by simp) oM⟩) ?_;rintro⟨i,c,d,w,ow⟩ G1 hG1 ⟨hi,hdl,hinv,hown⟩;dsimp only at hi hdl hinv hown;refine uR ?_;refine EV.cond rfl (fun hle=>?_) (fun hle=>?_)
 ·simp only[nN]at hle;have hxi:l.getD i 0<B32:=hD.getD (by decide) i;have hst:=hinv.step (by decide) hD;rw[hdl]at hst;have hm:l.getD i 0*2 ^ p≤(B32-1)*2 ^ 31:=Nat.mul_le_mul oM (qf (by decide) oM);have hc:=hinv.carry;have hc2:c+l.getD i 0*2 ^ p<W64:=by rw[zau]at *;rw[zaj];omega
  repeat (first|refine RUN ?_|refine CV (zeQ (h.mono hG1) hD oM i) ?_|refine CE (zeQ (h.mono hG1) hD oM i) ?_)
  rw[shm (k % 32) oM,hpe,zkE,qT (by omega:l.getD i 0*2 ^ p<W64),zpH hc hc2,zr5];refine EVL.app1 tO rfl rfl rfl rfl rfl rfl rfl rfl rfl rfl rfl rfl rfl rfl rfl rfl rfl rfl rfl (fun _=>rfl) (ow) ([]) ((qG _).symm) (hown) oM fun _=>?_;intro v' ow' hown';refine uR ?_;refine⟨(i+1,(c+l.getD i 0*2 ^ p) / B32,d++[(c+l.getD i 0*2 ^ p) % B32],v',ow'),⟨rfl,?_,?_,trivial⟩,sB,trivial,trivial,qG _,⟨by dsimp only;omega,by simp[hdl],hst,?_⟩,Hp.Le.refl _,by dsimp only;omega⟩
  ·rw[ztG];rfl
  ·rw[zad i (by omega)];rfl
  ·dsimp only;rw[←qZ,qr];exact hown'
 ·simp only[nN]at hle;obtain rfl:i=l.length+1:=oM;refine uR ?_;refine EVL.publishL [] ow [] (qG _).symm hown fun G2 hG2 hs=>?_;have hv:val B32 (List.replicate W 0++d)=val B32 l*2 ^ k:=by rw[zi4,hinv.done hdl hD hpB,hkW,Nat.mul_left_comm]
  have ht:=zbR (zsl hs (by simp;omega)) (Dig.append (Dig.zeros (by decide) _) hinv.dig) (by simp;omega) hv;refine vA (ht) ?_;rintro r H' hr hle;refine uR ?_;exact hr
theorem zqc {l:List Nat} (hD:Dig B32 l) (W p j:Nat) (hp:p≤32):val B32 (l.drop W) / 2 ^ p / B32 ^ j % B32=(l.getD (W+j) 0+l.getD (W+j+1) 0*B32) / 2 ^ p % B32:=by
 rw[Nat.div_div_eq_div_mul,qW,←Nat.div_div_eq_div_mul,zqu (by decide) (hD.drop W) j,List.drop_drop];have h1:=zah B32 l (W+j);have h2:=zah B32 l (W+j+1);rw[h1,h2];generalize l.getD (W+j) 0=x;generalize l.getD (W+j+1) 0=y;generalize val B32 (l.drop (W+j+1+1))=r;have e:B32=2 ^ p*2 ^ (32-p):=by rw[←Nat.pow_add,zaS];congr 1;omega
 have e2:x+B32*(y+B32*r)=(x+y*B32)+2 ^ p*(B32*(2 ^ (32-p)*r)):=by
  have:B32*(B32*r)=2 ^ p*(B32*(2 ^ (32-p)*r)):=by
   conv=>lhs;lhs;rw[e]
   simp only[Nat.mul_assoc,Nat.mul_left_comm]
  rw[Nat.mul_add,this];rw[qW B32 y];omega
 rw[e2,Nat.add_mul_div_left _ _ (Nat.two_pow_pos p),Nat.add_mul_mod_self_left]
theorem zn2 {v:Value} {l:List Nat} {H:Hp} (h:SlN n32 H v l) (hD:Dig B32 l) (hl:l.length≤100000000) (k:Nat) (hk:k≤1000000000) (h0:0<k) :
  PC prog 152 #[v,.int .i64 (-(k:Int))] H fun r H'=>SlN n32 H' r (dig B32 (val B32 l / 2 ^ k)):=by
 obtain⟨a,cap,rfl⟩:=SlC.val h;refine BD func152 ntmps152 ?_;refine uR ?_;rw[show decide (-(k:Int)≥0)=false by simp;omega];refine uR ?_;rw[show IntKind.i64.wrap (0 - -(k:Int))=(k:Int) by rw[pM];omega];rw[show IntKind.i64.wrap ((k:Int).tdiv 32)=((k / 32:Nat):Int) from zeX k 32 (by omega)];have hkW:2 ^ k=B32 ^ (k / 32)*2 ^ (k % 32):=by rw[←zr7,qm]
 have hp:k % 32<32:=qo _ (by decide);have hW:k / 32≤100000000:=oM;generalize k / 32=W at *
 generalize hpe:k % 32=p at *
 have hpB:2 ^ p≤B32:=by rw[zaS];exact qf (by decide) oM
 have hdig:=fun j=>zqc hD W p j oM
 have hN:val B32 (l.drop W) / 2 ^ p<B32 ^ (l.length-W):=by
  have:=zax (hD.drop W);rw[qu]at this;exact Nat.lt_of_le_of_lt (Nat.div_le_self _ _) this
 have hNk:val B32 l / 2 ^ k=val B32 (l.drop W) / 2 ^ p:=by rw[hkW,←Nat.div_div_eq_div_mul,zqu (by decide) hD]
 generalize val B32 (l.drop W) / 2 ^ p=N at *
 rw[hNk];refine EV.loopK (ι:=Nat × List Nat × Value × Ows) [0,1] [] (fun q=>[(8,.v q.2.2.1),(9,.v (.int .i64 ((W+q.1:Nat):Int)))]) (fun _=>[]) (fun q=>q.2.2.2) (fun q G=>(q.1=0∨W+q.1≤l.length)∧q.2.1=zjc B32 N q.1∧zaO 174 1 q.2.2.1 q.1 (q.2.1.map n32) q.2.2.2) (fun q=>l.length-q.1) ((0,[],.slice none 0 0,[])) rfl rfl ⟨rfl,rfl,trivial⟩ trivial rfl (fun _=>rfl) (⟨.inl rfl,rfl,zaO.nil _ _⟩) ?_;rintro⟨i,d,w,ow⟩ G1 hG1 ⟨hi,hd,hown⟩;dsimp only at hi hd hown;refine uR ?_;refine EV.cond rfl (fun hlt=>?_) (fun hlt=>?_)
 ·simp only[nN]at hlt;have hxi:l.getD (W+i) 0<B32:=hD.getD (by decide) _;have hyi:l.getD (W+i+1) 0<B32:=hD.getD (by decide) _;have hat2:=zeQ (h.mono hG1) hD oM (W+i+1);rw[←zad (W+i) (by omega)]at hat2
  repeat (first|refine RUN ?_|refine CV (zeQ (h.mono hG1) hD oM (W+i)) ?_|refine CV (hat2) ?_|refine CE (zeQ (h.mono hG1) hD oM (W+i)) ?_|refine CE (hat2) ?_)
  have hdi:=hdig i;generalize l.getD (W+i) 0=x at *
  generalize l.getD (W+i+1) 0=y at *
  have hxy:x+y*2 ^ 32<W64:=by rw[zau]at *;rw[zaj];omega
  rw[shm (k % 32) oM,hpe,show min 32 IntKind.u64.bits=32 from rfl,zkE,qT (by omega:y*2 ^ 32<W64),zpH (by rw[←zaS];exact hxi) hxy];rw[zm2,zr5];refine EVL.app1 tO rfl rfl rfl rfl rfl rfl rfl rfl rfl rfl rfl rfl rfl rfl rfl rfl rfl rfl rfl (fun _=>rfl) (ow) ([]) ((qG _).symm) (hown) oM fun _=>?_;intro v' ow' hown';refine uR ?_;refine⟨(i+1,zjc B32 N (i+1),v',ow'),⟨rfl,?_,trivial⟩,sB,trivial,trivial,qG _,⟨by dsimp only;omega,rfl,?_⟩,Hp.Le.refl _,by dsimp only;omega⟩
  ·rw[zad _ (by omega)];rfl
  ·dsimp only;rw[zgo,←hd,qr,hdi,zaS];exact hown'
 ·simp only[nN]at hlt;refine uR ?_;refine EVL.publishL [] ow [] (qG _).symm hown fun G2 hG2 hs=>?_;have hi2:l.length-W≤i:=oM
  have hv:val B32 d=N:=by
   rw[hd,zio];exact qT (Nat.lt_of_lt_of_le hN (qf (by decide) hi2))
  have ht:=zbR (zsl hs (by rw[hd,zbd])) (by rw[hd];exact zma (by decide) _ _) (by rw[hd,zbd];omega) hv;refine vA (ht) ?_;rintro r H' hr hle;refine uR ?_;exact hr
theorem zsP {x:Nat} (h:x≠0):bl x=bl (x / 2)+1:=by
 unfold bl;rw[zdt (qH _) h];rfl
theorem zhY {v:Value} {l:List Nat} {H:Hp} (h:SlN n32 H v l) (hD:zdX B32 l) (hl:l.length≤100000000) :
  PC prog 151 #[v] H fun r _=>r=.int .i64 ((bl (val B32 l):Nat):Int):=by
 obtain⟨a,cap,rfl⟩:=SlC.val h;refine BD func151 ntmps151 ?_;refine uR ?_;refine EV.cond rfl (fun h0=>?_) (fun h0=>?_)
 ·simp only[nN]at h0;have:l=[]:=pK.1 oM;subst this;refine uR ?_;rw[zbI,zbA];rfl
 ·simp only[nN]at h0;have h0':0<l.length:=oM;have hxs:=zbZ (enc:=n32) (show l.length-1<l.length by omega);refine uR ?_;refine EVL.idxR tO rfl rfl rfl rfl rfl rfl rfl rfl rfl rfl (h) (l.length-1) (zkA _ h0' oM) oM (hxs) ?_;refine uR ?_
  have htop:l.getD (l.length-1) 0≠0:=by
   apply hD.2;rw[List.getLast?_eq_getElem?,qB,qA (by omega)];rfl
  have hval:val B32 l=val B32 (l.take (l.length-1))+2 ^ (32*(l.length-1))*l.getD (l.length-1) 0:=by
   have h1:=zae B32 l (l.length-1) oM;have h2:=zah B32 l (l.length-1);rw[show l.length-1+1=l.length by omega,List.drop_length,zbI,Nat.mul_zero,qY]at h2;rw[h2]at h1;rw[Nat.pow_mul,←zaS];exact h1
  have hlow:val B32 (l.take (l.length-1))<2 ^ (32*(l.length-1)):=by
   have:=zax (hD.1.take (l.length-1));rw[qP,qp (by omega)]at this;rw[Nat.pow_mul,←zaS];exact this
  have hbl:=zuf hlow htop;rw[←hval]at hbl;have hx32:l.getD (l.length-1) 0<B32:=hD.1.getD (by decide) _;have hbt:bl (l.getD (l.length-1) 0)≤32:=zaU (by rw[←zaS];exact hx32);generalize l.getD (l.length-1) 0=x at *
  refine EV.loopK (ι:=Nat × Nat) [] [] (fun q=>[(3,.v (.int .i64 (q.1:Int))),(4,.v (n32 q.2))]) (fun _=>[]) (fun _=>[]) (fun q _=>q.1+bl q.2=bl (val B32 l)∧q.1≤32*100000000+32∧q.2<B32) (fun q=>q.2) ((32*(l.length-1),x)) rfl rfl ⟨?_,rfl,trivial⟩ trivial rfl (fun _=>rfl) (⟨hbl.symm,by dsimp only;omega,hx32⟩) ?_
  ·rw[zkA _ h0' oM,show IntKind.i64.wrap (32*((l.length-1:Nat):Int))=((32*(l.length-1):Nat):Int) from zqz 32 _ (by omega)];rfl
  rintro⟨n,y⟩ G1 hG1 ⟨hs,hn,hy⟩;dsimp only at hs hn hy;refine uR ?_;by_cases hy0:y=0
  ·subst hy0;rw[show decide (((0:Nat):Int)>0)=false from rfl];refine uR ?_;rw[zbA,qY]at hs;rw[hs]
  ·rw[show decide ((y:Int)>0)=true by simp;omega];have hb:=zsP hy0;refine uR ?_;refine⟨(n+1,y / 2),⟨?_,?_,trivial⟩,trivial,trivial,trivial,rfl,⟨by dsimp only;omega,by dsimp only;omega,Nat.lt_of_le_of_lt (Nat.div_le_self _ _) hy⟩,Hp.Le.refl _,by dsimp only;omega⟩
   ·rw[zad n (by omega)];rfl
   ·rw[show min 1 IntKind.u32.bits=1 from rfl,zm2];rfl
theorem zsA (a b:Nat) (h:a<W64):IntKind.u64.wrap ((a:Int).tdiv (b:Int))=((a / b:Nat):Int):=by
 rw[show (a:Int).tdiv (b:Int)=((a / b:Nat):Int) from rfl,zcP _ (Nat.lt_of_le_of_lt (Nat.div_le_self _ _) h)]
theorem zp1 {v:Value} {l:List Nat} {H:Hp} (h:SlN n32 H v l) (hD:Dig B32 l) (hl:l.length≤100000000) (b:Nat) (hb:0<b) (hbB:b<B32) :
  PC prog 150 #[v,n32 b] H fun r H'=>∃s,r=.tuple #[s,n32 (val B32 l % b)]∧SlN n32 H' s (dig B32 (val B32 l / b)):=by
 obtain⟨a,cap,rfl⟩:=SlC.val h;refine BD func150 ntmps150 ?_;refine uR ?_;refine EVL.make tO rfl rfl rfl rfl rfl rfl rfl rfl rfl (l.length) (rfl) oM (by rfl) (by rfl) fun g=>?_;refine uR ?_;rw[zja];refine EV.loopK (ι:=Nat × Nat × List Nat) [0,1,6] [] (fun q=>[(7,.v (n64 q.2.1)),(8,.v (.int .i64 ((q.1:Int)-1)))]) (fun _=>[]) (fun q=>[(g,174,q.2.2.map n32)]) (fun q G=>q.1≤l.length∧zt7 B32 b l q.2.2 q.1 q.2.1) (fun q=>q.1) ((l.length,0,List.replicate l.length 0)) rfl rfl ⟨rfl,?_,trivial⟩ trivial rfl (fun _=>rfl) (⟨qH _,⟨Dig.zeros (by decide) _,by simp,hb,by simp[val]⟩⟩) ?_
 ·rw[show IntKind.i64.wrap ((l.length:Int)-1)=(l.length:Int)-1 by rw[pM];omega];rfl
 rintro⟨n,r,q⟩ G1 hG1 ⟨hn,hinv⟩;dsimp only at hn hinv;have hrest:=hinv.rest;have hlen:=hinv.len;refine uR ?_;by_cases h0:n=0
 ·subst h0;rw[show decide ((((0:Nat):Int)-1)≥0)=false from rfl];refine uR ?_;refine EVL.publish [] [] rfl fun G2 hG2 hg=>?_;have hs:=hinv.sum;rw[List.drop_zero,List.drop_zero]at hs;have hq:val B32 q=val B32 l / b:=by rw[←hs,qW,Nat.mul_add_div hb,Nat.div_eq_of_lt hrest,qY]
  have hr:r=val B32 l % b:=by rw[←hs,qW,Nat.mul_add_mod,qT hrest]
  have ht:=zbR (l:=q) (zkl (enc:=n32) hg hlen) hinv.dig oM hq;refine vA (ht) ?_;rintro s H' hs' hle;refine uR ?_;refine⟨s,?_,hs'⟩;rw[zr5,qT (show r<B32 by omega),hr]
 ·rw[show decide (((n:Int)-1)≥0)=true by simp;omega];have hlt:n-1<l.length:=oM;have hxi:l.getD (n-1) 0<B32:=hD.getD (by decide) _;have hxs:=zbZ (enc:=n32) hlt;have hst:=zt7.step (i:=n-1) hb (by rw[show n-1+1=n by omega];exact hinv) hlt hD;refine uR ?_;refine EVL.idxR tO rfl rfl rfl rfl rfl rfl rfl rfl rfl rfl (h.mono hG1) (n-1) oM (hlt) (hxs) ?_;refine uR ?_;generalize l.getD (n-1) 0=x at *
  have hrB:r*2 ^ 32+x<W64:=by rw[zau]at *;rw[zaj];omega
  rw[show min 32 IntKind.u64.bits=32 from rfl,zkE,qT (Nat.lt_of_le_of_lt (Nat.le_add_right _ _) hrB:r*2 ^ 32<W64),zcP _ (w32 hxi),ziG (by rw[←zaS];exact hxi) (by rw[Nat.add_comm];exact hrB),Nat.add_comm x];refine uR ?_;rw[zcP _ (w32 hbB)];refine EVL.quoI rfl rfl rfl rfl rfl rfl oM ?_;rw[zsA _ _ hrB];refine uR ?_
  have hq32:(r*2 ^ 32+x) / b<B32:=by
   rw[Nat.div_lt_iff_lt_mul hb];have:(r+1)*B32≤b*B32:=qN _ hrest;rw[qw]at this;rw[←zaS,qW B32];omega
  rw[zr5,qT hq32];refine EVL.idx0 tO rfl rfl rfl rfl rfl rfl rfl rfl rfl rfl (n-1) oM oM ?_;refine EVL.set1 tO rfl rfl rfl rfl rfl rfl rfl rfl rfl rfl ((by rw[qV];dsimp only;omega)) ?_;refine uR ?_;rw[zcP _ (w32 hbB)];refine EVL.remI rfl rfl rfl rfl rfl rfl oM ?_;rw[zkB];refine uR ?_;rw[zaS]at hst;refine⟨(n-1,(r*2 ^ 32+x) % b,q.set (n-1) ((r*2 ^ 32+x) / b)),⟨rfl,?_,trivial⟩,sB,trivial,trivial,?_,⟨by dsimp only;omega,by rw[zaS];exact hst⟩,Hp.Le.refl _,by dsimp only;omega⟩
  ·rw[show IntKind.i64.wrap ((n:Int)-1-1)=((n-1:Nat):Int)-1 by rw[pM];omega];rfl
  ·dsimp only;rw[List.map_set]
end Go.Proofs.YteoollbcdpfkpaaGreatDoor
namespace Go.Proofs.YteoollbcdpfkpaaGreatDoor
structure G2 (B v1 v0 u c q r:Nat):Prop where
 eq:q*v1+r=u
 up:u*B+c<(q+1)*(v1*B+v0)∨q=B-1
theorem G2.start {B v1 v0 u c:Nat} (h1:0<v1) (hc:c<B):G2 B v1 v0 u c (u / v1) (u % v1):=by
 refine⟨by rw[qW];exact qm u v1,.inl ?_⟩;have e:=qm u v1;have hm:=qo u h1;generalize u / v1=q at *
 generalize u % v1=m at *
 subst e;have h2:(v1*q+m+1)*B≤(v1*q+v1)*B:=qN B oM;have h3:(q+1)*(v1*B+v0)=(v1*q+v1)*B+(q+1)*v0:=by grind
 rw[qw _ 1,Nat.one_mul]at h2;omega
theorem G2.high {B v1 v0 u c q r:Nat} (h:G2 B v1 v0 u c q r) (h1:0<v1) (hu:u≤v1*B+v0) (hc:c<B) (hq:B≤q):G2 B v1 v0 u c (q-1) (r+v1):=by
 have h0:0<q:=oM;refine⟨?_,?_⟩
 ·obtain⟨k,rfl⟩:∃k,q=k+1:=⟨q-1,by omega⟩;have:=h.eq;rw[Nat.add_sub_cancel];rw[qw,Nat.one_mul]at this;omega
 ·by_cases e:q=B
  ·exact .inr oM
  ·refine .inl ?_;have h2:(B+1)*(v1*B+v0)≤(q-1+1)*(v1*B+v0):=qN _ oM;have h3:u*B≤(v1*B+v0)*B:=qN B hu;have h4:1*B≤v1*B:=qN B h1;rw[qw B 1,qW B (v1*B+v0)]at h2;omega
theorem G2.down {B v1 v0 u c q r:Nat} (h:G2 B v1 v0 u c q r) (hq:r*B+c<q*v0):0<q∧G2 B v1 v0 u c (q-1) (r+v1):=by
 have h0:0<q:=by
  rcases pJ q with e | e
  ·rw[e]at hq;omega
  ·exact e
 refine⟨h0,?_,.inl ?_⟩
 ·obtain⟨k,rfl⟩:∃k,q=k+1:=⟨q-1,by omega⟩;have:=h.eq;rw[Nat.add_sub_cancel];rw[qw,Nat.one_mul]at this;omega
 ·rw[Nat.sub_add_cancel h0,←h.eq];have:q*(v1*B+v0)=q*v1*B+q*v0:=by grind
  rw[this,qw];omega
theorem G2.over {B v1 v0 u c q r:Nat} (h:G2 B v1 v0 u c q r) (hu:u≤v1*B+v0) (hv:v0<B) (hr:B≤r):q<B∧q*v0≤r*B+c:=by
 have hqB:q<B:=by
  rcases Nat.lt_or_ge q B with h1 | h1
  ·exact h1
  ·exfalso;have:=qN v1 h1;have e:=h.eq;rw[qW B v1]at this;omega
 refine⟨hqB,?_⟩;have h1:q*v0≤B*B:=Nat.mul_le_mul oM oM;have h2:B*B≤r*B:=qN B hr;omega
theorem G2.done {B v1 v0 u c q r:Nat} (h:G2 B v1 v0 u c q r) (hq:q*v0≤r*B+c):q*(v1*B+v0)≤u*B+c∧(u*B+c<(q+1)*(v1*B+v0)∨q=B-1):=by
 refine⟨?_,h.up⟩;rw[←h.eq];have:q*(v1*B+v0)=q*v1*B+q*v0:=by grind
 rw[this,qw];omega
theorem G2.small {B v1 v0 u c q r:Nat} (h:G2 B v1 v0 u c q r) (hu:u≤v1*B+v0) (hv1:B≤2*v1) (hv0:v0<B):q≤B+1:=by
 rcases Nat.lt_or_ge q (B+2) with h1 | h1
 ·omega
 ·exfalso;have:=qN v1 h1;have e:=h.eq;rw[qw,qW B v1]at this;omega
end Go.Proofs.YteoollbcdpfkpaaGreatDoor
namespace Go.Proofs.YteoollbcdpfkpaaGreatDoor
open Go.RowKit _root_.Go.Proofs.Tryz
def Wm (cs:List Value) (l:List Nat):Prop:=l.length≤cs.length∧∀j,j<l.length→cs[j]?=some (n32 (l.getD j 0))
theorem Wm.of (l:List Nat) (sp:List Value):Wm (l.map n32++sp) l:=⟨by simp,fun j hj=>by rw[qM (by simpa using hj)];exact zbZ hj⟩
theorem Wm.set {cs:List Value} {l:List Nat} (h:Wm cs l) (k x:Nat) (hk:k<l.length):Wm (cs.set k (n32 x)) (l.set k x):=by
 refine⟨by rw[List.length_set,List.length_set];exact h.1,fun j hj=>?_⟩;rw[List.length_set]at hj;by_cases e:k=j
 ·subst e;rw[List.getElem?_set_self (by have:=h.1;omega),zbn _ _ _ hk]
 ·rw[List.getElem?_set_ne oM,getD_set_ne _ _ _ _ (Ne.symm e)];exact h.2 j hj
theorem Wm.sl {cs:List Value} {l:List Nat} (h:Wm cs l) {G:Hp} {g n cap:Nat} (hg:G g=some cs.toArray) (hl:l.length=n) (hc:n≤cap):SlN n32 G (.slice (some ⟨g,0,none⟩) n cap) l:=by
 unfold SlN;rw[hl];refine⟨by simp[hl],.inr ⟨g,0,cap,_,rfl,hc,hg,fun j x hj=>?_⟩⟩
 have hjl:j<l.length:=by
  rcases Nat.lt_or_ge j l.length with e | e
  ·exact e
  ·rw[qg (by simpa using e)]at hj;cases hj
 rw[zbZ hjl]at hj;rw[qv,←hj];simpa using h.2 j hjl
theorem zkL {l m k:List Nat} {j n:Nat} (h:L32.Alike l m j n) (h':Alike m k j n):L32.Alike l k j n:=⟨h.1.trans h'.1,fun i hi=>(h.2 i hi).trans (h'.2 i hi)⟩
theorem zkr {x y c:Nat} (hx:x<B32) (hy:y<B32) (hc:c≤1) :
  IntKind.u32.wrap (IntKind.u64.wrap (IntKind.u64.wrap ((x:Int)-(y:Int))-(c:Int)))=((L32.subLo x y c:Nat):Int)∧(IntKind.u64.wrap (IntKind.u64.wrap ((x:Int)-(y:Int))-(c:Int))).fdiv (2 ^ (min 63 IntKind.u64.bits))=((L32.subHi x y c:Nat):Int):=by
 rw[zau]at hx hy;rw[zi8,zaq,zaq,show (2:Int) ^ (min 63 IntKind.u64.bits)=9223372036854775808 from rfl,Int.fdiv_eq_ediv_of_nonneg _ (by decide)];unfold L32.subLo L32.subHi;rw[zau];constructor
 ·omega
 ·split <;> omega
theorem zn1 {v:Value} {l:List Nat} {H:Hp} (h:SlN n32 H v l) (hD:Dig B32 l) (hl:l.length≤100000000) (k:Nat) (hk:k≤1000000000) :
  PC prog 152 #[v,.int .i64 (-(k:Int))] H fun r H'=>SlN n32 H' r (dig B32 (val B32 l / 2 ^ k)):=by
 rcases pJ k with e | e
 ·subst e;have:=zfh h hD hl 0 oM;simpa using this
 ·exact zn2 h hD hl k hk e
theorem zuD {B P D lv t u0 low:Nat} (hlv:lv<P) (h:(t*B+u0)*P+low<B*(D*P+lv)):t≤D:=by
 rcases Nat.lt_or_ge D t with e | e
 ·exfalso;have h1:(D+1)*B*P≤t*B*P:=qN _ (qN _ e);have h2:t*B*P≤(t*B+u0)*P:=qN _ (Nat.le_add_right _ _);have h3:B*(D*P+lv)≤B*(D*P+P):=qe _ oM;have h4:B*(D*P+P)=(D+1)*B*P:=by rw[qw,qw,Nat.one_mul,Nat.mul_add,Nat.mul_assoc D,Nat.mul_left_comm D]
  omega
 ·exact e
theorem zlD {b n:Nat} (h0:b≠0) (hn:(dig B32 b).length=n):bl b≤32*n∧b*2 ^ (32*n-bl b)<B32 ^ n∧B32 ^ n≤2*(b*2 ^ (32*n-bl b))∧(dig B32 (b*2 ^ (32*n-bl b))).length=n∧32*n-bl b<32:=by
 have h1:=zfs zam b;rw[hn]at h1;have hP:B32 ^ n=2 ^ (32*n):=by rw[Nat.pow_mul,←zaS]
 have h2:bl b≤32*n:=zaU (by rw[←hP];exact h1);have h3:=ze9 b;have h4:=zta h0;have h5:=zl0 h0;have e1:2 ^ bl b*2 ^ (32*n-bl b)=B32 ^ n:=by rw[hP,←Nat.pow_add];congr 1;omega
 have e2:2*(2 ^ (bl b-1)*2 ^ (32*n-bl b))=B32 ^ n:=by rw[←e1,←Nat.mul_assoc,←Nat.pow_succ'];congr 2;omega
 have a1:b*2 ^ (32*n-bl b)<B32 ^ n:=by rw[←e1];exact Nat.mul_lt_mul_of_pos_right h3 (Nat.two_pow_pos _)
 have a2:B32 ^ n≤2*(b*2 ^ (32*n-bl b)):=by rw[←e2];exact qe _ (qN _ h4)
 have hn0:0<n:=by rw[←hn];exact List.length_pos_iff.2 (ze5 zam h0)
 have hlow:32*(n-1)<bl b:=by
  have:=zmb zam b h0;rw[hn,zaS,←Nat.pow_mul]at this;rcases Nat.lt_or_ge (32*(n-1)) (bl b) with e | e
  ·exact e
  ·have:=qf (n:=2) oM e;omega
 refine⟨h2,a1,a2,?_,by omega⟩;have a3:=zca zam _ _ a1;have a4:=zfs zam (b*2 ^ (32*n-bl b));rcases Nat.lt_or_ge (dig B32 (b*2 ^ (32*n-bl b))).length n with e | e
 ·exfalso;have a5:B32 ^ (dig B32 (b*2 ^ (32*n-bl b))).length≤B32 ^ (n-1):=qf (by decide) oM;have a6:B32 ^ n=B32 ^ (n-1)*B32:=by rw[←qX];congr 1;omega
  have a7:B32 ^ (n-1)*2≤B32 ^ (n-1)*B32:=qe _ zam;omega
 ·omega
theorem znH {A V n:Nat} (hn:2≤n) (hV:V<B32 ^ n) (hVh:B32 ^ n≤2*V) (hAV:V≤A) :
  L32.Long A V n ((dig B32 A).length+2-n) (dig B32 A++[0,0]) (List.replicate ((dig B32 A).length+2-n) 0):=by
 have hD:=(zao zam A).1;refine⟨hD.append (Dig.cons (by decide) (Dig.cons (by decide) (Dig.nil _))),Dig.zeros (by decide) _,?_,?_,fun k hk=>by simp[qB,hk]⟩
 ·have hl:n≤(dig B32 A).length:=by
   rcases Nat.lt_or_ge (dig B32 A).length n with e | e
   ·exfalso;have h1:=zfs zam A;have h2:B32 ^ (dig B32 A).length≤B32 ^ (n-1):=qf (by decide) oM;have h3:B32 ^ n=B32 ^ (n-1)*B32:=by rw[←qX];congr 1;omega
    have h4:B32 ^ (n-1)*2≤B32 ^ (n-1)*B32:=qe _ zam;omega
   ·exact e
  rw[List.drop_append_of_le_length oM,zbh];have h1:=zax (hD.drop ((dig B32 A).length+2-n));rw[qu,show (dig B32 A).length-((dig B32 A).length+2-n)=n-2 by omega]at h1;have h2:B32 ^ n=B32 ^ (n-2)*(B32*B32):=by rw[←Nat.mul_assoc,←qX,←qX];congr 1;omega
  have h3:B32 ^ (n-2)*2≤B32 ^ (n-2)*(B32*B32):=qe _ (by decide);simp only[val,Nat.mul_zero,qY];omega
 ·rw[zbo,zbh,zaw zam];simp[val]
theorem zrj {X V n j:Nat} {U q vl:List Nat} (h:L32.Long X V n (j+1) U q) (hj:j+(n+1)≤U.length) (hn:2≤n) (hV:V<B32 ^ n) (hvl:vl.length=n) (hvD:Dig B32 vl) (hvV:val B32 vl=V) :
  U.getD (j+n) 0*B32+U.getD (j+(n-1)) 0≤vl.getD (n-1) 0*B32+vl.getD (n-2) 0:=by
 have hr:=h.rem hj hV;have h1:=L32.top_words vl n hvD hvl hn;have h2:=L32.top3_words (L32.mid U j (n+1)) n (L32.mid_dig h.dU _ _) (L32.mid_length _ _ _ hj) hn;rw[L32.getD_mid _ _ _ _ oM,L32.getD_mid _ _ _ _ oM,L32.getD_mid _ _ _ _ (by omega)]at h2;have h3:=hr.1;rw[←hvV,h1.1,h2.1]at h3;exact zuD h1.2 h3
theorem zi7 {m n:Nat} (h0:0<m) (h:m+n≤4000000000000):IntKind.i64.wrap ((m:Int)-1+(n:Int))=((m-1+n:Nat):Int):=by rw[pM];omega
theorem zuI {m n:Nat} (h0:0<m) (hn:1≤n) (h:m+n≤4000000000000):IntKind.i64.wrap (IntKind.i64.wrap ((m:Int)-1+(n:Int))-1)=((m-1+(n-1):Nat):Int):=by rw[pM,pM];omega
theorem zuJ {m n:Nat} (h0:0<m) (hn:2≤n) (h:m+n≤4000000000000):IntKind.i64.wrap (IntKind.i64.wrap ((m:Int)-1+(n:Int))-2)=((m-1+(n-2):Nat):Int):=by rw[pM,pM];omega
theorem zsL (c:Nat) (h:c<W64):IntKind.u64.wrap (((BitVec.ofInt IntKind.u64.bits (c:Int) &&& BitVec.ofInt IntKind.u64.bits 4294967295).toNat:Nat):Int)=((c % B32:Nat):Int):=by
 rw[zaj]at h
 have e:(BitVec.ofInt 64 (c:Int) &&& BitVec.ofInt 64 4294967295).toNat=c % 4294967296:=by
  rw[BitVec.toNat_and];rw[show (BitVec.ofInt 64 (c:Int)).toNat=c by rw[BitVec.toNat_ofInt];omega,show (BitVec.ofInt 64 4294967295).toNat=2 ^ 32-1 by decide,Nat.and_two_pow_sub_one_eq_mod]
 rw[show IntKind.u64.bits=64 from rfl,e,zbe,zau];omega
theorem zvp {n k s:Nat} (hs:32*n-k=s) (h:k≤32*n) (hn:n≤100000000):IntKind.i64.wrap (IntKind.i64.wrap (32*(n:Int))-(k:Int))=(s:Int):=by rw[pM,pM];omega
theorem ztX {m n:Nat} (h:n≤m) (hm:m≤4000000000):IntKind.i64.wrap (IntKind.i64.wrap ((m:Int)-(n:Int))-1)=((m-n:Nat):Int)-1:=by rw[pM,pM];omega
theorem zuK (s:Nat) (h:s≤4000000000):IntKind.i64.wrap (0-(s:Int)) = -(s:Int):=by rw[pM];omega
theorem zqG (g:Nat) (h0:0<g) (h:g<W64):IntKind.u64.wrap ((g:Int)-1)=((g-1:Nat):Int):=by rw[zaj]at h;rw[zaq];omega
theorem ztW {m:Nat} (h:0<m) (hm:m≤4000000000):IntKind.i64.wrap ((m:Int)-1-1)=((m-1:Nat):Int)-1:=by rw[pM];omega
theorem zsj {α:Type} (enc:α→Value) (H:Hp):SlN enc H (.slice none 0 0) []:=⟨rfl,.inl ⟨rfl,none,0,rfl⟩⟩
theorem ziq (a:Nat) {s:Nat} (h:s<32):(dig B32 (a*2 ^ s)).length≤(dig B32 a).length+1:=by
 apply zca zam;rw[qX];exact Nat.lt_of_lt_of_le (Nat.mul_lt_mul_of_pos_right (zfs zam a) (Nat.two_pow_pos _)) (qe _ (by rw[zaS];exact qf (by decide) oM))
theorem zmw:∀l:List Nat,zed (l.map n32)=true
 | []=>rfl
 | _::l=>by rw[qy];unfold zed;rw[zmw l];rfl
theorem zkh {l:List Nat} {b n:Nat} (hl:zdX B32 l) (hv:val B32 l=b) (h0:b≠0) (hn:l.length=n):bl b≤32*n∧b*2 ^ (32*n-bl b)<B32 ^ n∧B32 ^ n≤2*(b*2 ^ (32*n-bl b))∧(dig B32 (b*2 ^ (32*n-bl b))).length=n∧32*n-bl b<32:=by
 subst hv;exact zlD h0 (by rw[zjw zam hl];exact hn)
set_option maxRecDepth 20000 in
theorem znY {u v:Value} {H:Hp} {a b:Nat} {la lb:List Nat} (hu:SlN n32 H u la) (hv:SlN n32 H v lb) (hla:la.length≤50000000) (hlb:lb.length≤50000000) (hna:zdX B32 la) (hnb:zdX B32 lb) (hva:val B32 la=a) (hvb:val B32 lb=b) (hab:b≤a) (h2:2≤lb.length) :
  PC prog 98 #[u,v] H fun r H'=>∃s t,r=.tuple #[s,t]∧SlN n32 H' s (dig B32 (a / b))∧SlN n32 H' t (dig B32 (a % b)):=by
 have hb0:b≠0:=fun e=>by rw[zgH (by decide) hnb (by rw[hvb];exact e)]at h2;simp at h2
 obtain⟨f1,f2,f3,f4,f5⟩:=zkh hnb hvb hb0 rfl;have hcmp:=zdO hu hv hna hnb oM;have hbits:=zhY hv hnb oM;have hshb:=zfh (k:=32*lb.length-bl b) hv hnb.1 oM oM;rw[hva,hvb]at hcmp;rw[hvb]at hbits hshb;obtain⟨aa,ca,rfl⟩:=SlC.val hu;obtain⟨ab,cb,rfl⟩:=SlC.val hv;have ho:decide (zbv a b<0)=false:=by unfold zbv;rw[if_neg (by omega)];split <;> rfl
 generalize zbv a b=oab at *
 generalize bl b=blb at *
 have hAV:b*2 ^ (32*lb.length-blb)≤a*2 ^ (32*lb.length-blb):=qN _ hab;have hst:=znH h2 f2 f3 hAV;have hVnz:0<b*2 ^ (32*lb.length-blb):=Nat.mul_pos (Nat.pos_of_ne_zero hb0) (Nat.two_pow_pos _);have hlA:0<(dig B32 (a*2 ^ (32*lb.length-blb))).length:=List.length_pos_iff.2 (ze5 zam oM)
 have hlA2:(dig B32 (a*2 ^ (32*lb.length-blb))).length≤50000001:=by
  have:=ziq a f5;rw[←hva,zjw zam hna,hva]at this;omega
 have hlV:lb.length≤(dig B32 (a*2 ^ (32*lb.length-blb))).length:=by
  have:=zbX zam hAV;rw[f4]at this;exact this
 have hyD:=zao zam (b*2 ^ (32*lb.length-blb));have hyV:=zaw zam (b*2 ^ (32*lb.length-blb));generalize hs:32*lb.length-blb=s at *
 have hshl:=fun G1 (hG1:H.Le G1)=>zfh (k:=s) (hu.mono hG1) hna.1 oM oM;rw[hva]at hshl;generalize dig B32 (a*2 ^ s)=A at *
 generalize dig B32 (b*2 ^ s)=Y at *
 generalize hn:lb.length=n at *
 have ha:a*2 ^ s / (b*2 ^ s)=a / b:=Nat.mul_div_mul_right _ _ (Nat.two_pow_pos s);have hr:a*2 ^ s % (b*2 ^ s) / 2 ^ s=a % b:=by rw[Nat.mul_mod_mul_right,Nat.mul_div_cancel _ (Nat.two_pow_pos s)]
 rw[←ha,←hr];generalize a*2 ^ s=X at *
 generalize b*2 ^ s=V at *
 clear ha hr hva hvb hab hnb hb0;refine BD func98 ntmps98 ?_
 repeat (first|refine RUN ?_|refine CV (hcmp) ?_|refine CE (hcmp) ?_)
 rw[ho];refine uR ?_;rw[show ((n:Int) == 1)=false by simp;omega]
 repeat (first|refine RUN ?_|refine CV (hbits) ?_|refine CE (hbits) ?_)
 rw[zvp hs f1 (by omega)];refine vA (hshb) ?_;rintro vy G1 hy hG1;obtain⟨ay,cy,rfl⟩:=SlC.val hy;have hshl1:=hshl G1 hG1;refine uR ?_;refine EVL.lit0 tO rfl rfl rfl rfl rfl rfl rfl fun g0=>?_;refine uR ?_;refine vA (hshl1) ?_;rintro vx Gx hx hG2;refine uR ?_;refine EVL.append tO rfl rfl rfl rfl rfl rfl rfl rfl rfl rfl rfl rfl [] [(g0,174,[])] [] rfl (zaO.full (m:=0) rfl oM) (zdj.ro hx hlA) (zmw _) oM ?_;intro v1 ow1 hown1;refine uR ?_;refine EVL.app1 tO rfl rfl rfl rfl rfl rfl rfl rfl rfl rfl rfl rfl rfl rfl rfl rfl rfl rfl rfl (fun _=>rfl) (ow1) ([]) (rfl) (hown1) oM fun _=>?_;intro v2 ow2 hown2;obtain⟨gx,cx,sp,rfl,rfl,hl1,hl2,hl3⟩:=hown2.block oM;have hX:∃N X0,N=A.length+2∧X0=A++[0,0]∧X0.length=N∧0+A.length+2=N:=⟨_,_,rfl,rfl,by simp,by omega⟩;obtain⟨N,X0,hN,hX0,hXl,hNe⟩:=hX;rw[hNe]at hl2 ⊢
 have hW0:Wm ([]++A.map n32++[n32 0,n32 0]++sp) X0:=by
  have:=Wm.of X0 sp;rw[hX0,qr]at this;simpa[hX0] using this
 have hst':L32.Long X V n (N-n) X0 (List.replicate (N-n) 0):=by rw[hN,hX0];exact hst
 generalize []++A.map n32++[n32 0,n32 0]++sp=cs0 at *
 have hy1:Y.getD (n-1) 0<B32:=hyD.1.getD (by decide) _;have hy2:Y.getD (n-2) 0<B32:=hyD.1.getD (by decide) _;have hyc1:=zbZ (enc:=n32) (l:=Y) (i:=n-1) oM;have hyc2:=zbZ (enc:=n32) (l:=Y) (i:=n-2) oM;have hNb:N≤50000003:=oM;have hNn:n+2≤N:=oM;have hyG2:=hy.mono hG2;have hV1:B32≤2*Y.getD (n-1) 0:=L32.top_half Y n hyD.1 f4 oM (by rw[hyV];exact f3);clear hst hX0 hlA hlA2 hlV hl1 hl3 hN;refine uR ?_;refine EVL.idxR tO rfl rfl rfl rfl rfl rfl rfl rfl rfl rfl (hyG2) (n-1) ((by rw[f4];exact zkA n oM oM)) oM (hyc1) ?_;refine uR ?_;refine EVL.idxR tO rfl rfl rfl rfl rfl rfl rfl rfl rfl rfl (hyG2) (n-2) ((by rw[f4];exact zsx n 2 oM oM)) oM (hyc2) ?_;refine uR ?_;rw[zcP _ (w32 hy1),zcP _ (w32 hy2),f4,zsx N n oM (by omega)];refine EVL.make tO rfl rfl rfl rfl rfl rfl rfl rfl rfl (N-n) (rfl) oM (by rfl) (by rfl) fun gq=>?_;refine uR ?_;rw[zja];generalize hv1:Y.getD (n-1) 0=v1 at *
 generalize hv0:Y.getD (n-2) 0=v0 at *
 have hv1p:0<v1:=by rw[zau]at hV1;omega
 refine EV.loopK (ι:=Nat × List Nat × List Nat × List Value) [8,9,10,11,12,13,14] [] (fun q=>[(15,.v (.int .i64 ((q.1:Int)-1)))]) (fun _=>[]) (fun q=>[(gq,174,q.2.2.1.map n32),(gx,174,q.2.2.2)]) (fun q G=>q.1≤N-n∧q.2.1.length=N∧q.2.2.1.length=N-n∧L32.Long X V n q.1 q.2.1 q.2.2.1∧Wm q.2.2.2 q.2.1) (fun q=>q.1) ((N-n,X0,List.replicate (N-n) 0,cs0)) rfl rfl ⟨?_,trivial⟩ trivial rfl (fun _=>rfl) (⟨qH _,hXl,by simp,hst',hW0⟩) ?_
 ·rw[ztX oM (by omega)];rfl
 rintro⟨m,U,q,cx1⟩ G3 hG3 ⟨hm,hUl,hql,hL,hW⟩;dsimp only at hm hUl hql hL hW;have hyG3:=hyG2.mono hG3;clear hW0 hst' hXl hcmp ho hbits hshb hshl hshl1 hx hy hyG2;refine uR ?_;by_cases hm0:m=0
 ·subst hm0;rw[show decide ((((0:Nat):Int)-1)≥0)=false from rfl];refine uR ?_;refine EVL.publish [] [(gx,174,cx1)] rfl fun G4 hG4 hgq=>?_;refine EVL.publish [] [] rfl fun G5 hG5 hgx=>?_;have hvU:val B32 U<V:=by have:=hL.top;rwa [List.drop_zero]at this
  have hq:val B32 q=X / V:=by rw[hL.sum,Nat.add_mul_div_left _ _ hVnz,Nat.div_eq_of_lt hvU,qv]
  have hU:val B32 U=X % V:=by rw[hL.sum,Nat.add_mul_mod_self_left,qT hvU]
  have htq:=zbR (l:=q) (zkl (enc:=n32) (hG5 _ _ hgq) hql) hL.dq oM hq;refine vA (htq) ?_;rintro vq G6 hq6 hG6;refine uR ?_;have htx:=zbR (l:=U) ((hW.sl hgx hUl hl2).mono hG6) hL.dU oM hU;refine vA (htx) ?_;rintro vu G7 hu7 hG7;refine uR ?_;have hsh:=zn1 hu7 (zl9 _) (qI (zca zam _ N (by rw[←hU,←hUl];exact zax hL.dU)) oM) s oM;rw[zaw zam,←zuK s (by omega)]at hsh;refine vA (hsh) ?_;rintro vr G8 hr8 hG8;refine uR ?_;exact⟨vq,vr,rfl,(hq6.mono hG7).mono hG8,hr8⟩
 ·rw[show decide (((m:Int)-1)≥0)=true by simp;omega];have hmp:0<m:=Nat.pos_of_ne_zero hm0;have hmN:m+n≤N:=oM;have hmn:m+n≤4000000000000:=oM;obtain⟨j,hj⟩:∃j,j=m-1:=⟨_,rfl⟩;have hL':L32.Long X V n (j+1) U q:=by rw[show j+1=m by omega];exact hL
  have hjn:j+(n+1)≤U.length:=oM;have hlong:=hL'.guess hjn h2 f2 f3 f4 hyD.1 hyV;have htop:=zrj hL' hjn h2 f2 f4 hyD.1 hyV;have hnext:=fun U'=>hL'.next (U':=U') hjn f2 hVnz oM;rw[hv1,hv0]at hlong htop;have hu2:U.getD (j+n) 0<B32:=hL.dU.getD (by decide) _;have hu1:U.getD (j+(n-1)) 0<B32:=hL.dU.getD (by decide) _;have hu0:U.getD (j+(n-2)) 0<B32:=hL.dU.getD (by decide) _;have hc2:=hW.2 (j+n) oM;have hc1:=hW.2 (j+(n-1)) oM;have hc0:=hW.2 (j+(n-2)) oM;obtain⟨u2,he2⟩:∃x,x=U.getD (j+n) 0:=⟨_,rfl⟩;obtain⟨u1,he1⟩:∃x,x=U.getD (j+(n-1)) 0:=⟨_,rfl⟩;obtain⟨u0,he0⟩:∃x,x=U.getD (j+(n-2)) 0:=⟨_,rfl⟩;rw[←he2]at hlong htop hu2 hc2;rw[←he1]at hlong htop hu1 hc1;rw[←he0]at hlong hu0 hc0;have htwo:u1+u2*2 ^ 32<W64:=by rw[zau]at hu1 hu2;rw[zaj];omega
  have e1:u1+u2*2 ^ 32=u2*B32+u1:=by rw[←zaS,Nat.add_comm]
  refine uR ?_;apply EV.drawn 18 kR kR;intro xv yw;(repeat refine' DD ?_);refine' DJ.ofVal (zab.idxP1 tO rfl rfl rfl rfl rfl rfl rfl rfl (j+n) ((by rw[hj];exact zi7 hmp hmn)) oM) rfl rfl rfl ?_;rotate_left;refine' DJ.ofVal (zab.load1 tO rfl rfl rfl rfl rfl rfl (1) rfl (hc2)) rfl rfl rfl ?_;rotate_left;(repeat refine' DD ?_);refine' DJ.ofVal (zab.idxP1 tO rfl rfl rfl rfl rfl rfl rfl rfl (j+(n-1)) ((by rw[hj];exact zuI hmp oM hmn)) oM) rfl rfl rfl ?_;rotate_left;refine' DJ.ofVal (zab.load1 tO rfl rfl rfl rfl rfl rfl (1) rfl (hc1)) rfl rfl rfl ?_;rotate_left;(repeat refine' DD ?_);(refine DJ.nil (fun G4 hG4 hF4=>?_);(case hS|hS2=>rfl));refine uR ?_;rw[zcP _ (w32 hu2),zcP _ (w32 hu1),show min 32 IntKind.u64.bits=32 from rfl,zkE,qT (Nat.lt_of_le_of_lt (Nat.le_add_left _ _) htwo),ziG (by rw[←zaS];exact hu1) htwo,e1];rw[e1]at htwo;have hst:=G2.start (B:=B32) (v0:=v0) (u:=u2*B32+u1) (c:=u0) hv1p hu0;generalize hu:u2*B32+u1=u at *
  refine uR ?_;refine EVL.quoI rfl rfl rfl rfl rfl rfl oM ?_;rw[zsA _ _ htwo]
  (try refine zt9 ?_);refine EVL.remI rfl rfl rfl rfl rfl rfl oM ?_;rw[zkB]
  (try refine zt9 ?_);refine EV.meetK (ι:=Nat) [8,9,10,11,12,13,14,15] [] (fun g=>[(17,.v (n64 g))]) (fun _=>[]) (fun _=>[(gq,174,q.map n32),(gx,174,cx1)]) (fun g G=>G4.Le G∧g<B32∧g*(v1*B32+v0)≤u*B32+u0∧(u*B32+u0<(g+1)*(v1*B32+v0)∨g=B32-1)) rfl rfl (fun _=>rfl) ?_ ?_
  ·try refine uR ?_
   refine EV.loopK (ι:=Nat × Nat) [8,9,10,11,12,13,14,15] [] (fun p=>[(17,.v (n64 p.1)),(18,.v (n64 p.2))]) (fun _=>[]) (fun _=>[(gq,174,q.map n32),(gx,174,cx1)]) (fun p G=>G2 B32 v1 v0 u u0 p.1 p.2∧p.2<B32) (fun p=>p.1) ((u / v1,u % v1)) rfl rfl ⟨rfl,rfl,trivial⟩ trivial rfl (fun _=>rfl) (⟨hst,Nat.lt_trans (qo _ hv1p) (by rw[←hv1];exact hyD.1.getD (by decide) _)⟩) ?_;rintro⟨g,r⟩ G5 hG5 ⟨hg,hr⟩;dsimp only at hg hr;have hgs:=hg.small htop hV1 hy2;have hv1B:v1<B32:=by rw[←hv1];exact hyD.1.getD (by decide) _
   refine uR ?_;by_cases hgB:B32≤g
   ·rw[show decide ((g:Int)≥4294967296)=true from qD (by rw[zau]at hgB;omega)];have hgp:0<g:=by rw[zau]at hgB;omega
    have hst1:=hg.high hv1p htop hu0 hgB;refine uR ?_;rw[zqG g hgp (by rw[zau]at hgs;rw[zaj];omega),zib r v1 (by rw[zaj];rw[zau]at hr hv1B;omega)];by_cases hov:B32≤r+v1
    ·rw[show decide (((r+v1:Nat):Int)≥4294967296)=true from qD (by rw[zau]at hov;omega)];refine uR ?_;have ho:=hst1.over htop hy2 hov;exact⟨g-1,⟨rfl,trivial⟩,sB,trivial,trivial,rfl,hG5,ho.1,hst1.done ho.2⟩
    ·rw[show decide (((r+v1:Nat):Int)≥4294967296)=false from qC (by rw[zau]at hov;omega)];refine uR ?_;exact⟨(g-1,r+v1),⟨rfl,rfl,trivial⟩,sB,trivial,trivial,rfl,⟨hst1,by dsimp only;omega⟩,Hp.Le.refl _,by dsimp only;omega⟩
   ·rw[show decide ((g:Int)≥4294967296)=false from qC (by rw[zau]at hgB;omega)];refine EVL.val tO rfl rfl rfl rfl rfl ?_;refine EVL.val tO rfl rfl rfl rfl rfl ?_;rw[show decide ((r:Int)<4294967296)=true from qD (by rw[zau]at hr;omega)]
    have hgv:g*v0<W64:=by
     have:g*v0≤(B32-1)*(B32-1):=Nat.mul_le_mul oM oM;rw[zau]at this;rw[zaj];omega
    have e3:u0+r*2 ^ 32=r*B32+u0:=by rw[←zaS,Nat.add_comm]
    have hrW:u0+r*2 ^ 32<W64:=by rw[zau]at hr hu0;rw[zaj];omega
    refine uR ?_;refine EVL.idx0 tO rfl rfl rfl rfl rfl rfl rfl rfl rfl rfl (j+(n-2)) ((by rw[hj];exact zuJ hmp h2 hmn)) oM ?_;refine EVL.load1 tO rfl rfl rfl rfl rfl rfl rfl rfl (1) rfl (hc0) ?_
    (try refine zfA ?_);rw[zsz _ _ hgv,zcP _ (w32 hu0),show min 32 IntKind.u64.bits=32 from rfl,zkE,qT (Nat.lt_of_le_of_lt (Nat.le_add_left _ _) hrW),ziG (by rw[←zaS];exact hu0) hrW,e3];by_cases hd:r*B32+u0<g*v0
    ·rw[show decide (((g*v0:Nat):Int)>((r*B32+u0:Nat):Int))=true from qD (by omega)];have hgd:=hg.down hd;have hgp:=hgd.1;have hst1:=hgd.2;refine uR ?_;rw[zqG g hgp (by rw[zau]at hgs;rw[zaj];omega),zib r v1 (by rw[zaj];rw[zau]at hr hv1B;omega)];by_cases hov:B32≤r+v1
     ·rw[show decide (((r+v1:Nat):Int)≥4294967296)=true from qD (by rw[zau]at hov;omega)];refine uR ?_;have ho:=hst1.over htop hy2 hov;exact⟨g-1,⟨rfl,trivial⟩,sB,trivial,trivial,rfl,hG5,ho.1,hst1.done ho.2⟩
     ·rw[show decide (((r+v1:Nat):Int)≥4294967296)=false from qC (by rw[zau]at hov;omega)];refine uR ?_;exact⟨(g-1,r+v1),⟨rfl,rfl,trivial⟩,sB,trivial,trivial,rfl,⟨hst1,by dsimp only;omega⟩,Hp.Le.refl _,by dsimp only;omega⟩
    ·rw[show decide (((g*v0:Nat):Int)>((r*B32+u0:Nat):Int))=false from qC (by omega)];refine uR ?_;exact⟨g,⟨rfl,trivial⟩,sB,trivial,trivial,rfl,hG5,by omega,hg.done oM⟩
  ·rintro g G5 ⟨hG5,hgB,hg1,hg2⟩;have hgq:=hlong.2 g hgB hg1 hg2;have hyG5:=hyG3.mono (hG4.trans hG5);clear hlong htop hst hg1 hg2;refine uR ?_;refine EV.loopK (ι:=Nat × Nat × Nat × List Nat × List Value) [8,9,10,11,12,13,14,15,17] [] (fun p=>[(19,.v (n64 p.2.1)),(20,.v (n64 p.2.2.1)),(21,.v (.int .i64 (p.1:Int)))]) (fun _=>[]) (fun p=>[(gq,174,q.map n32),(gx,174,p.2.2.2.2)]) (fun p G=>p.1≤n∧p.2.1<B32∧p.2.2.1≤1∧L32.Alike p.2.2.2.1 U j (n+1)∧Dig B32 p.2.2.2.1∧val B32 p.2.2.2.1+g*val B32 (Y.take p.1)*B32 ^ j=val B32 U+(p.2.2.1+p.2.1)*B32 ^ (j+p.1)∧Wm p.2.2.2.2 p.2.2.2.1) (fun p=>n-p.1) ((0,0,0,U,cx1)) rfl rfl ⟨rfl,rfl,rfl,trivial⟩ trivial rfl (fun _=>rfl) (⟨qQ _,(show (0:Nat)<B32 by decide),qQ _,L32.Alike.refl _ _ _,hL'.dU,by simp[val],hW⟩) ?_;rintro⟨k,c,bo,U1,cx2⟩ G6 hG6 ⟨hk,hcB,hb1,hal,hD1,hval,hW1⟩;dsimp only at hk hcB hb1 hal hD1 hval hW1;have hU1l:U1.length=N:=by rw[hal.1];exact hUl
   have hyG6:=hyG5.mono hG6;rw[f4]at hyG6;refine uR ?_;refine EV.cond rfl (fun hkn=>?_) (fun hkn=>?_)
   ·simp only[nN]at hkn;have hyk:Y.getD k 0<B32:=hyD.1.getD (by decide) _;have hyc:=zbZ (enc:=n32) (l:=Y) (i:=k) oM;have hxk:U1.getD (j+k) 0<B32:=hD1.getD (by decide) _;have hxc:=hW1.2 (j+k) oM;have hmul:g*Y.getD k 0≤(B32-1)*(B32-1):=Nat.mul_le_mul oM oM;have hgW:g*Y.getD k 0<W64∧c+g*Y.getD k 0<W64∧g*Y.getD k 0+c<B32*B32:=by rw[zau]at *;rw[zaj];omega
    have hdm:g*Y.getD k 0 / B32*B32+g*Y.getD k 0 % B32=g*Y.getD k 0:=by rw[qW];exact qm _ _
    have sr:=L32.sub_round U1 U Y j k (j+k) g c bo (U1.getD (j+k) 0) (Y.getD k 0) (g*Y.getD k 0 / B32) (g*Y.getD k 0 % B32) rfl oM hxk rfl rfl (qo _ (by decide)) hdm hgW.2.2 hcB hb1 hval;have el:L32.addLo (g*Y.getD k 0 % B32) c 0=(c+g*Y.getD k 0) % B32:=by unfold L32.addLo;rw[qY,Nat.mod_add_mod,Nat.add_comm]
    have eh:g*Y.getD k 0 / B32+L32.addHi (g*Y.getD k 0 % B32) c 0=(c+g*Y.getD k 0) / B32:=by
     unfold L32.addHi;rw[qY];generalize g*Y.getD k 0=z;rw[zau];omega
    rw[el,eh]at sr;obtain⟨s1,s2,s3,s4⟩:=sr;obtain⟨w1,w2⟩:=zkr (y:=(c+g*Y.getD k 0) % B32) hxk (qo _ (by decide)) hb1;refine uR ?_;refine vI (hyG6) (k) (rfl) (oM) (hyc) ?_;refine uR ?_;rw[zcP _ (w32 hyk),zsz _ _ hgW.1,zib _ _ hgW.2.1];refine uR ?_;refine EVL.idx0 tO rfl rfl rfl rfl rfl rfl rfl rfl rfl rfl (j+k) ((by rw[hj];exact zi7 hmp oM)) oM ?_;refine EVL.load1 tO rfl rfl rfl rfl rfl rfl rfl rfl (1) rfl (hxc) ?_;refine uR ?_;rw[zsL _ hgW.2.1,zcP _ (w32 hxk)];rw[w1];refine EVL.idx0 tO rfl rfl rfl rfl rfl rfl rfl rfl rfl rfl (j+k) ((by rw[hj];exact zi7 hmp oM)) oM ?_;refine EVL.setO tO rfl rfl rfl rfl rfl rfl rfl ([(gq,174,q.map n32)]) rfl rfl rfl ((show j+k<cx2.length by have:=hW1.1;omega)) ?_;refine uR ?_;refine⟨(k+1,(c+g*Y.getD k 0) / B32,L32.subHi (U1.getD (j+k) 0) ((c+g*Y.getD k 0) % B32) bo,U1.set (j+k) (L32.subLo (U1.getD (j+k) 0) ((c+g*Y.getD k 0) % B32) bo),cx2.set (j+k) (n32 (L32.subLo (U1.getD (j+k) 0) ((c+g*Y.getD k 0) % B32) bo))),⟨?_,?_,?_,trivial⟩,sB,trivial,trivial,rfl,⟨by dsimp only;omega,s1,s2,hal.set _ _ oM oM,hD1.set _ _ s3,s4,hW1.set _ _ oM⟩,Hp.Le.refl _,by dsimp only;omega⟩
    ·rw[ztG];rfl
    ·rw[w2];rfl
    ·rw[zad k (by omega)];rfl
   ·simp only[nN]at hkn;obtain rfl:k=n:=oM;have hxk:U1.getD (j+k) 0<B32:=hD1.getD (by decide) _;have hxc:=hW1.2 (j+k) oM;have hval':val B32 U1+g*V*B32 ^ j=val B32 U+(bo+c)*B32 ^ (j+k):=by rw[qO oM,hyV]at hval;exact hval
    obtain⟨a1,a2,a3,a4,a5⟩:=L32.sub_end U U1 V g c bo _ j k hjn hal hL'.dU hD1 rfl hcB hb1 hval' hVnz f2 hgq.1 hgq.2;obtain⟨w1,w2⟩:=zkr hxk hcB hb1;refine uR ?_;refine EVL.idx0 tO rfl rfl rfl rfl rfl rfl rfl rfl rfl rfl (j+k) ((by rw[hj];exact zi7 hmp oM)) oM ?_;refine EVL.load1 tO rfl rfl rfl rfl rfl rfl rfl rfl (1) rfl (hxc) ?_;refine uR ?_;rw[zcP _ (w32 hxk)];rw[w1];have hWx:=hW1.set (j+k) (L32.subLo (U1.getD (j+k) 0) c bo) oM;have hU2l:(U1.set (j+k) (L32.subLo (U1.getD (j+k) 0) c bo)).length=N:=by rw[List.length_set];exact hU1l
    refine EVL.idx0 tO rfl rfl rfl rfl rfl rfl rfl rfl rfl rfl (j+k) ((by rw[hj];exact zi7 hmp oM)) oM ?_;refine EVL.setO tO rfl rfl rfl rfl rfl rfl rfl ([(gq,174,q.map n32)]) rfl rfl rfl ((show j+k<cx2.length by have:=hW1.1;omega)) ?_;generalize U1.set (j+k) (L32.subLo (U1.getD (j+k) 0) c bo)=U2 at *
    generalize cx2.set (j+k) (n32 (L32.subLo (U1.getD (j+k) 0) c bo))=cx3 at *
    (try refine zt9 ?_);rw[w2];generalize L32.subHi (U1.getD (j+k) 0) c bo=hb at *
    clear hval hval' w1 w2 hW1 hal hD1 hxk hxc
    (try refine zt9 ?_);refine EV.meetK (ι:=List Nat × List Value) [8,9,10,11,12,13,14,15] [] (fun _=>[(17,.v (n64 (val B32 (L32.mid U j (k+1)) / V)))]) (fun _=>[]) (fun p=>[(gq,174,q.map n32),(gx,174,p.2)]) (fun p G=>G6.Le G∧Wm p.2 p.1∧L32.Alike p.1 U j (k+1)∧Dig B32 p.1∧val B32 (L32.mid p.1 j (k+1))=val B32 (L32.mid U j (k+1)) % V) rfl rfl (fun _=>rfl) ?_ ?_
    ·rcases (by omega:hb=0∨hb=1) with h0 | h0
     ·subst h0;obtain⟨b1,b2⟩:=a4 rfl;rw[show (((0:Nat):Int) == 1)=false from rfl];refine uR ?_;exact⟨(U2,cx3),⟨by rw[←b1];rfl,trivial⟩,sB,trivial,trivial,rfl,Hp.Le.refl _,hWx,a1,a2,b2⟩
     ·subst h0;obtain⟨b1,b2⟩:=a5 rfl;rw[show (((1:Nat):Int) == 1)=true from rfl];have hgp:0<g:=by rw[b1];exact Nat.succ_pos _
      have hgm:g-1=val B32 (L32.mid U j (k+1)) / V:=by rw[b1];exact Nat.add_sub_cancel _ _
      have hmV:=qo (val B32 (L32.mid U j (k+1))) hVnz
      have hmM:val B32 (L32.mid U j (k+1)) % V<B32 ^ (k+1):=by
       have:B32 ^ k≤B32 ^ (k+1):=qf (by decide) oM;exact Nat.lt_of_lt_of_le (Nat.lt_trans hmV f2) this
      refine uR ?_;rw[zqG g hgp (w32 hgB),hgm];refine uR ?_;refine EV.loopK (ι:=Nat × Nat × List Nat × List Value) [8,9,10,11,12,13,14,15,17] [] (fun p=>[(19,.v (n64 p.2.1)),(24,.v (.int .i64 (p.1:Int)))]) (fun _=>[]) (fun p=>[(gq,174,q.map n32),(gx,174,p.2.2.2)]) (fun p G=>p.1≤k∧p.2.1≤1∧L32.Alike p.2.2.1 U2 j k∧Dig B32 p.2.2.1∧val B32 p.2.2.1+p.2.1*B32 ^ (j+p.1)=val B32 U2+val B32 (Y.take p.1)*B32 ^ j∧Wm p.2.2.2 p.2.2.1) (fun p=>k-p.1) ((0,0,U2,cx3)) rfl rfl ⟨rfl,rfl,trivial⟩ trivial rfl (fun _=>rfl) (⟨qQ _,qQ _,L32.Alike.refl _ _ _,a2,by simp[val],hWx⟩) ?_;rintro⟨i,c',U3,cx4⟩ G7 hG7 ⟨hi,hc',hal3,hD3,hval3,hW3⟩;dsimp only at hi hc' hal3 hD3 hval3 hW3;have hU3l:U3.length=N:=by rw[hal3.1];exact hU2l
      have hyG7:=hyG6.mono hG7;refine uR ?_;refine EV.cond rfl (fun hik=>?_) (fun hik=>?_)
      ·simp only[nN]at hik;have hyi:Y.getD i 0<B32:=hyD.1.getD (by decide) _;have hyc:=zbZ (enc:=n32) (l:=Y) (i:=i) oM;have hxi:U3.getD (j+i) 0<B32:=hD3.getD (by decide) _;have hxc:=hW3.2 (j+i) oM;obtain⟨r1,r2,r3⟩:=L32.add_round U3 U2 Y j i (j+i) c' (U3.getD (j+i) 0) (Y.getD i 0) rfl oM hxi rfl rfl hyi hc' hval3;have el:L32.addLo (U3.getD (j+i) 0) (Y.getD i 0) c'=(c'+U3.getD (j+i) 0+Y.getD i 0) % B32:=by unfold L32.addLo;congr 1;omega
       have eh:L32.addHi (U3.getD (j+i) 0) (Y.getD i 0) c'=(c'+U3.getD (j+i) 0+Y.getD i 0) / B32:=by unfold L32.addHi;congr 1;omega
       rw[el]at r1 r3;rw[eh]at r2 r3;have hsW:c'+U3.getD (j+i) 0<W64∧c'+U3.getD (j+i) 0+Y.getD i 0<W64:=by rw[zau]at hxi hyi;rw[zaj];omega
       refine uR ?_;apply EV.drawn 16 kR kR;intro xv yw;(repeat refine' DD ?_);refine' DJ.ofVal (zab.idxP1 tO rfl rfl rfl rfl rfl rfl rfl rfl (j+i) ((by rw[hj];exact zi7 hmp oM)) oM) rfl rfl rfl ?_;rotate_left;refine' DJ.ofVal (zab.load1 tO rfl rfl rfl rfl rfl rfl (1) rfl (hxc)) rfl rfl rfl ?_;rotate_left;(repeat refine' DD ?_);refine' vJ (hyG7) (i) (rfl) (oM) (hyc) ?_;rotate_left;(repeat refine' DD ?_);(refine DJ.nil (fun G8 hG8 hF8=>?_);(case hS|hS2=>rfl));refine uR ?_;rw[zcP _ (w32 hxi),zcP _ (w32 hyi),zib _ _ hsW.1,zib _ _ hsW.2];rw[zr5];refine EVL.idx0 tO rfl rfl rfl rfl rfl rfl rfl rfl rfl rfl (j+i) ((by rw[hj];exact zi7 hmp oM)) oM ?_;refine EVL.setO tO rfl rfl rfl rfl rfl rfl rfl ([(gq,174,q.map n32)]) rfl rfl rfl ((show j+i<cx4.length by have:=hW3.1;omega)) ?_;refine uR ?_;refine⟨(i+1,(c'+U3.getD (j+i) 0+Y.getD i 0) / B32,U3.set (j+i) ((c'+U3.getD (j+i) 0+Y.getD i 0) % B32),cx4.set (j+i) (n32 ((c'+U3.getD (j+i) 0+Y.getD i 0) % B32))),⟨?_,?_,trivial⟩,sB,trivial,trivial,rfl,⟨by dsimp only;omega,r2,hal3.set _ _ oM oM,hD3.set _ _ r1,r3,hW3.set _ _ oM⟩,hG8,by dsimp only;omega⟩
       ·rw[ztG];rfl
       ·rw[zad i (by omega)];rfl
      ·simp only[nN]at hik;obtain rfl:i=k:=oM;have hxi:U3.getD (j+i) 0<B32:=hD3.getD (by decide) _;have hxc:=hW3.2 (j+i) oM;rw[qO oM,hyV]at hval3;obtain⟨e1,e2,e3⟩:=L32.add_end U2 U3 V c' _ j i _ oM hal3 hD3 rfl hc' hval3 b2 hmM;have hsW:U3.getD (j+i) 0+c'<W64:=by rw[zau]at hxi;rw[zaj];omega
       refine uR ?_;refine EVL.idx0 tO rfl rfl rfl rfl rfl rfl rfl rfl rfl rfl (j+i) ((by rw[hj];exact zi7 hmp oM)) oM ?_;refine EVL.load1 tO rfl rfl rfl rfl rfl rfl rfl rfl (1) rfl (hxc) ?_;refine uR ?_;rw[zcP _ (w32 hxi),zib _ _ hsW];rw[zr5];refine EVL.idx0 tO rfl rfl rfl rfl rfl rfl rfl rfl rfl rfl (j+i) ((by rw[hj];exact zi7 hmp oM)) oM ?_;refine EVL.setO tO rfl rfl rfl rfl rfl rfl rfl ([(gq,174,q.map n32)]) rfl rfl rfl ((show j+i<cx4.length by have:=hW3.1;omega)) ?_;refine uR ?_;exact⟨(U3.set (j+i) ((U3.getD (j+i) 0+c') % B32),cx4.set (j+i) (n32 ((U3.getD (j+i) 0+c') % B32))),⟨rfl,trivial⟩,sB,trivial,trivial,rfl,hG7,hW3.set _ _ oM,zkL e1 a1,e2,e3⟩
    ·rintro⟨U',cx'⟩ G7 ⟨hG7,hW',hal',hD',hm'⟩;dsimp only at hW' hal' hD' hm';have hqB:val B32 (L32.mid U j (k+1)) / V<B32:=Nat.lt_of_le_of_lt hgq.1 hgB;have hfin:=hnext U' hal' hD' hm';generalize val B32 (L32.mid U j (k+1)) / V=qd at *
     refine uR ?_;rw[zr5,qT hqB];refine EVL.idx0 tO rfl rfl rfl rfl rfl rfl rfl rfl rfl rfl (j) (oM) oM ?_;refine EVL.set1 tO rfl rfl rfl rfl rfl rfl rfl rfl rfl rfl ((by rw[qV];omega)) ?_;refine uR ?_;refine⟨(j,U',q.set j qd,cx'),⟨?_,trivial⟩,sB,trivial,trivial,?_,⟨by dsimp only;omega,by dsimp only;rw[hal'.1];exact hUl,by dsimp only;rw[List.length_set];exact hql,hfin,hW'⟩,((hG4.trans hG5).trans hG6).trans hG7,by dsimp only;omega⟩
     ·rw[hj,ztW hmp (by omega)];rfl
     ·dsimp only;rw[List.map_set]
theorem zva (b:Nat) (h:b≤4000000000):IntKind.i64.wrap ((IntKind.i64.wrap ((b:Int)+7)).tdiv 8)=(((b+7) / 8:Nat):Int):=by
 rw[show IntKind.i64.wrap ((b:Int)+7)=((b+7:Nat):Int) by rw[pM];omega];exact zeX (b+7) 8 oM
theorem zu9 (b:Nat) (h:b≤4000000000):IntKind.i64.wrap ((IntKind.i64.wrap ((b:Int)+3)).tdiv 4)=(((b+3) / 4:Nat):Int):=by
 rw[show IntKind.i64.wrap ((b:Int)+3)=((b+3:Nat):Int) by rw[pM];omega];exact zeX (b+3) 4 oM
theorem znX {u v:Value} {H:Hp} {a b:Nat} {la lb:List Nat} (hu:SlN n32 H u la) (hv:SlN n32 H v lb) (hla:la.length≤50000000) (hlb:lb.length≤50000000) (hna:zdX B32 la) (hnb:zdX B32 lb) (hva:val B32 la=a) (hvb:val B32 lb=b) (h0:b≠0) :
  PC prog 98 #[u,v] H fun r H'=>∃s t,r=.tuple #[s,t]∧SlN n32 H' s (dig B32 (a / b))∧SlN n32 H' t (dig B32 (a % b)):=by
 by_cases hab:a<b
 ·have hcmp:=zdO hu hv hna hnb oM;rw[hva,hvb,zco hab]at hcmp;rw[Nat.div_eq_of_lt hab,qT hab,zbj,←hva,zjw zam hna];refine BD func98 ntmps98 ?_
  repeat (first|refine RUN ?_|refine CV (hcmp) ?_|refine CE (hcmp) ?_)
  exact⟨_,_,rfl,zsj _ _,hu⟩
 ·by_cases h2:2≤lb.length
  ·exact znY hu hv hla hlb hna hnb hva hvb oM h2
  ·have h1:lb.length=1:=by
    rcases pJ lb.length with e | e
    ·rw[pK.1 e]at hvb;exact absurd hvb.symm h0
    ·omega
   obtain⟨b0,rfl⟩:=List.length_eq_one_iff.1 h1;have hb0:b0=b:=by rw[←hvb];simp[val]
   subst hb0;have hbB:b0<B32:=hnb.1 b0 (by simp);have hcmp:=zdO hu hv hna hnb oM;rw[hva,hvb]at hcmp;have ho:decide (zbv a b0<0)=false:=by unfold zbv;rw[if_neg hab];split <;> rfl
   generalize zbv a b0=oab at *
   have hone:=zp1 hu hna.1 oM b0 (Nat.pos_of_ne_zero h0) hbB;rw[hva]at hone;obtain⟨ab,cb,rfl⟩:=SlC.val hv;refine BD func98 ntmps98 ?_
   repeat (first|refine RUN ?_|refine CV (hcmp) ?_|refine CE (hcmp) ?_)
   rw[ho];refine uR ?_;refine vI (hv) (0) (rfl) (Nat.zero_lt_one) (rfl) ?_;refine uR ?_;refine vA (hone) ?_;rintro r G1 ⟨s,rfl,hs⟩ hG1;refine uR ?_;have hm:a % b0<W64:=w32 (Nat.lt_trans (qo _ (Nat.pos_of_ne_zero h0)) hbB);rw[zcP _ hm];refine vA (zc3 (a % b0) hm G1) ?_;rintro t G2 ht hG2;refine uR ?_;exact⟨s,t,rfl,hs.mono hG2,ht⟩
abbrev RN (H:Hp) (v:Value) (n:Nat):Prop:=SlN n32 H v (dig B32 n)
def rsm (n:Nat):Prop:=bl n≤800000000
theorem zno {n k:Nat} (h:bl n≤32*k):(dig B32 n).length≤k:=by
 apply zca zam;rw[zaS,←Nat.pow_mul];exact zoE.1 h
theorem rsm.len {n:Nat} (h:rsm n):(dig B32 n).length≤25000000:=zno h
theorem rsm.le {n m:Nat} (h:rsm n) (hm:m≤n):rsm m:=qI (zaZ hm) h
theorem zgT {u v:Value} {H:Hp} {a b:Nat} (hu:RN H u a) (hv:RN H v b) (ha:rsm a) (hb:rsm b) (h0:b≠0) :
  PC prog 98 #[u,v] H fun r H'=>∃s t,r=.tuple #[s,t]∧RN H' s (a / b)∧RN H' t (a % b) :=
 znX hu hv (qI ha.len oM) (qI hb.len oM) (zao zam a) (zao zam b) (zaw zam a) (zaw zam b) h0
theorem zp0 {u v:Value} {H:Hp} {a b:Nat} (hu:RN H u a) (hv:RN H v b) (ha:rsm a) (hb:rsm b) :
  PC prog 97 #[u,v] H fun r H'=>RN H' r (Nat.gcd a b):=by
 refine BD func97 ntmps97 ?_;refine uR ?_;refine EV.loopK (ι:=Nat × Nat × Value × Value) [] [] (fun q=>[(0,.v q.2.2.1),(1,.v q.2.2.2)]) (fun _=>[]) (fun _=>[]) (fun q G=>RN G q.2.2.1 q.1∧RN G q.2.2.2 q.2.1∧rsm q.1∧rsm q.2.1∧Nat.gcd q.1 q.2.1=Nat.gcd a b) (fun q=>q.2.1) ((a,b,u,v)) rfl rfl ⟨rfl,rfl,trivial⟩ trivial rfl (fun _=>rfl) (⟨hu,hv,ha,hb,rfl⟩) ?_;rintro⟨x,y,vx,vy⟩ G1 hG1 ⟨hx,hy,hxs,hys,hg⟩;dsimp only at hx hy hxs hys hg;obtain⟨ay,cy,rfl⟩:=SlC.val hy;have hl:(dig B32 y).length=0→y=0:=zaX zam;by_cases h0:y=0
 ·subst h0;rw[zbj]at hy;rw[zbj,Nat.gcd_zero_right]at *
  subst hg;refine uR ?_;exact hx
 ·have hdiv:=zgT hx hy hxs hys h0;have hmod:Nat.gcd y (x % y)=Nat.gcd a b:=by rw[←hg,Nat.gcd_comm y,←Nat.gcd_rec,Nat.gcd_comm]
  have hlt:=qo x (Nat.pos_of_ne_zero h0);generalize hn:(dig B32 y).length=n at *
  have hn0:n≠0:=fun e=>h0 (hl e);refine uR ?_;rw[show decide ((n:Int)>0)=true by simp;omega];refine uR ?_;refine vA (hdiv) ?_;rintro r G2 ⟨s,t,rfl,hs,ht⟩ hG2;refine uR ?_;exact⟨(y,x % y,_,t),⟨rfl,rfl,trivial⟩,trivial,trivial,trivial,rfl,⟨hy.mono hG2,ht,hys,hys.le (Nat.le_of_lt hlt),hmod⟩,hG2,hlt⟩
theorem r4 (i:Nat):IntKind.u64.wrap (IntKind.i64.wrap (8*(i:Int).tmod 4))=((8*(i % 4):Nat):Int):=by
 rw[zaq,pM,Int.tmod_eq_emod_of_nonneg (by omega)];omega
theorem zuG (x p:Nat):IntKind.u8.wrap ((x:Int).fdiv (2 ^ p))=((x / 2 ^ p % 256:Nat):Int):=by rw[zm2,zsy];omega
theorem zlB {v:Value} {H:Hp} {n:Nat} (h:RN H v n) (hn:rsm n):PC prog 163 #[v] H fun r H'=>SlN n8 H' r (zjd n):=by
 have hN:(dig 256 n).length=(bl n+7) / 8:=by have:=zaP 8 n oM;rw[show (2:Nat) ^ 8=256 by decide]at this;rw[this];omega
 have hL:(dig B32 n).length=(bl n+31) / 32:=by have:=zaP 32 n oM;rw[←zaS]at this;rw[this];omega
 have hD:=zl9 n;have hbits:=zhY h (zao zam n) (qI hn.len oM);rw[zaw zam]at hbits;have hsub:=fun i=>zdF (C:=256) (k:=4) (by decide) (by decide) (l:=dig B32 n) (by rw[←zf3];exact hD) i;rw[←zf3,zaw zam]at hsub;have hlt32:=fun i=>hD.getD (by decide) i;have hmap:=fun i=>zbZ (enc:=n32) (l:=dig B32 n) (i:=i);have hoct:=zpE n ((bl n+7) / 8) hN.symm;have hb8:bl n≤800000000:=hn;unfold RN at h;obtain⟨a,cap,rfl⟩:=SlC.val h;generalize hDe:dig B32 n=D at *
 generalize bl n=b at *
 generalize hNe:(b+7) / 8=N at *
 refine BD func163 ntmps163 ?_
 repeat (first|refine RUN ?_|refine CV (hbits) ?_|refine CE (hbits) ?_)
 rw[zva b oM,hNe];refine uR ?_;refine EVL.make tO rfl rfl rfl rfl rfl rfl rfl rfl rfl (N) (rfl) oM (by rfl) (by rfl) fun g=>?_;refine uR ?_
 have e0:(List.replicate N (Tryz.te5.zero)).flatten=(List.replicate N 0).map n8:=by
  rw[List.map_replicate,show (Tryz.te5.zero)=[n8 0] from rfl];simp
 rw[e0];refine EV.loopK (ι:=Nat × List Nat) [0,3,4] [] (fun q=>[(5,.v (.int .i64 (q.1:Int)))]) (fun _=>[]) (fun q=>[(g,5,q.2.map n8)]) (fun q G=>q.1≤N∧q.2.length=N∧(∀j,j<q.1→q.2.getD (N-1-j) 0=n / 256 ^ j % 256)) (fun q=>N-q.1) ((0,List.replicate N 0)) rfl rfl ⟨rfl,trivial⟩ trivial rfl (fun _=>rfl) (⟨qQ _,by simp,fun j hj=>absurd hj (Nat.not_lt_zero _)⟩) ?_;rintro⟨i,cur⟩ G1 hG1 ⟨hi,hlen,hcs⟩;dsimp only at hi hlen hcs;refine uR ?_;refine EV.cond rfl (fun hlt=>?_) (fun hlt=>?_)
 ·simp only[nN]at hlt;have hil:i / 4<D.length:=oM;refine uR ?_;refine EVL.idxR tO rfl rfl rfl rfl rfl rfl rfl rfl rfl rfl (h.mono hG1) (i / 4) (zeX i 4 oM) (hil) (hmap _ hil) ?_;refine uR ?_;refine EVL.shrI rfl rfl rfl rfl rfl rfl (r4 i) ((show 8*(i % 4)≤32 by omega)) ?_;refine uR ?_;rw[zuG,Nat.pow_mul,show (2:Nat) ^ 8=256 by decide,hsub i];refine EVL.idx0 tO rfl rfl rfl rfl rfl rfl rfl rfl rfl rfl (N-1-i) (zt0 N i hlt oM) oM ?_;refine EVL.set1 tO rfl rfl rfl rfl rfl rfl rfl rfl rfl rfl ((by rw[qV];dsimp only;omega)) ?_;refine uR ?_;refine⟨(i+1,cur.set (N-1-i) (n / 256 ^ i % 256)),⟨?_,trivial⟩,sB,trivial,trivial,?_,⟨by dsimp only;omega,by dsimp only;rw[List.length_set];exact hlen,fun j hj=>?_⟩,Hp.Le.refl _,by dsimp only;omega⟩
  ·rw[zad i (by omega)];rfl
  ·dsimp only;rw[List.map_set]
  ·dsimp only at hj ⊢;by_cases e:j=i
   ·subst e;rw[zbn _ _ _ (by omega)]
   ·rw[getD_set_ne _ _ _ _ (by omega)];exact hcs j oM
 ·simp only[nN]at hlt;obtain rfl:i=N:=oM;have ho:=hoct cur hlen hcs;subst ho;(first|refine EVL.publish [] [] rfl fun G2 hG2 hg=>?_|refine EV.publish [] [] rfl fun G2 hG2 hg=>?_);refine uR ?_;exact zkl hg hlen
theorem zto {K B:Nat} (hK:0<K) (m k:Nat) (r:List Nat) (h:k+1+r.length≤K*m):∃e,(pk K B (List.replicate (k+1) 0++r) m).getD (k / K) 0=e*B ^ (k % K+1):=by
 have hkm:k / K<m:=Nat.div_lt_of_lt_mul oM;have hk2:=qm k K;have hk3:=qo k hK;rw[ziM _ _ _ _ _ hkm,List.drop_append_of_le_length (by simp;omega),List.drop_replicate,show k+1-K*(k / K)=k % K+1 by omega,List.take_append,List.length_replicate,qO (by simp;omega),zbh,zbo,List.length_replicate,qv];exact⟨_,qW _ _⟩
theorem zur {e x p:Nat} (hx:x<256) (h:e*2 ^ (p+8)+x*2 ^ p<B32) :
  IntKind.u32.wrap (((BitVec.ofInt IntKind.u32.bits ((e*2 ^ (p+8):Nat):Int) ||| BitVec.ofInt IntKind.u32.bits ((x*2 ^ p:Nat):Int)).toNat:Nat):Int)=((e*2 ^ (p+8)+x*2 ^ p:Nat):Int):=by
 rw[zau]at h;refine(u32_or_nat _ _ oM oM).trans ?_;rw[Nat.or_comm,zdh _ _ (p+8) (2 ^ (p+8)) rfl (by rw[Nat.pow_add,qW];exact Nat.mul_lt_mul_of_pos_left hx (Nat.two_pow_pos p)),Nat.add_comm]
theorem znZ {v:Value} {l:List Nat} {H:Hp} (h:SlN n8 H v l) (hD:Dig 256 l) (hl:l.length≤200000000):PC prog 177 #[v] H fun r H'=>RN H' r (val 256 l.reverse):=by
 obtain⟨a,cap,rfl⟩:=SlC.val h;obtain⟨m,hm⟩:∃m,m=(l.length+3) / 4:=⟨_,rfl⟩;have hpd:=fun i=>zhU (K:=4) (B:=256) (by decide) (Dig.append (Dig.zeros (by decide) (l.length-i)) (hD.take i).rev) m;refine BD func177 ntmps177 ?_;refine uR ?_;refine EVL.make tO rfl rfl rfl rfl rfl rfl rfl rfl rfl (m) ((by rw[hm];exact zu9 _ oM)) oM (by rfl) (by rfl) fun g=>?_;refine uR ?_;rw[zja,←zmC 4 256 m]
 have e0:pk 4 256 [] m=pk 4 256 (List.replicate (l.length-0) 0++(l.take 0).reverse) m:=by
  refine zfO (B:=256 ^ 4) (by decide) (zhU (by decide) (Dig.nil _) m) (hpd 0) (by rw[zaA,zaA]) ?_;rw[zhV 4 256 (by decide) m _ (qQ _),zhV 4 256 (by decide) m _ (by simp;omega)];simp[zbo,val]
 rw[e0];refine EV.loopK (ι:=Nat) [0,3] [] (fun i=>[(4,.v (.int .i64 (i:Int)))]) (fun _=>[]) (fun i=>[(g,174,(pk 4 256 (List.replicate (l.length-i) 0++(l.take i).reverse) m).map n32)]) (fun i G=>i≤l.length) (fun i=>l.length-i) (0) rfl rfl ⟨rfl,trivial⟩ trivial rfl (fun _=>rfl) (qQ _) ?_;rintro i G1 hG1 hi;refine uR ?_;refine EV.cond rfl (fun hlt=>?_) (fun hlt=>?_)
 ·simp only[nN]at hlt;obtain⟨k,hk⟩:∃k,k=l.length-1-i:=⟨_,rfl⟩;have hk1:l.length-i=k+1:=oM;have hkm:k / 4<m:=oM;have hx:l.getD i 0<256:=hD.getD (by decide) i;have hxs:=zbZ (enc:=n8) hlt;have hrl:(l.take i).reverse.length=i:=by rw[List.length_reverse,qP];omega
  obtain⟨e,he⟩:=zto (K:=4) (B:=256) (by decide) m k (l.take i).reverse (by rw[hrl];omega);have hfst:=zj3 (K:=4) (B:=256) (by decide) (by decide) m k (l.getD i 0) (l.take i).reverse hx (hD.take i).rev (by rw[hrl];omega);have hcur:=zbZ (enc:=n32) (l:=pk 4 256 (List.replicate (k+1) 0++(l.take i).reverse) m) (i:=k / 4) (by rw[zaA];exact hkm);have hpd1:=hpd (i+1)
  have hnext:List.replicate (l.length-(i+1)) 0++(l.take (i+1)).reverse=List.replicate k 0++l.getD i 0::(l.take i).reverse:=by
   rw[show l.length-(i+1)=k by omega,qS hlt,List.reverse_append,qB,qA hlt];rfl
  rw[hnext,hfst]at hpd1
  have hsum:(pk 4 256 (List.replicate (k+1) 0++(l.take i).reverse) m).getD (k / 4) 0+l.getD i 0*256 ^ (k % 4)<B32:=by
   have:=hpd1.getD (by decide) (k / 4);rw[zbn _ _ _ (by rw[zaA];exact hkm)]at this;rw[zf3];exact this
  rw[hk1];generalize hcu:pk 4 256 (List.replicate (k+1) 0++(l.take i).reverse) m=cur at *
  have hcl:cur.length=m:=by rw[←hcu,zaA]
  refine uR ?_;rw[zt0 _ _ hlt oM,←hk];refine uR ?_;apply EV.drawn 19 kR kR;intro xv yw;(repeat refine' DD ?_);refine' DJ.ofVal (zab.idxP1 tO rfl rfl rfl rfl rfl rfl rfl rfl (k / 4) (zeX k 4 oM) (hkm)) rfl rfl rfl ?_;rotate_left;refine' DJ.ofVal (zab.load1 tO rfl rfl rfl rfl rfl rfl (0) rfl (hcur)) rfl rfl rfl ?_;rotate_left;(repeat refine' DD ?_);refine' vJ (h.mono hG1) (i) (rfl) (hlt) (hxs) ?_;rotate_left;(repeat refine' DD ?_);refine' DJ.ofVal (zab.shl rfl rfl rfl rfl ((by rw[r4];omega))) rfl rfl rfl ?_;rotate_left;(repeat refine' DD ?_);(refine DJ.nil (fun G2 hG2 hF2=>?_);(case hS|hS2=>rfl));rw[r4,qU];rw[show IntKind.u32.wrap ((l.getD i 0:Nat):Int)=((l.getD i 0:Nat):Int) by rw[zr5,qT (Nat.lt_trans hx (by decide))]];rw[show min (8*(k % 4)) IntKind.u32.bits=8*(k % 4) from qp (by show 8*(k % 4)≤32;omega)];have e1:(256:Nat) ^ (k % 4)=2 ^ (8*(k % 4)):=by rw[Nat.pow_mul]
  have e2:(256:Nat) ^ (k % 4+1)=2 ^ (8*(k % 4)+8):=by rw[show 8*(k % 4)+8=8*(k % 4+1) by omega,Nat.pow_mul]
  rw[e1]at hsum hfst;rw[e2]at he
  have hsh:IntKind.u32.wrap (((l.getD i 0:Nat):Int)*2 ^ (8*(k % 4)))=((l.getD i 0*2 ^ (8*(k % 4)):Nat):Int):=by
   rw[zgb,←Int.natCast_mul,zr5,qT (Nat.lt_of_le_of_lt (Nat.le_add_left _ _) hsum)]
  rw[hsh];have hor:=zur (e:=e) hx (by rw[←he];exact hsum);rw[←he]at hor;rw[hor];refine EVL.idx0 tO rfl rfl rfl rfl rfl rfl rfl rfl rfl rfl (k / 4) (zeX k 4 oM) (hkm) ?_;refine EVL.set1 tO rfl rfl rfl rfl rfl rfl rfl rfl rfl rfl ((by rw[qV,hcl];exact hkm)) ?_;refine uR ?_;refine⟨i+1,⟨?_,trivial⟩,sB,trivial,trivial,?_,by omega,hG2,by omega⟩
  ·rw[zad i (by omega)];rfl
  ·rw[hnext,hfst,List.map_set]
 ·simp only[nN]at hlt;obtain rfl:i=l.length:=oM;refine uR ?_;(first|refine EVL.publish [] [] rfl fun G2 hG2 hg=>?_|refine EV.publish [] [] rfl fun G2 hG2 hg=>?_)
  have hv:val B32 (pk 4 256 (List.replicate (l.length-l.length) 0++(l.take l.length).reverse) m)=val 256 l.reverse:=by
   rw[zf3,zhV 4 256 (by decide) m _ (by simp;omega),Nat.sub_self,qb];rfl
  have ht:=zbR (zkl (enc:=n32) hg (zaA _ _ _ _)) (by rw[zf3];exact hpd _) (by rw[zaA];omega) hv;refine vA (ht) ?_;rintro r H' hr hle;refine uR ?_;exact hr
def sg (b:Bool) (n:Nat):Int:=if b then -(n:Int) else n
abbrev zd9 (z:Int):Value:=.agg #[.bool (decide (z<0)),.int .u64 (lo z.natAbs:Int),.string (zal z.natAbs)]
abbrev ze3 (z:Int):Prop:=big z.natAbs
theorem zm9 (n:Nat):(0<bl n)↔n≠0:=by
 constructor
 ·intro h e;subst e;rw[zbA]at h;omega
 ·exact zl0
theorem zuc (n:Nat):decide ((bl n:Int)>0)=decide (n≠0):=by rw[decide_eq_decide,←zm9];omega
theorem zqa (b:Bool) (n:Nat):(sg b n).natAbs=n:=by unfold sg;cases b <;> simp
theorem zsr (z:Int):sg (decide (z<0)) z.natAbs=z:=by
 unfold sg;by_cases h:z<0
 ·rw[qD h,if_pos rfl];omega
 ·rw[qC h,if_neg (by simp)];omega
theorem zs5 (b:Bool) (n:Nat):zd9 (sg b n)=.agg #[.bool (b && decide (n≠0)),.int .u64 (lo n:Int),.string (zal n)]:=by
 unfold sg;cases b
 ·simp
 ·have:(-(n:Int)).natAbs=n:=oM;simp only[if_true,zd9,this,Bool.true_and];have e:decide (-(n:Int)<0)=decide (n≠0):=by by_cases h:n=0 <;> simp[h];omega
  rw[e]
theorem zbm (b:Bool) (n:Nat) (hn:big n):PV prog 73 #[.bool b,zaD n] (zd9 (sg b n)):=by
 rw[zs5];refine PV.of_pc ?_;refine BD func73 ntmps73 ?_;cases b
 ·try refine uR ?_
  (apply EV.drawn 8 kR kR;intro xv yw;(repeat (first|refine' DD ?_));refine DJ.nil (fun G hG hF=>?_);(case hS|hS2=>rfl));refine uR ?_;rfl
 ·try refine uR ?_
  (apply EV.drawn 8 kR kR;intro xv yw;(repeat (first|refine' DD ?_|(refine' DC (zbc _ hn) (h:=?_);rotate_left)));refine DJ.nil (fun G hG hF=>?_);(case hS|hS2=>rfl));refine uR ?_;rw[zuc];rfl
theorem zbU (z:Int):PV prog 74 #[zd9 z] (zaD z.natAbs):=by
 refine PV.of_pc ?_;refine BD func74 ntmps74 ?_;refine uR ?_;rfl
theorem zeo (z:Int) (hz:ze3 z):PV prog 153 #[zd9 z] (zd9 (-z)):=by
 have e:sg (!decide (z<0)) z.natAbs = -z:=by
  unfold sg;by_cases h:z<0
  ·simp only[h,decide_true,Bool.not_true,Bool.false_eq_true,if_false];omega
  ·simp only[h,decide_false,Bool.not_false,if_true];omega
 have hf:=zbm (!decide (z<0)) z.natAbs hz;rw[e]at hf;refine PV.of_pc ?_;refine BD func153 ntmps153 ?_
 repeat (first|refine RUN ?_|refine CV (hf) ?_|refine CE (hf) ?_)
 rfl
theorem zba (z:Int) (hz:ze3 z):PV prog 67 #[zd9 z] (.int .i64 z.sign):=by
 refine PV.of_pc ?_;refine BD func67 ntmps67 ?_;refine uR ?_;by_cases h:z<0
 ·rw[qD h];refine uR ?_;rw[Int.sign_eq_neg_one_of_neg h]
 ·rw[qC h]
  repeat (first|refine RUN ?_|refine CV (zbc _ hz) ?_|refine CE (zbc _ hz) ?_)
  rw[zuc];by_cases h0:z=0
  ·subst h0;rw[show decide ((0:Int).natAbs≠0)=false from rfl];refine uR ?_;rfl
  ·rw[show decide (z.natAbs≠0)=true by simp;omega];refine uR ?_;rw[Int.sign_eq_one_of_pos (by omega)]
theorem zhf (a b:Int) (ha:ze3 a) (hb:ze3 b):PV prog 87 #[zd9 a,zd9 b] (.int .i64 (zgK a b)):=by
 refine PV.of_pc ?_;refine BD func87 ntmps87 ?_;refine uR ?_;by_cases h:a<0
 ·rw[qD h];refine uR ?_;by_cases h':b<0
  ·rw[qD h']
   repeat (first|refine RUN ?_|refine CV (zaL _ _ hb ha) ?_|refine CE (zaL _ _ hb ha) ?_)
   have e:zbv b.natAbs a.natAbs=zgK a b:=by unfold zbv zgK;repeat' split <;> omega
   rw[e]
  ·rw[qC h'];refine uR ?_;rw[show zgK a b = -1 by unfold zgK;rw[if_pos (by omega)]]
 ·rw[qC h];refine uR ?_;by_cases h':b<0
  ·rw[qD h'];refine uR ?_;rw[show zgK a b=1 by unfold zgK;rw[if_neg oM,if_pos (by omega)]]
  ·rw[qC h']
   repeat (first|refine RUN ?_|refine CV (zaL _ _ ha hb) ?_|refine CE (zaL _ _ ha hb) ?_)
   have e:zbv a.natAbs b.natAbs=zgK a b:=by unfold zbv zgK;repeat' split <;> omega
   rw[e]
theorem zdT (z:Int) (h1:-9223372036854775808≤z) (h2:z<9223372036854775808):PV prog 84 #[.int .i64 z] (zd9 z):=by
 refine PV.of_pc ?_;refine BD func84 ntmps84 ?_;refine uR ?_;have hn:z.natAbs<W64:=by rw[zaj];omega
 by_cases h:z<0
 ·rw[qD h];refine uR ?_;rw[show IntKind.u64.wrap (0-IntKind.u64.wrap z)=(z.natAbs:Int) by rw[zaq,zaq];omega]
  repeat (first|refine RUN ?_|refine CV (zcw z.natAbs hn) ?_|refine CE (zcw z.natAbs hn) ?_)
  simp only[zd9,qD h]
 ·rw[qC h];refine uR ?_;rw[show IntKind.u64.wrap z=(z.natAbs:Int) by rw[zaq];omega]
  repeat (first|refine RUN ?_|refine CV (zcw z.natAbs hn) ?_|refine CE (zcw z.natAbs hn) ?_)
  simp only[zd9,qC h]
def RI (H:Hp) (v:Value) (z:Int):Prop:=∃a l cap,v=.agg #[.bool (decide (z<0)),.slice a l cap]∧RN H (.slice a l cap) z.natAbs
theorem RI.mono {H G:Hp} {v:Value} {z:Int} (h:RI H v z) (k:H.Le G):RI G v z:=by
 obtain⟨a,l,c,e,hs⟩:=h;exact⟨a,l,c,e,SlN.mono hs k⟩
theorem RN.mono {H G:Hp} {v:Value} {n:Nat} (h:RN H v n) (k:H.Le G):RN G v n:=SlN.mono h k
theorem zu4 (b:Bool) (n:Nat):decide (sg b n<0)=(b && decide (n≠0)):=by
 unfold sg;cases b
 ·simp
 ·simp only[if_true,Bool.true_and,decide_eq_decide];omega
theorem RI.of {H:Hp} {s:Value} {b:Bool} {n:Nat} (h:RN H s n):RI H (.agg #[.bool (b && decide (n≠0)),s]) (sg b n):=by
 obtain⟨a,c,rfl⟩:=SlC.val h;exact⟨a,_,c,by rw[zu4],by rw[zqa];exact h⟩
theorem zgU {H:Hp} (b:Bool) {s:Value} {n:Nat} (h:RN H s n):PC prog 99 #[.bool b,s] H fun r H'=>RI H' r (sg b n):=by
 have hof:=RI.of (b:=b) h;have hz:(dig B32 n).length=0↔n=0:=⟨zaX zam,fun e=>by rw[e,zbj];rfl⟩;unfold RN at h;obtain⟨a,cap,rfl⟩:=SlC.val h;generalize (dig B32 n).length=l at *
 have hd:decide ((l:Int)>0)=decide (n≠0):=by rw[decide_eq_decide];omega
 refine BD func99 ntmps99 ?_;cases b
 ·try refine uR ?_
  exact hof
 ·try refine uR ?_
  rw[hd];exact hof
theorem zeh {H:Hp} (z:Int) (h1:-9223372036854775808≤z) (h2:z<9223372036854775808):PC prog 42 #[.int .i64 z] H fun r H'=>RI H' r z:=by
 refine BD func42 ntmps42 ?_;refine uR ?_;by_cases hz:z<0
 ·rw[qD hz];refine uR ?_;rw[show IntKind.u64.wrap (0-IntKind.u64.wrap z)=((z.natAbs:Nat):Int) by rw[zaq,zaq];omega];refine vA (zc3 z.natAbs (by rw[zaj];omega) H) ?_;rintro r G hr hG;refine uR ?_;refine vA (zgU true hr) ?_;rintro r2 G2 ⟨ta,tl,tc,rfl,ht⟩ hG2;refine uR ?_;refine⟨ta,tl,tc,?_,?_⟩
  ·rw[show sg true z.natAbs=z by unfold sg;simp;omega]
  ·rw[show sg true z.natAbs=z by unfold sg;simp;omega]at ht;exact ht
 ·rw[qC hz];refine uR ?_;rw[show IntKind.u64.wrap z=((z.natAbs:Nat):Int) by rw[zaq];omega];refine vA (zc3 z.natAbs (by rw[zaj];omega) H) ?_;rintro r G hr hG;refine uR ?_;refine vA (zgU false hr) ?_;rintro r2 G2 ⟨ta,tl,tc,rfl,ht⟩ hG2;refine uR ?_;refine⟨ta,tl,tc,?_,?_⟩
  ·rw[show sg false z.natAbs=z by unfold sg;simp;omega]
  ·rw[show sg false z.natAbs=z by unfold sg;simp;omega]at ht;exact ht
theorem zuz (a b:Int):sg (!(decide (a<0) == decide (b<0))) (a.natAbs*b.natAbs)=a*b:=by
 rw[←Int.natAbs_mul];unfold sg;by_cases ha:a<0 <;> by_cases hb:b<0
 ·have:=Int.mul_pos_of_neg_of_neg ha hb;simp[ha,hb];omega
 ·have:=Int.mul_nonpos_of_nonpos_of_nonneg (Int.le_of_lt ha) (Int.not_lt.1 hb);simp[ha,hb];omega
 ·have:=Int.mul_nonpos_of_nonneg_of_nonpos (Int.not_lt.1 ha) (Int.le_of_lt hb);simp[ha,hb];omega
 ·have:=Int.mul_nonneg (Int.not_lt.1 ha) (Int.not_lt.1 hb);simp[ha,hb];omega
theorem zhg (a b:Int) (ha:ze3 a) (hb:ze3 b) (hab:ze3 (a*b)):PV prog 88 #[zd9 a,zd9 b] (zd9 (a*b)):=by
 have hf:=zbm (!(decide (a<0) == decide (b<0))) (a.natAbs*b.natAbs) (by rw[←Int.natAbs_mul];exact hab);rw[zuz]at hf;refine PV.of_pc ?_;refine BD func88 ntmps88 ?_;refine uR ?_;apply EV.drawn 10 kR kR;intro xv yw;(repeat refine' DD ?_);refine' DJ.ofVal (zab.neb rfl rfl rfl rfl kR) rfl rfl rfl ?_;rotate_left;(repeat (first|refine' DD ?_|(refine' DC (zgF _ _ ha hb) (h:=?_);rotate_left)));(refine DJ.nil (fun G hG hF=>?_);(case hS|hS2=>rfl))
 repeat (first|refine RUN ?_|refine CV (hf) ?_|refine CE (hf) ?_)
 rfl
theorem zhe (a b:Int) (ha:ze3 a) (hb:ze3 b) (hs:big (a.natAbs+b.natAbs)):PV prog 76 #[zd9 a,zd9 b] (zd9 (a+b)):=by
 have hm:big (a.natAbs-b.natAbs):=qI (zaZ (Nat.sub_le _ _)) ha;have hm':big (b.natAbs-a.natAbs):=qI (zaZ (Nat.sub_le _ _)) hb;have f1:=zbm (decide (a<0)) _ hs;have f2:=zbm (decide (a<0)) _ hm;have f3:=zbm (decide (b<0)) _ hm';refine PV.of_pc ?_;refine BD func76 ntmps76 ?_;refine uR ?_;refine EVL.eqb rfl rfl rfl rfl rfl rfl kR ?_;refine uR ?_;by_cases h:decide (a<0)=decide (b<0)
 ·have e:sg (decide (a<0)) (a.natAbs+b.natAbs)=a+b:=by
   rw[decide_eq_decide]at h;unfold sg;by_cases ha:a<0 <;> simp[ha] <;> omega
  rw[e]at f1;rw[beq_iff_eq.2 h];refine uR ?_;apply EV.drawn 8 kR kR;intro xv yw;(repeat (first|refine' DD ?_|(refine' DC (zpA _ _ ha hb) (h:=?_);rotate_left)|(refine' DC (f1) (h:=?_);rotate_left)));(refine DJ.nil (fun G hG hF=>?_);(case hS|hS2=>rfl));refine uR ?_;rfl
 ·rw[pR.2 h];rw[decide_eq_decide]at h
  repeat (first|refine RUN ?_|refine CV (zeM _ _ ha hb) ?_|refine CE (zeM _ _ ha hb) ?_)
  by_cases hle:b.natAbs≤a.natAbs
  ·have e:sg (decide (a<0)) (a.natAbs-b.natAbs)=a+b:=by
    unfold sg;by_cases ha:a<0 <;> simp[ha] <;> omega
   rw[e]at f2;rw[qD hle]
   repeat (first|refine RUN ?_|refine CV (f2) ?_|refine CE (f2) ?_)
   rfl
  ·have e:sg (decide (b<0)) (b.natAbs-a.natAbs)=a+b:=by
    unfold sg;by_cases ha:b<0 <;> simp[ha] <;> omega
   rw[e]at f3;rw[qC hle]
   repeat (first|refine RUN ?_|refine CV (zeM _ _ hb ha) ?_|refine CV (f3) ?_|refine CE (zeM _ _ hb ha) ?_|refine CE (f3) ?_)
   rfl
def RQ (H:Hp) (v:Value) (q:Rat):Prop:=∃a l c a' l' c',v=.agg #[.bool (decide (q.num<0)),.slice a l c,.slice a' l' c']∧RN H (.slice a l c) q.num.natAbs∧RN H (.slice a' l' c') q.den
theorem RQ.mono {H G:Hp} {v:Value} {q:Rat} (h:RQ H v q) (k:H.Le G):RQ G v q:=by
 obtain⟨a,l,c,a',l',c',e,h1,h2⟩:=h;exact⟨a,l,c,a',l',c',e,RN.mono h1 k,RN.mono h2 k⟩
def rq (q:Rat):Prop:=ht q≤100000000
theorem rq.num {q:Rat} (h:rq q):rsm q.num.natAbs:=qI (zcj q) (qI h oM)
theorem rq.den {q:Rat} (h:rq q):rsm q.den:=qI (zci q) (qI h oM)
theorem zjy (n d:Int) (h:d≠0):Rat.divInt n d=mkRat (if d<0 then -n else n) d.natAbs:=by
 cases d with
 | ofNat m =>
  rw[if_neg (show ¬Int.ofNat m<0 from Int.not_lt.2 (Int.natCast_nonneg m))];rfl
 | negSucc m =>
  rw[if_pos (by omega)];show Rat.normalize (-n) (m+1) (Nat.succ_ne_zero m)=_;rw[Rat.normalize_eq_mkRat];rfl
theorem ztd (n d:Int) (h:d≠0):(Rat.divInt n d).num=sg (!(decide (n<0) == decide (d<0))) (n.natAbs / Nat.gcd n.natAbs d.natAbs)∧(Rat.divInt n d).den=d.natAbs / Nat.gcd n.natAbs d.natAbs:=by
 rw[zjy n d h];obtain⟨h1,h2⟩:=zdM (if d<0 then -n else n) d.natAbs oM;have e:(if d<0 then -n else n).natAbs=n.natAbs:=by split <;> simp
 rw[e]at h1 h2;refine⟨?_,h2⟩;rw[h1,zpR _ _ (by rw[e];exact Nat.gcd_dvd_left _ _),e];unfold sg;rcases Int.lt_trichotomy n 0 with hn | hn | hn
 ·by_cases hd:d<0
  ·rw[if_pos hd,if_neg oM,qD hn,qD hd];rfl
  ·rw[if_neg hd,if_pos hn,qD hn,qC hd];rfl
 ·subst hn;by_cases hd:d<0 <;> simp[hd]
 ·by_cases hd:d<0
  ·rw[if_pos hd,if_pos oM,qC oM,qD hd];rfl
  ·rw[if_neg hd,if_neg oM,qC oM,qC hd];rfl
theorem zn0 {H:Hp} {u v:Value} {n d:Int} (hu:RI H u n) (hv:RI H v d) (hn:rsm n.natAbs) (hd:rsm d.natAbs) (h0:d≠0):PC prog 39 #[u,v] H fun r H'=>RQ H' r (Rat.divInt n d):=by
 obtain⟨sa,sl,sc,rfl,hs⟩:=id hu;obtain⟨ta,tl,tc,rfl,ht⟩:=id hv;obtain⟨e1,e2⟩:=ztd n d h0;have hg:Nat.gcd n.natAbs d.natAbs≠0:=fun e=>h0 (by have:=Nat.eq_zero_of_gcd_eq_zero_right e;omega);have hgs:rsm (Nat.gcd n.natAbs d.natAbs):=hd.le (Nat.gcd_le_right _ oM);refine BD func39 ntmps39 ?_;refine uR ?_;refine vA (zp0 hs ht hn hd) ?_;rintro g G1 hg1 hG1;generalize Nat.gcd n.natAbs d.natAbs=gg at *
 refine uR ?_;refine vA (zgT (RN.mono hs hG1) hg1 hn hgs hg) ?_;rintro r G2 ⟨x,y,rfl,hx,hy⟩ hG2;refine uR ?_;refine vA (zgT (RN.mono ht (hG1.trans hG2)) (RN.mono hg1 hG2) hd hgs hg) ?_;rintro r G3 ⟨x',y',rfl,hx',hy'⟩ hG3;refine uR ?_;refine EVL.neb rfl rfl rfl rfl rfl rfl kR ?_;refine uR ?_;refine vA (zgU (!(decide (n<0) == decide (d<0))) (RN.mono hx hG3)) ?_;rintro r G4 ⟨ra,rl,rc,rfl,hr⟩ hG4;obtain⟨xa,xc,rfl⟩:=SlC.val hx';refine uR ?_;rw[←e1]at *
 rw[←e2]at *
 exact⟨ra,rl,rc,xa,_,xc,rfl,hr,RN.mono hx' hG4⟩
theorem zfR {H:Hp} (z:Int) (h1:-9223372036854775808≤z) (h2:z<9223372036854775808):PC prog 11 #[.int .i64 z] H fun r H'=>RQ H' r (z:Rat):=by
 refine BD func11 ntmps11 ?_;refine uR ?_;refine vA (zeh z h1 h2) ?_;rintro r G ⟨ra,rl,rc,rfl,hr⟩ hG;refine uR ?_;refine vA (zc3 1 (by decide) G) ?_;rintro s G2 hs hG2;obtain⟨xa,xc,rfl⟩:=SlC.val hs;refine uR ?_;exact⟨ra,rl,rc,xa,_,xc,rfl,RN.mono hr hG2,hs⟩
theorem zdP {H:Hp} (n d:Int) (h1:-9223372036854775808≤n) (h2:n<9223372036854775808) (h3:-9223372036854775808≤d) (h4:d<9223372036854775808) (h0:d≠0):PC prog 36 #[.int .i64 n,.int .i64 d] H fun r H'=>RQ H' r (Rat.divInt n d):=by
 have hb:∀z:Int,-9223372036854775808≤z→z<9223372036854775808→rsm z.natAbs:=fun z h1 h2=>qI (zaU (k:=64) oM) oM;refine BD func36 ntmps36 ?_;refine uR ?_;refine vA (zeh n h1 h2) ?_;rintro r G hr hG;refine uR ?_;refine vA (zeh d h3 h4) ?_;rintro s G2 hs hG2;refine uR ?_;refine vA (zn0 (hr.mono hG2) hs (hb n h1 h2) (hb d h3 h4) h0) ?_;rintro t G3 ⟨ra,rl,rc,xa,xl,xc,rfl,hn,hd⟩ hG3;refine uR ?_;exact⟨ra,rl,rc,xa,xl,xc,rfl,hn,hd⟩
theorem RQ.rnum {H:Hp} {a:Option Addr} {l c:Nat} {q:Rat} (h:RN H (.slice a l c) q.num.natAbs):RI H (.agg #[.bool (decide (q.num<0)),.slice a l c]) q.num:=⟨a,l,c,rfl,h⟩
theorem zpZ {H:Hp} {u:Value} {a:Rat} (hu:RQ H u a):PC prog 96 #[u] H fun r H'=>RQ H' r (if a.num<0 then -a else a):=by
 obtain⟨sa,sl,sc,ta,tl,tc,rfl,hs,ht⟩:=id hu
 have e:sg false a.num.natAbs=(if a.num<0 then -a else a).num:=by
  show ((a.num.natAbs:Nat):Int)=_;split
  ·rw[Rat.neg_num];omega
  ·omega
 have e2:(if a.num<0 then -a else a).den=a.den:=by split <;> simp
 refine BD func96 ntmps96 ?_;refine uR ?_;apply EV.drawn 6 kR kR;intro xv yw;(repeat refine' DD ?_);refine' vB (cO func99) (fun G hG hd=>zgU false (RN.mono hs hG)) (fun _ _ _ h k=>RI.mono h k) ?_;rotate_left;(repeat refine' DD ?_);(refine DJ.nil (fun G hG hF=>?_);(case hS|hS2=>rfl));obtain⟨⟨ra,rl,rc,hr,h1⟩,_⟩:=hF;rw[hr];refine uR ?_;rw[e]at *
 exact⟨ra,rl,rc,ta,tl,tc,rfl,h1,by rw[e2];exact RN.mono ht hG⟩
def Wn (cs:List Value) (off:Nat) (l:List Nat):Prop:=off+l.length≤cs.length∧∀j,j<l.length→cs[off+j]?=some (n64 (l.getD j 0))
theorem Wn.of (l:List Nat):Wn (l.map n64) 0 l:=⟨by simp,fun j hj=>by rw[qv];exact zbZ hj⟩
theorem Wn.take {cs:List Value} {off:Nat} {l:List Nat} (h:Wn cs off l) (k:Nat):Wn cs off (l.take k):=by
 refine⟨by have:=h.1;rw[qP];omega,fun j hj=>?_⟩;rw[qP]at hj;rw[h.2 j oM,za6,if_pos (by omega)]
theorem Wn.drop {cs:List Value} {off:Nat} {l:List Nat} (h:Wn cs off l) (k:Nat) (hk:k≤l.length):Wn cs (off+k) (l.drop k):=by
 refine⟨by have:=h.1;rw[qu];omega,fun j hj=>?_⟩;rw[qu]at hj;rw[Nat.add_assoc,h.2 (k+j) oM,zbY]
theorem Wn.set {cs:List Value} {off:Nat} {l:List Nat} (h:Wn cs off l) (k x:Nat) (hk:k<l.length):Wn (cs.set (off+k) (n64 x)) off (l.set k x):=by
 refine⟨by rw[List.length_set,List.length_set];exact h.1,fun j hj=>?_⟩;rw[List.length_set]at hj;by_cases e:k=j
 ·subst e;rw[List.getElem?_set_self (by have:=h.1;omega),zbn _ _ _ hk]
 ·rw[List.getElem?_set_ne oM,getD_set_ne _ _ _ _ (Ne.symm e)];exact h.2 j hj
theorem ztI (b off n cap:Nat) (hc:cap≠0):Value.slice (if cap=0 then some ⟨b,off,none⟩ else (some (⟨b,off,none⟩:Addr)).map (·.add (0*1))) (n-0) (cap-0)=.slice (some ⟨b,off,none⟩) n cap:=by
 rw[if_neg hc];simp[Addr.add_mid]
theorem ztJ (b off k m cap:Nat) (hc:k<cap):Value.slice (if cap=k then some ⟨b,off,none⟩ else (some (⟨b,off,none⟩:Addr)).map (·.add (k*1))) (m-k) (cap-k)=.slice (some ⟨b,off+k,none⟩) (m-k) (cap-k):=by
 rw[if_neg (by omega)];simp[Addr.add_mid]
theorem zm1 {H:Hp} {b off cap:Nat} {T:TypeId} {cs:List Value} {l:List Nat} (hw:Wn cs off l) (hc:l.length≤cap) (hl:l.length≤1000000000) :
  PW prog 220 #[.slice (some ⟨b,off,none⟩) l.length cap] H [(b,T,cs)] fun v ow _=>ow=[(b,T,cs)]∧v=.slice (some ⟨b,off,none⟩) (zaG l).length cap:=by
 refine PW.body tO func220 rfl kR ntmps220 rfl rfl ?_;refine uR ?_
 refine EV.loop (ι:=Nat) (fun n=>[(0,.v (.slice (some ⟨b,off,none⟩) n cap))]) (fun _=>[]) (fun _=>[(b,T,cs)])
  (fun n _=>n≤l.length∧zaG (l.take n)=zaG l) (fun n=>n) l.length ⟨rfl,trivial⟩ trivial rfl (fun _=>rfl) ⟨qH _,by rw[qb]⟩ ?_
 rintro n G hG ⟨hn,ht⟩;have fin:zaG (l.take n)=l.take n→(zaG l).length=n:=fun e=>by rw[←ht,e,qP];omega
 refine uR ?_;by_cases h0:n=0
 ·subst h0;rw[show decide (((0:Nat):Int)>0)=false from rfl];refine uR ?_;rw[fin (by simp[zaG])];exact⟨rfl,rfl⟩
 ·rw[show decide ((n:Int)>0)=true by simp;omega]
  have hsnoc:l.take n=l.take (n-1)++[l.getD (n-1) 0]:=by
   have:=qS (show n-1<l.length by omega);rw[show n-1+1=n by omega]at this;rw[this,qB,qA (show n-1<l.length by omega)];rfl
  refine uR ?_;refine EVL.asI (((n-1:Nat):Int)) (zkA n oM oM) ?_;refine EVL.idxO tO rfl rfl rfl rfl rfl rfl rfl rfl rfl rfl (n-1) (rfl) oM ?_;refine EVL.load1 tO rfl rfl rfl rfl rfl rfl rfl rfl (0) rfl (hw.2 (n-1) oM) ?_;refine uR ?_;by_cases hz:l.getD (n-1) 0=0
  ·rw[hz,show (((0:Nat):Int) == 0)=true from rfl];refine uR ?_;refine EVL.asI (((n-1:Nat):Int)) (zkA n oM oM) ?_;refine EVL.slc tO rfl rfl rfl rfl rfl rfl rfl rfl 0 (n-1) (.inl ⟨rfl,rfl⟩) (.inr ⟨_,IntKind.i64,rfl,rfl⟩) (qQ _) oM oM ?_;refine EVL.as (congrArg SV.v (ztI b off (n-1) cap oM)) ?_;refine uR ?_;exact⟨n-1,⟨rfl,trivial⟩,trivial,rfl,⟨by omega,by rw[←ht,hsnoc,hz,zcq]⟩,Hp.Le.refl _,by omega⟩
  ·rw[show (((l.getD (n-1) 0:Nat):Int) == 0)=false by simpa using hz];refine uR ?_;rw[fin (by rw[hsnoc,zc9 _ _ hz])];exact⟨rfl,rfl⟩
theorem zlM {H:Hp} {b off cap b' off' cap':Nat} {T T':TypeId} {cs cs':List Value} {l m:List Nat} (hw:Wn cs off l) (hw':Wn cs' off' m) (hl:zdX W64 l) (hm:zdX W64 m) (hll:l.length≤1000000000) :
  PW prog 187 #[.slice (some ⟨b,off,none⟩) l.length cap,.slice (some ⟨b',off',none⟩) m.length cap'] H [(b,T,cs),(b',T',cs')] fun v ow _=>ow=[(b,T,cs),(b',T',cs')]∧v=.int .i64 (zbv (val W64 l) (val W64 m)):=by
 refine PW.body tO func187 rfl kR ntmps187 rfl rfl ?_;refine uR ?_;by_cases he:l.length=m.length
 ·rw[show (((l.length:Nat):Int) != (m.length:Int))=false by simp[he]];refine uR ?_
  refine EV.loop (ι:=Nat) (fun n=>[(0,.v (.slice (some ⟨b,off,none⟩) l.length cap)),(1,.v (.slice (some ⟨b',off',none⟩) m.length cap')),(5,.v (.int .i64 ((n:Int)-1)))]) (fun _=>[]) (fun _=>[(b,T,cs),(b',T',cs')])
   (fun n _=>n≤l.length∧l.drop n=m.drop n) (fun n=>n) l.length ⟨rfl,rfl,?_,trivial⟩ trivial rfl (fun _=>rfl) ⟨qH _,by rw[qk (qH _),qk (by omega)]⟩ ?_
  ·rw[show IntKind.i64.wrap ((l.length:Int)-1)=(l.length:Int)-1 by rw[pM];omega];rfl
  rintro n G hG ⟨hn,hd⟩;refine uR ?_;by_cases h0:n=0
  ·subst h0;rw[show decide ((((0:Nat):Int)-1)≥0)=false from rfl];refine uR ?_;rw[List.drop_zero,List.drop_zero]at hd;subst hd;exact⟨rfl,by rw[zpI rfl]⟩
  ·rw[show decide (((n:Int)-1)≥0)=true by simp;omega];have hx:=hw.2 (n-1) oM;have hy:=hw'.2 (n-1) oM;have hvo:=zqv (l:=l) (m:=m) (n-1) hl.1 hm.1 he oM (by rw[show n-1+1=n by omega];exact hd);have hdx:=zah 0 l (n-1)
   have hdl:l.drop (n-1)=l.getD (n-1) 0::l.drop n:=by
    rw[qt (show n-1<l.length by omega),qB,qA (show n-1<l.length by omega),show n-1+1=n by omega];rfl
   have hdm:m.drop (n-1)=m.getD (n-1) 0::m.drop n:=by
    rw[qt (show n-1<m.length by omega),qB,qA (show n-1<m.length by omega),show n-1+1=n by omega];rfl
   generalize l.getD (n-1) 0=u at *
   generalize m.getD (n-1) 0=w at *
   refine uR ?_;apply EV.drawn 9 kR kR;intro xv yw;(repeat refine' DD ?_);refine' DJ.ofVal (zab.idxO tO rfl rfl rfl rfl rfl rfl rfl rfl (n-1) oM oM) rfl rfl rfl ?_;rotate_left;refine' DJ.ofVal (zab.load1 tO rfl rfl rfl rfl rfl rfl (0) rfl (hx)) rfl rfl rfl ?_;rotate_left;(repeat refine' DD ?_);refine' DJ.ofVal (zab.idxO tO rfl rfl rfl rfl rfl rfl rfl rfl (n-1) oM oM) rfl rfl rfl ?_;rotate_left;refine' DJ.ofVal (zab.load1 tO rfl rfl rfl rfl rfl rfl (1) rfl (hy)) rfl rfl rfl ?_;rotate_left;(repeat refine' DD ?_);(refine DJ.nil (fun G hG hF=>?_);(case hS|hS2=>rfl));refine uR ?_;by_cases hxy:u=w
   ·subst hxy;rw[show (((u:Nat):Int) != (u:Int))=false by simp];refine uR ?_;refine⟨n-1,⟨rfl,rfl,?_,trivial⟩,trivial,rfl,⟨by omega,by rw[hdl,hdm,hd]⟩,hG,by omega⟩;rw[show IntKind.i64.wrap ((n:Int)-1-1)=((n-1:Nat):Int)-1 by rw[pM];omega];rfl
   ·rw[show (((u:Nat):Int) != (w:Int))=true by simp;omega];have ho:=hvo hxy;refine uR ?_;apply EV.drawn 9 kR kR;intro xv yw;(repeat refine' DD ?_);refine' DJ.ofVal (zab.idxO tO rfl rfl rfl rfl rfl rfl rfl rfl (n-1) oM oM) rfl rfl rfl ?_;rotate_left;refine' DJ.ofVal (zab.load1 tO rfl rfl rfl rfl rfl rfl (0) rfl (hx)) rfl rfl rfl ?_;rotate_left;(repeat refine' DD ?_);refine' DJ.ofVal (zab.idxO tO rfl rfl rfl rfl rfl rfl rfl rfl (n-1) oM oM) rfl rfl rfl ?_;rotate_left;refine' DJ.ofVal (zab.load1 tO rfl rfl rfl rfl rfl rfl (1) rfl (hy)) rfl rfl rfl ?_;rotate_left;(repeat refine' DD ?_);(refine DJ.nil (fun G hG hF=>?_);(case hS|hS2=>rfl));refine uR ?_;rw[ho];by_cases hlt:u<w
    ·rw[zdZ u w hlt,zco hlt];refine uR ?_;exact⟨rfl,rfl⟩
    ·rw[zcE u w hlt,zcn (by omega)];refine uR ?_;exact⟨rfl,rfl⟩
 ·rw[show (((l.length:Nat):Int) != (m.length:Int))=true by simp;omega];refine uR ?_;by_cases hlt:l.length<m.length
  ·rw[zdZ _ _ hlt,zco (zeI zaf hl.1 hm hlt)];refine uR ?_;exact⟨rfl,rfl⟩
  ·rw[zcE _ _ hlt,zcn (zeI zaf hm.1 hl oM)];refine uR ?_;exact⟨rfl,rfl⟩
theorem zkD {H:Hp} {b off cap b' off' cap':Nat} {T T':TypeId} {cs cs':List Value} {l m:List Nat} (hw:Wn cs off l) (hw':Wn cs' off' m) (hl:Dig W64 l) (hm:Dig W64 m) (hll:l.length≤1000000000) (hml:m.length≤l.length) (hc:l.length≤cap) (hge:val W64 m≤val W64 l) :
  PW prog 188 #[.slice (some ⟨b,off,none⟩) l.length cap,.slice (some ⟨b',off',none⟩) m.length cap'] H [(b,T,cs),(b',T',cs')] fun v ow _=>∃cs1 r,ow=[(b,T,cs1),(b',T',cs')]∧Wn cs1 off r∧zdX W64 r∧r.length≤l.length∧v=.slice (some ⟨b,off,none⟩) r.length cap∧val W64 r=val W64 l-val W64 m:=by
 refine PW.body tO func188 rfl kR ntmps188 rfl rfl ?_;refine uR ?_
 refine EV.loop (ι:=Nat × Nat × List Nat × List Value) (fun q=>[(0,.v (.slice (some ⟨b,off,none⟩) l.length cap)),(1,.v (.slice (some ⟨b',off',none⟩) m.length cap')),(5,.v (n64 q.2.1)),(9,.v (.int .i64 (l.length:Int))),(10,.v (.int .i64 (q.1:Int)))]) (fun _=>[]) (fun q=>[(b,T,q.2.2.2),(b',T',cs')])
  (fun q _=>q.1≤l.length∧zjf l m q.2.2.1 q.1 q.2.1∧Wn q.2.2.2 off q.2.2.1) (fun q=>l.length-q.1) (0,0,l,cs) ⟨rfl,rfl,rfl,rfl,rfl,trivial⟩ trivial rfl (fun _=>rfl) ⟨qQ _,⟨rfl,hl,fun _ _=>rfl,by simp[val],qQ _⟩,hw⟩ ?_
 rintro⟨i,c,cur,cu⟩ G hG ⟨hi,hinv,hcu⟩;dsimp only at hi hinv hcu;refine uR ?_;by_cases hlt:i<l.length
 ·rw[zdZ _ _ hlt];have hil:i<cur.length:=by rw[hinv.len];exact hlt
  have hcx:=hcu.2 i hil;refine uR ?_;refine EV.meet (fun env' bx' H'=>zeq env' [(0,.v (.slice (some ⟨b,off,none⟩) l.length cap)),(1,.v (.slice (some ⟨b',off',none⟩) m.length cap')),(5,.v (n64 c)),(6,.v (.int .i64 (i:Int))),(7,.v (n64 (m.getD i 0))),(9,.v (.int .i64 (l.length:Int))),(10,.v (.int .i64 (i:Int)))]∧H'=⟨G,[(b,T,cu),(b',T',cs')],⟨H,[b,b']⟩⟩) ?_ ?_
  ·rintro env' bx' H' _ ⟨he,rfl⟩;refine EV.less _ [] he trivial rfl ?_;refine uR ?_;refine EVL.idxO tO rfl rfl rfl rfl rfl rfl rfl rfl rfl rfl (i) (rfl) (hlt) ?_;refine EVL.load1 tO rfl rfl rfl rfl rfl rfl rfl rfl (0) rfl (hcx) ?_;refine uR ?_;refine EVL.ext rfl rfl rfl rfl rfl (fun W=>zg5 (cur.getD i 0) (m.getD i 0) c W hinv.carry) ?_;refine uR ?_;refine EVL.idxO tO rfl rfl rfl rfl rfl rfl rfl rfl rfl rfl (i) (rfl) (hlt) ?_;refine EVL.setO tO rfl rfl rfl rfl rfl rfl rfl ([]) rfl rfl rfl ((by have:=hcu.1;omega)) ?_;refine uR ?_;refine⟨(i+1,subHi (cur.getD i 0) (m.getD i 0) c,cur.set i (subLo (cur.getD i 0) (m.getD i 0) c),cu.set (off+i) (n64 (subLo (cur.getD i 0) (m.getD i 0) c))),⟨rfl,rfl,rfl,rfl,?_,trivial⟩,trivial,rfl,⟨by dsimp only;omega,hinv.step hlt hm,hcu.set i _ hil⟩,Hp.Le.refl _,by dsimp only;omega⟩;rw[zad i (by omega)];rfl
  ·by_cases hlm:i<m.length
   ·rw[zdZ _ _ hlm];refine uR ?_;refine EVL.idxO tO rfl rfl rfl rfl rfl rfl rfl rfl rfl rfl (i) (rfl) (hlm) ?_;refine EVL.load1 tO rfl rfl rfl rfl rfl rfl rfl rfl (1) rfl (hw'.2 i hlm) ?_;refine uR ?_;exact⟨⟨rfl,rfl,rfl,rfl,rfl,rfl,rfl,trivial⟩,rfl⟩
   ·rw[zcE _ _ hlm];refine uR ?_;refine⟨⟨rfl,rfl,rfl,rfl,?_,rfl,rfl,trivial⟩,rfl⟩;rw[show m.getD i 0=0 by simp[Nat.not_lt.1 hlm]];rfl
 ·rw[zcE _ _ hlt];obtain rfl:i=l.length:=oM;have hfin:=hinv.sum;have hlen:=hinv.len;rw[qO oM,qO (qH _),qO (by omega)]at hfin;have hlt2:=zax hinv.dig;rw[hlen]at hlt2
  have hc0:c=0:=by
   have:=hinv.carry;rcases pJ c with e | e
   ·exact e
   ·exfalso;have h1:c=1:=oM;rw[h1,Nat.one_mul]at hfin;have h2:=zax hm;have h3:W64 ^ m.length≤W64 ^ l.length:=qf (by decide) hml;omega
  rw[hc0,Nat.zero_mul,qY]at hfin;refine uR ?_;have ht:=zm1 (H:=G) (b:=b) (T:=T) (cap:=cap) hcu oM oM;rw[hlen]at ht;refine vW ([(b,T,cu)]) ([(b',T',cs')]) (ht) ?_;rintro v ow H' ⟨rfl,rfl⟩ hle;refine uR ?_;refine⟨cu,zaG cur,rfl,?_,zcN hinv.dig,?_,rfl,?_⟩
  ·have:=hcu.take (zaG cur).length
   rwa [zdR]at this
  ·have:=za7 cur;omega
  ·rw[zcO];omega
end Go.Proofs.YteoollbcdpfkpaaGreatDoor
namespace Go.Proofs.YteoollbcdpfkpaaGreatDoor
open Go.RowKit
def Tryz.lays7n29_ren:Go.Shelf.Ren:=⟨fun | 29=>219 | n=>n,fun | 0=>0 | 3=>3 | 4=>4 | 5=>5 | 22=>45 | 25=>175 | 54=>319 | n=>n,fun | 1=>2 | n=>n⟩
theorem Tryz.lays7n29:Go.Proofs.Lays7.n29 Tryz.prog Tryz.lays7n29_ren:={
 mixed:=by kernel_rfl
 f29:=Tryz.func219.trans (congrArg some kR)
 t0:=by kernel_rfl
 a0:=fun _=>by kernel_rfl
 z0:=fun _=>by kernel_rfl
 v0:=fun _=>by kernel_rfl
 i0:=by kernel_rfl
 t3:=by kernel_rfl
 a3:=fun _=>by kernel_rfl
 z3:=fun _=>by kernel_rfl
 v3:=fun _=>by kernel_rfl
 i3:=by kernel_rfl
 t4:=by kernel_rfl
 a4:=fun _=>by kernel_rfl
 z4:=fun _=>by kernel_rfl
 v4:=fun _=>by kernel_rfl
 i4:=by kernel_rfl
 t5:=by kernel_rfl
 a5:=fun _=>by kernel_rfl
 z5:=fun _=>by kernel_rfl
 v5:=fun _=>by kernel_rfl
 i5:=by kernel_rfl
 t22:=by kernel_rfl
 a22:=fun _=>by kernel_rfl
 z22:=fun _=>by kernel_rfl
 v22:=fun _=>by kernel_rfl
 i22:=by kernel_rfl
 t25:=by kernel_rfl
 a25:=fun _=>by kernel_rfl
 z25:=fun _=>by kernel_rfl
 v25:=fun _=>by kernel_rfl
 i25:=by kernel_rfl
 t54:=by kernel_rfl
 a54:=fun _=>by kernel_rfl
 z54:=fun _=>by kernel_rfl
 g1:=by kernel_rfl }
theorem zu8 (x:Nat) (hx:x<W64):PV Tryz.prog 219 #[n64 x] (.int .i64 (Lib.ctz 64 x:Int)):=by
 refine⟨(cO Tryz.func219),fun W hg=>?_⟩;refine(Any7.bits_TrailingZeros64 Tryz.lays7n29 x hx W (fun _ j hj=>?_)).mono fun e W' ⟨he,hW⟩=>⟨he,by rw[hW];exact Below.refl _ _⟩;have hgH:gH 2=some (Lib.deBruijn64tab.map fun (z:Nat)=>Value.int .u8 (z:Int)).toArray:=by unfold gH;rw[Nat.beq_refl]
 obtain⟨T,fz,hc⟩:=hg _ _ hgH;have:=cell_of_row W 2 j _ T fz hc;refine this.trans ?_;simp only[List.getElem?_toArray,qK,qB,qA hj];rfl
end Go.Proofs.YteoollbcdpfkpaaGreatDoor
namespace Go.Proofs.YteoollbcdpfkpaaGreatDoor
open Go.RowKit _root_.Go.Proofs.Tryz
theorem zhi {H:Hp} {b off cap:Nat} {T:TypeId} {cs:List Value} {l:List Nat} (hw:Wn cs off l) (hl:Dig W64 l) (hll:l.length≤100000000) (h0:val W64 l≠0) :
  PW prog 185 #[.slice (some ⟨b,off,none⟩) l.length cap] H [(b,T,cs)] fun v ow _=>ow=[(b,T,cs)]∧∃z m:Nat,v=.int .i64 (z:Int)∧val W64 l=2 ^ z*m∧m % 2=1∧z<64*l.length:=by
 refine PW.body tO func185 rfl kR ntmps185 rfl rfl ?_;refine uR ?_
 refine EV.loop (ι:=Nat) (fun i=>[(0,.v (.slice (some ⟨b,off,none⟩) l.length cap)),(3,.v (.int .i64 (i:Int)))]) (fun _=>[]) (fun _=>[(b,T,cs)])
  (fun i _=>∀j,j<i→l.getD j 0=0) (fun i=>l.length-i) 0 ⟨rfl,rfl,trivial⟩ trivial rfl (fun _=>rfl) (fun j hj=>absurd hj (Nat.not_lt_zero _)) ?_
 rintro i G hG hz
 have hi:i<l.length:=by
  refine Nat.lt_of_not_le fun h=>h0 ?_;have:=zdd (B:=W64) i hz
  rwa [qO h]at this
 have hx:=hw.2 i hi;refine uR ?_;refine EVL.idxO tO rfl rfl rfl rfl rfl rfl rfl rfl rfl rfl (i) (rfl) (hi) ?_;refine EVL.load1 tO rfl rfl rfl rfl rfl rfl rfl rfl (0) rfl (hx) ?_;refine uR ?_;by_cases hxz:l.getD i 0=0
 ·rw[hxz,show (((0:Nat):Int) == 0)=true from rfl];refine uR ?_;refine⟨i+1,⟨rfl,?_,trivial⟩,trivial,rfl,fun j hj=>?_,Hp.Le.refl _,by omega⟩
  ·rw[zad i (by omega)];rfl
  ·by_cases e:j=i
   ·subst e;exact hxz
   ·exact hz j oM
 ·rw[show (((l.getD i 0:Nat):Int) == 0)=false by simpa using hxz];obtain⟨m,hv,hm,hc⟩:=zqH hl hz hxz;have htz:=zu8 (l.getD i 0) (hl.getD (by decide) i);refine uR ?_;refine EVL.idxO tO rfl rfl rfl rfl rfl rfl rfl rfl rfl rfl (i) (rfl) (hi) ?_;refine EVL.load1 tO rfl rfl rfl rfl rfl rfl rfl rfl (0) rfl (hx) ?_
  repeat (first|refine RUN ?_|refine CV (htz) ?_|refine CE (htz) ?_)
  refine⟨rfl,64*i+Lib.ctz 64 (l.getD i 0),m,?_,hv,hm,by omega⟩;rw[show IntKind.i64.wrap (64*(i:Int))=((64*i:Nat):Int) from zqz 64 i oM,zsw _ _ (by omega)]
theorem zi0 {α:Type} (s m:List α) (i:Nat) (h:i<s.length) (hl:s.length=m.length):(s.take i++m.drop i).set i s[i]=s.take (i+1)++m.drop (i+1):=by
 have hm:i<m.length:=oM;rw[List.set_append_right _ _ (by rw[qP];omega),qP,qp oM,Nat.sub_self,qt hm,List.set_cons_zero,qS h,qZ];rfl
theorem zmp (s m:List Nat) (i j:Nat) (hl:s.length=m.length) (h:i≤j):(s.take i++m.drop i).getD j 0=m.getD j 0:=by
 by_cases hi:i≤s.length
 ·rw[qB,qL (by rw[qP];omega),qP,qp hi,List.getElem?_drop,show i+(j-i)=j by omega,←qB]
 ·rw[qB,qg (by simp;omega),qB,qg (by omega)]
theorem zi6 {H:Hp} {b off cap:Nat} {T:TypeId} {cs:List Value} {l:List Nat} (hw:Wn cs off l) (hl:Dig W64 l) (hll:l.length≤100000000) (hc:l.length≤cap) (h0:val W64 l≠0) :
  PW prog 186 #[.slice (some ⟨b,off,none⟩) l.length cap] H [(b,T,cs)] fun v ow _=>∃cs1 off1 cap1 r z,ow=[(b,T,cs1)]∧Wn cs1 off1 r∧zdX W64 r∧r.length≤l.length∧r.length≤cap1∧v=.slice (some ⟨b,off1,none⟩) r.length cap1∧val W64 l=2 ^ z*val W64 r∧val W64 r % 2=1:=by
 refine PW.body tO func186 rfl kR ntmps186 rfl rfl ?_;refine uR ?_;refine vW ([(b,T,cs)]) ([]) (zhi hw hl hll h0) ?_;rintro v ow H' ⟨rfl,z,m,rfl,hv,hm,hz⟩ hle;have hz0:z / 64<l.length:=oM;refine uR ?_;refine EVL.asI (((z / 64:Nat):Int)) (zeX z 64 oM) ?_;refine uR ?_;refine EVL.slc tO rfl rfl rfl rfl rfl rfl rfl rfl (z / 64) l.length (.inr ⟨_,IntKind.i64,rfl,rfl⟩) (.inl ⟨rfl,rfl⟩) oM hc hc ?_;refine EVL.as (congrArg SV.v (ztJ b off (z / 64) l.length cap oM)) ?_;refine uR ?_;rw[show (z:Int).tmod 64=((z % 64:Nat):Int) from zkB z 64];generalize hq:z / 64=q at *
 generalize hp:z % 64=p at *
 have hpz:z=64*q+p:=oM;have hp64:p<64:=oM;have hlen:(l.drop q).length=l.length-q:=qu ..;have hwd:=hw.drop q oM;have hld:Dig W64 (l.drop q):=hl.drop q;have hvs:=ztV l q p hl hp64 oM;rw[←hpz]at hvs;have hdiv:val W64 l / 2 ^ z=m:=by rw[hv];exact Nat.mul_div_cancel_left _ (Nat.pow_pos (by decide))
 rw[hdiv]at hvs;rw[←hlen];generalize l.drop q=d at *
 have hsl:=zei p d;have hsD:=zmJ p hp64 hld
 refine EV.loop (ι:=Nat × List Value) (fun s=>[(0,.v (.slice (some ⟨b,off+q,none⟩) d.length (cap-q))),(4,.v (.int .i64 (p:Int))),(15,.v (.int .i64 (d.length:Int))),(16,.v (.int .i64 (s.1:Int)))]) (fun _=>[]) (fun s=>[(b,T,s.2)])
  (fun s _=>s.1≤d.length∧Wn s.2 (off+q) ((zdk p d).take s.1++d.drop s.1)) (fun s=>d.length-s.1) (0,cs) ⟨rfl,rfl,rfl,rfl,trivial⟩ trivial rfl (fun _=>rfl) ⟨qQ _,by simpa using hwd⟩ ?_
 rintro⟨i,cu⟩ G hG ⟨hi,hcu⟩;dsimp only at hi hcu;refine uR ?_;by_cases hlt:i<d.length
 ·rw[zdZ _ _ hlt];have hil:i<((zdk p d).take i++d.drop i).length:=by simp;omega
  have hcx:=hcu.2 i hil;rw[zmp _ _ i i hsl (qH _)]at hcx;have hx:=hld.getD (by decide) i;have hnew:=ziV p d i oM;have hset:=zi0 (zdk p d) d i oM hsl;have hb1:off+q+i<cu.length:=by have:=hcu.1;omega
  rw[hnew]at hset;refine uR ?_;refine EVL.idxO tO rfl rfl rfl rfl rfl rfl rfl rfl rfl rfl (i) (rfl) (hlt) ?_;refine EVL.load1 tO rfl rfl rfl rfl rfl rfl rfl rfl (0) rfl (hcx) ?_;refine uR ?_;rw[show min p IntKind.u64.bits=p from qp (by show p≤64;omega),zm2];refine EVL.idxO tO rfl rfl rfl rfl rfl rfl rfl rfl rfl rfl (i) (rfl) (hlt) ?_;refine EVL.setO tO rfl rfl rfl rfl rfl rfl rfl ([]) rfl rfl rfl (hb1) ?_;have hcu1:=hcu.set i (d.getD i 0 / 2 ^ p) hil;refine uR ?_;rw[zad i (by omega)];by_cases hl1:i+1<d.length
  ·rw[zdZ _ _ hl1];have hy:=hcu1.2 (i+1) (by simp;omega);rw[getD_set_ne _ _ _ _ oM,zmp _ _ i (i+1) hsl (by omega)]at hy;have hx1:=hcu1.2 i (by simp;omega);rw[zbn _ _ _ hil]at hx1;refine uR ?_;apply EV.drawn 13 kR kR;intro xv yw;(repeat refine' DD ?_);refine' DJ.ofVal (zab.idxO tO rfl rfl rfl rfl rfl rfl rfl rfl (i) (rfl) (hlt)) rfl rfl rfl ?_;rotate_left;refine' DJ.ofVal (zab.load1 tO rfl rfl rfl rfl rfl rfl (0) rfl (hx1)) rfl rfl rfl ?_;rotate_left;(repeat refine' DD ?_);refine' DJ.ofVal (zab.idxO tO rfl rfl rfl rfl rfl rfl rfl rfl (i+1) (zad i oM) (hl1)) rfl rfl rfl ?_;rotate_left;refine' DJ.ofVal (zab.load1 tO rfl rfl rfl rfl rfl rfl (0) rfl (hy)) rfl rfl rfl ?_;rotate_left;(repeat refine' DD ?_);refine' DJ.ofVal (zab.shl rfl rfl rfl rfl (by rw[pM];omega)) rfl rfl rfl ?_;rotate_left;(repeat refine' DD ?_);(refine DJ.nil (fun G hG hF=>?_);(case hS|hS2=>rfl));refine uR ?_;rw[show IntKind.i64.wrap (64-(p:Int))=((64-p:Nat):Int) by rw[pM];omega,qU,show min (64-p) IntKind.u64.bits=64-p from qp (by show _≤64;omega)];refine EVL.idxO tO rfl rfl rfl rfl rfl rfl rfl rfl rfl rfl (i) (rfl) (hlt) ?_;refine EVL.setO tO rfl rfl rfl rfl rfl rfl rfl ([]) rfl rfl rfl ((by rw[List.length_set];exact hb1)) ?_;refine uR ?_;have hw2:=(ziW (d.getD i 0) (d.getD (i+1) 0) p hp64 hx).1;have hcu2:=hcu1.set i (d.getD i 0 / 2 ^ p+d.getD (i+1) 0*2 ^ (64-p) % W64) (by simpa using hil);rw[List.set_set,List.set_set,hset]at hcu2;refine⟨(i+1,cu.set (off+q+i) (n64 (d.getD i 0 / 2 ^ p+d.getD (i+1) 0*2 ^ (64-p) % W64))),⟨rfl,rfl,rfl,?_,trivial⟩,trivial,?_,⟨by dsimp only;omega,hcu2⟩,hG,by dsimp only;omega⟩
   ·rw[zad i (by omega)];rfl
   ·dsimp only;refine(congrArg (fun c=>[(b,T,c)]) (List.set_set ..)).trans ?_;exact congrArg (fun v=>[(b,T,cu.set (off+q+i) v)]) (congrArg (Value.int .u64) hw2)
  ·rw[zcE _ _ hl1];refine uR ?_;rw[show d.getD (i+1) 0=0 by simp[Nat.not_lt.1 hl1],Nat.zero_mul,Nat.zero_mod,qY]at hset;rw[hset]at hcu1;refine⟨(i+1,cu.set (off+q+i) (n64 (d.getD i 0 / 2 ^ p))),⟨rfl,rfl,rfl,?_,trivial⟩,trivial,rfl,⟨by dsimp only;omega,hcu1⟩,Hp.Le.refl _,by dsimp only;omega⟩;rw[zad i (by omega)];rfl
 ·rw[zcE _ _ hlt];obtain rfl:i=d.length:=oM;rw[qO oM,qk (qH _),qG]at hcu;have ht:=zm1 (H:=G) (b:=b) (T:=T) (cap:=cap-q) hcu oM oM;rw[hsl]at ht;refine uR ?_;refine vW ([(b,T,cu)]) ([]) (ht) ?_;rintro v ow H2 ⟨rfl,rfl⟩ hle2;refine uR ?_;have htl:=za7 (zdk p d);refine⟨cu,off+q,cap-q,zaG (zdk p d),z,rfl,?_,zcN hsD,by omega,by omega,rfl,?_,?_⟩
  ·have:=hcu.take (zaG (zdk p d)).length
   rwa [zdR]at this
  ·rw[zcO,hvs,hv]
  ·rw[zcO,hvs,hm]
theorem zkF (n:Nat) (hn:big n) (H:Hp):PW prog 184 #[zaD n] H [] fun v ow _=>∃g,v=.slice (some ⟨g,0,none⟩) (dig W64 n).length (dig W64 n).length∧ow=[(g,45,(dig W64 n).map n64)]:=by
 have hol:(zjd n).length=(bl n+7) / 8:=by
  have:=zaP 8 n oM;rw[show (2:Nat) ^ 8=256 by decide]at this;rw[zcm,this];omega
 have hwl:(dig W64 n).length=((zjd n).length+7) / 8:=by
  have:=zaP 64 n oM;rw[←zaC]at this;rw[this,hol];omega
 have hD:=ziF n;have hfin:pk 8 256 (zjd n).reverse (dig W64 n).length=dig W64 n:=ztp n _ rfl (by rw[←zcm];omega);have hb:=zgE n hn;refine PW.body tO func184 rfl kR ntmps184 rfl rfl ?_;refine uR ?_;refine vA (hb _) ?_;rintro v H1 hs hle;generalize hm:(dig W64 n).length=m at *
 generalize dig W64 n=dn at *
 generalize zjd n=l at *
 obtain⟨a,cap,rfl⟩:=SlC.val hs;refine uR ?_;rw[show IntKind.i64.wrap ((l.length:Int)+7)=((l.length+7:Nat):Int) from zsw _ 7 (by omega)];refine EVL.asI ((m:Int)) ((by rw[hwl];exact zeX _ 8 oM)) ?_;refine EVL.make tO rfl rfl rfl rfl rfl rfl rfl rfl rfl (m) (rfl) oM (by rfl) (by rfl) fun g=>?_;refine uR ?_
 have e0:(List.replicate m (Tryz.te45.zero)).flatten=(pk 8 256 (l.reverse.take 0) m).map n64:=by
  rw[List.take_zero,zmC,List.map_replicate];rw[show (Tryz.te45.zero)=[n64 0] from rfl];simp
 rw[e0]
 refine EV.loop (ι:=Nat) (fun i=>[(3,.v (.slice a l.length cap)),(4,.v (.slice (some ⟨g,0,none⟩) m m)),(14,.v (.int .i64 (l.length:Int))),(15,.v (.int .i64 (i:Int)))]) (fun _=>[]) (fun i=>[(g,45,(pk 8 256 (l.reverse.take i) m).map n64)])
  (fun i G=>i≤l.length∧SlN n8 G (.slice a l.length cap) l) (fun i=>l.length-i) 0 ⟨rfl,rfl,rfl,rfl,trivial⟩ trivial rfl (fun _=>rfl) ⟨qQ _,hs⟩ ?_
 rintro i G hG ⟨hi,hs⟩;refine uR ?_;by_cases hlt:i<l.length
 ·have him:i / 8<m:=oM;have hrl:(l.reverse.take i).length=i:=by rw[qP,List.length_reverse];omega
  have hx:l.getD (l.length-1-i) 0<256:=hD.getD (by decide) _;have hxs:(l.map n8)[l.length-1-i]?=some (n8 (l.getD (l.length-1-i) 0)):=zbZ oM;have hcur:((pk 8 256 (l.reverse.take i) m).map n64)[i / 8]?=some (n64 ((pk 8 256 (l.reverse.take i) m).getD (i / 8) 0)):=zbZ (by rw[zaA];exact him);have hlow:=zsn (K:=8) (B:=256) (by decide) ((hD.rev).take i) m (by rw[hrl];omega);rw[hrl]at hlow;have hsn:=zly (K:=8) (B:=256) (l:=l.reverse.take i) (by decide) m (l.getD (l.length-1-i) 0) (by rw[hrl];omega);rw[hrl]at hsn;rw[zdZ _ _ hlt];refine uR ?_;apply EV.drawn 18 kR kR;intro xv yw;(repeat refine' DD ?_);refine' DJ.ofVal (zab.idxP1 tO rfl rfl rfl rfl rfl rfl rfl rfl (i / 8) (q8 i oM) him) rfl rfl rfl ?_;rotate_left;refine' DJ.ofVal (zab.load1 tO rfl rfl rfl rfl rfl rfl (0) rfl (hcur)) rfl rfl rfl ?_;rotate_left;(repeat refine' DD ?_);refine' DJ.ofVal (zab.idx1 tO rfl rfl rfl rfl rfl rfl rfl rfl (hs) (l.length-1-i) (zt0 _ _ hlt oM) oM (hxs)) rfl rfl rfl ?_;rotate_left;(repeat refine' DD ?_);refine' DJ.ofVal (zab.shl rfl rfl rfl rfl (by rw[r8];omega)) rfl rfl rfl ?_;rotate_left;(refine DJ.nil (fun G hG hF=>?_);(case hS|hS2=>rfl));rw[r8,qU];refine uR ?_;rw[zoF _ _ _ (by rw[Nat.pow_mul];exact hlow) hx (by omega)];refine EVL.idx0 tO rfl rfl rfl rfl rfl rfl rfl rfl rfl rfl (i / 8) (q8 i oM) (him) ?_;refine EVL.setO tO rfl rfl rfl rfl rfl rfl rfl ([]) rfl rfl rfl ((by rw[qV,zaA];exact him)) ?_;refine uR ?_
  have hnext:l.reverse.take (i+1)=l.reverse.take i++[l.getD (l.length-1-i) 0]:=by
   rw[qS (by rw[List.length_reverse];exact hlt),List.getElem_reverse,qB,qA (show l.length-1-i<l.length by omega)];rfl
  refine⟨i+1,⟨rfl,rfl,rfl,?_,trivial⟩,trivial,?_,⟨by omega,hs.mono hG⟩,hG,by omega⟩
  ·rw[zad i (by omega)];rfl
  ·rw[hnext,hsn,List.map_set,show (256:Nat) ^ (i % 8)=2 ^ (8*(i % 8)) by rw[Nat.pow_mul]];rfl
 ·rw[zcE _ _ hlt];obtain rfl:i=l.length:=oM;rw[qO (by rw[List.length_reverse];exact qH _),hfin];refine uR ?_;exact⟨g,rfl,rfl⟩
theorem zoi {H:Hp} {b off cap:Nat} {T:TypeId} {cs:List Value} {l:List Nat} (hw:Wn cs off l) (hl:Dig W64 l) (hll:l.length≤20000000) :
  PW prog 189 #[.slice (some ⟨b,off,none⟩) l.length cap] H [(b,T,cs)] fun v ow _=>ow=[(b,T,cs)]∧v=zaD (val W64 l):=by
 refine PW.body tO func189 rfl kR ntmps189 rfl rfl ?_;refine uR ?_;rw[show IntKind.i64.wrap (8*(l.length:Int))=((8*l.length:Nat):Int) from zqz 8 l.length (by omega)];generalize hN:8*l.length=N at *
 refine EVL.make tO rfl rfl rfl rfl rfl rfl rfl rfl rfl (N) (rfl) oM (by rfl) (by rfl) fun g=>?_;refine EVL.apart fun hdist=>?_
 have hgb:b≠g:=fun e=>by
  subst e;have:=hdist 0 1 b _ _ _ _ rfl rfl;cases this
 refine uR ?_
 have e0:(List.replicate N (Tryz.te5.zero)).flatten=(List.replicate N 0).map n8:=by
  rw[List.map_replicate,show (Tryz.te5.zero)=[n8 0] from rfl];simp
 rw[e0]
 refine EV.loop (ι:=Nat × List Nat) (fun q=>[(2,.p 2 0),(0,.v (.slice (some ⟨b,off,none⟩) l.length cap)),(3,.v (.slice (some ⟨g,0,none⟩) N N)),(10,.v (.int .i64 (N:Int))),(11,.v (.int .i64 (q.1:Int)))]) (fun _=>[(2,47,Tryz.te47.zero)]) (fun q=>[(g,5,q.2.map n8),(b,T,cs)])
  (fun q _=>q.1≤N∧q.2.length=N∧Dig 256 q.2∧∀j,j<q.1→q.2.getD (N-1-j) 0=val W64 l / 256 ^ j % 256) (fun q=>N-q.1) (0,List.replicate N 0) ⟨rfl,rfl,rfl,rfl,rfl,trivial⟩ ⟨rfl,trivial⟩ rfl (fun _=>rfl) ⟨qQ _,by simp,Dig.zeros (by decide) _,fun j hj=>absurd hj (Nat.not_lt_zero _)⟩ ?_
 rintro⟨i,cur⟩ G hG ⟨hi,hlen,hcD,hcs⟩;dsimp only at hi hlen hcs hcD;refine uR ?_;by_cases hlt:i<N
 ·have hwl:i / 8<l.length:=oM;have hsub:=zdF (C:=256) (k:=8) (by decide) (by decide) (l:=l) (by rw[←zcB];exact hl) i;rw[←zcB,show (256:Nat) ^ (i % 8)=2 ^ (8*(i % 8)) by rw[Nat.pow_mul]]at hsub;have hwd:=hl.getD (by decide) (i / 8);rw[zdZ _ _ hlt];refine uR ?_;rw[zt0 N i hlt (by omega)];refine EVL.asI (((i / 8:Nat):Int)) (q8 i oM) ?_;refine EVL.idxO tO rfl rfl rfl rfl rfl rfl rfl rfl rfl rfl (i / 8) (rfl) (hwl) ?_;refine EVL.load1 tO rfl rfl rfl rfl rfl rfl rfl rfl (1) rfl (hw.2 (i / 8) hwl) ?_;refine uR ?_;rw[r8];refine uR ?_;rw[zmP _ _ hwd oM,hsub];refine EVL.idx0 tO rfl rfl rfl rfl rfl rfl rfl rfl rfl rfl (N-1-i) (rfl) oM ?_;refine EVL.setO tO rfl rfl rfl rfl rfl rfl rfl ([]) rfl rfl rfl ((by rw[qV,hlen];omega)) ?_;refine uR ?_;refine⟨(i+1,cur.set (N-1-i) (val W64 l / 256 ^ i % 256)),⟨rfl,rfl,rfl,rfl,?_,trivial⟩,⟨rfl,trivial⟩,?_,⟨by dsimp only;omega,by dsimp only;rw[List.length_set];exact hlen,hcD.set _ _ (qo _ (by decide)),fun j hj=>?_⟩,Hp.Le.refl _,by dsimp only;omega⟩
  ·rw[zad i (by omega)];rfl
  ·dsimp only;rw[List.map_set];rfl
  ·dsimp only at hj ⊢;by_cases e:j=i
   ·subst e;exact zbn _ _ _ oM
   ·rw[getD_set_ne _ _ _ _ (by omega)];exact hcs j oM
 ·rw[zcE _ _ hlt];obtain rfl:i=N:=oM;have hlv:=zax hl;have hb:=znc (val W64 l) i cur (by rw[←hN,Nat.pow_mul,←zcB];exact hlv) hlen hcs;refine uR ?_
  refine EVL.publish [] [(b,T,cs)] rfl (fun G2 hG2 hg=>?_) (fun k hk=>by
   obtain rfl:k=b:=by simpa[Ows.bs] using hk
   exact hgb)
  have hsl:SlN n8 G2 (.slice (some ⟨g,0,none⟩) i i) cur:=by
   unfold SlN;rw[hlen];exact⟨by simp[hlen],.inr ⟨g,0,i,_,rfl,qH _,hg,fun j x hj=>by simpa using hj⟩⟩
  have hf:=zdz hsl hcD oM;rw[hb]at hf;refine vA (hf) ?_;rintro v H2 rfl hle;refine uR ?_;exact⟨rfl,rfl⟩
structure OW (b off cap:Nat) (cs:List Value) (l:List Nat):Prop where
 at_:Wn cs off l
 norm:zdX W64 l
 cap:l.length≤cap
 len:l.length≤20000000
 odd:val W64 l % 2=1
structure BSt where
 (bv ov cv:Nat) (lv:List Nat) (sv:List Value)
 (bw ow cw:Nat) (lw:List Nat) (sw:List Value)
def BSt.env (q:BSt) (t:Int):Env:=[(4,.p 4 0),(5,.v (.slice (some ⟨q.bv,q.ov,none⟩) q.lv.length q.cv)),(6,.v (.slice (some ⟨q.bw,q.ow,none⟩) q.lw.length q.cw)),(7,.v (.int .i64 t))]
def BSt.own (q:BSt):Ows:=[(q.bv,45,q.sv),(q.bw,45,q.sw)]
structure BSt.ok (q:BSt) (g:Nat):Prop where
 v:OW q.bv q.ov q.cv q.sv q.lv
 w:OW q.bw q.ow q.cw q.sw q.lw
 gcd:Nat.gcd (val W64 q.lv) (val W64 q.lw)=g
theorem zti {n:Nat} (h:n % 2=1):n≠0:=oM
theorem zdS {α:Type} (a b:α):List.Perm [a,b] [b,a]:=List.Perm.swap b a []
theorem zpJ {a b:Nat} (h:zbv a b=0):a=b:=by
 unfold zbv at h;split at h
 ·cases h
 ·split at h
  ·cases h
  ·omega
theorem zfb (n:Nat):zaD n=.agg #[.int .u64 (lo n:Int),.string (zal n)]:=rfl
theorem zh7 (x y:Nat) (hx:x≠0) (hy:y≠0) (hbx':big x) (hby':big y):PV prog 140 #[zaD x,zaD y] (zaD (Nat.gcd x y)):=by
 have lx:(dig W64 x).length≤20000000:=qI (zaI hbx') (by decide);have ly:(dig W64 y).length≤20000000:=qI (zaI hby') (by decide);have hpx:=fun G=>PO.of_pw ((zkF x hbx' G).mono (Ψ:=fun v ow _=>ow.length≤1∧∃g,v=.slice (some ⟨g,0,none⟩) (dig W64 x).length (dig W64 x).length∧ow=[(g,45,(dig W64 x).map n64)]) fun v ow H' _ ⟨g,h1,h2⟩=>⟨by rw[h2];simp,g,h1,h2⟩);have hpy:=fun G=>PO.of_pw ((zkF y hby' G).mono (Ψ:=fun v ow _=>ow.length≤1∧∃g,v=.slice (some ⟨g,0,none⟩) (dig W64 y).length (dig W64 y).length∧ow=[(g,45,(dig W64 y).map n64)]) fun v ow H' _ ⟨g,h1,h2⟩=>⟨by rw[h2];simp,g,h1,h2⟩);have dx:=zao zaf x;have dy:=zao zaf y;have vx:=zaw zaf x;have vy:=zaw zaf y;generalize dig W64 x=dgx at *
 generalize dig W64 y=dgy at *
 have hvx0:val W64 dgx≠0:=by rw[vx];exact hx
 have hvy0:val W64 dgy≠0:=by rw[vy];exact hy
 refine PV.of_pc ?_;refine BD func140 ntmps140 ?_;refine uR ?_;apply EV.drawn 6 kR kR;intro x1 y1;(repeat refine' DD ?_);refine' DJ.callO rfl rfl rfl rfl rfl (hpx gH).can (fun G _ _=>hpx G) ?_;rotate_left;(repeat refine' DD ?_);refine' DJ.callO rfl rfl rfl rfl rfl (hpy gH).can (fun G _ _=>hpy G) ?_;rotate_left;refine' DJ.copy (0+1) (.inr rfl) rfl rfl rfl id rfl kR ?_;rotate_left;refine' DJ.copy (0+1+1+1) (.inr rfl) rfl rfl rfl id rfl kR ?_;rotate_left;(refine DJ.nil (fun G hG hF=>?_);(case hS|hS2=>rfl));obtain⟨⟨gy,ey,oy⟩,⟨gx,ex,ox⟩,_⟩:=hF;simp only[ex,ey,ox,oy,id];clear hpx hpy ex ey ox oy;refine uR ?_;refine EVL.permOw [(gx,45,dgx.map n64),(gy,45,dgy.map n64)] (zdS _ _) ?_;refine EVL.callW rfl rfl rfl rfl rfl ([(gx,45,dgx.map n64)]) ([(gy,45,dgy.map n64)]) rfl (zhi (Wn.of dgx) dx.1 oM hvx0) ?_;rintro v ow H1 ⟨rfl,zx,mx,rfl,hzx,hmx,hzx2⟩ hle1;refine uR ?_;refine EVL.permOw [(gy,45,dgy.map n64),(gx,45,dgx.map n64)] (zdS _ _) ?_;refine EVL.callW rfl rfl rfl rfl rfl ([(gy,45,dgy.map n64)]) ([(gx,45,dgx.map n64)]) rfl (zhi (Wn.of dgy) dy.1 oM hvy0) ?_;rintro v ow H2 ⟨rfl,zy,my,rfl,hzy,hmy,hzy2⟩ hle2;refine uR ?_;rw[show (if (zy:Int)<(zx:Int) then (zy:Int) else (zx:Int))=((min zx zy:Nat):Int) by split <;> omega];refine uR ?_;refine EVL.permOw [(gx,45,dgx.map n64),(gy,45,dgy.map n64)] (zdS _ _) ?_;refine EVL.callW rfl rfl rfl rfl rfl ([(gx,45,dgx.map n64)]) ([(gy,45,dgy.map n64)]) rfl (zi6 (Wn.of dgx) dx.1 oM (qH _) hvx0) ?_;rintro v ow H3 ⟨sx,ox,cx,rx,zx',rfl,hwx,hnx,hlx,hcx,rfl,hdx,hox⟩ hle3;refine uR ?_;refine EVL.permOw [(gy,45,dgy.map n64),(gx,45,sx)] (zdS _ _) ?_;refine EVL.callW rfl rfl rfl rfl rfl ([(gy,45,dgy.map n64)]) ([(gx,45,sx)]) rfl (zi6 (Wn.of dgy) dy.1 oM (qH _) hvy0) ?_;rintro v ow H4 ⟨sy,oy,cy,ry,zy',rfl,hwy,hny,hly,hcy,rfl,hdy,hoy⟩ hle4;refine EVL.permOw [(gx,45,sx),(gy,45,sy)] (zdS _ _) ?_
 have hgcd:Nat.gcd x y=2 ^ min zx zy*Nat.gcd (val W64 rx) (val W64 ry):=by
  have e1:zx=zx':=zmv (by rw[←hzx,hdx]) hmx hox;have e2:zy=zy':=zmv (by rw[←hzy,hdy]) hmy hoy;subst e1 e2;rw[←vx,←vy];exact znA _ _ zx zy _ _ hdx hdy hox hoy
 have htw:min zx zy≤1300000000:=oM;generalize min zx zy=tw at *
 generalize hg:Nat.gcd (val W64 rx) (val W64 ry)=g at *
 have hbg:big (Nat.gcd x y):=qI (zkV x y hx) hbx';generalize Nat.gcd x y=gg at *
 refine uR ?_
 refine EV.loop (ι:=BSt) (fun q=>q.env (tw:Int)) (fun _=>[(4,47,Tryz.te47.zero)]) (fun q=>q.own) (fun q _=>q.ok g) (fun q=>val W64 q.lv+val W64 q.lw) ⟨gx,ox,cx,rx,sx,gy,oy,cy,ry,sy⟩
  ⟨rfl,rfl,rfl,rfl,trivial⟩ ⟨rfl,trivial⟩ rfl (fun _=>rfl) ⟨⟨hwx,hnx,hcx,qI hlx lx,hox⟩,⟨hwy,hny,hcy,qI hly ly,hoy⟩,hg⟩ ?_
 clear hdx hdy hzx hzy hwx hnx hlx hcx hwy hny hly hcy hox hoy hle1 hle2 hle3 hle4 hg;rintro⟨bv,ov,cv,lv,sv,bw,ow,cw,lw,sw⟩ G hG ⟨⟨v1,v2,v3,v4,v5⟩,⟨w1,w2,w3,w4,w5⟩,hgq⟩;dsimp only at v1 v2 v3 v4 v5 w1 w2 w3 w4 w5 hgq;unfold BSt.env BSt.own;dsimp only;refine uR ?_;refine EVL.callW rfl rfl rfl rfl rfl ([(bv,45,sv),(bw,45,sw)]) ([]) rfl (zlM v1 w1 v2 w2 oM) ?_;rintro v ow1 H5 ⟨rfl,rfl⟩ hle5;refine uR ?_;by_cases hc0:zbv (val W64 lv) (val W64 lw)=0
 ·rw[show (zbv (val W64 lv) (val W64 lw) == 0)=true by rw[hc0];rfl];have hvw:=zpJ hc0;rw[←hvw,Nat.gcd_self]at hgq;refine uR ?_;refine vW ([(bv,45,sv)]) ([(bw,45,sw)]) (zoi v1 v2.1 v4) ?_;rintro v ow2 H6 ⟨rfl,rfl⟩ hle6;rw[hgq,zfb];refine uR ?_
  refine EV.loop (ι:=Int × Nat) (fun q=>[(4,.p 4 0),(9,.p 9 0),(7,.v (.int .i64 q.1))]) (fun q=>[(9,47,[.int .u64 (lo q.2:Int),.string (zal q.2)]),(4,47,Tryz.te47.zero)]) (fun _=>[(bv,45,sv),(bw,45,sw)])
   (fun q _=>q.2*2 ^ q.1.toNat=gg∧q.1≤1300000000 ∧ -100000≤q.1) (fun q=>q.1.toNat) ((tw:Int),g) ⟨rfl,rfl,rfl,trivial⟩ ⟨rfl,rfl,trivial⟩ rfl (fun _=>rfl) ⟨by dsimp only;rw[qU,hgcd,qW],by dsimp only;omega,by dsimp only;omega⟩ ?_
  rintro⟨t,o⟩ G2 hG2 ⟨ht,ht1,ht2⟩;dsimp only at ht ht1 ht2;refine uR ?_;by_cases htp:t>0
  ·rw[show decide (t>0)=true by simpa using htp];obtain⟨k,hk,hkt⟩:∃k:Nat,(if (65536:Int)<t then (65536:Int) else t)=(k:Int)∧k=min t.toNat 65536:=⟨min t.toNat 65536,by split <;> omega,rfl⟩
   have hbo:big o:=by
    refine qI (zaZ ?_) hbg;rw[←ht];exact Nat.le_mul_of_pos_right _ (Nat.pow_pos (by decide))
   have hsh:=zlm o k oM hbo;refine uR ?_;rw[hk]
   repeat (first|refine RUN ?_|refine CV (hsh) ?_|refine CE (hsh) ?_)
   refine⟨(t-65536,o*2 ^ k),⟨rfl,rfl,?_,trivial⟩,⟨rfl,rfl,trivial⟩,rfl,⟨?_,by dsimp only;omega,by dsimp only;omega⟩,Hp.Le.refl _,by dsimp only;omega⟩
   ·rw[show IntKind.i64.wrap (t-65536)=t-65536 by rw[pM];omega];rfl
   ·dsimp only;rw[←ht,Nat.mul_assoc,←Nat.pow_add];congr 2;omega
  ·rw[show decide (t>0)=false by simpa using htp];rw[show t.toNat=0 by omega,Nat.pow_zero,Nat.mul_one]at ht;subst ht;refine uR ?_;rfl
 ·rw[show (zbv (val W64 lv) (val W64 lw) == 0)=false by simpa using hc0];refine uR ?_;refine EV.meet (fun env' bx' H'=>∃q:BSt,zeq env' (q.env (tw:Int))∧zeu bx' [(4,47,Tryz.te47.zero)]∧H'.ow=q.own∧G.Le H'.ro∧q.ok g∧val W64 q.lw<val W64 q.lv∧val W64 q.lv+val W64 q.lw=val W64 lv+val W64 lw) ?_ ?_
  ·rintro env' bx' ⟨G6,ow6,base6⟩ _ ⟨⟨bv,ov,cv,lv,sv,bw,ow,cw,lw,sw⟩,he,hbx6,how,hleG,⟨⟨v1,v2,v3,v4,v5⟩,⟨w1,w2,w3,w4,w5⟩,hgq⟩,hlt,hsum⟩;dsimp only at v1 v2 v3 v4 v5 w1 w2 w3 w4 w5 hgq hlt hsum;refine EV.less _ _ he hbx6 rfl ?_;unfold BSt.own at how;dsimp only at how;subst how;unfold BSt.env;dsimp only
   have hlen:lw.length≤lv.length:=by
    refine Nat.le_of_not_lt fun h=>?_;have:=zeI zaf v2.1 w2 h;omega
   refine uR ?_;refine EVL.callW rfl rfl rfl rfl rfl ([(bv,45,sv),(bw,45,sw)]) ([]) rfl (zkD v1 w1 v2.1 w2.1 oM hlen v3 oM) ?_;rintro v ow7 H7 ⟨s7,r7,rfl,hw7,hn7,hl7,rfl,hv7⟩ hle7;refine uR ?_;refine EVL.callW rfl rfl rfl rfl rfl ([(bv,45,s7)]) ([(bw,45,sw)]) rfl (zi6 hw7 hn7.1 oM oM oM) ?_;rintro v ow8 H8 ⟨s8,o8,c8,r8,z8,rfl,hw8,hn8,hl8,hc8,rfl,hd8,ho8⟩ hle8;refine uR ?_;have hr:=zpb (val W64 lv) (val W64 lw) z8 (val W64 r8) w5 oM (by rw[←hv7];exact hd8);have hle9:val W64 r8≤val W64 r7:=by rw[hd8];exact Nat.le_mul_of_pos_left _ (Nat.pow_pos (by decide))
   refine⟨⟨bv,o8,c8,r8,s8,bw,ow,cw,lw,sw⟩,⟨rfl,rfl,rfl,rfl,trivial⟩,⟨rfl,trivial⟩,rfl,⟨⟨hw8,hn8,hc8,by dsimp only;omega,ho8⟩,⟨w1,w2,w3,w4,w5⟩,by dsimp only;rw[hr];exact hgq⟩,(hleG.trans hle7).trans hle8,?_⟩;dsimp only;have:=zti w5;omega
  ·by_cases hlt:zbv (val W64 lv) (val W64 lw)<0
   ·rw[show decide (zbv (val W64 lv) (val W64 lw)<0)=true by simpa using hlt]
    have hvl:val W64 lv<val W64 lw:=by
     unfold zbv at hlt;split at hlt
     ·assumption
     ·split at hlt <;> simp at hlt
    refine EV.permOw [(bw,45,sw),(bv,45,sv)] (zdS _ _) ?_;refine uR ?_;exact⟨⟨bw,ow,cw,lw,sw,bv,ov,cv,lv,sv⟩,⟨rfl,rfl,rfl,rfl,trivial⟩,⟨rfl,trivial⟩,rfl,hle5,⟨⟨w1,w2,w3,w4,w5⟩,⟨v1,v2,v3,v4,v5⟩,by dsimp only;rw[Nat.gcd_comm];exact hgq⟩,hvl,Nat.add_comm _ _⟩
   ·rw[show decide (zbv (val W64 lv) (val W64 lw)<0)=false by simpa using hlt]
    have hvl:val W64 lw<val W64 lv:=by
     unfold zbv at hlt hc0;split at hlt
     ·simp at hlt
     ·rename_i h1;rw[if_neg h1]at hc0;split at hc0
      ·assumption
      ·simp at hc0
    refine uR ?_;exact⟨⟨bv,ov,cv,lv,sv,bw,ow,cw,lw,sw⟩,⟨rfl,rfl,rfl,rfl,trivial⟩,⟨rfl,trivial⟩,rfl,hle5,⟨⟨v1,v2,v3,v4,v5⟩,⟨w1,w2,w3,w4,w5⟩,hgq⟩,hvl,rfl⟩
theorem zs0 (c1 c2:Nat) (h1:big c1) (h2:big c2) (sx sy:Bool) (hsx:c1=0→sx=false) (hsy:c2=0→sy=false) :
  PV prog 77 #[.agg #[.bool sx,.int .u64 (lo c1:Int),.string (zal c1)],.agg #[.bool sy,.int .u64 (lo c2:Int),.string (zal c2)]] (zaD (Nat.gcd c1 c2)):=by
 refine PV.of_pc ?_;refine BD func77 ntmps77 ?_;refine uR ?_
 (apply EV.drawn 7 kR kR;intro xv yw;(repeat (first|refine' DD ?_));refine DJ.nil (fun G hG hF=>?_);(case hS|hS2=>rfl))
 repeat (first|refine RUN ?_|refine CV (zaL c1 c2 h1 h2) ?_|refine CE (zaL c1 c2 h1 h2) ?_)
 refine EV.meet (fun env' bx' H'=>∃u w:Nat,zeq env' [(4,.p 4 0),(5,.p 5 0),(6,.p 6 0)]∧zeu bx' [(4,47,Tryz.te47.zero),(5,47,[.int .u64 (lo u:Int),.string (zal u)]),(6,47,[.int .u64 (lo w:Int),.string (zal w)])]∧H'.ow=[]∧w≤u∧big u∧big w∧Nat.gcd u w=Nat.gcd c1 c2) ?_ ?_
 ·rintro env' bx' ⟨G1,ow1,base1⟩ hb ⟨u,w,he,hbx,how,hwu,hu,hw,hg⟩;obtain rfl:base1=⟨fun _=>none,[]⟩:=hb;obtain rfl:ow1=[]:=how;refine EV.less _ _ he hbx rfl ?_;clear h1 h2 hsx hsy hbx he;generalize Nat.gcd c1 c2=gg at *
  subst hg
  repeat (first|refine RUN ?_|refine CV (zbc w hw) ?_|refine CE (zbc w hw) ?_)
  rw[zbK];by_cases hw0:w=0
  ·subst hw0;rw[qD rfl,Nat.gcd_zero_right];refine uR ?_;rfl
  ·rw[qC hw0]
   repeat (first|refine RUN ?_|refine CV (zeL u w hw0 hu hw) ?_|refine CE (zeL u w hw0 hu hw) ?_)
   have hm:u % w<w:=qo _ oM;have hgr:Nat.gcd u w=Nat.gcd w (u % w):=by rw[Nat.gcd_comm,Nat.gcd_rec,Nat.gcd_comm]
   have hbm:big (u % w):=qI (zud u w) hu;rw[hgr];generalize u % w=r at *
   generalize u / w=qq at *
   clear hgr hwu hu;rw[zfb,zfb];refine uR ?_;refine EV.less [(4,.p 4 0),(5,.p 5 0),(6,.p 6 0),(8,.p 8 0)] ([(5,47,[.int .u64 (lo u:Int),.string (zal u)]),(4,47,Tryz.te47.zero),(6,47,[.int .u64 (lo w:Int),.string (zal w)]),(8,47,[.int .u64 (lo r:Int),.string (zal r)])]) ⟨rfl,rfl,rfl,rfl,trivial⟩ ⟨rfl,rfl,rfl,rfl,trivial⟩ rfl ?_;apply EV.drawnS ([(5,47,[.int .u64 (lo u:Int),.string (zal u)])]) 3 kR kR;intro xv yw;(repeat refine' DD ?_);(refine DJ.nil (fun G hG hF=>?_);(case hS|hS2=>rfl);(case hD=>rfl))
   repeat (first|refine RUN ?_|refine CV (zbc r hbm) ?_|refine CE (zbc r hbm) ?_)
   rw[zbK];by_cases hr0:r=0
   ·subst hr0;rw[qD rfl,Nat.gcd_zero_right];refine uR ?_;rfl
   ·rw[qC hr0]
    repeat (first|refine RUN ?_|refine CV (zcY w) ?_|refine CE (zcY w) ?_)
    by_cases hws:w<W64
    ·have hrs:r<W64:=oM;rw[qD hws,if_pos hws]
     repeat (first|refine RUN ?_|refine CV (zcY r) ?_|refine CE (zcY r) ?_)
     rw[qD hrs,if_pos hrs];refine uR ?_;refine EV.loop (ι:=Nat × Nat) (fun q=>[(4,.p 4 0),(10,.v (n64 q.1)),(12,.v (n64 q.2))]) (fun _=>[(4,47,Tryz.te47.zero)]) (fun _=>[]) (fun q _=>q.1<W64∧q.2<W64∧Nat.gcd q.1 q.2=Nat.gcd w r) (fun q=>q.2) (w,r) ⟨rfl,rfl,rfl,trivial⟩ ⟨rfl,trivial⟩ rfl (fun _=>rfl) ⟨hws,hrs,rfl⟩ ?_;rintro⟨m,k⟩ G2 hG2 ⟨hms,hks,hgk⟩;dsimp only at hms hks hgk;refine uR ?_;by_cases hk0:k=0
     ·subst hk0;rw[show decide ((((m,0):Nat × Nat).2:Int)>0)=false from rfl];rw[Nat.gcd_zero_right]at hgk
      repeat (first|refine RUN ?_|refine CV (zcw m hms) ?_|refine CE (zcw m hms) ?_)
      rw[hgk]
     ·rw[show decide ((((m,k):Nat × Nat).2:Int)>0)=true by simp;omega];refine uR ?_;apply EV.drawn 6 kR kR;intro xv yw;(repeat refine' DD ?_);refine' DJ.ofVal (zab.rem rfl rfl rfl rfl (show ((k:Nat):Int)≠0 by omega)) rfl rfl rfl ?_;rotate_left;(repeat refine' DD ?_);(refine DJ.nil (fun G hG hF=>?_);(case hS|hS2=>rfl));rw[show (((m,k):Nat × Nat).1:Int).tmod (((m,k):Nat × Nat).2:Int)=((m % k:Nat):Int) from zkB m k];refine uR ?_;refine⟨(k,m % k),⟨rfl,rfl,rfl,trivial⟩,⟨rfl,trivial⟩,rfl,⟨hks,Nat.lt_of_le_of_lt (Nat.mod_le m k) hms,?_⟩,hG,qo _ oM⟩
      ·dsimp only;rw[←hgk,Nat.gcd_comm m k,Nat.gcd_rec k m,Nat.gcd_comm]
    ·rw[qC hws]
     repeat (first|refine RUN ?_|refine CV (zh7 w r hw0 hr0 hw hbm) ?_|refine CE (zh7 w r hw0 hr0 hw hbm) ?_)
     rfl
 ·by_cases hlt:c1<c2
  ·rw[zco hlt,show decide ((-1:Int)<0)=true from rfl];refine uR ?_;exact⟨c2,c1,⟨rfl,rfl,rfl,trivial⟩,⟨rfl,rfl,rfl,trivial⟩,rfl,by omega,h2,h1,Nat.gcd_comm _ _⟩
  ·rw[show decide (zbv c1 c2<0)=false by unfold zbv;rw[if_neg hlt];split <;> rfl];refine uR ?_;exact⟨c1,c2,⟨rfl,rfl,rfl,trivial⟩,⟨rfl,rfl,rfl,trivial⟩,rfl,by omega,h1,h2,rfl⟩
theorem zjF (a b:Int) (ha:ze3 a) (hb:ze3 b):PV prog 77 #[zd9 a,zd9 b] (zaD (Nat.gcd a.natAbs b.natAbs)) :=
 zs0 a.natAbs b.natAbs ha hb _ _ (fun h=>by simp;omega) (fun h=>by simp;omega)
end Go.Proofs.YteoollbcdpfkpaaGreatDoor
