/- Texts of ours in one: Tz, Gc3, Gc4, Gc5, GcdS, Fr1, Fr2, Fr3, Ha1, Ha2, Ls1, Ls2, Ls3, Fr4, NearP, NearQ, SimpP, SimpS, Lw1, Lw2, Str1, Lw3, Lw4, Simp, Simp2, Simp3, Simp4, Ls4, Ls5, Ls6, Gn1, Gn2, Gn3, Gn7, Ev22, Gn8, Gn4, Gn5, Gn9, Gn6, Ev23, Gn10, Gn11, Seq, Sorted, DicePlain, Lists, SortPlain, Asc, GnC, Gn12, Gn13, Gn14. -/
import Derived.Test.YtkeklikocibiaaaGreatDoorF0
import Derived.Test.YtkeklikocibiaaaGreatDoorF1
import Derived.Test.YtkeklikocibiaaaGreatDoorF2
import Derived.Shelf.Spec.TrailingZeros
import Derived.Test.YtkeklikocibiaaaGreatDoorProg
import Derived.RangeFuncBox
import Derived.RangeFuncLeaves
import Derived.Shelf.Abstract
import Derived.OwnWalkIn
import Derived.TacticsInMore
import Derived.LoopNIn
import Derived.LoopIn
import Derived.Maps.AppendAt
import Derived.Test.YtkeklikocibiaaaGreatDoorRows
import Derived.WalkKit
import Derived.Sort.OwnSortedInts
import Derived.Lib.SlicesCompact
set_option linter.unusedVariables false
set_option linter.unusedSimpArgs false
set_option maxHeartbeats 64000000
namespace Go.Proofs.YtkeklikocibiaaaGreatDoor
section
open Go.RowKit
def Tryz.lays7n29_ren:Go.Shelf.Ren:=⟨fun | 29=>211 | n=>n,fun | 0=>0 | 3=>3 | 4=>4 | 5=>5 | 22=>45 | 25=>136 | 54=>310 | n=>n,fun | 1=>2 | n=>n⟩
theorem Tryz.lays7n29:Go.Proofs.Lays7.n29 Tryz.prog Tryz.lays7n29_ren:={
 mixed:=by kernel_rfl
 f29:=Tryz.func211.trans (congrArg some kR)
 t0:=by kernel_rfl
 a0:=fun _=>by kernel_rfl
 z0:=fun _=>by kernel_rfl
 v0:=fun _=>by kernel_rfl
 i0:=by kernel_rfl
 t3:=by kernel_rfl
 a3:=fun _=>by kernel_rfl
 z3:=fun _=>by kernel_rfl
 v3:=fun _=>by kernel_rfl
 i3:=by kernel_rfl
 t4:=by kernel_rfl
 a4:=fun _=>by kernel_rfl
 z4:=fun _=>by kernel_rfl
 v4:=fun _=>by kernel_rfl
 i4:=by kernel_rfl
 t5:=by kernel_rfl
 a5:=fun _=>by kernel_rfl
 z5:=fun _=>by kernel_rfl
 v5:=fun _=>by kernel_rfl
 i5:=by kernel_rfl
 t22:=by kernel_rfl
 a22:=fun _=>by kernel_rfl
 z22:=fun _=>by kernel_rfl
 v22:=fun _=>by kernel_rfl
 i22:=by kernel_rfl
 t25:=by kernel_rfl
 a25:=fun _=>by kernel_rfl
 z25:=fun _=>by kernel_rfl
 v25:=fun _=>by kernel_rfl
 i25:=by kernel_rfl
 t54:=by kernel_rfl
 a54:=fun _=>by kernel_rfl
 z54:=fun _=>by kernel_rfl
 g1:=by kernel_rfl }
theorem XJ (x:Nat) (hx:x<W64):PV Tryz.prog 211 #[n64 x] (.int .i64 (Lib.ctz 64 x:Int)):=by
 refine⟨(cO Tryz.func211),fun W hg=>?_⟩;refine(Any7.bits_TrailingZeros64 Tryz.lays7n29 x hx W (fun _ j hj=>?_)).mono fun e W' ⟨he,hW⟩=>⟨he,by rw[hW];exact Below.refl _ _⟩;have hgH:gH 2=some (Lib.deBruijn64tab.map fun (z:Nat)=>Value.int .u8 (z:Int)).toArray:=by unfold gH;rw[Nat.beq_refl]
 obtain⟨T,fz,hc⟩:=hg _ _ hgH;have:=cell_of_row W 2 j _ T fz hc;refine this.trans ?_;simp only[List.getElem?_toArray,qK,qB,qA hj];rfl
end
section
open Go.RowKit _root_.Go.Proofs.Tryz
theorem LS {H:Hp} {b off cap:Nat} {T:TypeId} {cs:List Value} {l:List Nat} (hw:Wn cs off l) (hl:Dig W64 l) (dc:l.length<=100000000) (h0:val W64 l≠0) :
  PW prog 167 #[.slice (some ⟨b,off,none⟩) l.length cap] H [(b,T,cs)] fun v ow _=>ow=[(b,T,cs)]/\∃z m:Nat,v=.int .i64 (z:Int)/\val W64 l=2 ^ z*m/\m % 2=1/\z<64*l.length:=by
 refine PW.body tO func167 Z kR ntmps167 Z Z ?_;refine uR ?_
 refine EV.loop (ι:=Nat) (fun i=>[(0,.v (.slice (some ⟨b,off,none⟩) l.length cap)),(3,.v (.int .i64 (i:Int)))]) (fun _=>[]) (fun _=>[(b,T,cs)])
  (fun i _=>∀j,j<i->l.getD j 0=0) (fun i=>l.length-i) 0 ⟨Z,Z,trivial⟩ trivial rfl (fun _=>rfl) (fun j hj=>absurd hj (Nat.not_lt_zero _)) ?_
 rintro i G hG hz
 have hi:i<l.length:=by
  refine Nat.lt_of_not_le fun h=>h0 ?_;have:=ME (B:=W64) i hz
  rwa [qO h]at this
 have hx:=hw.2 i hi;refine uR ?_;refine EVL.idxO tO Z Z Z Z Z Z Z Z Z Z (i) (rfl) (hi) ?_;refine EVL.load1 tO Z Z Z Z Z Z Z Z (0) Z (hx) ?_;refine uR ?_;by_cases Js:l.getD i 0=0
 ·rw[Js,show (((0:Nat):Int) == 0)=true from rfl];refine uR ?_;refine⟨i+1,⟨rfl,?_,trivial⟩,trivial,rfl,fun j hj=>?_,Hp.Le.refl _,by omega⟩
  ·rw[aO i (by omega)];rfl
  ·by_cases e:j=i
   ·subst e;exact Js
   ·exact hz j oM
 ·rw[show (((l.getD i 0:Nat):Int) == 0)=false by simpa using Js];obtain⟨m,hv,hm,hc⟩:=zqY hl hz Js;have VM:=XJ (l.getD i 0) (hl.getD (by decide) i);refine uR ?_;refine EVL.idxO tO Z Z Z Z Z Z Z Z Z Z (i) (rfl) (hi) ?_;refine EVL.load1 tO Z Z Z Z Z Z Z Z (0) Z (hx) ?_
  repeat (first|refine RUN ?_|refine CV (VM) ?_|refine CE (VM) ?_)
  refine⟨rfl,64*i+Lib.ctz 64 (l.getD i 0),m,?_,hv,hm,by omega⟩;rw[show IntKind.i64.wrap (64*(i:Int))=((64*i:Nat):Int) from KG 64 i oM,BW _ _ (by omega)]
theorem zjA {α:Type} (s m:List α) (i:Nat) (h:i<s.length) (hl:s.length=m.length):(s.take i++m.drop i).set i s[i]=s.take (i+1)++m.drop (i+1):=by
 have hm:i<m.length:=oM;rw[List.set_append_right _ _ (by rw[qP];omega),qP,qn oM,Nat.sub_self,qp hm,List.set_cons_zero,qS h,qZ];rfl
theorem SR (s m:List Nat) (i j:Nat) (hl:s.length=m.length) (h:i<=j):(s.take i++m.drop i).getD j 0=m.getD j 0:=by
 by_cases hi:i<=s.length
 ·rw[qB,qL (by rw[qP];omega),qP,qn hi,List.getElem?_drop,show i+(j-i)=j by omega,<-qB]
 ·rw[qB,qe (by simp;omega),qB,qe (by omega)]
theorem Lq {H:Hp} {b off cap:Nat} {T:TypeId} {cs:List Value} {l:List Nat} (hw:Wn cs off l) (hl:Dig W64 l) (dc:l.length<=100000000) (hc:l.length<=cap) (h0:val W64 l≠0) :
  PW prog 168 #[.slice (some ⟨b,off,none⟩) l.length cap] H [(b,T,cs)] fun v ow _=>∃Hb EA xO r z,ow=[(b,T,Hb)]/\Wn Hb EA r/\eM W64 r/\r.length<=l.length/\r.length<=xO/\v=.slice (some ⟨b,EA,none⟩) r.length xO/\val W64 l=2 ^ z*val W64 r/\val W64 r % 2=1:=by
 refine PW.body tO func168 Z kR ntmps168 Z Z ?_;refine uR ?_;refine vW ([(b,T,cs)]) ([]) (LS hw hl dc h0) ?_;rintro v ow H' ⟨rfl,z,m,rfl,hv,hm,hz⟩ hle;have eP:z / 64<l.length:=oM;refine uR ?_;refine EVL.asI (((z / 64:Nat):Int)) (vD z 64 oM) ?_;refine uR ?_;refine EVL.slc tO Z Z Z Z Z Z Z Z (z / 64) l.length (.inr ⟨_,IntKind.i64,rfl,rfl⟩) (.inl ⟨rfl,rfl⟩) oM hc hc ?_;refine EVL.as (congrArg SV.v (YU b off (z / 64) l.length cap oM)) ?_;refine uR ?_;rw[show (z:Int).tmod 64=((z % 64:Nat):Int) from Dx z 64];generalize hq:z / 64=q at *
 generalize hp:z % 64=p at *
 have hpz:z=64*q+p:=oM;have AR:p<64:=oM;have hlen:(l.drop q).length=l.length-q:=qt ..;have NL:=hw.drop q oM;have Wj:Dig W64 (l.drop q):=hl.drop q;have aG:=Zi l q p hl AR oM;rw[<-hpz]at aG;have hdiv:val W64 l / 2 ^ z=m:=by rw[hv];exact Nat.mul_div_cancel_left _ (Nat.pow_pos (by decide))
 rw[hdiv]at aG;rw[<-hlen];generalize l.drop q=d at *
 have bA:=Mz p d;have hsD:=S8 p AR Wj
 refine EV.loop (ι:=Nat × List Value) (fun s=>[(0,.v (.slice (some ⟨b,off+q,none⟩) d.length (cap-q))),(4,.v (.int .i64 (p:Int))),(15,.v (.int .i64 (d.length:Int))),(16,.v (.int .i64 (s.1:Int)))]) (fun _=>[]) (fun s=>[(b,T,s.2)])
  (fun s _=>s.1<=d.length/\Wn s.2 (off+q) ((dW p d).take s.1++d.drop s.1)) (fun s=>d.length-s.1) (0,cs) ⟨Z,Z,Z,Z,trivial⟩ trivial rfl (fun _=>rfl) ⟨qQ _,by simpa using NL⟩ ?_
 rintro⟨i,cu⟩ G hG ⟨hi,jn⟩;dsimp only at hi jn;refine uR ?_;by_cases af:i<d.length
 ·rw[tX _ _ af];have bY:i<((dW p d).take i++d.drop i).length:=by simp;omega
  have xm:=jn.2 i bY;rw[SR _ _ i i bA (qH _)]at xm;have hx:=Wj.getD (by decide) i;have aL:=La p d i oM;have jc:=zjA (dW p d) d i oM bA;have cG:off+q+i<cu.length:=by have:=jn.1;omega
  rw[aL]at jc;refine uR ?_;refine EVL.idxO tO Z Z Z Z Z Z Z Z Z Z (i) (rfl) (af) ?_;refine EVL.load1 tO Z Z Z Z Z Z Z Z (0) Z (xm) ?_;refine uR ?_;rw[show min p IntKind.u64.bits=p from qn (by show p<=64;omega),Hm];refine EVL.idxO tO Z Z Z Z Z Z Z Z Z Z (i) (rfl) (af) ?_;refine EVL.setO tO Z Z Z Z Z Z Z ([]) Z Z Z (cG) ?_;have th:=jn.set i (d.getD i 0 / 2 ^ p) bY;refine uR ?_;rw[aO i (by omega)];by_cases ew:i+1<d.length
  ·rw[tX _ _ ew];have hy:=th.2 (i+1) (by simp;omega);rw[getD_set_ne _ _ _ _ oM,SR _ _ i (i+1) bA (by omega)]at hy;have gA:=th.2 i (by simp;omega);rw[yC _ _ _ bY]at gA;refine uR ?_;apply EV.drawn 13 kR kR;intro xv yw;(repeat refine' DD ?_);refine' DJ.ofVal (az.idxO tO Z Z Z Z Z Z Z Z (i) (rfl) (af)) Z Z Z ?_;rotate_left;refine' DJ.ofVal (az.load1 tO Z Z Z Z Z Z (0) Z (gA)) Z Z Z ?_;rotate_left;(repeat refine' DD ?_);refine' DJ.ofVal (az.idxO tO Z Z Z Z Z Z Z Z (i+1) (aO i oM) (ew)) Z Z Z ?_;rotate_left;refine' DJ.ofVal (az.load1 tO Z Z Z Z Z Z (0) Z (hy)) Z Z Z ?_;rotate_left;(repeat refine' DD ?_);refine' DJ.ofVal (az.shl Z Z Z Z (by rw[pL];omega)) Z Z Z ?_;rotate_left;(repeat refine' DD ?_);(refine DJ.nil (fun G hG hF=>?_);(case hS|hS2=>rfl));refine uR ?_;rw[show IntKind.i64.wrap (64-(p:Int))=((64-p:Nat):Int) by rw[pL];omega,qU,show min (64-p) IntKind.u64.bits=64-p from qn (by show _<=64;omega)];refine EVL.idxO tO Z Z Z Z Z Z Z Z Z Z (i) (rfl) (af) ?_;refine EVL.setO tO Z Z Z Z Z Z Z ([]) Z Z Z ((by rw[List.length_set];exact cG)) ?_;refine uR ?_;have mO:=(K9 (d.getD i 0) (d.getD (i+1) 0) p AR hx).1;have F6:=th.set i (d.getD i 0 / 2 ^ p+d.getD (i+1) 0*2 ^ (64-p) % W64) (by simpa using bY);rw[List.set_set,List.set_set,jc]at F6;refine⟨(i+1,cu.set (off+q+i) (n64 (d.getD i 0 / 2 ^ p+d.getD (i+1) 0*2 ^ (64-p) % W64))),⟨rfl,rfl,rfl,?_,trivial⟩,trivial,?_,⟨by dsimp only;omega,F6⟩,hG,by dsimp only;omega⟩
   ·rw[aO i (by omega)];rfl
   ·dsimp only;refine(congrArg (fun c=>[(b,T,c)]) (List.set_set ..)).trans ?_;exact congrArg (fun v=>[(b,T,cu.set (off+q+i) v)]) (congrArg (Value.int .u64) mO)
  ·rw[ue _ _ ew];refine uR ?_;rw[show d.getD (i+1) 0=0 by simp[Nat.not_lt.1 ew],Nat.zero_mul,Nat.zero_mod,qY]at jc;rw[jc]at th;refine⟨(i+1,cu.set (off+q+i) (n64 (d.getD i 0 / 2 ^ p))),⟨rfl,rfl,rfl,?_,trivial⟩,trivial,rfl,⟨by dsimp only;omega,th⟩,Hp.Le.refl _,by dsimp only;omega⟩;rw[aO i (by omega)];rfl
 ·rw[ue _ _ af];obtain rfl:i=d.length:=oM;rw[qO oM,qi (qH _),qG]at jn;have ht:=Sd (H:=G) (b:=b) (T:=T) (cap:=cap-q) jn oM oM;rw[bA]at ht;refine uR ?_;refine vW ([(b,T,cu)]) ([]) (ht) ?_;rintro v ow H2 ⟨rfl,rfl⟩ du;refine uR ?_;have hZ:=Cw (dW p d);refine⟨cu,off+q,cap-q,cg (dW p d),z,rfl,?_,Ei hsD,by omega,by omega,rfl,?_,?_⟩
  ·have:=jn.take (cg (dW p d)).length
   rwa [IZ]at this
  ·rw[Cq,aG,hv]
  ·rw[Cq,aG,hm]
theorem TD (n:Nat) (hn:big n) (H:Hp):PW prog 166 #[aH n] H [] fun v ow _=>∃g,v=.slice (some ⟨g,0,none⟩) (dig W64 n).length (dig W64 n).length/\ow=[(g,45,(dig W64 n).map n64)]:=by
 have jF:(ku n).length=(bl n+7) / 8:=by
  have:=ur 8 n oM;rw[show (2:Nat) ^ 8=256 by decide]at this;rw[Eg,this];omega
 have wC:(dig W64 n).length=((ku n).length+7) / 8:=by
  have:=ur 64 n oM;rw[<-fB]at this;rw[this,jF];omega
 have hD:=Ln n;have bn:pk 8 256 (ku n).reverse (dig W64 n).length=dig W64 n:=Zf n _ rfl (by rw[<-Eg];omega);have hb:=UT n hn;refine PW.body tO func166 Z kR ntmps166 Z Z ?_;refine uR ?_;refine vA (hb _) ?_;rintro v H1 hs hle;generalize hm:(dig W64 n).length=m at *
 generalize dig W64 n=dn at *
 generalize ku n=l at *
 obtain⟨a,cap,rfl⟩:=SlC.val hs;refine uR ?_;rw[show IntKind.i64.wrap ((l.length:Int)+7)=((l.length+7:Nat):Int) from BW _ 7 (by omega)];refine EVL.asI ((m:Int)) ((by rw[wC];exact vD _ 8 oM)) ?_;refine EVL.make tO Z Z Z Z Z Z Z Z Z (m) (rfl) oM (by rfl) (by rfl) fun g=>?_;refine uR ?_
 have e0:(List.replicate m (aa45.zero)).flatten=(pk 8 256 (l.reverse.take 0) m).map n64:=by
  rw[List.take_zero,Hx,List.map_replicate];rw[show (aa45.zero)=[n64 0] from rfl];simp
 rw[e0]
 refine EV.loop (ι:=Nat) (fun i=>[(3,.v (.slice a l.length cap)),(4,.v (.slice (some ⟨g,0,none⟩) m m)),(14,.v (.int .i64 (l.length:Int))),(15,.v (.int .i64 (i:Int)))]) (fun _=>[]) (fun i=>[(g,45,(pk 8 256 (l.reverse.take i) m).map n64)])
  (fun i G=>i<=l.length/\SlN n8 G (.slice a l.length cap) l) (fun i=>l.length-i) 0 ⟨Z,Z,Z,Z,trivial⟩ trivial rfl (fun _=>rfl) ⟨qQ _,hs⟩ ?_
 rintro i G hG ⟨hi,hs⟩;refine uR ?_;by_cases af:i<l.length
 ·have iP:i / 8<m:=oM;have ft:(l.reverse.take i).length=i:=by rw[qP,List.length_reverse];omega
  have hx:l.getD (l.length-1-i) 0<256:=hD.getD (by decide) _;have ed:(l.map n8)[l.length-1-i]?=some (n8 (l.getD (l.length-1-i) 0)):=iV oM;have fI:((pk 8 256 (l.reverse.take i) m).map n64)[i / 8]?=some (n64 ((pk 8 256 (l.reverse.take i) m).getD (i / 8) 0)):=iV (by rw[jv];exact iP);have cU:=Q2 (K:=8) (B:=256) (by decide) ((hD.rev).take i) m (by rw[ft];omega);rw[ft]at cU;have fk:=KT (K:=8) (B:=256) (l:=l.reverse.take i) (by decide) m (l.getD (l.length-1-i) 0) (by rw[ft];omega);rw[ft]at fk;rw[tX _ _ af];refine uR ?_;apply EV.drawn 18 kR kR;intro xv yw;(repeat refine' DD ?_);refine' DJ.ofVal (az.idxP1 tO Z Z Z Z Z Z Z Z (i / 8) (q8 i oM) iP) Z Z Z ?_;rotate_left;refine' DJ.ofVal (az.load1 tO Z Z Z Z Z Z (0) Z (fI)) Z Z Z ?_;rotate_left;(repeat refine' DD ?_);refine' DJ.ofVal (az.idx1 tO Z Z Z Z Z Z Z Z (hs) (l.length-1-i) (zz _ _ af oM) oM (ed)) Z Z Z ?_;rotate_left;(repeat refine' DD ?_);refine' DJ.ofVal (az.shl Z Z Z Z (by rw[r8];omega)) Z Z Z ?_;rotate_left;(refine DJ.nil (fun G hG hF=>?_);(case hS|hS2=>rfl));rw[r8,qU];refine uR ?_;rw[R4 _ _ _ (by rw[Nat.pow_mul];exact cU) hx (by omega)];refine EVL.idx0 tO Z Z Z Z Z Z Z Z Z Z (i / 8) (q8 i oM) (iP) ?_;refine EVL.setO tO Z Z Z Z Z Z Z ([]) Z Z Z ((by rw[qV,jv];exact iP)) ?_;refine uR ?_
  have dr:l.reverse.take (i+1)=l.reverse.take i++[l.getD (l.length-1-i) 0]:=by
   rw[qS (by rw[List.length_reverse];exact af),List.getElem_reverse,qB,qA (show l.length-1-i<l.length by omega)];rfl
  refine⟨i+1,⟨rfl,rfl,rfl,?_,trivial⟩,trivial,?_,⟨by omega,hs.mono hG⟩,hG,by omega⟩
  ·rw[aO i (by omega)];rfl
  ·rw[dr,fk,List.map_set,show (256:Nat) ^ (i % 8)=2 ^ (8*(i % 8)) by rw[Nat.pow_mul]];rfl
 ·rw[ue _ _ af];obtain rfl:i=l.length:=oM;rw[qO (by rw[List.length_reverse];exact qH _),bn];refine uR ?_;exact⟨g,rfl,rfl⟩
theorem zoC {H:Hp} {b off cap:Nat} {T:TypeId} {cs:List Value} {l:List Nat} (hw:Wn cs off l) (hl:Dig W64 l) (dc:l.length<=20000000) :
  PW prog 171 #[.slice (some ⟨b,off,none⟩) l.length cap] H [(b,T,cs)] fun v ow _=>ow=[(b,T,cs)]/\v=aH (val W64 l):=by
 refine PW.body tO func171 Z kR ntmps171 Z Z ?_;refine uR ?_;rw[show IntKind.i64.wrap (8*(l.length:Int))=((8*l.length:Nat):Int) from KG 8 l.length (by omega)];generalize hN:8*l.length=N at *
 refine EVL.make tO Z Z Z Z Z Z Z Z Z (N) (rfl) oM (by rfl) (by rfl) fun g=>?_;refine EVL.apart fun lG=>?_
 have nQ:b≠g:=fun e=>by
  subst e;have:=lG 0 1 b _ _ _ _ Z Z;cases this
 refine uR ?_
 have e0:(List.replicate N (aa5.zero)).flatten=(List.replicate N 0).map n8:=by
  rw[List.map_replicate,show (aa5.zero)=[n8 0] from rfl];simp
 rw[e0]
 refine EV.loop (ι:=Nat × List Nat) (fun q=>[(2,.p 2 0),(0,.v (.slice (some ⟨b,off,none⟩) l.length cap)),(3,.v (.slice (some ⟨g,0,none⟩) N N)),(10,.v (.int .i64 (N:Int))),(11,.v (.int .i64 (q.1:Int)))]) (fun _=>[(2,47,aa47.zero)]) (fun q=>[(g,5,q.2.map n8),(b,T,cs)])
  (fun q _=>q.1<=N/\q.2.length=N/\Dig 256 q.2/\∀j,j<q.1->q.2.getD (N-1-j) 0=val W64 l / 256 ^ j % 256) (fun q=>N-q.1) (0,List.replicate N 0) ⟨Z,Z,Z,Z,Z,trivial⟩ ⟨Z,trivial⟩ rfl (fun _=>rfl) ⟨qQ _,by simp,Dig.zeros (by decide) _,fun j hj=>absurd hj (Nat.not_lt_zero _)⟩ ?_
 rintro⟨i,cur⟩ G hG ⟨hi,hlen,PD,bC⟩;dsimp only at hi hlen bC PD;refine uR ?_;by_cases af:i<N
 ·have wC:i / 8<l.length:=oM;have aQ:=MK (C:=256) (k:=8) (by decide) (by decide) (l:=l) (by rw[<-ug];exact hl) i;rw[<-ug,show (256:Nat) ^ (i % 8)=2 ^ (8*(i % 8)) by rw[Nat.pow_mul]]at aQ;have NL:=hl.getD (by decide) (i / 8);rw[tX _ _ af];refine uR ?_;rw[zz N i af (by omega)];refine EVL.asI (((i / 8:Nat):Int)) (q8 i oM) ?_;refine EVL.idxO tO Z Z Z Z Z Z Z Z Z Z (i / 8) (rfl) (wC) ?_;refine EVL.load1 tO Z Z Z Z Z Z Z Z (1) Z (hw.2 (i / 8) wC) ?_;refine uR ?_;rw[r8];refine uR ?_;rw[St _ _ NL oM,aQ];refine EVL.idx0 tO Z Z Z Z Z Z Z Z Z Z (N-1-i) (rfl) oM ?_;refine EVL.setO tO Z Z Z Z Z Z Z ([]) Z Z Z ((by rw[qV,hlen];omega)) ?_;refine uR ?_;refine⟨(i+1,cur.set (N-1-i) (val W64 l / 256 ^ i % 256)),⟨rfl,rfl,rfl,rfl,?_,trivial⟩,⟨Z,trivial⟩,?_,⟨by dsimp only;omega,by dsimp only;rw[List.length_set];exact hlen,PD.set _ _ (qm _ (by decide)),fun j hj=>?_⟩,Hp.Le.refl _,by dsimp only;omega⟩
  ·rw[aO i (by omega)];rfl
  ·dsimp only;rw[List.map_set];rfl
  ·dsimp only at hj ⊢;by_cases e:j=i
   ·subst e;exact yC _ _ _ oM
   ·rw[getD_set_ne _ _ _ _ (by omega)];exact bC j oM
 ·rw[ue _ _ af];obtain rfl:i=N:=oM;have Wg:=cZ hl;have hb:=znx (val W64 l) i cur (by rw[<-hN,Nat.pow_mul,<-ug];exact Wg) hlen bC;refine uR ?_
  refine EVL.publish [] [(b,T,cs)] Z (fun G2 ai hg=>?_) (fun k hk=>by
   obtain rfl:k=b:=by simpa[Ows.bs] using hk
   exact nQ)
  have bA:SlN n8 G2 (.slice (some ⟨g,0,none⟩) i i) cur:=by
   unfold SlN;rw[hlen];exact⟨by simp[hlen],.inr ⟨g,0,i,_,rfl,qH _,hg,fun j x hj=>by simpa using hj⟩⟩
  have hf:=Vh bA PD oM;rw[hb]at hf;refine vA (hf) ?_;rintro v H2 rfl hle;refine uR ?_;exact⟨rfl,rfl⟩
structure OW (b off cap:Nat) (cs:List Value) (l:List Nat):Prop where
 at_:Wn cs off l
 norm:eM W64 l
 cap:l.length<=cap
 len:l.length<=20000000
 odd:val W64 l % 2=1
structure BSt where
 (bv ov cv:Nat) (lv:List Nat) (sv:List Value)
 (bw ow cw:Nat) (lw:List Nat) (sw:List Value)
def BSt.env (q:BSt) (t:Int):Env:=[(4,.p 4 0),(5,.v (.slice (some ⟨q.bv,q.ov,none⟩) q.lv.length q.cv)),(6,.v (.slice (some ⟨q.bw,q.ow,none⟩) q.lw.length q.cw)),(7,.v (.int .i64 t))]
def BSt.own (q:BSt):Ows:=[(q.bv,45,q.sv),(q.bw,45,q.sw)]
structure BSt.ok (q:BSt) (g:Nat):Prop where
 v:OW q.bv q.ov q.cv q.sv q.lv
 w:OW q.bw q.ow q.cw q.sw q.lw
 gcd:Nat.gcd (val W64 q.lv) (val W64 q.lw)=g
theorem Yz {n:Nat} (h:n % 2=1):n≠0:=oM
theorem Ce {α:Type} (a b:α):List.Perm [a,b] [b,a]:=List.Perm.swap b a []
theorem zpM {a b:Nat} (h:br a b=0):a=b:=by
 unfold br at h;split at h
 ·cases h
 ·split at h
  ·cases h
  ·omega
theorem Mn (n:Nat):aH n=.agg #[.int .u64 (lo n:Int),.string (aU n)]:=rfl
theorem Ul (x y:Nat) (hx:x≠0) (hy:y≠0) (lJ:big x) (o0:big y):PV prog 130 #[aH x,aH y] (aH (Nat.gcd x y)):=by
 have lx:(dig W64 x).length<=20000000:=qI (pX lJ) (by decide);have ly:(dig W64 y).length<=20000000:=qI (pX o0) (by decide);have yX:=fun G=>PO.of_pw ((TD x lJ G).mono (Ψ:=fun v ow _=>ow.length<=1/\∃g,v=.slice (some ⟨g,0,none⟩) (dig W64 x).length (dig W64 x).length/\ow=[(g,45,(dig W64 x).map n64)]) fun v ow H' _ ⟨g,h1,h2⟩=>⟨by rw[h2];simp,g,h1,h2⟩);have Oq:=fun G=>PO.of_pw ((TD y o0 G).mono (Ψ:=fun v ow _=>ow.length<=1/\∃g,v=.slice (some ⟨g,0,none⟩) (dig W64 y).length (dig W64 y).length/\ow=[(g,45,(dig W64 y).map n64)]) fun v ow H' _ ⟨g,h1,h2⟩=>⟨by rw[h2];simp,g,h1,h2⟩);have dx:=eo cm x;have dy:=eo cm y;have vx:=cW cm x;have vy:=cW cm y;generalize dig W64 x=xM at *
 generalize dig W64 y=tD at *
 have ET:val W64 xM≠0:=by rw[vx];exact hx
 have ER:val W64 tD≠0:=by rw[vy];exact hy
 refine PV.of_pc ?_;refine BD func130 ntmps130 ?_;refine uR ?_;apply EV.drawn 6 kR kR;intro x1 y1;(repeat refine' DD ?_);refine' DJ.callO Z Z Z Z Z (yX gH).can (fun G _ _=>yX G) ?_;rotate_left;(repeat refine' DD ?_);refine' DJ.callO Z Z Z Z Z (Oq gH).can (fun G _ _=>Oq G) ?_;rotate_left;refine' DJ.copy (0+1) (.inr Z) Z Z Z id Z kR ?_;rotate_left;refine' DJ.copy (0+1+1+1) (.inr Z) Z Z Z id Z kR ?_;rotate_left;(refine DJ.nil (fun G hG hF=>?_);(case hS|hS2=>rfl));obtain⟨⟨gy,ey,oy⟩,⟨gx,ex,ox⟩,_⟩:=hF;simp only[ex,ey,ox,oy,id];clear yX Oq ex ey ox oy;refine uR ?_;refine EVL.permOw [(gx,45,xM.map n64),(gy,45,tD.map n64)] (Ce _ _) ?_;refine EVL.callW Z Z Z Z Z ([(gx,45,xM.map n64)]) ([(gy,45,tD.map n64)]) Z (LS (Wn.of xM) dx.1 oM ET) ?_;rintro v ow H1 ⟨rfl,zx,mx,rfl,Vz,hmx,hzx2⟩ O1;refine uR ?_;refine EVL.permOw [(gy,45,tD.map n64),(gx,45,xM.map n64)] (Ce _ _) ?_;refine EVL.callW Z Z Z Z Z ([(gy,45,tD.map n64)]) ([(gx,45,xM.map n64)]) Z (LS (Wn.of tD) dy.1 oM ER) ?_;rintro v ow H2 ⟨rfl,zy,my,rfl,Vy,Wc,hzy2⟩ du;refine uR ?_;rw[show (if (zy:Int)<(zx:Int) then (zy:Int) else (zx:Int))=((min zx zy:Nat):Int) by split <;> omega];refine uR ?_;refine EVL.permOw [(gx,45,xM.map n64),(gy,45,tD.map n64)] (Ce _ _) ?_;refine EVL.callW Z Z Z Z Z ([(gx,45,xM.map n64)]) ([(gy,45,tD.map n64)]) Z (Lq (Wn.of xM) dx.1 oM (qH _) ET) ?_;rintro v ow H3 ⟨sx,ox,cx,rx,XB,rfl,VF,uJ,JK,xm,rfl,JW,JF⟩ wZ;refine uR ?_;refine EVL.permOw [(gy,45,tD.map n64),(gx,45,sx)] (Ce _ _) ?_;refine EVL.callW Z Z Z Z Z ([(gy,45,tD.map n64)]) ([(gx,45,sx)]) Z (Lq (Wn.of tD) dy.1 oM (qH _) ER) ?_;rintro v ow H4 ⟨sy,oy,cy,ry,XA,rfl,VE,Wa,nO,xk,rfl,Pu,JE⟩ O0;refine EVL.permOw [(gx,45,sx),(gy,45,sy)] (Ce _ _) ?_
 have Pp:Nat.gcd x y=2 ^ min zx zy*Nat.gcd (val W64 rx) (val W64 ry):=by
  have e1:zx=XB:=SP (by rw[<-Vz,JW]) hmx JF;have e2:zy=XA:=SP (by rw[<-Vy,Pu]) Wc JE;subst e1 e2;rw[<-vx,<-vy];exact znR _ _ zx zy _ _ JW Pu JF JE
 have wG:min zx zy<=1300000000:=oM;generalize min zx zy=tw at *
 generalize hg:Nat.gcd (val W64 rx) (val W64 ry)=g at *
 have WI:big (Nat.gcd x y):=qI (zln x y hx) lJ;generalize Nat.gcd x y=gg at *
 refine uR ?_
 refine EV.loop (ι:=BSt) (fun q=>q.env (tw:Int)) (fun _=>[(4,47,aa47.zero)]) (fun q=>q.own) (fun q _=>q.ok g) (fun q=>val W64 q.lv+val W64 q.lw) ⟨gx,ox,cx,rx,sx,gy,oy,cy,ry,sy⟩
  ⟨Z,Z,Z,Z,trivial⟩ ⟨Z,trivial⟩ rfl (fun _=>rfl) ⟨⟨VF,uJ,xm,qI JK lx,JF⟩,⟨VE,Wa,xk,qI nO ly,JE⟩,hg⟩ ?_
 clear JW Pu Vz Vy VF uJ JK xm VE Wa nO xk JF JE O1 du wZ O0 hg;rintro⟨bv,ov,cv,lv,sv,bw,ow,cw,lw,sw⟩ G hG ⟨⟨v1,v2,v3,v4,v5⟩,⟨w1,w2,w3,w4,w5⟩,jk⟩;dsimp only at v1 v2 v3 v4 v5 w1 w2 w3 w4 w5 jk;unfold BSt.env BSt.own;dsimp only;refine uR ?_;refine EVL.callW Z Z Z Z Z ([(bv,45,sv),(bw,45,sw)]) ([]) Z (zmd v1 w1 v2 w2 oM) ?_;rintro v bS H5 ⟨rfl,rfl⟩ FJ;refine uR ?_;by_cases fa:br (val W64 lv) (val W64 lw)=0
 ·rw[show (br (val W64 lv) (val W64 lw) == 0)=true by rw[fa];rfl];have hvw:=zpM fa;rw[<-hvw,Nat.gcd_self]at jk;refine uR ?_;refine vW ([(bv,45,sv)]) ([(bw,45,sw)]) (zoC v1 v2.1 v4) ?_;rintro v cC H6 ⟨rfl,rfl⟩ hle6;rw[jk,Mn];refine uR ?_
  refine EV.loop (ι:=Int × Nat) (fun q=>[(4,.p 4 0),(9,.p 9 0),(7,.v (.int .i64 q.1))]) (fun q=>[(9,47,[.int .u64 (lo q.2:Int),.string (aU q.2)]),(4,47,aa47.zero)]) (fun _=>[(bv,45,sv),(bw,45,sw)])
   (fun q _=>q.2*2 ^ q.1.toNat=gg/\q.1<=1300000000 /\ -100000<=q.1) (fun q=>q.1.toNat) ((tw:Int),g) ⟨Z,Z,Z,trivial⟩ ⟨Z,Z,trivial⟩ rfl (fun _=>rfl) ⟨by dsimp only;rw[qU,Pp,qW],by dsimp only;omega,by dsimp only;omega⟩ ?_
  rintro⟨t,o⟩ G2 ai ⟨ht,N2,Jz⟩;dsimp only at ht N2 Jz;refine uR ?_;by_cases VN:t>0
  ·rw[show decide (t>0)=true by simpa using VN];obtain⟨k,hk,hkt⟩:∃k:Nat,(if (65536:Int)<t then (65536:Int) else t)=(k:Int)/\k=min t.toNat 65536:=⟨min t.toNat 65536,by split <;> omega,rfl⟩
   have hbo:big o:=by
    refine qI (ik ?_) WI;rw[<-ht];exact Nat.le_mul_of_pos_right _ (Nat.pow_pos (by decide))
   have nF:=zlI o k oM hbo;refine uR ?_;rw[hk]
   repeat (first|refine RUN ?_|refine CV (nF) ?_|refine CE (nF) ?_)
   refine⟨(t-65536,o*2 ^ k),⟨rfl,rfl,?_,trivial⟩,⟨Z,Z,trivial⟩,rfl,⟨?_,by dsimp only;omega,by dsimp only;omega⟩,Hp.Le.refl _,by dsimp only;omega⟩
   ·rw[show IntKind.i64.wrap (t-65536)=t-65536 by rw[pL];omega];rfl
   ·dsimp only;rw[<-ht,Nat.mul_assoc,<-Nat.pow_add];congr 2;omega
  ·rw[show decide (t>0)=false by simpa using VN];rw[show t.toNat=0 by omega,Nat.pow_zero,Nat.mul_one]at ht;subst ht;refine uR ?_;rfl
 ·rw[show (br (val W64 lv) (val W64 lw) == 0)=false by simpa using fa];refine uR ?_;refine EV.meet (fun aA aw H'=>∃q:BSt,fq aA (q.env (tw:Int))/\fx aw [(4,47,aa47.zero)]/\H'.ow=q.own/\G.Le H'.ro/\q.ok g/\val W64 q.lw<val W64 q.lv/\val W64 q.lv+val W64 q.lw=val W64 lv+val W64 lw) ?_ ?_
  ·rintro aA aw ⟨G6,ow6,Xx⟩ _ ⟨⟨bv,ov,cv,lv,sv,bw,ow,cw,lw,sw⟩,he,PE,how,OX,⟨⟨v1,v2,v3,v4,v5⟩,⟨w1,w2,w3,w4,w5⟩,jk⟩,af,bk⟩;dsimp only at v1 v2 v3 v4 v5 w1 w2 w3 w4 w5 jk af bk;refine EV.less _ _ he PE Z ?_;unfold BSt.own at how;dsimp only at how;subst how;unfold BSt.env;dsimp only
   have hlen:lw.length<=lv.length:=by
    refine Nat.le_of_not_lt fun h=>?_;have:=Ci cm v2.1 w2 h;omega
   refine uR ?_;refine EVL.callW Z Z Z Z Z ([(bv,45,sv),(bw,45,sw)]) ([]) Z (zk5 v1 w1 v2.1 w2.1 oM hlen v3 oM) ?_;rintro v rQ H7 ⟨s7,r7,rfl,hw7,hn7,hl7,rfl,hv7⟩ OZ;refine uR ?_;refine EVL.callW Z Z Z Z Z ([(bv,45,s7)]) ([(bw,45,sw)]) Z (Lq hw7 hn7.1 oM oM oM) ?_;rintro v gY H8 ⟨s8,o8,c8,r8,z8,rfl,hw8,hn8,hl8,hc8,rfl,WD,ho8⟩ OY;refine uR ?_;have hr:=zpj (val W64 lv) (val W64 lw) z8 (val W64 r8) w5 oM (by rw[<-hv7];exact WD);have hle9:val W64 r8<=val W64 r7:=by rw[WD];exact Nat.le_mul_of_pos_left _ (Nat.pow_pos (by decide))
   refine⟨⟨bv,o8,c8,r8,s8,bw,ow,cw,lw,sw⟩,⟨Z,Z,Z,Z,trivial⟩,⟨Z,trivial⟩,rfl,⟨⟨hw8,hn8,hc8,by dsimp only;omega,ho8⟩,⟨w1,w2,w3,w4,w5⟩,by dsimp only;rw[hr];exact jk⟩,(OX.trans OZ).trans OY,?_⟩;dsimp only;have:=Yz w5;omega
  ·by_cases af:br (val W64 lv) (val W64 lw)<0
   ·rw[show decide (br (val W64 lv) (val W64 lw)<0)=true by simpa using af]
    have eQ:val W64 lv<val W64 lw:=by
     unfold br at af;split at af
     ·assumption
     ·split at af <;> simp at af
    refine EV.permOw [(bw,45,sw),(bv,45,sv)] (Ce _ _) ?_;refine uR ?_;exact⟨⟨bw,ow,cw,lw,sw,bv,ov,cv,lv,sv⟩,⟨Z,Z,Z,Z,trivial⟩,⟨Z,trivial⟩,rfl,FJ,⟨⟨w1,w2,w3,w4,w5⟩,⟨v1,v2,v3,v4,v5⟩,by dsimp only;rw[Nat.gcd_comm];exact jk⟩,eQ,Nat.add_comm _ _⟩
   ·rw[show decide (br (val W64 lv) (val W64 lw)<0)=false by simpa using af]
    have eQ:val W64 lw<val W64 lv:=by
     unfold br at af fa;split at af
     ·simp at af
     ·rename_i h1;rw[if_neg h1]at fa;split at fa
      ·assumption
      ·simp at fa
    refine uR ?_;exact⟨⟨bv,ov,cv,lv,sv,bw,ow,cw,lw,sw⟩,⟨Z,Z,Z,Z,trivial⟩,⟨Z,trivial⟩,rfl,FJ,⟨⟨v1,v2,v3,v4,v5⟩,⟨w1,w2,w3,w4,w5⟩,jk⟩,eQ,rfl⟩
theorem ZK (c1 c2:Nat) (h1:big c1) (h2:big c2) (sx sy:Bool) (hsx:c1=0->sx=false) (hsy:c2=0->sy=false) :
  PV prog 80 #[.agg #[.bool sx,.int .u64 (lo c1:Int),.string (aU c1)],.agg #[.bool sy,.int .u64 (lo c2:Int),.string (aU c2)]] (aH (Nat.gcd c1 c2)):=by
 refine PV.of_pc ?_;refine BD func80 ntmps80 ?_;refine uR ?_
 (apply EV.drawn 7 kR kR;intro xv yw;(repeat (first|refine' DD ?_));refine DJ.nil (fun G hG hF=>?_);(case hS|hS2=>rfl))
 repeat (first|refine RUN ?_|refine CV (mg c1 c2 h1 h2) ?_|refine CE (mg c1 c2 h1 h2) ?_)
 refine EV.meet (fun aA aw H'=>∃u w:Nat,fq aA [(4,.p 4 0),(5,.p 5 0),(6,.p 6 0)]/\fx aw [(4,47,aa47.zero),(5,47,[.int .u64 (lo u:Int),.string (aU u)]),(6,47,[.int .u64 (lo w:Int),.string (aU w)])]/\H'.ow=[]/\w<=u/\big u/\big w/\Nat.gcd u w=Nat.gcd c1 c2) ?_ ?_
 ·rintro aA aw ⟨G1,bS,tK⟩ hb ⟨u,w,he,dt,how,hwu,hu,hw,hg⟩;obtain rfl:tK=⟨fun _=>none,[]⟩:=hb;obtain rfl:bS=[]:=how;refine EV.less _ _ he dt Z ?_;clear h1 h2 hsx hsy dt he;generalize Nat.gcd c1 c2=gg at *
  subst hg
  repeat (first|refine RUN ?_|refine CV (jP w hw) ?_|refine CE (jP w hw) ?_)
  rw[Cx];by_cases uA:w=0
  ·subst uA;rw[qD rfl,Nat.gcd_zero_right];refine uR ?_;rfl
  ·rw[qC uA]
   repeat (first|refine RUN ?_|refine CV (IU u w uA hu hw) ?_|refine CE (IU u w uA hu hw) ?_)
   have hm:u % w<w:=qm _ oM;have cK:Nat.gcd u w=Nat.gcd w (u % w):=by rw[Nat.gcd_comm,Nat.gcd_rec,Nat.gcd_comm]
   have Ge:big (u % w):=qI (X7 u w) hu;rw[cK];generalize u % w=r at *
   generalize u / w=qq at *
   clear cK hwu hu;rw[Mn,Mn];refine uR ?_;refine EV.less [(4,.p 4 0),(5,.p 5 0),(6,.p 6 0),(8,.p 8 0)] ([(5,47,[.int .u64 (lo u:Int),.string (aU u)]),(4,47,aa47.zero),(6,47,[.int .u64 (lo w:Int),.string (aU w)]),(8,47,[.int .u64 (lo r:Int),.string (aU r)])]) ⟨Z,Z,Z,Z,trivial⟩ ⟨Z,Z,Z,Z,trivial⟩ Z ?_;apply EV.drawnS ([(5,47,[.int .u64 (lo u:Int),.string (aU u)])]) 3 kR kR;intro xv yw;(repeat refine' DD ?_);(refine DJ.nil (fun G hG hF=>?_);(case hS|hS2=>rfl);(case hD=>rfl))
   repeat (first|refine RUN ?_|refine CV (jP r Ge) ?_|refine CE (jP r Ge) ?_)
   rw[Cx];by_cases gh:r=0
   ·subst gh;rw[qD rfl,Nat.gcd_zero_right];refine uR ?_;rfl
   ·rw[qC gh]
    repeat (first|refine RUN ?_|refine CV (I9 w) ?_|refine CE (I9 w) ?_)
    by_cases uz:w<W64
    ·have eZ:r<W64:=oM;rw[qD uz,if_pos uz]
     repeat (first|refine RUN ?_|refine CV (I9 r) ?_|refine CE (I9 r) ?_)
     rw[qD eZ,if_pos eZ];refine uR ?_;refine EV.loop (ι:=Nat × Nat) (fun q=>[(4,.p 4 0),(10,.v (n64 q.1)),(12,.v (n64 q.2))]) (fun _=>[(4,47,aa47.zero)]) (fun _=>[]) (fun q _=>q.1<W64/\q.2<W64/\Nat.gcd q.1 q.2=Nat.gcd w r) (fun q=>q.2) (w,r) ⟨Z,Z,Z,trivial⟩ ⟨Z,trivial⟩ rfl (fun _=>rfl) ⟨uz,eZ,rfl⟩ ?_;rintro⟨m,k⟩ G2 ai ⟨nK,y6,JR⟩;dsimp only at nK y6 JR;refine uR ?_;by_cases hk0:k=0
     ·subst hk0;rw[show decide ((((m,0):Nat × Nat).2:Int)>0)=false from rfl];rw[Nat.gcd_zero_right]at JR
      repeat (first|refine RUN ?_|refine CV (yx m nK) ?_|refine CE (yx m nK) ?_)
      rw[JR]
     ·rw[show decide ((((m,k):Nat × Nat).2:Int)>0)=true by simp;omega];refine uR ?_;apply EV.drawn 6 kR kR;intro xv yw;(repeat refine' DD ?_);refine' DJ.ofVal (az.rem Z Z Z Z (show ((k:Nat):Int)≠0 by omega)) Z Z Z ?_;rotate_left;(repeat refine' DD ?_);(refine DJ.nil (fun G hG hF=>?_);(case hS|hS2=>rfl));rw[show (((m,k):Nat × Nat).1:Int).tmod (((m,k):Nat × Nat).2:Int)=((m % k:Nat):Int) from Dx m k];refine uR ?_;refine⟨(k,m % k),⟨Z,Z,Z,trivial⟩,⟨Z,trivial⟩,rfl,⟨y6,Nat.lt_of_le_of_lt (Nat.mod_le m k) nK,?_⟩,hG,qm _ oM⟩
      ·dsimp only;rw[<-JR,Nat.gcd_comm m k,Nat.gcd_rec k m,Nat.gcd_comm]
    ·rw[qC uz]
     repeat (first|refine RUN ?_|refine CV (Ul w r uA gh hw Ge) ?_|refine CE (Ul w r uA gh hw Ge) ?_)
     rfl
 ·by_cases af:c1<c2
  ·rw[pT af,show decide ((-1:Int)<0)=true from rfl];refine uR ?_;exact⟨c2,c1,⟨Z,Z,Z,trivial⟩,⟨Z,Z,Z,trivial⟩,rfl,by omega,h2,h1,Nat.gcd_comm _ _⟩
  ·rw[show decide (br c1 c2<0)=false by unfold br;rw[if_neg af];split <;> rfl];refine uR ?_;exact⟨c1,c2,⟨Z,Z,Z,trivial⟩,⟨Z,Z,Z,trivial⟩,rfl,by omega,h1,h2,rfl⟩
theorem DF (a b:Int) (ha:gv a) (hb:gv b):PV prog 80 #[fj a,fj b] (aH (Nat.gcd a.natAbs b.natAbs)) :=
 ZK a.natAbs b.natAbs ha hb _ _ (fun h=>by simp;omega) (fun h=>by simp;omega)
abbrev frV (n:Int) (d:Nat):Value:=.agg #[.bool (decide (n<0)),.int .u64 (lo n.natAbs:Int),.string (aU n.natAbs),.int .u64 (lo d:Int),.string (aU d)]
def dk (d:Nat):Nat:=if d=1 then 0 else d
abbrev aC (q:Rat):Value:=frV q.num (dk q.den)
theorem KJ:dk 1=0:=rfl
theorem QR {d:Nat} (h:d≠1):dk d=d:=if_neg h
theorem QS (d:Nat):bl (dk d)<=bl d:=by
 unfold dk;split
 ·rw[lX];omega
 ·exact qH _
theorem RM (q:Rat):dk q.den=0↔q.den=1:=by
 have:=q.den_nz;unfold dk;split <;> omega
theorem X6:bl 1=1:=by have:=Il 0;simpa using this
theorem TM {n:Nat}:bl n=1↔n=1:=by
 constructor
 ·intro h;have h1:=og n;rw[h]at h1;have:n≠0:=fun e=>by rw[e,lX]at h;omega
  omega
 ·rintro rfl;exact X6
theorem Uy (n:Nat):(((bl n:Nat):Int) == 1)=decide (n=1):=by
 by_cases h:n=1
 ·rw[qD h,TM.2 h];rfl
 ·rw[qC h];have:bl n≠1:=fun e=>h (TM.1 e);simp;omega
theorem Cj (n:Int):frV n 0=.agg #[.bool (decide (n<0)),.int .u64 (lo n.natAbs:Int),.string (aU n.natAbs),.int .u64 0,.string ⟨#[]⟩]:=by
 unfold frV;rw[Cz (n:=0) (by decide)];rfl
theorem Ie (n:Int) (d:Nat) (hd:big d):PV prog 83 #[fj n,aH d] (frV n (dk d)):=by
 refine PV.of_pc ?_;refine BD func83 ntmps83 ?_
 repeat (first|refine RUN ?_|refine CV (jP d hd) ?_|refine CE (jP d hd) ?_)
 rw[Uy];by_cases h:d=1
 ·rw[qD h];refine uR ?_;rw[h,KJ,Cj]
 ·rw[qC h];refine uR ?_;rw[QR h]
theorem zO (a b:Nat) (ha:big a) (hb:big b) (h0:b≠0):PV prog 85 #[aH a,aH b] (aH (a / b)):=by
 refine PV.of_pc ?_;refine BD func85 ntmps85 ?_
 repeat (first|refine RUN ?_|refine CV (jP b hb) ?_|refine CE (jP b hb) ?_)
 rw[Uy];by_cases h:b=1
 ·rw[qD h];refine uR ?_;rw[h,Nat.div_one]
 ·rw[qC h]
  repeat (first|refine RUN ?_|refine CV (IU a b h0 ha hb) ?_|refine CE (IU a b h0 ha hb) ?_)
  rfl
theorem Ic (n:Int) (b:Nat) (hn:gv n) (hb:big b) (h0:b≠0) (JX:b ∣ n.natAbs):PV prog 84 #[fj n,aH b] (fj (n / (b:Int))):=by
 have hs:decide (n.sign<0)=decide (n<0):=by rw[decide_eq_decide];exact Int.sign_neg_iff
 have hf:=lZ (decide (n<0)) (n.natAbs / b) (qI (x9 _ _) hn)
 have e:sg (decide (n<0)) (n.natAbs / b)=n / (b:Int):=by
  rw[RO n b JX];unfold sg;by_cases h:n<0 <;> simp[h]
 rw[e]at hf;refine PV.of_pc ?_;refine BD func84 ntmps84 ?_;refine uR ?_;apply EV.drawn 7 kR kR;intro xv yw;(repeat (first|refine' DD ?_|(refine' DC (yD n hn) (h:=?_);rotate_left)));rw[hs];(repeat (first|refine' DD ?_|(refine' DC (Ef n) (h:=?_);rotate_left)|(refine' DC (zO _ _ hn hb h0) (h:=?_);rotate_left)));(refine DJ.nil (fun G hG hF=>?_);(case hS|hS2=>rfl))
 repeat (first|refine RUN ?_|refine CV (hf) ?_|refine CE (hf) ?_)
 rfl
theorem It (n:Int) (d:Nat) (hn:gv n) (hd:big d) (hnd:big (n.natAbs*d)):PV prog 118 #[fj n,aH d] (fj (n*d)):=by
 have hm:=Uz n (d:Int) hn hd (by show big (n*(d:Int)).natAbs;rw[Int.natAbs_mul];exact hnd);refine PV.of_pc ?_;refine BD func118 ntmps118 ?_;refine uR ?_;apply EV.drawn 3 kR kR;intro xv yw;(repeat (first|refine' DD ?_|(refine' DC (lZ false d hd) (h:=?_);rotate_left)));(refine DJ.nil (fun G hG hF=>?_);(case hS|hS2=>rfl))
 repeat (first|refine RUN ?_|refine CV (hm) ?_|refine CE (hm) ?_)
 rfl
theorem yG (q:Rat) (h:big q.den):PV prog 78 #[aC q] (.bool (decide (q.den=1))):=by
 refine PV.of_pc ?_;refine BD func78 ntmps78 ?_
 repeat (first|refine RUN ?_|refine CV (jP (dk q.den) (qI (QS _) h)) ?_|refine CE (jP (dk q.den) (qI (QS _) h)) ?_)
 have e:(((bl (dk q.den):Nat):Int) == 0)=decide (q.den=1):=by
  by_cases h1:q.den=1
  ·rw[qD h1,(RM q).2 h1,lX];rfl
  ·rw[qC h1];have h2:bl (dk q.den)≠0:=fun e=>h1 ((RM q).1 (UH.1 e));simp;omega
 rw[e]
theorem vE (q:Rat) (h:big q.den):PV prog 82 #[aC q] (aH q.den):=by
 refine PV.of_pc ?_;refine BD func82 ntmps82 ?_
 repeat (first|refine RUN ?_|refine CV (yG q h) ?_|refine CE (yG q h) ?_)
 by_cases h1:q.den=1
 ·rw[qD h1]
  repeat (first|refine RUN ?_|refine CV (yx 1 (by decide)) ?_|refine CE (yx 1 (by decide)) ?_)
  rw[h1]
 ·rw[qC h1];refine uR ?_;rw[QR h1]
theorem pH (q:Rat) (h:gv q.num):PV prog 15 #[aC q] (.int .i64 q.num.sign):=by
 refine PV.of_pc ?_;refine BD func15 ntmps15 ?_
 repeat (first|refine RUN ?_|refine CV (yD q.num h) ?_|refine CE (yD q.num h) ?_)
 rfl
theorem Q5 (q:Rat):PV prog 103 #[aC q] (fj q.num):=by
 refine PV.of_pc ?_;refine BD func103 ntmps103 ?_;refine uR ?_;rfl
theorem Yq (q:Rat) (h:gv q.num):PV prog 72 #[aC q] (aC (-q)):=by
 refine PV.of_pc ?_;refine BD func72 ntmps72 ?_;refine uR ?_
 (apply EV.drawn 5 kR kR;intro xv yw;(repeat (first|refine' DD ?_|(refine' DC (Mv q.num h) (h:=?_);rotate_left)));refine DJ.nil (fun G hG hF=>?_);(case hS|hS2=>rfl));refine uR ?_;rfl
theorem np (z:Int) (h1:-9223372036854775808<=z) (h2:z<9223372036854775808):PV prog 67 #[.int .i64 z] (aC (z:Rat)):=by
 refine PV.of_pc ?_;refine BD func67 ntmps67 ?_
 repeat (first|refine RUN ?_|refine CV (IY z h1 h2) ?_|refine CE (IY z h1 h2) ?_)
 show _=frV z 0;rw[Cj]
theorem Tm (n:Int) (d:Nat) (hn:gv n) (hd:big d) (h0:d≠0):PV prog 114 #[fj n,aH d] (aC (mkRat n d)):=by
 have hl:=Jc n d h0;have lF:Nat.gcd n.natAbs d≠0:=Nat.gcd_ne_zero_right h0;have nQ:big (Nat.gcd n.natAbs d):=qI (Ed _ _ h0) hd;have hg:=DF n (d:Int) hn hd;have f1:=Ic n (Nat.gcd n.natAbs d) hn nQ lF (Nat.gcd_dvd_left ..);have f2:=zO d (Nat.gcd n.natAbs d) hd nQ lF;have f3:=Ie (n / (Nat.gcd n.natAbs d:Nat)) (d / Nat.gcd n.natAbs d) (qI (x9 _ _) hd);rw[<-hl.1]at f1;rw[<-hl.2]at f2;rw[<-hl.1,<-hl.2]at f3;refine PV.of_pc ?_;refine BD func114 ntmps114 ?_;refine uR ?_
 (apply EV.drawn 5 kR kR;intro xv yw;(repeat (first|refine' DD ?_|(refine' DC (lZ false d hd) (h:=?_);rotate_left)|(refine' DC (hg) (h:=?_);rotate_left)));refine DJ.nil (fun G hG hF=>?_);(case hS|hS2=>rfl));refine uR ?_
 (apply EV.drawn 7 kR kR;intro xv yw;(repeat (first|refine' DD ?_|(refine' DC (f1) (h:=?_);rotate_left)|(refine' DC (f2) (h:=?_);rotate_left)|(refine' DC (f3) (h:=?_);rotate_left)));refine DJ.nil (fun G hG hF=>?_);(case hS|hS2=>rfl));refine uR ?_;rfl
theorem RD (n d:Int) (hn:gv n) (hd:gv d) (h0:d≠0):PV prog 64 #[fj n,fj d] (.tuple #[aC (mkRat (if d<0 then -n else n) d.natAbs),.bool true]):=by
 have l1:=Tm (-n) d.natAbs (by show big (-n).natAbs;rw[Int.natAbs_neg];exact hn) hd oM;have l2:=Tm n d.natAbs hn hd oM;refine PV.of_pc ?_;refine BD func64 ntmps64 ?_
 repeat (first|refine RUN ?_|refine CV (yD d hd) ?_|refine CE (yD d hd) ?_)
 rw[show (d.sign == 0)=false by simp[Int.sign_eq_zero_iff_zero,h0]]
 repeat (first|refine RUN ?_|refine CV (yD d hd) ?_|refine CE (yD d hd) ?_)
 by_cases h:d<0
 ·rw[qD (Int.sign_neg_iff.2 h),if_pos h]
  repeat (first|refine RUN ?_|refine CV (Mv n hn) ?_|refine CE (Mv n hn) ?_)
  apply EV.drawn 3 kR kR;intro xv yw;(repeat (first|refine' DD ?_|(refine' DC (Ef d) (h:=?_);rotate_left)));(refine DJ.nil (fun G hG hF=>?_);(case hS|hS2=>rfl))
  repeat (first|refine RUN ?_|refine CV (l1) ?_|refine CE (l1) ?_)
  rfl
 ·rw[qC (fun e=>h (Int.sign_neg_iff.1 e)),if_neg h];refine uR ?_;apply EV.drawn 3 kR kR;intro xv yw;(repeat (first|refine' DD ?_|(refine' DC (Ef d) (h:=?_);rotate_left)));(refine DJ.nil (fun G hG hF=>?_);(case hS|hS2=>rfl))
  repeat (first|refine RUN ?_|refine CV (l2) ?_|refine CE (l2) ?_)
  rfl
abbrev frL (n:Int) (d:Nat):List Value:=[.bool (decide (n<0)),.int .u64 (lo n.natAbs:Int),.string (aU n.natAbs),.int .u64 (lo d:Int),.string (aU d)]
abbrev sm (q:Rat):Prop:=ht q<=100000000
theorem sm.num {q:Rat} (h:sm q):bl q.num.natAbs<=100000000:=qI (um q) h
theorem sm.den {q:Rat} (h:sm q):bl q.den<=100000000:=qI (oA q) h
theorem Du (a b:Rat) (ha:sm a) (hb:sm b):PV prog 38 #[aC a,aC b] (aC (a*b)):=by
 have na:=ha.num;have da:=ha.den;have nb:=hb.num;have db:=hb.den;have xP:gv a.num:=qI na oM;have rC:gv b.num:=qI nb oM;have mr:big a.den:=qI da oM;have jM:big b.den:=qI db oM;have hm:=Za a b _ _ Z Z;generalize hg:Nat.gcd a.num.natAbs b.den=g at hm;generalize hh:Nat.gcd b.num.natAbs a.den=h at hm;have lF:g≠0:=by rw[<-hg];exact Nat.gcd_ne_zero_right b.den_nz
 have FU:h≠0:=by rw[<-hh];exact Nat.gcd_ne_zero_right a.den_nz
 have bg:big g:=by rw[<-hg];exact qI (Ed _ _ b.den_nz) jM
 have bh:big h:=by rw[<-hh];exact qI (Ed _ _ a.den_nz) mr
 have g1:=DF a.num (b.den:Int) xP jM;have g2:=DF b.num (a.den:Int) rC mr;rw[Int.natAbs_natCast,hg]at g1;rw[Int.natAbs_natCast,hh]at g2;have p1:=Ic a.num g xP bg lF (by rw[<-hg];exact Nat.gcd_dvd_left ..);have p2:=Ic b.num h rC bh FU (by rw[<-hh];exact Nat.gcd_dvd_left ..);have b1:bl (a.num / (g:Int)).natAbs<=100000000:=qI (ik (MP _ _)) na;have b2:bl (b.num / (h:Int)).natAbs<=100000000:=qI (ik (MP _ _)) nb;have b3:bl (a.den / h)<=100000000:=qI (x9 _ _) da;have b4:bl (b.den / g)<=100000000:=qI (x9 _ _) db
 have m1:=Uz (a.num / (g:Int)) (b.num / (h:Int)) (qI b1 oM) (qI b2 oM) (by
  show big (_*_:Int).natAbs;rw[Int.natAbs_mul];have:=gQ (a.num / (g:Int)).natAbs (b.num / (h:Int)).natAbs;show bl _<=_;omega)
 have m2:=L9 (a.den / h) (b.den / g) (qI b3 oM) (qI b4 oM);have pk:=Ie (a*b).num (a*b).den (by rw[hm.2];have:=gQ (a.den / h) (b.den / g);show bl _<=_;omega);have o1:=zO a.den h mr bh FU;have o2:=zO b.den g jM bg lF;rw[<-hm.1]at m1;rw[<-hm.2]at m2;have w1:=yG a mr;have w2:=yG b jM;refine PV.of_pc ?_;refine BD func38 ntmps38 ?_
 repeat (first|refine RUN ?_|refine CV (w1) ?_|refine CE (w1) ?_)
 refine EVL.meet (fun aA aw H'=>fq aA [(12,.v (.bool (decide (a.den=1/\b.den=1)))),(4,.p 4 0),(3,.p 3 0),(2,.p 2 0)]/\fx aw [(4,51,aa51.zero),(3,51,frL b.num (dk b.den)),(2,51,frL a.num (dk a.den))]/\H'=⟨fun _=>none,[],⟨fun _=>none,[]⟩⟩) ?_ ?_
 ·rintro aA aw H' _ ⟨he,dt,rfl⟩;refine EV.less _ _ he dt Z ?_;by_cases cQ:a.den=1/\b.den=1
  ·rw[qD cQ];have e1:g=1:=by rw[<-hg,cQ.2,Nat.gcd_one_right]
   have e2:h=1:=by rw[<-hh,cQ.1,Nat.gcd_one_right]
   have e3:(a*b).den=1:=by rw[hm.2,cQ.1,cQ.2,e1,e2]
   rw[e1,e2]at m1;simp only[Int.natCast_one,Int.ediv_one]at m1
   repeat (first|refine RUN ?_|refine CV (m1) ?_|refine CE (m1) ?_)
   show _=frV (a*b).num (dk (a*b).den);rw[e3,KJ,Cj]
  ·rw[qC cQ];refine uR ?_;have d1:=vE a mr;have d2:=vE b jM;have s1:=lZ false a.den mr;have s2:=lZ false b.den jM
   (apply EV.drawn 7 kR kR;intro xv yw;(repeat (first|refine' DD ?_|(refine' DC (d2) (h:=?_);rotate_left)|(refine' DC (s2) (h:=?_);rotate_left)|(refine' DC (g1) (h:=?_);rotate_left)));refine DJ.nil (fun G hG hF=>?_);(case hS|hS2=>rfl));refine uR ?_
   (apply EV.drawn 7 kR kR;intro xv yw;(repeat (first|refine' DD ?_|(refine' DC (d1) (h:=?_);rotate_left)|(refine' DC (s1) (h:=?_);rotate_left)|(refine' DC (g2) (h:=?_);rotate_left)));refine DJ.nil (fun G hG hF=>?_);(case hS|hS2=>rfl));refine uR ?_;apply EV.drawn 16 kR kR;intro xv yw;(repeat (first|refine' DD ?_|(refine' DC (p1) (h:=?_);rotate_left)|(refine' DC (p2) (h:=?_);rotate_left)|(refine' DC (m1) (h:=?_);rotate_left)|(refine' DC (d1) (h:=?_);rotate_left)|(refine' DC (d2) (h:=?_);rotate_left)|(refine' DC (o1) (h:=?_);rotate_left)|(refine' DC (o2) (h:=?_);rotate_left)));(refine DJ.nil (fun G hG hF=>?_);(case hS|hS2=>rfl))
   repeat (first|refine RUN ?_|refine CV (o2) ?_|refine CV (m2) ?_|refine CV (pk) ?_|refine CE (o2) ?_|refine CE (m2) ?_|refine CE (pk) ?_)
   rfl
 ·by_cases ib:a.den=1
  ·rw[qD ib]
   repeat (first|refine RUN ?_|refine CV (w2) ?_|refine CE (w2) ?_)
   refine⟨⟨?_,rfl,rfl,rfl,trivial⟩,⟨Z,Z,Z,trivial⟩,rfl⟩;simp[ib];rfl
  ·rw[qC ib];refine uR ?_;refine⟨⟨?_,rfl,rfl,rfl,trivial⟩,⟨Z,Z,Z,trivial⟩,rfl⟩;simp[ib];rfl
theorem ye (a b:Rat) (ha:sm a) (hb:sm b):PV prog 71 #[aC a,aC b] (aC (a+b)):=by
 have na:=ha.num;have da:=ha.den;have nb:=hb.num;have db:=hb.den;have xP:gv a.num:=qI na oM;have rC:gv b.num:=qI nb oM;have mr:big a.den:=qI da oM;have jM:big b.den:=qI db oM;have hm:=Zb a b _ _ _ _ _ Z Z Z Z Z;generalize hg:Nat.gcd a.den b.den=g at hm;have lF:g≠0:=by rw[<-hg];exact Nat.gcd_ne_zero_right b.den_nz
 have bgl:bl g<=100000000:=by rw[<-hg];exact qI (Ed _ _ b.den_nz) db
 have bg:big g:=qI bgl oM;have g1:=DF (a.den:Int) (b.den:Int) mr jM;rw[Int.natAbs_natCast,Int.natAbs_natCast,hg]at g1;have o1:=zO a.den g mr bg lF;have o2:=zO b.den g jM bg lF;have b1:bl (a.den / g)<=100000000:=qI (x9 _ _) da;have b2:bl (b.den / g)<=100000000:=qI (x9 _ _) db
 have eF:a.den=1/\b.den=1->g=1/\a.den / g=1/\b.den / g=1:=fun h=>by
  have:g=1:=by rw[<-hg,h.1,h.2];rfl
  rw[this,h.1,h.2];exact⟨rfl,rfl,rfl⟩
 generalize sZ:a.den / g=down at *
 generalize mS:b.den / g=other at *
 have c1:=gQ a.num.natAbs other;have c2:=gQ b.num.natAbs down;have t1:=It a.num other xP (qI b2 oM) (by show bl _<=_;omega);have t2:=It b.num down rC (qI b1 oM) (by show bl _<=_;omega);have Di:bl (a.num*(other:Int)).natAbs<=200000000:=by rw[Int.natAbs_mul];simp;omega
 have c2':bl (b.num*(down:Int)).natAbs<=200000000:=by rw[Int.natAbs_mul];simp;omega
 have c3:=KM (a.num*(other:Int)).natAbs (b.num*(down:Int)).natAbs;have ad:=UB (a.num*(other:Int)) (b.num*(down:Int)) (qI Di oM) (qI c2' oM) (by show bl _<=_;omega)
 have Xw:bl (a.num*(other:Int)+b.num*(down:Int)).natAbs<=200000001:=by
  have:=MI (a.num*(other:Int)) (b.num*(down:Int));omega
 generalize E0:a.num*(other:Int)+b.num*(down:Int)=up at *
 generalize hh:Nat.gcd up.natAbs g=h at hm;have FU:h≠0:=by rw[<-hh];exact Nat.gcd_ne_zero_right lF
 have bh:big h:=by rw[<-hh];exact qI (Ed _ _ lF) bg
 have g2:=DF up (g:Int) (qI Xw oM) bg;rw[Int.natAbs_natCast,hh]at g2;have p1:=Ic up h (qI Xw oM) bh FU (by rw[<-hh];exact Nat.gcd_dvd_left ..);have o3:=zO b.den h jM bh FU;have b4:bl (b.den / h)<=100000000:=qI (x9 _ _) db;have m2:=L9 down (b.den / h) (qI b1 oM) (qI b4 oM);have pk:=Ie (a+b).num (a+b).den (by rw[hm.2];have:=gQ down (b.den / h);show bl _<=_;omega);rw[<-hm.1]at p1;rw[<-hm.2]at m2;have w1:=yG a mr;have w2:=yG b jM;refine PV.of_pc ?_;refine BD func71 ntmps71 ?_
 repeat (first|refine RUN ?_|refine CV (w1) ?_|refine CE (w1) ?_)
 refine EVL.meet (fun aA aw H'=>fq aA [(15,.v (.bool (decide (a.den=1/\b.den=1)))),(4,.p 4 0),(3,.p 3 0),(2,.p 2 0)]/\fx aw [(4,51,aa51.zero),(3,51,frL b.num (dk b.den)),(2,51,frL a.num (dk a.den))]/\H'=⟨fun _=>none,[],⟨fun _=>none,[]⟩⟩) ?_ ?_
 ·rintro aA aw H' _ ⟨he,dt,rfl⟩;refine EV.less _ _ he dt Z ?_;by_cases cQ:a.den=1/\b.den=1
  ·rw[qD cQ];obtain⟨e1,e2,e3⟩:=eF cQ;have e4:h=1:=by rw[<-hh,e1,Nat.gcd_one_right]
   have e5:(a+b).den=1:=by rw[hm.2,e2,cQ.2,e4]
   have e6:(a+b).num=a.num+b.num:=by rw[hm.1,e4,<-E0,e2,e3];simp
   have c4:=KM a.num.natAbs b.num.natAbs;have Xy:=UB a.num b.num xP rC (by show bl _<=_;omega)
   repeat (first|refine RUN ?_|refine CV (Xy) ?_|refine CE (Xy) ?_)
   show _=frV (a+b).num (dk (a+b).den);rw[e5,KJ,Cj,e6]
  ·rw[qC cQ];refine uR ?_;have d1:=vE a mr;have d2:=vE b jM;have s1:=lZ false a.den mr;have s2:=lZ false b.den jM;have s3:=lZ false g bg
   (apply EV.drawn 8 kR kR;intro xv yw;(repeat (first|refine' DD ?_|(refine' DC (d1) (h:=?_);rotate_left)|(refine' DC (s1) (h:=?_);rotate_left)|(refine' DC (d2) (h:=?_);rotate_left)|(refine' DC (s2) (h:=?_);rotate_left)|(refine' DC (g1) (h:=?_);rotate_left)));refine DJ.nil (fun G hG hF=>?_);(case hS|hS2=>rfl));refine uR ?_
   (apply EV.drawn 10 kR kR;intro xv yw;(repeat (first|refine' DD ?_|(refine' DC (d1) (h:=?_);rotate_left)|(refine' DC (d2) (h:=?_);rotate_left)|(refine' DC (o1) (h:=?_);rotate_left)|(refine' DC (o2) (h:=?_);rotate_left)));refine DJ.nil (fun G hG hF=>?_);(case hS|hS2=>rfl));refine uR ?_
   (apply EV.drawn 10 kR kR;intro xv yw;(repeat (first|refine' DD ?_|(refine' DC (t1) (h:=?_);rotate_left)|(refine' DC (t2) (h:=?_);rotate_left)|(refine' DC (ad) (h:=?_);rotate_left)));refine DJ.nil (fun G hG hF=>?_);(case hS|hS2=>rfl));refine uR ?_
   (apply EV.drawn 5 kR kR;intro xv yw;(repeat (first|refine' DD ?_|(refine' DC (s3) (h:=?_);rotate_left)|(refine' DC (g2) (h:=?_);rotate_left)));refine DJ.nil (fun G hG hF=>?_);(case hS|hS2=>rfl));refine uR ?_
   (apply EV.drawn 10 kR kR;intro xv yw;(repeat (first|refine' DD ?_|(refine' DC (p1) (h:=?_);rotate_left)|(refine' DC (d2) (h:=?_);rotate_left)|(refine' DC (o3) (h:=?_);rotate_left)|(refine' DC (m2) (h:=?_);rotate_left)|(refine' DC (pk) (h:=?_);rotate_left)));refine DJ.nil (fun G hG hF=>?_);(case hS|hS2=>rfl));refine uR ?_;rfl
 ·by_cases ib:a.den=1
  ·rw[qD ib]
   repeat (first|refine RUN ?_|refine CV (w2) ?_|refine CE (w2) ?_)
   refine⟨⟨?_,rfl,rfl,rfl,trivial⟩,⟨Z,Z,Z,trivial⟩,rfl⟩;simp[ib];rfl
  ·rw[qC ib];refine uR ?_;refine⟨⟨?_,rfl,rfl,rfl,trivial⟩,⟨Z,Z,Z,trivial⟩,rfl⟩;simp[ib];rfl
theorem zG (a b:Rat) (ha:sm a) (hb:sm b):PV prog 34 #[aC a,aC b] (aC (a-b)):=by
 have h1:=Yq b (qI hb.num oM);have h2:=ye a (-b) ha (by show ht (-b)<=_;rw[KH];exact hb);rw[<-Rat.sub_eq_add_neg]at h2;refine PV.of_pc ?_;refine BD func34 ntmps34 ?_;refine uR ?_
 (apply EV.drawn 4 kR kR;intro xv yw;(repeat (first|refine' DD ?_|(refine' DC (h1) (h:=?_);rotate_left)|(refine' DC (h2) (h:=?_);rotate_left)));refine DJ.nil (fun G hG hF=>?_);(case hS|hS2=>rfl));refine uR ?_;rfl
theorem YN (b:Rat) (h:b.num≠0):frV (sg (decide (b.num<0)) b.den) (dk b.num.natAbs)=aC b⁻¹:=by
 have e1:b⁻¹.num=sg (decide (b.num<0)) b.den:=by
  rw[Rat.num_inv];unfold sg;rcases Int.lt_or_lt_of_ne h with h1 | h1
  ·simp[h1,Int.sign_eq_neg_one_of_neg h1]
  ·rw[Int.sign_eq_one_of_pos h1,qC (by omega)];simp
 have e2:b⁻¹.den=b.num.natAbs:=by
  rw[Rat.den_inv,if_neg];exact h
 rw[<-e1,<-e2]
theorem DG (a b:Rat) (ha:sm a) (hb:sm b) (h0:b≠0):PV prog 120 #[aC a,aC b] (.tuple #[aC (a / b),.bool true]):=by
 have CS:b.num≠0:=fun e=>h0 (Rat.num_eq_zero.1 e);have rC:gv b.num:=qI hb.num oM;have jM:big b.den:=qI hb.den oM;have hm:=Du a b⁻¹ ha (qI (Ra b) hb);rw[<-Rat.div_def]at hm;have hp:=Ie (sg (decide (b.num<0)) b.den) b.num.natAbs rC;rw[YN b CS]at hp;have s1:=lZ (decide (b.num<0)) b.den jM;have CI:=pH b rC;have ab:=Ef b.num;have d2:=vE b jM;refine PV.of_pc ?_;refine BD func120 ntmps120 ?_
 repeat (first|refine RUN ?_|refine CV (CI) ?_|refine CE (CI) ?_)
 rw[show (b.num.sign == 0)=false by simp[Int.sign_eq_zero_iff_zero,CS]];refine uR ?_;apply EV.drawn 11 kR kR;intro xv yw;(repeat (first|refine' DD ?_|(refine' DC (CI) (h:=?_);rotate_left)));rw[show decide (b.num.sign<0)=decide (b.num<0) by rw[decide_eq_decide];exact Int.sign_neg_iff];(repeat (first|refine' DD ?_|(refine' DC (d2) (h:=?_);rotate_left)|(refine' DC (s1) (h:=?_);rotate_left)|(refine' DC (ab) (h:=?_);rotate_left)|(refine' DC (hp) (h:=?_);rotate_left)));(refine DJ.nil (fun G hG hF=>?_);(case hS|hS2=>rfl))
 repeat (first|refine RUN ?_|refine CV (hm) ?_|refine CE (hm) ?_)
 rfl
theorem zly (a:Rat):PV prog 120 #[aC a,aC 0] (.tuple #[aC 0,.bool false]):=by
 have CI:=pH 0 (by show bl 0<=_;rw[lX];omega);refine PV.of_pc ?_;refine BD func120 ntmps120 ?_
 repeat (first|refine RUN ?_|refine CV (CI) ?_|refine CE (CI) ?_)
 show _=Value.tuple #[frV 0 0,.bool false];rw[Cj,show (0:Int).natAbs=0 from rfl,Cz (n:=0) (by decide)];rfl
theorem znZ (x y p q:Int) (hp:0<p) (hq:0<q) (h:x.sign≠y.sign):gL x y=gL (x*p) (y*q):=by
 have f1:x<0->x*p<0:=fun h=>Int.mul_neg_of_neg_of_pos h hp;have f2:0<x->0<x*p:=fun h=>Int.mul_pos h hp;have f3:y<0->y*q<0:=fun h=>Int.mul_neg_of_neg_of_pos h hq;have f4:0<y->0<y*q:=fun h=>Int.mul_pos h hq;have f5:x=0->x*p=0:=fun h=>by rw[h,Int.zero_mul]
 have f6:y=0->y*q=0:=fun h=>by rw[h,Int.zero_mul]
 generalize x*p=u at *
 generalize y*q=v at *
 rcases Int.lt_trichotomy x 0 with hx | hx | hx <;> rcases Int.lt_trichotomy y 0 with hy | hy | hy
 ·exact absurd (by rw[Int.sign_eq_neg_one_of_neg hx,Int.sign_eq_neg_one_of_neg hy]) h
 ·unfold gL;rw[if_pos oM,if_pos (by have:=f1 hx;have:=f6 hy;omega)]
 ·unfold gL;rw[if_pos oM,if_pos (by have:=f1 hx;have:=f4 hy;omega)]
 ·unfold gL;rw[if_neg oM,if_pos oM,if_neg (by have:=f5 hx;have:=f3 hy;omega),if_pos (by have:=f5 hx;have:=f3 hy;omega)]
 ·exact absurd (by rw[hx,hy]) h
 ·unfold gL;rw[if_pos oM,if_pos (by have:=f5 hx;have:=f4 hy;omega)]
 ·unfold gL;rw[if_neg oM,if_pos oM,if_neg (by have:=f2 hx;have:=f3 hy;omega),if_pos (by have:=f2 hx;have:=f3 hy;omega)]
 ·unfold gL;rw[if_neg oM,if_pos oM,if_neg (by have:=f2 hx;have:=f6 hy;omega),if_pos (by have:=f2 hx;have:=f6 hy;omega)]
 ·exact absurd (by rw[Int.sign_eq_one_of_pos hx,Int.sign_eq_one_of_pos hy]) h
theorem Rq (a b:Rat) (h:a.num.sign≠b.num.sign):gL a.num b.num=bI a b:=by
 have:=Nat.pos_of_ne_zero a.den_nz;have:=Nat.pos_of_ne_zero b.den_nz;rw[Ig];exact znZ _ _ _ _ oM oM h
theorem pC (a b:Rat) (ha:sm a) (hb:sm b):PV prog 68 #[aC a,aC b] (.int .i64 (bI a b)):=by
 have na:=ha.num;have da:=ha.den;have nb:=hb.num;have db:=hb.den;have xP:gv a.num:=qI na oM;have rC:gv b.num:=qI nb oM;have mr:big a.den:=qI da oM;have jM:big b.den:=qI db oM;have w1:=yG a mr;have w2:=yG b jM;have s1:=pH a xP;have s2:=pH b rC;have d1:=vE a mr;have d2:=vE b jM;have c1:=gQ a.num.natAbs b.den;have c2:=gQ b.num.natAbs a.den;have t1:=It a.num b.den xP jM (by show bl _<=_;omega);have t2:=It b.num a.den rC mr (by show bl _<=_;omega);have k1:=UA a.num b.num xP rC;have k2:=UA (a.num*(b.den:Int)) (b.num*(a.den:Int)) (by show bl _<=_;rw[Int.natAbs_mul];simp;omega) (by show bl _<=_;rw[Int.natAbs_mul];simp;omega);rw[<-Ig]at k2;refine PV.of_pc ?_;refine BD func68 ntmps68 ?_;refine uR ?_;by_cases ib:a.den=1
 ·rw[qD ib]at w1;by_cases cG:b.den=1
  ·rw[qD cG]at w2;have e:gL a.num b.num=bI a b:=by rw[Ig,ib,cG];simp
   rw[e]at k1;apply EV.drawn 10 kR kR;intro xv yw;(repeat (first|refine' DD ?_|(refine' DC (w1) (h:=?_);rotate_left)|(refine' DC (w2) (h:=?_);rotate_left)|(refine' DC (s1) (h:=?_);rotate_left)|(refine' DC (s2) (h:=?_);rotate_left)));(refine DJ.nil (fun G hG hF=>?_);(case hS|hS2=>rfl))
   repeat (first|refine RUN ?_|refine CV (k1) ?_|refine CE (k1) ?_)
   rfl
  ·rw[qC cG]at w2;apply EV.drawn 10 kR kR;intro xv yw;(repeat (first|refine' DD ?_|(refine' DC (w1) (h:=?_);rotate_left)|(refine' DC (w2) (h:=?_);rotate_left)|(refine' DC (s1) (h:=?_);rotate_left)|(refine' DC (s2) (h:=?_);rotate_left)));(refine DJ.nil (fun G hG hF=>?_);(case hS|hS2=>rfl))
   repeat (first|refine RUN ?_|refine CV (s1) ?_|refine CV (s2) ?_|refine CE (s1) ?_|refine CE (s2) ?_)
   by_cases hs:a.num.sign=b.num.sign
   ·rw[show (a.num.sign != b.num.sign)=false by simp[hs]];refine uR ?_;apply EV.drawn 9 kR kR;intro xv yw;(repeat (first|refine' DD ?_|(refine' DC (d2) (h:=?_);rotate_left)|(refine' DC (t1) (h:=?_);rotate_left)|(refine' DC (d1) (h:=?_);rotate_left)));(refine DJ.nil (fun G hG hF=>?_);(case hS|hS2=>rfl))
    repeat (first|refine RUN ?_|refine CV (t2) ?_|refine CV (k2) ?_|refine CE (t2) ?_|refine CE (k2) ?_)
    rfl
   ·rw[show (a.num.sign != b.num.sign)=true by simp[hs]]
    repeat (first|refine RUN ?_|refine CV (k1) ?_|refine CE (k1) ?_)
    rw[Rq a b hs]
 ·rw[qC ib]at w1;apply EV.drawn 10 kR kR;intro xv yw;(repeat (first|refine' DD ?_|(refine' DC (w1) (h:=?_);rotate_left)|(refine' DC (w2) (h:=?_);rotate_left)|(refine' DC (s1) (h:=?_);rotate_left)|(refine' DC (s2) (h:=?_);rotate_left)));(refine DJ.nil (fun G hG hF=>?_);(case hS|hS2=>rfl))
  repeat (first|refine RUN ?_|refine CV (s1) ?_|refine CV (s2) ?_|refine CE (s1) ?_|refine CE (s2) ?_)
  by_cases hs:a.num.sign=b.num.sign
  ·rw[show (a.num.sign != b.num.sign)=false by simp[hs]];refine uR ?_;apply EV.drawn 9 kR kR;intro xv yw;(repeat (first|refine' DD ?_|(refine' DC (d2) (h:=?_);rotate_left)|(refine' DC (t1) (h:=?_);rotate_left)|(refine' DC (d1) (h:=?_);rotate_left)));(refine DJ.nil (fun G hG hF=>?_);(case hS|hS2=>rfl))
   repeat (first|refine RUN ?_|refine CV (t2) ?_|refine CV (k2) ?_|refine CE (t2) ?_|refine CE (k2) ?_)
   rfl
  ·rw[show (a.num.sign != b.num.sign)=true by simp[hs]]
   repeat (first|refine RUN ?_|refine CV (k1) ?_|refine CE (k1) ?_)
   rw[Rq a b hs]
theorem pS (z m:Int) (hz:-9223372036854775808<=z/\z<9223372036854775808) (h0:0<m) (hm:m<4611686018427387904):PV prog 5 #[.int .i64 z,.int .i64 m] (.int .i64 (z % m)):=by
 have h1:=Int.tmod_lt_of_pos z h0;have h2:=Int.lt_tmod_of_pos z h0
 have e:z % m=if z.tmod m<0 then z.tmod m+m else z.tmod m:=by
  have hq:=Int.mul_tdiv_add_tmod z m
  have e1:z % m=z.tmod m % m:=by
   conv=>lhs;rw[<-hq]
   rw[Int.mul_add_emod_self_left]
  rw[e1];by_cases ht:z.tmod m<0
  ·rw[if_pos ht,<-Int.add_emod_right,Int.emod_eq_of_lt oM (by omega)]
  ·rw[if_neg ht,Int.emod_eq_of_lt oM h1]
 refine PV.of_pc ?_;refine BD func5 ntmps5 ?_;refine uR ?_;refine EVL.remI Z Z Z Z Z Z oM ?_;generalize z.tmod m=t at *
 refine uR ?_;by_cases ht:t<0
 ·rw[if_pos ht]at e;rw[qD ht];refine uR ?_;rw[e,pL];congr 1;omega
 ·rw[if_neg ht]at e;rw[qC ht];refine uR ?_;rw[e]
theorem T4 {H:Hp} {v:Value} {n:Nat} (h:RN H v n) (hn:rsm n):PC prog 88 #[v] H fun r _=>r=aH n:=by
 have jF:(ku n).length<=200000000:=by
  rw[Eg];have:=ur 8 n oM;rw[show (2:Nat) ^ 8=256 by decide]at this;rw[this];have:bl n<=800000000:=hn;omega
 refine BD func88 ntmps88 ?_;refine uR ?_;refine vA (zlW h hn) ?_;rintro r G hr hG;have hf:=Vh hr (Ln n) jF;rw[SQ]at hf
 repeat (first|refine RUN ?_|refine CV (hf) ?_|refine CE (hf) ?_)
 rfl
theorem Ti {H:Hp} (n:Nat) (hn:rsm n):PC prog 104 #[aH n] H fun r H'=>RN H' r n:=by
 have jF:(ku n).length<=200000000:=by
  rw[Eg];have:=ur 8 n oM;rw[show (2:Nat) ^ 8=256 by decide]at this;rw[this];have:bl n<=800000000:=hn;omega
 refine BD func104 ntmps104 ?_;refine uR ?_;refine EVL.call Z Z Z Z Z (UT n (qI hn oM) H) ?_;rintro r G hr hG;have hf:=zoj hr (Ln n) jF;rw[SQ]at hf;refine uR ?_;refine vA (hf) ?_;rintro s G2 hs ai;refine uR ?_;exact hs
theorem YP {H:Hp} {v:Value} {z:Int} (h:RI H v z) (hz:rsm z.natAbs):PC prog 87 #[v] H fun r _=>r=fj z:=by
 obtain⟨sa,sl,sc,rfl,hs⟩:=id h;have hf:=lZ (decide (z<0)) z.natAbs (qI hz oM);rw[Rm]at hf;refine BD func87 ntmps87 ?_;refine uR ?_;apply EV.drawn 6 kR kR;intro xv yw;(repeat refine' DD ?_);refine' vC (cO func88) (fun G hG hd=>T4 (RN.mono hs hG) hz) ?_;rotate_left;(repeat (first|refine' DD ?_|(refine' DC (hf) (h:=?_);rotate_left)));(refine DJ.nil (fun G hG hF=>?_);(case hS|hS2=>rfl));refine uR ?_;rfl
theorem zpO {H:Hp} (z:Int) (hz:rsm z.natAbs):PC prog 102 #[fj z] H fun r H'=>RI H' r z:=by
 have hb:gv z:=qI hz oM;have e1:decide (z.sign<0)=decide (z<0):=by rw[decide_eq_decide,Int.sign_neg_iff]
 refine BD func102 ntmps102 ?_;refine uR ?_;apply EV.drawn 7 kR kR;intro xv yw;(repeat (first|refine' DD ?_|(refine' DC (yD z hb) (h:=?_);rotate_left)|(refine' DC (Ef z) (h:=?_);rotate_left)));refine' vB (cO func104) (fun G hG hd=>Ti z.natAbs hz) (fun _ _ _ h k=>RN.mono h k) ?_;rotate_left;rw[e1];refine' vB (cO func61) (fun G hG hd=>ou (decide (z<0)) (hd.head kR)) (fun _ _ _ h k=>RI.mono h k) ?_;rotate_left;(refine DJ.nil (fun G hG hF=>?_);(case hS|hS2=>rfl));obtain⟨⟨ra,rl,rc,hr,h1⟩,_⟩:=hF;rw[Rm]at hr h1;rw[hr];refine uR ?_;exact⟨ra,rl,rc,rfl,h1⟩
theorem Dr {H:Hp} {v:Value} {q:Rat} (h:RQ H v q) (hq:rq q):PC prog 40 #[v] H fun r _=>r=aC q:=by
 obtain⟨sa,sl,sc,ta,tl,tc,rfl,hs,ht⟩:=id h;have hn:=hq.num;have jm:=hq.den;have hf:=lZ false q.den (qI jm oM);rw[show sg false q.den=(q.den:Int) from rfl]at hf;have hm:=RD q.num (q.den:Int) (qI hn oM) (qI jm oM) (by have:=q.den_nz;omega);rw[if_neg oM,Int.natAbs_natCast,Rat.mkRat_self]at hm;refine BD func40 ntmps40 ?_;refine uR ?_;apply EV.drawn 14 kR kR;intro xv yw;(repeat refine' DD ?_);refine' vC (cO func87) (fun G hG hd=>YP (RQ.rnum (RN.mono hs hG)) hn) ?_;rotate_left;(repeat refine' DD ?_);refine' vC (cO func88) (fun G hG hd=>T4 (RN.mono ht hG) jm) ?_;rotate_left;(repeat (first|refine' DD ?_|(refine' DC (hf) (h:=?_);rotate_left)|(refine' DC (hm) (h:=?_);rotate_left)));(refine DJ.nil (fun G hG hF=>?_);(case hS|hS2=>rfl));refine uR ?_;rfl
theorem tW {H:Hp} (q:Rat) (hq:rq q):PC prog 55 #[aC q] H fun r H'=>RQ H' r q:=by
 have hn:=hq.num;have jm:=hq.den;refine BD func55 ntmps55 ?_;refine uR ?_;apply EV.drawn 6 kR kR;intro xv yw;(repeat (first|refine' DD ?_|(refine' DC (Q5 q) (h:=?_);rotate_left)|(refine' DC (vE q (qI jm oM)) (h:=?_);rotate_left)));refine' vB (cO func102) (fun G hG hd=>zpO q.num hn) (fun _ _ _ h k=>RI.mono h k) ?_;rotate_left;(repeat (first|refine' DD ?_|(refine' DC (Q5 q) (h:=?_);rotate_left)|(refine' DC (vE q (qI jm oM)) (h:=?_);rotate_left)));refine' vB (cO func104) (fun G hG hd=>Ti q.den jm) (fun _ _ _ h k=>RN.mono h k) ?_;rotate_left;(refine DJ.nil (fun G hG hF=>?_);(case hS|hS2=>rfl));obtain⟨hN,⟨ra,rl,rc,hr,h1⟩,_⟩:=hF;obtain⟨xa,xc,hx⟩:=SlC.val hN;rw[hx]at hN;rw[hx,hr];refine uR ?_;exact⟨ra,rl,rc,xa,_,xc,rfl,h1,hN⟩
theorem T6 {H:Hp} {u v:Value} {a b:Nat} (hu:RN H u a) (hv:RN H v b) (ha:rsm a):PC prog 109 #[u,v] H fun r _=>r=.int .i64 (br a b):=by
 have la:=ha.len;have:=Ej hu hv (eo bN _) (eo bN _) oM
 rwa [cW bN,cW bN]at this
theorem SL (a b:Nat):(br a b == 0)=decide (a=b):=by
 unfold br;rcases Nat.lt_trichotomy a b with h | h | h
 ·rw[if_pos h,qC (by omega)];rfl
 ·rw[if_neg oM,if_neg oM,qD h];rfl
 ·rw[if_neg oM,if_pos h,qC (by omega)];rfl
theorem YY {H:Hp} {w:Value} {p q:Rat} (hw:RQ H w q) (hp:rq p) (hq:rq q):PC prog 66 #[aC p,w] H fun r _=>r=.bool (decide (p=q)):=by
 obtain⟨sa,sl,sc,ta,tl,tc,rfl,hs,ht⟩:=id hw
 have hl:(tl:Int)≠0:=by
  have h1:=SlN.cap ht;have h2:=Me bN q.den_nz;have h3:=List.length_pos_iff.2 h2;omega
 refine BD func66 ntmps66 ?_;refine uR ?_;refine vA (tW p hp) ?_;rintro r G ⟨Ew,Eu,Ev,Et,Ep,Er,rfl,fZ,aM⟩ hG;have c1:=T6 fZ (RN.mono hs hG) hp.num;have c2:=T6 aM (RN.mono ht hG) hp.den;refine uR ?_;rw[show ((tl:Int) == 0)=false by simpa using hl]
 repeat (first|refine RUN ?_|refine CV (c1) ?_|refine CE (c1) ?_)
 rw[SL];by_cases h1:p.num.natAbs=q.num.natAbs
 ·rw[qD h1];refine uR ?_;refine EVL.eqb Z Z Z Z Z Z kR ?_;by_cases h2:decide (p.num<0)=decide (q.num<0)
  ·rw[show (decide (p.num<0) == decide (q.num<0))=true by simp[h2]]
   repeat (first|refine RUN ?_|refine CV (c2) ?_|refine CE (c2) ?_)
   rw[SL];congr 1
   have hn:p.num=q.num:=by
    rw[decide_eq_decide]at h2;omega
   by_cases h3:p.den=q.den
   ·rw[qD h3,qD (Rat.ext hn h3)]
   ·rw[qC h3,qC (fun e=>h3 (by rw[e]))]
  ·rw[show (decide (p.num<0) == decide (q.num<0))=false by simpa using h2];refine uR ?_;rw[qC (fun e=>h2 (by rw[e]))]
 ·rw[qC h1];refine uR ?_;rw[qC (fun e=>h1 (by rw[e]))]
def u7 (j:Nat):Int:=[1,1,1,2,3,4].getD j 1
def kP (z:Int):Rat:=Rat.divInt (z % 41-20) (u7 (z.tdiv 41 % 6).toNat)
theorem Jd (j:Nat):1<=u7 j/\u7 j<=4:=by
 unfold u7;rcases j with _ | _ | _ | _ | _ | _ | j <;> simp[qB]
theorem Hi {H:Hp} (z:Int) (hz:-9223372036854775808<=z/\z<9223372036854775808):PC prog 6 #[.int .i64 z] H fun r H'=>RQ H' r (kP z):=by
 have hq:-9223372036854775808<=z.tdiv 41/\z.tdiv 41<9223372036854775808:=by
  by_cases h:0<=z
  ·rw[Int.tdiv_eq_ediv_of_nonneg h];omega
  ·have e:z.tdiv 41 = -((-z) / 41):=by rw[<-Int.tdiv_eq_ediv_of_nonneg oM,Int.neg_tdiv,Int.neg_neg]
   rw[e];omega
 have hqw:IntKind.i64.wrap (z.tdiv 41)=z.tdiv 41:=by rw[pL];omega
 have h1:=pS z 41 hz oM oM;have h2:=pS (z.tdiv 41) 6 hq oM oM;have m1:=Int.emod_nonneg z (show (41:Int)≠0 by omega);have m2:=Int.emod_lt_of_pos z (show (0:Int)<41 by omega);obtain⟨j,hj⟩:=qh (Int.emod_nonneg (z.tdiv 41) (show (6:Int)≠0 by omega));have m3:=Int.emod_lt_of_pos (z.tdiv 41) (show (0:Int)<6 by omega);have aQ:IntKind.i64.wrap (z % 41-20)=z % 41-20:=by rw[pL];omega
 have jB:=Jd j;have wK:kP z=Rat.divInt (z % 41-20) (u7 j):=by unfold kP;rw[hj];rfl
 rw[wK]
 have Pj:([.int .i64 1,.int .i64 1,.int .i64 1,.int .i64 2,.int .i64 3,.int .i64 4]:List Value)[j]?=some (.int .i64 (u7 j)):=by
  have hj6:j<6:=oM;rcases j with _|_|_|_|_|_|j <;> first|rfl|omega
 have ho:=fun G:Hp=>Cp (H:=G) (z % 41-20) (u7 j) oM oM oM oM oM;rw[hj]at h2;refine BD func6 ntmps6 ?_
 repeat (first|refine RUN ?_|refine CV (h1) ?_|refine CE (h1) ?_)
 rw[aQ];refine EVL.buildArr Z Z Z Z Z (cs:=[.int .i64 1,.int .i64 1,.int .i64 1,.int .i64 2,.int .i64 3,.int .i64 4]) kR ?_;refine uR ?_;rw[hqw]
 repeat (first|refine RUN ?_|refine CV (h2) ?_|refine CE (h2) ?_)
 refine EVL.indexArr (e:=2) (len:=6) tO Z Z Z Z kR Z Z Z Z Z j rfl (show j<6 by omega) Pj ?_;refine vA (ho H) ?_;rintro r G ⟨ra,rl,rc,xa,xl,xc,rfl,hn,hd⟩ hG;refine uR ?_;exact⟨ra,rl,rc,xa,xl,xc,rfl,hn,hd⟩
def QL (H:Hp) (v:Value) (l:List Rat):Prop:=SlC H v l.length 5 (l.flatMap fun q=>aB (aC q))
def RL (H:Hp) (v:Value) (l:List Rat):Prop:=∃vs:List Value,vs.length=l.length/\(∀(j:Nat) (x:Value) (q:Rat),vs[j]?=some x->l[j]?=some q->RQ H x q)/\SlC H v l.length 3 (vs.flatMap aB)
theorem QL.mono {H G:Hp} {v:Value} {l:List Rat} (h:QL H v l) (k:H.Le G):QL G v l:=SlC.mono h k
theorem RL.mono {H G:Hp} {v:Value} {l:List Rat} (h:RL H v l) (k:H.Le G):RL G v l:=by
 obtain⟨vs,h1,h2,h3⟩:=h;exact⟨vs,h1,fun j x q e1 e2=>(h2 j x q e1 e2).mono k,h3.mono k⟩
theorem QL.at {H:Hp} {v:Value} {l:List Rat} {j:Nat} {q:Rat} (hj:l[j]?=some q):((l.flatMap fun q=>aB (aC q)).drop (j*5)).take 5=aB (aC q):=yy _ 5 l (fun _ _=>rfl) j q hj
theorem RQ.cells {H:Hp} {x:Value} {q:Rat} (h:RQ H x q):(aB x).length=3/\oneB (aB x)=true:=by
 obtain⟨_,_,_,_,_,_,rfl,_,_⟩:=h;exact⟨rfl,rfl⟩
theorem RL.at {H:Hp} {v:Value} {l:List Rat} (h:RL H v l) {j:Nat} {q:Rat} (hj:l[j]?=some q):∃(vs:List Value) (x:Value),SlC H v l.length 3 (vs.flatMap aB)/\((vs.flatMap aB).drop (j*3)).take 3=aB x/\RQ H x q:=by
 obtain⟨vs,h1,h2,h3⟩:=h;obtain⟨hl,rfl⟩:=qE.1 hj;have hv:vs[j]?=some (vs[j]'(by omega)):=qA oM
 have av:∀x,x∈vs->(aB x).length=3:=fun x hx=>by
  obtain⟨i,hi,rfl⟩:=List.getElem_of_mem hx;exact(h2 i _ _ (qA hi) (qA oM)).cells.1
 exact⟨vs,_,h3,yy _ 3 vs av j _ hv,h2 j _ _ hv hj⟩
theorem dZ {α:Type} {l:List α} {i:Nat} {x:α} (h:l[i]?=some x):l.take (i+1)=l.take i++[x]:=by
 obtain⟨hl,rfl⟩:=qE.1 h;exact qS hl
theorem RL.val {H:Hp} {v:Value} {l:List Rat} (h:RL H v l):∃a cap,v=.slice a l.length cap:=by
 obtain⟨vs,_,_,h3⟩:=h;exact SlC.val h3
theorem LG {H:Hp} {v:Value} {l:List Rat} (h:RL H v l) (hl:l.length<=100000000) (hq:∀q,q∈l->rq q):PC prog 12 #[v] H fun r H'=>QL H' r l:=by
 obtain⟨a,cap,rfl⟩:=RL.val h;refine BD func12 ntmps12 ?_;refine uR ?_;refine EV.loopK (ι:=Nat × Value × Ows) [0] [] (fun q=>[(3,.v q.2.1),(4,.v (.int .i64 (q.1:Int)))]) (fun _=>[]) (fun q=>q.2.2) (fun q G=>q.1<=l.length/\aF 51 5 q.2.1 q.1 ((l.take q.1).flatMap fun q=>aB (aC q)) q.2.2) (fun q=>l.length-q.1) ((0,.slice none 0 0,[])) Z Z ⟨Z,Z,trivial⟩ trivial rfl (fun _=>rfl) (⟨qQ _,aF.nil _ _⟩) ?_;rintro⟨i,w,ow⟩ G1 aj ⟨hi,ah⟩;dsimp only at hi ah;refine uR ?_;refine EV.cond Z (fun af=>?_) (fun af=>?_)
 ·simp only[nN]at af;obtain⟨q,dR⟩:=gE af;obtain⟨vs,x,hs,hc,hx⟩:=(h.mono aj).at dR;obtain⟨xa,xl,xc,ya,yl,yc,rfl,gA,gZ⟩:=id hx;refine uR ?_;refine EVL.idxM tO Z Z Z Z Z Z Z Z Z (hs) (i) (rfl) (af) (hc) ?_
  repeat (first|refine RUN ?_|refine CV (Dr hx (hq q (qF dR))) ?_|refine CE (Dr hx (hq q (qF dR))) ?_)
  refine EVL.app1 tO Z Z Z Z Z Z Z Z Z Z Z Z Z Z Z Z Z Z Z (fun _=>rfl) (ow) ([]) ((qG _).symm) (ah) oM fun _=>?_;intro v' au ao;refine uR ?_;refine⟨(i+1,v',au),⟨rfl,?_,trivial⟩,sB,trivial,trivial,qG _,⟨by dsimp only;omega,?_⟩,Hp.Le.refl _,by dsimp only;omega⟩
  ·rw[aO i (by omega)];rfl
  ·dsimp only;rw[dZ dR,List.flatMap_append];exact ao
 ·simp only[nN]at af;obtain rfl:i=l.length:=oM;(first|refine EVL.publishL [] ow [] ((qG _).symm) ah fun G2 ai hs=>?_|refine EV.publishL [] ow [] ((qG _).symm) ah fun G2 ai hs=>?_);refine uR ?_;rw[qa]at hs;exact hs
def RVs (H:Hp) (vs:List Value) (l:List Rat):Prop:=vs.length=l.length/\∀(j:Nat) (x:Value) (q:Rat),vs[j]?=some x->l[j]?=some q->RQ H x q
theorem RVs.mono {H G:Hp} {vs:List Value} {l:List Rat} (h:RVs H vs l) (k:H.Le G):RVs G vs l:=⟨h.1,fun j x q e1 e2=>(h.2 j x q e1 e2).mono k⟩
theorem RVs.nil (H:Hp):RVs H [] []:=⟨rfl,fun j x q h=>by simp at h⟩
theorem RVs.snoc {H:Hp} {vs:List Value} {l:List Rat} {x:Value} {q:Rat} (h:RVs H vs l) (k:RQ H x q):RVs H (vs++[x]) (l++[q]):=by
 refine⟨by simp[h.1],fun j y r e1 e2=>?_⟩;rw[List.getElem?_append]at e1 e2;by_cases hj:j<vs.length
 ·rw[if_pos hj]at e1;rw[if_pos (by rw[<-h.1];exact hj)]at e2;exact h.2 j y r e1 e2
 ·rw[if_neg hj]at e1;rw[if_neg (by rw[<-h.1];exact hj)]at e2;have:=h.1
  cases hk:j-vs.length with
  | zero =>
   rw[hk]at e1;rw[<-h.1,hk]at e2;simp at e1 e2;subst e1;subst e2;exact k
  | succ m=>rw[hk]at e1;simp at e1
theorem RVs.rl {H:Hp} {vs:List Value} {l:List Rat} {v:Value} (h:RVs H vs l) (hs:SlC H v l.length 3 (vs.flatMap aB)):RL H v l:=⟨vs,h.1,h.2,hs⟩
abbrev IL (H:Hp) (v:Value) (l:List Int):Prop:=SlN (fun z:Int=>Value.int .i64 z) H v l
def lR (l:List Int) (n:Nat):List Rat:=(List.range n).map fun i=>match l[i]? with
 | some z=>kP z
 | none=>0
theorem Ix (l:List Int) (n:Nat):(lR l n).length=n:=by simp[lR]
theorem zqe {l:List Int} {n i:Nat} {z:Int} (hi:i<n) (h:l[i]?=some z):(lR l n)[i]?=some (kP z):=by
 unfold lR;rw[qK,List.getElem?_range hi];simp[h]
theorem zqd {l:List Int} {n i:Nat} (hi:i<n) (h:l[i]?=none):(lR l n)[i]?=some 0:=by
 unfold lR;rw[qK,List.getElem?_range hi];simp[h]
theorem QY {H:Hp} {v:Value} {l:List Int} (h:IL H v l) (hb:∀z,z∈l -> -9223372036854775808<=z/\z<9223372036854775808) (n:Nat) (hn:n<=1000000):PC prog 22 #[v,.int .i64 (n:Int)] H fun r H'=>RL H' r (lR l n):=by
 obtain⟨a,cap,rfl⟩:=SlC.val h;have eP:=fun G:Hp=>ju (H:=G) 0 oM oM;rw[show ((0:Int):Rat)=0 from rfl]at eP;refine BD func22 ntmps22 ?_;refine uR ?_;refine EV.loopK (ι:=Nat × List Value × Value × Ows) [0,1] [] (fun q=>[(5,.v q.2.2.1),(6,.v (.int .i64 (q.1:Int)))]) (fun _=>[]) (fun q=>q.2.2.2) (fun q G=>q.1<=n/\RVs G q.2.1 ((lR l n).take q.1)/\aF 33 3 q.2.2.1 q.1 (q.2.1.flatMap aB) q.2.2.2) (fun q=>n-q.1) ((0,[],.slice none 0 0,[])) Z Z ⟨Z,Z,trivial⟩ trivial rfl (fun _=>rfl) (⟨qQ _,RVs.nil _,aF.nil _ _⟩) ?_;rintro⟨i,vs,w,ow⟩ G1 aj ⟨hi,aG,ah⟩;dsimp only at hi aG ah;refine uR ?_;refine EV.cond Z (fun af=>?_) (fun af=>?_)
 ·simp only[nN]at af;refine uR ?_;refine EV.cond Z (fun dc=>?_) (fun dc=>?_)
  ·simp only[nN]at dc;obtain⟨z,EF⟩:=gE dc;have CL:=hb z (qF EF);have hq:=zqe af EF;refine uR ?_;refine vI ((h.mono aj)) (i) (rfl) (dc) ((by rw[qK,EF];rfl)) ?_;refine uR ?_;refine vA (Hi z CL) ?_;rintro r G2 hr ai;obtain⟨xa,xl,xc,ya,yl,yc,rfl,gA,gZ⟩:=id hr;refine uR ?_;refine EVL.app1 tO Z Z Z Z Z Z Z Z Z Z Z Z Z Z Z Z Z Z Z (fun _=>rfl) (ow) ([]) ((qG _).symm) (ah) oM fun _=>?_;intro v' au ao;refine uR ?_;refine⟨(i+1,vs++[_],v',au),⟨rfl,?_,trivial⟩,sB,trivial,trivial,qG _,⟨af,by rw[dZ hq];exact(aG.mono ai).snoc hr,?_⟩,ai,by dsimp only;omega⟩
   ·rw[aO i (by omega)];rfl
   ·dsimp only;rw[List.flatMap_append];exact ao
  ·simp only[nN]at dc;have EF:l[i]?=none:=qe oM;have hq:=zqd af EF;refine uR ?_;refine vA (eP _) ?_;rintro r G2 hr ai;obtain⟨xa,xl,xc,ya,yl,yc,rfl,gA,gZ⟩:=id hr;refine uR ?_;refine EVL.app1 tO Z Z Z Z Z Z Z Z Z Z Z Z Z Z Z Z Z Z Z (fun _=>rfl) (ow) ([]) ((qG _).symm) (ah) oM fun _=>?_;intro v' au ao;refine uR ?_;refine⟨(i+1,vs++[_],v',au),⟨rfl,?_,trivial⟩,sB,trivial,trivial,qG _,⟨af,by rw[dZ hq];exact(aG.mono ai).snoc hr,?_⟩,ai,by dsimp only;omega⟩
   ·rw[aO i (by omega)];rfl
   ·dsimp only;rw[List.flatMap_append];exact ao
 ·simp only[nN]at af;obtain rfl:i=n:=oM;(first|refine EVL.publishL [] ow [] ((qG _).symm) ah fun G2 ai hs=>?_|refine EV.publishL [] ow [] ((qG _).symm) ah fun G2 ai hs=>?_);refine uR ?_;have e:(lR l i).take i=lR l i:=qO (by rw[Ix];exact qH _);rw[e]at aG;exact(aG.mono ai).rl (by rw[Ix];exact hs)
theorem Kr {a b c a' b' c':Value} (e:Value.agg #[a,b,c]=.agg #[a',b',c']):a=a'/\b=b'/\c=c':=by
 simp only[Value.agg.injEq,Array.mk.injEq,List.cons.injEq,and_true]at e;exact e
theorem Us {H:Hp} {v:Value} {l:List Rat} (h:RL H v l) (hl:l.length<=100000) (hb:∀q,q∈l->ht q<=100):PC prog 137 #[v] H fun r H'=>RQ H' r (aJ l):=by
 obtain⟨a,cap,rfl⟩:=RL.val h;have eP:=fun G:Hp=>ju (H:=G) 0 oM oM;rw[show ((0:Int):Rat)=0 from rfl]at eP;refine BD func137 ntmps137 ?_;refine uR ?_;refine vA (eP _) ?_;rintro r G0 hr zp;obtain⟨xa,xl,xc,ya,yl,yc,rfl,gA,gZ⟩:=id hr;refine uR ?_;refine EV.loopK (ι:=Nat × Value × Value × Value) [0,2,3] [2] (fun q=>[(4,.v (.int .i64 (q.1:Int)))]) (fun q=>[(3,33,[q.2.1,q.2.2.1,q.2.2.2])]) (fun _=>[]) (fun q G=>q.1<=l.length/\G0.Le G/\RQ G (.agg #[q.2.1,q.2.2.1,q.2.2.2]) (aJ (l.take q.1))) (fun q=>l.length-q.1) ((0,_,_,_)) Z Z ⟨Z,trivial⟩ ⟨Z,trivial⟩ rfl (fun _=>rfl) (⟨qQ _,Hp.Le.refl _,hr⟩) ?_;rintro⟨i,c1,c2,c3⟩ G1 aj ⟨hi,lM,hs⟩;dsimp only at hi hs lM;refine uR ?_;refine EV.cond Z (fun af=>?_) (fun af=>?_)
 ·simp only[nN]at af;obtain⟨q,dR⟩:=gE af;obtain⟨vs,x,bA,hc,hx⟩:=(h.mono (zp.trans lM)).at dR;obtain⟨Jo,Jm,Jn,Jl,Jj,Jk,rfl,wB,NC⟩:=id hx;have uE:=hb q (qF dR);have dI:=pF 100 (l.take i) (fun q hq=>hb q (List.mem_of_mem_take hq));rw[qP,qn hi]at dI;have qs:rq (aJ (l.take i)):=qI dI oM;have qq:rq q:=qI uE oM;refine uR ?_;apply EV.drawn 6 kR kR;intro xv yw;(repeat refine' DD ?_);refine' DJ.idxM tO Z Z Z Z Z Z Z Z Z (bA) (i) (rfl) (af) (hc) ?_;rotate_left;(repeat refine' DD ?_);refine' vB (cO func92) (fun G hG hd=>Ct (hs.mono hG) (hx.mono hG) qs qq) (fun _ _ _ h k=>RQ.mono h k) ?_;rotate_left;(refine DJ.nil (fun G2 ai fN=>?_);(case hS|hS2=>rfl));have hR:=fN.1;rw[<-uk,<-dZ dR]at hR;obtain⟨_,_,_,_,_,_,e,_,_⟩:=id hR;rw[e]at hR ⊢;refine uR ?_;refine⟨(i+1,_,_,_),⟨?_,trivial⟩,sB,⟨Z,trivial⟩,sB,rfl,⟨af,lM.trans ai,hR⟩,ai,by dsimp only;omega⟩;rw[aO i (by omega)];rfl
 ·simp only[nN]at af;obtain rfl:i=l.length:=oM;rw[qa]at hs;obtain⟨_,_,_,_,_,_,e,_,_⟩:=id hs;obtain⟨rfl,rfl,rfl⟩:=Kr e;refine uR ?_;exact hs
theorem KI {n:Nat} (h:n<=100000):ht ((n:Int):Rat)<=20:=by
 have:=ie (n:Int);have h2:bl (n:Int).natAbs<=17:=cf oM;omega
theorem T5 {H:Hp} {v:Value} {l:List Rat} (h:RL H v l) (hl:l.length<=100000) (h0:l.length≠0) (hb:∀q,q∈l->ht q<=100):PC prog 90 #[v] H fun r H'=>RQ H' r (aJ l / ((l.length:Int):Rat)):=by
 obtain⟨a,cap,rfl⟩:=RL.val h;have hs:=pF 100 l hb;have eU:=KI hl;have eT:=fun G:Hp=>ju (H:=G) (l.length:Int) oM oM;refine BD func90 ntmps90 ?_;refine uR ?_;refine vA (Us h hl hb) ?_;rintro r1 G1 h1 aj;refine uR ?_;refine vA (eT _) ?_;rintro r2 G2 h2 ai;refine uR ?_;refine EVL.call Z Z Z Z Z (Jb (h1.mono ai) h2 (qI hs oM) (qI eU oM) (by show (l.length:Int)≠0;omega)) ?_;rintro r3 G3 ⟨_,_,_,_,_,_,rfl,d1,d2⟩ _;refine uR ?_;exact⟨_,_,_,_,_,_,rfl,d1,d2⟩
theorem zoi {H:Hp} {u v:Value} {l m:List Rat} (hu:RL H u l) (hv:RL H v m) (sN:l.length=m.length) (hl:l.length<=100000) (hb:∀q,q∈l->ht q<=100) (dF:∀q,q∈m->ht q<=100):PC prog 216 #[u,v] H fun r H'=>RQ H' r (aJ (iI l m)):=by
 obtain⟨a,cap,rfl⟩:=RL.val hu;obtain⟨b,bz,rfl⟩:=RL.val hv;have kn:(iI l m).length=l.length:=by unfold iI;rw[List.length_zipWith];omega
 have hdh:=KO hb dF;have eP:=fun G:Hp=>ju (H:=G) 0 oM oM;rw[show ((0:Int):Rat)=0 from rfl]at eP;refine BD func216 ntmps216 ?_;refine uR ?_;refine vA (eP _) ?_;rintro r G0 hr zp;obtain⟨xa,xl,xc,ya,yl,yc,rfl,gA,gZ⟩:=id hr;refine uR ?_;refine EV.loopK (ι:=Nat × Value × Value × Value) [0,1,4,5] [4] (fun q=>[(6,.v (.int .i64 (q.1:Int)))]) (fun q=>[(5,33,[q.2.1,q.2.2.1,q.2.2.2])]) (fun _=>[]) (fun q G=>q.1<=l.length/\G0.Le G/\RQ G (.agg #[q.2.1,q.2.2.1,q.2.2.2]) (aJ ((iI l m).take q.1))) (fun q=>l.length-q.1) ((0,_,_,_)) Z Z ⟨Z,trivial⟩ ⟨Z,trivial⟩ rfl (fun _=>rfl) (⟨qQ _,Hp.Le.refl _,hr⟩) ?_;rintro⟨i,c1,c2,c3⟩ G1 aj ⟨hi,lM,hs⟩;dsimp only at hi hs lM;refine uR ?_;refine EV.cond Z (fun af=>?_) (fun af=>?_)
 ·simp only[nN]at af;obtain⟨q,dR⟩:=gE af;obtain⟨q',AO⟩:∃q,m[i]?=some q:=⟨_,qA (sN ▸ af)⟩;obtain⟨vs,x,bA,hc,hx⟩:=(hu.mono (zp.trans lM)).at dR;obtain⟨Jo,Jm,Jn,Jl,Jj,Jk,rfl,wB,NC⟩:=id hx;obtain⟨vs2,x2,rZ,cM,hy⟩:=(hv.mono (zp.trans lM)).at AO;obtain⟨xa'',xl'',xc'',ya'',yl'',yc'',rfl,oD,hy2'⟩:=id hy;have uE:=hb q (qF dR);have On:=dF q' (qF AO);have hqd:=Z3 dR AO;have dI:=pF 200 ((iI l m).take i) (fun q hq=>hdh q (List.mem_of_mem_take hq));rw[qP,qn (by omega)]at dI;have qs:rq (aJ ((iI l m).take i)):=qI dI oM;have hm:=pG q q';have qq:rq (q*q'):=qI hm oM;refine uR ?_;apply EV.drawn 11 kR kR;intro xv yw;(repeat refine' DD ?_);refine' DJ.idxM tO Z Z Z Z Z Z Z Z Z (bA) (i) (rfl) (af) (hc) ?_;rotate_left;(repeat refine' DD ?_);refine' DJ.idxM tO Z Z Z Z Z Z Z Z Z (rZ) (i) (rfl) ((sN ▸ af)) (cM) ?_;rotate_left;(repeat refine' DD ?_);refine' vB (cO func94) (fun G hG hd=>Mk (hx.mono hG) (hy.mono hG) (qI uE oM) (qI On oM)) (fun _ _ _ h k=>RQ.mono h k) ?_;rotate_left;refine' vB (cO func92) (fun G hG hd=>Ct (hs.mono hG) (hd.head kR) qs qq) (fun _ _ _ h k=>RQ.mono h k) ?_;rotate_left;(refine DJ.nil (fun G2 ai fN=>?_);(case hS|hS2=>rfl));have hR:=fN.1;rw[<-uk,<-dZ hqd]at hR;obtain⟨_,_,_,_,_,_,e,_,_⟩:=id hR;rw[e]at hR ⊢;refine uR ?_;refine⟨(i+1,_,_,_),⟨?_,trivial⟩,sB,⟨Z,trivial⟩,sB,rfl,⟨af,lM.trans ai,hR⟩,ai,by dsimp only;omega⟩;rw[aO i (by omega)];rfl
 ·simp only[nN]at af;obtain rfl:i=l.length:=oM;rw[show (iI l m).take l.length=iI l m by rw[<-kn,qa]]at hs;obtain⟨_,_,_,_,_,_,e,_,_⟩:=id hs;obtain⟨rfl,rfl,rfl⟩:=Kr e;refine uR ?_;exact hs
def XU (n:Int) (d:Nat):Int :=
 let q:=n / (d:Int)
 let r:=n % (d:Int)
 if gL (r+r) d=0 then (if q % 2=0 then q else q+1) else if 0<gL (r+r) d then q+1 else q
def kb (z:Int):Nat:=(max 0 (min z 256)).toNat
def nr (k:Nat) (a:Rat):Rat:=mkRat (XU (a.num*(2 ^ k:Nat)) a.den) (2 ^ k)
theorem TR (n d:Int) (h:d≠0):ht (Rat.divInt n d)<=max (bl n.natAbs) (bl d.natAbs):=by
 rw[TT n d h];refine qI (Hj _ _ oM) ?_;have:(if d<0 then -n else n).natAbs=n.natAbs:=by split <;> simp
 rw[this];exact qH _
theorem RH (z:Int):ht (kP z)<=5:=by
 unfold kP;have jB:=Jd (z.tdiv 41 % 6).toNat
 have m1:=Int.emod_nonneg z (show (41:Int)≠0 by omega);have m2:=Int.emod_lt_of_pos z (show (0:Int)<41 by omega);refine qI (TR _ _ oM) (Nat.max_le.2 ⟨cf oM,cf oM⟩)
theorem zqn {H:Hp} {w:Value} {p:Rat} (hw:RQ H w p) (hp:rq p):PC prog 66 #[aC p,w] H fun r _=>r=.bool true:=by
 have:=YY hw hp hp
 rwa [qD rfl]at this
theorem iL {q:Rat} {k:Nat} (h:ht q<=k) (hk:k<=100000000):rq q:=qI h hk
section
variable {P:Program} {n:Nat} {ops:Array Oper} {o:Oper} {rest:List Oper} {env:Env} {bx:Bxs} {H:Hs} {Q:EQ} {τ:Tab} {d:Nat}
end
theorem zpN (a:Rat):bI a a=0:=by unfold bI;rw[if_neg Rat.lt_irrefl,if_neg Rat.lt_irrefl]
theorem DW (a b:Rat):bI a b>0↔b<a:=by
 unfold bI;constructor
 ·intro h;split at h
  ·exact absurd h (by decide)
  ·split at h
   ·assumption
   ·exact absurd h (by decide)
 ·intro h;rw[if_neg (Rat.not_lt.2 (Rat.le_of_lt h)),if_pos h];decide
theorem Cl:aC 0=.agg #[.bool false,.int .u64 0,.string ⟨#[]⟩,.int .u64 0,.string ⟨#[]⟩]:=by
 show frV 0 0=_;rw[Cj,show (0:Int).natAbs=0 from rfl,Cz (n:=0) (by decide)];rfl
theorem rN:aB (aC 0)=[.bool false,.int .u64 0,.string ⟨#[]⟩,.int .u64 0,.string ⟨#[]⟩]:=by rw[Cl];rfl
theorem bE {q:Rat} {n:Nat} (h:ht q<=n) (hn:n<=100000000):sm q:=qI h hn
theorem Ri {H:Hp} {v:Value} {l:List Rat} (h:QL H v l) (hl:l.length<=100000) (hb:∀q,q∈l->ht q<=100):PC prog 119 #[v] H fun r _=>r=aC (aJ l):=by
 obtain⟨a,cap,rfl⟩:=SlC.val h;have hz:aB (aC (aJ (l.take 0)))=[.bool false,.int .u64 0,.string ⟨#[]⟩,.int .u64 0,.string ⟨#[]⟩]:=rN;refine BD func119 ntmps119 ?_;refine uR ?_;refine EV.loopK (ι:=Nat) [2,3,6,7] [2] (fun i=>[(8,.v (.int .i64 (i:Int)))]) (fun i=>[(3,51,aB (aC (aJ (l.take i))))]) (fun _=>[]) (fun i G=>i<=l.length) (fun i=>l.length-i) (0) Z Z ⟨Z,trivial⟩ ⟨by rw[hz];rfl,trivial⟩ rfl (fun _=>rfl) (qQ _) ?_;intro i G1 aj hi;refine uR ?_;refine EV.cond Z (fun af=>?_) (fun af=>?_)
 ·simp only[nN]at af;obtain⟨q,dR⟩:=gE af;have uE:=hb q (qF dR);have dI:=pF 100 (l.take i) (fun q hq=>hb q (List.mem_of_mem_take hq));rw[qP,qn hi]at dI;have cE:=ye (aJ (l.take i)) q (bE dI oM) (bE uE oM);rw[<-uk,<-dZ dR]at cE;refine uR ?_;refine EVL.idxM tO Z Z Z Z Z Z Z Z Z ((SlC.mono (show SlC H (.slice a l.length cap) l.length 5 (l.flatMap fun q=>aB (aC q)) from h) aj)) (i) (rfl) (af) ((QL.at (H:=H) (v:=.slice a l.length cap) dR)) ?_
  repeat (first|refine RUN ?_|refine CV (cE) ?_|refine CE (cE) ?_)
  refine⟨i+1,⟨?_,trivial⟩,sB,⟨Z,trivial⟩,sB,rfl,af,Hp.Le.refl _,by omega⟩;rw[aO i (by omega)];rfl
 ·simp only[nN]at af;obtain rfl:i=l.length:=oM;rw[qa];refine uR ?_;rfl
theorem YD {H:Hp} {v:Value} {l:List Rat} (h:QL H v l) (hl:l.length<=100000) (h0:l.length≠0) (hb:∀q,q∈l->ht q<=100):PC prog 69 #[v] H fun r _=>r=.tuple #[aC (aJ l / ((l.length:Int):Rat)),.bool true]:=by
 obtain⟨a,cap,rfl⟩:=SlC.val h;have hs:=pF 100 l hb;have eU:=KI hl;have bk:=Ri h hl hb;have eT:=np (l.length:Int) oM oM;have hd:=DG (aJ l) ((l.length:Int):Rat) (bE hs oM) (bE eU oM) (by intro e;have:((l.length:Int):Rat)=((0:Int):Rat):=e;exact h0 (by have:=Rat.intCast_inj.1 this;omega));refine BD func69 ntmps69 ?_
 repeat (first|refine RUN ?_|refine CV (bk) ?_|refine CV (eT) ?_|refine CV (hd) ?_|refine CE (bk) ?_|refine CE (eT) ?_|refine CE (hd) ?_)
 rfl
theorem YE {H:Hp} {v:Value} (h:QL H v []):PC prog 69 #[v] H fun r _=>r=.tuple #[aC 0,.bool false]:=by
 obtain⟨a,cap,rfl⟩:=SlC.val h;have bk:=Ri h (qQ _) (by intro q hq;cases hq);have eT:=np 0 oM oM;rw[show ((0:Int):Rat)=0 from rfl]at eT;have hd:=zly 0;refine BD func69 ntmps69 ?_
 repeat (first|refine RUN ?_|refine CV (bk) ?_|refine CV (eT) ?_|refine CV (hd) ?_|refine CE (bk) ?_|refine CE (eT) ?_|refine CE (hd) ?_)
 rfl
abbrev BJ:Value:=.func (.func 68) #[] #[]
abbrev b6 (l:List Rat):List Value:=l.flatMap fun q=>aB (aC q)
theorem B4 {l:List Rat} (sp:List Value) {j:Nat} {q:Rat} (h:l[j]?=some q):((b6 l++sp).drop (j*5)).take 5=aB (aC q):=MO (f:=fun q=>aB (aC q)) (fun _ _=>rfl) sp h
theorem B3 {l:List Rat} (sp:List Value) {j:Nat} (q:Rat) (h:j<l.length):(b6 l++sp).take (j*5)++aB (aC q)++(b6 l++sp).drop (j*5+5)=b6 (l.set j q)++sp:=Eb (f:=fun q=>aB (aC q)) (fun _ _=>rfl) sp q h
theorem rH (l:List Rat):(b6 l).length=l.length*5:=flat_len _ 5 l (fun _ _=>rfl)
theorem XS {acc rest:List Rat} {j:Nat} {x:Rat} (h:j<=acc.length):(aV acc j x++rest)[j]?=some x:=by
 unfold aV;rw[qZ,qL (by rw[qP];omega),qP,qn h,Nat.sub_self];rfl
theorem XR {acc rest:List Rat} {j:Nat} {x y:Rat} (h:acc[j]?=some y):(aV acc (j+1) x++rest)[j]?=some y:=by
 obtain⟨hl,_⟩:=qE.1 h;unfold aV;rw[qZ,qM (by rw[qP];omega),List.getElem?_take_of_lt oM,h]
theorem Zd {acc rest:List Rat} {j:Nat} {x:Rat}:(aV acc j x++rest).length=acc.length+1+rest.length:=by
 have:=(vV acc j x).length_eq;rw[qJ,this,qJ];rfl
theorem SK {acc rest:List Rat} {j:Nat} {x y:Rat} (h:acc[j]?=some y):((aV acc (j+1) x++rest).set (j+1) y).set j x=aV acc j x++rest:=by
 obtain⟨hl,hy⟩:=qE.1 h;have hlen:(acc.take j).length=j:=by rw[qP];omega
 unfold aV;rw[qS hl,hy,qp hl,hy]
 rw[show (acc.take j++[y]++x::acc.drop (j+1)++rest)=acc.take j++(y::x::(acc.drop (j+1)++rest)) by simp,
  List.set_append_right (j+1) y oM,hlen,show j+1-j=1 by omega,List.set_cons_succ,List.set_cons_zero,
  List.set_append_right j x oM,hlen,Nat.sub_self,List.set_cons_zero]
 simp
theorem zp0 (acc rest:List Rat) (x:Rat):aV acc acc.length x++rest=acc++x::rest:=by
 unfold aV;rw[qa,List.drop_length];simp
theorem zka {H:Hp} {b cap:Nat} {l:List Rat} {sp:List Value} (hl:l.length<=1000) (hb:∀q,q∈l->sm q) :
  PW prog 188 #[.slice (some ⟨b,0,none⟩) l.length cap,.int .i64 0,.int .i64 (l.length:Int),BJ] H [(b,51,b6 l++sp)] fun v ow _=>v=.tuple #[]/\∃m,ow=[(b,51,b6 m++sp)]/\m.Perm l/\jQ m:=by
 refine PW.body tO func188 Z kR ntmps188 Z Z ?_;refine uR ?_;refine EV.loopK (ι:=Nat × List Rat) [0,1,2,3] [] (fun q=>[(8,.v (.int .i64 (q.1:Int)))]) (fun _=>[]) (fun q=>[(b,51,b6 q.2++sp)]) (fun q _=>1<=q.1/\q.2.Perm l/\jQ (q.2.take q.1)) (fun q=>l.length-q.1) ((1,l)) Z Z ⟨Z,trivial⟩ trivial rfl (fun _=>rfl) (⟨qH _,List.Perm.refl _,by cases l with | nil=>exact List.Pairwise.nil | cons a l=>exact List.pairwise_singleton _ _⟩) ?_;rintro⟨i,cur⟩ G1 aj ⟨h1,bU,cT⟩;dsimp only at h1 bU cT;have cj:=bU.length_eq;refine uR ?_;refine EV.cond Z (fun af=>?_) (fun af=>?_)
 ·simp only[nN]at af;obtain⟨x,di⟩:∃x,cur[i]?=some x:=⟨_,qA oM⟩;have hcut:cur=cur.take i++x::cur.drop (i+1):=by rw[<-Ik di,List.take_append_drop]
  have bH:(cur.take i).length=i:=by rw[qP];omega
  have N5:sm x:=hb x (bU.mem_iff.1 (qF di));have N6:∀y,y∈cur.take i->sm y:=fun y hy=>hb y (bU.mem_iff.1 (List.mem_of_mem_take hy));have ft:(cur.drop (i+1)).length=l.length-(i+1):=by rw[qt];omega
  have aK:=zp0 (cur.take i) (cur.drop (i+1)) x;rw[bH,<-hcut]at aK;generalize PN:cur.take i=acc at *
  generalize cur.drop (i+1)=rest at *
  subst bH;subst aK;refine uR ?_;refine EV.loopK (ι:=Nat) [0,1,2,3,8] [] (fun j=>[(9,.v (.int .i64 (j:Int)))]) (fun _=>[]) (fun j=>[(b,51,b6 (aV acc j x++rest)++sp)]) (fun j _=>j<=acc.length/\∀y,y∈acc.drop j->x<=y) (fun j=>j) (acc.length) Z Z ⟨Z,trivial⟩ trivial rfl (fun _=>rfl) (⟨qH _,by rw[List.drop_length];intro y hy;cases hy⟩) ?_;rintro j G2 ai ⟨hj,cK⟩;have hlen:=Zd (acc:=acc) (rest:=rest) (j:=j) (x:=x);have hx':=XS (rest:=rest) (x:=x) hj;have AS:=vV acc j x;have bk:(aV acc j x++rest).length=l.length:=by rw[hlen];omega
  rw[<-bk]
  have next:(aV acc j x++rest).Perm l:=by
   refine List.Perm.trans ?_ bU;exact(AS.trans (vV acc acc.length x).symm).append_right rest
  have fin:jQ (aV acc j x)->jQ ((aV acc j x++rest).take (acc.length+1)):=fun h=>by
   rw[List.take_append_of_le_length (by rw[AS.length_eq];simp)]
   rwa [qO (by rw[AS.length_eq];simp)]
  cases j with
  | zero =>
   have hr:=fin (Ea cT (by intro y hy;rw[List.take_zero]at hy;cases hy) cK);refine uR ?_;apply EV.drawn 17 kR kR;intro xv yw;(repeat refine' DD ?_);(refine DJ.nil (fun G3 ax fM=>?_);(case hS|hS2=>rfl));refine uR ?_;refine⟨(acc.length+1,aV acc 0 x++rest),⟨?_,trivial⟩,sB,trivial,trivial,rfl,⟨by omega,next,hr⟩,ai.trans ax,by dsimp only;omega⟩;rw[aO _ (by omega)];rfl
  | succ j =>
   obtain⟨y,jU⟩:∃y,acc[j]?=some y:=⟨_,qA oM⟩;have jW:=XR (rest:=rest) (x:=x) jU;have hc:=pC x y N5 (N6 y (qF jU))
   have cF:bI x y<0->x<=y:=fun h=>by
    unfold bI at h;split at h
    ·exact Rat.le_of_lt (by assumption)
    ·split at h <;> omega
   have hge:¬bI x y<0->y<=x:=fun h=>by
    unfold bI at h;split at h
    ·omega
    ·rename_i k;exact Rat.not_lt.1 k
   generalize bI x y=o at *
   refine uR ?_;apply EV.drawn 17 kR kR;intro xv yw;(repeat refine' DD ?_);rw[qD (show ((j+1:Nat):Int)>0 by omega)];(repeat refine' DD ?_);refine' DJ.idxB tO Z Z Z Z Z Z Z Z Z (j+1) ((j+1)*5) (rfl) (oM) (rfl) ?_;rotate_left;refine' DJ.ofVal (az.loadOwn tO Z Z Z Z (0) Z (B4 sp hx') Z Z) Z Z Z ?_;rotate_left;(repeat refine' DD ?_);refine' DJ.idxB tO Z Z Z Z Z Z Z Z Z (j) (j*5) ((by rw[pL];omega)) (oM) (rfl) ?_;rotate_left;refine' DJ.ofVal (az.loadOwn tO Z Z Z Z (0) Z (B4 sp jW) Z Z) Z Z Z ?_;rotate_left;(refine' DJ.callD Z Z Z Z Z Z hc ?_;rotate_left);(repeat refine' DD ?_);(refine DJ.nil (fun G3 ax fM=>?_);(case hS|hS2=>rfl));refine uR ?_;by_cases ho:o<0
   ·rw[qD ho];have jX:=cF ho;refine uR ?_;refine EVA.start kR ?_;refine EVA.val tO (0) Z kR kR kR Z Z Z Z Z ?_;refine EVA.val tO (1) Z kR kR kR Z Z Z Z Z ?_;refine EVA.val tO (5) Z kR kR kR Z Z Z Z Z ?_;refine EVA.val tO (6) Z kR kR kR Z Z Z Z Z ?_;refine EVA.val tO (7) Z kR kR kR Z Z Z Z Z ?_;refine EVA.idxB tO (8) Z kR kR kR Z Z Z Z Z Z Z Z Z (j) (j*5) ((by rw[pL];omega)) (oM) (rfl) ?_;refine EVA.val tO (10) Z kR kR kR Z Z Z Z Z ?_;refine EVA.val tO (11) Z kR kR kR Z Z Z Z Z ?_;refine EVA.idxB tO (12) Z kR kR kR Z Z Z Z Z Z Z Z Z (j+1) ((j+1)*5) (rfl) (oM) (rfl) ?_;refine EVA.val tO (2) Z kR kR kR Z Z Z Z Z ?_;refine EVA.val tO (3) Z kR kR kR Z Z Z Z Z ?_;refine EVA.val tO (4) Z kR kR kR Z Z Z Z Z ?_;refine EVA.two 9 13 kR Z Z ?_ ?_
    ·refine EVL.loadOwn tO Z Z Z Z Z Z (0) Z (B4 sp jW) Z Z ?_;refine EVL.nil ⟨rfl,?_⟩;refine EVA.one 13 kR Z ?_;refine EVL.loadOwn tO Z Z Z Z Z Z (0) Z (B4 sp hx') Z Z ?_;refine EVL.nil ⟨rfl,?_⟩;refine EVA.idxB tO (14) Z kR kR kR Z Z Z Z Z Z Z Z Z (j+1) ((j+1)*5) (rfl) (oM) (rfl) ?_;refine EVA.one 15 kR Z ?_;refine EVL.storeOwn tO Z Z Z Z Z Z ([]) ([]) Z Z Z Z ((by rw[qJ,rH];show (j+1)*5+5<=_;omega)) ((B3 sp y (show j+1<(aV acc (j+1) x++rest).length by omega))) ?_;refine EVL.nil ⟨rfl,?_⟩;refine EVA.idxB tO (16) Z kR kR kR Z Z Z Z Z Z Z Z Z (j) (j*5) ((by rw[pL];omega)) (oM) (rfl) ?_;refine EVA.one 17 kR Z ?_;refine EVL.storeOwn tO Z Z Z Z Z Z ([]) ([]) Z Z Z Z ((by rw[qJ,rH,List.length_set];show j*5+5<=_;omega)) ((B3 sp x (show j<((aV acc (j+1) x++rest).set (j+1) y).length by rw[List.length_set];omega))) ?_;refine EVL.nil ⟨rfl,?_⟩;refine EVA.nil kR ?_;rw[SK jU];refine uR ?_;refine⟨j,⟨?_,trivial⟩,sB,trivial,trivial,rfl,⟨by omega,?_⟩,ax,by omega⟩
     ·rw[show IntKind.i64.wrap (((j+1:Nat):Int)-1)=(j:Int) by rw[pL];omega];rfl
     ·intro z hz;rw[Ik jU]at hz;rcases List.mem_cons.1 hz with rfl | hz
      ·exact jX
      ·exact cK z hz
    ·refine EVL.loadOwn tO Z Z Z Z Z Z (0) Z (B4 sp hx') Z Z ?_;refine EVL.nil ⟨rfl,?_⟩;refine EVA.one 9 kR Z ?_;refine EVL.loadOwn tO Z Z Z Z Z Z (0) Z (B4 sp jW) Z Z ?_;refine EVL.nil ⟨rfl,?_⟩;refine EVA.idxB tO (14) Z kR kR kR Z Z Z Z Z Z Z Z Z (j+1) ((j+1)*5) (rfl) (oM) (rfl) ?_;refine EVA.one 15 kR Z ?_;refine EVL.storeOwn tO Z Z Z Z Z Z ([]) ([]) Z Z Z Z ((by rw[qJ,rH];show (j+1)*5+5<=_;omega)) ((B3 sp y (show j+1<(aV acc (j+1) x++rest).length by omega))) ?_;refine EVL.nil ⟨rfl,?_⟩;refine EVA.idxB tO (16) Z kR kR kR Z Z Z Z Z Z Z Z Z (j) (j*5) ((by rw[pL];omega)) (oM) (rfl) ?_;refine EVA.one 17 kR Z ?_;refine EVL.storeOwn tO Z Z Z Z Z Z ([]) ([]) Z Z Z Z ((by rw[qJ,rH,List.length_set];show j*5+5<=_;omega)) ((B3 sp x (show j<((aV acc (j+1) x++rest).set (j+1) y).length by rw[List.length_set];omega))) ?_;refine EVL.nil ⟨rfl,?_⟩;refine EVA.nil kR ?_;rw[SK jU];refine uR ?_;refine⟨j,⟨?_,trivial⟩,sB,trivial,trivial,rfl,⟨by omega,?_⟩,ax,by omega⟩
     ·rw[show IntKind.i64.wrap (((j+1:Nat):Int)-1)=(j:Int) by rw[pL];omega];rfl
     ·intro z hz;rw[Ik jU]at hz;rcases List.mem_cons.1 hz with rfl | hz
      ·exact jX
      ·exact cK z hz
   ·rw[qC ho];have hr:=fin (Ea cT (MA cT jU (hge ho)) cK);refine uR ?_;refine⟨(acc.length+1,aV acc (j+1) x++rest),⟨?_,trivial⟩,sB,trivial,trivial,rfl,⟨by omega,next,hr⟩,ai.trans ax,by dsimp only;omega⟩;rw[aO _ (by omega)];rfl
 ·simp only[nN]at af;rw[qO (by omega)]at cT;refine uR ?_;exact⟨rfl,cur,rfl,bU,cT⟩
theorem Lm:∀{a b:List Value},oneB a=true->oneB b=true->oneB (a++b)=true
 | [],_,_,h=>h
 | v::a,b,h,k=>by
  unfold oneB at h;rw[List.cons_append];unfold oneB;rw[Bool.and_eq_true]at h ⊢;exact⟨h.1,Lm h.2 k⟩
theorem RW:∀l:List Rat,oneB (b6 l)=true
 | []=>rfl
 | q::l=>Lm (a:=aB (aC q)) rfl (RW l)
theorem UI (n:Nat) (h:n<=1000):∃z:Int,PV prog 154 #[.int .u64 (n:Int)] (.int .i64 z) :=
 ⟨_,(cO func154),fun W _=>(Tryz.bits_Len (n:Int) W oM oM).mono fun e W' ⟨he,hw⟩=>⟨he,by rw[hw];exact Below.refl _ _⟩⟩
theorem zi4 (a:Option Addr) (cap:Nat):PV prog 188 #[.slice a 0 cap,.int .i64 0,.int .i64 0,BJ] (.tuple #[]):=by
 refine PV.of_pc ?_;refine BD func188 ntmps188 ?_;refine uR ?_;refine EV.loopK (ι:=Unit) [0,1,2,3] [] (fun _=>[(8,.v (.int .i64 1))]) (fun _=>[]) (fun _=>[]) (fun _ _=>True) (fun _=>0) (()) Z Z ⟨Z,trivial⟩ trivial rfl (fun _=>rfl) (trivial) ?_;rintro⟨⟩ G1 aj _;refine uR ?_;rfl
theorem Yw (a:Option Addr) (cap:Nat) (z:Int):PV prog 153 #[.slice a 0 cap,.int .i64 0,.int .i64 0,.int .i64 z,BJ] (.tuple #[]):=by
 refine PV.of_pc ?_;have hi:=zi4 a cap;refine BD func153 ntmps153 ?_;refine uR ?_;refine EV.loopK (ι:=Unit) [0,4] [] (fun _=>[(1,.v (.int .i64 0)),(2,.v (.int .i64 0)),(3,.v (.int .i64 z)),(10,.v (.bool true)),(11,.v (.bool true))]) (fun _=>[]) (fun _=>[]) (fun _ _=>True) (fun _=>0) (()) Z Z ⟨Z,Z,Z,Z,Z,trivial⟩ trivial rfl (fun _=>rfl) (trivial) ?_;rintro⟨⟩ G1 aj _
 repeat (first|refine RUN ?_|refine CV (hi) ?_|refine CE (hi) ?_)
 rfl
theorem Tw (a:Option Addr) (cap:Nat):PV prog 121 #[.slice a 0 cap,BJ] (.tuple #[]):=by
 refine PV.of_pc ?_;obtain⟨z,hb⟩:=UI 0 oM;have hp:=Yw a cap z;refine BD func121 ntmps121 ?_
 repeat (first|refine RUN ?_|refine CV (hb) ?_|refine CV (hp) ?_|refine CE (hb) ?_|refine CE (hp) ?_)
 rfl
theorem Yn {H:Hp} {b cap:Nat} {l:List Rat} {sp:List Value} (z:Int) (hl:l.length<=12) (hb:∀q,q∈l->sm q) :
  PW prog 153 #[.slice (some ⟨b,0,none⟩) l.length cap,.int .i64 0,.int .i64 (l.length:Int),.int .i64 z,BJ] H [(b,51,b6 l++sp)] fun v ow _=>v=.tuple #[]/\∃m,ow=[(b,51,b6 m++sp)]/\m.Perm l/\jQ m:=by
 refine PW.body tO func153 Z kR ntmps153 Z Z ?_;refine uR ?_;refine EV.loopK (ι:=Unit) [0,4] [] (fun _=>[(1,.v (.int .i64 0)),(2,.v (.int .i64 (l.length:Int))),(3,.v (.int .i64 z)),(10,.v (.bool true)),(11,.v (.bool true))]) (fun _=>[]) (fun _=>[(b,51,b6 l++sp)]) (fun _ _=>True) (fun _=>0) (()) Z Z ⟨Z,Z,Z,Z,Z,trivial⟩ trivial rfl (fun _=>rfl) (trivial) ?_;rintro⟨⟩ G1 aj _;refine uR ?_;rw[show IntKind.i64.wrap ((l.length:Int)-0)=(l.length:Int) by rw[pL];omega,qD (show (l.length:Int)<=12 by omega)];refine uR ?_;refine EVL.callW Z Z Z Z Z ([(b,51,b6 l++sp)]) ([]) Z (zka oM hb) ?_;rintro v ow G2 ⟨rfl,m,rfl,hp,hr⟩ ai;refine uR ?_;exact⟨rfl,m,rfl,hp,hr⟩
theorem zr9 {H:Hp} {b cap:Nat} {l:List Rat} {sp:List Value} (hl:l.length<=12) (hb:∀q,q∈l->sm q) :
  PW prog 121 #[.slice (some ⟨b,0,none⟩) l.length cap,BJ] H [(b,51,b6 l++sp)] fun v ow _=>v=.tuple #[]/\∃m,ow=[(b,51,b6 m++sp)]/\m.Perm l/\jQ m:=by
 obtain⟨z,cI⟩:=UI l.length oM;refine PW.body tO func121 Z kR ntmps121 Z Z ?_;refine uR ?_;rw[show IntKind.u64.wrap (l.length:Int)=(l.length:Int) by rw[dz];omega]
 repeat (first|refine RUN ?_|refine CV (cI) ?_|refine CE (cI) ?_)
 refine vW ([(b,51,b6 l++sp)]) ([]) (Yn z hl hb) ?_;rintro v ow G2 ⟨rfl,m,rfl,hp,hr⟩ ai;refine uR ?_;exact⟨rfl,m,rfl,hp,hr⟩
theorem Sy {H:Hp} {v:Value} {l:List Rat} (h:QL H v l) (h0:0<l.length) (hl:l.length<=1000):PW prog 73 #[v] H [] fun r ow _=>aF 51 5 r l.length (b6 l) ow:=by
 have hs:=h.2;rcases hs with ⟨e,_⟩ | ⟨b,off,cap,c,rfl,_⟩
 ·omega
 ·refine PW.body tO func73 Z kR ntmps73 Z Z ?_;refine uR ?_;refine EVL.eqnil tO Z Z Z Z Z Z Z ?_;refine uR ?_;refine EVL.lit0 tO Z Z Z Z Z Z Z fun g0=>?_;refine uR ?_;refine EVL.append tO Z Z Z Z Z Z Z Z Z Z Z Z [] [(g0,51,[])] [] Z (aF.full (m:=0) rfl oM) (iJ.ro h h0) (RW l) oM ?_;intro v1 bS aE;refine uR ?_;rw[qu]at aE;rw[qG];exact aE
theorem zo1 {H:Hp} {v:Value} (h:QL H v []):PC prog 73 #[v] H fun r _=>∃a cap,r=.slice a 0 cap:=by
 obtain⟨a,cap,rfl⟩:=SlC.val h;refine BD func73 ntmps73 ?_;refine uR ?_;refine EVL.eqnil tO Z Z Z Z Z Z Z ?_
 cases a with
 | none =>
  refine uR ?_;exact⟨_,_,rfl⟩
 | some x =>
  refine uR ?_;refine EVL.lit0 tO Z Z Z Z Z Z Z fun g0=>?_;refine uR ?_;refine EVL.append0 tO Z Z Z Z Z Z Z Z Z (qH _) ?_;refine uR ?_;exact⟨_,_,rfl⟩
theorem zr8 {H:Hp} {v:Value} (h:QL H v []):PC prog 70 #[v] H fun r H'=>QL H' r []:=by
 obtain⟨a,cap,rfl⟩:=SlC.val h;refine BD func70 ntmps70 ?_;refine uR ?_;refine vA (zo1 h) ?_;rintro r G1 ⟨a1,c1,rfl⟩ aj
 repeat (first|refine RUN ?_|refine CV (Tw a1 c1) ?_|refine CE (Tw a1 c1) ?_)
 exact⟨rfl,.inl ⟨rfl,_,_,rfl⟩⟩
theorem YS {H:Hp} {v:Value} {l:List Rat} (h:QL H v l) (hl:l.length<=12) (hb:∀q,q∈l->sm q):PC prog 70 #[v] H fun r H'=>∃m,QL H' r m/\m.Perm l/\jQ m:=by
 by_cases h0:l.length=0
 ·obtain rfl:=pJ.1 h0;exact(zr8 h).mono fun r H' hr _=>⟨[],hr,List.Perm.refl _,List.Pairwise.nil⟩
 obtain⟨a,cap,rfl⟩:=SlC.val h;refine BD func70 ntmps70 ?_;refine uR ?_;refine EVL.callW Z Z Z Z Z ([]) ([]) Z (Sy h oM oM) ?_;intro r ow G1 ah aj;obtain⟨g,xO,sp,rfl,rfl,hlen,eA,cM⟩:=ah.block oM;refine uR ?_;refine vW ([(g,51,b6 l++sp)]) ([]) (zr9 hl hb) ?_;rintro v ow G2 ⟨rfl,m,rfl,hp,hr⟩ ai;(first|refine EVL.publish [] [] Z fun G3 ax hg=>?_|refine EV.publish [] [] Z fun G3 ax hg=>?_);refine uR ?_;refine⟨m,⟨by rw[rH],.inr ⟨g,0,xO,_,by rw[hp.length_eq],by rw[hp.length_eq];exact eA,hg,fun j x hj=>?_⟩⟩,hp,hr⟩;rw[qu,List.getElem?_toArray,qM (qE.1 hj).1];exact hj
def bP (n:Int) (cs:List Int) (sq:Int) (q:Rat):List Value:=.int .i64 n::(cs.map (fun z=>Value.int .i64 z)++(.int .i64 sq::aB (aC q)))
theorem ij {n:Int} {cs:List Int} {sq:Int} {q:Rat} (h:cs.length=12):(bP n cs sq q).length=19:=by
 unfold bP;rw[qR,qJ,qV,h];rfl
theorem Lt {α:Type} {a b:List α} {k:Nat} (h:a.length=k):(a++b).drop k=b:=List.drop_left' h
theorem nv {n:Int} {cs:List Int} {sq:Int} {q:Rat}:((bP n cs sq q).drop 0).take 1=[.int .i64 n]:=rfl
theorem Co {n n':Int} {cs:List Int} {sq:Int} {q:Rat}:(bP n cs sq q).take 0++[.int .i64 n']++(bP n cs sq q).drop (0+1)=bP n' cs sq q:=rfl
theorem z7 (n:Int) (cs:List Int) (sq:Int) (q:Rat):bP n cs sq q=(.int .i64 n::cs.map (fun z=>Value.int .i64 z))++(.int .i64 sq::aB (aC q)):=rfl
theorem B9 {n:Int} {cs:List Int} {sq:Int} {q:Rat} (h:cs.length=12):((bP n cs sq q).drop 13).take 1=[.int .i64 sq]:=by
 rw[z7,Lt (by rw[qR,qV,h])];rfl
theorem Mx {n:Int} {cs:List Int} {sq Vq:Int} {q:Rat} (h:cs.length=12):(bP n cs sq q).take 13++[.int .i64 Vq]++(bP n cs sq q).drop (13+1)=bP n cs Vq q:=by
 have e:(bP n cs sq q).drop (13+1)=aB (aC q):=by
  rw[<-List.drop_drop,z7,Lt (by rw[qR,qV,h])];rfl
 rw[e,z7,List.take_left' (by rw[qR,qV,h]),z7];simp
theorem DR {n:Int} {cs:List Int} {sq:Int} {q:Rat} (h:cs.length=12):((bP n cs sq q).drop 14).take 5=aB (aC q):=by
 have e:(bP n cs sq q).drop (13+1)=aB (aC q):=by
  rw[<-List.drop_drop,z7,Lt (by rw[qR,qV,h])];rfl
 rw[e];rfl
theorem MM {n:Int} {cs:List Int} {sq:Int} {q q':Rat} (h:cs.length=12):(bP n cs sq q).take 14++aB (aC q')++(bP n cs sq q).drop (14+5)=bP n cs sq q':=by
 have hl:=ij (n:=n) (sq:=sq) (q:=q) h;have e:bP n cs sq q=(.int .i64 n::cs.map (fun z=>Value.int .i64 z)++[.int .i64 sq])++aB (aC q):=by rw[z7];simp
 rw[qi oM,qG,e,List.take_left' (by simp[h]),z7];simp
theorem DI {n:Int} {cs:List Int} {sq:Int} {q:Rat} {j:Nat} {z:Int} (hj:cs[j]?=some z):((bP n cs sq q).drop (1+j)).take 1=[.int .i64 z]:=by
 obtain⟨hl,hz⟩:=qE.1 hj;unfold bP;rw[Nat.add_comm,List.drop_succ_cons,List.drop_append_of_le_length (by rw[qV];omega),List.take_append_of_le_length (by rw[qt,qV];omega),qp (by rw[qV];exact hl)];simp[hz]
theorem My {n:Int} {cs:List Int} {sq:Int} {q:Rat} {j:Nat} (z:Int) (hj:j<cs.length):(bP n cs sq q).take (1+j)++[.int .i64 z]++(bP n cs sq q).drop (1+j+1)=bP n (cs.set j z) sq q:=by
 unfold bP;rw[show 1+j=j+1 by omega,List.take_succ_cons,List.drop_succ_cons,List.take_append_of_le_length (by rw[qV];omega),List.drop_append_of_le_length (by rw[qV];omega),List.map_set];rw[List.set_eq_take_append_cons_drop,if_pos (by rw[qV];exact hj)];simp
theorem S5 {n:Int} {cs:List Int} {sq:Int} {q:Rat} {j:Nat} {z:Int} (hj:cs[j]?=some z):((bP n cs sq q).drop (0+1+j)).take 1=[.int .i64 z]:=DI hj
theorem zkP {n:Int} {cs:List Int} {sq:Int} {q:Rat} {j:Nat} (z:Int) (hj:j<cs.length):(bP n cs sq q).take (0+1+j)++[.int .i64 z]++(bP n cs sq q).drop (0+1+j+1)=bP n (cs.set j z) sq q:=My z hj
theorem vK:Tryz.prog.underlying 277=some (.array 12 3):=by kernel_rfl
theorem IM:aa279.zero=bP 0 (List.replicate 12 0) 0 0:=by
 unfold bP;rw[rN];rfl
theorem S6 {n:Int} {cs:List Int} {sq:Int} {q:Rat} (h:cs.length=12):((bP n cs sq q).drop 0).take 19=bP n cs sq q:=by
 rw[List.drop_zero,qO (by rw[ij h];omega)]
abbrev bG (kind xN:Int) (sl sv:Value):Value:=.agg #[.int .i64 kind,.int .i64 xN,sl,sv]
theorem ZG {H:Hp} {b:Nat} {cl:Int} {la:Option Addr} {ln lc:Nat} {va:Option Addr} {vc:Nat} {vals:List Rat} (hv:QL H (.slice va vals.length vc) vals) {r n:Nat} (hn:n<=1000000) {x q:Rat} (hr:vals[r]?=some x) (hx:sm x) (hq:sm q) {cs:List Int} (hc:cs.length=12) {sq:Int} :
  PW prog 223 #[.pointer (some ⟨b,0,none⟩),bG 2 cl (.slice la ln lc) (.slice va vals.length vc),.int .i64 (r:Int)] H [(b,279,bP n cs sq q)] fun v ow _=>v=.tuple #[]/\ow=[(b,279,bP ((n+1:Nat):Int) cs sq (q+x))]:=by
 have cE:=ye q x hq hx;have hlen:=ij (n:=(n:Int)) (cs:=cs) (sq:=sq) (q:=q) hc;obtain⟨ft,_⟩:=qE.1 hr;have hs:SlC H (.slice va vals.length vc) vals.length 5 (vals.flatMap fun q=>aB (aC q)):=hv;refine PW.body tO func223 Z kR ntmps223 Z Z ?_;refine uR ?_;refine RP ?_;refine EVL.loadOwn tO Z Z Z Z Z Z (0) Z (nv) Z Z ?_;refine RP ?_;rw[show IntKind.i64.wrap ((n:Int)+1)=((n+1:Nat):Int) by rw[pL];omega];refine EVL.storeOwn tO Z Z Z Z Z Z ([]) ([]) Z Z Z Z ((by rw[hlen];show 0+1<=19;omega)) (Co) ?_;refine uR ?_;apply EV.drawn 11 kR kR;intro xv yw;(repeat (first|refine' DD ?_|refine' vN ?_|refine' vF ?_));refine' DJ.ofVal (az.loadOwn tO Z Z Z Z (0) Z (DR hc) Z Z) Z Z Z ?_;rotate_left;(repeat (first|refine' DD ?_|refine' vN ?_|refine' vF ?_));refine' DJ.idxM tO Z Z Z Z Z Z Z Z Z (hs) (r) (rfl) (ft) (QL.at (H:=H) (v:=.bool true) hr) ?_;rotate_left;(repeat (first|refine' DD ?_|(refine' DC (cE) (h:=?_);rotate_left)));(refine DJ.nil (fun G1 aj gV=>?_);(case hS|hS2=>rfl));refine RP ?_;refine EVL.storeOwn tO Z Z Z Z Z Z ([]) ([]) Z Z Z Z ((by rw[ij hc];show 14+5<=19;omega)) (MM hc) ?_;refine uR ?_;exact⟨rfl,rfl⟩
theorem ZI {H:Hp} {b:Nat} {cl:Int} {va:Option Addr} {vn vc:Nat} {la:Option Addr} {lc:Nat} {ls:List Int} (hv:IL H (.slice la ls.length lc) ls) {r n:Nat} (hn:n<=1000000) {k m sq:Nat} (hr:ls[r]?=some (k:Int)) (hk:k<12) {cs:List Int} (hc:cs.length=12) (hm:cs[k]?=some (m:Int)) (Wd:m<=1000000) (dI:sq<=10000000000000) {q:Rat} :
  PW prog 223 #[.pointer (some ⟨b,0,none⟩),bG 1 cl (.slice la ls.length lc) (.slice va vn vc),.int .i64 (r:Int)] H [(b,279,bP n cs sq q)] fun v ow _=>v=.tuple #[]/\ow=[(b,279,bP ((n+1:Nat):Int) (cs.set k ((m+1:Nat):Int)) ((sq+2*m+1:Nat):Int) q)]:=by
 have hlen:=ij (n:=(n:Int)) (cs:=cs) (sq:=(sq:Int)) (q:=q) hc;obtain⟨ft,_⟩:=qE.1 hr
 have w1:IntKind.i64.wrap ((sq:Int)+IntKind.i64.wrap (IntKind.i64.wrap (2*(m:Int))+1))=((sq+2*m+1:Nat):Int):=by
  rw[show IntKind.i64.wrap (2*(m:Int))=2*(m:Int) by rw[pL];omega,show IntKind.i64.wrap (2*(m:Int)+1)=2*(m:Int)+1 by rw[pL];omega,pL];omega
 have w2:IntKind.i64.wrap ((m:Int)+1)=((m+1:Nat):Int):=by rw[pL];omega
 refine PW.body tO func223 Z kR ntmps223 Z Z ?_;refine uR ?_;refine RP ?_;refine EVL.loadOwn tO Z Z Z Z Z Z (0) Z (nv) Z Z ?_;refine RP ?_;rw[show IntKind.i64.wrap ((n:Int)+1)=((n+1:Nat):Int) by rw[pL];omega];refine EVL.storeOwn tO Z Z Z Z Z Z ([]) ([]) Z Z Z Z ((by rw[hlen];show 0+1<=19;omega)) (Co) ?_;refine uR ?_;refine vI (hv) (r) (rfl) (ft) ((by rw[qK,hr];rfl)) ?_;refine uR ?_;apply EV.drawn 13 kR kR;intro xv yw;(repeat (first|refine' DD ?_|refine' vN ?_|refine' vF ?_));refine' DJ.ofVal (az.loadOwn tO Z Z Z Z (0) Z (B9 hc) Z Z) Z Z Z ?_;rotate_left;(repeat (first|refine' DD ?_|refine' vN ?_|refine' vF ?_));refine' DJ.idxA tO Z Z Z Z (vK) Z Z Z Z (k) (rfl) (hk) ?_;rotate_left;refine' DJ.ofVal (az.loadOwn tO Z Z Z Z (0) Z (S5 hm) Z Z) Z Z Z ?_;rotate_left;(repeat (first|refine' DD ?_|refine' vN ?_|refine' vF ?_));(refine DJ.nil (fun G1 aj gV=>?_);(case hS|hS2=>rfl));rw[w1];refine RP ?_;refine EVL.storeOwn tO Z Z Z Z Z Z ([]) ([]) Z Z Z Z ((by rw[ij hc];show 13+1<=19;omega)) (Mx hc) ?_;refine uR ?_;apply EV.drawn 10 kR kR;intro xv yw;(repeat (first|refine' DD ?_|refine' vN ?_|refine' vF ?_));refine' DJ.idxA tO Z Z Z Z (vK) Z Z Z Z (k) (rfl) (hk) ?_;rotate_left;refine' DJ.ofVal (az.loadOwn tO Z Z Z Z (0) Z (S5 hm) Z Z) Z Z Z ?_;rotate_left;(repeat (first|refine' DD ?_|refine' vN ?_|refine' vF ?_));refine' DJ.idxA tO Z Z Z Z (vK) Z Z Z Z (k) (rfl) (hk) ?_;rotate_left;(refine DJ.nil (fun G2 ai fN=>?_);(case hS|hS2=>rfl));rw[w2];refine RP ?_;refine EVL.storeOwn tO Z Z Z Z Z Z ([]) ([]) Z Z Z Z ((by rw[ij hc];show 0+1+k+1<=19;omega)) (zkP _ (show k<cs.length by omega)) ?_;refine uR ?_;exact⟨rfl,rfl⟩
theorem Je {n:Nat} (h0:¬n=0):((n:Int):Rat)≠0:=fun h=>by
 have:=congrArg Rat.num h;rw[Rat.num_intCast]at this;have h3:(0:Rat).num=0:=rfl;omega
theorem wu (x:Rat):x / 0=0:=by rw[Rat.div_def,Rat.inv_zero,Rat.mul_zero]
theorem zqR {H:Hp} {b n:Nat} {cs:List Int} (hc:cs.length=12) {sq:Nat} (wI:sq<=10000000000000) (hn:n<=1000000) {q:Rat} :
  PW prog 200 #[.pointer (some ⟨b,0,none⟩),.int .i64 1] H [(b,279,bP n cs sq q)] fun v ow _=>v=aC (((sq:Int):Rat) / ((n:Int):Rat))/\ow=[(b,279,bP n cs sq q)]:=by
 have eT:=np (sq:Int) oM oM;have sD:=np (n:Int) oM oM
 have Fx:ht ((n:Int):Rat)<=100:=by
  have:=ie (n:Int);have h2:bl (n:Int).natAbs<=20:=cf oM;omega
 have nF:ht ((sq:Int):Rat)<=100:=by
  have:=ie (sq:Int);have h2:bl (sq:Int).natAbs<=50:=cf oM;omega
 refine PW.body tO func200 Z kR ntmps200 Z Z ?_;refine uR ?_;refine RP ?_;refine EVL.loadOwn tO Z Z Z Z Z Z (0) Z (nv) Z Z ?_;refine uR ?_;by_cases h0:n=0
 ·subst h0;rw[show (((0:Nat):Int) == 0)=true from rfl];refine uR ?_;rw[show (((0:Nat):Int):Rat)=0 from rfl,wu];exact⟨Cl.symm,rfl⟩
 ·have hdiv:=DG ((sq:Int):Rat) ((n:Int):Rat) (bE nF oM) (bE Fx oM) (Je h0);rw[show ((n:Int) == 0)=false from pQ.2 (by omega)];refine uR ?_;refine RP ?_;refine EVL.loadOwn tO Z Z Z Z Z Z (0) Z (B9 hc) Z Z ?_
  repeat (first|refine RUN ?_|refine CV (eT) ?_|refine CE (eT) ?_)
  apply EV.drawn 12 kR kR;intro xv yw;(repeat (first|refine' DD ?_|refine' vN ?_|refine' vF ?_));refine' DJ.ofVal (az.loadOwn tO Z Z Z Z (0) Z (nv) Z Z) Z Z Z ?_;rotate_left;(repeat (first|refine' DD ?_|(refine' DC (sD) (h:=?_);rotate_left)|(refine' DC (hdiv) (h:=?_);rotate_left)));(refine DJ.nil (fun G2 ai fN=>?_);(case hS|hS2=>rfl));refine uR ?_;exact⟨rfl,rfl⟩
theorem zqN {H:Hp} {cl:Int} {va:Option Addr} {vn vc:Nat} {la:Option Addr} {lc:Nat} {ls:List Int} (hv:IL H (.slice la ls.length lc) ls) {ra:Option Addr} {rc:Nat} {rs:List Int} (hr:IL H (.slice ra rs.length rc) rs) (hn:rs.length<=100000)
  (eZ:∀r,r∈rs->0<=r/\r<(ls.length:Int)) (dE:∀z,z∈ls->0<=z/\z<12) :
  PC prog 198 #[bG 1 cl (.slice la ls.length lc) (.slice va vn vc),.slice ra rs.length rc] H fun r _=>r=.agg (bP (rs.length:Nat) (csL (atI ls rs)) (sqL (atI ls rs)) 0).toArray:=by
 refine BD func198 ntmps198 ?_;refine uR ?_;(first|refine EVL.unbox (5) Z fun b=>?_|refine EV.unbox (5) Z fun b=>?_);rw[IM];refine EV.loopK (ι:=Nat) [2,4,5,8,9] [2,4] (fun i=>[(10,.v (.int .i64 (i:Int)))]) (fun _=>[]) (fun i=>[(b,279,bP (i:Nat) (csL ((atI ls rs).take i)) (sqL ((atI ls rs).take i)) 0)]) (fun i _=>i<=rs.length) (fun i=>rs.length-i) (0) Z Z ⟨Z,trivial⟩ trivial rfl (fun _=>rfl) (qQ _) ?_;rintro i G1 aj hi;refine uR ?_;refine EV.cond Z (fun af=>?_) (fun af=>?_)
 ·simp only[nN]at af;obtain⟨r,bB⟩:=gE af;have hb:=eZ r (qF bB);obtain⟨R,rfl⟩:=qh hb.1;obtain⟨x,hx⟩:∃x,ls[R]?=some x:=⟨_,qA oM⟩;have mM:=dE x (qF hx);obtain⟨k,rfl⟩:=qh mM.1;have hk:k<12:=oM;have ht:=zq8 ls bB (by rw[qU];exact hx);have hlen:((atI ls rs).take i).length=i:=by rw[qP,pV];omega
  have fJ:((atI ls rs).take i).count (k:Int)<=i:=qI List.count_le_length (Nat.le_of_eq hlen);have wI:=BX ((atI ls rs).take i);rw[hlen]at wI;have AD:i*i<=100000*100000:=Nat.mul_le_mul oM oM;have bC:=Lv ((atI ls rs).take i) hk;have fk:=K6 ((atI ls rs).take i) (k:Int);rw[<-ht]at bC fk;refine uR ?_;refine vI ((hr.mono aj)) (i) (rfl) (af) ((by rw[qK,bB];rfl)) ?_;refine uR ?_;refine EVL.callW Z Z Z Z Z ([(b,279,bP (i:Nat) (csL ((atI ls rs).take i)) (sqL ((atI ls rs).take i)) 0)]) ([]) Z (ZI (n:=i) (m:=((atI ls rs).take i).count (k:Int)) (sq:=sqL ((atI ls rs).take i)) (hv.mono aj) oM hx hk (oq _) (B2 _ hk) oM oM) ?_;rintro v ow G2 ⟨rfl,rfl⟩ ai;rw[<-bC,<-fk];refine uR ?_;refine⟨i+1,⟨?_,trivial⟩,sB,trivial,sB,rfl,af,ai,by omega⟩;rw[aO i (by omega)];rfl
 ·simp only[nN]at af;obtain rfl:i=rs.length:=oM;rw[show (atI ls rs).take rs.length=atI ls rs by rw[<-pV ls rs,qa]];have av:=S6 (n:=(rs.length:Nat)) (cs:=csL (atI ls rs)) (sq:=sqL (atI ls rs)) (q:=0) (oq _);refine uR ?_;refine EVL.loadOwn tO Z Z Z Z Z Z (0) Z (av) Z Z ?_;refine uR ?_;rfl
theorem zqO {H:Hp} {cl:Int} {va:Option Addr} {vc:Nat} {vals:List Rat} {la:Option Addr} {ln lc:Nat} (hv:QL H (.slice va vals.length vc) vals) {ra:Option Addr} {rc:Nat} {rs:List Int} (hr:IL H (.slice ra rs.length rc) rs) (hn:rs.length<=10000)
  (eZ:∀r,r∈rs->0<=r/\r<(vals.length:Int)) (dE:∀q,q∈vals->ht q<=100) :
  PC prog 198 #[bG 2 cl (.slice la ln lc) (.slice va vals.length vc),.slice ra rs.length rc] H fun r _=>r=.agg (bP (rs.length:Nat) (List.replicate 12 0) 0 (aJ (atR vals rs))).toArray:=by
 have ee:=fun q hq=>dE q (yt eZ q hq);refine BD func198 ntmps198 ?_;refine uR ?_;(first|refine EVL.unbox (5) Z fun b=>?_|refine EV.unbox (5) Z fun b=>?_);rw[IM];refine EV.loopK (ι:=Nat) [2,4,5,8,9] [2,4] (fun i=>[(10,.v (.int .i64 (i:Int)))]) (fun _=>[]) (fun i=>[(b,279,bP (i:Nat) (List.replicate 12 0) 0 (aJ ((atR vals rs).take i)))]) (fun i _=>i<=rs.length) (fun i=>rs.length-i) (0) Z Z ⟨Z,trivial⟩ trivial rfl (fun _=>rfl) (qQ _) ?_;rintro i G1 aj hi;refine uR ?_;refine EV.cond Z (fun af=>?_) (fun af=>?_)
 ·simp only[nN]at af;obtain⟨r,bB⟩:=gE af;have hb:=eZ r (qF bB);obtain⟨R,rfl⟩:=qh hb.1;obtain⟨x,hx⟩:∃x,vals[R]?=some x:=⟨_,qA oM⟩;have mM:=dE x (qF hx);have ht:=SF vals bB (by rw[qU];exact hx);have hlen:((atR vals rs).take i).length=i:=by rw[qP,lY];omega
  have dI:=pF 100 ((atR vals rs).take i) (fun q hq=>ee q (List.mem_of_mem_take hq));rw[hlen]at dI;have fk:=uk ((atR vals rs).take i) x;rw[<-ht]at fk;refine uR ?_;refine vI ((hr.mono aj)) (i) (rfl) (af) ((by rw[qK,bB];rfl)) ?_;refine uR ?_;refine EVL.callW Z Z Z Z Z ([(b,279,bP (i:Nat) (List.replicate 12 0) 0 (aJ ((atR vals rs).take i)))]) ([]) Z (ZG (n:=i) (hv.mono aj) oM hx (bE mM oM) (bE dI oM) (by rfl)) ?_;rintro v ow G2 ⟨rfl,rfl⟩ ai;rw[<-fk];refine uR ?_;refine⟨i+1,⟨?_,trivial⟩,sB,trivial,sB,rfl,af,ai,by omega⟩;rw[aO i (by omega)];rfl
 ·simp only[nN]at af;obtain rfl:i=rs.length:=oM;rw[show (atR vals rs).take rs.length=atR vals rs by rw[<-lY vals rs,qa]];have av:=S6 (n:=(rs.length:Nat)) (cs:=List.replicate 12 0) (sq:=0) (q:=aJ (atR vals rs)) (by rfl);refine uR ?_;refine EVL.loadOwn tO Z Z Z Z Z Z (0) Z (av) Z Z ?_;refine uR ?_;rfl
theorem KZ {cl:Int} {va:Option Addr} {vn vc:Nat} {la:Option Addr} {ln lc:Nat}:PV prog 124 #[bG 1 cl (.slice la ln lc) (.slice va vn vc)] (.int .i64 (ln:Int)):=by
 refine PV.of_pc ?_;refine BD func124 ntmps124 ?_;refine uR ?_;rfl
theorem RE {cl:Int} {va:Option Addr} {vn vc:Nat} {la:Option Addr} {ln lc:Nat}:PV prog 124 #[bG 2 cl (.slice la ln lc) (.slice va vn vc)] (.int .i64 (vn:Int)):=by
 refine PV.of_pc ?_;refine BD func124 ntmps124 ?_;refine uR ?_;rfl
theorem I2 {va:Option Addr} {vn vc:Nat} {la:Option Addr} {lc:Nat} (h0:1<=vn) (h1:vn<=300):PV prog 125 #[bG 2 0 (.slice la 0 lc) (.slice va vn vc)] (.int .i64 0):=by
 refine PV.of_pc ?_;have hlen:=RE (cl:=0) (va:=va) (vn:=vn) (vc:=vc) (la:=la) (ln:=0) (lc:=lc);refine BD func125 ntmps125 ?_
 repeat (first|refine RUN ?_|refine CV (hlen) ?_|refine CE (hlen) ?_)
 rw[qC (show ¬(vn:Int)<1 by omega)];refine uR ?_;rw[qC (show ¬(vn:Int)>300 by omega)];refine uR ?_;rfl
theorem L4 {H:Hp} {va:Option Addr} {vc:Nat} {la:Option Addr} {lc:Nat} {ls:List Int} (hv:IL H (.slice la ls.length lc) ls) {cl:Int} (hc:1<=cl/\cl<=12) (h0:1<=ls.length) (h1:ls.length<=300) (dE:∀z,z∈ls->0<=z/\z<cl):PC prog 125 #[bG 1 cl (.slice la ls.length lc) (.slice va 0 vc)] H fun r _=>r=.int .i64 0:=by
 have hlen:=KZ (cl:=cl) (va:=va) (vn:=0) (vc:=vc) (la:=la) (ln:=ls.length) (lc:=lc);refine BD func125 ntmps125 ?_
 repeat (first|refine RUN ?_|refine CV (hlen) ?_|refine CE (hlen) ?_)
 rw[qC (show ¬(ls.length:Int)<1 by omega)];refine uR ?_;rw[qC (show ¬(ls.length:Int)>300 by omega)];refine uR ?_;rw[qC (show ¬cl<1 by omega)];refine uR ?_;rw[qC (show ¬cl>12 by omega)];refine uR ?_;refine EV.loopK (ι:=Nat) [1,49,50] [1] (fun i=>[(51,.v (.int .i64 (i:Int)))]) (fun _=>[]) (fun _=>[]) (fun i _=>i<=ls.length) (fun i=>ls.length-i) (0) Z Z ⟨Z,trivial⟩ trivial rfl (fun _=>rfl) (qQ _) ?_;rintro i G1 aj hi;refine uR ?_;refine EV.cond Z (fun af=>?_) (fun af=>?_)
 ·simp only[nN]at af;obtain⟨z,hz⟩:=gE af;have hb:=dE z (qF hz);refine uR ?_;refine vI ((hv.mono aj)) (i) (rfl) (af) ((by rw[qK,hz];rfl)) ?_;refine uR ?_;rw[qC (show ¬z<0 by omega)];refine uR ?_;rw[qC (show ¬z>=cl by omega)];refine uR ?_;refine⟨i+1,⟨?_,trivial⟩,sB,trivial,sB,rfl,af,Hp.Le.refl _,by omega⟩;rw[aO i (by omega)];rfl
 ·try refine uR ?_
  rfl
abbrev iv:Int->Value:=fun z=>.int .i64 z
def inR (n:Nat) (r:Int):Bool:=decide (0<=r) && decide (r<(n:Int))
def exL (rs:List Int) (n:Nat):List Int:=rs.filter (inR n)
theorem uf {rs:List Int} {n:Nat}:∀r,r∈exL rs n->0<=r/\r<(n:Int):=fun r hr=>by
 have:=(List.mem_filter.1 hr).2;unfold inR at this;simpa using this
theorem kU (rs:List Int) (n:Nat):(exL rs n).length<=rs.length:=List.length_filter_le _ _
theorem yp {rs:List Int} {n:Nat} (h:∀r,r∈rs->0<=r/\r<(n:Int)):exL rs n=rs:=List.filter_eq_self.2 fun r hr=>by
 have:=h r hr;unfold inR;simp[this.1,this.2]
theorem B7 {rs:List Int} {n i:Nat} {r:Int} (h:rs[i]?=some r):exL (rs.take (i+1)) n=exL (rs.take i) n++if inR n r then [r] else []:=by
 rw[dZ h];unfold exL;rw[List.filter_append];cases hp:inR n r <;> simp[hp]
theorem aF.il {w:Value} {l:List Int} {ow:Ows} {T:TypeId} {x:Int} (h:aF T 1 w (l.length+1) (l.map iv++[iv x]) ow):aF T 1 w (l++[x]).length ((l++[x]).map iv) ow:=by
 rw[qJ,qo];exact h
theorem Eh {H:Hp} {v:Value} {rs:List Int} (hr:IL H v rs) (hn:rs.length<=1000000) (n:Nat):PC prog 199 #[v,.int .i64 (n:Int)] H fun r H'=>IL H' r (exL rs n):=by
 obtain⟨a,cap,rfl⟩:=SlC.val hr;refine BD func199 ntmps199 ?_;refine uR ?_;refine EV.loopK (ι:=Nat × Value × Ows) [1,8,9] [] (fun q=>[(5,.v q.2.1),(10,.v (.int .i64 (q.1:Int)))]) (fun _=>[]) (fun q=>q.2.2) (fun q _=>q.1<=rs.length/\aF 3 1 q.2.1 (exL (rs.take q.1) n).length ((exL (rs.take q.1) n).map iv) q.2.2) (fun q=>rs.length-q.1) ((0,.slice none 0 0,[])) Z Z ⟨Z,Z,trivial⟩ trivial rfl (fun _=>rfl) (⟨qQ _,aF.nil _ _⟩) ?_;rintro⟨i,w,ow⟩ G1 aj ⟨hi,ah⟩;dsimp only at hi ah;obtain⟨wa,wc,rfl⟩:=ah.val;refine uR ?_;refine EV.cond Z (fun af=>?_) (fun af=>?_)
 ·simp only[nN]at af;obtain⟨r,bB⟩:=gE af;have hex:=B7 (n:=n) bB;have hle:=kU (rs.take i) n;rw[qP]at hle;refine uR ?_;refine vI ((hr.mono aj)) (i) (rfl) (af) ((by rw[qK,bB];rfl)) ?_;refine uR ?_;have wn:IntKind.i64.wrap ((i:Int)+1)=((i+1:Nat):Int):=aO i oM;by_cases h1:r>=0
  ·rw[qD h1];refine uR ?_;by_cases h2:r<(n:Int)
   ·have hp:inR n r=true:=by unfold inR;simp[h2];omega
    rw[hp,if_pos rfl]at hex;rw[qD h2];refine uR ?_;refine EVL.app1 tO Z Z Z Z Z Z Z Z Z Z Z Z Z Z Z Z Z Z Z (fun _=>rfl) (ow) ([]) ((qG _).symm) (ah) oM fun _=>?_;intro v' au ao;refine uR ?_;refine⟨(i+1,v',au),⟨rfl,?_,trivial⟩,sB,trivial,trivial,qG _,⟨af,by rw[hex];exact ao.il⟩,Hp.Le.refl _,by dsimp only;omega⟩;rw[wn];rfl
   ·have hp:inR n r=false:=by unfold inR;simp[h2]
    rw[hp,if_neg (by decide),qG]at hex;rw[qC h2];refine uR ?_;refine⟨(i+1,_,ow),⟨rfl,?_,trivial⟩,sB,trivial,trivial,rfl,⟨af,by rw[hex];exact ah⟩,Hp.Le.refl _,by dsimp only;omega⟩;rw[wn];rfl
  ·have hp:inR n r=false:=by unfold inR;simp;omega
   rw[hp,if_neg (by decide),qG]at hex;rw[qC h1];refine uR ?_;refine⟨(i+1,_,ow),⟨rfl,?_,trivial⟩,sB,trivial,trivial,rfl,⟨af,by rw[hex];exact ah⟩,Hp.Le.refl _,by dsimp only;omega⟩;rw[wn];rfl
 ·simp only[nN]at af;obtain rfl:i=rs.length:=oM;rw[qa]at ah ⊢;(first|refine EVL.publishL [] ow [] ((qG _).symm) ah fun G2 ai hs=>?_|refine EV.publishL [] ow [] ((qG _).symm) ah fun G2 ai hs=>?_);refine uR ?_;exact hs
theorem Tp {H:Hp} {v:Value} {rs:List Int} (hr:IL H v rs) (hn:rs.length<=10000) {kd cl:Int} {va:Option Addr} {vc:Nat} {vals:List Rat} {la:Option Addr} {ln lc:Nat} (hv:QL H (.slice va vals.length vc) vals) :
  PC prog 201 #[bG kd cl (.slice la ln lc) (.slice va vals.length vc),v] H fun r H'=>QL H' r (atR vals (exL rs vals.length)):=by
 obtain⟨a,cap,rfl⟩:=SlC.val hr;refine BD func201 ntmps201 ?_;refine uR ?_;refine EVL.call Z Z Z Z Z (Eh hr oM vals.length) ?_;intro r1 G0 he zp;have jl:=kU rs vals.length;have mm:=uf (rs:=rs) (n:=vals.length);generalize exL rs vals.length=es at *
 obtain⟨a1,c1,rfl⟩:=SlC.val he;refine uR ?_;refine EV.loopK (ι:=Nat × Value × Ows) [2,12,13] [2] (fun q=>[(5,.v q.2.1),(14,.v (.int .i64 (q.1:Int)))]) (fun _=>[]) (fun q=>q.2.2) (fun q _=>q.1<=es.length/\aF 51 5 q.2.1 q.1 (((atR vals es).take q.1).flatMap fun q=>aB (aC q)) q.2.2) (fun q=>es.length-q.1) ((0,.slice none 0 0,[])) Z Z ⟨Z,Z,trivial⟩ trivial rfl (fun _=>rfl) (⟨qQ _,aF.nil _ _⟩) ?_;rintro⟨i,w,ow⟩ G1 aj ⟨hi,ah⟩;dsimp only at hi ah;obtain⟨wa,wc,rfl⟩:=ah.val;refine uR ?_;refine EV.cond Z (fun af=>?_) (fun af=>?_)
 ·simp only[nN]at af;obtain⟨r,bB⟩:=gE af;have hb:=mm r (qF bB);obtain⟨R,rfl⟩:=qh hb.1;obtain⟨x,hx⟩:∃x,vals[R]?=some x:=⟨_,qA oM⟩;have iF:R<vals.length:=oM;have ht:=SF vals bB (by rw[qU];exact hx);have hs:SlC G1 (.slice va vals.length vc) vals.length 5 (vals.flatMap fun q=>aB (aC q)):=hv.mono (zp.trans aj);refine uR ?_;refine vI ((he.mono aj)) (i) (rfl) (af) ((by rw[qK,bB];rfl)) ?_;refine uR ?_;refine EVL.idxM tO Z Z Z Z Z Z Z Z Z (hs) (R) (rfl) (iF) (QL.at (H:=H) (v:=.bool true) hx) ?_;refine uR ?_;refine EVL.app1 tO Z Z Z Z Z Z Z Z Z Z Z Z Z Z Z Z Z Z Z (fun _=>rfl) (ow) ([]) ((qG _).symm) (ah) oM fun _=>?_;intro v' au ao;refine uR ?_;refine⟨(i+1,v',au),⟨rfl,?_,trivial⟩,sB,trivial,sB,qG _,⟨af,by dsimp only;rw[ht,List.flatMap_append];exact ao⟩,Hp.Le.refl _,by dsimp only;omega⟩;rw[aO i (by omega)];rfl
 ·simp only[nN]at af;obtain rfl:i=es.length:=oM;rw[show (atR vals es).take es.length=atR vals es by rw[<-lY vals es,qa]]at ah;rw[<-lY vals es]at ah;(first|refine EVL.publishL [] ow [] ((qG _).symm) ah fun G2 ai hs=>?_|refine EV.publishL [] ow [] ((qG _).symm) ah fun G2 ai hs=>?_);rw[<-lY vals es];refine uR ?_;exact hs
theorem x8 {l:List Int} (sp:List Value) {j:Nat} {q:Int} (h:l[j]?=some q):((l.map iv++sp).drop (j*1)).take 1=[iv q]:=by
 obtain⟨hl,hq⟩:=qE.1 h;rw[Nat.mul_one,List.drop_append_of_le_length (by rw[qV];omega),qp (by rw[qV];omega)];simp[hq]
theorem B6 {l:List Int} (sp:List Value) {j:Nat} (q:Int) (h:j<l.length):(l.map iv++sp).take (j*1)++[iv q]++(l.map iv++sp).drop (j*1+1)=(l.set j q).map iv++sp:=by
 rw[Nat.mul_one,List.take_append_of_le_length (by rw[qV];omega),List.drop_append_of_le_length (by rw[qV];omega),List.map_set,List.set_eq_take_append_cons_drop,if_pos (by rw[qV];exact h)];simp
theorem zpY {α β:Type} (f:α->β) (l:List α) (k:Nat) (x:α):(aV l k x).map f=aV (l.map f) k (f x):=by
 unfold aV;rw[qo,qx,List.map_take,List.map_drop]
theorem IE {α:Type} {l:List α} {i:Nat} {x:α} (h:l[i]?=some x):l.drop i=x::l.drop (i+1):=by
 obtain⟨hl,rfl⟩:=qE.1 h;exact qp hl
abbrev iT (key:Int->Rat) (l:List Int):Prop:=jQ (l.map key)
theorem Tb {key:Int->Rat} {l:List Int} {k:Nat} {x:Int} (h:iT key l) (h1:∀y,y∈l.take k->key y<=key x) (h2:∀y,y∈l.drop k->key x<=key y):iT key (aV l k x):=by
 unfold iT;rw[zpY];refine Ea h (fun y hy=>?_) (fun y hy=>?_)
 ·rw[<-List.map_take]at hy;obtain⟨z,hz,rfl⟩:=List.mem_map.1 hy;exact h1 z hz
 ·rw[<-List.map_drop]at hy;obtain⟨z,hz,rfl⟩:=List.mem_map.1 hy;exact h2 z hz
theorem zqb {key:Int->Rat} {l:List Int} {k:Nat} {x y:Int} (h:iT key l) (hk:l[k]?=some y) (hy:key y<=key x):∀z,z∈l.take (k+1)->key z<=key x:=fun z hz =>
 MA (k:=k) (y:=key y) h (by rw[qK,hk];rfl) hy (key z) (by rw[<-List.map_take];exact List.mem_map_of_mem hz)
theorem Ym {acc rest:List Int} {j:Nat} {x:Int} (h:j<=acc.length):(aV acc j x++rest)[j]?=some x:=by
 unfold aV;rw[qZ,qL (by rw[qP];omega),qP,qn h,Nat.sub_self];rfl
theorem Yl {acc rest:List Int} {j:Nat} {x y:Int} (h:acc[j]?=some y):(aV acc (j+1) x++rest)[j]?=some y:=by
 obtain⟨hl,_⟩:=qE.1 h;unfold aV;rw[qZ,qM (by rw[qP];omega),List.getElem?_take_of_lt oM,h]
theorem zrP {acc rest:List Int} {j:Nat} {x:Int}:(aV acc j x++rest).length=acc.length+1+rest.length:=by
 have:=(vV acc j x).length_eq;rw[qJ,this,qJ];rfl
theorem TC {acc rest:List Int} {j:Nat} {x y:Int} (h:acc[j]?=some y):((aV acc (j+1) x++rest).set (j+1) y).set j x=aV acc j x++rest:=by
 obtain⟨hl,hy⟩:=qE.1 h;have hlen:(acc.take j).length=j:=by rw[qP];omega
 unfold aV;rw[qS hl,hy,qp hl,hy]
 rw[show (acc.take j++[y]++x::acc.drop (j+1)++rest)=acc.take j++(y::x::(acc.drop (j+1)++rest)) by simp,
  List.set_append_right (j+1) y oM,hlen,show j+1-j=1 by omega,List.set_cons_succ,List.set_cons_zero,
  List.set_append_right j x oM,hlen,Nat.sub_self,List.set_cons_zero]
 simp
theorem zn9 (acc rest:List Int) (x:Int):aV acc acc.length x++rest=acc++x::rest:=by
 unfold aV;rw[qa,List.drop_length];simp
theorem Vg {H:Hp} {b cap:Nat} {l:List Int} {sp:List Value} (hl:l.length<=1000) {f:FuncId} {cs:List Value} {key:Int->Rat} (oZ:fQ prog f) (aS:∀G,H.Le G->∀x y,x∈l->y∈l->PC prog f ([iv x,iv y]++cs).toArray G fun u _=>u=.int .i64 (bI (key x) (key y))) :
  PW prog 253 #[.slice (some ⟨b,0,none⟩) l.length cap,.int .i64 0,.int .i64 (l.length:Int),.func (.func f) #[] cs.toArray] H [(b,3,l.map iv++sp)] fun v ow _=>v=.tuple #[]/\∃m,ow=[(b,3,m.map iv++sp)]/\m.Perm l/\iT key m:=by
 refine PW.body tO func253 Z kR ntmps253 Z Z ?_;refine uR ?_;refine EV.loopK (ι:=Nat × List Int) [0,1,2,3] [] (fun q=>[(8,.v (.int .i64 (q.1:Int)))]) (fun _=>[]) (fun q=>[(b,3,q.2.map iv++sp)]) (fun q _=>1<=q.1/\q.2.Perm l/\iT key (q.2.take q.1)) (fun q=>l.length-q.1) ((1,l)) Z Z ⟨Z,trivial⟩ trivial rfl (fun _=>rfl) (⟨qH _,List.Perm.refl _,by cases l with | nil=>exact List.Pairwise.nil | cons a l=>exact List.pairwise_singleton _ _⟩) ?_;rintro⟨i,cur⟩ G1 aj ⟨h1,bU,cT⟩;dsimp only at h1 bU cT;have cj:=bU.length_eq;refine uR ?_;refine EV.cond Z (fun af=>?_) (fun af=>?_)
 ·simp only[nN]at af;obtain⟨x,di⟩:∃x,cur[i]?=some x:=⟨_,qA oM⟩;have hcut:cur=cur.take i++x::cur.drop (i+1):=by rw[<-IE di,List.take_append_drop]
  have bH:(cur.take i).length=i:=by rw[qP];omega
  have hxm:x∈l:=bU.mem_iff.1 (qF di);have hma:∀y,y∈cur.take i->y∈l:=fun y hy=>bU.mem_iff.1 (List.mem_of_mem_take hy);have ft:(cur.drop (i+1)).length=l.length-(i+1):=by rw[qt];omega
  have aK:=zn9 (cur.take i) (cur.drop (i+1)) x;rw[bH,<-hcut]at aK;generalize PN:cur.take i=acc at *
  generalize cur.drop (i+1)=rest at *
  subst bH;subst aK;refine uR ?_;refine EV.loopK (ι:=Nat) [0,1,2,3,8] [] (fun j=>[(9,.v (.int .i64 (j:Int)))]) (fun _=>[]) (fun j=>[(b,3,(aV acc j x++rest).map iv++sp)]) (fun j _=>j<=acc.length/\∀y,y∈acc.drop j->key x<=key y) (fun j=>j) (acc.length) Z Z ⟨Z,trivial⟩ trivial rfl (fun _=>rfl) (⟨qH _,by rw[List.drop_length];intro y hy;cases hy⟩) ?_;rintro j G2 ai ⟨hj,cK⟩;have hlen:=zrP (acc:=acc) (rest:=rest) (j:=j) (x:=x);have hx':=Ym (rest:=rest) (x:=x) hj;have AS:=vV acc j x;have bk:(aV acc j x++rest).length=l.length:=by rw[hlen];omega
  rw[<-bk]
  have next:(aV acc j x++rest).Perm l:=by
   refine List.Perm.trans ?_ bU;exact(AS.trans (vV acc acc.length x).symm).append_right rest
  have fin:iT key (aV acc j x)->iT key ((aV acc j x++rest).take (acc.length+1)):=fun h=>by
   rw[List.take_append_of_le_length (by rw[AS.length_eq];simp)]
   rwa [qO (by rw[AS.length_eq];simp)]
  cases j with
  | zero =>
   have hr:=fin (Tb cT (by intro y hy;rw[List.take_zero]at hy;cases hy) cK);refine uR ?_;apply EV.drawn 17 kR kR;intro xv yw;(repeat refine' DD ?_);(refine DJ.nil (fun G3 ax fM=>?_);(case hS|hS2=>rfl));refine uR ?_;refine⟨(acc.length+1,aV acc 0 x++rest),⟨?_,trivial⟩,sB,trivial,trivial,rfl,⟨by omega,next,hr⟩,ai.trans ax,by dsimp only;omega⟩;rw[aO _ (by omega)];rfl
  | succ j =>
   obtain⟨y,jU⟩:∃y,acc[j]?=some y:=⟨_,qA oM⟩;have jW:=Yl (rest:=rest) (x:=x) jU;have hc:=fun G (hG:H.Le G)=>aS G hG x y hxm (hma y (qF jU))
   have cF:bI (key x) (key y)<0->key x<=key y:=fun h=>by
    unfold bI at h;split at h
    ·exact Rat.le_of_lt (by assumption)
    ·split at h <;> omega
   have hge:¬bI (key x) (key y)<0->key y<=key x:=fun h=>by
    unfold bI at h;split at h
    ·omega
    ·rename_i k;exact Rat.not_lt.1 k
   generalize bI (key x) (key y)=o at *
   refine uR ?_;apply EV.drawn 17 kR kR;intro xv yw;(repeat refine' DD ?_);rw[qD (show ((j+1:Nat):Int)>0 by omega)];(repeat refine' DD ?_);refine' DJ.idxB tO Z Z Z Z Z Z Z Z Z (j+1) ((j+1)*1) (rfl) (oM) (rfl) ?_;rotate_left;refine' DJ.ofVal (az.loadOwn tO Z Z Z Z (0) Z (x8 sp hx') Z Z) Z Z Z ?_;rotate_left;(repeat refine' DD ?_);refine' DJ.idxB tO Z Z Z Z Z Z Z Z Z (j) (j*1) ((by rw[pL];omega)) (oM) (rfl) ?_;rotate_left;refine' DJ.ofVal (az.loadOwn tO Z Z Z Z (0) Z (x8 sp jW) Z Z) Z Z Z ?_;rotate_left;(refine' DJ.callC (f:=f) (cs:=cs) Z Z Z Z Z Z oZ (fun G hG=>hc G (aj.trans (ai.trans hG))) ?_;rotate_left);(repeat refine' DD ?_);(refine DJ.nil (fun G3 ax fM=>?_);(case hS|hS2=>rfl));refine uR ?_;by_cases ho:o<0
   ·rw[qD ho];have jX:=cF ho;refine uR ?_;refine EVA.start kR ?_;refine EVA.val tO (0) Z kR kR kR Z Z Z Z Z ?_;refine EVA.val tO (1) Z kR kR kR Z Z Z Z Z ?_;refine EVA.val tO (5) Z kR kR kR Z Z Z Z Z ?_;refine EVA.val tO (6) Z kR kR kR Z Z Z Z Z ?_;refine EVA.val tO (7) Z kR kR kR Z Z Z Z Z ?_;refine EVA.idxB tO (8) Z kR kR kR Z Z Z Z Z Z Z Z Z (j) (j*1) ((by rw[pL];omega)) (oM) (rfl) ?_;refine EVA.val tO (10) Z kR kR kR Z Z Z Z Z ?_;refine EVA.val tO (11) Z kR kR kR Z Z Z Z Z ?_;refine EVA.idxB tO (12) Z kR kR kR Z Z Z Z Z Z Z Z Z (j+1) ((j+1)*1) (rfl) (oM) (rfl) ?_;refine EVA.val tO (2) Z kR kR kR Z Z Z Z Z ?_;refine EVA.val tO (3) Z kR kR kR Z Z Z Z Z ?_;refine EVA.val tO (4) Z kR kR kR Z Z Z Z Z ?_;refine EVA.two 9 13 kR Z Z ?_ ?_
    ·refine EVL.loadOwn tO Z Z Z Z Z Z (0) Z (x8 sp jW) Z Z ?_;refine EVL.nil ⟨rfl,?_⟩;refine EVA.one 13 kR Z ?_;refine EVL.loadOwn tO Z Z Z Z Z Z (0) Z (x8 sp hx') Z Z ?_;refine EVL.nil ⟨rfl,?_⟩;refine EVA.idxB tO (14) Z kR kR kR Z Z Z Z Z Z Z Z Z (j+1) ((j+1)*1) (rfl) (oM) (rfl) ?_;refine EVA.one 15 kR Z ?_;refine EVL.storeOwn tO Z Z Z Z Z Z ([]) ([]) Z Z Z Z ((by rw[qJ,qV];show (j+1)*1+1<=_;omega)) ((B6 sp y (show j+1<(aV acc (j+1) x++rest).length by omega))) ?_;refine EVL.nil ⟨rfl,?_⟩;refine EVA.idxB tO (16) Z kR kR kR Z Z Z Z Z Z Z Z Z (j) (j*1) ((by rw[pL];omega)) (oM) (rfl) ?_;refine EVA.one 17 kR Z ?_;refine EVL.storeOwn tO Z Z Z Z Z Z ([]) ([]) Z Z Z Z ((by rw[qJ,qV,List.length_set];show j*1+1<=_;omega)) ((B6 sp x (show j<((aV acc (j+1) x++rest).set (j+1) y).length by rw[List.length_set];omega))) ?_;refine EVL.nil ⟨rfl,?_⟩;refine EVA.nil kR ?_;rw[TC jU];refine uR ?_;refine⟨j,⟨?_,trivial⟩,sB,trivial,trivial,rfl,⟨by omega,?_⟩,ax,by omega⟩
     ·rw[show IntKind.i64.wrap (((j+1:Nat):Int)-1)=(j:Int) by rw[pL];omega];rfl
     ·intro z hz;rw[IE jU]at hz;rcases List.mem_cons.1 hz with rfl | hz
      ·exact jX
      ·exact cK z hz
    ·refine EVL.loadOwn tO Z Z Z Z Z Z (0) Z (x8 sp hx') Z Z ?_;refine EVL.nil ⟨rfl,?_⟩;refine EVA.one 9 kR Z ?_;refine EVL.loadOwn tO Z Z Z Z Z Z (0) Z (x8 sp jW) Z Z ?_;refine EVL.nil ⟨rfl,?_⟩;refine EVA.idxB tO (14) Z kR kR kR Z Z Z Z Z Z Z Z Z (j+1) ((j+1)*1) (rfl) (oM) (rfl) ?_;refine EVA.one 15 kR Z ?_;refine EVL.storeOwn tO Z Z Z Z Z Z ([]) ([]) Z Z Z Z ((by rw[qJ,qV];show (j+1)*1+1<=_;omega)) ((B6 sp y (show j+1<(aV acc (j+1) x++rest).length by omega))) ?_;refine EVL.nil ⟨rfl,?_⟩;refine EVA.idxB tO (16) Z kR kR kR Z Z Z Z Z Z Z Z Z (j) (j*1) ((by rw[pL];omega)) (oM) (rfl) ?_;refine EVA.one 17 kR Z ?_;refine EVL.storeOwn tO Z Z Z Z Z Z ([]) ([]) Z Z Z Z ((by rw[qJ,qV,List.length_set];show j*1+1<=_;omega)) ((B6 sp x (show j<((aV acc (j+1) x++rest).set (j+1) y).length by rw[List.length_set];omega))) ?_;refine EVL.nil ⟨rfl,?_⟩;refine EVA.nil kR ?_;rw[TC jU];refine uR ?_;refine⟨j,⟨?_,trivial⟩,sB,trivial,trivial,rfl,⟨by omega,?_⟩,ax,by omega⟩
     ·rw[show IntKind.i64.wrap (((j+1:Nat):Int)-1)=(j:Int) by rw[pL];omega];rfl
     ·intro z hz;rw[IE jU]at hz;rcases List.mem_cons.1 hz with rfl | hz
      ·exact jX
      ·exact cK z hz
   ·rw[qC ho];have hr:=fin (Tb cT (zqb cT jU (hge ho)) cK);refine uR ?_;refine⟨(acc.length+1,aV acc (j+1) x++rest),⟨?_,trivial⟩,sB,trivial,trivial,rfl,⟨by omega,next,hr⟩,ai.trans ax,by dsimp only;omega⟩;rw[aO _ (by omega)];rfl
 ·simp only[nN]at af;rw[qO (by omega)]at cT;refine uR ?_;exact⟨rfl,cur,rfl,bU,cT⟩
section
variable {P:Program} {n:Nat} {ops:Array Oper} {rest:List Oper} {env:Env} {bx:Bxs} {H:Hs} {Q:EQ}
theorem Rel.asRo {W0:World} {H0:Bs} {β:Nat->Nat} {a:Act} {W:World} (r:Rel n W0 H0 β env bx H a W) {t b off:Nat} (ht:env.get t=some (.v (.pointer (some ⟨b,off,none⟩)))) {c:Array Value} (hc:H.ro b=some c) {cs:List Value} (bC:∀j x,cs[j]?=some x->c[off+j]?=some x) :
  Rel n W0 H0 β ((t,.ro cs)::env) bx H a W:=by
 refine⟨r.size,r.defers,fun t' s hs=>?_,r.box,r.low,r.inj,fun t' i dH hu=>?_,r.fits,r.le,r.new,r.bel,r.glob,r.own,r.one⟩
 ·rw[Env.get_cons]at hs;by_cases e:t=t'
  ·subst e;rw[if_pos rfl]at hs;cases hs;obtain⟨x,hx,hr⟩:=r.slot t _ ht;exact⟨x,hx,b,off,c,hr,hc,bC⟩
  ·rw[if_neg e]at hs;exact r.slot t' s hs
 ·rw[Env.get_cons]at hu;by_cases e:t=t'
  ·rw[if_pos e]at hu;cases hu
  ·rw[if_neg e]at hu;exact r.pin t' i dH hu
theorem EV.asRo {c:Code} (t:Nat) {b:Nat} (ht:env.get t=some (.v (.pointer (some ⟨b,0,none⟩)))) {cs:List Value} (hc:H.ro b=some cs.toArray) (h:EV P n c ((t,.ro cs)::env) bx H Q):EV P n c env bx H Q :=
 fun W0 β a W r=>h W0 β a W (r.asRo ht hc (fun j x hx=>by rw[qu];simpa using hx))
theorem EVL.swapOw (a b:Ows) (e:H.ow=a++b) (h:EVL P n ops rest env bx ⟨H.ro,b++a,H.base⟩ Q):EVL P n ops rest env bx H Q :=
 fun W0 β x W r=>h W0 β x W (r.permOw (by rw[e];exact List.perm_append_comm))
theorem EV.swapOw {c:Code} (a b:Ows) (e:H.ow=a++b) (h:EV P n c env bx ⟨H.ro,b++a,H.base⟩ Q):EV P n c env bx H Q :=
 fun W0 β x W r=>h W0 β x W (r.permOw (by rw[e];exact List.perm_append_comm))
end
def QVs (H:Hp) (vs:List Value) (X:List (List Rat)):Prop:=vs.length=X.length/\∀(j:Nat) (u:Value) (x:List Rat),vs[j]?=some u->X[j]?=some x->QL H u x
theorem QVs.mono {H G:Hp} {vs:List Value} {X:List (List Rat)} (h:QVs H vs X) (k:H.Le G):QVs G vs X:=⟨h.1,fun j u x e1 e2=>(h.2 j u x e1 e2).mono k⟩
theorem QVs.nil (H:Hp):QVs H [] []:=⟨rfl,fun j u x h=>by simp at h⟩
theorem Rx {α:Type} {p:Value->α->Prop} {vs:List Value} {X:List α} {u:Value} {x:α} (h:vs.length=X.length/\∀(j:Nat) (u:Value) (x:α),vs[j]?=some u->X[j]?=some x->p u x) (k:p u x) :
  (vs++[u]).length=(X++[x]).length/\∀(j:Nat) (v:Value) (y:α),(vs++[u])[j]?=some v->(X++[x])[j]?=some y->p v y:=by
 refine⟨by simp[h.1],fun j y r e1 e2=>?_⟩;rw[List.getElem?_append]at e1 e2;by_cases hj:j<vs.length
 ·rw[if_pos hj]at e1;rw[if_pos (by rw[<-h.1];exact hj)]at e2;exact h.2 j y r e1 e2
 ·rw[if_neg hj]at e1;rw[if_neg (by rw[<-h.1];exact hj)]at e2;have:=h.1
  cases hk:j-vs.length with
  | zero =>
   rw[hk]at e1;rw[<-h.1,hk]at e2;simp at e1 e2;subst e1;subst e2;exact k
  | succ m=>rw[hk]at e1;simp at e1
theorem QVs.snoc {H:Hp} {vs:List Value} {X:List (List Rat)} {u:Value} {x:List Rat} (h:QVs H vs X) (k:QL H u x):QVs H (vs++[u]) (X++[x]):=Rx h k
def QLL (H:Hp) (v:Value) (X:List (List Rat)):Prop:=∃vs:List Value,QVs H vs X/\SlC H v X.length 1 vs
theorem QLL.mono {H G:Hp} {v:Value} {X:List (List Rat)} (h:QLL H v X) (k:H.Le G):QLL G v X:=by
 obtain⟨vs,h1,h2⟩:=h;exact⟨vs,h1.mono k,h2.mono k⟩
theorem QLL.val {H:Hp} {v:Value} {X:List (List Rat)} (h:QLL H v X):∃a c,v=.slice a X.length c:=by
 obtain⟨vs,_,h2⟩:=h;exact SlC.val h2
theorem QVs.at {H:Hp} {vs:List Value} {X:List (List Rat)} (h:QVs H vs X) {j:Nat} {x:List Rat} (hj:X[j]?=some x):∃a c,vs[j]?=some (.slice a x.length c)/\QL H (.slice a x.length c) x:=by
 obtain⟨hl,_⟩:=qE.1 hj;obtain⟨u,hu⟩:∃u,vs[j]?=some u:=⟨_,qA (by rw[h.1];exact hl)⟩;have hq:=h.2 j u x hu hj;obtain⟨a,c,rfl⟩:=SlC.val hq;exact⟨a,c,hu,hq⟩
def cY (X:List (List Rat)) (col r:Int):Bool:=decide (0<=col) && decide (col<((X.getD r.toNat []).length:Int))
def bD (X:List (List Rat)) (col r:Int):Rat:=(X.getD r.toNat []).getD col.toNat 0
theorem zM {X:List (List Rat)} {col r:Int} {R C:Nat} {x:List Rat} {q:Rat} (hr:r=R) (hc:col=C) (hx:X[R]?=some x) (hq:x[C]?=some q):bD X col r=q:=by
 subst hr;subst hc;unfold bD;simp[qB,hx,hq]
theorem zL {X:List (List Rat)} {col r:Int} (gh:0<=r) (hr:r<(X.length:Int)) (h:cY X col r=true):∃(R C:Nat) (x:List Rat) (q:Rat),r=R/\col=C/\X[R]?=some x/\x[C]?=some q:=by
 unfold cY at h;simp only[Bool.and_eq_true,decide_eq_true_eq]at h;obtain⟨R,rfl⟩:=qh gh;obtain⟨C,rfl⟩:=qh h.1;have h2:=h.2;rw[qU,qB,qA (show R<X.length by omega),Option.getD_some]at h2;exact⟨R,C,X[R],X[R][C],rfl,rfl,qA oM,qA oM⟩
theorem zo2 {H:Hp} {bx bc:Nat} {v:Value} {X:List (List Rat)} {col:Int} (hX:QLL H v X) (hb:H bx=some [v].toArray) (hc:H bc=some [Value.int .i64 col].toArray) (eS:∀x,x∈X->∀q,q∈x->sm q)
  {i j:Int} (xg:0<=i) (hi:i<(X.length:Int)) (hj0:0<=j) (hj:j<(X.length:Int)) (oY:cY X col i=true) (hcj:cY X col j=true) :
  PC prog 237 #[.int .i64 i,.int .i64 j,.pointer (some ⟨bx,0,none⟩),.pointer (some ⟨bc,0,none⟩)] H fun r _=>r=.int .i64 (bI (bD X col i) (bD X col j)):=by
 obtain⟨I,C,x,p,rfl,rfl,di,hp⟩:=zL xg hi oY;obtain⟨J,C',y,q,rfl,xG,jU,hq⟩:=zL hj0 hj hcj;obtain rfl:C=C':=oM;obtain⟨va,vc,rfl⟩:=hX.val;obtain⟨vs,aG,hs⟩:=hX;obtain⟨a1,c1,jz,P4⟩:=aG.at di;obtain⟨a2,c2,Az,P3⟩:=aG.at jU;have kC:SlC H (.slice a1 x.length c1) x.length 5 (x.flatMap fun q=>aB (aC q)):=P4;have cr:SlC H (.slice a2 y.length c2) y.length 5 (y.flatMap fun q=>aB (aC q)):=P3;have aS:=pC p q (eS x (qF di) p (qF hp)) (eS y (qF jU) q (qF hq));rw[zM Z Z di hp,zM Z Z jU hq];have hCx:=(qE.1 hp).1;have hCy:=(qE.1 hq).1;have hIl:I<X.length:=oM;have hJl:J<X.length:=oM;refine BD func237 ntmps237 ?_;refine EV.asRo 2 Z hb ?_;refine EV.asRo 3 Z hc ?_;refine uR ?_;apply EV.drawn 14 kR kR;intro xv yw;(repeat refine' DD ?_);refine' vJ (hs) (I) (rfl) (hIl) (jz) ?_;rotate_left;(repeat refine' DD ?_);refine' DJ.idxM tO Z Z Z Z Z Z Z Z Z (kC) (C) (rfl) (hCx) (QL.at (H:=H) (v:=.bool true) hp) ?_;rotate_left;(repeat refine' DD ?_);refine' vJ (hs) (J) (rfl) (hJl) (Az) ?_;rotate_left;(repeat refine' DD ?_);refine' DJ.idxM tO Z Z Z Z Z Z Z Z Z (cr) (C) (rfl) (hCy) (QL.at (H:=H) (v:=.bool true) hq) ?_;rotate_left;(repeat refine' DD ?_);(refine DJ.nil (fun G1 aj gV=>?_);(case hS|hS2=>rfl))
 repeat (first|refine RUN ?_|refine CV (aS) ?_|refine CE (aS) ?_)
 rfl
theorem zi3 {H:Hp} {s:Value} {A:Int} (hA:0<=A/\A<=1000) (L:Ows) {Hc:Value}:PW prog 253 #[s,.int .i64 A,.int .i64 A,Hc] H L fun v ow _=>v=.tuple #[]/\ow=L:=by
 refine PW.body tO func253 Z kR ntmps253 Z Z ?_;refine uR ?_;rw[show IntKind.i64.wrap (A+1)=A+1 by rw[pL];omega];refine EV.loopK (ι:=Unit) [] [] (fun q=>[(2,.v (.int .i64 A)),(8,.v (.int .i64 (A+1)))]) (fun _=>[]) (fun _=>L) (fun _ _=>True) (fun _=>0) (()) Z Z ⟨Z,Z,trivial⟩ trivial rfl (fun _=>rfl) (trivial) ?_;rintro⟨⟩ G1 aj _;refine uR ?_;rw[qC (show ¬A+1<A by omega)];refine uR ?_;exact⟨rfl,rfl⟩
theorem zow {H:Hp} {b cap:Nat} {l:List Int} {sp:List Value} (hl:l.length<=20) {f:FuncId} {cs:List Value} {key:Int->Rat} (oZ:fQ prog f) (aS:∀G,H.Le G->∀x y,x∈l->y∈l->PC prog f ([iv x,iv y]++cs).toArray G fun u _=>u=.int .i64 (bI (key x) (key y))) :
  PW prog 236 #[.slice (some ⟨b,0,none⟩) l.length cap,.func (.func f) #[] cs.toArray] H [(b,3,l.map iv++sp)] fun v ow _=>v=.tuple #[]/\∃m,ow=[(b,3,m.map iv++sp)]/\m.Perm l/\iT key m:=by
 have aK:PW prog 248 #[.slice (some ⟨b,0,none⟩) l.length cap,.int .i64 (l.length:Int),.func (.func f) #[] cs.toArray] H [(b,3,l.map iv++sp)] fun v ow _=>v=.tuple #[]/\∃m,ow=[(b,3,m.map iv++sp)]/\m.Perm l/\iT key m:=by
  refine PW.body tO func248 Z kR ntmps248 Z Z ?_;refine uR ?_;refine EV.loopK (ι:=Bool × List Int) [0,1,2,6] [] (fun q=>[(7,.v (.int .i64 (if q.1 then 20 else 0))),(8,.v (.int .i64 (if q.1 then 40 else 20)))]) (fun _=>[]) (fun q=>[(b,3,q.2.map iv++sp)]) (fun q _=>q.2.Perm l/\(q.1=true->l.length=20/\iT key q.2)/\(q.1=false->q.2=l)) (fun q=>if q.1 then 0 else 1) ((false,l)) Z Z ⟨Z,Z,trivial⟩ trivial rfl (fun _=>rfl) (⟨List.Perm.refl _,by simp,by simp⟩) ?_;rintro⟨q,m⟩ G1 aj ⟨hp,h1,h2⟩;dsimp only at hp h1 h2
  cases q with
  | true =>
   obtain⟨hn,hr⟩:=h1 rfl;refine uR ?_;rw[show decide ((if true=true then (40:Int) else 20)<=(l.length:Int))=false by rw[hn];rfl];refine uR ?_;rw[show (if true=true then (20:Int) else 0)=(l.length:Int) by rw[hn];rfl];refine EVL.callW Z Z Z Z Z ([(b,3,m.map iv++sp)]) ([]) Z (zi3 (A:=(l.length:Int)) oM _) ?_;rintro v ow G2 ⟨rfl,rfl⟩ ai;refine uR ?_;refine EV.loopK (ι:=Unit) [1] [] (fun q=>[(6,.v (.int .i64 20))]) (fun _=>[]) (fun _=>[(b,3,m.map iv++sp)]) (fun _ _=>True) (fun _=>0) (()) Z Z ⟨Z,trivial⟩ trivial rfl (fun _=>rfl) (trivial) ?_;rintro⟨⟩ G3 ax _;refine uR ?_;rw[qC (show ¬(20:Int)<(l.length:Int) by omega)];refine uR ?_;exact⟨rfl,m,rfl,hp,hr⟩
  | false =>
   obtain rfl:=h2 rfl;refine uR ?_;by_cases hn:m.length=20
   ·rw[show decide ((if false=true then (40:Int) else 20)<=(m.length:Int))=true by rw[hn];rfl];have hi:=Vg (H:=G1) (b:=b) (cap:=cap) (sp:=sp) (l:=m) (cs:=cs) (key:=key) oM oZ (fun G hG=>aS G (aj.trans hG));rw[hn]at hi;refine uR ?_;rw[hn];refine vW ([(b,3,m.map iv++sp)]) ([]) (hi) ?_;rintro v ow G2 ⟨rfl,m2,rfl,gi,bM⟩ ai;refine uR ?_;exact⟨(true,m2),⟨Z,Z,trivial⟩,sB,trivial,trivial,rfl,⟨gi,fun _=>⟨by first|exact hn|rfl,bM⟩,by simp⟩,ai,by simp⟩
   ·rw[show decide ((if false=true then (40:Int) else 20)<=(m.length:Int))=false by simp;omega];refine uR ?_;refine EVL.callW Z Z Z Z Z ([(b,3,m.map iv++sp)]) ([]) Z (Vg (key:=key) oM oZ (fun G hG=>aS G (aj.trans hG))) ?_;rintro v ow G2 ⟨rfl,m2,rfl,gi,bM⟩ ai;refine uR ?_;refine EV.loopK (ι:=Unit) [1] [] (fun q=>[(6,.v (.int .i64 20))]) (fun _=>[]) (fun _=>[(b,3,m2.map iv++sp)]) (fun _ _=>True) (fun _=>0) (()) Z Z ⟨Z,trivial⟩ trivial rfl (fun _=>rfl) (trivial) ?_;rintro⟨⟩ G3 ax _;refine uR ?_;rw[qC (show ¬(20:Int)<(m.length:Int) by omega)];refine uR ?_;exact⟨rfl,m2,rfl,gi,bM⟩
 refine PW.body tO func236 Z kR ntmps236 Z Z ?_;refine uR ?_;refine vW ([(b,3,l.map iv++sp)]) ([]) (aK) ?_;rintro v ow G2 ⟨rfl,m,rfl,hp,hr⟩ ai;refine uR ?_;exact⟨rfl,m,rfl,hp,hr⟩
theorem I5:fe []=0:=wu _
theorem Tl {H:Hp} {v:Value} {l:List Rat} (h:QL H v l) (hl:l.length<=10000) (hb:∀q,q∈l->ht q<=100):PC prog 69 #[v] H fun r _=>r=.tuple #[aC (fe l),.bool (decide (0<l.length))]:=by
 by_cases h0:l.length=0
 ·obtain rfl:=pJ.1 h0;rw[I5];exact YE h
 ·rw[qD (show 0<l.length by omega)];exact YD h oM h0 hb
theorem zrB {l:List Rat} {B:Nat} (hl:l.length<=300) (hb:∀q,q∈l->ht q<=B):ht (fe l)<=1+(B+1)*300+20:=by
 have b1:=pF B l hb;have b2:(B+1)*l.length<=(B+1)*300:=qb _ hl;have b3:=KI (n:=l.length) oM;have b4:=tY (aJ l) ((l.length:Int):Rat);unfold fe;omega
theorem ZO {m:Rat} {l:List Rat} {B C:Nat} (hb:∀q,q∈l->ht q<=B) (hm:ht m<=C):∀q,q∈eB m l->ht q<=2*(B+C+1):=fun q hq=>by
 obtain⟨v,hv,rfl⟩:=List.mem_map.1 hq;have h1:=hb v hv;have h2:=DE v m;have h3:=pG (v-m) (v-m);omega
theorem ZN {m:Rat} {l:List Rat} {B C:Nat} (hl:l.length<=300) (hb:∀q,q∈l->ht q<=B) (hm:ht m<=C):ht (aJ (eB m l))<=1+(2*(B+C+1)+1)*300:=by
 have h1:=pF _ (eB m l) (ZO hb hm);have h2:(2*(B+C+1)+1)*(eB m l).length<=(2*(B+C+1)+1)*300:=qb _ (by simpa[eB] using hl);omega
theorem SS {H:Hp} {v:Value} {rs:List Int} (hr:IL H v rs) (hn:rs.length<=300) {va:Option Addr} {vc:Nat} {vals:List Rat} {la:Option Addr} {lc:Nat} (hv:QL H (.slice va vals.length vc) vals) (h0:1<=vals.length) (h1:vals.length<=300) (hb:∀q,q∈vals->ht q<=100) :
  PC prog 159 #[bG 2 0 (.slice la 0 lc) (.slice va vals.length vc),v] H fun r _=>r=aC (fe (atR vals (exL rs vals.length))):=by
 obtain⟨a,cap,rfl⟩:=SlC.val hr;have fl:=I2 (va:=va) (vc:=vc) (la:=la) (lc:=lc) h0 h1;have jl:=kU rs vals.length;refine BD func159 ntmps159 ?_
 repeat (first|refine RUN ?_|refine CV (fl) ?_|refine CE (fl) ?_)
 refine EVL.call Z Z Z Z Z (Tp hr oM hv) ?_;intro r1 G1 hL aj;have df:=fun q hq=>hb q (yt (uf (rs:=rs) (n:=vals.length)) q hq);have dc:(atR vals (exL rs vals.length)).length<=300:=by rw[lY];omega
 generalize atR vals (exL rs vals.length)=L at *
 have hm:=Tl hL oM df
 repeat (first|refine RUN ?_|refine CV (hm) ?_|refine CE (hm) ?_)
 by_cases hz:0<L.length
 ·rw[qD hz];refine uR ?_;rfl
 ·rw[qC hz];refine uR ?_;obtain rfl:L=[]:=pJ.1 oM;rw[I5];exact Cl.symm
theorem Z9 {H:Hp} {v:Value} {rs:List Int} (hr:IL H v rs) (hn:rs.length<=300) {va:Option Addr} {vc:Nat} {vals:List Rat} {la:Option Addr} {lc:Nat} (hv:QL H (.slice va vals.length vc) vals) (h0:1<=vals.length) (h1:vals.length<=300) (hb:∀q,q∈vals->ht q<=100) :
  PC prog 158 #[bG 2 0 (.slice la 0 lc) (.slice va vals.length vc),v] H fun r _=>r=aC (aJ (eB (fe (atR vals (exL rs vals.length))) (atR vals (exL rs vals.length)))):=by
 obtain⟨a,cap,rfl⟩:=SlC.val hr;have fl:=I2 (va:=va) (vc:=vc) (la:=la) (lc:=lc) h0 h1;have jl:=kU rs vals.length;have gF:=SS (la:=la) (lc:=lc) hr hn hv h0 h1 hb;have kZ:=Tp (kd:=2) (cl:=0) (la:=la) (ln:=0) (lc:=lc) hr oM hv;have df:=fun q hq=>hb q (yt (uf (rs:=rs) (n:=vals.length)) q hq);have dc:(atR vals (exL rs vals.length)).length<=300:=by rw[lY];omega
 generalize atR vals (exL rs vals.length)=L at *
 have AY:=zrB dc df;generalize fe L=m at *
 have nK:sm m:=bE AY oM;refine BD func158 ntmps158 ?_
 repeat (first|refine RUN ?_|refine CV (fl) ?_|refine CV (gF) ?_|refine CE (fl) ?_|refine CE (gF) ?_)
 refine vA (kZ) ?_;intro r1 G1 hL aj;obtain⟨a1,c1,rfl⟩:=SlC.val hL;have hs:SlC G1 (.slice a1 L.length c1) L.length 5 (L.flatMap fun q=>aB (aC q)):=hL;refine uR ?_;refine EV.loopK (ι:=Nat) [4,6,7,34,35] [4,7] (fun i=>[(36,.v (.int .i64 (i:Int)))]) (fun i=>[(6,51,aB (aC (aJ (eB m (L.take i)))))]) (fun _=>[]) (fun i _=>i<=L.length) (fun i=>L.length-i) (0) Z Z ⟨Z,trivial⟩ ⟨by rw[show aJ (eB m (L.take 0))=0 from rfl,rN];rfl,trivial⟩ rfl (fun _=>rfl) (qQ _) ?_;rintro i G2 ai hi;refine uR ?_;refine EV.cond Z (fun af=>?_) (fun af=>?_)
 ·simp only[nN]at af;obtain⟨x,hx⟩:=gE af;have mM:=df x (qF hx);have bk:=ZN (l:=L.take i) (by rw[qP];omega) (fun q hq=>df q (List.mem_of_mem_take hq)) AY;have hd:=DE x m;have hdd:=pG (x-m) (x-m);have aQ:=zG x m (bE mM oM) nK;have hmul:=Du (x-m) (x-m) (bE hd oM) (bE hd oM);have cE:=ye (aJ (eB m (L.take i))) ((x-m)*(x-m)) (bE bk oM) (bE hdd oM);rw[<-L2,<-dZ hx]at cE;refine uR ?_;refine EVL.idxM tO Z Z Z Z Z Z Z Z Z ((hs.mono ai)) (i) (rfl) (af) (QL.at (H:=H) (v:=.bool true) hx) ?_
  repeat (first|refine RUN ?_|refine CV (aQ) ?_|refine CE (aQ) ?_)
  apply EV.drawn 4 kR kR;intro xv yw;(repeat (first|refine' DD ?_|(refine' DC (hmul) (h:=?_);rotate_left)));(refine DJ.nil (fun G3 ax fM=>?_);(case hS|hS2=>rfl))
  repeat (first|refine RUN ?_|refine CV (cE) ?_|refine CE (cE) ?_)
  refine⟨i+1,⟨?_,trivial⟩,sB,⟨Z,trivial⟩,sB,rfl,af,ax,by omega⟩;rw[aO i (by omega)];rfl
 ·simp only[nN]at af;obtain rfl:i=L.length:=oM;rw[qa];refine uR ?_;rfl
theorem Uk {H:Hp} {cl:Int} {va:Option Addr} {vn vc:Nat} {la:Option Addr} {lc:Nat} {ls:List Int} (hv:IL H (.slice la ls.length lc) ls) {v:Value} {rs:List Int} (hr:IL H v rs) (hn:rs.length<=100000)
  (eZ:∀r,r∈rs->0<=r/\r<(ls.length:Int)) (dE:∀z,z∈ls->0<=z/\z<12) :
  PC prog 198 #[bG 1 cl (.slice la ls.length lc) (.slice va vn vc),v] H fun r _=>r=.agg (bP (rs.length:Nat) (csL (atI ls rs)) (sqL (atI ls rs)) 0).toArray:=by
 obtain⟨a,cap,rfl⟩:=SlC.val hr;exact zqN hv hr hn eZ dE
def pA (L:List Int):Rat:=((L.length:Int):Rat)-((sqL L:Int):Rat) / ((L.length:Int):Rat)
theorem zrh {H:Hp} {v:Value} {rs:List Int} (hr:IL H v rs) (hn:rs.length<=300) {va:Option Addr} {vc:Nat} {la:Option Addr} {lc:Nat} {ls:List Int} (hv:IL H (.slice la ls.length lc) ls) {cl:Int} (hc:1<=cl/\cl<=12) (h0:1<=ls.length) (h1:ls.length<=300) (dE:∀z,z∈ls->0<=z/\z<cl) :
  PC prog 158 #[bG 1 cl (.slice la ls.length lc) (.slice va 0 vc),v] H fun r _=>r=aC (pA (atI ls (exL rs ls.length))):=by
 obtain⟨a,cap,rfl⟩:=SlC.val hr;have fl:=L4 (va:=va) (vc:=vc) hv hc h0 h1 dE;have hlen:=KZ (cl:=cl) (va:=va) (vn:=0) (vc:=vc) (la:=la) (ln:=ls.length) (lc:=lc);have jl:=kU rs ls.length;have hem:=uf (rs:=rs) (n:=ls.length);have hex:=fun (G:Hp) (hG:H.Le G)=>Eh (hr.mono hG) oM ls.length;generalize exL rs ls.length=E at *
 have zo:(atI ls E).length=E.length:=pV ls E;have wI:=BX (atI ls E);rw[zo]at wI;have AD:E.length*E.length<=300*300:=Nat.mul_le_mul oM oM;have hE:pA (atI ls E)=((E.length:Int):Rat)-((sqL (atI ls E):Int):Rat) / ((E.length:Int):Rat):=by unfold pA;rw[zo]
 have mj:=ie (E.length:Int);have hn3:bl (E.length:Int).natAbs<=20:=cf oM;have cr:=ie (sqL (atI ls E):Int);have jA:bl (sqL (atI ls E):Int).natAbs<=20:=cf oM;have JX:=tY ((sqL (atI ls E):Int):Rat) ((E.length:Int):Rat);have eT:=np (E.length:Int) oM oM;have aQ:=zG ((E.length:Int):Rat) (((sqL (atI ls E):Int):Rat) / ((E.length:Int):Rat)) (by unfold sm;omega) (by unfold sm;omega);rw[hE];refine BD func158 ntmps158 ?_
 repeat (first|refine RUN ?_|refine CV (fl) ?_|refine CE (fl) ?_)
 apply EV.drawn 7 kR kR;intro xv yw;(repeat (first|refine' DD ?_|(refine' DC (hlen) (h:=?_);rotate_left)));refine' vB (cO func199) (fun G hG hd=>hex G hG) (fun _ _ _ h k=>SlN.mono h k) ?_;rotate_left;refine' vC (cO func198) (fun G hG hd=>Uk (hv.mono hG) (hd.head kR) oM hem (fun z hz=>⟨(dE z hz).1,by have:=(dE z hz).2;omega⟩)) ?_;rotate_left;(repeat refine' DD ?_);(refine DJ.nil (fun G1 aj gV=>?_);(case hS|hS2=>rfl))
 repeat (first|refine RUN ?_|refine CV (eT) ?_|refine CE (eT) ?_)
 (first|refine EVL.unbox (5) Z fun b=>?_|refine EV.unbox (5) Z fun b=>?_);refine EVL.callW Z Z Z Z Z ([(b,279,bP (E.length:Nat) (csL (atI ls E)) (sqL (atI ls E)) 0)]) ([]) Z (zqR (oq _) oM oM) ?_;rintro v ow G2 ⟨rfl,rfl⟩ ai
 repeat (first|refine RUN ?_|refine CV (aQ) ?_|refine CE (aQ) ?_)
 rfl
theorem RV:∀l:List Int,oneB (l.map iv)=true
 | []=>rfl
 | _::l=>by rw[qx];unfold oneB;rw[RV l];rfl
theorem RL.nil (H:Hp) (a:Option Addr) (c:Nat):RL H (.slice a 0 c) []:=(RVs.nil H).rl ⟨rfl,.inl ⟨rfl,_,_,rfl⟩⟩
theorem IL.nil (H:Hp) (a:Option Addr) (c:Nat):IL H (.slice a 0 c) []:=⟨rfl,.inl ⟨rfl,_,_,rfl⟩⟩
theorem zo0 {H:Hp} {v:Value} {l:List Int} (h:IL H v l) (h0:0<l.length) (hl:l.length<=1000):PW prog 235 #[v] H [] fun r ow _=>aF 3 1 r l.length (l.map iv) ow:=by
 have hs:=h.2;rcases hs with ⟨e,_⟩ | ⟨b,off,cap,c,rfl,_⟩
 ·omega
 ·refine PW.body tO func235 Z kR ntmps235 Z Z ?_;refine uR ?_;refine EVL.eqnil tO Z Z Z Z Z Z Z ?_;refine uR ?_;refine EVL.lit0 tO Z Z Z Z Z Z Z fun g0=>?_;refine uR ?_;refine EVL.append tO Z Z Z Z Z Z Z Z Z Z Z Z [] [(g0,3,[])] [] Z (aF.full (m:=0) rfl oM) (iJ.ro h h0) (RV l) oM ?_;intro v1 bS aE;refine uR ?_;rw[qu]at aE;rw[qG];exact aE
theorem zny {H:Hp} {v:Value} (h:IL H v []):PC prog 235 #[v] H fun r _=>∃a cap,r=.slice a 0 cap:=by
 obtain⟨a,cap,rfl⟩:=SlC.val h;refine BD func235 ntmps235 ?_;refine uR ?_;refine EVL.eqnil tO Z Z Z Z Z Z Z ?_
 cases a with
 | none =>
  refine uR ?_;exact⟨_,_,rfl⟩
 | some x =>
  refine uR ?_;refine EVL.lit0 tO Z Z Z Z Z Z Z fun g0=>?_;refine uR ?_;refine EVL.append0 tO Z Z Z Z Z Z Z Z Z (qH _) ?_;refine uR ?_;exact⟨_,_,rfl⟩
theorem zl6 {H:Hp} (a:Option Addr) (cap:Nat) (Hc:Value):PC prog 236 #[.slice a 0 cap,Hc] H fun v _=>v=.tuple #[]:=by
 have aK:PC prog 248 #[.slice a 0 cap,.int .i64 0,Hc] H fun v _=>v=.tuple #[]:=by
  have bF:∀G:Hp,PC prog 253 #[.slice a 0 cap,.int .i64 0,.int .i64 0,Hc] G fun v _=>v=.tuple #[]:=fun G=>by
   refine BD func253 ntmps253 ?_;refine uR ?_;refine EV.loopK (ι:=Unit) [] [] (fun q=>[(2,.v (.int .i64 0)),(8,.v (.int .i64 1))]) (fun _=>[]) (fun _=>[]) (fun _ _=>True) (fun _=>0) (()) Z Z ⟨Z,Z,trivial⟩ trivial rfl (fun _=>rfl) (trivial) ?_;rintro⟨⟩ G1 aj _;refine uR ?_;rfl
  refine BD func248 ntmps248 ?_;refine uR ?_;refine EV.loopK (ι:=Unit) [0,1,2,6] [] (fun q=>[(7,.v (.int .i64 0)),(8,.v (.int .i64 20))]) (fun _=>[]) (fun _=>[]) (fun _ _=>True) (fun _=>0) (()) Z Z ⟨Z,Z,trivial⟩ trivial rfl (fun _=>rfl) (trivial) ?_;rintro⟨⟩ G1 aj _;refine uR ?_;refine vA (bF _) ?_;rintro r G2 rfl ai;refine uR ?_;refine EV.loopK (ι:=Unit) [1] [] (fun q=>[(6,.v (.int .i64 20))]) (fun _=>[]) (fun _=>[]) (fun _ _=>True) (fun _=>0) (()) Z Z ⟨Z,trivial⟩ trivial rfl (fun _=>rfl) (trivial) ?_;rintro⟨⟩ G3 ax _;refine uR ?_;rfl
 refine BD func236 ntmps236 ?_;refine uR ?_;refine vA (aK) ?_;rintro r G2 rfl ai;refine uR ?_;rfl
def BQ (X:List (List Rat)) (col:Int) (rs m:List Int):Prop:=(rs.all (cY X col)=true/\m.Perm rs/\iT (bD X col) m)\/(rs.all (cY X col)=false/\m=[])
theorem zqv {H:Hp} {vx vr:Value} {X:List (List Rat)} {rs:List Int} {col:Int} (hX:QLL H vx X) (hr:IL H vr rs) (hn:rs.length<=20) (eZ:∀r,r∈rs->0<=r/\r<(X.length:Int)) (eS:∀x,x∈X->∀q,q∈x->sm q) :
  PC prog 227 #[vx,vr,.int .i64 col] H fun r H'=>∃m,IL H' r m/\BQ X col rs m:=by
 obtain⟨a,cap,rfl⟩:=SlC.val hr;obtain⟨xa,xc,rfl⟩:=hX.val;refine BD func227 ntmps227 ?_;refine uR ?_;refine EV.loopK (ι:=Nat) [1,3,5,10,11] [3,5] (fun i=>[(12,.v (.int .i64 (i:Int)))]) (fun _=>[]) (fun _=>[]) (fun i _=>i<=rs.length/\∀r,r∈rs.take i->cY X col r=true) (fun i=>rs.length-i) (0) Z Z ⟨Z,trivial⟩ trivial rfl (fun _=>rfl) (⟨qQ _,by simp⟩) ?_;rintro i G1 aj ⟨hi,av⟩;refine uR ?_;refine EV.cond Z (fun af=>?_) (fun af=>?_)
 ·simp only[nN]at af;obtain⟨r,bB⟩:=gE af;have hb:=eZ r (qF bB);obtain⟨R,rfl⟩:=qh hb.1;obtain⟨x,hx⟩:∃x,X[R]?=some x:=⟨_,qA oM⟩;have iF:R<X.length:=oM;obtain⟨vs,aG,hs⟩:=hX.mono aj;obtain⟨a1,c1,hu,hQ⟩:=aG.at hx
  have fG:cY X col (R:Int)=(decide (0<=col) && decide (col<(x.length:Int))):=by
   unfold cY;rw[qU,qB,hx];rfl
  have bF:cY X col (R:Int)=false->rs.all (cY X col)=false:=fun h=>by
   rw[List.all_eq_false];exact⟨_,qF bB,by rw[h];decide⟩
  refine uR ?_;refine vI ((hr.mono aj)) (i) (rfl) (af) ((by rw[qK,bB];rfl)) ?_;refine uR ?_;by_cases hc:col<0
  ·apply EV.drawn 11 kR kR;intro xv yw;(repeat refine' DD ?_);rw[qD hc];(repeat refine' DD ?_);(refine DJ.nil (fun G1 aj gV=>?_);(case hS|hS2=>rfl));refine uR ?_;exact⟨[],IL.nil _ _ _,.inr ⟨bF (by rw[fG];simp;omega),rfl⟩⟩
  ·apply EV.drawn 11 kR kR;intro xv yw;(repeat refine' DD ?_);rw[qC hc];(repeat refine' DD ?_);refine' vJ (hs) (R) (rfl) (iF) (hu) ?_;rotate_left;(repeat refine' DD ?_);(refine DJ.nil (fun G1 aj gV=>?_);(case hS|hS2=>rfl));refine uR ?_;by_cases cM:col>=(x.length:Int)
   ·rw[qD cM];refine uR ?_;exact⟨[],IL.nil _ _ _,.inr ⟨bF (by rw[fG];simp;omega),rfl⟩⟩
   ·rw[qC cM];refine uR ?_;refine⟨i+1,⟨?_,trivial⟩,sB,trivial,sB,rfl,⟨af,fun z hz=>?_⟩,by assumption,by omega⟩
    ·rw[aO i (by omega)];rfl
    ·rw[dZ bB]at hz;rcases List.mem_append.1 hz with hz | hz
     ·exact av z hz
     ·rw[pK.1 hz,fG];simp;omega
 ·simp only[nN]at af;obtain rfl:i=rs.length:=oM;rw[qa]at av;have zg:rs.all (cY X col)=true:=List.all_eq_true.2 av;refine uR ?_;(first|refine EVL.unbox (3) Z fun bx=>?_|refine EV.unbox (3) Z fun bx=>?_);(first|refine EVL.unbox (5) Z fun bc=>?_|refine EV.unbox (5) Z fun bc=>?_);(first|refine EVL.publish [] [(bx,_,_)] Z fun G2 ai WJ=>?_|refine EV.publish [] [(bx,_,_)] Z fun G2 ai WJ=>?_);(first|refine EVL.publish [] [] Z fun G3 ax dt=>?_|refine EV.publish [] [] Z fun G3 ax dt=>?_);have hXG:=hX.mono (aj.trans (ai.trans ax));have PJ:=ax _ _ WJ;have V1:=hr.mono (aj.trans (ai.trans ax));by_cases h0:rs.length=0
  ·obtain rfl:=pJ.1 h0;refine vA (zny V1) ?_;rintro r G4 ⟨a4,c4,rfl⟩ aT;refine uR ?_;refine EVL.fn2 Z Z Z Z Z Z ?_;refine vA (zl6 a4 c4 _) ?_;rintro r G5 rfl bj;refine uR ?_;exact⟨[],IL.nil _ _ _,.inl ⟨zg,List.Perm.refl _,List.Pairwise.nil⟩⟩
  ·refine EVL.callW Z Z Z Z Z ([]) ([]) Z (zo0 V1 oM oM) ?_;rintro r ow G4 ah aT;obtain⟨g,c4,sp,rfl,rfl,FL,hm4,NB⟩:=ah.block oM;refine uR ?_;refine EVL.fn2 Z Z Z Z Z Z ?_;refine vW ([(g,3,rs.map iv++sp)]) ([]) (zow (f:=237) (cs:=[.pointer (some ⟨bx,0,none⟩),.pointer (some ⟨bc,0,none⟩)]) (key:=bD X col) hn (cO func237) (fun G hG x y hx hy=>zo2 (hXG.mono (aT.trans hG)) ((aT.trans hG) _ _ dt) ((aT.trans hG) _ _ PJ) eS (eZ x hx).1 (eZ x hx).2 (eZ y hy).1 (eZ y hy).2 (av x hx) (av y hy))) ?_;rintro v ow G5 ⟨rfl,m,rfl,hp,cT⟩ bj;have gS:=hp.length_eq;have aD:aF 3 1 (.slice (some ⟨g,0,none⟩) m.length c4) m.length (m.map iv) [(g,3,m.map iv++sp)]:=⟨by simp,.inr ⟨g,c4,sp,rfl,rfl,by rw[<-FL];simp[gS],by omega,NB⟩⟩;rw[<-gS];(first|refine EVL.publishL [] [(g,3,m.map iv++sp)] [] (rfl) aD fun G6 bu CM=>?_|refine EV.publishL [] [(g,3,m.map iv++sp)] [] (rfl) aD fun G6 bu CM=>?_);refine uR ?_;exact⟨m,CM,.inl ⟨zg,hp,cT⟩⟩
theorem zpw (a b:Rat) (ha:ht a<=100000) (hb:ht b<=100000):PV prog 229 #[aC a,aC b] (aC ((a+b) / 2)):=by
 refine PV.of_pc ?_;have h1:=pB a b
 have h2:ht ((2:Int):Rat)<=10:=by
  have:=ie 2;have h2:bl (2:Int).natAbs<=5:=cf (by decide);omega
 have cE:=ye a b (bE ha oM) (bE hb oM);have eT:=np 2 oM oM;have hdiv:=DG (a+b) ((2:Int):Rat) (bE h1 oM) (bE h2 oM) (by decide);rw[show ((2:Int):Rat)=2 from rfl]at hdiv eT;refine BD func229 ntmps229 ?_
 repeat (first|refine RUN ?_|refine CV (cE) ?_|refine CV (eT) ?_|refine CV (hdiv) ?_|refine CE (cE) ?_|refine CE (eT) ?_|refine CE (hdiv) ?_)
 rfl
theorem Ih {a b:Rat} (h:a<=b):bI a b<=0:=by
 unfold bI;split
 ·omega
 ·split
  ·rename_i k;exact absurd k (Rat.not_lt.2 h)
  ·omega
def aR (X:List (List Rat)) (col:Int) (t:Rat) (es:List Int):List Int:=es.filter fun r=>cY X col r && decide (bD X col r<=t)
def bf (X:List (List Rat)) (col:Int) (t:Rat) (es:List Int):List Int:=es.filter fun r=>cY X col r && !decide (bD X col r<=t)
theorem UL {p:Int->Bool} {es:List Int} {i:Nat} {r:Int} (h:es[i]?=some r):(es.take (i+1)).filter p=(es.take i).filter p++if p r then [r] else []:=by
 rw[dZ h,List.filter_append];cases hp:p r <;> simp[hp]
theorem zr6 {H:Hp} {vx vr:Value} {X:List (List Rat)} {rs:List Int} {col:Int} {t:Rat} (hX:QLL H vx X) (hr:IL H vr rs) (hn:rs.length<=100000) (eS:∀x,x∈X->∀q,q∈x->sm q) (ht:sm t) :
  PC prog 162 #[vx,vr,.int .i64 col,aC t] H fun r H'=>∃u w,r=.tuple #[u,w]/\IL H' u (aR X col t (exL rs X.length))/\IL H' w (bf X col t (exL rs X.length)):=by
 obtain⟨a,cap,rfl⟩:=SlC.val hr;obtain⟨xa,xc,rfl⟩:=hX.val;refine BD func162 ntmps162 ?_;refine uR ?_;refine EVL.call Z Z Z Z Z (Eh hr oM X.length) ?_;intro r1 G0 he zp;have jl:=kU rs X.length;have mm:=uf (rs:=rs) (n:=X.length);generalize exL rs X.length=es at *
 obtain⟨a1,c1,rfl⟩:=SlC.val he;refine uR ?_;refine EV.loopK (ι:=Nat × Value × Value × Ows × Ows) [0,2,7,15,16] [7] (fun q=>[(8,.v q.2.1),(9,.v q.2.2.1),(17,.v (.int .i64 (q.1:Int)))]) (fun _=>[]) (fun q=>q.2.2.2.1++q.2.2.2.2) (fun q _=>q.1<=es.length/\aF 3 1 q.2.1 (aR X col t (es.take q.1)).length ((aR X col t (es.take q.1)).map iv) q.2.2.2.1/\aF 3 1 q.2.2.1 (bf X col t (es.take q.1)).length ((bf X col t (es.take q.1)).map iv) q.2.2.2.2) (fun q=>es.length-q.1) ((0,.slice none 0 0,.slice none 0 0,[],[])) Z Z ⟨Z,Z,Z,trivial⟩ trivial rfl (fun _=>rfl) (⟨qQ _,aF.nil _ _,aF.nil _ _⟩) ?_;rintro⟨i,w1,w2,bS,cC⟩ G1 aj ⟨hi,aE,aD⟩;dsimp only at hi aE aD;obtain⟨Vo,Vm,rfl⟩:=aE.val;obtain⟨Vn,Vl,rfl⟩:=aD.val;refine uR ?_;refine EV.cond Z (fun af=>?_) (fun af=>?_)
 ·simp only[nN]at af;obtain⟨r,bB⟩:=gE af;have hb:=mm r (qF bB);obtain⟨R,rfl⟩:=qh hb.1;obtain⟨x,hx⟩:∃x,X[R]?=some x:=⟨_,qA oM⟩;have iF:R<X.length:=oM;obtain⟨vs,aG,hs⟩:=hX.mono (zp.trans aj);obtain⟨a2,c2,hu,hQ⟩:=aG.at hx;have cF:=UL (p:=fun r=>cY X col r && decide (bD X col r<=t)) bB;have cJ:=UL (p:=fun r=>cY X col r && !decide (bD X col r<=t)) bB
  have fG:cY X col (R:Int)=(decide (0<=col) && decide (col<(x.length:Int))):=by
   unfold cY;rw[qU,qB,hx];rfl
  have ew:(aR X col t (es.take i)).length<=i:=qI (List.length_filter_le _ _) (by rw[qP];omega);have eH:(bf X col t (es.take i)).length<=i:=qI (List.length_filter_le _ _) (by rw[qP];omega);have wn:IntKind.i64.wrap ((i:Int)+1)=((i+1:Nat):Int):=aO i oM;refine uR ?_;refine vI ((he.mono aj)) (i) (rfl) (af) ((by rw[qK,bB];rfl)) ?_;refine uR ?_;by_cases hc:col<0
  ·have bF:cY X col (R:Int)=false:=by rw[fG];simp;omega
   rw[bF,Bool.false_and,if_neg (by decide),qG]at cF cJ;rw[qD hc];refine uR ?_;refine⟨(i+1,_,_,bS,cC),⟨rfl,rfl,?_,trivial⟩,sB,trivial,sB,rfl,⟨af,by unfold aR;rw[cF];exact aE,by unfold bf;rw[cJ];exact aD⟩,Hp.Le.refl _,by dsimp only;omega⟩;rw[wn];rfl
  ·rw[qC hc];refine uR ?_;refine vI (hs) (R) (rfl) (iF) (hu) ?_;refine uR ?_;by_cases cM:col>=(x.length:Int)
   ·have bF:cY X col (R:Int)=false:=by rw[fG];simp;omega
    rw[bF,Bool.false_and,if_neg (by decide),qG]at cF cJ;rw[qD cM];refine uR ?_;refine⟨(i+1,_,_,bS,cC),⟨rfl,rfl,?_,trivial⟩,sB,trivial,sB,rfl,⟨af,by unfold aR;rw[cF];exact aE,by unfold bf;rw[cJ];exact aD⟩,Hp.Le.refl _,by dsimp only;omega⟩;rw[wn];rfl
   ·have iZ:cY X col (R:Int)=true:=by rw[fG];simp;omega
    obtain⟨R',C,x',q,hRR,rfl,hx',hq⟩:=zL hb.1 hb.2 iZ;obtain rfl:R=R':=oM;rw[hx]at hx';cases hx';have hk:=zM (X:=X) Z Z hx hq;have cr:SlC G1 (.slice a2 x.length c2) x.length 5 (x.flatMap fun q=>aB (aC q)):=hQ;have GI:=(qE.1 hq).1;have aS:=pC q t (eS x (qF hx) q (qF hq)) ht;rw[iZ,Bool.true_and,hk]at cF cJ;rw[qC cM];refine uR ?_;apply EV.drawn 8 kR kR;intro xv yw;(repeat refine' DD ?_);refine' vJ (hs) (R) (rfl) (iF) (hu) ?_;rotate_left;(repeat refine' DD ?_);refine' DJ.idxM tO Z Z Z Z Z Z Z Z Z (cr) (C) (rfl) (GI) (QL.at (H:=H) (v:=.bool true) hq) ?_;rotate_left;(repeat refine' DD ?_);(refine DJ.nil (fun G2 ai fN=>?_);(case hS|hS2=>rfl))
    repeat (first|refine RUN ?_|refine CV (aS) ?_|refine CE (aS) ?_)
    by_cases hle:q<=t
    ·have ho:bI q t<=0:=Ih hle;rw[qD hle,if_pos rfl]at cF;rw[qD hle,if_neg (by decide),qG]at cJ;rw[qD ho];refine uR ?_;refine EVL.app1 tO Z Z Z Z Z Z Z Z Z Z Z Z Z Z Z Z Z Z Z (fun _=>rfl) (bS) (cC) (rfl) (aE) oM fun _=>?_;intro v' au ao;refine uR ?_;refine⟨(i+1,v',_,au,cC),⟨rfl,rfl,?_,trivial⟩,sB,trivial,sB,rfl,⟨af,by unfold aR;rw[cF];exact ao.il,by unfold bf;rw[cJ];exact aD⟩,by assumption,by dsimp only;omega⟩;rw[wn];rfl
    ·have ho:¬bI q t<=0:=by
      have:=Rat.not_le.1 hle;unfold bI;rw[if_neg (fun k=>absurd (Rat.le_of_lt k) (Rat.not_le.2 this)),if_pos this];omega
     rw[qC hle,if_neg (by decide),qG]at cF;rw[qC hle,Bool.not_false,if_pos rfl]at cJ;rw[qC ho];refine uR ?_;refine EVL.swapOw bS cC Z ?_;refine EVL.app1 tO Z Z Z Z Z Z Z Z Z Z Z Z Z Z Z Z Z Z Z (fun _=>rfl) (cC) (bS) (rfl) (aD) oM fun _=>?_;intro v' au ao;refine EVL.swapOw au bS Z ?_;refine uR ?_;refine⟨(i+1,_,v',bS,au),⟨rfl,rfl,?_,trivial⟩,sB,trivial,sB,rfl,⟨af,by unfold aR;rw[cF];exact aE,by unfold bf;rw[cJ];exact ao.il⟩,by assumption,by dsimp only;omega⟩;rw[wn];rfl
 ·simp only[nN]at af;obtain rfl:i=es.length:=oM;rw[qa]at aE aD ⊢;(first|refine EVL.publishL [] bS cC (rfl) aE fun G2 ai cr=>?_|refine EV.publishL [] bS cC (rfl) aE fun G2 ai cr=>?_);(first|refine EVL.publishL [] cC [] ((qG _).symm) aD fun G3 ax jA=>?_|refine EV.publishL [] cC [] ((qG _).symm) aD fun G3 ax jA=>?_);refine uR ?_;exact⟨_,_,rfl,cr.mono ax,jA⟩
section
variable {pre S S' post vs:List Value} {k:Nat}
theorem kV (h:pre.length=k) (j s:Nat) (hj:j+s<=S.length) (hv:(S.drop j).take s=vs):((pre++(S++post)).drop (k+j)).take s=vs:=by
 rw[<-List.drop_drop,List.drop_left' h,List.drop_append_of_le_length oM,List.take_append_of_le_length (by rw[qt];omega),hv]
theorem II (h:pre.length=k) (i j s:Nat) (hj:i+j+s<=S.length) (hv:(S.drop (i+j)).take s=vs):((pre++(S++post)).drop (k+i+j)).take s=vs:=by
 rw[Nat.add_assoc];exact kV h (i+j) s hj hv
theorem vR (h:pre.length=k) (j s:Nat) (hj:j+s<=S.length) (hv:S.take j++vs++S.drop (j+s)=S'):(pre++(S++post)).take (k+j)++vs++(pre++(S++post)).drop (k+j+s)=pre++(S'++post):=by
 subst h;rw[<-hv,List.take_append,qO oM,show pre.length+j-pre.length=j by omega,List.take_append_of_le_length oM,Nat.add_assoc,<-List.drop_drop,List.drop_left,List.drop_append_of_le_length (by omega)];simp only[qZ]
theorem TO (h:pre.length=k) (i j s:Nat) (hj:i+j+s<=S.length) (hv:S.take (i+j)++vs++S.drop (i+j+s)=S'):(pre++(S++post)).take (k+i+j)++vs++(pre++(S++post)).drop (k+i+j+s)=pre++(S'++post):=by
 rw[Nat.add_assoc k i j];exact vR h (i+j) s hj hv
theorem yr (h:pre.length=k) {j s:Nat} (hj:j+s<=S.length):k+j+s<=(pre++(S++post)).length:=by
 rw[qJ,qJ];omega
theorem SE (h:pre.length=k) {i j s:Nat} (hj:i+j+s<=S.length):k+i+j+s<=(pre++(S++post)).length:=by
 rw[qJ,qJ];omega
end
section
variable {H:Hp} {b k:Nat} {T:TypeId} {pre post:List Value} (hk:pre.length=k)
include hk
theorem ZH {cl:Int} {la:Option Addr} {ln lc:Nat} {va:Option Addr} {vc:Nat} {vals:List Rat} (hv:QL H (.slice va vals.length vc) vals) {r n:Nat} (hn:n<=1000000) {x q:Rat} (hr:vals[r]?=some x) (hx:sm x) (hq:sm q) {cs:List Int} (hc:cs.length=12) {sq:Int} :
  PW prog 223 #[.pointer (some ⟨b,k,none⟩),bG 2 cl (.slice la ln lc) (.slice va vals.length vc),.int .i64 (r:Int)] H [(b,T,pre++(bP n cs sq q++post))] fun v ow _=>v=.tuple #[]/\ow=[(b,T,pre++(bP ((n+1:Nat):Int) cs sq (q+x)++post))]:=by
 have cE:=ye q x hq hx;have hlen:=ij (n:=(n:Int)) (cs:=cs) (sq:=sq) (q:=q) hc;have sP:=ij (n:=((n+1:Nat):Int)) (cs:=cs) (sq:=sq) (q:=q) hc;obtain⟨ft,_⟩:=qE.1 hr;have hs:SlC H (.slice va vals.length vc) vals.length 5 (vals.flatMap fun q=>aB (aC q)):=hv;refine PW.body tO func223 Z kR ntmps223 Z Z ?_;refine uR ?_;refine RP ?_;refine EVL.loadOwn tO Z Z Z Z Z Z (0) Z (kV hk 0 1 oM nv) Z Z ?_;refine RP ?_;rw[show IntKind.i64.wrap ((n:Int)+1)=((n+1:Nat):Int) by rw[pL];omega];refine EVL.storeOwn tO Z Z Z Z Z Z ([]) ([]) Z Z Z Z ((yr hk (j:=0) (s:=1) oM)) (vR hk 0 1 oM Co) ?_;refine uR ?_;apply EV.drawn 11 kR kR;intro xv yw;(repeat (first|refine' DD ?_|refine' vN ?_|refine' vF ?_));refine' DJ.ofVal (az.loadOwn tO Z Z Z Z (0) Z (kV hk 14 5 oM (DR hc)) Z Z) Z Z Z ?_;rotate_left;(repeat (first|refine' DD ?_|refine' vN ?_|refine' vF ?_));refine' DJ.idxM tO Z Z Z Z Z Z Z Z Z (hs) (r) (rfl) (ft) (QL.at (H:=H) (v:=.bool true) hr) ?_;rotate_left;(repeat (first|refine' DD ?_|(refine' DC (cE) (h:=?_);rotate_left)));(refine DJ.nil (fun G1 aj gV=>?_);(case hS|hS2=>rfl));refine RP ?_;refine EVL.storeOwn tO Z Z Z Z Z Z ([]) ([]) Z Z Z Z ((yr hk (j:=14) (s:=5) oM)) (vR hk 14 5 oM (MM hc)) ?_;refine uR ?_;exact⟨rfl,rfl⟩
theorem Z1 {cl:Int} {la:Option Addr} {ln lc:Nat} {va:Option Addr} {vc:Nat} {vals:List Rat} (hv:QL H (.slice va vals.length vc) vals) {r n:Nat} (hn:n<=1000000) {x q:Rat} (hr:vals[r]?=some x) (hx:sm x) (hq:sm q) {cs:List Int} (hc:cs.length=12) {sq:Int} :
  PW prog 238 #[.pointer (some ⟨b,k,none⟩),bG 2 cl (.slice la ln lc) (.slice va vals.length vc),.int .i64 (r:Int)] H [(b,T,pre++(bP ((n+1:Nat):Int) cs sq q++post))] fun v ow _=>v=.tuple #[]/\ow=[(b,T,pre++(bP (n:Int) cs sq (q-x)++post))]:=by
 have aQ:=zG q x hq hx;have hlen:=ij (n:=(n:Int)) (cs:=cs) (sq:=sq) (q:=q) hc;have sP:=ij (n:=((n+1:Nat):Int)) (cs:=cs) (sq:=sq) (q:=q) hc;obtain⟨ft,_⟩:=qE.1 hr;have hs:SlC H (.slice va vals.length vc) vals.length 5 (vals.flatMap fun q=>aB (aC q)):=hv;refine PW.body tO func238 Z kR ntmps238 Z Z ?_;refine uR ?_;refine RP ?_;refine EVL.loadOwn tO Z Z Z Z Z Z (0) Z (kV hk 0 1 oM nv) Z Z ?_;refine RP ?_;rw[show IntKind.i64.wrap (((n+1:Nat):Int)-1)=(n:Int) by rw[pL];omega];refine EVL.storeOwn tO Z Z Z Z Z Z ([]) ([]) Z Z Z Z ((yr hk (j:=0) (s:=1) oM)) (vR hk 0 1 oM Co) ?_;refine uR ?_;apply EV.drawn 11 kR kR;intro xv yw;(repeat (first|refine' DD ?_|refine' vN ?_|refine' vF ?_));refine' DJ.ofVal (az.loadOwn tO Z Z Z Z (0) Z (kV hk 14 5 oM (DR hc)) Z Z) Z Z Z ?_;rotate_left;(repeat (first|refine' DD ?_|refine' vN ?_|refine' vF ?_));refine' DJ.idxM tO Z Z Z Z Z Z Z Z Z (hs) (r) (rfl) (ft) (QL.at (H:=H) (v:=.bool true) hr) ?_;rotate_left;(repeat (first|refine' DD ?_|(refine' DC (aQ) (h:=?_);rotate_left)));(refine DJ.nil (fun G1 aj gV=>?_);(case hS|hS2=>rfl));refine RP ?_;refine EVL.storeOwn tO Z Z Z Z Z Z ([]) ([]) Z Z Z Z ((yr hk (j:=14) (s:=5) oM)) (vR hk 14 5 oM (MM hc)) ?_;refine uR ?_;exact⟨rfl,rfl⟩
theorem ZJ {cl:Int} {va:Option Addr} {vn vc:Nat} {la:Option Addr} {lc:Nat} {ls:List Int} (hv:IL H (.slice la ls.length lc) ls) {r n:Nat} (hn:n<=1000000) {j m sq:Nat} (hr:ls[r]?=some (j:Int)) (hj:j<12) {cs:List Int} (hc:cs.length=12) (hm:cs[j]?=some (m:Int)) (Wd:m<=1000000) (dI:sq<=10000000000000) {q:Rat} :
  PW prog 223 #[.pointer (some ⟨b,k,none⟩),bG 1 cl (.slice la ls.length lc) (.slice va vn vc),.int .i64 (r:Int)] H [(b,T,pre++(bP n cs sq q++post))] fun v ow _=>v=.tuple #[]/\ow=[(b,T,pre++(bP ((n+1:Nat):Int) (cs.set j ((m+1:Nat):Int)) ((sq+2*m+1:Nat):Int) q++post))]:=by
 have hlen:=ij (n:=(n:Int)) (cs:=cs) (sq:=(sq:Int)) (q:=q) hc;have sP:=ij (n:=((n+1:Nat):Int)) (cs:=cs) (sq:=(sq:Int)) (q:=q) hc;have FH:=ij (n:=((n+1:Nat):Int)) (cs:=cs) (sq:=((sq+2*m+1:Nat):Int)) (q:=q) hc;obtain⟨ft,_⟩:=qE.1 hr
 have w1:IntKind.i64.wrap ((sq:Int)+IntKind.i64.wrap (IntKind.i64.wrap (2*(m:Int))+1))=((sq+2*m+1:Nat):Int):=by
  rw[show IntKind.i64.wrap (2*(m:Int))=2*(m:Int) by rw[pL];omega,show IntKind.i64.wrap (2*(m:Int)+1)=2*(m:Int)+1 by rw[pL];omega,pL];omega
 have w2:IntKind.i64.wrap ((m:Int)+1)=((m+1:Nat):Int):=by rw[pL];omega
 refine PW.body tO func223 Z kR ntmps223 Z Z ?_;refine uR ?_;refine RP ?_;refine EVL.loadOwn tO Z Z Z Z Z Z (0) Z (kV hk 0 1 oM nv) Z Z ?_;refine RP ?_;rw[show IntKind.i64.wrap ((n:Int)+1)=((n+1:Nat):Int) by rw[pL];omega];refine EVL.storeOwn tO Z Z Z Z Z Z ([]) ([]) Z Z Z Z ((yr hk (j:=0) (s:=1) oM)) (vR hk 0 1 oM Co) ?_;refine uR ?_;refine vI (hv) (r) (rfl) (ft) ((by rw[qK,hr];rfl)) ?_;refine uR ?_;apply EV.drawn 13 kR kR;intro xv yw;(repeat (first|refine' DD ?_|refine' vN ?_|refine' vF ?_));refine' DJ.ofVal (az.loadOwn tO Z Z Z Z (0) Z (kV hk 13 1 oM (B9 hc)) Z Z) Z Z Z ?_;rotate_left;(repeat (first|refine' DD ?_|refine' vN ?_|refine' vF ?_));refine' DJ.idxA tO Z Z Z Z (vK) Z Z Z Z (j) (rfl) (hj) ?_;rotate_left;refine' DJ.ofVal (az.loadOwn tO Z Z Z Z (0) Z (II hk 1 j 1 oM (DI hm)) Z Z) Z Z Z ?_;rotate_left;(repeat (first|refine' DD ?_|refine' vN ?_|refine' vF ?_));(refine DJ.nil (fun G1 aj gV=>?_);(case hS|hS2=>rfl));rw[w1];refine RP ?_;refine EVL.storeOwn tO Z Z Z Z Z Z ([]) ([]) Z Z Z Z ((yr hk (j:=13) (s:=1) oM)) (vR hk 13 1 oM (Mx hc)) ?_;refine uR ?_;apply EV.drawn 10 kR kR;intro xv yw;(repeat (first|refine' DD ?_|refine' vN ?_|refine' vF ?_));refine' DJ.idxA tO Z Z Z Z (vK) Z Z Z Z (j) (rfl) (hj) ?_;rotate_left;refine' DJ.ofVal (az.loadOwn tO Z Z Z Z (0) Z (II hk 1 j 1 oM (DI hm)) Z Z) Z Z Z ?_;rotate_left;(repeat (first|refine' DD ?_|refine' vN ?_|refine' vF ?_));refine' DJ.idxA tO Z Z Z Z (vK) Z Z Z Z (j) (rfl) (hj) ?_;rotate_left;(refine DJ.nil (fun G2 ai fN=>?_);(case hS|hS2=>rfl));rw[w2];refine RP ?_;refine EVL.storeOwn tO Z Z Z Z Z Z ([]) ([]) Z Z Z Z ((SE hk (i:=1) (j:=j) (s:=1) oM)) (TO hk 1 j 1 oM (My _ (show j<cs.length by omega))) ?_;refine uR ?_;exact⟨rfl,rfl⟩
theorem Z2 {cl:Int} {va:Option Addr} {vn vc:Nat} {la:Option Addr} {lc:Nat} {ls:List Int} (hv:IL H (.slice la ls.length lc) ls) {r n:Nat} (hn:n<=1000000) {j m sq:Nat} (hr:ls[r]?=some (j:Int)) (hj:j<12) {cs:List Int} (hc:cs.length=12) (hm:cs[j]?=some ((m+1:Nat):Int)) (Wd:m<=1000000) (dI:sq<=10000000000000) {q:Rat} :
  PW prog 238 #[.pointer (some ⟨b,k,none⟩),bG 1 cl (.slice la ls.length lc) (.slice va vn vc),.int .i64 (r:Int)] H [(b,T,pre++(bP ((n+1:Nat):Int) cs ((sq+2*m+1:Nat):Int) q++post))] fun v ow _=>v=.tuple #[]/\ow=[(b,T,pre++(bP (n:Int) (cs.set j (m:Int)) (sq:Int) q++post))]:=by
 have bC:(cs.set j (m:Int)).length=12:=by rw[List.length_set,hc]
 have hlen:=ij (n:=(n:Int)) (cs:=cs) (sq:=((sq+2*m+1:Nat):Int)) (q:=q) hc;have sP:=ij (n:=((n+1:Nat):Int)) (cs:=cs) (sq:=((sq+2*m+1:Nat):Int)) (q:=q) hc;have FH:=ij (n:=(n:Int)) (cs:=cs.set j (m:Int)) (sq:=((sq+2*m+1:Nat):Int)) (q:=q) bC;obtain⟨ft,_⟩:=qE.1 hr;have w2:IntKind.i64.wrap (((m+1:Nat):Int)-1)=(m:Int):=by rw[pL];omega
 have lz:(cs.set j (m:Int))[j]?=some (m:Int):=by rw[List.getElem?_set_self (by omega)]
 have w1:IntKind.i64.wrap (((sq+2*m+1:Nat):Int)-IntKind.i64.wrap (IntKind.i64.wrap (2*(m:Int))+1))=(sq:Int):=by
  rw[show IntKind.i64.wrap (2*(m:Int))=2*(m:Int) by rw[pL];omega,show IntKind.i64.wrap (2*(m:Int)+1)=2*(m:Int)+1 by rw[pL];omega,pL];omega
 refine PW.body tO func238 Z kR ntmps238 Z Z ?_;refine uR ?_;refine RP ?_;refine EVL.loadOwn tO Z Z Z Z Z Z (0) Z (kV hk 0 1 oM nv) Z Z ?_;refine RP ?_;rw[show IntKind.i64.wrap (((n+1:Nat):Int)-1)=(n:Int) by rw[pL];omega];refine EVL.storeOwn tO Z Z Z Z Z Z ([]) ([]) Z Z Z Z ((yr hk (j:=0) (s:=1) oM)) (vR hk 0 1 oM Co) ?_;refine uR ?_;refine vI (hv) (r) (rfl) (ft) ((by rw[qK,hr];rfl)) ?_;refine uR ?_;apply EV.drawn 10 kR kR;intro xv yw;(repeat (first|refine' DD ?_|refine' vN ?_|refine' vF ?_));refine' DJ.idxA tO Z Z Z Z (vK) Z Z Z Z (j) (rfl) (hj) ?_;rotate_left;refine' DJ.ofVal (az.loadOwn tO Z Z Z Z (0) Z (II hk 1 j 1 oM (DI hm)) Z Z) Z Z Z ?_;rotate_left;(repeat (first|refine' DD ?_|refine' vN ?_|refine' vF ?_));refine' DJ.idxA tO Z Z Z Z (vK) Z Z Z Z (j) (rfl) (hj) ?_;rotate_left;(refine DJ.nil (fun G2 ai fN=>?_);(case hS|hS2=>rfl));rw[w2];refine RP ?_;refine EVL.storeOwn tO Z Z Z Z Z Z ([]) ([]) Z Z Z Z ((SE hk (i:=1) (j:=j) (s:=1) oM)) (TO hk 1 j 1 oM (My _ (show j<cs.length by omega))) ?_;refine uR ?_;apply EV.drawn 13 kR kR;intro xv yw;(repeat (first|refine' DD ?_|refine' vN ?_|refine' vF ?_));refine' DJ.ofVal (az.loadOwn tO Z Z Z Z (0) Z (kV hk 13 1 oM (B9 bC)) Z Z) Z Z Z ?_;rotate_left;(repeat (first|refine' DD ?_|refine' vN ?_|refine' vF ?_));refine' DJ.idxA tO Z Z Z Z (vK) Z Z Z Z (j) (rfl) (hj) ?_;rotate_left;refine' DJ.ofVal (az.loadOwn tO Z Z Z Z (0) Z (II hk 1 j 1 oM (DI lz)) Z Z) Z Z Z ?_;rotate_left;(repeat (first|refine' DD ?_|refine' vN ?_|refine' vF ?_));(refine DJ.nil (fun G1 aj gV=>?_);(case hS|hS2=>rfl));rw[w1];refine RP ?_;refine EVL.storeOwn tO Z Z Z Z Z Z ([]) ([]) Z Z Z Z ((yr hk (j:=13) (s:=1) oM)) (vR hk 13 1 oM (Mx bC)) ?_;refine uR ?_;exact⟨rfl,rfl⟩
theorem zqS {n:Nat} {cs:List Int} (hc:cs.length=12) {sq:Nat} (wI:sq<=10000000000000) (hn:n<=1000000) {q:Rat} (hq:ht q<=1000000) :
  PW prog 200 #[.pointer (some ⟨b,k,none⟩),.int .i64 2] H [(b,T,pre++(bP n cs sq q++post))] fun v ow _=>v=aC (q*q / ((n:Int):Rat))/\ow=[(b,T,pre++(bP n cs sq q++post))]:=by
 have hlen:=ij (n:=(n:Int)) (cs:=cs) (sq:=(sq:Int)) (q:=q) hc;have mR:sm q:=bE hq oM;have hmul:=Du q q mR mR;have eT:=np (sq:Int) oM oM;have sD:=np (n:Int) oM oM;have hm:=pG q q
 have Fx:ht ((n:Int):Rat)<=100:=by
  have:=ie (n:Int);have h2:bl (n:Int).natAbs<=20:=cf oM;omega
 refine PW.body tO func200 Z kR ntmps200 Z Z ?_;refine uR ?_;refine RP ?_;refine EVL.loadOwn tO Z Z Z Z Z Z (0) Z (kV hk 0 1 oM nv) Z Z ?_;refine uR ?_;by_cases h0:n=0
 ·subst h0;rw[show (((0:Nat):Int) == 0)=true from rfl];refine uR ?_;rw[show (((0:Nat):Int):Rat)=0 from rfl,wu];exact⟨Cl.symm,rfl⟩
 ·have hdiv:=DG (q*q) ((n:Int):Rat) (bE hm oM) (bE Fx oM) (Je h0);rw[show ((n:Int) == 0)=false from pQ.2 (by omega)];refine uR ?_;refine RP ?_;refine EVL.loadOwn tO Z Z Z Z Z Z (0) Z (kV hk 13 1 oM (B9 hc)) Z Z ?_
  repeat (first|refine RUN ?_|refine CV (eT) ?_|refine CE (eT) ?_)
  apply EV.drawn 8 kR kR;intro xv yw;(repeat (first|refine' DD ?_|refine' vN ?_|refine' vF ?_));refine' DJ.ofVal (az.loadOwn tO Z Z Z Z (0) Z (kV hk 14 5 oM (DR hc)) Z Z) Z Z Z ?_;rotate_left;(repeat (first|refine' DD ?_|refine' vN ?_|refine' vF ?_));refine' DJ.ofVal (az.loadOwn tO Z Z Z Z (0) Z (kV hk 14 5 oM (DR hc)) Z Z) Z Z Z ?_;rotate_left;(repeat (first|refine' DD ?_|refine' vN ?_|refine' vF ?_));(refine DJ.nil (fun G1 aj gV=>?_);(case hS|hS2=>rfl))
  repeat (first|refine RUN ?_|refine CV (hmul) ?_|refine CE (hmul) ?_)
  refine uR ?_;apply EV.drawn 12 kR kR;intro xv yw;(repeat (first|refine' DD ?_|refine' vN ?_|refine' vF ?_));refine' DJ.ofVal (az.loadOwn tO Z Z Z Z (0) Z (kV hk 0 1 oM nv) Z Z) Z Z Z ?_;rotate_left;(repeat (first|refine' DD ?_|(refine' DC (sD) (h:=?_);rotate_left)|(refine' DC (hdiv) (h:=?_);rotate_left)));(refine DJ.nil (fun G2 ai fN=>?_);(case hS|hS2=>rfl));refine uR ?_;exact⟨rfl,rfl⟩
theorem zqQ {n:Nat} {cs:List Int} (hc:cs.length=12) {sq:Nat} (wI:sq<=10000000000000) (hn:n<=1000000) {q:Rat} :
  PW prog 200 #[.pointer (some ⟨b,k,none⟩),.int .i64 1] H [(b,T,pre++(bP n cs sq q++post))] fun v ow _=>v=aC (((sq:Int):Rat) / ((n:Int):Rat))/\ow=[(b,T,pre++(bP n cs sq q++post))]:=by
 have hlen:=ij (n:=(n:Int)) (cs:=cs) (sq:=(sq:Int)) (q:=q) hc;have eT:=np (sq:Int) oM oM;have sD:=np (n:Int) oM oM
 have Fx:ht ((n:Int):Rat)<=100:=by
  have:=ie (n:Int);have h2:bl (n:Int).natAbs<=20:=cf oM;omega
 have nF:ht ((sq:Int):Rat)<=100:=by
  have:=ie (sq:Int);have h2:bl (sq:Int).natAbs<=50:=cf oM;omega
 refine PW.body tO func200 Z kR ntmps200 Z Z ?_;refine uR ?_;refine RP ?_;refine EVL.loadOwn tO Z Z Z Z Z Z (0) Z (kV hk 0 1 oM nv) Z Z ?_;refine uR ?_;by_cases h0:n=0
 ·subst h0;rw[show (((0:Nat):Int) == 0)=true from rfl];refine uR ?_;rw[show (((0:Nat):Int):Rat)=0 from rfl,wu];exact⟨Cl.symm,rfl⟩
 ·have hdiv:=DG ((sq:Int):Rat) ((n:Int):Rat) (bE nF oM) (bE Fx oM) (Je h0);rw[show ((n:Int) == 0)=false from pQ.2 (by omega)];refine uR ?_;refine RP ?_;refine EVL.loadOwn tO Z Z Z Z Z Z (0) Z (kV hk 13 1 oM (B9 hc)) Z Z ?_
  repeat (first|refine RUN ?_|refine CV (eT) ?_|refine CE (eT) ?_)
  apply EV.drawn 12 kR kR;intro xv yw;(repeat (first|refine' DD ?_|refine' vN ?_|refine' vF ?_));refine' DJ.ofVal (az.loadOwn tO Z Z Z Z (0) Z (kV hk 0 1 oM nv) Z Z) Z Z Z ?_;rotate_left;(repeat (first|refine' DD ?_|(refine' DC (sD) (h:=?_);rotate_left)|(refine' DC (hdiv) (h:=?_);rotate_left)));(refine DJ.nil (fun G2 ai fN=>?_);(case hS|hS2=>rfl));refine uR ?_;exact⟨rfl,rfl⟩
end
theorem X3 {b:Nat} {c:Array Value} (h:gH b=some c):c.toList.length=64:=by
 unfold gH at h;split at h
 ·cases h;rfl
 ·cases h
section
variable {P:Program} {n:Nat} {ops:Array Oper} {o:Oper} {rest:List Oper} {env:Env} {bx:Bxs} {sb:Bxs} {ow:Ows} {H:Hs} {Q:EQ} {τ:Tab} {d:Nat} {s:SV}
theorem az.callR {f:FuncId} {args:Array Operand} {bW:Array TypeId} (ho:o.op=.call ⟨.value (.func f),args,bW⟩) (hw:aP ops env o=some true) {vs:List Value} (ha:dX env args.toList some=some vs) (jj:Nat) {b:Nat} {T:TypeId} {cs:List Value} (hj:ow[jj]?=some (b,T,cs)) (Qs:cs.length≠64)
  {v:Value} (hc:fQ P f) {F:Hp->Prop} {R:Hp} (hpc:∀G,PW P f vs.toArray G [(b,T,cs)] fun u au _=>u=v/\au=[(b,T,cs)]):az P ops o env bx ow R F (fun β u G=>(SV.v v).rep β G u):=fun β a W G hle hf hgl hb ah hs hF=>by
 obtain⟨aX,hk,hm⟩:=oz env _ _ _ ha;cases hk;have aG:=hm β G a.eval (fun y s hy=>hs.op (by simp[ho,Op.operands,Call.operands];exact .inr (by simpa using hy)));have hB:=ah jj b T cs hj
 have hg:gH b=none:=by
  cases nQ:gH b with
  | none=>rfl
  | some c =>
   obtain⟨T',fz,hW⟩:=hgl b c nQ;have Qq:W.heap[b]?=some (.cells cs.toArray T (0,0)):=hB;rw[Qq]at hW;cases hW;have:=X3 nQ;exact absurd (by simpa using this) Qs
 rw[if_pos (hs.want hw)];unfold Oper.wp;rw[yH hc ho aG,Oper.upon_enter];refine((hpc (fun k=>if k=b then none else G k)).run W (fun k c h=>hf k c (by first|(split at h <;> first|(cases h;done)|exact h))) hgl (fun j b' T' aq h=>?_) ?_).mono ?_
 ·cases j with
  | zero=>simp at h;obtain⟨rfl,rfl,rfl⟩:=h;exact⟨hB,if_pos Z,hg⟩
  | succ j=>simp at h
 ·intro j j' b' T1 T2 c1 c2 h1 h2
  cases j with
  | zero=>cases j' with
   | zero=>rfl
   | succ j'=>simp at h2
  | succ j=>simp at h1
 ·rintro e W' ⟨u,au,H',rfl,⟨rfl,rfl⟩,gT,jI,aL,hk,dF,_⟩;have rv:=(dF 0 b T cs rfl).1
  have kp:Below W.heap.size W W':=⟨hk.os,hk.tape,hk.output,hk.size,fun k af=>by
   by_cases e:k=b
   ·subst e;have h1:W.heap[k]?=some (.cells cs.toArray T (0,0)):=hB;have h2:W'.heap[k]?=some (.cells cs.toArray T (0,0)):=rv;rw[h1,h2]
   ·exact hk.block k af (by simp[Ows.bs];exact e)⟩
  exact⟨u,G,rfl,rfl,Hp.Le.refl G,hf.below kp,kp,Nw.refl _ _ _⟩
theorem Y0 {f:Fn} {x:Operand} (ho:o.op=.makeFunc f #[] #[x]) {u:Value} (hx:env.op x=some (.v u)) (ev:Operand->Value) (W:World) (he:∀y x,y∈o.op.operands->env.op y=some (.v x)->ev y=x) :
  (execOp ev o).run P W=.ok (.value (.func f #[] #[u])) W:=by
 have ex:=he x _ (by simp[ho,Op.operands]) hx;unfold execOp;simp[ho,ex,Instr.makeFunc]
theorem EVL.fn1 {f:Fn} {x:Operand} (ho:o.op=.makeFunc f #[] #[x]) (hw:aP ops env o=some true) (hd:o.dst=some d) (hn:Nat.blt d n=true) {u:Value} (hx:env.op x=some (.v u))
  (h:EVL P n ops rest ((d,.v (.func f #[] #[u]))::env) bx H Q):EVL P n ops (o::rest) env bx H Q:=EVL.gen hw hd hn (Y0 ho hx) h
theorem DJ.callR {tail l:List Oper} {x:Nat->Value} {y:Nat->Ows} {au:Ows} {kl ks:List DK} {i:Nat} {aw:Bxs} {Γ:fO} {f:FuncId} {args:Array Operand} {bW:Array TypeId} (ho:o.op=.call ⟨.value (.func f),args,bW⟩) (hw:aP ops env o=some true) (hd:o.dst=some d) (hn:Nat.blt d n=true)
  {vs:List Value} (ha:dX env args.toList some=some vs) (jj:Nat) {b:Nat} {T:TypeId} {cs:List Value} (hj:H.ow[jj]?=some (b,T,cs)) (Qs:cs.length≠64) {v:Value} (hc:fQ P f) (hpc:∀G,PW P f vs.toArray G [(b,T,cs)] fun u au _=>u=v/\au=[(b,T,cs)])
  (h:DJ P n ops tail sb bx H Q x y kl (i+1) l ks ((d,.v v)::env) aw Γ au):DJ P n ops tail sb bx H Q x y kl i (o::l) (.sv (.v v)::ks) env aw Γ au :=
 ⟨d,hd,hn,rfl,az.callR ho hw ha jj hj Qs hc hpc,h⟩
end
structure GOk (H:Hp) (kd cl:Int) (sl sv:Value) (N:Nat) (S:List Int->List Value) (wo:List Int->Rat):Prop where
 len:∀l,(S l).length=19
 form:∀l,∃(n:Int) (cs:List Int) (sq:Int) (q:Rat),cs.length=12/\S l=bP n cs sq q
 check:∀G,H.Le G->PC prog 125 #[bG kd cl sl sv] G fun r _=>r=.int .i64 0
 leng:PV prog 124 #[bG kd cl sl sv] (.int .i64 (N:Int))
 zero:S []=aa279.zero
 first:∀l,((S l).drop 0).take 1=[.int .i64 (l.length:Int)]
 whole:∀G,H.Le G->∀v l,IL G v l->l.length<=300->(∀r,r∈l->0<=r/\r<(N:Int))->PC prog 198 #[bG kd cl sl sv,v] G fun r _=>r=.agg (S l).toArray
 move:∀G,H.Le G->∀(b:Nat) (l l':List Int) (r:Int),l.length+l'.length<=299->(∀z,z∈l++r::l'->0<=z/\z<(N:Int)) ->
  PW prog 228 #[.pointer (some ⟨b,0,none⟩),bG kd cl sl sv,.int .i64 r] G [(b,308,S l++S (r::l'))] fun v ow _=>v=.tuple #[]/\ow=[(b,308,S (l++[r])++S l')]
 worth:∀(G:Hp) (b k:Nat) (T:TypeId) (pre post:List Value) (l:List Int),pre.length=k->l.length<=300->(∀r,r∈l->0<=r/\r<(N:Int)) ->
  PW prog 200 #[.pointer (some ⟨b,k,none⟩),.int .i64 kd] G [(b,T,pre++(S l++post))] fun v ow _=>v=aC (wo l)/\ow=[(b,T,pre++(S l++post))]
 small:∀l:List Int,l.length<=300->(∀r,r∈l->0<=r/\r<(N:Int))->ht (wo l)<=100000
theorem GOk.mono {H G:Hp} {kd cl:Int} {sl sv:Value} {N:Nat} {S:List Int->List Value} {wo:List Int->Rat} (h:GOk H kd cl sl sv N S wo) (k:H.Le G):GOk G kd cl sl sv N S wo :=
 ⟨h.len,h.form,fun G' hG=>h.check G' (k.trans hG),h.leng,h.zero,h.first,fun G' hG=>h.whole G' (k.trans hG),fun G' hG=>h.move G' (k.trans hG),h.worth,h.small⟩
theorem PV.pc' {P:Program} {f:FuncId} {args:Array Value} {v:Value} (h:PV P f args v) (G:Hp):PC P f args G fun r _=>r=v:=(h.pc G).mono fun _ _ h _=>h.1
theorem zox (l:List Rat):∀x:Rat,l.foldl (·+·) x=x+aJ l:=by
 unfold aJ
 induction l with
 | nil=>intro x;rw[List.foldl_nil,List.foldl_nil,Rat.add_zero]
 | cons y l ih=>intro x;rw[List.foldl_cons,List.foldl_cons,ih,ih (0+y),Rat.zero_add,Rat.add_assoc]
theorem ky (x:Rat) (l:List Rat):aJ (x::l)=x+aJ l:=by
 have:=zox l (0+x);rw[Rat.zero_add]at this;unfold aJ at *
 rw[List.foldl_cons,Rat.zero_add];exact this
def xU (vals:List Rat) (l:List Int):List Value:=bP (l.length:Nat) (List.replicate 12 0) 0 (aJ (atR vals l))
def xV (ls:List Int) (l:List Int):List Value:=bP (l.length:Nat) (csL (atI ls l)) (sqL (atI ls l):Nat) 0
def woV (vals:List Rat) (l:List Int):Rat:=aJ (atR vals l)*aJ (atR vals l) / ((l.length:Int):Rat)
def woL (ls:List Int) (l:List Int):Rat:=((sqL (atI ls l):Int):Rat) / ((l.length:Int):Rat)
theorem SG {vals:List Rat} {R:Nat} {x:Rat} (h:vals[R]?=some x) (l:List Int):atR vals ((R:Int)::l)=x::atR vals l:=by
 unfold atR;rw[qx,qU,qB,h];rfl
theorem DZ {ls:List Int} {R:Nat} {x:Int} (h:ls[R]?=some x) (l:List Int):atI ls ((R:Int)::l)=x::atI ls l:=by
 unfold atI;rw[qx,qU,qB,h];rfl
theorem KQ {vals:List Rat} (l m:List Int):atR vals (l++m)=atR vals l++atR vals m:=qo
theorem KR {ls:List Int} (l m:List Int):atI ls (l++m)=atI ls l++atI ls m:=qo
theorem XD {H:Hp} {la:Option Addr} {lc:Nat} {va:Option Addr} {vc:Nat} {vals:List Rat} (hv:QL H (.slice va vals.length vc) vals) (h0:1<=vals.length) (h1:vals.length<=300) (hb:∀q,q∈vals->ht q<=100) :
  GOk H 2 0 (.slice la 0 lc) (.slice va vals.length vc) vals.length (xU vals) (woV vals):=by
 have hs:∀l:List Int,l.length<=300->(∀r,r∈l->0<=r/\r<(vals.length:Int))->ht (aJ (atR vals l))<=1+101*300:=fun l hl hr=>by
  have h1:=pF 100 (atR vals l) (fun q hq=>hb q (yt hr q hq));rw[lY]at h1;omega
 refine⟨fun l=>ij rfl,fun l=>⟨_,_,_,_,rfl,rfl⟩,fun G hG=>(I2 h0 h1).pc' G,RE,by unfold xU;exact IM.symm,fun l=>nv,fun G hG v l hl hn hr=>?_,fun G hG b l l' r hn hr=>?_,fun G b k T pre post l hk hn hr=>?_,fun l hl hr=>?_⟩
 ·obtain⟨a,c,rfl⟩:=SlC.val hl;exact zqO (hv.mono hG) hl oM hr hb
 ·have uD:=hr r (by simp);obtain⟨R,rfl⟩:=qh uD.1;obtain⟨x,hx⟩:∃x,vals[R]?=some x:=⟨_,qA oM⟩;have ed:sm x:=bE (hb x (qF hx)) oM;have h1:=hs l oM (fun z hz=>hr z (by simp[hz]));have h2:=hs ((R:Int)::l') (by simp;omega) (fun z hz=>hr z (List.mem_append_right _ hz));have e1:aJ (atR vals (l++[(R:Int)]))=aJ (atR vals l)+x:=by rw[KQ,SG hx];exact uk _ _
  have e2:aJ (atR vals ((R:Int)::l'))-x=aJ (atR vals l'):=by rw[SG hx,ky];grind
  have cE:=fun (G':Hp) (mo:G.Le G')=>ZH (pre:=[]) (k:=0) (b:=b) (T:=308) (post:=xU vals ((R:Int)::l')) rfl (cl:=0) (la:=la) (ln:=0) (lc:=lc) (hv.mono (hG.trans mo)) (n:=l.length) oM hx ed (bE h1 oM) (cs:=List.replicate 12 0) rfl (sq:=0);have gG:=fun (G':Hp) (mo:G.Le G')=>Z1 (pre:=xU vals (l++[(R:Int)])) (k:=19) (b:=b) (T:=308) (post:=[]) (ij rfl) (cl:=0) (la:=la) (ln:=0) (lc:=lc) (hv.mono (hG.trans mo)) (n:=l'.length) oM hx ed (bE h2 oM) (cs:=List.replicate 12 0) rfl (sq:=0);simp only[<-e1]at cE;simp only[e2]at gG;have ew:(l++[(R:Int)]).length=l.length+1:=by simp
  refine PW.body tO func228 Z kR ntmps228 Z Z ?_;refine uR ?_;apply EV.drawn 5 kR kR;intro xv yw;(repeat (first|refine' DD ?_|refine' vN ?_|refine' vF ?_));(refine DJ.nil (fun G1 aj gV=>?_);(case hS|hS2=>rfl));refine vW ([(b,308,xU vals l++xU vals ((R:Int)::l'))]) ([]) (cE _ aj) ?_;rintro v ow G2 ⟨rfl,rfl⟩ ai;rw[<-ew];refine uR ?_;apply EV.drawn 5 kR kR;intro xv yw;(repeat (first|refine' DD ?_|refine' vN ?_|refine' vF ?_));(refine DJ.nil (fun G3 ax fM=>?_);(case hS|hS2=>rfl));refine EVL.callW Z Z Z Z Z ([(b,308,xU vals (l++[(R:Int)])++(bP ((l'.length+1:Nat):Int) (List.replicate 12 0) 0 (aJ (atR vals ((R:Int)::l')))++[]))]) ([]) Z (gG _ (aj.trans (ai.trans ax))) ?_;rintro v ow G4 ⟨rfl,rfl⟩ aT;refine uR ?_;refine⟨rfl,?_⟩;rw[qG];rfl
 ·exact zqS hk (cs:=List.replicate 12 0) rfl (sq:=0) oM oM (qI (hs l hn hr) oM)
 ·have h1:=hs l hl hr;have h2:=pG (aJ (atR vals l)) (aJ (atR vals l));have h3:=ie (l.length:Int);have h4:bl (l.length:Int).natAbs<=20:=cf oM;have h5:=tY (aJ (atR vals l)*aJ (atR vals l)) ((l.length:Int):Rat);unfold woV;omega
theorem Sv {l m:List Int} (h:l.Perm m):sqL l=sqL m:=by
 unfold sqL;have e:(l.map fun x=>l.count x)=l.map fun x=>m.count x:=List.map_congr_left fun x _=>h.count_eq x;rw[e];exact(h.map _).sum_nat
theorem Z7 {l m:List Int} (h:l.Perm m):csL l=csL m:=by
 unfold csL;exact List.map_congr_left fun k _=>by rw[h.count_eq]
theorem Z8 {k:Nat} (hk:k<12) (l:List Int):(csL ((k:Int)::l)).set k (l.count (k:Int):Int)=csL l:=by
 have h:=Lv l hk;have hp:((k:Int)::l).Perm (l++[(k:Int)]):=List.perm_append_comm (l₁:=[(k:Int)]) (l₂:=l);rw[Z7 hp,h,List.set_set];apply List.ext_getElem?;intro j;rw[List.getElem?_set];by_cases e:k=j
 ·subst e;rw[if_pos rfl,if_pos (by rw[oq];exact hk),B2 _ hk]
 ·rw[if_neg e]
theorem K7 (x:Int) (l:List Int):sqL (x::l)=sqL l+2*l.count x+1:=by
 have hp:(x::l).Perm (l++[x]):=List.perm_append_comm (l₁:=[x]) (l₂:=l);rw[Sv hp,K6]
theorem XE {H:Hp} {cl:Int} (hc:1<=cl/\cl<=12) {va:Option Addr} {vc:Nat} {la:Option Addr} {lc:Nat} {ls:List Int} (hv:IL H (.slice la ls.length lc) ls) (h0:1<=ls.length) (h1:ls.length<=300) (A6:∀z,z∈ls->0<=z/\z<cl) :
  GOk H 1 cl (.slice la ls.length lc) (.slice va 0 vc) ls.length (xV ls) (woL ls):=by
 have dE:∀z,z∈ls->0<=z/\z<12:=fun z hz=>⟨(A6 z hz).1,by have:=(A6 z hz).2;omega⟩
 have hs:∀l:List Int,l.length<=300->sqL (atI ls l)<=90000:=fun l hl=>by
  have h1:=BX (atI ls l);rw[pV]at h1;exact qI h1 (Nat.mul_le_mul hl hl)
 refine⟨fun l=>ij (oq _),fun l=>⟨_,_,_,_,oq _,rfl⟩,fun G hG=>L4 (hv.mono hG) hc h0 h1 A6,KZ,by unfold xV;exact IM.symm,fun l=>nv,fun G hG v l hl hn hr=>?_,fun G hG b l l' r hn hr=>?_,fun G b k T pre post l hk hn hr=>?_,fun l hl hr=>?_⟩
 ·exact Uk (hv.mono hG) hl oM hr dE
 ·have uD:=hr r (by simp);obtain⟨R,rfl⟩:=qh uD.1;obtain⟨x,hx⟩:∃x,ls[R]?=some x:=⟨_,qA oM⟩;have mM:=dE x (qF hx);obtain⟨k,rfl⟩:=qh mM.1;have hk:k<12:=oM;have h1:=hs l oM;have h2:=hs l' oM;have c1:(atI ls l).count (k:Int)<=300:=qI List.count_le_length (by rw[pV];omega);have c2:(atI ls l').count (k:Int)<=300:=qI List.count_le_length (by rw[pV];omega);have e1:(csL (atI ls l)).set k (((atI ls l).count (k:Int)+1:Nat):Int)=csL (atI ls (l++[(R:Int)])):=by rw[KR,DZ hx];exact(Lv _ hk).symm
  have e2:sqL (atI ls l)+2*(atI ls l).count (k:Int)+1=sqL (atI ls (l++[(R:Int)])):=by rw[KR,DZ hx];exact(K6 _ _).symm
  have e3:(csL (atI ls ((R:Int)::l'))).set k ((atI ls l').count (k:Int):Int)=csL (atI ls l'):=by rw[DZ hx];exact Z8 hk _
  have e4:sqL (atI ls l')+2*(atI ls l').count (k:Int)+1=sqL (atI ls ((R:Int)::l')):=by rw[DZ hx];exact(K7 _ _).symm
  have e5:(csL (atI ls ((R:Int)::l')))[k]?=some (((atI ls l').count (k:Int)+1:Nat):Int):=by rw[B2 _ hk,DZ hx,List.count_cons_self]
  have cE:=fun (G':Hp) (mo:G.Le G')=>ZJ (pre:=[]) (k:=0) (b:=b) (T:=308) (post:=xV ls ((R:Int)::l')) rfl (cl:=cl) (va:=va) (vn:=0) (vc:=vc) (hv.mono (hG.trans mo)) (n:=l.length) oM hx hk (cs:=csL (atI ls l)) (oq _) (B2 _ hk) oM (sq:=sqL (atI ls l)) oM (q:=0);have gG:=fun (G':Hp) (mo:G.Le G')=>Z2 (pre:=xV ls (l++[(R:Int)])) (k:=19) (b:=b) (T:=308) (post:=[]) (ij (oq _)) (cl:=cl) (va:=va) (vn:=0) (vc:=vc) (hv.mono (hG.trans mo)) (n:=l'.length) oM hx hk (cs:=csL (atI ls ((R:Int)::l'))) (oq _) e5 oM (sq:=sqL (atI ls l')) oM (q:=0);simp only[e1,e2]at cE;simp only[e3,e4]at gG;have ew:(l++[(R:Int)]).length=l.length+1:=by simp
  refine PW.body tO func228 Z kR ntmps228 Z Z ?_;refine uR ?_;apply EV.drawn 5 kR kR;intro xv yw;(repeat (first|refine' DD ?_|refine' vN ?_|refine' vF ?_));(refine DJ.nil (fun G1 aj gV=>?_);(case hS|hS2=>rfl));refine vW ([(b,308,xV ls l++xV ls ((R:Int)::l'))]) ([]) (cE _ aj) ?_;rintro v ow G2 ⟨rfl,rfl⟩ ai;rw[<-ew];refine uR ?_;apply EV.drawn 5 kR kR;intro xv yw;(repeat (first|refine' DD ?_|refine' vN ?_|refine' vF ?_));(refine DJ.nil (fun G3 ax fM=>?_);(case hS|hS2=>rfl));refine EVL.callW Z Z Z Z Z ([(b,308,xV ls (l++[(R:Int)])++(bP ((l'.length+1:Nat):Int) (csL (atI ls ((R:Int)::l'))) (sqL (atI ls ((R:Int)::l')):Nat) 0++[]))]) ([]) Z (gG _ (aj.trans (ai.trans ax))) ?_;rintro v ow G4 ⟨rfl,rfl⟩ aT;refine uR ?_;refine⟨rfl,?_⟩;rw[qG];rfl
 ·exact zqQ hk (oq _) (by have:=hs l hn;omega) oM
 ·have h1:=hs l hl;have h3:=ie (l.length:Int);have h4:bl (l.length:Int).natAbs<=20:=cf oM;have h6:=ie (sqL (atI ls l):Int);have h7:bl (sqL (atI ls l):Int).natAbs<=30:=cf oM;have h5:=tY ((sqL (atI ls l):Int):Rat) ((l.length:Int):Rat);unfold woL;omega
def kQ (key:Int->Rat) (least:Int) (m:List Int) (j:Nat):Bool:=decide (least<=((j+1:Nat):Int)) && decide (least<=((m.length-(j+1):Nat):Int)) && decide (key (m.getD j 0)<key (m.getD (j+1) 0))
def fV (wo:List Int->Rat) (m:List Int) (j:Nat):Rat:=wo (m.take (j+1))+wo (m.drop (j+1))
def fp (key:Int->Rat) (m:List Int) (j:Nat):Rat:=(key (m.getD j 0)+key (m.getD (j+1) 0)) / 2
def dN (key:Int->Rat) (wo:List Int->Rat) (least:Int) (m:List Int):Nat->Option (Rat × Rat)
 | 0=>none
 | j+1=>if kQ key least m j=true then (match dN key wo least m j with
  | none=>some (fp key m j,fV wo m j)
  | some (a,w)=>if w<fV wo m j then some (fp key m j,fV wo m j) else some (a,w)) else dN key wo least m j
def stA:Option (Rat × Rat)->Rat
 | none=>0
 | some (a,_)=>a
def stW:Option (Rat × Rat)->Rat
 | none=>0
 | some (_,w)=>w
theorem KP {key:Int->Rat} {wo:List Int->Rat} {least:Int} {m:List Int} {j:Nat} (h:kQ key least m j=false):dN key wo least m (j+1)=dN key wo least m j:=by
 rw[dN,h,if_neg (by decide)]
theorem znz {key:Int->Rat} {wo:List Int->Rat} {least:Int} {m:List Int} {j:Nat} (h:kQ key least m j=true) (h0:dN key wo least m j=none):dN key wo least m (j+1)=some (fp key m j,fV wo m j):=by
 rw[dN,h,if_pos rfl,h0]
theorem zo6 {key:Int->Rat} {wo:List Int->Rat} {least:Int} {m:List Int} {j:Nat} {a w:Rat} (h:kQ key least m j=true) (h0:dN key wo least m j=some (a,w)) (hw:w<fV wo m j):dN key wo least m (j+1)=some (fp key m j,fV wo m j):=by
 rw[dN,h,if_pos rfl,h0];exact if_pos hw
theorem zo5 {key:Int->Rat} {wo:List Int->Rat} {least:Int} {m:List Int} {j:Nat} {a w:Rat} (h:kQ key least m j=true) (h0:dN key wo least m j=some (a,w)) (hw:¬w<fV wo m j):dN key wo least m (j+1)=dN key wo least m j:=by
 rw[dN,h,if_pos rfl,h0];exact if_neg hw
theorem Yh {S S':List Value} {n:Int} (hl:S.length=19) (h:(S.drop 0).take 1=[.int .i64 n]):((S++S').drop (0+0+0)).take 1=[.int .i64 n]:=by
 rw[List.drop_append_of_le_length oM,List.take_append_of_le_length (by rw[qt];omega)];exact h
theorem Zn {S S':List Value} {n:Int} (hl:S.length=19) (h:(S'.drop 0).take 1=[.int .i64 n]):((S++S').drop (0+19+0)).take 1=[.int .i64 n]:=by
 rw[show 0+19+0=19 from rfl,List.drop_left' hl];exact h
def xS (X:List (List Rat)) (wo:List Int->Rat) (rs:List Int) (least col:Int) (o:Option (Rat × Rat)):Prop:=∃m,BQ X col rs m/\o=dN (bD X col) wo least m (m.length-1)/\ht (stW o)<=200001
theorem Rk {key:Int->Rat} {wo:List Int->Rat} {least:Int} {m:List Int} {B:Nat} (h:∀j,j<m.length->ht (fV wo m j)<=B) (hB:1<=B):∀j,j<=m.length->ht (stW (dN key wo least m j))<=B
 | 0,_=>by show ht 0<=B;rw[rK];exact hB
 | j+1,hj=>by
  have ih:=Rk (key:=key) (least:=least) h hB j oM;have h1:=h j oM;unfold dN;split
  ·split
   ·exact h1
   ·split
    ·exact h1
    ·rename_i h2 _;rw[h2]at ih;exact ih
  ·exact ih
theorem Lk {a b:Rat}:bI a b>=0↔¬a<b:=by
 unfold bI;split
 ·rename_i h;constructor
  ·intro k;omega
  ·intro k;exact absurd h k
 ·rename_i h;constructor
  ·intro _;exact h
  ·intro _;split <;> omega
theorem DX {a b:Rat}:bI a b>0↔b<a:=by
 unfold bI;split
 ·rename_i h;constructor
  ·intro k;omega
  ·intro k;exact absurd (Rat.le_of_lt h) (Rat.not_le.2 k)
 ·split
  ·rename_i h;exact⟨fun _=>h,fun _=>by omega⟩
  ·rename_i h;exact⟨fun k=>by omega,fun k=>absurd k h⟩
theorem QN:∀{l:List Int},l.length=12->∃c0 c1 c2 c3 c4 c5 c6 c7 c8 c9 rB pj,l=[c0,c1,c2,c3,c4,c5,c6,c7,c8,c9,rB,pj]
 | [c0,c1,c2,c3,c4,c5,c6,c7,c8,c9,rB,pj],_=>⟨_,_,_,_,_,_,_,_,_,_,_,_,rfl⟩
theorem zo7 {H:Hp} {kd cl:Int} {sl sv vx vr:Value} {X:List (List Rat)} {S:List Int->List Value} {wo:List Int->Rat} {rs:List Int} {col least:Int} (hg:GOk H kd cl sl sv X.length S wo) (hX:QLL H vx X) (hr:IL H vr rs) (hn:rs.length<=20) (eZ:∀r,r∈rs->0<=r/\r<(X.length:Int)) (hb:∀x,x∈X->∀q,q∈x->ht q<=100) :
  PC prog 205 #[bG kd cl sl sv,vx,vr,.int .i64 col,.int .i64 least] H fun r _=>∃o,xS X wo rs least col o/\r=.tuple #[aC (stA o),aC (stW o),.bool o.isSome]:=by
 have nE:=zqv (col:=col) hX hr hn eZ (fun x hx q hq=>bE (hb x hx q hq) oM);obtain⟨xa,xc,rfl⟩:=hX.val;obtain⟨ra,rc,rfl⟩:=SlC.val hr;refine BD func205 ntmps205 ?_;refine uR ?_;refine vA (nE) ?_;rintro r1 G1 ⟨m,hm,hsc⟩ aj
 have sK:∀r,r∈m->0<=r/\r<(X.length:Int):=by
  rcases hsc with ⟨_,hp,_⟩ | ⟨_,rfl⟩
  ·exact fun r hr=>eZ r (hp.mem_iff.1 hr)
  ·intro r hr;cases hr
 have JI:m.length<=20:=by
  rcases hsc with ⟨_,hp,_⟩ | ⟨_,rfl⟩
  ·rw[hp.length_eq];exact hn
  ·decide
 have AY:∀r,r∈m->cY X col r=true:=by
  rcases hsc with ⟨ha,hp,_⟩ | ⟨_,rfl⟩
  ·exact fun r hr=>List.all_eq_true.1 ha r (hp.mem_iff.1 hr)
  ·intro r hr;cases hr
 obtain⟨ma,mc,rfl⟩:=SlC.val hm;have VG:=hg.whole G1 aj _ m hm oM sK;have JL:=hg.len m;refine uR ?_;refine vA (VG) ?_;rintro r2 G2 rfl ai;obtain⟨sn,scs,ssq,sq,oH,hS⟩:=hg.form m;obtain⟨c0,c1,c2,c3,c4,c5,c6,c7,c8,c9,rB,pj,rfl⟩:=QN oH;rw[hS];refine uR ?_;(first|refine EVL.unbox (14) Z fun b=>?_|refine EV.unbox (14) Z fun b=>?_);(first|refine EVL.swapOw ([(b,308,S (m.take 0)++S (m.drop 0))]) ([]) ((by rw[List.take_zero,List.drop_zero,hg.zero,hS];rfl)) ?_|refine EV.swapOw ([(b,308,S (m.take 0)++S (m.drop 0))]) ([]) ((by rw[List.take_zero,List.drop_zero,hg.zero,hS];rfl)) ?_);have zi:=hX.mono (aj.trans ai);have sM:=hm.mono ai;have nT:=hg.mono (aj.trans ai);clear hS VG nE
 have VP:∀j,j<m.length->ht (fV wo m j)<=200001:=fun j hj=>by
  have h1:=hg.small (m.take (j+1)) (by rw[qP];omega) (fun r hr=>sK r (List.mem_of_mem_take hr));have h2:=hg.small (m.drop (j+1)) (by rw[qt];omega) (fun r hr=>sK r (List.mem_of_mem_drop hr));have h3:=pB (wo (m.take (j+1))) (wo (m.drop (j+1)));unfold fV;omega
 have aK:=fun j (hj:j<=m.length)=>Rk (key:=bD X col) (least:=least) VP oM j hj;generalize sT:bD X col=key at *
 refine EV.loopK (ι:=Nat) [1,3,4,5,10,11,13,14] [5] (fun j=>[(12,.v (.bool (dN key wo least m j).isSome)),(15,.v (.int .i64 ((j+1:Nat):Int)))]) (fun j=>[(10,51,aB (aC (stA (dN key wo least m j)))),(11,51,aB (aC (stW (dN key wo least m j))))]) (fun j=>[(b,308,S (m.take j)++S (m.drop j))]) (fun j _=>j<=m.length-1) (fun j=>m.length-j) (0) Z Z ⟨Z,Z,trivial⟩ ⟨by rw[show stA (dN key wo least m 0)=0 from rfl,rN];rfl,by rw[show stW (dN key wo least m 0)=0 from rfl,rN];rfl,trivial⟩ rfl (fun _=>rfl) (qQ _) ?_;rintro j G3 ax hj;refine uR ?_;refine EV.cond Z (fun af=>?_) (fun af=>?_)
 ·simp only[nN]at af;obtain⟨r1,dQ⟩:∃r,m[j]?=some r:=⟨_,qA oM⟩;obtain⟨r2,bM⟩:∃r,m[j+1]?=some r:=⟨_,qA af⟩;have cG:=sK r1 (qF dQ);have cP:=sK r2 (qF bM);obtain⟨R1,C,x1,q1,rfl,xG,gA,si⟩:=zL cG.1 cG.2 (AY r1 (qF dQ));subst xG;obtain⟨R2,C',x2,q2,rfl,xG,gZ,rf⟩:=zL cP.1 cP.2 (AY r2 (qF bM));obtain rfl:C=C':=oM;obtain⟨vs,aG,hs⟩:=zi.mono ax;obtain⟨a1,e1,jz,P4⟩:=aG.at gA;obtain⟨a2,e2,Az,P3⟩:=aG.at gZ;have kC:SlC G3 (.slice a1 x1.length e1) x1.length 5 (x1.flatMap fun q=>aB (aC q)):=P4;have cr:SlC G3 (.slice a2 x2.length e2) x2.length 5 (x2.flatMap fun q=>aB (aC q)):=P3;have FE:=sM.mono ax;have ew:=(qE.1 si).1;have eH:=(qE.1 rf).1;have PR:R1<X.length:=oM;have PQ:R2<X.length:=oM;have fw:j<m.length:=oM;have CU:key (m.getD j 0)=q1:=by rw[qB,dQ,<-sT];exact zM Z Z gA si
  have oS:key (m.getD (j+1) 0)=q2:=by rw[qB,bM,<-sT];exact zM Z Z gZ rf
  have Om:=hb x1 (qF gA) q1 (qF si);have Ol:=hb x2 (qF gZ) q2 (qF rf);have wj:IntKind.i64.wrap (((j+1:Nat):Int)-1)=(j:Int):=by rw[pL];omega
  have wn:IntKind.i64.wrap (((j+1:Nat):Int)+1)=((j+1+1:Nat):Int):=aO (j+1) oM;have gG:m.drop j=(R1:Int)::m.drop (j+1):=IE dQ;have nD:m.take (j+1)=m.take j++[(R1:Int)]:=dZ dQ;have y0:=fun (G':Hp) (mo:G3.Le G')=>nT.move G' (ax.trans mo) b (m.take j) (m.drop (j+1)) (R1:Int) (by rw[qP,qt];omega) (by rw[<-gG,List.take_append_drop];exact sK);rw[<-gG,<-nD]at y0;have hZ:(m.take (j+1)).length=j+1:=by rw[qP];omega
  have kn:(m.drop (j+1)).length=m.length-(j+1):=qt;have C0:=hg.first (m.take (j+1));have CZ:=hg.first (m.drop (j+1));rw[hZ]at C0;rw[kn]at CZ;have kt:=hg.len (m.take (j+1));have hS2:=hg.len (m.drop (j+1));have aS:=pC q1 q2 (bE Om oM) (bE Ol oM);refine uR ?_;apply EV.drawn 6 kR kR;intro xv yw;(repeat refine' DD ?_);refine' DJ.ofVal (az.idx1 tO Z Z Z Z Z Z Z Z (FE) (j) (wj) (fw) ((by rw[qK,dQ];rfl))) Z Z Z ?_;rotate_left;(repeat refine' DD ?_);(refine DJ.nil (fun G4 aT xF=>?_);(case hS|hS2=>rfl));refine vW ([(b,308,S (m.take j)++S (m.drop j))]) ([]) (y0 G4 aT) ?_;rintro v ow G5 ⟨rfl,rfl⟩ bj;have We:=FE.mono (aT.trans bj);have JB:=hs.mono (aT.trans bj);have Of:=kC.mono (aT.trans bj);have Oe:=cr.mono (aT.trans bj);refine uR ?_;apply EV.drawn 24 kR kR;intro xv yw;(repeat refine' DD ?_);refine' DJ.ofVal (az.idx1 tO Z Z Z Z Z Z Z Z (We) (j) (wj) (fw) ((by rw[qK,dQ];rfl))) Z Z Z ?_;rotate_left;(repeat refine' DD ?_);refine' vJ (JB) (R1) (rfl) (PR) (jz) ?_;rotate_left;(repeat refine' DD ?_);refine' DJ.idxM tO Z Z Z Z Z Z Z Z Z (Of) (C) (rfl) (ew) (QL.at (H:=H) (v:=.bool true) si) ?_;rotate_left;(repeat refine' DD ?_);refine' vJ (We) (j+1) (rfl) (af) ((by rw[qK,bM];rfl)) ?_;rotate_left;(repeat refine' DD ?_);refine' vJ (JB) (R2) (rfl) (PQ) (Az) ?_;rotate_left;(repeat refine' DD ?_);refine' DJ.idxM tO Z Z Z Z Z Z Z Z Z (Oe) (C) (rfl) (eH) (QL.at (H:=H) (v:=.bool true) rf) ?_;rotate_left;(repeat refine' DD ?_);(refine DJ.nil (fun G6 bu Qf=>?_);(case hS|hS2=>rfl));refine uR ?_;refine RP ?_;refine EVL.loadOwn tO Z Z Z Z Z Z (0) Z (Yh kt C0) Z Z ?_;refine uR ?_;have dT:kQ key least m j=(decide (least<=((j+1:Nat):Int)) && decide (least<=((m.length-(j+1):Nat):Int)) && decide (q1<q2)):=by unfold kQ;rw[CU,oS]
  by_cases h1:((j+1:Nat):Int)<least
  ·have bF:dN key wo least m (j+1)=dN key wo least m j:=KP (by rw[dT,qC (show ¬least<=((j+1:Nat):Int) by omega)];rfl);rw[qD h1];refine uR ?_;refine⟨j+1,⟨by rw[bF];rfl,by rw[wn];rfl,trivial⟩,sB,⟨by rw[bF];rfl,by rw[bF];rfl,trivial⟩,sB,rfl,by omega,aT.trans (bj.trans bu),by omega⟩
  ·rw[qC h1];refine uR ?_;refine RP ?_;refine EVL.loadOwn tO Z Z Z Z Z Z (0) Z (Zn kt CZ) Z Z ?_;refine uR ?_;by_cases h2:((m.length-(j+1):Nat):Int)<least
   ·have bF:dN key wo least m (j+1)=dN key wo least m j:=KP (by rw[dT,qC (show ¬least<=((m.length-(j+1):Nat):Int) by omega),Bool.and_false];rfl);rw[qD h2];refine uR ?_;refine⟨j+1,⟨by rw[bF];rfl,by rw[wn];rfl,trivial⟩,sB,⟨by rw[bF];rfl,by rw[bF];rfl,trivial⟩,sB,rfl,by omega,aT.trans (bj.trans bu),by omega⟩
   ·rw[qC h2]
    repeat (first|refine RUN ?_|refine CV (aS) ?_|refine CE (aS) ?_)
    by_cases h3:q1<q2
    ·have hc:kQ key least m j=true:=by rw[dT,qD (show least<=((j+1:Nat):Int) by omega),qD (show least<=((m.length-(j+1):Nat):Int) by omega),qD h3];rfl
     have mV:fp key m j=(q1+q2) / 2:=by unfold fp;rw[CU,oS]
     have Fk:=fun r hr=>sK r (List.mem_of_mem_take (i:=j+1) hr);have Fi:=fun r hr=>sK r (List.mem_of_mem_drop (i:=j+1) hr);have nz:=fun G':Hp=>nT.worth G' b 0 308 [] (S (m.drop (j+1))) (m.take (j+1)) rfl oM Fk;have mO:=fun G':Hp=>nT.worth G' b 19 308 (S (m.take (j+1))) [] (m.drop (j+1)) kt oM Fi;simp only[qG]at mO;have N8:=hg.small (m.take (j+1)) oM Fk;have N7:=hg.small (m.drop (j+1)) oM Fi;have cE:=ye (wo (m.take (j+1))) (wo (m.drop (j+1))) (bE N8 oM) (bE N7 oM);have OH:=zpw q1 q2 oM oM;have uz:=VP j oM;have NF:=aK j oM;rw[show wo (m.take (j+1))+wo (m.drop (j+1))=fV wo m j from rfl]at cE;rw[<-mV]at OH;rw[qC (fun h=>absurd h3 (Lk.1 h))];refine uR ?_;apply EV.drawn 10 kR kR;intro xv yw;(repeat (first|refine' DD ?_|refine' vN ?_|refine' vF ?_));(refine' DJ.callR Z Z Z Z Z 0 Z (by simp[kt,hS2]) (cO func200) (fun G'=>nz G') ?_;rotate_left);(repeat (first|refine' DD ?_|refine' vN ?_|refine' vF ?_));(refine' DJ.callR Z Z Z Z Z 0 Z (by simp[kt,hS2]) (cO func200) (fun G'=>mO G') ?_;rotate_left);(repeat (first|refine' DD ?_|(refine' DC (cE) (h:=?_);rotate_left)));(refine DJ.nil (fun G7 aZ Da=>?_);(case hS|hS2=>rfl));refine uR ?_;have nU:=pC (fV wo m j) (stW (dN key wo least m j)) (bE uz oM) (bE NF oM)
     cases oG:dN key wo least m j with
     | none =>
      have iZ:=znz (wo:=wo) hc oG;rw[oG]at nU;refine uR ?_;apply EV.drawnK [1,3,4,5,10,11,13,14,15,16,17,18] [10,11] [5,16,17,18] 5 Z Z Z Z kR kR;intro xv yw;(repeat (first|refine' DD ?_|(refine' DC (OH) (h:=?_);rotate_left)));(refine DJ.nil (fun G8 bt uT=>?_);(case hS|hS2=>rfl);(case hD=>rfl));refine uR ?_;refine⟨j+1,⟨by rw[iZ];rfl,by rw[wn];rfl,trivial⟩,sB,⟨by rw[iZ];rfl,by rw[iZ];rfl,trivial⟩,sB,rfl,by omega,aT.trans (bj.trans (bu.trans (aZ.trans bt))),by omega⟩
     | some p =>
      obtain⟨pa,pw⟩:=p;rw[oG]at nU
      repeat (first|refine RUN ?_|refine CV (nU) ?_|refine CE (nU) ?_)
      by_cases h4:pw<fV wo m j
      ·have iZ:=zo6 (wo:=wo) hc oG h4;rw[qD (show bI (fV wo m j) (stW (some (pa,pw)))>0 from DX.2 h4)];refine uR ?_;apply EV.drawnK [1,3,4,5,10,11,13,14,15,16,17,18] [10,11] [5,16,17,18] 5 Z Z Z Z kR kR;intro xv yw;(repeat (first|refine' DD ?_|(refine' DC (OH) (h:=?_);rotate_left)));(refine DJ.nil (fun G8 bt uT=>?_);(case hS|hS2=>rfl);(case hD=>rfl));refine uR ?_;refine⟨j+1,⟨by rw[iZ];rfl,by rw[wn];rfl,trivial⟩,sB,⟨by rw[iZ];rfl,by rw[iZ];rfl,trivial⟩,sB,rfl,by omega,aT.trans (bj.trans (bu.trans (aZ.trans bt))),by omega⟩
      ·have bF:=(zo5 (wo:=wo) hc oG h4).trans oG;rw[qC (show ¬bI (fV wo m j) (stW (some (pa,pw)))>0 from fun h=>h4 (DX.1 h))];refine uR ?_;refine⟨j+1,⟨by rw[bF];rfl,by rw[wn];rfl,trivial⟩,sB,⟨by rw[bF];rfl,by rw[bF];rfl,trivial⟩,sB,rfl,by omega,aT.trans (bj.trans (bu.trans aZ)),by omega⟩
    ·have bF:dN key wo least m (j+1)=dN key wo least m j:=KP (by rw[dT,qC h3,Bool.and_false]);rw[qD (Lk.2 h3)];refine uR ?_;refine⟨j+1,⟨by rw[bF];rfl,by rw[wn];rfl,trivial⟩,sB,⟨by rw[bF];rfl,by rw[bF];rfl,trivial⟩,sB,rfl,by omega,aT.trans (bj.trans bu),by omega⟩
 ·simp only[nN]at af;obtain rfl:j=m.length-1:=oM;have Ps:=aK (m.length-1) oM;generalize bn:dN key wo least m (m.length-1)=fin at *
  refine uR ?_;refine EVA.start kR ?_;refine EVA.val tO (2) Z kR kR kR Z Z Z Z Z ?_;refine EVA.two 0 1 kR Z Z ?_ ?_
  ·(try refine gO ?_);refine EVL.nil ⟨rfl,?_⟩;refine EVA.two 1 3 kR Z Z ?_ ?_
   ·(try refine gO ?_);refine EVL.nil ⟨rfl,?_⟩;refine EVA.one 3 kR Z ?_
    (try refine gO ?_);refine EVL.nil ⟨rfl,?_⟩;refine EVA.one 4 kR Z ?_
    (try refine gO ?_);refine EVL.nil ⟨rfl,?_⟩;refine EVA.one 5 kR Z ?_
    (try refine gO ?_);refine EVL.nil ⟨rfl,?_⟩;refine EVA.nil kR ?_;refine uR ?_;exact⟨fin,⟨m,hsc,by rw[sT];exact bn.symm,Ps⟩,rfl⟩
   ·(try refine gO ?_);refine EVL.nil ⟨rfl,?_⟩;refine EVA.one 1 kR Z ?_
    (try refine gO ?_);refine EVL.nil ⟨rfl,?_⟩;refine EVA.one 4 kR Z ?_
    (try refine gO ?_);refine EVL.nil ⟨rfl,?_⟩;refine EVA.one 5 kR Z ?_
    (try refine gO ?_);refine EVL.nil ⟨rfl,?_⟩;refine EVA.nil kR ?_;refine uR ?_;exact⟨fin,⟨m,hsc,by rw[sT];exact bn.symm,Ps⟩,rfl⟩
  ·(try refine gO ?_);refine EVL.nil ⟨rfl,?_⟩;refine EVA.one 0 kR Z ?_
   (try refine gO ?_);refine EVL.nil ⟨rfl,?_⟩;refine EVA.one 3 kR Z ?_
   (try refine gO ?_);refine EVL.nil ⟨rfl,?_⟩;refine EVA.one 4 kR Z ?_
   (try refine gO ?_);refine EVL.nil ⟨rfl,?_⟩;refine EVA.one 5 kR Z ?_
   (try refine gO ?_);refine EVL.nil ⟨rfl,?_⟩;refine EVA.nil kR ?_;refine uR ?_;exact⟨fin,⟨m,hsc,by rw[sT];exact bn.symm,Ps⟩,rfl⟩
end
section
open Go.RowKit Go.Shelf
attribute [local go_sem] Oper.semAt_some
def mE {α:Type} (f:Nat->α) (k:Nat):List α:=(List.range k).map f
theorem Um {α:Type} (f:Nat->α) (k:Nat):mE f (k+1)=mE f k++[f k]:=by simp[mE,List.range_succ]
theorem zkW {α:Type} (f:Nat->α) (k:Nat):(mE f k).length=k:=by simp[mE]
theorem zqJ (zs:List Int):mE (fun j=>zs[j]?.getD 0) zs.length=zs:=by
 apply List.ext_getElem
 ·simp[mE]
 ·intro i h1 h2;simp[mE,h2]
theorem zoA (zs:List Int) {k:Nat} (hk:k<=zs.length):mE (fun j=>zs[j]?.getD 0) k=zs.take k:=by
 apply List.ext_getElem
 ·simp[mE,hk]
 ·intro i h1 h2;have:i<zs.length:=by simp[mE]at h1;omega
  simp[mE,this]
set_option maxRecDepth 100000 in
theorem zoB (F:Fence) (n:Nat) (h7:F.fn 226) (iw:F.round=none) (hn:1<=n) (l Bs n₀ b off len cap:Nat) (zs:List Int) (sf:len*8<=140737488351232) (hb:b<n₀) (J Jx:List Int->World->Prop)
  (hY:∀pre x W,J pre W->pre.length<len->YieldAt F (n-1) Tryz.prog l #[.int .i64 x] W fun e W' =>
   (e=.returned (.bool true)/\J (pre++[x]) W'/\Below n₀ W W')\/(e=.returned (.bool false)/\Jx (pre++[x]) W'))
  (W:World) (xH:W.cell? ⟨Bs,0,none⟩=some (.slice (some ⟨b,off,none⟩) len cap)) (hc:∀j,j<len->W.cell? ⟨b,off+j,none⟩=some (.int .i64 (zs[j]?.getD 0))) (h0:J [] W) :
  CallsIn F n Tryz.prog 226 #[.func (.yield l) #[] #[],.pointer (some ⟨Bs,0,none⟩)] W fun e W'=>(∃v,e=.returned v) /\
   ((∃ys,ys=mE (fun j=>zs[j]?.getD 0) len/\J ys W')\/(∃pre,(∃k,k<=len/\pre=mE (fun j=>zs[j]?.getD 0) k)/\Jx pre W')):=by
 refine callsIn_of_wp Tryz.func226 Z h7 ?_ iw;simp only[Tryz.ntmps226,List.size_toArray,qR,qg,Nat.reduceAdd,Nat.reduceSub,Array.replicate_succ,Array.replicate_zero,List.push_toArray,List.append_toArray,pN,List.cons_append]
 gi_wp2
 gi_loopw [7] (fun i wr=>∃k:Nat,k<=len/\i=.int .i64 k/\J (mE (fun j=>zs[j]?.getD 0) k) wr/\Below n₀ W wr)
  (fun i _=>len-(intOf i).toNat)
 case atStart=>exact⟨0,qQ _,rfl,h0,Below.refl _ _⟩
 case round =>
  obtain⟨k,hk,rfl,Ka,uJ⟩:=hrel;have xm:k<len->wr.cell? ⟨b,off+k,none⟩=some (.int .i64 (zs[k]?.getD 0)):=fun h=>(uJ.cell (p:=⟨b,off+k,none⟩) hb).trans (hc k h);by_cases af:k<len
  ·obtain⟨fn,tmps,assign,body,hy,hR⟩:=hY _ (zs[k]?.getD 0) wr Ka (by rw[zkW];exact af);have hcx':=xm af
   gi_wp2;refine hR.mono ?_;rintro e W3 (⟨rfl,hJ3,Pc⟩ | ⟨rfl,P9⟩)
   ·gi_wp2
    go_roundw
    case rel=>exact⟨k+1,by omega,by simp,by rw[Um];exact hJ3,uJ.trans Pc⟩
    case measure=>simp[intOf];omega
   ·gi_wp2;refine bodyPost_ret (results_none Z _ _ _) Z ?_;exact⟨⟨_,rfl⟩,.inr ⟨_,⟨k+1,by omega,(Um _ _).symm⟩,P9⟩⟩
  ·obtain rfl:k=len:=oM
   gi_wp2
   go_end0;exact⟨⟨_,rfl⟩,.inl ⟨_,rfl,Ka⟩⟩
set_option maxRecDepth 100000 in
theorem Vd (F:Fence) (n:Nat) (h7:F.fn 226) (iw:F.round=none) (l Bs:Nat) (a:Option Addr) (cap:Nat) (J:List Int->World->Prop) (W:World) (xH:W.cell? ⟨Bs,0,none⟩=some (.slice a 0 cap)) (h0:J [] W) :
  CallsIn F n Tryz.prog 226 #[.func (.yield l) #[] #[],.pointer (some ⟨Bs,0,none⟩)] W fun e W'=>(∃v,e=.returned v)/\J [] W':=by
 refine callsIn_of_wp Tryz.func226 Z h7 ?_ iw;simp only[Tryz.ntmps226,List.size_toArray,qR,qg,Nat.reduceAdd,Nat.reduceSub,Array.replicate_succ,Array.replicate_zero,List.push_toArray,List.append_toArray,pN,List.cons_append]
 gi_wp2
 gi_loopw [7] (fun i wr=>i=.int .i64 0/\J [] wr) (fun _ _=>0)
 case atStart=>exact⟨rfl,h0⟩
 case round =>
  obtain⟨rfl,Ka⟩:=hrel
  gi_wp2
  go_end0;exact⟨⟨_,rfl⟩,Ka⟩
theorem zk0 (F:Fence) (n:Nat) (h7:F.fn 226) (iw:F.round=none) (hn:1<=n) (Bs n₀:Nat) (sv:Value) (zs:List Int) (sf:zs.length*8<=140737488351232) (w:World) (xH:Bs<w.heap.size) (hn₀:n₀<=w.heap.size)
  (hc:w.cell? ⟨Bs,0,none⟩=some sv) (hI:Sl i64 w sv zs) (cU:∀b off len cap,sv=.slice (some ⟨b,off,none⟩) len cap->zs≠[]->b<n₀) :
  SeqStopsK F n Tryz.prog 226 #[.pointer (some ⟨Bs,0,none⟩)] (fun x:Int=>#[Value.int .i64 x]) (Below n₀) (fun ys=>ys=zs) (fun pre=>pre <+: zs) zs.length w:=fun l J Jx W hW _ _ hY h0=>by
 have dV:=(hW.cell (p:=⟨Bs,0,none⟩) xH).trans hc;rcases hI.below hW with ⟨rfl,a,cap,rfl⟩ | ⟨b,off,cap,rfl,hb,bC⟩
 ·exact(Vd F n h7 iw l Bs a cap J W dV h0).mono fun e W' ⟨he,hj⟩=>⟨he,.inl ⟨_,rfl,hj⟩⟩
 ·by_cases hz:zs=[]
  ·subst hz;exact(Vd F n h7 iw l Bs _ cap J W dV h0).mono fun e W' ⟨he,hj⟩=>⟨he,.inl ⟨_,rfl,hj⟩⟩
  ·refine(zoB F n h7 iw hn l Bs n₀ b off zs.length cap zs sf (cU _ _ _ _ Z hz) J Jx hY W dV (fun j hj=>by rw[bC j hj];simp[hj]) h0).mono ?_;rintro e W' ⟨he,⟨ys,rfl,hj⟩ | ⟨pre,⟨k,hk,rfl⟩,hj⟩⟩
   ·exact⟨he,.inl ⟨_,zqJ zs,hj⟩⟩
   ·exact⟨he,.inr ⟨_,by rw[zoA zs hk];exact List.take_prefix _ _,hj⟩⟩
theorem Tryz.infoInt':(Tryz.prog.info? 3).map (fun i=>(i.zero,i.size,i.bytes))=some (some (.int .i64 0),1,8):=by kernel_rfl
set_option maxRecDepth 100000 in
theorem zjN (F:Fence) (n:Nat) (h3:F.fn 233) (h5:F.fn 226) (iw:F.round=none) (hn:3<=n) (Bs:Nat) (sv:Value) (xs:List Int) (dL:xs.length*8<=140737488351232) (w:World)
  (xH:Bs<w.heap.size) (fa:w.cell? ⟨Bs,0,none⟩=some sv) (hI:Sl i64 w sv xs) :
  CallsIn F n Tryz.prog 233 #[.slice none 0 0,.func (.func 226) #[] #[.pointer (some ⟨Bs,0,none⟩)]] w fun e W'=>∃v,e=.returned v/\W'.ownsRow w.heap.size 3 1 v xs.length (xs.map (Value.int .i64))/\(v=.slice none 0 0↔xs=[])/\Below w.heap.size w W':=by
 have h1:1<=n:=oM;obtain⟨i0,hi,eP,fC,iY⟩:=info_parts Tryz.infoInt';refine callsIn_of_wp_marks Tryz.func233 Z h3 ?_ iw;simp only[Tryz.ntmps233,List.size_toArray,qR,qg,Nat.reduceAdd,Nat.reduceSub,Array.replicate_succ,Array.replicate_zero,List.push_toArray,List.append_toArray,pN,List.cons_append]
 gi_wp2;have bO:=Boxed.new w 22 (.slice none 0 0);have pg:Below w.heap.size w (w.alloc (.cells #[.slice none 0 0] 22)):=(Below.refl _ w).alloc (qH _) _;have wY:xs.length<=maxLen:=by unfold maxLen;omega
 refine wpIn_rangeFunc_ownG iw h1 (gf:=226) (lb:=#[.pointer (some ⟨Bs,0,none⟩)]) rfl h5 (enters_of Tryz.func226 kR rfl)
  (zk0 F (n-1) h5 iw oM Bs w.heap.size sv xs dL _ (by simp;omega) (by simp) ((pg.cell (p:=⟨Bs,0,none⟩) xH).trans fa) (hI.below pg) (fun b off len cap e hne=>by
   rcases hI with ⟨hx,_⟩ | ⟨b',dH,bz,e',dF,_⟩
   ·exact absurd hx hne
   ·rw[e']at e;cases e;exact dF)) belowK_t (belowK_b (by simp)) (Below.refl _ _) (fun _=>rfl)
  (fun pre W=>(∃v,Boxed W w.heap.size 22 v/\W.ownsRow w.heap.size 3 1 v pre.length (pre.map (Value.int .i64))/\(v=.slice none 0 0↔pre=[]))/\Below w.heap.size w W)
  (fun _ _ _=>False)
  (OwnFrom.and (Own.from (holdsRow_own w.heap.size w.heap.size 22 3 1 (fun pre=>pre.length) (fun pre=>pre.map (Value.int .i64)) (fun pre v=>v=.slice none 0 0↔pre=[])) _) (ownFrom_below (qH _) (by simp)))
  (fun _ _ _ _ _ hs _ _=>hs)
  ⟨⟨_,bO,World.ownsRow_nil _ _ _ _,by simp⟩,pg⟩
  (fun x=>{ tmps:=#[.slice none 0 0,.func (.func 226) #[] #[.pointer (some ⟨Bs,0,none⟩)],.pointer (some ⟨w.heap.size,0,none⟩),undef,.slice none 0 0,.int .i64 x,.func (.func 226) #[] #[.pointer (some ⟨Bs,0,none⟩)],.int .i64 x,undef,undef,undef,undef,undef],defers:=[] }) ?assign ?body ?done ?stop
 case assign =>
  intro l x W K hK
  gi_wp2;exact hK
 case body =>
  rintro l pre x W ⟨⟨v,hv,je,eG⟩,hB⟩ af;have hc:=hv.cell
  gi_wp2_with (gi_at_builtin;refine wpListIn_append_own _ Z _ _ 22 Z w.heap.size 3 i0 (.int .i64 0) 1 8 Tryz.underlying22 hi eP fC iY Z (by decide) _ _ _ rfl (je.alloc _) ⟨W.heap.size,0,none⟩ 1 1 [.int .i64 x] Z Z (cell_one_new _ _ _) (by simp[Value.oneCell']) oM oM (by have:=hB.size;simp;omega) ?_;intro v' w1 ao iD _;obtain⟨g',bz,rfl⟩:=ownsRow_succ ao;obtain⟨dP,Ju,bM,oS,cP⟩:=hv.appended (by decide) je hB.size (qH _) ao iD;have eA:=dP.cell;have C0:=dP.frozen);exact⟨oS.from _,cP,⟨_,Ju,by simpa using bM,by simp⟩,hB.trans cP⟩
 case done =>
  rintro D ys W hD rfl ⟨⟨v,hv,je,eG⟩,hB⟩ hK;have hc:=hv.cell
  gi_wp2;refine⟨by simp,.inl ⟨_,_,rfl,run_takeDeferred hK,?_⟩⟩;exact⟨_,results_tmp Z _ _ _,v,rfl,ownsRow_putObj je _ hK Z,eG,hB.trans (belowK_b (w:=w) (qH _) W D _ _ (by simp at hD;omega) hK Z Z)⟩
 case stop =>
  rintro D c pre W _ _ h _;exact h.elim
end
section
open Go.RowKit Go.Shelf
attribute [local go_sem] Oper.semAt_some
end
section
open Go.RowKit _root_.Go.Proofs.Tryz
def nxt (s:Int):Int:=IntKind.u64.wrap (s+11400714819323198485)
def X1 (z:Int):Int:=IntKind.u64.wrap (bits .xor .u64 z (z / 1073741824)*13787848793156543929)
def XZ (z:Int):Int:=IntKind.u64.wrap (bits .xor .u64 z (z / 134217728)*10723151780598845931)
def XY (z:Int):Int:=bits .xor .u64 z (z / 2147483648)
def mix (z:Int):Int:=XY (XZ (X1 z))
def XC (n:Int):Int:=18446744073709551615-18446744073709551616 % n
def XF (s:Int):Int:=(-s*17428512612931826493) % 18446744073709551616
def left (s:Int):Nat:=(XF (nxt s)).toNat
def R5 (n:Int):Nat->Int->Int × Int
 | 0,s=>(0,s)
 | k+1,s=>if mix (nxt s)<=XC n then (mix (nxt s) % n,nxt s) else R5 n k (nxt s)
def below (n s:Int):Int × Int:=R5 n (left s+1) s
def rD (n:Nat):List Int:=(List.range n).map Int.ofNat
theorem UE (n:Nat):(rD n).length=n:=by simp[rD]
theorem zqI (n:Nat):rD (n+1)=rD n++[(n:Int)]:=by simp[rD,List.range_succ]
end
section
end
section
def mF (l:List Int):List Int:=l.mergeSort fun x y=>decide (x<=y)
theorem U6 (l:List Int):(mF l).length=l.length:=by simp[mF]
theorem zou (l:List Int):(mF l).Perm l:=List.mergeSort_perm _ _
theorem zkQ (l:List Int):(mF l).Pairwise (·<=·):=by
 have:=List.pairwise_mergeSort (le:=fun x y:Int=>decide (x<=y)) (by intro a b c;simp;omega) (by intro a b;simp;omega) l;unfold mF;exact this.imp (by intro a b h;simpa using h)
end
section
open Go.RowKit Go.Shelf
theorem zlu (Bs:Nat) (sv:Value) (xs:List Int) (dL:xs.length*8<=140737488351232) (w:World)
  (xH:Bs<w.heap.size) (fa:w.cell? ⟨Bs,0,none⟩=some sv) (hI:Sl i64 w sv xs) :
  Calls Tryz.prog 224 #[.func (.func 226) #[] #[.pointer (some ⟨Bs,0,none⟩)]] w fun e W'=>∃v,e=.returned v/\W'.ownsRow w.heap.size 3 1 v xs.length (xs.map (Value.int .i64))/\(v=.slice none 0 0↔xs=[])/\Below w.heap.size w W':=by
 go_enter Tryz.func224,Tryz.ntmps224
 go_wp2_with fail;refine((callsIn_wide (n:=3)).1 (zjN Fence.wide 3 trivial trivial rfl oM Bs sv xs dL w xH fa hI)).mono ?_;rintro e w1 ⟨v,rfl,ah,eG,hb⟩;go_wp2
 go_ret;exact⟨v,rfl,ah,eG,hb⟩
theorem zov (Bs:Nat) (sv:Value) (xs:List Int) (dL:xs.length*8<=140737488351232) (w:World)
  (xH:Bs<w.heap.size) (fa:w.cell? ⟨Bs,0,none⟩=some sv) (hI:Sl i64 w sv xs) :
  Calls Tryz.prog 203 #[.func (.func 226) #[] #[.pointer (some ⟨Bs,0,none⟩)]] w fun e W'=>∃v,e=.returned v/\W'.ownsRow w.heap.size 3 1 v xs.length ((mF xs).map (Value.int .i64))/\Below w.heap.size w W':=by
 go_enter Tryz.func203,Tryz.ntmps203
 go_wp2_with fail;refine(zlu Bs sv xs dL w xH fa hI).mono ?_;rintro e w1 ⟨v,rfl,ah,eG,hb⟩;have HN:=hid eG;clear eG;rcases ah.2 with ⟨rfl,h0⟩ | ⟨g,cap,cur,rfl,aI,hh,h1,h2,h3,h4⟩
 ·have hx:xs=[]:=HN.out.1 rfl;subst hx
  go_wp2_with fail;refine(Tryz.slices_Sort_int_none _ _ _).mono ?_;rintro e w2 ⟨rfl,rfl⟩;go_wp2
  go_ret;exact⟨.slice none 0 0,rfl,by simpa[mF] using ah,hb⟩
 ·have hH:=hid (holds_of_blockI hh (by simpa using h4));have H3:=hid h3;have H4:=hid h4;have HH:=hid hh;clear h3 h4 hh
  go_wp2_with fail;refine(Tryz.slices_Sort_int g 0 cap xs w1 hH.out (lt_of_block HH.out) oM).mono ?_;rintro e w2 ⟨rfl,nn,os,rfl⟩;have ho:=ownsRow_sortedI (n:=nn) (os:=os) (ss:=xs) (ts:=mF xs) (U6 xs) aI HH.out h1 h2 H3.out;have hg:=grownBy_sortedI (w:=w1) (g:=g) (n:=nn) (os:=os) (mF xs).toArray;have C3:=hb.grown hg hb.size (fun k e=>by cases e;exact aI);have HO:=hid ho;clear ho;go_wp2
  go_ret;exact⟨_,rfl,HO.out,C3⟩
end
section
def Dl (cols cs:List Int):Prop:=cs.Pairwise (·<·)/\∀c,c∈cs↔c∈cols
theorem UO (zs:List Int) (h:zs.Pairwise (·<=·)):∀m,m<=zs.length->(Lib.compactUpTo zs.toArray m).Pairwise (·<·)/\∀c,c∈Lib.compactUpTo zs.toArray m↔c∈zs.take m
 | 0,_=>⟨List.Pairwise.nil,fun c=>by simp[Lib.compactUpTo]⟩
 | m+1,hm=>by
  obtain⟨h1,h2⟩:=UO zs h m oM;have af:m<zs.length:=oM;have hg:zs.toArray[m]! = zs[m]:=by simp[af]
  have ht:zs.take (m+1)=zs.take m++[zs[m]]:=qS af;have uF:=h;rw[<-List.take_append_drop (m+1) zs,ht]at uF;have hle:∀x,x∈zs.take m->x<=zs[m]:=fun x hx=>(List.pairwise_append.1 (List.pairwise_append.1 uF).1).2.2 x hx _ (pK.2 rfl);rw[Lib.compactUpTo_succ];by_cases hk:Lib.keeps zs.toArray m=true
  ·rw[if_pos hk,hg,ht];refine⟨List.pairwise_append.2 ⟨h1,List.pairwise_singleton _ _,fun x hx y hy=>?_⟩,fun c=>?_⟩
   ·rw[pK.1 hy];have hx':=(h2 x).1 hx;have gT:=hle x hx';unfold Lib.keeps at hk;rw[decide_eq_true_eq]at hk;rcases hk with rfl | hne
    ·rw[List.take_zero]at hx';cases hx'
    ·have rh:0<m:=by
      rcases qz m with rfl | h0
      ·rw[List.take_zero]at hx';cases hx'
      ·exact h0
     have hp:zs.toArray[m-1]! = zs[m-1]:=by simp[show m-1<zs.length by omega]
     rw[hg,hp]at hne
     have Jw:zs.take m=zs.take (m-1)++[zs[m-1]]:=by
      have:=qS (show m-1<zs.length by omega)
      rwa [Nat.sub_add_cancel rh]at this
     have Fm:=(List.pairwise_append.1 (List.pairwise_append.1 uF).1).1;rw[Jw]at Fm hx'
     have hxp:x<=zs[m-1]:=by
      rcases List.mem_append.1 hx' with hx' | hx'
      ·exact(List.pairwise_append.1 Fm).2.2 x hx' _ (pK.2 Z)
      ·rw[pK.1 hx'];exact Int.le_refl _
     have jf:zs[m-1]<=zs[m]:=hle _ (by rw[Jw];exact List.mem_append_right _ (pK.2 Z));omega
   ·rw[List.mem_append,List.mem_append,h2 c]
  ·rw[if_neg hk,qG,ht];refine⟨h1,fun c=>?_⟩;unfold Lib.keeps at hk;rw[decide_eq_true_eq,not_or]at hk;have rh:0<m:=oM;have hp:zs.toArray[m-1]! = zs[m-1]:=by simp[show m-1<zs.length by omega]
   rw[hg,hp]at hk;have he:zs[m]=zs[m-1]:=by have:=hk.2;omega
   have Jw:zs.take m=zs.take (m-1)++[zs[m-1]]:=by
    have:=qS (show m-1<zs.length by omega)
    rwa [Nat.sub_add_cancel rh]at this
   rw[h2 c,List.mem_append,pK,he];constructor
   ·exact .inl
   ·rintro (h | rfl)
    ·exact h
    ·rw[Jw];exact List.mem_append_right _ (pK.2 Z)
theorem ZR (cols:List Int):Dl cols (Lib.compact (mF cols)):=by
 have h:=UO (mF cols) (zkQ cols) (mF cols).length (qH _);refine⟨h.1,fun c=>?_⟩;have:=h.2 c;rw[qa]at this;exact this.trans (zou cols).mem_iff
end
section
open Go.RowKit _root_.Go.Proofs.Tryz
theorem zkK {H:Hp} (a:Option Addr) (len cap:Nat):PC prog 204 #[.slice a len cap] H fun r H'=>∃b,r=.func (.func 226) #[] #[.pointer (some ⟨b,0,none⟩)]/\H' b=some [Value.slice a len cap].toArray:=by
 refine BD func204 ntmps204 ?_;refine uR ?_;(first|refine EVL.unbox (1) Z fun b=>?_|refine EV.unbox (1) Z fun b=>?_);(first|refine EVL.publish [] [] Z fun G1 aj hb=>?_|refine EV.publish [] [] Z fun G1 aj hb=>?_);refine EVL.fn1 Z Z Z Z Z ?_;refine uR ?_;exact⟨b,rfl,hb⟩
theorem zlP {W:World} {base:Nat} {e:TypeId} {size:Nat} {v:Value} {n:Nat} {xs:List Value} (h:W.ownsRow base e size v n xs):∃ow,aF e size v n xs ow/\Ds base W ow:=by
 obtain⟨h1,⟨rfl,rfl⟩ | ⟨g,cap,cur,rfl,hb,hh,hc,hm,hs,ht⟩⟩:=h
 ·exact⟨[],⟨h1,.inl ⟨rfl,rfl,rfl⟩⟩,by simp,fun b T cs h=>by cases h⟩
 ·have fI:cur.toList=xs++cur.toList.drop (n*size):=by rw[<-ht,List.take_append_drop]
  refine⟨[(g,e,xs++cur.toList.drop (n*size))],⟨h1,.inr ⟨g,cap,_,rfl,rfl,by rw[<-fI];simpa using hs,hc,hm⟩⟩,by simp,fun b T cs h=>?_⟩;rw[pK]at h;cases h;refine⟨hb,?_⟩;rw[<-fI];exact hh
theorem zqw {H:Hp} {b:Nat} {sv:Value} {xs:List Int} (hB:H b=some [sv].toArray) (hs:IL H sv xs) (hl:xs.length<=1000000) :
  PO prog 203 #[.func (.func 226) #[] #[.pointer (some ⟨b,0,none⟩)]] H fun v ow=>aF 3 1 v xs.length ((mF xs).map iv) ow:=by
 refine⟨(cO func203),fun W hf hg=>?_⟩;obtain⟨T,fz,hW⟩:=hf b _ hB;obtain⟨a,cap,rfl,bA,_⟩:=hs.sl hf;have af:b<W.heap.size:=(Array.getElem?_eq_some_iff.1 hW).1;refine(zov b _ xs oM W af (by rw[cell_of_row W b 0 _ T fz hW];rfl) bA).mono ?_;rintro e W' ⟨v,rfl,ah,hb⟩;obtain⟨ow,h1,h2⟩:=zlP ah;exact⟨v,ow,rfl,h1,h2,hb⟩
theorem UN (zs:List Int):(Lib.compact zs).length<=zs.length:=by
 unfold Lib.compact Lib.compactUpTo;rw[qV];exact qI (List.length_filter_le _ _) (by simp)
theorem znA {H:Hp} {v:Value} {zs:List Int} {ow:Ows} (h:aF 3 1 v zs.length (zs.map iv) ow) (hl:zs.length<=1000000) :
  PW prog 202 #[v] H ow fun r au _=>aF 3 1 r (Lib.compact zs).length ((Lib.compact zs).map iv) au:=by
 refine⟨(cO func202),fun W hf hg hL hd=>?_⟩;by_cases h0:zs.length=0
 ·obtain rfl:=pJ.1 h0;obtain⟨a,cap,rfl⟩:=h.val;refine(Tryz.slices_Compact_int_empty a cap W).mono ?_;rintro e W' ⟨rfl,rfl⟩;exact⟨_,ow,H,rfl,h,Hp.Le.refl _,hf,Nw.refl _ _ _,bK.refl _ _,fun j b T cs hj=>⟨(hL j b T cs hj).1,.inr (Ows.bs_mem hj),(hL j b T cs hj).2.1⟩,hd⟩
 ·obtain⟨g,cap,sp,rfl,rfl,hlen,hle,wY⟩:=h.block oM;obtain⟨hB,Xa,hgg⟩:=hL 0 g _ _ rfl;refine(Tryz.slices_Compact_int_cells g 0 zs.length cap zs W (qH _) oM hle (fun j hj=>?_) (fun j hj=>hB.free _)).mono ?_
  ·rw[hB.at (0+j)];rw[qu];simp[hj,List.getElem?_append]
  rintro e W' ⟨rfl,q,rfl⟩;rw[qa];have cj:=UN zs;generalize Lib.compact zs=cs at *
  have rv:Box (W.drewN q) g (zs.map iv++sp).toArray 3:=hB;have eQ:((cs++List.replicate (zs.length-cs.length) 0).map (Value.int .i64)).length=zs.length:=by simp;omega
  have tB:=Box.setCells ((cs++List.replicate (zs.length-cs.length) 0).map (Value.int .i64)) 0 (W.drewN q) _ rv (by rw[eQ];simp);have hk:=El g ((cs++List.replicate (zs.length-cs.length) 0).map (Value.int .i64)) 0 (W.drewN q);have oS:bK (fun k=>k=g) W ((W.drewN q).setCells g 0 ((cs++List.replicate (zs.length-cs.length) 0).map (Value.int .i64))):=⟨hk.os,hk.tape,hk.output,hk.size,hk.block⟩
  have ko:(zs.map iv++sp).take 0++(cs++List.replicate (zs.length-cs.length) 0).map (Value.int .i64)++(zs.map iv++sp).drop (0+((cs++List.replicate (zs.length-cs.length) 0).map (Value.int .i64)).length)=cs.map iv++((List.replicate (zs.length-cs.length) 0).map iv++sp):=by
   rw[eQ,List.take_zero,pN,qu,List.drop_left' (by simp),qo];simp
  rw[ko]at tB;refine⟨_,[(g,3,cs.map iv++((List.replicate (zs.length-cs.length) 0).map iv++sp))],H,rfl,⟨by simp,.inr ⟨g,cap,_,rfl,rfl,?_,by omega,wY⟩⟩,Hp.Le.refl _,fun b c hb=>?_,Nw.refl _ _ _,oS.mono (fun k _ e=>by subst e;exact Ows.bs_mem (j:=0) rfl),fun j b T aq hj=>?_,?_⟩
  ·rw[<-hlen];simp;omega
  ·obtain⟨T,fz,hW⟩:=hf b c hb;refine⟨T,fz,?_⟩;rw[oS.block b (hf.lt (by rw[hb];simp)) (fun e=>by subst e;rw[Xa]at hb;cases hb)];exact hW
  ·cases j with
   | zero=>cases (show some (g,3,cs.map iv++((List.replicate (zs.length-cs.length) 0).map iv++sp))=some (b,T,aq) from hj);exact⟨tB,.inr (Ows.bs_mem (j:=0) rfl),Xa⟩
   | succ j=>simp at hj
  ·intro j j' b' T1 T2 c1 c2 h1 h2
   cases j with
   | zero=>cases j' with
    | zero=>rfl
    | succ j'=>simp at h2
   | succ j=>simp at h1
def kS (st:Option (Int × Rat × Rat)) (p:Int × Option (Rat × Rat)):Option (Int × Rat × Rat):=match p.2 with
 | none=>st
 | some (a,w)=>match st with
  | none=>some (p.1,a,w)
  | some (c0,a0,w0)=>if w0<w then some (p.1,a,w) else some (c0,a0,w0)
def gP (ps:List (Int × Option (Rat × Rat))):Option (Int × Rat × Rat):=ps.foldl kS none
theorem zns (ps:List (Int × Option (Rat × Rat))) (p:Int × Option (Rat × Rat)):gP (ps++[p])=kS (gP ps) p:=by unfold gP;rw[List.foldl_append];rfl
theorem SD {ps:List (Int × Option (Rat × Rat))} {B:Nat} (h:∀p,p∈ps->ht (stW p.2)<=B):∀c a w,gP ps=some (c,a,w)->ht w<=B:=by
 have key:∀(qs:List (Int × Option (Rat × Rat))) (st:Option (Int × Rat × Rat)),(∀p,p∈qs->ht (stW p.2)<=B)->(∀c a w,st=some (c,a,w)->ht w<=B)->∀c a w,qs.foldl kS st=some (c,a,w)->ht w<=B:=by
  intro qs
  induction qs with
  | nil=>intro st _ h2 c a w h3;exact h2 c a w h3
  | cons p qs ih =>
   intro st h1 h2 c a w h3;refine ih (kS st p) (fun q hq=>h1 q (qk _ hq)) ?_ c a w h3;intro c a w h4;have hp:=h1 p (qf ..);unfold kS at h4
   cases ho:p.2 with
   | none=>rw[ho]at h4;exact h2 c a w h4
   | some q =>
    obtain⟨a1,w1⟩:=q;rw[ho]at h4 hp
    cases st with
    | none=>cases h4;exact hp
    | some t =>
     obtain⟨c0,a0,w0⟩:=t;dsimp only at h4;split at h4
     ·cases h4;exact hp
     ·cases h4;exact h2 _ _ _ Z
 exact key ps none h (fun c a w h=>by cases h)
def xR:Option (Int × Rat × Rat)->List Value
 | none=>.int .i64 0::(aB (aC 0)++aB (aC 0))
 | some (c,a,w)=>.int .i64 c::(aB (aC a)++aB (aC w))
theorem Sw:aa238.zero=xR none:=by
 unfold xR;rw[rN];rfl
abbrev XG (c:Int) (a w:Rat):Value:=.agg (xR (some (c,a,w))).toArray
def Yt (X:List (List Rat)) (wo:List Int->Rat) (rs cols:List Int) (least:Int) (r:Value):Prop :=
 ∃ps:List (Int × Option (Rat × Rat)),Dl cols (ps.map (·.1))/\(∀p,p∈ps->xS X wo rs (max least 1) p.1 p.2) /\
  ((gP ps=none/\r=.tuple #[.agg (xR none).toArray,.bool false])\/∃c a w,gP ps=some (c,a,w)/\r=.tuple #[XG c a (w-wo rs),.bool true])
theorem ZB {H:Hp} {kd cl:Int} {sl sv vx vr vc:Value} {X:List (List Rat)} {S:List Int->List Value} {wo:List Int->Rat} {rs cols:List Int} {least:Int} (hg:GOk H kd cl sl sv X.length S wo) (hX:QLL H vx X) (hr:IL H vr rs) (hn:rs.length<=20) (hc:IL H vc cols) (oW:cols.length<=1000000) (hb:∀x,x∈X->∀q,q∈x->ht q<=100) :
  PC prog 161 #[bG kd cl sl sv,vx,vr,vc,.int .i64 least] H fun r _=>Yt X wo (exL rs X.length) cols least r:=by
 have hlen:=hg.leng;have hex:=fun (G:Hp) (hG:H.Le G)=>Eh (hr.mono hG) oM X.length;have jl:=kU rs X.length;have mm:=uf (rs:=rs) (n:=X.length);generalize exL rs X.length=es at *
 obtain⟨xa,xc,rfl⟩:=hX.val;obtain⟨ra,rc,rfl⟩:=SlC.val hr;obtain⟨ca,cc,rfl⟩:=SlC.val hc;refine BD func161 ntmps161 ?_;refine uR ?_;refine vA (hg.check _ (Hp.Le.refl _)) ?_;rintro r0 G1 rfl aj
 repeat (first|refine RUN ?_|refine CV (hlen) ?_|refine CE (hlen) ?_)
 rw[show ((X.length:Int) != (X.length:Int))=false from pP _];refine uR ?_;refine vA (hex _ aj) ?_;intro r1 G2 he ai;obtain⟨ea,ec,rfl⟩:=SlC.val he;refine uR ?_;refine vA (zkK ca cols.length cc) ?_;rintro r2 G3 ⟨b,rfl,ei⟩ ax;have WH:=hc.mono (aj.trans (ai.trans ax));refine EVL.callO Z Z Z Z Z (zqw ei WH oW) ?_;rintro r4 CJ AT;have cj:=U6 cols;rw[<-cj]at AT;refine EVL.callW Z Z Z Z Z (CJ) ([]) Z (znA AT oM) ?_;rintro r5 Vt G5 wP bj;have jJ:=ZR cols;have hcl2:=UN (mF cols);generalize Lib.compact (mF cols)=cs at *
 obtain⟨ka,kc,rfl⟩:=wP.val;(first|refine EVL.publishL [] Vt [] (rfl) wP fun G6 bu Pb=>?_|refine EV.publishL [] Vt [] (rfl) wP fun G6 bu Pb=>?_);have Pa:IL G6 (.slice ka cs.length kc) cs:=Pb;clear ei WH AT wP Pb;have av:=aj.trans (ai.trans (ax.trans (bj.trans bu)));have Ww:=hg.mono av;have hX6:=hX.mono av;have WA:=he.mono (ax.trans (bj.trans bu));refine uR ?_;refine EV.loopK (ι:=List (Int × Option (Rat × Rat))) [1,2,4,5,10,12,38,39] [5,10] (fun ps=>[(13,.v (.bool (gP ps).isSome)),(40,.v (.int .i64 (ps.length:Int)))]) (fun ps=>[(12,238,xR (gP ps))]) (fun _=>[]) (fun ps _=>ps.map (·.1)=cs.take ps.length/\ps.length<=cs.length/\∀p,p∈ps->xS X wo es (max least 1) p.1 p.2) (fun ps=>cs.length-ps.length) ([]) Z Z ⟨Z,Z,trivial⟩ ⟨by rw[show gP []=none from rfl,<-Sw];rfl,trivial⟩ rfl (fun _=>rfl) (⟨rfl,qQ _,by simp⟩) ?_;rintro ps G7 aZ ⟨gC,fS,Fq⟩;refine uR ?_;refine EV.cond Z (fun af=>?_) (fun af=>?_)
 ·simp only[nN]at af;obtain⟨c,oY⟩:∃c,cs[ps.length]?=some c:=⟨_,qA af⟩;have eg:=zo7 (col:=c) (least:=max least 1) (Ww.mono aZ) (hX6.mono aZ) (WA.mono aZ) oM mm hb;refine uR ?_;refine vI ((Pa.mono aZ)) (ps.length) (rfl) (af) ((by rw[qK,oY];rfl)) ?_;refine uR ?_;refine EVL.asI (max least 1) ((by split <;> omega)) ?_;refine vA (eg) ?_;rintro r6 G8 ⟨o,hR,rfl⟩ bt;have eU:∀o,(ps++[(c,o)]).length=ps.length+1:=fun o=>by simp
  have wn:IntKind.i64.wrap ((ps.length:Int)+1)=((ps.length+1:Nat):Int):=aO _ oM
  have oN:∀o,(ps++[(c,o)]).map (·.1)=cs.take (ps++[(c,o)]).length:=fun o=>by
   rw[eU,dZ oY,<-gC,qo];rfl
  have ee:∀o,xS X wo es (max least 1) c o->∀p,p∈ps++[(c,o)]->xS X wo es (max least 1) p.1 p.2:=fun o h p hp=>by
   rcases List.mem_append.1 hp with hp | hp
   ·exact Fq p hp
   ·rw[pK.1 hp];exact h
  have fk:=zns ps (c,o);have hwb:ht (stW o)<=200001:=by obtain⟨_,_,_,h⟩:=hR;exact h
  have NI:∀c a w,gP ps=some (c,a,w)->ht w<=200001:=SD fun p hp=>by obtain⟨_,_,_,h⟩:=Fq p hp;exact h
  cases o with
  | none =>
   have fg:gP (ps++[(c,none)])=gP ps:=fk;refine uR ?_;refine⟨ps++[(c,none)],⟨by rw[fg];rfl,by rw[eU,wn];rfl,trivial⟩,sB,⟨by rw[fg];rfl,trivial⟩,sB,rfl,⟨oN _,by rw[eU];omega,ee _ hR⟩,by assumption,by rw[eU];omega⟩
  | some q =>
   obtain⟨a,w⟩:=q
   cases aK:gP ps with
   | none =>
    have aL:gP (ps++[(c,some (a,w))])=some (c,a,w):=by rw[fk,aK];rfl
    refine uR ?_;refine⟨ps++[(c,some (a,w))],⟨by rw[aL];rfl,by rw[eU,wn];rfl,trivial⟩,sB,⟨by rw[aL];rfl,trivial⟩,sB,rfl,⟨oN _,by rw[eU];omega,ee _ hR⟩,by assumption,by rw[eU];omega⟩
   | some t =>
    obtain⟨c0,a0,w0⟩:=t;have aS:=pC w w0 (bE (show ht w<=200001 from hwb) oM) (bE (NI _ _ _ aK) oM)
    repeat (first|refine RUN ?_|refine CV (aS) ?_|refine CE (aS) ?_)
    by_cases iz:w0<w
    ·have aL:gP (ps++[(c,some (a,w))])=some (c,a,w):=by rw[fk,aK];exact if_pos iz
     rw[qD (DX.2 iz)];refine uR ?_;refine⟨ps++[(c,some (a,w))],⟨by rw[aL];rfl,by rw[eU,wn];rfl,trivial⟩,sB,⟨by rw[aL];rfl,trivial⟩,sB,rfl,⟨oN _,by rw[eU];omega,ee _ hR⟩,by assumption,by rw[eU];omega⟩
    ·have aL:gP (ps++[(c,some (a,w))])=some (c0,a0,w0):=by rw[fk,aK];exact if_neg iz
     rw[qC (fun h=>iz (DX.1 h))];refine uR ?_;refine⟨ps++[(c,some (a,w))],⟨by rw[aL];rfl,by rw[eU,wn];rfl,trivial⟩,sB,⟨by rw[aL];rfl,trivial⟩,sB,rfl,⟨oN _,by rw[eU];omega,ee _ hR⟩,by assumption,by rw[eU];omega⟩
 ·simp only[nN]at af;have uG:ps.length=cs.length:=oM;have bC:ps.map (·.1)=cs:=by rw[gC,uG,qa]
  rw[<-bC]at jJ;have NI:∀c a w,gP ps=some (c,a,w)->ht w<=200001:=SD fun p hp=>by obtain⟨_,_,_,h⟩:=Fq p hp;exact h
  cases aK:gP ps with
  | none =>
   refine uR ?_;exact⟨ps,jJ,Fq,.inl ⟨aK,by rw[<-Sw];rfl⟩⟩
  | some t =>
   obtain⟨c,a,w⟩:=t;have aQ:=zG w (wo es) (bE (NI _ _ _ aK) oM) (bE (hg.small es oM mm) oM);have JL:=hg.len es;refine uR ?_;refine EVL.call Z Z Z Z Z (Ww.whole _ aZ _ es (WA.mono aZ) oM mm) ?_;rintro r6 G8 rfl bt;obtain⟨sn,scs,ssq,sq,oH,hS⟩:=hg.form es;obtain⟨c0,c1,c2,c3,c4,c5,c6,c7,c8,c9,rB,pj,rfl⟩:=QN oH;rw[hS];refine uR ?_;(first|refine EVL.unbox (19) Z fun b=>?_|refine EV.unbox (19) Z fun b=>?_);(first|refine EVL.swapOw ([(b,279,S es)]) ([]) ((by rw[hS];rfl)) ?_|refine EV.swapOw ([(b,279,S es)]) ([]) ((by rw[hS];rfl)) ?_);have nz:=fun G':Hp=>hg.worth G' b 0 279 [] [] es rfl oM mm;simp only[qG]at nz;clear hS;refine uR ?_;apply EV.drawn 7 kR kR;intro xv yw;(repeat (first|refine' DD ?_|refine' vN ?_|refine' vF ?_));(refine' DJ.callR Z Z Z Z Z 0 Z (by simp[JL]) (cO func200) (fun G'=>nz G') ?_;rotate_left);(repeat (first|refine' DD ?_|(refine' DC (aQ) (h:=?_);rotate_left)));(refine DJ.nil (fun G9 dG hF9=>?_);(case hS|hS2=>rfl));refine uR ?_;exact⟨ps,jJ,Fq,.inr ⟨c,a,w,aK,rfl⟩⟩
def RRs (H:Hp) (vs:List Value) (X:List (List Rat)):Prop:=vs.length=X.length/\∀(j:Nat) (u:Value) (x:List Rat),vs[j]?=some u->X[j]?=some x->RL H u x
theorem RRs.mono {H G:Hp} {vs:List Value} {X:List (List Rat)} (h:RRs H vs X) (k:H.Le G):RRs G vs X:=⟨h.1,fun j u x e1 e2=>(h.2 j u x e1 e2).mono k⟩
theorem RRs.nil (H:Hp):RRs H [] []:=⟨rfl,fun j u x h=>by simp at h⟩
theorem RRs.snoc {H:Hp} {vs:List Value} {X:List (List Rat)} {u:Value} {x:List Rat} (h:RRs H vs X) (k:RL H u x):RRs H (vs++[u]) (X++[x]):=Rx h k
def RLL (H:Hp) (v:Value) (X:List (List Rat)):Prop:=∃vs:List Value,RRs H vs X/\SlC H v X.length 1 vs
theorem RLL.mono {H G:Hp} {v:Value} {X:List (List Rat)} (h:RLL H v X) (k:H.Le G):RLL G v X:=by
 obtain⟨vs,h1,h2⟩:=h;exact⟨vs,h1.mono k,h2.mono k⟩
theorem RLL.val {H:Hp} {v:Value} {X:List (List Rat)} (h:RLL H v X):∃a c,v=.slice a X.length c:=by
 obtain⟨vs,_,h2⟩:=h;exact SlC.val h2
theorem RRs.at {H:Hp} {vs:List Value} {X:List (List Rat)} (h:RRs H vs X) {j:Nat} {x:List Rat} (hj:X[j]?=some x):∃a c,vs[j]?=some (.slice a x.length c)/\RL H (.slice a x.length c) x:=by
 obtain⟨hl,_⟩:=qE.1 hj;obtain⟨u,hu⟩:∃u,vs[j]?=some u:=⟨_,qA (by rw[h.1];exact hl)⟩;have hq:=h.2 j u x hu hj;obtain⟨a,c,rfl⟩:=hq.val;exact⟨a,c,hu,hq⟩
def oe (l:List Int) (n w:Nat):List (List Rat):=(List.range n).map fun i=>lR (l.drop (min l.length (i*w))) w
theorem IP (l:List Int) (n w:Nat):(oe l n w).length=n:=by simp[oe]
theorem zr2 (l:List Int) {n w i:Nat} (h:i<n):(oe l n w)[i]?=some (lR (l.drop (min l.length (i*w))) w):=by
 unfold oe;rw[qK,List.getElem?_range h];rfl
theorem IL.drop {H:Hp} {a:Option Addr} {cap:Nat} {l:List Int} (h:IL H (.slice a l.length cap) l) (k:Nat) (hk:k<=l.length):IL H (.slice (if cap=k then a else a.map (·.add (k*1))) (l.length-k) (cap-k)) (l.drop k):=by
 have hs:SlC H (.slice a l.length cap) l.length 1 (l.map iv):=h;have:=hs.sub k l.length hk (qH _) (SlN.le h);unfold IL SlN;rw[qt,List.map_drop];rw[Nat.mul_one,Nat.mul_one,qO (by simp)]at this;rw[Nat.mul_one];exact this
theorem Y3 {H:Hp} {v:Value} {l:List Int} (h:IL H v l) (hb:∀z,z∈l -> -9223372036854775808<=z/\z<9223372036854775808) (n w:Nat) (hn:n<=1000) (hw:w<=1000):PC prog 21 #[v,.int .i64 (n:Int),.int .i64 (w:Int)] H fun r H'=>RLL H' r (oe l n w):=by
 obtain⟨a,cap,rfl⟩:=SlC.val h;have bZ:l.length<=cap:=SlN.le h;refine BD func21 ntmps21 ?_;refine uR ?_;refine EV.loopK (ι:=Nat × List Value × Value × Ows) [0,1,2] [] (fun q=>[(7,.v q.2.2.1),(8,.v (.int .i64 (q.1:Int)))]) (fun _=>[]) (fun q=>q.2.2.2) (fun q G=>q.1<=n/\RRs G q.2.1 ((oe l n w).take q.1)/\aF 27 1 q.2.2.1 q.1 q.2.1 q.2.2.2) (fun q=>n-q.1) ((0,[],.slice none 0 0,[])) Z Z ⟨Z,Z,trivial⟩ trivial rfl (fun _=>rfl) (⟨qQ _,RRs.nil _,aF.nil _ _⟩) ?_;rintro⟨i,vs,u,ow⟩ G1 aj ⟨hi,aG,ah⟩;dsimp only at hi aG ah;obtain⟨wa,wc,rfl⟩:=ah.val;refine uR ?_;refine EV.cond Z (fun af=>?_) (fun af=>?_)
 ·simp only[nN]at af;have hk:i*w<=1000*1000:=Nat.mul_le_mul oM hw
  have NG:IntKind.i64.wrap ((i:Int)*(w:Int))=((i*w:Nat):Int):=by
   rw[<-Int.natCast_mul];generalize i*w=k at *;rw[pL];omega
  have je:=zr2 l (w:=w) af;generalize i*w=k at *
  have hd:=IL.drop (h.mono aj) (min l.length k) (Nat.min_le_left _ _);have hrp:=QY hd (fun z hz=>hb z (List.mem_of_mem_drop hz)) w oM;refine uR ?_;rw[NG];refine EVL.asI ((min l.length k:Nat)) ((by split <;> omega)) ?_;refine EVL.slc tO Z Z Z Z Z Z Z Z (min l.length k) l.length (.inr ⟨_,IntKind.i64,rfl,rfl⟩) (.inl ⟨rfl,rfl⟩) (Nat.min_le_left _ _) bZ bZ ?_;refine uR ?_;refine vA (hrp) ?_;rintro r G2 hr ai;obtain⟨ra,rc,rfl⟩:=hr.val;refine uR ?_;refine EVL.app1 tO Z Z Z Z Z Z Z Z Z Z Z Z Z Z Z Z Z Z Z (fun _=>rfl) (ow) ([]) ((qG _).symm) (ah) oM fun _=>?_;intro v' au ao;refine uR ?_;refine⟨(i+1,vs++[_],v',au),⟨rfl,?_,trivial⟩,sB,trivial,trivial,qG _,⟨af,by rw[dZ je];exact(aG.mono ai).snoc hr,ao⟩,ai,by dsimp only;omega⟩;rw[aO i (by omega)];rfl
 ·simp only[nN]at af;obtain rfl:i=n:=oM;rw[qO (by rw[IP];omega)]at aG;(first|refine EVL.publishL [] ow [] ((qG _).symm) ah fun G2 ai hs=>?_|refine EV.publishL [] ow [] ((qG _).symm) ah fun G2 ai hs=>?_);refine uR ?_;exact⟨vs,aG.mono ai,by rw[IP];exact hs⟩
theorem TQ {H:Hp} {v:Value} {X:List (List Rat)} (h:RLL H v X) (hn:X.length<=1000000) (hx:∀x,x∈X->x.length<=1000000/\∀q,q∈x->rq q):PC prog 11 #[v] H fun r H'=>QLL H' r X:=by
 obtain⟨a,cap,rfl⟩:=h.val;refine BD func11 ntmps11 ?_;refine uR ?_;refine EV.loopK (ι:=Nat × List Value × Value × Ows) [0] [] (fun q=>[(3,.v q.2.2.1),(4,.v (.int .i64 (q.1:Int)))]) (fun _=>[]) (fun q=>q.2.2.2) (fun q G=>q.1<=X.length/\QVs G q.2.1 (X.take q.1)/\aF 60 1 q.2.2.1 q.1 q.2.1 q.2.2.2) (fun q=>X.length-q.1) ((0,[],.slice none 0 0,[])) Z Z ⟨Z,Z,trivial⟩ trivial rfl (fun _=>rfl) (⟨qQ _,QVs.nil _,aF.nil _ _⟩) ?_;rintro⟨i,vs,u,ow⟩ G1 aj ⟨hi,aG,ah⟩;dsimp only at hi aG ah;obtain⟨wa,wc,rfl⟩:=ah.val;refine uR ?_;refine EV.cond Z (fun af=>?_) (fun af=>?_)
 ·simp only[nN]at af;obtain⟨x,di⟩:=gE af;have mM:=hx x (qF di);obtain⟨us,fX,hs⟩:=h.mono aj;obtain⟨a1,c1,jz,hR⟩:=fX.at di;have lC:=LG hR oM mM.2;refine uR ?_;refine vI (hs) (i) (rfl) (af) (jz) ?_;refine uR ?_;refine vA (lC) ?_;rintro r G2 hr ai;obtain⟨ra,rc,rfl⟩:=SlC.val hr;refine uR ?_;refine EVL.app1 tO Z Z Z Z Z Z Z Z Z Z Z Z Z Z Z Z Z Z Z (fun _=>rfl) (ow) ([]) ((qG _).symm) (ah) oM fun _=>?_;intro v' au ao;refine uR ?_;refine⟨(i+1,vs++[_],v',au),⟨rfl,?_,trivial⟩,sB,trivial,trivial,qG _,⟨af,by rw[dZ di];exact(aG.mono ai).snoc hr,ao⟩,ai,by dsimp only;omega⟩;rw[aO i (by omega)];rfl
 ·simp only[nN]at af;obtain rfl:i=X.length:=oM;rw[qa]at aG;(first|refine EVL.publishL [] ow [] ((qG _).symm) ah fun G2 ai hs=>?_|refine EV.publishL [] ow [] ((qG _).symm) ah fun G2 ai hs=>?_);refine uR ?_;exact⟨vs,aG.mono ai,hs⟩
def xX (key:Int->Rat) (m:List Int):Nat->List Rat
 | 0=>[]
 | j+1=>xX key m j++if key (m.getD j 0)<key (m.getD (j+1) 0) then [fp key m j] else []
end
end Go.Proofs.YtkeklikocibiaaaGreatDoor
