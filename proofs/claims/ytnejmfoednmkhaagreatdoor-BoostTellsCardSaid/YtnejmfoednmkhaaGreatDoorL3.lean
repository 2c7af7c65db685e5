/- Texts of ours in one: Gc3, Gc4, Gc5, GcdS, Fr1, Fr2, Fr3, Ha1, Ha2, Ls1, Ls2, Ls3, Fr4, NearP, NearQ, SimpP, SimpS, Lw1, Lw2, Str1, Lw3, Lw4, Simp, Simp2, Simp3, Simp4, Ls4, Ls5, Ls6, Gn1, Gn2, Gn3, Gn7, Ev22, Gn8, Gn4, Gn5, Gn9, Gn6, Ev23, Gn10, Gn11, Seq, Sorted, DicePlain, Lists, SortPlain, Asc, GnC, Gn12, Gn13, Gn14, GnR, GnS, GrP, GnT, GnV, Wd1, Ls7, LsR, Ls8, Wd2, Ha3, Lw8, Lw9, Wd3, Wd4, Ev24, RqL, Wd5, GnX, Tr1, Ev25, Wd6, Tr2, Dice, Draw, RefDice, Dg1, Wd7. -/
import Derived.Test.YtnejmfoednmkhaaGreatDoorL0
import Derived.Test.YtnejmfoednmkhaaGreatDoorL1
import Derived.Test.YtnejmfoednmkhaaGreatDoorL2
import Derived.Test.YtnejmfoednmkhaaGreatDoorProg
import Derived.RangeFuncBox
import Derived.RangeFuncLeaves
import Derived.Shelf.Abstract
import Derived.OwnWalkIn
import Derived.TacticsInMore
import Derived.LoopNIn
import Derived.LoopIn
import Derived.Maps.AppendAt
import Derived.Test.YtnejmfoednmkhaaGreatDoorRows
import Derived.WalkKit
import Derived.Sort.OwnSortedInts
import Derived.Lib.SlicesCompact
import Derived.WalkLawsBesides
import Derived.Deep.LoopGhost
set_option linter.unusedVariables false
set_option linter.unusedSimpArgs false
set_option maxHeartbeats 64000000
namespace Go.Proofs.YtnejmfoednmkhaaGreatDoor
section
open Go.RowKit _root_.Go.Proofs.Tryz
theorem zgK {H:Hp} {b off cap:Nat} {T:TypeId} {cs:List Value} {l:List Nat} (hw:Wn cs off l) (hl:Dig W64 l) (hll:l.length≤100000000) (h0:val W64 l≠0) :
  PW prog 197 #[.slice (some ⟨b,off,none⟩) l.length cap] H [(b,T,cs)] fun v ow _=>ow=[(b,T,cs)]∧∃z m:Nat,v=.int .i64 (z:Int)∧val W64 l=2 ^ z*m∧m % 2=1∧z<64*l.length:=by
 refine PW.body tO func197 rfl kR ntmps197 rfl rfl ?_;refine uR ?_
 refine EV.loop (ι:=Nat) (fun i=>[(0,.v (.slice (some ⟨b,off,none⟩) l.length cap)),(3,.v (.int .i64 (i:Int)))]) (fun _=>[]) (fun _=>[(b,T,cs)])
  (fun i _=>∀j,j<i→l.getD j 0=0) (fun i=>l.length-i) 0 ⟨rfl,rfl,trivial⟩ trivial rfl (fun _=>rfl) (fun j hj=>absurd hj (Nat.not_lt_zero _)) ?_
 rintro i G hG hz
 have hi:i<l.length:=by
  refine Nat.lt_of_not_le fun h=>h0 ?_;have:=zde (B:=W64) i hz
  rwa [qO h]at this
 have hx:=hw.2 i hi;refine uR ?_;refine EVL.idxO tO rfl rfl rfl rfl rfl rfl rfl rfl rfl rfl (i) (rfl) (hi) ?_;refine EVL.load1 tO rfl rfl rfl rfl rfl rfl rfl rfl (0) rfl (hx) ?_;refine uR ?_;by_cases hxz:l.getD i 0=0
 ·rw[hxz,show (((0:Nat):Int) == 0)=true from rfl];refine uR ?_;refine⟨i+1,⟨rfl,?_,trivial⟩,trivial,rfl,fun j hj=>?_,Hp.Le.refl _,by omega⟩
  ·rw[zac i (by omega)];rfl
  ·by_cases e:j=i
   ·subst e;exact hxz
   ·exact hz j oM
 ·rw[show (((l.getD i 0:Nat):Int) == 0)=false by simpa using hxz];obtain⟨m,hv,hm,hc⟩:=zom hl hz hxz;have htz:=zsp (l.getD i 0) (hl.getD (by decide) i);refine uR ?_;refine EVL.idxO tO rfl rfl rfl rfl rfl rfl rfl rfl rfl rfl (i) (rfl) (hi) ?_;refine EVL.load1 tO rfl rfl rfl rfl rfl rfl rfl rfl (0) rfl (hx) ?_
  repeat (first|refine RUN ?_|refine CV (htz) ?_|refine CE (htz) ?_)
  refine⟨rfl,64*i+Lib.ctz 64 (l.getD i 0),m,?_,hv,hm,by omega⟩;rw[show IntKind.i64.wrap (64*(i:Int))=((64*i:Nat):Int) from zog 64 i oM,zhx _ _ (by omega)]
theorem zig {α:Type} (s m:List α) (i:Nat) (h:i<s.length) (hl:s.length=m.length):(s.take i++m.drop i).set i s[i]=s.take (i+1)++m.drop (i+1):=by
 have hm:i<m.length:=oM;rw[List.set_append_right _ _ (by rw[qP];omega),qP,qm oM,Nat.sub_self,qo hm,List.set_cons_zero,qS h,qZ];rfl
theorem zkM (s m:List Nat) (i j:Nat) (hl:s.length=m.length) (h:i≤j):(s.take i++m.drop i).getD j 0=m.getD j 0:=by
 by_cases hi:i≤s.length
 ·rw[qB,qL (by rw[qP];omega),qP,qm hi,List.getElem?_drop,show i+(j-i)=j by omega,←qB]
 ·rw[qB,qe (by simp;omega),qB,qe (by omega)]
theorem zik {H:Hp} {b off cap:Nat} {T:TypeId} {cs:List Value} {l:List Nat} (hw:Wn cs off l) (hl:Dig W64 l) (hll:l.length≤100000000) (hc:l.length≤cap) (h0:val W64 l≠0) :
  PW prog 198 #[.slice (some ⟨b,off,none⟩) l.length cap] H [(b,T,cs)] fun v ow _=>∃cs1 off1 cap1 r z,ow=[(b,T,cs1)]∧Wn cs1 off1 r∧zdB W64 r∧r.length≤l.length∧r.length≤cap1∧v=.slice (some ⟨b,off1,none⟩) r.length cap1∧val W64 l=2 ^ z*val W64 r∧val W64 r % 2=1:=by
 refine PW.body tO func198 rfl kR ntmps198 rfl rfl ?_;refine uR ?_;refine vW ([(b,T,cs)]) ([]) (zgK hw hl hll h0) ?_;rintro v ow H' ⟨rfl,z,m,rfl,hv,hm,hz⟩ hle;have hz0:z / 64<l.length:=oM;refine uR ?_;refine EVL.asI (((z / 64:Nat):Int)) (zeJ z 64 oM) ?_;refine uR ?_;refine EVL.slc tO rfl rfl rfl rfl rfl rfl rfl rfl (z / 64) l.length (.inr ⟨_,IntKind.i64,rfl,rfl⟩) (.inl ⟨rfl,rfl⟩) oM hc hc ?_;refine EVL.as (congrArg SV.v (zq3 b off (z / 64) l.length cap oM)) ?_;refine uR ?_;rw[show (z:Int).tmod 64=((z % 64:Nat):Int) from zjr z 64];generalize hq:z / 64=q at *
 generalize hp:z % 64=p at *
 have hpz:z=64*q+p:=oM;have hp64:p<64:=oM;have hlen:(l.drop q).length=l.length-q:=qp ..;have hwd:=hw.drop q oM;have hld:Dig W64 (l.drop q):=hl.drop q;have hvs:=zrd l q p hl hp64 oM;rw[←hpz]at hvs;have hdiv:val W64 l / 2 ^ z=m:=by rw[hv];exact Nat.mul_div_cancel_left _ (Nat.pow_pos (by decide))
 rw[hdiv]at hvs;rw[←hlen];generalize l.drop q=d at *
 have hsl:=zd9 p d;have hsD:=zk4 p hp64 hld
 refine EV.loop (ι:=Nat × List Value) (fun s=>[(0,.v (.slice (some ⟨b,off+q,none⟩) d.length (cap-q))),(4,.v (.int .i64 (p:Int))),(15,.v (.int .i64 (d.length:Int))),(16,.v (.int .i64 (s.1:Int)))]) (fun _=>[]) (fun s=>[(b,T,s.2)])
  (fun s _=>s.1≤d.length∧Wn s.2 (off+q) ((zdl p d).take s.1++d.drop s.1)) (fun s=>d.length-s.1) (0,cs) ⟨rfl,rfl,rfl,rfl,trivial⟩ trivial rfl (fun _=>rfl) ⟨qQ _,by simpa using hwd⟩ ?_
 rintro⟨i,cu⟩ G hG ⟨hi,hcu⟩;dsimp only at hi hcu;refine uR ?_;by_cases hlt:i<d.length
 ·rw[zdY _ _ hlt];have hil:i<((zdl p d).take i++d.drop i).length:=by simp;omega
  have hcx:=hcu.2 i hil;rw[zkM _ _ i i hsl (qH _)]at hcx;have hx:=hld.getD (by decide) i;have hnew:=zib p d i oM;have hset:=zig (zdl p d) d i oM hsl;have hb1:off+q+i<cu.length:=by have:=hcu.1;omega
  rw[hnew]at hset;refine uR ?_;refine EVL.idxO tO rfl rfl rfl rfl rfl rfl rfl rfl rfl rfl (i) (rfl) (hlt) ?_;refine EVL.load1 tO rfl rfl rfl rfl rfl rfl rfl rfl (0) rfl (hcx) ?_;refine uR ?_;rw[show min p IntKind.u64.bits=p from qm (by show p≤64;omega),zlk];refine EVL.idxO tO rfl rfl rfl rfl rfl rfl rfl rfl rfl rfl (i) (rfl) (hlt) ?_;refine EVL.setO tO rfl rfl rfl rfl rfl rfl rfl ([]) rfl rfl rfl (hb1) ?_;have hcu1:=hcu.set i (d.getD i 0 / 2 ^ p) hil;refine uR ?_;rw[zac i (by omega)];by_cases hl1:i+1<d.length
  ·rw[zdY _ _ hl1];have hy:=hcu1.2 (i+1) (by simp;omega);rw[getD_set_ne _ _ _ _ oM,zkM _ _ i (i+1) hsl (by omega)]at hy;have hx1:=hcu1.2 i (by simp;omega);rw[zbf _ _ _ hil]at hx1;refine uR ?_;apply EV.drawn 13 kR kR;intro xv yw;(repeat refine' DD ?_);refine' DJ.ofVal (zab.idxO tO rfl rfl rfl rfl rfl rfl rfl rfl (i) (rfl) (hlt)) rfl rfl rfl ?_;rotate_left;refine' DJ.ofVal (zab.load1 tO rfl rfl rfl rfl rfl rfl (0) rfl (hx1)) rfl rfl rfl ?_;rotate_left;(repeat refine' DD ?_);refine' DJ.ofVal (zab.idxO tO rfl rfl rfl rfl rfl rfl rfl rfl (i+1) (zac i oM) (hl1)) rfl rfl rfl ?_;rotate_left;refine' DJ.ofVal (zab.load1 tO rfl rfl rfl rfl rfl rfl (0) rfl (hy)) rfl rfl rfl ?_;rotate_left;(repeat refine' DD ?_);refine' DJ.ofVal (zab.shl rfl rfl rfl rfl (by rw[pK];omega)) rfl rfl rfl ?_;rotate_left;(repeat refine' DD ?_);(refine DJ.nil (fun G hG hF=>?_);(case hS|hS2=>rfl));refine uR ?_;rw[show IntKind.i64.wrap (64-(p:Int))=((64-p:Nat):Int) by rw[pK];omega,qU,show min (64-p) IntKind.u64.bits=64-p from qm (by show _≤64;omega)];refine EVL.idxO tO rfl rfl rfl rfl rfl rfl rfl rfl rfl rfl (i) (rfl) (hlt) ?_;refine EVL.setO tO rfl rfl rfl rfl rfl rfl rfl ([]) rfl rfl rfl ((by rw[List.length_set];exact hb1)) ?_;refine uR ?_;have hw2:=(zic (d.getD i 0) (d.getD (i+1) 0) p hp64 hx).1;have hcu2:=hcu1.set i (d.getD i 0 / 2 ^ p+d.getD (i+1) 0*2 ^ (64-p) % W64) (by simpa using hil);rw[List.set_set,List.set_set,hset]at hcu2;refine⟨(i+1,cu.set (off+q+i) (n64 (d.getD i 0 / 2 ^ p+d.getD (i+1) 0*2 ^ (64-p) % W64))),⟨rfl,rfl,rfl,?_,trivial⟩,trivial,?_,⟨by dsimp only;omega,hcu2⟩,hG,by dsimp only;omega⟩
   ·rw[zac i (by omega)];rfl
   ·dsimp only;refine(congrArg (fun c=>[(b,T,c)]) (List.set_set ..)).trans ?_;exact congrArg (fun v=>[(b,T,cu.set (off+q+i) v)]) (congrArg (Value.int .u64) hw2)
  ·rw[zcG _ _ hl1];refine uR ?_;rw[show d.getD (i+1) 0=0 by simp[Nat.not_lt.1 hl1],Nat.zero_mul,Nat.zero_mod,qY]at hset;rw[hset]at hcu1;refine⟨(i+1,cu.set (off+q+i) (n64 (d.getD i 0 / 2 ^ p))),⟨rfl,rfl,rfl,?_,trivial⟩,trivial,rfl,⟨by dsimp only;omega,hcu1⟩,Hp.Le.refl _,by dsimp only;omega⟩;rw[zac i (by omega)];rfl
 ·rw[zcG _ _ hlt];obtain rfl:i=d.length:=oM;rw[qO oM,qi (qH _),qG]at hcu;have ht:=zlj (H:=G) (b:=b) (T:=T) (cap:=cap-q) hcu oM oM;rw[hsl]at ht;refine uR ?_;refine vW ([(b,T,cu)]) ([]) (ht) ?_;rintro v ow H2 ⟨rfl,rfl⟩ hle2;refine uR ?_;have htl:=zaY (zdl p d);refine⟨cu,off+q,cap-q,zaG (zdl p d),z,rfl,?_,zcR hsD,by omega,by omega,rfl,?_,?_⟩
  ·have:=hcu.take (zaG (zdl p d)).length
   rwa [zdN]at this
  ·rw[zcS,hvs,hv]
  ·rw[zcS,hvs,hm]
theorem zjv (n:Nat) (hn:big n) (H:Hp):PW prog 196 #[zaC n] H [] fun v ow _=>∃g,v=.slice (some ⟨g,0,none⟩) (dig W64 n).length (dig W64 n).length∧ow=[(g,45,(dig W64 n).map n64)]:=by
 have hol:(zio n).length=(bl n+7) / 8:=by
  have:=zaO 8 n oM;rw[show (2:Nat) ^ 8=256 by decide]at this;rw[zcm,this];omega
 have hwl:(dig W64 n).length=((zio n).length+7) / 8:=by
  have:=zaO 64 n oM;rw[←zaz]at this;rw[this,hol];omega
 have hD:=zhX n;have hfin:pk 8 256 (zio n).reverse (dig W64 n).length=dig W64 n:=zqL n _ rfl (by rw[←zcm];omega);have hb:=zf7 n hn;refine PW.body tO func196 rfl kR ntmps196 rfl rfl ?_;refine uR ?_;refine vA (hb _) ?_;rintro v H1 hs hle;generalize hm:(dig W64 n).length=m at *
 generalize dig W64 n=dn at *
 generalize zio n=l at *
 obtain⟨a,cap,rfl⟩:=SlC.val hs;refine uR ?_;rw[show IntKind.i64.wrap ((l.length:Int)+7)=((l.length+7:Nat):Int) from zhx _ 7 (by omega)];refine EVL.asI ((m:Int)) ((by rw[hwl];exact zeJ _ 8 oM)) ?_;refine EVL.make tO rfl rfl rfl rfl rfl rfl rfl rfl rfl (m) (rfl) oM (by rfl) (by rfl) fun g=>?_;refine uR ?_
 have e0:(List.replicate m (Tryz.te45.zero)).flatten=(pk 8 256 (l.reverse.take 0) m).map n64:=by
  rw[List.take_zero,zkW,List.map_replicate];rw[show (Tryz.te45.zero)=[n64 0] from rfl];simp
 rw[e0]
 refine EV.loop (ι:=Nat) (fun i=>[(3,.v (.slice a l.length cap)),(4,.v (.slice (some ⟨g,0,none⟩) m m)),(14,.v (.int .i64 (l.length:Int))),(15,.v (.int .i64 (i:Int)))]) (fun _=>[]) (fun i=>[(g,45,(pk 8 256 (l.reverse.take i) m).map n64)])
  (fun i G=>i≤l.length∧SlN n8 G (.slice a l.length cap) l) (fun i=>l.length-i) 0 ⟨rfl,rfl,rfl,rfl,trivial⟩ trivial rfl (fun _=>rfl) ⟨qQ _,hs⟩ ?_
 rintro i G hG ⟨hi,hs⟩;refine uR ?_;by_cases hlt:i<l.length
 ·have him:i / 8<m:=oM;have hrl:(l.reverse.take i).length=i:=by rw[qP,List.length_reverse];omega
  have hx:l.getD (l.length-1-i) 0<256:=hD.getD (by decide) _;have hxs:(l.map n8)[l.length-1-i]?=some (n8 (l.getD (l.length-1-i) 0)):=zbs oM;have hcur:((pk 8 256 (l.reverse.take i) m).map n64)[i / 8]?=some (n64 ((pk 8 256 (l.reverse.take i) m).getD (i / 8) 0)):=zbs (by rw[zax];exact him);have hlow:=zpO (K:=8) (B:=256) (by decide) ((hD.rev).take i) m (by rw[hrl];omega);rw[hrl]at hlow;have hsn:=zj4 (K:=8) (B:=256) (l:=l.reverse.take i) (by decide) m (l.getD (l.length-1-i) 0) (by rw[hrl];omega);rw[hrl]at hsn;rw[zdY _ _ hlt];refine uR ?_;apply EV.drawn 18 kR kR;intro xv yw;(repeat refine' DD ?_);refine' DJ.ofVal (zab.idxP1 tO rfl rfl rfl rfl rfl rfl rfl rfl (i / 8) (q8 i oM) him) rfl rfl rfl ?_;rotate_left;refine' DJ.ofVal (zab.load1 tO rfl rfl rfl rfl rfl rfl (0) rfl (hcur)) rfl rfl rfl ?_;rotate_left;(repeat refine' DD ?_);refine' DJ.ofVal (zab.idx1 tO rfl rfl rfl rfl rfl rfl rfl rfl (hs) (l.length-1-i) (zp9 _ _ hlt oM) oM (hxs)) rfl rfl rfl ?_;rotate_left;(repeat refine' DD ?_);refine' DJ.ofVal (zab.shl rfl rfl rfl rfl (by rw[r8];omega)) rfl rfl rfl ?_;rotate_left;(refine DJ.nil (fun G hG hF=>?_);(case hS|hS2=>rfl));rw[r8,qU];refine uR ?_;rw[zmF _ _ _ (by rw[Nat.pow_mul];exact hlow) hx (by omega)];refine EVL.idx0 tO rfl rfl rfl rfl rfl rfl rfl rfl rfl rfl (i / 8) (q8 i oM) (him) ?_;refine EVL.setO tO rfl rfl rfl rfl rfl rfl rfl ([]) rfl rfl rfl ((by rw[qV,zax];exact him)) ?_;refine uR ?_
  have hnext:l.reverse.take (i+1)=l.reverse.take i++[l.getD (l.length-1-i) 0]:=by
   rw[qS (by rw[List.length_reverse];exact hlt),List.getElem_reverse,qB,qA (show l.length-1-i<l.length by omega)];rfl
  refine⟨i+1,⟨rfl,rfl,rfl,?_,trivial⟩,trivial,?_,⟨by omega,hs.mono hG⟩,hG,by omega⟩
  ·rw[zac i (by omega)];rfl
  ·rw[hnext,hsn,List.map_set,show (256:Nat) ^ (i % 8)=2 ^ (8*(i % 8)) by rw[Nat.pow_mul]];rfl
 ·rw[zcG _ _ hlt];obtain rfl:i=l.length:=oM;rw[qO (by rw[List.length_reverse];exact qH _),hfin];refine uR ?_;exact⟨g,rfl,rfl⟩
theorem zmq {H:Hp} {b off cap:Nat} {T:TypeId} {cs:List Value} {l:List Nat} (hw:Wn cs off l) (hl:Dig W64 l) (hll:l.length≤20000000) :
  PW prog 201 #[.slice (some ⟨b,off,none⟩) l.length cap] H [(b,T,cs)] fun v ow _=>ow=[(b,T,cs)]∧v=zaC (val W64 l):=by
 refine PW.body tO func201 rfl kR ntmps201 rfl rfl ?_;refine uR ?_;rw[show IntKind.i64.wrap (8*(l.length:Int))=((8*l.length:Nat):Int) from zog 8 l.length (by omega)];generalize hN:8*l.length=N at *
 refine EVL.make tO rfl rfl rfl rfl rfl rfl rfl rfl rfl (N) (rfl) oM (by rfl) (by rfl) fun g=>?_;refine EVL.apart fun hdist=>?_
 have hgb:b≠g:=fun e=>by
  subst e;have:=hdist 0 1 b _ _ _ _ rfl rfl;cases this
 refine uR ?_
 have e0:(List.replicate N (Tryz.te5.zero)).flatten=(List.replicate N 0).map n8:=by
  rw[List.map_replicate,show (Tryz.te5.zero)=[n8 0] from rfl];simp
 rw[e0]
 refine EV.loop (ι:=Nat × List Nat) (fun q=>[(2,.p 2 0),(0,.v (.slice (some ⟨b,off,none⟩) l.length cap)),(3,.v (.slice (some ⟨g,0,none⟩) N N)),(10,.v (.int .i64 (N:Int))),(11,.v (.int .i64 (q.1:Int)))]) (fun _=>[(2,47,Tryz.te47.zero)]) (fun q=>[(g,5,q.2.map n8),(b,T,cs)])
  (fun q _=>q.1≤N∧q.2.length=N∧Dig 256 q.2∧∀j,j<q.1→q.2.getD (N-1-j) 0=val W64 l / 256 ^ j % 256) (fun q=>N-q.1) (0,List.replicate N 0) ⟨rfl,rfl,rfl,rfl,rfl,trivial⟩ ⟨rfl,trivial⟩ rfl (fun _=>rfl) ⟨qQ _,by simp,Dig.zeros (by decide) _,fun j hj=>absurd hj (Nat.not_lt_zero _)⟩ ?_
 rintro⟨i,cur⟩ G hG ⟨hi,hlen,hcD,hcs⟩;dsimp only at hi hlen hcs hcD;refine uR ?_;by_cases hlt:i<N
 ·have hwl:i / 8<l.length:=oM;have hsub:=zdy (C:=256) (k:=8) (by decide) (by decide) (l:=l) (by rw[←zcF];exact hl) i;rw[←zcF,show (256:Nat) ^ (i % 8)=2 ^ (8*(i % 8)) by rw[Nat.pow_mul]]at hsub;have hwd:=hl.getD (by decide) (i / 8);rw[zdY _ _ hlt];refine uR ?_;rw[zp9 N i hlt (by omega)];refine EVL.asI (((i / 8:Nat):Int)) (q8 i oM) ?_;refine EVL.idxO tO rfl rfl rfl rfl rfl rfl rfl rfl rfl rfl (i / 8) (rfl) (hwl) ?_;refine EVL.load1 tO rfl rfl rfl rfl rfl rfl rfl rfl (1) rfl (hw.2 (i / 8) hwl) ?_;refine uR ?_;rw[r8];refine uR ?_;rw[zk8 _ _ hwd oM,hsub];refine EVL.idx0 tO rfl rfl rfl rfl rfl rfl rfl rfl rfl rfl (N-1-i) (rfl) oM ?_;refine EVL.setO tO rfl rfl rfl rfl rfl rfl rfl ([]) rfl rfl rfl ((by rw[qV,hlen];omega)) ?_;refine uR ?_;refine⟨(i+1,cur.set (N-1-i) (val W64 l / 256 ^ i % 256)),⟨rfl,rfl,rfl,rfl,?_,trivial⟩,⟨rfl,trivial⟩,?_,⟨by dsimp only;omega,by dsimp only;rw[List.length_set];exact hlen,hcD.set _ _ (ql _ (by decide)),fun j hj=>?_⟩,Hp.Le.refl _,by dsimp only;omega⟩
  ·rw[zac i (by omega)];rfl
  ·dsimp only;rw[List.map_set];rfl
  ·dsimp only at hj ⊢;by_cases e:j=i
   ·subst e;exact zbf _ _ _ oM
   ·rw[getD_set_ne _ _ _ _ (by omega)];exact hcs j oM
 ·rw[zcG _ _ hlt];obtain rfl:i=N:=oM;have hlv:=zav hl;have hb:=zlp (val W64 l) i cur (by rw[←hN,Nat.pow_mul,←zcF];exact hlv) hlen hcs;refine uR ?_
  refine EVL.publish [] [(b,T,cs)] rfl (fun G2 hG2 hg=>?_) (fun k hk=>by
   obtain rfl:k=b:=by simpa[Ows.bs] using hk
   exact hgb)
  have hsl:SlN n8 G2 (.slice (some ⟨g,0,none⟩) i i) cur:=by
   unfold SlN;rw[hlen];exact⟨by simp[hlen],.inr ⟨g,0,i,_,rfl,qH _,hg,fun j x hj=>by simpa using hj⟩⟩
  have hf:=zds hsl hcD oM;rw[hb]at hf;refine vA (hf) ?_;rintro v H2 rfl hle;refine uR ?_;exact⟨rfl,rfl⟩
structure OW (b off cap:Nat) (cs:List Value) (l:List Nat):Prop where
 at_:Wn cs off l
 norm:zdB W64 l
 cap:l.length≤cap
 len:l.length≤20000000
 odd:val W64 l % 2=1
structure BSt where
 (bv ov cv:Nat) (lv:List Nat) (sv:List Value)
 (bw ow cw:Nat) (lw:List Nat) (sw:List Value)
def BSt.env (q:BSt) (t:Int):Env:=[(4,.p 4 0),(5,.v (.slice (some ⟨q.bv,q.ov,none⟩) q.lv.length q.cv)),(6,.v (.slice (some ⟨q.bw,q.ow,none⟩) q.lw.length q.cw)),(7,.v (.int .i64 t))]
def BSt.own (q:BSt):Ows:=[(q.bv,45,q.sv),(q.bw,45,q.sw)]
structure BSt.ok (q:BSt) (g:Nat):Prop where
 v:OW q.bv q.ov q.cv q.sv q.lv
 w:OW q.bw q.ow q.cw q.sw q.lw
 gcd:Nat.gcd (val W64 q.lv) (val W64 q.lw)=g
theorem zqD {n:Nat} (h:n % 2=1):n≠0:=oM
theorem zdO {α:Type} (a b:α):List.Perm [a,b] [b,a]:=List.Perm.swap b a []
theorem znn {a b:Nat} (h:zbj a b=0):a=b:=by
 unfold zbj at h;split at h
 ·cases h
 ·split at h
  ·cases h
  ·omega
theorem zeU (n:Nat):zaC n=.agg #[.int .u64 (lo n:Int),.string (zap n)]:=rfl
theorem zhw (x y:Nat) (hx:x≠0) (hy:y≠0) (hbx':big x) (hby':big y):PV prog 150 #[zaC x,zaC y] (zaC (Nat.gcd x y)):=by
 have lx:(dig W64 x).length≤20000000:=qI (zaK hbx') (by decide);have ly:(dig W64 y).length≤20000000:=qI (zaK hby') (by decide);have hpx:=fun G=>PO.of_pw ((zjv x hbx' G).mono (Ψ:=fun v ow _=>ow.length≤1∧∃g,v=.slice (some ⟨g,0,none⟩) (dig W64 x).length (dig W64 x).length∧ow=[(g,45,(dig W64 x).map n64)]) fun v ow H' _ ⟨g,h1,h2⟩=>⟨by rw[h2];simp,g,h1,h2⟩);have hpy:=fun G=>PO.of_pw ((zjv y hby' G).mono (Ψ:=fun v ow _=>ow.length≤1∧∃g,v=.slice (some ⟨g,0,none⟩) (dig W64 y).length (dig W64 y).length∧ow=[(g,45,(dig W64 y).map n64)]) fun v ow H' _ ⟨g,h1,h2⟩=>⟨by rw[h2];simp,g,h1,h2⟩);have dx:=zan zag x;have dy:=zan zag y;have vx:=zam zag x;have vy:=zam zag y;generalize dig W64 x=dgx at *
 generalize dig W64 y=dgy at *
 have hvx0:val W64 dgx≠0:=by rw[vx];exact hx
 have hvy0:val W64 dgy≠0:=by rw[vy];exact hy
 refine PV.of_pc ?_;refine BD func150 ntmps150 ?_;refine uR ?_;apply EV.drawn 6 kR kR;intro x1 y1;(repeat refine' DD ?_);refine' DJ.callO rfl rfl rfl rfl rfl (hpx gH).can (fun G _ _=>hpx G) ?_;rotate_left;(repeat refine' DD ?_);refine' DJ.callO rfl rfl rfl rfl rfl (hpy gH).can (fun G _ _=>hpy G) ?_;rotate_left;refine' DJ.copy (0+1) (.inr rfl) rfl rfl rfl id rfl kR ?_;rotate_left;refine' DJ.copy (0+1+1+1) (.inr rfl) rfl rfl rfl id rfl kR ?_;rotate_left;(refine DJ.nil (fun G hG hF=>?_);(case hS|hS2=>rfl));obtain⟨⟨gy,ey,oy⟩,⟨gx,ex,ox⟩,_⟩:=hF;simp only[ex,ey,ox,oy,id];clear hpx hpy ex ey ox oy;refine uR ?_;refine EVL.permOw [(gx,45,dgx.map n64),(gy,45,dgy.map n64)] (zdO _ _) ?_;refine EVL.callW rfl rfl rfl rfl rfl ([(gx,45,dgx.map n64)]) ([(gy,45,dgy.map n64)]) rfl (zgK (Wn.of dgx) dx.1 oM hvx0) ?_;rintro v ow H1 ⟨rfl,zx,mx,rfl,hzx,hmx,hzx2⟩ hle1;refine uR ?_;refine EVL.permOw [(gy,45,dgy.map n64),(gx,45,dgx.map n64)] (zdO _ _) ?_;refine EVL.callW rfl rfl rfl rfl rfl ([(gy,45,dgy.map n64)]) ([(gx,45,dgx.map n64)]) rfl (zgK (Wn.of dgy) dy.1 oM hvy0) ?_;rintro v ow H2 ⟨rfl,zy,my,rfl,hzy,hmy,hzy2⟩ hle2;refine uR ?_;rw[show (if (zy:Int)<(zx:Int) then (zy:Int) else (zx:Int))=((min zx zy:Nat):Int) by split <;> omega];refine uR ?_;refine EVL.permOw [(gx,45,dgx.map n64),(gy,45,dgy.map n64)] (zdO _ _) ?_;refine EVL.callW rfl rfl rfl rfl rfl ([(gx,45,dgx.map n64)]) ([(gy,45,dgy.map n64)]) rfl (zik (Wn.of dgx) dx.1 oM (qH _) hvx0) ?_;rintro v ow H3 ⟨sx,ox,cx,rx,zx',rfl,hwx,hnx,hlx,hcx,rfl,hdx,hox⟩ hle3;refine uR ?_;refine EVL.permOw [(gy,45,dgy.map n64),(gx,45,sx)] (zdO _ _) ?_;refine EVL.callW rfl rfl rfl rfl rfl ([(gy,45,dgy.map n64)]) ([(gx,45,sx)]) rfl (zik (Wn.of dgy) dy.1 oM (qH _) hvy0) ?_;rintro v ow H4 ⟨sy,oy,cy,ry,zy',rfl,hwy,hny,hly,hcy,rfl,hdy,hoy⟩ hle4;refine EVL.permOw [(gx,45,sx),(gy,45,sy)] (zdO _ _) ?_
 have hgcd:Nat.gcd x y=2 ^ min zx zy*Nat.gcd (val W64 rx) (val W64 ry):=by
  have e1:zx=zx':=zkR (by rw[←hzx,hdx]) hmx hox;have e2:zy=zy':=zkR (by rw[←hzy,hdy]) hmy hoy;subst e1 e2;rw[←vx,←vy];exact zlD _ _ zx zy _ _ hdx hdy hox hoy
 have htw:min zx zy≤1300000000:=oM;generalize min zx zy=tw at *
 generalize hg:Nat.gcd (val W64 rx) (val W64 ry)=g at *
 have hbg:big (Nat.gcd x y):=qI (zjE x y hx) hbx';generalize Nat.gcd x y=gg at *
 refine uR ?_
 refine EV.loop (ι:=BSt) (fun q=>q.env (tw:Int)) (fun _=>[(4,47,Tryz.te47.zero)]) (fun q=>q.own) (fun q _=>q.ok g) (fun q=>val W64 q.lv+val W64 q.lw) ⟨gx,ox,cx,rx,sx,gy,oy,cy,ry,sy⟩
  ⟨rfl,rfl,rfl,rfl,trivial⟩ ⟨rfl,trivial⟩ rfl (fun _=>rfl) ⟨⟨hwx,hnx,hcx,qI hlx lx,hox⟩,⟨hwy,hny,hcy,qI hly ly,hoy⟩,hg⟩ ?_
 clear hdx hdy hzx hzy hwx hnx hlx hcx hwy hny hly hcy hox hoy hle1 hle2 hle3 hle4 hg;rintro⟨bv,ov,cv,lv,sv,bw,ow,cw,lw,sw⟩ G hG ⟨⟨v1,v2,v3,v4,v5⟩,⟨w1,w2,w3,w4,w5⟩,hgq⟩;dsimp only at v1 v2 v3 v4 v5 w1 w2 w3 w4 w5 hgq;unfold BSt.env BSt.own;dsimp only;refine uR ?_;refine EVL.callW rfl rfl rfl rfl rfl ([(bv,45,sv),(bw,45,sw)]) ([]) rfl (zki v1 w1 v2 w2 oM) ?_;rintro v ow1 H5 ⟨rfl,rfl⟩ hle5;refine uR ?_;by_cases hc0:zbj (val W64 lv) (val W64 lw)=0
 ·rw[show (zbj (val W64 lv) (val W64 lw) == 0)=true by rw[hc0];rfl];have hvw:=znn hc0;rw[←hvw,Nat.gcd_self]at hgq;refine uR ?_;refine vW ([(bv,45,sv)]) ([(bw,45,sw)]) (zmq v1 v2.1 v4) ?_;rintro v ow2 H6 ⟨rfl,rfl⟩ hle6;rw[hgq,zeU];refine uR ?_
  refine EV.loop (ι:=Int × Nat) (fun q=>[(4,.p 4 0),(9,.p 9 0),(7,.v (.int .i64 q.1))]) (fun q=>[(9,47,[.int .u64 (lo q.2:Int),.string (zap q.2)]),(4,47,Tryz.te47.zero)]) (fun _=>[(bv,45,sv),(bw,45,sw)])
   (fun q _=>q.2*2 ^ q.1.toNat=gg∧q.1≤1300000000 ∧ -100000≤q.1) (fun q=>q.1.toNat) ((tw:Int),g) ⟨rfl,rfl,rfl,trivial⟩ ⟨rfl,rfl,trivial⟩ rfl (fun _=>rfl) ⟨by dsimp only;rw[qU,hgcd,qW],by dsimp only;omega,by dsimp only;omega⟩ ?_
  rintro⟨t,o⟩ G2 hG2 ⟨ht,ht1,ht2⟩;dsimp only at ht ht1 ht2;refine uR ?_;by_cases htp:t>0
  ·rw[show decide (t>0)=true by simpa using htp];obtain⟨k,hk,hkt⟩:∃k:Nat,(if (65536:Int)<t then (65536:Int) else t)=(k:Int)∧k=min t.toNat 65536:=⟨min t.toNat 65536,by split <;> omega,rfl⟩
   have hbo:big o:=by
    refine qI (zaW ?_) hbg;rw[←ht];exact Nat.le_mul_of_pos_right _ (Nat.pow_pos (by decide))
   have hsh:=zjW o k oM hbo;refine uR ?_;rw[hk]
   repeat (first|refine RUN ?_|refine CV (hsh) ?_|refine CE (hsh) ?_)
   refine⟨(t-65536,o*2 ^ k),⟨rfl,rfl,?_,trivial⟩,⟨rfl,rfl,trivial⟩,rfl,⟨?_,by dsimp only;omega,by dsimp only;omega⟩,Hp.Le.refl _,by dsimp only;omega⟩
   ·rw[show IntKind.i64.wrap (t-65536)=t-65536 by rw[pK];omega];rfl
   ·dsimp only;rw[←ht,Nat.mul_assoc,←Nat.pow_add];congr 2;omega
  ·rw[show decide (t>0)=false by simpa using htp];rw[show t.toNat=0 by omega,Nat.pow_zero,Nat.mul_one]at ht;subst ht;refine uR ?_;rfl
 ·rw[show (zbj (val W64 lv) (val W64 lw) == 0)=false by simpa using hc0];refine uR ?_;refine EV.meet (fun env' bx' H'=>∃q:BSt,zee env' (q.env (tw:Int))∧zeg bx' [(4,47,Tryz.te47.zero)]∧H'.ow=q.own∧G.Le H'.ro∧q.ok g∧val W64 q.lw<val W64 q.lv∧val W64 q.lv+val W64 q.lw=val W64 lv+val W64 lw) ?_ ?_
  ·rintro env' bx' ⟨G6,ow6,base6⟩ _ ⟨⟨bv,ov,cv,lv,sv,bw,ow,cw,lw,sw⟩,he,hbx6,how,hleG,⟨⟨v1,v2,v3,v4,v5⟩,⟨w1,w2,w3,w4,w5⟩,hgq⟩,hlt,hsum⟩;dsimp only at v1 v2 v3 v4 v5 w1 w2 w3 w4 w5 hgq hlt hsum;refine EV.less _ _ he hbx6 rfl ?_;unfold BSt.own at how;dsimp only at how;subst how;unfold BSt.env;dsimp only
   have hlen:lw.length≤lv.length:=by
    refine Nat.le_of_not_lt fun h=>?_;have:=zdH zag v2.1 w2 h;omega
   refine uR ?_;refine EVL.callW rfl rfl rfl rfl rfl ([(bv,45,sv),(bw,45,sw)]) ([]) rfl (zjt v1 w1 v2.1 w2.1 oM hlen v3 oM) ?_;rintro v ow7 H7 ⟨s7,r7,rfl,hw7,hn7,hl7,rfl,hv7⟩ hle7;refine uR ?_;refine EVL.callW rfl rfl rfl rfl rfl ([(bv,45,s7)]) ([(bw,45,sw)]) rfl (zik hw7 hn7.1 oM oM oM) ?_;rintro v ow8 H8 ⟨s8,o8,c8,r8,z8,rfl,hw8,hn8,hl8,hc8,rfl,hd8,ho8⟩ hle8;refine uR ?_;have hr:=zmY (val W64 lv) (val W64 lw) z8 (val W64 r8) w5 oM (by rw[←hv7];exact hd8);have hle9:val W64 r8≤val W64 r7:=by rw[hd8];exact Nat.le_mul_of_pos_left _ (Nat.pow_pos (by decide))
   refine⟨⟨bv,o8,c8,r8,s8,bw,ow,cw,lw,sw⟩,⟨rfl,rfl,rfl,rfl,trivial⟩,⟨rfl,trivial⟩,rfl,⟨⟨hw8,hn8,hc8,by dsimp only;omega,ho8⟩,⟨w1,w2,w3,w4,w5⟩,by dsimp only;rw[hr];exact hgq⟩,(hleG.trans hle7).trans hle8,?_⟩;dsimp only;have:=zqD w5;omega
  ·by_cases hlt:zbj (val W64 lv) (val W64 lw)<0
   ·rw[show decide (zbj (val W64 lv) (val W64 lw)<0)=true by simpa using hlt]
    have hvl:val W64 lv<val W64 lw:=by
     unfold zbj at hlt;split at hlt
     ·assumption
     ·split at hlt <;> simp at hlt
    refine EV.permOw [(bw,45,sw),(bv,45,sv)] (zdO _ _) ?_;refine uR ?_;exact⟨⟨bw,ow,cw,lw,sw,bv,ov,cv,lv,sv⟩,⟨rfl,rfl,rfl,rfl,trivial⟩,⟨rfl,trivial⟩,rfl,hle5,⟨⟨w1,w2,w3,w4,w5⟩,⟨v1,v2,v3,v4,v5⟩,by dsimp only;rw[Nat.gcd_comm];exact hgq⟩,hvl,Nat.add_comm _ _⟩
   ·rw[show decide (zbj (val W64 lv) (val W64 lw)<0)=false by simpa using hlt]
    have hvl:val W64 lw<val W64 lv:=by
     unfold zbj at hlt hc0;split at hlt
     ·simp at hlt
     ·rename_i h1;rw[if_neg h1]at hc0;split at hc0
      ·assumption
      ·simp at hc0
    refine uR ?_;exact⟨⟨bv,ov,cv,lv,sv,bw,ow,cw,lw,sw⟩,⟨rfl,rfl,rfl,rfl,trivial⟩,⟨rfl,trivial⟩,rfl,hle5,⟨⟨v1,v2,v3,v4,v5⟩,⟨w1,w2,w3,w4,w5⟩,hgq⟩,hvl,rfl⟩
theorem zqi (c1 c2:Nat) (h1:big c1) (h2:big c2) (sx sy:Bool) (hsx:c1=0→sx=false) (hsy:c2=0→sy=false) :
  PV prog 84 #[.agg #[.bool sx,.int .u64 (lo c1:Int),.string (zap c1)],.agg #[.bool sy,.int .u64 (lo c2:Int),.string (zap c2)]] (zaC (Nat.gcd c1 c2)):=by
 refine PV.of_pc ?_;refine BD func84 ntmps84 ?_;refine uR ?_
 (apply EV.drawn 7 kR kR;intro xv yw;(repeat (first|refine' DD ?_));refine DJ.nil (fun G hG hF=>?_);(case hS|hS2=>rfl))
 repeat (first|refine RUN ?_|refine CV (zaM c1 c2 h1 h2) ?_|refine CE (zaM c1 c2 h1 h2) ?_)
 refine EV.meet (fun env' bx' H'=>∃u w:Nat,zee env' [(4,.p 4 0),(5,.p 5 0),(6,.p 6 0)]∧zeg bx' [(4,47,Tryz.te47.zero),(5,47,[.int .u64 (lo u:Int),.string (zap u)]),(6,47,[.int .u64 (lo w:Int),.string (zap w)])]∧H'.ow=[]∧w≤u∧big u∧big w∧Nat.gcd u w=Nat.gcd c1 c2) ?_ ?_
 ·rintro env' bx' ⟨G1,ow1,base1⟩ hb ⟨u,w,he,hbx,how,hwu,hu,hw,hg⟩;obtain rfl:base1=⟨fun _=>none,[]⟩:=hb;obtain rfl:ow1=[]:=how;refine EV.less _ _ he hbx rfl ?_;clear h1 h2 hsx hsy hbx he;generalize Nat.gcd c1 c2=gg at *
  subst hg
  repeat (first|refine RUN ?_|refine CV (za0 w hw) ?_|refine CE (za0 w hw) ?_)
  rw[zbN];by_cases hw0:w=0
  ·subst hw0;rw[qD rfl,Nat.gcd_zero_right];refine uR ?_;rfl
  ·rw[qC hw0]
   repeat (first|refine RUN ?_|refine CV (zeu u w hw0 hu hw) ?_|refine CE (zeu u w hw0 hu hw) ?_)
   have hm:u % w<w:=ql _ oM;have hgr:Nat.gcd u w=Nat.gcd w (u % w):=by rw[Nat.gcd_comm,Nat.gcd_rec,Nat.gcd_comm]
   have hbm:big (u % w):=qI (zrr u w) hu;rw[hgr];generalize u % w=r at *
   generalize u / w=qq at *
   clear hgr hwu hu;rw[zeU,zeU];refine uR ?_;refine EV.less [(4,.p 4 0),(5,.p 5 0),(6,.p 6 0),(8,.p 8 0)] ([(5,47,[.int .u64 (lo u:Int),.string (zap u)]),(4,47,Tryz.te47.zero),(6,47,[.int .u64 (lo w:Int),.string (zap w)]),(8,47,[.int .u64 (lo r:Int),.string (zap r)])]) ⟨rfl,rfl,rfl,rfl,trivial⟩ ⟨rfl,rfl,rfl,rfl,trivial⟩ rfl ?_;apply EV.drawnS ([(5,47,[.int .u64 (lo u:Int),.string (zap u)])]) 3 kR kR;intro xv yw;(repeat refine' DD ?_);(refine DJ.nil (fun G hG hF=>?_);(case hS|hS2=>rfl);(case hD=>rfl))
   repeat (first|refine RUN ?_|refine CV (za0 r hbm) ?_|refine CE (za0 r hbm) ?_)
   rw[zbN];by_cases hr0:r=0
   ·subst hr0;rw[qD rfl,Nat.gcd_zero_right];refine uR ?_;rfl
   ·rw[qC hr0]
    repeat (first|refine RUN ?_|refine CV (zc7 w) ?_|refine CE (zc7 w) ?_)
    by_cases hws:w<W64
    ·have hrs:r<W64:=oM;rw[qD hws,if_pos hws]
     repeat (first|refine RUN ?_|refine CV (zc7 r) ?_|refine CE (zc7 r) ?_)
     rw[qD hrs,if_pos hrs];refine uR ?_;refine EV.loop (ι:=Nat × Nat) (fun q=>[(4,.p 4 0),(10,.v (n64 q.1)),(12,.v (n64 q.2))]) (fun _=>[(4,47,Tryz.te47.zero)]) (fun _=>[]) (fun q _=>q.1<W64∧q.2<W64∧Nat.gcd q.1 q.2=Nat.gcd w r) (fun q=>q.2) (w,r) ⟨rfl,rfl,rfl,trivial⟩ ⟨rfl,trivial⟩ rfl (fun _=>rfl) ⟨hws,hrs,rfl⟩ ?_;rintro⟨m,k⟩ G2 hG2 ⟨hms,hks,hgk⟩;dsimp only at hms hks hgk;refine uR ?_;by_cases hk0:k=0
     ·subst hk0;rw[show decide ((((m,0):Nat × Nat).2:Int)>0)=false from rfl];rw[Nat.gcd_zero_right]at hgk
      repeat (first|refine RUN ?_|refine CV (zcC m hms) ?_|refine CE (zcC m hms) ?_)
      rw[hgk]
     ·rw[show decide ((((m,k):Nat × Nat).2:Int)>0)=true by simp;omega];refine uR ?_;apply EV.drawn 6 kR kR;intro xv yw;(repeat refine' DD ?_);refine' DJ.ofVal (zab.rem rfl rfl rfl rfl (show ((k:Nat):Int)≠0 by omega)) rfl rfl rfl ?_;rotate_left;(repeat refine' DD ?_);(refine DJ.nil (fun G hG hF=>?_);(case hS|hS2=>rfl));rw[show (((m,k):Nat × Nat).1:Int).tmod (((m,k):Nat × Nat).2:Int)=((m % k:Nat):Int) from zjr m k];refine uR ?_;refine⟨(k,m % k),⟨rfl,rfl,rfl,trivial⟩,⟨rfl,trivial⟩,rfl,⟨hks,Nat.lt_of_le_of_lt (Nat.mod_le m k) hms,?_⟩,hG,ql _ oM⟩
      ·dsimp only;rw[←hgk,Nat.gcd_comm m k,Nat.gcd_rec k m,Nat.gcd_comm]
    ·rw[qC hws]
     repeat (first|refine RUN ?_|refine CV (zhw w r hw0 hr0 hw hbm) ?_|refine CE (zhw w r hw0 hr0 hw hbm) ?_)
     rfl
 ·by_cases hlt:c1<c2
  ·rw[zb4 hlt,show decide ((-1:Int)<0)=true from rfl];refine uR ?_;exact⟨c2,c1,⟨rfl,rfl,rfl,trivial⟩,⟨rfl,rfl,rfl,trivial⟩,rfl,by omega,h2,h1,Nat.gcd_comm _ _⟩
  ·rw[show decide (zbj c1 c2<0)=false by unfold zbj;rw[if_neg hlt];split <;> rfl];refine uR ?_;exact⟨c1,c2,⟨rfl,rfl,rfl,trivial⟩,⟨rfl,rfl,rfl,trivial⟩,rfl,by omega,h1,h2,rfl⟩
theorem ziM (a b:Int) (ha:ze3 a) (hb:ze3 b):PV prog 84 #[zd6 a,zd6 b] (zaC (Nat.gcd a.natAbs b.natAbs)) :=
 zqi a.natAbs b.natAbs ha hb _ _ (fun h=>by simp;omega) (fun h=>by simp;omega)
abbrev frV (n:Int) (d:Nat):Value:=.agg #[.bool (decide (n<0)),.int .u64 (lo n.natAbs:Int),.string (zap n.natAbs),.int .u64 (lo d:Int),.string (zap d)]
def dk (d:Nat):Nat:=if d=1 then 0 else d
abbrev zaj (q:Rat):Value:=frV q.num (dk q.den)
theorem zmT:dk 1=0:=rfl
theorem zrz {d:Nat} (h:d≠1):dk d=d:=if_neg h
theorem zry (d:Nat):bl (dk d)≤bl d:=by
 unfold dk;split
 ·rw[zbn];omega
 ·exact qH _
theorem zmU (q:Rat):dk q.den=0↔q.den=1:=by
 have:=q.den_nz;unfold dk;split <;> omega
theorem zrs:bl 1=1:=by have:=zhE 0;simpa using this
theorem ziv {n:Nat}:bl n=1↔n=1:=by
 constructor
 ·intro h;have h1:=zeS n;rw[h]at h1;have:n≠0:=fun e=>by rw[e,zbn]at h;omega
  omega
 ·rintro rfl;exact zrs
theorem zgY (n:Nat):(((bl n:Nat):Int) == 1)=decide (n=1):=by
 by_cases h:n=1
 ·rw[qD h,ziv.2 h];rfl
 ·rw[qC h];have:bl n≠1:=fun e=>h (ziv.1 e);simp;omega
theorem zdG (n:Int):frV n 0=.agg #[.bool (decide (n<0)),.int .u64 (lo n.natAbs:Int),.string (zap n.natAbs),.int .u64 0,.string ⟨#[]⟩]:=by
 unfold frV;rw[zbQ (n:=0) (by decide)];rfl
theorem zh1 (n:Int) (d:Nat) (hd:big d):PV prog 88 #[zd6 n,zaC d] (frV n (dk d)):=by
 refine PV.of_pc ?_;refine BD func88 ntmps88 ?_
 repeat (first|refine RUN ?_|refine CV (za0 d hd) ?_|refine CE (za0 d hd) ?_)
 rw[zgY];by_cases h:d=1
 ·rw[qD h];refine uR ?_;rw[h,zmT,zdG]
 ·rw[qC h];refine uR ?_;rw[zrz h]
theorem zd7 (a b:Nat) (ha:big a) (hb:big b) (h0:b≠0):PV prog 86 #[zaC a,zaC b] (zaC (a / b)):=by
 refine PV.of_pc ?_;refine BD func86 ntmps86 ?_
 repeat (first|refine RUN ?_|refine CV (za0 b hb) ?_|refine CE (za0 b hb) ?_)
 rw[zgY];by_cases h:b=1
 ·rw[qD h];refine uR ?_;rw[h,Nat.div_one]
 ·rw[qC h]
  repeat (first|refine RUN ?_|refine CV (zeu a b h0 ha hb) ?_|refine CE (zeu a b h0 ha hb) ?_)
  rfl
theorem zh2 (n:Int) (b:Nat) (hn:ze3 n) (hb:big b) (h0:b≠0) (hdv:b ∣ n.natAbs):PV prog 89 #[zd6 n,zaC b] (zd6 (n / (b:Int))):=by
 have hs:decide (n.sign<0)=decide (n<0):=by rw[decide_eq_decide];exact Int.sign_neg_iff
 have hf:=zbo (decide (n<0)) (n.natAbs / b) (qI (ze4 _ _) hn)
 have e:sg (decide (n<0)) (n.natAbs / b)=n / (b:Int):=by
  rw[znr n b hdv];unfold sg;by_cases h:n<0 <;> simp[h]
 rw[e]at hf;refine PV.of_pc ?_;refine BD func89 ntmps89 ?_;refine uR ?_;apply EV.drawn 7 kR kR;intro xv yw;(repeat (first|refine' DD ?_|(refine' DC (zaZ n hn) (h:=?_);rotate_left)));rw[hs];(repeat (first|refine' DD ?_|(refine' DC (zct n) (h:=?_);rotate_left)|(refine' DC (zd7 _ _ hn hb h0) (h:=?_);rotate_left)));(refine DJ.nil (fun G hG hF=>?_);(case hS|hS2=>rfl))
 repeat (first|refine RUN ?_|refine CV (hf) ?_|refine CE (hf) ?_)
 rfl
theorem zfv (n:Int) (d:Nat) (hn:ze3 n) (hd:big d) (hnd:big (n.natAbs*d)):PV prog 87 #[zd6 n,zaC d] (zd6 (n*d)):=by
 have hm:=zgH n (d:Int) hn hd (by show big (n*(d:Int)).natAbs;rw[Int.natAbs_mul];exact hnd);refine PV.of_pc ?_;refine BD func87 ntmps87 ?_;refine uR ?_;apply EV.drawn 3 kR kR;intro xv yw;(repeat (first|refine' DD ?_|(refine' DC (zbo false d hd) (h:=?_);rotate_left)));(refine DJ.nil (fun G hG hF=>?_);(case hS|hS2=>rfl))
 repeat (first|refine RUN ?_|refine CV (hm) ?_|refine CE (hm) ?_)
 rfl
theorem zbx (q:Rat) (h:big q.den):PV prog 82 #[zaj q] (.bool (decide (q.den=1))):=by
 refine PV.of_pc ?_;refine BD func82 ntmps82 ?_
 repeat (first|refine RUN ?_|refine CV (za0 (dk q.den) (qI (zry _) h)) ?_|refine CE (za0 (dk q.den) (qI (zry _) h)) ?_)
 have e:(((bl (dk q.den):Nat):Int) == 0)=decide (q.den=1):=by
  by_cases h1:q.den=1
  ·rw[qD h1,(zmU q).2 h1,zbn];rfl
  ·rw[qC h1];have h2:bl (dk q.den)≠0:=fun e=>h1 ((zmU q).1 (zg0.1 e));simp;omega
 rw[e]
theorem zei (q:Rat) (h:big q.den):PV prog 85 #[zaj q] (zaC q.den):=by
 refine PV.of_pc ?_;refine BD func85 ntmps85 ?_
 repeat (first|refine RUN ?_|refine CV (zbx q h) ?_|refine CE (zbx q h) ?_)
 by_cases h1:q.den=1
 ·rw[qD h1]
  repeat (first|refine RUN ?_|refine CV (zcC 1 (by decide)) ?_|refine CE (zcC 1 (by decide)) ?_)
  rw[h1]
 ·rw[qC h1];refine uR ?_;rw[zrz h1]
theorem zb6 (q:Rat) (h:ze3 q.num):PV prog 20 #[zaj q] (.int .i64 q.num.sign):=by
 refine PV.of_pc ?_;refine BD func20 ntmps20 ?_
 repeat (first|refine RUN ?_|refine CV (zaZ q.num h) ?_|refine CE (zaZ q.num h) ?_)
 rfl
theorem zpL (q:Rat):PV prog 138 #[zaj q] (zd6 q.num):=by
 refine PV.of_pc ?_;refine BD func138 ntmps138 ?_;refine uR ?_;rfl
theorem zrF (q:Rat) (h:ze3 q.num):PV prog 119 #[zaj q] (zaj (-q)):=by
 refine PV.of_pc ?_;refine BD func119 ntmps119 ?_;refine uR ?_
 (apply EV.drawn 5 kR kR;intro xv yw;(repeat (first|refine' DD ?_|(refine' DC (zeb q.num h) (h:=?_);rotate_left)));refine DJ.nil (fun G hG hF=>?_);(case hS|hS2=>rfl));refine uR ?_;rfl
theorem zlP (z:Int) (h1:-9223372036854775808≤z) (h2:z<9223372036854775808):PV prog 27 #[.int .i64 z] (zaj (z:Rat)):=by
 refine PV.of_pc ?_;refine BD func27 ntmps27 ?_
 repeat (first|refine RUN ?_|refine CV (zdP z h1 h2) ?_|refine CE (zdP z h1 h2) ?_)
 show _=frV z 0;rw[zdG]
theorem ziV (n:Int) (d:Nat) (hn:ze3 n) (hd:big d) (h0:d≠0):PV prog 167 #[zd6 n,zaC d] (zaj (mkRat n d)):=by
 have hl:=zdJ n d h0;have hg0:Nat.gcd n.natAbs d≠0:=Nat.gcd_ne_zero_right h0;have hgb:big (Nat.gcd n.natAbs d):=qI (zbW _ _ h0) hd;have hg:=ziM n (d:Int) hn hd;have f1:=zh2 n (Nat.gcd n.natAbs d) hn hgb hg0 (Nat.gcd_dvd_left ..);have f2:=zd7 d (Nat.gcd n.natAbs d) hd hgb hg0;have f3:=zh1 (n / (Nat.gcd n.natAbs d:Nat)) (d / Nat.gcd n.natAbs d) (qI (ze4 _ _) hd);rw[←hl.1]at f1;rw[←hl.2]at f2;rw[←hl.1,←hl.2]at f3;refine PV.of_pc ?_;refine BD func167 ntmps167 ?_;refine uR ?_
 (apply EV.drawn 5 kR kR;intro xv yw;(repeat (first|refine' DD ?_|(refine' DC (zbo false d hd) (h:=?_);rotate_left)|(refine' DC (hg) (h:=?_);rotate_left)));refine DJ.nil (fun G hG hF=>?_);(case hS|hS2=>rfl));refine uR ?_
 (apply EV.drawn 7 kR kR;intro xv yw;(repeat (first|refine' DD ?_|(refine' DC (f1) (h:=?_);rotate_left)|(refine' DC (f2) (h:=?_);rotate_left)|(refine' DC (f3) (h:=?_);rotate_left)));refine DJ.nil (fun G hG hF=>?_);(case hS|hS2=>rfl));refine uR ?_;rfl
theorem zm7 (n d:Int) (hn:ze3 n) (hd:ze3 d) (h0:d≠0):PV prog 116 #[zd6 n,zd6 d] (.tuple #[zaj (mkRat (if d<0 then -n else n) d.natAbs),.bool true]):=by
 have l1:=ziV (-n) d.natAbs (by show big (-n).natAbs;rw[Int.natAbs_neg];exact hn) hd oM;have l2:=ziV n d.natAbs hn hd oM;refine PV.of_pc ?_;refine BD func116 ntmps116 ?_
 repeat (first|refine RUN ?_|refine CV (zaZ d hd) ?_|refine CE (zaZ d hd) ?_)
 rw[show (d.sign == 0)=false by simp[Int.sign_eq_zero_iff_zero,h0]]
 repeat (first|refine RUN ?_|refine CV (zaZ d hd) ?_|refine CE (zaZ d hd) ?_)
 by_cases h:d<0
 ·rw[qD (Int.sign_neg_iff.2 h),if_pos h]
  repeat (first|refine RUN ?_|refine CV (zeb n hn) ?_|refine CE (zeb n hn) ?_)
  apply EV.drawn 3 kR kR;intro xv yw;(repeat (first|refine' DD ?_|(refine' DC (zct d) (h:=?_);rotate_left)));(refine DJ.nil (fun G hG hF=>?_);(case hS|hS2=>rfl))
  repeat (first|refine RUN ?_|refine CV (l1) ?_|refine CE (l1) ?_)
  rfl
 ·rw[qC (fun e=>h (Int.sign_neg_iff.1 e)),if_neg h];refine uR ?_;apply EV.drawn 3 kR kR;intro xv yw;(repeat (first|refine' DD ?_|(refine' DC (zct d) (h:=?_);rotate_left)));(refine DJ.nil (fun G hG hF=>?_);(case hS|hS2=>rfl))
  repeat (first|refine RUN ?_|refine CV (l2) ?_|refine CE (l2) ?_)
  rfl
abbrev frL (n:Int) (d:Nat):List Value:=[.bool (decide (n<0)),.int .u64 (lo n.natAbs:Int),.string (zap n.natAbs),.int .u64 (lo d:Int),.string (zap d)]
abbrev sm (q:Rat):Prop:=ht q≤100000000
theorem sm.num {q:Rat} (h:sm q):bl q.num.natAbs≤100000000:=qI (zbq q) h
theorem sm.den {q:Rat} (h:sm q):bl q.den≤100000000:=qI (zaV q) h
theorem zf6 (a b:Rat) (ha:sm a) (hb:sm b):PV prog 32 #[zaj a,zaj b] (zaj (a*b)):=by
 have na:=ha.num;have da:=ha.den;have nb:=hb.num;have db:=hb.den;have bna:ze3 a.num:=qI na oM;have bnb:ze3 b.num:=qI nb oM;have bda:big a.den:=qI da oM;have bdb:big b.den:=qI db oM;have hm:=zqQ a b _ _ rfl rfl;generalize hg:Nat.gcd a.num.natAbs b.den=g at hm;generalize hh:Nat.gcd b.num.natAbs a.den=h at hm;have hg0:g≠0:=by rw[←hg];exact Nat.gcd_ne_zero_right b.den_nz
 have hh0:h≠0:=by rw[←hh];exact Nat.gcd_ne_zero_right a.den_nz
 have bg:big g:=by rw[←hg];exact qI (zbW _ _ b.den_nz) bdb
 have bh:big h:=by rw[←hh];exact qI (zbW _ _ a.den_nz) bda
 have g1:=ziM a.num (b.den:Int) bna bdb;have g2:=ziM b.num (a.den:Int) bnb bda;rw[Int.natAbs_natCast,hg]at g1;rw[Int.natAbs_natCast,hh]at g2;have p1:=zh2 a.num g bna bg hg0 (by rw[←hg];exact Nat.gcd_dvd_left ..);have p2:=zh2 b.num h bnb bh hh0 (by rw[←hh];exact Nat.gcd_dvd_left ..);have b1:bl (a.num / (g:Int)).natAbs≤100000000:=qI (zaW (zcH _ _)) na;have b2:bl (b.num / (h:Int)).natAbs≤100000000:=qI (zaW (zcH _ _)) nb;have b3:bl (a.den / h)≤100000000:=qI (ze4 _ _) da;have b4:bl (b.den / g)≤100000000:=qI (ze4 _ _) db
 have m1:=zgH (a.num / (g:Int)) (b.num / (h:Int)) (qI b1 oM) (qI b2 oM) (by
  show big (_*_:Int).natAbs;rw[Int.natAbs_mul];have:=za8 (a.num / (g:Int)).natAbs (b.num / (h:Int)).natAbs;show bl _≤_;omega)
 have m2:=zf8 (a.den / h) (b.den / g) (qI b3 oM) (qI b4 oM);have pk:=zh1 (a*b).num (a*b).den (by rw[hm.2];have:=za8 (a.den / h) (b.den / g);show bl _≤_;omega);have o1:=zd7 a.den h bda bh hh0;have o2:=zd7 b.den g bdb bg hg0;rw[←hm.1]at m1;rw[←hm.2]at m2;have w1:=zbx a bda;have w2:=zbx b bdb;refine PV.of_pc ?_;refine BD func32 ntmps32 ?_
 repeat (first|refine RUN ?_|refine CV (w1) ?_|refine CE (w1) ?_)
 refine EVL.meet (fun env' bx' H'=>zee env' [(12,.v (.bool (decide (a.den=1∧b.den=1)))),(4,.p 4 0),(3,.p 3 0),(2,.p 2 0)]∧zeg bx' [(4,51,Tryz.te51.zero),(3,51,frL b.num (dk b.den)),(2,51,frL a.num (dk a.den))]∧H'=⟨fun _=>none,[],⟨fun _=>none,[]⟩⟩) ?_ ?_
 ·rintro env' bx' H' _ ⟨he,hbx,rfl⟩;refine EV.less _ _ he hbx rfl ?_;by_cases hab:a.den=1∧b.den=1
  ·rw[qD hab];have e1:g=1:=by rw[←hg,hab.2,Nat.gcd_one_right]
   have e2:h=1:=by rw[←hh,hab.1,Nat.gcd_one_right]
   have e3:(a*b).den=1:=by rw[hm.2,hab.1,hab.2,e1,e2]
   rw[e1,e2]at m1;simp only[Int.natCast_one,Int.ediv_one]at m1
   repeat (first|refine RUN ?_|refine CV (m1) ?_|refine CE (m1) ?_)
   show _=frV (a*b).num (dk (a*b).den);rw[e3,zmT,zdG]
  ·rw[qC hab];refine uR ?_;have d1:=zei a bda;have d2:=zei b bdb;have s1:=zbo false a.den bda;have s2:=zbo false b.den bdb
   (apply EV.drawn 7 kR kR;intro xv yw;(repeat (first|refine' DD ?_|(refine' DC (d2) (h:=?_);rotate_left)|(refine' DC (s2) (h:=?_);rotate_left)|(refine' DC (g1) (h:=?_);rotate_left)));refine DJ.nil (fun G hG hF=>?_);(case hS|hS2=>rfl));refine uR ?_
   (apply EV.drawn 7 kR kR;intro xv yw;(repeat (first|refine' DD ?_|(refine' DC (d1) (h:=?_);rotate_left)|(refine' DC (s1) (h:=?_);rotate_left)|(refine' DC (g2) (h:=?_);rotate_left)));refine DJ.nil (fun G hG hF=>?_);(case hS|hS2=>rfl));refine uR ?_;apply EV.drawn 16 kR kR;intro xv yw;(repeat (first|refine' DD ?_|(refine' DC (p1) (h:=?_);rotate_left)|(refine' DC (p2) (h:=?_);rotate_left)|(refine' DC (m1) (h:=?_);rotate_left)|(refine' DC (d1) (h:=?_);rotate_left)|(refine' DC (d2) (h:=?_);rotate_left)|(refine' DC (o1) (h:=?_);rotate_left)|(refine' DC (o2) (h:=?_);rotate_left)));(refine DJ.nil (fun G hG hF=>?_);(case hS|hS2=>rfl))
   repeat (first|refine RUN ?_|refine CV (o2) ?_|refine CV (m2) ?_|refine CV (pk) ?_|refine CE (o2) ?_|refine CE (m2) ?_|refine CE (pk) ?_)
   rfl
 ·by_cases ha1:a.den=1
  ·rw[qD ha1]
   repeat (first|refine RUN ?_|refine CV (w2) ?_|refine CE (w2) ?_)
   refine⟨⟨?_,rfl,rfl,rfl,trivial⟩,⟨rfl,rfl,rfl,trivial⟩,rfl⟩;simp[ha1];rfl
  ·rw[qC ha1];refine uR ?_;refine⟨⟨?_,rfl,rfl,rfl,trivial⟩,⟨rfl,rfl,rfl,trivial⟩,rfl⟩;simp[ha1];rfl
theorem zfD (a b:Rat) (ha:sm a) (hb:sm b):PV prog 26 #[zaj a,zaj b] (zaj (a+b)):=by
 have na:=ha.num;have da:=ha.den;have nb:=hb.num;have db:=hb.den;have bna:ze3 a.num:=qI na oM;have bnb:ze3 b.num:=qI nb oM;have bda:big a.den:=qI da oM;have bdb:big b.den:=qI db oM;have hm:=zqP a b _ _ _ _ _ rfl rfl rfl rfl rfl;generalize hg:Nat.gcd a.den b.den=g at hm;have hg0:g≠0:=by rw[←hg];exact Nat.gcd_ne_zero_right b.den_nz
 have bgl:bl g≤100000000:=by rw[←hg];exact qI (zbW _ _ b.den_nz) db
 have bg:big g:=qI bgl oM;have g1:=ziM (a.den:Int) (b.den:Int) bda bdb;rw[Int.natAbs_natCast,Int.natAbs_natCast,hg]at g1;have o1:=zd7 a.den g bda bg hg0;have o2:=zd7 b.den g bdb bg hg0;have b1:bl (a.den / g)≤100000000:=qI (ze4 _ _) da;have b2:bl (b.den / g)≤100000000:=qI (ze4 _ _) db
 have hone:a.den=1∧b.den=1→g=1∧a.den / g=1∧b.den / g=1:=fun h=>by
  have:g=1:=by rw[←hg,h.1,h.2];rfl
  rw[this,h.1,h.2];exact⟨rfl,rfl,rfl⟩
 generalize hdown:a.den / g=down at *
 generalize hother:b.den / g=other at *
 have c1:=za8 a.num.natAbs other;have c2:=za8 b.num.natAbs down;have t1:=zfv a.num other bna (qI b2 oM) (by show bl _≤_;omega);have t2:=zfv b.num down bnb (qI b1 oM) (by show bl _≤_;omega);have c1':bl (a.num*(other:Int)).natAbs≤200000000:=by rw[Int.natAbs_mul];simp;omega
 have c2':bl (b.num*(down:Int)).natAbs≤200000000:=by rw[Int.natAbs_mul];simp;omega
 have c3:=zmD (a.num*(other:Int)).natAbs (b.num*(down:Int)).natAbs;have ad:=zgF (a.num*(other:Int)) (b.num*(down:Int)) (qI c1' oM) (qI c2' oM) (by show bl _≤_;omega)
 have bup:bl (a.num*(other:Int)+b.num*(down:Int)).natAbs≤200000001:=by
  have:=zcW (a.num*(other:Int)) (b.num*(down:Int));omega
 generalize hup:a.num*(other:Int)+b.num*(down:Int)=up at *
 generalize hh:Nat.gcd up.natAbs g=h at hm;have hh0:h≠0:=by rw[←hh];exact Nat.gcd_ne_zero_right hg0
 have bh:big h:=by rw[←hh];exact qI (zbW _ _ hg0) bg
 have g2:=ziM up (g:Int) (qI bup oM) bg;rw[Int.natAbs_natCast,hh]at g2;have p1:=zh2 up h (qI bup oM) bh hh0 (by rw[←hh];exact Nat.gcd_dvd_left ..);have o3:=zd7 b.den h bdb bh hh0;have b4:bl (b.den / h)≤100000000:=qI (ze4 _ _) db;have m2:=zf8 down (b.den / h) (qI b1 oM) (qI b4 oM);have pk:=zh1 (a+b).num (a+b).den (by rw[hm.2];have:=za8 down (b.den / h);show bl _≤_;omega);rw[←hm.1]at p1;rw[←hm.2]at m2;have w1:=zbx a bda;have w2:=zbx b bdb;refine PV.of_pc ?_;refine BD func26 ntmps26 ?_
 repeat (first|refine RUN ?_|refine CV (w1) ?_|refine CE (w1) ?_)
 refine EVL.meet (fun env' bx' H'=>zee env' [(15,.v (.bool (decide (a.den=1∧b.den=1)))),(4,.p 4 0),(3,.p 3 0),(2,.p 2 0)]∧zeg bx' [(4,51,Tryz.te51.zero),(3,51,frL b.num (dk b.den)),(2,51,frL a.num (dk a.den))]∧H'=⟨fun _=>none,[],⟨fun _=>none,[]⟩⟩) ?_ ?_
 ·rintro env' bx' H' _ ⟨he,hbx,rfl⟩;refine EV.less _ _ he hbx rfl ?_;by_cases hab:a.den=1∧b.den=1
  ·rw[qD hab];obtain⟨e1,e2,e3⟩:=hone hab;have e4:h=1:=by rw[←hh,e1,Nat.gcd_one_right]
   have e5:(a+b).den=1:=by rw[hm.2,e2,hab.2,e4]
   have e6:(a+b).num=a.num+b.num:=by rw[hm.1,e4,←hup,e2,e3];simp
   have c4:=zmD a.num.natAbs b.num.natAbs;have ad':=zgF a.num b.num bna bnb (by show bl _≤_;omega)
   repeat (first|refine RUN ?_|refine CV (ad') ?_|refine CE (ad') ?_)
   show _=frV (a+b).num (dk (a+b).den);rw[e5,zmT,zdG,e6]
  ·rw[qC hab];refine uR ?_;have d1:=zei a bda;have d2:=zei b bdb;have s1:=zbo false a.den bda;have s2:=zbo false b.den bdb;have s3:=zbo false g bg
   (apply EV.drawn 8 kR kR;intro xv yw;(repeat (first|refine' DD ?_|(refine' DC (d1) (h:=?_);rotate_left)|(refine' DC (s1) (h:=?_);rotate_left)|(refine' DC (d2) (h:=?_);rotate_left)|(refine' DC (s2) (h:=?_);rotate_left)|(refine' DC (g1) (h:=?_);rotate_left)));refine DJ.nil (fun G hG hF=>?_);(case hS|hS2=>rfl));refine uR ?_
   (apply EV.drawn 10 kR kR;intro xv yw;(repeat (first|refine' DD ?_|(refine' DC (d1) (h:=?_);rotate_left)|(refine' DC (d2) (h:=?_);rotate_left)|(refine' DC (o1) (h:=?_);rotate_left)|(refine' DC (o2) (h:=?_);rotate_left)));refine DJ.nil (fun G hG hF=>?_);(case hS|hS2=>rfl));refine uR ?_
   (apply EV.drawn 10 kR kR;intro xv yw;(repeat (first|refine' DD ?_|(refine' DC (t1) (h:=?_);rotate_left)|(refine' DC (t2) (h:=?_);rotate_left)|(refine' DC (ad) (h:=?_);rotate_left)));refine DJ.nil (fun G hG hF=>?_);(case hS|hS2=>rfl));refine uR ?_
   (apply EV.drawn 5 kR kR;intro xv yw;(repeat (first|refine' DD ?_|(refine' DC (s3) (h:=?_);rotate_left)|(refine' DC (g2) (h:=?_);rotate_left)));refine DJ.nil (fun G hG hF=>?_);(case hS|hS2=>rfl));refine uR ?_
   (apply EV.drawn 10 kR kR;intro xv yw;(repeat (first|refine' DD ?_|(refine' DC (p1) (h:=?_);rotate_left)|(refine' DC (d2) (h:=?_);rotate_left)|(refine' DC (o3) (h:=?_);rotate_left)|(refine' DC (m2) (h:=?_);rotate_left)|(refine' DC (pk) (h:=?_);rotate_left)));refine DJ.nil (fun G hG hF=>?_);(case hS|hS2=>rfl));refine uR ?_;rfl
 ·by_cases ha1:a.den=1
  ·rw[qD ha1]
   repeat (first|refine RUN ?_|refine CV (w2) ?_|refine CE (w2) ?_)
   refine⟨⟨?_,rfl,rfl,rfl,trivial⟩,⟨rfl,rfl,rfl,trivial⟩,rfl⟩;simp[ha1];rfl
  ·rw[qC ha1];refine uR ?_;refine⟨⟨?_,rfl,rfl,rfl,trivial⟩,⟨rfl,rfl,rfl,trivial⟩,rfl⟩;simp[ha1];rfl
theorem zn2 (a b:Rat) (ha:sm a) (hb:sm b):PV prog 58 #[zaj a,zaj b] (zaj (a-b)):=by
 have h1:=zrF b (qI hb.num oM);have h2:=zfD a (-b) ha (by show ht (-b)≤_;rw[zm0];exact hb);rw[←Rat.sub_eq_add_neg]at h2;refine PV.of_pc ?_;refine BD func58 ntmps58 ?_;refine uR ?_
 (apply EV.drawn 4 kR kR;intro xv yw;(repeat (first|refine' DD ?_|(refine' DC (h1) (h:=?_);rotate_left)|(refine' DC (h2) (h:=?_);rotate_left)));refine DJ.nil (fun G hG hF=>?_);(case hS|hS2=>rfl));refine uR ?_;rfl
theorem zqn (b:Rat) (h:b.num≠0):frV (sg (decide (b.num<0)) b.den) (dk b.num.natAbs)=zaj b⁻¹:=by
 have e1:b⁻¹.num=sg (decide (b.num<0)) b.den:=by
  rw[Rat.num_inv];unfold sg;rcases Int.lt_or_lt_of_ne h with h1 | h1
  ·simp[h1,Int.sign_eq_neg_one_of_neg h1]
  ·rw[Int.sign_eq_one_of_pos h1,qC (by omega)];simp
 have e2:b⁻¹.den=b.num.natAbs:=by
  rw[Rat.den_inv,if_neg];exact h
 rw[←e1,←e2]
theorem zrx (a b:Rat) (ha:sm a) (hb:sm b) (h0:b≠0):PV prog 169 #[zaj a,zaj b] (.tuple #[zaj (a / b),.bool true]):=by
 have hn0:b.num≠0:=fun e=>h0 (Rat.num_eq_zero.1 e);have bnb:ze3 b.num:=qI hb.num oM;have bdb:big b.den:=qI hb.den oM;have hm:=zf6 a b⁻¹ ha (qI (zpE b) hb);rw[←Rat.div_def]at hm;have hp:=zh1 (sg (decide (b.num<0)) b.den) b.num.natAbs bnb;rw[zqn b hn0]at hp;have s1:=zbo (decide (b.num<0)) b.den bdb;have sg1:=zb6 b bnb;have ab:=zct b.num;have d2:=zei b bdb;refine PV.of_pc ?_;refine BD func169 ntmps169 ?_
 repeat (first|refine RUN ?_|refine CV (sg1) ?_|refine CE (sg1) ?_)
 rw[show (b.num.sign == 0)=false by simp[Int.sign_eq_zero_iff_zero,hn0]];refine uR ?_;apply EV.drawn 11 kR kR;intro xv yw;(repeat (first|refine' DD ?_|(refine' DC (sg1) (h:=?_);rotate_left)));rw[show decide (b.num.sign<0)=decide (b.num<0) by rw[decide_eq_decide];exact Int.sign_neg_iff];(repeat (first|refine' DD ?_|(refine' DC (d2) (h:=?_);rotate_left)|(refine' DC (s1) (h:=?_);rotate_left)|(refine' DC (ab) (h:=?_);rotate_left)|(refine' DC (hp) (h:=?_);rotate_left)));(refine DJ.nil (fun G hG hF=>?_);(case hS|hS2=>rfl))
 repeat (first|refine RUN ?_|refine CV (hm) ?_|refine CE (hm) ?_)
 rfl
theorem zjM (a:Rat):PV prog 169 #[zaj a,zaj 0] (.tuple #[zaj 0,.bool false]):=by
 have sg1:=zb6 0 (by show bl 0≤_;rw[zbn];omega);refine PV.of_pc ?_;refine BD func169 ntmps169 ?_
 repeat (first|refine RUN ?_|refine CV (sg1) ?_|refine CE (sg1) ?_)
 show _=Value.tuple #[frV 0 0,.bool false];rw[zdG,show (0:Int).natAbs=0 from rfl,zbQ (n:=0) (by decide)];rfl
theorem zlQ (x y p q:Int) (hp:0<p) (hq:0<q) (h:x.sign≠y.sign):zgc x y=zgc (x*p) (y*q):=by
 have f1:x<0→x*p<0:=fun h=>Int.mul_neg_of_neg_of_pos h hp;have f2:0<x→0<x*p:=fun h=>Int.mul_pos h hp;have f3:y<0→y*q<0:=fun h=>Int.mul_neg_of_neg_of_pos h hq;have f4:0<y→0<y*q:=fun h=>Int.mul_pos h hq;have f5:x=0→x*p=0:=fun h=>by rw[h,Int.zero_mul]
 have f6:y=0→y*q=0:=fun h=>by rw[h,Int.zero_mul]
 generalize x*p=u at *
 generalize y*q=v at *
 rcases Int.lt_trichotomy x 0 with hx | hx | hx <;> rcases Int.lt_trichotomy y 0 with hy | hy | hy
 ·exact absurd (by rw[Int.sign_eq_neg_one_of_neg hx,Int.sign_eq_neg_one_of_neg hy]) h
 ·unfold zgc;rw[if_pos oM,if_pos (by have:=f1 hx;have:=f6 hy;omega)]
 ·unfold zgc;rw[if_pos oM,if_pos (by have:=f1 hx;have:=f4 hy;omega)]
 ·unfold zgc;rw[if_neg oM,if_pos oM,if_neg (by have:=f5 hx;have:=f3 hy;omega),if_pos (by have:=f5 hx;have:=f3 hy;omega)]
 ·exact absurd (by rw[hx,hy]) h
 ·unfold zgc;rw[if_pos oM,if_pos (by have:=f5 hx;have:=f4 hy;omega)]
 ·unfold zgc;rw[if_neg oM,if_pos oM,if_neg (by have:=f2 hx;have:=f3 hy;omega),if_pos (by have:=f2 hx;have:=f3 hy;omega)]
 ·unfold zgc;rw[if_neg oM,if_pos oM,if_neg (by have:=f2 hx;have:=f6 hy;omega),if_pos (by have:=f2 hx;have:=f6 hy;omega)]
 ·exact absurd (by rw[Int.sign_eq_one_of_pos hx,Int.sign_eq_one_of_pos hy]) h
theorem znX (a b:Rat) (h:a.num.sign≠b.num.sign):zgc a.num b.num=zco a b:=by
 have:=Nat.pos_of_ne_zero a.den_nz;have:=Nat.pos_of_ne_zero b.den_nz;rw[zhZ];exact zlQ _ _ _ _ oM oM h
theorem zfN (a b:Rat) (ha:sm a) (hb:sm b):PV prog 31 #[zaj a,zaj b] (.int .i64 (zco a b)):=by
 have na:=ha.num;have da:=ha.den;have nb:=hb.num;have db:=hb.den;have bna:ze3 a.num:=qI na oM;have bnb:ze3 b.num:=qI nb oM;have bda:big a.den:=qI da oM;have bdb:big b.den:=qI db oM;have w1:=zbx a bda;have w2:=zbx b bdb;have s1:=zb6 a bna;have s2:=zb6 b bnb;have d1:=zei a bda;have d2:=zei b bdb;have c1:=za8 a.num.natAbs b.den;have c2:=za8 b.num.natAbs a.den;have t1:=zfv a.num b.den bna bdb (by show bl _≤_;omega);have t2:=zfv b.num a.den bnb bda (by show bl _≤_;omega);have k1:=zgG a.num b.num bna bnb;have k2:=zgG (a.num*(b.den:Int)) (b.num*(a.den:Int)) (by show bl _≤_;rw[Int.natAbs_mul];simp;omega) (by show bl _≤_;rw[Int.natAbs_mul];simp;omega);rw[←zhZ]at k2;refine PV.of_pc ?_;refine BD func31 ntmps31 ?_;refine uR ?_;by_cases ha1:a.den=1
 ·rw[qD ha1]at w1;by_cases hb1:b.den=1
  ·rw[qD hb1]at w2;have e:zgc a.num b.num=zco a b:=by rw[zhZ,ha1,hb1];simp
   rw[e]at k1;apply EV.drawn 10 kR kR;intro xv yw;(repeat (first|refine' DD ?_|(refine' DC (w1) (h:=?_);rotate_left)|(refine' DC (w2) (h:=?_);rotate_left)|(refine' DC (s1) (h:=?_);rotate_left)|(refine' DC (s2) (h:=?_);rotate_left)));(refine DJ.nil (fun G hG hF=>?_);(case hS|hS2=>rfl))
   repeat (first|refine RUN ?_|refine CV (k1) ?_|refine CE (k1) ?_)
   rfl
  ·rw[qC hb1]at w2;apply EV.drawn 10 kR kR;intro xv yw;(repeat (first|refine' DD ?_|(refine' DC (w1) (h:=?_);rotate_left)|(refine' DC (w2) (h:=?_);rotate_left)|(refine' DC (s1) (h:=?_);rotate_left)|(refine' DC (s2) (h:=?_);rotate_left)));(refine DJ.nil (fun G hG hF=>?_);(case hS|hS2=>rfl))
   repeat (first|refine RUN ?_|refine CV (s1) ?_|refine CV (s2) ?_|refine CE (s1) ?_|refine CE (s2) ?_)
   by_cases hs:a.num.sign=b.num.sign
   ·rw[show (a.num.sign != b.num.sign)=false by simp[hs]];refine uR ?_;apply EV.drawn 9 kR kR;intro xv yw;(repeat (first|refine' DD ?_|(refine' DC (d2) (h:=?_);rotate_left)|(refine' DC (t1) (h:=?_);rotate_left)|(refine' DC (d1) (h:=?_);rotate_left)));(refine DJ.nil (fun G hG hF=>?_);(case hS|hS2=>rfl))
    repeat (first|refine RUN ?_|refine CV (t2) ?_|refine CV (k2) ?_|refine CE (t2) ?_|refine CE (k2) ?_)
    rfl
   ·rw[show (a.num.sign != b.num.sign)=true by simp[hs]]
    repeat (first|refine RUN ?_|refine CV (k1) ?_|refine CE (k1) ?_)
    rw[znX a b hs]
 ·rw[qC ha1]at w1;apply EV.drawn 10 kR kR;intro xv yw;(repeat (first|refine' DD ?_|(refine' DC (w1) (h:=?_);rotate_left)|(refine' DC (w2) (h:=?_);rotate_left)|(refine' DC (s1) (h:=?_);rotate_left)|(refine' DC (s2) (h:=?_);rotate_left)));(refine DJ.nil (fun G hG hF=>?_);(case hS|hS2=>rfl))
  repeat (first|refine RUN ?_|refine CV (s1) ?_|refine CV (s2) ?_|refine CE (s1) ?_|refine CE (s2) ?_)
  by_cases hs:a.num.sign=b.num.sign
  ·rw[show (a.num.sign != b.num.sign)=false by simp[hs]];refine uR ?_;apply EV.drawn 9 kR kR;intro xv yw;(repeat (first|refine' DD ?_|(refine' DC (d2) (h:=?_);rotate_left)|(refine' DC (t1) (h:=?_);rotate_left)|(refine' DC (d1) (h:=?_);rotate_left)));(refine DJ.nil (fun G hG hF=>?_);(case hS|hS2=>rfl))
   repeat (first|refine RUN ?_|refine CV (t2) ?_|refine CV (k2) ?_|refine CE (t2) ?_|refine CE (k2) ?_)
   rfl
  ·rw[show (a.num.sign != b.num.sign)=true by simp[hs]]
   repeat (first|refine RUN ?_|refine CV (k1) ?_|refine CE (k1) ?_)
   rw[znX a b hs]
theorem zcp (z m:Int) (hz:-9223372036854775808≤z∧z<9223372036854775808) (h0:0<m) (hm:m<4611686018427387904):PV prog 10 #[.int .i64 z,.int .i64 m] (.int .i64 (z % m)):=by
 have h1:=Int.tmod_lt_of_pos z h0;have h2:=Int.lt_tmod_of_pos z h0
 have e:z % m=if z.tmod m<0 then z.tmod m+m else z.tmod m:=by
  have hq:=Int.mul_tdiv_add_tmod z m
  have e1:z % m=z.tmod m % m:=by
   conv=>lhs;rw[←hq]
   rw[Int.mul_add_emod_self_left]
  rw[e1];by_cases ht:z.tmod m<0
  ·rw[if_pos ht,←Int.add_emod_right,Int.emod_eq_of_lt oM (by omega)]
  ·rw[if_neg ht,Int.emod_eq_of_lt oM h1]
 refine PV.of_pc ?_;refine BD func10 ntmps10 ?_;refine uR ?_;refine EVL.remI rfl rfl rfl rfl rfl rfl oM ?_;generalize z.tmod m=t at *
 refine uR ?_;by_cases ht:t<0
 ·rw[if_pos ht]at e;rw[qD ht];refine uR ?_;rw[e,pK];congr 1;omega
 ·rw[if_neg ht]at e;rw[qC ht];refine uR ?_;rw[e]
theorem zho {H:Hp} {v:Value} {n:Nat} (h:RN H v n) (hn:rsm n):PC prog 126 #[v] H fun r _=>r=zaC n:=by
 have hol:(zio n).length≤200000000:=by
  rw[zcm];have:=zaO 8 n oM;rw[show (2:Nat) ^ 8=256 by decide]at this;rw[this];have:bl n≤800000000:=hn;omega
 refine BD func126 ntmps126 ?_;refine uR ?_;refine vA (zj6 h hn) ?_;rintro r G hr hG;have hf:=zds hr (zhX n) hol;rw[zkQ]at hf
 repeat (first|refine RUN ?_|refine CV (hf) ?_|refine CE (hf) ?_)
 rfl
theorem zi6 {H:Hp} (n:Nat) (hn:rsm n):PC prog 139 #[zaC n] H fun r H'=>RN H' r n:=by
 have hol:(zio n).length≤200000000:=by
  rw[zcm];have:=zaO 8 n oM;rw[show (2:Nat) ^ 8=256 by decide]at this;rw[this];have:bl n≤800000000:=hn;omega
 refine BD func139 ntmps139 ?_;refine uR ?_;refine EVL.call rfl rfl rfl rfl rfl (zf7 n (qI hn oM) H) ?_;rintro r G hr hG;have hf:=zmd hr (zhX n) hol;rw[zkQ]at hf;refine uR ?_;refine vA (hf) ?_;rintro s G2 hs hG2;refine uR ?_;exact hs
theorem zql {H:Hp} {v:Value} {z:Int} (h:RI H v z) (hz:rsm z.natAbs):PC prog 125 #[v] H fun r _=>r=zd6 z:=by
 obtain⟨sa,sl,sc,rfl,hs⟩:=id h;have hf:=zbo (decide (z<0)) z.natAbs (qI hz oM);rw[zpQ]at hf;refine BD func125 ntmps125 ?_;refine uR ?_;apply EV.drawn 6 kR kR;intro xv yw;(repeat refine' DD ?_);refine' vC (cO func126) (fun G hG hd=>zho (RN.mono hs hG) hz) ?_;rotate_left;(repeat (first|refine' DD ?_|(refine' DC (hf) (h:=?_);rotate_left)));(refine DJ.nil (fun G hG hF=>?_);(case hS|hS2=>rfl));refine uR ?_;rfl
theorem zno {H:Hp} (z:Int) (hz:rsm z.natAbs):PC prog 137 #[zd6 z] H fun r H'=>RI H' r z:=by
 have hb:ze3 z:=qI hz oM;have e1:decide (z.sign<0)=decide (z<0):=by rw[decide_eq_decide,Int.sign_neg_iff]
 refine BD func137 ntmps137 ?_;refine uR ?_;apply EV.drawn 7 kR kR;intro xv yw;(repeat (first|refine' DD ?_|(refine' DC (zaZ z hb) (h:=?_);rotate_left)|(refine' DC (zct z) (h:=?_);rotate_left)));refine' vB (cO func139) (fun G hG hd=>zi6 z.natAbs hz) (fun _ _ _ h k=>RN.mono h k) ?_;rotate_left;rw[e1];refine' vB (cO func113) (fun G hG hd=>zbS (decide (z<0)) (hd.head kR)) (fun _ _ _ h k=>RI.mono h k) ?_;rotate_left;(refine DJ.nil (fun G hG hF=>?_);(case hS|hS2=>rfl));obtain⟨⟨ra,rl,rc,hr,h1⟩,_⟩:=hF;rw[zpQ]at hr h1;rw[hr];refine uR ?_;exact⟨ra,rl,rc,rfl,h1⟩
theorem zfY {H:Hp} {v:Value} {q:Rat} (h:RQ H v q) (hq:rq q):PC prog 63 #[v] H fun r _=>r=zaj q:=by
 obtain⟨sa,sl,sc,ta,tl,tc,rfl,hs,ht⟩:=id h;have hn:=hq.num;have hd':=hq.den;have hf:=zbo false q.den (qI hd' oM);rw[show sg false q.den=(q.den:Int) from rfl]at hf;have hm:=zm7 q.num (q.den:Int) (qI hn oM) (qI hd' oM) (by have:=q.den_nz;omega);rw[if_neg oM,Int.natAbs_natCast,Rat.mkRat_self]at hm;refine BD func63 ntmps63 ?_;refine uR ?_;apply EV.drawn 14 kR kR;intro xv yw;(repeat refine' DD ?_);refine' vC (cO func125) (fun G hG hd=>zql (RQ.rnum (RN.mono hs hG)) hn) ?_;rotate_left;(repeat refine' DD ?_);refine' vC (cO func126) (fun G hG hd=>zho (RN.mono ht hG) hd') ?_;rotate_left;(repeat (first|refine' DD ?_|(refine' DC (hf) (h:=?_);rotate_left)|(refine' DC (hm) (h:=?_);rotate_left)));(refine DJ.nil (fun G hG hF=>?_);(case hS|hS2=>rfl));refine uR ?_;rfl
theorem zrI {H:Hp} (q:Rat) (hq:rq q):PC prog 77 #[zaj q] H fun r H'=>RQ H' r q:=by
 have hn:=hq.num;have hd':=hq.den;refine BD func77 ntmps77 ?_;refine uR ?_;apply EV.drawn 6 kR kR;intro xv yw;(repeat (first|refine' DD ?_|(refine' DC (zpL q) (h:=?_);rotate_left)|(refine' DC (zei q (qI hd' oM)) (h:=?_);rotate_left)));refine' vB (cO func137) (fun G hG hd=>zno q.num hn) (fun _ _ _ h k=>RI.mono h k) ?_;rotate_left;(repeat (first|refine' DD ?_|(refine' DC (zpL q) (h:=?_);rotate_left)|(refine' DC (zei q (qI hd' oM)) (h:=?_);rotate_left)));refine' vB (cO func139) (fun G hG hd=>zi6 q.den hd') (fun _ _ _ h k=>RN.mono h k) ?_;rotate_left;(refine DJ.nil (fun G hG hF=>?_);(case hS|hS2=>rfl));obtain⟨hN,⟨ra,rl,rc,hr,h1⟩,_⟩:=hF;obtain⟨xa,xc,hx⟩:=SlC.val hN;rw[hx]at hN;rw[hx,hr];refine uR ?_;exact⟨ra,rl,rc,xa,_,xc,rfl,h1,hN⟩
theorem zhm {H:Hp} {u v:Value} {a b:Nat} (hu:RN H u a) (hv:RN H v b) (ha:rsm a):PC prog 102 #[u,v] H fun r _=>r=.int .i64 (zbj a b):=by
 have la:=ha.len;have:=zcN hu hv (zan zad _) (zan zad _) oM
 rwa [zam zad,zam zad]at this
theorem zkU (a b:Nat):(zbj a b == 0)=decide (a=b):=by
 unfold zbj;rcases Nat.lt_trichotomy a b with h | h | h
 ·rw[if_pos h,qC (by omega)];rfl
 ·rw[if_neg oM,if_neg oM,qD h];rfl
 ·rw[if_neg oM,if_pos h,qC (by omega)];rfl
theorem zq0 {H:Hp} {w:Value} {p q:Rat} (hw:RQ H w q) (hp:rq p) (hq:rq q):PC prog 38 #[zaj p,w] H fun r _=>r=.bool (decide (p=q)):=by
 obtain⟨sa,sl,sc,ta,tl,tc,rfl,hs,ht⟩:=id hw
 have hl:(tl:Int)≠0:=by
  have h1:=SlN.cap ht;have h2:=zeN zad q.den_nz;have h3:=List.length_pos_iff.2 h2;omega
 refine BD func38 ntmps38 ?_;refine uR ?_;refine vA (zrI p hp) ?_;rintro r G ⟨sa',sl',sc',ta',tl',tc',rfl,hs',ht'⟩ hG;have c1:=zhm hs' (RN.mono hs hG) hp.num;have c2:=zhm ht' (RN.mono ht hG) hp.den;refine uR ?_;rw[show ((tl:Int) == 0)=false by simpa using hl]
 repeat (first|refine RUN ?_|refine CV (c1) ?_|refine CE (c1) ?_)
 rw[zkU];by_cases h1:p.num.natAbs=q.num.natAbs
 ·rw[qD h1];refine uR ?_;refine EVL.eqb rfl rfl rfl rfl rfl rfl kR ?_;by_cases h2:decide (p.num<0)=decide (q.num<0)
  ·rw[show (decide (p.num<0) == decide (q.num<0))=true by simp[h2]]
   repeat (first|refine RUN ?_|refine CV (c2) ?_|refine CE (c2) ?_)
   rw[zkU];congr 1
   have hn:p.num=q.num:=by
    rw[decide_eq_decide]at h2;omega
   by_cases h3:p.den=q.den
   ·rw[qD h3,qD (Rat.ext hn h3)]
   ·rw[qC h3,qC (fun e=>h3 (by rw[e]))]
  ·rw[show (decide (p.num<0) == decide (q.num<0))=false by simpa using h2];refine uR ?_;rw[qC (fun e=>h2 (by rw[e]))]
 ·rw[qC h1];refine uR ?_;rw[qC (fun e=>h1 (by rw[e]))]
def zpP (j:Nat):Int:=[1,1,1,2,3,4].getD j 1
def zmv (z:Int):Rat:=Rat.divInt (z % 41-20) (zpP (z.tdiv 41 % 6).toNat)
theorem zeW (j:Nat):1≤zpP j∧zpP j≤4:=by
 unfold zpP;rcases j with _ | _ | _ | _ | _ | _ | j <;> simp[qB]
theorem zsv {H:Hp} (z:Int) (hz:-9223372036854775808≤z∧z<9223372036854775808):PC prog 11 #[.int .i64 z] H fun r H'=>RQ H' r (zmv z):=by
 have hq:-9223372036854775808≤z.tdiv 41∧z.tdiv 41<9223372036854775808:=by
  by_cases h:0≤z
  ·rw[Int.tdiv_eq_ediv_of_nonneg h];omega
  ·have e:z.tdiv 41 = -((-z) / 41):=by rw[←Int.tdiv_eq_ediv_of_nonneg oM,Int.neg_tdiv,Int.neg_neg]
   rw[e];omega
 have hqw:IntKind.i64.wrap (z.tdiv 41)=z.tdiv 41:=by rw[pK];omega
 have h1:=zcp z 41 hz oM oM;have h2:=zcp (z.tdiv 41) 6 hq oM oM;have m1:=Int.emod_nonneg z (show (41:Int)≠0 by omega);have m2:=Int.emod_lt_of_pos z (show (0:Int)<41 by omega);obtain⟨j,hj⟩:=qh (Int.emod_nonneg (z.tdiv 41) (show (6:Int)≠0 by omega));have m3:=Int.emod_lt_of_pos (z.tdiv 41) (show (0:Int)<6 by omega);have hsub:IntKind.i64.wrap (z % 41-20)=z % 41-20:=by rw[pK];omega
 have hrd:=zeW j;have hrn:zmv z=Rat.divInt (z % 41-20) (zpP j):=by unfold zmv;rw[hj];rfl
 rw[hrn]
 have hidx:([.int .i64 1,.int .i64 1,.int .i64 1,.int .i64 2,.int .i64 3,.int .i64 4]:List Value)[j]?=some (.int .i64 (zpP j)):=by
  have hj6:j<6:=oM;rcases j with _|_|_|_|_|_|j <;> first|rfl|omega
 have ho:=fun G:Hp=>zch (H:=G) (z % 41-20) (zpP j) oM oM oM oM oM;rw[hj]at h2;refine BD func11 ntmps11 ?_
 repeat (first|refine RUN ?_|refine CV (h1) ?_|refine CE (h1) ?_)
 rw[hsub];refine EVL.buildArr rfl rfl rfl rfl rfl (cs:=[.int .i64 1,.int .i64 1,.int .i64 1,.int .i64 2,.int .i64 3,.int .i64 4]) kR ?_;refine uR ?_;rw[hqw]
 repeat (first|refine RUN ?_|refine CV (h2) ?_|refine CE (h2) ?_)
 refine EVL.indexArr (e:=2) (len:=6) tO rfl rfl rfl rfl kR rfl rfl rfl rfl rfl j rfl (show j<6 by omega) hidx ?_;refine vA (ho H) ?_;rintro r G ⟨ra,rl,rc,xa,xl,xc,rfl,hn,hd⟩ hG;refine uR ?_;exact⟨ra,rl,rc,xa,xl,xc,rfl,hn,hd⟩
def QL (H:Hp) (v:Value) (l:List Rat):Prop:=SlC H v l.length 5 (l.flatMap fun q=>zae (zaj q))
def RL (H:Hp) (v:Value) (l:List Rat):Prop:=∃vs:List Value,vs.length=l.length∧(∀(j:Nat) (x:Value) (q:Rat),vs[j]?=some x→l[j]?=some q→RQ H x q)∧SlC H v l.length 3 (vs.flatMap zae)
theorem QL.mono {H G:Hp} {v:Value} {l:List Rat} (h:QL H v l) (k:H.Le G):QL G v l:=SlC.mono h k
theorem RL.mono {H G:Hp} {v:Value} {l:List Rat} (h:RL H v l) (k:H.Le G):RL G v l:=by
 obtain⟨vs,h1,h2,h3⟩:=h;exact⟨vs,h1,fun j x q e1 e2=>(h2 j x q e1 e2).mono k,h3.mono k⟩
theorem QL.at {H:Hp} {v:Value} {l:List Rat} {j:Nat} {q:Rat} (hj:l[j]?=some q):((l.flatMap fun q=>zae (zaj q)).drop (j*5)).take 5=zae (zaj q):=zcA _ 5 l (fun _ _=>rfl) j q hj
theorem RQ.cells {H:Hp} {x:Value} {q:Rat} (h:RQ H x q):(zae x).length=3∧zdv (zae x)=true:=by
 obtain⟨_,_,_,_,_,_,rfl,_,_⟩:=h;exact⟨rfl,rfl⟩
theorem RL.at {H:Hp} {v:Value} {l:List Rat} (h:RL H v l) {j:Nat} {q:Rat} (hj:l[j]?=some q):∃(vs:List Value) (x:Value),SlC H v l.length 3 (vs.flatMap zae)∧((vs.flatMap zae).drop (j*3)).take 3=zae x∧RQ H x q:=by
 obtain⟨vs,h1,h2,h3⟩:=h;obtain⟨hl,rfl⟩:=qE.1 hj;have hv:vs[j]?=some (vs[j]'(by omega)):=qA oM
 have hall:∀x,x∈vs→(zae x).length=3:=fun x hx=>by
  obtain⟨i,hi,rfl⟩:=List.getElem_of_mem hx;exact(h2 i _ _ (qA hi) (qA oM)).cells.1
 exact⟨vs,_,h3,zcA _ 3 vs hall j _ hv,h2 j _ _ hv hj⟩
theorem zai {α:Type} {l:List α} {i:Nat} {x:α} (h:l[i]?=some x):l.take (i+1)=l.take i++[x]:=by
 obtain⟨hl,rfl⟩:=qE.1 h;exact qS hl
theorem RL.val {H:Hp} {v:Value} {l:List Rat} (h:RL H v l):∃a cap,v=.slice a l.length cap:=by
 obtain⟨vs,_,_,h3⟩:=h;exact SlC.val h3
theorem zep {H:Hp} {v:Value} {l:List Rat} (h:RL H v l) (hl:l.length≤100000000) (hq:∀q,q∈l→rq q):PC prog 17 #[v] H fun r H'=>QL H' r l:=by
 obtain⟨a,cap,rfl⟩:=RL.val h;refine BD func17 ntmps17 ?_;refine uR ?_;refine EV.loopK (ι:=Nat × Value × Ows) [0] [] (fun q=>[(3,.v q.2.1),(4,.v (.int .i64 (q.1:Int)))]) (fun _=>[]) (fun q=>q.2.2) (fun q G=>q.1≤l.length∧zaA 51 5 q.2.1 q.1 ((l.take q.1).flatMap fun q=>zae (zaj q)) q.2.2) (fun q=>l.length-q.1) ((0,.slice none 0 0,[])) rfl rfl ⟨rfl,rfl,trivial⟩ trivial rfl (fun _=>rfl) (⟨qQ _,zaA.nil _ _⟩) ?_;rintro⟨i,w,ow⟩ G1 hG1 ⟨hi,hown⟩;dsimp only at hi hown;refine uR ?_;refine EV.cond rfl (fun hlt=>?_) (fun hlt=>?_)
 ·simp only[nN]at hlt;obtain⟨q,hqi⟩:=gE hlt;obtain⟨vs,x,hs,hc,hx⟩:=(h.mono hG1).at hqi;obtain⟨xa,xl,xc,ya,yl,yc,rfl,hx1,hx2⟩:=id hx;refine uR ?_;refine EVL.idxM tO rfl rfl rfl rfl rfl rfl rfl rfl rfl (hs) (i) (rfl) (hlt) (hc) ?_
  repeat (first|refine RUN ?_|refine CV (zfY hx (hq q (qF hqi))) ?_|refine CE (zfY hx (hq q (qF hqi))) ?_)
  refine EVL.app1 tO rfl rfl rfl rfl rfl rfl rfl rfl rfl rfl rfl rfl rfl rfl rfl rfl rfl rfl rfl (fun _=>rfl) (ow) ([]) ((qG _).symm) (hown) oM fun _=>?_;intro v' ow' hown';refine uR ?_;refine⟨(i+1,v',ow'),⟨rfl,?_,trivial⟩,sB,trivial,trivial,qG _,⟨by dsimp only;omega,?_⟩,Hp.Le.refl _,by dsimp only;omega⟩
  ·rw[zac i (by omega)];rfl
  ·dsimp only;rw[zai hqi,List.flatMap_append];exact hown'
 ·simp only[nN]at hlt;obtain rfl:i=l.length:=oM;(first|refine EVL.publishL [] ow [] ((qG _).symm) hown fun G2 hG2 hs=>?_|refine EV.publishL [] ow [] ((qG _).symm) hown fun G2 hG2 hs=>?_);refine uR ?_;rw[qa]at hs;exact hs
def RVs (H:Hp) (vs:List Value) (l:List Rat):Prop:=vs.length=l.length∧∀(j:Nat) (x:Value) (q:Rat),vs[j]?=some x→l[j]?=some q→RQ H x q
theorem RVs.mono {H G:Hp} {vs:List Value} {l:List Rat} (h:RVs H vs l) (k:H.Le G):RVs G vs l:=⟨h.1,fun j x q e1 e2=>(h.2 j x q e1 e2).mono k⟩
theorem RVs.nil (H:Hp):RVs H [] []:=⟨rfl,fun j x q h=>by simp at h⟩
theorem RVs.snoc {H:Hp} {vs:List Value} {l:List Rat} {x:Value} {q:Rat} (h:RVs H vs l) (k:RQ H x q):RVs H (vs++[x]) (l++[q]):=by
 refine⟨by simp[h.1],fun j y r e1 e2=>?_⟩;rw[List.getElem?_append]at e1 e2;by_cases hj:j<vs.length
 ·rw[if_pos hj]at e1;rw[if_pos (by rw[←h.1];exact hj)]at e2;exact h.2 j y r e1 e2
 ·rw[if_neg hj]at e1;rw[if_neg (by rw[←h.1];exact hj)]at e2;have:=h.1
  cases hk:j-vs.length with
  | zero =>
   rw[hk]at e1;rw[←h.1,hk]at e2;simp at e1 e2;subst e1;subst e2;exact k
  | succ m=>rw[hk]at e1;simp at e1
theorem RVs.rl {H:Hp} {vs:List Value} {l:List Rat} {v:Value} (h:RVs H vs l) (hs:SlC H v l.length 3 (vs.flatMap zae)):RL H v l:=⟨vs,h.1,h.2,hs⟩
abbrev IL (H:Hp) (v:Value) (l:List Int):Prop:=SlN (fun z:Int=>Value.int .i64 z) H v l
def zji (l:List Int) (n:Nat):List Rat:=(List.range n).map fun i=>match l[i]? with
 | some z=>zmv z
 | none=>0
theorem zeA (l:List Int) (n:Nat):(zji l n).length=n:=by simp[zji]
theorem znM {l:List Int} {n i:Nat} {z:Int} (hi:i<n) (h:l[i]?=some z):(zji l n)[i]?=some (zmv z):=by
 unfold zji;rw[qK,List.getElem?_range hi];simp[h]
theorem znL {l:List Int} {n i:Nat} (hi:i<n) (h:l[i]?=none):(zji l n)[i]?=some 0:=by
 unfold zji;rw[qK,List.getElem?_range hi];simp[h]
theorem znN {H:Hp} {v:Value} {l:List Int} (h:IL H v l) (hb:∀z,z∈l → -9223372036854775808≤z∧z<9223372036854775808) (n:Nat) (hn:n≤1000000):PC prog 29 #[v,.int .i64 (n:Int)] H fun r H'=>RL H' r (zji l n):=by
 obtain⟨a,cap,rfl⟩:=SlC.val h;have hz0:=fun G:Hp=>zaF (H:=G) 0 oM oM;rw[show ((0:Int):Rat)=0 from rfl]at hz0;refine BD func29 ntmps29 ?_;refine uR ?_;refine EV.loopK (ι:=Nat × List Value × Value × Ows) [0,1] [] (fun q=>[(5,.v q.2.2.1),(6,.v (.int .i64 (q.1:Int)))]) (fun _=>[]) (fun q=>q.2.2.2) (fun q G=>q.1≤n∧RVs G q.2.1 ((zji l n).take q.1)∧zaA 33 3 q.2.2.1 q.1 (q.2.1.flatMap zae) q.2.2.2) (fun q=>n-q.1) ((0,[],.slice none 0 0,[])) rfl rfl ⟨rfl,rfl,trivial⟩ trivial rfl (fun _=>rfl) (⟨qQ _,RVs.nil _,zaA.nil _ _⟩) ?_;rintro⟨i,vs,w,ow⟩ G1 hG1 ⟨hi,hvs,hown⟩;dsimp only at hi hvs hown;refine uR ?_;refine EV.cond rfl (fun hlt=>?_) (fun hlt=>?_)
 ·simp only[nN]at hlt;refine uR ?_;refine EV.cond rfl (fun hll=>?_) (fun hll=>?_)
  ·simp only[nN]at hll;obtain⟨z,hzi⟩:=gE hll;have hzb:=hb z (qF hzi);have hq:=znM hlt hzi;refine uR ?_;refine vI ((h.mono hG1)) (i) (rfl) (hll) ((by rw[qK,hzi];rfl)) ?_;refine uR ?_;refine vA (zsv z hzb) ?_;rintro r G2 hr hG2;obtain⟨xa,xl,xc,ya,yl,yc,rfl,hx1,hx2⟩:=id hr;refine uR ?_;refine EVL.app1 tO rfl rfl rfl rfl rfl rfl rfl rfl rfl rfl rfl rfl rfl rfl rfl rfl rfl rfl rfl (fun _=>rfl) (ow) ([]) ((qG _).symm) (hown) oM fun _=>?_;intro v' ow' hown';refine uR ?_;refine⟨(i+1,vs++[_],v',ow'),⟨rfl,?_,trivial⟩,sB,trivial,trivial,qG _,⟨hlt,by rw[zai hq];exact(hvs.mono hG2).snoc hr,?_⟩,hG2,by dsimp only;omega⟩
   ·rw[zac i (by omega)];rfl
   ·dsimp only;rw[List.flatMap_append];exact hown'
  ·simp only[nN]at hll;have hzi:l[i]?=none:=qe oM;have hq:=znL hlt hzi;refine uR ?_;refine vA (hz0 _) ?_;rintro r G2 hr hG2;obtain⟨xa,xl,xc,ya,yl,yc,rfl,hx1,hx2⟩:=id hr;refine uR ?_;refine EVL.app1 tO rfl rfl rfl rfl rfl rfl rfl rfl rfl rfl rfl rfl rfl rfl rfl rfl rfl rfl rfl (fun _=>rfl) (ow) ([]) ((qG _).symm) (hown) oM fun _=>?_;intro v' ow' hown';refine uR ?_;refine⟨(i+1,vs++[_],v',ow'),⟨rfl,?_,trivial⟩,sB,trivial,trivial,qG _,⟨hlt,by rw[zai hq];exact(hvs.mono hG2).snoc hr,?_⟩,hG2,by dsimp only;omega⟩
   ·rw[zac i (by omega)];rfl
   ·dsimp only;rw[List.flatMap_append];exact hown'
 ·simp only[nN]at hlt;obtain rfl:i=n:=oM;(first|refine EVL.publishL [] ow [] ((qG _).symm) hown fun G2 hG2 hs=>?_|refine EV.publishL [] ow [] ((qG _).symm) hown fun G2 hG2 hs=>?_);refine uR ?_;have e:(zji l i).take i=zji l i:=qO (by rw[zeA];exact qH _);rw[e]at hvs;exact(hvs.mono hG2).rl (by rw[zeA];exact hs)
theorem zr2 {a b c a' b' c':Value} (e:Value.agg #[a,b,c]=.agg #[a',b',c']):a=a'∧b=b'∧c=c':=by
 simp only[Value.agg.injEq,Array.mk.injEq,List.cons.injEq,and_true]at e;exact e
theorem zgo {H:Hp} {v:Value} {l:List Rat} (h:RL H v l) (hl:l.length≤100000) (hb:∀q,q∈l→ht q≤100):PC prog 177 #[v] H fun r H'=>RQ H' r (zaR l):=by
 obtain⟨a,cap,rfl⟩:=RL.val h;have hz0:=fun G:Hp=>zaF (H:=G) 0 oM oM;rw[show ((0:Int):Rat)=0 from rfl]at hz0;refine BD func177 ntmps177 ?_;refine uR ?_;refine vA (hz0 _) ?_;rintro r G0 hr hG0;obtain⟨xa,xl,xc,ya,yl,yc,rfl,hx1,hx2⟩:=id hr;refine uR ?_;refine EV.loopK (ι:=Nat × Value × Value × Value) [0,2,3] [2] (fun q=>[(4,.v (.int .i64 (q.1:Int)))]) (fun q=>[(3,33,[q.2.1,q.2.2.1,q.2.2.2])]) (fun _=>[]) (fun q G=>q.1≤l.length∧G0.Le G∧RQ G (.agg #[q.2.1,q.2.2.1,q.2.2.2]) (zaR (l.take q.1))) (fun q=>l.length-q.1) ((0,_,_,_)) rfl rfl ⟨rfl,trivial⟩ ⟨rfl,trivial⟩ rfl (fun _=>rfl) (⟨qQ _,Hp.Le.refl _,hr⟩) ?_;rintro⟨i,c1,c2,c3⟩ G1 hG1 ⟨hi,hG01,hs⟩;dsimp only at hi hs hG01;refine uR ?_;refine EV.cond rfl (fun hlt=>?_) (fun hlt=>?_)
 ·simp only[nN]at hlt;obtain⟨q,hqi⟩:=gE hlt;obtain⟨vs,x,hsl,hc,hx⟩:=(h.mono (hG0.trans hG01)).at hqi;obtain⟨xa',xl',xc',ya',yl',yc',rfl,hx1',hx2'⟩:=id hx;have hqb:=hb q (qF hqi);have hsb:=zdW 100 (l.take i) (fun q hq=>hb q (List.mem_of_mem_take hq));rw[qP,qm hi]at hsb;have qs:rq (zaR (l.take i)):=qI hsb oM;have qq:rq q:=qI hqb oM;refine uR ?_;apply EV.drawn 6 kR kR;intro xv yw;(repeat refine' DD ?_);refine' DJ.idxM tO rfl rfl rfl rfl rfl rfl rfl rfl rfl (hsl) (i) (rfl) (hlt) (hc) ?_;rotate_left;(repeat refine' DD ?_);refine' vB (cO func103) (fun G hG hd=>zb0 (hs.mono hG) (hx.mono hG) qs qq) (fun _ _ _ h k=>RQ.mono h k) ?_;rotate_left;(refine DJ.nil (fun G2 hG2 hF2=>?_);(case hS|hS2=>rfl));have hR:=hF2.1;rw[←zbh,←zai hqi]at hR;obtain⟨_,_,_,_,_,_,e,_,_⟩:=id hR;rw[e]at hR ⊢;refine uR ?_;refine⟨(i+1,_,_,_),⟨?_,trivial⟩,sB,⟨rfl,trivial⟩,sB,rfl,⟨hlt,hG01.trans hG2,hR⟩,hG2,by dsimp only;omega⟩;rw[zac i (by omega)];rfl
 ·simp only[nN]at hlt;obtain rfl:i=l.length:=oM;rw[qa]at hs;obtain⟨_,_,_,_,_,_,e,_,_⟩:=id hs;obtain⟨rfl,rfl,rfl⟩:=zr2 e;refine uR ?_;exact hs
theorem zpF {n:Nat} (h:n≤100000):ht ((n:Int):Rat)≤20:=by
 have:=zdh (n:Int);have h2:bl (n:Int).natAbs≤17:=zaU oM;omega
theorem zhn {H:Hp} {v:Value} {l:List Rat} (h:RL H v l) (hl:l.length≤100000) (h0:l.length≠0) (hb:∀q,q∈l→ht q≤100):PC prog 128 #[v] H fun r H'=>RQ H' r (zaR l / ((l.length:Int):Rat)):=by
 obtain⟨a,cap,rfl⟩:=RL.val h;have hs:=zdW 100 l hb;have hln:=zpF hl;have hof:=fun G:Hp=>zaF (H:=G) (l.length:Int) oM oM;refine BD func128 ntmps128 ?_;refine uR ?_;refine vA (zgo h hl hb) ?_;rintro r1 G1 h1 hG1;refine uR ?_;refine vA (hof _) ?_;rintro r2 G2 h2 hG2;refine uR ?_;refine EVL.call rfl rfl rfl rfl rfl (zeX (h1.mono hG2) h2 (qI hs oM) (qI hln oM) (by show (l.length:Int)≠0;omega)) ?_;rintro r3 G3 ⟨_,_,_,_,_,_,rfl,d1,d2⟩ _;refine uR ?_;exact⟨_,_,_,_,_,_,rfl,d1,d2⟩
theorem zmc {H:Hp} {u v:Value} {l m:List Rat} (hu:RL H u l) (hv:RL H v m) (hlm:l.length=m.length) (hl:l.length≤100000) (hb:∀q,q∈l→ht q≤100) (hb':∀q,q∈m→ht q≤100):PC prog 253 #[u,v] H fun r H'=>RQ H' r (zaR (zgN l m)):=by
 obtain⟨a,cap,rfl⟩:=RL.val hu;obtain⟨b,cap',rfl⟩:=RL.val hv;have hdl:(zgN l m).length=l.length:=by unfold zgN;rw[List.length_zipWith];omega
 have hdh:=zjN hb hb';have hz0:=fun G:Hp=>zaF (H:=G) 0 oM oM;rw[show ((0:Int):Rat)=0 from rfl]at hz0;refine BD func253 ntmps253 ?_;refine uR ?_;refine vA (hz0 _) ?_;rintro r G0 hr hG0;obtain⟨xa,xl,xc,ya,yl,yc,rfl,hx1,hx2⟩:=id hr;refine uR ?_;refine EV.loopK (ι:=Nat × Value × Value × Value) [0,1,4,5] [4] (fun q=>[(6,.v (.int .i64 (q.1:Int)))]) (fun q=>[(5,33,[q.2.1,q.2.2.1,q.2.2.2])]) (fun _=>[]) (fun q G=>q.1≤l.length∧G0.Le G∧RQ G (.agg #[q.2.1,q.2.2.1,q.2.2.2]) (zaR ((zgN l m).take q.1))) (fun q=>l.length-q.1) ((0,_,_,_)) rfl rfl ⟨rfl,trivial⟩ ⟨rfl,trivial⟩ rfl (fun _=>rfl) (⟨qQ _,Hp.Le.refl _,hr⟩) ?_;rintro⟨i,c1,c2,c3⟩ G1 hG1 ⟨hi,hG01,hs⟩;dsimp only at hi hs hG01;refine uR ?_;refine EV.cond rfl (fun hlt=>?_) (fun hlt=>?_)
 ·simp only[nN]at hlt;obtain⟨q,hqi⟩:=gE hlt;obtain⟨q',hqi'⟩:∃q,m[i]?=some q:=⟨_,qA (hlm ▸ hlt)⟩;obtain⟨vs,x,hsl,hc,hx⟩:=(hu.mono (hG0.trans hG01)).at hqi;obtain⟨xa',xl',xc',ya',yl',yc',rfl,hx1',hx2'⟩:=id hx;obtain⟨vs2,x2,hsl2,hc2,hy⟩:=(hv.mono (hG0.trans hG01)).at hqi';obtain⟨xa'',xl'',xc'',ya'',yl'',yc'',rfl,hy1',hy2'⟩:=id hy;have hqb:=hb q (qF hqi);have hqb':=hb' q' (qF hqi');have hqd:=zoJ hqi hqi';have hsb:=zdW 200 ((zgN l m).take i) (fun q hq=>hdh q (List.mem_of_mem_take hq));rw[qP,qm (by omega)]at hsb;have qs:rq (zaR ((zgN l m).take i)):=qI hsb oM;have hm:=zdi q q';have qq:rq (q*q'):=qI hm oM;refine uR ?_;apply EV.drawn 11 kR kR;intro xv yw;(repeat refine' DD ?_);refine' DJ.idxM tO rfl rfl rfl rfl rfl rfl rfl rfl rfl (hsl) (i) (rfl) (hlt) (hc) ?_;rotate_left;(repeat refine' DD ?_);refine' DJ.idxM tO rfl rfl rfl rfl rfl rfl rfl rfl rfl (hsl2) (i) (rfl) ((hlm ▸ hlt)) (hc2) ?_;rotate_left;(repeat refine' DD ?_);refine' vB (cO func104) (fun G hG hd=>zcg (hx.mono hG) (hy.mono hG) (qI hqb oM) (qI hqb' oM)) (fun _ _ _ h k=>RQ.mono h k) ?_;rotate_left;refine' vB (cO func103) (fun G hG hd=>zb0 (hs.mono hG) (hd.head kR) qs qq) (fun _ _ _ h k=>RQ.mono h k) ?_;rotate_left;(refine DJ.nil (fun G2 hG2 hF2=>?_);(case hS|hS2=>rfl));have hR:=hF2.1;rw[←zbh,←zai hqd]at hR;obtain⟨_,_,_,_,_,_,e,_,_⟩:=id hR;rw[e]at hR ⊢;refine uR ?_;refine⟨(i+1,_,_,_),⟨?_,trivial⟩,sB,⟨rfl,trivial⟩,sB,rfl,⟨hlt,hG01.trans hG2,hR⟩,hG2,by dsimp only;omega⟩;rw[zac i (by omega)];rfl
 ·simp only[nN]at hlt;obtain rfl:i=l.length:=oM;rw[show (zgN l m).take l.length=zgN l m by rw[←hdl,qa]]at hs;obtain⟨_,_,_,_,_,_,e,_,_⟩:=id hs;obtain⟨rfl,rfl,rfl⟩:=zr2 e;refine uR ?_;exact hs
def kb (z:Int):Nat:=(max 0 (min z 256)).toNat
theorem ziO (n d:Int) (h:d≠0):ht (Rat.divInt n d)≤max (bl n.natAbs) (bl d.natAbs):=by
 rw[ziJ n d h];refine qI (zoM _ _ oM) ?_;have:(if d<0 then -n else n).natAbs=n.natAbs:=by split <;> simp
 rw[this];exact qH _
theorem zqk (z:Int):ht (zmv z)≤5:=by
 unfold zmv;have hrd:=zeW (z.tdiv 41 % 6).toNat
 have m1:=Int.emod_nonneg z (show (41:Int)≠0 by omega);have m2:=Int.emod_lt_of_pos z (show (0:Int)<41 by omega);refine qI (ziO _ _ oM) (Nat.max_le.2 ⟨zaU oM,zaU oM⟩)
theorem zgt {H:Hp} {w:Value} {p:Rat} (hw:RQ H w p) (hp:rq p):PC prog 38 #[zaj p,w] H fun r _=>r=.bool true:=by
 have:=zq0 hw hp hp
 rwa [qD rfl]at this
theorem zao {q:Rat} {k:Nat} (h:ht q≤k) (hk:k≤100000000):rq q:=qI h hk
section
variable {P:Program} {n:Nat} {ops:Array Oper} {o:Oper} {rest:List Oper} {env:Env} {bx:Bxs} {H:Hs} {Q:EQ} {τ:Tab} {d:Nat}
end
theorem zi5 (a:Rat):zco a a=0:=by unfold zco;rw[if_neg Rat.lt_irrefl,if_neg Rat.lt_irrefl]
theorem zrv (a b:Rat) (ha:sm a) (hb:sm b) (h:a=b):PV prog 31 #[zaj a,zaj b] (.int .i64 0):=by
 subst h;have:=zfN a a ha hb
 rwa [zi5]at this
theorem zez (a b:Rat):zco a b>0↔b<a:=by
 unfold zco;constructor
 ·intro h;split at h
  ·exact absurd h (by decide)
  ·split at h
   ·assumption
   ·exact absurd h (by decide)
 ·intro h;rw[if_neg (Rat.not_lt.2 (Rat.le_of_lt h)),if_pos h];decide
theorem zg8:zaj 0=.agg #[.bool false,.int .u64 0,.string ⟨#[]⟩,.int .u64 0,.string ⟨#[]⟩]:=by
 show frV 0 0=_;rw[zdG,show (0:Int).natAbs=0 from rfl,zbQ (n:=0) (by decide)];rfl
theorem zbe:zae (zaj 0)=[.bool false,.int .u64 0,.string ⟨#[]⟩,.int .u64 0,.string ⟨#[]⟩]:=by rw[zg8];rfl
theorem zaN {q:Rat} {n:Nat} (h:ht q≤n) (hn:n≤100000000):sm q:=qI h hn
theorem zpT {H:Hp} {v:Value} {l:List Rat} (h:QL H v l) (hl:l.length≤100000) (hb:∀q,q∈l→ht q≤100):PC prog 168 #[v] H fun r _=>r=zaj (zaR l):=by
 obtain⟨a,cap,rfl⟩:=SlC.val h;have hz:zae (zaj (zaR (l.take 0)))=[.bool false,.int .u64 0,.string ⟨#[]⟩,.int .u64 0,.string ⟨#[]⟩]:=zbe;refine BD func168 ntmps168 ?_;refine uR ?_;refine EV.loopK (ι:=Nat) [2,3,6,7] [2] (fun i=>[(8,.v (.int .i64 (i:Int)))]) (fun i=>[(3,51,zae (zaj (zaR (l.take i))))]) (fun _=>[]) (fun i G=>i≤l.length) (fun i=>l.length-i) (0) rfl rfl ⟨rfl,trivial⟩ ⟨by rw[hz];rfl,trivial⟩ rfl (fun _=>rfl) (qQ _) ?_;intro i G1 hG1 hi;refine uR ?_;refine EV.cond rfl (fun hlt=>?_) (fun hlt=>?_)
 ·simp only[nN]at hlt;obtain⟨q,hqi⟩:=gE hlt;have hqb:=hb q (qF hqi);have hsb:=zdW 100 (l.take i) (fun q hq=>hb q (List.mem_of_mem_take hq));rw[qP,qm hi]at hsb;have hadd:=zfD (zaR (l.take i)) q (zaN hsb oM) (zaN hqb oM);rw[←zbh,←zai hqi]at hadd;refine uR ?_;refine EVL.idxM tO rfl rfl rfl rfl rfl rfl rfl rfl rfl ((SlC.mono (show SlC H (.slice a l.length cap) l.length 5 (l.flatMap fun q=>zae (zaj q)) from h) hG1)) (i) (rfl) (hlt) ((QL.at (H:=H) (v:=.slice a l.length cap) hqi)) ?_
  repeat (first|refine RUN ?_|refine CV (hadd) ?_|refine CE (hadd) ?_)
  refine⟨i+1,⟨?_,trivial⟩,sB,⟨rfl,trivial⟩,sB,rfl,hlt,Hp.Le.refl _,by omega⟩;rw[zac i (by omega)];rfl
 ·simp only[nN]at hlt;obtain rfl:i=l.length:=oM;rw[qa];refine uR ?_;rfl
theorem zqz {H:Hp} {v:Value} {l:List Rat} (h:QL H v l) (hl:l.length≤100000) (h0:l.length≠0) (hb:∀q,q∈l→ht q≤100):PC prog 117 #[v] H fun r _=>r=.tuple #[zaj (zaR l / ((l.length:Int):Rat)),.bool true]:=by
 obtain⟨a,cap,rfl⟩:=SlC.val h;have hs:=zdW 100 l hb;have hln:=zpF hl;have hsum:=zpT h hl hb;have hof:=zlP (l.length:Int) oM oM;have hd:=zrx (zaR l) ((l.length:Int):Rat) (zaN hs oM) (zaN hln oM) (by intro e;have:((l.length:Int):Rat)=((0:Int):Rat):=e;exact h0 (by have:=Rat.intCast_inj.1 this;omega));refine BD func117 ntmps117 ?_
 repeat (first|refine RUN ?_|refine CV (hsum) ?_|refine CV (hof) ?_|refine CV (hd) ?_|refine CE (hsum) ?_|refine CE (hof) ?_|refine CE (hd) ?_)
 rfl
theorem zqy {H:Hp} {v:Value} (h:QL H v []):PC prog 117 #[v] H fun r _=>r=.tuple #[zaj 0,.bool false]:=by
 obtain⟨a,cap,rfl⟩:=SlC.val h;have hsum:=zpT h (qQ _) (by intro q hq;cases hq);have hof:=zlP 0 oM oM;rw[show ((0:Int):Rat)=0 from rfl]at hof;have hd:=zjM 0;refine BD func117 ntmps117 ?_
 repeat (first|refine RUN ?_|refine CV (hsum) ?_|refine CV (hof) ?_|refine CV (hd) ?_|refine CE (hsum) ?_|refine CE (hof) ?_|refine CE (hd) ?_)
 rfl
abbrev zrl:Value:=.func (.func 31) #[] #[]
abbrev zbE (l:List Rat):List Value:=l.flatMap fun q=>zae (zaj q)
theorem zg3 {l:List Rat} (sp:List Value) {j:Nat} {q:Rat} (h:l[j]?=some q):((zbE l++sp).drop (j*5)).take 5=zae (zaj q):=zcB (f:=fun q=>zae (zaj q)) (fun _ _=>rfl) sp h
theorem zkA {l:List Rat} (sp:List Value) {j:Nat} (q:Rat) (h:j<l.length):(zbE l++sp).take (j*5)++zae (zaj q)++(zbE l++sp).drop (j*5+5)=zbE (l.set j q)++sp:=zbY (f:=fun q=>zae (zaj q)) (fun _ _=>rfl) sp q h
theorem ziD (l:List Rat):(zbE l).length=l.length*5:=flat_len _ 5 l (fun _ _=>rfl)
theorem zsf {acc rest:List Rat} {j:Nat} {x:Rat} (h:j≤acc.length):(zaB acc j x++rest)[j]?=some x:=by
 unfold zaB;rw[qZ,qL (by rw[qP];omega),qP,qm h,Nat.sub_self];rfl
theorem zsg {acc rest:List Rat} {j:Nat} {x y:Rat} (h:acc[j]?=some y):(zaB acc (j+1) x++rest)[j]?=some y:=by
 obtain⟨hl,_⟩:=qE.1 h;unfold zaB;rw[qZ,qM (by rw[qP];omega),List.getElem?_take_of_lt oM,h]
theorem zqN {acc rest:List Rat} {j:Nat} {x:Rat}:(zaB acc j x++rest).length=acc.length+1+rest.length:=by
 have:=(zce acc j x).length_eq;rw[qJ,this,qJ];rfl
theorem zkY {acc rest:List Rat} {j:Nat} {x y:Rat} (h:acc[j]?=some y):((zaB acc (j+1) x++rest).set (j+1) y).set j x=zaB acc j x++rest:=by
 obtain⟨hl,hy⟩:=qE.1 h;have hlen:(acc.take j).length=j:=by rw[qP];omega
 unfold zaB;rw[qS hl,hy,qo hl,hy]
 rw[show (acc.take j++[y]++x::acc.drop (j+1)++rest)=acc.take j++(y::x::(acc.drop (j+1)++rest)) by simp,
  List.set_append_right (j+1) y oM,hlen,show j+1-j=1 by omega,List.set_cons_succ,List.set_cons_zero,
  List.set_append_right j x oM,hlen,Nat.sub_self,List.set_cons_zero]
 simp
theorem znx (acc rest:List Rat) (x:Rat):zaB acc acc.length x++rest=acc++x::rest:=by
 unfold zaB;rw[qa,List.drop_length];simp
theorem ziQ {H:Hp} {b cap:Nat} {l:List Rat} {sp:List Value} (hl:l.length≤1000) (hb:∀q,q∈l→sm q) :
  PW prog 235 #[.slice (some ⟨b,0,none⟩) l.length cap,.int .i64 0,.int .i64 (l.length:Int),zrl] H [(b,51,zbE l++sp)] fun v ow _=>v=.tuple #[]∧∃m,ow=[(b,51,zbE m++sp)]∧m.Perm l∧zbC m:=by
 refine PW.body tO func235 rfl kR ntmps235 rfl rfl ?_;refine uR ?_;refine EV.loopK (ι:=Nat × List Rat) [0,1,2,3] [] (fun q=>[(8,.v (.int .i64 (q.1:Int)))]) (fun _=>[]) (fun q=>[(b,51,zbE q.2++sp)]) (fun q _=>1≤q.1∧q.2.Perm l∧zbC (q.2.take q.1)) (fun q=>l.length-q.1) ((1,l)) rfl rfl ⟨rfl,trivial⟩ trivial rfl (fun _=>rfl) (⟨qH _,List.Perm.refl _,by cases l with | nil=>exact List.Pairwise.nil | cons a l=>exact List.pairwise_singleton _ _⟩) ?_;rintro⟨i,cur⟩ G1 hG1 ⟨h1,hperm,hris⟩;dsimp only at h1 hperm hris;have hcl:=hperm.length_eq;refine uR ?_;refine EV.cond rfl (fun hlt=>?_) (fun hlt=>?_)
 ·simp only[nN]at hlt;obtain⟨x,hxi⟩:∃x,cur[i]?=some x:=⟨_,qA oM⟩;have hcut:cur=cur.take i++x::cur.drop (i+1):=by rw[←zhK hxi,List.take_append_drop]
  have hal:(cur.take i).length=i:=by rw[qP];omega
  have hsmx:sm x:=hb x (hperm.mem_iff.1 (qF hxi));have hsma:∀y,y∈cur.take i→sm y:=fun y hy=>hb y (hperm.mem_iff.1 (List.mem_of_mem_take hy));have hrl:(cur.drop (i+1)).length=l.length-(i+1):=by rw[qp];omega
  have hst:=znx (cur.take i) (cur.drop (i+1)) x;rw[hal,←hcut]at hst;generalize hacc:cur.take i=acc at *
  generalize cur.drop (i+1)=rest at *
  subst hal;subst hst;refine uR ?_;refine EV.loopK (ι:=Nat) [0,1,2,3,8] [] (fun j=>[(9,.v (.int .i64 (j:Int)))]) (fun _=>[]) (fun j=>[(b,51,zbE (zaB acc j x++rest)++sp)]) (fun j _=>j≤acc.length∧∀y,y∈acc.drop j→x≤y) (fun j=>j) (acc.length) rfl rfl ⟨rfl,trivial⟩ trivial rfl (fun _=>rfl) (⟨qH _,by rw[List.drop_length];intro y hy;cases hy⟩) ?_;rintro j G2 hG2 ⟨hj,hgr⟩;have hlen:=zqN (acc:=acc) (rest:=rest) (j:=j) (x:=x);have hx':=zsf (rest:=rest) (x:=x) hj;have hp':=zce acc j x;have hsum:(zaB acc j x++rest).length=l.length:=by rw[hlen];omega
  rw[←hsum]
  have next:(zaB acc j x++rest).Perm l:=by
   refine List.Perm.trans ?_ hperm;exact(hp'.trans (zce acc acc.length x).symm).append_right rest
  have fin:zbC (zaB acc j x)→zbC ((zaB acc j x++rest).take (acc.length+1)):=fun h=>by
   rw[List.take_append_of_le_length (by rw[hp'.length_eq];simp)]
   rwa [qO (by rw[hp'.length_eq];simp)]
  cases j with
  | zero =>
   have hr:=fin (zcD hris (by intro y hy;rw[List.take_zero]at hy;cases hy) hgr);refine uR ?_;apply EV.drawn 17 kR kR;intro xv yw;(repeat refine' DD ?_);(refine DJ.nil (fun G3 hG3 hF3=>?_);(case hS|hS2=>rfl));refine uR ?_;refine⟨(acc.length+1,zaB acc 0 x++rest),⟨?_,trivial⟩,sB,trivial,trivial,rfl,⟨by omega,next,hr⟩,hG2.trans hG3,by dsimp only;omega⟩;rw[zac _ (by omega)];rfl
  | succ j =>
   obtain⟨y,hyj⟩:∃y,acc[j]?=some y:=⟨_,qA oM⟩;have hy':=zsg (rest:=rest) (x:=x) hyj;have hc:=zfN x y hsmx (hsma y (qF hyj))
   have hlo:zco x y<0→x≤y:=fun h=>by
    unfold zco at h;split at h
    ·exact Rat.le_of_lt (by assumption)
    ·split at h <;> omega
   have hge:¬zco x y<0→y≤x:=fun h=>by
    unfold zco at h;split at h
    ·omega
    ·rename_i k;exact Rat.not_lt.1 k
   generalize zco x y=o at *
   refine uR ?_;apply EV.drawn 17 kR kR;intro xv yw;(repeat refine' DD ?_);rw[qD (show ((j+1:Nat):Int)>0 by omega)];(repeat refine' DD ?_);refine' DJ.idxB tO rfl rfl rfl rfl rfl rfl rfl rfl rfl (j+1) ((j+1)*5) (rfl) (oM) (rfl) ?_;rotate_left;refine' DJ.ofVal (zab.loadOwn tO rfl rfl rfl rfl (0) rfl (zg3 sp hx') rfl rfl) rfl rfl rfl ?_;rotate_left;(repeat refine' DD ?_);refine' DJ.idxB tO rfl rfl rfl rfl rfl rfl rfl rfl rfl (j) (j*5) ((by rw[pK];omega)) (oM) (rfl) ?_;rotate_left;refine' DJ.ofVal (zab.loadOwn tO rfl rfl rfl rfl (0) rfl (zg3 sp hy') rfl rfl) rfl rfl rfl ?_;rotate_left;(refine' DJ.callD rfl rfl rfl rfl rfl rfl hc ?_;rotate_left);(repeat refine' DD ?_);(refine DJ.nil (fun G3 hG3 hF3=>?_);(case hS|hS2=>rfl));refine uR ?_;by_cases ho:o<0
   ·rw[qD ho];have hxy:=hlo ho;refine uR ?_;refine EVA.start kR ?_;refine EVA.val tO (0) rfl kR kR kR rfl rfl rfl rfl rfl ?_;refine EVA.val tO (1) rfl kR kR kR rfl rfl rfl rfl rfl ?_;refine EVA.val tO (5) rfl kR kR kR rfl rfl rfl rfl rfl ?_;refine EVA.val tO (6) rfl kR kR kR rfl rfl rfl rfl rfl ?_;refine EVA.val tO (7) rfl kR kR kR rfl rfl rfl rfl rfl ?_;refine EVA.idxB tO (8) rfl kR kR kR rfl rfl rfl rfl rfl rfl rfl rfl rfl (j) (j*5) ((by rw[pK];omega)) (oM) (rfl) ?_;refine EVA.val tO (10) rfl kR kR kR rfl rfl rfl rfl rfl ?_;refine EVA.val tO (11) rfl kR kR kR rfl rfl rfl rfl rfl ?_;refine EVA.idxB tO (12) rfl kR kR kR rfl rfl rfl rfl rfl rfl rfl rfl rfl (j+1) ((j+1)*5) (rfl) (oM) (rfl) ?_;refine EVA.val tO (2) rfl kR kR kR rfl rfl rfl rfl rfl ?_;refine EVA.val tO (3) rfl kR kR kR rfl rfl rfl rfl rfl ?_;refine EVA.val tO (4) rfl kR kR kR rfl rfl rfl rfl rfl ?_;refine EVA.two 9 13 kR rfl rfl ?_ ?_
    ·refine EVL.loadOwn tO rfl rfl rfl rfl rfl rfl (0) rfl (zg3 sp hy') rfl rfl ?_;refine EVL.nil ⟨rfl,?_⟩;refine EVA.one 13 kR rfl ?_;refine EVL.loadOwn tO rfl rfl rfl rfl rfl rfl (0) rfl (zg3 sp hx') rfl rfl ?_;refine EVL.nil ⟨rfl,?_⟩;refine EVA.idxB tO (14) rfl kR kR kR rfl rfl rfl rfl rfl rfl rfl rfl rfl (j+1) ((j+1)*5) (rfl) (oM) (rfl) ?_;refine EVA.one 15 kR rfl ?_;refine EVL.storeOwn tO rfl rfl rfl rfl rfl rfl ([]) ([]) rfl rfl rfl rfl ((by rw[qJ,ziD];show (j+1)*5+5≤_;omega)) ((zkA sp y (show j+1<(zaB acc (j+1) x++rest).length by omega))) ?_;refine EVL.nil ⟨rfl,?_⟩;refine EVA.idxB tO (16) rfl kR kR kR rfl rfl rfl rfl rfl rfl rfl rfl rfl (j) (j*5) ((by rw[pK];omega)) (oM) (rfl) ?_;refine EVA.one 17 kR rfl ?_;refine EVL.storeOwn tO rfl rfl rfl rfl rfl rfl ([]) ([]) rfl rfl rfl rfl ((by rw[qJ,ziD,List.length_set];show j*5+5≤_;omega)) ((zkA sp x (show j<((zaB acc (j+1) x++rest).set (j+1) y).length by rw[List.length_set];omega))) ?_;refine EVL.nil ⟨rfl,?_⟩;refine EVA.nil kR ?_;rw[zkY hyj];refine uR ?_;refine⟨j,⟨?_,trivial⟩,sB,trivial,trivial,rfl,⟨by omega,?_⟩,hG3,by omega⟩
     ·rw[show IntKind.i64.wrap (((j+1:Nat):Int)-1)=(j:Int) by rw[pK];omega];rfl
     ·intro z hz;rw[zhK hyj]at hz;rcases List.mem_cons.1 hz with rfl | hz
      ·exact hxy
      ·exact hgr z hz
    ·refine EVL.loadOwn tO rfl rfl rfl rfl rfl rfl (0) rfl (zg3 sp hx') rfl rfl ?_;refine EVL.nil ⟨rfl,?_⟩;refine EVA.one 9 kR rfl ?_;refine EVL.loadOwn tO rfl rfl rfl rfl rfl rfl (0) rfl (zg3 sp hy') rfl rfl ?_;refine EVL.nil ⟨rfl,?_⟩;refine EVA.idxB tO (14) rfl kR kR kR rfl rfl rfl rfl rfl rfl rfl rfl rfl (j+1) ((j+1)*5) (rfl) (oM) (rfl) ?_;refine EVA.one 15 kR rfl ?_;refine EVL.storeOwn tO rfl rfl rfl rfl rfl rfl ([]) ([]) rfl rfl rfl rfl ((by rw[qJ,ziD];show (j+1)*5+5≤_;omega)) ((zkA sp y (show j+1<(zaB acc (j+1) x++rest).length by omega))) ?_;refine EVL.nil ⟨rfl,?_⟩;refine EVA.idxB tO (16) rfl kR kR kR rfl rfl rfl rfl rfl rfl rfl rfl rfl (j) (j*5) ((by rw[pK];omega)) (oM) (rfl) ?_;refine EVA.one 17 kR rfl ?_;refine EVL.storeOwn tO rfl rfl rfl rfl rfl rfl ([]) ([]) rfl rfl rfl rfl ((by rw[qJ,ziD,List.length_set];show j*5+5≤_;omega)) ((zkA sp x (show j<((zaB acc (j+1) x++rest).set (j+1) y).length by rw[List.length_set];omega))) ?_;refine EVL.nil ⟨rfl,?_⟩;refine EVA.nil kR ?_;rw[zkY hyj];refine uR ?_;refine⟨j,⟨?_,trivial⟩,sB,trivial,trivial,rfl,⟨by omega,?_⟩,hG3,by omega⟩
     ·rw[show IntKind.i64.wrap (((j+1:Nat):Int)-1)=(j:Int) by rw[pK];omega];rfl
     ·intro z hz;rw[zhK hyj]at hz;rcases List.mem_cons.1 hz with rfl | hz
      ·exact hxy
      ·exact hgr z hz
   ·rw[qC ho];have hr:=fin (zcD hris (zgq hris hyj (hge ho)) hgr);refine uR ?_;refine⟨(acc.length+1,zaB acc (j+1) x++rest),⟨?_,trivial⟩,sB,trivial,trivial,rfl,⟨by omega,next,hr⟩,hG2.trans hG3,by dsimp only;omega⟩;rw[zac _ (by omega)];rfl
 ·simp only[nN]at hlt;rw[qO (by omega)]at hris;refine uR ?_;exact⟨rfl,cur,rfl,hperm,hris⟩
theorem zex:∀{a b:List Value},zdv a=true→zdv b=true→zdv (a++b)=true
 | [],_,_,h=>h
 | v::a,b,h,k=>by
  unfold zdv at h;rw[List.cons_append];unfold zdv;rw[Bool.and_eq_true]at h ⊢;exact⟨h.1,zex h.2 k⟩
theorem znj:∀l:List Rat,zdv (zbE l)=true
 | []=>rfl
 | q::l=>zex (a:=zae (zaj q)) rfl (znj l)
theorem zgZ (n:Nat) (h:n≤1000):∃z:Int,PV prog 212 #[.int .u64 (n:Int)] (.int .i64 z) :=
 ⟨_,(cO func212),fun W _=>(Tryz.bits_Len (n:Int) W oM oM).mono fun e W' ⟨he,hw⟩=>⟨he,by rw[hw];exact Below.refl _ _⟩⟩
theorem zhQ (a:Option Addr) (cap:Nat):PV prog 235 #[.slice a 0 cap,.int .i64 0,.int .i64 0,zrl] (.tuple #[]):=by
 refine PV.of_pc ?_;refine BD func235 ntmps235 ?_;refine uR ?_;refine EV.loopK (ι:=Unit) [0,1,2,3] [] (fun _=>[(8,.v (.int .i64 1))]) (fun _=>[]) (fun _=>[]) (fun _ _=>True) (fun _=>0) (()) rfl rfl ⟨rfl,trivial⟩ trivial rfl (fun _=>rfl) (trivial) ?_;rintro⟨⟩ G1 hG1 _;refine uR ?_;rfl
theorem zqI (a:Option Addr) (cap:Nat) (z:Int):PV prog 211 #[.slice a 0 cap,.int .i64 0,.int .i64 0,.int .i64 z,zrl] (.tuple #[]):=by
 refine PV.of_pc ?_;have hi:=zhQ a cap;refine BD func211 ntmps211 ?_;refine uR ?_;refine EV.loopK (ι:=Unit) [0,4] [] (fun _=>[(1,.v (.int .i64 0)),(2,.v (.int .i64 0)),(3,.v (.int .i64 z)),(10,.v (.bool true)),(11,.v (.bool true))]) (fun _=>[]) (fun _=>[]) (fun _ _=>True) (fun _=>0) (()) rfl rfl ⟨rfl,rfl,rfl,rfl,rfl,trivial⟩ trivial rfl (fun _=>rfl) (trivial) ?_;rintro⟨⟩ G1 hG1 _
 repeat (first|refine RUN ?_|refine CV (hi) ?_|refine CE (hi) ?_)
 rfl
theorem zjl (a:Option Addr) (cap:Nat):PV prog 170 #[.slice a 0 cap,zrl] (.tuple #[]):=by
 refine PV.of_pc ?_;obtain⟨z,hb⟩:=zgZ 0 oM;have hp:=zqI a cap z;refine BD func170 ntmps170 ?_
 repeat (first|refine RUN ?_|refine CV (hb) ?_|refine CV (hp) ?_|refine CE (hb) ?_|refine CE (hp) ?_)
 rfl
theorem zrJ {H:Hp} {b cap:Nat} {l:List Rat} {sp:List Value} (z:Int) (hl:l.length≤12) (hb:∀q,q∈l→sm q) :
  PW prog 211 #[.slice (some ⟨b,0,none⟩) l.length cap,.int .i64 0,.int .i64 (l.length:Int),.int .i64 z,zrl] H [(b,51,zbE l++sp)] fun v ow _=>v=.tuple #[]∧∃m,ow=[(b,51,zbE m++sp)]∧m.Perm l∧zbC m:=by
 refine PW.body tO func211 rfl kR ntmps211 rfl rfl ?_;refine uR ?_;refine EV.loopK (ι:=Unit) [0,4] [] (fun _=>[(1,.v (.int .i64 0)),(2,.v (.int .i64 (l.length:Int))),(3,.v (.int .i64 z)),(10,.v (.bool true)),(11,.v (.bool true))]) (fun _=>[]) (fun _=>[(b,51,zbE l++sp)]) (fun _ _=>True) (fun _=>0) (()) rfl rfl ⟨rfl,rfl,rfl,rfl,rfl,trivial⟩ trivial rfl (fun _=>rfl) (trivial) ?_;rintro⟨⟩ G1 hG1 _;refine uR ?_;rw[show IntKind.i64.wrap ((l.length:Int)-0)=(l.length:Int) by rw[pK];omega,qD (show (l.length:Int)≤12 by omega)];refine uR ?_;refine EVL.callW rfl rfl rfl rfl rfl ([(b,51,zbE l++sp)]) ([]) rfl (ziQ oM hb) ?_;rintro v ow G2 ⟨rfl,m,rfl,hp,hr⟩ hG2;refine uR ?_;exact⟨rfl,m,rfl,hp,hr⟩
theorem zpj {H:Hp} {b cap:Nat} {l:List Rat} {sp:List Value} (hl:l.length≤12) (hb:∀q,q∈l→sm q) :
  PW prog 170 #[.slice (some ⟨b,0,none⟩) l.length cap,zrl] H [(b,51,zbE l++sp)] fun v ow _=>v=.tuple #[]∧∃m,ow=[(b,51,zbE m++sp)]∧m.Perm l∧zbC m:=by
 obtain⟨z,hbl⟩:=zgZ l.length oM;refine PW.body tO func170 rfl kR ntmps170 rfl rfl ?_;refine uR ?_;rw[show IntKind.u64.wrap (l.length:Int)=(l.length:Int) by rw[zar];omega]
 repeat (first|refine RUN ?_|refine CV (hbl) ?_|refine CE (hbl) ?_)
 refine vW ([(b,51,zbE l++sp)]) ([]) (zrJ z hl hb) ?_;rintro v ow G2 ⟨rfl,m,rfl,hp,hr⟩ hG2;refine uR ?_;exact⟨rfl,m,rfl,hp,hr⟩
theorem zoA {H:Hp} {v:Value} {l:List Rat} (h:QL H v l) (h0:0<l.length) (hl:l.length≤1000):PW prog 120 #[v] H [] fun r ow _=>zaA 51 5 r l.length (zbE l) ow:=by
 have hs:=h.2;rcases hs with ⟨e,_⟩ | ⟨b,off,cap,c,rfl,_⟩
 ·omega
 ·refine PW.body tO func120 rfl kR ntmps120 rfl rfl ?_;refine uR ?_;refine EVL.eqnil tO rfl rfl rfl rfl rfl rfl rfl ?_;refine uR ?_;refine EVL.lit0 tO rfl rfl rfl rfl rfl rfl rfl fun g0=>?_;refine uR ?_;refine EVL.append tO rfl rfl rfl rfl rfl rfl rfl rfl rfl rfl rfl rfl [] [(g0,51,[])] [] rfl (zaA.full (m:=0) rfl oM) (zb2.ro h h0) (znj l) oM ?_;intro v1 ow1 hown1;refine uR ?_;rw[qt]at hown1;rw[qG];exact hown1
theorem zmL {H:Hp} {v:Value} (h:QL H v []):PC prog 120 #[v] H fun r _=>∃a cap,r=.slice a 0 cap:=by
 obtain⟨a,cap,rfl⟩:=SlC.val h;refine BD func120 ntmps120 ?_;refine uR ?_;refine EVL.eqnil tO rfl rfl rfl rfl rfl rfl rfl ?_
 cases a with
 | none =>
  refine uR ?_;exact⟨_,_,rfl⟩
 | some x =>
  refine uR ?_;refine EVL.lit0 tO rfl rfl rfl rfl rfl rfl rfl fun g0=>?_;refine uR ?_;refine EVL.append0 tO rfl rfl rfl rfl rfl rfl rfl rfl rfl (qH _) ?_;refine uR ?_;exact⟨_,_,rfl⟩
theorem zpi {H:Hp} {v:Value} (h:QL H v []):PC prog 118 #[v] H fun r H'=>QL H' r []:=by
 obtain⟨a,cap,rfl⟩:=SlC.val h;refine BD func118 ntmps118 ?_;refine uR ?_;refine vA (zmL h) ?_;rintro r G1 ⟨a1,c1,rfl⟩ hG1
 repeat (first|refine RUN ?_|refine CV (zjl a1 c1) ?_|refine CE (zjl a1 c1) ?_)
 exact⟨rfl,.inl ⟨rfl,_,_,rfl⟩⟩
theorem zq5 {H:Hp} {v:Value} {l:List Rat} (h:QL H v l) (hl:l.length≤12) (hb:∀q,q∈l→sm q):PC prog 118 #[v] H fun r H'=>∃m,QL H' r m∧m.Perm l∧zbC m:=by
 by_cases h0:l.length=0
 ·obtain rfl:=qz.1 h0;exact(zpi h).mono fun r H' hr _=>⟨[],hr,List.Perm.refl _,List.Pairwise.nil⟩
 obtain⟨a,cap,rfl⟩:=SlC.val h;refine BD func118 ntmps118 ?_;refine uR ?_;refine EVL.callW rfl rfl rfl rfl rfl ([]) ([]) rfl (zoA h oM oM) ?_;intro r ow G1 hown hG1;obtain⟨g,cap1,sp,rfl,rfl,hlen,hc1,hc2⟩:=hown.block oM;refine uR ?_;refine vW ([(g,51,zbE l++sp)]) ([]) (zpj hl hb) ?_;rintro v ow G2 ⟨rfl,m,rfl,hp,hr⟩ hG2;(first|refine EVL.publish [] [] rfl fun G3 hG3 hg=>?_|refine EV.publish [] [] rfl fun G3 hG3 hg=>?_);refine uR ?_;refine⟨m,⟨by rw[ziD],.inr ⟨g,0,cap1,_,by rw[hp.length_eq],by rw[hp.length_eq];exact hc1,hg,fun j x hj=>?_⟩⟩,hp,hr⟩;rw[qt,List.getElem?_toArray,qM (qE.1 hj).1];exact hj
abbrev zbv (kind classes:Int) (sl sv:Value):Value:=.agg #[.int .i64 kind,.int .i64 classes,sl,sv]
theorem zlO {n:Nat} (h0:¬n=0):((n:Int):Rat)≠0:=fun h=>by
 have:=congrArg Rat.num h;rw[Rat.num_intCast]at this;have h3:(0:Rat).num=0:=rfl;omega
theorem zcE (x:Rat):x / 0=0:=by rw[Rat.div_def,Rat.inv_zero,Rat.mul_zero]
theorem zqs {cl:Int} {va:Option Addr} {vn vc:Nat} {la:Option Addr} {ln lc:Nat}:PV prog 172 #[zbv 1 cl (.slice la ln lc) (.slice va vn vc)] (.int .i64 (ln:Int)):=by
 refine PV.of_pc ?_;refine BD func172 ntmps172 ?_;refine uR ?_;rfl
theorem zmH {H:Hp} {va:Option Addr} {vc:Nat} {la:Option Addr} {lc:Nat} {ls:List Int} (hv:IL H (.slice la ls.length lc) ls) {cl:Int} (hc:1≤cl∧cl≤12) (h0:1≤ls.length) (h1:ls.length≤300) (hls:∀z,z∈ls→0≤z∧z<cl):PC prog 173 #[zbv 1 cl (.slice la ls.length lc) (.slice va 0 vc)] H fun r _=>r=.int .i64 0:=by
 have hlen:=zqs (cl:=cl) (va:=va) (vn:=0) (vc:=vc) (la:=la) (ln:=ls.length) (lc:=lc);refine BD func173 ntmps173 ?_
 repeat (first|refine RUN ?_|refine CV (hlen) ?_|refine CE (hlen) ?_)
 rw[qC (show ¬(ls.length:Int)<1 by omega)];refine uR ?_;rw[qC (show ¬(ls.length:Int)>300 by omega)];refine uR ?_;rw[qC (show ¬cl<1 by omega)];refine uR ?_;rw[qC (show ¬cl>12 by omega)];refine uR ?_;refine EV.loopK (ι:=Nat) [1,49,50] [1] (fun i=>[(51,.v (.int .i64 (i:Int)))]) (fun _=>[]) (fun _=>[]) (fun i _=>i≤ls.length) (fun i=>ls.length-i) (0) rfl rfl ⟨rfl,trivial⟩ trivial rfl (fun _=>rfl) (qQ _) ?_;rintro i G1 hG1 hi;refine uR ?_;refine EV.cond rfl (fun hlt=>?_) (fun hlt=>?_)
 ·simp only[nN]at hlt;obtain⟨z,hz⟩:=gE hlt;have hb:=hls z (qF hz);refine uR ?_;refine vI ((hv.mono hG1)) (i) (rfl) (hlt) ((by rw[qK,hz];rfl)) ?_;refine uR ?_;rw[qC (show ¬z<0 by omega)];refine uR ?_;rw[qC (show ¬z≥cl by omega)];refine uR ?_;refine⟨i+1,⟨?_,trivial⟩,sB,trivial,sB,rfl,hlt,Hp.Le.refl _,by omega⟩;rw[zac i (by omega)];rfl
 ·try refine uR ?_
  rfl
abbrev iv:Int→Value:=fun z=>.int .i64 z
def inR (n:Nat) (r:Int):Bool:=decide (0≤r) && decide (r<(n:Int))
def exL (rs:List Int) (n:Nat):List Int:=rs.filter (inR n)
theorem zhL {rs:List Int} {n:Nat}:∀r,r∈exL rs n→0≤r∧r<(n:Int):=fun r hr=>by
 have:=(List.mem_filter.1 hr).2;unfold inR at this;simpa using this
theorem zcj (rs:List Int) (n:Nat):(exL rs n).length≤rs.length:=List.length_filter_le _ _
theorem zfV {rs:List Int} {n:Nat} (h:∀r,r∈rs→0≤r∧r<(n:Int)):exL rs n=rs:=List.filter_eq_self.2 fun r hr=>by
 have:=h r hr;unfold inR;simp[this.1,this.2]
theorem zeP {rs:List Int} {n i:Nat} {r:Int} (h:rs[i]?=some r):exL (rs.take (i+1)) n=exL (rs.take i) n++if inR n r then [r] else []:=by
 rw[zai h];unfold exL;rw[List.filter_append];cases hp:inR n r <;> simp[hp]
theorem zaA.il {w:Value} {l:List Int} {ow:Ows} {T:TypeId} {x:Int} (h:zaA T 1 w (l.length+1) (l.map iv++[iv x]) ow):zaA T 1 w (l++[x]).length ((l++[x]).map iv) ow:=by
 rw[qJ,qn];exact h
theorem zjO {H:Hp} {v:Value} {rs:List Int} (hr:IL H v rs) (hn:rs.length≤1000000) (n:Nat):PC prog 245 #[v,.int .i64 (n:Int)] H fun r H'=>IL H' r (exL rs n):=by
 obtain⟨a,cap,rfl⟩:=SlC.val hr;refine BD func245 ntmps245 ?_;refine uR ?_;refine EV.loopK (ι:=Nat × Value × Ows) [1,8,9] [] (fun q=>[(5,.v q.2.1),(10,.v (.int .i64 (q.1:Int)))]) (fun _=>[]) (fun q=>q.2.2) (fun q _=>q.1≤rs.length∧zaA 3 1 q.2.1 (exL (rs.take q.1) n).length ((exL (rs.take q.1) n).map iv) q.2.2) (fun q=>rs.length-q.1) ((0,.slice none 0 0,[])) rfl rfl ⟨rfl,rfl,trivial⟩ trivial rfl (fun _=>rfl) (⟨qQ _,zaA.nil _ _⟩) ?_;rintro⟨i,w,ow⟩ G1 hG1 ⟨hi,hown⟩;dsimp only at hi hown;obtain⟨wa,wc,rfl⟩:=hown.val;refine uR ?_;refine EV.cond rfl (fun hlt=>?_) (fun hlt=>?_)
 ·simp only[nN]at hlt;obtain⟨r,hri⟩:=gE hlt;have hex:=zeP (n:=n) hri;have hle:=zcj (rs.take i) n;rw[qP]at hle;refine uR ?_;refine vI ((hr.mono hG1)) (i) (rfl) (hlt) ((by rw[qK,hri];rfl)) ?_;refine uR ?_;have wn:IntKind.i64.wrap ((i:Int)+1)=((i+1:Nat):Int):=zac i oM;by_cases h1:r≥0
  ·rw[qD h1];refine uR ?_;by_cases h2:r<(n:Int)
   ·have hp:inR n r=true:=by unfold inR;simp[h2];omega
    rw[hp,if_pos rfl]at hex;rw[qD h2];refine uR ?_;refine EVL.app1 tO rfl rfl rfl rfl rfl rfl rfl rfl rfl rfl rfl rfl rfl rfl rfl rfl rfl rfl rfl (fun _=>rfl) (ow) ([]) ((qG _).symm) (hown) oM fun _=>?_;intro v' ow' hown';refine uR ?_;refine⟨(i+1,v',ow'),⟨rfl,?_,trivial⟩,sB,trivial,trivial,qG _,⟨hlt,by rw[hex];exact hown'.il⟩,Hp.Le.refl _,by dsimp only;omega⟩;rw[wn];rfl
   ·have hp:inR n r=false:=by unfold inR;simp[h2]
    rw[hp,if_neg (by decide),qG]at hex;rw[qC h2];refine uR ?_;refine⟨(i+1,_,ow),⟨rfl,?_,trivial⟩,sB,trivial,trivial,rfl,⟨hlt,by rw[hex];exact hown⟩,Hp.Le.refl _,by dsimp only;omega⟩;rw[wn];rfl
  ·have hp:inR n r=false:=by unfold inR;simp;omega
   rw[hp,if_neg (by decide),qG]at hex;rw[qC h1];refine uR ?_;refine⟨(i+1,_,ow),⟨rfl,?_,trivial⟩,sB,trivial,trivial,rfl,⟨hlt,by rw[hex];exact hown⟩,Hp.Le.refl _,by dsimp only;omega⟩;rw[wn];rfl
 ·simp only[nN]at hlt;obtain rfl:i=rs.length:=oM;rw[qa]at hown ⊢;(first|refine EVL.publishL [] ow [] ((qG _).symm) hown fun G2 hG2 hs=>?_|refine EV.publishL [] ow [] ((qG _).symm) hown fun G2 hG2 hs=>?_);refine uR ?_;exact hs
theorem zpA {l:List Int} (sp:List Value) {j:Nat} {q:Int} (h:l[j]?=some q):((l.map iv++sp).drop (j*1)).take 1=[iv q]:=by
 obtain⟨hl,hq⟩:=qE.1 h;rw[Nat.mul_one,List.drop_append_of_le_length (by rw[qV];omega),qo (by rw[qV];omega)];simp[hq]
theorem zpB {l:List Int} (sp:List Value) {j:Nat} (q:Int) (h:j<l.length):(l.map iv++sp).take (j*1)++[iv q]++(l.map iv++sp).drop (j*1+1)=(l.set j q).map iv++sp:=by
 rw[Nat.mul_one,List.take_append_of_le_length (by rw[qV];omega),List.drop_append_of_le_length (by rw[qV];omega),List.map_set,List.set_eq_take_append_cons_drop,if_pos (by rw[qV];exact h)];simp
abbrev zsu (key:Int→Rat) (l:List Int):Prop:=zbC (l.map key)
section
variable {P:Program} {n:Nat} {ops:Array Oper} {rest:List Oper} {env:Env} {bx:Bxs} {H:Hs} {Q:EQ}
theorem EVL.swapOw (a b:Ows) (e:H.ow=a++b) (h:EVL P n ops rest env bx ⟨H.ro,b++a,H.base⟩ Q):EVL P n ops rest env bx H Q :=
 fun W0 β x W r=>h W0 β x W (r.permOw (by rw[e];exact List.perm_append_comm))
theorem EV.swapOw {c:Code} (a b:Ows) (e:H.ow=a++b) (h:EV P n c env bx ⟨H.ro,b++a,H.base⟩ Q):EV P n c env bx H Q :=
 fun W0 β x W r=>h W0 β x W (r.permOw (by rw[e];exact List.perm_append_comm))
end
def QVs (H:Hp) (vs:List Value) (X:List (List Rat)):Prop:=vs.length=X.length∧∀(j:Nat) (u:Value) (x:List Rat),vs[j]?=some u→X[j]?=some x→QL H u x
theorem QVs.mono {H G:Hp} {vs:List Value} {X:List (List Rat)} (h:QVs H vs X) (k:H.Le G):QVs G vs X:=⟨h.1,fun j u x e1 e2=>(h.2 j u x e1 e2).mono k⟩
theorem QVs.nil (H:Hp):QVs H [] []:=⟨rfl,fun j u x h=>by simp at h⟩
theorem zoe {α:Type} {p:Value→α→Prop} {vs:List Value} {X:List α} {u:Value} {x:α} (h:vs.length=X.length∧∀(j:Nat) (u:Value) (x:α),vs[j]?=some u→X[j]?=some x→p u x) (k:p u x) :
  (vs++[u]).length=(X++[x]).length∧∀(j:Nat) (v:Value) (y:α),(vs++[u])[j]?=some v→(X++[x])[j]?=some y→p v y:=by
 refine⟨by simp[h.1],fun j y r e1 e2=>?_⟩;rw[List.getElem?_append]at e1 e2;by_cases hj:j<vs.length
 ·rw[if_pos hj]at e1;rw[if_pos (by rw[←h.1];exact hj)]at e2;exact h.2 j y r e1 e2
 ·rw[if_neg hj]at e1;rw[if_neg (by rw[←h.1];exact hj)]at e2;have:=h.1
  cases hk:j-vs.length with
  | zero =>
   rw[hk]at e1;rw[←h.1,hk]at e2;simp at e1 e2;subst e1;subst e2;exact k
  | succ m=>rw[hk]at e1;simp at e1
theorem QVs.snoc {H:Hp} {vs:List Value} {X:List (List Rat)} {u:Value} {x:List Rat} (h:QVs H vs X) (k:QL H u x):QVs H (vs++[u]) (X++[x]):=zoe h k
def QLL (H:Hp) (v:Value) (X:List (List Rat)):Prop:=∃vs:List Value,QVs H vs X∧SlC H v X.length 1 vs
theorem QLL.mono {H G:Hp} {v:Value} {X:List (List Rat)} (h:QLL H v X) (k:H.Le G):QLL G v X:=by
 obtain⟨vs,h1,h2⟩:=h;exact⟨vs,h1.mono k,h2.mono k⟩
theorem QLL.val {H:Hp} {v:Value} {X:List (List Rat)} (h:QLL H v X):∃a c,v=.slice a X.length c:=by
 obtain⟨vs,_,h2⟩:=h;exact SlC.val h2
theorem QVs.at {H:Hp} {vs:List Value} {X:List (List Rat)} (h:QVs H vs X) {j:Nat} {x:List Rat} (hj:X[j]?=some x):∃a c,vs[j]?=some (.slice a x.length c)∧QL H (.slice a x.length c) x:=by
 obtain⟨hl,_⟩:=qE.1 hj;obtain⟨u,hu⟩:∃u,vs[j]?=some u:=⟨_,qA (by rw[h.1];exact hl)⟩;have hq:=h.2 j u x hu hj;obtain⟨a,c,rfl⟩:=SlC.val hq;exact⟨a,c,hu,hq⟩
def zfp (X:List (List Rat)) (col r:Int):Bool:=decide (0≤col) && decide (col<((X.getD r.toNat []).length:Int))
def zdn (X:List (List Rat)) (col r:Int):Rat:=(X.getD r.toNat []).getD col.toNat 0
theorem zmO {X:List (List Rat)} {col r:Int} {R C:Nat} {x:List Rat} {q:Rat} (hr:r=R) (hc:col=C) (hx:X[R]?=some x) (hq:x[C]?=some q):zdn X col r=q:=by
 subst hr;subst hc;unfold zdn;simp[qB,hx,hq]
theorem zmZ {X:List (List Rat)} {col r:Int} (hr0:0≤r) (hr:r<(X.length:Int)) (h:zfp X col r=true):∃(R C:Nat) (x:List Rat) (q:Rat),r=R∧col=C∧X[R]?=some x∧x[C]?=some q:=by
 unfold zfp at h;simp only[Bool.and_eq_true,decide_eq_true_eq]at h;obtain⟨R,rfl⟩:=qh hr0;obtain⟨C,rfl⟩:=qh h.1;have h2:=h.2;rw[qU,qB,qA (show R<X.length by omega),Option.getD_some]at h2;exact⟨R,C,X[R],X[R][C],rfl,rfl,qA oM,qA oM⟩
theorem zf2:zbP []=0:=zcE _
theorem zm8 {H:Hp} {v:Value} {l:List Rat} (h:QL H v l) (hl:l.length≤10000) (hb:∀q,q∈l→ht q≤100):PC prog 117 #[v] H fun r _=>r=.tuple #[zaj (zbP l),.bool (decide (0<l.length))]:=by
 by_cases h0:l.length=0
 ·obtain rfl:=qz.1 h0;rw[zf2];exact zqy h
 ·rw[qD (show 0<l.length by omega)];exact zqz h oM h0 hb
def ziB (L:List Int):Rat:=((L.length:Int):Rat)-((sqL L:Int):Rat) / ((L.length:Int):Rat)
theorem znk:∀l:List Int,zdv (l.map iv)=true
 | []=>rfl
 | _::l=>by rw[qw];unfold zdv;rw[znk l];rfl
theorem RL.nil (H:Hp) (a:Option Addr) (c:Nat):RL H (.slice a 0 c) []:=(RVs.nil H).rl ⟨rfl,.inl ⟨rfl,_,_,rfl⟩⟩
theorem IL.nil (H:Hp) (a:Option Addr) (c:Nat):IL H (.slice a 0 c) []:=⟨rfl,.inl ⟨rfl,_,_,rfl⟩⟩
def zp3 (X:List (List Rat)) (col:Int) (rs m:List Int):Prop:=(rs.all (zfp X col)=true∧m.Perm rs∧zsu (zdn X col) m)∨(rs.all (zfp X col)=false∧m=[])
theorem zqE {a b:Rat} (h:a≤b):zco a b≤0:=by
 unfold zco;split
 ·omega
 ·split
  ·rename_i k;exact absurd k (Rat.not_lt.2 h)
  ·omega
def za5 (X:List (List Rat)) (col:Int) (t:Rat) (es:List Int):List Int:=es.filter fun r=>zfp X col r && decide (zdn X col r≤t)
def zay (X:List (List Rat)) (col:Int) (t:Rat) (es:List Int):List Int:=es.filter fun r=>zfp X col r && !decide (zdn X col r≤t)
section
variable {pre S S' post vs:List Value} {k:Nat}
end
section
variable {H:Hp} {b k:Nat} {T:TypeId} {pre post:List Value} (hk:pre.length=k)
include hk
end
section
variable {P:Program} {n:Nat} {ops:Array Oper} {o:Oper} {rest:List Oper} {env:Env} {bx:Bxs} {sb:Bxs} {ow:Ows} {H:Hs} {Q:EQ} {τ:Tab} {d:Nat} {s:SV}
end
theorem zmp (l:List Rat):∀x:Rat,l.foldl (·+·) x=x+zaR l:=by
 unfold zaR
 induction l with
 | nil=>intro x;rw[List.foldl_nil,List.foldl_nil,Rat.add_zero]
 | cons y l ih=>intro x;rw[List.foldl_cons,List.foldl_cons,ih,ih (0+y),Rat.zero_add,Rat.add_assoc]
theorem zn3 (x:Rat) (l:List Rat):zaR (x::l)=x+zaR l:=by
 have:=zmp l (0+x);rw[Rat.zero_add]at this;unfold zaR at *
 rw[List.foldl_cons,Rat.zero_add];exact this
theorem zpl {l m:List Int} (h:l.Perm m):sqL l=sqL m:=by
 unfold sqL;have e:(l.map fun x=>l.count x)=l.map fun x=>m.count x:=List.map_congr_left fun x _=>h.count_eq x;rw[e];exact(h.map _).sum_nat
theorem zpk (x:Int) (l:List Int):sqL (x::l)=sqL l+2*l.count x+1:=by
 have hp:(x::l).Perm (l++[x]):=List.perm_append_comm (l₁:=[x]) (l₂:=l);rw[zpl hp,zpm]
def zru (key:Int→Rat) (least:Int) (m:List Int) (j:Nat):Bool:=decide (least≤((j+1:Nat):Int)) && decide (least≤((m.length-(j+1):Nat):Int)) && decide (key (m.getD j 0)<key (m.getD (j+1) 0))
def zr9 (wo:List Int→Rat) (m:List Int) (j:Nat):Rat:=wo (m.take (j+1))+wo (m.drop (j+1))
def zop (key:Int→Rat) (m:List Int) (j:Nat):Rat:=(key (m.getD j 0)+key (m.getD (j+1) 0)) / 2
def zrw (key:Int→Rat) (wo:List Int→Rat) (least:Int) (m:List Int):Nat→Option (Rat × Rat)
 | 0=>none
 | j+1=>if zru key least m j=true then (match zrw key wo least m j with
  | none=>some (zop key m j,zr9 wo m j)
  | some (a,w)=>if w<zr9 wo m j then some (zop key m j,zr9 wo m j) else some (a,w)) else zrw key wo least m j
def stW:Option (Rat × Rat)→Rat
 | none=>0
 | some (_,w)=>w
def zsx (X:List (List Rat)) (wo:List Int→Rat) (rs:List Int) (least col:Int) (o:Option (Rat × Rat)):Prop:=∃m,zp3 X col rs m∧o=zrw (zdn X col) wo least m (m.length-1)∧ht (stW o)≤200001
end
section
open Go.RowKit Go.Shelf
attribute [local go_sem] Oper.semAt_some
end
section
open Go.RowKit Go.Shelf
attribute [local go_sem] Oper.semAt_some
end
section
open Go.RowKit _root_.Go.Proofs.Tryz
def nxt (s:Int):Int:=IntKind.u64.wrap (s+11400714819323198485)
def zsD (z:Int):Int:=IntKind.u64.wrap (bits .xor .u64 z (z / 1073741824)*13787848793156543929)
def zsE (z:Int):Int:=IntKind.u64.wrap (bits .xor .u64 z (z / 134217728)*10723151780598845931)
def zsF (z:Int):Int:=bits .xor .u64 z (z / 2147483648)
def mix (z:Int):Int:=zsF (zsE (zsD z))
def zsC (n:Int):Int:=18446744073709551615-18446744073709551616 % n
def zsB (s:Int):Int:=(-s*17428512612931826493) % 18446744073709551616
def left (s:Int):Nat:=(zsB (nxt s)).toNat
def zmC (n:Int):Nat→Int→Int × Int
 | 0,s=>(0,s)
 | k+1,s=>if mix (nxt s)≤zsC n then (mix (nxt s) % n,nxt s) else zmC n k (nxt s)
def below (n s:Int):Int × Int:=zmC n (left s+1) s
def zoa (n:Nat):List Int:=(List.range n).map Int.ofNat
theorem zgC (n:Nat):(zoa n).length=n:=by simp[zoa]
theorem zob (n:Nat):zoa (n+1)=zoa n++[(n:Int)]:=by simp[zoa,List.range_succ]
end
section
end
section
end
section
open Go.RowKit Go.Shelf
end
section
def zsy (cols cs:List Int):Prop:=cs.Pairwise (·<·)∧∀c,c∈cs↔c∈cols
end
section
open Go.RowKit _root_.Go.Proofs.Tryz
def RRs (H:Hp) (vs:List Value) (X:List (List Rat)):Prop:=vs.length=X.length∧∀(j:Nat) (u:Value) (x:List Rat),vs[j]?=some u→X[j]?=some x→RL H u x
theorem RRs.mono {H G:Hp} {vs:List Value} {X:List (List Rat)} (h:RRs H vs X) (k:H.Le G):RRs G vs X:=⟨h.1,fun j u x e1 e2=>(h.2 j u x e1 e2).mono k⟩
theorem RRs.nil (H:Hp):RRs H [] []:=⟨rfl,fun j u x h=>by simp at h⟩
theorem RRs.snoc {H:Hp} {vs:List Value} {X:List (List Rat)} {u:Value} {x:List Rat} (h:RRs H vs X) (k:RL H u x):RRs H (vs++[u]) (X++[x]):=zoe h k
def RLL (H:Hp) (v:Value) (X:List (List Rat)):Prop:=∃vs:List Value,RRs H vs X∧SlC H v X.length 1 vs
theorem RLL.mono {H G:Hp} {v:Value} {X:List (List Rat)} (h:RLL H v X) (k:H.Le G):RLL G v X:=by
 obtain⟨vs,h1,h2⟩:=h;exact⟨vs,h1.mono k,h2.mono k⟩
theorem RLL.val {H:Hp} {v:Value} {X:List (List Rat)} (h:RLL H v X):∃a c,v=.slice a X.length c:=by
 obtain⟨vs,_,h2⟩:=h;exact SlC.val h2
theorem RRs.at {H:Hp} {vs:List Value} {X:List (List Rat)} (h:RRs H vs X) {j:Nat} {x:List Rat} (hj:X[j]?=some x):∃a c,vs[j]?=some (.slice a x.length c)∧RL H (.slice a x.length c) x:=by
 obtain⟨hl,_⟩:=qE.1 hj;obtain⟨u,hu⟩:∃u,vs[j]?=some u:=⟨_,qA (by rw[h.1];exact hl)⟩;have hq:=h.2 j u x hu hj;obtain⟨a,c,rfl⟩:=hq.val;exact⟨a,c,hu,hq⟩
def zeZ (l:List Int) (n w:Nat):List (List Rat):=(List.range n).map fun i=>zji (l.drop (min l.length (i*w))) w
theorem zeC (l:List Int) (n w:Nat):(zeZ l n w).length=n:=by simp[zeZ]
theorem zpd (l:List Int) {n w i:Nat} (h:i<n):(zeZ l n w)[i]?=some (zji (l.drop (min l.length (i*w))) w):=by
 unfold zeZ;rw[qK,List.getElem?_range h];rfl
theorem IL.drop {H:Hp} {a:Option Addr} {cap:Nat} {l:List Int} (h:IL H (.slice a l.length cap) l) (k:Nat) (hk:k≤l.length):IL H (.slice (if cap=k then a else a.map (·.add (k*1))) (l.length-k) (cap-k)) (l.drop k):=by
 have hs:SlC H (.slice a l.length cap) l.length 1 (l.map iv):=h;have:=hs.sub k l.length hk (qH _) (SlN.le h);unfold IL SlN;rw[qp,List.map_drop];rw[Nat.mul_one,Nat.mul_one,qO (by simp)]at this;rw[Nat.mul_one];exact this
theorem zqX {H:Hp} {v:Value} {l:List Int} (h:IL H v l) (hb:∀z,z∈l → -9223372036854775808≤z∧z<9223372036854775808) (n w:Nat) (hn:n≤1000) (hw:w≤1000):PC prog 46 #[v,.int .i64 (n:Int),.int .i64 (w:Int)] H fun r H'=>RLL H' r (zeZ l n w):=by
 obtain⟨a,cap,rfl⟩:=SlC.val h;have hcap:l.length≤cap:=SlN.le h;refine BD func46 ntmps46 ?_;refine uR ?_;refine EV.loopK (ι:=Nat × List Value × Value × Ows) [0,1,2] [] (fun q=>[(7,.v q.2.2.1),(8,.v (.int .i64 (q.1:Int)))]) (fun _=>[]) (fun q=>q.2.2.2) (fun q G=>q.1≤n∧RRs G q.2.1 ((zeZ l n w).take q.1)∧zaA 27 1 q.2.2.1 q.1 q.2.1 q.2.2.2) (fun q=>n-q.1) ((0,[],.slice none 0 0,[])) rfl rfl ⟨rfl,rfl,trivial⟩ trivial rfl (fun _=>rfl) (⟨qQ _,RRs.nil _,zaA.nil _ _⟩) ?_;rintro⟨i,vs,u,ow⟩ G1 hG1 ⟨hi,hvs,hown⟩;dsimp only at hi hvs hown;obtain⟨wa,wc,rfl⟩:=hown.val;refine uR ?_;refine EV.cond rfl (fun hlt=>?_) (fun hlt=>?_)
 ·simp only[nN]at hlt;have hk:i*w≤1000*1000:=Nat.mul_le_mul oM hw
  have hwr:IntKind.i64.wrap ((i:Int)*(w:Int))=((i*w:Nat):Int):=by
   rw[←Int.natCast_mul];generalize i*w=k at *;rw[pK];omega
  have hrow:=zpd l (w:=w) hlt;generalize i*w=k at *
  have hd:=IL.drop (h.mono hG1) (min l.length k) (Nat.min_le_left _ _);have hrp:=znN hd (fun z hz=>hb z (List.mem_of_mem_drop hz)) w oM;refine uR ?_;rw[hwr];refine EVL.asI ((min l.length k:Nat)) ((by split <;> omega)) ?_;refine EVL.slc tO rfl rfl rfl rfl rfl rfl rfl rfl (min l.length k) l.length (.inr ⟨_,IntKind.i64,rfl,rfl⟩) (.inl ⟨rfl,rfl⟩) (Nat.min_le_left _ _) hcap hcap ?_;refine uR ?_;refine vA (hrp) ?_;rintro r G2 hr hG2;obtain⟨ra,rc,rfl⟩:=hr.val;refine uR ?_;refine EVL.app1 tO rfl rfl rfl rfl rfl rfl rfl rfl rfl rfl rfl rfl rfl rfl rfl rfl rfl rfl rfl (fun _=>rfl) (ow) ([]) ((qG _).symm) (hown) oM fun _=>?_;intro v' ow' hown';refine uR ?_;refine⟨(i+1,vs++[_],v',ow'),⟨rfl,?_,trivial⟩,sB,trivial,trivial,qG _,⟨hlt,by rw[zai hrow];exact(hvs.mono hG2).snoc hr,hown'⟩,hG2,by dsimp only;omega⟩;rw[zac i (by omega)];rfl
 ·simp only[nN]at hlt;obtain rfl:i=n:=oM;rw[qO (by rw[zeC];omega)]at hvs;(first|refine EVL.publishL [] ow [] ((qG _).symm) hown fun G2 hG2 hs=>?_|refine EV.publishL [] ow [] ((qG _).symm) hown fun G2 hG2 hs=>?_);refine uR ?_;exact⟨vs,hvs.mono hG2,by rw[zeC];exact hs⟩
theorem ziP {H:Hp} {v:Value} {X:List (List Rat)} (h:RLL H v X) (hn:X.length≤1000000) (hx:∀x,x∈X→x.length≤1000000∧∀q,q∈x→rq q):PC prog 16 #[v] H fun r H'=>QLL H' r X:=by
 obtain⟨a,cap,rfl⟩:=h.val;refine BD func16 ntmps16 ?_;refine uR ?_;refine EV.loopK (ι:=Nat × List Value × Value × Ows) [0] [] (fun q=>[(3,.v q.2.2.1),(4,.v (.int .i64 (q.1:Int)))]) (fun _=>[]) (fun q=>q.2.2.2) (fun q G=>q.1≤X.length∧QVs G q.2.1 (X.take q.1)∧zaA 60 1 q.2.2.1 q.1 q.2.1 q.2.2.2) (fun q=>X.length-q.1) ((0,[],.slice none 0 0,[])) rfl rfl ⟨rfl,rfl,trivial⟩ trivial rfl (fun _=>rfl) (⟨qQ _,QVs.nil _,zaA.nil _ _⟩) ?_;rintro⟨i,vs,u,ow⟩ G1 hG1 ⟨hi,hvs,hown⟩;dsimp only at hi hvs hown;obtain⟨wa,wc,rfl⟩:=hown.val;refine uR ?_;refine EV.cond rfl (fun hlt=>?_) (fun hlt=>?_)
 ·simp only[nN]at hlt;obtain⟨x,hxi⟩:=gE hlt;have hxb:=hx x (qF hxi);obtain⟨us,hus,hs⟩:=h.mono hG1;obtain⟨a1,c1,hu1,hR⟩:=hus.at hxi;have hin:=zep hR oM hxb.2;refine uR ?_;refine vI (hs) (i) (rfl) (hlt) (hu1) ?_;refine uR ?_;refine vA (hin) ?_;rintro r G2 hr hG2;obtain⟨ra,rc,rfl⟩:=SlC.val hr;refine uR ?_;refine EVL.app1 tO rfl rfl rfl rfl rfl rfl rfl rfl rfl rfl rfl rfl rfl rfl rfl rfl rfl rfl rfl (fun _=>rfl) (ow) ([]) ((qG _).symm) (hown) oM fun _=>?_;intro v' ow' hown';refine uR ?_;refine⟨(i+1,vs++[_],v',ow'),⟨rfl,?_,trivial⟩,sB,trivial,trivial,qG _,⟨hlt,by rw[zai hxi];exact(hvs.mono hG2).snoc hr,hown'⟩,hG2,by dsimp only;omega⟩;rw[zac i (by omega)];rfl
 ·simp only[nN]at hlt;obtain rfl:i=X.length:=oM;rw[qa]at hvs;(first|refine EVL.publishL [] ow [] ((qG _).symm) hown fun G2 hG2 hs=>?_|refine EV.publishL [] ow [] ((qG _).symm) hown fun G2 hG2 hs=>?_);refine uR ?_;exact⟨vs,hvs.mono hG2,hs⟩
def zlC (key:Int→Rat) (m:List Int):Nat→List Rat
 | 0=>[]
 | j+1=>zlC key m j++if key (m.getD j 0)<key (m.getD (j+1) 0) then [zop key m j] else []
end
section
structure POk (wo cost:List Int→Rat):Prop where
 wperm:∀l m:List Int,l.Perm m→wo l=wo m
 cperm:∀l m:List Int,l.Perm m→cost l=cost m
 split:∀l m:List Int,cost (l++m)+wo (l++m)=cost l+wo l+(cost m+wo m)
 conv:∀l m:List Int,wo (l++m)≤wo l+wo m
theorem zkw {key:Int→Rat} {wo:List Int→Rat} {least:Int} {m:List Int}:∀{n:Nat} {a w:Rat},zrw key wo least m n=some (a,w)→∃j,j<n∧zru key least m j=true∧a=zop key m j∧w=zr9 wo m j
 | 0,a,w,h=>by cases h
 | n+1,a,w,h=>by
  unfold zrw at h;split at h
  ·rename_i hc;split at h
   ·cases h;exact⟨n,Nat.lt_succ_self _,hc,rfl,rfl⟩
   ·rename_i a0 w0 h0;split at h
    ·cases h;exact⟨n,Nat.lt_succ_self _,hc,rfl,rfl⟩
    ·cases h;obtain⟨j,h1,h2⟩:=zkw h0;exact⟨j,by omega,h2⟩
  ·obtain⟨j,h1,h2⟩:=zkw h;exact⟨j,by omega,h2⟩
theorem ziL {key:Int→Rat} {m:List Int}:∀{n:Nat} {t:Rat},t∈zlC key m n→∃j,j<n∧key (m.getD j 0)<key (m.getD (j+1) 0)∧t=zop key m j
 | 0,t,h=>by cases h
 | n+1,t,h=>by
  unfold zlC at h;rcases List.mem_append.1 h with h | h
  ·obtain⟨j,h1,h2⟩:=ziL h;exact⟨j,by omega,h2⟩
  ·split at h
   ·rename_i hlt;exact⟨n,Nat.lt_succ_self _,hlt,pJ.1 h⟩
   ·cases h
section
variable {X:List (List Rat)} {wo cost:List Int→Rat} {rs cols:List Int} {L:Int} {ps:List (Int × Option (Rat × Rat))} (hp:POk wo cost) (hcol:zsy cols (ps.map (·.1))) (hps:∀p,p∈ps→zsx X wo rs L p.1 p.2)
include hp hcol hps
end
end
section
theorem zh5 {n:Nat} (h0:n≠0):((n:Int):Rat)≠0:=zlO h0
def zky (vals:List Rat) (l:List Int):Rat:=zaR (zfS (zbP (atR vals l)) (atR vals l))
def zkx (ls:List Int) (l:List Int):Rat:=ziB (atI ls l)
theorem zsA (L:List Rat):zaR (zfS (zbP L) L)+zaR L*zaR L / ((L.length:Int):Rat)=zaR (zfS 0 L):=by
 by_cases h0:L.length=0
 ·obtain rfl:=qz.1 h0;show zaR []+zaR []*zaR [] / ((((([]:List Rat).length:Nat):Int)):Rat)=zaR [];rw[zft,show ((((([]:List Rat).length:Nat):Int)):Rat)=0 from rfl,zcE,Rat.add_zero]
 ·have h:=ziG (zbP L) 0 L.reverse;rw[List.reverse_reverse,List.length_reverse]at h;have hn:=zh5 h0;have hm:zbP L=zaR L / ((L.length:Int):Rat):=rfl;rw[h];generalize zaR (zfS (zbP L) L)=A;rw[hm];generalize ((L.length:Int):Rat)=N at *
  generalize zaR L=S at *
  grind
theorem zkc (f g:Nat→Nat) (j:Nat):∀n,((List.range n).map fun k=>f k+if k=j then g k else 0).sum=((List.range n).map f).sum+if j<n then g j else 0
 | 0=>by simp
 | n+1=>by
  rw[List.range_succ,qn,List.sum_append,qn,List.sum_append,zkc f g j n];simp only[qw,List.map_nil,List.sum_cons,List.sum_nil];by_cases h:n=j
  ·subst h;rw[if_pos rfl,if_neg oM,if_pos (by omega)];omega
  ·rw[if_neg h];by_cases h2:j<n
   ·rw[if_pos h2,if_pos (by omega)];omega
   ·rw[if_neg h2,if_neg (by omega)];omega
end
section
def Gr (D A:Nat) (q:Rat):Prop:=∃z:Int,q*((D:Int):Rat)=(z:Rat)∧z.natAbs≤A*D
theorem zjS (z:Int) (k:Nat):(z*(k:Int)).natAbs=z.natAbs*k:=by rw[Int.natAbs_mul,Int.natAbs_natCast]
theorem Gr.bits {D A:Nat} {q:Rat} (hD:1≤D) (hA:1≤A) (h:Gr D A q):ht q≤bl (A*D):=by
 obtain⟨z,e,hz⟩:=h
 have hq:q=mkRat z D:=by
  rw[Rat.mkRat_eq_div];have h0:=zh5 (show D≠0 by omega);have:((D:Nat):Rat)=((D:Int):Rat):=rfl;rw[this,←e];grind
 rw[hq];refine qI (zoM z D oM) ?_;have h1:=zaW hz;have h2:=zaW (show D≤A*D from Nat.le_mul_of_pos_left D oM);omega
theorem Gr.mono {D A B:Nat} {q:Rat} (h:Gr D A q) (hAB:A≤B):Gr D B q:=by
 obtain⟨z,e,hz⟩:=h;exact⟨z,e,qI hz (qN D hAB)⟩
theorem Gr.up {D A:Nat} {q:Rat} (h:Gr D A q) (k:Nat):Gr (D*k) A q:=by
 obtain⟨z,e,hz⟩:=h;refine⟨z*(k:Int),?_,?_⟩
 ·rw[Int.natCast_mul,Rat.intCast_mul,Rat.intCast_mul,←Rat.mul_assoc,e]
 ·rw[zjS,←Nat.mul_assoc];exact qN k hz
theorem Gr.zero (D A:Nat):Gr D A 0:=⟨0,by rw[Rat.zero_mul];rfl,qQ _⟩
theorem Gr.neg {D A:Nat} {q:Rat} (h:Gr D A q):Gr D A (-q):=by
 obtain⟨z,e,hz⟩:=h;refine⟨-z,?_,by rw[Int.natAbs_neg];exact hz⟩;rw[Rat.neg_mul,e,Rat.intCast_neg]
theorem Gr.add {D A B:Nat} {p q:Rat} (h:Gr D A p) (k:Gr D B q):Gr D (A+B) (p+q):=by
 obtain⟨z,e,hz⟩:=h;obtain⟨y,e',hy⟩:=k;refine⟨z+y,?_,?_⟩
 ·rw[Rat.add_mul,e,e',Rat.intCast_add]
 ·rw[qu];exact qI (Int.natAbs_add_le _ _) (Nat.add_le_add hz hy)
theorem Gr.sub {D A B:Nat} {p q:Rat} (h:Gr D A p) (k:Gr D B q):Gr D (A+B) (p-q):=by
 rw[Rat.sub_eq_add_neg];exact h.add k.neg
theorem Gr.mul {D E A B:Nat} {p q:Rat} (h:Gr D A p) (k:Gr E B q):Gr (D*E) (A*B) (p*q):=by
 obtain⟨z,e,hz⟩:=h;obtain⟨y,e',hy⟩:=k;refine⟨z*y,?_,?_⟩
 ·rw[Int.natCast_mul,Rat.intCast_mul,Rat.intCast_mul,←e,←e'];grind
 ·rw[Int.natAbs_mul,show A*B*(D*E)=(A*D)*(B*E) by rw[Nat.mul_assoc,Nat.mul_assoc,Nat.mul_left_comm B D E]];exact Nat.mul_le_mul hz hy
theorem Gr.sumr {D A:Nat}:∀(l:List Rat),(∀q,q∈l→Gr D A q)→Gr D (A*l.length) (zaR l.reverse)
 | [],_=>Gr.zero _ _
 | x::l,h=>by
  rw[List.reverse_cons,zbh,qR,Nat.mul_succ];exact(Gr.sumr l fun q hq=>h q (qk _ hq)).add (h x (qf ..))
theorem Gr.sum {D A:Nat} {l:List Rat} (h:∀q,q∈l→Gr D A q):Gr D (A*l.length) (zaR l):=by
 have:=Gr.sumr (D:=D) (A:=A) l.reverse fun q hq=>h q (List.mem_reverse.1 hq)
 rwa [List.reverse_reverse,List.length_reverse]at this
theorem Gr.mean {D A:Nat} {l:List Rat} (h:∀q,q∈l→Gr D A q):Gr (D*l.length) A (zbP l):=by
 by_cases h0:l.length=0
 ·obtain rfl:=qz.1 h0;rw[show zbP []=0 from zcE _];exact Gr.zero _ _
 obtain⟨z,e,hz⟩:=Gr.sum h;refine⟨z,?_,?_⟩
 ·have h1:=zh5 (n:=l.length) oM;rw[Int.natCast_mul,Rat.intCast_mul,←e];unfold zbP;grind
 ·rw[show A*(D*l.length)=A*l.length*D by rw[Nat.mul_assoc,qW D]];exact hz
theorem Gr.meanK {D A m:Nat} {l:List Rat} (h:∀q,q∈l→Gr D A q) (hm:l.length ∣ m):Gr (D*m) A (zbP l):=by
 obtain⟨k,rfl⟩:=hm;rw[←Nat.mul_assoc];exact(Gr.mean h).up k
theorem Gr.dev {D A:Nat} {l:List Rat} (h:∀q,q∈l→Gr D A q):Gr (D*l.length*(D*l.length)) ((A+A)*(A+A)*l.length) (zaR (zfS (zbP l) l)):=by
 have hm:=Gr.mean h
 have:=Gr.sum (D:=D*l.length*(D*l.length)) (A:=(A+A)*(A+A)) (l:=zfS (zbP l) l) fun q hq=>by
  obtain⟨v,hv,rfl⟩:=List.mem_map.1 hq;have h1:=((h v hv).up l.length).sub hm;exact h1.mul h1
 rwa [show (zfS (zbP l) l).length=l.length by unfold zfS;exact qV ..]at this
theorem zj5 (q:Rat):q*(((q.den:Nat):Int):Rat)=(q.num:Rat):=by
 have h0:=zh5 q.den_nz;have e:=Rat.mkRat_self q;rw[Rat.mkRat_eq_div]at e;have h1:((q.den:Nat):Rat)=(((q.den:Nat):Int):Rat):=rfl;rw[h1]at e;generalize (((q.den:Nat):Int):Rat)=d at *
 generalize (q.num:Rat)=n at *
 clear h1;rw[show q=n / d from e.symm];grind
theorem zhW {q:Rat}:0<q.num↔0<q:=by
 have h1:=Rat.num_nonneg (q:=q);have h2:=Rat.num_eq_zero (q:=q);constructor
 ·intro h
  exact Rat.not_le.1 fun k=>by
   have h3:0≤q:=h1.1 oM;have h4:q=0:=Rat.le_antisymm k h3;have:=h2.2 h4;omega
 ·intro h;have h3:0≤q.num:=h1.2 (Rat.le_of_lt h);rcases Int.lt_or_eq_of_le h3 with h4 | h4
  ·exact h4
  ·have:=h2.1 h4.symm;rw[this]at h;exact absurd h (Rat.lt_irrefl)
theorem Gr.ofDen {D A:Nat} {q:Rat} (hd:q.den ∣ D) (hn:q.num.natAbs≤A*q.den):Gr D A q:=by
 obtain⟨k,rfl⟩:=hd;have h0:Gr q.den A q:=⟨q.num,zj5 q,hn⟩;exact h0.up k
def zkm (l:List Rat):Prop:=∃D A:Nat,1≤D∧1≤A∧bl (A*D)≤95∧∀q,q∈l→Gr D A q
theorem zkm.bits {l:List Rat} (h:zkm l):∀q,q∈l→ht q≤95:=fun q hq=>by
 obtain⟨D,A,hD,hA,hb,hl⟩:=h;exact qI ((hl q hq).bits hD hA) hb
theorem zkm.small {l m:List Rat} (h:zkm l) (hm:∀q,q∈m→q∈l) (hl:m.length≤300):ht (zbP m)≤104∧ht (zaR (zfS (zbP m) m))≤300:=by
 obtain⟨D,A,hD,hA,hb,hq⟩:=h;by_cases h0:m.length=0
 ·obtain rfl:=qz.1 h0;rw[show zbP []=0 from zcE _,show zaR (zfS 0 [])=0 from rfl,zck];omega
 have hg:=fun q k=>hq q (hm q k);have h300:bl m.length≤9:=zaU oM;have h4:bl 4=3:=zhE 2;constructor
 ·refine qI ((Gr.mean hg).bits (qI hD (Nat.le_mul_of_pos_right D oM)) hA) ?_;rw[←Nat.mul_assoc];have:=za8 (A*D) m.length;omega
 ·refine qI ((Gr.dev hg).bits (Nat.mul_pos (Nat.mul_pos oM oM) (Nat.mul_pos oM oM)) (Nat.mul_pos (Nat.mul_pos oM oM) oM)) ?_;rw[show (A+A)*(A+A)*m.length*(D*m.length*(D*m.length))=4*((A*D)*(A*D))*(m.length*(m.length*m.length)) by grind];have h5:=za8 (4*((A*D)*(A*D))) (m.length*(m.length*m.length));have h6:=za8 4 ((A*D)*(A*D));have h7:=za8 (A*D) (A*D);have h8:=za8 m.length (m.length*m.length);have h9:=za8 m.length m.length;omega
end
section
def zlY (a b:Int × Rat × Rat):Prop:=b.2.2<a.2.2∨(a.2.2=b.2.2∧(a.1<b.1∨(a.1=b.1∧a.2.1<b.2.1)))
instance (a b:Int × Rat × Rat):Decidable (zlY a b):=by unfold zlY;exact inferInstance
theorem zhj {a b c:Int × Rat × Rat} (h:zlY a b) (k:zlY b c):zlY a c:=by
 unfold zlY at *
 rcases h with h | ⟨h1,h2⟩ <;> rcases k with k | ⟨k1,k2⟩
 ·left;grind
 ·left;grind
 ·left;grind
 ·right;refine⟨h1.trans k1,?_⟩;rcases h2 with h2 | ⟨h2,h3⟩ <;> rcases k2 with k2 | ⟨k2,k3⟩
  ·left;omega
  ·left;omega
  ·left;omega
  ·right;exact⟨by omega,by grind⟩
theorem zhi {a b:Int × Rat × Rat} (h:zlY a b) (k:zlY b a):False:=by
 have:=zhj h k;unfold zlY at this;rcases this with h | ⟨_,h | ⟨_,h⟩⟩
 ·exact absurd h Rat.lt_irrefl
 ·omega
 ·exact absurd h Rat.lt_irrefl
def zgm (st:Option (Int × Rat × Rat)) (p:Int × Rat × Rat):Option (Int × Rat × Rat):=match st with
 | none=>some p
 | some q=>if zlY p q then some p else some q
def ziq (l:List (Int × Rat × Rat)) (r:Option (Int × Rat × Rat)):Prop:=match r with
 | none=>l=[]
 | some p=>p∈l∧∀q,q∈l→¬zlY q p
theorem zlz {l:List (Int × Rat × Rat)} {r:Option (Int × Rat × Rat)} (h:ziq l r) (p:Int × Rat × Rat):ziq (l++[p]) (zgm r p):=by
 unfold zgm
 cases r with
 | none =>
  obtain rfl:l=[]:=h
  exact⟨by simp,fun q hq=>by
   rw[pM,pJ]at hq;subst hq;exact fun k=>zhi k k⟩
 | some q =>
  obtain⟨h1,h2⟩:=h;dsimp only;split
  ·rename_i hp;refine⟨by simp,fun z hz=>?_⟩;rcases List.mem_append.1 hz with hz | hz
   ·exact fun k=>h2 z hz (zhj k hp)
   ·rw[pJ.1 hz];exact fun k=>zhi k k
  ·rename_i hp;refine⟨List.mem_append_left _ h1,fun z hz=>?_⟩;rcases List.mem_append.1 hz with hz | hz
   ·exact h2 z hz
   ·rw[pJ.1 hz];exact hp
end
section
end
section
open Go.RowKit _root_.Go.Proofs.Tryz
def zdE (C:Nat) (l:List Int):List Int:=(List.range C).map fun (k:Nat)=>(l.count (k:Int):Int)
theorem zbF (C:Nat) (l:List Int):(zdE C l).length=C:=by simp[zdE]
theorem zeM {C:Nat} (l:List Int) {k:Nat} (hk:k<C):(zdE C l)[k]?=some (l.count (k:Int):Int):=by
 unfold zdE;rw[qK,List.getElem?_range hk];rfl
theorem ziA {C:Nat} (l:List Int) {k:Nat} (hk:k<C):zdE C (l++[(k:Int)])=(zdE C l).set k ((l.count (k:Int)+1:Nat):Int):=by
 apply List.ext_getElem?;intro j;rw[List.getElem?_set];by_cases hj:j<C
 ·rw[zeM _ hj,zeM _ hj,zg2,zbF];by_cases e:k=j
  ·subst e;rw[if_pos rfl,if_pos rfl,if_pos hk]
  ·rw[if_neg e,if_neg oM,qY]
 ·rw[qe (by rw[zbF];omega),qe (by rw[zbF];omega),if_neg (by omega)]
theorem zfl (C:Nat):(List.replicate C [iv 0]).flatten=(zdE C []).map iv++[]:=by
 have:zdE C []=List.replicate C 0:=by
  unfold zdE;apply List.ext_getElem?;intro j;by_cases hj:j<C
  ·rw[qK,List.getElem?_range hj,List.getElem?_replicate,if_pos hj];simp
  ·rw[qe (by simp;omega),qe (by simp;omega)]
 rw[this,qG]
 induction C with
 | zero=>rfl
 | succ n ih =>
  rw[List.replicate_succ,List.flatten_cons,List.replicate_succ,qw,List.singleton_append];congr 1;apply ih;unfold zdE;apply List.ext_getElem?;intro j;by_cases hj:j<n
  ·rw[qK,List.getElem?_range hj,List.getElem?_replicate,if_pos hj];simp
  ·rw[qe (by simp;omega),qe (by simp;omega)]
theorem zpG {H:Hp} {b m:Nat} {l:List Int} {sp:List Value} (h:H b=some (l.map iv++sp).toArray) (hm:l.length=m):IL H (.slice (some ⟨b,0,none⟩) m m) l:=by
 subst hm;refine⟨by simp,.inr ⟨b,0,l.length,_,rfl,qH _,h,fun j x hj=>?_⟩⟩;rw[qt];have hl:=(qE.1 hj).1;rw[List.getElem?_toArray,qM hl];exact hj
theorem zrm {H:Hp} {v:Value} {rs:List Int} (hr:IL H v rs) (hn:rs.length≤300) {va:Option Addr} {vc:Nat} {la:Option Addr} {lc:Nat} {ls:List Int} (hv:IL H (.slice la ls.length lc) ls) {C:Nat} (hc:1≤C∧C≤12) (h0:1≤ls.length) (h1:ls.length≤300) (hls:∀z,z∈ls→0≤z∧z<(C:Int)) :
  PC prog 216 #[zbv 1 C (.slice la ls.length lc) (.slice va 0 vc),v] H fun r H'=>IL H' r (zdE C (atI ls (exL rs ls.length))):=by
 have hchk:=zmH (va:=va) (vc:=vc) hv (cl:=(C:Int)) oM h0 h1 hls;have hel:=zcj rs ls.length;have heb:=zhL (rs:=rs) (n:=ls.length);have hex:=zjO hr oM ls.length;generalize exL rs ls.length=es at *
 obtain⟨a,cap,rfl⟩:=SlC.val hr;refine BD func216 ntmps216 ?_
 repeat (first|refine RUN ?_|refine CV (hchk) ?_|refine CE (hchk) ?_)
 refine EVL.make tO rfl rfl rfl rfl rfl rfl rfl rfl rfl (C) (rfl) oM (by rfl) (by rfl) fun b=>?_;refine uR ?_;refine vA (hex) ?_;intro r1 G1 he hG1;obtain⟨ea,ec,rfl⟩:=SlC.val he;(first|refine EVL.swapOw ([(b,3,(zdE C (atI ls (es.take 0))).map iv++[])]) ([]) ((by rw[show atI ls (es.take 0)=[] from rfl,←zfl];rfl)) ?_|refine EV.swapOw ([(b,3,(zdE C (atI ls (es.take 0))).map iv++[])]) ([]) ((by rw[show atI ls (es.take 0)=[] from rfl,←zfl];rfl)) ?_);refine uR ?_;refine EV.loopK (ι:=Nat) [2,5,23,24] [2] (fun i=>[(25,.v (.int .i64 (i:Int)))]) (fun _=>[]) (fun i=>[(b,3,(zdE C (atI ls (es.take i))).map iv++[])]) (fun i _=>i≤es.length) (fun i=>es.length-i) (0) rfl rfl ⟨rfl,trivial⟩ trivial rfl (fun _=>rfl) (qQ _) ?_;rintro i G2 hG2 hi;refine uR ?_;refine EV.cond rfl (fun hlt=>?_) (fun hlt=>?_)
 ·simp only[nN]at hlt;obtain⟨r,hri⟩:=gE hlt;have hb:=heb r (qF hri);obtain⟨R,rfl⟩:=qh hb.1;obtain⟨x,hx⟩:∃x,ls[R]?=some x:=⟨_,qA oM⟩;have hRl:R<ls.length:=oM;have hxb:=hls x (qF hx);obtain⟨k,rfl⟩:=qh hxb.1;have hk:k<C:=oM
  have hsn:atI ls (es.take (i+1))=atI ls (es.take i)++[(k:Int)]:=by
   rw[zai hri];unfold atI;rw[qn,qw,qU,qB,hx];rfl
  have hcl:(atI ls (es.take i)).count (k:Int)≤300:=qI List.count_le_length (by rw[zfH,qP];omega);have hget:=zeM (C:=C) (atI ls (es.take i)) hk;have hcn:=ziA (C:=C) (atI ls (es.take i)) hk;rw[←hsn]at hcn;have hlen:=zbF C (atI ls (es.take i));generalize zdE C (atI ls (es.take i))=cs at *
  generalize (atI ls (es.take i)).count (k:Int)=m at *
  have wm:IntKind.i64.wrap ((m:Int)+1)=((m+1:Nat):Int):=zac m oM;refine uR ?_;refine vI ((he.mono hG2)) (i) (rfl) (hlt) ((by rw[qK,hri];rfl)) ?_;refine uR ?_;refine vI ((hv.mono (hG1.trans hG2))) (R) (rfl) (hRl) ((by rw[qK,hx];rfl)) ?_;refine uR ?_;refine EVL.idxB tO rfl rfl rfl rfl rfl rfl rfl rfl rfl (k) (k*1) (rfl) (hk) (rfl) ?_;refine EVL.loadOwn tO rfl rfl rfl rfl rfl rfl (0) rfl (zpA [] hget) rfl rfl ?_;refine uR ?_;rw[wm];refine EVL.idxB tO rfl rfl rfl rfl rfl rfl rfl rfl rfl (k) (k*1) (rfl) (hk) (rfl) ?_;refine EVL.storeOwn tO rfl rfl rfl rfl rfl rfl ([]) ([]) rfl rfl rfl rfl ((by rw[qJ,qV,hlen];show k*1+1≤_;omega)) (zpB [] _ (show k<cs.length by omega)) ?_;refine uR ?_;refine⟨i+1,⟨by rw[zac i (by omega)];rfl,trivial⟩,sB,trivial,sB,by rw[hcn];rfl,hlt,Hp.Le.refl _,by omega⟩
 ·simp only[nN]at hlt;obtain rfl:i=es.length:=oM;rw[qa];(first|refine EVL.publish [] [] rfl fun G3 hG3 hb3=>?_|refine EV.publish [] [] rfl fun G3 hG3 hb3=>?_);refine uR ?_;exact zpG hb3 (zbF _ _)
theorem ze9 {H:Hp} {v:Value} {rs:List Int} (hr:IL H v rs) (hn:rs.length≤300) {kd:Int} {sv:Value} {la:Option Addr} {lc:Nat} {ls:List Int} (hv:IL H (.slice la ls.length lc) ls) {C:Nat} (hc:C≤12) (hls:∀z,z∈ls→0≤z∧z<(C:Int)) :
  PC prog 220 #[zbv kd C (.slice la ls.length lc) sv,v] H fun r H'=>IL H' r (zdE C (atI ls (exL rs ls.length))):=by
 obtain⟨a,cap,rfl⟩:=SlC.val hr;refine BD func220 ntmps220 ?_;refine uR ?_;refine EVL.make tO rfl rfl rfl rfl rfl rfl rfl rfl rfl (C) (rfl) oM (by rfl) (by rfl) fun b=>?_;(first|refine EVL.swapOw ([(b,3,(zdE C (atI ls (exL (rs.take 0) ls.length))).map iv++[])]) ([]) ((by rw[show atI ls (exL (rs.take 0) ls.length)=[] from rfl,←zfl];rfl)) ?_|refine EV.swapOw ([(b,3,(zdE C (atI ls (exL (rs.take 0) ls.length))).map iv++[])]) ([]) ((by rw[show atI ls (exL (rs.take 0) ls.length)=[] from rfl,←zfl];rfl)) ?_);refine uR ?_;refine EV.loopK (ι:=Nat) [1,2,5] [2] (fun i=>[(6,.v (.int .i64 (i:Int)))]) (fun _=>[]) (fun i=>[(b,3,(zdE C (atI ls (exL (rs.take i) ls.length))).map iv++[])]) (fun i _=>i≤rs.length) (fun i=>rs.length-i) (0) rfl rfl ⟨rfl,trivial⟩ trivial rfl (fun _=>rfl) (qQ _) ?_;rintro i G2 hG2 hi;refine uR ?_;refine EV.cond rfl (fun hlt=>?_) (fun hlt=>?_)
 ·simp only[nN]at hlt;obtain⟨r,hri⟩:=gE hlt;have hex:=zeP (n:=ls.length) hri;have hel:=zcj (rs.take i) ls.length;rw[qP]at hel;have wn:IntKind.i64.wrap ((i:Int)+1)=((i+1:Nat):Int):=zac i oM;have hr2:=hr.mono hG2;refine uR ?_;by_cases h1:r≥0
  ·obtain⟨R,rfl⟩:=qh h1;apply EV.drawn 14 kR kR;intro xv yw;(repeat refine' DD ?_);refine' vJ (hr2) (i) (rfl) (hlt) ((by rw[qK,hri];rfl)) ?_;rotate_left;(repeat refine' DD ?_);rw[qD h1];(repeat refine' DD ?_);refine' vJ (hr2) (i) (rfl) (hlt) ((by rw[qK,hri];rfl)) ?_;rotate_left;(repeat refine' DD ?_);(refine DJ.nil (fun G3 hG3 hF3=>?_);(case hS|hS2=>rfl));refine uR ?_;by_cases h2:(R:Int)<(ls.length:Int)
   ·have hp:inR ls.length (R:Int)=true:=by unfold inR;simp;omega
    rw[hp,if_pos rfl]at hex;have hRl:R<ls.length:=oM;obtain⟨x,hx⟩:=gE hRl;have hxb:=hls x (qF hx);obtain⟨k,rfl⟩:=qh hxb.1;have hk:k<C:=oM
    have hsn:atI ls (exL (rs.take (i+1)) ls.length)=atI ls (exL (rs.take i) ls.length)++[(k:Int)]:=by
     rw[hex];unfold atI;rw[qn,qw,qU,qB,hx];rfl
    have hcl:(atI ls (exL (rs.take i) ls.length)).count (k:Int)≤300:=qI List.count_le_length (by rw[zfH];omega);have hget:=zeM (C:=C) (atI ls (exL (rs.take i) ls.length)) hk;have hcn:=ziA (C:=C) (atI ls (exL (rs.take i) ls.length)) hk;rw[←hsn]at hcn;have hlen:=zbF C (atI ls (exL (rs.take i) ls.length));generalize zdE C (atI ls (exL (rs.take i) ls.length))=cs at *
    generalize (atI ls (exL (rs.take i) ls.length)).count (k:Int)=m at *
    have wm:IntKind.i64.wrap ((m:Int)+1)=((m+1:Nat):Int):=zac m oM;have hr3:=hr2.mono hG3;have hv3:=hv.mono (hG2.trans hG3);rw[qD h2];refine uR ?_;apply EV.drawn 13 kR kR;intro xv yw;(repeat refine' DD ?_);refine' vJ (hr3) (i) (rfl) (hlt) ((by rw[qK,hri];rfl)) ?_;rotate_left;(repeat refine' DD ?_);refine' vJ (hv3) (R) (rfl) (hRl) ((by rw[qK,hx];rfl)) ?_;rotate_left;(repeat refine' DD ?_);refine' DJ.idxB tO rfl rfl rfl rfl rfl rfl rfl rfl rfl (k) (k*1) (rfl) (hk) (rfl) ?_;rotate_left;refine' DJ.ofVal (zab.loadOwn tO rfl rfl rfl rfl (0) rfl (zpA [] hget) rfl rfl) rfl rfl rfl ?_;rotate_left;(repeat refine' DD ?_);refine' DJ.idxB tO rfl rfl rfl rfl rfl rfl rfl rfl rfl (k) (k*1) (rfl) (hk) (rfl) ?_;rotate_left;(refine DJ.nil (fun G4 hG4 hF4=>?_);(case hS|hS2=>rfl));rw[wm];refine EVL.storeOwn tO rfl rfl rfl rfl rfl rfl ([]) ([]) rfl rfl rfl rfl ((by rw[qJ,qV,hlen];show k*1+1≤_;omega)) (zpB [] _ (show k<cs.length by omega)) ?_;refine uR ?_;refine⟨i+1,⟨by rw[wn];rfl,trivial⟩,sB,trivial,sB,by rw[hcn];rfl,hlt,hG3.trans hG4,by omega⟩
   ·have hp:inR ls.length (R:Int)=false:=by unfold inR;simp;omega
    rw[hp,if_neg (by decide),qG]at hex;rw[qC h2];refine uR ?_;refine⟨i+1,⟨by rw[wn];rfl,trivial⟩,sB,trivial,sB,by rw[hex],hlt,hG3,by omega⟩
  ·have hp:inR ls.length r=false:=by unfold inR;simp;omega
   rw[hp,if_neg (by decide),qG]at hex;apply EV.drawn 14 kR kR;intro xv yw;(repeat refine' DD ?_);refine' vJ (hr2) (i) (rfl) (hlt) ((by rw[qK,hri];rfl)) ?_;rotate_left;(repeat refine' DD ?_);rw[qC h1];(repeat refine' DD ?_);(refine DJ.nil (fun G3 hG3 hF3=>?_);(case hS|hS2=>rfl));refine uR ?_;refine⟨i+1,⟨by rw[wn];rfl,trivial⟩,sB,trivial,sB,by rw[hex],hlt,hG3,by omega⟩
 ·simp only[nN]at hlt;obtain rfl:i=rs.length:=oM;rw[qa];(first|refine EVL.publish [] [] rfl fun G3 hG3 hb3=>?_|refine EV.publish [] [] rfl fun G3 hG3 hb3=>?_);refine uR ?_;exact zpG hb3 (zbF _ _)
def zeI (l:List Int):Nat→Nat
 | 0=>0
 | i+1=>if l.getD (zeI l i) 0<l.getD i 0 then i else zeI l i
theorem zke (l:List Int):∀i,zeI l i<i∨zeI l i=0
 | 0=>.inr rfl
 | i+1=>by
  unfold zeI;split
  ·exact .inl (Nat.lt_succ_self _)
  ·rcases zke l i with h | h
   ·exact .inl oM
   ·exact .inr h
theorem zlc (l:List Int):zeI l 1=0:=by
 unfold zeI zeI;rw[if_neg (by omega)]
theorem zhN {l:List Int} {i:Nat} (h:i<l.length):l[i]?=some (l.getD i 0):=by
 rw[qB,qA h];rfl
theorem znE {H:Hp} {v:Value} {l:List Int} (hr:IL H v l) (hn:l.length≤300):PC prog 207 #[v] H fun r _=>r=.int .i64 (zeI l l.length:Nat):=by
 obtain⟨a,cap,rfl⟩:=SlC.val hr;refine BD func207 ntmps207 ?_;refine uR ?_;refine EV.loopK (ι:=Nat) [0] [] (fun i=>[(3,.v (.int .i64 (zeI l (i+1):Nat))),(4,.v (.int .i64 ((i+1:Nat):Int)))]) (fun _=>[]) (fun _=>[]) (fun i _=>i≤l.length-1) (fun i=>l.length-i) (0) rfl rfl ⟨by rw[zlc];rfl,rfl,trivial⟩ trivial rfl (fun _=>rfl) (qQ _) ?_;rintro i G2 hG2 hi;refine uR ?_;refine EV.cond rfl (fun hlt=>?_) (fun hlt=>?_)
 ·simp only[nN]at hlt;have hr2:=hr.mono hG2;have ht:=zke l (i+1);have htl:zeI l (i+1)<l.length:=oM;have g1:=zhN hlt;have g2:=zhN htl;have hst:zeI l (i+1+1)=if l.getD (zeI l (i+1)) 0<l.getD (i+1) 0 then i+1 else zeI l (i+1):=rfl
  have wn:IntKind.i64.wrap (((i+1:Nat):Int)+1)=((i+1+1:Nat):Int):=zac (i+1) oM;generalize zeI l (i+1)=tp at *
  generalize l.getD tp 0=x at *
  generalize l.getD (i+1) 0=y at *
  refine uR ?_;apply EV.drawn 8 kR kR;intro xv yw;(repeat refine' DD ?_);refine' vJ (hr2) (i+1) (rfl) (hlt) ((by rw[qK,g1];rfl)) ?_;rotate_left;(repeat refine' DD ?_);refine' vJ (hr2) (tp) (rfl) (htl) ((by rw[qK,g2];rfl)) ?_;rotate_left;(repeat refine' DD ?_);(refine DJ.nil (fun G3 hG3 hF3=>?_);(case hS|hS2=>rfl));refine uR ?_;by_cases h:y>x
  ·rw[qD h];rw[if_pos h]at hst;refine uR ?_;refine⟨i+1,⟨by rw[hst];rfl,by rw[wn];rfl,trivial⟩,sB,trivial,sB,rfl,by omega,hG3,by omega⟩
  ·rw[qC h];rw[if_neg h]at hst;refine uR ?_;refine⟨i+1,⟨by rw[hst];rfl,by rw[wn];rfl,trivial⟩,sB,trivial,sB,rfl,by omega,hG3,by omega⟩
 ·simp only[nN]at hlt
  have hfin:zeI l (i+1)=zeI l l.length:=by
   by_cases h0:l.length=0
   ·obtain rfl:i=0:=oM;rw[zlc,h0];rfl
   ·rw[show i+1=l.length by omega]
  rw[hfin];refine uR ?_;rfl
theorem zph {H:Hp} {v:Value} {l:List Rat} (h:QL H v l) (hl:l.length≤12) (hb:∀q,q∈l→sm q):PC prog 118 #[v] H fun r H'=>QL H' r (zb1 l) :=
 (zq5 h hl hb).mono fun r H' ⟨m,hm,hp,hr⟩ _=>zeF hp hr ▸ hm
end
section
theorem zbH {α:Type} (l:List α) (j:Nat) (y:α):(zaB l j y).length=l.length+1:=by rw[(zce l j y).length_eq,qJ];rfl
theorem zr6 {α:Type} {l:List α} {j:Nat} {y:α} (h:j≤l.length):(zaB l j y)[j]?=some y:=by
 have:(l.take j).length=j:=by rw[qP];omega
 unfold zaB;rw[qL oM,this,Nat.sub_self];rfl
theorem ze8 {α:Type} {l:List α} {j:Nat} {y z:α} (h:l[j]?=some z):(zaB l (j+1) y)[j]?=some z:=by
 obtain⟨hl,_⟩:=qE.1 h;unfold zaB;rw[qM (by rw[qP];omega),List.getElem?_take_of_lt oM,h]
theorem zlZ {α:Type} {l:List α} {j:Nat} {y z:α} (h:l[j]?=some z):(zaB l (j+1) y).set (j+1) z=zaB l j z:=by
 obtain⟨hl,hz⟩:=qE.1 h;have:(l.take (j+1)).length=j+1:=by rw[qP];omega
 unfold zaB;rw[List.set_append_right _ _ oM,this,Nat.sub_self,List.set_cons_zero,qS hl,hz,qo hl,hz];simp
theorem zgg {α:Type} {l:List α} {j:Nat} {y z:α} (h:j≤l.length):(zaB l j y).set j z=zaB l j z:=by
 have:(l.take j).length=j:=by rw[qP];omega
 unfold zaB;rw[List.set_append_right _ _ oM,this,Nat.sub_self,List.set_cons_zero]
theorem znv {α:Type} (l:List α) (y:α):zaB l l.length y=l++[y]:=by unfold zaB;rw[qa,List.drop_length]
theorem znw {α:Type} {l:List α} {j:Nat} {y z:α} (h:z∈zaB l j y):z=y∨z∈l:=by
 have:=(zce l j y).mem_iff.1 h;rcases List.mem_append.1 this with h | h
 ·exact .inr h
 ·exact .inl (pJ.1 h)
end
section
open Go.RowKit _root_.Go.Proofs.Tryz
theorem RVs.put {H:Hp} {vs:List Value} {l:List Rat} {x:Value} {q:Rat} {j:Nat} (h:RVs H vs l) (k:RQ H x q) (hj:j≤l.length):RVs H (zaB vs j x) (zaB l j q):=by
 have h1:=h.1;refine⟨by rw[zbH,zbH,h1],fun i y r e1 e2=>?_⟩;have t1:(vs.take j).length=j:=by rw[qP];omega
 have t2:(l.take j).length=j:=by rw[qP];omega
 unfold zaB at e1 e2;rw[List.getElem?_append,t1]at e1;rw[List.getElem?_append,t2]at e2;by_cases hi:i<j
 ·rw[if_pos hi,List.getElem?_take_of_lt hi]at e1 e2;exact h.2 i y r e1 e2
 ·rw[if_neg hi]at e1 e2
  cases hk:i-j with
  | zero=>rw[hk]at e1 e2;simp at e1 e2;subst e1;subst e2;exact k
  | succ m =>
   rw[hk,pL,List.getElem?_drop]at e1 e2;exact h.2 _ y r e1 e2
theorem RVs.three {H:Hp} {vs:List Value} {l:List Rat} (h:RVs H vs l):∀x,x∈vs→(zae x).length=3:=fun x hx=>by
 obtain⟨i,hi,rfl⟩:=List.getElem_of_mem hx;have:=h.1;exact(h.2 i _ _ (qA hi) (qA oM)).cells.1
theorem RVs.at {H:Hp} {vs:List Value} {l:List Rat} (h:RVs H vs l) {j:Nat} {q:Rat} (hj:l[j]?=some q):∃x,vs[j]?=some x∧RQ H x q:=by
 obtain⟨hl,rfl⟩:=qE.1 hj;have h1:=h.1;exact⟨_,qA oM,h.2 j _ _ (qA oM) (qA hl)⟩
theorem zbJ {vs:List Value} {j:Nat} {y:Value} (h:∀x,x∈vs→(zae x).length=3) (hy:(zae y).length=3):∀x,x∈zaB vs j y→(zae x).length=3:=fun x hx=>by
 rcases znw hx with rfl | hx
 ·exact hy
 ·exact h x hx
theorem zeH {vs:List Value} (h:∀x,x∈vs→(zae x).length=3):(vs.flatMap zae).length=vs.length*3:=flat_len _ 3 vs h
theorem znq {T:TypeId} {b cap i j:Nat} {vs:List Value} {x:Value} {sp:List Value} {k:Nat} (hv:∀x,x∈vs→(zae x).length=3) (hvl:vs.length=i) (hx:(zae x).length=3) (hk:k+sp.length=cap*3) (hk':k=(i+1)*3) (h1:i+1≤cap) (h2:cap≤maxLen) :
  zaA T 3 (.slice (some ⟨b,0,none⟩) (i+1) cap) (i+1) ((zaB vs j x).flatMap zae) [(b,T,(zaB vs j x).flatMap zae++sp)]:=by
 have hl:((zaB vs j x).flatMap zae).length=(i+1)*3:=by rw[zeH (zbJ hv hx),zbH,hvl]
 exact⟨hl,.inr ⟨b,cap,sp,rfl,rfl,by rw[qJ,hl];omega,h1,h2⟩⟩
theorem zhp {H:Hp} {v:Value} {l:List Rat} (h:RL H v l) (hl:l.length≤1000) (hb:∀q,q∈l→rq q):PC prog 129 #[v] H fun r H'=>RL H' r (zb1 l):=by
 obtain⟨a,cap,rfl⟩:=RL.val h;refine BD func129 ntmps129 ?_;refine uR ?_;refine EV.loopK (ι:=Nat × List Value × List Rat × Value × Ows) [0] [] (fun q=>[(3,.v q.2.2.2.1),(4,.v (.int .i64 (q.1:Int)))]) (fun _=>[]) (fun q=>q.2.2.2.2) (fun q G=>q.1≤l.length∧RVs G q.2.1 q.2.2.1∧q.2.2.1.Perm (l.take q.1)∧zbC q.2.2.1∧zaA 33 3 q.2.2.2.1 q.1 (q.2.1.flatMap zae) q.2.2.2.2) (fun q=>l.length-q.1) ((0,[],[],.slice none 0 0,[])) rfl rfl ⟨rfl,rfl,trivial⟩ trivial rfl (fun _=>rfl) (⟨qQ _,RVs.nil _,List.Perm.refl _,List.Pairwise.nil,zaA.nil _ _⟩) ?_;rintro⟨i,vs,acc,w,ow⟩ G1 hG1 ⟨hi,hvs,hperm,hris,hown⟩;dsimp only at hi hvs hperm hris hown;have hal:acc.length=i:=by rw[hperm.length_eq,qP];omega
 have hvl:vs.length=i:=by rw[hvs.1,hal]
 have hthr:=hvs.three;obtain⟨wa,wc,rfl⟩:=hown.val;refine uR ?_;refine EV.cond rfl (fun hlt=>?_) (fun hlt=>?_)
 ·simp only[nN]at hlt;obtain⟨q,hqi⟩:=gE hlt;obtain⟨us,x,hsl,hc,hx⟩:=(h.mono hG1).at hqi;obtain⟨xa,xl,xc,ya,yl,yc,rfl,hx1,hx2⟩:=id hx;have qq:=hb q (qF hqi);have qacc:∀y,y∈acc→rq y:=fun y hy=>hb y (List.mem_of_mem_take (hperm.mem_iff.1 hy));refine uR ?_;refine EVL.idxM tO rfl rfl rfl rfl rfl rfl rfl rfl rfl (hsl) (i) (rfl) (hlt) (hc) ?_;refine uR ?_;refine EVL.app1 tO rfl rfl rfl rfl rfl rfl rfl rfl rfl rfl rfl rfl rfl rfl rfl rfl rfl rfl rfl (fun _=>rfl) (ow) ([]) ((qG _).symm) (hown) oM fun _=>?_;intro v' ow' hown';have e:=znv vs (.agg #[.bool (decide (q.num<0)),.slice xa xl xc,.slice ya yl yc]);rw[hvl]at e
  have hown2:zaA 33 3 v' (i+1) ((zaB vs i (.agg #[.bool (decide (q.num<0)),.slice xa xl xc,.slice ya yl yc])).flatMap zae) ow':=by
   rw[e,List.flatMap_append];exact hown'
  clear hown' hown e;generalize hX:Value.agg #[.bool (decide (q.num<0)),.slice xa xl xc,.slice ya yl yc]=x at *
  have hx3:(zae x).length=3:=hX ▸ rfl;rcases hown2 with ⟨hk',⟨_,h0,_⟩ | ⟨b,cap',sp,rfl,rfl,hk,hc1,hc2⟩⟩
  ·omega
  rw[qJ]at hk;generalize ((zaB vs i x).flatMap zae).length=k at hk hk'
  have hperm':∀j,(zaB acc j q).Perm (l.take (i+1)):=fun j=>by
   rw[zai hqi];exact(zce acc j q).trans (hperm.append_right [q])
  subst hX;refine uR ?_;refine EV.loopK (ι:=Nat × Value) [0,3,4] [] (fun p=>[(5,.v (.int .i64 (p.1:Int)))]) (fun _=>[]) (fun p=>[(b,33,(zaB vs p.1 p.2).flatMap zae++sp)]) (fun p _=>p.1≤i∧(zae p.2).length=3∧∀y,y∈acc.drop p.1→q≤y) (fun p=>p.1) ((i,_)) rfl rfl ⟨rfl,trivial⟩ trivial rfl (fun _=>rfl) (⟨qH _,rfl,by rw[←hal,List.drop_length];intro y hy;cases hy⟩) ?_;rintro⟨j,y⟩ G2 hG2 ⟨hj,hy,hgr⟩;dsimp only at hj hy hgr;have hsl2:=hsl.mono hG2
  cases j with
  | zero =>
   refine uR ?_;apply EV.drawn 15 kR kR;intro xv yw;(repeat refine' DD ?_);(refine DJ.nil (fun G3 hG3 hF3=>?_);(case hS|hS2=>rfl));refine uR ?_;have hj':0<(zaB vs (0) y).length:=by rw[zbH];omega
   refine EVL.idxM tO rfl rfl rfl rfl rfl rfl rfl rfl rfl ((hsl2.mono hG3)) (i) (rfl) (hlt) (hc) ?_;refine uR ?_;refine EVL.idxB tO rfl rfl rfl rfl rfl rfl rfl rfl rfl (0) ((0)*3) (rfl) (oM) (rfl) ?_;refine EVL.storeOwn tO rfl rfl rfl rfl rfl rfl ([]) ([]) rfl rfl rfl rfl ((by rw[qJ,zeH (zbJ hthr hy),zbH,hvl];show (0)*3+3≤_;omega)) ((zbY (zbJ hthr hy) sp (.agg #[.bool (decide (q.num<0)),.slice xa xl xc,.slice ya yl yc]) hj')) ?_;rw[zgg (by omega)];refine uR ?_;refine⟨(i+1,zaB vs (0) (.agg #[.bool (decide (q.num<0)),.slice xa xl xc,.slice ya yl yc]),zaB acc (0) q,.slice (some ⟨b,0,none⟩) (i+1) cap',[(b,33,(zaB vs (0) (.agg #[.bool (decide (q.num<0)),.slice xa xl xc,.slice ya yl yc])).flatMap zae++sp)]),⟨rfl,?_,trivial⟩,sB,trivial,trivial,rfl,⟨by dsimp only;omega,(hvs.mono (hG2.trans hG3)).put ((hx.mono hG2).mono hG3) oM,hperm' _,zcD hris (by intro y hy;rw[List.take_zero]at hy;cases hy) hgr,znq hthr hvl rfl hk hk' hc1 hc2⟩,hG2.trans hG3,by dsimp only;omega⟩;rw[zac i (by omega)];rfl
  | succ j =>
   obtain⟨r,hrj⟩:∃r,acc[j]?=some r:=⟨_,qA oM⟩;obtain⟨z,hzj,hz⟩:=(hvs.mono hG2).at hrj;obtain⟨za,zl,zc,wa',wl',wc',rfl,hz1,hz2⟩:=id hz;have qr:=qacc r (qF hrj);have hcmp:=fun G (hG:G2.Le G)=>za9 (hz.mono hG) ((hx.mono hG2).mono hG) qr qq
   have hgt:zco r q>0→q≤r:=fun h=>by
    unfold zco at h;split at h
    ·omega
    ·split at h
     ·exact Rat.le_of_lt (by assumption)
     ·omega
   have hle:¬zco r q>0→r≤q:=fun h=>by
    unfold zco at h;split at h
    ·exact Rat.le_of_lt (by assumption)
    ·split at h
     ·omega
     ·rename_i k1 k2;exact Rat.not_lt.1 k2
   generalize zco r q=o at *
   refine uR ?_;apply EV.drawn 15 kR kR;intro xv yw;(repeat refine' DD ?_);rw[qD (show ((j+1:Nat):Int)>0 by omega)];(repeat refine' DD ?_);refine' DJ.idxB tO rfl rfl rfl rfl rfl rfl rfl rfl rfl (j) (j*3) ((by rw[pK];omega)) (oM) (rfl) ?_;rotate_left;refine' DJ.ofVal (zab.loadOwn tO rfl rfl rfl rfl (0) rfl (zcB (zbJ hthr hy) sp (ze8 hzj)) rfl rfl) rfl rfl rfl ?_;rotate_left;(repeat refine' DD ?_);refine' DJ.idxM tO rfl rfl rfl rfl rfl rfl rfl rfl rfl (hsl2) (i) (rfl) (hlt) (hc) ?_;rotate_left;(repeat refine' DD ?_);refine' vC (cO func75) (fun G hG hd=>hcmp G hG) ?_;rotate_left;(repeat refine' DD ?_);(refine DJ.nil (fun G3 hG3 hF3=>?_);(case hS|hS2=>rfl));refine uR ?_;by_cases ho:o>0
   ·rw[qD ho];refine uR ?_;refine EVL.idxB tO rfl rfl rfl rfl rfl rfl rfl rfl rfl (j) (j*3) ((by rw[pK];omega)) (oM) (rfl) ?_;refine EVL.loadOwn tO rfl rfl rfl rfl rfl rfl (0) rfl (zcB (zbJ hthr hy) sp (ze8 hzj)) rfl rfl ?_;refine uR ?_;refine EVL.idxB tO rfl rfl rfl rfl rfl rfl rfl rfl rfl (j+1) ((j+1)*3) (rfl) (oM) (rfl) ?_;refine EVL.storeOwn tO rfl rfl rfl rfl rfl rfl ([]) ([]) rfl rfl rfl rfl ((by rw[qJ,zeH (zbJ hthr hy),zbH,hvl];show (j+1)*3+3≤_;omega)) ((zbY (zbJ hthr hy) sp (.agg #[.bool (decide (r.num<0)),.slice za zl zc,.slice wa' wl' wc']) (by rw[zbH];omega))) ?_;rw[zlZ hzj];refine uR ?_;refine⟨(j,.agg #[.bool (decide (r.num<0)),.slice za zl zc,.slice wa' wl' wc']),⟨?_,trivial⟩,sB,trivial,trivial,rfl,⟨by dsimp only;omega,rfl,?_⟩,hG3,by dsimp only;omega⟩
    ·rw[show IntKind.i64.wrap (((j+1:Nat):Int)-1)=(j:Int) by rw[pK];omega];rfl
    ·intro z' hz';dsimp only at hz';rw[zhK hrj]at hz';rcases List.mem_cons.1 hz' with rfl | hz'
     ·exact hgt ho
     ·exact hgr z' hz'
   ·rw[qC ho];refine uR ?_;have hj':j+1<(zaB vs (j+1) y).length:=by rw[zbH];omega
    refine EVL.idxM tO rfl rfl rfl rfl rfl rfl rfl rfl rfl ((hsl2.mono hG3)) (i) (rfl) (hlt) (hc) ?_;refine uR ?_;refine EVL.idxB tO rfl rfl rfl rfl rfl rfl rfl rfl rfl (j+1) ((j+1)*3) (rfl) (oM) (rfl) ?_;refine EVL.storeOwn tO rfl rfl rfl rfl rfl rfl ([]) ([]) rfl rfl rfl rfl ((by rw[qJ,zeH (zbJ hthr hy),zbH,hvl];show (j+1)*3+3≤_;omega)) ((zbY (zbJ hthr hy) sp (.agg #[.bool (decide (q.num<0)),.slice xa xl xc,.slice ya yl yc]) hj')) ?_;rw[zgg (by omega)];refine uR ?_;refine⟨(i+1,zaB vs (j+1) (.agg #[.bool (decide (q.num<0)),.slice xa xl xc,.slice ya yl yc]),zaB acc (j+1) q,.slice (some ⟨b,0,none⟩) (i+1) cap',[(b,33,(zaB vs (j+1) (.agg #[.bool (decide (q.num<0)),.slice xa xl xc,.slice ya yl yc])).flatMap zae++sp)]),⟨rfl,?_,trivial⟩,sB,trivial,trivial,rfl,⟨by dsimp only;omega,(hvs.mono (hG2.trans hG3)).put ((hx.mono hG2).mono hG3) oM,hperm' _,zcD hris (zgq hris hrj (hle ho)) hgr,znq hthr hvl rfl hk hk' hc1 hc2⟩,hG2.trans hG3,by dsimp only;omega⟩;rw[zac i (by omega)];rfl
 ·simp only[nN]at hlt;obtain rfl:i=l.length:=oM;rw[qa]at hperm;(first|refine EVL.publishL [] ow [] ((qG _).symm) hown fun G2 hG2 hs=>?_|refine EV.publishL [] ow [] ((qG _).symm) hown fun G2 hG2 hs=>?_);refine uR ?_;rw[←zeF hperm hris];exact(hvs.mono hG2).rl (by rw[hal];exact hs)
theorem zp8 {vals:List Rat} {rs:List Int} {i:Nat} {R:Nat} {x:Rat} (hri:rs[i]?=some (R:Int)) (hx:vals[R]?=some x):atR vals (exL (rs.take (i+1)) vals.length)=atR vals (exL (rs.take i) vals.length)++[x]:=by
 obtain⟨hl,_⟩:=qE.1 hx;have hex:=zeP (n:=vals.length) hri;have hp:inR vals.length (R:Int)=true:=by unfold inR;simp;omega
 rw[hp,if_pos rfl]at hex;rw[hex];unfold atR;rw[qn,qw,qU,qB,hx];rfl
theorem zfc {H:Hp} {v:Value} {rs:List Int} (hr:IL H v rs) (hn:rs.length≤300) {kd cl:Int} {sl sv:Value} {qs:List Rat} (hv:RL H sv qs) :
  PC prog 252 #[zbv kd cl sl sv,v] H fun r H'=>RL H' r (atR qs (exL rs qs.length)):=by
 obtain⟨a,cap,rfl⟩:=SlC.val hr;obtain⟨va,vc,rfl⟩:=hv.val;refine BD func252 ntmps252 ?_;refine uR ?_;refine EV.loopK (ι:=Nat × List Value × Value × Ows) [1,2] [2] (fun q=>[(5,.v q.2.2.1),(6,.v (.int .i64 (q.1:Int)))]) (fun _=>[]) (fun q=>q.2.2.2) (fun q G=>q.1≤rs.length∧RVs G q.2.1 (atR qs (exL (rs.take q.1) qs.length))∧zaA 33 3 q.2.2.1 q.2.1.length (q.2.1.flatMap zae) q.2.2.2) (fun q=>rs.length-q.1) ((0,[],.slice none 0 0,[])) rfl rfl ⟨rfl,rfl,trivial⟩ trivial rfl (fun _=>rfl) (⟨qQ _,RVs.nil _,zaA.nil _ _⟩) ?_;rintro⟨i,us,w,ow⟩ G2 hG2 ⟨hi,hus,hown⟩;dsimp only at hi hus hown;obtain⟨wa,wc,rfl⟩:=hown.val;refine uR ?_;refine EV.cond rfl (fun hlt=>?_) (fun hlt=>?_)
 ·simp only[nN]at hlt;obtain⟨r,hri⟩:=gE hlt;have hex:=zeP (n:=qs.length) hri;have hel:=zcj (rs.take i) qs.length;rw[qP]at hel;have hul:us.length≤i:=by rw[hus.1,zd2];omega
  have wn:IntKind.i64.wrap ((i:Int)+1)=((i+1:Nat):Int):=zac i oM;have hr2:=hr.mono hG2;refine uR ?_;by_cases h1:r≥0
  ·obtain⟨R,rfl⟩:=qh h1;apply EV.drawn 14 kR kR;intro xv yw;(repeat refine' DD ?_);refine' vJ (hr2) (i) (rfl) (hlt) ((by rw[qK,hri];rfl)) ?_;rotate_left;(repeat refine' DD ?_);rw[qD h1];(repeat refine' DD ?_);refine' vJ (hr2) (i) (rfl) (hlt) ((by rw[qK,hri];rfl)) ?_;rotate_left;(repeat refine' DD ?_);(refine DJ.nil (fun G3 hG3 hF3=>?_);(case hS|hS2=>rfl));refine uR ?_;by_cases h2:(R:Int)<(qs.length:Int)
   ·have hRl:R<qs.length:=oM;obtain⟨x,hx⟩:=gE hRl;have hsn:=zp8 hri hx;have hr3:=hr2.mono hG3;obtain⟨vs,y,hs,hc,hy⟩:=(hv.mono (hG2.trans hG3)).at hx;obtain⟨xa,xl,xc,ya,yl,yc,rfl,hx1,hx2⟩:=id hy;rw[qD h2];refine uR ?_;apply EV.drawn 10 kR kR;intro xv yw;(repeat refine' DD ?_);refine' vJ (hr3) (i) (rfl) (hlt) ((by rw[qK,hri];rfl)) ?_;rotate_left;(repeat refine' DD ?_);refine' DJ.idxM tO rfl rfl rfl rfl rfl rfl rfl rfl rfl (hs) (R) (rfl) (hRl) (hc) ?_;rotate_left;(repeat refine' DD ?_);(refine' DJ.lit tO rfl rfl rfl rfl rfl rfl rfl rfl rfl rfl rfl rfl ?_;rotate_left);(refine DJ.nil (fun G4 hG4 hF4=>?_);(case hS|hS2=>rfl));refine EVL.append tO rfl rfl rfl rfl rfl rfl rfl rfl rfl rfl rfl rfl [] ow [] (qG _).symm hown (zb2.ro hF4.1 oM) rfl oM ?_;intro v' ow' hown';refine uR ?_;refine⟨(i+1,us++[_],v',ow'),⟨rfl,by rw[wn];rfl,trivial⟩,sB,trivial,sB,qG _,⟨hlt,by dsimp only;rw[hsn];exact(hus.mono (hG3.trans hG4)).snoc (hy.mono hG4),by dsimp only;rw[qJ,List.flatMap_append];exact hown'⟩,hG3.trans hG4,by dsimp only;omega⟩
   ·have hp:inR qs.length (R:Int)=false:=by unfold inR;simp;omega
    rw[hp,if_neg (by decide),qG]at hex;rw[qC h2];refine uR ?_;refine⟨(i+1,us,_,ow),⟨rfl,by rw[wn];rfl,trivial⟩,sB,trivial,sB,rfl,⟨hlt,by dsimp only;rw[hex];exact hus.mono hG3,hown⟩,hG3,by dsimp only;omega⟩
  ·have hp:inR qs.length r=false:=by unfold inR;simp;omega
   rw[hp,if_neg (by decide),qG]at hex;apply EV.drawn 14 kR kR;intro xv yw;(repeat refine' DD ?_);refine' vJ (hr2) (i) (rfl) (hlt) ((by rw[qK,hri];rfl)) ?_;rotate_left;(repeat refine' DD ?_);rw[qC h1];(repeat refine' DD ?_);(refine DJ.nil (fun G3 hG3 hF3=>?_);(case hS|hS2=>rfl));refine uR ?_;refine⟨(i+1,us,_,ow),⟨rfl,by rw[wn];rfl,trivial⟩,sB,trivial,sB,rfl,⟨hlt,by dsimp only;rw[hex];exact hus.mono hG3,hown⟩,hG3,by dsimp only;omega⟩
 ·simp only[nN]at hlt;obtain rfl:i=rs.length:=oM;rw[qa]at hus;(first|refine EVL.publishL [] ow [] ((qG _).symm) hown fun G3 hG3 hs3=>?_|refine EV.publishL [] ow [] ((qG _).symm) hown fun G3 hG3 hs3=>?_);have hus3:=hus.mono hG3;refine uR ?_;show RL G3 (.slice wa us.length wc) _;rw[hus3.1]at hs3 ⊢;exact hus3.rl hs3
theorem zgk {H:Hp} {v:Value} {rs:List Int} (hr:IL H v rs) (hn:rs.length≤300) {kd cl:Int} {sl sv:Value} {qs:List Rat} (hv:RL H sv qs) (hb:∀q,q∈qs→ht q≤100) :
  PC prog 221 #[zbv kd cl sl sv,v] H fun r H'=>RQ H' r (zbP (atR qs (exL rs qs.length))):=by
 have hvals:=zfc (kd:=kd) (cl:=cl) (sl:=sl) hr hn hv;have hel:=zcj rs qs.length;have hlb:=fun q hq=>hb q (zhC (zhL (rs:=rs) (n:=qs.length)) q hq);have hll:(atR qs (exL rs qs.length)).length≤300:=by rw[zd2];omega
 generalize atR qs (exL rs qs.length)=L at *
 obtain⟨a,cap,rfl⟩:=SlC.val hr;obtain⟨va,vc,rfl⟩:=hv.val;refine BD func221 ntmps221 ?_;refine uR ?_;refine vA (hvals) ?_;intro r1 G1 hL hG1;obtain⟨la,lc,rfl⟩:=hL.val;refine uR ?_;by_cases h0:L.length=0
 ·obtain rfl:=qz.1 h0;refine uR ?_;refine vA (zaF 0 (by decide) (by decide)) ?_;intro r2 G2 hq hG2;obtain⟨xa,xl,xc,ya,yl,yc,rfl,hx1,hx2⟩:=id hq;refine uR ?_;rw[zf2];exact hq
 ·rw[show (((L.length:Nat):Int) == 0)=false from pP.2 (by omega)];refine uR ?_;refine EVL.call rfl rfl rfl rfl rfl (zhn hL oM h0 (fun q hq=>qI (hlb q hq) oM)) ?_;intro r2 G2 hq hG2;obtain⟨xa,xl,xc,ya,yl,yc,rfl,hx1,hx2⟩:=id hq;refine uR ?_;exact hq
theorem zrC {H:Hp} (q:Rat) (hq:rq q) (a b:Int) (h1:-9223372036854775808≤a) (h2:a<9223372036854775808) (h3:-9223372036854775808≤b) (h4:b<9223372036854775808) (h0:b≠0) (he:q=Rat.divInt a b):PC prog 53 #[zaj q,.int .i64 a,.int .i64 b] H fun r _=>r=.bool true:=by
 have hov:=fun G:Hp=>zch (H:=G) a b h1 h2 h3 h4 h0;rw[←he]at hov;refine BD func53 ntmps53 ?_;refine uR ?_;apply EV.drawn 4 kR kR;intro xv yw;(repeat refine' DD ?_);refine' vB (cO func44) (fun G hG hd=>hov G) (fun _ _ _ h k=>RQ.mono h k) ?_;rotate_left;(refine DJ.nil (fun G1 hG1 hF1=>?_);(case hS|hS2=>rfl));have hs:=zgt hF1.1 hq
 repeat (first|refine RUN ?_|refine CV (hs) ?_|refine CE (hs) ?_)
 rfl
theorem zjZ {a b:Rat} (h:a≤b):zco a b≤0:=by
 unfold zco;split
 ·omega
 ·split
  ·rename_i k;exact absurd k (Rat.not_lt.2 h)
  ·omega
theorem znK {l:List Int} (n:Nat):∀q,q∈zji l n→ht q≤5:=fun q hq=>by
 obtain⟨i,hi,rfl⟩:=List.mem_map.1 hq;split
 ·exact zqk _
 ·rw[zck];omega
theorem zk2 {l:List Int} {n w:Nat}:∀x,x∈zeZ l n w→x.length=w∧∀q,q∈x→ht q≤5:=fun x hx=>by
 obtain⟨i,_,rfl⟩:=List.mem_map.1 hx;exact⟨zeA _ _,znK w⟩
theorem zfP {X:List (List Rat)} {B:Nat} (h:∀x,x∈X→∀q,q∈x→ht q≤B) (c r:Int) (hB:1≤B:=by omega):ht (zdn X c r)≤B:=by
 unfold zdn;rw[qB,qB]
 cases e:X[r.toNat]? with
 | none=>simp;rw[zck];omega
 | some x =>
  rw[Option.getD_some]
  cases e2:x[c.toNat]? with
  | none=>rw[Option.getD_none,zck];omega
  | some q=>exact h x (qF e) q (qF e2)
theorem zsb {X:List (List Rat)} (h:∀x,x∈X→∀q,q∈x→ht q≤5) (c:Int) (m:List Int) (j:Nat):ht (zop (zdn X c) m j)≤100:=by
 have h1:=zfP h c (m.getD j 0);have h2:=zfP h c (m.getD (j+1) 0);have h3:=zdV (zdn X c (m.getD j 0)) (zdn X c (m.getD (j+1) 0))
 have h4:ht ((2:Int):Rat)≤10:=by
  have:=zdh 2;have h2:bl (2:Int).natAbs≤5:=zaU (by decide);omega
 have h5:=ziN (zdn X c (m.getD j 0)+zdn X c (m.getD (j+1) 0)) ((2:Int):Rat);rw[show ((2:Int):Rat)=2 from rfl]at h4 h5;unfold zop;omega
theorem zm9 {X:List (List Rat)} (h:∀x,x∈X→∀q,q∈x→ht q≤60) (c:Int) (m:List Int) (j:Nat):ht (zop (zdn X c) m j)≤200:=by
 have h1:=zfP h c (m.getD j 0);have h2:=zfP h c (m.getD (j+1) 0);have h3:=zdV (zdn X c (m.getD j 0)) (zdn X c (m.getD (j+1) 0))
 have h4:ht ((2:Int):Rat)≤10:=by
  have:=zdh 2;have h2:bl (2:Int).natAbs≤5:=zaU (by decide);omega
 have h5:=ziN (zdn X c (m.getD j 0)+zdn X c (m.getD (j+1) 0)) ((2:Int):Rat);rw[show ((2:Int):Rat)=2 from rfl]at h4 h5;unfold zop;omega
theorem zqf (L:List Rat):zaR (zgN L L)=zaR (zfS 0 L):=by
 congr 1;unfold zgN zfS
 induction L with
 | nil=>rfl
 | cons x L ih =>
  rw[List.zipWith_cons_cons,qw,ih];congr 1;grind
theorem zls (L:List Rat):zaR (zgN L L)-zaR L*zaR L / ((L.length:Int):Rat)=zaR (zfS (zbP L) L):=by
 have:=zsA L;rw[zqf];grind
theorem zj8 {H:Hp} {v:Value} {rs:List Int} (hr:IL H v rs) (hn:rs.length≤300) {cl:Int} {sl sv:Value} {qs:List Rat} (hv:RL H sv qs) (hb:∀q,q∈qs→ht q≤100) :
  PC prog 219 #[zbv 2 cl sl sv,v] H fun r H'=>RQ H' r (zky qs (exL rs qs.length)):=by
 have hvals:=zfc (kd:=2) (cl:=cl) (sl:=sl) hr hn hv;have hel:=zcj rs qs.length;have hlb:=fun q hq=>hb q (zhC (zhL (rs:=rs) (n:=qs.length)) q hq);have hll:(atR qs (exL rs qs.length)).length≤300:=by rw[zd2];omega
 show PC prog 219 #[zbv 2 cl sl sv,v] H fun r H'=>RQ H' r (zaR (zfS (zbP (atR qs (exL rs qs.length))) (atR qs (exL rs qs.length))));generalize atR qs (exL rs qs.length)=L at *
 have hform:=zls L;have hS:=zdW 100 L hlb;have hD:=zdW 200 (zgN L L) (zjN hlb hlb);have hDl:(zgN L L).length≤300:=by unfold zgN;rw[List.length_zipWith];omega
 have hM:=zdi (zaR L) (zaR L);have hN:=zdh (L.length:Int);have hN2:bl (L.length:Int).natAbs≤20:=zaU oM;have hV:=ziN (zaR L*zaR L) ((L.length:Int):Rat);have r1:rq (zaR L):=by unfold rq;omega
 have r2:rq (zaR L*zaR L):=by unfold rq;omega
 have r3:rq ((L.length:Int):Rat):=by unfold rq;omega
 have r4:rq (zaR L*zaR L / ((L.length:Int):Rat)):=by unfold rq;omega
 have r5:rq (zaR (zgN L L)):=by unfold rq;omega
 rw[←hform];obtain⟨a,cap,rfl⟩:=SlC.val hr;obtain⟨va,vc,rfl⟩:=hv.val;refine BD func219 ntmps219 ?_;refine uR ?_;refine vA (hvals) ?_;intro r1' G1 hL hG1;obtain⟨la,lc,rfl⟩:=hL.val;refine uR ?_;by_cases h0:L.length=0
 ·obtain rfl:=qz.1 h0;refine uR ?_;refine vA (zaF 0 (by decide) (by decide)) ?_;intro r2 G2 hq hG2;obtain⟨xa,xl,xc,ya,yl,yc,rfl,hx1,hx2⟩:=id hq;refine uR ?_;have e:zaR (zgN [] [])-zaR []*zaR [] / ((([]:List Rat).length:Int):Rat)=((0:Int):Rat):=by decide +kernel
  rw[e];exact hq
 ·have hnum:(((L.length:Nat):Int):Rat).num≠0:=by rw[Rat.num_intCast];omega
  rw[show (((L.length:Nat):Int) == 0)=false from pP.2 (by omega)];refine uR ?_;refine EVL.call rfl rfl rfl rfl rfl (zgo hL oM (fun q hq=>qI (hlb q hq) oM)) ?_;intro rt G2 hT hG2;obtain⟨xa,xl,xc,ya,yl,yc,rfl,hx1,hx2⟩:=id hT;have hL2:=hL.mono hG2;refine uR ?_;apply EV.drawn 11 kR kR;intro xv yw;(repeat refine' DD ?_);refine' vB (cO func253) (fun G hG hd=>zmc (hL2.mono hG) (hL2.mono hG) rfl oM (fun q hq=>qI (hlb q hq) oM) (fun q hq=>qI (hlb q hq) oM)) (fun _ _ _ h k=>RQ.mono h k) ?_;rotate_left;(repeat refine' DD ?_);refine' vB (cO func104) (fun G hG hd=>zcg (hT.mono hG) (hT.mono hG) r1 r1) (fun _ _ _ h k=>RQ.mono h k) ?_;rotate_left;(repeat refine' DD ?_);refine' vB (cO func13) (fun G hG hd=>zaF (L.length:Int) oM oM) (fun _ _ _ h k=>RQ.mono h k) ?_;rotate_left;refine' vB (cO func12) (fun G hG hd=>zeX (hd.tail.head kR) (hd.head kR) r2 r3 hnum) (fun _ _ _ h k=>RQ.mono h k) ?_;rotate_left;refine' vB (cO func69) (fun G hG hd=>zcq (hd.tail.tail.tail.head kR) (hd.head kR) r5 r4) (fun _ _ _ h k=>RQ.mono h k) ?_;rotate_left;(refine DJ.nil (fun G3 hG3 hF3=>?_);(case hS|hS2=>rfl));have hfin:=hF3.1;obtain⟨xa,xl,xc,ya,yl,yc,e,hx1,hx2⟩:=id hfin;rw[e]at hfin ⊢;refine uR ?_;exact hfin
theorem zif (C:Nat):∀l:List Int,(∀z,z∈l→0≤z∧z<(C:Int))→sqL l=((List.range C).map fun (k:Nat)=>l.count (k:Int)*l.count (k:Int)).sum∧l.length=((List.range C).map fun (k:Nat)=>l.count (k:Int)).sum
 | [],_=>by
  constructor
  ·show 0=_
   induction C with
   | zero=>rfl
   | succ n ih=>rw[List.range_succ,qn,List.sum_append,←ih (by simp)];simp
  ·show 0=_
   induction C with
   | zero=>rfl
   | succ n ih=>rw[List.range_succ,qn,List.sum_append,←ih (by simp)];simp
 | x::l,h=>by
  have hx:=h x (qf ..);obtain⟨j,rfl⟩:=qh hx.1;obtain⟨ih1,ih2⟩:=zif C l (fun z hz=>h z (qk _ hz));constructor
  ·have hs:=zkc (fun k=>l.count (k:Int)*l.count (k:Int)) (fun k=>2*l.count (k:Int)+1) j C;rw[if_pos (by omega)]at hs;rw[zpk,ih1,Nat.add_assoc,←hs];congr 1;refine List.map_congr_left fun k _=>?_;rw[List.count_cons];by_cases e:k=j
   ·subst e;rw[if_pos rfl];simp;grind
   ·have e2:¬((j:Int) == (k:Int))=true:=by simp;omega
    rw[if_neg e,if_neg e2];simp
  ·have hs:=zkc (fun k=>l.count (k:Int)) (fun k=>1) j C;rw[if_pos (by omega)]at hs;rw[qR,ih2,←hs];congr 1;refine List.map_congr_left fun k _=>?_;rw[List.count_cons];by_cases e:k=j
   ·subst e;rw[if_pos rfl];simp
   ·have e2:¬((j:Int) == (k:Int))=true:=by simp;omega
    rw[if_neg e,if_neg e2]
def nS (l:List Int) (i:Nat):Nat:=((List.range i).map fun (k:Nat)=>l.count (k:Int)).sum
def sS (l:List Int) (i:Nat):Nat:=((List.range i).map fun (k:Nat)=>l.count (k:Int)*l.count (k:Int)).sum
theorem zne (l:List Int) (i:Nat):nS l (i+1)=nS l i+l.count (i:Int):=by unfold nS;rw[List.range_succ,qn,List.sum_append];simp
theorem znR (l:List Int) (i:Nat):sS l (i+1)=sS l i+l.count (i:Int)*l.count (i:Int):=by unfold sS;rw[List.range_succ,qn,List.sum_append];simp
theorem zrD (l:List Int) (B:Nat) (h:∀z:Int,l.count z≤B):∀i,nS l i≤i*B∧sS l i≤i*(B*B)
 | 0=>⟨Nat.le_of_eq (by simp[nS]),Nat.le_of_eq (by simp[sS])⟩
 | i+1=>by
  obtain⟨h1,h2⟩:=zrD l B h i;rw[zne,znR,Nat.succ_mul,Nat.succ_mul];exact⟨Nat.add_le_add h1 (h _),Nat.add_le_add h2 (Nat.mul_le_mul (h _) (h _))⟩
theorem zj7 {H:Hp} {v:Value} {rs:List Int} (hr:IL H v rs) (hn:rs.length≤300) {sv:Value} {la:Option Addr} {lc:Nat} {ls:List Int} (hv:IL H (.slice la ls.length lc) ls) {C:Nat} (hc:C≤12) (hc1:1≤C) (hls:∀z,z∈ls→0≤z∧z<(C:Int)) :
  PC prog 219 #[zbv 1 C (.slice la ls.length lc) sv,v] H fun r H'=>RQ H' r (zkx ls (exL rs ls.length)):=by
 have hcnt:=ze9 (kd:=1) (sv:=sv) hr hn hv hc hls;have hel:=zcj rs ls.length;have hll:(atI ls (exL rs ls.length)).length≤300:=by rw[zfH];omega
 have hlb:∀z,z∈atI ls (exL rs ls.length)→0≤z∧z<(C:Int):=fun z hz=>by
  unfold atI at hz;obtain⟨r,_,rfl⟩:=List.mem_map.1 hz;rw[qB]
  cases e:ls[r.toNat]? with
  | none=>exact⟨by decide,by simp;omega⟩
  | some x=>exact hls x (qF e)
 show PC prog 219 #[zbv 1 C (.slice la ls.length lc) sv,v] H fun r H'=>RQ H' r (ziB (atI ls (exL rs ls.length)));generalize atI ls (exL rs ls.length)=L at *
 obtain⟨e1,e2⟩:=zif C L hlb;have hcl:=zbF C L;have hb:=zrD L 300 (fun z=>qI List.count_le_length hll);have hcount:∀z:Int,L.count z≤300:=fun z=>qI List.count_le_length hll;have e1':sqL L=sS L C:=e1;have e2':L.length=nS L C:=e2;obtain⟨a,cap,rfl⟩:=SlC.val hr;refine BD func219 ntmps219 ?_;refine uR ?_;refine vA (hcnt) ?_;intro r1 G1 hL hG1;obtain⟨ca,cc,rfl⟩:=SlC.val hL
 have hLC:SlC G1 (.slice ca C cc) C 1 ((zdE C L).map iv):=by
  have hL0:SlC G1 (.slice ca (zdE C L).length cc) (zdE C L).length 1 ((zdE C L).map iv):=hL;rw[hcl]at hL0;exact hL0
 rw[hcl];refine uR ?_;refine EV.loopK (ι:=Nat) [4,7] [4] (fun i=>[(8,.v (.int .i64 (nS L i:Nat))),(9,.v (.int .i64 (sS L i:Nat))),(10,.v (.int .i64 (i:Int)))]) (fun _=>[]) (fun _=>[]) (fun i _=>i≤C) (fun i=>C-i) (0) rfl rfl ⟨rfl,rfl,rfl,trivial⟩ trivial rfl (fun _=>rfl) (qQ _) ?_;rintro i G2 hG2 hi;refine uR ?_;refine EV.cond rfl (fun hlt=>?_) (fun hlt=>?_)
 ·simp only[nN]at hlt;have hL2:=hLC.mono hG2;have hget:=zeM L hlt;have hil:i<C:=hlt;have b1:=hb i;have b2:=hcount (i:Int);have b3:i*300≤12*300:=Nat.mul_le_mul oM (qH _);have b4:i*(300*300)≤12*(300*300):=Nat.mul_le_mul oM (qH _);have b5:L.count (i:Int)*L.count (i:Int)≤300*300:=Nat.mul_le_mul b2 b2;have s1:=zne L i;have s2:=znR L i;have w1:IntKind.i64.wrap ((nS L i:Int)+(L.count (i:Int):Int))=(nS L (i+1):Int):=by rw[s1,pK];omega
  have w2:IntKind.i64.wrap ((L.count (i:Int):Int)*(L.count (i:Int):Int))=((L.count (i:Int)*L.count (i:Int):Nat):Int):=by
   rw[←Int.natCast_mul];generalize L.count (i:Int)*L.count (i:Int)=z at *;rw[pK];omega
  have w3:IntKind.i64.wrap ((sS L i:Int)+((L.count (i:Int)*L.count (i:Int):Nat):Int))=(sS L (i+1):Int):=by rw[s2];generalize L.count (i:Int)*L.count (i:Int)=z at *;rw[pK];omega
  have wn:IntKind.i64.wrap ((i:Int)+1)=((i+1:Nat):Int):=zac i oM;refine uR ?_;refine vI (hL2) (i) (rfl) (hil) ((by rw[qK,hget];rfl)) ?_;refine uR ?_;apply EV.drawn 11 kR kR;intro xv yw;(repeat refine' DD ?_);refine' vJ (hL2) (i) (rfl) (hil) ((by rw[qK,hget];rfl)) ?_;rotate_left;(repeat refine' DD ?_);refine' vJ (hL2) (i) (rfl) (hil) ((by rw[qK,hget];rfl)) ?_;rotate_left;(repeat refine' DD ?_);(refine DJ.nil (fun G3 hG3 hF3=>?_);(case hS|hS2=>rfl));refine uR ?_;refine⟨i+1,⟨by rw[←w1];rfl,by rw[←w3,←w2];rfl,by rw[wn];rfl,trivial⟩,sB,trivial,sB,rfl,hlt,hG3,by omega⟩
 ·simp only[nN]at hlt;obtain rfl:i=C:=oM;rw[←e1',←e2'];have hsq:=zn0 L;have hsq2:L.length*L.length≤300*300:=Nat.mul_le_mul hll hll;refine uR ?_;by_cases h0:L.length=0
  ·obtain rfl:=qz.1 h0;refine uR ?_;refine vA (zaF 0 (by decide) (by decide)) ?_;intro r2 G3 hq hG3;obtain⟨xa,xl,xc,ya,yl,yc,rfl,hx1,hx2⟩:=id hq;refine uR ?_;rw[show ziB []=((0:Int):Rat) by decide +kernel];exact hq
  ·rw[show (((L.length:Nat):Int) == 0)=false from pP.2 (by omega)];have hov:=fun G:Hp=>zch (H:=G) (sqL L:Int) (L.length:Int) oM oM oM oM oM;have hform:((L.length:Int):Rat)-Rat.divInt (sqL L:Int) (L.length:Int)=ziB L:=by unfold ziB;rw[Rat.divInt_eq_div]
   have r1:rq ((L.length:Int):Rat):=by
    have:=zdh (L.length:Int);have h2:bl (L.length:Int).natAbs≤20:=zaU oM;unfold rq;omega
   have r2:rq (Rat.divInt (sqL L:Int) (L.length:Int)):=by
    rw[Rat.divInt_eq_div];have h1:=zdh (L.length:Int);have h2:bl (L.length:Int).natAbs≤20:=zaU oM;have h3:=zdh (sqL L:Int);have h4:bl (sqL L:Int).natAbs≤20:=zaU oM;have h5:=ziN ((sqL L:Int):Rat) ((L.length:Int):Rat);unfold rq;omega
   refine uR ?_;refine EVL.call rfl rfl rfl rfl rfl (zaF (L.length:Int) oM oM) ?_;intro q1 G3 hq1 hG3;refine uR ?_;refine vA (hov _) ?_;intro q2 G4 hq2 hG4;refine uR ?_;refine vA (zcq (hq1.mono hG4) hq2 r1 r2) ?_;intro q3 G5 hq3 hG5;obtain⟨xa,xl,xc,ya,yl,yc,rfl,hx1,hx2⟩:=id hq3;refine uR ?_;rw[←hform];exact hq3
theorem zla {H:Hp} {vx:Value} {X:List (List Rat)} (hX:RLL H vx X) (r col:Int):PC prog 225 #[vx,.int .i64 r,.int .i64 col] H fun u _=>u=.bool (inR X.length r && zfp X col r):=by
 obtain⟨xa,xc,rfl⟩:=hX.val;obtain⟨vs,hvs,hs⟩:=hX;refine BD func225 ntmps225 ?_;refine uR ?_;by_cases h1:r≥0
 ·obtain⟨R,rfl⟩:=qh h1;rw[qD h1];refine uR ?_;by_cases h2:(R:Int)<(X.length:Int)
  ·rw[qD h2];have hi:inR X.length (R:Int)=true:=by unfold inR;simp;omega
   obtain⟨x,hx⟩:∃x,X[R]?=some x:=⟨_,qA oM⟩;obtain⟨a1,e1,hu1,_⟩:=hvs.at hx;have hRl:R<X.length:=oM
   have hhas:zfp X col (R:Int)=(decide (0≤col) && decide (col<(x.length:Int))):=by
    unfold zfp;rw[qU,qB,hx];rfl
   rw[hi,hhas];refine uR ?_;by_cases h3:col≥0
   ·rw[qD h3];refine uR ?_;refine vI (hs) (R) (rfl) (hRl) (hu1) ?_;refine uR ?_;rfl
   ·rw[qC h3];refine uR ?_;rfl
  ·rw[qC h2];have hi:inR X.length (R:Int)=false:=by unfold inR;simp;omega
   rw[hi];refine uR ?_;rfl
 ·rw[qC h1];have hi:inR X.length r=false:=by unfold inR;simp;omega
  rw[hi];refine uR ?_;rfl
theorem zkL {X:List (List Rat)} {col:Int} {t:Rat} {rs:List Int} {i:Nat} {r:Int} (hri:rs[i]?=some r) (p:Int→Bool) :
  (exL (rs.take (i+1)) X.length).filter p=(exL (rs.take i) X.length).filter p++if inR X.length r && p r then [r] else []:=by
 rw[zeP hri,List.filter_append];cases inR X.length r <;> cases hp:p r <;> simp[hp]
theorem zgn {H:Hp} {vx vr vt:Value} {X:List (List Rat)} {rs:List Int} {col:Int} {t:Rat} (hX:RLL H vx X) (hr:IL H vr rs) (hn:rs.length≤100000) (hq:∀x,x∈X→∀q,q∈x→rq q) (hvt:RQ H vt t) (ht:rq t) :
  PC prog 184 #[vx,vr,.int .i64 col,vt] H fun r H'=>∃u w,r=.tuple #[u,w]∧IL H' u (za5 X col t (exL rs X.length))∧IL H' w (zay X col t (exL rs X.length)):=by
 obtain⟨a,cap,rfl⟩:=SlC.val hr;obtain⟨xa,xc,rfl⟩:=hX.val;obtain⟨ta,tl,tc,tb,tm,td,rfl,ht1,ht2⟩:=id hvt;refine BD func184 ntmps184 ?_;refine uR ?_;refine EV.loopK (ι:=Nat × Value × Value × Ows × Ows) [0,1,2,7] [7] (fun q=>[(10,.v q.2.1),(11,.v q.2.2.1),(12,.v (.int .i64 (q.1:Int)))]) (fun _=>[]) (fun q=>q.2.2.2.1++q.2.2.2.2) (fun q _=>q.1≤rs.length∧zaA 3 1 q.2.1 (za5 X col t (exL (rs.take q.1) X.length)).length ((za5 X col t (exL (rs.take q.1) X.length)).map iv) q.2.2.2.1∧zaA 3 1 q.2.2.1 (zay X col t (exL (rs.take q.1) X.length)).length ((zay X col t (exL (rs.take q.1) X.length)).map iv) q.2.2.2.2) (fun q=>rs.length-q.1) ((0,.slice none 0 0,.slice none 0 0,[],[])) rfl rfl ⟨rfl,rfl,rfl,trivial⟩ trivial rfl (fun _=>rfl) (⟨qQ _,zaA.nil _ _,zaA.nil _ _⟩) ?_;rintro⟨i,w1,w2,ow1,ow2⟩ G1 hG1 ⟨hi,hown1,hown2⟩;dsimp only at hi hown1 hown2;obtain⟨wa1,wc1,rfl⟩:=hown1.val;obtain⟨wa2,wc2,rfl⟩:=hown2.val;refine uR ?_;refine EV.cond rfl (fun hlt=>?_) (fun hlt=>?_)
 ·simp only[nN]at hlt;obtain⟨r,hri⟩:=gE hlt;have hlo:=zkL (X:=X) (col:=col) (t:=t) hri fun r=>zfp X col r && decide (zdn X col r≤t);have hhi:=zkL (X:=X) (col:=col) (t:=t) hri fun r=>zfp X col r && !decide (zdn X col r≤t);have hel:=zcj (rs.take i) X.length;rw[qP]at hel;have hl1:(za5 X col t (exL (rs.take i) X.length)).length≤i:=qI (List.length_filter_le _ _) oM;have hl2:(zay X col t (exL (rs.take i) X.length)).length≤i:=qI (List.length_filter_le _ _) oM;have wn:IntKind.i64.wrap ((i:Int)+1)=((i+1:Nat):Int):=zac i oM;have hr1:=hr.mono hG1;have hX1:=hX.mono hG1;have hth:=zla hX1 r col;refine uR ?_;refine vI (hr1) (i) (rfl) (hlt) ((by rw[qK,hri];rfl)) ?_
  repeat (first|refine RUN ?_|refine CV (hth) ?_|refine CE (hth) ?_)
  cases hb:inR X.length r && zfp X col r with
  | false =>
   have e1:(inR X.length r && (zfp X col r && decide (zdn X col r≤t)))=false:=by rw[←Bool.and_assoc,hb];rfl
   have e2:(inR X.length r && (zfp X col r && !decide (zdn X col r≤t)))=false:=by rw[←Bool.and_assoc,hb];rfl
   rw[e1,if_neg (by decide),qG]at hlo;rw[e2,if_neg (by decide),qG]at hhi;refine uR ?_;refine⟨(i+1,_,_,ow1,ow2),⟨rfl,rfl,by rw[wn];rfl,trivial⟩,sB,trivial,sB,rfl,⟨hlt,by unfold za5;rw[hlo];exact hown1,by unfold zay;rw[hhi];exact hown2⟩,Hp.Le.refl _,by dsimp only;omega⟩
  | true =>
   have hb2:inR X.length r=true∧zfp X col r=true:=by simpa using hb
   have hr0:0≤r∧r<(X.length:Int):=by have:=hb2.1;unfold inR at this;simpa using this
   obtain⟨R,C,x,q,rfl,rfl,hx,hqx⟩:=zmZ hr0.1 hr0.2 hb2.2;have hk:=zmO (X:=X) rfl rfl hx hqx;rw[hb2.1,hb2.2,Bool.true_and,Bool.true_and,hk]at hlo hhi;have hRl:R<X.length:=oM;have hCl:=(qE.1 hqx).1;obtain⟨vs,hvs,hs⟩:=hX1;obtain⟨a2,c2,hu,hRL⟩:=hvs.at hx;obtain⟨us,y,hs2,hc2,hy⟩:=hRL.at hqx;obtain⟨xa',xl',xc',ya',yl',yc',rfl,hx1,hx2⟩:=id hy;have hqq:=hq x (qF hx) q (qF hqx);have hvt1:=hvt.mono hG1;refine uR ?_;apply EV.drawn 11 kR kR;intro xv yw;(repeat refine' DD ?_);refine' vJ (hr1) (i) (rfl) (hlt) ((by rw[qK,hri];rfl)) ?_;rotate_left;(repeat refine' DD ?_);refine' vJ (hs) (R) (rfl) (hRl) (hu) ?_;rotate_left;(repeat refine' DD ?_);refine' DJ.idxM tO rfl rfl rfl rfl rfl rfl rfl rfl rfl (hs2) (C) (rfl) (hCl) (hc2) ?_;rotate_left;(repeat refine' DD ?_);(refine DJ.nil (fun G2 hG2 hF2=>?_);(case hS|hS2=>rfl));refine vA (za9 (hy.mono hG2) (hvt1.mono hG2) hqq ht) ?_;rintro rc G3 rfl hG3;have hr3:=hr1.mono (hG2.trans hG3);refine uR ?_;by_cases hle:q≤t
   ·have ho:zco q t≤0:=zqE hle;rw[qD hle,if_pos rfl]at hlo;rw[qD hle,if_neg (by decide),qG]at hhi;rw[qD ho];refine uR ?_;refine vI (hr3) (i) (rfl) (hlt) ((by rw[qK,hri];rfl)) ?_;refine uR ?_;refine EVL.app1 tO rfl rfl rfl rfl rfl rfl rfl rfl rfl rfl rfl rfl rfl rfl rfl rfl rfl rfl rfl (fun _=>rfl) (ow1) (ow2) (rfl) (hown1) oM fun _=>?_;intro v' ow' hown';refine uR ?_;refine⟨(i+1,v',_,ow',ow2),⟨rfl,rfl,by rw[wn];rfl,trivial⟩,sB,trivial,sB,rfl,⟨hlt,by unfold za5;rw[hlo];exact hown'.il,by unfold zay;rw[hhi];exact hown2⟩,hG2.trans hG3,by dsimp only;omega⟩
   ·have ho:¬zco q t≤0:=by
     have:=Rat.not_le.1 hle;unfold zco;rw[if_neg (fun k=>absurd (Rat.le_of_lt k) (Rat.not_le.2 this)),if_pos this];omega
    rw[qC hle,if_neg (by decide),qG]at hlo;rw[qC hle,Bool.not_false,if_pos rfl]at hhi;rw[qC ho];refine uR ?_;refine vI (hr3) (i) (rfl) (hlt) ((by rw[qK,hri];rfl)) ?_;refine uR ?_;refine EVL.swapOw ow1 ow2 rfl ?_;refine EVL.app1 tO rfl rfl rfl rfl rfl rfl rfl rfl rfl rfl rfl rfl rfl rfl rfl rfl rfl rfl rfl (fun _=>rfl) (ow2) (ow1) (rfl) (hown2) oM fun _=>?_;intro v' ow' hown';refine EVL.swapOw ow' ow1 rfl ?_;refine uR ?_;refine⟨(i+1,_,v',ow1,ow'),⟨rfl,rfl,by rw[wn];rfl,trivial⟩,sB,trivial,sB,rfl,⟨hlt,by unfold za5;rw[hlo];exact hown1,by unfold zay;rw[hhi];exact hown'.il⟩,hG2.trans hG3,by dsimp only;omega⟩
 ·simp only[nN]at hlt;obtain rfl:i=rs.length:=oM;rw[qa]at hown1 hown2 ⊢;(first|refine EVL.publishL [] ow1 ow2 (rfl) hown1 fun G2 hG2 hs2=>?_|refine EV.publishL [] ow1 ow2 (rfl) hown1 fun G2 hG2 hs2=>?_);(first|refine EVL.publishL [] ow2 [] ((qG _).symm) hown2 fun G3 hG3 hs3=>?_|refine EV.publishL [] ow2 [] ((qG _).symm) hown2 fun G3 hG3 hs3=>?_);refine uR ?_;exact⟨_,_,rfl,hs2.mono hG3,hs3⟩
theorem zkF (size:Nat):∀(vs:List Value) (k:Nat) (pre zs:List Value),(∀v,v∈vs→(zae v).length=size)→pre.length=k*size→zs.length=vs.length*size →
  Instr.fill (fun i=>some (i*size,size)) (pre++zs).toArray ((List.range' k vs.length).zip vs)=some (pre++vs.flatMap zae).toArray
 | [],k,pre,zs,_,_,hz=>by
  obtain rfl:zs=[]:=List.eq_nil_of_length_eq_zero (by simpa using hz);rfl
 | v::vs,k,pre,zs,hv,hp,hz=>by
  have hlen:=hv v (qf ..);rw[qR,Nat.succ_mul]at hz;rw[qR,List.range'_succ,List.zip_cons_cons];unfold Instr.fill;simp only[zgD];rw[if_neg (by simp[hlen];omega)];have:=zfo (zae v) (pre++zs) (k*size) 0 (by rw[qJ,hlen];omega);rw[qY]at this
  have e:((zae v).toArray.zipIdx.foldl (fun (cs:Array Value) (x:Value × Nat)=>match x with | (c,j)=>cs.setIfInBounds (k*size+j) c) (pre++zs).toArray)=((zae v).zipIdx.foldl (fun (c:Array Value) (p:Value × Nat)=>c.setIfInBounds (k*size+p.2) p.1) (pre++zs).toArray):=by
   simp
  rw[e,this,List.take_left' hp,hlen,←hp,←List.drop_drop,List.drop_left,List.flatMap_cons,←qZ];have ih:=zkF size vs (k+1) (pre++zae v) (zs.drop size) (fun u hu=>hv u (qk _ hu)) (by rw[qJ,hp,hlen,Nat.succ_mul]) (by rw[qp];omega);exact ih
def ixB:List (Nat × Operand)→Nat→Nat→Bool
 | [],_,0=>true
 | p::ps,k,n+1=>match Nat.beq p.1 k with
  | true=>ixB ps (k+1) n
  | false=>false
 | _,_,_=>false
theorem zkJ:∀(ps:List (Nat × Operand)) (k n:Nat),ixB ps k n=true→ps.map (·.1)=List.range' k n
 | [],k,0,_=>rfl
 | p::ps,k,n+1,h=>by
  unfold ixB at h;split at h
  ·rename_i e;rw[qw,List.range'_succ,zkJ ps (k+1) n h,qx e]
  ·cases h
 | [],k,n+1,h=>by cases h
 | p::ps,k,0,h=>by cases h
section
variable {P:Program} {n:Nat} {ops:Array Oper} {o:Oper} {rest:List Oper} {env:Env} {bx:Bxs} {sb:Bxs} {ow:Ows} {H:Hs} {Q:EQ} {τ:Tab} {d:Nat} {s:SV}
theorem DJ.litD {tail l:List Oper} {x:Nat→Value} {y:Nat→Ows} {ow':Ows} {kl ks:List DK} {i:Nat} {bx':Bxs} {Γ:zfg} (hτ:zau P τ) {T:TypeId} {len:Nat} {parts:Array (Nat × Operand)} (ho:o.op=.buildSlice T len parts) (hw:zal ops env o=some true) (hd:o.dst=some d) (hn:Nat.blt d n=true) {te te':TE} {e:TypeId} (ht:τ.get T=some te) (hk:te.kind=.slice e) (ht':τ.get e=some te')
  (hsz:Nat.beq te'.zero.length te'.size=true) (hpos:Nat.ble 1 (len*te'.size)=true) (hsm:Nat.ble (len*te'.size) 10000=true) {vs:List Value} (ha:zbu env (parts.toList.map (·.2)) some=some vs) (hix':ixB parts.toList 0 len=true) (hv:∀G,zcT ops i Γ G→∀v,v∈vs→(zae v).length=te'.size)
  {Φ:Value→Hp→Prop} (hm:∀v G G',Φ v G→G.Le G'→Φ v G') (hΦ:∀G G' v,zcT ops i Γ G→G.Le G'→SlC G' v len te'.size (vs.flatMap zae)→Φ v G')
  (h:DJ P n ops tail sb bx H Q x y kl (i+1) l ks ((d,.v (x i))::env) bx' ((i,Φ (x i))::Γ) ow'):DJ P n ops tail sb bx H Q x y kl i (o::l) (.call Φ::ks) env bx' Γ ow':=by
 have hix:parts.toList.map (·.1)=List.range' 0 len:=zkJ _ _ _ hix';have hkd:=(hτ.get ht).kind;rw[hk]at hkd;have hkd':P.underlying T=some (.slice e):=hkd;obtain⟨zv,hinfo,hzc⟩:=(hτ.get ht').info;obtain⟨i0,hi,hz0,hz1,hz2⟩:=info_parts hinfo;have hl:=qx hsz;have hp:=Nat.le_of_ble_eq_true hpos;have hm':=Nat.le_of_ble_eq_true hsm;refine DJ.ofCall (fun β a W G hle hf _ hb _ hs hF=>?_) hd hn hm h;rw[if_pos (hs.want hw)];have hvv:=hv G hF;obtain⟨vs',e1,h2⟩:=zeK ha;cases e1;have h3:=h2 a.eval fun y u hy he=>hs.op (s:=.v u) (by rw[ho];simpa[Op.operands] using hy) he
 have hvl:vs.length=len:=by
  have e1:=congrArg List.length h3;have e2:=congrArg List.length hix;simp at e1 e2;omega
 have hfl:(vs.flatMap zae).length=len*te'.size:=by rw[flat_len zae te'.size vs hvv,hvl]
 have h4:((parts.map fun (i,x)=>(i,a.eval x)):Array (Nat × Value)).toList=(List.range' 0 vs.length).zip vs:=by
  rw[hvl,←hix,←h3,Array.toList_map];generalize parts.toList=l
  induction l with
  | nil=>rfl
  | cons p l ih=>simp only[qw,List.zip_cons_cons,ih]
 have hfill:=zkF te'.size vs 0 [] ((List.replicate len te'.zero).flatten) hvv (by simp) (by rw[List.length_flatten];simp[hl,hvl]);rw[pM,pM,←h4]at hfill
 have hrun:=run_buildSlice (P:=P) W T e len (parts.map fun (i,x)=>(i,a.eval x)) (vs.flatMap zae).toArray i0 zv hkd' hi hz0 (by rw[hz1];omega) (by rw[hz1];omega) (by
  rw[hz1,hzc,zf1 te'.zero te'.size len hl,←hfill])
 have hB:Below W.heap.size W (W.alloc (.cells (vs.flatMap zae).toArray e)):=(Below.refl _ _).alloc (qH _) _;obtain⟨k1,k2,k3⟩:=zpJ hf hB (Box.new W (vs.flatMap zae).toArray e)
 have hr:(execOp a.eval o).run P W=.ok (.value (.slice (some ⟨W.heap.size,0,none⟩) len len)) (W.alloc (.cells (vs.flatMap zae).toArray e)):=by
  unfold execOp;simp only[ho,Sem.run_bind,hrun,Result.andThen_ok,Sem.run_pure]
 unfold Oper.wp;rw[hr,Oper.upon_value];exact⟨_,_,rfl,hΦ G _ _ hF k1 ⟨hfl,.inr ⟨W.heap.size,0,len,(vs.flatMap zae).toArray,rfl,qH _,by simp[Hp.put],fun j x hj=>by rw[qt];simpa using hj⟩⟩,k1,k2,hB,k3⟩
theorem DJ.litD1 {tail l:List Oper} {x:Nat→Value} {y:Nat→Ows} {ow':Ows} {kl ks:List DK} {i:Nat} {bx':Bxs} {Γ:zfg} {Φ:Value→Hp→Prop} (hm:∀v G G',Φ v G→G.Le G'→Φ v G') (hτ:zau P τ) {T:TypeId} {u:Operand} (ho:o.op=.buildSlice T 1 #[(0,u)]) (hw:zal ops env o=some true) (hd:o.dst=some d) (hn:Nat.blt d n=true) {te te':TE} {e:TypeId} (ht:τ.get T=some te) (hk:te.kind=.slice e) (ht':τ.get e=some te')
  (hsz:Nat.beq te'.zero.length te'.size=true) (hpos:Nat.ble 1 (1*te'.size)=true) (hsm:Nat.ble (1*te'.size) 10000=true) {v:Value} (hx:env.op u=some (.v v)) (hv:∀G,zcT ops i Γ G→(zae v).length=te'.size)
  (hΦ:∀G G' w,zcT ops i Γ G→G.Le G'→SlC G' w 1 te'.size ([v].flatMap zae)→Φ w G')
  (h:DJ P n ops tail sb bx H Q x y kl (i+1) l ks ((d,.v (x i))::env) bx' ((i,Φ (x i))::Γ) ow'):DJ P n ops tail sb bx H Q x y kl i (o::l) (.call Φ::ks) env bx' Γ ow' :=
 DJ.litD hτ ho hw hd hn ht hk ht' hsz hpos hsm (vs:=[v]) (by show zbu env [u] some=_;simp[zbu,hx]) rfl (fun G hd w hm=>by rw[pJ.1 hm];exact hv G hd) hm hΦ h
end
theorem RQ.len3 {H:Hp} {x:Value} {q:Rat} (h:RQ H x q):(zae x).length=3:=by
 obtain⟨xa,xl,xc,ya,yl,yc,rfl,hx1,hx2⟩:=h;rfl
theorem RL.one {H:Hp} {v x:Value} {q:Rat} (h:SlC H v 1 3 ([x].flatMap zae)) (hx:RQ H x q):RL H v [q] :=
 ⟨[x],rfl,fun j y r e1 e2=>by
  cases j with
  | zero=>cases e1;cases e2;exact hx
  | succ j=>simp at e1,h⟩
def zgQ (V:List Rat):Nat→List Rat
 | 0=>[]
 | j+1=>zgQ V j++if V.getD j 0<V.getD (j+1) 0 then [(V.getD j 0+V.getD (j+1) 0) / 2] else []
theorem zfX (V:List Rat):∀j,(zgQ V j).length≤j
 | 0=>qH _
 | j+1=>by
  have:=zfX V j;unfold zgQ;rw[qJ];split
  ·rw[qv];omega
  ·rw[List.length_nil];omega
theorem zmX (key:Int→Rat) (m:List Int):∀j,j≤m.length-1→zlC key m j=zgQ (m.map key) j
 | 0,_=>rfl
 | j+1,h=>by
  have g:∀i,i<m.length→(m.map key).getD i 0=key (m.getD i 0):=fun i hi=>by simp[qB,hi]
  unfold zlC zgQ zop;rw[zmX key m j oM,g j oM,g (j+1) (by omega)]
def plQ (X:List (List Rat)) (col:Int) (es:List Int):List Rat:=if es.all (zfp X col)=true then zgQ (zb1 (es.map (zdn X col))) (es.length-1) else []
theorem zo1 {X:List (List Rat)} {col:Int} {es m:List Int} (h:zp3 X col es m):zlC (zdn X col) m (m.length-1)=plQ X col es:=by
 unfold plQ;rcases h with ⟨ha,hp,hr⟩ | ⟨ha,rfl⟩
 ·rw[if_pos ha,zmX _ _ _ (qH _),hp.length_eq,zeF (hp.map _) hr]
 ·rw[if_neg (by rw[ha];decide)];rfl
theorem znY {V:List Rat} {j:Nat} (h:j+1<(zb1 V).length):(zb1 V).getD j 0≤(zb1 V).getD (j+1) 0:=by
 have:=(List.pairwise_iff_getElem.1 (zfe V)) j (j+1) oM h oM;rw[qB,qB,qA oM,qA h];exact this
theorem zjh {H:Hp} {vx vr:Value} {X:List (List Rat)} {rs:List Int} {col:Int} (hX:RLL H vx X) (hr:IL H vr rs) (hn:rs.length≤300) (hq:∀x,x∈X→∀q,q∈x→ht q≤60) :
  PC prog 223 #[vx,vr,.int .i64 col] H fun r H'=>RL H' r (plQ X col (exL rs X.length)):=by
 obtain⟨a,cap,rfl⟩:=SlC.val hr;obtain⟨xa,xc,rfl⟩:=hX.val;refine BD func223 ntmps223 ?_;refine uR ?_;refine EV.loopK (ι:=Nat × List Value × Value × Ows) [0,1,2] [] (fun q=>[(7,.v q.2.2.1),(8,.v (.int .i64 (q.1:Int)))]) (fun _=>[]) (fun q=>q.2.2.2) (fun q G=>q.1≤rs.length∧(exL (rs.take q.1) X.length).all (zfp X col)=true∧RVs G q.2.1 ((exL (rs.take q.1) X.length).map (zdn X col))∧zaA 33 3 q.2.2.1 q.2.1.length (q.2.1.flatMap zae) q.2.2.2) (fun q=>rs.length-q.1) ((0,[],.slice none 0 0,[])) rfl rfl ⟨rfl,rfl,trivial⟩ trivial rfl (fun _=>rfl) (⟨qQ _,rfl,RVs.nil _,zaA.nil _ _⟩) ?_;rintro⟨i,us,w,ow⟩ G2 hG2 ⟨hi,hall,hus,hown⟩;dsimp only at hi hall hus hown;obtain⟨wa,wc,rfl⟩:=hown.val;refine uR ?_;refine EV.cond rfl (fun hlt=>?_) (fun hlt=>?_)
 ·simp only[nN]at hlt;obtain⟨r,hri⟩:=gE hlt;have hex:=zeP (n:=X.length) hri;have hel:=zcj (rs.take i) X.length;rw[qP]at hel;have hul:us.length≤i:=by rw[hus.1,qV];omega
  have wn:IntKind.i64.wrap ((i:Int)+1)=((i+1:Nat):Int):=zac i oM;have hr2:=hr.mono hG2;have hX2:=hX.mono hG2;have hth:=zla hX2 r col;refine uR ?_;refine vI (hr2) (i) (rfl) (hlt) ((by rw[qK,hri];rfl)) ?_;refine uR ?_;by_cases h1:r<0
  ·have hp:inR X.length r=false:=by unfold inR;simp;omega
   rw[hp,if_neg (by decide),qG]at hex;rw[qD h1];refine uR ?_;refine⟨(i+1,us,_,ow),⟨rfl,by rw[wn];rfl,trivial⟩,sB,trivial,trivial,rfl,⟨hlt,by dsimp only;rw[hex];exact hall,by dsimp only;rw[hex];exact hus,hown⟩,Hp.Le.refl _,by dsimp only;omega⟩
  ·obtain⟨R,rfl⟩:=qh (show 0≤r by omega);rw[qC h1];refine uR ?_;refine vI (hr2) (i) (rfl) (hlt) ((by rw[qK,hri];rfl)) ?_;refine uR ?_;by_cases h2:(R:Int)≥(X.length:Int)
   ·have hp:inR X.length (R:Int)=false:=by unfold inR;simp;omega
    rw[hp,if_neg (by decide),qG]at hex;rw[qD h2];refine uR ?_;refine⟨(i+1,us,_,ow),⟨rfl,by rw[wn];rfl,trivial⟩,sB,trivial,trivial,rfl,⟨hlt,by dsimp only;rw[hex];exact hall,by dsimp only;rw[hex];exact hus,hown⟩,Hp.Le.refl _,by dsimp only;omega⟩
   ·have hp:inR X.length (R:Int)=true:=by unfold inR;simp;omega
    rw[hp,Bool.true_and]at hth;rw[hp,if_pos rfl]at hex;rw[qC h2];refine uR ?_;refine vI (hr2) (i) (rfl) (hlt) ((by rw[qK,hri];rfl)) ?_
    repeat (first|refine RUN ?_|refine CV (hth) ?_|refine CE (hth) ?_)
    cases hb:zfp X col (R:Int) with
    | false =>
     have hno:(exL rs X.length).all (zfp X col)=false:=by
      rw[List.all_eq_false];refine⟨(R:Int),?_,by rw[hb];decide⟩;unfold exL;exact List.mem_filter.2 ⟨qF hri,hp⟩
     refine uR ?_;unfold plQ;rw[if_neg (by rw[hno];decide)];exact RL.nil _ _ _
    | true =>
     obtain⟨R',C,x,q,hRR,rfl,hx,hqx⟩:=zmZ (show 0≤(R:Int) by omega) (show (R:Int)<(X.length:Int) by omega) hb;obtain rfl:R=R':=oM;have hk:=zmO (X:=X) rfl rfl hx hqx;have hRl:R<X.length:=oM;have hCl:=(qE.1 hqx).1;obtain⟨vs,hvs,hs⟩:=hX2;obtain⟨a2,c2,hu,hRL⟩:=hvs.at hx;obtain⟨us2,y,hs2,hc2,hy⟩:=hRL.at hqx;obtain⟨xa',xl',xc',ya',yl',yc',rfl,hx1,hx2⟩:=id hy;refine uR ?_;refine vI (hr2) (i) (rfl) (hlt) ((by rw[qK,hri];rfl)) ?_;refine uR ?_;refine vI (hs) (R) (rfl) (hRl) (hu) ?_;refine uR ?_;refine EVL.idxM tO rfl rfl rfl rfl rfl rfl rfl rfl rfl (hs2) (C) (rfl) (hCl) (hc2) ?_;refine uR ?_;refine EVL.app1 tO rfl rfl rfl rfl rfl rfl rfl rfl rfl rfl rfl rfl rfl rfl rfl rfl rfl rfl rfl (fun _=>rfl) (ow) ([]) ((qG _).symm) (hown) oM fun _=>?_;intro v' ow' hown';refine uR ?_;refine⟨(i+1,us++[_],v',ow'),⟨rfl,by rw[wn];rfl,trivial⟩,sB,trivial,trivial,qG _,⟨hlt,by dsimp only;rw[hex,List.all_append,hall];simp[hb],by dsimp only;rw[hex,qn,qw,hk];exact hus.snoc hy,by dsimp only;rw[qJ,List.flatMap_append];exact hown'⟩,Hp.Le.refl _,by dsimp only;omega⟩
 ·simp only[nN]at hlt;obtain rfl:i=rs.length:=oM;rw[qa]at hus hall;have hel:=zcj rs X.length;(first|refine EVL.publishL [] ow [] ((qG _).symm) hown fun G3 hG3 hs3=>?_|refine EV.publishL [] ow [] ((qG _).symm) hown fun G3 hG3 hs3=>?_);have hus3:=hus.mono hG3
  have hRL:RL G3 (.slice wa us.length wc) ((exL rs X.length).map (zdn X col)):=by
   rw[hus3.1]at hs3 ⊢;exact hus3.rl hs3
  have hpl:plQ X col (exL rs X.length)=zgQ (zb1 ((exL rs X.length).map (zdn X col))) ((exL rs X.length).length-1):=by unfold plQ;rw[if_pos hall]
  rw[hpl]
  have hkb:∀q,q∈(exL rs X.length).map (zdn X col)→ht q≤60:=fun q hm=>by
   obtain⟨r,_,rfl⟩:=List.mem_map.1 hm;exact zfP hq col r
  have hvl:((exL rs X.length).map (zdn X col)).length=(exL rs X.length).length:=qV ..;rw[←hvl];generalize (exL rs X.length).map (zdn X col)=vals at *
  have hsl:(zb1 vals).length=vals.length:=(zbT vals).length_eq;have hsb:∀q,q∈zb1 vals→ht q≤60:=fun q hm=>hkb q ((zbT vals).mem_iff.1 hm);have hris:=fun (j:Nat) (h:j+1<(zb1 vals).length)=>znY h;refine uR ?_;refine EVL.call rfl rfl rfl rfl rfl (zhp hRL oM (fun q hm=>qI (hkb q hm) oM)) ?_;intro r5 G4 hV hG4;rw[←hsl];generalize zb1 vals=V at *
  obtain⟨va,vc,rfl⟩:=hV.val
  have h2h:ht ((2:Int):Rat)≤10:=by
   have:=zdh 2;have h2:bl (2:Int).natAbs≤5:=zaU (by decide);omega
  have hrq:∀q,ht q≤300→rq q:=fun q h=>qI h oM;refine uR ?_;refine EV.loopK (ι:=Nat × List Value × Value × Ows) [7] [] (fun q=>[(9,.v q.2.2.1),(10,.v (.int .i64 ((q.1+1:Nat):Int)))]) (fun _=>[]) (fun q=>q.2.2.2) (fun q G=>q.1≤V.length-1∧RVs G q.2.1 (zgQ V q.1)∧zaA 33 3 q.2.2.1 q.2.1.length (q.2.1.flatMap zae) q.2.2.2) (fun q=>V.length-q.1) ((0,[],.slice none 0 0,[])) rfl rfl ⟨rfl,rfl,trivial⟩ trivial rfl (fun _=>rfl) (⟨qQ _,RVs.nil _,zaA.nil _ _⟩) ?_;rintro⟨j,ps,u,ow2⟩ G5 hG5 ⟨hj,hps,hown2⟩;dsimp only at hj hps hown2;obtain⟨ua,uc,rfl⟩:=hown2.val;refine uR ?_;refine EV.cond rfl (fun hlj=>?_) (fun hlj=>?_)
  ·simp only[nN]at hlj;have hjl:j<V.length:=oM;have ha:V[j]?=some (V.getD j 0):=by rw[qB,qA hjl];rfl
   have hb:V[j+1]?=some (V.getD (j+1) 0):=by rw[qB,qA hlj];rfl
   have hle:=hris j hlj;have hah:=hsb _ (qF ha);have hbh:=hsb _ (qF hb);have hgs:zgQ V (j+1)=zgQ V j++if V.getD j 0<V.getD (j+1) 0 then [(V.getD j 0+V.getD (j+1) 0) / 2] else []:=rfl
   have hpl:=hps.1;have hgl:=zfX V j;generalize V.getD j 0=p at *
   generalize V.getD (j+1) 0=q at *
   have hab:=zdV p q;have wj:IntKind.i64.wrap (((j+1:Nat):Int)-1)=(j:Int):=by rw[pK];omega
   have wn:IntKind.i64.wrap (((j+1:Nat):Int)+1)=((j+1+1:Nat):Int):=zac (j+1) oM;obtain⟨vs1,y1,hs1,hc1,hy1⟩:=(hV.mono hG5).at ha;obtain⟨vs2,y2,hs2,hc2,hy2⟩:=(hV.mono hG5).at hb;obtain⟨xa1,xl1,xc1,ya1,yl1,yc1,rfl,hx11,hx12⟩:=id hy1;obtain⟨xa2,xl2,xc2,ya2,yl2,yc2,rfl,hx21,hx22⟩:=id hy2;refine uR ?_;apply EV.drawn 9 kR kR;intro xv yw;(repeat refine' DD ?_);refine' DJ.idxM tO rfl rfl rfl rfl rfl rfl rfl rfl rfl (hs1) (j) (wj) (hjl) (hc1) ?_;rotate_left;(repeat refine' DD ?_);refine' DJ.idxM tO rfl rfl rfl rfl rfl rfl rfl rfl rfl (hs2) (j+1) (rfl) (hlj) (hc2) ?_;rotate_left;(repeat refine' DD ?_);(refine DJ.nil (fun G6 hG6 hF6=>?_);(case hS|hS2=>rfl));refine EVL.call rfl rfl rfl rfl rfl (za9 (hy1.mono hG6) (hy2.mono hG6) (hrq _ oM) (hrq _ oM)) ?_;rintro rc G7 rfl hG7;by_cases hlt3:p<q
   ·rw[if_pos hlt3]at hgs
    have ho:(zco p q != 0)=true:=by
     unfold zco;rw[if_pos hlt3];rfl
    refine uR ?_;rw[ho];refine uR ?_;apply EV.drawn 14 kR kR;intro xv yw;(repeat refine' DD ?_);refine' DJ.idxM tO rfl rfl rfl rfl rfl rfl rfl rfl rfl ((hs1.mono (hG6.trans hG7))) (j) (wj) (hjl) (hc1) ?_;rotate_left;(repeat refine' DD ?_);refine' DJ.idxM tO rfl rfl rfl rfl rfl rfl rfl rfl rfl ((hs2.mono (hG6.trans hG7))) (j+1) (rfl) (hlj) (hc2) ?_;rotate_left;(repeat refine' DD ?_);refine' vB (cO func103) (fun G hG hd=>zb0 (hy1.mono ((hG6.trans hG7).trans hG)) (hy2.mono ((hG6.trans hG7).trans hG)) (hrq _ oM) (hrq _ oM)) (fun _ _ _ h k=>RQ.mono h k) ?_;rotate_left;refine' vB (cO func13) (fun G hG hd=>zaF 2 (by decide) (by decide)) (fun _ _ _ h k=>RQ.mono h k) ?_;rotate_left;refine' vB (cO func12) (fun G hG hd=>zeX (hd.tail.head kR) (hd.head kR) (hrq _ oM) (hrq _ oM) (by decide)) (fun _ _ _ h k=>RQ.mono h k) ?_;rotate_left;(refine' DJ.litD1 (Φ:=fun w G=>RL G w [(p+q) / ((2:Int):Rat)]) (fun _ _ _ h k=>h.mono k) tO rfl rfl rfl rfl rfl rfl rfl rfl rfl rfl rfl (fun G hd=>RQ.len3 (hd.head kR)) (fun G G' w hd hG h=>RL.one h ((hd.head kR).mono hG)) ?_;rotate_left);(refine DJ.nil (fun G8 hG8 hF8=>?_);(case hS|hS2=>rfl));obtain⟨vs3,hl3,hv3,hs3'⟩:=hF8.1
    obtain⟨y3,rfl⟩:∃y,vs3=[y]:=by
     match vs3,hl3 with
     | [y],_=>exact⟨y,rfl⟩
    have hy3:=hv3 0 y3 _ rfl rfl;obtain⟨xa3,xl3,xc3,ya3,yl3,yc3,rfl,hx31,hx32⟩:=id hy3;refine EVL.append tO rfl rfl rfl rfl rfl rfl rfl rfl rfl rfl rfl rfl [] ow2 [] (qG _).symm hown2 (zb2.ro hs3' (Nat.succ_pos 0)) rfl (by simp;omega) ?_;intro v1 ow1 hown1;refine uR ?_;refine⟨(j+1,ps++[_],v1,ow1),⟨rfl,by rw[wn];rfl,trivial⟩,sB,trivial,trivial,qG _,⟨by dsimp only;omega,by dsimp only;rw[hgs];exact(hps.mono (hG6.trans (hG7.trans hG8))).snoc hy3,by dsimp only;rw[qJ,List.flatMap_append];exact hown1⟩,hG6.trans (hG7.trans hG8),by dsimp only;omega⟩
   ·rw[if_neg hlt3,qG]at hgs;have hpq:p=q:=Rat.le_antisymm hle (Rat.not_lt.1 hlt3)
    have ho:(zco p q != 0)=false:=by
     rw[hpq,zi5];rfl
    refine uR ?_;rw[ho];refine uR ?_;refine⟨(j+1,ps,_,ow2),⟨rfl,by rw[wn];rfl,trivial⟩,sB,trivial,trivial,rfl,⟨by dsimp only;omega,by dsimp only;rw[hgs];exact hps.mono (hG6.trans hG7),hown2⟩,hG6.trans hG7,by dsimp only;omega⟩
  ·simp only[nN]at hlj;obtain rfl:j=V.length-1:=oM;(first|refine EVL.publishL [] ow2 [] ((qG _).symm) hown2 fun G6 hG6 hs6=>?_|refine EV.publishL [] ow2 [] ((qG _).symm) hown2 fun G6 hG6 hs6=>?_);have hps6:=hps.mono hG6;refine uR ?_;show RL G6 (.slice ua ps.length uc) _;rw[hps6.1]at hs6 ⊢;exact hps6.rl hs6
end
section
def zbG (X:List (List Rat)) (cost:List Int→Rat) (es:List Int) (L c:Int) (ts:List Rat):List (Int × Rat × Rat) :=
 ts.flatMap fun t=>if L≤((za5 X c t es).length:Int)∧L≤((zay X c t es).length:Int) then [(c,t,cost es-(cost (za5 X c t es)+cost (zay X c t es)))] else []
def zaD (X:List (List Rat)) (cost:List Int→Rat) (es:List Int) (L:Int) (cols:List Int):List (Int × Rat × Rat):=cols.flatMap fun c=>zbG X cost es L c (plQ X c es)
theorem znZ (key:Int→Rat) (es:List Int):∃m,m.Perm es∧zsu key m:=by
 refine⟨es.mergeSort fun a b=>decide (key a≤key b),List.mergeSort_perm _ _,?_⟩;have:=List.pairwise_mergeSort (le:=fun a b:Int=>decide (key a≤key b)) (fun a b c h1 h2=>by simp at h1 h2 ⊢;exact Rat.le_trans h1 h2) (fun a b=>by simp;exact Rat.le_total) es;exact List.pairwise_map.2 (this.imp fun h=>by simpa using h)
theorem zdF (l:List (Int × Rat × Rat)):ziq l (l.foldl zgm none):=by
 have key:∀(qs pre:List (Int × Rat × Rat)) (st:Option (Int × Rat × Rat)),ziq pre st→ziq (pre++qs) (qs.foldl zgm st):=by
  intro qs
  induction qs with
  | nil=>intro pre st h;rw[qG];exact h
  | cons p qs ih =>
   intro pre st h;rw[show pre++p::qs=(pre++[p])++qs by simp];exact ih _ _ (zlz h p)
 have:=key l [] none rfl;simpa using this
end
section
structure Nd where
 col:Int
 left:Int
 right:Int
 rows:Int
 cls:Int
 at':Rat
 cost:Rat
 value:Rat
 counts:List Int
structure GP where
 X:List (List Rat)
 cost:List Int→Rat
 mean:List Int→Rat
 cnt:List Int→List Int
 least:Int
 gain:Rat
 cols:Int→List Int × Int
def GP.nd (p:GP) (rows:List Int):Nd:=⟨-1,0,0,(rows.length:Int),(zeI (p.cnt rows) (p.cnt rows).length:Int),0,p.cost rows,p.mean rows,p.cnt rows⟩
def GP.best (p:GP) (rows cols:List Int):Option (Int × Rat × Rat):=(zaD p.X p.cost rows (max 1 p.least) cols).foldl zgm none
def GP.cut (p:GP) (rows cols:List Int):Option (Int × Rat):=match p.best rows cols with
 | some (c,t,g)=>if g≤p.gain then none else some (c,t)
 | none=>none
def GP.grow (p:GP):Nat→Nat→List Int→Int→List Nd × Int
 | 0,_,rows,s=>([p.nd rows],s)
 | d+1,k,rows,s=>match p.cut rows (p.cols s).1 with
  | none=>([p.nd rows],(p.cols s).2)
  | some (c,t) =>
   let L:=p.grow d (k+1) (za5 p.X c t rows) (p.cols s).2
   let R:=p.grow d (k+1+L.1.length) (zay p.X c t rows) L.2
   ({p.nd rows with col:=c,left:=((k+1:Nat):Int),right:=((k+1+L.1.length:Nat):Int),at':=t}::(L.1++R.1),R.2)
theorem GP.grow_zero (p:GP) (k:Nat) (rows:List Int) (s:Int):p.grow 0 k rows s=([p.nd rows],s):=rfl
theorem GP.grow_none {p:GP} {d k:Nat} {rows:List Int} {s:Int} (h:p.cut rows (p.cols s).1=none):p.grow (d+1) k rows s=([p.nd rows],(p.cols s).2):=by
 rw[GP.grow,h]
theorem GP.grow_some {p:GP} {d k:Nat} {rows:List Int} {s:Int} {c:Int} {t:Rat} (h:p.cut rows (p.cols s).1=some (c,t)):p.grow (d+1) k rows s =
  ({p.nd rows with col:=c,left:=((k+1:Nat):Int),right:=((k+1+(p.grow d (k+1) (za5 p.X c t rows) (p.cols s).2).1.length:Nat):Int),at':=t}::((p.grow d (k+1) (za5 p.X c t rows) (p.cols s).2).1++(p.grow d (k+1+(p.grow d (k+1) (za5 p.X c t rows) (p.cols s).2).1.length) (zay p.X c t rows) (p.grow d (k+1) (za5 p.X c t rows) (p.cols s).2).2).1),(p.grow d (k+1+(p.grow d (k+1) (za5 p.X c t rows) (p.cols s).2).1.length) (zay p.X c t rows) (p.grow d (k+1) (za5 p.X c t rows) (p.cols s).2).2).2):=by
 rw[GP.grow,h]
theorem GP.grow_len (p:GP):∀(d k:Nat) (rows:List Int) (s:Int),1≤(p.grow d k rows s).1.length∧(p.grow d k rows s).1.length<2 ^ (d+1)
 | 0,k,rows,s=>by rw[GP.grow_zero];simp
 | d+1,k,rows,s=>by
  have hp:1<2 ^ (d+2):=Nat.one_lt_two_pow oM
  cases h:p.cut rows (p.cols s).1 with
  | none=>rw[GP.grow_none h];exact⟨qH _,hp⟩
  | some ct =>
   obtain⟨c,t⟩:=ct;rw[GP.grow_some h];have h1:=p.grow_len d (k+1) (za5 p.X c t rows) (p.cols s).2;have h2:=p.grow_len d (k+1+(p.grow d (k+1) (za5 p.X c t rows) (p.cols s).2).1.length) (zay p.X c t rows) (p.grow d (k+1) (za5 p.X c t rows) (p.cols s).2).2;simp only[qR,qJ];have h3:2 ^ (d+1+1)=2 ^ (d+1)+2 ^ (d+1):=by rw[qX];omega
   omega
end
section
open Go.RowKit _root_.Go.Proofs.Tryz
section
variable {P:Program} {n:Nat} {ops:Array Oper} {tail:List Oper} {sb bx:Bxs} {H:Hs} {Q:EQ} {x:Nat→Value} {y:Nat→Ows} {ow':Ows} {kl:List DK} {i:Nat} {o:Oper} {l:List Oper} {ks:List DK} {env:Env} {bx':Bxs} {Γ:zfg} {τ:Tab} {d:Nat}
theorem DJ.plainE (hτ:zau P τ) (Φ:Value→Hp→Prop) (hm:∀v G G',Φ v G→G.Le G'→Φ v G') (hw:zal ops env o=some true) (hd:o.dst=some d) (hn:Nat.blt d n=true) (hv:∀G,zcT ops i Γ G→∃v,zoq τ env bx o.op=some (.v v)∧Φ v G)
  (h:DJ P n ops tail sb bx H Q x y kl (i+1) l ks ((d,.v (x i))::env) bx' ((i,Φ (x i))::Γ) ow'):DJ P n ops tail sb bx H Q x y kl i (o::l) (.call Φ::ks) env bx' Γ ow' :=
 DJ.ofCall (fun β a W G _ hf _ hb _ hs hF=>by
  obtain⟨v,hv,hΦ⟩:=hv G hF;obtain⟨u,hu,hr⟩:=zcf hτ hv (fun y s hm hy=>hs.op hm hy) hb hf;rw[if_pos (hs.want hw)];unfold Oper.wp;rw[hu,Oper.upon_value];have e:u=v:=hr;subst e;exact⟨u,G,rfl,hΦ,Hp.Le.refl G,hf,Below.refl _ _,Nw.refl _ _ _⟩) hd hn hm h
end
section
variable {n:Nat} {ops:Array Oper} {fuel:Nat} {L:Array Bool} {env:Env} {bx:Bxs} {H:Hs} {K:Env→Bxs→Hs→Prop} {d:Nat} {o:Oper} {v:Value}
end
section
variable {P:Program} {n:Nat} {ops:Array Oper} {o:Oper} {rest:List Oper} {env:Env} {bx:Bxs} {H:Hs} {Q:EQ} {d:Nat}
theorem EVL.neqnil {T T' e:TypeId} {x:Operand} {q:Option Addr} (hT:P.underlying T=some (.pointer e)) (ho:o.op=.binOp .neq T x (.const (.pointer none)) T') (hw:zal ops env o=some true) (hd:o.dst=some d) (hn:Nat.blt d n=true)
  (hx:env.op x=some (.v (.pointer q))) (h:EVL P n ops rest ((d,.v (.bool q.isSome))::env) bx H Q):EVL P n ops (o::rest) env bx H Q :=
 EVL.gen hw hd hn (fun ev W he=>by
  have ex:=he x _ (by simp[ho,Op.operands]) hx;have ey:=he (.const (.pointer none)) _ (by simp[ho,Op.operands]) rfl
  have hq:(Op.equalIn (9999+1) T (.pointer q) (.pointer none)).run P W=.ok (!q.isSome) W:=by
   unfold Op.equalIn;cases q <;> simp[run_underlying hT]
  have hm:Op.maxDepth=9999+1:=rfl;unfold execOp;simp[ho,ex,ey,eqGuard,binOp,Op.equal,hm,hq]) h
end
theorem zpc {A c B:List Value} {k s f:Nat} (hA:A.length=k*s) (hf:f≤c.length):(A++(c++B)).take (k*s+f)=A++c.take f:=by
 rw[List.take_append,qO oM,hA,Nat.add_sub_cancel_left,List.take_append_of_le_length hf]
theorem zpb {A c B:List Value} {k s f:Nat} (hA:A.length=k*s) (hf:f≤c.length):(A++(c++B)).drop (k*s+f)=c.drop f++B:=by
 rw[List.drop_append,List.drop_eq_nil_of_le oM,hA,Nat.add_sub_cancel_left,List.drop_append_of_le_length hf,pM]
theorem zc9 {A c B vs c':List Value} {k s f m q:Nat} (hA:A.length=k*s) (hq:q=k*s+f) (hm:vs.length=m) (hf:f+m≤c.length) (hc:c.take f++vs++c.drop (f+m)=c'):(A++(c++B)).take q++vs++(A++(c++B)).drop (q+m)=A++(c'++B):=by
 subst hq;rw[zpc hA oM,Nat.add_assoc,zpb hA hf,←hc];simp only[qZ]
theorem zo8 {cl:Int} {sv:Value} {la:Option Addr} {ln lc:Nat} {va:Option Addr} {vn vc:Nat}:PV prog 179 #[zbv 1 cl (.slice la ln lc) (.slice va vn vc)] (.int .i64 (ln:Int)):=by
 refine PV.of_pc ?_;refine BD func179 ntmps179 ?_;refine uR ?_;rfl
theorem zo9 {cl:Int} {la:Option Addr} {ln lc:Nat} {va:Option Addr} {vn vc:Nat}:PV prog 179 #[zbv 2 cl (.slice la ln lc) (.slice va vn vc)] (.int .i64 (vn:Int)):=by
 refine PV.of_pc ?_;refine BD func179 ntmps179 ?_;refine uR ?_;rfl
theorem zl5 {H:Hp} {la:Option Addr} {lc:Nat} {va:Option Addr} {vn vc:Nat} (h0:1≤vn) (h1:vn≤300):PC prog 180 #[zbv 2 0 (.slice la 0 lc) (.slice va vn vc)] H fun r _=>r=.int .i64 0:=by
 refine BD func180 ntmps180 ?_;refine uR ?_;rw[qC (show ¬(vn:Int)<1 by omega)];refine uR ?_;rw[qC (show ¬(vn:Int)>300 by omega)];refine uR ?_;rfl
theorem zl4 {H:Hp} {la:Option Addr} {lc:Nat} {ls:List Int} (hv:IL H (.slice la ls.length lc) ls) {va:Option Addr} {vc:Nat} {cl:Int} (hc:1≤cl∧cl≤12) (h0:1≤ls.length) (h1:ls.length≤300) (hls:∀z,z∈ls→0≤z∧z<cl):PC prog 180 #[zbv 1 cl (.slice la ls.length lc) (.slice va 0 vc)] H fun r _=>r=.int .i64 0:=by
 refine BD func180 ntmps180 ?_;refine uR ?_;rw[qC (show ¬(ls.length:Int)<1 by omega)];refine uR ?_;rw[qC (show ¬(ls.length:Int)>300 by omega)];refine uR ?_;rw[qC (show ¬cl<1 by omega)];refine uR ?_;rw[qC (show ¬cl>12 by omega)];refine uR ?_;refine EV.loopK (ι:=Nat) [1,3] [1] (fun i=>[(4,.v (.int .i64 (i:Int)))]) (fun _=>[]) (fun _=>[]) (fun i _=>i≤ls.length) (fun i=>ls.length-i) (0) rfl rfl ⟨rfl,trivial⟩ trivial rfl (fun _=>rfl) (qQ _) ?_;rintro i G1 hG1 hi;refine uR ?_;refine EV.cond rfl (fun hlt=>?_) (fun hlt=>?_)
 ·simp only[nN]at hlt;obtain⟨z,hz⟩:=gE hlt;have hb:=hls z (qF hz);have hv1:=hv.mono hG1;refine uR ?_;apply EV.drawn 15 kR kR;intro xv yw;(repeat refine' DD ?_);refine' vJ (hv1) (i) (rfl) (hlt) ((by rw[qK,hz];rfl)) ?_;rotate_left;(repeat refine' DD ?_);rw[qC (show ¬z<0 by omega)];(repeat refine' DD ?_);refine' vJ (hv1) (i) (rfl) (hlt) ((by rw[qK,hz];rfl)) ?_;rotate_left;(repeat refine' DD ?_);(refine DJ.nil (fun G2 hG2 hF2=>?_);(case hS|hS2=>rfl));refine uR ?_;rw[qC (show ¬z≥cl by omega)];refine uR ?_;refine⟨i+1,⟨by rw[zac i (by omega)];rfl,trivial⟩,sB,trivial,sB,rfl,hlt,hG2,by omega⟩
 ·try refine uR ?_
  rfl
abbrev zl6:List Value:=[.int .i64 0,.bool false,.slice none 0 0,.slice none 0 0,.bool false,.slice none 0 0,.slice none 0 0]
theorem zlA {H:Hp}:PC prog 224 #[.agg zl6.toArray] H fun r H'=>RQ H' r 0:=by
 refine BD func224 ntmps224 ?_;refine uR ?_;refine vA (zaF 0 (by decide) (by decide)) ?_;intro r2 G2 hq hG2;obtain⟨xa,xl,xc,ya,yl,yc,rfl,hx1,hx2⟩:=id hq;refine uR ?_;exact hq
theorem zlB {H:Hp} {c:Int} {b1:Bool} {s1 s2:Option Addr} {n1 c1 n2 c2:Nat} {y:Value} {g:Rat} (hy:RQ H y g):PC prog 224 #[.agg (.int .i64 c::([.bool b1,.slice s1 n1 c1,.slice s2 n2 c2]++zae y)).toArray] H fun r H'=>RQ H' r g:=by
 obtain⟨xa,xl,xc,ya,yl,yc,rfl,hx1,hx2⟩:=id hy;have hl:yl=(dig B32 g.den).length:=SlN.cap hx2;have hne:yl≠0:=fun e=>g.den_nz (zaI zad oM);refine BD func224 ntmps224 ?_;refine uR ?_;rw[show ((yl:Int) == 0)=false from pP.2 (by omega)];refine uR ?_;exact hy
def zdR (H:Hp) (cs:List Value) (n:Nd):Prop:=∃xa xc xv xs,RQ H xa n.at'∧RQ H xc n.cost∧RQ H xv n.value∧IL H xs n.counts ∧
 cs=[.int .i64 n.col,.int .i64 n.left,.int .i64 n.right,.int .i64 n.rows,.int .i64 n.cls]++(zae xa++(zae xc++(zae xv++[xs])))
theorem zdR.mono {H G:Hp} {cs:List Value} {n:Nd} (h:zdR H cs n) (k:H.Le G):zdR G cs n:=by
 obtain⟨xa,xc,xv,xs,h1,h2,h3,h4,e⟩:=h;exact⟨xa,xc,xv,xs,h1.mono k,h2.mono k,h3.mono k,h4.mono k,e⟩
theorem zdR.cells {H:Hp} {cs:List Value} {n:Nd} (h:zdR H cs n):∃b1 a1 l1 c1 a2 l2 c2 b3 a3 l3 c3 a4 l4 c4 b5 a5 l5 c5 a6 l6 c6 a7 c7,
  cs=[.int .i64 n.col,.int .i64 n.left,.int .i64 n.right,.int .i64 n.rows,.int .i64 n.cls,.bool b1,.slice a1 l1 c1,.slice a2 l2 c2,.bool b3,.slice a3 l3 c3,.slice a4 l4 c4,.bool b5,.slice a5 l5 c5,.slice a6 l6 c6,.slice a7 n.counts.length c7] ∧
  RQ H (.agg #[.bool b1,.slice a1 l1 c1,.slice a2 l2 c2]) n.at'∧RQ H (.agg #[.bool b3,.slice a3 l3 c3,.slice a4 l4 c4]) n.cost∧RQ H (.agg #[.bool b5,.slice a5 l5 c5,.slice a6 l6 c6]) n.value∧IL H (.slice a7 n.counts.length c7) n.counts:=by
 obtain⟨xa,xc,xv,xs,h1,h2,h3,h4,e⟩:=h;obtain⟨a1,l1,c1,a2,l2,c2,rfl,_⟩:=id h1;obtain⟨a3,l3,c3,a4,l4,c4,rfl,_⟩:=id h2;obtain⟨a5,l5,c5,a6,l6,c6,rfl,_⟩:=id h3;obtain⟨a7,c7,rfl⟩:=SlC.val h4;exact⟨_,_,_,_,_,_,_,_,_,_,_,_,_,_,_,_,_,_,_,_,_,_,_,e,h1,h2,h3,h4⟩
structure zjB (H:Hp) (g:Value) (kd:Int) (N:Nat) (cs mn:List Int→Rat) (cnt:List Int→List Int):Prop where
 counts:kd=1→∀G,H.Le G→∀u l,IL G u l→l.length≤300→PC prog 220 #[g,u] G fun r H'=>IL H' r (cnt (exL l N))
 no:kd≠1→∀l,cnt l=[]
 zero:kd=1→∀l,mn l=0
 cntlen:∀l,(cnt l).length≤12
 mean:∀G,H.Le G→∀u l,IL G u l→l.length≤300→PC prog 221 #[g,u] G fun r H'=>RQ H' r (mn (exL l N))
 msmall:∀l:List Int,l.length≤300→(∀r,r∈l→0≤r∧r<(N:Int))→ht (mn l)≤2000000
 cost:∀G,H.Le G→∀u l,IL G u l→l.length≤300→PC prog 219 #[g,u] G fun r H'=>RQ H' r (cs (exL l N))
 small:∀l:List Int,l.length≤300→(∀r,r∈l→0≤r∧r<(N:Int))→ht (cs l)≤2000000
 check:∀G,H.Le G→PC prog 180 #[g] G fun r _=>r=.int .i64 0
 len:PV prog 179 #[g] (.int .i64 (N:Int))
theorem zjB.mono {H H':Hp} {g:Value} {kd:Int} {N:Nat} {cs mn:List Int→Rat} {cnt:List Int→List Int} (h:zjB H g kd N cs mn cnt) (k:H.Le H'):zjB H' g kd N cs mn cnt :=
 ⟨fun e G hG=>h.counts e G (k.trans hG),h.no,h.zero,h.cntlen,fun G hG=>h.mean G (k.trans hG),h.msmall,fun G hG=>h.cost G (k.trans hG),h.small,fun G hG=>h.check G (k.trans hG),h.len⟩
abbrev zdS (kd cl:Int) (sl sv vx:Value) (deep least:Int) (g1 g2 g3 dv:Value) (sm:Int) (out:Value):List Value:=[.int .i64 kd,.int .i64 cl,sl,sv,vx,.int .i64 deep,.int .i64 least,g1,g2,g3,dv,.int .i64 sm,out]
abbrev zsc (n:Nat) (x1 x2 x3:Value):Value:=.agg (([.int .i64 (-1),.int .i64 0,.int .i64 0,.int .i64 (n:Int),.int .i64 0]:List Value)++(zae x1++(zae x2++(zae x3++([.slice none 0 0]:List Value))))).toArray
theorem zpa {H:Hp} {b:Nat} {T:TypeId} {kd cl deep least sm:Int} {la va xa:Option Addr} {ln lc vn vc xn xc:Nat} {g1 g2 g3 dv out vr:Value} {N:Nat} {p:GP} (hg:zjB H (zbv kd cl (.slice la ln lc) (.slice va vn vc)) kd N p.cost p.mean p.cnt) {rows:List Int} (hr:IL H vr rows) (hn:rows.length≤300) (hb:∀r,r∈rows→0≤r∧r<(N:Int)) :
  PW prog 181 #[.pointer (some ⟨b,0,none⟩),vr] H [(b,T,zdS kd cl (.slice la ln lc) (.slice va vn vc) (.slice xa xn xc) deep least g1 g2 g3 dv sm out)] fun v ow H'=>ow=[(b,T,zdS kd cl (.slice la ln lc) (.slice va vn vc) (.slice xa xn xc) deep least g1 g2 g3 dv sm out)]∧∃cs,v=.agg cs.toArray∧zdR H' cs (p.nd rows):=by
 obtain⟨ra,rc,rfl⟩:=SlC.val hr;have hex:=zfV hb;have hcost:=fun (G:Hp) (hG:H.Le G)=>hg.cost G hG _ _ (hr.mono hG) hn;have hmean:=fun (G:Hp) (hG:H.Le G)=>hg.mean G hG _ _ (hr.mono hG) hn;have hcnt:=fun e (G:Hp) (hG:H.Le G)=>hg.counts e G hG _ _ (hr.mono hG) hn;rw[hex]at hcost hmean hcnt;have hcl:=hg.cntlen rows;refine PW.body tO func181 rfl kR ntmps181 rfl rfl ?_;refine uR ?_;apply EV.drawn 12 kR kR;intro xv yw;(repeat refine' DD ?_);refine' vB (cO func13) (fun G hG hd=>zaF 0 oM oM) (fun _ _ _ h k=>RQ.mono h k) ?_;rotate_left;(repeat (first|refine' DD ?_|refine' vN ?_|refine' vF ?_));refine' DJ.ofVal (zab.loadOwn tO rfl rfl rfl rfl (0) rfl (rfl) rfl rfl) rfl rfl rfl ?_;rotate_left;(repeat refine' DD ?_);refine' vB (cO func219) (fun G hG hd=>hcost G hG) (fun _ _ _ h k=>RQ.mono h k) ?_;rotate_left;refine' vB (cO func13) (fun G hG hd=>zaF 0 oM oM) (fun _ _ _ h k=>RQ.mono h k) ?_;rotate_left
 (refine' DJ.plainE tO (fun v G=>∃x1 x2 x3,RQ G x1 ((0:Int):Rat)∧RQ G x2 (p.cost rows)∧RQ G x3 ((0:Int):Rat)∧v=zsc rows.length x1 x2 x3) (fun v G G' ⟨x1,x2,x3,h1,h2,h3,e⟩ k=>⟨x1,x2,x3,h1.mono k,h2.mono k,h3.mono k,e⟩) rfl rfl rfl (fun G hd=>(by
  obtain⟨a1,l1,c1,a2,l2,c2,e1,h1⟩:=hd.tail.tail.head kR;obtain⟨a3,l3,c3,a4,l4,c4,e2,h2⟩:=hd.tail.head kR;obtain⟨a5,l5,c5,a6,l6,c6,e3,h3⟩:=hd.head kR;refine⟨_,?_,_,_,_,⟨a1,l1,c1,a2,l2,c2,rfl,h1⟩,⟨a3,l3,c3,a4,l4,c4,rfl,h2⟩,⟨a5,l5,c5,a6,l6,c6,rfl,h3⟩,rfl⟩;rw[e1,e2,e3];rfl)) ?_;rotate_left)
 (repeat refine' DD ?_);(refine DJ.nil (fun G hG hF=>?_);(case hS|hS2=>rfl));obtain⟨⟨x1,x2,x3,h1,h2,h3,e⟩,_⟩:=hF;obtain⟨a1,l1,c1,a2,l2,c2,rfl,_⟩:=id h1;obtain⟨a3,l3,c3,a4,l4,c4,rfl,_⟩:=id h2;obtain⟨a5,l5,c5,a6,l6,c6,rfl,_⟩:=id h3;replace e:_=Value.agg #[.int .i64 (-1),.int .i64 0,.int .i64 0,.int .i64 (rows.length:Int),.int .i64 0,.bool (decide (((0:Int):Rat).num<0)),.slice a1 l1 c1,.slice a2 l2 c2,.bool (decide ((p.cost rows).num<0)),.slice a3 l3 c3,.slice a4 l4 c4,.bool (decide (((0:Int):Rat).num<0)),.slice a5 l5 c5,.slice a6 l6 c6,.slice none 0 0]:=e;rw[e];refine uR ?_;refine RP ?_;refine EVL.loadOwn tO rfl rfl rfl rfl rfl rfl (0) rfl (rfl) rfl rfl ?_;refine uR ?_;by_cases hk:kd=1
 ·subst hk;refine uR ?_;refine RP ?_;refine EVL.loadOwn tO rfl rfl rfl rfl rfl rfl (0) rfl (rfl) rfl rfl ?_;refine uR ?_;refine vA (hcnt rfl _ hG) ?_;intro r5 G5 hr5 hG5;obtain⟨a7,c7,rfl⟩:=SlC.val hr5;refine uR ?_;refine EVL.call rfl rfl rfl rfl rfl (znE hr5 oM) ?_;rintro _ G6 rfl hG6;refine uR ?_;refine⟨rfl,_,rfl,_,_,.agg #[_,.slice a5 l5 c5,.slice a6 l6 c6],_,h1.mono (hG5.trans hG6),h2.mono (hG5.trans hG6),?_,hr5.mono hG6,rfl⟩;rw[show (p.nd rows).value=p.mean rows from rfl,hg.zero rfl];exact h3.mono (hG5.trans hG6)
 ·rw[show (kd == 1)=false from pP.2 hk];have hno:=hg.no hk rows;refine uR ?_;refine RP ?_;refine EVL.loadOwn tO rfl rfl rfl rfl rfl rfl (0) rfl (rfl) rfl rfl ?_;refine uR ?_;refine vA (hmean _ hG) ?_;intro r5 G5 hr5 hG5;obtain⟨a8,l8,c8,a9,l9,c9,rfl,_⟩:=id hr5;refine uR ?_;refine⟨rfl,_,rfl,.agg #[_,.slice a1 l1 c1,.slice a2 l2 c2],_,_,.slice none 0 0,h1.mono hG5,h2.mono hG5,hr5,?_,?_⟩
  ·rw[show (p.nd rows).counts=p.cnt rows from rfl,hno];exact IL.nil _ _ _
  ·rw[show (p.nd rows).cls=(zeI (p.cnt rows) (p.cnt rows).length:Int) from rfl,hno];rfl
def zor (G:Hp) (st:Option (Int × Rat × Rat)) (cs:List Value):Prop:=match st with
 | none=>cs=zl6
 | some (c,t,g)=>∃x y,RQ G x t∧RQ G y g∧cs=.int .i64 c::(zae x++zae y)
theorem zor.mono {G G':Hp} {st:Option (Int × Rat × Rat)} {cs:List Value} (h:zor G st cs) (k:G.Le G'):zor G' st cs:=by
 cases st with
 | none=>exact h
 | some p =>
  obtain⟨x,y,h1,h2,h3⟩:=h;exact⟨x,y,h1.mono k,h2.mono k,h3⟩
theorem znu {X:List (List Rat)} (h:∀x,x∈X→∀q,q∈x→ht q≤60) {c:Int} {es:List Int} {t:Rat} (ht':t∈plQ X c es):ht t≤200:=by
 by_cases ha:es.all (zfp X c)=true
 ·obtain⟨m,hm,hr⟩:=znZ (zdn X c) es;rw[←zo1 (.inl ⟨ha,hm,hr⟩:zp3 X c es m)]at ht';obtain⟨j,_,_,rfl⟩:=ziL ht';exact zm9 h c m j
 ·unfold plQ at ht';rw[if_neg ha]at ht';cases ht'
theorem zqM (X:List (List Rat)) (c:Int) (es:List Int):(plQ X c es).length≤es.length:=by
 unfold plQ;split
 ·have:=zfX (zb1 (es.map (zdn X c))) (es.length-1);omega
 ·exact qQ _
theorem zov {X:List (List Rat)} {cost:List Int→Rat} {es cols:List Int} {L c:Int} {i:Nat} (h:cols[i]?=some c):zaD X cost es L (cols.take (i+1))=zaD X cost es L (cols.take i)++zbG X cost es L c (plQ X c es):=by
 unfold zaD;rw[zai h,List.flatMap_append];simp
theorem zmQ {X:List (List Rat)} {cost:List Int→Rat} {es:List Int} {L c:Int} {ts:List Rat} {j:Nat} {t:Rat} (h:ts[j]?=some t):zbG X cost es L c (ts.take (j+1))=zbG X cost es L c (ts.take j)++if L≤((za5 X c t es).length:Int)∧L≤((zay X c t es).length:Int) then [(c,t,cost es-(cost (za5 X c t es)+cost (zay X c t es)))] else []:=by
 unfold zbG;rw[zai h,List.flatMap_append];simp
theorem zfr (a b:Rat):zco a b>0↔b<a:=by
 unfold zco;split
 ·rename_i h;exact⟨fun k=>absurd k (by decide),fun k=>by exfalso;grind⟩
 ·split
  ·rename_i h;exact⟨fun _=>h,fun _=>by decide⟩
  ·rename_i h;exact⟨fun k=>absurd k (by decide),fun k=>absurd k h⟩
theorem zh0 (a b:Rat):zco a b<0↔a<b:=by
 unfold zco;split
 ·rename_i h;exact⟨fun _=>h,fun _=>by decide⟩
 ·rename_i h;split
  ·exact⟨fun k=>absurd k (by decide),fun k=>absurd k h⟩
  ·exact⟨fun k=>absurd k (by decide),fun k=>absurd k h⟩
theorem zoW (a b:Rat):(zco a b == 0)=decide (a=b):=by
 unfold zco;split
 ·rename_i h;rw[qC (fun e=>by subst e;exact Rat.lt_irrefl h)];rfl
 ·split
  ·rename_i h;rw[qC (fun e=>by subst e;exact Rat.lt_irrefl h)];rfl
  ·rename_i h1 h2;rw[qD (Rat.le_antisymm (Rat.not_lt.1 h2) (Rat.not_lt.1 h1))];rfl
theorem zg4 {X:List (List Rat)} {cost:List Int→Rat} {es:List Int} {n:Nat} {L c:Int} {ts:List Rat} (hs:∀l:List Int,l.length≤300→(∀r,r∈l→0≤r∧r<(n:Int))→ht (cost l)≤2000000) (he:es.length≤300) (hb:∀r,r∈es→0≤r∧r<(n:Int)) (hts:∀t,t∈ts→ht t≤200) {p:Int × Rat × Rat} (h:p∈zbG X cost es L c ts):ht p.2.1≤200∧ht p.2.2≤8000000:=by
 unfold zbG at h;obtain⟨t,ht',hp⟩:=List.mem_flatMap.1 h;split at hp
 ·obtain rfl:=pJ.1 hp;have h1:=hs _ (qI (List.length_filter_le _ _) he:(za5 X c t es).length≤300) (fun r hr=>hb r (List.mem_filter.mp hr).1);have h2:=hs _ (qI (List.length_filter_le _ _) he:(zay X c t es).length≤300) (fun r hr=>hb r (List.mem_filter.mp hr).1);have h3:=hs es he hb;have h4:=zdV (cost (za5 X c t es)) (cost (zay X c t es));have h5:=zeo (cost es) (cost (za5 X c t es)+cost (zay X c t es));exact⟨hts t ht',by dsimp only;omega⟩
 ·cases hp
theorem zis {X:List (List Rat)} {cost:List Int→Rat} {es:List Int} {n:Nat} {L:Int} {cols:List Int} (hs:∀l:List Int,l.length≤300→(∀r,r∈l→0≤r∧r<(n:Int))→ht (cost l)≤2000000) (he:es.length≤300) (hb:∀r,r∈es→0≤r∧r<(n:Int)) (hq:∀x,x∈X→∀q,q∈x→ht q≤60) {p:Int × Rat × Rat} (h:p∈zaD X cost es L cols):ht p.2.1≤200∧ht p.2.2≤8000000:=by
 unfold zaD at h;obtain⟨c,_,hp⟩:=List.mem_flatMap.1 h;exact zg4 hs he hb (fun t ht'=>znu hq ht') hp
theorem zl9 {H:Hp} {kd cl:Int} {la va:Option Addr} {ln lc vn vc:Nat} {vx vr vcol:Value} {X:List (List Rat)} {rs cols:List Int} {least:Int} {cost:List Int→Rat}
  (hchk:PC prog 180 #[zbv kd cl (.slice la ln lc) (.slice va vn vc)] H fun r _=>r=.int .i64 0) (hlen:PV prog 179 #[zbv kd cl (.slice la ln lc) (.slice va vn vc)] (.int .i64 (X.length:Int)))
  (hcost:∀G,H.Le G→∀u l,IL G u l→l.length≤300→PC prog 219 #[zbv kd cl (.slice la ln lc) (.slice va vn vc),u] G fun r H'=>RQ H' r (cost (exL l X.length)))
  (hsmall:∀l:List Int,l.length≤300→(∀r,r∈l→0≤r∧r<(X.length:Int))→ht (cost l)≤2000000)
  (hX:RLL H vx X) (hq:∀x,x∈X→∀q,q∈x→ht q≤60) (hr:IL H vr rs) (hn:rs.length≤300) (hc:IL H vcol cols) (hcn:cols.length≤1000) :
  PC prog 183 #[zbv kd cl (.slice la ln lc) (.slice va vn vc),vx,vr,vcol,.int .i64 least] H fun r H'=>∃cs,zor H' ((zaD X cost (exL rs X.length) (max 1 least) cols).foldl zgm none) cs∧r=.tuple #[.agg cs.toArray,.bool ((zaD X cost (exL rs X.length) (max 1 least) cols).foldl zgm none).isSome]:=by
 have hel:=zcj rs X.length;have heb:=zhL (rs:=rs) (n:=X.length);have hrq:∀x,x∈X→∀q,q∈x→rq q:=fun x hx q hm=>qI (hq x hx q hm) oM;obtain⟨ra,rc,rfl⟩:=SlC.val hr;obtain⟨xa,xc,rfl⟩:=hX.val;obtain⟨ca,cc,rfl⟩:=SlC.val hc;refine BD func183 ntmps183 ?_
 repeat (first|refine RUN ?_|refine CV (hchk) ?_|refine CV (hlen) ?_|refine CE (hchk) ?_|refine CE (hlen) ?_)
 rw[show ((X.length:Int) != (X.length:Int))=false from pO _];refine uR ?_;refine vA (hcost _ (Hp.Le.refl _) _ _ hr hn) ?_;intro rall G1 hall hG1;obtain⟨wa,wl,wc,za,zl,zc,rfl,hw1,hw2⟩:=id hall;have hsa:=hsmall (exL rs X.length) oM heb;refine uR ?_;refine EV.loopK (ι:=Nat × List Value) [1,2,3,4,5,10,12,14] [5,10,14] (fun q=>[(13,.v (.bool ((zaD X cost (exL rs X.length) (max 1 least) (cols.take q.1)).foldl zgm none).isSome)),(15,.v (.int .i64 (q.1:Int)))]) (fun q=>[(12,259,q.2)]) (fun _=>[]) (fun q G=>q.1≤cols.length∧zor G ((zaD X cost (exL rs X.length) (max 1 least) (cols.take q.1)).foldl zgm none) q.2) (fun q=>cols.length-q.1) ((0,zl6)) rfl rfl ⟨rfl,rfl,trivial⟩ ⟨rfl,trivial⟩ rfl (fun _=>rfl) (⟨qQ _,rfl⟩) ?_;rintro⟨i,cs⟩ G2 hG2 ⟨hi,hcs⟩;dsimp only at hi hcs;refine uR ?_;refine EV.cond rfl (fun hlt=>?_) (fun hlt=>?_)
 ·simp only[nN]at hlt;obtain⟨c,hci⟩:=gE hlt;have hH2:=hG1.trans hG2;have hsn:=zov (X:=X) (cost:=cost) (es:=exL rs X.length) (L:=max 1 least) hci;have hplh:∀t,t∈plQ X c (exL rs X.length)→ht t≤200:=fun t hm=>znu hq hm;refine uR ?_;refine vI ((hc.mono hH2)) (i) (rfl) (hlt) ((by rw[qK,hci];rfl)) ?_;refine uR ?_;refine vA (zjh (col:=c) (hX.mono hH2) (hr.mono hH2) hn hq) ?_;intro rp G3 hP hG3;have hpll:(plQ X c (exL rs X.length)).length≤300:=by have:=zqM X c (exL rs X.length);omega
  generalize plQ X c (exL rs X.length)=P at *
  obtain⟨pa,pc,rfl⟩:=hP.val;refine uR ?_;refine EV.loopK (ι:=Nat × List Value) [1,2,3,4,5,10,12,14,15,16] [5,10,14] (fun q=>[(13,.v (.bool ((zaD X cost (exL rs X.length) (max 1 least) (cols.take i)++zbG X cost (exL rs X.length) (max 1 least) c (P.take q.1)).foldl zgm none).isSome)),(17,.v (.int .i64 (q.1:Int)))]) (fun q=>[(12,259,q.2)]) (fun _=>[]) (fun q G=>q.1≤P.length∧zor G ((zaD X cost (exL rs X.length) (max 1 least) (cols.take i)++zbG X cost (exL rs X.length) (max 1 least) c (P.take q.1)).foldl zgm none) q.2) (fun q=>P.length-q.1) ((0,cs)) rfl rfl ⟨by rw[show zbG X cost (exL rs X.length) (max 1 least) c (P.take 0)=[] from rfl,qG];rfl,rfl,trivial⟩ ⟨rfl,trivial⟩ rfl (fun _=>rfl) (⟨qQ _,by rw[show zbG X cost (exL rs X.length) (max 1 least) c (P.take 0)=[] from rfl,qG];exact hcs.mono hG3⟩) ?_;rintro⟨j,cs2⟩ G4 hG4 ⟨hj,hcs2⟩;dsimp only at hj hcs2;refine uR ?_;refine EV.cond rfl (fun hlj=>?_) (fun hlj=>?_)
  ·simp only[nN]at hlj;obtain⟨t,htj⟩:=gE hlj;have hth:=hplh t (qF htj);have hsn2:=zmQ (X:=X) (cost:=cost) (es:=exL rs X.length) (L:=max 1 least) (c:=c) htj;have hP4:=hP.mono hG4;have hH4:=hH2.trans (hG3.trans hG4);have hc4:=hc.mono hH4;obtain⟨vs,y,hs,hcy,hy⟩:=hP4.at htj;obtain⟨ya,yl,yc,yb,ym,yd,rfl,hy1,hy2⟩:=id hy;have wn:IntKind.i64.wrap ((j:Int)+1)=((j+1:Nat):Int):=zac j oM;refine uR ?_;apply EV.drawn 15 kR kR;intro xv yw;(repeat refine' DD ?_);refine' vJ (hc4) (i) (rfl) (hlt) ((by rw[qK,hci];rfl)) ?_;rotate_left;(repeat refine' DD ?_);refine' DJ.idxM tO rfl rfl rfl rfl rfl rfl rfl rfl rfl (hs) (j) (rfl) (hlj) (hcy) ?_;rotate_left;(repeat refine' DD ?_);refine' vB (cO func184) (fun G hG hd=>zgn (col:=c) (t:=t) ((hX.mono hH4).mono hG) ((hr.mono hH4).mono hG) oM hrq (RQ.mono hy hG) (qI hth oM)) (fun _ _ _ h k=>(by obtain⟨u,w,e,hu,hw⟩:=h;exact⟨u,w,e,hu.mono k,hw.mono k⟩)) ?_;rotate_left;refine' DJ.copy (10) (by first|exact .inl rfl|exact .inr rfl) rfl rfl rfl id rfl kR ?_;rotate_left;refine' DJ.extract (10) rfl rfl rfl rfl rfl kR (fun G hd=>(by obtain⟨u,w,e,_⟩:=hd.head kR;exact⟨_,e,Nat.zero_lt_succ _⟩)) ?_;rotate_left;refine' DJ.extract (10) rfl rfl rfl rfl rfl kR (fun G hd=>(by obtain⟨u,w,e,_⟩:=hd.head kR;exact⟨_,e,Nat.lt_succ_self _⟩)) ?_;rotate_left;refine' DJ.copy (10) (.inr rfl) rfl rfl rfl (zdm 0) rfl kR ?_;rotate_left;(refine DJ.nil (fun G hG hF=>?_);(case hS|hS2=>rfl));obtain⟨⟨u,w,e,hu,hw⟩,_⟩:=hF;rw[e];obtain⟨ua,uc,rfl⟩:=SlC.val hu;obtain⟨wa',wc',rfl⟩:=SlC.val hw;rw[show zdm 0 (Value.tuple #[.slice ua (za5 X c t (exL rs X.length)).length uc,.slice wa' (zay X c t (exL rs X.length)).length wc'])=.slice ua (za5 X c t (exL rs X.length)).length uc from rfl,show zdm 1 (Value.tuple #[.slice ua (za5 X c t (exL rs X.length)).length uc,.slice wa' (zay X c t (exL rs X.length)).length wc'])=.slice wa' (zay X c t (exL rs X.length)).length wc' from rfl];refine uR ?_;rw[show (if least>1 then least else 1)=max 1 least by omega];have hlo3:(za5 X c t (exL rs X.length)).length≤300:=qI (List.length_filter_le _ _) oM;have hhi3:(zay X c t (exL rs X.length)).length≤300:=qI (List.length_filter_le _ _) oM;have hlom:∀r,r∈za5 X c t (exL rs X.length)→0≤r∧r<(X.length:Int):=fun r hr=>heb r (List.mem_filter.mp hr).1;have hhim:∀r,r∈zay X c t (exL rs X.length)→0≤r∧r<(X.length:Int):=fun r hr=>heb r (List.mem_filter.mp hr).1;have hxl:exL (za5 X c t (exL rs X.length)) X.length=za5 X c t (exL rs X.length):=zfV hlom;have hxh:exL (zay X c t (exL rs X.length)) X.length=zay X c t (exL rs X.length):=zfV hhim;generalize hlodef:za5 X c t (exL rs X.length)=lo at *
   generalize hhidef:zay X c t (exL rs X.length)=hi' at *
   generalize hLdef:max 1 least=L at *
   by_cases hclo:(lo.length:Int)<L
   ·rw[qD hclo];rw[if_neg oM,qG]at hsn2;refine uR ?_;refine⟨(j+1,cs2),⟨by dsimp only;rw[hsn2];rfl,by dsimp only;rw[wn];rfl,trivial⟩,sB,⟨rfl,trivial⟩,sB,rfl,⟨hlj,by rw[hsn2];exact hcs2.mono hG⟩,hG,by dsimp only;omega⟩
   rw[qC hclo];refine uR ?_;rw[show (if least>1 then least else 1)=L by omega];by_cases hchi:(hi'.length:Int)<L
   ·rw[qD hchi];rw[if_neg oM,qG]at hsn2;refine uR ?_;refine⟨(j+1,cs2),⟨by dsimp only;rw[hsn2];rfl,by dsimp only;rw[wn];rfl,trivial⟩,sB,⟨rfl,trivial⟩,sB,rfl,⟨hlj,by rw[hsn2];exact hcs2.mono hG⟩,hG,by dsimp only;omega⟩
   rw[qC hchi];rw[if_pos ⟨by omega,by omega⟩]at hsn2;have hH5:=hH4.trans hG;have hc5:=hc.mono hH5;have hs5:=hs.mono hG;have hy5:=RQ.mono hy hG;have hal5:=RQ.mono hall (hG2.trans (hG3.trans (hG4.trans hG)));have hslo:=hsmall lo hlo3 hlom;have hshi:=hsmall hi' hhi3 hhim;have hclo5:∀G',G.Le G'→PC prog 219 #[zbv kd cl (.slice la ln lc) (.slice va vn vc),.slice ua lo.length uc] G' fun r H'=>RQ H' r (cost lo):=fun G' k=>by have:=hcost G' (hH5.trans k) _ _ (hu.mono k) hlo3;rwa [hxl]at this
   have hchi5:∀G',G.Le G'→PC prog 219 #[zbv kd cl (.slice la ln lc) (.slice va vn vc),.slice wa' hi'.length wc'] G' fun r H'=>RQ H' r (cost hi'):=fun G' k=>by have:=hcost G' (hH5.trans k) _ _ (hw.mono k) hhi3;rwa [hxh]at this
   have hsum:rq (cost lo+cost hi'):=by have:=zdV (cost lo) (cost hi');unfold rq;omega
   have hgr:rq (cost (exL rs X.length)-(cost lo+cost hi')):=by have h1:=zdV (cost lo) (cost hi');have h2:=zeo (cost (exL rs X.length)) (cost lo+cost hi');unfold rq;omega
   refine uR ?_;apply EV.drawn 19 kR kR;intro xv yw;(repeat refine' DD ?_);refine' vJ (hc5) (i) (rfl) (hlt) ((by rw[qK,hci];rfl)) ?_;rotate_left;(repeat refine' DD ?_);refine' DJ.idxM tO rfl rfl rfl rfl rfl rfl rfl rfl rfl (hs5) (j) (rfl) (hlj) (hcy) ?_;rotate_left;(repeat refine' DD ?_);refine' vB (cO func219) (fun G hG hd=>hclo5 G hG) (fun _ _ _ h k=>RQ.mono h k) ?_;rotate_left;(repeat refine' DD ?_);refine' vB (cO func219) (fun G hG hd=>hchi5 G hG) (fun _ _ _ h k=>RQ.mono h k) ?_;rotate_left;(repeat refine' DD ?_);refine' vB (cO func103) (fun G hG hd=>zb0 (hd.tail.head kR) (hd.head kR) (by unfold rq;omega) (by unfold rq;omega)) (fun _ _ _ h k=>RQ.mono h k) ?_;rotate_left;(repeat refine' DD ?_);refine' vB (cO func69) (fun G hG hd=>zcq (hal5.mono hG) (hd.head kR) (by unfold rq;omega) hsum) (fun _ _ _ h k=>RQ.mono h k) ?_;rotate_left;refine' DJ.fnP tO (16) (fun v=>Value.agg (Value.int IntKind.i64 c::(([Value.bool (decide (t.num<0)),Value.slice ya yl yc,Value.slice yb ym yd]:List Value)++zae v)).toArray) rfl rfl rfl kR (fun G hd=>(by obtain⟨sa,sl,sc,ta,tl,tc,e,_⟩:=(show RQ G (xv 16) (cost (exL rs X.length)-(cost lo+cost hi')) from hd.head kR);rw[show xv (0+1+1+1+1+1+1+1+1+1+1+1+1+1+1+1+1)=xv 16 from rfl,e];rfl)) ?_;rotate_left;(repeat refine' DD ?_);(refine DJ.nil (fun G7 hG7 hF7=>?_);(case hS|hS2=>rfl));obtain⟨h16,_⟩:=hF7;have hg16:RQ G7 (xv 16) (cost (exL rs X.length)-(cost lo+cost hi')):=h16;obtain⟨sa,sl,sc,ta,tl,tc,e16,_⟩:=id hg16;have e16':xv (0+1+1+1+1+1+1+1+1+1+1+1+1+1+1+1+1)=_:=e16;rw[e16'];rw[e16]at hg16;rw[show (Value.agg (Value.int .i64 c::(([Value.bool (decide (t.num<0)),Value.slice ya yl yc,Value.slice yb ym yd]:List Value)++zae (.agg #[.bool (decide ((cost (exL rs X.length)-(cost lo+cost hi')).num<0)),.slice sa sl sc,.slice ta tl tc]))).toArray)=.agg #[.int .i64 c,.bool (decide (t.num<0)),.slice ya yl yc,.slice yb ym yd,.bool (decide ((cost (exL rs X.length)-(cost lo+cost hi')).num<0)),.slice sa sl sc,.slice ta tl tc] from rfl];refine uR ?_;have hst:zor G7 (List.foldl zgm none (zaD X cost (exL rs X.length) L (cols.take i)++zbG X cost (exL rs X.length) L c (P.take j))) cs2:=hcs2.mono (hG.trans hG7);have hnew:List.foldl zgm none (zaD X cost (exL rs X.length) L (cols.take i)++zbG X cost (exL rs X.length) L c (P.take (j+1)))=zgm (List.foldl zgm none (zaD X cost (exL rs X.length) L (cols.take i)++zbG X cost (exL rs X.length) L c (P.take j))) (c,t,cost (exL rs X.length)-(cost lo+cost hi')):=by rw[hsn2,←qZ,List.foldl_append];rfl
   have hstp:∀p,List.foldl zgm none (zaD X cost (exL rs X.length) L (cols.take i)++zbG X cost (exL rs X.length) L c (P.take j))=some p→ht p.2.1≤200∧ht p.2.2≤8000000:=fun p e=>by
    have hf:=zdF (zaD X cost (exL rs X.length) L (cols.take i)++zbG X cost (exL rs X.length) L c (P.take j));rw[e]at hf;rcases List.mem_append.1 hf.1 with hm | hm
    ·exact zis hsmall oM heb hq hm
    ·exact zg4 hsmall oM heb (fun t hm=>hplh t (List.mem_of_mem_take hm)) hm
   generalize List.foldl zgm none (zaD X cost (exL rs X.length) L (cols.take i)++zbG X cost (exL rs X.length) L c (P.take j))=st at *
   cases st with
   | none =>
    have hcs':cs2=zl6:=hst;subst hcs';apply EV.drawn 4 kR kR;intro xv yw;(repeat refine' DD ?_);refine' vB (cO func224) (fun G hG hd=>zlA) (fun _ _ _ h k=>RQ.mono h k) ?_;rotate_left;(repeat refine' DD ?_);(refine DJ.nil (fun G8 hG8 hF8=>?_);(case hS|hS2=>rfl));obtain⟨h3,_⟩:=hF8;refine uR ?_;refine vA (za9 (RQ.mono hg16 hG8) h3 hgr (by unfold rq;rw[zck];decide)) ?_;rintro _ G9 rfl hG9;refine uR ?_;refine⟨(j+1,[.int .i64 c,.bool (decide (t.num<0)),.slice ya yl yc,.slice yb ym yd,.bool (decide ((cost (exL rs X.length)-(cost lo+cost hi')).num<0)),.slice sa sl sc,.slice ta tl tc]),⟨by dsimp only;rw[hnew];rfl,by dsimp only;rw[wn];rfl,trivial⟩,sB,⟨rfl,trivial⟩,sB,rfl,⟨hlj,by rw[hnew];exact⟨_,_,RQ.mono hy5 (hG7.trans (hG8.trans hG9)),RQ.mono hg16 (hG8.trans hG9),rfl⟩⟩,hG.trans (hG7.trans (hG8.trans hG9)),by dsimp only;omega⟩
   | some p =>
    obtain⟨c1,t1,g1⟩:=p;obtain⟨hts,hgs⟩:=hstp _ rfl;dsimp only at hts hgs;obtain⟨x1,y1,hx1',hy1',rfl⟩:=hst;obtain⟨pa1,pl1,pc1,pb1,pm1,pd1,rfl,hp1,hp2⟩:=id hx1';obtain⟨qa1,ql1,qc1,qb1,qm1,qd1,rfl,hp3,hp4⟩:=id hy1';apply EV.drawn 4 kR kR;intro xv yw;(repeat refine' DD ?_);refine' vB (cO func224) (fun G hG hd=>zlB (hy1'.mono hG)) (fun _ _ _ h k=>RQ.mono h k) ?_;rotate_left;(repeat refine' DD ?_);(refine DJ.nil (fun G8 hG8 hF8=>?_);(case hS|hS2=>rfl));obtain⟨h3,_⟩:=hF8;refine uR ?_;refine vA (za9 (RQ.mono hg16 hG8) h3 hgr (by unfold rq;omega)) ?_;rintro _ G9 rfl hG9;have hpx:=RQ.mono hx1' (hG8.trans hG9);have hpt:=RQ.mono hy5 (hG7.trans (hG8.trans hG9));generalize hgdef:cost (exL rs X.length)-(cost lo+cost hi')=g at *
    have hT:zlY (c,t,g) (c1,t1,g1)→zgm (some (c1,t1,g1)) (c,t,g)=some (c,t,g):=fun k=>if_pos k;have hK:¬zlY (c,t,g) (c1,t1,g1)→zgm (some (c1,t1,g1)) (c,t,g)=some (c1,t1,g1):=fun k=>if_neg k;refine uR ?_;by_cases hgt:g1<g
    ·rw[qD ((zfr g g1).2 hgt)];rw[hT (.inl hgt)]at hnew;refine uR ?_;refine⟨(j+1,[.int .i64 c,.bool (decide (t.num<0)),.slice ya yl yc,.slice yb ym yd,.bool (decide (g.num<0)),.slice sa sl sc,.slice ta tl tc]),⟨by dsimp only;rw[hnew];rfl,by dsimp only;rw[wn];rfl,trivial⟩,sB,⟨rfl,trivial⟩,sB,rfl,⟨hlj,by rw[hnew];exact⟨_,_,hpt.mono (Hp.Le.refl _),(RQ.mono hg16 (hG8.trans hG9)).mono (Hp.Le.refl _),rfl⟩⟩,(hG.trans (hG7.trans (hG8.trans hG9))).trans (Hp.Le.refl _),by dsimp only;omega⟩
    rw[qC (fun k=>hgt ((zfr g g1).1 k))];refine uR ?_;rw[zoW];by_cases heq:g=g1
    ·rw[qD heq];refine uR ?_;by_cases hc1:c<c1
     ·rw[qD hc1];rw[hT (.inr ⟨heq,.inl hc1⟩)]at hnew;refine uR ?_;refine⟨(j+1,[.int .i64 c,.bool (decide (t.num<0)),.slice ya yl yc,.slice yb ym yd,.bool (decide (g.num<0)),.slice sa sl sc,.slice ta tl tc]),⟨by dsimp only;rw[hnew];rfl,by dsimp only;rw[wn];rfl,trivial⟩,sB,⟨rfl,trivial⟩,sB,rfl,⟨hlj,by rw[hnew];exact⟨_,_,hpt.mono (Hp.Le.refl _),(RQ.mono hg16 (hG8.trans hG9)).mono (Hp.Le.refl _),rfl⟩⟩,(hG.trans (hG7.trans (hG8.trans hG9))).trans (Hp.Le.refl _),by dsimp only;omega⟩
     rw[qC hc1];refine uR ?_;by_cases hc2:c=c1
     ·rw[show (c == c1)=true from beq_iff_eq.2 hc2];refine uR ?_;refine vA (za9 hpt hpx (by unfold rq;omega) (by unfold rq;omega)) ?_;rintro _ G10 rfl hG10;refine uR ?_;by_cases htt:t<t1
      ·rw[qD ((zh0 t t1).2 htt)];rw[hT (.inr ⟨heq,.inr ⟨hc2,htt⟩⟩)]at hnew;refine uR ?_;refine⟨(j+1,[.int .i64 c,.bool (decide (t.num<0)),.slice ya yl yc,.slice yb ym yd,.bool (decide (g.num<0)),.slice sa sl sc,.slice ta tl tc]),⟨by dsimp only;rw[hnew];rfl,by dsimp only;rw[wn];rfl,trivial⟩,sB,⟨rfl,trivial⟩,sB,rfl,⟨hlj,by rw[hnew];exact⟨_,_,hpt.mono hG10,(RQ.mono hg16 (hG8.trans hG9)).mono hG10,rfl⟩⟩,(hG.trans (hG7.trans (hG8.trans hG9))).trans hG10,by dsimp only;omega⟩
      rw[qC (fun k=>htt ((zh0 t t1).1 k))];rw[hK (fun k=>by rcases k with k | ⟨_,k | ⟨_,k⟩⟩ <;> contradiction)]at hnew;refine uR ?_;refine⟨(j+1,[.int .i64 c1,.bool (decide (t1.num<0)),.slice pa1 pl1 pc1,.slice pb1 pm1 pd1,.bool (decide (g1.num<0)),.slice qa1 ql1 qc1,.slice qb1 qm1 qd1]),⟨by dsimp only;rw[hnew];rfl,by dsimp only;rw[wn];rfl,trivial⟩,sB,⟨rfl,trivial⟩,sB,rfl,⟨hlj,by rw[hnew];exact⟨_,_,hpx.mono hG10,(RQ.mono hy1' (hG8.trans hG9)).mono hG10,rfl⟩⟩,(hG.trans (hG7.trans (hG8.trans hG9))).trans hG10,by dsimp only;omega⟩
     rw[show (c == c1)=false from pP.2 hc2];rw[hK (fun k=>by rcases k with k | ⟨_,k | ⟨k,_⟩⟩ <;> contradiction)]at hnew;refine uR ?_;refine⟨(j+1,[.int .i64 c1,.bool (decide (t1.num<0)),.slice pa1 pl1 pc1,.slice pb1 pm1 pd1,.bool (decide (g1.num<0)),.slice qa1 ql1 qc1,.slice qb1 qm1 qd1]),⟨by dsimp only;rw[hnew];rfl,by dsimp only;rw[wn];rfl,trivial⟩,sB,⟨rfl,trivial⟩,sB,rfl,⟨hlj,by rw[hnew];exact⟨_,_,hpx.mono (Hp.Le.refl _),(RQ.mono hy1' (hG8.trans hG9)).mono (Hp.Le.refl _),rfl⟩⟩,(hG.trans (hG7.trans (hG8.trans hG9))).trans (Hp.Le.refl _),by dsimp only;omega⟩
    rw[qC heq];rw[hK (fun k=>by rcases k with k | ⟨k,_⟩ <;> contradiction)]at hnew;refine uR ?_;refine⟨(j+1,[.int .i64 c1,.bool (decide (t1.num<0)),.slice pa1 pl1 pc1,.slice pb1 pm1 pd1,.bool (decide (g1.num<0)),.slice qa1 ql1 qc1,.slice qb1 qm1 qd1]),⟨by dsimp only;rw[hnew];rfl,by dsimp only;rw[wn];rfl,trivial⟩,sB,⟨rfl,trivial⟩,sB,rfl,⟨hlj,by rw[hnew];exact⟨_,_,hpx.mono (Hp.Le.refl _),(RQ.mono hy1' (hG8.trans hG9)).mono (Hp.Le.refl _),rfl⟩⟩,(hG.trans (hG7.trans (hG8.trans hG9))).trans (Hp.Le.refl _),by dsimp only;omega⟩
  ·simp only[nN]at hlj;obtain rfl:j=P.length:=oM;rw[qa,←hsn]at hcs2 ⊢;refine uR ?_;refine⟨(i+1,cs2),⟨rfl,by rw[zac i (by omega)];rfl,trivial⟩,sB,⟨rfl,trivial⟩,sB,rfl,⟨hlt,hcs2⟩,hG3.trans hG4,by dsimp only;omega⟩
 ·simp only[nN]at hlt;obtain rfl:i=cols.length:=oM;rw[qa]at hcs ⊢;generalize (zaD X cost (exL rs X.length) (max 1 least) cols).foldl zgm none=st at *
  cases st with
  | none =>
   have hcs':cs=zl6:=hcs;subst hcs';refine uR ?_;exact⟨zl6,rfl,rfl⟩
  | some p =>
   obtain⟨c,t,g⟩:=p;obtain⟨x,y,h1,h2,rfl⟩:=hcs;obtain⟨xa,xl,xc,ya,yl,yc,rfl,hx1,hx2⟩:=id h1;obtain⟨xa',xl',xc',ya',yl',yc',rfl,hx3,hx4⟩:=id h2;refine uR ?_;exact⟨_,⟨_,_,h1,h2,rfl⟩,rfl⟩
end
end Go.Proofs.YtnejmfoednmkhaaGreatDoor
