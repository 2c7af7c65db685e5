/- Texts of ours in one: Gc3, Gc4, Gc5, GcdS, Fr1, Fr2, Fr3, Ha1, Ha2, Ls1, LsP, Ls2, Ls3, Fr4, NearP, NearQ, SimpP, SimpS, Lw1, Lw2, Str1, Lw3, Lw4, Simp, Simp2, Simp3, Simp4, Ls4, Ls5, Ls6, Gn1, GnP, Gn2, Gn3, Gn7, Ev22, Gn8, Gn4, Gn5, Gn9, Gn6, Ev23, Gn10, Gn11, Seq, Sorted, DicePlain, Lists, SortPlain, Asc, GnC, Gn12, Gn13, Gn14, GnQ, GnR, GnS. -/
import Derived.Test.YtjdpljkildlfaaaGreatDoorC0
import Derived.Test.YtjdpljkildlfaaaGreatDoorC1
import Derived.Test.YtjdpljkildlfaaaGreatDoorC2
import Derived.Test.YtjdpljkildlfaaaGreatDoorProg
import Derived.RangeFuncBox
import Derived.RangeFuncLeaves
import Derived.Shelf.Abstract
import Derived.OwnWalkIn
import Derived.TacticsInMore
import Derived.LoopNIn
import Derived.LoopIn
import Derived.Maps.AppendAt
import Derived.Test.YtjdpljkildlfaaaGreatDoorRows
import Derived.WalkKit
import Derived.Sort.OwnSortedInts
import Derived.Lib.SlicesCompact
set_option linter.unusedVariables false
set_option linter.unusedSimpArgs false
set_option maxHeartbeats 64000000
namespace Go.Proofs.YtjdpljkildlfaaaGreatDoor
section
open Go.RowKit _root_.Go.Proofs.Tryz
theorem zho {H:Hp} {b off cap:Nat} {T:TypeId} {cs:List Value} {l:List Nat} (hw:Wn cs off l) (hl:Dig W64 l) (hll:l.length≤100000000) (h0:val W64 l≠0) :
  PW prog 167 #[.slice (some ⟨b,off,none⟩) l.length cap] H [(b,T,cs)] fun v ow _=>ow=[(b,T,cs)]∧∃z m:Nat,v=.int .i64 (z:Int)∧val W64 l=2 ^ z*m∧m % 2=1∧z<64*l.length:=by
 refine PW.body tO func167 rfl kR ntmps167 rfl rfl ?_;refine uR ?_
 refine EV.loop (ι:=Nat) (fun i=>[(0,.v (.slice (some ⟨b,off,none⟩) l.length cap)),(3,.v (.int .i64 (i:Int)))]) (fun _=>[]) (fun _=>[(b,T,cs)])
  (fun i _=>∀j,j<i→l.getD j 0=0) (fun i=>l.length-i) 0 ⟨rfl,rfl,trivial⟩ trivial rfl (fun _=>rfl) (fun j hj=>absurd hj (Nat.not_lt_zero _)) ?_
 rintro i G hG hz
 have hi:i<l.length:=by
  refine Nat.lt_of_not_le fun h=>h0 ?_;have:=zdj (B:=W64) i hz
  rwa [qO h]at this
 have hx:=hw.2 i hi;refine uR ?_;refine EVL.idxO tO rfl rfl rfl rfl rfl rfl rfl rfl rfl rfl (i) (rfl) (hi) ?_;refine EVL.load1 tO rfl rfl rfl rfl rfl rfl rfl rfl (0) rfl (hx) ?_;refine uR ?_;by_cases hxz:l.getD i 0=0
 ·rw[hxz,show (((0:Nat):Int) == 0)=true from rfl];refine uR ?_;refine⟨i+1,⟨rfl,?_,trivial⟩,trivial,rfl,fun j hj=>?_,Hp.Le.refl _,by omega⟩
  ·rw[zab i (by omega)];rfl
  ·by_cases e:j=i
   ·subst e;exact hxz
   ·exact hz j oM
 ·rw[show (((l.getD i 0:Nat):Int) == 0)=false by simpa using hxz];obtain⟨m,hv,hm,hc⟩:=zp0 hl hz hxz;have htz:=zuk (l.getD i 0) (hl.getD (by decide) i);refine uR ?_;refine EVL.idxO tO rfl rfl rfl rfl rfl rfl rfl rfl rfl rfl (i) (rfl) (hi) ?_;refine EVL.load1 tO rfl rfl rfl rfl rfl rfl rfl rfl (0) rfl (hx) ?_
  repeat (first|refine RUN ?_|refine CV (htz) ?_|refine CE (htz) ?_)
  refine⟨rfl,64*i+Lib.ctz 64 (l.getD i 0),m,?_,hv,hm,by omega⟩;rw[show IntKind.i64.wrap (64*(i:Int))=((64*i:Nat):Int) from zpR 64 i oM,zib _ _ (by omega)]
theorem ziZ {α:Type} (s m:List α) (i:Nat) (h:i<s.length) (hl:s.length=m.length):(s.take i++m.drop i).set i s[i]=s.take (i+1)++m.drop (i+1):=by
 have hm:i<m.length:=oM;rw[List.set_append_right _ _ (by rw[qP];omega),qP,qm oM,Nat.sub_self,qo hm,List.set_cons_zero,qS h,qZ];rfl
theorem zlW (s m:List Nat) (i j:Nat) (hl:s.length=m.length) (h:i≤j):(s.take i++m.drop i).getD j 0=m.getD j 0:=by
 by_cases hi:i≤s.length
 ·rw[qB,qL (by rw[qP];omega),qP,qm hi,List.getElem?_drop,show i+(j-i)=j by omega,←qB]
 ·rw[qB,qe (by simp;omega),qB,qe (by omega)]
theorem zi2 {H:Hp} {b off cap:Nat} {T:TypeId} {cs:List Value} {l:List Nat} (hw:Wn cs off l) (hl:Dig W64 l) (hll:l.length≤100000000) (hc:l.length≤cap) (h0:val W64 l≠0) :
  PW prog 168 #[.slice (some ⟨b,off,none⟩) l.length cap] H [(b,T,cs)] fun v ow _=>∃cs1 off1 cap1 r z,ow=[(b,T,cs1)]∧Wn cs1 off1 r∧zdO W64 r∧r.length≤l.length∧r.length≤cap1∧v=.slice (some ⟨b,off1,none⟩) r.length cap1∧val W64 l=2 ^ z*val W64 r∧val W64 r % 2=1:=by
 refine PW.body tO func168 rfl kR ntmps168 rfl rfl ?_;refine uR ?_;refine vW ([(b,T,cs)]) ([]) (zho hw hl hll h0) ?_;rintro v ow H' ⟨rfl,z,m,rfl,hv,hm,hz⟩ hle;have hz0:z / 64<l.length:=oM;refine uR ?_;refine EVL.asI (((z / 64:Nat):Int)) (zic z 64 oM) ?_;refine uR ?_;refine EVL.slc tO rfl rfl rfl rfl rfl rfl rfl rfl (z / 64) l.length (.inr ⟨_,IntKind.i64,rfl,rfl⟩) (.inl ⟨rfl,rfl⟩) oM hc hc ?_;refine EVL.as (congrArg SV.v (zsS b off (z / 64) l.length cap oM)) ?_;refine uR ?_;rw[show (z:Int).tmod 64=((z % 64:Nat):Int) from zko z 64];generalize hq:z / 64=q at *
 generalize hp:z % 64=p at *
 have hpz:z=64*q+p:=oM;have hp64:p<64:=oM;have hlen:(l.drop q).length=l.length-q:=qp ..;have hwd:=hw.drop q oM;have hld:Dig W64 (l.drop q):=hl.drop q;have hvs:=zs1 l q p hl hp64 oM;rw[←hpz]at hvs;have hdiv:val W64 l / 2 ^ z=m:=by rw[hv];exact Nat.mul_div_cancel_left _ (Nat.pow_pos (by decide))
 rw[hdiv]at hvs;rw[←hlen];generalize l.drop q=d at *
 have hsl:=zer p d;have hsD:=zmd p hp64 hld
 refine EV.loop (ι:=Nat × List Value) (fun s=>[(0,.v (.slice (some ⟨b,off+q,none⟩) d.length (cap-q))),(4,.v (.int .i64 (p:Int))),(15,.v (.int .i64 (d.length:Int))),(16,.v (.int .i64 (s.1:Int)))]) (fun _=>[]) (fun s=>[(b,T,s.2)])
  (fun s _=>s.1≤d.length∧Wn s.2 (off+q) ((zdr p d).take s.1++d.drop s.1)) (fun s=>d.length-s.1) (0,cs) ⟨rfl,rfl,rfl,rfl,trivial⟩ trivial rfl (fun _=>rfl) ⟨qQ _,by simpa using hwd⟩ ?_
 rintro⟨i,cu⟩ G hG ⟨hi,hcu⟩;dsimp only at hi hcu;refine uR ?_;by_cases hlt:i<d.length
 ·rw[zeb _ _ hlt];have hil:i<((zdr p d).take i++d.drop i).length:=by simp;omega
  have hcx:=hcu.2 i hil;rw[zlW _ _ i i hsl (qH _)]at hcx;have hx:=hld.getD (by decide) i;have hnew:=ziS p d i oM;have hset:=ziZ (zdr p d) d i oM hsl;have hb1:off+q+i<cu.length:=by have:=hcu.1;omega
  rw[hnew]at hset;refine uR ?_;refine EVL.idxO tO rfl rfl rfl rfl rfl rfl rfl rfl rfl rfl (i) (rfl) (hlt) ?_;refine EVL.load1 tO rfl rfl rfl rfl rfl rfl rfl rfl (0) rfl (hcx) ?_;refine uR ?_;rw[show min p IntKind.u64.bits=p from qm (by show p≤64;omega),zmA];refine EVL.idxO tO rfl rfl rfl rfl rfl rfl rfl rfl rfl rfl (i) (rfl) (hlt) ?_;refine EVL.setO tO rfl rfl rfl rfl rfl rfl rfl ([]) rfl rfl rfl (hb1) ?_;have hcu1:=hcu.set i (d.getD i 0 / 2 ^ p) hil;refine uR ?_;rw[zab i (by omega)];by_cases hl1:i+1<d.length
  ·rw[zeb _ _ hl1];have hy:=hcu1.2 (i+1) (by simp;omega);rw[getD_set_ne _ _ _ _ oM,zlW _ _ i (i+1) hsl (by omega)]at hy;have hx1:=hcu1.2 i (by simp;omega);rw[zbD _ _ _ hil]at hx1;refine uR ?_;apply EV.drawn 13 kR kR;intro xv yw;(repeat refine' DD ?_);refine' DJ.ofVal (zaa.idxO tO rfl rfl rfl rfl rfl rfl rfl rfl (i) (rfl) (hlt)) rfl rfl rfl ?_;rotate_left;refine' DJ.ofVal (zaa.load1 tO rfl rfl rfl rfl rfl rfl (0) rfl (hx1)) rfl rfl rfl ?_;rotate_left;(repeat refine' DD ?_);refine' DJ.ofVal (zaa.idxO tO rfl rfl rfl rfl rfl rfl rfl rfl (i+1) (zab i oM) (hl1)) rfl rfl rfl ?_;rotate_left;refine' DJ.ofVal (zaa.load1 tO rfl rfl rfl rfl rfl rfl (0) rfl (hy)) rfl rfl rfl ?_;rotate_left;(repeat refine' DD ?_);refine' DJ.ofVal (zaa.shl rfl rfl rfl rfl (by rw[pK];omega)) rfl rfl rfl ?_;rotate_left;(repeat refine' DD ?_);(refine DJ.nil (fun G hG hF=>?_);(case hS|hS2=>rfl));refine uR ?_;rw[show IntKind.i64.wrap (64-(p:Int))=((64-p:Nat):Int) by rw[pK];omega,qU,show min (64-p) IntKind.u64.bits=64-p from qm (by show _≤64;omega)];refine EVL.idxO tO rfl rfl rfl rfl rfl rfl rfl rfl rfl rfl (i) (rfl) (hlt) ?_;refine EVL.setO tO rfl rfl rfl rfl rfl rfl rfl ([]) rfl rfl rfl ((by rw[List.length_set];exact hb1)) ?_;refine uR ?_;have hw2:=(ziT (d.getD i 0) (d.getD (i+1) 0) p hp64 hx).1;have hcu2:=hcu1.set i (d.getD i 0 / 2 ^ p+d.getD (i+1) 0*2 ^ (64-p) % W64) (by simpa using hil);rw[List.set_set,List.set_set,hset]at hcu2;refine⟨(i+1,cu.set (off+q+i) (n64 (d.getD i 0 / 2 ^ p+d.getD (i+1) 0*2 ^ (64-p) % W64))),⟨rfl,rfl,rfl,?_,trivial⟩,trivial,?_,⟨by dsimp only;omega,hcu2⟩,hG,by dsimp only;omega⟩
   ·rw[zab i (by omega)];rfl
   ·dsimp only;refine(congrArg (fun c=>[(b,T,c)]) (List.set_set ..)).trans ?_;exact congrArg (fun v=>[(b,T,cu.set (off+q+i) v)]) (congrArg (Value.int .u64) hw2)
  ·rw[zcJ _ _ hl1];refine uR ?_;rw[show d.getD (i+1) 0=0 by simp[Nat.not_lt.1 hl1],Nat.zero_mul,Nat.zero_mod,qY]at hset;rw[hset]at hcu1;refine⟨(i+1,cu.set (off+q+i) (n64 (d.getD i 0 / 2 ^ p))),⟨rfl,rfl,rfl,?_,trivial⟩,trivial,rfl,⟨by dsimp only;omega,hcu1⟩,Hp.Le.refl _,by dsimp only;omega⟩;rw[zab i (by omega)];rfl
 ·rw[zcJ _ _ hlt];obtain rfl:i=d.length:=oM;rw[qO oM,qi (qH _),qG]at hcu;have ht:=zmz (H:=G) (b:=b) (T:=T) (cap:=cap-q) hcu oM oM;rw[hsl]at ht;refine uR ?_;refine vW ([(b,T,cu)]) ([]) (ht) ?_;rintro v ow H2 ⟨rfl,rfl⟩ hle2;refine uR ?_;have htl:=za5 (zdr p d);refine⟨cu,off+q,cap-q,zaI (zdr p d),z,rfl,?_,zcU hsD,by omega,by omega,rfl,?_,?_⟩
  ·have:=hcu.take (zaI (zdr p d)).length
   rwa [zd2]at this
  ·rw[zcV,hvs,hv]
  ·rw[zcV,hvs,hm]
theorem zks (n:Nat) (hn:big n) (H:Hp):PW prog 166 #[zaF n] H [] fun v ow _=>∃g,v=.slice (some ⟨g,0,none⟩) (dig W64 n).length (dig W64 n).length∧ow=[(g,61,(dig W64 n).map n64)]:=by
 have hol:(zjQ n).length=(bl n+7) / 8:=by
  have:=zaS 8 n oM;rw[show (2:Nat) ^ 8=256 by decide]at this;rw[zdd,this];omega
 have hwl:(dig W64 n).length=((zjQ n).length+7) / 8:=by
  have:=zaS 64 n oM;rw[←zaC]at this;rw[this,hol];omega
 have hD:=zlZ n;have hfin:pk 8 256 (zjQ n).reverse (dig W64 n).length=dig W64 n:=zsB n _ rfl (by rw[←zdd];omega);have hb:=zkW n hn;refine PW.body tO func166 rfl kR ntmps166 rfl rfl ?_;refine uR ?_;refine vA (hb _) ?_;rintro v H1 hs hle;generalize hm:(dig W64 n).length=m at *
 generalize dig W64 n=dn at *
 generalize zjQ n=l at *
 obtain⟨a,cap,rfl⟩:=SlC.val hs;refine uR ?_;rw[show IntKind.i64.wrap ((l.length:Int)+7)=((l.length+7:Nat):Int) from zib _ 7 (by omega)];refine EVL.asI ((m:Int)) ((by rw[hwl];exact zic _ 8 oM)) ?_;refine EVL.make tO rfl rfl rfl rfl rfl rfl rfl rfl rfl (m) (rfl) oM (by rfl) (by rfl) fun g=>?_;refine uR ?_
 have e0:(List.replicate m (Tryz.te61.zero)).flatten=(pk 8 256 (l.reverse.take 0) m).map n64:=by
  rw[List.take_zero,zo1,List.map_replicate];rw[show (Tryz.te61.zero)=[n64 0] from rfl];simp
 rw[e0]
 refine EV.loop (ι:=Nat) (fun i=>[(3,.v (.slice a l.length cap)),(4,.v (.slice (some ⟨g,0,none⟩) m m)),(14,.v (.int .i64 (l.length:Int))),(15,.v (.int .i64 (i:Int)))]) (fun _=>[]) (fun i=>[(g,61,(pk 8 256 (l.reverse.take i) m).map n64)])
  (fun i G=>i≤l.length∧SlN n8 G (.slice a l.length cap) l) (fun i=>l.length-i) 0 ⟨rfl,rfl,rfl,rfl,trivial⟩ trivial rfl (fun _=>rfl) ⟨qQ _,hs⟩ ?_
 rintro i G hG ⟨hi,hs⟩;refine uR ?_;by_cases hlt:i<l.length
 ·have him:i / 8<m:=oM;have hrl:(l.reverse.take i).length=i:=by rw[qP,List.length_reverse];omega
  have hx:l.getD (l.length-1-i) 0<256:=hD.getD (by decide) _;have hxs:(l.map n8)[l.length-1-i]?=some (n8 (l.getD (l.length-1-i) 0)):=zbI oM;have hcur:((pk 8 256 (l.reverse.take i) m).map n64)[i / 8]?=some (n64 ((pk 8 256 (l.reverse.take i) m).getD (i / 8) 0)):=zbI (by rw[zbA];exact him);have hlow:=zrF (K:=8) (B:=256) (by decide) ((hD.rev).take i) m (by rw[hrl];omega);rw[hrl]at hlow;have hsn:=zk7 (K:=8) (B:=256) (l:=l.reverse.take i) (by decide) m (l.getD (l.length-1-i) 0) (by rw[hrl];omega);rw[hrl]at hsn;rw[zeb _ _ hlt];refine uR ?_;apply EV.drawn 18 kR kR;intro xv yw;(repeat refine' DD ?_);refine' DJ.ofVal (zaa.idxP1 tO rfl rfl rfl rfl rfl rfl rfl rfl (i / 8) (q8 i oM) him) rfl rfl rfl ?_;rotate_left;refine' DJ.ofVal (zaa.load1 tO rfl rfl rfl rfl rfl rfl (0) rfl (hcur)) rfl rfl rfl ?_;rotate_left;(repeat refine' DD ?_);refine' DJ.ofVal (zaa.idx1 tO rfl rfl rfl rfl rfl rfl rfl rfl (hs) (l.length-1-i) (ztj _ _ hlt oM) oM (hxs)) rfl rfl rfl ?_;rotate_left;(repeat refine' DD ?_);refine' DJ.ofVal (zaa.shl rfl rfl rfl rfl (by rw[r8];omega)) rfl rfl rfl ?_;rotate_left;(refine DJ.nil (fun G hG hF=>?_);(case hS|hS2=>rfl));rw[r8,qU];refine uR ?_;rw[zn4 _ _ _ (by rw[Nat.pow_mul];exact hlow) hx (by omega)];refine EVL.idx0 tO rfl rfl rfl rfl rfl rfl rfl rfl rfl rfl (i / 8) (q8 i oM) (him) ?_;refine EVL.setO tO rfl rfl rfl rfl rfl rfl rfl ([]) rfl rfl rfl ((by rw[qV,zbA];exact him)) ?_;refine uR ?_
  have hnext:l.reverse.take (i+1)=l.reverse.take i++[l.getD (l.length-1-i) 0]:=by
   rw[qS (by rw[List.length_reverse];exact hlt),List.getElem_reverse,qB,qA (show l.length-1-i<l.length by omega)];rfl
  refine⟨i+1,⟨rfl,rfl,rfl,?_,trivial⟩,trivial,?_,⟨by omega,hs.mono hG⟩,hG,by omega⟩
  ·rw[zab i (by omega)];rfl
  ·rw[hnext,hsn,List.map_set,show (256:Nat) ^ (i % 8)=2 ^ (8*(i % 8)) by rw[Nat.pow_mul]];rfl
 ·rw[zcJ _ _ hlt];obtain rfl:i=l.length:=oM;rw[qO (by rw[List.length_reverse];exact qH _),hfin];refine uR ?_;exact⟨g,rfl,rfl⟩
theorem znM {H:Hp} {b off cap:Nat} {T:TypeId} {cs:List Value} {l:List Nat} (hw:Wn cs off l) (hl:Dig W64 l) (hll:l.length≤20000000) :
  PW prog 171 #[.slice (some ⟨b,off,none⟩) l.length cap] H [(b,T,cs)] fun v ow _=>ow=[(b,T,cs)]∧v=zaF (val W64 l):=by
 refine PW.body tO func171 rfl kR ntmps171 rfl rfl ?_;refine uR ?_;rw[show IntKind.i64.wrap (8*(l.length:Int))=((8*l.length:Nat):Int) from zpR 8 l.length (by omega)];generalize hN:8*l.length=N at *
 refine EVL.make tO rfl rfl rfl rfl rfl rfl rfl rfl rfl (N) (rfl) oM (by rfl) (by rfl) fun g=>?_;refine EVL.apart fun hdist=>?_
 have hgb:b≠g:=fun e=>by
  subst e;have:=hdist 0 1 b _ _ _ _ rfl rfl;cases this
 refine uR ?_
 have e0:(List.replicate N (Tryz.te5.zero)).flatten=(List.replicate N 0).map n8:=by
  rw[List.map_replicate,show (Tryz.te5.zero)=[n8 0] from rfl];simp
 rw[e0]
 refine EV.loop (ι:=Nat × List Nat) (fun q=>[(2,.p 2 0),(0,.v (.slice (some ⟨b,off,none⟩) l.length cap)),(3,.v (.slice (some ⟨g,0,none⟩) N N)),(10,.v (.int .i64 (N:Int))),(11,.v (.int .i64 (q.1:Int)))]) (fun _=>[(2,63,Tryz.te63.zero)]) (fun q=>[(g,5,q.2.map n8),(b,T,cs)])
  (fun q _=>q.1≤N∧q.2.length=N∧Dig 256 q.2∧∀j,j<q.1→q.2.getD (N-1-j) 0=val W64 l / 256 ^ j % 256) (fun q=>N-q.1) (0,List.replicate N 0) ⟨rfl,rfl,rfl,rfl,rfl,trivial⟩ ⟨rfl,trivial⟩ rfl (fun _=>rfl) ⟨qQ _,by simp,Dig.zeros (by decide) _,fun j hj=>absurd hj (Nat.not_lt_zero _)⟩ ?_
 rintro⟨i,cur⟩ G hG ⟨hi,hlen,hcD,hcs⟩;dsimp only at hi hlen hcs hcD;refine uR ?_;by_cases hlt:i<N
 ·have hwl:i / 8<l.length:=oM;have hsub:=zdM (C:=256) (k:=8) (by decide) (by decide) (l:=l) (by rw[←zcG];exact hl) i;rw[←zcG,show (256:Nat) ^ (i % 8)=2 ^ (8*(i % 8)) by rw[Nat.pow_mul]]at hsub;have hwd:=hl.getD (by decide) (i / 8);rw[zeb _ _ hlt];refine uR ?_;rw[ztj N i hlt (by omega)];refine EVL.asI (((i / 8:Nat):Int)) (q8 i oM) ?_;refine EVL.idxO tO rfl rfl rfl rfl rfl rfl rfl rfl rfl rfl (i / 8) (rfl) (hwl) ?_;refine EVL.load1 tO rfl rfl rfl rfl rfl rfl rfl rfl (1) rfl (hw.2 (i / 8) hwl) ?_;refine uR ?_;rw[r8];refine uR ?_;rw[zmk _ _ hwd oM,hsub];refine EVL.idx0 tO rfl rfl rfl rfl rfl rfl rfl rfl rfl rfl (N-1-i) (rfl) oM ?_;refine EVL.setO tO rfl rfl rfl rfl rfl rfl rfl ([]) rfl rfl rfl ((by rw[qV,hlen];omega)) ?_;refine uR ?_;refine⟨(i+1,cur.set (N-1-i) (val W64 l / 256 ^ i % 256)),⟨rfl,rfl,rfl,rfl,?_,trivial⟩,⟨rfl,trivial⟩,?_,⟨by dsimp only;omega,by dsimp only;rw[List.length_set];exact hlen,hcD.set _ _ (ql _ (by decide)),fun j hj=>?_⟩,Hp.Le.refl _,by dsimp only;omega⟩
  ·rw[zab i (by omega)];rfl
  ·dsimp only;rw[List.map_set];rfl
  ·dsimp only at hj ⊢;by_cases e:j=i
   ·subst e;exact zbD _ _ _ oM
   ·rw[getD_set_ne _ _ _ _ (by omega)];exact hcs j oM
 ·rw[zcJ _ _ hlt];obtain rfl:i=N:=oM;have hlv:=zav hl;have hb:=zmJ (val W64 l) i cur (by rw[←hN,Nat.pow_mul,←zcG];exact hlv) hlen hcs;refine uR ?_
  refine EVL.publish [] [(b,T,cs)] rfl (fun G2 hG2 hg=>?_) (fun k hk=>by
   obtain rfl:k=b:=by simpa[Ows.bs] using hk
   exact hgb)
  have hsl:SlN n8 G2 (.slice (some ⟨g,0,none⟩) i i) cur:=by
   unfold SlN;rw[hlen];exact⟨by simp[hlen],.inr ⟨g,0,i,_,rfl,qH _,hg,fun j x hj=>by simpa using hj⟩⟩
  have hf:=zdD hsl hcD oM;rw[hb]at hf;refine vA (hf) ?_;rintro v H2 rfl hle;refine uR ?_;exact⟨rfl,rfl⟩
structure OW (b off cap:Nat) (cs:List Value) (l:List Nat):Prop where
 at_:Wn cs off l
 norm:zdO W64 l
 cap:l.length≤cap
 len:l.length≤20000000
 odd:val W64 l % 2=1
structure BSt where
 (bv ov cv:Nat) (lv:List Nat) (sv:List Value)
 (bw ow cw:Nat) (lw:List Nat) (sw:List Value)
def BSt.env (q:BSt) (t:Int):Env:=[(4,.p 4 0),(5,.v (.slice (some ⟨q.bv,q.ov,none⟩) q.lv.length q.cv)),(6,.v (.slice (some ⟨q.bw,q.ow,none⟩) q.lw.length q.cw)),(7,.v (.int .i64 t))]
def BSt.own (q:BSt):Ows:=[(q.bv,61,q.sv),(q.bw,61,q.sw)]
structure BSt.ok (q:BSt) (g:Nat):Prop where
 v:OW q.bv q.ov q.cv q.sv q.lv
 w:OW q.bw q.ow q.cw q.sw q.lw
 gcd:Nat.gcd (val W64 q.lv) (val W64 q.lw)=g
theorem zsy {n:Nat} (h:n % 2=1):n≠0:=oM
theorem zd3 {α:Type} (a b:α):List.Perm [a,b] [b,a]:=List.Perm.swap b a []
theorem zoS {a b:Nat} (h:zbw a b=0):a=b:=by
 unfold zbw at h;split at h
 ·cases h
 ·split at h
  ·cases h
  ·omega
theorem zfj (n:Nat):zaF n=.agg #[.int .u64 (lo n:Int),.string (zam n)]:=rfl
theorem zh8 (x y:Nat) (hx:x≠0) (hy:y≠0) (hbx':big x) (hby':big y):PV prog 125 #[zaF x,zaF y] (zaF (Nat.gcd x y)):=by
 have lx:(dig W64 x).length≤20000000:=qI (zaM hbx') (by decide);have ly:(dig W64 y).length≤20000000:=qI (zaM hby') (by decide);have hpx:=fun G=>PO.of_pw ((zks x hbx' G).mono (Ψ:=fun v ow _=>ow.length≤1∧∃g,v=.slice (some ⟨g,0,none⟩) (dig W64 x).length (dig W64 x).length∧ow=[(g,61,(dig W64 x).map n64)]) fun v ow H' _ ⟨g,h1,h2⟩=>⟨by rw[h2];simp,g,h1,h2⟩);have hpy:=fun G=>PO.of_pw ((zks y hby' G).mono (Ψ:=fun v ow _=>ow.length≤1∧∃g,v=.slice (some ⟨g,0,none⟩) (dig W64 y).length (dig W64 y).length∧ow=[(g,61,(dig W64 y).map n64)]) fun v ow H' _ ⟨g,h1,h2⟩=>⟨by rw[h2];simp,g,h1,h2⟩);have dx:=zal zag x;have dy:=zal zag y;have vx:=zak zag x;have vy:=zak zag y;generalize dig W64 x=dgx at *
 generalize dig W64 y=dgy at *
 have hvx0:val W64 dgx≠0:=by rw[vx];exact hx
 have hvy0:val W64 dgy≠0:=by rw[vy];exact hy
 refine PV.of_pc ?_;refine BD func125 ntmps125 ?_;refine uR ?_;apply EV.drawn 6 kR kR;intro x1 y1;(repeat refine' DD ?_);refine' DJ.callO rfl rfl rfl rfl rfl (hpx gH).can (fun G _ _=>hpx G) ?_;rotate_left;(repeat refine' DD ?_);refine' DJ.callO rfl rfl rfl rfl rfl (hpy gH).can (fun G _ _=>hpy G) ?_;rotate_left;refine' DJ.copy (0+1) (.inr rfl) rfl rfl rfl id rfl kR ?_;rotate_left;refine' DJ.copy (0+1+1+1) (.inr rfl) rfl rfl rfl id rfl kR ?_;rotate_left;(refine DJ.nil (fun G hG hF=>?_);(case hS|hS2=>rfl));obtain⟨⟨gy,ey,oy⟩,⟨gx,ex,ox⟩,_⟩:=hF;simp only[ex,ey,ox,oy,id];clear hpx hpy ex ey ox oy;refine uR ?_;refine EVL.permOw [(gx,61,dgx.map n64),(gy,61,dgy.map n64)] (zd3 _ _) ?_;refine EVL.callW rfl rfl rfl rfl rfl ([(gx,61,dgx.map n64)]) ([(gy,61,dgy.map n64)]) rfl (zho (Wn.of dgx) dx.1 oM hvx0) ?_;rintro v ow H1 ⟨rfl,zx,mx,rfl,hzx,hmx,hzx2⟩ hle1;refine uR ?_;refine EVL.permOw [(gy,61,dgy.map n64),(gx,61,dgx.map n64)] (zd3 _ _) ?_;refine EVL.callW rfl rfl rfl rfl rfl ([(gy,61,dgy.map n64)]) ([(gx,61,dgx.map n64)]) rfl (zho (Wn.of dgy) dy.1 oM hvy0) ?_;rintro v ow H2 ⟨rfl,zy,my,rfl,hzy,hmy,hzy2⟩ hle2;refine uR ?_;rw[show (if (zy:Int)<(zx:Int) then (zy:Int) else (zx:Int))=((min zx zy:Nat):Int) by split <;> omega];refine uR ?_;refine EVL.permOw [(gx,61,dgx.map n64),(gy,61,dgy.map n64)] (zd3 _ _) ?_;refine EVL.callW rfl rfl rfl rfl rfl ([(gx,61,dgx.map n64)]) ([(gy,61,dgy.map n64)]) rfl (zi2 (Wn.of dgx) dx.1 oM (qH _) hvx0) ?_;rintro v ow H3 ⟨sx,ox,cx,rx,zx',rfl,hwx,hnx,hlx,hcx,rfl,hdx,hox⟩ hle3;refine uR ?_;refine EVL.permOw [(gy,61,dgy.map n64),(gx,61,sx)] (zd3 _ _) ?_;refine EVL.callW rfl rfl rfl rfl rfl ([(gy,61,dgy.map n64)]) ([(gx,61,sx)]) rfl (zi2 (Wn.of dgy) dy.1 oM (qH _) hvy0) ?_;rintro v ow H4 ⟨sy,oy,cy,ry,zy',rfl,hwy,hny,hly,hcy,rfl,hdy,hoy⟩ hle4;refine EVL.permOw [(gx,61,sx),(gy,61,sy)] (zd3 _ _) ?_
 have hgcd:Nat.gcd x y=2 ^ min zx zy*Nat.gcd (val W64 rx) (val W64 ry):=by
  have e1:zx=zx':=zl0 (by rw[←hzx,hdx]) hmx hox;have e2:zy=zy':=zl0 (by rw[←hzy,hdy]) hmy hoy;subst e1 e2;rw[←vx,←vy];exact zm2 _ _ zx zy _ _ hdx hdy hox hoy
 have htw:min zx zy≤1300000000:=oM;generalize min zx zy=tw at *
 generalize hg:Nat.gcd (val W64 rx) (val W64 ry)=g at *
 have hbg:big (Nat.gcd x y):=qI (zkF x y hx) hbx';generalize Nat.gcd x y=gg at *
 refine uR ?_
 refine EV.loop (ι:=BSt) (fun q=>q.env (tw:Int)) (fun _=>[(4,63,Tryz.te63.zero)]) (fun q=>q.own) (fun q _=>q.ok g) (fun q=>val W64 q.lv+val W64 q.lw) ⟨gx,ox,cx,rx,sx,gy,oy,cy,ry,sy⟩
  ⟨rfl,rfl,rfl,rfl,trivial⟩ ⟨rfl,trivial⟩ rfl (fun _=>rfl) ⟨⟨hwx,hnx,hcx,qI hlx lx,hox⟩,⟨hwy,hny,hcy,qI hly ly,hoy⟩,hg⟩ ?_
 clear hdx hdy hzx hzy hwx hnx hlx hcx hwy hny hly hcy hox hoy hle1 hle2 hle3 hle4 hg;rintro⟨bv,ov,cv,lv,sv,bw,ow,cw,lw,sw⟩ G hG ⟨⟨v1,v2,v3,v4,v5⟩,⟨w1,w2,w3,w4,w5⟩,hgq⟩;dsimp only at v1 v2 v3 v4 v5 w1 w2 w3 w4 w5 hgq;unfold BSt.env BSt.own;dsimp only;refine uR ?_;refine EVL.callW rfl rfl rfl rfl rfl ([(bv,61,sv),(bw,61,sw)]) ([]) rfl (zll v1 w1 v2 w2 oM) ?_;rintro v ow1 H5 ⟨rfl,rfl⟩ hle5;refine uR ?_;by_cases hc0:zbw (val W64 lv) (val W64 lw)=0
 ·rw[show (zbw (val W64 lv) (val W64 lw) == 0)=true by rw[hc0];rfl];have hvw:=zoS hc0;rw[←hvw,Nat.gcd_self]at hgq;refine uR ?_;refine vW ([(bv,61,sv)]) ([(bw,61,sw)]) (znM v1 v2.1 v4) ?_;rintro v ow2 H6 ⟨rfl,rfl⟩ hle6;rw[hgq,zfj];refine uR ?_
  refine EV.loop (ι:=Int × Nat) (fun q=>[(4,.p 4 0),(9,.p 9 0),(7,.v (.int .i64 q.1))]) (fun q=>[(9,63,[.int .u64 (lo q.2:Int),.string (zam q.2)]),(4,63,Tryz.te63.zero)]) (fun _=>[(bv,61,sv),(bw,61,sw)])
   (fun q _=>q.2*2 ^ q.1.toNat=gg∧q.1≤1300000000 ∧ -100000≤q.1) (fun q=>q.1.toNat) ((tw:Int),g) ⟨rfl,rfl,rfl,trivial⟩ ⟨rfl,rfl,trivial⟩ rfl (fun _=>rfl) ⟨by dsimp only;rw[qU,hgcd,qW],by dsimp only;omega,by dsimp only;omega⟩ ?_
  rintro⟨t,o⟩ G2 hG2 ⟨ht,ht1,ht2⟩;dsimp only at ht ht1 ht2;refine uR ?_;by_cases htp:t>0
  ·rw[show decide (t>0)=true by simpa using htp];obtain⟨k,hk,hkt⟩:∃k:Nat,(if (65536:Int)<t then (65536:Int) else t)=(k:Int)∧k=min t.toNat 65536:=⟨min t.toNat 65536,by split <;> omega,rfl⟩
   have hbo:big o:=by
    refine qI (zbC ?_) hbg;rw[←ht];exact Nat.le_mul_of_pos_right _ (Nat.pow_pos (by decide))
   have hsh:=zk0 o k oM hbo;refine uR ?_;rw[hk]
   repeat (first|refine RUN ?_|refine CV (hsh) ?_|refine CE (hsh) ?_)
   refine⟨(t-65536,o*2 ^ k),⟨rfl,rfl,?_,trivial⟩,⟨rfl,rfl,trivial⟩,rfl,⟨?_,by dsimp only;omega,by dsimp only;omega⟩,Hp.Le.refl _,by dsimp only;omega⟩
   ·rw[show IntKind.i64.wrap (t-65536)=t-65536 by rw[pK];omega];rfl
   ·dsimp only;rw[←ht,Nat.mul_assoc,←Nat.pow_add];congr 2;omega
  ·rw[show decide (t>0)=false by simpa using htp];rw[show t.toNat=0 by omega,Nat.pow_zero,Nat.mul_one]at ht;subst ht;refine uR ?_;rfl
 ·rw[show (zbw (val W64 lv) (val W64 lw) == 0)=false by simpa using hc0];refine uR ?_;refine EV.meet (fun env' bx' H'=>∃q:BSt,zez env' (q.env (tw:Int))∧zeC bx' [(4,63,Tryz.te63.zero)]∧H'.ow=q.own∧G.Le H'.ro∧q.ok g∧val W64 q.lw<val W64 q.lv∧val W64 q.lv+val W64 q.lw=val W64 lv+val W64 lw) ?_ ?_
  ·rintro env' bx' ⟨G6,ow6,base6⟩ _ ⟨⟨bv,ov,cv,lv,sv,bw,ow,cw,lw,sw⟩,he,hbx6,how,hleG,⟨⟨v1,v2,v3,v4,v5⟩,⟨w1,w2,w3,w4,w5⟩,hgq⟩,hlt,hsum⟩;dsimp only at v1 v2 v3 v4 v5 w1 w2 w3 w4 w5 hgq hlt hsum;refine EV.less _ _ he hbx6 rfl ?_;unfold BSt.own at how;dsimp only at how;subst how;unfold BSt.env;dsimp only
   have hlen:lw.length≤lv.length:=by
    refine Nat.le_of_not_lt fun h=>?_;have:=zdS zag v2.1 w2 h;omega
   refine uR ?_;refine EVL.callW rfl rfl rfl rfl rfl ([(bv,61,sv),(bw,61,sw)]) ([]) rfl (zkq v1 w1 v2.1 w2.1 oM hlen v3 oM) ?_;rintro v ow7 H7 ⟨s7,r7,rfl,hw7,hn7,hl7,rfl,hv7⟩ hle7;refine uR ?_;refine EVL.callW rfl rfl rfl rfl rfl ([(bv,61,s7)]) ([(bw,61,sw)]) rfl (zi2 hw7 hn7.1 oM oM oM) ?_;rintro v ow8 H8 ⟨s8,o8,c8,r8,z8,rfl,hw8,hn8,hl8,hc8,rfl,hd8,ho8⟩ hle8;refine uR ?_;have hr:=zon (val W64 lv) (val W64 lw) z8 (val W64 r8) w5 oM (by rw[←hv7];exact hd8);have hle9:val W64 r8≤val W64 r7:=by rw[hd8];exact Nat.le_mul_of_pos_left _ (Nat.pow_pos (by decide))
   refine⟨⟨bv,o8,c8,r8,s8,bw,ow,cw,lw,sw⟩,⟨rfl,rfl,rfl,rfl,trivial⟩,⟨rfl,trivial⟩,rfl,⟨⟨hw8,hn8,hc8,by dsimp only;omega,ho8⟩,⟨w1,w2,w3,w4,w5⟩,by dsimp only;rw[hr];exact hgq⟩,(hleG.trans hle7).trans hle8,?_⟩;dsimp only;have:=zsy w5;omega
  ·by_cases hlt:zbw (val W64 lv) (val W64 lw)<0
   ·rw[show decide (zbw (val W64 lv) (val W64 lw)<0)=true by simpa using hlt]
    have hvl:val W64 lv<val W64 lw:=by
     unfold zbw at hlt;split at hlt
     ·assumption
     ·split at hlt <;> simp at hlt
    refine EV.permOw [(bw,61,sw),(bv,61,sv)] (zd3 _ _) ?_;refine uR ?_;exact⟨⟨bw,ow,cw,lw,sw,bv,ov,cv,lv,sv⟩,⟨rfl,rfl,rfl,rfl,trivial⟩,⟨rfl,trivial⟩,rfl,hle5,⟨⟨w1,w2,w3,w4,w5⟩,⟨v1,v2,v3,v4,v5⟩,by dsimp only;rw[Nat.gcd_comm];exact hgq⟩,hvl,Nat.add_comm _ _⟩
   ·rw[show decide (zbw (val W64 lv) (val W64 lw)<0)=false by simpa using hlt]
    have hvl:val W64 lw<val W64 lv:=by
     unfold zbw at hlt hc0;split at hlt
     ·simp at hlt
     ·rename_i h1;rw[if_neg h1]at hc0;split at hc0
      ·assumption
      ·simp at hc0
    refine uR ?_;exact⟨⟨bv,ov,cv,lv,sv,bw,ow,cw,lw,sw⟩,⟨rfl,rfl,rfl,rfl,trivial⟩,⟨rfl,trivial⟩,rfl,hle5,⟨⟨v1,v2,v3,v4,v5⟩,⟨w1,w2,w3,w4,w5⟩,hgq⟩,hvl,rfl⟩
theorem zsd (c1 c2:Nat) (h1:big c1) (h2:big c2) (sx sy:Bool) (hsx:c1=0→sx=false) (hsy:c2=0→sy=false) :
  PV prog 73 #[.agg #[.bool sx,.int .u64 (lo c1:Int),.string (zam c1)],.agg #[.bool sy,.int .u64 (lo c2:Int),.string (zam c2)]] (zaF (Nat.gcd c1 c2)):=by
 refine PV.of_pc ?_;refine BD func73 ntmps73 ?_;refine uR ?_
 (apply EV.drawn 7 kR kR;intro xv yw;(repeat (first|refine' DD ?_));refine DJ.nil (fun G hG hF=>?_);(case hS|hS2=>rfl))
 repeat (first|refine RUN ?_|refine CV (zaO c1 c2 h1 h2) ?_|refine CE (zaO c1 c2 h1 h2) ?_)
 refine EV.meet (fun env' bx' H'=>∃u w:Nat,zez env' [(4,.p 4 0),(5,.p 5 0),(6,.p 6 0)]∧zeC bx' [(4,63,Tryz.te63.zero),(5,63,[.int .u64 (lo u:Int),.string (zam u)]),(6,63,[.int .u64 (lo w:Int),.string (zam w)])]∧H'.ow=[]∧w≤u∧big u∧big w∧Nat.gcd u w=Nat.gcd c1 c2) ?_ ?_
 ·rintro env' bx' ⟨G1,ow1,base1⟩ hb ⟨u,w,he,hbx,how,hwu,hu,hw,hg⟩;obtain rfl:base1=⟨fun _=>none,[]⟩:=hb;obtain rfl:ow1=[]:=how;refine EV.less _ _ he hbx rfl ?_;clear h1 h2 hsx hsy hbx he;generalize Nat.gcd c1 c2=gg at *
  subst hg
  repeat (first|refine RUN ?_|refine CV (za6 w hw) ?_|refine CE (za6 w hw) ?_)
  rw[zbQ];by_cases hw0:w=0
  ·subst hw0;rw[qD rfl,Nat.gcd_zero_right];refine uR ?_;rfl
  ·rw[qC hw0]
   repeat (first|refine RUN ?_|refine CV (zeV u w hw0 hu hw) ?_|refine CE (zeV u w hw0 hu hw) ?_)
   have hm:u % w<w:=ql _ oM;have hgr:Nat.gcd u w=Nat.gcd w (u % w):=by rw[Nat.gcd_comm,Nat.gcd_rec,Nat.gcd_comm]
   have hbm:big (u % w):=qI (ztl u w) hu;rw[hgr];generalize u % w=r at *
   generalize u / w=qq at *
   clear hgr hwu hu;rw[zfj,zfj];refine uR ?_;refine EV.less [(4,.p 4 0),(5,.p 5 0),(6,.p 6 0),(8,.p 8 0)] ([(5,63,[.int .u64 (lo u:Int),.string (zam u)]),(4,63,Tryz.te63.zero),(6,63,[.int .u64 (lo w:Int),.string (zam w)]),(8,63,[.int .u64 (lo r:Int),.string (zam r)])]) ⟨rfl,rfl,rfl,rfl,trivial⟩ ⟨rfl,rfl,rfl,rfl,trivial⟩ rfl ?_;apply EV.drawnS ([(5,63,[.int .u64 (lo u:Int),.string (zam u)])]) 3 kR kR;intro xv yw;(repeat refine' DD ?_);(refine DJ.nil (fun G hG hF=>?_);(case hS|hS2=>rfl);(case hD=>rfl))
   repeat (first|refine RUN ?_|refine CV (za6 r hbm) ?_|refine CE (za6 r hbm) ?_)
   rw[zbQ];by_cases hr0:r=0
   ·subst hr0;rw[qD rfl,Nat.gcd_zero_right];refine uR ?_;rfl
   ·rw[qC hr0]
    repeat (first|refine RUN ?_|refine CV (zdc w) ?_|refine CE (zdc w) ?_)
    by_cases hws:w<W64
    ·have hrs:r<W64:=oM;rw[qD hws,if_pos hws]
     repeat (first|refine RUN ?_|refine CV (zdc r) ?_|refine CE (zdc r) ?_)
     rw[qD hrs,if_pos hrs];refine uR ?_;refine EV.loop (ι:=Nat × Nat) (fun q=>[(4,.p 4 0),(10,.v (n64 q.1)),(12,.v (n64 q.2))]) (fun _=>[(4,63,Tryz.te63.zero)]) (fun _=>[]) (fun q _=>q.1<W64∧q.2<W64∧Nat.gcd q.1 q.2=Nat.gcd w r) (fun q=>q.2) (w,r) ⟨rfl,rfl,rfl,trivial⟩ ⟨rfl,trivial⟩ rfl (fun _=>rfl) ⟨hws,hrs,rfl⟩ ?_;rintro⟨m,k⟩ G2 hG2 ⟨hms,hks,hgk⟩;dsimp only at hms hks hgk;refine uR ?_;by_cases hk0:k=0
     ·subst hk0;rw[show decide ((((m,0):Nat × Nat).2:Int)>0)=false from rfl];rw[Nat.gcd_zero_right]at hgk
      repeat (first|refine RUN ?_|refine CV (zcD m hms) ?_|refine CE (zcD m hms) ?_)
      rw[hgk]
     ·rw[show decide ((((m,k):Nat × Nat).2:Int)>0)=true by simp;omega];refine uR ?_;apply EV.drawn 6 kR kR;intro xv yw;(repeat refine' DD ?_);refine' DJ.ofVal (zaa.rem rfl rfl rfl rfl (show ((k:Nat):Int)≠0 by omega)) rfl rfl rfl ?_;rotate_left;(repeat refine' DD ?_);(refine DJ.nil (fun G hG hF=>?_);(case hS|hS2=>rfl));rw[show (((m,k):Nat × Nat).1:Int).tmod (((m,k):Nat × Nat).2:Int)=((m % k:Nat):Int) from zko m k];refine uR ?_;refine⟨(k,m % k),⟨rfl,rfl,rfl,trivial⟩,⟨rfl,trivial⟩,rfl,⟨hks,Nat.lt_of_le_of_lt (Nat.mod_le m k) hms,?_⟩,hG,ql _ oM⟩
      ·dsimp only;rw[←hgk,Nat.gcd_comm m k,Nat.gcd_rec k m,Nat.gcd_comm]
    ·rw[qC hws]
     repeat (first|refine RUN ?_|refine CV (zh8 w r hw0 hr0 hw hbm) ?_|refine CE (zh8 w r hw0 hr0 hw hbm) ?_)
     rfl
 ·by_cases hlt:c1<c2
  ·rw[zcb hlt,show decide ((-1:Int)<0)=true from rfl];refine uR ?_;exact⟨c2,c1,⟨rfl,rfl,rfl,trivial⟩,⟨rfl,rfl,rfl,trivial⟩,rfl,by omega,h2,h1,Nat.gcd_comm _ _⟩
  ·rw[show decide (zbw c1 c2<0)=false by unfold zbw;rw[if_neg hlt];split <;> rfl];refine uR ?_;exact⟨c1,c2,⟨rfl,rfl,rfl,trivial⟩,⟨rfl,rfl,rfl,trivial⟩,rfl,by omega,h1,h2,rfl⟩
theorem zjC (a b:Int) (ha:zfO a) (hb:zfO b):PV prog 73 #[zem a,zem b] (zaF (Nat.gcd a.natAbs b.natAbs)) :=
 zsd a.natAbs b.natAbs ha hb _ _ (fun h=>by simp;omega) (fun h=>by simp;omega)
abbrev frV (n:Int) (d:Nat):Value:=.agg #[.bool (decide (n<0)),.int .u64 (lo n.natAbs:Int),.string (zam n.natAbs),.int .u64 (lo d:Int),.string (zam d)]
def dk (d:Nat):Nat:=if d=1 then 0 else d
abbrev zae (q:Rat):Value:=frV q.num (dk q.den)
theorem zoi:dk 1=0:=rfl
theorem ztp {d:Nat} (h:d≠1):dk d=d:=if_neg h
theorem zto (d:Nat):bl (dk d)≤bl d:=by
 unfold dk;split
 ·rw[zbt];omega
 ·exact qH _
theorem zoj (q:Rat):dk q.den=0↔q.den=1:=by
 have:=q.den_nz;unfold dk;split <;> omega
theorem ztm:bl 1=1:=by have:=zgg 0;simpa using this
theorem zjg {n:Nat}:bl n=1↔n=1:=by
 constructor
 ·intro h;have h1:=zfh n;rw[h]at h1;have:n≠0:=fun e=>by rw[e,zbt]at h;omega
  omega
 ·rintro rfl;exact ztm
theorem zhB (n:Nat):(((bl n:Nat):Int) == 1)=decide (n=1):=by
 by_cases h:n=1
 ·rw[qD h,zjg.2 h];rfl
 ·rw[qC h];have:bl n≠1:=fun e=>h (zjg.1 e);simp;omega
theorem zdR (n:Int):frV n 0=.agg #[.bool (decide (n<0)),.int .u64 (lo n.natAbs:Int),.string (zam n.natAbs),.int .u64 0,.string ⟨#[]⟩]:=by
 unfold frV;rw[zbV (n:=0) (by decide)];rfl
theorem ziF (n:Int) (d:Nat) (hd:big d):PV prog 77 #[zem n,zaF d] (frV n (dk d)):=by
 refine PV.of_pc ?_;refine BD func77 ntmps77 ?_
 repeat (first|refine RUN ?_|refine CV (za6 d hd) ?_|refine CE (za6 d hd) ?_)
 rw[zhB];by_cases h:d=1
 ·rw[qD h];refine uR ?_;rw[h,zoi,zdR]
 ·rw[qC h];refine uR ?_;rw[ztp h]
theorem zeo (a b:Nat) (ha:big a) (hb:big b) (h0:b≠0):PV prog 75 #[zaF a,zaF b] (zaF (a / b)):=by
 refine PV.of_pc ?_;refine BD func75 ntmps75 ?_
 repeat (first|refine RUN ?_|refine CV (za6 b hb) ?_|refine CE (za6 b hb) ?_)
 rw[zhB];by_cases h:b=1
 ·rw[qD h];refine uR ?_;rw[h,Nat.div_one]
 ·rw[qC h]
  repeat (first|refine RUN ?_|refine CV (zeV a b h0 ha hb) ?_|refine CE (zeV a b h0 ha hb) ?_)
  rfl
theorem ziG (n:Int) (b:Nat) (hn:zfO n) (hb:big b) (h0:b≠0) (hdv:b ∣ n.natAbs):PV prog 78 #[zem n,zaF b] (zem (n / (b:Int))):=by
 have hs:decide (n.sign<0)=decide (n<0):=by rw[decide_eq_decide];exact Int.sign_neg_iff
 have hf:=zbu (decide (n<0)) (n.natAbs / b) (qI (zfy _ _) hn)
 have e:sg (decide (n<0)) (n.natAbs / b)=n / (b:Int):=by
  rw[zoY n b hdv];unfold sg;by_cases h:n<0 <;> simp[h]
 rw[e]at hf;refine PV.of_pc ?_;refine BD func78 ntmps78 ?_;refine uR ?_;apply EV.drawn 7 kR kR;intro xv yw;(repeat (first|refine' DD ?_|(refine' DC (zbn n hn) (h:=?_);rotate_left)));rw[hs];(repeat (first|refine' DD ?_|(refine' DC (zdk n) (h:=?_);rotate_left)|(refine' DC (zeo _ _ hn hb h0) (h:=?_);rotate_left)));(refine DJ.nil (fun G hG hF=>?_);(case hS|hS2=>rfl))
 repeat (first|refine RUN ?_|refine CV (hf) ?_|refine CE (hf) ?_)
 rfl
theorem zf6 (n:Int) (d:Nat) (hn:zfO n) (hd:big d) (hnd:big (n.natAbs*d)):PV prog 76 #[zem n,zaF d] (zem (n*d)):=by
 have hm:=zhl n (d:Int) hn hd (by show big (n*(d:Int)).natAbs;rw[Int.natAbs_mul];exact hnd);refine PV.of_pc ?_;refine BD func76 ntmps76 ?_;refine uR ?_;apply EV.drawn 3 kR kR;intro xv yw;(repeat (first|refine' DD ?_|(refine' DC (zbu false d hd) (h:=?_);rotate_left)));(refine DJ.nil (fun G hG hF=>?_);(case hS|hS2=>rfl))
 repeat (first|refine RUN ?_|refine CV (hm) ?_|refine CE (hm) ?_)
 rfl
theorem zbp (q:Rat) (h:big q.den):PV prog 71 #[zae q] (.bool (decide (q.den=1))):=by
 refine PV.of_pc ?_;refine BD func71 ntmps71 ?_
 repeat (first|refine RUN ?_|refine CV (za6 (dk q.den) (qI (zto _) h)) ?_|refine CE (za6 (dk q.den) (qI (zto _) h)) ?_)
 have e:(((bl (dk q.den):Nat):Int) == 0)=decide (q.den=1):=by
  by_cases h1:q.den=1
  ·rw[qD h1,(zoj q).2 h1,zbt];rfl
  ·rw[qC h1];have h2:bl (dk q.den)≠0:=fun e=>h1 ((zoj q).1 (zhC.1 e));simp;omega
 rw[e]
theorem zgs (q:Rat) (h:big q.den):PV prog 74 #[zae q] (zaF q.den):=by
 refine PV.of_pc ?_;refine BD func74 ntmps74 ?_
 repeat (first|refine RUN ?_|refine CV (zbp q h) ?_|refine CE (zbp q h) ?_)
 by_cases h1:q.den=1
 ·rw[qD h1]
  repeat (first|refine RUN ?_|refine CV (zcD 1 (by decide)) ?_|refine CE (zcD 1 (by decide)) ?_)
  rw[h1]
 ·rw[qC h1];refine uR ?_;rw[ztp h1]
theorem zcd (q:Rat) (h:zfO q.num):PV prog 20 #[zae q] (.int .i64 q.num.sign):=by
 refine PV.of_pc ?_;refine BD func20 ntmps20 ?_
 repeat (first|refine RUN ?_|refine CV (zbn q.num h) ?_|refine CE (zbn q.num h) ?_)
 rfl
theorem ztE (q:Rat) (h:zfO q.num):PV prog 205 #[zae q] (zae (-q)):=by
 refine PV.of_pc ?_;refine BD func205 ntmps205 ?_;refine uR ?_
 (apply EV.drawn 5 kR kR;intro xv yw;(repeat (first|refine' DD ?_|(refine' DC (zew q.num h) (h:=?_);rotate_left)));refine DJ.nil (fun G hG hF=>?_);(case hS|hS2=>rfl));refine uR ?_;rfl
theorem zhv (z:Int) (h1:-9223372036854775808≤z) (h2:z<9223372036854775808):PV prog 178 #[.int .i64 z] (zae (z:Rat)):=by
 refine PV.of_pc ?_;refine BD func178 ntmps178 ?_
 repeat (first|refine RUN ?_|refine CV (zia z h1 h2) ?_|refine CE (zia z h1 h2) ?_)
 show _=frV z 0;rw[zdR]
theorem zjH (n:Int) (d:Nat) (hn:zfO n) (hd:big d) (h0:d≠0):PV prog 103 #[zem n,zaF d] (zae (mkRat n d)):=by
 have hl:=zdV n d h0;have hg0:Nat.gcd n.natAbs d≠0:=Nat.gcd_ne_zero_right h0;have hgb:big (Nat.gcd n.natAbs d):=qI (zb2 _ _ h0) hd;have hg:=zjC n (d:Int) hn hd;have f1:=ziG n (Nat.gcd n.natAbs d) hn hgb hg0 (Nat.gcd_dvd_left ..);have f2:=zeo d (Nat.gcd n.natAbs d) hd hgb hg0;have f3:=ziF (n / (Nat.gcd n.natAbs d:Nat)) (d / Nat.gcd n.natAbs d) (qI (zfy _ _) hd);rw[←hl.1]at f1;rw[←hl.2]at f2;rw[←hl.1,←hl.2]at f3;refine PV.of_pc ?_;refine BD func103 ntmps103 ?_;refine uR ?_
 (apply EV.drawn 5 kR kR;intro xv yw;(repeat (first|refine' DD ?_|(refine' DC (zbu false d hd) (h:=?_);rotate_left)|(refine' DC (hg) (h:=?_);rotate_left)));refine DJ.nil (fun G hG hF=>?_);(case hS|hS2=>rfl));refine uR ?_
 (apply EV.drawn 7 kR kR;intro xv yw;(repeat (first|refine' DD ?_|(refine' DC (f1) (h:=?_);rotate_left)|(refine' DC (f2) (h:=?_);rotate_left)|(refine' DC (f3) (h:=?_);rotate_left)));refine DJ.nil (fun G hG hF=>?_);(case hS|hS2=>rfl));refine uR ?_;rfl
theorem zsr (n d:Int) (hn:zfO n) (hd:zfO d) (h0:d≠0):PV prog 59 #[zem n,zem d] (.tuple #[zae (mkRat (if d<0 then -n else n) d.natAbs),.bool true]):=by
 have l1:=zjH (-n) d.natAbs (by show big (-n).natAbs;rw[Int.natAbs_neg];exact hn) hd oM;have l2:=zjH n d.natAbs hn hd oM;refine PV.of_pc ?_;refine BD func59 ntmps59 ?_
 repeat (first|refine RUN ?_|refine CV (zbn d hd) ?_|refine CE (zbn d hd) ?_)
 rw[show (d.sign == 0)=false by simp[Int.sign_eq_zero_iff_zero,h0]]
 repeat (first|refine RUN ?_|refine CV (zbn d hd) ?_|refine CE (zbn d hd) ?_)
 by_cases h:d<0
 ·rw[qD (Int.sign_neg_iff.2 h),if_pos h]
  repeat (first|refine RUN ?_|refine CV (zew n hn) ?_|refine CE (zew n hn) ?_)
  apply EV.drawn 3 kR kR;intro xv yw;(repeat (first|refine' DD ?_|(refine' DC (zdk d) (h:=?_);rotate_left)));(refine DJ.nil (fun G hG hF=>?_);(case hS|hS2=>rfl))
  repeat (first|refine RUN ?_|refine CV (l1) ?_|refine CE (l1) ?_)
  rfl
 ·rw[qC (fun e=>h (Int.sign_neg_iff.1 e)),if_neg h];refine uR ?_;apply EV.drawn 3 kR kR;intro xv yw;(repeat (first|refine' DD ?_|(refine' DC (zdk d) (h:=?_);rotate_left)));(refine DJ.nil (fun G hG hF=>?_);(case hS|hS2=>rfl))
  repeat (first|refine RUN ?_|refine CV (l2) ?_|refine CE (l2) ?_)
  rfl
abbrev frL (n:Int) (d:Nat):List Value:=[.bool (decide (n<0)),.int .u64 (lo n.natAbs:Int),.string (zam n.natAbs),.int .u64 (lo d:Int),.string (zam d)]
abbrev sm (q:Rat):Prop:=ht q≤100000000
theorem sm.num {q:Rat} (h:sm q):bl q.num.natAbs≤100000000:=qI (zbi q) h
theorem sm.den {q:Rat} (h:sm q):bl q.den≤100000000:=qI (za3 q) h
theorem zoI (a b:Rat) (ha:sm a) (hb:sm b):PV prog 182 #[zae a,zae b] (zae (a*b)):=by
 have na:=ha.num;have da:=ha.den;have nb:=hb.num;have db:=hb.den;have bna:zfO a.num:=qI na oM;have bnb:zfO b.num:=qI nb oM;have bda:big a.den:=qI da oM;have bdb:big b.den:=qI db oM;have hm:=zsG a b _ _ rfl rfl;generalize hg:Nat.gcd a.num.natAbs b.den=g at hm;generalize hh:Nat.gcd b.num.natAbs a.den=h at hm;have hg0:g≠0:=by rw[←hg];exact Nat.gcd_ne_zero_right b.den_nz
 have hh0:h≠0:=by rw[←hh];exact Nat.gcd_ne_zero_right a.den_nz
 have bg:big g:=by rw[←hg];exact qI (zb2 _ _ b.den_nz) bdb
 have bh:big h:=by rw[←hh];exact qI (zb2 _ _ a.den_nz) bda
 have g1:=zjC a.num (b.den:Int) bna bdb;have g2:=zjC b.num (a.den:Int) bnb bda;rw[Int.natAbs_natCast,hg]at g1;rw[Int.natAbs_natCast,hh]at g2;have p1:=ziG a.num g bna bg hg0 (by rw[←hg];exact Nat.gcd_dvd_left ..);have p2:=ziG b.num h bnb bh hh0 (by rw[←hh];exact Nat.gcd_dvd_left ..);have b1:bl (a.num / (g:Int)).natAbs≤100000000:=qI (zbC (zcK _ _)) na;have b2:bl (b.num / (h:Int)).natAbs≤100000000:=qI (zbC (zcK _ _)) nb;have b3:bl (a.den / h)≤100000000:=qI (zfy _ _) da;have b4:bl (b.den / g)≤100000000:=qI (zfy _ _) db
 have m1:=zhl (a.num / (g:Int)) (b.num / (h:Int)) (qI b1 oM) (qI b2 oM) (by
  show big (_*_:Int).natAbs;rw[Int.natAbs_mul];have:=zbh (a.num / (g:Int)).natAbs (b.num / (h:Int)).natAbs;show bl _≤_;omega)
 have m2:=zgL (a.den / h) (b.den / g) (qI b3 oM) (qI b4 oM);have pk:=ziF (a*b).num (a*b).den (by rw[hm.2];have:=zbh (a.den / h) (b.den / g);show bl _≤_;omega);have o1:=zeo a.den h bda bh hh0;have o2:=zeo b.den g bdb bg hg0;rw[←hm.1]at m1;rw[←hm.2]at m2;have w1:=zbp a bda;have w2:=zbp b bdb;refine PV.of_pc ?_;refine BD func182 ntmps182 ?_
 repeat (first|refine RUN ?_|refine CV (w1) ?_|refine CE (w1) ?_)
 refine EVL.meet (fun env' bx' H'=>zez env' [(12,.v (.bool (decide (a.den=1∧b.den=1)))),(4,.p 4 0),(3,.p 3 0),(2,.p 2 0)]∧zeC bx' [(4,67,Tryz.te67.zero),(3,67,frL b.num (dk b.den)),(2,67,frL a.num (dk a.den))]∧H'=⟨fun _=>none,[],⟨fun _=>none,[]⟩⟩) ?_ ?_
 ·rintro env' bx' H' _ ⟨he,hbx,rfl⟩;refine EV.less _ _ he hbx rfl ?_;by_cases hab:a.den=1∧b.den=1
  ·rw[qD hab];have e1:g=1:=by rw[←hg,hab.2,Nat.gcd_one_right]
   have e2:h=1:=by rw[←hh,hab.1,Nat.gcd_one_right]
   have e3:(a*b).den=1:=by rw[hm.2,hab.1,hab.2,e1,e2]
   rw[e1,e2]at m1;simp only[Int.natCast_one,Int.ediv_one]at m1
   repeat (first|refine RUN ?_|refine CV (m1) ?_|refine CE (m1) ?_)
   show _=frV (a*b).num (dk (a*b).den);rw[e3,zoi,zdR]
  ·rw[qC hab];refine uR ?_;have d1:=zgs a bda;have d2:=zgs b bdb;have s1:=zbu false a.den bda;have s2:=zbu false b.den bdb
   (apply EV.drawn 7 kR kR;intro xv yw;(repeat (first|refine' DD ?_|(refine' DC (d2) (h:=?_);rotate_left)|(refine' DC (s2) (h:=?_);rotate_left)|(refine' DC (g1) (h:=?_);rotate_left)));refine DJ.nil (fun G hG hF=>?_);(case hS|hS2=>rfl));refine uR ?_
   (apply EV.drawn 7 kR kR;intro xv yw;(repeat (first|refine' DD ?_|(refine' DC (d1) (h:=?_);rotate_left)|(refine' DC (s1) (h:=?_);rotate_left)|(refine' DC (g2) (h:=?_);rotate_left)));refine DJ.nil (fun G hG hF=>?_);(case hS|hS2=>rfl));refine uR ?_;apply EV.drawn 16 kR kR;intro xv yw;(repeat (first|refine' DD ?_|(refine' DC (p1) (h:=?_);rotate_left)|(refine' DC (p2) (h:=?_);rotate_left)|(refine' DC (m1) (h:=?_);rotate_left)|(refine' DC (d1) (h:=?_);rotate_left)|(refine' DC (d2) (h:=?_);rotate_left)|(refine' DC (o1) (h:=?_);rotate_left)|(refine' DC (o2) (h:=?_);rotate_left)));(refine DJ.nil (fun G hG hF=>?_);(case hS|hS2=>rfl))
   repeat (first|refine RUN ?_|refine CV (o2) ?_|refine CV (m2) ?_|refine CV (pk) ?_|refine CE (o2) ?_|refine CE (m2) ?_|refine CE (pk) ?_)
   rfl
 ·by_cases ha1:a.den=1
  ·rw[qD ha1]
   repeat (first|refine RUN ?_|refine CV (w2) ?_|refine CE (w2) ?_)
   refine⟨⟨?_,rfl,rfl,rfl,trivial⟩,⟨rfl,rfl,rfl,trivial⟩,rfl⟩;simp[ha1];rfl
  ·rw[qC ha1];refine uR ?_;refine⟨⟨?_,rfl,rfl,rfl,trivial⟩,⟨rfl,rfl,rfl,trivial⟩,rfl⟩;simp[ha1];rfl
theorem zeD (a b:Rat) (ha:sm a) (hb:sm b):PV prog 40 #[zae a,zae b] (zae (a+b)):=by
 have na:=ha.num;have da:=ha.den;have nb:=hb.num;have db:=hb.den;have bna:zfO a.num:=qI na oM;have bnb:zfO b.num:=qI nb oM;have bda:big a.den:=qI da oM;have bdb:big b.den:=qI db oM;have hm:=zsE a b _ _ _ _ _ rfl rfl rfl rfl rfl;generalize hg:Nat.gcd a.den b.den=g at hm;have hg0:g≠0:=by rw[←hg];exact Nat.gcd_ne_zero_right b.den_nz
 have bgl:bl g≤100000000:=by rw[←hg];exact qI (zb2 _ _ b.den_nz) db
 have bg:big g:=qI bgl oM;have g1:=zjC (a.den:Int) (b.den:Int) bda bdb;rw[Int.natAbs_natCast,Int.natAbs_natCast,hg]at g1;have o1:=zeo a.den g bda bg hg0;have o2:=zeo b.den g bdb bg hg0;have b1:bl (a.den / g)≤100000000:=qI (zfy _ _) da;have b2:bl (b.den / g)≤100000000:=qI (zfy _ _) db
 have hone:a.den=1∧b.den=1→g=1∧a.den / g=1∧b.den / g=1:=fun h=>by
  have:g=1:=by rw[←hg,h.1,h.2];rfl
  rw[this,h.1,h.2];exact⟨rfl,rfl,rfl⟩
 generalize hdown:a.den / g=down at *
 generalize hother:b.den / g=other at *
 have c1:=zbh a.num.natAbs other;have c2:=zbh b.num.natAbs down;have t1:=zf6 a.num other bna (qI b2 oM) (by show bl _≤_;omega);have t2:=zf6 b.num down bnb (qI b1 oM) (by show bl _≤_;omega);have c1':bl (a.num*(other:Int)).natAbs≤200000000:=by rw[Int.natAbs_mul];simp;omega
 have c2':bl (b.num*(down:Int)).natAbs≤200000000:=by rw[Int.natAbs_mul];simp;omega
 have c3:=zn2 (a.num*(other:Int)).natAbs (b.num*(down:Int)).natAbs;have ad:=zhj (a.num*(other:Int)) (b.num*(down:Int)) (qI c1' oM) (qI c2' oM) (by show bl _≤_;omega)
 have bup:bl (a.num*(other:Int)+b.num*(down:Int)).natAbs≤200000001:=by
  have:=zc4 (a.num*(other:Int)) (b.num*(down:Int));omega
 generalize hup:a.num*(other:Int)+b.num*(down:Int)=up at *
 generalize hh:Nat.gcd up.natAbs g=h at hm;have hh0:h≠0:=by rw[←hh];exact Nat.gcd_ne_zero_right hg0
 have bh:big h:=by rw[←hh];exact qI (zb2 _ _ hg0) bg
 have g2:=zjC up (g:Int) (qI bup oM) bg;rw[Int.natAbs_natCast,hh]at g2;have p1:=ziG up h (qI bup oM) bh hh0 (by rw[←hh];exact Nat.gcd_dvd_left ..);have o3:=zeo b.den h bdb bh hh0;have b4:bl (b.den / h)≤100000000:=qI (zfy _ _) db;have m2:=zgL down (b.den / h) (qI b1 oM) (qI b4 oM);have pk:=ziF (a+b).num (a+b).den (by rw[hm.2];have:=zbh down (b.den / h);show bl _≤_;omega);rw[←hm.1]at p1;rw[←hm.2]at m2;have w1:=zbp a bda;have w2:=zbp b bdb;refine PV.of_pc ?_;refine BD func40 ntmps40 ?_
 repeat (first|refine RUN ?_|refine CV (w1) ?_|refine CE (w1) ?_)
 refine EVL.meet (fun env' bx' H'=>zez env' [(15,.v (.bool (decide (a.den=1∧b.den=1)))),(4,.p 4 0),(3,.p 3 0),(2,.p 2 0)]∧zeC bx' [(4,67,Tryz.te67.zero),(3,67,frL b.num (dk b.den)),(2,67,frL a.num (dk a.den))]∧H'=⟨fun _=>none,[],⟨fun _=>none,[]⟩⟩) ?_ ?_
 ·rintro env' bx' H' _ ⟨he,hbx,rfl⟩;refine EV.less _ _ he hbx rfl ?_;by_cases hab:a.den=1∧b.den=1
  ·rw[qD hab];obtain⟨e1,e2,e3⟩:=hone hab;have e4:h=1:=by rw[←hh,e1,Nat.gcd_one_right]
   have e5:(a+b).den=1:=by rw[hm.2,e2,hab.2,e4]
   have e6:(a+b).num=a.num+b.num:=by rw[hm.1,e4,←hup,e2,e3];simp
   have c4:=zn2 a.num.natAbs b.num.natAbs;have ad':=zhj a.num b.num bna bnb (by show bl _≤_;omega)
   repeat (first|refine RUN ?_|refine CV (ad') ?_|refine CE (ad') ?_)
   show _=frV (a+b).num (dk (a+b).den);rw[e5,zoi,zdR,e6]
  ·rw[qC hab];refine uR ?_;have d1:=zgs a bda;have d2:=zgs b bdb;have s1:=zbu false a.den bda;have s2:=zbu false b.den bdb;have s3:=zbu false g bg
   (apply EV.drawn 8 kR kR;intro xv yw;(repeat (first|refine' DD ?_|(refine' DC (d1) (h:=?_);rotate_left)|(refine' DC (s1) (h:=?_);rotate_left)|(refine' DC (d2) (h:=?_);rotate_left)|(refine' DC (s2) (h:=?_);rotate_left)|(refine' DC (g1) (h:=?_);rotate_left)));refine DJ.nil (fun G hG hF=>?_);(case hS|hS2=>rfl));refine uR ?_
   (apply EV.drawn 10 kR kR;intro xv yw;(repeat (first|refine' DD ?_|(refine' DC (d1) (h:=?_);rotate_left)|(refine' DC (d2) (h:=?_);rotate_left)|(refine' DC (o1) (h:=?_);rotate_left)|(refine' DC (o2) (h:=?_);rotate_left)));refine DJ.nil (fun G hG hF=>?_);(case hS|hS2=>rfl));refine uR ?_
   (apply EV.drawn 10 kR kR;intro xv yw;(repeat (first|refine' DD ?_|(refine' DC (t1) (h:=?_);rotate_left)|(refine' DC (t2) (h:=?_);rotate_left)|(refine' DC (ad) (h:=?_);rotate_left)));refine DJ.nil (fun G hG hF=>?_);(case hS|hS2=>rfl));refine uR ?_
   (apply EV.drawn 5 kR kR;intro xv yw;(repeat (first|refine' DD ?_|(refine' DC (s3) (h:=?_);rotate_left)|(refine' DC (g2) (h:=?_);rotate_left)));refine DJ.nil (fun G hG hF=>?_);(case hS|hS2=>rfl));refine uR ?_
   (apply EV.drawn 10 kR kR;intro xv yw;(repeat (first|refine' DD ?_|(refine' DC (p1) (h:=?_);rotate_left)|(refine' DC (d2) (h:=?_);rotate_left)|(refine' DC (o3) (h:=?_);rotate_left)|(refine' DC (m2) (h:=?_);rotate_left)|(refine' DC (pk) (h:=?_);rotate_left)));refine DJ.nil (fun G hG hF=>?_);(case hS|hS2=>rfl));refine uR ?_;rfl
 ·by_cases ha1:a.den=1
  ·rw[qD ha1]
   repeat (first|refine RUN ?_|refine CV (w2) ?_|refine CE (w2) ?_)
   refine⟨⟨?_,rfl,rfl,rfl,trivial⟩,⟨rfl,rfl,rfl,trivial⟩,rfl⟩;simp[ha1];rfl
  ·rw[qC ha1];refine uR ?_;refine⟨⟨?_,rfl,rfl,rfl,trivial⟩,⟨rfl,rfl,rfl,trivial⟩,rfl⟩;simp[ha1];rfl
theorem zml (a b:Rat) (ha:sm a) (hb:sm b):PV prog 179 #[zae a,zae b] (zae (a-b)):=by
 have h1:=ztE b (qI hb.num oM);have h2:=zeD a (-b) ha (by show ht (-b)≤_;rw[zlO];exact hb);rw[←Rat.sub_eq_add_neg]at h2;refine PV.of_pc ?_;refine BD func179 ntmps179 ?_;refine uR ?_
 (apply EV.drawn 4 kR kR;intro xv yw;(repeat (first|refine' DD ?_|(refine' DC (h1) (h:=?_);rotate_left)|(refine' DC (h2) (h:=?_);rotate_left)));refine DJ.nil (fun G hG hF=>?_);(case hS|hS2=>rfl));refine uR ?_;rfl
theorem zsh (b:Rat) (h:b.num≠0):frV (sg (decide (b.num<0)) b.den) (dk b.num.natAbs)=zae b⁻¹:=by
 have e1:b⁻¹.num=sg (decide (b.num<0)) b.den:=by
  rw[Rat.num_inv];unfold sg;rcases Int.lt_or_lt_of_ne h with h1 | h1
  ·simp[h1,Int.sign_eq_neg_one_of_neg h1]
  ·rw[Int.sign_eq_one_of_pos h1,qC (by omega)];simp
 have e2:b⁻¹.den=b.num.natAbs:=by
  rw[Rat.den_inv,if_neg];exact h
 rw[←e1,←e2]
theorem zjz (a b:Rat) (ha:sm a) (hb:sm b) (h0:b≠0):PV prog 206 #[zae a,zae b] (.tuple #[zae (a / b),.bool true]):=by
 have hn0:b.num≠0:=fun e=>h0 (Rat.num_eq_zero.1 e);have bnb:zfO b.num:=qI hb.num oM;have bdb:big b.den:=qI hb.den oM;have hm:=zoI a b⁻¹ ha (qI (zrx b) hb);rw[←Rat.div_def]at hm;have hp:=ziF (sg (decide (b.num<0)) b.den) b.num.natAbs bnb;rw[zsh b hn0]at hp;have s1:=zbu (decide (b.num<0)) b.den bdb;have sg1:=zcd b bnb;have ab:=zdk b.num;have d2:=zgs b bdb;refine PV.of_pc ?_;refine BD func206 ntmps206 ?_
 repeat (first|refine RUN ?_|refine CV (sg1) ?_|refine CE (sg1) ?_)
 rw[show (b.num.sign == 0)=false by simp[Int.sign_eq_zero_iff_zero,hn0]];refine uR ?_;apply EV.drawn 11 kR kR;intro xv yw;(repeat (first|refine' DD ?_|(refine' DC (sg1) (h:=?_);rotate_left)));rw[show decide (b.num.sign<0)=decide (b.num<0) by rw[decide_eq_decide];exact Int.sign_neg_iff];(repeat (first|refine' DD ?_|(refine' DC (d2) (h:=?_);rotate_left)|(refine' DC (s1) (h:=?_);rotate_left)|(refine' DC (ab) (h:=?_);rotate_left)|(refine' DC (hp) (h:=?_);rotate_left)));(refine DJ.nil (fun G hG hF=>?_);(case hS|hS2=>rfl))
 repeat (first|refine RUN ?_|refine CV (hm) ?_|refine CE (hm) ?_)
 rfl
theorem zkP (a:Rat):PV prog 206 #[zae a,zae 0] (.tuple #[zae 0,.bool false]):=by
 have sg1:=zcd 0 (by show bl 0≤_;rw[zbt];omega);refine PV.of_pc ?_;refine BD func206 ntmps206 ?_
 repeat (first|refine RUN ?_|refine CV (sg1) ?_|refine CE (sg1) ?_)
 show _=Value.tuple #[frV 0 0,.bool false];rw[zdR,show (0:Int).natAbs=0 from rfl,zbV (n:=0) (by decide)];rfl
theorem znb (x y p q:Int) (hp:0<p) (hq:0<q) (h:x.sign≠y.sign):zgP x y=zgP (x*p) (y*q):=by
 have f1:x<0→x*p<0:=fun h=>Int.mul_neg_of_neg_of_pos h hp;have f2:0<x→0<x*p:=fun h=>Int.mul_pos h hp;have f3:y<0→y*q<0:=fun h=>Int.mul_neg_of_neg_of_pos h hq;have f4:0<y→0<y*q:=fun h=>Int.mul_pos h hq;have f5:x=0→x*p=0:=fun h=>by rw[h,Int.zero_mul]
 have f6:y=0→y*q=0:=fun h=>by rw[h,Int.zero_mul]
 generalize x*p=u at *
 generalize y*q=v at *
 rcases Int.lt_trichotomy x 0 with hx | hx | hx <;> rcases Int.lt_trichotomy y 0 with hy | hy | hy
 ·exact absurd (by rw[Int.sign_eq_neg_one_of_neg hx,Int.sign_eq_neg_one_of_neg hy]) h
 ·unfold zgP;rw[if_pos oM,if_pos (by have:=f1 hx;have:=f6 hy;omega)]
 ·unfold zgP;rw[if_pos oM,if_pos (by have:=f1 hx;have:=f4 hy;omega)]
 ·unfold zgP;rw[if_neg oM,if_pos oM,if_neg (by have:=f5 hx;have:=f3 hy;omega),if_pos (by have:=f5 hx;have:=f3 hy;omega)]
 ·exact absurd (by rw[hx,hy]) h
 ·unfold zgP;rw[if_pos oM,if_pos (by have:=f5 hx;have:=f4 hy;omega)]
 ·unfold zgP;rw[if_neg oM,if_pos oM,if_neg (by have:=f2 hx;have:=f3 hy;omega),if_pos (by have:=f2 hx;have:=f3 hy;omega)]
 ·unfold zgP;rw[if_neg oM,if_pos oM,if_neg (by have:=f2 hx;have:=f6 hy;omega),if_pos (by have:=f2 hx;have:=f6 hy;omega)]
 ·exact absurd (by rw[Int.sign_eq_one_of_pos hx,Int.sign_eq_one_of_pos hy]) h
theorem zpv (a b:Rat) (h:a.num.sign≠b.num.sign):zgP a.num b.num=zb6 a b:=by
 have:=Nat.pos_of_ne_zero a.den_nz;have:=Nat.pos_of_ne_zero b.den_nz;rw[ziE];exact znb _ _ _ _ oM oM h
theorem zeI (a b:Rat) (ha:sm a) (hb:sm b):PV prog 66 #[zae a,zae b] (.int .i64 (zb6 a b)):=by
 have na:=ha.num;have da:=ha.den;have nb:=hb.num;have db:=hb.den;have bna:zfO a.num:=qI na oM;have bnb:zfO b.num:=qI nb oM;have bda:big a.den:=qI da oM;have bdb:big b.den:=qI db oM;have w1:=zbp a bda;have w2:=zbp b bdb;have s1:=zcd a bna;have s2:=zcd b bnb;have d1:=zgs a bda;have d2:=zgs b bdb;have c1:=zbh a.num.natAbs b.den;have c2:=zbh b.num.natAbs a.den;have t1:=zf6 a.num b.den bna bdb (by show bl _≤_;omega);have t2:=zf6 b.num a.den bnb bda (by show bl _≤_;omega);have k1:=zhk a.num b.num bna bnb;have k2:=zhk (a.num*(b.den:Int)) (b.num*(a.den:Int)) (by show bl _≤_;rw[Int.natAbs_mul];simp;omega) (by show bl _≤_;rw[Int.natAbs_mul];simp;omega);rw[←ziE]at k2;refine PV.of_pc ?_;refine BD func66 ntmps66 ?_;refine uR ?_;by_cases ha1:a.den=1
 ·rw[qD ha1]at w1;by_cases hb1:b.den=1
  ·rw[qD hb1]at w2;have e:zgP a.num b.num=zb6 a b:=by rw[ziE,ha1,hb1];simp
   rw[e]at k1;apply EV.drawn 10 kR kR;intro xv yw;(repeat (first|refine' DD ?_|(refine' DC (w1) (h:=?_);rotate_left)|(refine' DC (w2) (h:=?_);rotate_left)|(refine' DC (s1) (h:=?_);rotate_left)|(refine' DC (s2) (h:=?_);rotate_left)));(refine DJ.nil (fun G hG hF=>?_);(case hS|hS2=>rfl))
   repeat (first|refine RUN ?_|refine CV (k1) ?_|refine CE (k1) ?_)
   rfl
  ·rw[qC hb1]at w2;apply EV.drawn 10 kR kR;intro xv yw;(repeat (first|refine' DD ?_|(refine' DC (w1) (h:=?_);rotate_left)|(refine' DC (w2) (h:=?_);rotate_left)|(refine' DC (s1) (h:=?_);rotate_left)|(refine' DC (s2) (h:=?_);rotate_left)));(refine DJ.nil (fun G hG hF=>?_);(case hS|hS2=>rfl))
   repeat (first|refine RUN ?_|refine CV (s1) ?_|refine CV (s2) ?_|refine CE (s1) ?_|refine CE (s2) ?_)
   by_cases hs:a.num.sign=b.num.sign
   ·rw[show (a.num.sign != b.num.sign)=false by simp[hs]];refine uR ?_;apply EV.drawn 9 kR kR;intro xv yw;(repeat (first|refine' DD ?_|(refine' DC (d2) (h:=?_);rotate_left)|(refine' DC (t1) (h:=?_);rotate_left)|(refine' DC (d1) (h:=?_);rotate_left)));(refine DJ.nil (fun G hG hF=>?_);(case hS|hS2=>rfl))
    repeat (first|refine RUN ?_|refine CV (t2) ?_|refine CV (k2) ?_|refine CE (t2) ?_|refine CE (k2) ?_)
    rfl
   ·rw[show (a.num.sign != b.num.sign)=true by simp[hs]]
    repeat (first|refine RUN ?_|refine CV (k1) ?_|refine CE (k1) ?_)
    rw[zpv a b hs]
 ·rw[qC ha1]at w1;apply EV.drawn 10 kR kR;intro xv yw;(repeat (first|refine' DD ?_|(refine' DC (w1) (h:=?_);rotate_left)|(refine' DC (w2) (h:=?_);rotate_left)|(refine' DC (s1) (h:=?_);rotate_left)|(refine' DC (s2) (h:=?_);rotate_left)));(refine DJ.nil (fun G hG hF=>?_);(case hS|hS2=>rfl))
  repeat (first|refine RUN ?_|refine CV (s1) ?_|refine CV (s2) ?_|refine CE (s1) ?_|refine CE (s2) ?_)
  by_cases hs:a.num.sign=b.num.sign
  ·rw[show (a.num.sign != b.num.sign)=false by simp[hs]];refine uR ?_;apply EV.drawn 9 kR kR;intro xv yw;(repeat (first|refine' DD ?_|(refine' DC (d2) (h:=?_);rotate_left)|(refine' DC (t1) (h:=?_);rotate_left)|(refine' DC (d1) (h:=?_);rotate_left)));(refine DJ.nil (fun G hG hF=>?_);(case hS|hS2=>rfl))
   repeat (first|refine RUN ?_|refine CV (t2) ?_|refine CV (k2) ?_|refine CE (t2) ?_|refine CE (k2) ?_)
   rfl
  ·rw[show (a.num.sign != b.num.sign)=true by simp[hs]]
   repeat (first|refine RUN ?_|refine CV (k1) ?_|refine CE (k1) ?_)
   rw[zpv a b hs]
theorem zbd (z m:Int) (hz:-9223372036854775808≤z∧z<9223372036854775808) (h0:0<m) (hm:m<4611686018427387904):PV prog 7 #[.int .i64 z,.int .i64 m] (.int .i64 (z % m)):=by
 have h1:=Int.tmod_lt_of_pos z h0;have h2:=Int.lt_tmod_of_pos z h0
 have e:z % m=if z.tmod m<0 then z.tmod m+m else z.tmod m:=by
  have hq:=Int.mul_tdiv_add_tmod z m
  have e1:z % m=z.tmod m % m:=by
   conv=>lhs;rw[←hq]
   rw[Int.mul_add_emod_self_left]
  rw[e1];by_cases ht:z.tmod m<0
  ·rw[if_pos ht,←Int.add_emod_right,Int.emod_eq_of_lt oM (by omega)]
  ·rw[if_neg ht,Int.emod_eq_of_lt oM h1]
 refine PV.of_pc ?_;refine BD func7 ntmps7 ?_;refine uR ?_;refine EVL.remI rfl rfl rfl rfl rfl rfl oM ?_;generalize z.tmod m=t at *
 refine uR ?_;by_cases ht:t<0
 ·rw[if_pos ht]at e;rw[qD ht];refine uR ?_;rw[e,pK];congr 1;omega
 ·rw[if_neg ht]at e;rw[qC ht];refine uR ?_;rw[e]
theorem zhY {H:Hp} {v:Value} {n:Nat} (h:RN H v n) (hn:rsm n):PC prog 62 #[v] H fun r _=>r=zaF n:=by
 have hol:(zjQ n).length≤200000000:=by
  rw[zdd];have:=zaS 8 n oM;rw[show (2:Nat) ^ 8=256 by decide]at this;rw[this];have:bl n≤800000000:=hn;omega
 refine BD func62 ntmps62 ?_;refine uR ?_;refine vA (zk8 h hn) ?_;rintro r G hr hG;have hf:=zdD hr (zlZ n) hol;rw[zqL]at hf
 repeat (first|refine RUN ?_|refine CV (hf) ?_|refine CE (hf) ?_)
 rfl
theorem zsf {H:Hp} {v:Value} {z:Int} (h:RI H v z) (hz:rsm z.natAbs):PC prog 60 #[v] H fun r _=>r=zem z:=by
 obtain⟨sa,sl,sc,rfl,hs⟩:=id h;have hf:=zbu (decide (z<0)) z.natAbs (qI hz oM);rw[ztM]at hf;refine BD func60 ntmps60 ?_;refine uR ?_;apply EV.drawn 6 kR kR;intro xv yw;(repeat refine' DD ?_);refine' vC (cO func62) (fun G hG hd=>zhY (RN.mono hs hG) hz) ?_;rotate_left;(repeat (first|refine' DD ?_|(refine' DC (hf) (h:=?_);rotate_left)));(refine DJ.nil (fun G hG hF=>?_);(case hS|hS2=>rfl));refine uR ?_;rfl
theorem zjE {H:Hp} {v:Value} {q:Rat} (h:RQ H v q) (hq:rq q):PC prog 31 #[v] H fun r _=>r=zae q:=by
 obtain⟨sa,sl,sc,ta,tl,tc,rfl,hs,ht⟩:=id h;have hn:=hq.num;have hd':=hq.den;have hf:=zbu false q.den (qI hd' oM);rw[show sg false q.den=(q.den:Int) from rfl]at hf;have hm:=zsr q.num (q.den:Int) (qI hn oM) (qI hd' oM) (by have:=q.den_nz;omega);rw[if_neg oM,Int.natAbs_natCast,Rat.mkRat_self]at hm;refine BD func31 ntmps31 ?_;refine uR ?_;apply EV.drawn 14 kR kR;intro xv yw;(repeat refine' DD ?_);refine' vC (cO func60) (fun G hG hd=>zsf (RQ.rnum (RN.mono hs hG)) hn) ?_;rotate_left;(repeat refine' DD ?_);refine' vC (cO func62) (fun G hG hd=>zhY (RN.mono ht hG) hd') ?_;rotate_left;(repeat (first|refine' DD ?_|(refine' DC (hf) (h:=?_);rotate_left)|(refine' DC (hm) (h:=?_);rotate_left)));(refine DJ.nil (fun G hG hF=>?_);(case hS|hS2=>rfl));refine uR ?_;rfl
def zsD (j:Nat):Int:=[1,1,1,2,3,4].getD j 1
def zma (z:Int):Rat:=Rat.divInt (z % 41-20) (zsD (z.tdiv 41 % 6).toNat)
theorem zhV (j:Nat):1≤zsD j∧zsD j≤4:=by
 unfold zsD;rcases j with _ | _ | _ | _ | _ | _ | j <;> simp[qB]
theorem ztI {H:Hp} (z:Int) (hz:-9223372036854775808≤z∧z<9223372036854775808):PC prog 8 #[.int .i64 z] H fun r H'=>RQ H' r (zma z):=by
 have hq:-9223372036854775808≤z.tdiv 41∧z.tdiv 41<9223372036854775808:=by
  by_cases h:0≤z
  ·rw[Int.tdiv_eq_ediv_of_nonneg h];omega
  ·have e:z.tdiv 41 = -((-z) / 41):=by rw[←Int.tdiv_eq_ediv_of_nonneg oM,Int.neg_tdiv,Int.neg_neg]
   rw[e];omega
 have hqw:IntKind.i64.wrap (z.tdiv 41)=z.tdiv 41:=by rw[pK];omega
 have h1:=zbd z 41 hz oM oM;have h2:=zbd (z.tdiv 41) 6 hq oM oM;have m1:=Int.emod_nonneg z (show (41:Int)≠0 by omega);have m2:=Int.emod_lt_of_pos z (show (0:Int)<41 by omega);obtain⟨j,hj⟩:=qh (Int.emod_nonneg (z.tdiv 41) (show (6:Int)≠0 by omega));have m3:=Int.emod_lt_of_pos (z.tdiv 41) (show (0:Int)<6 by omega);have hsub:IntKind.i64.wrap (z % 41-20)=z % 41-20:=by rw[pK];omega
 have hrd:=zhV j;have hrn:zma z=Rat.divInt (z % 41-20) (zsD j):=by unfold zma;rw[hj];rfl
 rw[hrn]
 have hidx:([.int .i64 1,.int .i64 1,.int .i64 1,.int .i64 2,.int .i64 3,.int .i64 4]:List Value)[j]?=some (.int .i64 (zsD j)):=by
  have hj6:j<6:=oM;rcases j with _|_|_|_|_|_|j <;> first|rfl|omega
 have ho:=fun G:Hp=>zhZ (H:=G) (z % 41-20) (zsD j) oM oM oM oM oM;rw[hj]at h2;refine BD func8 ntmps8 ?_
 repeat (first|refine RUN ?_|refine CV (h1) ?_|refine CE (h1) ?_)
 rw[hsub];refine EVL.buildArr rfl rfl rfl rfl rfl (cs:=[.int .i64 1,.int .i64 1,.int .i64 1,.int .i64 2,.int .i64 3,.int .i64 4]) kR ?_;refine uR ?_;rw[hqw]
 repeat (first|refine RUN ?_|refine CV (h2) ?_|refine CE (h2) ?_)
 refine EVL.indexArr (e:=2) (len:=6) tO rfl rfl rfl rfl kR rfl rfl rfl rfl rfl j rfl (show j<6 by omega) hidx ?_;refine vA (ho H) ?_;rintro r G ⟨ra,rl,rc,xa,xl,xc,rfl,hn,hd⟩ hG;refine uR ?_;exact⟨ra,rl,rc,xa,xl,xc,rfl,hn,hd⟩
def QL (H:Hp) (v:Value) (l:List Rat):Prop:=SlC H v l.length 5 (l.flatMap fun q=>zac (zae q))
def RL (H:Hp) (v:Value) (l:List Rat):Prop:=∃vs:List Value,vs.length=l.length∧(∀(j:Nat) (x:Value) (q:Rat),vs[j]?=some x→l[j]?=some q→RQ H x q)∧SlC H v l.length 3 (vs.flatMap zac)
theorem QL.mono {H G:Hp} {v:Value} {l:List Rat} (h:QL H v l) (k:H.Le G):QL G v l:=SlC.mono h k
theorem RL.mono {H G:Hp} {v:Value} {l:List Rat} (h:RL H v l) (k:H.Le G):RL G v l:=by
 obtain⟨vs,h1,h2,h3⟩:=h;exact⟨vs,h1,fun j x q e1 e2=>(h2 j x q e1 e2).mono k,h3.mono k⟩
theorem QL.at {H:Hp} {v:Value} {l:List Rat} {j:Nat} {q:Rat} (hj:l[j]?=some q):((l.flatMap fun q=>zac (zae q)).drop (j*5)).take 5=zac (zae q):=zdQ _ 5 l (fun _ _=>rfl) j q hj
theorem RQ.cells {H:Hp} {x:Value} {q:Rat} (h:RQ H x q):(zac x).length=3∧zdt (zac x)=true:=by
 obtain⟨_,_,_,_,_,_,rfl,_,_⟩:=h;exact⟨rfl,rfl⟩
theorem RL.at {H:Hp} {v:Value} {l:List Rat} (h:RL H v l) {j:Nat} {q:Rat} (hj:l[j]?=some q):∃(vs:List Value) (x:Value),SlC H v l.length 3 (vs.flatMap zac)∧((vs.flatMap zac).drop (j*3)).take 3=zac x∧RQ H x q:=by
 obtain⟨vs,h1,h2,h3⟩:=h;obtain⟨hl,rfl⟩:=qE.1 hj;have hv:vs[j]?=some (vs[j]'(by omega)):=qA oM
 have hall:∀x,x∈vs→(zac x).length=3:=fun x hx=>by
  obtain⟨i,hi,rfl⟩:=List.getElem_of_mem hx;exact(h2 i _ _ (qA hi) (qA oM)).cells.1
 exact⟨vs,_,h3,zdQ _ 3 vs hall j _ hv,h2 j _ _ hv hj⟩
theorem zan {α:Type} {l:List α} {i:Nat} {x:α} (h:l[i]?=some x):l.take (i+1)=l.take i++[x]:=by
 obtain⟨hl,rfl⟩:=qE.1 h;exact qS hl
theorem RL.val {H:Hp} {v:Value} {l:List Rat} (h:RL H v l):∃a cap,v=.slice a l.length cap:=by
 obtain⟨vs,_,_,h3⟩:=h;exact SlC.val h3
theorem zlP {H:Hp} {v:Value} {l:List Rat} (h:RL H v l) (hl:l.length≤100000000) (hq:∀q,q∈l→rq q):PC prog 13 #[v] H fun r H'=>QL H' r l:=by
 obtain⟨a,cap,rfl⟩:=RL.val h;refine BD func13 ntmps13 ?_;refine uR ?_;refine EV.loopK (ι:=Nat × Value × Ows) [0] [] (fun q=>[(3,.v q.2.1),(4,.v (.int .i64 (q.1:Int)))]) (fun _=>[]) (fun q=>q.2.2) (fun q G=>q.1≤l.length∧zaE 67 5 q.2.1 q.1 ((l.take q.1).flatMap fun q=>zac (zae q)) q.2.2) (fun q=>l.length-q.1) ((0,.slice none 0 0,[])) rfl rfl ⟨rfl,rfl,trivial⟩ trivial rfl (fun _=>rfl) (⟨qQ _,zaE.nil _ _⟩) ?_;rintro⟨i,w,ow⟩ G1 hG1 ⟨hi,hown⟩;dsimp only at hi hown;refine uR ?_;refine EV.cond rfl (fun hlt=>?_) (fun hlt=>?_)
 ·simp only[nN]at hlt;obtain⟨q,hqi⟩:=gE hlt;obtain⟨vs,x,hs,hc,hx⟩:=(h.mono hG1).at hqi;obtain⟨xa,xl,xc,ya,yl,yc,rfl,hx1,hx2⟩:=id hx;refine uR ?_;refine EVL.idxM tO rfl rfl rfl rfl rfl rfl rfl rfl rfl (hs) (i) (rfl) (hlt) (hc) ?_
  repeat (first|refine RUN ?_|refine CV (zjE hx (hq q (qF hqi))) ?_|refine CE (zjE hx (hq q (qF hqi))) ?_)
  refine EVL.app1 tO rfl rfl rfl rfl rfl rfl rfl rfl rfl rfl rfl rfl rfl rfl rfl rfl rfl rfl rfl (fun _=>rfl) (ow) ([]) ((qG _).symm) (hown) oM fun _=>?_;intro v' ow' hown';refine uR ?_;refine⟨(i+1,v',ow'),⟨rfl,?_,trivial⟩,sB,trivial,trivial,qG _,⟨by dsimp only;omega,?_⟩,Hp.Le.refl _,by dsimp only;omega⟩
  ·rw[zab i (by omega)];rfl
  ·dsimp only;rw[zan hqi,List.flatMap_append];exact hown'
 ·simp only[nN]at hlt;obtain rfl:i=l.length:=oM;(first|refine EVL.publishL [] ow [] ((qG _).symm) hown fun G2 hG2 hs=>?_|refine EV.publishL [] ow [] ((qG _).symm) hown fun G2 hG2 hs=>?_);refine uR ?_;rw[qa]at hs;exact hs
end
section
def zaJ (l:List Rat):Rat:=l.foldl (·+·) 0
theorem zd1:zaJ []=0:=rfl
theorem zbL (l:List Rat) (x:Rat):zaJ (l++[x])=zaJ l+x:=by unfold zaJ;rw[List.foldl_append];rfl
theorem zot (B:Nat):∀(l:List Rat),(∀q,q∈l→ht q≤B)→ht (zaJ l.reverse)≤1+(B+1)*l.length
 | [],_=>by rw[List.reverse_nil,zd1,zcr];exact Nat.le_add_right ..
 | x::l,h=>by
  have h1:=zot B l (fun q hq=>h q (qk _ hq));have h2:=h x (qf ..);have h3:=zcQ (zaJ l.reverse) x;rw[List.reverse_cons,zbL,qR,Nat.mul_succ];omega
theorem zdB (B:Nat) (l:List Rat) (h:∀q,q∈l→ht q≤B):ht (zaJ l)≤1+(B+1)*l.length:=by
 have:=zot B l.reverse (fun q hq=>h q (List.mem_reverse.1 hq))
 rwa [List.reverse_reverse,List.length_reverse]at this
def zhr (a b:List Rat):List Rat:=List.zipWith (· * ·) a b
theorem zqp {a b:List Rat} {i:Nat} {x y:Rat} (h1:a[i]?=some x) (h2:b[i]?=some y):(zhr a b)[i]?=some (x*y):=by
 unfold zhr;rw[List.getElem?_zipWith,h1,h2]
theorem zkQ {B:Nat}:∀{a b:List Rat},(∀q,q∈a→ht q≤B)→(∀q,q∈b→ht q≤B)→∀q,q∈zhr a b→ht q≤B+B
 | [],_,_,_,q,hq=>by simp[zhr]at hq
 | _::_,[],_,_,q,hq=>by simp[zhr]at hq
 | x::a,y::b,ha,hb,q,hq=>by
  rcases List.mem_cons.1 (show q∈x*y::zhr a b from hq) with rfl | h
  ·have:=zfD x y;have h1:=ha x (qf ..);have h2:=hb y (qf ..);omega
  ·exact zkQ (fun q h=>ha q (qk _ h)) (fun q h=>hb q (qk _ h)) q h
theorem zsa {a:List Rat} {i:Nat} {x:Rat} (h:a[i]?=some x):a.drop i=x::a.drop (i+1):=by
 obtain⟨hl,rfl⟩:=qE.1 h;exact qo hl
def zdo (l:List Rat):Prop:=l.Pairwise (·≤·)
theorem zh3 {l m:List Rat} (h:zdo l) (k:zdo m) (p:l.Perm m):l=m:=List.Perm.eq_of_pairwise (fun a b _ _ h1 h2=>Rat.le_antisymm h1 h2) h k p
def zaz {α:Type} (l:List α) (k:Nat) (x:α):List α:=l.take k++x::l.drop k
theorem zcl {α:Type} (l:List α) (k:Nat) (x:α):(zaz l k x).Perm (l++[x]):=by
 unfold zaz;refine List.perm_middle.trans ?_;rw[List.take_append_drop];exact(List.perm_append_comm (l₁:=[x]) (l₂:=l))
theorem zdH {l:List Rat} {k:Nat} {x:Rat} (h:zdo l) (h1:∀y,y∈l.take k→y≤x) (h2:∀y,y∈l.drop k→x≤y):zdo (zaz l k x):=by
 unfold zaz zdo;rw[List.pairwise_append];refine⟨h.sublist (List.take_sublist ..),List.pairwise_cons.2 ⟨fun y hy=>h2 y hy,h.sublist (List.drop_sublist ..)⟩,fun a ha b hb=>?_⟩;rcases List.mem_cons.1 hb with rfl | hb
 ·exact h1 a ha
 ·exact Rat.le_trans (h1 a ha) (h2 b hb)
theorem zg5 {l:List Rat} {k:Nat} {x y:Rat} (h:zdo l) (hk:l[k]?=some y) (hy:y≤x):∀z,z∈l.take (k+1)→z≤x:=fun z hz=>by
 obtain⟨hl,rfl⟩:=qE.1 hk;rw[qS hl]at hz;rcases List.mem_append.1 hz with hz | hz
 ·have hp:zdo (l.take (k+1)):=h.sublist (List.take_sublist ..);unfold zdo at hp;rw[qS hl,List.pairwise_append]at hp;exact Rat.le_trans (hp.2.2 z hz _ (pJ.2 rfl)) hy
 ·rw[pJ.1 hz];exact hy
def zd8 (l:List Rat):List Rat:=l.mergeSort fun a b=>decide (a≤b)
theorem zfu (l:List Rat):(zd8 l).Perm l:=List.mergeSort_perm l _
theorem zfN (l:List Rat):zdo (zd8 l):=by
 have:=List.pairwise_mergeSort (le:=fun a b:Rat=>decide (a≤b)) (fun a b c h1 h2=>by simp at h1 h2 ⊢;exact Rat.le_trans h1 h2) (fun a b=>by simp;exact Rat.le_total) l;exact this.imp fun h=>by simpa using h
theorem zkc {l m:List Rat} (h:m.Perm l) (k:zdo m):m=zd8 l:=zh3 k (zfN l) (h.trans (zfu l).symm)
end
section
open Go.RowKit _root_.Go.Proofs.Tryz
def RVs (H:Hp) (vs:List Value) (l:List Rat):Prop:=vs.length=l.length∧∀(j:Nat) (x:Value) (q:Rat),vs[j]?=some x→l[j]?=some q→RQ H x q
theorem RVs.mono {H G:Hp} {vs:List Value} {l:List Rat} (h:RVs H vs l) (k:H.Le G):RVs G vs l:=⟨h.1,fun j x q e1 e2=>(h.2 j x q e1 e2).mono k⟩
theorem RVs.nil (H:Hp):RVs H [] []:=⟨rfl,fun j x q h=>by simp at h⟩
theorem RVs.snoc {H:Hp} {vs:List Value} {l:List Rat} {x:Value} {q:Rat} (h:RVs H vs l) (k:RQ H x q):RVs H (vs++[x]) (l++[q]):=by
 refine⟨by simp[h.1],fun j y r e1 e2=>?_⟩;rw[List.getElem?_append]at e1 e2;by_cases hj:j<vs.length
 ·rw[if_pos hj]at e1;rw[if_pos (by rw[←h.1];exact hj)]at e2;exact h.2 j y r e1 e2
 ·rw[if_neg hj]at e1;rw[if_neg (by rw[←h.1];exact hj)]at e2;have:=h.1
  cases hk:j-vs.length with
  | zero =>
   rw[hk]at e1;rw[←h.1,hk]at e2;simp at e1 e2;subst e1;subst e2;exact k
  | succ m=>rw[hk]at e1;simp at e1
theorem RVs.rl {H:Hp} {vs:List Value} {l:List Rat} {v:Value} (h:RVs H vs l) (hs:SlC H v l.length 3 (vs.flatMap zac)):RL H v l:=⟨vs,h.1,h.2,hs⟩
abbrev IL (H:Hp) (v:Value) (l:List Int):Prop:=SlN (fun z:Int=>Value.int .i64 z) H v l
def zj3 (l:List Int) (n:Nat):List Rat:=(List.range n).map fun i=>match l[i]? with
 | some z=>zma z
 | none=>0
theorem zeY (l:List Int) (n:Nat):(zj3 l n).length=n:=by simp[zj3]
theorem zph {l:List Int} {n i:Nat} {z:Int} (hi:i<n) (h:l[i]?=some z):(zj3 l n)[i]?=some (zma z):=by
 unfold zj3;rw[qK,List.getElem?_range hi];simp[h]
theorem zpg {l:List Int} {n i:Nat} (hi:i<n) (h:l[i]?=none):(zj3 l n)[i]?=some 0:=by
 unfold zj3;rw[qK,List.getElem?_range hi];simp[h]
theorem zpi {H:Hp} {v:Value} {l:List Int} (h:IL H v l) (hb:∀z,z∈l → -9223372036854775808≤z∧z<9223372036854775808) (n:Nat) (hn:n≤1000000):PC prog 11 #[v,.int .i64 (n:Int)] H fun r H'=>RL H' r (zj3 l n):=by
 obtain⟨a,cap,rfl⟩:=SlC.val h;have hz0:=fun G:Hp=>za9 (H:=G) 0 oM oM;rw[show ((0:Int):Rat)=0 from rfl]at hz0;refine BD func11 ntmps11 ?_;refine uR ?_;refine EV.loopK (ι:=Nat × List Value × Value × Ows) [0,1] [] (fun q=>[(5,.v q.2.2.1),(6,.v (.int .i64 (q.1:Int)))]) (fun _=>[]) (fun q=>q.2.2.2) (fun q G=>q.1≤n∧RVs G q.2.1 ((zj3 l n).take q.1)∧zaE 35 3 q.2.2.1 q.1 (q.2.1.flatMap zac) q.2.2.2) (fun q=>n-q.1) ((0,[],.slice none 0 0,[])) rfl rfl ⟨rfl,rfl,trivial⟩ trivial rfl (fun _=>rfl) (⟨qQ _,RVs.nil _,zaE.nil _ _⟩) ?_;rintro⟨i,vs,w,ow⟩ G1 hG1 ⟨hi,hvs,hown⟩;dsimp only at hi hvs hown;refine uR ?_;refine EV.cond rfl (fun hlt=>?_) (fun hlt=>?_)
 ·simp only[nN]at hlt;refine uR ?_;refine EV.cond rfl (fun hll=>?_) (fun hll=>?_)
  ·simp only[nN]at hll;obtain⟨z,hzi⟩:=gE hll;have hzb:=hb z (qF hzi);have hq:=zph hlt hzi;refine uR ?_;refine vI ((h.mono hG1)) (i) (rfl) (hll) ((by rw[qK,hzi];rfl)) ?_;refine uR ?_;refine vA (ztI z hzb) ?_;rintro r G2 hr hG2;obtain⟨xa,xl,xc,ya,yl,yc,rfl,hx1,hx2⟩:=id hr;refine uR ?_;refine EVL.app1 tO rfl rfl rfl rfl rfl rfl rfl rfl rfl rfl rfl rfl rfl rfl rfl rfl rfl rfl rfl (fun _=>rfl) (ow) ([]) ((qG _).symm) (hown) oM fun _=>?_;intro v' ow' hown';refine uR ?_;refine⟨(i+1,vs++[_],v',ow'),⟨rfl,?_,trivial⟩,sB,trivial,trivial,qG _,⟨hlt,by rw[zan hq];exact(hvs.mono hG2).snoc hr,?_⟩,hG2,by dsimp only;omega⟩
   ·rw[zab i (by omega)];rfl
   ·dsimp only;rw[List.flatMap_append];exact hown'
  ·simp only[nN]at hll;have hzi:l[i]?=none:=qe oM;have hq:=zpg hlt hzi;refine uR ?_;refine vA (hz0 _) ?_;rintro r G2 hr hG2;obtain⟨xa,xl,xc,ya,yl,yc,rfl,hx1,hx2⟩:=id hr;refine uR ?_;refine EVL.app1 tO rfl rfl rfl rfl rfl rfl rfl rfl rfl rfl rfl rfl rfl rfl rfl rfl rfl rfl rfl (fun _=>rfl) (ow) ([]) ((qG _).symm) (hown) oM fun _=>?_;intro v' ow' hown';refine uR ?_;refine⟨(i+1,vs++[_],v',ow'),⟨rfl,?_,trivial⟩,sB,trivial,trivial,qG _,⟨hlt,by rw[zan hq];exact(hvs.mono hG2).snoc hr,?_⟩,hG2,by dsimp only;omega⟩
   ·rw[zab i (by omega)];rfl
   ·dsimp only;rw[List.flatMap_append];exact hown'
 ·simp only[nN]at hlt;obtain rfl:i=n:=oM;(first|refine EVL.publishL [] ow [] ((qG _).symm) hown fun G2 hG2 hs=>?_|refine EV.publishL [] ow [] ((qG _).symm) hown fun G2 hG2 hs=>?_);refine uR ?_;have e:(zj3 l i).take i=zj3 l i:=qO (by rw[zeY];exact qH _);rw[e]at hvs;exact(hvs.mono hG2).rl (by rw[zeY];exact hs)
theorem zun {a b c a' b' c':Value} (e:Value.agg #[a,b,c]=.agg #[a',b',c']):a=a'∧b=b'∧c=c':=by
 simp only[Value.agg.injEq,Array.mk.injEq,List.cons.injEq,and_true]at e;exact e
theorem zg3 {H:Hp} {v:Value} {l:List Rat} (h:RL H v l) (hl:l.length≤100000) (hb:∀q,q∈l→ht q≤100):PC prog 134 #[v] H fun r H'=>RQ H' r (zaJ l):=by
 obtain⟨a,cap,rfl⟩:=RL.val h;have hz0:=fun G:Hp=>za9 (H:=G) 0 oM oM;rw[show ((0:Int):Rat)=0 from rfl]at hz0;refine BD func134 ntmps134 ?_;refine uR ?_;refine vA (hz0 _) ?_;rintro r G0 hr hG0;obtain⟨xa,xl,xc,ya,yl,yc,rfl,hx1,hx2⟩:=id hr;refine uR ?_;refine EV.loopK (ι:=Nat × Value × Value × Value) [0,2,3] [2] (fun q=>[(4,.v (.int .i64 (q.1:Int)))]) (fun q=>[(3,35,[q.2.1,q.2.2.1,q.2.2.2])]) (fun _=>[]) (fun q G=>q.1≤l.length∧G0.Le G∧RQ G (.agg #[q.2.1,q.2.2.1,q.2.2.2]) (zaJ (l.take q.1))) (fun q=>l.length-q.1) ((0,_,_,_)) rfl rfl ⟨rfl,trivial⟩ ⟨rfl,trivial⟩ rfl (fun _=>rfl) (⟨qQ _,Hp.Le.refl _,hr⟩) ?_;rintro⟨i,c1,c2,c3⟩ G1 hG1 ⟨hi,hG01,hs⟩;dsimp only at hi hs hG01;refine uR ?_;refine EV.cond rfl (fun hlt=>?_) (fun hlt=>?_)
 ·simp only[nN]at hlt;obtain⟨q,hqi⟩:=gE hlt;obtain⟨vs,x,hsl,hc,hx⟩:=(h.mono (hG0.trans hG01)).at hqi;obtain⟨xa',xl',xc',ya',yl',yc',rfl,hx1',hx2'⟩:=id hx;have hqb:=hb q (qF hqi);have hsb:=zdB 100 (l.take i) (fun q hq=>hb q (List.mem_of_mem_take hq));rw[qP,qm hi]at hsb;have qs:rq (zaJ (l.take i)):=qI hsb oM;have qq:rq q:=qI hqb oM;refine uR ?_;apply EV.drawn 6 kR kR;intro xv yw;(repeat refine' DD ?_);refine' DJ.idxM tO rfl rfl rfl rfl rfl rfl rfl rfl rfl (hsl) (i) (rfl) (hlt) (hc) ?_;rotate_left;(repeat refine' DD ?_);refine' vB (cO func65) (fun G hG hd=>zcu (hs.mono hG) (hx.mono hG) qs qq) (fun _ _ _ h k=>RQ.mono h k) ?_;rotate_left;(refine DJ.nil (fun G2 hG2 hF2=>?_);(case hS|hS2=>rfl));have hR:=hF2.1;rw[←zbL,←zan hqi]at hR;obtain⟨_,_,_,_,_,_,e,_,_⟩:=id hR;rw[e]at hR ⊢;refine uR ?_;refine⟨(i+1,_,_,_),⟨?_,trivial⟩,sB,⟨rfl,trivial⟩,sB,rfl,⟨hlt,hG01.trans hG2,hR⟩,hG2,by dsimp only;omega⟩;rw[zab i (by omega)];rfl
 ·simp only[nN]at hlt;obtain rfl:i=l.length:=oM;rw[qa]at hs;obtain⟨_,_,_,_,_,_,e,_,_⟩:=id hs;obtain⟨rfl,rfl,rfl⟩:=zun e;refine uR ?_;exact hs
theorem zos {n:Nat} (h:n≤100000):ht ((n:Int):Rat)≤20:=by
 have:=zbz (n:Int);have h2:bl (n:Int).natAbs≤17:=zaZ oM;omega
theorem zns {H:Hp} {v:Value} {l:List Rat} (h:RL H v l) (hl:l.length≤100000) (h0:l.length≠0) (hb:∀q,q∈l→ht q≤100):PC prog 138 #[v] H fun r H'=>RQ H' r (zaJ l / ((l.length:Int):Rat)):=by
 obtain⟨a,cap,rfl⟩:=RL.val h;have hs:=zdB 100 l hb;have hln:=zos hl;have hof:=fun G:Hp=>za9 (H:=G) (l.length:Int) oM oM;refine BD func138 ntmps138 ?_;refine uR ?_;refine vA (zg3 h hl hb) ?_;rintro r1 G1 h1 hG1;refine uR ?_;refine vA (hof _) ?_;rintro r2 G2 h2 hG2;refine uR ?_;refine EVL.call rfl rfl rfl rfl rfl (zfn (h1.mono hG2) h2 (qI hs oM) (qI hln oM) (by show (l.length:Int)≠0;omega)) ?_;rintro r3 G3 ⟨_,_,_,_,_,_,rfl,d1,d2⟩ _;refine uR ?_;exact⟨_,_,_,_,_,_,rfl,d1,d2⟩
theorem znr {H:Hp} {u v:Value} {l m:List Rat} (hu:RL H u l) (hv:RL H v m) (hlm:l.length=m.length) (hl:l.length≤100000) (hb:∀q,q∈l→ht q≤100) (hb':∀q,q∈m→ht q≤100):PC prog 135 #[u,v] H fun r H'=>RQ H' r (zaJ (zhr l m)):=by
 obtain⟨a,cap,rfl⟩:=RL.val hu;obtain⟨b,cap',rfl⟩:=RL.val hv;have hdl:(zhr l m).length=l.length:=by unfold zhr;rw[List.length_zipWith];omega
 have hdh:=zkQ hb hb';have hz0:=fun G:Hp=>za9 (H:=G) 0 oM oM;rw[show ((0:Int):Rat)=0 from rfl]at hz0;refine BD func135 ntmps135 ?_;refine uR ?_;refine vA (hz0 _) ?_;rintro r G0 hr hG0;obtain⟨xa,xl,xc,ya,yl,yc,rfl,hx1,hx2⟩:=id hr;refine uR ?_;refine EV.loopK (ι:=Nat × Value × Value × Value) [0,1,4,5] [4] (fun q=>[(6,.v (.int .i64 (q.1:Int)))]) (fun q=>[(5,35,[q.2.1,q.2.2.1,q.2.2.2])]) (fun _=>[]) (fun q G=>q.1≤l.length∧G0.Le G∧RQ G (.agg #[q.2.1,q.2.2.1,q.2.2.2]) (zaJ ((zhr l m).take q.1))) (fun q=>l.length-q.1) ((0,_,_,_)) rfl rfl ⟨rfl,trivial⟩ ⟨rfl,trivial⟩ rfl (fun _=>rfl) (⟨qQ _,Hp.Le.refl _,hr⟩) ?_;rintro⟨i,c1,c2,c3⟩ G1 hG1 ⟨hi,hG01,hs⟩;dsimp only at hi hs hG01;refine uR ?_;refine EV.cond rfl (fun hlt=>?_) (fun hlt=>?_)
 ·simp only[nN]at hlt;obtain⟨q,hqi⟩:=gE hlt;obtain⟨q',hqi'⟩:∃q,m[i]?=some q:=⟨_,qA (hlm ▸ hlt)⟩;obtain⟨vs,x,hsl,hc,hx⟩:=(hu.mono (hG0.trans hG01)).at hqi;obtain⟨xa',xl',xc',ya',yl',yc',rfl,hx1',hx2'⟩:=id hx;obtain⟨vs2,x2,hsl2,hc2,hy⟩:=(hv.mono (hG0.trans hG01)).at hqi';obtain⟨xa'',xl'',xc'',ya'',yl'',yc'',rfl,hy1',hy2'⟩:=id hy;have hqb:=hb q (qF hqi);have hqb':=hb' q' (qF hqi');have hqd:=zqp hqi hqi';have hsb:=zdB 200 ((zhr l m).take i) (fun q hq=>hdh q (List.mem_of_mem_take hq));rw[qP,qm (by omega)]at hsb;have qs:rq (zaJ ((zhr l m).take i)):=qI hsb oM;have hm:=zfD q q';have qq:rq (q*q'):=qI hm oM;refine uR ?_;apply EV.drawn 11 kR kR;intro xv yw;(repeat refine' DD ?_);refine' DJ.idxM tO rfl rfl rfl rfl rfl rfl rfl rfl rfl (hsl) (i) (rfl) (hlt) (hc) ?_;rotate_left;(repeat refine' DD ?_);refine' DJ.idxM tO rfl rfl rfl rfl rfl rfl rfl rfl rfl (hsl2) (i) (rfl) ((hlm ▸ hlt)) (hc2) ?_;rotate_left;(repeat refine' DD ?_);refine' vB (cO func137) (fun G hG hd=>zhX (hx.mono hG) (hy.mono hG) (qI hqb oM) (qI hqb' oM)) (fun _ _ _ h k=>RQ.mono h k) ?_;rotate_left;refine' vB (cO func65) (fun G hG hd=>zcu (hs.mono hG) (hd.head kR) qs qq) (fun _ _ _ h k=>RQ.mono h k) ?_;rotate_left;(refine DJ.nil (fun G2 hG2 hF2=>?_);(case hS|hS2=>rfl));have hR:=hF2.1;rw[←zbL,←zan hqd]at hR;obtain⟨_,_,_,_,_,_,e,_,_⟩:=id hR;rw[e]at hR ⊢;refine uR ?_;refine⟨(i+1,_,_,_),⟨?_,trivial⟩,sB,⟨rfl,trivial⟩,sB,rfl,⟨hlt,hG01.trans hG2,hR⟩,hG2,by dsimp only;omega⟩;rw[zab i (by omega)];rfl
 ·simp only[nN]at hlt;obtain rfl:i=l.length:=oM;rw[show (zhr l m).take l.length=zhr l m by rw[←hdl,qa]]at hs;obtain⟨_,_,_,_,_,_,e,_,_⟩:=id hs;obtain⟨rfl,rfl,rfl⟩:=zun e;refine uR ?_;exact hs
def kb (z:Int):Nat:=(max 0 (min z 256)).toNat
theorem zor (n d:Int) (h:d≠0):ht (Rat.divInt n d)≤max (bl n.natAbs) (bl d.natAbs):=by
 rw[zjx n d h];refine qI (zqv _ _ oM) ?_;have:(if d<0 then -n else n).natAbs=n.natAbs:=by split <;> simp
 rw[this];exact qH _
theorem zgE (z:Int):ht (zma z)≤5:=by
 unfold zma;have hrd:=zhV (z.tdiv 41 % 6).toNat
 have m1:=Int.emod_nonneg z (show (41:Int)≠0 by omega);have m2:=Int.emod_lt_of_pos z (show (0:Int)<41 by omega);refine qI (zor _ _ oM) (Nat.max_le.2 ⟨zaZ oM,zaZ oM⟩)
theorem zbZ {q:Rat} {k:Nat} (h:ht q≤k) (hk:k≤100000000):rq q:=qI h hk
section
variable {P:Program} {n:Nat} {ops:Array Oper} {o:Oper} {rest:List Oper} {env:Env} {bx:Bxs} {H:Hs} {Q:EQ} {τ:Tab} {d:Nat}
end
theorem zoU (a:Rat):zb6 a a=0:=by unfold zb6;rw[if_neg Rat.lt_irrefl,if_neg Rat.lt_irrefl]
theorem zl8 (a b:Rat):zb6 a b>0↔b<a:=by
 unfold zb6;constructor
 ·intro h;split at h
  ·exact absurd h (by decide)
  ·split at h
   ·assumption
   ·exact absurd h (by decide)
 ·intro h;rw[if_neg (Rat.not_lt.2 (Rat.le_of_lt h)),if_pos h];decide
theorem zbU:zae 0=.agg #[.bool false,.int .u64 0,.string ⟨#[]⟩,.int .u64 0,.string ⟨#[]⟩]:=by
 show frV 0 0=_;rw[zdR,show (0:Int).natAbs=0 from rfl,zbV (n:=0) (by decide)];rfl
theorem zaD:zac (zae 0)=[.bool false,.int .u64 0,.string ⟨#[]⟩,.int .u64 0,.string ⟨#[]⟩]:=by rw[zbU];rfl
theorem zaL {q:Rat} {n:Nat} (h:ht q≤n) (hn:n≤100000000):sm q:=qI h hn
theorem zrL {H:Hp} {v:Value} {l:List Rat} (h:QL H v l) (hl:l.length≤100000) (hb:∀q,q∈l→ht q≤100):PC prog 207 #[v] H fun r _=>r=zae (zaJ l):=by
 obtain⟨a,cap,rfl⟩:=SlC.val h;have hz:zac (zae (zaJ (l.take 0)))=[.bool false,.int .u64 0,.string ⟨#[]⟩,.int .u64 0,.string ⟨#[]⟩]:=zaD;refine BD func207 ntmps207 ?_;refine uR ?_;refine EV.loopK (ι:=Nat) [2,3,6,7] [2] (fun i=>[(8,.v (.int .i64 (i:Int)))]) (fun i=>[(3,67,zac (zae (zaJ (l.take i))))]) (fun _=>[]) (fun i G=>i≤l.length) (fun i=>l.length-i) (0) rfl rfl ⟨rfl,trivial⟩ ⟨by rw[hz];rfl,trivial⟩ rfl (fun _=>rfl) (qQ _) ?_;intro i G1 hG1 hi;refine uR ?_;refine EV.cond rfl (fun hlt=>?_) (fun hlt=>?_)
 ·simp only[nN]at hlt;obtain⟨q,hqi⟩:=gE hlt;have hqb:=hb q (qF hqi);have hsb:=zdB 100 (l.take i) (fun q hq=>hb q (List.mem_of_mem_take hq));rw[qP,qm hi]at hsb;have hadd:=zeD (zaJ (l.take i)) q (zaL hsb oM) (zaL hqb oM);rw[←zbL,←zan hqi]at hadd;refine uR ?_;refine EVL.idxM tO rfl rfl rfl rfl rfl rfl rfl rfl rfl ((SlC.mono (show SlC H (.slice a l.length cap) l.length 5 (l.flatMap fun q=>zac (zae q)) from h) hG1)) (i) (rfl) (hlt) ((QL.at (H:=H) (v:=.slice a l.length cap) hqi)) ?_
  repeat (first|refine RUN ?_|refine CV (hadd) ?_|refine CE (hadd) ?_)
  refine⟨i+1,⟨?_,trivial⟩,sB,⟨rfl,trivial⟩,sB,rfl,hlt,Hp.Le.refl _,by omega⟩;rw[zab i (by omega)];rfl
 ·simp only[nN]at hlt;obtain rfl:i=l.length:=oM;rw[qa];refine uR ?_;rfl
theorem zsu {H:Hp} {v:Value} {l:List Rat} (h:QL H v l) (hl:l.length≤100000) (h0:l.length≠0) (hb:∀q,q∈l→ht q≤100):PC prog 183 #[v] H fun r _=>r=.tuple #[zae (zaJ l / ((l.length:Int):Rat)),.bool true]:=by
 obtain⟨a,cap,rfl⟩:=SlC.val h;have hs:=zdB 100 l hb;have hln:=zos hl;have hsum:=zrL h hl hb;have hof:=zhv (l.length:Int) oM oM;have hd:=zjz (zaJ l) ((l.length:Int):Rat) (zaL hs oM) (zaL hln oM) (by intro e;have:((l.length:Int):Rat)=((0:Int):Rat):=e;exact h0 (by have:=Rat.intCast_inj.1 this;omega));refine BD func183 ntmps183 ?_
 repeat (first|refine RUN ?_|refine CV (hsum) ?_|refine CV (hof) ?_|refine CV (hd) ?_|refine CE (hsum) ?_|refine CE (hof) ?_|refine CE (hd) ?_)
 rfl
theorem zst {H:Hp} {v:Value} (h:QL H v []):PC prog 183 #[v] H fun r _=>r=.tuple #[zae 0,.bool false]:=by
 obtain⟨a,cap,rfl⟩:=SlC.val h;have hsum:=zrL h (qQ _) (by intro q hq;cases hq);have hof:=zhv 0 oM oM;rw[show ((0:Int):Rat)=0 from rfl]at hof;have hd:=zkP 0;refine BD func183 ntmps183 ?_
 repeat (first|refine RUN ?_|refine CV (hsum) ?_|refine CV (hof) ?_|refine CV (hd) ?_|refine CE (hsum) ?_|refine CE (hof) ?_|refine CE (hd) ?_)
 rfl
theorem zl3:∀{a b:List Value},zdt a=true→zdt b=true→zdt (a++b)=true
 | [],_,_,h=>h
 | v::a,b,h,k=>by
  unfold zdt at h;rw[List.cons_append];unfold zdt;rw[Bool.and_eq_true]at h ⊢;exact⟨h.1,zl3 h.2 k⟩
def zax (n:Int) (cs:List Int) (sq:Int) (q:Rat):List Value:=.int .i64 n::(cs.map (fun z=>Value.int .i64 z)++(.int .i64 sq::zac (zae q)))
theorem zau {n:Int} {cs:List Int} {sq:Int} {q:Rat} (h:cs.length=12):(zax n cs sq q).length=19:=by
 unfold zax;rw[qR,qJ,qV,h];rfl
theorem zis {α:Type} {a b:List α} {k:Nat} (h:a.length=k):(a++b).drop k=b:=List.drop_left' h
theorem zcF {n:Int} {cs:List Int} {sq:Int} {q:Rat}:((zax n cs sq q).drop 0).take 1=[.int .i64 n]:=rfl
theorem zcn {n n':Int} {cs:List Int} {sq:Int} {q:Rat}:(zax n cs sq q).take 0++[.int .i64 n']++(zax n cs sq q).drop (0+1)=zax n' cs sq q:=rfl
theorem zbX (n:Int) (cs:List Int) (sq:Int) (q:Rat):zax n cs sq q=(.int .i64 n::cs.map (fun z=>Value.int .i64 z))++(.int .i64 sq::zac (zae q)):=rfl
theorem zft {n:Int} {cs:List Int} {sq:Int} {q:Rat} (h:cs.length=12):((zax n cs sq q).drop 13).take 1=[.int .i64 sq]:=by
 rw[zbX,zis (by rw[qR,qV,h])];rfl
theorem zet {n:Int} {cs:List Int} {sq sq':Int} {q:Rat} (h:cs.length=12):(zax n cs sq q).take 13++[.int .i64 sq']++(zax n cs sq q).drop (13+1)=zax n cs sq' q:=by
 have e:(zax n cs sq q).drop (13+1)=zac (zae q):=by
  rw[←List.drop_drop,zbX,zis (by rw[qR,qV,h])];rfl
 rw[e,zbX,List.take_left' (by rw[qR,qV,h]),zbX];simp
theorem ze1 {n:Int} {cs:List Int} {sq:Int} {q:Rat} (h:cs.length=12):((zax n cs sq q).drop 14).take 5=zac (zae q):=by
 have e:(zax n cs sq q).drop (13+1)=zac (zae q):=by
  rw[←List.drop_drop,zbX,zis (by rw[qR,qV,h])];rfl
 rw[e];rfl
theorem zdK {n:Int} {cs:List Int} {sq:Int} {q q':Rat} (h:cs.length=12):(zax n cs sq q).take 14++zac (zae q')++(zax n cs sq q).drop (14+5)=zax n cs sq q':=by
 have hl:=zau (n:=n) (sq:=sq) (q:=q) h;have e:zax n cs sq q=(.int .i64 n::cs.map (fun z=>Value.int .i64 z)++[.int .i64 sq])++zac (zae q):=by rw[zbX];simp
 rw[qi oM,qG,e,List.take_left' (by simp[h]),zbX];simp
theorem zha {n:Int} {cs:List Int} {sq:Int} {q:Rat} {j:Nat} {z:Int} (hj:cs[j]?=some z):((zax n cs sq q).drop (1+j)).take 1=[.int .i64 z]:=by
 obtain⟨hl,hz⟩:=qE.1 hj;unfold zax;rw[Nat.add_comm,List.drop_succ_cons,List.drop_append_of_le_length (by rw[qV];omega),List.take_append_of_le_length (by rw[qp,qV];omega),qo (by rw[qV];exact hl)];simp[hz]
theorem zes {n:Int} {cs:List Int} {sq:Int} {q:Rat} {j:Nat} (z:Int) (hj:j<cs.length):(zax n cs sq q).take (1+j)++[.int .i64 z]++(zax n cs sq q).drop (1+j+1)=zax n (cs.set j z) sq q:=by
 unfold zax;rw[show 1+j=j+1 by omega,List.take_succ_cons,List.drop_succ_cons,List.take_append_of_le_length (by rw[qV];omega),List.drop_append_of_le_length (by rw[qV];omega),List.map_set];rw[List.set_eq_take_append_cons_drop,if_pos (by rw[qV];exact hj)];simp
theorem zmg {n:Int} {cs:List Int} {sq:Int} {q:Rat} {j:Nat} {z:Int} (hj:cs[j]?=some z):((zax n cs sq q).drop (0+1+j)).take 1=[.int .i64 z]:=zha hj
theorem zka {n:Int} {cs:List Int} {sq:Int} {q:Rat} {j:Nat} (z:Int) (hj:j<cs.length):(zax n cs sq q).take (0+1+j)++[.int .i64 z]++(zax n cs sq q).drop (0+1+j+1)=zax n (cs.set j z) sq q:=zes z hj
theorem zdh:Tryz.prog.underlying 251=some (.array 12 3):=by kernel_rfl
theorem ze2:Tryz.te253.zero=zax 0 (List.replicate 12 0) 0 0:=by
 unfold zax;rw[zaD];rfl
theorem zmf {n:Int} {cs:List Int} {sq:Int} {q:Rat} (h:cs.length=12):((zax n cs sq q).drop 0).take 19=zax n cs sq q:=by
 rw[List.drop_zero,qO (by rw[zau h];omega)]
abbrev zas (kind classes:Int) (sl sv:Value):Value:=.agg #[.int .i64 kind,.int .i64 classes,sl,sv]
theorem zrW {H:Hp} {b:Nat} {cl:Int} {la:Option Addr} {ln lc:Nat} {va:Option Addr} {vc:Nat} {vals:List Rat} (hv:QL H (.slice va vals.length vc) vals) {r n:Nat} (hn:n≤1000000) {x q:Rat} (hr:vals[r]?=some x) (hx:sm x) (hq:sm q) {cs:List Int} (hc:cs.length=12) {sq:Int} :
  PW prog 203 #[.pointer (some ⟨b,0,none⟩),zas 2 cl (.slice la ln lc) (.slice va vals.length vc),.int .i64 (r:Int)] H [(b,253,zax n cs sq q)] fun v ow _=>v=.tuple #[]∧ow=[(b,253,zax ((n+1:Nat):Int) cs sq (q+x))]:=by
 have hadd:=zeD q x hq hx;have hlen:=zau (n:=(n:Int)) (cs:=cs) (sq:=sq) (q:=q) hc;obtain⟨hrl,_⟩:=qE.1 hr;have hs:SlC H (.slice va vals.length vc) vals.length 5 (vals.flatMap fun q=>zac (zae q)):=hv;refine PW.body tO func203 rfl kR ntmps203 rfl rfl ?_;refine uR ?_;refine RP ?_;refine EVL.loadOwn tO rfl rfl rfl rfl rfl rfl (0) rfl (zcF) rfl rfl ?_;refine RP ?_;rw[show IntKind.i64.wrap ((n:Int)+1)=((n+1:Nat):Int) by rw[pK];omega];refine EVL.storeOwn tO rfl rfl rfl rfl rfl rfl ([]) ([]) rfl rfl rfl rfl ((by rw[hlen];show 0+1≤19;omega)) (zcn) ?_;refine uR ?_;apply EV.drawn 11 kR kR;intro xv yw;(repeat (first|refine' DD ?_|refine' vN ?_|refine' vF ?_));refine' DJ.ofVal (zaa.loadOwn tO rfl rfl rfl rfl (0) rfl (ze1 hc) rfl rfl) rfl rfl rfl ?_;rotate_left;(repeat (first|refine' DD ?_|refine' vN ?_|refine' vF ?_));refine' DJ.idxM tO rfl rfl rfl rfl rfl rfl rfl rfl rfl (hs) (r) (rfl) (hrl) (QL.at (H:=H) (v:=.bool true) hr) ?_;rotate_left;(repeat (first|refine' DD ?_|(refine' DC (hadd) (h:=?_);rotate_left)));(refine DJ.nil (fun G1 hG1 hF1=>?_);(case hS|hS2=>rfl));refine RP ?_;refine EVL.storeOwn tO rfl rfl rfl rfl rfl rfl ([]) ([]) rfl rfl rfl rfl ((by rw[zau hc];show 14+5≤19;omega)) (zdK hc) ?_;refine uR ?_;exact⟨rfl,rfl⟩
theorem zrU {H:Hp} {b:Nat} {cl:Int} {va:Option Addr} {vn vc:Nat} {la:Option Addr} {lc:Nat} {ls:List Int} (hv:IL H (.slice la ls.length lc) ls) {r n:Nat} (hn:n≤1000000) {k m sq:Nat} (hr:ls[r]?=some (k:Int)) (hk:k<12) {cs:List Int} (hc:cs.length=12) (hm:cs[k]?=some (m:Int)) (hmb:m≤1000000) (hsb:sq≤10000000000000) {q:Rat} :
  PW prog 203 #[.pointer (some ⟨b,0,none⟩),zas 1 cl (.slice la ls.length lc) (.slice va vn vc),.int .i64 (r:Int)] H [(b,253,zax n cs sq q)] fun v ow _=>v=.tuple #[]∧ow=[(b,253,zax ((n+1:Nat):Int) (cs.set k ((m+1:Nat):Int)) ((sq+2*m+1:Nat):Int) q)]:=by
 have hlen:=zau (n:=(n:Int)) (cs:=cs) (sq:=(sq:Int)) (q:=q) hc;obtain⟨hrl,_⟩:=qE.1 hr
 have w1:IntKind.i64.wrap ((sq:Int)+IntKind.i64.wrap (IntKind.i64.wrap (2*(m:Int))+1))=((sq+2*m+1:Nat):Int):=by
  rw[show IntKind.i64.wrap (2*(m:Int))=2*(m:Int) by rw[pK];omega,show IntKind.i64.wrap (2*(m:Int)+1)=2*(m:Int)+1 by rw[pK];omega,pK];omega
 have w2:IntKind.i64.wrap ((m:Int)+1)=((m+1:Nat):Int):=by rw[pK];omega
 refine PW.body tO func203 rfl kR ntmps203 rfl rfl ?_;refine uR ?_;refine RP ?_;refine EVL.loadOwn tO rfl rfl rfl rfl rfl rfl (0) rfl (zcF) rfl rfl ?_;refine RP ?_;rw[show IntKind.i64.wrap ((n:Int)+1)=((n+1:Nat):Int) by rw[pK];omega];refine EVL.storeOwn tO rfl rfl rfl rfl rfl rfl ([]) ([]) rfl rfl rfl rfl ((by rw[hlen];show 0+1≤19;omega)) (zcn) ?_;refine uR ?_;refine vI (hv) (r) (rfl) (hrl) ((by rw[qK,hr];rfl)) ?_;refine uR ?_;apply EV.drawn 13 kR kR;intro xv yw;(repeat (first|refine' DD ?_|refine' vN ?_|refine' vF ?_));refine' DJ.ofVal (zaa.loadOwn tO rfl rfl rfl rfl (0) rfl (zft hc) rfl rfl) rfl rfl rfl ?_;rotate_left;(repeat (first|refine' DD ?_|refine' vN ?_|refine' vF ?_));refine' DJ.idxA tO rfl rfl rfl rfl (zdh) rfl rfl rfl rfl (k) (rfl) (hk) ?_;rotate_left;refine' DJ.ofVal (zaa.loadOwn tO rfl rfl rfl rfl (0) rfl (zmg hm) rfl rfl) rfl rfl rfl ?_;rotate_left;(repeat (first|refine' DD ?_|refine' vN ?_|refine' vF ?_));(refine DJ.nil (fun G1 hG1 hF1=>?_);(case hS|hS2=>rfl));rw[w1];refine RP ?_;refine EVL.storeOwn tO rfl rfl rfl rfl rfl rfl ([]) ([]) rfl rfl rfl rfl ((by rw[zau hc];show 13+1≤19;omega)) (zet hc) ?_;refine uR ?_;apply EV.drawn 10 kR kR;intro xv yw;(repeat (first|refine' DD ?_|refine' vN ?_|refine' vF ?_));refine' DJ.idxA tO rfl rfl rfl rfl (zdh) rfl rfl rfl rfl (k) (rfl) (hk) ?_;rotate_left;refine' DJ.ofVal (zaa.loadOwn tO rfl rfl rfl rfl (0) rfl (zmg hm) rfl rfl) rfl rfl rfl ?_;rotate_left;(repeat (first|refine' DD ?_|refine' vN ?_|refine' vF ?_));refine' DJ.idxA tO rfl rfl rfl rfl (zdh) rfl rfl rfl rfl (k) (rfl) (hk) ?_;rotate_left;(refine DJ.nil (fun G2 hG2 hF2=>?_);(case hS|hS2=>rfl));rw[w2];refine RP ?_;refine EVL.storeOwn tO rfl rfl rfl rfl rfl rfl ([]) ([]) rfl rfl rfl rfl ((by rw[zau hc];show 0+1+k+1≤19;omega)) (zka _ (show k<cs.length by omega)) ?_;refine uR ?_;exact⟨rfl,rfl⟩
theorem zdT {n:Nat} (h0:¬n=0):((n:Int):Rat)≠0:=fun h=>by
 have:=congrArg Rat.num h;rw[Rat.num_intCast]at this;have h3:(0:Rat).num=0:=rfl;omega
theorem zaV (x:Rat):x / 0=0:=by rw[Rat.div_def,Rat.inv_zero,Rat.mul_zero]
theorem zpT {H:Hp} {b n:Nat} {cs:List Int} (hc:cs.length=12) {sq:Nat} (hsq:sq≤10000000000000) (hn:n≤1000000) {q:Rat} :
  PW prog 180 #[.pointer (some ⟨b,0,none⟩),.int .i64 1] H [(b,253,zax n cs sq q)] fun v ow _=>v=zae (((sq:Int):Rat) / ((n:Int):Rat))∧ow=[(b,253,zax n cs sq q)]:=by
 have hof:=zhv (sq:Int) oM oM;have hof2:=zhv (n:Int) oM oM
 have hnh:ht ((n:Int):Rat)≤100:=by
  have:=zbz (n:Int);have h2:bl (n:Int).natAbs≤20:=zaZ oM;omega
 have hsh:ht ((sq:Int):Rat)≤100:=by
  have:=zbz (sq:Int);have h2:bl (sq:Int).natAbs≤50:=zaZ oM;omega
 refine PW.body tO func180 rfl kR ntmps180 rfl rfl ?_;refine uR ?_;refine RP ?_;refine EVL.loadOwn tO rfl rfl rfl rfl rfl rfl (0) rfl (zcF) rfl rfl ?_;refine uR ?_;by_cases h0:n=0
 ·subst h0;rw[show (((0:Nat):Int) == 0)=true from rfl];refine uR ?_;rw[show (((0:Nat):Int):Rat)=0 from rfl,zaV];exact⟨zbU.symm,rfl⟩
 ·have hdiv:=zjz ((sq:Int):Rat) ((n:Int):Rat) (zaL hsh oM) (zaL hnh oM) (zdT h0);rw[show ((n:Int) == 0)=false from pP.2 (by omega)];refine uR ?_;refine RP ?_;refine EVL.loadOwn tO rfl rfl rfl rfl rfl rfl (0) rfl (zft hc) rfl rfl ?_
  repeat (first|refine RUN ?_|refine CV (hof) ?_|refine CE (hof) ?_)
  apply EV.drawn 12 kR kR;intro xv yw;(repeat (first|refine' DD ?_|refine' vN ?_|refine' vF ?_));refine' DJ.ofVal (zaa.loadOwn tO rfl rfl rfl rfl (0) rfl (zcF) rfl rfl) rfl rfl rfl ?_;rotate_left;(repeat (first|refine' DD ?_|(refine' DC (hof2) (h:=?_);rotate_left)|(refine' DC (hdiv) (h:=?_);rotate_left)));(refine DJ.nil (fun G2 hG2 hF2=>?_);(case hS|hS2=>rfl));refine uR ?_;exact⟨rfl,rfl⟩
end
section
def csL (l:List Int):List Int:=(List.range 12).map fun (k:Nat)=>(l.count (k:Int):Int)
def sqL (l:List Int):Nat:=(l.map fun x=>l.count x).sum
theorem zbT (l:List Int):(csL l).length=12:=by simp[csL]
theorem zhG (l:List Int) {k:Nat} (hk:k<12):(csL l)[k]?=some (l.count (k:Int):Int):=by
 unfold csL;rw[qK,List.getElem?_range hk];rfl
theorem zfc (l:List Int) (x y:Int):(l++[x]).count y=l.count y+if x=y then 1 else 0:=by
 rw[List.count_append,List.count_singleton];congr 1;by_cases h:x=y
 ·rw[if_pos h,h];simp
 ·rw[if_neg h];simp[h]
theorem zio (l:List Int) {k:Nat} (hk:k<12):csL (l++[(k:Int)])=(csL l).set k ((l.count (k:Int)+1:Nat):Int):=by
 apply List.ext_getElem?;intro j;rw[List.getElem?_set];by_cases hj:j<12
 ·rw[zhG _ hj,zhG _ hj,zfc,zbT];by_cases e:k=j
  ·subst e;rw[if_pos rfl,if_pos rfl,if_pos hk]
  ·rw[if_neg e,if_neg oM,qY]
 ·rw[qe (by rw[zbT];omega),qe (by rw[zbT];omega),if_neg (by omega)]
theorem zpC (l m:List Int) (x:Int):(m.map fun y=>l.count y+if x=y then 1 else 0).sum=(m.map fun y=>l.count y).sum+m.count x:=by
 induction m with
 | nil=>rfl
 | cons a m ih =>
  rw[qw,List.sum_cons,qw,List.sum_cons,ih,List.count_cons];by_cases h:x=a
  ·rw[if_pos h,h];simp;omega
  ·have h2:¬(a == x)=true:=by simp;omega
   rw[if_neg h,if_neg h2];omega
theorem ziW (l:List Int) (x:Int):sqL (l++[x])=sqL l+2*l.count x+1:=by
 unfold sqL;rw[qn,List.sum_append];have e:(l.map fun y=>(l++[x]).count y)=l.map fun y=>l.count y+if x=y then 1 else 0:=List.map_congr_left fun y _=>zfc l x y
 rw[e,zpC]
 have:([x].map fun y=>(l++[x]).count y).sum=l.count x+1:=by
  simp
 rw[this];omega
theorem zrK (l:List Int) (B:Nat):∀m:List Int,(∀y,y∈m→l.count y≤B)→(m.map fun y=>l.count y).sum≤m.length*B
 | [],_=>by simp
 | a::m,h=>by
  have ih:=zrK l B m (fun y hy=>h y (qk _ hy));have:=h a (qf ..);rw[qw,List.sum_cons,qR,Nat.succ_mul];omega
theorem zh5 (l:List Int):sqL l≤l.length*l.length:=zrK l l.length l (fun y _=>List.count_le_length)
def atR (vals:List Rat) (rs:List Int):List Rat:=rs.map fun r=>vals.getD r.toNat 0
def atI (ls:List Int) (rs:List Int):List Int:=rs.map fun r=>ls.getD r.toNat 0
theorem zlv (vals:List Rat) {rs:List Int} {i:Nat} {r:Int} {x:Rat} (h:rs[i]?=some r) (hx:vals[r.toNat]?=some x):(atR vals rs).take (i+1)=(atR vals rs).take i++[x]:=by
 have:(atR vals rs)[i]?=some x:=by unfold atR;rw[qK,h];simp[hx]
 obtain⟨hl,hh⟩:=qE.1 this;rw[qS hl,hh]
theorem zqa (ls:List Int) {rs:List Int} {i:Nat} {r x:Int} (h:rs[i]?=some r) (hx:ls[r.toNat]?=some x):(atI ls rs).take (i+1)=(atI ls rs).take i++[x]:=by
 have:(atI ls rs)[i]?=some x:=by unfold atI;rw[qK,h];simp[hx]
 obtain⟨hl,hh⟩:=qE.1 this;rw[qS hl,hh]
theorem zbP (vals:List Rat) (rs:List Int):(atR vals rs).length=rs.length:=by simp[atR]
theorem zb8 (ls rs:List Int):(atI ls rs).length=rs.length:=by simp[atI]
theorem zef {vals:List Rat} {rs:List Int} (h:∀r,r∈rs→0≤r∧r<(vals.length:Int)):∀q,q∈atR vals rs→q∈vals:=fun q hq=>by
 obtain⟨r,hr,rfl⟩:=List.mem_map.1 hq;have:=h r hr;have hl:r.toNat<vals.length:=oM;rw[qB,qA hl];exact List.getElem_mem hl
def zb5 (l:List Rat):Rat:=zaJ l / ((l.length:Int):Rat)
def zdx (m:Rat) (l:List Rat):List Rat:=l.map fun v=>(v-m)*(v-m)
theorem zgt (m:Rat) (l:List Rat) (x:Rat):zaJ (zdx m (l++[x]))=zaJ (zdx m l)+(x-m)*(x-m):=by
 unfold zdx;rw[qn,List.map_singleton,zbL]
end
section
open Go.RowKit _root_.Go.Proofs.Tryz
theorem zpP {H:Hp} {cl:Int} {va:Option Addr} {vn vc:Nat} {la:Option Addr} {lc:Nat} {ls:List Int} (hv:IL H (.slice la ls.length lc) ls) {ra:Option Addr} {rc:Nat} {rs:List Int} (hr:IL H (.slice ra rs.length rc) rs) (hn:rs.length≤100000)
  (hrs:∀r,r∈rs→0≤r∧r<(ls.length:Int)) (hls:∀z,z∈ls→0≤z∧z<12) :
  PC prog 176 #[zas 1 cl (.slice la ls.length lc) (.slice va vn vc),.slice ra rs.length rc] H fun r _=>r=.agg (zax (rs.length:Nat) (csL (atI ls rs)) (sqL (atI ls rs)) 0).toArray:=by
 refine BD func176 ntmps176 ?_;refine uR ?_;(first|refine EVL.unbox (5) rfl fun b=>?_|refine EV.unbox (5) rfl fun b=>?_);rw[ze2];refine EV.loopK (ι:=Nat) [2,4,5,8,9] [2,4] (fun i=>[(10,.v (.int .i64 (i:Int)))]) (fun _=>[]) (fun i=>[(b,253,zax (i:Nat) (csL ((atI ls rs).take i)) (sqL ((atI ls rs).take i)) 0)]) (fun i _=>i≤rs.length) (fun i=>rs.length-i) (0) rfl rfl ⟨rfl,trivial⟩ trivial rfl (fun _=>rfl) (qQ _) ?_;rintro i G1 hG1 hi;refine uR ?_;refine EV.cond rfl (fun hlt=>?_) (fun hlt=>?_)
 ·simp only[nN]at hlt;obtain⟨r,hri⟩:=gE hlt;have hb:=hrs r (qF hri);obtain⟨R,rfl⟩:=qh hb.1;obtain⟨x,hx⟩:∃x,ls[R]?=some x:=⟨_,qA oM⟩;have hxb:=hls x (qF hx);obtain⟨k,rfl⟩:=qh hxb.1;have hk:k<12:=oM;have ht:=zqa ls hri (by rw[qU];exact hx);have hlen:((atI ls rs).take i).length=i:=by rw[qP,zb8];omega
  have hcnt:((atI ls rs).take i).count (k:Int)≤i:=qI List.count_le_length (Nat.le_of_eq hlen);have hsq:=zh5 ((atI ls rs).take i);rw[hlen]at hsq;have hsq2:i*i≤100000*100000:=Nat.mul_le_mul oM oM;have hcs:=zio ((atI ls rs).take i) hk;have hsn:=ziW ((atI ls rs).take i) (k:Int);rw[←ht]at hcs hsn;refine uR ?_;refine vI ((hr.mono hG1)) (i) (rfl) (hlt) ((by rw[qK,hri];rfl)) ?_;refine uR ?_;refine EVL.callW rfl rfl rfl rfl rfl ([(b,253,zax (i:Nat) (csL ((atI ls rs).take i)) (sqL ((atI ls rs).take i)) 0)]) ([]) rfl (zrU (n:=i) (m:=((atI ls rs).take i).count (k:Int)) (sq:=sqL ((atI ls rs).take i)) (hv.mono hG1) oM hx hk (zbT _) (zhG _ hk) oM oM) ?_;rintro v ow G2 ⟨rfl,rfl⟩ hG2;rw[←hcs,←hsn];refine uR ?_;refine⟨i+1,⟨?_,trivial⟩,sB,trivial,sB,rfl,hlt,hG2,by omega⟩;rw[zab i (by omega)];rfl
 ·simp only[nN]at hlt;obtain rfl:i=rs.length:=oM;rw[show (atI ls rs).take rs.length=atI ls rs by rw[←zb8 ls rs,qa]];have hall:=zmf (n:=(rs.length:Nat)) (cs:=csL (atI ls rs)) (sq:=sqL (atI ls rs)) (q:=0) (zbT _);refine uR ?_;refine EVL.loadOwn tO rfl rfl rfl rfl rfl rfl (0) rfl (hall) rfl rfl ?_;refine uR ?_;rfl
theorem zpQ {H:Hp} {cl:Int} {va:Option Addr} {vc:Nat} {vals:List Rat} {la:Option Addr} {ln lc:Nat} (hv:QL H (.slice va vals.length vc) vals) {ra:Option Addr} {rc:Nat} {rs:List Int} (hr:IL H (.slice ra rs.length rc) rs) (hn:rs.length≤10000)
  (hrs:∀r,r∈rs→0≤r∧r<(vals.length:Int)) (hls:∀q,q∈vals→ht q≤100) :
  PC prog 176 #[zas 2 cl (.slice la ln lc) (.slice va vals.length vc),.slice ra rs.length rc] H fun r _=>r=.agg (zax (rs.length:Nat) (List.replicate 12 0) 0 (zaJ (atR vals rs))).toArray:=by
 have hmem:=fun q hq=>hls q (zef hrs q hq);refine BD func176 ntmps176 ?_;refine uR ?_;(first|refine EVL.unbox (5) rfl fun b=>?_|refine EV.unbox (5) rfl fun b=>?_);rw[ze2];refine EV.loopK (ι:=Nat) [2,4,5,8,9] [2,4] (fun i=>[(10,.v (.int .i64 (i:Int)))]) (fun _=>[]) (fun i=>[(b,253,zax (i:Nat) (List.replicate 12 0) 0 (zaJ ((atR vals rs).take i)))]) (fun i _=>i≤rs.length) (fun i=>rs.length-i) (0) rfl rfl ⟨rfl,trivial⟩ trivial rfl (fun _=>rfl) (qQ _) ?_;rintro i G1 hG1 hi;refine uR ?_;refine EV.cond rfl (fun hlt=>?_) (fun hlt=>?_)
 ·simp only[nN]at hlt;obtain⟨r,hri⟩:=gE hlt;have hb:=hrs r (qF hri);obtain⟨R,rfl⟩:=qh hb.1;obtain⟨x,hx⟩:∃x,vals[R]?=some x:=⟨_,qA oM⟩;have hxb:=hls x (qF hx);have ht:=zlv vals hri (by rw[qU];exact hx);have hlen:((atR vals rs).take i).length=i:=by rw[qP,zbP];omega
  have hsb:=zdB 100 ((atR vals rs).take i) (fun q hq=>hmem q (List.mem_of_mem_take hq));rw[hlen]at hsb;have hsn:=zbL ((atR vals rs).take i) x;rw[←ht]at hsn;refine uR ?_;refine vI ((hr.mono hG1)) (i) (rfl) (hlt) ((by rw[qK,hri];rfl)) ?_;refine uR ?_;refine EVL.callW rfl rfl rfl rfl rfl ([(b,253,zax (i:Nat) (List.replicate 12 0) 0 (zaJ ((atR vals rs).take i)))]) ([]) rfl (zrW (n:=i) (hv.mono hG1) oM hx (zaL hxb oM) (zaL hsb oM) (by rfl)) ?_;rintro v ow G2 ⟨rfl,rfl⟩ hG2;rw[←hsn];refine uR ?_;refine⟨i+1,⟨?_,trivial⟩,sB,trivial,sB,rfl,hlt,hG2,by omega⟩;rw[zab i (by omega)];rfl
 ·simp only[nN]at hlt;obtain rfl:i=rs.length:=oM;rw[show (atR vals rs).take rs.length=atR vals rs by rw[←zbP vals rs,qa]];have hall:=zmf (n:=(rs.length:Nat)) (cs:=List.replicate 12 0) (sq:=0) (q:=zaJ (atR vals rs)) (by rfl);refine uR ?_;refine EVL.loadOwn tO rfl rfl rfl rfl rfl rfl (0) rfl (hall) rfl rfl ?_;refine uR ?_;rfl
theorem zkU {cl:Int} {va:Option Addr} {vn vc:Nat} {la:Option Addr} {ln lc:Nat}:PV prog 95 #[zas 1 cl (.slice la ln lc) (.slice va vn vc)] (.int .i64 (ln:Int)):=by
 refine PV.of_pc ?_;refine BD func95 ntmps95 ?_;refine uR ?_;rfl
theorem zoA {cl:Int} {va:Option Addr} {vn vc:Nat} {la:Option Addr} {ln lc:Nat}:PV prog 95 #[zas 2 cl (.slice la ln lc) (.slice va vn vc)] (.int .i64 (vn:Int)):=by
 refine PV.of_pc ?_;refine BD func95 ntmps95 ?_;refine uR ?_;rfl
theorem zeH {va:Option Addr} {vn vc:Nat} {la:Option Addr} {lc:Nat} (h0:1≤vn) (h1:vn≤300):PV prog 96 #[zas 2 0 (.slice la 0 lc) (.slice va vn vc)] (.int .i64 0):=by
 refine PV.of_pc ?_;have hlen:=zoA (cl:=0) (va:=va) (vn:=vn) (vc:=vc) (la:=la) (ln:=0) (lc:=lc);refine BD func96 ntmps96 ?_
 repeat (first|refine RUN ?_|refine CV (hlen) ?_|refine CE (hlen) ?_)
 rw[qC (show ¬(vn:Int)<1 by omega)];refine uR ?_;rw[qC (show ¬(vn:Int)>300 by omega)];refine uR ?_;rfl
theorem zgj {H:Hp} {va:Option Addr} {vc:Nat} {la:Option Addr} {lc:Nat} {ls:List Int} (hv:IL H (.slice la ls.length lc) ls) {cl:Int} (hc:1≤cl∧cl≤12) (h0:1≤ls.length) (h1:ls.length≤300) (hls:∀z,z∈ls→0≤z∧z<cl):PC prog 96 #[zas 1 cl (.slice la ls.length lc) (.slice va 0 vc)] H fun r _=>r=.int .i64 0:=by
 have hlen:=zkU (cl:=cl) (va:=va) (vn:=0) (vc:=vc) (la:=la) (ln:=ls.length) (lc:=lc);refine BD func96 ntmps96 ?_
 repeat (first|refine RUN ?_|refine CV (hlen) ?_|refine CE (hlen) ?_)
 rw[qC (show ¬(ls.length:Int)<1 by omega)];refine uR ?_;rw[qC (show ¬(ls.length:Int)>300 by omega)];refine uR ?_;rw[qC (show ¬cl<1 by omega)];refine uR ?_;rw[qC (show ¬cl>12 by omega)];refine uR ?_;refine EV.loopK (ι:=Nat) [1,49,50] [1] (fun i=>[(51,.v (.int .i64 (i:Int)))]) (fun _=>[]) (fun _=>[]) (fun i _=>i≤ls.length) (fun i=>ls.length-i) (0) rfl rfl ⟨rfl,trivial⟩ trivial rfl (fun _=>rfl) (qQ _) ?_;rintro i G1 hG1 hi;refine uR ?_;refine EV.cond rfl (fun hlt=>?_) (fun hlt=>?_)
 ·simp only[nN]at hlt;obtain⟨z,hz⟩:=gE hlt;have hb:=hls z (qF hz);refine uR ?_;refine vI ((hv.mono hG1)) (i) (rfl) (hlt) ((by rw[qK,hz];rfl)) ?_;refine uR ?_;rw[qC (show ¬z<0 by omega)];refine uR ?_;rw[qC (show ¬z≥cl by omega)];refine uR ?_;refine⟨i+1,⟨?_,trivial⟩,sB,trivial,sB,rfl,hlt,Hp.Le.refl _,by omega⟩;rw[zab i (by omega)];rfl
 ·try refine uR ?_
  rfl
abbrev iv:Int→Value:=fun z=>.int .i64 z
def inR (n:Nat) (r:Int):Bool:=decide (0≤r) && decide (r<(n:Int))
def exL (rs:List Int) (n:Nat):List Int:=rs.filter (inR n)
theorem zcH {rs:List Int} {n:Nat}:∀r,r∈exL rs n→0≤r∧r<(n:Int):=fun r hr=>by
 have:=(List.mem_filter.1 hr).2;unfold inR at this;simpa using this
theorem zbj (rs:List Int) (n:Nat):(exL rs n).length≤rs.length:=List.length_filter_le _ _
theorem zdz {rs:List Int} {n:Nat} (h:∀r,r∈rs→0≤r∧r<(n:Int)):exL rs n=rs:=List.filter_eq_self.2 fun r hr=>by
 have:=h r hr;unfold inR;simp[this.1,this.2]
theorem zfe {rs:List Int} {n i:Nat} {r:Int} (h:rs[i]?=some r):exL (rs.take (i+1)) n=exL (rs.take i) n++if inR n r then [r] else []:=by
 rw[zan h];unfold exL;rw[List.filter_append];cases hp:inR n r <;> simp[hp]
theorem zaE.il {w:Value} {l:List Int} {ow:Ows} {T:TypeId} {x:Int} (h:zaE T 1 w (l.length+1) (l.map iv++[iv x]) ow):zaE T 1 w (l++[x]).length ((l++[x]).map iv) ow:=by
 rw[qJ,qn];exact h
theorem zcq {H:Hp} {v:Value} {rs:List Int} (hr:IL H v rs) (hn:rs.length≤1000000) (n:Nat):PC prog 177 #[v,.int .i64 (n:Int)] H fun r H'=>IL H' r (exL rs n):=by
 obtain⟨a,cap,rfl⟩:=SlC.val hr;refine BD func177 ntmps177 ?_;refine uR ?_;refine EV.loopK (ι:=Nat × Value × Ows) [1,8,9] [] (fun q=>[(5,.v q.2.1),(10,.v (.int .i64 (q.1:Int)))]) (fun _=>[]) (fun q=>q.2.2) (fun q _=>q.1≤rs.length∧zaE 3 1 q.2.1 (exL (rs.take q.1) n).length ((exL (rs.take q.1) n).map iv) q.2.2) (fun q=>rs.length-q.1) ((0,.slice none 0 0,[])) rfl rfl ⟨rfl,rfl,trivial⟩ trivial rfl (fun _=>rfl) (⟨qQ _,zaE.nil _ _⟩) ?_;rintro⟨i,w,ow⟩ G1 hG1 ⟨hi,hown⟩;dsimp only at hi hown;obtain⟨wa,wc,rfl⟩:=hown.val;refine uR ?_;refine EV.cond rfl (fun hlt=>?_) (fun hlt=>?_)
 ·simp only[nN]at hlt;obtain⟨r,hri⟩:=gE hlt;have hex:=zfe (n:=n) hri;have hle:=zbj (rs.take i) n;rw[qP]at hle;refine uR ?_;refine vI ((hr.mono hG1)) (i) (rfl) (hlt) ((by rw[qK,hri];rfl)) ?_;refine uR ?_;have wn:IntKind.i64.wrap ((i:Int)+1)=((i+1:Nat):Int):=zab i oM;by_cases h1:r≥0
  ·rw[qD h1];refine uR ?_;by_cases h2:r<(n:Int)
   ·have hp:inR n r=true:=by unfold inR;simp[h2];omega
    rw[hp,if_pos rfl]at hex;rw[qD h2];refine uR ?_;refine EVL.app1 tO rfl rfl rfl rfl rfl rfl rfl rfl rfl rfl rfl rfl rfl rfl rfl rfl rfl rfl rfl (fun _=>rfl) (ow) ([]) ((qG _).symm) (hown) oM fun _=>?_;intro v' ow' hown';refine uR ?_;refine⟨(i+1,v',ow'),⟨rfl,?_,trivial⟩,sB,trivial,trivial,qG _,⟨hlt,by rw[hex];exact hown'.il⟩,Hp.Le.refl _,by dsimp only;omega⟩;rw[wn];rfl
   ·have hp:inR n r=false:=by unfold inR;simp[h2]
    rw[hp,if_neg (by decide),qG]at hex;rw[qC h2];refine uR ?_;refine⟨(i+1,_,ow),⟨rfl,?_,trivial⟩,sB,trivial,trivial,rfl,⟨hlt,by rw[hex];exact hown⟩,Hp.Le.refl _,by dsimp only;omega⟩;rw[wn];rfl
  ·have hp:inR n r=false:=by unfold inR;simp;omega
   rw[hp,if_neg (by decide),qG]at hex;rw[qC h1];refine uR ?_;refine⟨(i+1,_,ow),⟨rfl,?_,trivial⟩,sB,trivial,trivial,rfl,⟨hlt,by rw[hex];exact hown⟩,Hp.Le.refl _,by dsimp only;omega⟩;rw[wn];rfl
 ·simp only[nN]at hlt;obtain rfl:i=rs.length:=oM;rw[qa]at hown ⊢;(first|refine EVL.publishL [] ow [] ((qG _).symm) hown fun G2 hG2 hs=>?_|refine EV.publishL [] ow [] ((qG _).symm) hown fun G2 hG2 hs=>?_);refine uR ?_;exact hs
theorem zkk {H:Hp} {v:Value} {rs:List Int} (hr:IL H v rs) (hn:rs.length≤10000) {kd cl:Int} {va:Option Addr} {vc:Nat} {vals:List Rat} {la:Option Addr} {ln lc:Nat} (hv:QL H (.slice va vals.length vc) vals) :
  PC prog 181 #[zas kd cl (.slice la ln lc) (.slice va vals.length vc),v] H fun r H'=>QL H' r (atR vals (exL rs vals.length)):=by
 obtain⟨a,cap,rfl⟩:=SlC.val hr;refine BD func181 ntmps181 ?_;refine uR ?_;refine EVL.call rfl rfl rfl rfl rfl (zcq hr oM vals.length) ?_;intro r1 G0 he hG0;have hel:=zbj rs vals.length;have heb:=zcH (rs:=rs) (n:=vals.length);generalize exL rs vals.length=es at *
 obtain⟨a1,c1,rfl⟩:=SlC.val he;refine uR ?_;refine EV.loopK (ι:=Nat × Value × Ows) [2,12,13] [2] (fun q=>[(5,.v q.2.1),(14,.v (.int .i64 (q.1:Int)))]) (fun _=>[]) (fun q=>q.2.2) (fun q _=>q.1≤es.length∧zaE 67 5 q.2.1 q.1 (((atR vals es).take q.1).flatMap fun q=>zac (zae q)) q.2.2) (fun q=>es.length-q.1) ((0,.slice none 0 0,[])) rfl rfl ⟨rfl,rfl,trivial⟩ trivial rfl (fun _=>rfl) (⟨qQ _,zaE.nil _ _⟩) ?_;rintro⟨i,w,ow⟩ G1 hG1 ⟨hi,hown⟩;dsimp only at hi hown;obtain⟨wa,wc,rfl⟩:=hown.val;refine uR ?_;refine EV.cond rfl (fun hlt=>?_) (fun hlt=>?_)
 ·simp only[nN]at hlt;obtain⟨r,hri⟩:=gE hlt;have hb:=heb r (qF hri);obtain⟨R,rfl⟩:=qh hb.1;obtain⟨x,hx⟩:∃x,vals[R]?=some x:=⟨_,qA oM⟩;have hRl:R<vals.length:=oM;have ht:=zlv vals hri (by rw[qU];exact hx);have hs:SlC G1 (.slice va vals.length vc) vals.length 5 (vals.flatMap fun q=>zac (zae q)):=hv.mono (hG0.trans hG1);refine uR ?_;refine vI ((he.mono hG1)) (i) (rfl) (hlt) ((by rw[qK,hri];rfl)) ?_;refine uR ?_;refine EVL.idxM tO rfl rfl rfl rfl rfl rfl rfl rfl rfl (hs) (R) (rfl) (hRl) (QL.at (H:=H) (v:=.bool true) hx) ?_;refine uR ?_;refine EVL.app1 tO rfl rfl rfl rfl rfl rfl rfl rfl rfl rfl rfl rfl rfl rfl rfl rfl rfl rfl rfl (fun _=>rfl) (ow) ([]) ((qG _).symm) (hown) oM fun _=>?_;intro v' ow' hown';refine uR ?_;refine⟨(i+1,v',ow'),⟨rfl,?_,trivial⟩,sB,trivial,sB,qG _,⟨hlt,by dsimp only;rw[ht,List.flatMap_append];exact hown'⟩,Hp.Le.refl _,by dsimp only;omega⟩;rw[zab i (by omega)];rfl
 ·simp only[nN]at hlt;obtain rfl:i=es.length:=oM;rw[show (atR vals es).take es.length=atR vals es by rw[←zbP vals es,qa]]at hown;rw[←zbP vals es]at hown;(first|refine EVL.publishL [] ow [] ((qG _).symm) hown fun G2 hG2 hs=>?_|refine EV.publishL [] ow [] ((qG _).symm) hown fun G2 hG2 hs=>?_);rw[←zbP vals es];refine uR ?_;exact hs
theorem zfz {l:List Int} (sp:List Value) {j:Nat} {q:Int} (h:l[j]?=some q):((l.map iv++sp).drop (j*1)).take 1=[iv q]:=by
 obtain⟨hl,hq⟩:=qE.1 h;rw[Nat.mul_one,List.drop_append_of_le_length (by rw[qV];omega),qo (by rw[qV];omega)];simp[hq]
theorem zhE {l:List Int} (sp:List Value) {j:Nat} (q:Int) (h:j<l.length):(l.map iv++sp).take (j*1)++[iv q]++(l.map iv++sp).drop (j*1+1)=(l.set j q).map iv++sp:=by
 rw[Nat.mul_one,List.take_append_of_le_length (by rw[qV];omega),List.drop_append_of_le_length (by rw[qV];omega),List.map_set,List.set_eq_take_append_cons_drop,if_pos (by rw[qV];exact h)];simp
theorem zo4 {α β:Type} (f:α→β) (l:List α) (k:Nat) (x:α):(zaz l k x).map f=zaz (l.map f) k (f x):=by
 unfold zaz;rw[qn,qw,List.map_take,List.map_drop]
theorem zfX {α:Type} {l:List α} {i:Nat} {x:α} (h:l[i]?=some x):l.drop i=x::l.drop (i+1):=by
 obtain⟨hl,rfl⟩:=qE.1 h;exact qo hl
abbrev zht (key:Int→Rat) (l:List Int):Prop:=zdo (l.map key)
theorem zmb {key:Int→Rat} {l:List Int} {k:Nat} {x:Int} (h:zht key l) (h1:∀y,y∈l.take k→key y≤key x) (h2:∀y,y∈l.drop k→key x≤key y):zht key (zaz l k x):=by
 unfold zht;rw[zo4];refine zdH h (fun y hy=>?_) (fun y hy=>?_)
 ·rw[←List.map_take]at hy;obtain⟨z,hz,rfl⟩:=List.mem_map.1 hy;exact h1 z hz
 ·rw[←List.map_drop]at hy;obtain⟨z,hz,rfl⟩:=List.mem_map.1 hy;exact h2 z hz
theorem zpe {key:Int→Rat} {l:List Int} {k:Nat} {x y:Int} (h:zht key l) (hk:l[k]?=some y) (hy:key y≤key x):∀z,z∈l.take (k+1)→key z≤key x:=fun z hz =>
 zg5 (k:=k) (y:=key y) h (by rw[qK,hk];rfl) hy (key z) (by rw[←List.map_take];exact List.mem_map_of_mem hz)
theorem ztG {acc rest:List Int} {j:Nat} {x:Int} (h:j≤acc.length):(zaz acc j x++rest)[j]?=some x:=by
 unfold zaz;rw[qZ,qL (by rw[qP];omega),qP,qm h,Nat.sub_self];rfl
theorem ztH {acc rest:List Int} {j:Nat} {x y:Int} (h:acc[j]?=some y):(zaz acc (j+1) x++rest)[j]?=some y:=by
 obtain⟨hl,_⟩:=qE.1 h;unfold zaz;rw[qZ,qM (by rw[qP];omega),List.getElem?_take_of_lt oM,h]
theorem zqU {acc rest:List Int} {j:Nat} {x:Int}:(zaz acc j x++rest).length=acc.length+1+rest.length:=by
 have:=(zcl acc j x).length_eq;rw[qJ,this,qJ];rfl
theorem zjW {acc rest:List Int} {j:Nat} {x y:Int} (h:acc[j]?=some y):((zaz acc (j+1) x++rest).set (j+1) y).set j x=zaz acc j x++rest:=by
 obtain⟨hl,hy⟩:=qE.1 h;have hlen:(acc.take j).length=j:=by rw[qP];omega
 unfold zaz;rw[qS hl,hy,qo hl,hy]
 rw[show (acc.take j++[y]++x::acc.drop (j+1)++rest)=acc.take j++(y::x::(acc.drop (j+1)++rest)) by simp,
  List.set_append_right (j+1) y oM,hlen,show j+1-j=1 by omega,List.set_cons_succ,List.set_cons_zero,
  List.set_append_right j x oM,hlen,Nat.sub_self,List.set_cons_zero]
 simp
theorem znh (acc rest:List Int) (x:Int):zaz acc acc.length x++rest=acc++x::rest:=by
 unfold zaz;rw[qa,List.drop_length];simp
theorem zeP {H:Hp} {b cap:Nat} {l:List Int} {sp:List Value} (hl:l.length≤1000) {f:FuncId} {cs:List Value} {key:Int→Rat} (hcan:zaB prog f) (hcmp:∀G,H.Le G→∀x y,x∈l→y∈l→PC prog f ([iv x,iv y]++cs).toArray G fun u _=>u=.int .i64 (zb6 (key x) (key y))) :
  PW prog 243 #[.slice (some ⟨b,0,none⟩) l.length cap,.int .i64 0,.int .i64 (l.length:Int),.func (.func f) #[] cs.toArray] H [(b,3,l.map iv++sp)] fun v ow _=>v=.tuple #[]∧∃m,ow=[(b,3,m.map iv++sp)]∧m.Perm l∧zht key m:=by
 refine PW.body tO func243 rfl kR ntmps243 rfl rfl ?_;refine uR ?_;refine EV.loopK (ι:=Nat × List Int) [0,1,2,3] [] (fun q=>[(8,.v (.int .i64 (q.1:Int)))]) (fun _=>[]) (fun q=>[(b,3,q.2.map iv++sp)]) (fun q _=>1≤q.1∧q.2.Perm l∧zht key (q.2.take q.1)) (fun q=>l.length-q.1) ((1,l)) rfl rfl ⟨rfl,trivial⟩ trivial rfl (fun _=>rfl) (⟨qH _,List.Perm.refl _,by cases l with | nil=>exact List.Pairwise.nil | cons a l=>exact List.pairwise_singleton _ _⟩) ?_;rintro⟨i,cur⟩ G1 hG1 ⟨h1,hperm,hris⟩;dsimp only at h1 hperm hris;have hcl:=hperm.length_eq;refine uR ?_;refine EV.cond rfl (fun hlt=>?_) (fun hlt=>?_)
 ·simp only[nN]at hlt;obtain⟨x,hxi⟩:∃x,cur[i]?=some x:=⟨_,qA oM⟩;have hcut:cur=cur.take i++x::cur.drop (i+1):=by rw[←zfX hxi,List.take_append_drop]
  have hal:(cur.take i).length=i:=by rw[qP];omega
  have hxm:x∈l:=hperm.mem_iff.1 (qF hxi);have hma:∀y,y∈cur.take i→y∈l:=fun y hy=>hperm.mem_iff.1 (List.mem_of_mem_take hy);have hrl:(cur.drop (i+1)).length=l.length-(i+1):=by rw[qp];omega
  have hst:=znh (cur.take i) (cur.drop (i+1)) x;rw[hal,←hcut]at hst;generalize hacc:cur.take i=acc at *
  generalize cur.drop (i+1)=rest at *
  subst hal;subst hst;refine uR ?_;refine EV.loopK (ι:=Nat) [0,1,2,3,8] [] (fun j=>[(9,.v (.int .i64 (j:Int)))]) (fun _=>[]) (fun j=>[(b,3,(zaz acc j x++rest).map iv++sp)]) (fun j _=>j≤acc.length∧∀y,y∈acc.drop j→key x≤key y) (fun j=>j) (acc.length) rfl rfl ⟨rfl,trivial⟩ trivial rfl (fun _=>rfl) (⟨qH _,by rw[List.drop_length];intro y hy;cases hy⟩) ?_;rintro j G2 hG2 ⟨hj,hgr⟩;have hlen:=zqU (acc:=acc) (rest:=rest) (j:=j) (x:=x);have hx':=ztG (rest:=rest) (x:=x) hj;have hp':=zcl acc j x;have hsum:(zaz acc j x++rest).length=l.length:=by rw[hlen];omega
  rw[←hsum]
  have next:(zaz acc j x++rest).Perm l:=by
   refine List.Perm.trans ?_ hperm;exact(hp'.trans (zcl acc acc.length x).symm).append_right rest
  have fin:zht key (zaz acc j x)→zht key ((zaz acc j x++rest).take (acc.length+1)):=fun h=>by
   rw[List.take_append_of_le_length (by rw[hp'.length_eq];simp)]
   rwa [qO (by rw[hp'.length_eq];simp)]
  cases j with
  | zero =>
   have hr:=fin (zmb hris (by intro y hy;rw[List.take_zero]at hy;cases hy) hgr);refine uR ?_;apply EV.drawn 17 kR kR;intro xv yw;(repeat refine' DD ?_);(refine DJ.nil (fun G3 hG3 hF3=>?_);(case hS|hS2=>rfl));refine uR ?_;refine⟨(acc.length+1,zaz acc 0 x++rest),⟨?_,trivial⟩,sB,trivial,trivial,rfl,⟨by omega,next,hr⟩,hG2.trans hG3,by dsimp only;omega⟩;rw[zab _ (by omega)];rfl
  | succ j =>
   obtain⟨y,hyj⟩:∃y,acc[j]?=some y:=⟨_,qA oM⟩;have hy':=ztH (rest:=rest) (x:=x) hyj;have hc:=fun G (hG:H.Le G)=>hcmp G hG x y hxm (hma y (qF hyj))
   have hlo:zb6 (key x) (key y)<0→key x≤key y:=fun h=>by
    unfold zb6 at h;split at h
    ·exact Rat.le_of_lt (by assumption)
    ·split at h <;> omega
   have hge:¬zb6 (key x) (key y)<0→key y≤key x:=fun h=>by
    unfold zb6 at h;split at h
    ·omega
    ·rename_i k;exact Rat.not_lt.1 k
   generalize zb6 (key x) (key y)=o at *
   refine uR ?_;apply EV.drawn 17 kR kR;intro xv yw;(repeat refine' DD ?_);rw[qD (show ((j+1:Nat):Int)>0 by omega)];(repeat refine' DD ?_);refine' DJ.idxB tO rfl rfl rfl rfl rfl rfl rfl rfl rfl (j+1) ((j+1)*1) (rfl) (oM) (rfl) ?_;rotate_left;refine' DJ.ofVal (zaa.loadOwn tO rfl rfl rfl rfl (0) rfl (zfz sp hx') rfl rfl) rfl rfl rfl ?_;rotate_left;(repeat refine' DD ?_);refine' DJ.idxB tO rfl rfl rfl rfl rfl rfl rfl rfl rfl (j) (j*1) ((by rw[pK];omega)) (oM) (rfl) ?_;rotate_left;refine' DJ.ofVal (zaa.loadOwn tO rfl rfl rfl rfl (0) rfl (zfz sp hy') rfl rfl) rfl rfl rfl ?_;rotate_left;(refine' DJ.callC (f:=f) (cs:=cs) rfl rfl rfl rfl rfl rfl hcan (fun G hG=>hc G (hG1.trans (hG2.trans hG))) ?_;rotate_left);(repeat refine' DD ?_);(refine DJ.nil (fun G3 hG3 hF3=>?_);(case hS|hS2=>rfl));refine uR ?_;by_cases ho:o<0
   ·rw[qD ho];have hxy:=hlo ho;refine uR ?_;refine EVA.start kR ?_;refine EVA.val tO (0) rfl kR kR kR rfl rfl rfl rfl rfl ?_;refine EVA.val tO (1) rfl kR kR kR rfl rfl rfl rfl rfl ?_;refine EVA.val tO (5) rfl kR kR kR rfl rfl rfl rfl rfl ?_;refine EVA.val tO (6) rfl kR kR kR rfl rfl rfl rfl rfl ?_;refine EVA.val tO (7) rfl kR kR kR rfl rfl rfl rfl rfl ?_;refine EVA.idxB tO (8) rfl kR kR kR rfl rfl rfl rfl rfl rfl rfl rfl rfl (j) (j*1) ((by rw[pK];omega)) (oM) (rfl) ?_;refine EVA.val tO (10) rfl kR kR kR rfl rfl rfl rfl rfl ?_;refine EVA.val tO (11) rfl kR kR kR rfl rfl rfl rfl rfl ?_;refine EVA.idxB tO (12) rfl kR kR kR rfl rfl rfl rfl rfl rfl rfl rfl rfl (j+1) ((j+1)*1) (rfl) (oM) (rfl) ?_;refine EVA.val tO (2) rfl kR kR kR rfl rfl rfl rfl rfl ?_;refine EVA.val tO (3) rfl kR kR kR rfl rfl rfl rfl rfl ?_;refine EVA.val tO (4) rfl kR kR kR rfl rfl rfl rfl rfl ?_;refine EVA.two 9 13 kR rfl rfl ?_ ?_
    ·refine EVL.loadOwn tO rfl rfl rfl rfl rfl rfl (0) rfl (zfz sp hy') rfl rfl ?_;refine EVL.nil ⟨rfl,?_⟩;refine EVA.one 13 kR rfl ?_;refine EVL.loadOwn tO rfl rfl rfl rfl rfl rfl (0) rfl (zfz sp hx') rfl rfl ?_;refine EVL.nil ⟨rfl,?_⟩;refine EVA.idxB tO (14) rfl kR kR kR rfl rfl rfl rfl rfl rfl rfl rfl rfl (j+1) ((j+1)*1) (rfl) (oM) (rfl) ?_;refine EVA.one 15 kR rfl ?_;refine EVL.storeOwn tO rfl rfl rfl rfl rfl rfl ([]) ([]) rfl rfl rfl rfl ((by rw[qJ,qV];show (j+1)*1+1≤_;omega)) ((zhE sp y (show j+1<(zaz acc (j+1) x++rest).length by omega))) ?_;refine EVL.nil ⟨rfl,?_⟩;refine EVA.idxB tO (16) rfl kR kR kR rfl rfl rfl rfl rfl rfl rfl rfl rfl (j) (j*1) ((by rw[pK];omega)) (oM) (rfl) ?_;refine EVA.one 17 kR rfl ?_;refine EVL.storeOwn tO rfl rfl rfl rfl rfl rfl ([]) ([]) rfl rfl rfl rfl ((by rw[qJ,qV,List.length_set];show j*1+1≤_;omega)) ((zhE sp x (show j<((zaz acc (j+1) x++rest).set (j+1) y).length by rw[List.length_set];omega))) ?_;refine EVL.nil ⟨rfl,?_⟩;refine EVA.nil kR ?_;rw[zjW hyj];refine uR ?_;refine⟨j,⟨?_,trivial⟩,sB,trivial,trivial,rfl,⟨by omega,?_⟩,hG3,by omega⟩
     ·rw[show IntKind.i64.wrap (((j+1:Nat):Int)-1)=(j:Int) by rw[pK];omega];rfl
     ·intro z hz;rw[zfX hyj]at hz;rcases List.mem_cons.1 hz with rfl | hz
      ·exact hxy
      ·exact hgr z hz
    ·refine EVL.loadOwn tO rfl rfl rfl rfl rfl rfl (0) rfl (zfz sp hx') rfl rfl ?_;refine EVL.nil ⟨rfl,?_⟩;refine EVA.one 9 kR rfl ?_;refine EVL.loadOwn tO rfl rfl rfl rfl rfl rfl (0) rfl (zfz sp hy') rfl rfl ?_;refine EVL.nil ⟨rfl,?_⟩;refine EVA.idxB tO (14) rfl kR kR kR rfl rfl rfl rfl rfl rfl rfl rfl rfl (j+1) ((j+1)*1) (rfl) (oM) (rfl) ?_;refine EVA.one 15 kR rfl ?_;refine EVL.storeOwn tO rfl rfl rfl rfl rfl rfl ([]) ([]) rfl rfl rfl rfl ((by rw[qJ,qV];show (j+1)*1+1≤_;omega)) ((zhE sp y (show j+1<(zaz acc (j+1) x++rest).length by omega))) ?_;refine EVL.nil ⟨rfl,?_⟩;refine EVA.idxB tO (16) rfl kR kR kR rfl rfl rfl rfl rfl rfl rfl rfl rfl (j) (j*1) ((by rw[pK];omega)) (oM) (rfl) ?_;refine EVA.one 17 kR rfl ?_;refine EVL.storeOwn tO rfl rfl rfl rfl rfl rfl ([]) ([]) rfl rfl rfl rfl ((by rw[qJ,qV,List.length_set];show j*1+1≤_;omega)) ((zhE sp x (show j<((zaz acc (j+1) x++rest).set (j+1) y).length by rw[List.length_set];omega))) ?_;refine EVL.nil ⟨rfl,?_⟩;refine EVA.nil kR ?_;rw[zjW hyj];refine uR ?_;refine⟨j,⟨?_,trivial⟩,sB,trivial,trivial,rfl,⟨by omega,?_⟩,hG3,by omega⟩
     ·rw[show IntKind.i64.wrap (((j+1:Nat):Int)-1)=(j:Int) by rw[pK];omega];rfl
     ·intro z hz;rw[zfX hyj]at hz;rcases List.mem_cons.1 hz with rfl | hz
      ·exact hxy
      ·exact hgr z hz
   ·rw[qC ho];have hr:=fin (zmb hris (zpe hris hyj (hge ho)) hgr);refine uR ?_;refine⟨(acc.length+1,zaz acc (j+1) x++rest),⟨?_,trivial⟩,sB,trivial,trivial,rfl,⟨by omega,next,hr⟩,hG2.trans hG3,by dsimp only;omega⟩;rw[zab _ (by omega)];rfl
 ·simp only[nN]at hlt;rw[qO (by omega)]at hris;refine uR ?_;exact⟨rfl,cur,rfl,hperm,hris⟩
section
variable {P:Program} {n:Nat} {ops:Array Oper} {rest:List Oper} {env:Env} {bx:Bxs} {H:Hs} {Q:EQ}
theorem Rel.asRo {W0:World} {H0:Bs} {β:Nat→Nat} {a:Act} {W:World} (r:Rel n W0 H0 β env bx H a W) {t b off:Nat} (ht:env.get t=some (.v (.pointer (some ⟨b,off,none⟩)))) {c:Array Value} (hc:H.ro b=some c) {cs:List Value} (hcs:∀j x,cs[j]?=some x→c[off+j]?=some x) :
  Rel n W0 H0 β ((t,.ro cs)::env) bx H a W:=by
 refine⟨r.size,r.defers,fun t' s hs=>?_,r.box,r.low,r.inj,fun t' i off' hu=>?_,r.fits,r.le,r.new,r.bel,r.glob,r.own,r.one⟩
 ·rw[Env.get_cons]at hs;by_cases e:t=t'
  ·subst e;rw[if_pos rfl]at hs;cases hs;obtain⟨x,hx,hr⟩:=r.slot t _ ht;exact⟨x,hx,b,off,c,hr,hc,hcs⟩
  ·rw[if_neg e]at hs;exact r.slot t' s hs
 ·rw[Env.get_cons]at hu;by_cases e:t=t'
  ·rw[if_pos e]at hu;cases hu
  ·rw[if_neg e]at hu;exact r.pin t' i off' hu
theorem EV.asRo {c:Code} (t:Nat) {b:Nat} (ht:env.get t=some (.v (.pointer (some ⟨b,0,none⟩)))) {cs:List Value} (hc:H.ro b=some cs.toArray) (h:EV P n c ((t,.ro cs)::env) bx H Q):EV P n c env bx H Q :=
 fun W0 β a W r=>h W0 β a W (r.asRo ht hc (fun j x hx=>by rw[qt];simpa using hx))
theorem EVL.asRo (t:Nat) {b:Nat} (ht:env.get t=some (.v (.pointer (some ⟨b,0,none⟩)))) {cs:List Value} (hc:H.ro b=some cs.toArray) (h:EVL P n ops rest ((t,.ro cs)::env) bx H Q):EVL P n ops rest env bx H Q :=
 fun W0 β a W r=>h W0 β a W (r.asRo ht hc (fun j x hx=>by rw[qt];simpa using hx))
theorem EVL.swapOw (a b:Ows) (e:H.ow=a++b) (h:EVL P n ops rest env bx ⟨H.ro,b++a,H.base⟩ Q):EVL P n ops rest env bx H Q :=
 fun W0 β x W r=>h W0 β x W (r.permOw (by rw[e];exact List.perm_append_comm))
theorem EV.swapOw {c:Code} (a b:Ows) (e:H.ow=a++b) (h:EV P n c env bx ⟨H.ro,b++a,H.base⟩ Q):EV P n c env bx H Q :=
 fun W0 β x W r=>h W0 β x W (r.permOw (by rw[e];exact List.perm_append_comm))
end
def QVs (H:Hp) (vs:List Value) (X:List (List Rat)):Prop:=vs.length=X.length∧∀(j:Nat) (u:Value) (x:List Rat),vs[j]?=some u→X[j]?=some x→QL H u x
theorem QVs.mono {H G:Hp} {vs:List Value} {X:List (List Rat)} (h:QVs H vs X) (k:H.Le G):QVs G vs X:=⟨h.1,fun j u x e1 e2=>(h.2 j u x e1 e2).mono k⟩
theorem QVs.nil (H:Hp):QVs H [] []:=⟨rfl,fun j u x h=>by simp at h⟩
theorem zpO {α:Type} {p:Value→α→Prop} {vs:List Value} {X:List α} {u:Value} {x:α} (h:vs.length=X.length∧∀(j:Nat) (u:Value) (x:α),vs[j]?=some u→X[j]?=some x→p u x) (k:p u x) :
  (vs++[u]).length=(X++[x]).length∧∀(j:Nat) (v:Value) (y:α),(vs++[u])[j]?=some v→(X++[x])[j]?=some y→p v y:=by
 refine⟨by simp[h.1],fun j y r e1 e2=>?_⟩;rw[List.getElem?_append]at e1 e2;by_cases hj:j<vs.length
 ·rw[if_pos hj]at e1;rw[if_pos (by rw[←h.1];exact hj)]at e2;exact h.2 j y r e1 e2
 ·rw[if_neg hj]at e1;rw[if_neg (by rw[←h.1];exact hj)]at e2;have:=h.1
  cases hk:j-vs.length with
  | zero =>
   rw[hk]at e1;rw[←h.1,hk]at e2;simp at e1 e2;subst e1;subst e2;exact k
  | succ m=>rw[hk]at e1;simp at e1
theorem QVs.snoc {H:Hp} {vs:List Value} {X:List (List Rat)} {u:Value} {x:List Rat} (h:QVs H vs X) (k:QL H u x):QVs H (vs++[u]) (X++[x]):=zpO h k
def QLL (H:Hp) (v:Value) (X:List (List Rat)):Prop:=∃vs:List Value,QVs H vs X∧SlC H v X.length 1 vs
theorem QLL.mono {H G:Hp} {v:Value} {X:List (List Rat)} (h:QLL H v X) (k:H.Le G):QLL G v X:=by
 obtain⟨vs,h1,h2⟩:=h;exact⟨vs,h1.mono k,h2.mono k⟩
theorem QLL.val {H:Hp} {v:Value} {X:List (List Rat)} (h:QLL H v X):∃a c,v=.slice a X.length c:=by
 obtain⟨vs,_,h2⟩:=h;exact SlC.val h2
theorem QVs.at {H:Hp} {vs:List Value} {X:List (List Rat)} (h:QVs H vs X) {j:Nat} {x:List Rat} (hj:X[j]?=some x):∃a c,vs[j]?=some (.slice a x.length c)∧QL H (.slice a x.length c) x:=by
 obtain⟨hl,_⟩:=qE.1 hj;obtain⟨u,hu⟩:∃u,vs[j]?=some u:=⟨_,qA (by rw[h.1];exact hl)⟩;have hq:=h.2 j u x hu hj;obtain⟨a,c,rfl⟩:=SlC.val hq;exact⟨a,c,hu,hq⟩
def zcI (X:List (List Rat)) (col r:Int):Bool:=decide (0≤col) && decide (col<((X.getD r.toNat []).length:Int))
def zbv (X:List (List Rat)) (col r:Int):Rat:=(X.getD r.toNat []).getD col.toNat 0
theorem zeh {X:List (List Rat)} {col r:Int} {R C:Nat} {x:List Rat} {q:Rat} (hr:r=R) (hc:col=C) (hx:X[R]?=some x) (hq:x[C]?=some q):zbv X col r=q:=by
 subst hr;subst hc;unfold zbv;simp[qB,hx,hq]
theorem zel {X:List (List Rat)} {col r:Int} (hr0:0≤r) (hr:r<(X.length:Int)) (h:zcI X col r=true):∃(R C:Nat) (x:List Rat) (q:Rat),r=R∧col=C∧X[R]?=some x∧x[C]?=some q:=by
 unfold zcI at h;simp only[Bool.and_eq_true,decide_eq_true_eq]at h;obtain⟨R,rfl⟩:=qh hr0;obtain⟨C,rfl⟩:=qh h.1;have h2:=h.2;rw[qU,qB,qA (show R<X.length by omega),Option.getD_some]at h2;exact⟨R,C,X[R],X[R][C],rfl,rfl,qA oM,qA oM⟩
theorem zn8 {H:Hp} {bx bc:Nat} {v:Value} {X:List (List Rat)} {col:Int} (hX:QLL H v X) (hb:H bx=some [v].toArray) (hc:H bc=some [Value.int .i64 col].toArray) (hsm:∀x,x∈X→∀q,q∈x→sm q)
  {i j:Int} (hi0:0≤i) (hi:i<(X.length:Int)) (hj0:0≤j) (hj:j<(X.length:Int)) (hci:zcI X col i=true) (hcj:zcI X col j=true) :
  PC prog 223 #[.int .i64 i,.int .i64 j,.pointer (some ⟨bx,0,none⟩),.pointer (some ⟨bc,0,none⟩)] H fun r _=>r=.int .i64 (zb6 (zbv X col i) (zbv X col j)):=by
 obtain⟨I,C,x,p,rfl,rfl,hxi,hp⟩:=zel hi0 hi hci;obtain⟨J,C',y,q,rfl,hCC,hyj,hq⟩:=zel hj0 hj hcj;obtain rfl:C=C':=oM;obtain⟨va,vc,rfl⟩:=hX.val;obtain⟨vs,hvs,hs⟩:=hX;obtain⟨a1,c1,hu1,hQ1⟩:=hvs.at hxi;obtain⟨a2,c2,hu2,hQ2⟩:=hvs.at hyj;have hs1:SlC H (.slice a1 x.length c1) x.length 5 (x.flatMap fun q=>zac (zae q)):=hQ1;have hs2:SlC H (.slice a2 y.length c2) y.length 5 (y.flatMap fun q=>zac (zae q)):=hQ2;have hcmp:=zeI p q (hsm x (qF hxi) p (qF hp)) (hsm y (qF hyj) q (qF hq));rw[zeh rfl rfl hxi hp,zeh rfl rfl hyj hq];have hCx:=(qE.1 hp).1;have hCy:=(qE.1 hq).1;have hIl:I<X.length:=oM;have hJl:J<X.length:=oM;refine BD func223 ntmps223 ?_;refine EV.asRo 2 rfl hb ?_;refine EV.asRo 3 rfl hc ?_;refine uR ?_;apply EV.drawn 14 kR kR;intro xv yw;(repeat refine' DD ?_);refine' vJ (hs) (I) (rfl) (hIl) (hu1) ?_;rotate_left;(repeat refine' DD ?_);refine' DJ.idxM tO rfl rfl rfl rfl rfl rfl rfl rfl rfl (hs1) (C) (rfl) (hCx) (QL.at (H:=H) (v:=.bool true) hp) ?_;rotate_left;(repeat refine' DD ?_);refine' vJ (hs) (J) (rfl) (hJl) (hu2) ?_;rotate_left;(repeat refine' DD ?_);refine' DJ.idxM tO rfl rfl rfl rfl rfl rfl rfl rfl rfl (hs2) (C) (rfl) (hCy) (QL.at (H:=H) (v:=.bool true) hq) ?_;rotate_left;(repeat refine' DD ?_);(refine DJ.nil (fun G1 hG1 hF1=>?_);(case hS|hS2=>rfl))
 repeat (first|refine RUN ?_|refine CV (hcmp) ?_|refine CE (hcmp) ?_)
 rfl
theorem ziz {H:Hp} {s:Value} {A:Int} (hA:0≤A∧A≤1000) (L:Ows) {clo:Value}:PW prog 243 #[s,.int .i64 A,.int .i64 A,clo] H L fun v ow _=>v=.tuple #[]∧ow=L:=by
 refine PW.body tO func243 rfl kR ntmps243 rfl rfl ?_;refine uR ?_;rw[show IntKind.i64.wrap (A+1)=A+1 by rw[pK];omega];refine EV.loopK (ι:=Unit) [] [] (fun q=>[(2,.v (.int .i64 A)),(8,.v (.int .i64 (A+1)))]) (fun _=>[]) (fun _=>L) (fun _ _=>True) (fun _=>0) (()) rfl rfl ⟨rfl,rfl,trivial⟩ trivial rfl (fun _=>rfl) (trivial) ?_;rintro⟨⟩ G1 hG1 _;refine uR ?_;rw[qC (show ¬A+1<A by omega)];refine uR ?_;exact⟨rfl,rfl⟩
theorem znF {H:Hp} {b cap:Nat} {l:List Int} {sp:List Value} (hl:l.length≤20) {f:FuncId} {cs:List Value} {key:Int→Rat} (hcan:zaB prog f) (hcmp:∀G,H.Le G→∀x y,x∈l→y∈l→PC prog f ([iv x,iv y]++cs).toArray G fun u _=>u=.int .i64 (zb6 (key x) (key y))) :
  PW prog 222 #[.slice (some ⟨b,0,none⟩) l.length cap,.func (.func f) #[] cs.toArray] H [(b,3,l.map iv++sp)] fun v ow _=>v=.tuple #[]∧∃m,ow=[(b,3,m.map iv++sp)]∧m.Perm l∧zht key m:=by
 have hst:PW prog 236 #[.slice (some ⟨b,0,none⟩) l.length cap,.int .i64 (l.length:Int),.func (.func f) #[] cs.toArray] H [(b,3,l.map iv++sp)] fun v ow _=>v=.tuple #[]∧∃m,ow=[(b,3,m.map iv++sp)]∧m.Perm l∧zht key m:=by
  refine PW.body tO func236 rfl kR ntmps236 rfl rfl ?_;refine uR ?_;refine EV.loopK (ι:=Bool × List Int) [0,1,2,6] [] (fun q=>[(7,.v (.int .i64 (if q.1 then 20 else 0))),(8,.v (.int .i64 (if q.1 then 40 else 20)))]) (fun _=>[]) (fun q=>[(b,3,q.2.map iv++sp)]) (fun q _=>q.2.Perm l∧(q.1=true→l.length=20∧zht key q.2)∧(q.1=false→q.2=l)) (fun q=>if q.1 then 0 else 1) ((false,l)) rfl rfl ⟨rfl,rfl,trivial⟩ trivial rfl (fun _=>rfl) (⟨List.Perm.refl _,by simp,by simp⟩) ?_;rintro⟨q,m⟩ G1 hG1 ⟨hp,h1,h2⟩;dsimp only at hp h1 h2
  cases q with
  | true =>
   obtain⟨hn,hr⟩:=h1 rfl;refine uR ?_;rw[show decide ((if true=true then (40:Int) else 20)≤(l.length:Int))=false by rw[hn];rfl];refine uR ?_;rw[show (if true=true then (20:Int) else 0)=(l.length:Int) by rw[hn];rfl];refine EVL.callW rfl rfl rfl rfl rfl ([(b,3,m.map iv++sp)]) ([]) rfl (ziz (A:=(l.length:Int)) oM _) ?_;rintro v ow G2 ⟨rfl,rfl⟩ hG2;refine uR ?_;refine EV.loopK (ι:=Unit) [1] [] (fun q=>[(6,.v (.int .i64 20))]) (fun _=>[]) (fun _=>[(b,3,m.map iv++sp)]) (fun _ _=>True) (fun _=>0) (()) rfl rfl ⟨rfl,trivial⟩ trivial rfl (fun _=>rfl) (trivial) ?_;rintro⟨⟩ G3 hG3 _;refine uR ?_;rw[qC (show ¬(20:Int)<(l.length:Int) by omega)];refine uR ?_;exact⟨rfl,m,rfl,hp,hr⟩
  | false =>
   obtain rfl:=h2 rfl;refine uR ?_;by_cases hn:m.length=20
   ·rw[show decide ((if false=true then (40:Int) else 20)≤(m.length:Int))=true by rw[hn];rfl];have hi:=zeP (H:=G1) (b:=b) (cap:=cap) (sp:=sp) (l:=m) (cs:=cs) (key:=key) oM hcan (fun G hG=>hcmp G (hG1.trans hG));rw[hn]at hi;refine uR ?_;rw[hn];refine vW ([(b,3,m.map iv++sp)]) ([]) (hi) ?_;rintro v ow G2 ⟨rfl,m2,rfl,hp2,hr2⟩ hG2;refine uR ?_;exact⟨(true,m2),⟨rfl,rfl,trivial⟩,sB,trivial,trivial,rfl,⟨hp2,fun _=>⟨by first|exact hn|rfl,hr2⟩,by simp⟩,hG2,by simp⟩
   ·rw[show decide ((if false=true then (40:Int) else 20)≤(m.length:Int))=false by simp;omega];refine uR ?_;refine EVL.callW rfl rfl rfl rfl rfl ([(b,3,m.map iv++sp)]) ([]) rfl (zeP (key:=key) oM hcan (fun G hG=>hcmp G (hG1.trans hG))) ?_;rintro v ow G2 ⟨rfl,m2,rfl,hp2,hr2⟩ hG2;refine uR ?_;refine EV.loopK (ι:=Unit) [1] [] (fun q=>[(6,.v (.int .i64 20))]) (fun _=>[]) (fun _=>[(b,3,m2.map iv++sp)]) (fun _ _=>True) (fun _=>0) (()) rfl rfl ⟨rfl,trivial⟩ trivial rfl (fun _=>rfl) (trivial) ?_;rintro⟨⟩ G3 hG3 _;refine uR ?_;rw[qC (show ¬(20:Int)<(m.length:Int) by omega)];refine uR ?_;exact⟨rfl,m2,rfl,hp2,hr2⟩
 refine PW.body tO func222 rfl kR ntmps222 rfl rfl ?_;refine uR ?_;refine vW ([(b,3,l.map iv++sp)]) ([]) (hst) ?_;rintro v ow G2 ⟨rfl,m,rfl,hp,hr⟩ hG2;refine uR ?_;exact⟨rfl,m,rfl,hp,hr⟩
theorem zeR:zb5 []=0:=zaV _
theorem zoC {H:Hp} {v:Value} {l:List Rat} (h:QL H v l) (hl:l.length≤10000) (hb:∀q,q∈l→ht q≤100):PC prog 183 #[v] H fun r _=>r=.tuple #[zae (zb5 l),.bool (decide (0<l.length))]:=by
 by_cases h0:l.length=0
 ·obtain rfl:=qz.1 h0;rw[zeR];exact zst h
 ·rw[qD (show 0<l.length by omega)];exact zsu h oM h0 hb
theorem zqG {l:List Rat} {B:Nat} (hl:l.length≤300) (hb:∀q,q∈l→ht q≤B):ht (zb5 l)≤1+(B+1)*300+20:=by
 have b1:=zdB B l hb;have b2:(B+1)*l.length≤(B+1)*300:=qb _ hl;have b3:=zos (n:=l.length) oM;have b4:=zeO (zaJ l) ((l.length:Int):Rat);unfold zb5;omega
theorem zr7 {m:Rat} {l:List Rat} {B C:Nat} (hb:∀q,q∈l→ht q≤B) (hm:ht m≤C):∀q,q∈zdx m l→ht q≤2*(B+C+1):=fun q hq=>by
 obtain⟨v,hv,rfl⟩:=List.mem_map.1 hq;have h1:=hb v hv;have h2:=zjD v m;have h3:=zfD (v-m) (v-m);omega
theorem zr8 {m:Rat} {l:List Rat} {B C:Nat} (hl:l.length≤300) (hb:∀q,q∈l→ht q≤B) (hm:ht m≤C):ht (zaJ (zdx m l))≤1+(2*(B+C+1)+1)*300:=by
 have h1:=zdB _ (zdx m l) (zr7 hb hm);have h2:(2*(B+C+1)+1)*(zdx m l).length≤(2*(B+C+1)+1)*300:=qb _ (by simpa[zdx] using hl);omega
theorem zlV {H:Hp} {v:Value} {rs:List Int} (hr:IL H v rs) (hn:rs.length≤300) {va:Option Addr} {vc:Nat} {vals:List Rat} {la:Option Addr} {lc:Nat} (hv:QL H (.slice va vals.length vc) vals) (h0:1≤vals.length) (h1:vals.length≤300) (hb:∀q,q∈vals→ht q≤100) :
  PC prog 145 #[zas 2 0 (.slice la 0 lc) (.slice va vals.length vc),v] H fun r _=>r=zae (zb5 (atR vals (exL rs vals.length))):=by
 obtain⟨a,cap,rfl⟩:=SlC.val hr;have hchk:=zeH (va:=va) (vc:=vc) (la:=la) (lc:=lc) h0 h1;have hel:=zbj rs vals.length;refine BD func145 ntmps145 ?_
 repeat (first|refine RUN ?_|refine CV (hchk) ?_|refine CE (hchk) ?_)
 refine EVL.call rfl rfl rfl rfl rfl (zkk hr oM hv) ?_;intro r1 G1 hL hG1;have hlb:=fun q hq=>hb q (zef (zcH (rs:=rs) (n:=vals.length)) q hq);have hll:(atR vals (exL rs vals.length)).length≤300:=by rw[zbP];omega
 generalize atR vals (exL rs vals.length)=L at *
 have hm:=zoC hL oM hlb
 repeat (first|refine RUN ?_|refine CV (hm) ?_|refine CE (hm) ?_)
 by_cases hz:0<L.length
 ·rw[qD hz];refine uR ?_;rfl
 ·rw[qC hz];refine uR ?_;obtain rfl:L=[]:=qz.1 oM;rw[zeR];exact zbU.symm
theorem zqj {H:Hp} {v:Value} {rs:List Int} (hr:IL H v rs) (hn:rs.length≤300) {va:Option Addr} {vc:Nat} {vals:List Rat} {la:Option Addr} {lc:Nat} (hv:QL H (.slice va vals.length vc) vals) (h0:1≤vals.length) (h1:vals.length≤300) (hb:∀q,q∈vals→ht q≤100) :
  PC prog 144 #[zas 2 0 (.slice la 0 lc) (.slice va vals.length vc),v] H fun r _=>r=zae (zaJ (zdx (zb5 (atR vals (exL rs vals.length))) (atR vals (exL rs vals.length)))):=by
 obtain⟨a,cap,rfl⟩:=SlC.val hr;have hchk:=zeH (va:=va) (vc:=vc) (la:=la) (lc:=lc) h0 h1;have hel:=zbj rs vals.length;have hmean:=zlV (la:=la) (lc:=lc) hr hn hv h0 h1 hb;have hvals:=zkk (kd:=2) (cl:=0) (la:=la) (ln:=0) (lc:=lc) hr oM hv;have hlb:=fun q hq=>hb q (zef (zcH (rs:=rs) (n:=vals.length)) q hq);have hll:(atR vals (exL rs vals.length)).length≤300:=by rw[zbP];omega
 generalize atR vals (exL rs vals.length)=L at *
 have hmh:=zqG hll hlb;generalize zb5 L=m at *
 have hms:sm m:=zaL hmh oM;refine BD func144 ntmps144 ?_
 repeat (first|refine RUN ?_|refine CV (hchk) ?_|refine CV (hmean) ?_|refine CE (hchk) ?_|refine CE (hmean) ?_)
 refine vA (hvals) ?_;intro r1 G1 hL hG1;obtain⟨a1,c1,rfl⟩:=SlC.val hL;have hs:SlC G1 (.slice a1 L.length c1) L.length 5 (L.flatMap fun q=>zac (zae q)):=hL;refine uR ?_;refine EV.loopK (ι:=Nat) [4,6,7,34,35] [4,7] (fun i=>[(36,.v (.int .i64 (i:Int)))]) (fun i=>[(6,67,zac (zae (zaJ (zdx m (L.take i)))))]) (fun _=>[]) (fun i _=>i≤L.length) (fun i=>L.length-i) (0) rfl rfl ⟨rfl,trivial⟩ ⟨by rw[show zaJ (zdx m (L.take 0))=0 from rfl,zaD];rfl,trivial⟩ rfl (fun _=>rfl) (qQ _) ?_;rintro i G2 hG2 hi;refine uR ?_;refine EV.cond rfl (fun hlt=>?_) (fun hlt=>?_)
 ·simp only[nN]at hlt;obtain⟨x,hx⟩:=gE hlt;have hxb:=hlb x (qF hx);have hsum:=zr8 (l:=L.take i) (by rw[qP];omega) (fun q hq=>hlb q (List.mem_of_mem_take hq)) hmh;have hd:=zjD x m;have hdd:=zfD (x-m) (x-m);have hsub:=zml x m (zaL hxb oM) hms;have hmul:=zoI (x-m) (x-m) (zaL hd oM) (zaL hd oM);have hadd:=zeD (zaJ (zdx m (L.take i))) ((x-m)*(x-m)) (zaL hsum oM) (zaL hdd oM);rw[←zgt,←zan hx]at hadd;refine uR ?_;refine EVL.idxM tO rfl rfl rfl rfl rfl rfl rfl rfl rfl ((hs.mono hG2)) (i) (rfl) (hlt) (QL.at (H:=H) (v:=.bool true) hx) ?_
  repeat (first|refine RUN ?_|refine CV (hsub) ?_|refine CE (hsub) ?_)
  apply EV.drawn 4 kR kR;intro xv yw;(repeat (first|refine' DD ?_|(refine' DC (hmul) (h:=?_);rotate_left)));(refine DJ.nil (fun G3 hG3 hF3=>?_);(case hS|hS2=>rfl))
  repeat (first|refine RUN ?_|refine CV (hadd) ?_|refine CE (hadd) ?_)
  refine⟨i+1,⟨?_,trivial⟩,sB,⟨rfl,trivial⟩,sB,rfl,hlt,hG3,by omega⟩;rw[zab i (by omega)];rfl
 ·simp only[nN]at hlt;obtain rfl:i=L.length:=oM;rw[qa];refine uR ?_;rfl
theorem zh9 {H:Hp} {cl:Int} {va:Option Addr} {vn vc:Nat} {la:Option Addr} {lc:Nat} {ls:List Int} (hv:IL H (.slice la ls.length lc) ls) {v:Value} {rs:List Int} (hr:IL H v rs) (hn:rs.length≤100000)
  (hrs:∀r,r∈rs→0≤r∧r<(ls.length:Int)) (hls:∀z,z∈ls→0≤z∧z<12) :
  PC prog 176 #[zas 1 cl (.slice la ls.length lc) (.slice va vn vc),v] H fun r _=>r=.agg (zax (rs.length:Nat) (csL (atI ls rs)) (sqL (atI ls rs)) 0).toArray:=by
 obtain⟨a,cap,rfl⟩:=SlC.val hr;exact zpP hv hr hn hrs hls
def zfP (L:List Int):Rat:=((L.length:Int):Rat)-((sqL L:Int):Rat) / ((L.length:Int):Rat)
theorem zqi {H:Hp} {v:Value} {rs:List Int} (hr:IL H v rs) (hn:rs.length≤300) {va:Option Addr} {vc:Nat} {la:Option Addr} {lc:Nat} {ls:List Int} (hv:IL H (.slice la ls.length lc) ls) {cl:Int} (hc:1≤cl∧cl≤12) (h0:1≤ls.length) (h1:ls.length≤300) (hls:∀z,z∈ls→0≤z∧z<cl) :
  PC prog 144 #[zas 1 cl (.slice la ls.length lc) (.slice va 0 vc),v] H fun r _=>r=zae (zfP (atI ls (exL rs ls.length))):=by
 obtain⟨a,cap,rfl⟩:=SlC.val hr;have hchk:=zgj (va:=va) (vc:=vc) hv hc h0 h1 hls;have hlen:=zkU (cl:=cl) (va:=va) (vn:=0) (vc:=vc) (la:=la) (ln:=ls.length) (lc:=lc);have hel:=zbj rs ls.length;have hem:=zcH (rs:=rs) (n:=ls.length);have hex:=fun (G:Hp) (hG:H.Le G)=>zcq (hr.mono hG) oM ls.length;generalize exL rs ls.length=E at *
 have hLl:(atI ls E).length=E.length:=zb8 ls E;have hsq:=zh5 (atI ls E);rw[hLl]at hsq;have hsq2:E.length*E.length≤300*300:=Nat.mul_le_mul oM oM;have hE:zfP (atI ls E)=((E.length:Int):Rat)-((sqL (atI ls E):Int):Rat) / ((E.length:Int):Rat):=by unfold zfP;rw[hLl]
 have hn2:=zbz (E.length:Int);have hn3:bl (E.length:Int).natAbs≤20:=zaZ oM;have hs2:=zbz (sqL (atI ls E):Int);have hs3:bl (sqL (atI ls E):Int).natAbs≤20:=zaZ oM;have hdv:=zeO ((sqL (atI ls E):Int):Rat) ((E.length:Int):Rat);have hof:=zhv (E.length:Int) oM oM;have hsub:=zml ((E.length:Int):Rat) (((sqL (atI ls E):Int):Rat) / ((E.length:Int):Rat)) (by unfold sm;omega) (by unfold sm;omega);rw[hE];refine BD func144 ntmps144 ?_
 repeat (first|refine RUN ?_|refine CV (hchk) ?_|refine CE (hchk) ?_)
 apply EV.drawn 7 kR kR;intro xv yw;(repeat (first|refine' DD ?_|(refine' DC (hlen) (h:=?_);rotate_left)));refine' vB (cO func177) (fun G hG hd=>hex G hG) (fun _ _ _ h k=>SlN.mono h k) ?_;rotate_left;refine' vC (cO func176) (fun G hG hd=>zh9 (hv.mono hG) (hd.head kR) oM hem (fun z hz=>⟨(hls z hz).1,by have:=(hls z hz).2;omega⟩)) ?_;rotate_left;(repeat refine' DD ?_);(refine DJ.nil (fun G1 hG1 hF1=>?_);(case hS|hS2=>rfl))
 repeat (first|refine RUN ?_|refine CV (hof) ?_|refine CE (hof) ?_)
 (first|refine EVL.unbox (5) rfl fun b=>?_|refine EV.unbox (5) rfl fun b=>?_);refine EVL.callW rfl rfl rfl rfl rfl ([(b,253,zax (E.length:Nat) (csL (atI ls E)) (sqL (atI ls E)) 0)]) ([]) rfl (zpT (zbT _) oM oM) ?_;rintro v ow G2 ⟨rfl,rfl⟩ hG2
 repeat (first|refine RUN ?_|refine CV (hsub) ?_|refine CE (hsub) ?_)
 rfl
theorem ziC:∀l:List Int,zdt (l.map iv)=true
 | []=>rfl
 | _::l=>by rw[qw];unfold zdt;rw[ziC l];rfl
theorem RL.nil (H:Hp) (a:Option Addr) (c:Nat):RL H (.slice a 0 c) []:=(RVs.nil H).rl ⟨rfl,.inl ⟨rfl,_,_,rfl⟩⟩
theorem IL.nil (H:Hp) (a:Option Addr) (c:Nat):IL H (.slice a 0 c) []:=⟨rfl,.inl ⟨rfl,_,_,rfl⟩⟩
def zi8 (H:Hp) (v:Value) (n:Nat) (qs:List Rat):Prop :=
 (∃s,v=zas 2 0 (.slice none 0 0) s∧RL H s qs)∨∃(cl:Int) (s:Value) (ls:List Int),v=zas 1 cl s (.slice none 0 0)∧1≤cl∧cl≤4∧ls.length=n∧(∀z,z∈ls→0≤z∧z<cl)∧IL H s ls
theorem zi8.mono {H G:Hp} {v:Value} {n:Nat} {qs:List Rat} (h:zi8 H v n qs) (k:H.Le G):zi8 G v n qs:=by
 rcases h with ⟨s,e,h⟩ | ⟨cl,s,ls,e,h1,h2,h3,h4,h⟩
 ·exact .inl ⟨s,e,h.mono k⟩
 ·exact .inr ⟨cl,s,ls,e,h1,h2,h3,h4,h.mono k⟩
theorem zs4 (z:Int):-9223372036854775808≤IntKind.i64.wrap z∧IntKind.i64.wrap z<9223372036854775808:=by
 rw[pK];omega
theorem zse {H:Hp} {v:Value} {l:List Int} (h:IL H v l) (hb:∀z,z∈l → -9223372036854775808≤z∧z<9223372036854775808) (kd:Int) (n:Nat) (hn:n≤1000) :
  PC prog 22 #[.int .i64 kd,v,.int .i64 (n:Int)] H fun r H'=>zi8 H' r n (zj3 l n):=by
 obtain⟨a,cap,rfl⟩:=SlC.val h;have hpk:∀z c:Int,-9223372036854775808≤z∧z<9223372036854775808→1≤c∧c≤4→PV prog 7 #[.int .i64 z,.int .i64 c] (.int .i64 (z % c)):=fun z c hz hc=>zbd z c hz oM oM;have hrow:=zpi h hb n oM;have hwb:=zs4 (kd.tdiv 2);have hp4:=hpk _ 4 hwb oM;refine BD func22 ntmps22 ?_;refine uR ?_;by_cases hk:kd.tmod 2=0
 ·rw[show (kd.tmod 2 == 0)=true from beq_iff_eq.2 hk];refine uR ?_;refine vA (hrow) ?_;intro r G1 hr hG1;obtain⟨a3,c3,rfl⟩:=hr.val;refine uR ?_;exact .inl ⟨_,rfl,hr⟩
 ·rw[show (kd.tmod 2 == 0)=false from pP.2 hk];refine uR ?_;generalize IntKind.i64.wrap (kd.tdiv 2)=k2 at *
  have hcl:1≤1+k2 % 4∧1+k2 % 4≤4:=oM
  repeat (first|refine RUN ?_|refine CV (hp4) ?_|refine CE (hp4) ?_)
  rw[show IntKind.i64.wrap (1+k2 % 4)=1+k2 % 4 by rw[pK];omega];generalize 1+k2 % 4=cl at *
  refine uR ?_;refine EV.loopK (ι:=Nat × List Int × Value × Ows) [1,2,6,7] [6] (fun q=>[(8,.v (.int .i64 (q.1:Int)))]) (fun q=>[(7,27,[.int .i64 1,.int .i64 cl,q.2.2.1,.slice none 0 0])]) (fun q=>q.2.2.2) (fun q _=>q.1≤n∧q.2.1.length=q.1∧(∀z,z∈q.2.1→0≤z∧z<cl)∧zaE 3 1 q.2.2.1 q.2.1.length (q.2.1.map iv) q.2.2.2) (fun q=>n-q.1) ((0,[],.slice none 0 0,[])) rfl rfl ⟨rfl,trivial⟩ ⟨rfl,trivial⟩ rfl (fun _=>rfl) (⟨qQ _,rfl,by simp,zaE.nil _ _⟩) ?_;rintro⟨i,ls,w,ow⟩ G1 hG1 ⟨hi,hll,hlb,hown⟩;dsimp only at hi hll hlb hown;obtain⟨wa,wc,rfl⟩:=hown.val;refine uR ?_;refine EV.cond rfl (fun hlt=>?_) (fun hlt=>?_)
  ·simp only[nN]at hlt;refine uR ?_;refine EV.meetK (ι:=Int) [1,2,6,7,8] [6,7] (fun c=>[(9,.v (.int .i64 c))]) (fun _=>[]) (fun _=>ow) (fun c G=>G1.Le G ∧ -9223372036854775808≤c∧c<9223372036854775808) rfl rfl (fun _=>rfl) ?_ ?_
   ·refine EV.cond rfl (fun hc=>?_) (fun hc=>?_)
    ·simp only[nN]at hc;obtain⟨z,hz⟩:=gE hc;have hzb:=hb z (qF hz);refine uR ?_;refine vI ((h.mono hG1)) (i) (rfl) (hc) ((by rw[qK,hz];rfl)) ?_;refine uR ?_;exact⟨z,⟨rfl,trivial⟩,sB,trivial,sB,rfl,Hp.Le.refl _,hzb.1,hzb.2⟩
    ·try refine uR ?_
     exact⟨(i:Int),⟨rfl,trivial⟩,sB,trivial,sB,rfl,Hp.Le.refl _,by omega,by omega⟩
   ·rintro c G2 ⟨hG2,hc1,hc2⟩;have hpc:=hpk c cl ⟨hc1,hc2⟩ hcl;have hcb:0≤c % cl∧c % cl<cl:=⟨Int.emod_nonneg _ oM,Int.emod_lt_of_pos _ oM⟩;generalize c % cl=cc at *
    refine uR ?_;apply EV.drawn 7 kR kR;intro xv yw;(repeat (first|refine' DD ?_|(refine' DC (hpc) (h:=?_);rotate_left)));(refine' DJ.lit tO rfl rfl rfl rfl rfl rfl rfl rfl rfl rfl rfl rfl ?_;rotate_left);(refine DJ.nil (fun G3 hG3 hF3=>?_);(case hS|hS2=>rfl));refine EVL.append tO rfl rfl rfl rfl rfl rfl rfl rfl rfl rfl rfl rfl [] ow [] (qG _).symm hown (zb7.ro hF3.1 oM) rfl oM ?_;intro v1 ow1 hown1;have hown2:=zaE.il hown1;clear hown1;obtain⟨va1,vc1,rfl⟩:=hown2.val;refine uR ?_;refine⟨(i+1,ls++[cc],_,ow1),⟨?_,trivial⟩,sB,⟨rfl,trivial⟩,sB,qG _,⟨hlt,by rw[qJ,hll];rfl,?_,hown2⟩,hG2.trans hG3,by dsimp only;omega⟩
    ·rw[zab i (by omega)];rfl
    ·intro z hz;rcases List.mem_append.1 hz with hz | hz
     ·exact hlb z hz
     ·obtain rfl:=pJ.1 hz;exact hcb
  ·simp only[nN]at hlt;obtain rfl:i=n:=oM;(first|refine EVL.publishL [] ow [] ((qG _).symm) hown fun G2 hG2 hs=>?_|refine EV.publishL [] ow [] ((qG _).symm) hown fun G2 hG2 hs=>?_);refine uR ?_;exact .inr ⟨cl,_,ls,rfl,hcl.1,hcl.2,hll,hlb,hs⟩
theorem zn7 {H:Hp} {v:Value} {l:List Int} (h:IL H v l) (h0:0<l.length) (hl:l.length≤1000):PW prog 221 #[v] H [] fun r ow _=>zaE 3 1 r l.length (l.map iv) ow:=by
 have hs:=h.2;rcases hs with ⟨e,_⟩ | ⟨b,off,cap,c,rfl,_⟩
 ·omega
 ·refine PW.body tO func221 rfl kR ntmps221 rfl rfl ?_;refine uR ?_;refine EVL.eqnil tO rfl rfl rfl rfl rfl rfl rfl ?_;refine uR ?_;refine EVL.lit0 tO rfl rfl rfl rfl rfl rfl rfl fun g0=>?_;refine uR ?_;refine EVL.append tO rfl rfl rfl rfl rfl rfl rfl rfl rfl rfl rfl rfl [] [(g0,3,[])] [] rfl (zaE.full (m:=0) rfl oM) (zb7.ro h h0) (ziC l) oM ?_;intro v1 ow1 hown1;refine uR ?_;rw[qt]at hown1;rw[qG];exact hown1
theorem zmK {H:Hp} {v:Value} (h:IL H v []):PC prog 221 #[v] H fun r _=>∃a cap,r=.slice a 0 cap:=by
 obtain⟨a,cap,rfl⟩:=SlC.val h;refine BD func221 ntmps221 ?_;refine uR ?_;refine EVL.eqnil tO rfl rfl rfl rfl rfl rfl rfl ?_
 cases a with
 | none =>
  refine uR ?_;exact⟨_,_,rfl⟩
 | some x =>
  refine uR ?_;refine EVL.lit0 tO rfl rfl rfl rfl rfl rfl rfl fun g0=>?_;refine uR ?_;refine EVL.append0 tO rfl rfl rfl rfl rfl rfl rfl rfl rfl (qH _) ?_;refine uR ?_;exact⟨_,_,rfl⟩
theorem zlh {H:Hp} (a:Option Addr) (cap:Nat) (clo:Value):PC prog 222 #[.slice a 0 cap,clo] H fun v _=>v=.tuple #[]:=by
 have hst:PC prog 236 #[.slice a 0 cap,.int .i64 0,clo] H fun v _=>v=.tuple #[]:=by
  have hno:∀G:Hp,PC prog 243 #[.slice a 0 cap,.int .i64 0,.int .i64 0,clo] G fun v _=>v=.tuple #[]:=fun G=>by
   refine BD func243 ntmps243 ?_;refine uR ?_;refine EV.loopK (ι:=Unit) [] [] (fun q=>[(2,.v (.int .i64 0)),(8,.v (.int .i64 1))]) (fun _=>[]) (fun _=>[]) (fun _ _=>True) (fun _=>0) (()) rfl rfl ⟨rfl,rfl,trivial⟩ trivial rfl (fun _=>rfl) (trivial) ?_;rintro⟨⟩ G1 hG1 _;refine uR ?_;rfl
  refine BD func236 ntmps236 ?_;refine uR ?_;refine EV.loopK (ι:=Unit) [0,1,2,6] [] (fun q=>[(7,.v (.int .i64 0)),(8,.v (.int .i64 20))]) (fun _=>[]) (fun _=>[]) (fun _ _=>True) (fun _=>0) (()) rfl rfl ⟨rfl,rfl,trivial⟩ trivial rfl (fun _=>rfl) (trivial) ?_;rintro⟨⟩ G1 hG1 _;refine uR ?_;refine vA (hno _) ?_;rintro r G2 rfl hG2;refine uR ?_;refine EV.loopK (ι:=Unit) [1] [] (fun q=>[(6,.v (.int .i64 20))]) (fun _=>[]) (fun _=>[]) (fun _ _=>True) (fun _=>0) (()) rfl rfl ⟨rfl,trivial⟩ trivial rfl (fun _=>rfl) (trivial) ?_;rintro⟨⟩ G3 hG3 _;refine uR ?_;rfl
 refine BD func222 ntmps222 ?_;refine uR ?_;refine vA (hst) ?_;rintro r G2 rfl hG2;refine uR ?_;rfl
def zmD (X:List (List Rat)) (col:Int) (rs m:List Int):Prop:=(rs.all (zcI X col)=true∧m.Perm rs∧zht (zbv X col) m)∨(rs.all (zcI X col)=false∧m=[])
theorem zpy {H:Hp} {vx vr:Value} {X:List (List Rat)} {rs:List Int} {col:Int} (hX:QLL H vx X) (hr:IL H vr rs) (hn:rs.length≤20) (hrs:∀r,r∈rs→0≤r∧r<(X.length:Int)) (hsm:∀x,x∈X→∀q,q∈x→sm q) :
  PC prog 211 #[vx,vr,.int .i64 col] H fun r H'=>∃m,IL H' r m∧zmD X col rs m:=by
 obtain⟨a,cap,rfl⟩:=SlC.val hr;obtain⟨xa,xc,rfl⟩:=hX.val;refine BD func211 ntmps211 ?_;refine uR ?_;refine EV.loopK (ι:=Nat) [1,3,5,10,11] [3,5] (fun i=>[(12,.v (.int .i64 (i:Int)))]) (fun _=>[]) (fun _=>[]) (fun i _=>i≤rs.length∧∀r,r∈rs.take i→zcI X col r=true) (fun i=>rs.length-i) (0) rfl rfl ⟨rfl,trivial⟩ trivial rfl (fun _=>rfl) (⟨qQ _,by simp⟩) ?_;rintro i G1 hG1 ⟨hi,hall⟩;refine uR ?_;refine EV.cond rfl (fun hlt=>?_) (fun hlt=>?_)
 ·simp only[nN]at hlt;obtain⟨r,hri⟩:=gE hlt;have hb:=hrs r (qF hri);obtain⟨R,rfl⟩:=qh hb.1;obtain⟨x,hx⟩:∃x,X[R]?=some x:=⟨_,qA oM⟩;have hRl:R<X.length:=oM;obtain⟨vs,hvs,hs⟩:=hX.mono hG1;obtain⟨a1,c1,hu,hQ⟩:=hvs.at hx
  have hhas:zcI X col (R:Int)=(decide (0≤col) && decide (col<(x.length:Int))):=by
   unfold zcI;rw[qU,qB,hx];rfl
  have hno:zcI X col (R:Int)=false→rs.all (zcI X col)=false:=fun h=>by
   rw[List.all_eq_false];exact⟨_,qF hri,by rw[h];decide⟩
  refine uR ?_;refine vI ((hr.mono hG1)) (i) (rfl) (hlt) ((by rw[qK,hri];rfl)) ?_;refine uR ?_;by_cases hc:col<0
  ·apply EV.drawn 11 kR kR;intro xv yw;(repeat refine' DD ?_);rw[qD hc];(repeat refine' DD ?_);(refine DJ.nil (fun G1 hG1 hF1=>?_);(case hS|hS2=>rfl));refine uR ?_;exact⟨[],IL.nil _ _ _,.inr ⟨hno (by rw[hhas];simp;omega),rfl⟩⟩
  ·apply EV.drawn 11 kR kR;intro xv yw;(repeat refine' DD ?_);rw[qC hc];(repeat refine' DD ?_);refine' vJ (hs) (R) (rfl) (hRl) (hu) ?_;rotate_left;(repeat refine' DD ?_);(refine DJ.nil (fun G1 hG1 hF1=>?_);(case hS|hS2=>rfl));refine uR ?_;by_cases hc2:col≥(x.length:Int)
   ·rw[qD hc2];refine uR ?_;exact⟨[],IL.nil _ _ _,.inr ⟨hno (by rw[hhas];simp;omega),rfl⟩⟩
   ·rw[qC hc2];refine uR ?_;refine⟨i+1,⟨?_,trivial⟩,sB,trivial,sB,rfl,⟨hlt,fun z hz=>?_⟩,by assumption,by omega⟩
    ·rw[zab i (by omega)];rfl
    ·rw[zan hri]at hz;rcases List.mem_append.1 hz with hz | hz
     ·exact hall z hz
     ·rw[pJ.1 hz,hhas];simp;omega
 ·simp only[nN]at hlt;obtain rfl:i=rs.length:=oM;rw[qa]at hall;have hall2:rs.all (zcI X col)=true:=List.all_eq_true.2 hall;refine uR ?_;(first|refine EVL.unbox (3) rfl fun bx=>?_|refine EV.unbox (3) rfl fun bx=>?_);(first|refine EVL.unbox (5) rfl fun bc=>?_|refine EV.unbox (5) rfl fun bc=>?_);(first|refine EVL.publish [] [(bx,_,_)] rfl fun G2 hG2 hbc=>?_|refine EV.publish [] [(bx,_,_)] rfl fun G2 hG2 hbc=>?_);(first|refine EVL.publish [] [] rfl fun G3 hG3 hbx=>?_|refine EV.publish [] [] rfl fun G3 hG3 hbx=>?_);have hXG:=hX.mono (hG1.trans (hG2.trans hG3));have hbcG:=hG3 _ _ hbc;have hrG:=hr.mono (hG1.trans (hG2.trans hG3));by_cases h0:rs.length=0
  ·obtain rfl:=qz.1 h0;refine vA (zmK hrG) ?_;rintro r G4 ⟨a4,c4,rfl⟩ hG4;refine uR ?_;refine EVL.fn2 rfl rfl rfl rfl rfl rfl ?_;refine vA (zlh a4 c4 _) ?_;rintro r G5 rfl hG5;refine uR ?_;exact⟨[],IL.nil _ _ _,.inl ⟨hall2,List.Perm.refl _,List.Pairwise.nil⟩⟩
  ·refine EVL.callW rfl rfl rfl rfl rfl ([]) ([]) rfl (zn7 hrG oM oM) ?_;rintro r ow G4 hown hG4;obtain⟨g,c4,sp,rfl,rfl,hl4,hm4,hx4⟩:=hown.block oM;refine uR ?_;refine EVL.fn2 rfl rfl rfl rfl rfl rfl ?_;refine vW ([(g,3,rs.map iv++sp)]) ([]) (znF (f:=223) (cs:=[.pointer (some ⟨bx,0,none⟩),.pointer (some ⟨bc,0,none⟩)]) (key:=zbv X col) hn (cO func223) (fun G hG x y hx hy=>zn8 (hXG.mono (hG4.trans hG)) ((hG4.trans hG) _ _ hbx) ((hG4.trans hG) _ _ hbcG) hsm (hrs x hx).1 (hrs x hx).2 (hrs y hy).1 (hrs y hy).2 (hall x hx) (hall y hy))) ?_;rintro v ow G5 ⟨rfl,m,rfl,hp,hris⟩ hG5;have hml:=hp.length_eq;have hown2:zaE 3 1 (.slice (some ⟨g,0,none⟩) m.length c4) m.length (m.map iv) [(g,3,m.map iv++sp)]:=⟨by simp,.inr ⟨g,c4,sp,rfl,rfl,by rw[←hl4];simp[hml],by omega,hx4⟩⟩;rw[←hml];(first|refine EVL.publishL [] [(g,3,m.map iv++sp)] [] (rfl) hown2 fun G6 hG6 hs6=>?_|refine EV.publishL [] [(g,3,m.map iv++sp)] [] (rfl) hown2 fun G6 hG6 hs6=>?_);refine uR ?_;exact⟨m,hs6,.inl ⟨hall2,hp,hris⟩⟩
theorem zoE (a b:Rat) (ha:ht a≤100000) (hb:ht b≤100000):PV prog 213 #[zae a,zae b] (zae ((a+b) / 2)):=by
 refine PV.of_pc ?_;have h1:=zcQ a b
 have h2:ht ((2:Int):Rat)≤10:=by
  have:=zbz 2;have h2:bl (2:Int).natAbs≤5:=zaZ (by decide);omega
 have hadd:=zeD a b (zaL ha oM) (zaL hb oM);have hof:=zhv 2 oM oM;have hdiv:=zjz (a+b) ((2:Int):Rat) (zaL h1 oM) (zaL h2 oM) (by decide);rw[show ((2:Int):Rat)=2 from rfl]at hdiv hof;refine BD func213 ntmps213 ?_
 repeat (first|refine RUN ?_|refine CV (hadd) ?_|refine CV (hof) ?_|refine CV (hdiv) ?_|refine CE (hadd) ?_|refine CE (hof) ?_|refine CE (hdiv) ?_)
 rfl
theorem zk4 {a b:Rat} (h:a≤b):zb6 a b≤0:=by
 unfold zb6;split
 ·omega
 ·split
  ·rename_i k;exact absurd k (Rat.not_lt.2 h)
  ·omega
def zbe (X:List (List Rat)) (col:Int) (t:Rat) (es:List Int):List Int:=es.filter fun r=>zcI X col r && decide (zbv X col r≤t)
def zay (X:List (List Rat)) (col:Int) (t:Rat) (es:List Int):List Int:=es.filter fun r=>zcI X col r && !decide (zbv X col r≤t)
theorem zgA {p:Int→Bool} {es:List Int} {i:Nat} {r:Int} (h:es[i]?=some r):(es.take (i+1)).filter p=(es.take i).filter p++if p r then [r] else []:=by
 rw[zan h,List.filter_append];cases hp:p r <;> simp[hp]
theorem zq9 {H:Hp} {vx vr:Value} {X:List (List Rat)} {rs:List Int} {col:Int} {t:Rat} (hX:QLL H vx X) (hr:IL H vr rs) (hn:rs.length≤100000) (hsm:∀x,x∈X→∀q,q∈x→sm q) (ht:sm t) :
  PC prog 148 #[vx,vr,.int .i64 col,zae t] H fun r H'=>∃u w,r=.tuple #[u,w]∧IL H' u (zbe X col t (exL rs X.length))∧IL H' w (zay X col t (exL rs X.length)):=by
 obtain⟨a,cap,rfl⟩:=SlC.val hr;obtain⟨xa,xc,rfl⟩:=hX.val;refine BD func148 ntmps148 ?_;refine uR ?_;refine EVL.call rfl rfl rfl rfl rfl (zcq hr oM X.length) ?_;intro r1 G0 he hG0;have hel:=zbj rs X.length;have heb:=zcH (rs:=rs) (n:=X.length);generalize exL rs X.length=es at *
 obtain⟨a1,c1,rfl⟩:=SlC.val he;refine uR ?_;refine EV.loopK (ι:=Nat × Value × Value × Ows × Ows) [0,2,7,15,16] [7] (fun q=>[(8,.v q.2.1),(9,.v q.2.2.1),(17,.v (.int .i64 (q.1:Int)))]) (fun _=>[]) (fun q=>q.2.2.2.1++q.2.2.2.2) (fun q _=>q.1≤es.length∧zaE 3 1 q.2.1 (zbe X col t (es.take q.1)).length ((zbe X col t (es.take q.1)).map iv) q.2.2.2.1∧zaE 3 1 q.2.2.1 (zay X col t (es.take q.1)).length ((zay X col t (es.take q.1)).map iv) q.2.2.2.2) (fun q=>es.length-q.1) ((0,.slice none 0 0,.slice none 0 0,[],[])) rfl rfl ⟨rfl,rfl,rfl,trivial⟩ trivial rfl (fun _=>rfl) (⟨qQ _,zaE.nil _ _,zaE.nil _ _⟩) ?_;rintro⟨i,w1,w2,ow1,ow2⟩ G1 hG1 ⟨hi,hown1,hown2⟩;dsimp only at hi hown1 hown2;obtain⟨wa1,wc1,rfl⟩:=hown1.val;obtain⟨wa2,wc2,rfl⟩:=hown2.val;refine uR ?_;refine EV.cond rfl (fun hlt=>?_) (fun hlt=>?_)
 ·simp only[nN]at hlt;obtain⟨r,hri⟩:=gE hlt;have hb:=heb r (qF hri);obtain⟨R,rfl⟩:=qh hb.1;obtain⟨x,hx⟩:∃x,X[R]?=some x:=⟨_,qA oM⟩;have hRl:R<X.length:=oM;obtain⟨vs,hvs,hs⟩:=hX.mono (hG0.trans hG1);obtain⟨a2,c2,hu,hQ⟩:=hvs.at hx;have hlo:=zgA (p:=fun r=>zcI X col r && decide (zbv X col r≤t)) hri;have hhi:=zgA (p:=fun r=>zcI X col r && !decide (zbv X col r≤t)) hri
  have hhas:zcI X col (R:Int)=(decide (0≤col) && decide (col<(x.length:Int))):=by
   unfold zcI;rw[qU,qB,hx];rfl
  have hl1:(zbe X col t (es.take i)).length≤i:=qI (List.length_filter_le _ _) (by rw[qP];omega);have hl2:(zay X col t (es.take i)).length≤i:=qI (List.length_filter_le _ _) (by rw[qP];omega);have wn:IntKind.i64.wrap ((i:Int)+1)=((i+1:Nat):Int):=zab i oM;refine uR ?_;refine vI ((he.mono hG1)) (i) (rfl) (hlt) ((by rw[qK,hri];rfl)) ?_;refine uR ?_;by_cases hc:col<0
  ·have hno:zcI X col (R:Int)=false:=by rw[hhas];simp;omega
   rw[hno,Bool.false_and,if_neg (by decide),qG]at hlo hhi;rw[qD hc];refine uR ?_;refine⟨(i+1,_,_,ow1,ow2),⟨rfl,rfl,?_,trivial⟩,sB,trivial,sB,rfl,⟨hlt,by unfold zbe;rw[hlo];exact hown1,by unfold zay;rw[hhi];exact hown2⟩,Hp.Le.refl _,by dsimp only;omega⟩;rw[wn];rfl
  ·rw[qC hc];refine uR ?_;refine vI (hs) (R) (rfl) (hRl) (hu) ?_;refine uR ?_;by_cases hc2:col≥(x.length:Int)
   ·have hno:zcI X col (R:Int)=false:=by rw[hhas];simp;omega
    rw[hno,Bool.false_and,if_neg (by decide),qG]at hlo hhi;rw[qD hc2];refine uR ?_;refine⟨(i+1,_,_,ow1,ow2),⟨rfl,rfl,?_,trivial⟩,sB,trivial,sB,rfl,⟨hlt,by unfold zbe;rw[hlo];exact hown1,by unfold zay;rw[hhi];exact hown2⟩,Hp.Le.refl _,by dsimp only;omega⟩;rw[wn];rfl
   ·have hyes:zcI X col (R:Int)=true:=by rw[hhas];simp;omega
    obtain⟨R',C,x',q,hRR,rfl,hx',hq⟩:=zel hb.1 hb.2 hyes;obtain rfl:R=R':=oM;rw[hx]at hx';cases hx';have hk:=zeh (X:=X) rfl rfl hx hq;have hs2:SlC G1 (.slice a2 x.length c2) x.length 5 (x.flatMap fun q=>zac (zae q)):=hQ;have hCl:=(qE.1 hq).1;have hcmp:=zeI q t (hsm x (qF hx) q (qF hq)) ht;rw[hyes,Bool.true_and,hk]at hlo hhi;rw[qC hc2];refine uR ?_;apply EV.drawn 8 kR kR;intro xv yw;(repeat refine' DD ?_);refine' vJ (hs) (R) (rfl) (hRl) (hu) ?_;rotate_left;(repeat refine' DD ?_);refine' DJ.idxM tO rfl rfl rfl rfl rfl rfl rfl rfl rfl (hs2) (C) (rfl) (hCl) (QL.at (H:=H) (v:=.bool true) hq) ?_;rotate_left;(repeat refine' DD ?_);(refine DJ.nil (fun G2 hG2 hF2=>?_);(case hS|hS2=>rfl))
    repeat (first|refine RUN ?_|refine CV (hcmp) ?_|refine CE (hcmp) ?_)
    by_cases hle:q≤t
    ·have ho:zb6 q t≤0:=zk4 hle;rw[qD hle,if_pos rfl]at hlo;rw[qD hle,if_neg (by decide),qG]at hhi;rw[qD ho];refine uR ?_;refine EVL.app1 tO rfl rfl rfl rfl rfl rfl rfl rfl rfl rfl rfl rfl rfl rfl rfl rfl rfl rfl rfl (fun _=>rfl) (ow1) (ow2) (rfl) (hown1) oM fun _=>?_;intro v' ow' hown';refine uR ?_;refine⟨(i+1,v',_,ow',ow2),⟨rfl,rfl,?_,trivial⟩,sB,trivial,sB,rfl,⟨hlt,by unfold zbe;rw[hlo];exact hown'.il,by unfold zay;rw[hhi];exact hown2⟩,by assumption,by dsimp only;omega⟩;rw[wn];rfl
    ·have ho:¬zb6 q t≤0:=by
      have:=Rat.not_le.1 hle;unfold zb6;rw[if_neg (fun k=>absurd (Rat.le_of_lt k) (Rat.not_le.2 this)),if_pos this];omega
     rw[qC hle,if_neg (by decide),qG]at hlo;rw[qC hle,Bool.not_false,if_pos rfl]at hhi;rw[qC ho];refine uR ?_;refine EVL.swapOw ow1 ow2 rfl ?_;refine EVL.app1 tO rfl rfl rfl rfl rfl rfl rfl rfl rfl rfl rfl rfl rfl rfl rfl rfl rfl rfl rfl (fun _=>rfl) (ow2) (ow1) (rfl) (hown2) oM fun _=>?_;intro v' ow' hown';refine EVL.swapOw ow' ow1 rfl ?_;refine uR ?_;refine⟨(i+1,_,v',ow1,ow'),⟨rfl,rfl,?_,trivial⟩,sB,trivial,sB,rfl,⟨hlt,by unfold zbe;rw[hlo];exact hown1,by unfold zay;rw[hhi];exact hown'.il⟩,by assumption,by dsimp only;omega⟩;rw[wn];rfl
 ·simp only[nN]at hlt;obtain rfl:i=es.length:=oM;rw[qa]at hown1 hown2 ⊢;(first|refine EVL.publishL [] ow1 ow2 (rfl) hown1 fun G2 hG2 hs2=>?_|refine EV.publishL [] ow1 ow2 (rfl) hown1 fun G2 hG2 hs2=>?_);(first|refine EVL.publishL [] ow2 [] ((qG _).symm) hown2 fun G3 hG3 hs3=>?_|refine EV.publishL [] ow2 [] ((qG _).symm) hown2 fun G3 hG3 hs3=>?_);refine uR ?_;exact⟨_,_,rfl,hs2.mono hG3,hs3⟩
section
variable {pre S S' post vs:List Value} {k:Nat}
theorem zbg (h:pre.length=k) (j s:Nat) (hj:j+s≤S.length) (hv:(S.drop j).take s=vs):((pre++(S++post)).drop (k+j)).take s=vs:=by
 rw[←List.drop_drop,List.drop_left' h,List.drop_append_of_le_length oM,List.take_append_of_le_length (by rw[qp];omega),hv]
theorem zfU (h:pre.length=k) (i j s:Nat) (hj:i+j+s≤S.length) (hv:(S.drop (i+j)).take s=vs):((pre++(S++post)).drop (k+i+j)).take s=vs:=by
 rw[Nat.add_assoc];exact zbg h (i+j) s hj hv
theorem zcf (h:pre.length=k) (j s:Nat) (hj:j+s≤S.length) (hv:S.take j++vs++S.drop (j+s)=S'):(pre++(S++post)).take (k+j)++vs++(pre++(S++post)).drop (k+j+s)=pre++(S'++post):=by
 subst h;rw[←hv,List.take_append,qO oM,show pre.length+j-pre.length=j by omega,List.take_append_of_le_length oM,Nat.add_assoc,←List.drop_drop,List.drop_left,List.drop_append_of_le_length (by omega)];simp only[qZ]
theorem zje (h:pre.length=k) (i j s:Nat) (hj:i+j+s≤S.length) (hv:S.take (i+j)++vs++S.drop (i+j+s)=S'):(pre++(S++post)).take (k+i+j)++vs++(pre++(S++post)).drop (k+i+j+s)=pre++(S'++post):=by
 rw[Nat.add_assoc k i j];exact zcf h (i+j) s hj hv
theorem zdu (h:pre.length=k) {j s:Nat} (hj:j+s≤S.length):k+j+s≤(pre++(S++post)).length:=by
 rw[qJ,qJ];omega
theorem zlw (h:pre.length=k) {i j s:Nat} (hj:i+j+s≤S.length):k+i+j+s≤(pre++(S++post)).length:=by
 rw[qJ,qJ];omega
end
section
variable {H:Hp} {b k:Nat} {T:TypeId} {pre post:List Value} (hk:pre.length=k)
include hk
theorem zrV {cl:Int} {la:Option Addr} {ln lc:Nat} {va:Option Addr} {vc:Nat} {vals:List Rat} (hv:QL H (.slice va vals.length vc) vals) {r n:Nat} (hn:n≤1000000) {x q:Rat} (hr:vals[r]?=some x) (hx:sm x) (hq:sm q) {cs:List Int} (hc:cs.length=12) {sq:Int} :
  PW prog 203 #[.pointer (some ⟨b,k,none⟩),zas 2 cl (.slice la ln lc) (.slice va vals.length vc),.int .i64 (r:Int)] H [(b,T,pre++(zax n cs sq q++post))] fun v ow _=>v=.tuple #[]∧ow=[(b,T,pre++(zax ((n+1:Nat):Int) cs sq (q+x)++post))]:=by
 have hadd:=zeD q x hq hx;have hlen:=zau (n:=(n:Int)) (cs:=cs) (sq:=sq) (q:=q) hc;have hlen2:=zau (n:=((n+1:Nat):Int)) (cs:=cs) (sq:=sq) (q:=q) hc;obtain⟨hrl,_⟩:=qE.1 hr;have hs:SlC H (.slice va vals.length vc) vals.length 5 (vals.flatMap fun q=>zac (zae q)):=hv;refine PW.body tO func203 rfl kR ntmps203 rfl rfl ?_;refine uR ?_;refine RP ?_;refine EVL.loadOwn tO rfl rfl rfl rfl rfl rfl (0) rfl (zbg hk 0 1 oM zcF) rfl rfl ?_;refine RP ?_;rw[show IntKind.i64.wrap ((n:Int)+1)=((n+1:Nat):Int) by rw[pK];omega];refine EVL.storeOwn tO rfl rfl rfl rfl rfl rfl ([]) ([]) rfl rfl rfl rfl ((zdu hk (j:=0) (s:=1) oM)) (zcf hk 0 1 oM zcn) ?_;refine uR ?_;apply EV.drawn 11 kR kR;intro xv yw;(repeat (first|refine' DD ?_|refine' vN ?_|refine' vF ?_));refine' DJ.ofVal (zaa.loadOwn tO rfl rfl rfl rfl (0) rfl (zbg hk 14 5 oM (ze1 hc)) rfl rfl) rfl rfl rfl ?_;rotate_left;(repeat (first|refine' DD ?_|refine' vN ?_|refine' vF ?_));refine' DJ.idxM tO rfl rfl rfl rfl rfl rfl rfl rfl rfl (hs) (r) (rfl) (hrl) (QL.at (H:=H) (v:=.bool true) hr) ?_;rotate_left;(repeat (first|refine' DD ?_|(refine' DC (hadd) (h:=?_);rotate_left)));(refine DJ.nil (fun G1 hG1 hF1=>?_);(case hS|hS2=>rfl));refine RP ?_;refine EVL.storeOwn tO rfl rfl rfl rfl rfl rfl ([]) ([]) rfl rfl rfl rfl ((zdu hk (j:=14) (s:=5) oM)) (zcf hk 14 5 oM (zdK hc)) ?_;refine uR ?_;exact⟨rfl,rfl⟩
theorem zqr {cl:Int} {la:Option Addr} {ln lc:Nat} {va:Option Addr} {vc:Nat} {vals:List Rat} (hv:QL H (.slice va vals.length vc) vals) {r n:Nat} (hn:n≤1000000) {x q:Rat} (hr:vals[r]?=some x) (hx:sm x) (hq:sm q) {cs:List Int} (hc:cs.length=12) {sq:Int} :
  PW prog 224 #[.pointer (some ⟨b,k,none⟩),zas 2 cl (.slice la ln lc) (.slice va vals.length vc),.int .i64 (r:Int)] H [(b,T,pre++(zax ((n+1:Nat):Int) cs sq q++post))] fun v ow _=>v=.tuple #[]∧ow=[(b,T,pre++(zax (n:Int) cs sq (q-x)++post))]:=by
 have hsub:=zml q x hq hx;have hlen:=zau (n:=(n:Int)) (cs:=cs) (sq:=sq) (q:=q) hc;have hlen2:=zau (n:=((n+1:Nat):Int)) (cs:=cs) (sq:=sq) (q:=q) hc;obtain⟨hrl,_⟩:=qE.1 hr;have hs:SlC H (.slice va vals.length vc) vals.length 5 (vals.flatMap fun q=>zac (zae q)):=hv;refine PW.body tO func224 rfl kR ntmps224 rfl rfl ?_;refine uR ?_;refine RP ?_;refine EVL.loadOwn tO rfl rfl rfl rfl rfl rfl (0) rfl (zbg hk 0 1 oM zcF) rfl rfl ?_;refine RP ?_;rw[show IntKind.i64.wrap (((n+1:Nat):Int)-1)=(n:Int) by rw[pK];omega];refine EVL.storeOwn tO rfl rfl rfl rfl rfl rfl ([]) ([]) rfl rfl rfl rfl ((zdu hk (j:=0) (s:=1) oM)) (zcf hk 0 1 oM zcn) ?_;refine uR ?_;apply EV.drawn 11 kR kR;intro xv yw;(repeat (first|refine' DD ?_|refine' vN ?_|refine' vF ?_));refine' DJ.ofVal (zaa.loadOwn tO rfl rfl rfl rfl (0) rfl (zbg hk 14 5 oM (ze1 hc)) rfl rfl) rfl rfl rfl ?_;rotate_left;(repeat (first|refine' DD ?_|refine' vN ?_|refine' vF ?_));refine' DJ.idxM tO rfl rfl rfl rfl rfl rfl rfl rfl rfl (hs) (r) (rfl) (hrl) (QL.at (H:=H) (v:=.bool true) hr) ?_;rotate_left;(repeat (first|refine' DD ?_|(refine' DC (hsub) (h:=?_);rotate_left)));(refine DJ.nil (fun G1 hG1 hF1=>?_);(case hS|hS2=>rfl));refine RP ?_;refine EVL.storeOwn tO rfl rfl rfl rfl rfl rfl ([]) ([]) rfl rfl rfl rfl ((zdu hk (j:=14) (s:=5) oM)) (zcf hk 14 5 oM (zdK hc)) ?_;refine uR ?_;exact⟨rfl,rfl⟩
theorem zrT {cl:Int} {va:Option Addr} {vn vc:Nat} {la:Option Addr} {lc:Nat} {ls:List Int} (hv:IL H (.slice la ls.length lc) ls) {r n:Nat} (hn:n≤1000000) {j m sq:Nat} (hr:ls[r]?=some (j:Int)) (hj:j<12) {cs:List Int} (hc:cs.length=12) (hm:cs[j]?=some (m:Int)) (hmb:m≤1000000) (hsb:sq≤10000000000000) {q:Rat} :
  PW prog 203 #[.pointer (some ⟨b,k,none⟩),zas 1 cl (.slice la ls.length lc) (.slice va vn vc),.int .i64 (r:Int)] H [(b,T,pre++(zax n cs sq q++post))] fun v ow _=>v=.tuple #[]∧ow=[(b,T,pre++(zax ((n+1:Nat):Int) (cs.set j ((m+1:Nat):Int)) ((sq+2*m+1:Nat):Int) q++post))]:=by
 have hlen:=zau (n:=(n:Int)) (cs:=cs) (sq:=(sq:Int)) (q:=q) hc;have hlen2:=zau (n:=((n+1:Nat):Int)) (cs:=cs) (sq:=(sq:Int)) (q:=q) hc;have hlen3:=zau (n:=((n+1:Nat):Int)) (cs:=cs) (sq:=((sq+2*m+1:Nat):Int)) (q:=q) hc;obtain⟨hrl,_⟩:=qE.1 hr
 have w1:IntKind.i64.wrap ((sq:Int)+IntKind.i64.wrap (IntKind.i64.wrap (2*(m:Int))+1))=((sq+2*m+1:Nat):Int):=by
  rw[show IntKind.i64.wrap (2*(m:Int))=2*(m:Int) by rw[pK];omega,show IntKind.i64.wrap (2*(m:Int)+1)=2*(m:Int)+1 by rw[pK];omega,pK];omega
 have w2:IntKind.i64.wrap ((m:Int)+1)=((m+1:Nat):Int):=by rw[pK];omega
 refine PW.body tO func203 rfl kR ntmps203 rfl rfl ?_;refine uR ?_;refine RP ?_;refine EVL.loadOwn tO rfl rfl rfl rfl rfl rfl (0) rfl (zbg hk 0 1 oM zcF) rfl rfl ?_;refine RP ?_;rw[show IntKind.i64.wrap ((n:Int)+1)=((n+1:Nat):Int) by rw[pK];omega];refine EVL.storeOwn tO rfl rfl rfl rfl rfl rfl ([]) ([]) rfl rfl rfl rfl ((zdu hk (j:=0) (s:=1) oM)) (zcf hk 0 1 oM zcn) ?_;refine uR ?_;refine vI (hv) (r) (rfl) (hrl) ((by rw[qK,hr];rfl)) ?_;refine uR ?_;apply EV.drawn 13 kR kR;intro xv yw;(repeat (first|refine' DD ?_|refine' vN ?_|refine' vF ?_));refine' DJ.ofVal (zaa.loadOwn tO rfl rfl rfl rfl (0) rfl (zbg hk 13 1 oM (zft hc)) rfl rfl) rfl rfl rfl ?_;rotate_left;(repeat (first|refine' DD ?_|refine' vN ?_|refine' vF ?_));refine' DJ.idxA tO rfl rfl rfl rfl (zdh) rfl rfl rfl rfl (j) (rfl) (hj) ?_;rotate_left;refine' DJ.ofVal (zaa.loadOwn tO rfl rfl rfl rfl (0) rfl (zfU hk 1 j 1 oM (zha hm)) rfl rfl) rfl rfl rfl ?_;rotate_left;(repeat (first|refine' DD ?_|refine' vN ?_|refine' vF ?_));(refine DJ.nil (fun G1 hG1 hF1=>?_);(case hS|hS2=>rfl));rw[w1];refine RP ?_;refine EVL.storeOwn tO rfl rfl rfl rfl rfl rfl ([]) ([]) rfl rfl rfl rfl ((zdu hk (j:=13) (s:=1) oM)) (zcf hk 13 1 oM (zet hc)) ?_;refine uR ?_;apply EV.drawn 10 kR kR;intro xv yw;(repeat (first|refine' DD ?_|refine' vN ?_|refine' vF ?_));refine' DJ.idxA tO rfl rfl rfl rfl (zdh) rfl rfl rfl rfl (j) (rfl) (hj) ?_;rotate_left;refine' DJ.ofVal (zaa.loadOwn tO rfl rfl rfl rfl (0) rfl (zfU hk 1 j 1 oM (zha hm)) rfl rfl) rfl rfl rfl ?_;rotate_left;(repeat (first|refine' DD ?_|refine' vN ?_|refine' vF ?_));refine' DJ.idxA tO rfl rfl rfl rfl (zdh) rfl rfl rfl rfl (j) (rfl) (hj) ?_;rotate_left;(refine DJ.nil (fun G2 hG2 hF2=>?_);(case hS|hS2=>rfl));rw[w2];refine RP ?_;refine EVL.storeOwn tO rfl rfl rfl rfl rfl rfl ([]) ([]) rfl rfl rfl rfl ((zlw hk (i:=1) (j:=j) (s:=1) oM)) (zje hk 1 j 1 oM (zes _ (show j<cs.length by omega))) ?_;refine uR ?_;exact⟨rfl,rfl⟩
theorem zqq {cl:Int} {va:Option Addr} {vn vc:Nat} {la:Option Addr} {lc:Nat} {ls:List Int} (hv:IL H (.slice la ls.length lc) ls) {r n:Nat} (hn:n≤1000000) {j m sq:Nat} (hr:ls[r]?=some (j:Int)) (hj:j<12) {cs:List Int} (hc:cs.length=12) (hm:cs[j]?=some ((m+1:Nat):Int)) (hmb:m≤1000000) (hsb:sq≤10000000000000) {q:Rat} :
  PW prog 224 #[.pointer (some ⟨b,k,none⟩),zas 1 cl (.slice la ls.length lc) (.slice va vn vc),.int .i64 (r:Int)] H [(b,T,pre++(zax ((n+1:Nat):Int) cs ((sq+2*m+1:Nat):Int) q++post))] fun v ow _=>v=.tuple #[]∧ow=[(b,T,pre++(zax (n:Int) (cs.set j (m:Int)) (sq:Int) q++post))]:=by
 have hcs:(cs.set j (m:Int)).length=12:=by rw[List.length_set,hc]
 have hlen:=zau (n:=(n:Int)) (cs:=cs) (sq:=((sq+2*m+1:Nat):Int)) (q:=q) hc;have hlen2:=zau (n:=((n+1:Nat):Int)) (cs:=cs) (sq:=((sq+2*m+1:Nat):Int)) (q:=q) hc;have hlen3:=zau (n:=(n:Int)) (cs:=cs.set j (m:Int)) (sq:=((sq+2*m+1:Nat):Int)) (q:=q) hcs;obtain⟨hrl,_⟩:=qE.1 hr;have w2:IntKind.i64.wrap (((m+1:Nat):Int)-1)=(m:Int):=by rw[pK];omega
 have hm':(cs.set j (m:Int))[j]?=some (m:Int):=by rw[List.getElem?_set_self (by omega)]
 have w1:IntKind.i64.wrap (((sq+2*m+1:Nat):Int)-IntKind.i64.wrap (IntKind.i64.wrap (2*(m:Int))+1))=(sq:Int):=by
  rw[show IntKind.i64.wrap (2*(m:Int))=2*(m:Int) by rw[pK];omega,show IntKind.i64.wrap (2*(m:Int)+1)=2*(m:Int)+1 by rw[pK];omega,pK];omega
 refine PW.body tO func224 rfl kR ntmps224 rfl rfl ?_;refine uR ?_;refine RP ?_;refine EVL.loadOwn tO rfl rfl rfl rfl rfl rfl (0) rfl (zbg hk 0 1 oM zcF) rfl rfl ?_;refine RP ?_;rw[show IntKind.i64.wrap (((n+1:Nat):Int)-1)=(n:Int) by rw[pK];omega];refine EVL.storeOwn tO rfl rfl rfl rfl rfl rfl ([]) ([]) rfl rfl rfl rfl ((zdu hk (j:=0) (s:=1) oM)) (zcf hk 0 1 oM zcn) ?_;refine uR ?_;refine vI (hv) (r) (rfl) (hrl) ((by rw[qK,hr];rfl)) ?_;refine uR ?_;apply EV.drawn 10 kR kR;intro xv yw;(repeat (first|refine' DD ?_|refine' vN ?_|refine' vF ?_));refine' DJ.idxA tO rfl rfl rfl rfl (zdh) rfl rfl rfl rfl (j) (rfl) (hj) ?_;rotate_left;refine' DJ.ofVal (zaa.loadOwn tO rfl rfl rfl rfl (0) rfl (zfU hk 1 j 1 oM (zha hm)) rfl rfl) rfl rfl rfl ?_;rotate_left;(repeat (first|refine' DD ?_|refine' vN ?_|refine' vF ?_));refine' DJ.idxA tO rfl rfl rfl rfl (zdh) rfl rfl rfl rfl (j) (rfl) (hj) ?_;rotate_left;(refine DJ.nil (fun G2 hG2 hF2=>?_);(case hS|hS2=>rfl));rw[w2];refine RP ?_;refine EVL.storeOwn tO rfl rfl rfl rfl rfl rfl ([]) ([]) rfl rfl rfl rfl ((zlw hk (i:=1) (j:=j) (s:=1) oM)) (zje hk 1 j 1 oM (zes _ (show j<cs.length by omega))) ?_;refine uR ?_;apply EV.drawn 13 kR kR;intro xv yw;(repeat (first|refine' DD ?_|refine' vN ?_|refine' vF ?_));refine' DJ.ofVal (zaa.loadOwn tO rfl rfl rfl rfl (0) rfl (zbg hk 13 1 oM (zft hcs)) rfl rfl) rfl rfl rfl ?_;rotate_left;(repeat (first|refine' DD ?_|refine' vN ?_|refine' vF ?_));refine' DJ.idxA tO rfl rfl rfl rfl (zdh) rfl rfl rfl rfl (j) (rfl) (hj) ?_;rotate_left;refine' DJ.ofVal (zaa.loadOwn tO rfl rfl rfl rfl (0) rfl (zfU hk 1 j 1 oM (zha hm')) rfl rfl) rfl rfl rfl ?_;rotate_left;(repeat (first|refine' DD ?_|refine' vN ?_|refine' vF ?_));(refine DJ.nil (fun G1 hG1 hF1=>?_);(case hS|hS2=>rfl));rw[w1];refine RP ?_;refine EVL.storeOwn tO rfl rfl rfl rfl rfl rfl ([]) ([]) rfl rfl rfl rfl ((zdu hk (j:=13) (s:=1) oM)) (zcf hk 13 1 oM (zet hcs)) ?_;refine uR ?_;exact⟨rfl,rfl⟩
theorem zpU {n:Nat} {cs:List Int} (hc:cs.length=12) {sq:Nat} (hsq:sq≤10000000000000) (hn:n≤1000000) {q:Rat} (hq:ht q≤1000000) :
  PW prog 180 #[.pointer (some ⟨b,k,none⟩),.int .i64 2] H [(b,T,pre++(zax n cs sq q++post))] fun v ow _=>v=zae (q*q / ((n:Int):Rat))∧ow=[(b,T,pre++(zax n cs sq q++post))]:=by
 have hlen:=zau (n:=(n:Int)) (cs:=cs) (sq:=(sq:Int)) (q:=q) hc;have hqs:sm q:=zaL hq oM;have hmul:=zoI q q hqs hqs;have hof:=zhv (sq:Int) oM oM;have hof2:=zhv (n:Int) oM oM;have hm:=zfD q q
 have hnh:ht ((n:Int):Rat)≤100:=by
  have:=zbz (n:Int);have h2:bl (n:Int).natAbs≤20:=zaZ oM;omega
 refine PW.body tO func180 rfl kR ntmps180 rfl rfl ?_;refine uR ?_;refine RP ?_;refine EVL.loadOwn tO rfl rfl rfl rfl rfl rfl (0) rfl (zbg hk 0 1 oM zcF) rfl rfl ?_;refine uR ?_;by_cases h0:n=0
 ·subst h0;rw[show (((0:Nat):Int) == 0)=true from rfl];refine uR ?_;rw[show (((0:Nat):Int):Rat)=0 from rfl,zaV];exact⟨zbU.symm,rfl⟩
 ·have hdiv:=zjz (q*q) ((n:Int):Rat) (zaL hm oM) (zaL hnh oM) (zdT h0);rw[show ((n:Int) == 0)=false from pP.2 (by omega)];refine uR ?_;refine RP ?_;refine EVL.loadOwn tO rfl rfl rfl rfl rfl rfl (0) rfl (zbg hk 13 1 oM (zft hc)) rfl rfl ?_
  repeat (first|refine RUN ?_|refine CV (hof) ?_|refine CE (hof) ?_)
  apply EV.drawn 8 kR kR;intro xv yw;(repeat (first|refine' DD ?_|refine' vN ?_|refine' vF ?_));refine' DJ.ofVal (zaa.loadOwn tO rfl rfl rfl rfl (0) rfl (zbg hk 14 5 oM (ze1 hc)) rfl rfl) rfl rfl rfl ?_;rotate_left;(repeat (first|refine' DD ?_|refine' vN ?_|refine' vF ?_));refine' DJ.ofVal (zaa.loadOwn tO rfl rfl rfl rfl (0) rfl (zbg hk 14 5 oM (ze1 hc)) rfl rfl) rfl rfl rfl ?_;rotate_left;(repeat (first|refine' DD ?_|refine' vN ?_|refine' vF ?_));(refine DJ.nil (fun G1 hG1 hF1=>?_);(case hS|hS2=>rfl))
  repeat (first|refine RUN ?_|refine CV (hmul) ?_|refine CE (hmul) ?_)
  refine uR ?_;apply EV.drawn 12 kR kR;intro xv yw;(repeat (first|refine' DD ?_|refine' vN ?_|refine' vF ?_));refine' DJ.ofVal (zaa.loadOwn tO rfl rfl rfl rfl (0) rfl (zbg hk 0 1 oM zcF) rfl rfl) rfl rfl rfl ?_;rotate_left;(repeat (first|refine' DD ?_|(refine' DC (hof2) (h:=?_);rotate_left)|(refine' DC (hdiv) (h:=?_);rotate_left)));(refine DJ.nil (fun G2 hG2 hF2=>?_);(case hS|hS2=>rfl));refine uR ?_;exact⟨rfl,rfl⟩
theorem zpS {n:Nat} {cs:List Int} (hc:cs.length=12) {sq:Nat} (hsq:sq≤10000000000000) (hn:n≤1000000) {q:Rat} :
  PW prog 180 #[.pointer (some ⟨b,k,none⟩),.int .i64 1] H [(b,T,pre++(zax n cs sq q++post))] fun v ow _=>v=zae (((sq:Int):Rat) / ((n:Int):Rat))∧ow=[(b,T,pre++(zax n cs sq q++post))]:=by
 have hlen:=zau (n:=(n:Int)) (cs:=cs) (sq:=(sq:Int)) (q:=q) hc;have hof:=zhv (sq:Int) oM oM;have hof2:=zhv (n:Int) oM oM
 have hnh:ht ((n:Int):Rat)≤100:=by
  have:=zbz (n:Int);have h2:bl (n:Int).natAbs≤20:=zaZ oM;omega
 have hsh:ht ((sq:Int):Rat)≤100:=by
  have:=zbz (sq:Int);have h2:bl (sq:Int).natAbs≤50:=zaZ oM;omega
 refine PW.body tO func180 rfl kR ntmps180 rfl rfl ?_;refine uR ?_;refine RP ?_;refine EVL.loadOwn tO rfl rfl rfl rfl rfl rfl (0) rfl (zbg hk 0 1 oM zcF) rfl rfl ?_;refine uR ?_;by_cases h0:n=0
 ·subst h0;rw[show (((0:Nat):Int) == 0)=true from rfl];refine uR ?_;rw[show (((0:Nat):Int):Rat)=0 from rfl,zaV];exact⟨zbU.symm,rfl⟩
 ·have hdiv:=zjz ((sq:Int):Rat) ((n:Int):Rat) (zaL hsh oM) (zaL hnh oM) (zdT h0);rw[show ((n:Int) == 0)=false from pP.2 (by omega)];refine uR ?_;refine RP ?_;refine EVL.loadOwn tO rfl rfl rfl rfl rfl rfl (0) rfl (zbg hk 13 1 oM (zft hc)) rfl rfl ?_
  repeat (first|refine RUN ?_|refine CV (hof) ?_|refine CE (hof) ?_)
  apply EV.drawn 12 kR kR;intro xv yw;(repeat (first|refine' DD ?_|refine' vN ?_|refine' vF ?_));refine' DJ.ofVal (zaa.loadOwn tO rfl rfl rfl rfl (0) rfl (zbg hk 0 1 oM zcF) rfl rfl) rfl rfl rfl ?_;rotate_left;(repeat (first|refine' DD ?_|(refine' DC (hof2) (h:=?_);rotate_left)|(refine' DC (hdiv) (h:=?_);rotate_left)));(refine DJ.nil (fun G2 hG2 hF2=>?_);(case hS|hS2=>rfl));refine uR ?_;exact⟨rfl,rfl⟩
end
theorem ztu {b:Nat} {c:Array Value} (h:gH b=some c):c.toList.length=64:=by
 unfold gH at h;split at h
 ·cases h;rfl
 ·cases h
section
variable {P:Program} {n:Nat} {ops:Array Oper} {o:Oper} {rest:List Oper} {env:Env} {bx:Bxs} {sb:Bxs} {ow:Ows} {H:Hs} {Q:EQ} {τ:Tab} {d:Nat} {s:SV}
theorem zaa.callR {f:FuncId} {args:Array Operand} {tys:Array TypeId} (ho:o.op=.call ⟨.value (.func f),args,tys⟩) (hw:zah ops env o=some true) {vs:List Value} (ha:zbf env args.toList some=some vs) (jj:Nat) {b:Nat} {T:TypeId} {cs:List Value} (hj:ow[jj]?=some (b,T,cs)) (h64:cs.length≠64)
  {v:Value} (hc:zaB P f) {F:Hp→Prop} {R:Hp} (hpc:∀G,PW P f vs.toArray G [(b,T,cs)] fun u ow' _=>u=v∧ow'=[(b,T,cs)]):zaa P ops o env bx ow R F (fun β u G=>(SV.v v).rep β G u):=fun β a W G hle hf hgl hb hown hs hF=>by
 obtain⟨vs',hk,hm⟩:=za0 env _ _ _ ha;cases hk;have hvs:=hm β G a.eval (fun y s hy=>hs.op (by simp[ho,Op.operands,Call.operands];exact .inr (by simpa using hy)));have hB:=hown jj b T cs hj
 have hg:gH b=none:=by
  cases hgb:gH b with
  | none=>rfl
  | some c =>
   obtain⟨T',fz,hW⟩:=hgl b c hgb;have hB':W.heap[b]?=some (.cells cs.toArray T (0,0)):=hB;rw[hB']at hW;cases hW;have:=ztu hgb;exact absurd (by simpa using this) h64
 rw[if_pos (hs.want hw)];unfold Oper.wp;rw[zaX hc ho hvs,Oper.upon_enter];refine((hpc (fun k=>if k=b then none else G k)).run W (fun k c h=>hf k c (by first|(split at h <;> first|(cases h;done)|exact h))) hgl (fun j b' T' cs' h=>?_) ?_).mono ?_
 ·cases j with
  | zero=>simp at h;obtain⟨rfl,rfl,rfl⟩:=h;exact⟨hB,if_pos rfl,hg⟩
  | succ j=>simp at h
 ·intro j j' b' T1 T2 c1 c2 h1 h2
  cases j with
  | zero=>cases j' with
   | zero=>rfl
   | succ j'=>simp at h2
  | succ j=>simp at h1
 ·rintro e W' ⟨u,ow',H',rfl,⟨rfl,rfl⟩,hle',hf',hnew,hk,hb',_⟩;have hB2:=(hb' 0 b T cs rfl).1
  have hbel:Below W.heap.size W W':=⟨hk.os,hk.tape,hk.output,hk.size,fun k hlt=>by
   by_cases e:k=b
   ·subst e;have h1:W.heap[k]?=some (.cells cs.toArray T (0,0)):=hB;have h2:W'.heap[k]?=some (.cells cs.toArray T (0,0)):=hB2;rw[h1,h2]
   ·exact hk.block k hlt (by simp[Ows.bs];exact e)⟩
  exact⟨u,G,rfl,rfl,Hp.Le.refl G,hf.below hbel,hbel,Nw.refl _ _ _⟩
theorem zsP {f:Fn} {x:Operand} (ho:o.op=.makeFunc f #[] #[x]) {u:Value} (hx:env.op x=some (.v u)) (ev:Operand→Value) (W:World) (he:∀y x,y∈o.op.operands→env.op y=some (.v x)→ev y=x) :
  (execOp ev o).run P W=.ok (.value (.func f #[] #[u])) W:=by
 have ex:=he x _ (by simp[ho,Op.operands]) hx;unfold execOp;simp[ho,ex,Instr.makeFunc]
theorem EVL.fn1 {f:Fn} {x:Operand} (ho:o.op=.makeFunc f #[] #[x]) (hw:zah ops env o=some true) (hd:o.dst=some d) (hn:Nat.blt d n=true) {u:Value} (hx:env.op x=some (.v u))
  (h:EVL P n ops rest ((d,.v (.func f #[] #[u]))::env) bx H Q):EVL P n ops (o::rest) env bx H Q:=EVL.gen hw hd hn (zsP ho hx) h
theorem DJ.callR {tail l:List Oper} {x:Nat→Value} {y:Nat→Ows} {ow':Ows} {kl ks:List DK} {i:Nat} {bx':Bxs} {Γ:ze6} {f:FuncId} {args:Array Operand} {tys:Array TypeId} (ho:o.op=.call ⟨.value (.func f),args,tys⟩) (hw:zah ops env o=some true) (hd:o.dst=some d) (hn:Nat.blt d n=true)
  {vs:List Value} (ha:zbf env args.toList some=some vs) (jj:Nat) {b:Nat} {T:TypeId} {cs:List Value} (hj:H.ow[jj]?=some (b,T,cs)) (h64:cs.length≠64) {v:Value} (hc:zaB P f) (hpc:∀G,PW P f vs.toArray G [(b,T,cs)] fun u ow' _=>u=v∧ow'=[(b,T,cs)])
  (h:DJ P n ops tail sb bx H Q x y kl (i+1) l ks ((d,.v v)::env) bx' Γ ow'):DJ P n ops tail sb bx H Q x y kl i (o::l) (.sv (.v v)::ks) env bx' Γ ow' :=
 ⟨d,hd,hn,rfl,zaa.callR ho hw ha jj hj h64 hc hpc,h⟩
end
structure GOk (H:Hp) (kd cl:Int) (sl sv:Value) (N:Nat) (S:List Int→List Value) (wo:List Int→Rat):Prop where
 len:∀l,(S l).length=19
 form:∀l,∃(n:Int) (cs:List Int) (sq:Int) (q:Rat),cs.length=12∧S l=zax n cs sq q
 check:∀G,H.Le G→PC prog 96 #[zas kd cl sl sv] G fun r _=>r=.int .i64 0
 leng:PV prog 95 #[zas kd cl sl sv] (.int .i64 (N:Int))
 zero:S []=Tryz.te253.zero
 first:∀l,((S l).drop 0).take 1=[.int .i64 (l.length:Int)]
 whole:∀G,H.Le G→∀v l,IL G v l→l.length≤300→(∀r,r∈l→0≤r∧r<(N:Int))→PC prog 176 #[zas kd cl sl sv,v] G fun r _=>r=.agg (S l).toArray
 move:∀G,H.Le G→∀(b:Nat) (l l':List Int) (r:Int),l.length+l'.length≤299→(∀z,z∈l++r::l'→0≤z∧z<(N:Int)) →
  PW prog 212 #[.pointer (some ⟨b,0,none⟩),zas kd cl sl sv,.int .i64 r] G [(b,285,S l++S (r::l'))] fun v ow _=>v=.tuple #[]∧ow=[(b,285,S (l++[r])++S l')]
 worth:∀(G:Hp) (b k:Nat) (T:TypeId) (pre post:List Value) (l:List Int),pre.length=k→l.length≤300→(∀r,r∈l→0≤r∧r<(N:Int)) →
  PW prog 180 #[.pointer (some ⟨b,k,none⟩),.int .i64 kd] G [(b,T,pre++(S l++post))] fun v ow _=>v=zae (wo l)∧ow=[(b,T,pre++(S l++post))]
 small:∀l:List Int,l.length≤300→(∀r,r∈l→0≤r∧r<(N:Int))→ht (wo l)≤100000
theorem GOk.mono {H G:Hp} {kd cl:Int} {sl sv:Value} {N:Nat} {S:List Int→List Value} {wo:List Int→Rat} (h:GOk H kd cl sl sv N S wo) (k:H.Le G):GOk G kd cl sl sv N S wo :=
 ⟨h.len,h.form,fun G' hG=>h.check G' (k.trans hG),h.leng,h.zero,h.first,fun G' hG=>h.whole G' (k.trans hG),fun G' hG=>h.move G' (k.trans hG),h.worth,h.small⟩
theorem PV.pc' {P:Program} {f:FuncId} {args:Array Value} {v:Value} (h:PV P f args v) (G:Hp):PC P f args G fun r _=>r=v:=(h.pc G).mono fun _ _ h _=>h.1
theorem znG (l:List Rat):∀x:Rat,l.foldl (·+·) x=x+zaJ l:=by
 unfold zaJ
 induction l with
 | nil=>intro x;rw[List.foldl_nil,List.foldl_nil,Rat.add_zero]
 | cons y l ih=>intro x;rw[List.foldl_cons,List.foldl_cons,ih,ih (0+y),Rat.zero_add,Rat.add_assoc]
theorem zaH (x:Rat) (l:List Rat):zaJ (x::l)=x+zaJ l:=by
 have:=znG l (0+x);rw[Rat.zero_add]at this;unfold zaJ at *
 rw[List.foldl_cons,Rat.zero_add];exact this
def zj9 (vals:List Rat) (l:List Int):List Value:=zax (l.length:Nat) (List.replicate 12 0) 0 (zaJ (atR vals l))
def zj8 (ls:List Int) (l:List Int):List Value:=zax (l.length:Nat) (csL (atI ls l)) (sqL (atI ls l):Nat) 0
def woV (vals:List Rat) (l:List Int):Rat:=zaJ (atR vals l)*zaJ (atR vals l) / ((l.length:Int):Rat)
def woL (ls:List Int) (l:List Int):Rat:=((sqL (atI ls l):Int):Rat) / ((l.length:Int):Rat)
theorem zlu {vals:List Rat} {R:Nat} {x:Rat} (h:vals[R]?=some x) (l:List Int):atR vals ((R:Int)::l)=x::atR vals l:=by
 unfold atR;rw[qw,qU,qB,h];rfl
theorem zeE {ls:List Int} {R:Nat} {x:Int} (h:ls[R]?=some x) (l:List Int):atI ls ((R:Int)::l)=x::atI ls l:=by
 unfold atI;rw[qw,qU,qB,h];rfl
theorem zkB {vals:List Rat} (l m:List Int):atR vals (l++m)=atR vals l++atR vals m:=qn
theorem zkA {ls:List Int} (l m:List Int):atI ls (l++m)=atI ls l++atI ls m:=qn
theorem zuv {H:Hp} {la:Option Addr} {lc:Nat} {va:Option Addr} {vc:Nat} {vals:List Rat} (hv:QL H (.slice va vals.length vc) vals) (h0:1≤vals.length) (h1:vals.length≤300) (hb:∀q,q∈vals→ht q≤100) :
  GOk H 2 0 (.slice la 0 lc) (.slice va vals.length vc) vals.length (zj9 vals) (woV vals):=by
 have hs:∀l:List Int,l.length≤300→(∀r,r∈l→0≤r∧r<(vals.length:Int))→ht (zaJ (atR vals l))≤1+101*300:=fun l hl hr=>by
  have h1:=zdB 100 (atR vals l) (fun q hq=>hb q (zef hr q hq));rw[zbP]at h1;omega
 refine⟨fun l=>zau rfl,fun l=>⟨_,_,_,_,rfl,rfl⟩,fun G hG=>(zeH h0 h1).pc' G,zoA,by unfold zj9;exact ze2.symm,fun l=>zcF,fun G hG v l hl hn hr=>?_,fun G hG b l l' r hn hr=>?_,fun G b k T pre post l hk hn hr=>?_,fun l hl hr=>?_⟩
 ·obtain⟨a,c,rfl⟩:=SlC.val hl;exact zpQ (hv.mono hG) hl oM hr hb
 ·have hrb:=hr r (by simp);obtain⟨R,rfl⟩:=qh hrb.1;obtain⟨x,hx⟩:∃x,vals[R]?=some x:=⟨_,qA oM⟩;have hxs:sm x:=zaL (hb x (qF hx)) oM;have h1:=hs l oM (fun z hz=>hr z (by simp[hz]));have h2:=hs ((R:Int)::l') (by simp;omega) (fun z hz=>hr z (List.mem_append_right _ hz));have e1:zaJ (atR vals (l++[(R:Int)]))=zaJ (atR vals l)+x:=by rw[zkB,zlu hx];exact zbL _ _
  have e2:zaJ (atR vals ((R:Int)::l'))-x=zaJ (atR vals l'):=by rw[zlu hx,zaH];grind
  have hadd:=fun (G':Hp) (hG':G.Le G')=>zrV (pre:=[]) (k:=0) (b:=b) (T:=285) (post:=zj9 vals ((R:Int)::l')) rfl (cl:=0) (la:=la) (ln:=0) (lc:=lc) (hv.mono (hG.trans hG')) (n:=l.length) oM hx hxs (zaL h1 oM) (cs:=List.replicate 12 0) rfl (sq:=0);have hdrop:=fun (G':Hp) (hG':G.Le G')=>zqr (pre:=zj9 vals (l++[(R:Int)])) (k:=19) (b:=b) (T:=285) (post:=[]) (zau rfl) (cl:=0) (la:=la) (ln:=0) (lc:=lc) (hv.mono (hG.trans hG')) (n:=l'.length) oM hx hxs (zaL h2 oM) (cs:=List.replicate 12 0) rfl (sq:=0);simp only[←e1]at hadd;simp only[e2]at hdrop;have hl1:(l++[(R:Int)]).length=l.length+1:=by simp
  refine PW.body tO func212 rfl kR ntmps212 rfl rfl ?_;refine uR ?_;apply EV.drawn 5 kR kR;intro xv yw;(repeat (first|refine' DD ?_|refine' vN ?_|refine' vF ?_));(refine DJ.nil (fun G1 hG1 hF1=>?_);(case hS|hS2=>rfl));refine vW ([(b,285,zj9 vals l++zj9 vals ((R:Int)::l'))]) ([]) (hadd _ hG1) ?_;rintro v ow G2 ⟨rfl,rfl⟩ hG2;rw[←hl1];refine uR ?_;apply EV.drawn 5 kR kR;intro xv yw;(repeat (first|refine' DD ?_|refine' vN ?_|refine' vF ?_));(refine DJ.nil (fun G3 hG3 hF3=>?_);(case hS|hS2=>rfl));refine EVL.callW rfl rfl rfl rfl rfl ([(b,285,zj9 vals (l++[(R:Int)])++(zax ((l'.length+1:Nat):Int) (List.replicate 12 0) 0 (zaJ (atR vals ((R:Int)::l')))++[]))]) ([]) rfl (hdrop _ (hG1.trans (hG2.trans hG3))) ?_;rintro v ow G4 ⟨rfl,rfl⟩ hG4;refine uR ?_;refine⟨rfl,?_⟩;rw[qG];rfl
 ·exact zpU hk (cs:=List.replicate 12 0) rfl (sq:=0) oM oM (qI (hs l hn hr) oM)
 ·have h1:=hs l hl hr;have h2:=zfD (zaJ (atR vals l)) (zaJ (atR vals l));have h3:=zbz (l.length:Int);have h4:bl (l.length:Int).natAbs≤20:=zaZ oM;have h5:=zeO (zaJ (atR vals l)*zaJ (atR vals l)) ((l.length:Int):Rat);unfold woV;omega
theorem zmi {l m:List Int} (h:l.Perm m):sqL l=sqL m:=by
 unfold sqL;have e:(l.map fun x=>l.count x)=l.map fun x=>m.count x:=List.map_congr_left fun x _=>h.count_eq x;rw[e];exact(h.map _).sum_nat
theorem zql {l m:List Int} (h:l.Perm m):csL l=csL m:=by
 unfold csL;exact List.map_congr_left fun k _=>by rw[h.count_eq]
theorem zqk {k:Nat} (hk:k<12) (l:List Int):(csL ((k:Int)::l)).set k (l.count (k:Int):Int)=csL l:=by
 have h:=zio l hk;have hp:((k:Int)::l).Perm (l++[(k:Int)]):=List.perm_append_comm (l₁:=[(k:Int)]) (l₂:=l);rw[zql hp,h,List.set_set];apply List.ext_getElem?;intro j;rw[List.getElem?_set];by_cases e:k=j
 ·subst e;rw[if_pos rfl,if_pos (by rw[zbT];exact hk),zhG _ hk]
 ·rw[if_neg e]
theorem ziV (x:Int) (l:List Int):sqL (x::l)=sqL l+2*l.count x+1:=by
 have hp:(x::l).Perm (l++[x]):=List.perm_append_comm (l₁:=[x]) (l₂:=l);rw[zmi hp,ziW]
theorem zuu {H:Hp} {cl:Int} (hc:1≤cl∧cl≤12) {va:Option Addr} {vc:Nat} {la:Option Addr} {lc:Nat} {ls:List Int} (hv:IL H (.slice la ls.length lc) ls) (h0:1≤ls.length) (h1:ls.length≤300) (hls0:∀z,z∈ls→0≤z∧z<cl) :
  GOk H 1 cl (.slice la ls.length lc) (.slice va 0 vc) ls.length (zj8 ls) (woL ls):=by
 have hls:∀z,z∈ls→0≤z∧z<12:=fun z hz=>⟨(hls0 z hz).1,by have:=(hls0 z hz).2;omega⟩
 have hs:∀l:List Int,l.length≤300→sqL (atI ls l)≤90000:=fun l hl=>by
  have h1:=zh5 (atI ls l);rw[zb8]at h1;exact qI h1 (Nat.mul_le_mul hl hl)
 refine⟨fun l=>zau (zbT _),fun l=>⟨_,_,_,_,zbT _,rfl⟩,fun G hG=>zgj (hv.mono hG) hc h0 h1 hls0,zkU,by unfold zj8;exact ze2.symm,fun l=>zcF,fun G hG v l hl hn hr=>?_,fun G hG b l l' r hn hr=>?_,fun G b k T pre post l hk hn hr=>?_,fun l hl hr=>?_⟩
 ·exact zh9 (hv.mono hG) hl oM hr hls
 ·have hrb:=hr r (by simp);obtain⟨R,rfl⟩:=qh hrb.1;obtain⟨x,hx⟩:∃x,ls[R]?=some x:=⟨_,qA oM⟩;have hxb:=hls x (qF hx);obtain⟨k,rfl⟩:=qh hxb.1;have hk:k<12:=oM;have h1:=hs l oM;have h2:=hs l' oM;have c1:(atI ls l).count (k:Int)≤300:=qI List.count_le_length (by rw[zb8];omega);have c2:(atI ls l').count (k:Int)≤300:=qI List.count_le_length (by rw[zb8];omega);have e1:(csL (atI ls l)).set k (((atI ls l).count (k:Int)+1:Nat):Int)=csL (atI ls (l++[(R:Int)])):=by rw[zkA,zeE hx];exact(zio _ hk).symm
  have e2:sqL (atI ls l)+2*(atI ls l).count (k:Int)+1=sqL (atI ls (l++[(R:Int)])):=by rw[zkA,zeE hx];exact(ziW _ _).symm
  have e3:(csL (atI ls ((R:Int)::l'))).set k ((atI ls l').count (k:Int):Int)=csL (atI ls l'):=by rw[zeE hx];exact zqk hk _
  have e4:sqL (atI ls l')+2*(atI ls l').count (k:Int)+1=sqL (atI ls ((R:Int)::l')):=by rw[zeE hx];exact(ziV _ _).symm
  have e5:(csL (atI ls ((R:Int)::l')))[k]?=some (((atI ls l').count (k:Int)+1:Nat):Int):=by rw[zhG _ hk,zeE hx,List.count_cons_self]
  have hadd:=fun (G':Hp) (hG':G.Le G')=>zrT (pre:=[]) (k:=0) (b:=b) (T:=285) (post:=zj8 ls ((R:Int)::l')) rfl (cl:=cl) (va:=va) (vn:=0) (vc:=vc) (hv.mono (hG.trans hG')) (n:=l.length) oM hx hk (cs:=csL (atI ls l)) (zbT _) (zhG _ hk) oM (sq:=sqL (atI ls l)) oM (q:=0);have hdrop:=fun (G':Hp) (hG':G.Le G')=>zqq (pre:=zj8 ls (l++[(R:Int)])) (k:=19) (b:=b) (T:=285) (post:=[]) (zau (zbT _)) (cl:=cl) (va:=va) (vn:=0) (vc:=vc) (hv.mono (hG.trans hG')) (n:=l'.length) oM hx hk (cs:=csL (atI ls ((R:Int)::l'))) (zbT _) e5 oM (sq:=sqL (atI ls l')) oM (q:=0);simp only[e1,e2]at hadd;simp only[e3,e4]at hdrop;have hl1:(l++[(R:Int)]).length=l.length+1:=by simp
  refine PW.body tO func212 rfl kR ntmps212 rfl rfl ?_;refine uR ?_;apply EV.drawn 5 kR kR;intro xv yw;(repeat (first|refine' DD ?_|refine' vN ?_|refine' vF ?_));(refine DJ.nil (fun G1 hG1 hF1=>?_);(case hS|hS2=>rfl));refine vW ([(b,285,zj8 ls l++zj8 ls ((R:Int)::l'))]) ([]) (hadd _ hG1) ?_;rintro v ow G2 ⟨rfl,rfl⟩ hG2;rw[←hl1];refine uR ?_;apply EV.drawn 5 kR kR;intro xv yw;(repeat (first|refine' DD ?_|refine' vN ?_|refine' vF ?_));(refine DJ.nil (fun G3 hG3 hF3=>?_);(case hS|hS2=>rfl));refine EVL.callW rfl rfl rfl rfl rfl ([(b,285,zj8 ls (l++[(R:Int)])++(zax ((l'.length+1:Nat):Int) (csL (atI ls ((R:Int)::l'))) (sqL (atI ls ((R:Int)::l')):Nat) 0++[]))]) ([]) rfl (hdrop _ (hG1.trans (hG2.trans hG3))) ?_;rintro v ow G4 ⟨rfl,rfl⟩ hG4;refine uR ?_;refine⟨rfl,?_⟩;rw[qG];rfl
 ·exact zpS hk (zbT _) (by have:=hs l hn;omega) oM
 ·have h1:=hs l hl;have h3:=zbz (l.length:Int);have h4:bl (l.length:Int).natAbs≤20:=zaZ oM;have h6:=zbz (sqL (atI ls l):Int);have h7:bl (sqL (atI ls l):Int).natAbs≤30:=zaZ oM;have h5:=zeO ((sqL (atI ls l):Int):Rat) ((l.length:Int):Rat);unfold woL;omega
def zdw (key:Int→Rat) (least:Int) (m:List Int) (j:Nat):Bool:=decide (least≤((j+1:Nat):Int)) && decide (least≤((m.length-(j+1):Nat):Int)) && decide (key (m.getD j 0)<key (m.getD (j+1) 0))
def zfv (wo:List Int→Rat) (m:List Int) (j:Nat):Rat:=wo (m.take (j+1))+wo (m.drop (j+1))
def zeA (key:Int→Rat) (m:List Int) (j:Nat):Rat:=(key (m.getD j 0)+key (m.getD (j+1) 0)) / 2
def zdp (key:Int→Rat) (wo:List Int→Rat) (least:Int) (m:List Int):Nat→Option (Rat × Rat)
 | 0=>none
 | j+1=>if zdw key least m j=true then (match zdp key wo least m j with
  | none=>some (zeA key m j,zfv wo m j)
  | some (a,w)=>if w<zfv wo m j then some (zeA key m j,zfv wo m j) else some (a,w)) else zdp key wo least m j
def stA:Option (Rat × Rat)→Rat
 | none=>0
 | some (a,_)=>a
def stW:Option (Rat × Rat)→Rat
 | none=>0
 | some (_,w)=>w
theorem zkK {key:Int→Rat} {wo:List Int→Rat} {least:Int} {m:List Int} {j:Nat} (h:zdw key least m j=false):zdp key wo least m (j+1)=zdp key wo least m j:=by
 rw[zdp,h,if_neg (by decide)]
theorem zmL {key:Int→Rat} {wo:List Int→Rat} {least:Int} {m:List Int} {j:Nat} (h:zdw key least m j=true) (h0:zdp key wo least m j=none):zdp key wo least m (j+1)=some (zeA key m j,zfv wo m j):=by
 rw[zdp,h,if_pos rfl,h0]
theorem zoc {key:Int→Rat} {wo:List Int→Rat} {least:Int} {m:List Int} {j:Nat} {a w:Rat} (h:zdw key least m j=true) (h0:zdp key wo least m j=some (a,w)) (hw:w<zfv wo m j):zdp key wo least m (j+1)=some (zeA key m j,zfv wo m j):=by
 rw[zdp,h,if_pos rfl,h0];exact if_pos hw
theorem zob {key:Int→Rat} {wo:List Int→Rat} {least:Int} {m:List Int} {j:Nat} {a w:Rat} (h:zdw key least m j=true) (h0:zdp key wo least m j=some (a,w)) (hw:¬w<zfv wo m j):zdp key wo least m (j+1)=zdp key wo least m j:=by
 rw[zdp,h,if_pos rfl,h0];exact if_neg hw
theorem ztO {S S':List Value} {n:Int} (hl:S.length=19) (h:(S.drop 0).take 1=[.int .i64 n]):((S++S').drop (0+0+0)).take 1=[.int .i64 n]:=by
 rw[List.drop_append_of_le_length oM,List.take_append_of_le_length (by rw[qp];omega)];exact h
theorem zsW {S S':List Value} {n:Int} (hl:S.length=19) (h:(S'.drop 0).take 1=[.int .i64 n]):((S++S').drop (0+19+0)).take 1=[.int .i64 n]:=by
 rw[show 0+19+0=19 from rfl,List.drop_left' hl];exact h
def zrs (X:List (List Rat)) (wo:List Int→Rat) (rs:List Int) (least col:Int) (o:Option (Rat × Rat)):Prop:=∃m,zmD X col rs m∧o=zdp (zbv X col) wo least m (m.length-1)∧ht (stW o)≤200001
theorem zrJ {key:Int→Rat} {wo:List Int→Rat} {least:Int} {m:List Int} {B:Nat} (h:∀j,j<m.length→ht (zfv wo m j)≤B) (hB:1≤B):∀j,j≤m.length→ht (stW (zdp key wo least m j))≤B
 | 0,_=>by show ht 0≤B;rw[zcr];exact hB
 | j+1,hj=>by
  have ih:=zrJ (key:=key) (least:=least) h hB j oM;have h1:=h j oM;unfold zdp;split
  ·split
   ·exact h1
   ·split
    ·exact h1
    ·rename_i h2 _;rw[h2]at ih;exact ih
  ·exact ih
theorem zl7 {a b:Rat}:zb6 a b≥0↔¬a<b:=by
 unfold zb6;split
 ·rename_i h;constructor
  ·intro k;omega
  ·intro k;exact absurd h k
 ·rename_i h;constructor
  ·intro _;exact h
  ·intro _;split <;> omega
theorem zeX {a b:Rat}:zb6 a b>0↔b<a:=by
 unfold zb6;split
 ·rename_i h;constructor
  ·intro k;omega
  ·intro k;exact absurd (Rat.le_of_lt h) (Rat.not_le.2 k)
 ·split
  ·rename_i h;exact⟨fun _=>h,fun _=>by omega⟩
  ·rename_i h;exact⟨fun k=>by omega,fun k=>absurd k h⟩
theorem ztA:∀{l:List Int},l.length=12→∃c0 c1 c2 c3 c4 c5 c6 c7 c8 c9 c10 c11,l=[c0,c1,c2,c3,c4,c5,c6,c7,c8,c9,c10,c11]
 | [c0,c1,c2,c3,c4,c5,c6,c7,c8,c9,c10,c11],_=>⟨_,_,_,_,_,_,_,_,_,_,_,_,rfl⟩
theorem zod {H:Hp} {kd cl:Int} {sl sv vx vr:Value} {X:List (List Rat)} {S:List Int→List Value} {wo:List Int→Rat} {rs:List Int} {col least:Int} (hg:GOk H kd cl sl sv X.length S wo) (hX:QLL H vx X) (hr:IL H vr rs) (hn:rs.length≤20) (hrs:∀r,r∈rs→0≤r∧r<(X.length:Int)) (hb:∀x,x∈X→∀q,q∈x→ht q≤100) :
  PC prog 187 #[zas kd cl sl sv,vx,vr,.int .i64 col,.int .i64 least] H fun r _=>∃o,zrs X wo rs least col o∧r=.tuple #[zae (stA o),zae (stW o),.bool o.isSome]:=by
 have hsorted:=zpy (col:=col) hX hr hn hrs (fun x hx q hq=>zaL (hb x hx q hq) oM);obtain⟨xa,xc,rfl⟩:=hX.val;obtain⟨ra,rc,rfl⟩:=SlC.val hr;refine BD func187 ntmps187 ?_;refine uR ?_;refine vA (hsorted) ?_;rintro r1 G1 ⟨m,hm,hsc⟩ hG1
 have hmr:∀r,r∈m→0≤r∧r<(X.length:Int):=by
  rcases hsc with ⟨_,hp,_⟩ | ⟨_,rfl⟩
  ·exact fun r hr=>hrs r (hp.mem_iff.1 hr)
  ·intro r hr;cases hr
 have hmn:m.length≤20:=by
  rcases hsc with ⟨_,hp,_⟩ | ⟨_,rfl⟩
  ·rw[hp.length_eq];exact hn
  ·decide
 have hmh:∀r,r∈m→zcI X col r=true:=by
  rcases hsc with ⟨ha,hp,_⟩ | ⟨_,rfl⟩
  ·exact fun r hr=>List.all_eq_true.1 ha r (hp.mem_iff.1 hr)
  ·intro r hr;cases hr
 obtain⟨ma,mc,rfl⟩:=SlC.val hm;have hwh:=hg.whole G1 hG1 _ m hm oM hmr;have hlS:=hg.len m;refine uR ?_;refine vA (hwh) ?_;rintro r2 G2 rfl hG2;obtain⟨sn,scs,ssq,sq,hs12,hS⟩:=hg.form m;obtain⟨c0,c1,c2,c3,c4,c5,c6,c7,c8,c9,c10,c11,rfl⟩:=ztA hs12;rw[hS];refine uR ?_;(first|refine EVL.unbox (14) rfl fun b=>?_|refine EV.unbox (14) rfl fun b=>?_);(first|refine EVL.swapOw ([(b,285,S (m.take 0)++S (m.drop 0))]) ([]) ((by rw[List.take_zero,List.drop_zero,hg.zero,hS];rfl)) ?_|refine EV.swapOw ([(b,285,S (m.take 0)++S (m.drop 0))]) ([]) ((by rw[List.take_zero,List.drop_zero,hg.zero,hS];rfl)) ?_);have hX2:=hX.mono (hG1.trans hG2);have hm2:=hm.mono hG2;have hg2:=hg.mono (hG1.trans hG2);clear hS hwh hsorted
 have hsw:∀j,j<m.length→ht (zfv wo m j)≤200001:=fun j hj=>by
  have h1:=hg.small (m.take (j+1)) (by rw[qP];omega) (fun r hr=>hmr r (List.mem_of_mem_take hr));have h2:=hg.small (m.drop (j+1)) (by rw[qp];omega) (fun r hr=>hmr r (List.mem_of_mem_drop hr));have h3:=zcQ (wo (m.take (j+1))) (wo (m.drop (j+1)));unfold zfv;omega
 have hst:=fun j (hj:j≤m.length)=>zrJ (key:=zbv X col) (least:=least) hsw oM j hj;generalize hkey:zbv X col=key at *
 refine EV.loopK (ι:=Nat) [1,3,4,5,10,11,13,14] [5] (fun j=>[(12,.v (.bool (zdp key wo least m j).isSome)),(15,.v (.int .i64 ((j+1:Nat):Int)))]) (fun j=>[(10,67,zac (zae (stA (zdp key wo least m j)))),(11,67,zac (zae (stW (zdp key wo least m j))))]) (fun j=>[(b,285,S (m.take j)++S (m.drop j))]) (fun j _=>j≤m.length-1) (fun j=>m.length-j) (0) rfl rfl ⟨rfl,rfl,trivial⟩ ⟨by rw[show stA (zdp key wo least m 0)=0 from rfl,zaD];rfl,by rw[show stW (zdp key wo least m 0)=0 from rfl,zaD];rfl,trivial⟩ rfl (fun _=>rfl) (qQ _) ?_;rintro j G3 hG3 hj;refine uR ?_;refine EV.cond rfl (fun hlt=>?_) (fun hlt=>?_)
 ·simp only[nN]at hlt;obtain⟨r1,hr1⟩:∃r,m[j]?=some r:=⟨_,qA oM⟩;obtain⟨r2,hr2⟩:∃r,m[j+1]?=some r:=⟨_,qA hlt⟩;have hb1:=hmr r1 (qF hr1);have hb2:=hmr r2 (qF hr2);obtain⟨R1,C,x1,q1,rfl,hCC,hx1,hq1⟩:=zel hb1.1 hb1.2 (hmh r1 (qF hr1));subst hCC;obtain⟨R2,C',x2,q2,rfl,hCC,hx2,hq2⟩:=zel hb2.1 hb2.2 (hmh r2 (qF hr2));obtain rfl:C=C':=oM;obtain⟨vs,hvs,hs⟩:=hX2.mono hG3;obtain⟨a1,e1,hu1,hQ1⟩:=hvs.at hx1;obtain⟨a2,e2,hu2,hQ2⟩:=hvs.at hx2;have hs1:SlC G3 (.slice a1 x1.length e1) x1.length 5 (x1.flatMap fun q=>zac (zae q)):=hQ1;have hs2:SlC G3 (.slice a2 x2.length e2) x2.length 5 (x2.flatMap fun q=>zac (zae q)):=hQ2;have hm3:=hm2.mono hG3;have hl1:=(qE.1 hq1).1;have hl2:=(qE.1 hq2).1;have hXl1:R1<X.length:=oM;have hXl2:R2<X.length:=oM;have hjl:j<m.length:=oM;have hk1:key (m.getD j 0)=q1:=by rw[qB,hr1,←hkey];exact zeh rfl rfl hx1 hq1
  have hk2:key (m.getD (j+1) 0)=q2:=by rw[qB,hr2,←hkey];exact zeh rfl rfl hx2 hq2
  have hqb1:=hb x1 (qF hx1) q1 (qF hq1);have hqb2:=hb x2 (qF hx2) q2 (qF hq2);have wj:IntKind.i64.wrap (((j+1:Nat):Int)-1)=(j:Int):=by rw[pK];omega
  have wn:IntKind.i64.wrap (((j+1:Nat):Int)+1)=((j+1+1:Nat):Int):=zab (j+1) oM;have hdrop:m.drop j=(R1:Int)::m.drop (j+1):=zfX hr1;have htake:m.take (j+1)=m.take j++[(R1:Int)]:=zan hr1;have hmove:=fun (G':Hp) (hG':G3.Le G')=>hg2.move G' (hG3.trans hG') b (m.take j) (m.drop (j+1)) (R1:Int) (by rw[qP,qp];omega) (by rw[←hdrop,List.take_append_drop];exact hmr);rw[←hdrop,←htake]at hmove;have htl:(m.take (j+1)).length=j+1:=by rw[qP];omega
  have hdl:(m.drop (j+1)).length=m.length-(j+1):=qp;have hf1:=hg.first (m.take (j+1));have hf2:=hg.first (m.drop (j+1));rw[htl]at hf1;rw[hdl]at hf2;have hS1:=hg.len (m.take (j+1));have hS2:=hg.len (m.drop (j+1));have hcmp:=zeI q1 q2 (zaL hqb1 oM) (zaL hqb2 oM);refine uR ?_;apply EV.drawn 6 kR kR;intro xv yw;(repeat refine' DD ?_);refine' DJ.ofVal (zaa.idx1 tO rfl rfl rfl rfl rfl rfl rfl rfl (hm3) (j) (wj) (hjl) ((by rw[qK,hr1];rfl))) rfl rfl rfl ?_;rotate_left;(repeat refine' DD ?_);(refine DJ.nil (fun G4 hG4 hF4=>?_);(case hS|hS2=>rfl));refine vW ([(b,285,S (m.take j)++S (m.drop j))]) ([]) (hmove G4 hG4) ?_;rintro v ow G5 ⟨rfl,rfl⟩ hG5;have hm5:=hm3.mono (hG4.trans hG5);have hs5:=hs.mono (hG4.trans hG5);have hs15:=hs1.mono (hG4.trans hG5);have hs25:=hs2.mono (hG4.trans hG5);refine uR ?_;apply EV.drawn 24 kR kR;intro xv yw;(repeat refine' DD ?_);refine' DJ.ofVal (zaa.idx1 tO rfl rfl rfl rfl rfl rfl rfl rfl (hm5) (j) (wj) (hjl) ((by rw[qK,hr1];rfl))) rfl rfl rfl ?_;rotate_left;(repeat refine' DD ?_);refine' vJ (hs5) (R1) (rfl) (hXl1) (hu1) ?_;rotate_left;(repeat refine' DD ?_);refine' DJ.idxM tO rfl rfl rfl rfl rfl rfl rfl rfl rfl (hs15) (C) (rfl) (hl1) (QL.at (H:=H) (v:=.bool true) hq1) ?_;rotate_left;(repeat refine' DD ?_);refine' vJ (hm5) (j+1) (rfl) (hlt) ((by rw[qK,hr2];rfl)) ?_;rotate_left;(repeat refine' DD ?_);refine' vJ (hs5) (R2) (rfl) (hXl2) (hu2) ?_;rotate_left;(repeat refine' DD ?_);refine' DJ.idxM tO rfl rfl rfl rfl rfl rfl rfl rfl rfl (hs25) (C) (rfl) (hl2) (QL.at (H:=H) (v:=.bool true) hq2) ?_;rotate_left;(repeat refine' DD ?_);(refine DJ.nil (fun G6 hG6 hF6=>?_);(case hS|hS2=>rfl));refine uR ?_;refine RP ?_;refine EVL.loadOwn tO rfl rfl rfl rfl rfl rfl (0) rfl (ztO hS1 hf1) rfl rfl ?_;refine uR ?_;have hcand:zdw key least m j=(decide (least≤((j+1:Nat):Int)) && decide (least≤((m.length-(j+1):Nat):Int)) && decide (q1<q2)):=by unfold zdw;rw[hk1,hk2]
  by_cases h1:((j+1:Nat):Int)<least
  ·have hno:zdp key wo least m (j+1)=zdp key wo least m j:=zkK (by rw[hcand,qC (show ¬least≤((j+1:Nat):Int) by omega)];rfl);rw[qD h1];refine uR ?_;refine⟨j+1,⟨by rw[hno];rfl,by rw[wn];rfl,trivial⟩,sB,⟨by rw[hno];rfl,by rw[hno];rfl,trivial⟩,sB,rfl,by omega,hG4.trans (hG5.trans hG6),by omega⟩
  ·rw[qC h1];refine uR ?_;refine RP ?_;refine EVL.loadOwn tO rfl rfl rfl rfl rfl rfl (0) rfl (zsW hS1 hf2) rfl rfl ?_;refine uR ?_;by_cases h2:((m.length-(j+1):Nat):Int)<least
   ·have hno:zdp key wo least m (j+1)=zdp key wo least m j:=zkK (by rw[hcand,qC (show ¬least≤((m.length-(j+1):Nat):Int) by omega),Bool.and_false];rfl);rw[qD h2];refine uR ?_;refine⟨j+1,⟨by rw[hno];rfl,by rw[wn];rfl,trivial⟩,sB,⟨by rw[hno];rfl,by rw[hno];rfl,trivial⟩,sB,rfl,by omega,hG4.trans (hG5.trans hG6),by omega⟩
   ·rw[qC h2]
    repeat (first|refine RUN ?_|refine CV (hcmp) ?_|refine CE (hcmp) ?_)
    by_cases h3:q1<q2
    ·have hc:zdw key least m j=true:=by rw[hcand,qD (show least≤((j+1:Nat):Int) by omega),qD (show least≤((m.length-(j+1):Nat):Int) by omega),qD h3];rfl
     have hmid:zeA key m j=(q1+q2) / 2:=by unfold zeA;rw[hk1,hk2]
     have hr1':=fun r hr=>hmr r (List.mem_of_mem_take (i:=j+1) hr);have hr2':=fun r hr=>hmr r (List.mem_of_mem_drop (i:=j+1) hr);have hw1:=fun G':Hp=>hg2.worth G' b 0 285 [] (S (m.drop (j+1))) (m.take (j+1)) rfl oM hr1';have hw2:=fun G':Hp=>hg2.worth G' b 19 285 (S (m.take (j+1))) [] (m.drop (j+1)) hS1 oM hr2';simp only[qG]at hw2;have hsm1:=hg.small (m.take (j+1)) oM hr1';have hsm2:=hg.small (m.drop (j+1)) oM hr2';have hadd:=zeD (wo (m.take (j+1))) (wo (m.drop (j+1))) (zaL hsm1 oM) (zaL hsm2 oM);have hmv:=zoE q1 q2 oM oM;have hws:=hsw j oM;have hwst:=hst j oM;rw[show wo (m.take (j+1))+wo (m.drop (j+1))=zfv wo m j from rfl]at hadd;rw[←hmid]at hmv;rw[qC (fun h=>absurd h3 (zl7.1 h))];refine uR ?_;apply EV.drawn 10 kR kR;intro xv yw;(repeat (first|refine' DD ?_|refine' vN ?_|refine' vF ?_));(refine' DJ.callR rfl rfl rfl rfl rfl 0 rfl (by simp[hS1,hS2]) (cO func180) (fun G'=>hw1 G') ?_;rotate_left);(repeat (first|refine' DD ?_|refine' vN ?_|refine' vF ?_));(refine' DJ.callR rfl rfl rfl rfl rfl 0 rfl (by simp[hS1,hS2]) (cO func180) (fun G'=>hw2 G') ?_;rotate_left);(repeat (first|refine' DD ?_|(refine' DC (hadd) (h:=?_);rotate_left)));(refine DJ.nil (fun G7 hG7 hF7=>?_);(case hS|hS2=>rfl));refine uR ?_;have hcmp2:=zeI (zfv wo m j) (stW (zdp key wo least m j)) (zaL hws oM) (zaL hwst oM)
     cases hst0:zdp key wo least m j with
     | none =>
      have hyes:=zmL (wo:=wo) hc hst0;rw[hst0]at hcmp2;refine uR ?_;apply EV.drawnK [1,3,4,5,10,11,13,14,15,16,17,18] [10,11] [5,16,17,18] 5 rfl rfl rfl rfl kR kR;intro xv yw;(repeat (first|refine' DD ?_|(refine' DC (hmv) (h:=?_);rotate_left)));(refine DJ.nil (fun G8 hG8 hF8=>?_);(case hS|hS2=>rfl);(case hD=>rfl));refine uR ?_;refine⟨j+1,⟨by rw[hyes];rfl,by rw[wn];rfl,trivial⟩,sB,⟨by rw[hyes];rfl,by rw[hyes];rfl,trivial⟩,sB,rfl,by omega,hG4.trans (hG5.trans (hG6.trans (hG7.trans hG8))),by omega⟩
     | some p =>
      obtain⟨pa,pw⟩:=p;rw[hst0]at hcmp2
      repeat (first|refine RUN ?_|refine CV (hcmp2) ?_|refine CE (hcmp2) ?_)
      by_cases h4:pw<zfv wo m j
      ·have hyes:=zoc (wo:=wo) hc hst0 h4;rw[qD (show zb6 (zfv wo m j) (stW (some (pa,pw)))>0 from zeX.2 h4)];refine uR ?_;apply EV.drawnK [1,3,4,5,10,11,13,14,15,16,17,18] [10,11] [5,16,17,18] 5 rfl rfl rfl rfl kR kR;intro xv yw;(repeat (first|refine' DD ?_|(refine' DC (hmv) (h:=?_);rotate_left)));(refine DJ.nil (fun G8 hG8 hF8=>?_);(case hS|hS2=>rfl);(case hD=>rfl));refine uR ?_;refine⟨j+1,⟨by rw[hyes];rfl,by rw[wn];rfl,trivial⟩,sB,⟨by rw[hyes];rfl,by rw[hyes];rfl,trivial⟩,sB,rfl,by omega,hG4.trans (hG5.trans (hG6.trans (hG7.trans hG8))),by omega⟩
      ·have hno:=(zob (wo:=wo) hc hst0 h4).trans hst0;rw[qC (show ¬zb6 (zfv wo m j) (stW (some (pa,pw)))>0 from fun h=>h4 (zeX.1 h))];refine uR ?_;refine⟨j+1,⟨by rw[hno];rfl,by rw[wn];rfl,trivial⟩,sB,⟨by rw[hno];rfl,by rw[hno];rfl,trivial⟩,sB,rfl,by omega,hG4.trans (hG5.trans (hG6.trans hG7)),by omega⟩
    ·have hno:zdp key wo least m (j+1)=zdp key wo least m j:=zkK (by rw[hcand,qC h3,Bool.and_false]);rw[qD (zl7.2 h3)];refine uR ?_;refine⟨j+1,⟨by rw[hno];rfl,by rw[wn];rfl,trivial⟩,sB,⟨by rw[hno];rfl,by rw[hno];rfl,trivial⟩,sB,rfl,by omega,hG4.trans (hG5.trans hG6),by omega⟩
 ·simp only[nN]at hlt;obtain rfl:j=m.length-1:=oM;have hfh:=hst (m.length-1) oM;generalize hfin:zdp key wo least m (m.length-1)=fin at *
  refine uR ?_;refine EVA.start kR ?_;refine EVA.val tO (2) rfl kR kR kR rfl rfl rfl rfl rfl ?_;refine EVA.two 0 1 kR rfl rfl ?_ ?_
  ·(try refine zey ?_);refine EVL.nil ⟨rfl,?_⟩;refine EVA.two 1 3 kR rfl rfl ?_ ?_
   ·(try refine zey ?_);refine EVL.nil ⟨rfl,?_⟩;refine EVA.one 3 kR rfl ?_
    (try refine zey ?_);refine EVL.nil ⟨rfl,?_⟩;refine EVA.one 4 kR rfl ?_
    (try refine zey ?_);refine EVL.nil ⟨rfl,?_⟩;refine EVA.one 5 kR rfl ?_
    (try refine zey ?_);refine EVL.nil ⟨rfl,?_⟩;refine EVA.nil kR ?_;refine uR ?_;exact⟨fin,⟨m,hsc,by rw[hkey];exact hfin.symm,hfh⟩,rfl⟩
   ·(try refine zey ?_);refine EVL.nil ⟨rfl,?_⟩;refine EVA.one 1 kR rfl ?_
    (try refine zey ?_);refine EVL.nil ⟨rfl,?_⟩;refine EVA.one 4 kR rfl ?_
    (try refine zey ?_);refine EVL.nil ⟨rfl,?_⟩;refine EVA.one 5 kR rfl ?_
    (try refine zey ?_);refine EVL.nil ⟨rfl,?_⟩;refine EVA.nil kR ?_;refine uR ?_;exact⟨fin,⟨m,hsc,by rw[hkey];exact hfin.symm,hfh⟩,rfl⟩
  ·(try refine zey ?_);refine EVL.nil ⟨rfl,?_⟩;refine EVA.one 0 kR rfl ?_
   (try refine zey ?_);refine EVL.nil ⟨rfl,?_⟩;refine EVA.one 3 kR rfl ?_
   (try refine zey ?_);refine EVL.nil ⟨rfl,?_⟩;refine EVA.one 4 kR rfl ?_
   (try refine zey ?_);refine EVL.nil ⟨rfl,?_⟩;refine EVA.one 5 kR rfl ?_
   (try refine zey ?_);refine EVL.nil ⟨rfl,?_⟩;refine EVA.nil kR ?_;refine uR ?_;exact⟨fin,⟨m,hsc,by rw[hkey];exact hfin.symm,hfh⟩,rfl⟩
end
section
open Go.RowKit Go.Shelf
attribute [local go_sem] Oper.semAt_some
def zev {α:Type} (f:Nat→α) (k:Nat):List α:=(List.range k).map f
theorem zh7 {α:Type} (f:Nat→α) (k:Nat):zev f (k+1)=zev f k++[f k]:=by simp[zev,List.range_succ]
theorem zkh {α:Type} (f:Nat→α) (k:Nat):(zev f k).length=k:=by simp[zev]
theorem zpL (zs:List Int):zev (fun j=>zs[j]?.getD 0) zs.length=zs:=by
 apply List.ext_getElem
 ·simp[zev]
 ·intro i h1 h2;simp[zev,h2]
theorem znK (zs:List Int) {k:Nat} (hk:k≤zs.length):zev (fun j=>zs[j]?.getD 0) k=zs.take k:=by
 apply List.ext_getElem
 ·simp[zev,hk]
 ·intro i h1 h2;have:i<zs.length:=by simp[zev]at h1;omega
  simp[zev,this]
set_option maxRecDepth 100000 in
theorem znL (F:Fence) (n:Nat) (h7:F.fn 210) (hro:F.round=none) (hn:1≤n) (l Bs n₀ b off len cap:Nat) (zs:List Int) (hreach:len*8≤140737488351232) (hb:b<n₀) (J Jx:List Int→World→Prop)
  (hY:∀pre x W,J pre W→pre.length<len→YieldAt F (n-1) Tryz.prog l #[.int .i64 x] W fun e W' =>
   (e=.returned (.bool true)∧J (pre++[x]) W'∧Below n₀ W W')∨(e=.returned (.bool false)∧Jx (pre++[x]) W'))
  (W:World) (hBs:W.cell? ⟨Bs,0,none⟩=some (.slice (some ⟨b,off,none⟩) len cap)) (hc:∀j,j<len→W.cell? ⟨b,off+j,none⟩=some (.int .i64 (zs[j]?.getD 0))) (h0:J [] W) :
  CallsIn F n Tryz.prog 210 #[.func (.yield l) #[] #[],.pointer (some ⟨Bs,0,none⟩)] W fun e W'=>(∃v,e=.returned v) ∧
   ((∃ys,ys=zev (fun j=>zs[j]?.getD 0) len∧J ys W')∨(∃pre,(∃k,k≤len∧pre=zev (fun j=>zs[j]?.getD 0) k)∧Jx pre W')):=by
 refine callsIn_of_wp Tryz.func210 rfl h7 ?_ hro;simp only[Tryz.ntmps210,List.size_toArray,qR,qg,Nat.reduceAdd,Nat.reduceSub,Array.replicate_succ,Array.replicate_zero,List.push_toArray,List.append_toArray,pM,List.cons_append]
 gi_wp2
 gi_loopw [7] (fun i wr=>∃k:Nat,k≤len∧i=.int .i64 k∧J (zev (fun j=>zs[j]?.getD 0) k) wr∧Below n₀ W wr)
  (fun i _=>len-(intOf i).toNat)
 case atStart=>exact⟨0,qQ _,rfl,h0,Below.refl _ _⟩
 case round =>
  obtain⟨k,hk,rfl,hJs,hnx⟩:=hrel;have hcx:k<len→wr.cell? ⟨b,off+k,none⟩=some (.int .i64 (zs[k]?.getD 0)):=fun h=>(hnx.cell (p:=⟨b,off+k,none⟩) hb).trans (hc k h);by_cases hlt:k<len
  ·obtain⟨fn,tmps,assign,body,hy,hR⟩:=hY _ (zs[k]?.getD 0) wr hJs (by rw[zkh];exact hlt);have hcx':=hcx hlt
   gi_wp2;refine hR.mono ?_;rintro e W3 (⟨rfl,hJ3,hk3⟩ | ⟨rfl,hJx3⟩)
   ·gi_wp2
    go_roundw
    case rel=>exact⟨k+1,by omega,by simp,by rw[zh7];exact hJ3,hnx.trans hk3⟩
    case measure=>simp[intOf];omega
   ·gi_wp2;refine bodyPost_ret (results_none rfl _ _ _) rfl ?_;exact⟨⟨_,rfl⟩,.inr ⟨_,⟨k+1,by omega,(zh7 _ _).symm⟩,hJx3⟩⟩
  ·obtain rfl:k=len:=oM
   gi_wp2
   go_end0;exact⟨⟨_,rfl⟩,.inl ⟨_,rfl,hJs⟩⟩
set_option maxRecDepth 100000 in
theorem zec (F:Fence) (n:Nat) (h7:F.fn 210) (hro:F.round=none) (l Bs:Nat) (a:Option Addr) (cap:Nat) (J:List Int→World→Prop) (W:World) (hBs:W.cell? ⟨Bs,0,none⟩=some (.slice a 0 cap)) (h0:J [] W) :
  CallsIn F n Tryz.prog 210 #[.func (.yield l) #[] #[],.pointer (some ⟨Bs,0,none⟩)] W fun e W'=>(∃v,e=.returned v)∧J [] W':=by
 refine callsIn_of_wp Tryz.func210 rfl h7 ?_ hro;simp only[Tryz.ntmps210,List.size_toArray,qR,qg,Nat.reduceAdd,Nat.reduceSub,Array.replicate_succ,Array.replicate_zero,List.push_toArray,List.append_toArray,pM,List.cons_append]
 gi_wp2
 gi_loopw [7] (fun i wr=>i=.int .i64 0∧J [] wr) (fun _ _=>0)
 case atStart=>exact⟨rfl,h0⟩
 case round =>
  obtain⟨rfl,hJs⟩:=hrel
  gi_wp2
  go_end0;exact⟨⟨_,rfl⟩,hJs⟩
theorem zkl (F:Fence) (n:Nat) (h7:F.fn 210) (hro:F.round=none) (hn:1≤n) (Bs n₀:Nat) (sv:Value) (zs:List Int) (hreach:zs.length*8≤140737488351232) (w:World) (hBs:Bs<w.heap.size) (hn₀:n₀≤w.heap.size)
  (hc:w.cell? ⟨Bs,0,none⟩=some sv) (hI:Sl i64 w sv zs) (hlow:∀b off len cap,sv=.slice (some ⟨b,off,none⟩) len cap→zs≠[]→b<n₀) :
  SeqStopsK F n Tryz.prog 210 #[.pointer (some ⟨Bs,0,none⟩)] (fun x:Int=>#[Value.int .i64 x]) (Below n₀) (fun ys=>ys=zs) (fun pre=>pre <+: zs) zs.length w:=fun l J Jx W hW _ _ hY h0=>by
 have hc':=(hW.cell (p:=⟨Bs,0,none⟩) hBs).trans hc;rcases hI.below hW with ⟨rfl,a,cap,rfl⟩ | ⟨b,off,cap,rfl,hb,hcs⟩
 ·exact(zec F n h7 hro l Bs a cap J W hc' h0).mono fun e W' ⟨he,hj⟩=>⟨he,.inl ⟨_,rfl,hj⟩⟩
 ·by_cases hz:zs=[]
  ·subst hz;exact(zec F n h7 hro l Bs _ cap J W hc' h0).mono fun e W' ⟨he,hj⟩=>⟨he,.inl ⟨_,rfl,hj⟩⟩
  ·refine(znL F n h7 hro hn l Bs n₀ b off zs.length cap zs hreach (hlow _ _ _ _ rfl hz) J Jx hY W hc' (fun j hj=>by rw[hcs j hj];simp[hj]) h0).mono ?_;rintro e W' ⟨he,⟨ys,rfl,hj⟩ | ⟨pre,⟨k,hk,rfl⟩,hj⟩⟩
   ·exact⟨he,.inl ⟨_,zpL zs,hj⟩⟩
   ·exact⟨he,.inr ⟨_,by rw[znK zs hk];exact List.take_prefix _ _,hj⟩⟩
theorem Tryz.infoInt':(Tryz.prog.info? 3).map (fun i=>(i.zero,i.size,i.bytes))=some (some (.int .i64 0),1,8):=by kernel_rfl
set_option maxRecDepth 100000 in
theorem zjc (F:Fence) (n:Nat) (h3:F.fn 218) (h5:F.fn 210) (hro:F.round=none) (hn:3≤n) (Bs:Nat) (sv:Value) (xs:List Int) (hbytes:xs.length*8≤140737488351232) (w:World)
  (hBs:Bs<w.heap.size) (hc0:w.cell? ⟨Bs,0,none⟩=some sv) (hI:Sl i64 w sv xs) :
  CallsIn F n Tryz.prog 218 #[.slice none 0 0,.func (.func 210) #[] #[.pointer (some ⟨Bs,0,none⟩)]] w fun e W'=>∃v,e=.returned v∧W'.ownsRow w.heap.size 3 1 v xs.length (xs.map (Value.int .i64))∧(v=.slice none 0 0↔xs=[])∧Below w.heap.size w W':=by
 have h1:1≤n:=oM;obtain⟨i0,hi,hz0,hz1,hz2⟩:=info_parts Tryz.infoInt';refine callsIn_of_wp_marks Tryz.func218 rfl h3 ?_ hro;simp only[Tryz.ntmps218,List.size_toArray,qR,qg,Nat.reduceAdd,Nat.reduceSub,Array.replicate_succ,Array.replicate_zero,List.push_toArray,List.append_toArray,pM,List.cons_append]
 gi_wp2;have bO:=Boxed.new w 22 (.slice none 0 0);have hB0:Below w.heap.size w (w.alloc (.cells #[.slice none 0 0] 22)):=(Below.refl _ w).alloc (qH _) _;have hmax:xs.length≤maxLen:=by unfold maxLen;omega
 refine wpIn_rangeFunc_ownG hro h1 (gf:=210) (lb:=#[.pointer (some ⟨Bs,0,none⟩)]) rfl h5 (enters_of Tryz.func210 kR rfl)
  (zkl F (n-1) h5 hro oM Bs w.heap.size sv xs hbytes _ (by simp;omega) (by simp) ((hB0.cell (p:=⟨Bs,0,none⟩) hBs).trans hc0) (hI.below hB0) (fun b off len cap e hne=>by
   rcases hI with ⟨hx,_⟩ | ⟨b',off',cap',e',hb',_⟩
   ·exact absurd hx hne
   ·rw[e']at e;cases e;exact hb')) belowK_t (belowK_b (by simp)) (Below.refl _ _) (fun _=>rfl)
  (fun pre W=>(∃v,Boxed W w.heap.size 22 v∧W.ownsRow w.heap.size 3 1 v pre.length (pre.map (Value.int .i64))∧(v=.slice none 0 0↔pre=[]))∧Below w.heap.size w W)
  (fun _ _ _=>False)
  (OwnFrom.and (Own.from (holdsRow_own w.heap.size w.heap.size 22 3 1 (fun pre=>pre.length) (fun pre=>pre.map (Value.int .i64)) (fun pre v=>v=.slice none 0 0↔pre=[])) _) (ownFrom_below (qH _) (by simp)))
  (fun _ _ _ _ _ hs _ _=>hs)
  ⟨⟨_,bO,World.ownsRow_nil _ _ _ _,by simp⟩,hB0⟩
  (fun x=>{ tmps:=#[.slice none 0 0,.func (.func 210) #[] #[.pointer (some ⟨Bs,0,none⟩)],.pointer (some ⟨w.heap.size,0,none⟩),undef,.slice none 0 0,.int .i64 x,.func (.func 210) #[] #[.pointer (some ⟨Bs,0,none⟩)],.int .i64 x,undef,undef,undef,undef,undef],defers:=[] }) ?assign ?body ?done ?stop
 case assign =>
  intro l x W K hK
  gi_wp2;exact hK
 case body =>
  rintro l pre x W ⟨⟨v,hv,hrow,hnil⟩,hB⟩ hlt;have hc:=hv.cell
  gi_wp2_with (gi_at_builtin;refine wpListIn_append_own _ rfl _ _ 22 rfl w.heap.size 3 i0 (.int .i64 0) 1 8 Tryz.underlying22 hi hz0 hz1 hz2 rfl (by decide) _ _ _ rfl (hrow.alloc _) ⟨W.heap.size,0,none⟩ 1 1 [.int .i64 x] rfl rfl (cell_one_new _ _ _) (by simp[Value.oneCell']) oM oM (by have:=hB.size;simp;omega) ?_;intro v' w1 hown' hgrow _;obtain⟨g',cap',rfl⟩:=ownsRow_succ hown';obtain⟨hv1,hv2,hr2,hk2,hb2⟩:=hv.appended (by decide) hrow hB.size (qH _) hown' hgrow;have hc1:=hv1.cell;have hf1:=hv1.frozen);exact⟨hk2.from _,hb2,⟨_,hv2,by simpa using hr2,by simp⟩,hB.trans hb2⟩
 case done =>
  rintro D ys W hD rfl ⟨⟨v,hv,hrow,hnil⟩,hB⟩ hK;have hc:=hv.cell
  gi_wp2;refine⟨by simp,.inl ⟨_,_,rfl,run_takeDeferred hK,?_⟩⟩;exact⟨_,results_tmp rfl _ _ _,v,rfl,ownsRow_putObj hrow _ hK rfl,hnil,hB.trans (belowK_b (w:=w) (qH _) W D _ _ (by simp at hD;omega) hK rfl rfl)⟩
 case stop =>
  rintro D c pre W _ _ h _;exact h.elim
end
section
open Go.RowKit Go.Shelf
attribute [local go_sem] Oper.semAt_some
end
section
open Go.RowKit _root_.Go.Proofs.Tryz
def nxt (s:Int):Int:=IntKind.u64.wrap (s+11400714819323198485)
def zux (z:Int):Int:=IntKind.u64.wrap (bits .xor .u64 z (z / 1073741824)*13787848793156543929)
def zuy (z:Int):Int:=IntKind.u64.wrap (bits .xor .u64 z (z / 134217728)*10723151780598845931)
def zuz (z:Int):Int:=bits .xor .u64 z (z / 2147483648)
def mix (z:Int):Int:=zuz (zuy (zux z))
def zuw (n:Int):Int:=18446744073709551615-18446744073709551616 % n
def zut (s:Int):Int:=(-s*17428512612931826493) % 18446744073709551616
def left (s:Int):Nat:=(zut (nxt s)).toNat
def znZ (n:Int):Nat→Int→Int × Int
 | 0,s=>(0,s)
 | k+1,s=>if mix (nxt s)≤zuw n then (mix (nxt s) % n,nxt s) else znZ n k (nxt s)
def below (n s:Int):Int × Int:=znZ n (left s+1) s
def zpJ (n:Nat):List Int:=(List.range n).map Int.ofNat
theorem zhg (n:Nat):(zpJ n).length=n:=by simp[zpJ]
theorem zpK (n:Nat):zpJ (n+1)=zpJ n++[(n:Int)]:=by simp[zpJ,List.range_succ]
end
section
end
section
def zeu (l:List Int):List Int:=l.mergeSort fun x y=>decide (x≤y)
theorem zfM (l:List Int):(zeu l).length=l.length:=by simp[zeu]
theorem znD (l:List Int):(zeu l).Perm l:=List.mergeSort_perm _ _
theorem zkb (l:List Int):(zeu l).Pairwise (·≤·):=by
 have:=List.pairwise_mergeSort (le:=fun x y:Int=>decide (x≤y)) (by intro a b c;simp;omega) (by intro a b;simp;omega) l;unfold zeu;exact this.imp (by intro a b h;simpa using h)
end
section
open Go.RowKit Go.Shelf
theorem zkL (Bs:Nat) (sv:Value) (xs:List Int) (hbytes:xs.length*8≤140737488351232) (w:World)
  (hBs:Bs<w.heap.size) (hc0:w.cell? ⟨Bs,0,none⟩=some sv) (hI:Sl i64 w sv xs) :
  Calls Tryz.prog 208 #[.func (.func 210) #[] #[.pointer (some ⟨Bs,0,none⟩)]] w fun e W'=>∃v,e=.returned v∧W'.ownsRow w.heap.size 3 1 v xs.length (xs.map (Value.int .i64))∧(v=.slice none 0 0↔xs=[])∧Below w.heap.size w W':=by
 go_enter Tryz.func208,Tryz.ntmps208
 go_wp2_with fail;refine((callsIn_wide (n:=3)).1 (zjc Fence.wide 3 trivial trivial rfl oM Bs sv xs hbytes w hBs hc0 hI)).mono ?_;rintro e w1 ⟨v,rfl,hown,hnil,hb⟩;go_wp2
 go_ret;exact⟨v,rfl,hown,hnil,hb⟩
theorem znE (Bs:Nat) (sv:Value) (xs:List Int) (hbytes:xs.length*8≤140737488351232) (w:World)
  (hBs:Bs<w.heap.size) (hc0:w.cell? ⟨Bs,0,none⟩=some sv) (hI:Sl i64 w sv xs) :
  Calls Tryz.prog 185 #[.func (.func 210) #[] #[.pointer (some ⟨Bs,0,none⟩)]] w fun e W'=>∃v,e=.returned v∧W'.ownsRow w.heap.size 3 1 v xs.length ((zeu xs).map (Value.int .i64))∧Below w.heap.size w W':=by
 go_enter Tryz.func185,Tryz.ntmps185
 go_wp2_with fail;refine(zkL Bs sv xs hbytes w hBs hc0 hI).mono ?_;rintro e w1 ⟨v,rfl,hown,hnil,hb⟩;have HN:=hid hnil;clear hnil;rcases hown.2 with ⟨rfl,h0⟩ | ⟨g,cap,cur,rfl,hbase,hh,h1,h2,h3,h4⟩
 ·have hx:xs=[]:=HN.out.1 rfl;subst hx
  go_wp2_with fail;refine(Tryz.slices_Sort_int_none _ _ _).mono ?_;rintro e w2 ⟨rfl,rfl⟩;go_wp2
  go_ret;exact⟨.slice none 0 0,rfl,by simpa[zeu] using hown,hb⟩
 ·have hH:=hid (holds_of_blockI hh (by simpa using h4));have H3:=hid h3;have H4:=hid h4;have HH:=hid hh;clear h3 h4 hh
  go_wp2_with fail;refine(Tryz.slices_Sort_int g 0 cap xs w1 hH.out (lt_of_block HH.out) oM).mono ?_;rintro e w2 ⟨rfl,nn,os,rfl⟩;have ho:=ownsRow_sortedI (n:=nn) (os:=os) (ss:=xs) (ts:=zeu xs) (zfM xs) hbase HH.out h1 h2 H3.out;have hg:=grownBy_sortedI (w:=w1) (g:=g) (n:=nn) (os:=os) (zeu xs).toArray;have hbb:=hb.grown hg hb.size (fun k e=>by cases e;exact hbase);have HO:=hid ho;clear ho;go_wp2
  go_ret;exact⟨_,rfl,HO.out,hbb⟩
end
section
def ztf (cols cs:List Int):Prop:=cs.Pairwise (·<·)∧∀c,c∈cs↔c∈cols
theorem zgn (zs:List Int) (h:zs.Pairwise (·≤·)):∀m,m≤zs.length→(Lib.compactUpTo zs.toArray m).Pairwise (·<·)∧∀c,c∈Lib.compactUpTo zs.toArray m↔c∈zs.take m
 | 0,_=>⟨List.Pairwise.nil,fun c=>by simp[Lib.compactUpTo]⟩
 | m+1,hm=>by
  obtain⟨h1,h2⟩:=zgn zs h m oM;have hlt:m<zs.length:=oM;have hg:zs.toArray[m]! = zs[m]:=by simp[hlt]
  have ht:zs.take (m+1)=zs.take m++[zs[m]]:=qS hlt;have hpw:=h;rw[←List.take_append_drop (m+1) zs,ht]at hpw;have hle:∀x,x∈zs.take m→x≤zs[m]:=fun x hx=>(List.pairwise_append.1 (List.pairwise_append.1 hpw).1).2.2 x hx _ (pJ.2 rfl);rw[Lib.compactUpTo_succ];by_cases hk:Lib.keeps zs.toArray m=true
  ·rw[if_pos hk,hg,ht];refine⟨List.pairwise_append.2 ⟨h1,List.pairwise_singleton _ _,fun x hx y hy=>?_⟩,fun c=>?_⟩
   ·rw[pJ.1 hy];have hx':=(h2 x).1 hx;have hle':=hle x hx';unfold Lib.keeps at hk;rw[decide_eq_true_eq]at hk;rcases hk with rfl | hne
    ·rw[List.take_zero]at hx';cases hx'
    ·have hm0:0<m:=by
      rcases qy m with rfl | h0
      ·rw[List.take_zero]at hx';cases hx'
      ·exact h0
     have hp:zs.toArray[m-1]! = zs[m-1]:=by simp[show m-1<zs.length by omega]
     rw[hg,hp]at hne
     have htm:zs.take m=zs.take (m-1)++[zs[m-1]]:=by
      have:=qS (show m-1<zs.length by omega)
      rwa [Nat.sub_add_cancel hm0]at this
     have hpw2:=(List.pairwise_append.1 (List.pairwise_append.1 hpw).1).1;rw[htm]at hpw2 hx'
     have hxp:x≤zs[m-1]:=by
      rcases List.mem_append.1 hx' with hx' | hx'
      ·exact(List.pairwise_append.1 hpw2).2.2 x hx' _ (pJ.2 rfl)
      ·rw[pJ.1 hx'];exact Int.le_refl _
     have hpm:zs[m-1]≤zs[m]:=hle _ (by rw[htm];exact List.mem_append_right _ (pJ.2 rfl));omega
   ·rw[List.mem_append,List.mem_append,h2 c]
  ·rw[if_neg hk,qG,ht];refine⟨h1,fun c=>?_⟩;unfold Lib.keeps at hk;rw[decide_eq_true_eq,not_or]at hk;have hm0:0<m:=oM;have hp:zs.toArray[m-1]! = zs[m-1]:=by simp[show m-1<zs.length by omega]
   rw[hg,hp]at hk;have he:zs[m]=zs[m-1]:=by have:=hk.2;omega
   have htm:zs.take m=zs.take (m-1)++[zs[m-1]]:=by
    have:=qS (show m-1<zs.length by omega)
    rwa [Nat.sub_add_cancel hm0]at this
   rw[h2 c,List.mem_append,pJ,he];constructor
   ·exact .inl
   ·rintro (h | rfl)
    ·exact h
    ·rw[htm];exact List.mem_append_right _ (pJ.2 rfl)
theorem zr6 (cols:List Int):ztf cols (Lib.compact (zeu cols)):=by
 have h:=zgn (zeu cols) (zkb cols) (zeu cols).length (qH _);refine⟨h.1,fun c=>?_⟩;have:=h.2 c;rw[qa]at this;exact this.trans (znD cols).mem_iff
end
section
open Go.RowKit _root_.Go.Proofs.Tryz
theorem zj5 {H:Hp} (a:Option Addr) (len cap:Nat):PC prog 186 #[.slice a len cap] H fun r H'=>∃b,r=.func (.func 210) #[] #[.pointer (some ⟨b,0,none⟩)]∧H' b=some [Value.slice a len cap].toArray:=by
 refine BD func186 ntmps186 ?_;refine uR ?_;(first|refine EVL.unbox (1) rfl fun b=>?_|refine EV.unbox (1) rfl fun b=>?_);(first|refine EVL.publish [] [] rfl fun G1 hG1 hb=>?_|refine EV.publish [] [] rfl fun G1 hG1 hb=>?_);refine EVL.fn1 rfl rfl rfl rfl rfl ?_;refine uR ?_;exact⟨b,rfl,hb⟩
theorem zgR {W:World} {base:Nat} {e:TypeId} {size:Nat} {v:Value} {n:Nat} {xs:List Value} (h:W.ownsRow base e size v n xs):∃ow,zaE e size v n xs ow∧znW base W ow:=by
 obtain⟨h1,⟨rfl,rfl⟩ | ⟨g,cap,cur,rfl,hb,hh,hc,hm,hs,ht⟩⟩:=h
 ·exact⟨[],⟨h1,.inl ⟨rfl,rfl,rfl⟩⟩,by simp,fun b T cs h=>by cases h⟩
 ·have hcur:cur.toList=xs++cur.toList.drop (n*size):=by rw[←ht,List.take_append_drop]
  refine⟨[(g,e,xs++cur.toList.drop (n*size))],⟨h1,.inr ⟨g,cap,_,rfl,rfl,by rw[←hcur];simpa using hs,hc,hm⟩⟩,by simp,fun b T cs h=>?_⟩;rw[pJ]at h;cases h;refine⟨hb,?_⟩;rw[←hcur];exact hh
theorem zpz {H:Hp} {b:Nat} {sv:Value} {xs:List Int} (hB:H b=some [sv].toArray) (hs:IL H sv xs) (hl:xs.length≤1000000) :
  PO prog 185 #[.func (.func 210) #[] #[.pointer (some ⟨b,0,none⟩)]] H fun v ow=>zaE 3 1 v xs.length ((zeu xs).map iv) ow:=by
 refine⟨(cO func185),fun W hf hg=>?_⟩;obtain⟨T,fz,hW⟩:=hf b _ hB;obtain⟨a,cap,rfl,hsl,_⟩:=hs.sl hf;have hlt:b<W.heap.size:=(Array.getElem?_eq_some_iff.1 hW).1;refine(znE b _ xs oM W hlt (by rw[cell_of_row W b 0 _ T fz hW];rfl) hsl).mono ?_;rintro e W' ⟨v,rfl,hown,hb⟩;obtain⟨ow,h1,h2⟩:=zgR hown;exact⟨v,ow,rfl,h1,h2,hb⟩
theorem zgo (zs:List Int):(Lib.compact zs).length≤zs.length:=by
 unfold Lib.compact Lib.compactUpTo;rw[qV];exact qI (List.length_filter_le _ _) (by simp)
theorem zmM {H:Hp} {v:Value} {zs:List Int} {ow:Ows} (h:zaE 3 1 v zs.length (zs.map iv) ow) (hl:zs.length≤1000000) :
  PW prog 184 #[v] H ow fun r ow' _=>zaE 3 1 r (Lib.compact zs).length ((Lib.compact zs).map iv) ow':=by
 refine⟨(cO func184),fun W hf hg hL hd=>?_⟩;by_cases h0:zs.length=0
 ·obtain rfl:=qz.1 h0;obtain⟨a,cap,rfl⟩:=h.val;refine(Tryz.slices_Compact_int_empty a cap W).mono ?_;rintro e W' ⟨rfl,rfl⟩;exact⟨_,ow,H,rfl,h,Hp.Le.refl _,hf,Nw.refl _ _ _,zbb.refl _ _,fun j b T cs hj=>⟨(hL j b T cs hj).1,.inr (Ows.bs_mem hj),(hL j b T cs hj).2.1⟩,hd⟩
 ·obtain⟨g,cap,sp,rfl,rfl,hlen,hle,hmax⟩:=h.block oM;obtain⟨hB,hHg,hgg⟩:=hL 0 g _ _ rfl;refine(Tryz.slices_Compact_int_cells g 0 zs.length cap zs W (qH _) oM hle (fun j hj=>?_) (fun j hj=>hB.free _)).mono ?_
  ·rw[hB.at (0+j)];rw[qt];simp[hj,List.getElem?_append]
  rintro e W' ⟨rfl,q,rfl⟩;rw[qa];have hcl:=zgo zs;generalize Lib.compact zs=cs at *
  have hB2:Box (W.drewN q) g (zs.map iv++sp).toArray 3:=hB;have hvl:((cs++List.replicate (zs.length-cs.length) 0).map (Value.int .i64)).length=zs.length:=by simp;omega
  have hB3:=Box.setCells ((cs++List.replicate (zs.length-cs.length) 0).map (Value.int .i64)) 0 (W.drewN q) _ hB2 (by rw[hvl];simp);have hk:=zbH g ((cs++List.replicate (zs.length-cs.length) 0).map (Value.int .i64)) 0 (W.drewN q);have hk2:zbb (fun k=>k=g) W ((W.drewN q).setCells g 0 ((cs++List.replicate (zs.length-cs.length) 0).map (Value.int .i64))):=⟨hk.os,hk.tape,hk.output,hk.size,hk.block⟩
  have hcells:(zs.map iv++sp).take 0++(cs++List.replicate (zs.length-cs.length) 0).map (Value.int .i64)++(zs.map iv++sp).drop (0+((cs++List.replicate (zs.length-cs.length) 0).map (Value.int .i64)).length)=cs.map iv++((List.replicate (zs.length-cs.length) 0).map iv++sp):=by
   rw[hvl,List.take_zero,pM,qt,List.drop_left' (by simp),qn];simp
  rw[hcells]at hB3;refine⟨_,[(g,3,cs.map iv++((List.replicate (zs.length-cs.length) 0).map iv++sp))],H,rfl,⟨by simp,.inr ⟨g,cap,_,rfl,rfl,?_,by omega,hmax⟩⟩,Hp.Le.refl _,fun b c hb=>?_,Nw.refl _ _ _,hk2.mono (fun k _ e=>by subst e;exact Ows.bs_mem (j:=0) rfl),fun j b T cs' hj=>?_,?_⟩
  ·rw[←hlen];simp;omega
  ·obtain⟨T,fz,hW⟩:=hf b c hb;refine⟨T,fz,?_⟩;rw[hk2.block b (hf.lt (by rw[hb];simp)) (fun e=>by subst e;rw[hHg]at hb;cases hb)];exact hW
  ·cases j with
   | zero=>cases (show some (g,3,cs.map iv++((List.replicate (zs.length-cs.length) 0).map iv++sp))=some (b,T,cs') from hj);exact⟨hB3,.inr (Ows.bs_mem (j:=0) rfl),hHg⟩
   | succ j=>simp at hj
  ·intro j j' b' T1 T2 c1 c2 h1 h2
   cases j with
   | zero=>cases j' with
    | zero=>rfl
    | succ j'=>simp at h2
   | succ j=>simp at h1
def zdv (st:Option (Int × Rat × Rat)) (p:Int × Option (Rat × Rat)):Option (Int × Rat × Rat):=match p.2 with
 | none=>st
 | some (a,w)=>match st with
  | none=>some (p.1,a,w)
  | some (c0,a0,w0)=>if w0<w then some (p.1,a,w) else some (c0,a0,w0)
def zb9 (ps:List (Int × Option (Rat × Rat))):Option (Int × Rat × Rat):=ps.foldl zdv none
theorem zmE (ps:List (Int × Option (Rat × Rat))) (p:Int × Option (Rat × Rat)):zb9 (ps++[p])=zdv (zb9 ps) p:=by unfold zb9;rw[List.foldl_append];rfl
theorem zlx {ps:List (Int × Option (Rat × Rat))} {B:Nat} (h:∀p,p∈ps→ht (stW p.2)≤B):∀c a w,zb9 ps=some (c,a,w)→ht w≤B:=by
 have key:∀(qs:List (Int × Option (Rat × Rat))) (st:Option (Int × Rat × Rat)),(∀p,p∈qs→ht (stW p.2)≤B)→(∀c a w,st=some (c,a,w)→ht w≤B)→∀c a w,qs.foldl zdv st=some (c,a,w)→ht w≤B:=by
  intro qs
  induction qs with
  | nil=>intro st _ h2 c a w h3;exact h2 c a w h3
  | cons p qs ih =>
   intro st h1 h2 c a w h3;refine ih (zdv st p) (fun q hq=>h1 q (qk _ hq)) ?_ c a w h3;intro c a w h4;have hp:=h1 p (qf ..);unfold zdv at h4
   cases ho:p.2 with
   | none=>rw[ho]at h4;exact h2 c a w h4
   | some q =>
    obtain⟨a1,w1⟩:=q;rw[ho]at h4 hp
    cases st with
    | none=>cases h4;exact hp
    | some t =>
     obtain⟨c0,a0,w0⟩:=t;dsimp only at h4;split at h4
     ·cases h4;exact hp
     ·cases h4;exact h2 _ _ _ rfl
 exact key ps none h (fun c a w h=>by cases h)
def zrv:Option (Int × Rat × Rat)→List Value
 | none=>.int .i64 0::(zac (zae 0)++zac (zae 0))
 | some (c,a,w)=>.int .i64 c::(zac (zae a)++zac (zae w))
theorem zlC:Tryz.te220.zero=zrv none:=by
 unfold zrv;rw[zaD];rfl
abbrev zus (c:Int) (a w:Rat):Value:=.agg (zrv (some (c,a,w))).toArray
def zt5 (X:List (List Rat)) (wo:List Int→Rat) (rs cols:List Int) (least:Int) (r:Value):Prop :=
 ∃ps:List (Int × Option (Rat × Rat)),ztf cols (ps.map (·.1))∧(∀p,p∈ps→zrs X wo rs (max least 1) p.1 p.2) ∧
  ((zb9 ps=none∧r=.tuple #[.agg (zrv none).toArray,.bool false])∨∃c a w,zb9 ps=some (c,a,w)∧r=.tuple #[zus c a (w-wo rs),.bool true])
theorem zr1 {H:Hp} {kd cl:Int} {sl sv vx vr vc:Value} {X:List (List Rat)} {S:List Int→List Value} {wo:List Int→Rat} {rs cols:List Int} {least:Int} (hg:GOk H kd cl sl sv X.length S wo) (hX:QLL H vx X) (hr:IL H vr rs) (hn:rs.length≤20) (hc:IL H vc cols) (hcn:cols.length≤1000000) (hb:∀x,x∈X→∀q,q∈x→ht q≤100) :
  PC prog 147 #[zas kd cl sl sv,vx,vr,vc,.int .i64 least] H fun r _=>zt5 X wo (exL rs X.length) cols least r:=by
 have hlen:=hg.leng;have hex:=fun (G:Hp) (hG:H.Le G)=>zcq (hr.mono hG) oM X.length;have hel:=zbj rs X.length;have heb:=zcH (rs:=rs) (n:=X.length);generalize exL rs X.length=es at *
 obtain⟨xa,xc,rfl⟩:=hX.val;obtain⟨ra,rc,rfl⟩:=SlC.val hr;obtain⟨ca,cc,rfl⟩:=SlC.val hc;refine BD func147 ntmps147 ?_;refine uR ?_;refine vA (hg.check _ (Hp.Le.refl _)) ?_;rintro r0 G1 rfl hG1
 repeat (first|refine RUN ?_|refine CV (hlen) ?_|refine CE (hlen) ?_)
 rw[show ((X.length:Int) != (X.length:Int))=false from pO _];refine uR ?_;refine vA (hex _ hG1) ?_;intro r1 G2 he hG2;obtain⟨ea,ec,rfl⟩:=SlC.val he;refine uR ?_;refine vA (zj5 ca cols.length cc) ?_;rintro r2 G3 ⟨b,rfl,hb3⟩ hG3;have hc3:=hc.mono (hG1.trans (hG2.trans hG3));refine EVL.callO rfl rfl rfl rfl rfl (zpz hb3 hc3 hcn) ?_;rintro r4 ow4 how4;have hcl:=zfM cols;rw[←hcl]at how4;refine EVL.callW rfl rfl rfl rfl rfl (ow4) ([]) rfl (zmM how4 oM) ?_;rintro r5 ow5 G5 how5 hG5;have hcols:=zr6 cols;have hcl2:=zgo (zeu cols);generalize Lib.compact (zeu cols)=cs at *
 obtain⟨ka,kc,rfl⟩:=how5.val;(first|refine EVL.publishL [] ow5 [] (rfl) how5 fun G6 hG6 hk6=>?_|refine EV.publishL [] ow5 [] (rfl) how5 fun G6 hG6 hk6=>?_);have hk6':IL G6 (.slice ka cs.length kc) cs:=hk6;clear hb3 hc3 how4 how5 hk6;have hall:=hG1.trans (hG2.trans (hG3.trans (hG5.trans hG6)));have hg6:=hg.mono hall;have hX6:=hX.mono hall;have he6:=he.mono (hG3.trans (hG5.trans hG6));refine uR ?_;refine EV.loopK (ι:=List (Int × Option (Rat × Rat))) [1,2,4,5,10,12,38,39] [5,10] (fun ps=>[(13,.v (.bool (zb9 ps).isSome)),(40,.v (.int .i64 (ps.length:Int)))]) (fun ps=>[(12,220,zrv (zb9 ps))]) (fun _=>[]) (fun ps _=>ps.map (·.1)=cs.take ps.length∧ps.length≤cs.length∧∀p,p∈ps→zrs X wo es (max least 1) p.1 p.2) (fun ps=>cs.length-ps.length) ([]) rfl rfl ⟨rfl,rfl,trivial⟩ ⟨by rw[show zb9 []=none from rfl,←zlC];rfl,trivial⟩ rfl (fun _=>rfl) (⟨rfl,qQ _,by simp⟩) ?_;rintro ps G7 hG7 ⟨hps,hpl,hpr⟩;refine uR ?_;refine EV.cond rfl (fun hlt=>?_) (fun hlt=>?_)
 ·simp only[nN]at hlt;obtain⟨c,hci⟩:∃c,cs[ps.length]?=some c:=⟨_,qA hlt⟩;have hcol:=zod (col:=c) (least:=max least 1) (hg6.mono hG7) (hX6.mono hG7) (he6.mono hG7) oM heb hb;refine uR ?_;refine vI ((hk6'.mono hG7)) (ps.length) (rfl) (hlt) ((by rw[qK,hci];rfl)) ?_;refine uR ?_;refine EVL.asI (max least 1) ((by split <;> omega)) ?_;refine vA (hcol) ?_;rintro r6 G8 ⟨o,hR,rfl⟩ hG8;have hln:∀o,(ps++[(c,o)]).length=ps.length+1:=fun o=>by simp
  have wn:IntKind.i64.wrap ((ps.length:Int)+1)=((ps.length+1:Nat):Int):=zab _ oM
  have hmap:∀o,(ps++[(c,o)]).map (·.1)=cs.take (ps++[(c,o)]).length:=fun o=>by
   rw[hln,zan hci,←hps,qn];rfl
  have hmem:∀o,zrs X wo es (max least 1) c o→∀p,p∈ps++[(c,o)]→zrs X wo es (max least 1) p.1 p.2:=fun o h p hp=>by
   rcases List.mem_append.1 hp with hp | hp
   ·exact hpr p hp
   ·rw[pJ.1 hp];exact h
  have hsn:=zmE ps (c,o);have hwb:ht (stW o)≤200001:=by obtain⟨_,_,_,h⟩:=hR;exact h
  have hwo:∀c a w,zb9 ps=some (c,a,w)→ht w≤200001:=zlx fun p hp=>by obtain⟨_,_,_,h⟩:=hpr p hp;exact h
  cases o with
  | none =>
   have hsame:zb9 (ps++[(c,none)])=zb9 ps:=hsn;refine uR ?_;refine⟨ps++[(c,none)],⟨by rw[hsame];rfl,by rw[hln,wn];rfl,trivial⟩,sB,⟨by rw[hsame];rfl,trivial⟩,sB,rfl,⟨hmap _,by rw[hln];omega,hmem _ hR⟩,by assumption,by rw[hln];omega⟩
  | some q =>
   obtain⟨a,w⟩:=q
   cases hst:zb9 ps with
   | none =>
    have hnew:zb9 (ps++[(c,some (a,w))])=some (c,a,w):=by rw[hsn,hst];rfl
    refine uR ?_;refine⟨ps++[(c,some (a,w))],⟨by rw[hnew];rfl,by rw[hln,wn];rfl,trivial⟩,sB,⟨by rw[hnew];rfl,trivial⟩,sB,rfl,⟨hmap _,by rw[hln];omega,hmem _ hR⟩,by assumption,by rw[hln];omega⟩
   | some t =>
    obtain⟨c0,a0,w0⟩:=t;have hcmp:=zeI w w0 (zaL (show ht w≤200001 from hwb) oM) (zaL (hwo _ _ _ hst) oM)
    repeat (first|refine RUN ?_|refine CV (hcmp) ?_|refine CE (hcmp) ?_)
    by_cases hlt2:w0<w
    ·have hnew:zb9 (ps++[(c,some (a,w))])=some (c,a,w):=by rw[hsn,hst];exact if_pos hlt2
     rw[qD (zeX.2 hlt2)];refine uR ?_;refine⟨ps++[(c,some (a,w))],⟨by rw[hnew];rfl,by rw[hln,wn];rfl,trivial⟩,sB,⟨by rw[hnew];rfl,trivial⟩,sB,rfl,⟨hmap _,by rw[hln];omega,hmem _ hR⟩,by assumption,by rw[hln];omega⟩
    ·have hnew:zb9 (ps++[(c,some (a,w))])=some (c0,a0,w0):=by rw[hsn,hst];exact if_neg hlt2
     rw[qC (fun h=>hlt2 (zeX.1 h))];refine uR ?_;refine⟨ps++[(c,some (a,w))],⟨by rw[hnew];rfl,by rw[hln,wn];rfl,trivial⟩,sB,⟨by rw[hnew];rfl,trivial⟩,sB,rfl,⟨hmap _,by rw[hln];omega,hmem _ hR⟩,by assumption,by rw[hln];omega⟩
 ·simp only[nN]at hlt;have hpe:ps.length=cs.length:=oM;have hcs:ps.map (·.1)=cs:=by rw[hps,hpe,qa]
  rw[←hcs]at hcols;have hwo:∀c a w,zb9 ps=some (c,a,w)→ht w≤200001:=zlx fun p hp=>by obtain⟨_,_,_,h⟩:=hpr p hp;exact h
  cases hst:zb9 ps with
  | none =>
   refine uR ?_;exact⟨ps,hcols,hpr,.inl ⟨hst,by rw[←zlC];rfl⟩⟩
  | some t =>
   obtain⟨c,a,w⟩:=t;have hsub:=zml w (wo es) (zaL (hwo _ _ _ hst) oM) (zaL (hg.small es oM heb) oM);have hlS:=hg.len es;refine uR ?_;refine EVL.call rfl rfl rfl rfl rfl (hg6.whole _ hG7 _ es (he6.mono hG7) oM heb) ?_;rintro r6 G8 rfl hG8;obtain⟨sn,scs,ssq,sq,hs12,hS⟩:=hg.form es;obtain⟨c0,c1,c2,c3,c4,c5,c6,c7,c8,c9,c10,c11,rfl⟩:=ztA hs12;rw[hS];refine uR ?_;(first|refine EVL.unbox (19) rfl fun b=>?_|refine EV.unbox (19) rfl fun b=>?_);(first|refine EVL.swapOw ([(b,253,S es)]) ([]) ((by rw[hS];rfl)) ?_|refine EV.swapOw ([(b,253,S es)]) ([]) ((by rw[hS];rfl)) ?_);have hw1:=fun G':Hp=>hg.worth G' b 0 253 [] [] es rfl oM heb;simp only[qG]at hw1;clear hS;refine uR ?_;apply EV.drawn 7 kR kR;intro xv yw;(repeat (first|refine' DD ?_|refine' vN ?_|refine' vF ?_));(refine' DJ.callR rfl rfl rfl rfl rfl 0 rfl (by simp[hlS]) (cO func180) (fun G'=>hw1 G') ?_;rotate_left);(repeat (first|refine' DD ?_|(refine' DC (hsub) (h:=?_);rotate_left)));(refine DJ.nil (fun G9 hG9 hF9=>?_);(case hS|hS2=>rfl));refine uR ?_;exact⟨ps,hcols,hpr,.inr ⟨c,a,w,hst,rfl⟩⟩
def RRs (H:Hp) (vs:List Value) (X:List (List Rat)):Prop:=vs.length=X.length∧∀(j:Nat) (u:Value) (x:List Rat),vs[j]?=some u→X[j]?=some x→RL H u x
theorem RRs.mono {H G:Hp} {vs:List Value} {X:List (List Rat)} (h:RRs H vs X) (k:H.Le G):RRs G vs X:=⟨h.1,fun j u x e1 e2=>(h.2 j u x e1 e2).mono k⟩
theorem RRs.nil (H:Hp):RRs H [] []:=⟨rfl,fun j u x h=>by simp at h⟩
theorem RRs.snoc {H:Hp} {vs:List Value} {X:List (List Rat)} {u:Value} {x:List Rat} (h:RRs H vs X) (k:RL H u x):RRs H (vs++[u]) (X++[x]):=zpO h k
def RLL (H:Hp) (v:Value) (X:List (List Rat)):Prop:=∃vs:List Value,RRs H vs X∧SlC H v X.length 1 vs
theorem RLL.mono {H G:Hp} {v:Value} {X:List (List Rat)} (h:RLL H v X) (k:H.Le G):RLL G v X:=by
 obtain⟨vs,h1,h2⟩:=h;exact⟨vs,h1.mono k,h2.mono k⟩
theorem RLL.val {H:Hp} {v:Value} {X:List (List Rat)} (h:RLL H v X):∃a c,v=.slice a X.length c:=by
 obtain⟨vs,_,h2⟩:=h;exact SlC.val h2
theorem RRs.at {H:Hp} {vs:List Value} {X:List (List Rat)} (h:RRs H vs X) {j:Nat} {x:List Rat} (hj:X[j]?=some x):∃a c,vs[j]?=some (.slice a x.length c)∧RL H (.slice a x.length c) x:=by
 obtain⟨hl,_⟩:=qE.1 hj;obtain⟨u,hu⟩:∃u,vs[j]?=some u:=⟨_,qA (by rw[h.1];exact hl)⟩;have hq:=h.2 j u x hu hj;obtain⟨a,c,rfl⟩:=hq.val;exact⟨a,c,hu,hq⟩
def zfS (l:List Int) (n w:Nat):List (List Rat):=(List.range n).map fun i=>zj3 (l.drop (min l.length (i*w))) w
theorem zg6 (l:List Int) (n w:Nat):(zfS l n w).length=n:=by simp[zfS]
theorem zq3 (l:List Int) {n w i:Nat} (h:i<n):(zfS l n w)[i]?=some (zj3 (l.drop (min l.length (i*w))) w):=by
 unfold zfS;rw[qK,List.getElem?_range h];rfl
theorem IL.drop {H:Hp} {a:Option Addr} {cap:Nat} {l:List Int} (h:IL H (.slice a l.length cap) l) (k:Nat) (hk:k≤l.length):IL H (.slice (if cap=k then a else a.map (·.add (k*1))) (l.length-k) (cap-k)) (l.drop k):=by
 have hs:SlC H (.slice a l.length cap) l.length 1 (l.map iv):=h;have:=hs.sub k l.length hk (qH _) (SlN.le h);unfold IL SlN;rw[qp,List.map_drop];rw[Nat.mul_one,Nat.mul_one,qO (by simp)]at this;rw[Nat.mul_one];exact this
theorem zsL {H:Hp} {v:Value} {l:List Int} (h:IL H v l) (hb:∀z,z∈l → -9223372036854775808≤z∧z<9223372036854775808) (n w:Nat) (hn:n≤1000) (hw:w≤1000):PC prog 23 #[v,.int .i64 (n:Int),.int .i64 (w:Int)] H fun r H'=>RLL H' r (zfS l n w):=by
 obtain⟨a,cap,rfl⟩:=SlC.val h;have hcap:l.length≤cap:=SlN.le h;refine BD func23 ntmps23 ?_;refine uR ?_;refine EV.loopK (ι:=Nat × List Value × Value × Ows) [0,1,2] [] (fun q=>[(7,.v q.2.2.1),(8,.v (.int .i64 (q.1:Int)))]) (fun _=>[]) (fun q=>q.2.2.2) (fun q G=>q.1≤n∧RRs G q.2.1 ((zfS l n w).take q.1)∧zaE 25 1 q.2.2.1 q.1 q.2.1 q.2.2.2) (fun q=>n-q.1) ((0,[],.slice none 0 0,[])) rfl rfl ⟨rfl,rfl,trivial⟩ trivial rfl (fun _=>rfl) (⟨qQ _,RRs.nil _,zaE.nil _ _⟩) ?_;rintro⟨i,vs,u,ow⟩ G1 hG1 ⟨hi,hvs,hown⟩;dsimp only at hi hvs hown;obtain⟨wa,wc,rfl⟩:=hown.val;refine uR ?_;refine EV.cond rfl (fun hlt=>?_) (fun hlt=>?_)
 ·simp only[nN]at hlt;have hk:i*w≤1000*1000:=Nat.mul_le_mul oM hw
  have hwr:IntKind.i64.wrap ((i:Int)*(w:Int))=((i*w:Nat):Int):=by
   rw[←Int.natCast_mul];generalize i*w=k at *;rw[pK];omega
  have hrow:=zq3 l (w:=w) hlt;generalize i*w=k at *
  have hd:=IL.drop (h.mono hG1) (min l.length k) (Nat.min_le_left _ _);have hrp:=zpi hd (fun z hz=>hb z (List.mem_of_mem_drop hz)) w oM;refine uR ?_;rw[hwr];refine EVL.asI ((min l.length k:Nat)) ((by split <;> omega)) ?_;refine EVL.slc tO rfl rfl rfl rfl rfl rfl rfl rfl (min l.length k) l.length (.inr ⟨_,IntKind.i64,rfl,rfl⟩) (.inl ⟨rfl,rfl⟩) (Nat.min_le_left _ _) hcap hcap ?_;refine uR ?_;refine vA (hrp) ?_;rintro r G2 hr hG2;obtain⟨ra,rc,rfl⟩:=hr.val;refine uR ?_;refine EVL.app1 tO rfl rfl rfl rfl rfl rfl rfl rfl rfl rfl rfl rfl rfl rfl rfl rfl rfl rfl rfl (fun _=>rfl) (ow) ([]) ((qG _).symm) (hown) oM fun _=>?_;intro v' ow' hown';refine uR ?_;refine⟨(i+1,vs++[_],v',ow'),⟨rfl,?_,trivial⟩,sB,trivial,trivial,qG _,⟨hlt,by rw[zan hrow];exact(hvs.mono hG2).snoc hr,hown'⟩,hG2,by dsimp only;omega⟩;rw[zab i (by omega)];rfl
 ·simp only[nN]at hlt;obtain rfl:i=n:=oM;rw[qO (by rw[zg6];omega)]at hvs;(first|refine EVL.publishL [] ow [] ((qG _).symm) hown fun G2 hG2 hs=>?_|refine EV.publishL [] ow [] ((qG _).symm) hown fun G2 hG2 hs=>?_);refine uR ?_;exact⟨vs,hvs.mono hG2,by rw[zg6];exact hs⟩
theorem zov {H:Hp} {v:Value} {X:List (List Rat)} (h:RLL H v X) (hn:X.length≤1000000) (hx:∀x,x∈X→x.length≤1000000∧∀q,q∈x→rq q):PC prog 28 #[v] H fun r H'=>QLL H' r X:=by
 obtain⟨a,cap,rfl⟩:=h.val;refine BD func28 ntmps28 ?_;refine uR ?_;refine EV.loopK (ι:=Nat × List Value × Value × Ows) [0] [] (fun q=>[(3,.v q.2.2.1),(4,.v (.int .i64 (q.1:Int)))]) (fun _=>[]) (fun q=>q.2.2.2) (fun q G=>q.1≤X.length∧QVs G q.2.1 (X.take q.1)∧zaE 59 1 q.2.2.1 q.1 q.2.1 q.2.2.2) (fun q=>X.length-q.1) ((0,[],.slice none 0 0,[])) rfl rfl ⟨rfl,rfl,trivial⟩ trivial rfl (fun _=>rfl) (⟨qQ _,QVs.nil _,zaE.nil _ _⟩) ?_;rintro⟨i,vs,u,ow⟩ G1 hG1 ⟨hi,hvs,hown⟩;dsimp only at hi hvs hown;obtain⟨wa,wc,rfl⟩:=hown.val;refine uR ?_;refine EV.cond rfl (fun hlt=>?_) (fun hlt=>?_)
 ·simp only[nN]at hlt;obtain⟨x,hxi⟩:=gE hlt;have hxb:=hx x (qF hxi);obtain⟨us,hus,hs⟩:=h.mono hG1;obtain⟨a1,c1,hu1,hR⟩:=hus.at hxi;have hin:=zlP hR oM hxb.2;refine uR ?_;refine vI (hs) (i) (rfl) (hlt) (hu1) ?_;refine uR ?_;refine vA (hin) ?_;rintro r G2 hr hG2;obtain⟨ra,rc,rfl⟩:=SlC.val hr;refine uR ?_;refine EVL.app1 tO rfl rfl rfl rfl rfl rfl rfl rfl rfl rfl rfl rfl rfl rfl rfl rfl rfl rfl rfl (fun _=>rfl) (ow) ([]) ((qG _).symm) (hown) oM fun _=>?_;intro v' ow' hown';refine uR ?_;refine⟨(i+1,vs++[_],v',ow'),⟨rfl,?_,trivial⟩,sB,trivial,trivial,qG _,⟨hlt,by rw[zan hxi];exact(hvs.mono hG2).snoc hr,hown'⟩,hG2,by dsimp only;omega⟩;rw[zab i (by omega)];rfl
 ·simp only[nN]at hlt;obtain rfl:i=X.length:=oM;rw[qa]at hvs;(first|refine EVL.publishL [] ow [] ((qG _).symm) hown fun G2 hG2 hs=>?_|refine EV.publishL [] ow [] ((qG _).symm) hown fun G2 hG2 hs=>?_);refine uR ?_;exact⟨vs,hvs.mono hG2,hs⟩
def zjB (key:Int→Rat) (m:List Int):Nat→List Rat
 | 0=>[]
 | j+1=>zjB key m j++if key (m.getD j 0)<key (m.getD (j+1) 0) then [zeA key m j] else []
end
section
theorem zju (m o:Rat):∀l:List Rat,zaJ (zdx o l.reverse)=zaJ (zdx m l.reverse)+2*(m-o)*(zaJ l.reverse-((l.length:Int):Rat)*m)+((l.length:Int):Rat)*((m-o)*(m-o))
 | []=>by
  rw[show zaJ (zdx o ([]:List Rat).reverse)=0 from rfl,show zaJ (zdx m ([]:List Rat).reverse)=0 from rfl,show zaJ ([]:List Rat).reverse=0 from rfl,show (((([]:List Rat).length:Int)):Rat)=0 from rfl];grind
 | x::l=>by
  have ih:=zju m o l
  have e:(((x::l).length:Int):Rat)=((l.length:Int):Rat)+1:=by
   rw[qR,Int.natCast_add,Rat.intCast_add];rfl
  rw[List.reverse_cons,zgt,zgt,zbL,ih,e];generalize zaJ (zdx m l.reverse)=A;generalize zaJ l.reverse=B;generalize ((l.length:Int):Rat)=N;grind
theorem zke (a:Rat):0≤a*a:=by
 rcases (Rat.le_total:0≤a∨a≤0) with h | h
 ·exact Rat.mul_nonneg h h
 ·have:0 ≤ -a:=by grind
  have:=Rat.mul_nonneg this this;grind
end
section
structure POk (wo cost:List Int→Rat):Prop where
 wperm:∀l m:List Int,l.Perm m→wo l=wo m
 cperm:∀l m:List Int,l.Perm m→cost l=cost m
 split:∀l m:List Int,cost (l++m)+wo (l++m)=cost l+wo l+(cost m+wo m)
 conv:∀l m:List Int,wo (l++m)≤wo l+wo m
theorem POk.gain {wo cost:List Int→Rat} (h:POk wo cost) {rs l m:List Int} (hp:(l++m).Perm rs):cost rs-cost l-cost m=wo l+wo m-wo rs:=by
 have h1:=h.split l m;have h2:=h.wperm _ _ hp;have h3:=h.cperm _ _ hp;rw[h2,h3]at h1;grind
theorem zkT {p:Int→Bool} {m:List Int} {k:Nat} (h1:∀x,x∈m.take k→p x=true) (h2:∀x,x∈m.drop k→p x=false):m.filter p=m.take k:=by
 rw[←List.take_append_drop k m,List.filter_append,List.filter_eq_self.2 h1,List.filter_eq_nil_iff.2 (fun x hx=>by rw[h2 x hx];decide),qG,List.take_append_drop]
theorem zkR {p:Int→Bool} {m:List Int} {k:Nat} (h1:∀x,x∈m.take k→p x=false) (h2:∀x,x∈m.drop k→p x=true):m.filter p=m.drop k:=by
 conv=>lhs;rw[←List.take_append_drop k m]
 rw[List.filter_append,List.filter_eq_nil_iff.2 (fun x hx=>by rw[h1 x hx];decide),List.filter_eq_self.2 h2,pM]
theorem ztB {a b:Rat} (h:a<b):a<(a+b) / 2∧(a+b) / 2<b:=by
 constructor <;> grind
theorem ziw {m:List Int} {j:Nat} {x:Int} (h:x∈m.take (j+1)):∃i,i≤j∧i<m.length∧m.getD i 0=x:=by
 obtain⟨i,hi,rfl⟩:=List.mem_iff_getElem.1 h;rw[qP]at hi;exact⟨i,by omega,by omega,by simp[show i<m.length by omega]⟩
theorem ziv {m:List Int} {j:Nat} {x:Int} (h:x∈m.drop (j+1)):∃i,j+1≤i∧i<m.length∧m.getD i 0=x:=by
 obtain⟨i,hi,rfl⟩:=List.mem_iff_getElem.1 h;rw[qp]at hi;exact⟨j+1+i,by omega,by omega,by simp[show j+1+i<m.length by omega]⟩
theorem zf3 {key:Int→Rat} {m:List Int} (h:zht key m) {i j:Nat} (hij:i≤j) (hj:j<m.length):key (m.getD i 0)≤key (m.getD j 0):=by
 rcases Nat.lt_or_eq_of_le hij with hlt | rfl
 ·have:=(List.pairwise_iff_getElem.1 h) i j (by simp;omega) (by simp;omega) hlt;simpa[show i<m.length by omega,hj] using this
 ·exact Rat.le_refl
theorem zf4 {X:List (List Rat)} {col:Int} {rs m:List Int} (hp:m.Perm rs) (hr:zht (zbv X col) m) (ha:∀r,r∈rs→zcI X col r=true) {j:Nat} (hj:j+1<m.length) (hlt:zbv X col (m.getD j 0)<zbv X col (m.getD (j+1) 0)) :
  (zbe X col (zeA (zbv X col) m j) rs).Perm (m.take (j+1))∧(zay X col (zeA (zbv X col) m j) rs).Perm (m.drop (j+1)):=by
 obtain⟨h1,h2⟩:=ztB hlt;have hm:∀r,r∈m→zcI X col r=true:=fun r hr=>ha r (hp.mem_iff.1 hr)
 have hlo:∀x,x∈m.take (j+1)→zbv X col x≤zeA (zbv X col) m j:=fun x hx=>by
  obtain⟨i,hi,_,rfl⟩:=ziw hx;exact Rat.le_trans (zf3 hr hi oM) (Rat.le_of_lt h1)
 have hhi:∀x,x∈m.drop (j+1)→¬zbv X col x≤zeA (zbv X col) m j:=fun x hx=>by
  obtain⟨i,hi,hil,rfl⟩:=ziv hx;have:=zf3 hr hi hil;intro k;generalize zbv X col (m.getD i 0)=x at *
  unfold zeA at k;grind
 constructor
 ·refine(hp.symm.filter _).trans ?_;rw[zkT (k:=j+1)]
  ·intro x hx;rw[hm x (List.mem_of_mem_take hx),qD (hlo x hx)];rfl
  ·intro x hx;rw[hm x (List.mem_of_mem_drop hx),qC (hhi x hx)];rfl
 ·refine(hp.symm.filter _).trans ?_;rw[zkR (k:=j+1)]
  ·intro x hx;rw[hm x (List.mem_of_mem_take hx),qD (hlo x hx)];rfl
  ·intro x hx;rw[hm x (List.mem_of_mem_drop hx),qC (hhi x hx)];rfl
theorem zeG {key:Int→Rat} {least:Int} {m:List Int} {j:Nat}:zdw key least m j=true↔least≤((j+1:Nat):Int)∧least≤((m.length-(j+1):Nat):Int)∧key (m.getD j 0)<key (m.getD (j+1) 0):=by
 unfold zdw;simp only[Bool.and_eq_true,decide_eq_true_eq];exact and_assoc
theorem zin {key:Int→Rat} {wo:List Int→Rat} {least:Int} {m:List Int}:∀{n:Nat} {a w:Rat},zdp key wo least m n=some (a,w)→∃j,j<n∧zdw key least m j=true∧a=zeA key m j∧w=zfv wo m j
 | 0,a,w,h=>by cases h
 | n+1,a,w,h=>by
  unfold zdp at h;split at h
  ·rename_i hc;split at h
   ·cases h;exact⟨n,Nat.lt_succ_self _,hc,rfl,rfl⟩
   ·rename_i a0 w0 h0;split at h
    ·cases h;exact⟨n,Nat.lt_succ_self _,hc,rfl,rfl⟩
    ·cases h;obtain⟨j,h1,h2⟩:=zin h0;exact⟨j,by omega,h2⟩
  ·obtain⟨j,h1,h2⟩:=zin h;exact⟨j,by omega,h2⟩
theorem zim {key:Int→Rat} {wo:List Int→Rat} {least:Int} {m:List Int}:∀{n j:Nat},j<n→zdw key least m j=true→∃a w,zdp key wo least m n=some (a,w)∧zfv wo m j≤w
 | 0,j,h,_=>by omega
 | n+1,j,h,hc=>by
  unfold zdp;by_cases hjn:j=n
  ·subst hjn;rw[if_pos hc];split
   ·exact⟨_,_,rfl,Rat.le_refl⟩
   ·rename_i a0 w0 _;by_cases hw:w0<zfv wo m j
    ·rw[if_pos hw];exact⟨_,_,rfl,Rat.le_refl⟩
    ·rw[if_neg hw];exact⟨_,_,rfl,Rat.not_lt.1 hw⟩
  ·obtain⟨a,w,h1,h2⟩:=zim (wo:=wo) (show j<n by omega) hc;split
   ·rw[h1];dsimp only;split
    ·rename_i hw;exact⟨_,_,rfl,Rat.le_trans h2 (Rat.le_of_lt hw)⟩
    ·exact⟨_,_,rfl,h2⟩
   ·exact⟨a,w,h1,h2⟩
theorem zn1 {ps:List (Int × Option (Rat × Rat))} {c:Int} {a w:Rat} (h:zb9 ps=some (c,a,w)):(c,some (a,w))∈ps:=by
 have key:∀(qs pre:List (Int × Option (Rat × Rat))) (st:Option (Int × Rat × Rat)),(∀c a w,st=some (c,a,w)→(c,some (a,w))∈pre)→∀c a w,qs.foldl zdv st=some (c,a,w)→(c,some (a,w))∈pre++qs:=by
  intro qs
  induction qs with
  | nil=>intro pre st h2 c a w h3;rw[qG];exact h2 c a w h3
  | cons p qs ih =>
   intro pre st h2 c a w h3
   have:=ih (pre++[p]) (zdv st p) (fun c a w h4=>by
    obtain⟨pc,po⟩:=p;unfold zdv at h4
    cases po with
    | none=>exact List.mem_append_left _ (h2 c a w h4)
    | some q =>
     obtain⟨a1,w1⟩:=q
     cases st with
     | none=>cases h4;simp
     | some t =>
      obtain⟨c0,a0,w0⟩:=t;dsimp only at h4;split at h4
      ·cases h4;simp
      ·cases h4;exact List.mem_append_left _ (h2 _ _ _ rfl)) c a w h3
   simpa using this
 have:=key ps [] none (fun c a w h=>by cases h) c a w h;simpa using this
theorem zn0 {ps:List (Int × Option (Rat × Rat))} {c:Int} {a w:Rat} (h:(c,some (a,w))∈ps):∃c' a' w',zb9 ps=some (c',a',w')∧w≤w':=by
 have key:∀(qs:List (Int × Option (Rat × Rat))) (st:Option (Int × Rat × Rat)),((c,some (a,w))∈qs∨∃c' a' w',st=some (c',a',w')∧w≤w')→∃c' a' w',qs.foldl zdv st=some (c',a',w')∧w≤w':=by
  intro qs
  induction qs with
  | nil =>
   rintro st (h | h)
   ·cases h
   ·exact h
  | cons p qs ih =>
   intro st h;refine ih (zdv st p) ?_
   have step:(p=(c,some (a,w))∨∃c' a' w',st=some (c',a',w')∧w≤w')→∃c' a' w',zdv st p=some (c',a',w')∧w≤w':=by
    rintro (rfl | ⟨c',a',w',rfl,hw⟩)
    ·unfold zdv
     cases st with
     | none=>exact⟨_,_,_,rfl,Rat.le_refl⟩
     | some t =>
      obtain⟨c0,a0,w0⟩:=t;dsimp only;split
      ·exact⟨_,_,_,rfl,Rat.le_refl⟩
      ·rename_i hn;exact⟨_,_,_,rfl,Rat.not_lt.1 hn⟩
    ·obtain⟨pc,po⟩:=p;unfold zdv
     cases po with
     | none=>exact⟨_,_,_,rfl,hw⟩
     | some q =>
      obtain⟨a1,w1⟩:=q;dsimp only;split
      ·rename_i hn;exact⟨_,_,_,rfl,Rat.le_trans hw (Rat.le_of_lt hn)⟩
      ·exact⟨_,_,_,rfl,hw⟩
   rcases h with h | h
   ·rcases List.mem_cons.1 h with h | h
    ·exact .inr (step (.inl h.symm))
    ·exact .inl h
   ·exact .inr (step (.inr h))
 exact key ps none (.inl h)
theorem zgC {key:Int→Rat} {m:List Int}:∀{n:Nat} {t:Rat},t∈zjB key m n→∃j,j<n∧key (m.getD j 0)<key (m.getD (j+1) 0)∧t=zeA key m j
 | 0,t,h=>by cases h
 | n+1,t,h=>by
  unfold zjB at h;rcases List.mem_append.1 h with h | h
  ·obtain⟨j,h1,h2⟩:=zgC h;exact⟨j,by omega,h2⟩
  ·split at h
   ·rename_i hlt;exact⟨n,Nat.lt_succ_self _,hlt,pJ.1 h⟩
   ·cases h
section
variable {X:List (List Rat)} {wo cost:List Int→Rat} {rs cols:List Int} {L:Int} {ps:List (Int × Option (Rat × Rat))} (hp:POk wo cost) (hcol:ztf cols (ps.map (·.1))) (hps:∀p,p∈ps→zrs X wo rs L p.1 p.2)
include hp hcol hps
end
end
section
theorem zkg {l m:List Rat} (h:l.Perm m):zaJ l=zaJ m:=by
 induction h with
 | nil=>rfl
 | cons x _ ih=>rw[zaH,zaH,ih]
 | swap x y l=>rw[zaH,zaH,zaH,zaH];grind
 | trans _ _ h1 h2=>rw[h1,h2]
theorem zhd (l m:List Rat):zaJ (l++m)=zaJ l+zaJ m:=by
 induction l with
 | nil=>rw[pM,zd1];grind
 | cons x l ih=>rw[List.cons_append,zaH,zaH,ih];grind
theorem zdI {n:Nat} (h0:n≠0):((n:Int):Rat)≠0:=zdT h0
theorem ziK {n:Nat} (h0:n≠0):0<((n:Int):Rat):=by
 have h1:((0:Int):Rat)≤((n:Int):Rat):=Rat.intCast_le_intCast.2 oM;have h2:=zdI h0;have h3:((0:Int):Rat)=0:=rfl;rw[h3]at h1;rcases Rat.le_iff_lt_or_eq.1 h1 with h | h
 ·exact h
 ·exact absurd h.symm h2
theorem zuq (a b:Rat) (x y:Nat) (hx:x=0→a=0) (hy:y=0→b=0):(a+b)*(a+b) / (((x+y:Nat):Int):Rat)≤a*a / ((x:Int):Rat)+b*b / ((y:Int):Rat):=by
 by_cases hx0:x=0
 ·subst hx0;rw[hx rfl,qt,show ((((0:Nat):Int)):Rat)=0 from rfl,zaV,Rat.zero_add,Rat.zero_add];exact Rat.le_refl
 by_cases hy0:y=0
 ·subst hy0;rw[hy rfl,qY,show ((((0:Nat):Int)):Rat)=0 from rfl,zaV,Rat.add_zero,Rat.add_zero];exact Rat.le_refl
 have h1:=zdI hx0;have h2:=zdI hy0;have h3:=zdI (n:=x+y) oM;have p1:=ziK hx0;have p2:=ziK hy0;have p3:=ziK (n:=x+y) oM;have e:(((x+y:Nat):Int):Rat)=((x:Int):Rat)+((y:Int):Rat):=by rw[Int.natCast_add,Rat.intCast_add]
 rw[e]at h3 p3 ⊢;generalize ((x:Int):Rat)=u at *
 generalize ((y:Int):Rat)=v at *
 have key:a*a / u+b*b / v-(a+b)*(a+b) / (u+v)=(a*v-b*u)*(a*v-b*u) / (u*v*(u+v)):=by grind
 have hn:0≤(a*v-b*u)*(a*v-b*u) / (u*v*(u+v)):=by
  have h5:=zke (a*v-b*u);have h6:0<u*v*(u+v):=Rat.mul_pos (Rat.mul_pos p1 p2) p3;rw[Rat.div_def];exact Rat.mul_nonneg h5 (Rat.le_of_lt (Rat.inv_pos.2 h6))
 grind
def zhF (vals:List Rat) (l:List Int):Rat:=zaJ (zdx (zb5 (atR vals l)) (atR vals l))
def zgr (ls:List Int) (l:List Int):Rat:=zfP (atI ls l)
theorem zuo (L:List Rat):zaJ (zdx (zb5 L) L)+zaJ L*zaJ L / ((L.length:Int):Rat)=zaJ (zdx 0 L):=by
 by_cases h0:L.length=0
 ·obtain rfl:=qz.1 h0;show zaJ []+zaJ []*zaJ [] / ((((([]:List Rat).length:Nat):Int)):Rat)=zaJ [];rw[zd1,show ((((([]:List Rat).length:Nat):Int)):Rat)=0 from rfl,zaV,Rat.add_zero]
 ·have h:=zju (zb5 L) 0 L.reverse;rw[List.reverse_reverse,List.length_reverse]at h;have hn:=zdI h0;have hm:zb5 L=zaJ L / ((L.length:Int):Rat):=rfl;rw[h];generalize zaJ (zdx (zb5 L) L)=A;rw[hm];generalize ((L.length:Int):Rat)=N at *
  generalize zaJ L=S at *
  grind
theorem zuB (vals:List Rat):POk (woV vals) (zhF vals):=by
 have hpm:∀l m:List Int,l.Perm m→(atR vals l).Perm (atR vals m):=fun l m h=>h.map _
 have hw:∀l m:List Int,l.Perm m→woV vals l=woV vals m:=fun l m h=>by
  unfold woV;rw[zkg (hpm l m h),h.length_eq]
 have hf:∀l:List Int,zhF vals l+woV vals l=zaJ (zdx 0 (atR vals l)):=fun l=>by
  have:=zuo (atR vals l);rw[zbP]at this;exact this
 refine⟨hw,fun l m h=>?_,fun l m=>?_,fun l m=>?_⟩
 ·have h1:=hf l;have h2:=hf m;have h3:zaJ (zdx 0 (atR vals l))=zaJ (zdx 0 (atR vals m)):=zkg ((hpm l m h).map _);have h4:=hw l m h;grind
 ·rw[hf,hf,hf,zkB];show zaJ ((atR vals l++atR vals m).map _)=_;rw[qn,zhd];rfl
 ·unfold woV;rw[zkB,zhd,qJ];exact zuq _ _ _ _ (fun h=>by rw[qz.1 h];rfl) (fun h=>by rw[qz.1 h];rfl)
theorem ziY (f g:Nat→Nat) (j:Nat):∀n,((List.range n).map fun k=>f k+if k=j then g k else 0).sum=((List.range n).map f).sum+if j<n then g j else 0
 | 0=>by simp
 | n+1=>by
  rw[List.range_succ,qn,List.sum_append,qn,List.sum_append,ziY f g j n];simp only[qw,List.map_nil,List.sum_cons,List.sum_nil];by_cases h:n=j
  ·subst h;rw[if_pos rfl,if_neg oM,if_pos (by omega)];omega
  ·rw[if_neg h];by_cases h2:j<n
   ·rw[if_pos h2,if_pos (by omega)];omega
   ·rw[if_neg h2,if_neg (by omega)];omega
theorem zpA:∀l:List Int,(∀z,z∈l→0≤z∧z<12)→sqL l=((List.range 12).map fun (k:Nat)=>l.count (k:Int)*l.count (k:Int)).sum
 | [],_=>by decide
 | x::l,h=>by
  have hx:=h x (qf ..);obtain⟨j,rfl⟩:=qh hx.1;have ih:=zpA l (fun z hz=>h z (qk _ hz));have hs:=ziY (fun k=>l.count (k:Int)*l.count (k:Int)) (fun k=>2*l.count (k:Int)+1) j 12;rw[if_pos (by omega)]at hs;rw[ziV,ih,Nat.add_assoc,←hs];congr 1;refine List.map_congr_left fun k _=>?_;rw[List.count_cons];by_cases e:k=j
  ·subst e;rw[if_pos rfl];simp;grind
  ·have e2:¬((j:Int) == (k:Int))=true:=by simp;omega
   rw[if_neg e,if_neg e2];simp
def zkw (ks:List Nat) (f:Nat→Rat):Rat:=zaJ (ks.map f)
theorem zmo (f:Nat→Nat):∀ks:List Nat,((((ks.map f).sum:Nat):Int):Rat)=zkw ks fun k=>(((f k:Nat):Int):Rat)
 | []=>rfl
 | k::ks=>by
  unfold zkw;rw[qw,List.sum_cons,qw,zaH,Int.natCast_add,Rat.intCast_add,zmo f ks];rfl
theorem zpB {f g:Nat→Rat} (h:∀k,f k≤g k):∀ks:List Nat,zkw ks f≤zkw ks g
 | []=>Rat.le_refl
 | k::ks=>by
  have ih:=zpB h ks;unfold zkw at *
  rw[qw,zaH,qw,zaH];have:=h k;grind
theorem zmn (f g:Nat→Rat):∀ks:List Nat,zkw ks (fun k=>f k+g k)=zkw ks f+zkw ks g
 | []=>by unfold zkw;rw[List.map_nil,List.map_nil,List.map_nil,zd1,Rat.add_zero]
 | k::ks=>by
  have ih:=zmn f g ks;unfold zkw at *
  rw[qw,zaH,qw,zaH,qw,zaH,ih];grind
theorem zf5 (f:Nat→Rat) (c:Rat):∀ks:List Nat,zkw ks (fun k=>f k / c)=zkw ks f / c
 | []=>by unfold zkw;rw[List.map_nil,List.map_nil,zd1,Rat.div_def,Rat.zero_mul]
 | k::ks=>by
  have ih:=zf5 f c ks;unfold zkw at *
  rw[qw,zaH,qw,zaH,ih,Rat.div_def,Rat.div_def,Rat.div_def,Rat.add_mul]
theorem zlg {l:List Int} (h:∀z,z∈l→0≤z∧z<12):((sqL l:Int):Rat)=zkw (List.range 12) fun k=>((l.count (k:Int):Int):Rat)*((l.count (k:Int):Int):Rat):=by
 rw[zpA l h,zmo];unfold zkw;congr 1;refine List.map_congr_left fun k _=>?_;rw[Int.natCast_mul,Rat.intCast_mul]
theorem zuA {ls:List Int} (hls:∀z,z∈ls→0≤z∧z<12):POk (woL ls) (zgr ls):=by
 have hpm:∀l m:List Int,l.Perm m→(atI ls l).Perm (atI ls m):=fun l m h=>h.map _
 have hb:∀l:List Int,∀z,z∈atI ls l→0≤z∧z<12:=fun l z hz=>by
  unfold atI at hz;obtain⟨r,_,rfl⟩:=List.mem_map.1 hz;rw[qB]
  cases e:ls[r.toNat]? with
  | none=>exact⟨by decide,by decide⟩
  | some x=>exact hls x (qF e)
 have hw:∀l m:List Int,l.Perm m→woL ls l=woL ls m:=fun l m h=>by
  unfold woL;rw[zmi (hpm l m h),h.length_eq]
 have hf:∀l:List Int,zgr ls l+woL ls l=((l.length:Int):Rat):=fun l=>by
  unfold zgr zfP woL;rw[zb8];grind
 refine⟨hw,fun l m h=>?_,fun l m=>?_,fun l m=>?_⟩
 ·have h1:=hf l;have h2:=hf m;have h4:=hw l m h;rw[h.length_eq]at h1;grind
 ·rw[hf,hf,hf,qJ,Int.natCast_add,Rat.intCast_add]
 ·unfold woL;rw[zlg (hb (l++m)),zlg (hb l),zlg (hb m),←zf5,←zf5,←zf5,←zmn];refine zpB (fun k=>?_) _;rw[zkA,List.count_append,Int.natCast_add,Rat.intCast_add,qJ];exact zuq _ _ _ _ (fun h=>by rw[qz.1 h];rfl) (fun h=>by rw[qz.1 h];rfl)
end
end Go.Proofs.YtjdpljkildlfaaaGreatDoor
