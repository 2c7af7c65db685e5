/- Texts of ours in one: Wd1, Ls7, LsR, Ls8, Wd2, Ha3, Lw8, Lw9, Wd3, Wd4, Ev24, RqL, Wd5, GnX, Tr1, Ev25, Wd6, Tr2, Dice, Draw, RefDice, Dg1, Wd7, Ev26, Tr3, Ev27, Stable, Swaps, RestPlain, Rest, Same, Rising, Tr4, Tr5, TrT, Tr6, Tr7, Tr8, Tr9, Tr10, Tr11, Tr12, Tr13, Wd8, Ev28, Pg1, Tr14, Tr15, Pg2, Od1, Pg3, Tr16, Tr17, Tr18, Tr19, Tr20, Tr21, Tr22, Tr23, Tr24, Tr25, Tr26, Opn, Opn20, Tr27, Tr29, Tr30, Tr31, Pg4, Pg5, Pg6, Pg7, Tg1, Tp0, Tp1, Pg9, Tp2, Tp3, BoP, Ev29, Ev30, Ev32, BoW, BoR, Th1, BoO, BoA, BoC, BoV, BoD, BoE, BoM. -/
import Derived.Test.YteoollbcdpfkpaaGreatDoorO0
import Derived.Test.YteoollbcdpfkpaaGreatDoorO1
import Derived.Test.YteoollbcdpfkpaaGreatDoorO2
import Derived.Test.YteoollbcdpfkpaaGreatDoorO3
import Derived.Test.YteoollbcdpfkpaaGreatDoorRows
import Derived.WalkLawsBesides
import Derived.Deep.LoopGhost
import Derived.Lib.ConvBytes
import Derived.Deep.QuietTactic
import Derived.BigQuiet
import Derived.WalkKit
import Derived.ProofKit
import Derived.OpenShut
set_option linter.unusedVariables false
set_option linter.unusedSimpArgs false
set_option maxHeartbeats 64000000
namespace Go.Proofs.YteoollbcdpfkpaaGreatDoor
section
open Go.RowKit _root_.Go.Proofs.Tryz
def zfq (C:Nat) (l:List Int):List Int:=(List.range C).map fun (k:Nat)=>(l.count (k:Int):Int)
theorem zb6 (C:Nat) (l:List Int):(zfq C l).length=C:=by simp[zfq]
theorem zij {C:Nat} (l:List Int) {k:Nat} (hk:k<C):(zfq C l)[k]?=some (l.count (k:Int):Int):=by
 unfold zfq;rw[qK,List.getElem?_range hk];rfl
theorem zoR {C:Nat} (l:List Int) {k:Nat} (hk:k<C):zfq C (l++[(k:Int)])=(zfq C l).set k ((l.count (k:Int)+1:Nat):Int):=by
 apply List.ext_getElem?;intro j;rw[List.getElem?_set];by_cases hj:j<C
 ·rw[zij _ hj,zij _ hj,ze4,zb6];by_cases e:k=j
  ·subst e;rw[if_pos rfl,if_pos rfl,if_pos hk]
  ·rw[if_neg e,if_neg oM,qY]
 ·rw[qg (by rw[zb6];omega),qg (by rw[zb6];omega),if_neg (by omega)]
theorem zl7 (C:Nat):(List.replicate C [iv 0]).flatten=(zfq C []).map iv++[]:=by
 have:zfq C []=List.replicate C 0:=by
  unfold zfq;apply List.ext_getElem?;intro j;by_cases hj:j<C
  ·rw[qK,List.getElem?_range hj,List.getElem?_replicate,if_pos hj];simp
  ·rw[qg (by simp;omega),qg (by simp;omega)]
 rw[this,qG]
 induction C with
 | zero=>rfl
 | succ n ih =>
  rw[List.replicate_succ,List.flatten_cons,List.replicate_succ,qy,List.singleton_append];congr 1;apply ih;unfold zfq;apply List.ext_getElem?;intro j;by_cases hj:j<n
  ·rw[qK,List.getElem?_range hj,List.getElem?_replicate,if_pos hj];simp
  ·rw[qg (by simp;omega),qg (by simp;omega)]
theorem zpf {H:Hp} {b m:Nat} {l:List Int} {sp:List Value} (h:H b=some (l.map iv++sp).toArray) (hm:l.length=m):IL H (.slice (some ⟨b,0,none⟩) m m) l:=by
 subst hm;refine⟨by simp,.inr ⟨b,0,l.length,_,rfl,qH _,h,fun j x hj=>?_⟩⟩;rw[qv];have hl:=(qE.1 hj).1;rw[List.getElem?_toArray,qM hl];exact hj
theorem znj {H:Hp} {v:Value} {rs:List Int} (hr:IL H v rs) (hn:rs.length≤300) {va:Option Addr} {vc:Nat} {la:Option Addr} {lc:Nat} {ls:List Int} (hv:IL H (.slice la ls.length lc) ls) {C:Nat} (hc:1≤C∧C≤12) (h0:1≤ls.length) (h1:ls.length≤300) (hls:∀z,z∈ls→0≤z∧z<(C:Int)) :
  PC prog 201 #[zbg 1 C (.slice la ls.length lc) (.slice va 0 vc),v] H fun r H'=>IL H' r (zfq C (atI ls (exL rs ls.length))):=by
 have hchk:=zgd (va:=va) (vc:=vc) hv (cl:=(C:Int)) oM h0 h1 hls;have hel:=zdv rs ls.length;have heb:=zd5 (rs:=rs) (n:=ls.length);have hex:=zck hr oM ls.length;generalize exL rs ls.length=es at *
 obtain⟨a,cap,rfl⟩:=SlC.val hr;refine BD func201 ntmps201 ?_
 repeat (first|refine RUN ?_|refine CV (hchk) ?_|refine CE (hchk) ?_)
 refine EVL.make tO rfl rfl rfl rfl rfl rfl rfl rfl rfl (C) (rfl) oM (by rfl) (by rfl) fun b=>?_;refine uR ?_;refine vA (hex) ?_;intro r1 G1 he hG1;obtain⟨ea,ec,rfl⟩:=SlC.val he;(first|refine EVL.swapOw ([(b,3,(zfq C (atI ls (es.take 0))).map iv++[])]) ([]) ((by rw[show atI ls (es.take 0)=[] from rfl,←zl7];rfl)) ?_|refine EV.swapOw ([(b,3,(zfq C (atI ls (es.take 0))).map iv++[])]) ([]) ((by rw[show atI ls (es.take 0)=[] from rfl,←zl7];rfl)) ?_);refine uR ?_;refine EV.loopK (ι:=Nat) [2,5,23,24] [2] (fun i=>[(25,.v (.int .i64 (i:Int)))]) (fun _=>[]) (fun i=>[(b,3,(zfq C (atI ls (es.take i))).map iv++[])]) (fun i _=>i≤es.length) (fun i=>es.length-i) (0) rfl rfl ⟨rfl,trivial⟩ trivial rfl (fun _=>rfl) (qQ _) ?_;rintro i G2 hG2 hi;refine uR ?_;refine EV.cond rfl (fun hlt=>?_) (fun hlt=>?_)
 ·simp only[nN]at hlt;obtain⟨r,hri⟩:=gE hlt;have hb:=heb r (qF hri);obtain⟨R,rfl⟩:=qj hb.1;obtain⟨x,hx⟩:∃x,ls[R]?=some x:=⟨_,qA oM⟩;have hRl:R<ls.length:=oM;have hxb:=hls x (qF hx);obtain⟨k,rfl⟩:=qj hxb.1;have hk:k<C:=oM
  have hsn:atI ls (es.take (i+1))=atI ls (es.take i)++[(k:Int)]:=by
   rw[zan hri];unfold atI;rw[qr,qy,qU,qB,hx];rfl
  have hcl:(atI ls (es.take i)).count (k:Int)≤300:=qI List.count_le_length (by rw[zcC,qP];omega);have hget:=zij (C:=C) (atI ls (es.take i)) hk;have hcn:=zoR (C:=C) (atI ls (es.take i)) hk;rw[←hsn]at hcn;have hlen:=zb6 C (atI ls (es.take i));generalize zfq C (atI ls (es.take i))=cs at *
  generalize (atI ls (es.take i)).count (k:Int)=m at *
  have wm:IntKind.i64.wrap ((m:Int)+1)=((m+1:Nat):Int):=zad m oM;refine uR ?_;refine vI ((he.mono hG2)) (i) (rfl) (hlt) ((by rw[qK,hri];rfl)) ?_;refine uR ?_;refine vI ((hv.mono (hG1.trans hG2))) (R) (rfl) (hRl) ((by rw[qK,hx];rfl)) ?_;refine uR ?_;refine EVL.idxB tO rfl rfl rfl rfl rfl rfl rfl rfl rfl (k) (k*1) (rfl) (hk) (rfl) ?_;refine EVL.loadOwn tO rfl rfl rfl rfl rfl rfl (0) rfl (zge [] hget) rfl rfl ?_;refine uR ?_;rw[wm];refine EVL.idxB tO rfl rfl rfl rfl rfl rfl rfl rfl rfl (k) (k*1) (rfl) (hk) (rfl) ?_;refine EVL.storeOwn tO rfl rfl rfl rfl rfl rfl ([]) ([]) rfl rfl rfl rfl ((by rw[qJ,qV,hlen];show k*1+1≤_;omega)) (zjq [] _ (show k<cs.length by omega)) ?_;refine uR ?_;refine⟨i+1,⟨by rw[zad i (by omega)];rfl,trivial⟩,sB,trivial,sB,by rw[hcn];rfl,hlt,Hp.Le.refl _,by omega⟩
 ·simp only[nN]at hlt;obtain rfl:i=es.length:=oM;rw[qb];(first|refine EVL.publish [] [] rfl fun G3 hG3 hb3=>?_|refine EV.publish [] [] rfl fun G3 hG3 hb3=>?_);refine uR ?_;exact zpf hb3 (zb6 _ _)
def topN (l:List Int):Nat→Nat
 | 0=>0
 | i+1=>if l.getD (topN l i) 0<l.getD i 0 then i else topN l i
theorem zlH (l:List Int):∀i,topN l i<i∨topN l i=0
 | 0=>.inr rfl
 | i+1=>by
  unfold topN;split
  ·exact .inl (Nat.lt_succ_self _)
  ·rcases zlH l i with h | h
   ·exact .inl oM
   ·exact .inr h
theorem zis {l:List Int} {i:Nat} (h:i<l.length):l[i]?=some (l.getD i 0):=by
 rw[qB,qA h];rfl
theorem zmV {H:Hp} {g v w:Value} {l:List Int} (hg:∃kd cl sl sv,g=zbg kd cl sl sv) (hc:PC prog 201 #[g,v] H fun r H'=>IL H' r l) (hn:l.length≤300):PC prog 198 #[g,v] H fun r _=>r=.int .i64 (topN l l.length:Nat):=by
 obtain⟨kd,cl,sl,sv,rfl⟩:=hg;refine BD func198 ntmps198 ?_;refine uR ?_;refine vA (hc) ?_;intro r1 G1 hr hG1;obtain⟨a,cap,rfl⟩:=SlC.val hr;refine uR ?_;refine EV.loopK (ι:=Nat) [6,12,13] [] (fun i=>[(5,.v (.int .i64 (topN l i:Nat))),(14,.v (.int .i64 (i:Int)))]) (fun _=>[]) (fun _=>[]) (fun i _=>i≤l.length) (fun i=>l.length-i) (0) rfl rfl ⟨rfl,rfl,trivial⟩ trivial rfl (fun _=>rfl) (qQ _) ?_;rintro i G2 hG2 hi;refine uR ?_;refine EV.cond rfl (fun hlt=>?_) (fun hlt=>?_)
 ·simp only[nN]at hlt;have hr2:=hr.mono hG2;have ht:=zlH l i;have htl:topN l i<l.length:=oM;have g1:=zis hlt;have g2:=zis htl;have hst:topN l (i+1)=if l.getD (topN l i) 0<l.getD i 0 then i else topN l i:=rfl
  have wn:IntKind.i64.wrap ((i:Int)+1)=((i+1:Nat):Int):=zad i oM;generalize topN l i=tp at *
  generalize l.getD tp 0=x at *
  generalize l.getD i 0=y at *
  refine uR ?_;refine vI (hr2) (i) (rfl) (hlt) ((by rw[qK,g1];rfl)) ?_;refine uR ?_;refine vI (hr2) (tp) (rfl) (htl) ((by rw[qK,g2];rfl)) ?_;refine uR ?_;by_cases h:y>x
  ·rw[qD h];rw[if_pos h]at hst;refine uR ?_;refine⟨i+1,⟨by rw[hst];rfl,by rw[wn];rfl,trivial⟩,sB,trivial,sB,rfl,by omega,Hp.Le.refl _,by omega⟩
  ·rw[qC h];rw[if_neg h]at hst;refine uR ?_;refine⟨i+1,⟨by rw[hst];rfl,by rw[wn];rfl,trivial⟩,sB,trivial,sB,rfl,by omega,Hp.Le.refl _,by omega⟩
 ·simp only[nN]at hlt;obtain rfl:i=l.length:=oM;refine uR ?_;rfl
theorem znk {H:Hp} {v:Value} {va:Option Addr} {vn vc:Nat} {la:Option Addr} {lc:Nat} (h0:1≤vn) (h1:vn≤300):PC prog 201 #[zbg 2 0 (.slice la 0 lc) (.slice va vn vc),v] H fun r H'=>IL H' r []:=by
 have hchk:=zey (va:=va) (vc:=vc) (la:=la) (lc:=lc) h0 h1;refine BD func201 ntmps201 ?_;refine uR ?_;exact⟨rfl,.inl ⟨rfl,_,_,rfl⟩⟩
theorem zrQ {H:Hp} {v:Value} {l:List Rat} (h:QL H v l) (hl:l.length≤12) (hb:∀q,q∈l→sm q):PC prog 105 #[v] H fun r H'=>QL H' r (zc6 l) :=
 (ztL h hl hb).mono fun r H' ⟨m,hm,hp,hr⟩ _=>zcL hp hr ▸ hm
end
section
end
section
open Go.RowKit _root_.Go.Proofs.Tryz
theorem zmi (z:Int) (hz:-9223372036854775808≤z∧z<9223372036854775808):PV prog 22 #[.int .i64 z] (zaa (zgR z)):=by
 have hr:=zix z;refine PV.of_pc ?_;refine BD func22 ntmps22 ?_;refine uR ?_;refine vA (zu1 z hz) ?_;rintro r G hR hG;refine EVL.call rfl rfl rfl rfl rfl (znE hR (zc5 hr oM)) ?_;rintro r G2 rfl hG2;refine uR ?_;rfl
theorem zul {H:Hp} (q:Rat) (hq:rq q) (a b:Int) (h1:-9223372036854775808≤a) (h2:a<9223372036854775808) (h3:-9223372036854775808≤b) (h4:b<9223372036854775808) (h0:b≠0) (he:q=Rat.divInt a b):PC prog 45 #[zaa q,.int .i64 a,.int .i64 b] H fun r _=>r=.bool true:=by
 have hov:=fun G:Hp=>zdP (H:=G) a b h1 h2 h3 h4 h0;rw[←he]at hov;refine BD func45 ntmps45 ?_;refine uR ?_;apply EV.drawn 4 kR kR;intro xv yw;(repeat refine' DD ?_);refine' vB (cO func36) (fun G hG hd=>hov G) (fun _ _ _ h k=>RQ.mono h k) ?_;rotate_left;(refine DJ.nil (fun G1 hG1 hF1=>?_);(case hS|hS2=>rfl));have hs:=zp9 hF1.1 hq
 repeat (first|refine RUN ?_|refine CV (hs) ?_|refine CE (hs) ?_)
 rfl
theorem zpK {a b:Rat} (h:a≤b):zcr a b≤0:=by
 unfold zcr;split
 ·omega
 ·split
  ·rename_i k;exact absurd k (Rat.not_lt.2 h)
  ·omega
theorem zp4 {l:List Int} (n:Nat):∀q,q∈zkc l n→ht q≤5:=fun q hq=>by
 obtain⟨i,hi,rfl⟩:=List.mem_map.1 hq;split
 ·exact zix _
 ·rw[zcD];omega
theorem ziP {l:List Int} {n w:Nat}:∀x,x∈zfi l n w→x.length=w∧∀q,q∈x→ht q≤5:=fun x hx=>by
 obtain⟨i,_,rfl⟩:=List.mem_map.1 hx;exact⟨zeR _ _,zp4 w⟩
theorem zik {X:List (List Rat)} {B:Nat} (h:∀x,x∈X→∀q,q∈x→ht q≤B) (c r:Int) (hB:1≤B:=by omega):ht (zbi X c r)≤B:=by
 unfold zbi;rw[qB,qB]
 cases e:X[r.toNat]? with
 | none=>simp;rw[zcD];omega
 | some x =>
  rw[Option.getD_some]
  cases e2:x[c.toNat]? with
  | none=>rw[Option.getD_none,zcD];omega
  | some q=>exact h x (qF e) q (qF e2)
theorem zuW {X:List (List Rat)} (h:∀x,x∈X→∀q,q∈x→ht q≤5) (c:Int) (m:List Int) (j:Nat):ht (zer (zbi X c) m j)≤100:=by
 have h1:=zik h c (m.getD j 0);have h2:=zik h c (m.getD (j+1) 0);have h3:=zdw (zbi X c (m.getD j 0)) (zbi X c (m.getD (j+1) 0))
 have h4:ht ((2:Int):Rat)≤10:=by
  have:=zbG 2;have h2:bl (2:Int).natAbs≤5:=zaU (by decide);omega
 have h5:=zgu (zbi X c (m.getD j 0)+zbi X c (m.getD (j+1) 0)) ((2:Int):Rat);rw[show ((2:Int):Rat)=2 from rfl]at h4 h5;unfold zer;omega
theorem zps {X:List (List Rat)} (h:∀x,x∈X→∀q,q∈x→ht q≤60) (c:Int) (m:List Int) (j:Nat):ht (zer (zbi X c) m j)≤200:=by
 have h1:=zik h c (m.getD j 0);have h2:=zik h c (m.getD (j+1) 0);have h3:=zdw (zbi X c (m.getD j 0)) (zbi X c (m.getD (j+1) 0))
 have h4:ht ((2:Int):Rat)≤10:=by
  have:=zbG 2;have h2:bl (2:Int).natAbs≤5:=zaU (by decide);omega
 have h5:=zgu (zbi X c (m.getD j 0)+zbi X c (m.getD (j+1) 0)) ((2:Int):Rat);rw[show ((2:Int):Rat)=2 from rfl]at h4 h5;unfold zer;omega
theorem zmO (C:Nat):∀l:List Int,(∀z,z∈l→0≤z∧z<(C:Int))→sqL l=((List.range C).map fun (k:Nat)=>l.count (k:Int)*l.count (k:Int)).sum∧l.length=((List.range C).map fun (k:Nat)=>l.count (k:Int)).sum
 | [],_=>by
  constructor
  ·show 0=_
   induction C with
   | zero=>rfl
   | succ n ih=>rw[List.range_succ,qr,List.sum_append,←ih (by simp)];simp
  ·show 0=_
   induction C with
   | zero=>rfl
   | succ n ih=>rw[List.range_succ,qr,List.sum_append,←ih (by simp)];simp
 | x::l,h=>by
  have hx:=h x (qh ..);obtain⟨j,rfl⟩:=qj hx.1;obtain⟨ih1,ih2⟩:=zmO C l (fun z hz=>h z (qn _ hz));constructor
  ·have hs:=ziZ (fun k=>l.count (k:Int)*l.count (k:Int)) (fun k=>2*l.count (k:Int)+1) j C;rw[if_pos (by omega)]at hs;rw[ziX,ih1,Nat.add_assoc,←hs];congr 1;refine List.map_congr_left fun k _=>?_;rw[List.count_cons];by_cases e:k=j
   ·subst e;rw[if_pos rfl];simp;grind
   ·have e2:¬((j:Int) == (k:Int))=true:=by simp;omega
    rw[if_neg e,if_neg e2];simp
  ·have hs:=ziZ (fun k=>l.count (k:Int)) (fun k=>1) j C;rw[if_pos (by omega)]at hs;rw[qR,ih2,←hs];congr 1;refine List.map_congr_left fun k _=>?_;rw[List.count_cons];by_cases e:k=j
   ·subst e;rw[if_pos rfl];simp
   ·have e2:¬((j:Int) == (k:Int))=true:=by simp;omega
    rw[if_neg e,if_neg e2]
theorem zme (size:Nat):∀(vs:List Value) (k:Nat) (pre zs:List Value),(∀v,v∈vs→(zac v).length=size)→pre.length=k*size→zs.length=vs.length*size →
  Instr.fill (fun i=>some (i*size,size)) (pre++zs).toArray ((List.range' k vs.length).zip vs)=some (pre++vs.flatMap zac).toArray
 | [],k,pre,zs,_,_,hz=>by
  obtain rfl:zs=[]:=List.eq_nil_of_length_eq_zero (by simpa using hz);rfl
 | v::vs,k,pre,zs,hv,hp,hz=>by
  have hlen:=hv v (qh ..);rw[qR,Nat.succ_mul]at hz;rw[qR,List.range'_succ,List.zip_cons_cons];unfold Instr.fill;simp only[zlK];rw[if_neg (by simp[hlen];omega)];have:=zfL (zac v) (pre++zs) (k*size) 0 (by rw[qJ,hlen];omega);rw[qY]at this
  have e:((zac v).toArray.zipIdx.foldl (fun (cs:Array Value) (x:Value × Nat)=>match x with | (c,j)=>cs.setIfInBounds (k*size+j) c) (pre++zs).toArray)=((zac v).zipIdx.foldl (fun (c:Array Value) (p:Value × Nat)=>c.setIfInBounds (k*size+p.2) p.1) (pre++zs).toArray):=by
   simp
  rw[e,this,List.take_left' hp,hlen,←hp,←List.drop_drop,List.drop_left,List.flatMap_cons,←qZ];have ih:=zme size vs (k+1) (pre++zac v) (zs.drop size) (fun u hu=>hv u (qn _ hu)) (by rw[qJ,hp,hlen,Nat.succ_mul]) (by rw[qu];omega);exact ih
def ixB:List (Nat × Operand)→Nat→Nat→Bool
 | [],_,0=>true
 | p::ps,k,n+1=>match Nat.beq p.1 k with
  | true=>ixB ps (k+1) n
  | false=>false
 | _,_,_=>false
theorem zmk:∀(ps:List (Nat × Operand)) (k n:Nat),ixB ps k n=true→ps.map (·.1)=List.range' k n
 | [],k,0,_=>rfl
 | p::ps,k,n+1,h=>by
  unfold ixB at h;split at h
  ·rename_i e;rw[qy,List.range'_succ,zmk ps (k+1) n h,qz e]
  ·cases h
 | [],k,n+1,h=>by cases h
 | p::ps,k,0,h=>by cases h
section
variable {P:Program} {n:Nat} {ops:Array Oper} {o:Oper} {rest:List Oper} {env:Env} {bx:Bxs} {sb:Bxs} {ow:Ows} {H:Hs} {Q:EQ} {τ:Tab} {d:Nat} {s:SV}
theorem DJ.litD {tail l:List Oper} {x:Nat→Value} {y:Nat→Ows} {ow':Ows} {kl ks:List DK} {i:Nat} {bx':Bxs} {Γ:zeZ} (hτ:zay P τ) {T:TypeId} {len:Nat} {parts:Array (Nat × Operand)} (ho:o.op=.buildSlice T len parts) (hw:zag ops env o=some true) (hd:o.dst=some d) (hn:Nat.blt d n=true) {te te':TE} {e:TypeId} (ht:τ.get T=some te) (hk:te.kind=.slice e) (ht':τ.get e=some te')
  (hsz:Nat.beq te'.zero.length te'.size=true) (hpos:Nat.ble 1 (len*te'.size)=true) (hsm:Nat.ble (len*te'.size) 10000=true) {vs:List Value} (ha:zbk env (parts.toList.map (·.2)) some=some vs) (hix':ixB parts.toList 0 len=true) (hv:∀G,zdm ops i Γ G→∀v,v∈vs→(zac v).length=te'.size)
  {Φ:Value→Hp→Prop} (hm:∀v G G',Φ v G→G.Le G'→Φ v G') (hΦ:∀G G' v,zdm ops i Γ G→G.Le G'→SlC G' v len te'.size (vs.flatMap zac)→Φ v G')
  (h:DJ P n ops tail sb bx H Q x y kl (i+1) l ks ((d,.v (x i))::env) bx' ((i,Φ (x i))::Γ) ow'):DJ P n ops tail sb bx H Q x y kl i (o::l) (.call Φ::ks) env bx' Γ ow':=by
 have hix:parts.toList.map (·.1)=List.range' 0 len:=zmk _ _ _ hix';have hkd:=(hτ.get ht).kind;rw[hk]at hkd;have hkd':P.underlying T=some (.slice e):=hkd;obtain⟨zv,hinfo,hzc⟩:=(hτ.get ht').info;obtain⟨i0,hi,hz0,hz1,hz2⟩:=info_parts hinfo;have hl:=qz hsz;have hp:=Nat.le_of_ble_eq_true hpos;have hm':=Nat.le_of_ble_eq_true hsm;refine DJ.ofCall (fun β a W G hle hf _ hb _ hs hF=>?_) hd hn hm h;rw[if_pos (hs.want hw)];have hvv:=hv G hF;obtain⟨vs',e1,h2⟩:=ze0 ha;cases e1;have h3:=h2 a.eval fun y u hy he=>hs.op (s:=.v u) (by rw[ho];simpa[Op.operands] using hy) he
 have hvl:vs.length=len:=by
  have e1:=congrArg List.length h3;have e2:=congrArg List.length hix;simp at e1 e2;omega
 have hfl:(vs.flatMap zac).length=len*te'.size:=by rw[flat_len zac te'.size vs hvv,hvl]
 have h4:((parts.map fun (i,x)=>(i,a.eval x)):Array (Nat × Value)).toList=(List.range' 0 vs.length).zip vs:=by
  rw[hvl,←hix,←h3,Array.toList_map];generalize parts.toList=l
  induction l with
  | nil=>rfl
  | cons p l ih=>simp only[qy,List.zip_cons_cons,ih]
 have hfill:=zme te'.size vs 0 [] ((List.replicate len te'.zero).flatten) hvv (by simp) (by rw[List.length_flatten];simp[hl,hvl]);rw[pO,pO,←h4]at hfill
 have hrun:=run_buildSlice (P:=P) W T e len (parts.map fun (i,x)=>(i,a.eval x)) (vs.flatMap zac).toArray i0 zv hkd' hi hz0 (by rw[hz1];omega) (by rw[hz1];omega) (by
  rw[hz1,hzc,zgz te'.zero te'.size len hl,←hfill])
 have hB:Below W.heap.size W (W.alloc (.cells (vs.flatMap zac).toArray e)):=(Below.refl _ _).alloc (qH _) _;obtain⟨k1,k2,k3⟩:=zsi hf hB (Box.new W (vs.flatMap zac).toArray e)
 have hr:(execOp a.eval o).run P W=.ok (.value (.slice (some ⟨W.heap.size,0,none⟩) len len)) (W.alloc (.cells (vs.flatMap zac).toArray e)):=by
  unfold execOp;simp only[ho,Sem.run_bind,hrun,Result.andThen_ok,Sem.run_pure]
 unfold Oper.wp;rw[hr,Oper.upon_value];exact⟨_,_,rfl,hΦ G _ _ hF k1 ⟨hfl,.inr ⟨W.heap.size,0,len,(vs.flatMap zac).toArray,rfl,qH _,by simp[Hp.put],fun j x hj=>by rw[qv];simpa using hj⟩⟩,k1,k2,hB,k3⟩
theorem DJ.litD1 {tail l:List Oper} {x:Nat→Value} {y:Nat→Ows} {ow':Ows} {kl ks:List DK} {i:Nat} {bx':Bxs} {Γ:zeZ} {Φ:Value→Hp→Prop} (hm:∀v G G',Φ v G→G.Le G'→Φ v G') (hτ:zay P τ) {T:TypeId} {u:Operand} (ho:o.op=.buildSlice T 1 #[(0,u)]) (hw:zag ops env o=some true) (hd:o.dst=some d) (hn:Nat.blt d n=true) {te te':TE} {e:TypeId} (ht:τ.get T=some te) (hk:te.kind=.slice e) (ht':τ.get e=some te')
  (hsz:Nat.beq te'.zero.length te'.size=true) (hpos:Nat.ble 1 (1*te'.size)=true) (hsm:Nat.ble (1*te'.size) 10000=true) {v:Value} (hx:env.op u=some (.v v)) (hv:∀G,zdm ops i Γ G→(zac v).length=te'.size)
  (hΦ:∀G G' w,zdm ops i Γ G→G.Le G'→SlC G' w 1 te'.size ([v].flatMap zac)→Φ w G')
  (h:DJ P n ops tail sb bx H Q x y kl (i+1) l ks ((d,.v (x i))::env) bx' ((i,Φ (x i))::Γ) ow'):DJ P n ops tail sb bx H Q x y kl i (o::l) (.call Φ::ks) env bx' Γ ow' :=
 DJ.litD hτ ho hw hd hn ht hk ht' hsz hpos hsm (vs:=[v]) (by show zbk env [u] some=_;simp[zbk,hx]) rfl (fun G hd w hm=>by rw[pL.1 hm];exact hv G hd) hm hΦ h
end
theorem RL.one {H:Hp} {v x:Value} {q:Rat} (h:SlC H v 1 3 ([x].flatMap zac)) (hx:RQ H x q):RL H v [q] :=
 ⟨[x],rfl,fun j y r e1 e2=>by
  cases j with
  | zero=>cases e1;cases e2;exact hx
  | succ j=>simp at e1,h⟩
def zld (V:List Rat):Nat→List Rat
 | 0=>[]
 | j+1=>zld V j++if V.getD j 0<V.getD (j+1) 0 then [(V.getD j 0+V.getD (j+1) 0) / 2] else []
theorem zpa (key:Int→Rat) (m:List Int):∀j,j≤m.length-1→zjD key m j=zld (m.map key) j
 | 0,_=>rfl
 | j+1,h=>by
  have g:∀i,i<m.length→(m.map key).getD i 0=key (m.getD i 0):=fun i hi=>by simp[qB,hi]
  unfold zjD zld zer;rw[zpa key m j oM,g j oM,g (j+1) (by omega)]
def plQ (X:List (List Rat)) (col:Int) (es:List Int):List Rat:=if es.all (zbO X col)=true then zld (zc6 (es.map (zbi X col))) (es.length-1) else []
theorem ziN {X:List (List Rat)} {col:Int} {es m:List Int} (h:zm5 X col es m):zjD (zbi X col) m (m.length-1)=plQ X col es:=by
 unfold plQ;rcases h with ⟨ha,hp,hr⟩ | ⟨ha,rfl⟩
 ·rw[if_pos ha,zpa _ _ _ (qH _),hp.length_eq,zcL (hp.map _) hr]
 ·rw[if_neg (by rw[ha];decide)];rfl
end
section
def zhG (X:List (List Rat)) (cost:List Int→Rat) (es:List Int) (L c:Int) (ts:List Rat):List (Int × Rat × Rat) :=
 ts.flatMap fun t=>if L≤((za5 X c t es).length:Int)∧L≤((zaB X c t es).length:Int) then [(c,t,cost es-(cost (za5 X c t es)+cost (zaB X c t es)))] else []
def zaY (X:List (List Rat)) (cost:List Int→Rat) (es:List Int) (L:Int) (cols:List Int):List (Int × Rat × Rat):=cols.flatMap fun c=>zhG X cost es L c (plQ X c es)
theorem zmh {key:Int→Rat} {m:List Int}:∀{n j:Nat},j<n→key (m.getD j 0)<key (m.getD (j+1) 0)→zer key m j∈zjD key m n
 | 0,j,h,_=>by omega
 | n+1,j,h,hlt=>by
  unfold zjD;by_cases e:j=n
  ·subst e;rw[if_pos hlt];exact List.mem_append_right _ (pL.2 rfl)
  ·exact List.mem_append_left _ (zmh (show j<n by omega) hlt)
theorem zkn (key:Int→Rat) (es:List Int):∃m,m.Perm es∧zhm key m:=by
 refine⟨es.mergeSort fun a b=>decide (key a≤key b),List.mergeSort_perm _ _,?_⟩;have:=List.pairwise_mergeSort (le:=fun a b:Int=>decide (key a≤key b)) (fun a b c h1 h2=>by simp at h1 h2 ⊢;exact Rat.le_trans h1 h2) (fun a b=>by simp;exact Rat.le_total) es;exact List.pairwise_map.2 (this.imp fun h=>by simpa using h)
theorem zjt {wo cost:List Int→Rat} (hp:POk wo cost) {es a b m:List Int} {j:Nat} (hm:m.Perm es) (hl:a.Perm (m.take (j+1))) (hh:b.Perm (m.drop (j+1))):cost es-(cost a+cost b)=zfn wo m j-wo es:=by
 have hab:(a++b).Perm es:=by
  refine(hl.append hh).trans ?_;rw[List.take_append_drop];exact hm
 have h1:=hp.gain hab;have h2:=hp.wperm _ _ hl;have h3:=hp.wperm _ _ hh;have h4:zfn wo m j=wo (m.take (j+1))+wo (m.drop (j+1)):=rfl;rw[h4,←h2,←h3];grind
theorem zrn {X:List (List Rat)} {wo cost:List Int→Rat} {es cols:List Int} {L:Int} (hp:POk wo cost) (p:Int × Rat × Rat):p∈zaY X cost es L cols↔zuV X wo es cols L p:=by
 obtain⟨c,t,g⟩:=p;unfold zaY zhG;rw[List.mem_flatMap];constructor
 ·rintro⟨c',hc,h⟩;obtain⟨t',ht,h⟩:=List.mem_flatMap.1 h;split at h
  ·rename_i hcond;rw[pL]at h;cases h;by_cases ha:es.all (zbO X c)=true
   ·obtain⟨m,hm,hr⟩:=zkn (zbi X c) es;rw[←ziN (.inl ⟨ha,hm,hr⟩:zm5 X c es m)]at ht;obtain⟨j,hj,hlt,rfl⟩:=zgs ht;have hj1:j+1<m.length:=oM;obtain⟨hl,hh⟩:=zfU hm hr (List.all_eq_true.1 ha) hj1 hlt;have e1:=hl.length_eq;have e2:=hh.length_eq;rw[qP]at e1;rw[qu]at e2;exact⟨hc,ha,m,j,hm,hr,hj1,zex.2 ⟨by omega,by omega,hlt⟩,rfl,zjt hp hm hl hh⟩
   ·unfold plQ at ht;rw[if_neg ha]at ht;cases ht
  ·cases h
 ·rintro⟨hc,ha,m,j,hm,hr,hj,hcand,he,hg⟩;dsimp only at hc ha hr hcand he hg;obtain⟨h1,h2,hlt⟩:=zex.1 hcand;obtain⟨hl,hh⟩:=zfU hm hr (List.all_eq_true.1 ha) hj hlt;have e1:=hl.length_eq;have e2:=hh.length_eq;rw[qP]at e1;rw[qu]at e2;refine⟨c,hc,List.mem_flatMap.2 ⟨t,?_,?_⟩⟩
  ·rw[←ziN (.inl ⟨ha,hm,hr⟩:zm5 X c es m),he];exact zmh oM hlt
  ·rw[he,if_pos ⟨by omega,by omega⟩,zjt hp hm hl hh,hg];exact pL.2 rfl
theorem zcb (l:List (Int × Rat × Rat)):zf5 l (l.foldl zqL none):=by
 have key:∀(qs pre:List (Int × Rat × Rat)) (st:Option (Int × Rat × Rat)),zf5 pre st→zf5 (pre++qs) (qs.foldl zqL st):=by
  intro qs
  induction qs with
  | nil=>intro pre st h;rw[qG];exact h
  | cons p qs ih =>
   intro pre st h;rw[show pre++p::qs=(pre++[p])++qs by simp];exact ih _ _ (znz h p)
 have:=key l [] none rfl;simpa using this
theorem zkU {X:List (List Rat)} {wo cost:List Int→Rat} {es cols:List Int} {L:Int} {ps:List (Int × Option (Rat × Rat))} (hp:POk wo cost) (hcol:zt6 cols (ps.map (·.1))) (hps:∀p,p∈ps→zr8 X wo es L p.1 p.2) :
  ((zb1 ps).map fun t=>(t.1,t.2.1,t.2.2-wo es))=(zaY X cost es L cols).foldl zqL none :=
 zhK (zkT hp hcol hps) (zcb _).p fun p=>(zrn hp p).symm
end
section
structure Nd where
 col:Int
 left:Int
 right:Int
 rows:Int
 cls:Int
 at':Rat
 cost:Rat
 value:Rat
 counts:List Int
structure GP where
 X:List (List Rat)
 cost:List Int→Rat
 mean:List Int→Rat
 cnt:List Int→List Int
 least:Int
 gain:Rat
 cols:Int→List Int × Int
def GP.nd (p:GP) (rows:List Int):Nd:=⟨-1,0,0,(rows.length:Int),(topN (p.cnt rows) (p.cnt rows).length:Int),0,p.cost rows,p.mean rows,p.cnt rows⟩
def GP.best (p:GP) (rows cols:List Int):Option (Int × Rat × Rat):=(zaY p.X p.cost rows (max 1 p.least) cols).foldl zqL none
def GP.cut (p:GP) (rows cols:List Int):Option (Int × Rat):=match p.best rows cols with
 | some (c,t,g)=>if g≤p.gain then none else some (c,t)
 | none=>none
def GP.grow (p:GP):Nat→Nat→List Int→Int→List Nd × Int
 | 0,_,rows,s=>([p.nd rows],s)
 | d+1,k,rows,s=>match p.cut rows (p.cols s).1 with
  | none=>([p.nd rows],(p.cols s).2)
  | some (c,t) =>
   let L:=p.grow d (k+1) (za5 p.X c t rows) (p.cols s).2
   let R:=p.grow d (k+1+L.1.length) (zaB p.X c t rows) L.2
   ({p.nd rows with col:=c,left:=((k+1:Nat):Int),right:=((k+1+L.1.length:Nat):Int),at':=t}::(L.1++R.1),R.2)
theorem GP.grow_zero (p:GP) (k:Nat) (rows:List Int) (s:Int):p.grow 0 k rows s=([p.nd rows],s):=rfl
theorem GP.grow_none {p:GP} {d k:Nat} {rows:List Int} {s:Int} (h:p.cut rows (p.cols s).1=none):p.grow (d+1) k rows s=([p.nd rows],(p.cols s).2):=by
 rw[GP.grow,h]
theorem GP.grow_some {p:GP} {d k:Nat} {rows:List Int} {s:Int} {c:Int} {t:Rat} (h:p.cut rows (p.cols s).1=some (c,t)):p.grow (d+1) k rows s =
  ({p.nd rows with col:=c,left:=((k+1:Nat):Int),right:=((k+1+(p.grow d (k+1) (za5 p.X c t rows) (p.cols s).2).1.length:Nat):Int),at':=t}::((p.grow d (k+1) (za5 p.X c t rows) (p.cols s).2).1++(p.grow d (k+1+(p.grow d (k+1) (za5 p.X c t rows) (p.cols s).2).1.length) (zaB p.X c t rows) (p.grow d (k+1) (za5 p.X c t rows) (p.cols s).2).2).1),(p.grow d (k+1+(p.grow d (k+1) (za5 p.X c t rows) (p.cols s).2).1.length) (zaB p.X c t rows) (p.grow d (k+1) (za5 p.X c t rows) (p.cols s).2).2).2):=by
 rw[GP.grow,h]
theorem GP.grow_len (p:GP):∀(d k:Nat) (rows:List Int) (s:Int),1≤(p.grow d k rows s).1.length∧(p.grow d k rows s).1.length<2 ^ (d+1)
 | 0,k,rows,s=>by rw[GP.grow_zero];simp
 | d+1,k,rows,s=>by
  have hp:1<2 ^ (d+2):=Nat.one_lt_two_pow oM
  cases h:p.cut rows (p.cols s).1 with
  | none=>rw[GP.grow_none h];exact⟨qH _,hp⟩
  | some ct =>
   obtain⟨c,t⟩:=ct;rw[GP.grow_some h];have h1:=p.grow_len d (k+1) (za5 p.X c t rows) (p.cols s).2;have h2:=p.grow_len d (k+1+(p.grow d (k+1) (za5 p.X c t rows) (p.cols s).2).1.length) (zaB p.X c t rows) (p.grow d (k+1) (za5 p.X c t rows) (p.cols s).2).2;simp only[qR,qJ];have h3:2 ^ (d+1+1)=2 ^ (d+1)+2 ^ (d+1):=by rw[qX];omega
   omega
end
section
open Go.RowKit _root_.Go.Proofs.Tryz
section
variable {P:Program} {n:Nat} {ops:Array Oper} {tail:List Oper} {sb bx:Bxs} {H:Hs} {Q:EQ} {x:Nat→Value} {y:Nat→Ows} {ow':Ows} {kl:List DK} {i:Nat} {o:Oper} {l:List Oper} {ks:List DK} {env:Env} {bx':Bxs} {Γ:zeZ} {τ:Tab} {d:Nat}
theorem DJ.plainE (hτ:zay P τ) (Φ:Value→Hp→Prop) (hm:∀v G G',Φ v G→G.Le G'→Φ v G') (hw:zag ops env o=some true) (hd:o.dst=some d) (hn:Nat.blt d n=true) (hv:∀G,zdm ops i Γ G→∃v,zrD τ env bx o.op=some (.v v)∧Φ v G)
  (h:DJ P n ops tail sb bx H Q x y kl (i+1) l ks ((d,.v (x i))::env) bx' ((i,Φ (x i))::Γ) ow'):DJ P n ops tail sb bx H Q x y kl i (o::l) (.call Φ::ks) env bx' Γ ow' :=
 DJ.ofCall (fun β a W G _ hf _ hb _ hs hF=>by
  obtain⟨v,hv,hΦ⟩:=hv G hF;obtain⟨u,hu,hr⟩:=zcK hτ hv (fun y s hm hy=>hs.op hm hy) hb hf;rw[if_pos (hs.want hw)];unfold Oper.wp;rw[hu,Oper.upon_value];have e:u=v:=hr;subst e;exact⟨u,G,rfl,hΦ,Hp.Le.refl G,hf,Below.refl _ _,Nw.refl _ _ _⟩) hd hn hm h
end
section
variable {n:Nat} {ops:Array Oper} {fuel:Nat} {L:Array Bool} {env:Env} {bx:Bxs} {H:Hs} {K:Env→Bxs→Hs→Prop} {d:Nat} {o:Oper} {v:Value}
end
section
variable {P:Program} {n:Nat} {ops:Array Oper} {o:Oper} {rest:List Oper} {env:Env} {bx:Bxs} {H:Hs} {Q:EQ} {d:Nat}
end
theorem zrH {A c B:List Value} {k s f:Nat} (hA:A.length=k*s) (hf:f≤c.length):(A++(c++B)).take (k*s+f)=A++c.take f:=by
 rw[List.take_append,qO oM,hA,Nat.add_sub_cancel_left,List.take_append_of_le_length hf]
theorem zrG {A c B:List Value} {k s f:Nat} (hA:A.length=k*s) (hf:f≤c.length):(A++(c++B)).drop (k*s+f)=c.drop f++B:=by
 rw[List.drop_append,List.drop_eq_nil_of_le oM,hA,Nat.add_sub_cancel_left,List.drop_append_of_le_length hf,pO]
theorem zc4 {A c B vs c':List Value} {k s f m q:Nat} (hA:A.length=k*s) (hq:q=k*s+f) (hm:vs.length=m) (hf:f+m≤c.length) (hc:c.take f++vs++c.drop (f+m)=c'):(A++(c++B)).take q++vs++(A++(c++B)).drop (q+m)=A++(c'++B):=by
 subst hq;rw[zrH hA oM,Nat.add_assoc,zrG hA hf,←hc];simp only[qZ]
theorem zqm (n m:Int) (hm:1≤m):(if n.tmod m<0 then n.tmod m+m else n.tmod m)=n % m:=by
 by_cases h:0≤n
 ·have e:n.tmod m=n % m:=Int.tmod_eq_emod_of_nonneg h;have:=Int.emod_nonneg n (show m≠0 by omega);rw[e,if_neg (by omega)]
 ·have e:n.tmod m = -((-n) % m):=by
   rw[show n = -(-n) by omega,Int.neg_tmod,Int.tmod_eq_emod_of_nonneg (by omega)];simp
  have h1:=Int.emod_nonneg (-n) (show m≠0 by omega);have h2:=Int.emod_lt_of_pos (-n) (show 0<m by omega);have h4:=Int.emod_nonneg n (show m≠0 by omega);have h5:=Int.emod_lt_of_pos n (show 0<m by omega);have h6:=Int.mul_ediv_add_emod n m;have h7:=Int.mul_ediv_add_emod (-n) m;have h8:m*(n / m + -n / m) = -(n % m + -n % m):=by rw[Int.mul_add];omega
  generalize n / m + -n / m=t at h8
  have h9:t=0∨t = -1:=by
   by_cases a:t ≤ -2
   ·have:m*t≤m*(-2):=Int.mul_le_mul_of_nonneg_left a oM;omega
   ·by_cases b:1≤t
    ·have:m*1≤m*t:=Int.mul_le_mul_of_nonneg_left b oM;omega
    ·omega
  rcases h9 with rfl | rfl
  ·rw[e,if_neg (by omega)];omega
  ·rw[e,if_pos (by omega)];omega
theorem zuQ (n m:Int) (w:World) (hm:1≤m) (hm2:m≤1000000) :
  Calls prog 8 #[.int .i64 n,.int .i64 m] w fun e w'=>e=.returned (.int .i64 (n % m))∧w=w':=by
 have hp:=hid (zqm n m hm);have hr:n.tmod m<m:=Int.tmod_lt_of_pos _ oM;have hr2:-m<n.tmod m:=by have:=Int.lt_tmod_of_pos n (show 0<m by omega);omega
 by_cases hn:n.tmod m<0
 ·go_enter func8,ntmps8;go_wp2
  go_ret;have:=hp.out;rw[if_pos hn]at this;exact⟨zgW this,rfl⟩
 ·go_enter func8,ntmps8;go_wp2
  go_ret;have:=hp.out;rw[if_neg (by omega)]at this;exact⟨zgW this,rfl⟩
theorem zq9 (s:Int) (w:World) :
  Calls prog 33 #[.int .u64 s] w fun e w'=>e=.returned (.pointer (some ⟨w.heap.size,0,none⟩))∧w'=w.alloc (.cells #[.int .u64 s] 164):=by
 go_enter func33,ntmps33;go_wp2
 go_ret;exact⟨rfl,rfl⟩
theorem zo1 (b:Nat) (s:Int) (w:World) (hc:w.cell? ⟨b,0,none⟩=some (.int .u64 s)) (hf:w.frozen? ⟨b,0,none⟩=false) :
  Calls prog 145 #[.pointer (some ⟨b,0,none⟩)] w fun e w'=>e=.returned (.int .u64 (mix (nxt s)))∧w'=w.setCell ⟨b,0,none⟩ (.int .u64 (nxt s)):=by
 go_enter func145,ntmps145;go_wp2
 go_ret;exact⟨rfl,rfl⟩
theorem zjB (b:Nat) (s:Int) (w:World) (h:Die w b s) :
  Calls prog 145 #[.pointer (some ⟨b,0,none⟩)] w fun e w'=>e=.returned (.int .u64 (mix (nxt s)))∧Die w' b (nxt s)∧zbf (·=b) w w'∧w'.heap.size=w.heap.size:=by
 refine(zo1 b s w h.cell h.free).mono ?_;rintro e w' ⟨rfl,rfl⟩;exact⟨rfl,h.set (zgI s).1,(zbf.refl (fun x=>x=b) w).setCell (p:=⟨b,0,none⟩) (fun _=>rfl) _,by simp⟩
theorem zpl (n:Int) (h:1≤n) (h2:n≤1000000):IntKind.u64.wrap (18446744073709551615-(IntKind.u64.wrap (18446744073709551615 % n+1)).tmod n)=zpk n:=by
 have h1:=Int.emod_nonneg 18446744073709551615 (show n≠0 by omega);have h3:=Int.emod_lt_of_pos 18446744073709551615 (show 0<n by omega);rw[zeY (18446744073709551615 % n+1),Int.emod_eq_of_lt oM oM,Int.tmod_eq_emod_of_nonneg oM,Int.emod_add_emod];have h4:=Int.emod_nonneg (18446744073709551615+1) (show n≠0 by omega);have h5:=Int.emod_lt_of_pos (18446744073709551615+1) (show 0<n by omega);rw[zeY,Int.emod_eq_of_lt oM (by omega)];rfl
theorem znn (b:Nat) (n s:Int) (w:World) (h:Die w b s) (hn:1≤n) (hn2:n≤1000000) :
  Calls prog 93 #[.pointer (some ⟨b,0,none⟩),.int .i64 n] w fun e w'=>e=.returned (.int .i64 (below n s).1)∧Die w' b (below n s).2∧zbf (·=b) w w'∧w'.heap.size=w.heap.size:=by
 go_enter func93,ntmps93;go_wp2;rw[zpl n hn hn2]
 go_loopg [7] (left s) (fun k _ wr=>∃t,left t=k∧Die wr b t∧below n s=below n t∧zbf (·=b) w wr∧wr.heap.size=w.heap.size)
 case atStart=>exact⟨s,rfl,h,rfl,zbf.refl _ _,rfl⟩
 case round =>
  obtain⟨t,hl,hd,hb,hk,hz⟩:=hrel;have HB:=hid hb;have HZ:=hid hz;have HL:=hid hl;clear hb hz hl;by_cases hc:mix (nxt t)≤zpk n
  ·have HT:=hid (zhx n t hc);have hm:=(zpv (nxt t)).1
   go_wp2_with fail;refine(zjB b t wr hd).mono ?_;rintro e w1 ⟨rfl,hd1,hk1,hz1⟩;have HZ1:=hid hz1;clear hz1;go_wp2
   go_ret;rw[HB.out,HT.out];have:=Int.emod_lt_of_pos (mix (nxt t)) (show 0<n by omega);have:=Int.emod_nonneg (mix (nxt t)) (show n≠0 by omega);exact⟨zgW (IntWalk.wrap64_in _ ⟨by omega,by omega⟩),hd1,hk.trans hk1,by rw[HZ1.out,HZ.out]⟩
  ·have HT:=hid (zhw n t hn oM hc);have HW:=hid (zea n t hn oM hc);have hc':decide (mix (nxt t)≤zpk n)=false:=by simpa using hc
   go_wp2_with fail;refine(zjB b t wr hd).mono ?_;rintro e w1 ⟨rfl,hd1,hk1,hz1⟩;have HZ1:=hid hz1;clear hz1;go_wp2
   go_roundg (left (nxt t))
   case measure=>rw[←HL.out];exact HW.out
   case rel=>exact⟨_,rfl,hd1,by rw[HB.out,HT.out],hk.trans hk1,by rw[HZ1.out,HZ.out]⟩
theorem Tryz.infoInt:(Tryz.prog.info? 3).map (fun i=>(i.zero,i.size,i.bytes))=some (some (.int .i64 0),1,8):=by kernel_rfl
theorem zpp (n:Nat) (w:World) (h:n≤1000000):(Instr.makeSlice 22 (.int .i64 n) (.int .i64 n)).run prog w=.ok (.slice (some ⟨w.heap.size,0,none⟩) n n) (w.alloc (.cells (cellsOf i64 (List.replicate n 0)) 3)):=by
 obtain⟨i0,hi,hz0,hz1,hz2⟩:=info_parts Tryz.infoInt;have:=run_make (P:=prog) w 22 3 i0 (.int .i64 0) Tryz.underlying22 hi hz0 .i64 .i64 n n oM oM (by rw[hz2];omega) oM;rw[this,hz1];simp only[qU,Nat.mul_one,Value.cells];rw[show (#[Value.int .i64 0])=#[i64 0] from rfl,zfv]
theorem znt (b:Nat) (n:Nat) (s:Int) (w:World) (h:Die w b s) (hn:1≤n) (hn2:n≤65536) :
  Calls prog 34 #[.pointer (some ⟨b,0,none⟩),.int .i64 n] w fun e w' =>
   ∃B,w.heap.size≤B∧e=.returned (.slice (some ⟨B,0,none⟩) n n)∧Blk i64 w' B (zcx n s).1∧Die w' b (zcx n s).2∧zbf (·=b) w w':=by
 have hmk:=fun w=>zpp n w oM
 go_enter func34,ntmps34;go_wp2
 go_loopg [20] n (fun g i wr=>∃j:Nat,j+g=n∧i=.int .i64 j∧Blk i64 wr w.heap.size (zoo j++List.replicate g 0)∧Die wr b s∧zbf (·=b) w wr)
 case atStart=>exact⟨0,by omega,rfl,Blk.new _ _ _ _,h.below ((Below.refl _ _).alloc (qH _) _),(zbf.refl _ _).alloc _⟩
 case round =>
  obtain⟨j,hj,rfl,hB,hd,hK⟩:=hrel;have hlen:=zdb j;by_cases hlt:j<n
  ·have hjk:=hid hj;clear hj;have hl:=hid hlen;clear hlen;have hll:(zoo j++List.replicate gk 0).length=n:=by have:=hl.out;have:=hjk.out;simp;omega
   obtain⟨v0,hc⟩:=hB.has j oM;have hf:=hB.free j;have HL:=hid hll;clear hll;go_wp2
   go_roundg (gk-1)
   case measure=>have:=hjk.out;omega
   case rel =>
    refine⟨j+1,by have:=hjk.out;omega,by go_num,?_,?_,?_⟩
    ·have:=hB.set j (j:Int)
     have e:(zoo j++List.replicate gk 0).set j (j:Int)=zoo (j+1)++List.replicate (gk-1) 0:=by
      have:=hjk.out;obtain⟨g,rfl⟩:∃g,gk=g+1:=⟨gk-1,by omega⟩;rw[List.set_append_right _ _ (by rw[hl.out];omega),hl.out,zqs];simp[List.replicate_succ]
     rw[e]at this;exact this
    ·exact hd.other ⟨w.heap.size,j,none⟩ _ (by have:=h.lt;simp;omega)
    ·exact hK.setCell (p:=⟨w.heap.size,j,none⟩) (fun x=>absurd x (Nat.lt_irrefl _)) _
  ·obtain rfl:j=n:=oM;obtain rfl:gk=0:=oM;rw[List.replicate_zero,qG]at hB;obtain⟨wo,hwo⟩:∃wo:World,wo=wr:=⟨_,rfl⟩;rw[←hwo]at hB hd hK;subst hwo;go_wp2
   go_loopg [8] (j-1) (fun g i wr=>∃(l:List Int) (t:Int),g<j∧i=.int .i64 g∧Blk i64 wr w.heap.size l∧l.length=j∧Die wr b t∧zcZ g l t=zcx j s∧zbf (·=b) w wr)
   case atStart=>exact⟨zoo j,s,by omega,by congr 1;omega,hB,hlen,hd,rfl,hK⟩
   case round =>
    obtain⟨l,t,hg,rfl,hB,hlen,hd,ho,hK⟩:=hrel;have HO:=hid ho;have HN:=hid hlen;clear ho hlen;by_cases hlt:1≤gk
    ·go_wp2_with fail;refine(znn b _ _ wr hd oM oM).mono ?_;have hr:=zf9 (gk+1) t oM oM;generalize hbe:below (gk+1) t=be at *
     obtain⟨x,t'⟩:=be;obtain⟨r1,r2,r3,r4⟩:=hr;simp only at r1 r2;clear r3 r4;obtain⟨x,rfl⟩:=qj r1;rintro e w1 ⟨rfl,hd1,hk1,hz1⟩;have HZ:=hid hz1;have HBE:=hid hbe;clear hz1 hbe;have hB1:=hB.kept hk1 (by have:=h.lt;omega);have hx:x<l.length:=by have:=HN.out;omega
     have hgl:gk<l.length:=by have:=HN.out;omega
     obtain⟨v,hv⟩:∃v,v=l.getD x 0:=⟨_,rfl⟩;obtain⟨u,hu⟩:∃v,v=l.getD gk 0:=⟨_,rfl⟩;have c1:w1.cell? ⟨w.heap.size,x,none⟩=some (.int .i64 v):=by rw[hv,hB1.cell x hx];simp[hx]
     have c2:w1.cell? ⟨w.heap.size,gk,none⟩=some (.int .i64 u):=by rw[hu,hB1.cell gk hgl];simp[hgl]
     have f1:=hB1.free x;have f2:=hB1.free gk;have hx':x<j:=oM;have HV:=hid hv;have HU:=hid hu;clear hv hu hx hgl;obtain⟨v',hy'⟩:=cell?_setCell_some (w:=w1) (p:=⟨w.heap.size,gk,none⟩) (x:=.int .i64 v) (q:=⟨w.heap.size,x,none⟩) (v:=.int .i64 v) c1;go_wp2
     go_region
     all_goals go_wp2
     all_goals go_roundg (gk-1)
     case measure=>omega
     case rel =>
      refine⟨zob l gk x,t',by omega,by congr 1;omega,?_,by rw[zcA];exact HN.out,?_,?_,?_⟩
      ·have:=((hB1.set gk v).set x u).drew;rw[HV.out,HU.out]at this;rw[HV.out,HU.out];exact this
      ·exact((hd1.other ⟨w.heap.size,gk,none⟩ _ (by have:=h.lt;simp;omega)).other ⟨w.heap.size,x,none⟩ _ (by have:=h.lt;simp;omega)).drew
      ·rw[←HO.out];obtain⟨g,rfl⟩:∃g,gk=g+1:=⟨gk-1,by omega⟩;have hh:=HBE.out;rw[show ((g+1:Nat):Int)+1=(g:Int)+2 by omega]at hh;simp[zcZ,hh]
      ·exact(((hK.trans hk1).setCell (p:=⟨w.heap.size,gk,none⟩) (fun x=>absurd x (Nat.lt_irrefl _)) _).setCell (p:=⟨w.heap.size,x,none⟩) (fun x=>absurd x (Nat.lt_irrefl _)) _).drew
    ·obtain rfl:gk=0:=oM;go_wp2
     go_ret;have:=HO.out;simp only[zcZ]at this;rw[←this];exact⟨w.heap.size,qH _,rfl,hB,hd,hK⟩
theorem PW.of_order {P:Program} {f:FuncId} {args:Array Value} {H:Hp} {b:Nat} {T:TypeId} {s s':Int} {l:List Int} (can:zat P f) (hs:0≤s)
  (h:∀W,Die W b s→Calls P f args W fun e w'=>∃B,W.heap.size≤B∧e=.returned (.slice (some ⟨B,0,none⟩) l.length l.length)∧Blk i64 w' B l∧Die w' b s'∧zbf (·=b) W w') :
  PW P f args H [(b,T,[.int .u64 s])] fun v ow H'=>(∃T',ow=[(b,T',[.int .u64 s'])])∧0≤s'∧IL H' v l∧∃a,v=.slice a l.length l.length:=by
 refine⟨can,fun W hf hg hL hd=>?_⟩;obtain⟨hB,hHb,_⟩:=hL 0 b T _ rfl;refine(h W ⟨hs,T,hB⟩).mono ?_;rintro e W' ⟨B,hBs,rfl,⟨T2,hblk⟩,⟨hs',T',hdie⟩,hk⟩
 have hBn:H B=none:=by
  cases hc:H B with
  | none=>rfl
  | some c=>have:=hf.lt (b:=B) (by rw[hc];simp);omega
 have hbB:b≠B:=by
  have:=hB.lt;omega
 refine⟨_,[(b,T',[.int .u64 s'])],H.put B (cellsOf i64 l),rfl,⟨⟨T',rfl⟩,hs',?_,_,rfl⟩,fun k c hc=>?_,fun k c hc=>?_,fun k c hc=>?_,hk.mono (fun k _ e=>by subst e;exact Ows.bs_mem (j:=0) rfl),fun j b' T1 cs hj=>?_,?_⟩
 ·exact⟨by simp,.inr ⟨B,0,l.length,cellsOf i64 l,rfl,qH _,by simp[Hp.put],fun q x hq=>by rw[qv];simpa[cellsOf] using hq⟩⟩
 ·have:k≠B:=fun e=>by subst e;rw[hBn]at hc;cases hc
  simp only[Hp.put,if_neg this];exact hc
 ·by_cases e:k=B
  ·subst e;simp only[Hp.put,if_true]at hc;cases hc;exact⟨T2,(0,0),hblk⟩
  ·simp only[Hp.put,if_neg e]at hc;obtain⟨T3,fz,hW⟩:=hf k c hc;refine⟨T3,fz,?_⟩;rw[hk.block k (hf.lt (by rw[hc];simp)) (fun e=>by subst e;rw[hHb]at hc;cases hc)];exact hW
 ·by_cases e:k=B
  ·subst e;simp only[Hp.put,if_true]at hc;cases hc;exact .inr ⟨hBs,T2,hblk⟩
  ·simp only[Hp.put,if_neg e]at hc;exact .inl hc
 ·cases j with
  | zero =>
   cases (show some (b,T',[Value.int .u64 s'])=some (b',T1,cs) from hj);exact⟨hdie,.inr (Ows.bs_mem (j:=0) rfl),by simp only[Hp.put,if_neg hbB];exact hHb⟩
  | succ j=>simp at hj
 ·intro j j' b' T1 T2 c1 c2 h1 h2
  cases j with
  | zero=>cases j' with
   | zero=>rfl
   | succ j'=>simp at h2
  | succ j=>simp at h1
theorem zhQ (n:Nat) (s:Int):(zcx n s).1.length=n:=by
 unfold zcx;rw[zhq,zdb]
theorem zso {X:List (List Rat)} (h:∀x,x∈X→∀q,q∈x→ht q≤60) {c:Int} {es:List Int} {t:Rat} (ht':t∈plQ X c es):ht t≤200:=by
 by_cases ha:es.all (zbO X c)=true
 ·obtain⟨m,hm,hr⟩:=zkn (zbi X c) es;rw[←ziN (.inl ⟨ha,hm,hr⟩:zm5 X c es m)]at ht';obtain⟨j,_,_,rfl⟩:=zgs ht';exact zps h c m j
 ·unfold plQ at ht';rw[if_neg ha]at ht';cases ht'
theorem zru (a b:Rat):zcr a b<0↔a<b:=by
 unfold zcr;split
 ·rename_i h;exact⟨fun _=>h,fun _=>by decide⟩
 ·rename_i h;split
  ·exact⟨fun k=>absurd k (by decide),fun k=>absurd k h⟩
  ·exact⟨fun k=>absurd k (by decide),fun k=>absurd k h⟩
theorem znm {X:List (List Rat)} {cost:List Int→Rat} {es:List Int} {n:Nat} {L c:Int} {ts:List Rat} (hs:∀l:List Int,l.length≤300→(∀r,r∈l→0≤r∧r<(n:Int))→ht (cost l)≤2000000) (he:es.length≤300) (hb:∀r,r∈es→0≤r∧r<(n:Int)) (hts:∀t,t∈ts→ht t≤200) {p:Int × Rat × Rat} (h:p∈zhG X cost es L c ts):ht p.2.1≤200∧ht p.2.2≤8000000:=by
 unfold zhG at h;obtain⟨t,ht',hp⟩:=List.mem_flatMap.1 h;split at hp
 ·obtain rfl:=pL.1 hp;have h1:=hs _ (qI (List.length_filter_le _ _) he:(za5 X c t es).length≤300) (fun r hr=>hb r (List.mem_filter.mp hr).1);have h2:=hs _ (qI (List.length_filter_le _ _) he:(zaB X c t es).length≤300) (fun r hr=>hb r (List.mem_filter.mp hr).1);have h3:=hs es he hb;have h4:=zdw (cost (za5 X c t es)) (cost (zaB X c t es));have h5:=zmj (cost es) (cost (za5 X c t es)+cost (zaB X c t es));exact⟨hts t ht',by dsimp only;omega⟩
 ·cases hp
theorem zox {X:List (List Rat)} {cost:List Int→Rat} {es:List Int} {n:Nat} {L:Int} {cols:List Int} (hs:∀l:List Int,l.length≤300→(∀r,r∈l→0≤r∧r<(n:Int))→ht (cost l)≤2000000) (he:es.length≤300) (hb:∀r,r∈es→0≤r∧r<(n:Int)) (hq:∀x,x∈X→∀q,q∈x→ht q≤60) {p:Int × Rat × Rat} (h:p∈zaY X cost es L cols):ht p.2.1≤200∧ht p.2.2≤8000000:=by
 unfold zaY at h;obtain⟨c,_,hp⟩:=List.mem_flatMap.1 h;exact znm hs he hb (fun t ht'=>zso hq ht') hp
section
variable {P:Program} {ops:Array Oper} {md:Region.Mode} {Q:Exit→Act→World→Prop} {I:World→Prop} {z:Option Nat}
def zol (md:Region.Mode) (ops:Array Oper) (L:Array Bool) (i:Nat):Bool:=(List.range ops.size).all fun k => !L.getD k false || match ops[k]? with
 | some o => !o.after.any fun e=>Region.binds md e && e.on == i
 | none=>true
theorem zi9 {L:Array Bool} {i:Nat}:zol md ops L i=true↔∀k o,ops[k]?=some o→L.getD k false=true→∀e∈o.after,Region.binds md e=true→e.on≠i:=by
 unfold zol;rw[List.all_eq_true];constructor
 ·intro h k o ho hk e he hb heq;have h1:=h k (List.mem_range.2 (Array.getElem?_eq_some_iff.1 ho).1);rw[hk,ho]at h1;simp only[Bool.not_true,Bool.false_or,Bool.not_eq_true',Array.any_eq_false']at h1;have:=h1 e he;simp[hb,heq]at this
 ·intro h k hk
  cases hL:L.getD k false with
  | false=>rfl
  | true =>
   obtain⟨o,ho⟩:∃o,ops[k]?=some o:=⟨_,Array.getElem?_eq_getElem (List.mem_range.1 hk)⟩;rw[ho];simp only[Bool.not_true,Bool.false_or,Bool.not_eq_true',Array.any_eq_false'];intro e he
   cases hb:Region.binds md e with
   | false=>simp
   | true=>have:=h k o ho hL e he hb;simpa using this
def zeb (z:Option Nat) (L:Array Bool):Bool:=match z with
 | none=>true
 | some k => !L.getD k false
def zt5 (md:Region.Mode) (ops:Array Oper) (z:Option Nat) (i:Nat):Bool:=match z with
 | none=>true
 | some k => !(k == i) && match ops[k]? with
  | some o=>o.after.any fun e=>Region.binds md e && e.on == i
  | none=>false
def zdG (P:Program) (md:Region.Mode) (ops:Array Oper) (Q:Exit→Act→World→Prop) (I:World→Prop) (z:Option Nat):Nat→Array Bool→Act→World→Prop
 | 0,L,a,w=>(zeb z L=true→I w)∧Region.ready md ops L=[]∧Q .normal a w
 | f+1,L,a,w=>(zeb z L=true→I w)∧(Region.ready md ops L=[]→Q .normal a w)∧∀i,i∈Region.ready md ops L→wpOp P ops Q i (zdG P md ops Q I z f (L.setIfInBounds i true)) a w
theorem zdG.now:∀{f:Nat} {L:Array Bool} {a:Act} {w:World},zdG P md ops Q I z f L a w→zeb z L=true→I w
 | 0,_,_,_,h=>h.1
 | _+1,_,_,_,h=>h.1
theorem zdG.any:∀(f:Nat) (L:Array Bool) (a:Act) (w:World),zdG P md ops Q I z f L a w→wpAny P md ops Q f L a w
 | 0,_,_,_,h=>h.2
 | f+1,_,_,_,h=>⟨h.2.1,fun i hi=>wpOp_mono (fun a w k=>zdG.any f _ a w k) (h.2.2 i hi)⟩
def zid (P:Program) (ops:Array Oper) (I:World→Prop) (o:Oper) (v:Value) (a:Act):Prop :=
 Region.wanted o (yielded ops a.tmps)=true∧∀w,I w→(execOp a.eval o).run P w=.ok (.value v) w
theorem zid.op {i:Nat} {o:Oper} {v:Value} {a:Act} (hi:ops[i]?=some o) (hy:zid P ops I o v a) {K:Act→World→Prop} {w:World} (hw:I w) (h:K (a.put o.dst v) w):wpOp P ops Q i K a w:=by
 unfold wpOp;simp only[hi,hy.1,if_true,Oper.wp,hy.2 w hw,Oper.upon];exact .inl h
theorem zqD {j:Nat} {oj:Oper} (hj:ops[j]?=some oj) {Y:Act→Prop} (k1:∀a u,Y a→Y (a.put oj.dst u)) (k2:∀(a:Act) d,Y a→Y { a with defers:=d::a.defers }) {K:Act→World→Prop} {a:Act} {w:World} (hy:Y a) (h:wpOp P ops Q j K a w):wpOp P ops Q j (fun a' w'=>Y a'∧K a' w') a w:=by
 unfold wpOp at *
 simp only[hj]at *
 split
 ·rename_i hw;rw[if_pos hw]at h;refine h.imp (fun h=>?_) id;unfold Oper.wp at *
  generalize (execOp a.eval oj).run P w=r at *
  cases r with
  | ok n w' =>
   cases n <;> simp only[Oper.upon]at h ⊢
   case value u=>exact⟨k1 _ _ hy,h⟩
   case skip=>exact⟨k1 _ _ hy,h⟩
   case defer d=>exact⟨k1 _ _ (k2 _ _ hy),h⟩
   case enter f args =>
    refine Calls.mono h fun e w'' he=>?_
    cases e with
    | returned u=>exact⟨k1 _ _ hy,he⟩
    | _=>exact he
   case row row args=>exact Rows.mono h fun u w'' he=>⟨k1 _ _ hy,he⟩
  | halt x w'=>cases x <;> simp only[Oper.upon]at h ⊢ <;> exact h
 ·rename_i hw;rw[if_neg hw]at h;exact⟨k1 _ _ hy,h⟩
theorem zny {oi oj:Oper} {v:Value} (h:oi.apart ops oj=true):Oper.apart ops { oi with op:=.move (.const v),guard:=none } oj=true:=by
 unfold Oper.apart at *
 rw[Bool.and_eq_true]at *
 refine⟨h.1,?_⟩
 cases oj.dst with
 | none=>rfl
 | some d=>rfl
theorem zlN {J:World→Prop} {i:Nat} {oi:Oper} {v:Value} (hi:ops[i]?=some oi) (hsel:Region.noSelect ops=true) (hQ:∀c a w,Q (.panic c) (a.put oi.dst v) w→Q (.panic c) a w) (hts:(zt5 md ops z i=true∧∀w,I w→J w)∨((∀w,J w)∧z≠some i)) :
  ∀(f:Nat) (L:Array Bool) (a:Act) (w:World),(∀j oj,ops[j]?=some oj→j≠i→L.getD j true=false→(∀e∈oj.after,Region.binds md e=true→e.on≠i)→oi.apart ops oj=true)→zol md ops L i=true →
   i∈Region.ready md ops L→zid P ops J oi v a→zdG P md ops Q I z f (L.setIfInBounds i true) (a.put oi.dst v) w→zdG P md ops Q I z (f+1) L a w:=by
 have now:∀{f:Nat} {L:Array Bool} {a:Act} {w:World},zol md ops L i=true→zdG P md ops Q I z f (L.setIfInBounds i true) (a.put oi.dst v) w→(zeb z L=true→I w)∧J w:=fun {f L a w} hy H=>by
  rcases hts with ⟨hz,hJ⟩ | ⟨hJ,hz⟩
  ·have hI:I w:=H.now (by
    cases z with
    | none=>rfl
    | some k =>
     simp only[zt5,Bool.and_eq_true,Bool.not_eq_true',pR]at hz;obtain⟨hki,hk⟩:=hz;show (!(L.setIfInBounds i true).getD k false)=true;rw[Go.getD_set_ne false (Ne.symm hki)]
     cases hL:L.getD k false with
     | false=>rfl
     | true =>
      cases ho:ops[k]? with
      | none=>rw[ho]at hk;cases hk
      | some o =>
       rw[ho]at hk;obtain⟨e,he,hb⟩:=Array.any_eq_true'.1 hk;simp only[Bool.and_eq_true,beq_iff_eq]at hb;exact absurd hb.2 (zi9.1 hy k o ho hL e he hb.1))
   exact⟨fun _=>hI,hJ _ hI⟩
  ·refine⟨fun h=>H.now ?_,hJ w⟩
   cases z with
   | none=>rfl
   | some k =>
    have hki:i≠k:=fun e=>hz (by rw[e]);show (!(L.setIfInBounds i true).getD k false)=true;rw[Go.getD_set_ne false hki];exact h
 intro f
 induction f with
 | zero =>
  intro L a w _ hy hr hY H;refine⟨(now hy H).1,fun h=>(by rw[h]at hr;cases hr),fun j hj=>?_⟩;by_cases hji:j=i
  ·subst hji;exact hY.op hi (now hy H).2 H
  ·have:=ready_mono hj hji;rw[H.2.1]at this;cases this
 | succ f ih =>
  intro L a w hfree hyt hr hy H;refine⟨(now hyt H).1,fun h=>(by rw[h]at hr;cases hr),fun j hj=>?_⟩;by_cases hji:j=i
  ·subst hji;exact hy.op hi (now hyt H).2 H
  ·have h1:=H.2.2 j (ready_mono hj hji);obtain⟨hjun,oj,hoj,hall⟩:=mem_ready.1 hj
   have hnot:∀e∈oj.after,Region.binds md e=true→e.on≠i:=fun e he hb heq=>by
    have h1:=hall e he hb;have h0:=(mem_ready.1 hr).1;rw[heq]at h1;rcases Nat.lt_or_ge i L.size with h' | h'
    ·simp[h']at h0 h1;rw[h0]at h1;cases h1
    ·simp[Array.getElem?_eq_none h']at h1
   have hap:=hfree j oj hoj hji hjun hnot;obtain⟨_,_,hap3⟩:=Oper.apart_spec hap;have hsi:=fun cs b=>Region.noSelect_spec hsel i oi cs b hi
   have h2:=wpOp_put (oi:={ oi with op:=.move (.const v),guard:=none }) hoj (zny hap) (fun cs b e=>by cases e) (fun cs b=>Region.noSelect_spec hsel j oj cs b hoj) hQ
    (.inl ⟨rfl,fun w=>rfl⟩) h1
   have h3:=zqD (Y:=zid P ops J oi v) hoj (fun a u hy=>⟨by rw[wanted_put oi a oj.dst u hap3];exact hy.1,fun w hw=>by rw[execOp_put oi hsi a oj.dst u hap3];exact hy.2 w hw⟩) (fun a d hy=>hy) hy h2
   have hfree':∀k ok,ops[k]?=some ok→k≠i→(L.setIfInBounds j true).getD k true=false→(∀e∈ok.after,Region.binds md e=true→e.on≠i)→oi.apart ops ok=true:=fun k ok hk hki hun hno=>by
    refine hfree k ok hk hki ?_ hno;by_cases hjk:j=k
    ·subst hjk;exact hjun
    ·rw[Go.getD_set_ne true hjk]at hun;exact hun
   have hyt':zol md ops (L.setIfInBounds j true) i=true:=zi9.2 fun k o ho hk=>by
    by_cases hjk:j=k
    ·subst hjk;cases hoj.symm.trans ho;exact hnot
    ·rw[Go.getD_set_ne false hjk]at hk;exact zi9.1 hyt k o ho hk
   refine wpOp_mono (fun a' w' h4=>ih (L.setIfInBounds j true) a' w' hfree' hyt' (ready_mono hr (Ne.symm hji)) h4.1 ?_) h3;rw[Array.setIfInBounds_comm _ _ hji];exact h4.2.2
end
def EVG (I:World→Prop) (z:Option Nat) (P:Program) (n:Nat) (ops:Array Oper) (fuel:Nat) (L:Array Bool) (env:Env) (bx:Bxs) (H:Hs) (K:Env→Bxs→Hs→Prop):Prop :=
 ∀W0 β a W,Rel n W0 H.base β env bx H a W→zdG P .any ops (fun e a W=>e=.normal∧zjK n W0 H.base (fun _ env bx H=>K env bx H) .normal a W) I z fuel L a W
abbrev EVI (z:Option Nat) (p:Nat × TypeId × List Value) (P:Program) (n:Nat) (ops:Array Oper) (fuel:Nat) (L:Array Bool) (env:Env) (bx:Bxs) (H:Hs) (K:Env→Bxs→Hs→Prop):Prop :=
 EVG (fun W=>Box W p.1 p.2.2.toArray p.2.1) z P n ops fuel L env bx H K
section
variable {I:World→Prop} {z:Option Nat} {p:Nat × TypeId × List Value} {n:Nat} {ops:Array Oper} {fuel:Nat} {L:Array Bool} {env:Env} {bx:Bxs} {H:Hs} {K:Env→Bxs→Hs→Prop} {d:Nat} {o:Oper} {v:Value}
theorem EVG.start (I:World→Prop) (z:Option Nat) {id:Nat} {l:List Oper} {Q:EQ} (h:EVG I z prog n l.toArray l.length (Array.replicate l.length false) env bx H (fun env bx H=>Q .normal env bx H)) (hm:Tryz.prog.follows .mixedOrders=true:=by kernel_rfl):EV prog n (.region id l.toArray true) env bx H Q :=
 EVA.start hm fun W0 β a W r=>(h W0 β a W r).any _ _ _ _
theorem EVI.start (z:Option Nat) (p:Nat × TypeId × List Value) {id:Nat} {l:List Oper} {Q:EQ} (h:EVI z p prog n l.toArray l.length (Array.replicate l.length false) env bx H (fun env bx H=>Q .normal env bx H)) (hm:Tryz.prog.follows .mixedOrders=true:=by kernel_rfl):EV prog n (.region id l.toArray true) env bx H Q:=EVG.start _ z h hm
theorem EVG.take {J:World→Prop} (i:Nat) (hts:(zt5 .any ops z i=true∧∀w,I w→J w)∨((∀w,J w)∧z≠some i)) (hi:ops[i]?=some o) (hs:Region.noSelect ops=true) (hf:Region.free .any ops L i=true) (hr:(Region.ready .any ops L).contains i=true) (hy:zol .any ops L i=true) (hw:zag ops env o=some true) (hd:o.dst=some d) (hn:Nat.blt d n=true)
  (hx:∀(β:Nat→Nat) (a:Act) (W:World),(∀y s,env.op y=some s→s.rep β H.ro (a.eval y))→J W→(execOp a.eval o).run prog W=.ok (.value v) W)
  (h:EVG I z prog n ops fuel (L.setIfInBounds i true) ((d,.v v)::env) bx H K):EVG I z prog n ops (fuel+1) L env bx H K:=fun W0 β a W r=>by
 refine zlN (v:=v) hi hs (fun c a w e=>by cases e.1) hts fuel L a W (Region.free_spec hi hf) hy (by simpa using hr) ⟨r.want hw,fun w hI=>hx β a w (fun y s hy=>r.op hy) hI⟩ ?_;rw[hd];exact h W0 β _ W (r.put hn rfl rfl)
theorem IV (i:Nat) (h:EVG I z prog n ops fuel (L.setIfInBounds i true) ((d,.v v)::env) bx H K) (hi:ops[i]?=some o:=by exact rfl) (hs:Region.noSelect ops=true:=by kernel_rfl) (hf:Region.free .any ops L i=true:=by kernel_rfl) (hr:(Region.ready .any ops L).contains i=true:=by kernel_rfl) (hy:zol .any ops L i=true:=by kernel_rfl) (hts:(z == some i)=false:=by kernel_rfl) (hw:zag ops env o=some true:=by exact rfl) (hd:o.dst=some d:=by exact rfl) (hn:Nat.blt d n=true:=by exact rfl)
  (hv:zrD Tryz.tab env [] o.op=some (.v v):=by exact rfl) (hpl:zj5 env o.op.operands.toList=true:=by exact rfl):EVG I z prog n ops (fuel+1) L env bx H K :=
 EVG.take (J:=fun _=>True) i (.inr ⟨fun _=>trivial,fun e=>by rw[e]at hts;simp at hts⟩) hi hs hf hr hy hw hd hn (fun β a W he _=>by
  obtain⟨x,hx,hr⟩:=zcK (β:=β) (H:=fun _=>none) (W:=W) (a:=a) tO hv (fun y s hm hy=>zj6 (zfe hpl y (by simpa using hm)) hy (he y s hy)) (fun i T cs e=>by cases e) (fun b c e=>by cases e);have e:x=v:=hr;rw[←e];exact hx) h
theorem IN (i:Nat) {x:Operand} {c:Addr} (h:EVG I z prog n ops fuel (L.setIfInBounds i true) ((d,.v (.pointer (some c)))::env) bx H K) (hi:ops[i]?=some o:=by exact rfl) (hs:Region.noSelect ops=true:=by kernel_rfl) (hf:Region.free .any ops L i=true:=by kernel_rfl) (hr:(Region.ready .any ops L).contains i=true:=by kernel_rfl) (hy:zol .any ops L i=true:=by kernel_rfl) (hts:(z == some i)=false:=by kernel_rfl) (hw:zag ops env o=some true:=by exact rfl) (hd:o.dst=some d:=by exact rfl) (hn:Nat.blt d n=true:=by exact rfl)
  (ho:o.op=.nilCheck x:=by exact rfl) (hx:env.op x=some (.v (.pointer (some c))):=by exact rfl):EVG I z prog n ops (fuel+1) L env bx H K :=
 EVG.take (J:=fun _=>True) i (.inr ⟨fun _=>trivial,fun e=>by rw[e]at hts;simp at hts⟩) hi hs hf hr hy hw hd hn (fun β a W he _=>ziT ho hx _ W fun y x _ hy=>he y _ hy) h
theorem IF (i:Nat) {x:Operand} {T:TypeId} {te:TE} {f b q fo sz:Nat} {ag:Bool} (h:EVG I z prog n ops fuel (L.setIfInBounds i true) ((d,.v (.pointer (some ⟨b,q+fo,none⟩)))::env) bx H K) (hi:ops[i]?=some o:=by exact rfl) (hs:Region.noSelect ops=true:=by kernel_rfl) (hf:Region.free .any ops L i=true:=by kernel_rfl) (hr:(Region.ready .any ops L).contains i=true:=by kernel_rfl) (hy:zol .any ops L i=true:=by kernel_rfl) (hts:(z == some i)=false:=by kernel_rfl) (hw:zag ops env o=some true:=by exact rfl) (hd:o.dst=some d:=by exact rfl) (hn:Nat.blt d n=true:=by exact rfl)
  (ho:o.op=.fieldAddr T x f:=by exact rfl) (hx:env.op x=some (.v (.pointer (some ⟨b,q,none⟩))):=by exact rfl) (ht:Tryz.tab.get T=some te:=by exact rfl) (hfd:te.fields[f]?=some (fo,ag,sz):=by exact rfl):EVG I z prog n ops (fuel+1) L env bx H K :=
 EVG.take (J:=fun _=>True) i (.inr ⟨fun _=>trivial,fun e=>by rw[e]at hts;simp at hts⟩) hi hs hf hr hy hw hd hn (fun β a W he _=>ziR tO ho ht hfd hx _ W fun y x _ hy=>he y _ hy) h
theorem IL0 (i:Nat) {x:Operand} {T:TypeId} {te:TE} {q:Nat} {l:List Value} (h:EVI z p prog n ops fuel (L.setIfInBounds i true) ((d,.v v)::env) bx H K) (hi:ops[i]?=some o:=by exact rfl) (hs:Region.noSelect ops=true:=by kernel_rfl) (hf:Region.free .any ops L i=true:=by kernel_rfl) (hr:(Region.ready .any ops L).contains i=true:=by kernel_rfl) (hy:zol .any ops L i=true:=by kernel_rfl) (hts:zt5 .any ops z i=true:=by kernel_rfl) (hw:zag ops env o=some true:=by exact rfl) (hd:o.dst=some d:=by exact rfl) (hn:Nat.blt d n=true:=by exact rfl)
  (ho:o.op=.load T x:=by exact rfl) (hx:env.op x=some (.v (.pointer (some ⟨p.1,q,none⟩))):=by exact rfl) (ht:Tryz.tab.get T=some te:=by exact rfl) (hl:(p.2.2.drop q).take te.size=l:=by exact rfl) (hlen:l.length=te.size:=by exact rfl) (hv:ze1 te.agg l=some v:=by exact rfl):EVI z p prog n ops (fuel+1) L env bx H K :=
 EVG.take (J:=fun w=>Box w p.1 p.2.2.toArray p.2.1) i (.inl ⟨hts,fun _ h=>h⟩) hi hs hf hr hy hw hd hn (fun β a W he hB=>by
  have ex:a.eval x=.pointer (some ⟨p.1,q,none⟩):=he x _ hx;have hrg:=hB.range q te.size;rw[hl]at hrg;have hrun:=za4 (tO.get ht) hrg hlen hv;unfold execOp;simp only[ho,ex,Sem.run_bind,hrun,Result.andThen_ok,Sem.run_pure]) h
theorem EVG.step (hI:zeb z L=true→∀W0 β a W,Rel n W0 H.base β env bx H a W→I W) (hne:(Region.ready .any ops L).isEmpty=false) (hk:∀q,q∈Region.ready .any ops L→∃o,ops[q]?=some o∧EVL prog n ops [o] env bx H (fun e env bx H'=>e=.normal∧EVG I z prog n ops fuel (L.setIfInBounds q true) env bx H' K)):EVG I z prog n ops (fuel+1) L env bx H K:=fun W0 β a W r=>by
 refine⟨fun hn=>hI hn W0 β a W r,fun e=>(by rw[e]at hne;cases hne),fun q hq=>?_⟩;obtain⟨o,ho,h⟩:=hk q hq;have h1:=h W0 β a W r
 have hkk:∀a W,zjK n W0 H.base (fun e env bx H'=>e=.normal∧EVG I z prog n ops fuel (L.setIfInBounds q true) env bx H' K) .normal a W→zdG prog .any ops (fun e a W=>e=.normal∧zjK n W0 H.base (fun _ env bx H=>K env bx H) .normal a W) I z fuel (L.setIfInBounds q true) a W:=by
  rintro a W ⟨β',env',bx',H',hbase,⟨_,hE⟩,rel⟩;have:=hE W0 β' a W (by rw[hbase];exact rel)
  rwa [hbase]at this
 unfold wpOp;simp only[ho];unfold wpList at h1;split
 ·rename_i hw;rw[if_pos hw]at h1;rcases h1 with h1 | ⟨h1,h2⟩
  ·refine .inl (Oper.wp_exits (fun c a W hq=>?_) (fun hq=>?_) (Oper.wp_mono (fun a W h=>hkk a W h) h1))
   ·obtain⟨_,_,_,_,_,⟨e,_⟩,_⟩:=hq;cases e
   ·obtain⟨a0,w0,_,_,_,_,_,⟨e,_⟩,_⟩:=hq;cases e
  ·obtain⟨a0,w0,_,_,_,_,_,⟨e,_⟩,_⟩:=h2;cases e
 ·rename_i hw;rw[if_neg hw]at h1;exact hkk _ _ h1
theorem EVG.nil (hI:zeb z L=true→∀W0 β a W,Rel n W0 H.base β env bx H a W→I W) (hr:(Region.ready .any ops L).isEmpty=true) (h:K env bx H):EVG I z prog n ops fuel L env bx H K:=fun W0 β a W r=>by
 have hr':=List.isEmpty_iff.1 hr;have hI:=fun hn=>hI hn W0 β a W r
 cases fuel with
 | zero=>exact⟨hI,hr',rfl,β,env,bx,H,rfl,h,r⟩
 | succ f=>exact⟨hI,fun _=>⟨rfl,β,env,bx,H,rfl,h,r⟩,fun i hi=>by rw[hr']at hi;cases hi⟩
theorem EVG.one (k:Nat) (hI:zeb z L=true→∀W0 β a W,Rel n W0 H.base β env bx H a W→I W) (hr:(Region.ready .any ops L == [k])=true) (ho:ops[k]?=some o) (h:EVL prog n ops [o] env bx H (fun e env bx H'=>e=.normal∧EVG I z prog n ops fuel (L.setIfInBounds k true) env bx H' K)):EVG I z prog n ops (fuel+1) L env bx H K:=by
 have hr':=eq_of_beq hr;refine EVG.step hI (by rw[hr'];rfl) fun q hq=>?_;rw[hr',pL]at hq;subst hq;exact⟨o,ho,h⟩
theorem EVG.two {o':Oper} (k k':Nat) (hI:zeb z L=true→∀W0 β a W,Rel n W0 H.base β env bx H a W→I W) (hr:(Region.ready .any ops L == [k,k'])=true) (ho:ops[k]?=some o) (ho':ops[k']?=some o') (h:EVL prog n ops [o] env bx H (fun e env bx H'=>e=.normal∧EVG I z prog n ops fuel (L.setIfInBounds k true) env bx H' K))
  (h':EVL prog n ops [o'] env bx H (fun e env bx H'=>e=.normal∧EVG I z prog n ops fuel (L.setIfInBounds k' true) env bx H' K)):EVG I z prog n ops (fuel+1) L env bx H K:=by
 have hr':=eq_of_beq hr;refine EVG.step hI (by rw[hr'];rfl) fun q hq=>?_;rw[hr']at hq;rcases List.mem_cons.1 hq with rfl | hq
 ·exact⟨o,ho,h⟩
 ·obtain rfl:q=k':=by simpa using hq
  exact⟨o',ho',h'⟩
theorem zuP {jj:Nat} (hj:zeb z L=false∨H.ow[jj]?=some p):zeb z L=true→∀W0 β a W,Rel n W0 H.base β env bx H a W→Box W p.1 p.2.2.toArray p.2.1:=fun hn W0 β a W r=>by
 rcases hj with hj | hj
 ·rw[hj]at hn;cases hn
 ·exact(r.own jj p.1 p.2.1 p.2.2 hj).1
theorem EVI.one (k jj:Nat) (hj:zeb z L=false∨H.ow[jj]?=some p) (hr:(Region.ready .any ops L == [k])=true) (ho:ops[k]?=some o) (h:EVL prog n ops [o] env bx H (fun e env bx H'=>e=.normal∧EVI z p prog n ops fuel (L.setIfInBounds k true) env bx H' K)):EVI z p prog n ops (fuel+1) L env bx H K:=EVG.one k (zuP hj) hr ho h
theorem EVI.two {o':Oper} (k k' jj:Nat) (hj:zeb z L=false∨H.ow[jj]?=some p) (hr:(Region.ready .any ops L == [k,k'])=true) (ho:ops[k]?=some o) (ho':ops[k']?=some o') (h:EVL prog n ops [o] env bx H (fun e env bx H'=>e=.normal∧EVI z p prog n ops fuel (L.setIfInBounds k true) env bx H' K))
  (h':EVL prog n ops [o'] env bx H (fun e env bx H'=>e=.normal∧EVI z p prog n ops fuel (L.setIfInBounds k' true) env bx H' K)):EVI z p prog n ops (fuel+1) L env bx H K:=EVG.two k k' (zuP hj) hr ho ho' h h'
theorem EVI.nil (jj:Nat) (hj:zeb z L=false∨H.ow[jj]?=some p) (hr:(Region.ready .any ops L).isEmpty=true) (h:K env bx H):EVI z p prog n ops fuel L env bx H K:=EVG.nil (zuP hj) hr h
end
def zos (dv:Value) (D:Ows) (s:Int):Prop:=(dv=.pointer none∧D=[])∨∃bd T,dv=.pointer (some ⟨bd,0,none⟩)∧D=[(bd,T,[.int .u64 s])]∧0≤s
theorem zfT {A c B:List Value} {k s f m q:Nat} (hA:A.length=k*s) (hq:q=k*s+f) (hf:f+m≤c.length):q+m≤(A++(c++B)).length:=by
 rw[qJ,qJ,hA,hq];omega
section
variable {P:Program} {n:Nat} {ops:Array Oper} {o1 o2:Oper} {rest:List Oper} {env:Env} {bx:Bxs} {H:Hs} {Q:EQ} {d d1:Nat}
end
end
section
section
variable {α:Type}
variable {lt:α→α→Bool}
end
end
section
open Go.RowKit _root_.Go.Proofs.Tryz
section
variable {α:Type} {enc:α→Value} {w w':World} {B:Nat} {T:TypeId} {cap:Nat} {l:List α}
end
abbrev zux (deep least:Int) (g1 g2 g3:Value):Value:=.agg #[.int .i64 deep,.int .i64 least,g1,g2,g3]
abbrev zm3 (deep least:Int) (g:Rat):Prop:=deep≥0∧deep≤10∧least≥1∧least≤300∧0≤g
theorem zrP (q:Rat):(q.num.sign≥0)↔0≤q:=⟨fun h=>Rat.num_nonneg.1 (Int.sign_nonneg_iff.1 h),fun h=>Int.sign_nonneg_iff.2 (Rat.num_nonneg.2 h)⟩
theorem ziD {p:Prop} [Decidable p] (h:¬p):Value.bool false=.bool (decide p):=congrArg Value.bool (qC h).symm
def zuN (n N:Nat) (ck:Int) (fb:Bool) (rows:List Int):Int:=if n=N then (if ck=0∧fb=true∧∀r,r∈rows→0≤r∧r<(n:Int) then 0 else 1) else 5
theorem zsd {n N:Nat} {ck:Int} {fb:Bool} {rows:List Int} (h:n≠N):zuN n N ck fb rows=5:=if_neg h
theorem zmd {n:Nat} {ck:Int} {fb:Bool} {rows:List Int} (h:¬(ck=0∧fb=true∧∀r,r∈rows→0≤r∧r<(n:Int))):zuN n n ck fb rows=1:=(if_pos rfl).trans (if_neg h)
theorem zsc {n:Nat} {rows:List Int} (h:∀r,r∈rows→0≤r∧r<(n:Int)):zuN n n 0 true rows=0:=(if_pos rfl).trans (if_pos ⟨rfl,rfl,h⟩)
end
section
structure Tr where
 kd:Int
 cl:Int
 w:Int
 ns:List Nd
end
section
open Go.RowKit _root_.Go.Proofs.Tryz
theorem zmG {α β:Type} {R:α→β→Prop} {xs:List α} {ys:List β} (h:xs.length=ys.length∧∀(j:Nat) (x:α) (y:β),xs[j]?=some x→ys[j]?=some y→R x y) {x:α} {y:β} (k:R x y):(xs++[x]).length=(ys++[y]).length∧∀(j:Nat) (x':α) (y':β),(xs++[x])[j]?=some x'→(ys++[y])[j]?=some y'→R x' y':=by
 refine⟨by simp[h.1],fun j x' y' e1 e2=>?_⟩;by_cases hj:j<xs.length
 ·rw[qM hj]at e1;rw[qM (by rw[←h.1];exact hj)]at e2;exact h.2 j x' y' e1 e2
 ·rw[qL (by omega)]at e1;rw[qL (by rw[←h.1];omega),←h.1]at e2
  have h0:j-xs.length=0:=by
   have:=(qE.1 e1).1;simp at this;omega
  rw[h0]at e1 e2;cases e1;cases e2;exact k
end
section
inductive Sub (T:List Nd) (w:Int):Nat→Nat→Nat→Prop
 | leaf {k h:Nat} {n:Nd}:T[k]?=some n→n.col = -1→n.left=0→n.right=0→n.at'=0→Sub T w k h (k+1)
 | node {k h m e:Nat} {n:Nd}:T[k]?=some n→0≤n.col→n.col<w→n.left=((k+1:Nat):Int)→n.right=(m:Int)→Sub T w (k+1) h m→Sub T w m h e→Sub T w k (h+1) e
theorem Sub.lt {T:List Nd} {w:Int} {k h e:Nat} (h0:Sub T w k h e):k<e∧e≤T.length:=by
 induction h0 with
 | leaf hn _ _ _ _ =>
  have:=(qE.1 hn).1;omega
 | node _ _ _ _ _ _ _ ih1 ih2=>omega
structure OkN (kd cl:Int) (n:Nd):Prop where
 rows:1≤n.rows∧n.rows≤1048576
 cost:0≤n.cost
 len:(n.counts.length:Int)=cl
 pos:∀c,c∈n.counts→0≤c
 sum:kd=1→n.counts.sum=n.rows
 cls:n.cls=(topN n.counts n.counts.length:Int)
 value:kd=1→n.value=0
 small:ht n.at'≤200∧ht n.cost≤2000000∧ht n.value≤4000
structure OkC (n a b:Nd):Prop where
 rows:n.rows=a.rows+b.rows
 counts:∀k:Nat,n.counts.getD k 0=a.counts.getD k 0+b.counts.getD k 0
 cost:a.cost+b.cost≤n.cost
def zlS (kd cl:Int) (T:List Nd) (i:Nat):Prop:=∃n,T[i]?=some n∧OkN kd cl n∧(n.col ≠ -1→0≤n.col∧0≤n.left∧0≤n.right∧∃a b,T[n.left.toNat]?=some a∧T[n.right.toNat]?=some b∧OkC n a b)
structure zm4 (p:GP) (kd cl:Int) (w:Nat):Prop where
 kind:(kd=1∧1≤cl∧cl≤12)∨(kd=2∧cl=0)
 rowsX:p.X.length≤300
 wide:∀x,x∈p.X→x.length=w
 small:∀x,x∈p.X→∀q,q∈x→ht q≤60
 clen:∀l,((p.cnt l).length:Int)=cl
 cadd:∀r l m:List Int,r.Perm (l++m)→∀k:Nat,(p.cnt r).getD k 0=(p.cnt l).getD k 0+(p.cnt m).getD k 0
 cpos:∀l c,c∈p.cnt l→0≤c
 csum:kd=1→∀l,(∀r,r∈l→0≤r∧r<(p.X.length:Int))→(p.cnt l).sum=(l.length:Int)
 zero:kd=1→∀l,p.mean l=0
 cost0:∀l,0≤p.cost l
 csm:∀l:List Int,l.length≤300→(∀r,r∈l→0≤r∧r<(p.X.length:Int))→ht (p.cost l)≤2000000
 msm:∀l:List Int,l.length≤300→(∀r,r∈l→0≤r∧r<(p.X.length:Int))→ht (p.mean l)≤4000
 gain:0≤p.gain
 cols:∀s c,c∈(p.cols s).1→0≤c∧c<(w:Int)
theorem zlb (l:List Int) (f:Int→Bool):l.Perm (l.filter f++l.filter fun x => !f x):=by
 induction l with
 | nil=>exact List.Perm.nil
 | cons x l ih =>
  cases h:f x with
  | true=>rw[List.filter_cons_of_pos h,List.filter_cons_of_neg (by simp[h])];exact List.Perm.cons x ih
  | false=>rw[List.filter_cons_of_neg (by simp[h]),List.filter_cons_of_pos (by simp[h])];exact(List.Perm.cons x ih).trans List.perm_middle.symm
theorem zgm {p:GP} {kd cl:Int} {w:Nat} (hp:zm4 p kd cl w) {rows:List Int} {s c:Int} {t:Rat} (hb:∀r,r∈rows→0≤r∧r<(p.X.length:Int)) (h:p.cut rows (p.cols s).1=some (c,t)) :
  (0≤c∧c<(w:Int))∧ht t≤200∧1≤(za5 p.X c t rows).length∧1≤(zaB p.X c t rows).length∧rows.Perm (za5 p.X c t rows++zaB p.X c t rows)∧p.cost (za5 p.X c t rows)+p.cost (zaB p.X c t rows)≤p.cost rows:=by
 unfold GP.cut at h
 cases hbe:p.best rows (p.cols s).1 with
 | none=>rw[hbe]at h;cases h
 | some q =>
  obtain⟨c',t',g⟩:=q;rw[hbe]at h;dsimp only at h;split at h
  ·cases h
  ·rename_i hg;cases h;have hf:=zcb (zaY p.X p.cost rows (max 1 p.least) (p.cols s).1);rw[show (zaY p.X p.cost rows (max 1 p.least) (p.cols s).1).foldl zqL none=some (c,t,g) from hbe]at hf;have hm:=hf.1;unfold zaY zhG at hm;obtain⟨c2,hc2,hm⟩:=List.mem_flatMap.1 hm;obtain⟨t2,ht2,hm⟩:=List.mem_flatMap.1 hm;split at hm
   ·rename_i hL;cases pL.1 hm;have hcw:=hp.cols s c hc2
    have hall:∀r,r∈rows→zbO p.X c r=true:=fun r hr=>by
     obtain⟨R,rfl⟩:=qj (hb r hr).1;have hR:=(hb _ hr).2;unfold zbO;obtain⟨x,hx⟩:∃x,p.X[R]?=some x:=⟨_,qA oM⟩;rw[qU,qB,hx,Option.getD_some,hp.wide x (qF hx)];simp;omega
    have hlo:za5 p.X c t rows=rows.filter fun r=>decide (zbi p.X c r≤t):=by
     unfold za5;exact List.filter_congr fun r hr=>by rw[hall r hr,Bool.true_and]
    have hhi:zaB p.X c t rows=rows.filter fun r => !decide (zbi p.X c r≤t):=by
     unfold zaB;exact List.filter_congr fun r hr=>by rw[hall r hr,Bool.true_and]
    have hpm:rows.Perm (za5 p.X c t rows++zaB p.X c t rows):=by rw[hlo,hhi];exact zlb _ _
    have h0:=hp.gain;refine⟨hcw,zso hp.small ht2,by omega,by omega,hpm,?_⟩;have:p.gain<p.cost rows-(p.cost (za5 p.X c t rows)+p.cost (zaB p.X c t rows)):=Rat.not_le.1 hg;grind
   ·cases hm
theorem zuo {p:GP} {kd cl:Int} {w:Nat} (hp:zm4 p kd cl w) {rows:List Int} (h1:1≤rows.length) (h2:rows.length≤300) (hb:∀r,r∈rows→0≤r∧r<(p.X.length:Int)) {c l r:Int} {t:Rat} (ht':ht t≤200):OkN kd cl { p.nd rows with col:=c,left:=l,right:=r,at':=t } :=
 ⟨⟨by show 1≤(rows.length:Int);omega,by show (rows.length:Int)≤1048576;omega⟩,hp.cost0 rows,hp.clen rows,hp.cpos rows,fun e=>hp.csum e rows hb,rfl,fun e=>hp.zero e rows,ht',hp.csm rows h2 hb,hp.msm rows h2 hb⟩
theorem zs1 {p:GP} {kd cl:Int} {w:Nat} (hp:zm4 p kd cl w):∀(d k:Nat) (rows:List Int) (s:Int),1≤rows.length→rows.length≤300→(∀r,r∈rows→0≤r∧r<(p.X.length:Int))→∀T:List Nd,(∀(j:Nat) (n:Nd),(p.grow d k rows s).1[j]?=some n→T[k+j]?=some n) →
  Sub T w k d (k+(p.grow d k rows s).1.length)∧(∃n,T[k]?=some n∧n.rows=(rows.length:Int)∧n.counts=p.cnt rows∧n.cost=p.cost rows)∧∀j,j<(p.grow d k rows s).1.length→zlS kd cl T (k+j):=by
 have single:∀(d k:Nat) (rows:List Int),1≤rows.length→rows.length≤300→(∀r,r∈rows→0≤r∧r<(p.X.length:Int))→∀T:List Nd,(∀(j:Nat) (n:Nd),[p.nd rows][j]?=some n→T[k+j]?=some n) →
   Sub T w k d (k+1)∧(∃n,T[k]?=some n∧n.rows=(rows.length:Int)∧n.counts=p.cnt rows∧n.cost=p.cost rows)∧∀j,j<1→zlS kd cl T (k+j):=by
  intro d k rows h1 h2 hb T hT;have h0:=hT 0 _ rfl;rw[qY]at h0;refine⟨.leaf h0 rfl rfl rfl rfl,⟨_,h0,rfl,rfl,rfl⟩,fun j hj=>?_⟩;obtain rfl:j=0:=oM;refine⟨_,by rw[qY];exact h0,zuo hp h1 h2 hb (c:=-1) (l:=0) (r:=0) (t:=0) (by rw[zcD];decide),fun e=>absurd rfl e⟩
 intro d
 induction d with
 | zero =>
  intro k rows s h1 h2 hb T hT;rw[GP.grow_zero]at hT ⊢;exact single 0 k rows h1 h2 hb T hT
 | succ d ih =>
  intro k rows s h1 h2 hb T hT
  cases hc:p.cut rows (p.cols s).1 with
  | none =>
   rw[GP.grow_none hc]at hT ⊢;exact single (d+1) k rows h1 h2 hb T hT
  | some ct =>
   obtain⟨c,t⟩:=ct;obtain⟨hcw,htb,hl1,hr1,hpm,hcost⟩:=zgm hp hb hc;have hll:(za5 p.X c t rows).length≤300:=qI (List.length_filter_le _ _) h2;have hhl:(zaB p.X c t rows).length≤300:=qI (List.length_filter_le _ _) h2;have hlm:∀r,r∈za5 p.X c t rows→0≤r∧r<(p.X.length:Int):=fun r hr=>hb r (List.mem_filter.mp hr).1;have hhm:∀r,r∈zaB p.X c t rows→0≤r∧r<(p.X.length:Int):=fun r hr=>hb r (List.mem_filter.mp hr).1;rw[GP.grow_some hc]at hT ⊢;have hLl:=p.grow_len d (k+1) (za5 p.X c t rows) (p.cols s).2;have ihL:=ih (k+1) (za5 p.X c t rows) (p.cols s).2 hl1 hll hlm T;generalize p.grow d (k+1) (za5 p.X c t rows) (p.cols s).2=L at *
   obtain⟨Ls,s2⟩:=L;have hRl:=p.grow_len d (k+1+Ls.length) (zaB p.X c t rows) s2;have ihR:=ih (k+1+Ls.length) (zaB p.X c t rows) s2 hr1 hhl hhm T;dsimp only at hT hLl ihL ⊢;generalize p.grow d (k+1+Ls.length) (zaB p.X c t rows) s2=R at *
   obtain⟨Rs,s3⟩:=R;dsimp only at hT hRl ihR ⊢;have h0:=hT 0 _ rfl;rw[qY]at h0
   obtain⟨sL,⟨a,ha,ha1,ha2,ha3⟩,nL⟩:=ihL (fun j n hj=>by
    have:=hT (j+1) n (by rw[pN,qM (qE.1 hj).1];exact hj);rw[show k+1+j=k+(j+1) by omega];exact this)
   obtain⟨sR,⟨b,hb',hb1,hb2,hb3⟩,nR⟩:=ihR (fun j n hj=>by
    have:=hT (j+Ls.length+1) n (by rw[pN,qL oM,Nat.add_sub_cancel];exact hj);rw[show k+1+Ls.length+j=k+(j+Ls.length+1) by omega];exact this)
   have hlen:rows.length=(za5 p.X c t rows).length+(zaB p.X c t rows).length:=by rw[hpm.length_eq,qJ]
   have hroot:zlS kd cl T k:=by
    refine⟨_,h0,zuo hp h1 h2 hb htb,fun _=>⟨hcw.1,Int.natCast_nonneg _,Int.natCast_nonneg _,a,b,by rw[qU];exact ha,by rw[qU];exact hb',⟨?_,fun q=>?_,?_⟩⟩⟩
    ·rw[ha1,hb1];show (rows.length:Int)=_;omega
    ·rw[ha2,hb2];exact hp.cadd _ _ _ hpm q
    ·rw[ha3,hb3];exact hcost
   refine⟨?_,⟨_,h0,rfl,rfl,rfl⟩,fun j hj=>?_⟩
   ·rw[qR,qJ,show k+(Ls.length+Rs.length+1)=k+1+Ls.length+Rs.length by omega];exact .node h0 hcw.1 hcw.2 rfl rfl sL sR
   ·rw[qR,qJ]at hj
    cases j with
    | zero=>exact hroot
    | succ j =>
     by_cases h:j<Ls.length
     ·rw[show k+(j+1)=k+1+j by omega];exact nL j h
     ·rw[show k+(j+1)=k+1+Ls.length+(j-Ls.length) by omega];exact nR _ oM
structure zcf (t:Tr):Prop where
 kind:(t.kd=1∧1≤t.cl∧t.cl≤12)∨(t.kd=2∧t.cl=0)
 wide:1≤t.w∧t.w≤20
 len:t.ns.length≤2000
 sub:∃h,h≤10∧Sub t.ns t.w 0 h t.ns.length
 nodes:∀i,i<t.ns.length→zlS t.kd t.cl t.ns i
end
section
open Go.RowKit _root_.Go.Proofs.Tryz
abbrev zu7 (kd cl w:Int) (vn:Value):Value:=.agg #[.int .i64 kd,.int .i64 cl,.int .i64 w,vn]
theorem zc8 {l:List Int} (h:∀c,c∈l→0≤c) (k:Nat):0≤(l.take k).sum∧(l.take k).sum≤l.sum:=by
 have h0:∀m:List Int,(∀c,c∈m→0≤c)→0≤m.sum:=fun m=>by
  induction m with
  | nil=>exact fun _=>Int.le_refl 0
  | cons c m ih=>intro hm;rw[List.sum_cons];have:=hm c (qh ..);have:=ih fun c hc=>hm c (qn _ hc);omega
 have e:l.sum=(l.take k).sum+(l.drop k).sum:=by rw[←List.sum_append,List.take_append_drop]
 have h1:=h0 (l.take k) fun c hc=>h c (List.mem_of_mem_take hc);have h2:=h0 (l.drop k) fun c hc=>h c (List.mem_of_mem_drop hc);omega
theorem ztH {q:Rat} (h:0≤q):¬q.num.sign<0:=by
 have:=Rat.num_nonneg.2 h;intro k;have:=Int.sign_nonneg_iff.2 this;omega
theorem Sub.end0 {T:List Nd} {w:Int} {h e:Nat} (h0:Sub T w 0 h e):0<T.length:=by
 have:=h0.lt;omega
def zfD (z:Int):Prop:=-9223372036854775808≤z∧z<9223372036854775808
structure zlT (kd cl:Int) (n:Nat) (cost mean:List Int→Rat) (cnt:List Int→List Int):Prop where
 kind:(kd=1∧1≤cl∧cl≤12)∨(kd=2∧cl=0)
 clen:∀l,((cnt l).length:Int)=cl
 cadd:∀r l m:List Int,r.Perm (l++m)→∀k:Nat,(cnt r).getD k 0=(cnt l).getD k 0+(cnt m).getD k 0
 cpos:∀l c,c∈cnt l→0≤c
 csum:kd=1→∀l,(∀r,r∈l→0≤r∧r<(n:Int))→(cnt l).sum=(l.length:Int)
 zero:kd=1→∀l,mean l=0
 cost0:∀l,0≤cost l
 csm:∀l:List Int,l.length≤300→(∀r,r∈l→0≤r∧r<(n:Int))→ht (cost l)≤2000000
 msm:∀l:List Int,l.length≤300→(∀r,r∈l→0≤r∧r<(n:Int))→ht (mean l)≤4000
theorem zg8:∀l:List Rat,(∀q,q∈l→0≤q)→0≤zaR l
 | [],_=>by rw[zc7];exact Rat.le_refl
 | x::l,h=>by
  rw[zaF];exact Rat.add_nonneg (h x (.head _)) (zg8 l fun q hq=>h q (.tail _ hq))
theorem zk4 (m:Rat) (l:List Rat):0≤zaR (zdl m l):=zg8 _ fun q hq=>by
 obtain⟨v,_,rfl⟩:=List.mem_map.1 hq;exact zkq _
theorem zjs (L:List Int):0≤zjr L:=by
 unfold zjr;have h1:=zkp L;by_cases h0:L.length=0
 ·obtain rfl:=pK.1 h0;decide +kernel
 ·have hp:(0:Rat)<((L.length:Int):Rat):=by
   have:((0:Int):Rat)<((L.length:Int):Rat):=Rat.intCast_lt_intCast.2 oM;exact this
  have h2:((sqL L:Int):Rat)≤((L.length:Int):Rat)*((L.length:Int):Rat):=by
   rw[←Rat.intCast_mul];exact Rat.intCast_le_intCast.2 (by exact_mod_cast h1)
  generalize ((L.length:Int):Rat)=N at *
  generalize ((sqL L:Int):Rat)=S at *
  have h3:0≤N⁻¹:=Rat.le_of_lt (Rat.inv_pos.2 hp);have h4:0≤N*N-S:=by grind
  have h5:=Rat.mul_nonneg h4 h3;have hne:N≠0:=by grind
  have h6:N*N⁻¹=1:=Rat.mul_inv_cancel N hne;have h7:(N*N-S)*N⁻¹=N-S / N:=by rw[Rat.div_def];grind
  rw[h7]at h5;exact h5
theorem zmQ {α:Type} (f:α→Nat):∀l:List α,(l.map fun x=>(f x:Int)).sum=(((l.map f).sum:Nat):Int)
 | []=>rfl
 | x::l=>by
  rw[qy,qy,List.sum_cons,List.sum_cons,zmQ f l];omega
theorem zqY {C:Nat} {L:List Int} (h:∀z,z∈L→0≤z∧z<(C:Int)):(zfq C L).sum=(L.length:Int):=by
 have h1:=(zmO C L h).2;unfold zfq;rw[zmQ (fun k:Nat=>L.count (k:Int)),←h1]
theorem zgg (C:Nat) (L:List Int) (k:Nat):(zfq C L).getD k 0=if k<C then (L.count (k:Int):Int) else 0:=by
 rw[qB];by_cases h:k<C
 ·rw[zij _ h,if_pos h];rfl
 ·rw[qg (by rw[zb6];omega),if_neg h];rfl
theorem zqX (C:Nat) {R L M:List Int} (h:R.Perm (L++M)) (k:Nat):(zfq C R).getD k 0=(zfq C L).getD k 0+(zfq C M).getD k 0:=by
 rw[zgg,zgg,zgg,h.count_eq,List.count_append];split <;> omega
theorem zqP {ls:List Int} {rs:List Int} (h:∀r,r∈rs→0≤r∧r<(ls.length:Int)):∀q,q∈atI ls rs→q∈ls:=fun q hq=>by
 obtain⟨r,hr,rfl⟩:=List.mem_map.1 hq;have:=h r hr;have hl:r.toNat<ls.length:=oM;rw[qB,qA hl];exact List.getElem_mem hl
theorem zn4 {l:List Int} {n w:Nat}:∀x,x∈zfi l n w→x.length=w∧∀q,q∈x→ht q≤60:=fun x hx=>⟨(ziP x hx).1,fun q hq=>qI ((ziP x hx).2 q hq) oM⟩
def zb4 (H:Hp) (cs:List Value) (n:Nd):Prop:=∃a c,IL H (.slice a n.counts.length c) n.counts ∧
 cs=[.int .i64 n.col,.int .i64 n.left,.int .i64 n.right,.int .i64 n.rows,.int .i64 n.cls]++(zac (zaa n.at')++(zac (zaa n.cost)++(zac (zaa n.value)++[.slice a n.counts.length c])))
theorem zb4.mono {H G:Hp} {cs:List Value} {n:Nd} (h:zb4 H cs n) (k:H.Le G):zb4 G cs n:=by
 obtain⟨a,c,h1,e⟩:=h;exact⟨a,c,h1.mono k,e⟩
theorem zb4.len {H:Hp} {cs:List Value} {n:Nd} (h:zb4 H cs n):cs.length=21:=by
 obtain⟨a,c,_,rfl⟩:=h;rfl
theorem zb4.one {H:Hp} {cs:List Value} {n:Nd} (h:zb4 H cs n):zed cs=true:=by
 obtain⟨a,c,_,rfl⟩:=h;rfl
def zaJ (H:Hp) (css:List (List Value)) (ns:List Nd):Prop:=css.length=ns.length∧∀(j:Nat) (c:List Value) (n:Nd),css[j]?=some c→ns[j]?=some n→zb4 H c n
theorem zaJ.mono {H G:Hp} {css:List (List Value)} {ns:List Nd} (h:zaJ H css ns) (k:H.Le G):zaJ G css ns:=⟨h.1,fun j c n e1 e2=>(h.2 j c n e1 e2).mono k⟩
theorem zaJ.get {H:Hp} {css:List (List Value)} {ns:List Nd} (h:zaJ H css ns) {j:Nat} {n:Nd} (hj:ns[j]?=some n):∃c,(css.flatten.drop (j*21)).take 21=c∧zb4 H c n:=by
 have hlt:=(qE.1 hj).1;obtain⟨c,hc⟩:∃c,css[j]?=some c:=⟨_,qA (by rw[h.1];exact hlt)⟩;refine⟨c,?_,h.2 j c n hc hj⟩
 have h21:∀x,x∈css→(id x).length=21:=fun x hx=>by
  obtain⟨i,hi⟩:=List.mem_iff_getElem?.1 hx;have hi':=(qE.1 hi).1;exact(h.2 i x _ hi (qA (by rw[←h.1];exact hi'))).len
 have:=zdI id 21 css h21 j c hc
 rwa [List.flatMap_id]at this
def zcs (H:Hp) (cs:List Value) (kd cl w:Int) (ns:List Nd):Prop:=∃a c css,cs=[.int .i64 kd,.int .i64 cl,.int .i64 w,.slice a ns.length c]∧zaJ H css ns∧SlC H (.slice a ns.length c) ns.length 21 css.flatten
theorem zcs.mono {H G:Hp} {cs:List Value} {kd cl w:Int} {ns:List Nd} (h:zcs H cs kd cl w ns) (k:H.Le G):zcs G cs kd cl w ns:=by
 obtain⟨a,c,css,e,h1,h2⟩:=h;exact⟨a,c,css,e,h1.mono k,h2.mono k⟩
theorem zrl {H:Hp} {v:Value} {cl:Int} {sl sv:Value}:PC prog 200 #[zbg 1 cl sl sv,v] H fun r _=>r=zaa 0:=by
 refine BD func200 ntmps200 ?_;refine uR ?_;exact zbN.symm
section
variable {P:Program} {n:Nat} {ops:Array Oper} {o:Oper} {rest:List Oper} {env:Env} {bx:Bxs} {sb:Bxs} {ow:Ows} {H:Hs} {Q:EQ} {τ:Tab} {d:Nat} {s:SV}
theorem EVL.callWC {f:FuncId} {t:Nat} {args:Array Operand} {tys:Array TypeId} (ho:o.op=.call ⟨.value (.tmp t),args,tys⟩) (hw:zag ops env o=some true) (hd:o.dst=some d) (hn:Nat.blt d n=true)
  {cs:List Value} (ht:env.op (.tmp t)=some (.v (.func (.func f) #[] cs.toArray))) {vs:List Value} (ha:zbk env args.toList some=some vs) (L R:Ows) (e:H.ow=L++R) {Φ:Value→Ows→Hp→Prop} (hpc:PW P f (vs++cs).toArray H.ro L Φ)
  (h:∀v ow H',Φ v ow H'→H.ro.Le H'→EVL P n ops rest ((d,.v v)::env) bx ⟨H',ow++R,H.base⟩ Q):EVL P n ops (o::rest) env bx H Q:=fun W0 β a W r=>by
 obtain⟨vs',hk,hm⟩:=zaV env _ _ _ ha;cases hk;have hvs:=hm β H.ro a.eval (fun y s _ hy=>r.op hy);have htv:a.eval (.tmp t)=.func (.func f) #[] cs.toArray:=r.op ht;unfold wpList;rw[if_pos (r.want hw)];refine .inl ?_;unfold Oper.wp;rw[zfx hpc.can ho htv hvs,Oper.upon_enter]
 have up:∀(j b:Nat) (T:TypeId) (cs:List Value),L[j]?=some (b,T,cs)→H.ow[j]?=some (b,T,cs):=fun j b T cs hj=>by
  rw[e,qM (qE.1 hj).1];exact hj
 refine(hpc.run W r.fits r.globW (fun j b T cs hj=>?_) (fun j j' b T T' cs cs' hj hj'=>r.one j j' b T T' cs cs' (up _ _ _ _ hj) (up _ _ _ _ hj'))).mono ?_
 ·obtain⟨h1,h2,h3,_⟩:=r.own j b T cs (up _ _ _ _ hj);refine⟨h1,h3,?_⟩;rcases h2 with h2 | h2
  ·cases hg:gH b with
   | none=>rfl
   | some c=>have:=r.glob.1.lt (b:=b) (by rw[hg];simp);omega
  ·exact(r.glob.2 b h2).1
 ·rintro e' W' ⟨v,ow,H',rfl,hΦ,hle,hf,hnw,hkp,hown,hdist⟩;rw[hd];exact h v ow H' hΦ hle W0 β _ W' ((r.callW e hle hf hnw hkp hown hdist).put hn rfl rfl)
end
theorem PC.pw {P:Program} {f:FuncId} {args:Array Value} {H:Hp} {Φ:Value→Hp→Prop} (h:PC P f args H Φ):PW P f args H [] fun v ow H'=>ow=[]∧Φ v H' :=
 ⟨h.can,fun W hf hg _ _=>(h.run W hf hg).mono fun e W' ⟨v,H',he,hΦ,hle,hft,hb,hn⟩=>⟨v,[],H',he,⟨rfl,hΦ⟩,hle,hft,hn,zbf.of_below hb _,fun j b T cs hj=>by simp at hj,fun j j' b T T' cs cs' h1=>by simp at h1⟩⟩
section
variable {P:Program} {n:Nat} {ops:Array Oper} {o:Oper} {rest:List Oper} {env:Env} {bx:Bxs} {H:Hs} {Q:EQ} {d:Nat}
theorem EVL.callC {f:FuncId} {t:Nat} {args:Array Operand} {tys:Array TypeId} (ho:o.op=.call ⟨.value (.tmp t),args,tys⟩) (hw:zag ops env o=some true) (hd:o.dst=some d) (hn:Nat.blt d n=true)
  {cs:List Value} (ht:env.op (.tmp t)=some (.v (.func (.func f) #[] cs.toArray))) {vs:List Value} (ha:zbk env args.toList some=some vs) {Φ:Value→Hp→Prop} (hpc:PC P f (vs++cs).toArray H.ro Φ)
  (h:∀v H',Φ v H'→H.ro.Le H'→EVL P n ops rest ((d,.v v)::env) bx ⟨H',H.ow,H.base⟩ Q):EVL P n ops (o::rest) env bx H Q :=
 EVL.callWC ho hw hd hn ht ha [] H.ow rfl hpc.pw fun v ow H' ⟨e,hΦ⟩ hle=>by subst e;exact h v H' hΦ hle
end
theorem zrz {H:Hp} {kd cl:Int} {sl sv vx vr vc:Value} {p:GP} {S:List Int→List Value} {wo:List Int→Rat} {rows cols:List Int} {least:Int} (hg:GOk H kd cl sl sv p.X.length S wo) (hp:POk wo p.cost) (hX:QLL H vx p.X) (hr:IL H vr rows) (hn:rows.length≤20) (hb:∀r,r∈rows→0≤r∧r<(p.X.length:Int)) (hc:IL H vc cols) (hcn:cols.length≤1000000) (hx:∀x,x∈p.X→∀q,q∈x→ht q≤100) (hpl:p.least=least) :
  PC prog 202 #[zbg kd cl sl sv,vx,vr,vc,.int .i64 least] H fun r _=>r=.tuple #[.agg (zsb (p.best rows cols)).toArray,.bool (p.best rows cols).isSome]:=by
 refine(zsO hg hX hr hn hc hcn hx).mono ?_;rintro r G ⟨ps,h1,h2,h3⟩ _;rw[zk9 hb]at h2 h3;have e:=zkU hp h1 h2
 have e2:p.best rows cols=(zb1 ps).map fun t=>(t.1,t.2.1,t.2.2-wo rows):=by
  unfold GP.best;rw[hpl,show max 1 least=max least 1 from Int.max_comm _ _];exact e.symm
 rcases h3 with ⟨h4,rfl⟩ | ⟨c,a,w,h4,rfl⟩
 ·rw[e2,h4];rfl
 ·rw[e2,h4];rfl
structure zkM (H:Hp) (kd cl:Int) (sl sv:Value) (p:GP) (S:List Int→List Value) (wo:List Int→Rat):Prop where
 ok:GOk H kd cl sl sv p.X.length S wo
 pok:POk wo p.cost
 counts:∀G,H.Le G→∀u l,IL G u l→l.length≤300→PC prog 201 #[zbg kd cl sl sv,u] G fun r H'=>IL H' r (p.cnt (exL l p.X.length))
 cntlen:∀l,(p.cnt l).length≤12
 top:∀G,H.Le G→∀u l,IL G u l→l.length≤300→PC prog 198 #[zbg kd cl sl sv,u] G fun r _=>r=.int .i64 (topN (p.cnt (exL l p.X.length)) (p.cnt (exL l p.X.length)).length:Nat)
 mean:∀G,H.Le G→∀u l,IL G u l→l.length≤300→PC prog 200 #[zbg kd cl sl sv,u] G fun r _=>r=zaa (p.mean (exL l p.X.length))
 small:∀l:List Int,l.length≤300→(∀r,r∈l→0≤r∧r<(p.X.length:Int))→ht (p.cost l)≤2000000
 cost:∀G,H.Le G→∀u l,IL G u l→l.length≤300→PC prog 199 #[zbg kd cl sl sv,u] G fun r _=>r=zaa (p.cost (exL l p.X.length))
theorem zkM.mono {H H':Hp} {kd cl:Int} {sl sv:Value} {p:GP} {S:List Int→List Value} {wo:List Int→Rat} (h:zkM H kd cl sl sv p S wo) (k:H.Le H'):zkM H' kd cl sl sv p S wo :=
 ⟨h.ok.mono k,h.pok,fun G hG=>h.counts G (k.trans hG),h.cntlen,fun G hG=>h.top G (k.trans hG),fun G hG=>h.mean G (k.trans hG),h.small,fun G hG=>h.cost G (k.trans hG)⟩
def PTs (H:Hp) (tcs:List (List Value)) (ts:List Tr):Prop:=tcs.length=ts.length∧∀(j:Nat) (c:List Value) (t:Tr),tcs[j]?=some c→ts[j]?=some t→zcs H c t.kd t.cl t.w t.ns
theorem PTs.mono {H G:Hp} {tcs:List (List Value)} {ts:List Tr} (h:PTs H tcs ts) (k:H.Le G):PTs G tcs ts:=⟨h.1,fun j c t e1 e2=>(h.2 j c t e1 e2).mono k⟩
theorem PTs.get {H:Hp} {tcs:List (List Value)} {ts:List Tr} (h:PTs H tcs ts) {j:Nat} {t:Tr} (hj:ts[j]?=some t):∃c,(tcs.flatten.drop (j*4)).take 4=c∧zcs H c t.kd t.cl t.w t.ns:=by
 have hlt:=(qE.1 hj).1;obtain⟨c,hc⟩:∃c,tcs[j]?=some c:=⟨_,qA (by rw[h.1];exact hlt)⟩;refine⟨c,?_,h.2 j c t hc hj⟩
 have h4:∀x,x∈tcs→(id x).length=4:=fun x hx=>by
  obtain⟨i,hi⟩:=List.mem_iff_getElem?.1 hx;have hi':=(qE.1 hi).1;obtain⟨_,_,_,e,_⟩:=h.2 i x _ hi (qA (by rw[←h.1];exact hi'));subst e;rfl
 have:=zdI id 4 tcs h4 j c hc
 rwa [List.flatMap_id]at this
def PTL (H:Hp) (v:Value) (ts:List Tr):Prop:=∃tcs,PTs H tcs ts∧SlC H v ts.length 4 tcs.flatten
theorem PTL.mono {H G:Hp} {v:Value} {ts:List Tr} (h:PTL H v ts) (k:H.Le G):PTL G v ts:=by
 obtain⟨tcs,h1,h2⟩:=h;exact⟨tcs,h1.mono k,h2.mono k⟩
theorem zb4.cells {H:Hp} {cs:List Value} {n:Nd} (h:zb4 H cs n):∃a c,cs=[.int .i64 n.col,.int .i64 n.left,.int .i64 n.right,.int .i64 n.rows,.int .i64 n.cls,
  .bool (decide (n.at'.num<0)),.int .u64 (lo n.at'.num.natAbs:Int),.string (zal n.at'.num.natAbs),.int .u64 (lo (dk n.at'.den):Int),.string (zal (dk n.at'.den)),
  .bool (decide (n.cost.num<0)),.int .u64 (lo n.cost.num.natAbs:Int),.string (zal n.cost.num.natAbs),.int .u64 (lo (dk n.cost.den):Int),.string (zal (dk n.cost.den)),
  .bool (decide (n.value.num<0)),.int .u64 (lo n.value.num.natAbs:Int),.string (zal n.value.num.natAbs),.int .u64 (lo (dk n.value.den):Int),.string (zal (dk n.value.den)),.slice a n.counts.length c]∧IL H (.slice a n.counts.length c) n.counts:=by
 obtain⟨a,c,h1,rfl⟩:=h;exact⟨a,c,rfl,h1⟩
abbrev zlL (kd cl w:Int) (vn:Value) (far:Int):List Value:=[.int .i64 kd,.int .i64 cl,.int .i64 w,vn,.int .i64 far]
set_option maxRecDepth 100000 in
theorem ztn {kd cl w:Int} {a:Option Addr} {cp:Nat} {ns:List Nd} (hln:ns.length≤1000000) {k h e:Nat} (hsub:Sub ns w k h e):∀{H:Hp} {css:List (List Value)} {b:Nat} {T:TypeId} {deep:Nat} {far:Int},zaJ H css ns→SlC H (.slice a ns.length cp) ns.length 21 css.flatten→deep≤k →
  PW prog 131 #[.pointer (some ⟨b,0,none⟩),.int .i64 (k:Int),.int .i64 (deep:Int)] H [(b,T,zlL kd cl w (.slice a ns.length cp) far)] fun v ow _=>v=.tuple #[.int .i64 (e:Int),.bool true]∧∃far',ow=[(b,T,zlL kd cl w (.slice a ns.length cp) far')]∧far'≤max far ((deep+h:Nat):Int):=by
 induction hsub with
 | @leaf k h n hn hc hl hr ha =>
  intro H css b T deep far hns hsl hdk;have hlt:=(qE.1 hn).1;obtain⟨c,hcut,hnd⟩:=hns.get hn;obtain⟨a7,c7,rfl,_⟩:=hnd.cells
  have hsg:PV prog 18 #[zaa n.at'] (.int .i64 0):=by
   rw[ha];exact zcp 0 (by show bl 0≤_;rw[zbA];omega)
  refine PW.body tO func131 rfl kR ntmps131 rfl rfl ?_;refine uR ?_;refine RP ?_;refine EVL.loadOwn tO rfl rfl rfl rfl rfl rfl (0) rfl (rfl) rfl rfl ?_;refine uR ?_;rw[qC (show ¬(k:Int)≥(ns.length:Int) by omega)];refine uR ?_;refine RP ?_;refine EVL.loadOwn tO rfl rfl rfl rfl rfl rfl (0) rfl (rfl) rfl rfl ?_;refine uR ?_;refine EVL.idxM tO rfl rfl rfl rfl rfl rfl rfl rfl rfl (hsl) (k) (rfl) (hlt) (hcut) ?_;refine uR ?_;rw[hc];refine uR ?_;refine RP ?_;refine EVL.loadOwn tO rfl rfl rfl rfl rfl rfl (0) rfl (rfl) rfl rfl ?_;refine uR ?_;refine RP ?_;refine EVL.storeOwn tO rfl rfl rfl rfl rfl rfl ([]) ([]) rfl rfl rfl rfl ((by exact qH 5)) (rfl) ?_;refine uR ?_;rw[hl,hr]
  repeat (first|refine RUN ?_|refine CV (hsg) ?_|refine CE (hsg) ?_)
  refine⟨by rw[zad k (by omega)];rfl,_,rfl,?_⟩;split <;> omega
 | @node k h m e n hn hc1 hc2 hl hr s1 s2 ih1 ih2 =>
  intro H css b T deep far hns hsl hdk;have hlt:=(qE.1 hn).1;obtain⟨hm1,hm2⟩:=s1.lt;obtain⟨he1,he2⟩:=s2.lt;obtain⟨c,hcut,hnd⟩:=hns.get hn;obtain⟨a7,c7,rfl,_⟩:=hnd.cells;refine PW.body tO func131 rfl kR ntmps131 rfl rfl ?_;refine uR ?_;refine RP ?_;refine EVL.loadOwn tO rfl rfl rfl rfl rfl rfl (0) rfl (rfl) rfl rfl ?_;refine uR ?_;rw[qC (show ¬(k:Int)≥(ns.length:Int) by omega)];refine uR ?_;refine RP ?_;refine EVL.loadOwn tO rfl rfl rfl rfl rfl rfl (0) rfl (rfl) rfl rfl ?_;refine uR ?_;refine EVL.idxM tO rfl rfl rfl rfl rfl rfl rfl rfl rfl (hsl) (k) (rfl) (hlt) (hcut) ?_;refine uR ?_;rw[show (n.col == -1)=false from pR.2 (by omega)];refine uR ?_;apply EV.drawn 20 kR kR;intro xv yw;(repeat refine' DD ?_);rw[qC (show ¬n.col<0 by omega)];(repeat refine' DD ?_);(repeat (first|refine' DD ?_|refine' vN ?_|refine' vF ?_));refine' DJ.ofVal (zab.loadOwn tO rfl rfl rfl rfl (0) rfl (rfl) rfl rfl) rfl rfl rfl ?_;rotate_left;(repeat refine' DD ?_);rw[qC (show ¬n.col≥w by omega)];(repeat refine' DD ?_);rw[hl,zad k oM,show (((k+1:Nat):Int) != ((k+1:Nat):Int))=false from pQ _];(repeat refine' DD ?_);(refine DJ.nil (fun G1 hG1 hF1=>?_);(case hS|hS2=>rfl));refine uR ?_;rw[zad k oM,zad deep (by omega)];refine EVL.callW rfl rfl rfl rfl rfl ([(b,T,zlL kd cl w (.slice a ns.length cp) far)]) ([]) rfl (ih1 (hns.mono hG1) (hsl.mono hG1) (deep:=deep+1) oM) ?_;rintro _ _ G2 ⟨rfl,far1,rfl,hf1⟩ hG2;refine uR ?_;rw[hr,show ((m:Int) != (m:Int))=false from pQ _];refine uR ?_;rw[zad deep (by omega)];refine EVL.callW rfl rfl rfl rfl rfl ([(b,T,zlL kd cl w (.slice a ns.length cp) far1)]) ([]) rfl (ih2 (hns.mono (hG1.trans hG2)) (hsl.mono (hG1.trans hG2)) (deep:=deep+1) oM) ?_;rintro _ _ G3 ⟨rfl,far2,rfl,hf2⟩ hG3;refine uR ?_;exact⟨rfl,far2,rfl,by omega⟩
set_option maxRecDepth 100000 in
theorem zj0 {H:Hp} {kd cl w:Int} {vn:Value} {n:Nd} {cs:List Value} (hkd:(kd=1∧1≤cl∧cl≤12)∨(kd=2∧cl=0)) (hnd:zb4 H cs n) (hN:OkN kd cl n) :
  PC prog 132 #[zu7 kd cl w vn,.agg cs.toArray] H fun r _=>r=.bool true:=by
 obtain⟨a7,c7,rfl,k4⟩:=hnd.cells;have hN1:=hN.rows;have hcl:n.counts.length≤12:=by have:=hN.len;omega
 have hsc:PV prog 18 #[zaa n.cost] (.int .i64 n.cost.num.sign):=zcp _ (by have:=(zai hN.small.2.1 oM).num;show bl n.cost.num.natAbs≤_;omega);refine BD func132 ntmps132 ?_;refine uR ?_;rw[qC (show ¬n.rows<1 by omega)];refine uR ?_;rw[qC (show ¬n.rows>1048576 by omega)]
 repeat (first|refine RUN ?_|refine CV (hsc) ?_|refine CE (hsc) ?_)
 rw[qC (ztH hN.cost)];refine uR ?_;rw[show ((n.counts.length:Int) != cl)=false by rw[hN.len];exact pQ _];refine uR ?_;rcases hkd with ⟨rfl,hc1,hc2⟩ | ⟨rfl,rfl⟩
 ·have hsv:PV prog 18 #[zaa n.value] (.int .i64 0):=by
   rw[hN.value rfl];exact zcp 0 (by show bl 0≤_;rw[zbA];omega)
  refine uR ?_;refine EV.loopK (ι:=Nat) [2,3,38,39] [2,3] (fun q=>[(5,.v (.int .i64 (n.counts.take q).sum)),(6,.v (.int .i64 (topN n.counts q:Nat))),(40,.v (.int .i64 (q:Int)))]) (fun _=>[]) (fun _=>[]) (fun q _=>q≤n.counts.length) (fun q=>n.counts.length-q) (0) rfl rfl ⟨rfl,rfl,rfl,trivial⟩ trivial rfl (fun _=>rfl) (qQ _) ?_;rintro q G2 hG2 hq;have hsum:=hN.sum rfl;refine uR ?_;refine EV.cond rfl (fun hlt=>?_) (fun hlt=>?_)
  ·simp only[nN]at hlt;have ht1:=zc8 hN.pos (q+1);have ht0:=zc8 hN.pos q;have hti:=zlH n.counts q;have htl:topN n.counts q<n.counts.length:=oM;have g1:=zis hlt;have g2:=zis htl;have hz0:=hN.pos _ (qF g1);have hts:(n.counts.take (q+1)).sum=(n.counts.take q).sum+n.counts.getD q 0:=by rw[zan g1,List.sum_append,List.sum_singleton]
   have hst:topN n.counts (q+1)=if n.counts.getD (topN n.counts q) 0<n.counts.getD q 0 then q else topN n.counts q:=rfl
   generalize topN n.counts q=tp at *
   generalize n.counts.getD tp 0=x at *
   generalize n.counts.getD q 0=y at *
   refine uR ?_;refine vI ((k4.mono hG2)) (q) (rfl) (hlt) ((by rw[qK,g1];rfl)) ?_;refine uR ?_;rw[qC (show ¬y<0 by omega)];refine uR ?_;rw[qC (show ¬y>n.rows by omega)];refine uR ?_;rw[show IntKind.i64.wrap ((n.counts.take q).sum+y)=(n.counts.take (q+1)).sum by rw[pM];omega];refine vI ((k4.mono hG2)) (tp) (rfl) (htl) ((by rw[qK,g2];rfl)) ?_;refine uR ?_;by_cases h:y>x
   ·rw[qD h];rw[if_pos h]at hst;refine uR ?_;refine⟨q+1,⟨rfl,by rw[hst];rfl,by rw[zad q (by omega)];rfl,trivial⟩,sB,trivial,sB,rfl,by omega,Hp.Le.refl _,by omega⟩
   ·rw[qC h];rw[if_neg h]at hst;refine uR ?_;refine⟨q+1,⟨rfl,by rw[hst];rfl,by rw[zad q (by omega)];rfl,trivial⟩,sB,trivial,sB,rfl,by omega,Hp.Le.refl _,by omega⟩
  ·simp only[nN]at hlt;obtain rfl:q=n.counts.length:=oM;rw[qb,hsum,hN.cls];refine uR ?_;rw[show (n.rows == n.rows)=true from beq_self_eq_true _];refine uR ?_;rw[show ((topN n.counts n.counts.length:Int) == (topN n.counts n.counts.length:Int))=true from beq_self_eq_true _]
   repeat (first|refine RUN ?_|refine CV (hsv) ?_|refine CE (hsv) ?_)
   rfl
 ·have hc0:n.counts=[]:=pK.1 (by have:=hN.len;omega);have hcls0:n.cls=0:=by rw[hN.cls,hc0];rfl
  rw[hcls0];refine uR ?_;rfl
set_option maxRecDepth 100000 in
theorem zrx {H:Hp} {kd cl:Int} {n na nb:Nd} {cs ca cb:List Value} (hkd:(kd=1∧1≤cl∧cl≤12)∨(kd=2∧cl=0)) (hnd:zb4 H cs n) (hnda:zb4 H ca na) (hndb:zb4 H cb nb) (hN:OkN kd cl n) (hNa:OkN kd cl na) (hNb:OkN kd cl nb) (hCC:OkC n na nb) :
  PC prog 133 #[.agg cs.toArray,.agg ca.toArray,.agg cb.toArray] H fun r _=>r=.bool true:=by
 obtain⟨a7,c7,rfl,k4⟩:=hnd.cells;obtain⟨xa7,xc7,rfl,ka4⟩:=hnda.cells;obtain⟨ya7,yc7,rfl,kb4⟩:=hndb.cells;have hRa:=hNa.rows;have hRb:=hNb.rows;have hRc:=hCC.rows;have hRn:=hN.rows;have hs0:=hN.small;have hsa:=hNa.small;have hsb:=hNb.small;have hlna:(na.counts.length:Int)=cl:=hNa.len;have hlnb:(nb.counts.length:Int)=cl:=hNb.len;have hlnn:(n.counts.length:Int)=cl:=hN.len;have had:=zdw na.cost nb.cost;have hadd:=zdf na.cost nb.cost (zai hsa.2.1 oM) (zai hsb.2.1 oM);have hcmp:=zbF n.cost (na.cost+nb.cost) (zai hs0.2.1 oM) (by unfold sm;omega);refine BD func133 ntmps133 ?_;refine uR ?_;refine EV.loopK (ι:=Nat) [3,4,5,10,11] [3,4,5] (fun q=>[(12,.v (.int .i64 (q:Int)))]) (fun _=>[]) (fun _=>[]) (fun q _=>q≤n.counts.length) (fun q=>n.counts.length-q) (0) rfl rfl ⟨rfl,trivial⟩ trivial rfl (fun _=>rfl) (qQ _) ?_;rintro q G1 hG1 hq;refine uR ?_;refine EV.cond rfl (fun hlt=>?_) (fun hlt=>?_)
 ·simp only[nN]at hlt
  have hk1:kd=1:=by
   rcases hkd with ⟨e,_⟩ | ⟨_,e⟩
   ·exact e
   ·omega
  obtain⟨z,hz⟩:=gE hlt;have hqa:q<na.counts.length:=oM;have hqb:q<nb.counts.length:=oM;obtain⟨za,hza⟩:=gE hqa;obtain⟨zb,hzb⟩:=gE hqb;have hcc:=hCC.counts q;rw[qB,qB,qB,hz,hza,hzb]at hcc;simp only[Option.getD_some]at hcc;have hz0:=hN.pos z (qF hz)
  have hup:z≤1048576:=by
   have h1:=zc8 hN.pos (q+1);have h2:=zc8 hN.pos q;rw[zan hz,List.sum_append,List.sum_singleton]at h1;have h3:=hN.sum hk1;omega
  have hwz:IntKind.i64.wrap (za+zb)=z:=by rw[pM];omega
  refine uR ?_;refine vI ((k4.mono hG1)) (q) (rfl) (hlt) ((by rw[qK,hz];rfl)) ?_;refine uR ?_;apply EV.drawn 13 kR kR;intro xv yw;(repeat refine' DD ?_);refine' vJ ((ka4.mono hG1)) (q) (rfl) (hqa) ((by rw[qK,hza];rfl)) ?_;rotate_left;(repeat refine' DD ?_);refine' vJ ((kb4.mono hG1)) (q) (rfl) (hqb) ((by rw[qK,hzb];rfl)) ?_;rotate_left;(repeat refine' DD ?_);rw[hwz,show (z != z)=false from pQ _];(repeat refine' DD ?_);(refine DJ.nil (fun G hG hF=>?_);(case hS|hS2=>rfl));refine uR ?_;refine⟨q+1,⟨by rw[zad q (by omega)];rfl,trivial⟩,sB,trivial,sB,rfl,hlt,hG,by omega⟩
 ·simp only[nN]at hlt;refine uR ?_;have hwr:IntKind.i64.wrap (na.rows+nb.rows)=n.rows:=by rw[pM];omega
  apply EV.drawn 20 kR kR;intro xv yw;(repeat refine' DD ?_);rw[hwr,show (n.rows == n.rows)=true from beq_self_eq_true _];(repeat (first|refine' DD ?_|(refine' DC (hadd) (h:=?_);rotate_left)|(refine' DC (hcmp) (h:=?_);rotate_left)));rw[qD (show zcr n.cost (na.cost+nb.cost)≥0 from Int.not_lt.1 fun k=>Rat.not_lt.2 hCC.cost ((zru _ _).1 k))];(repeat refine' DD ?_);(refine DJ.nil (fun G hG hF=>?_);(case hS|hS2=>rfl));refine uR ?_;rfl
abbrev pgC (kd cl:Int) (sl sv vx:Value) (deep least:Int) (gq:Rat) (fv out:Value):List Value:=[.int .i64 kd,.int .i64 cl,sl,sv,vx,.int .i64 deep,.int .i64 least,.bool (decide (gq.num<0)),.int .u64 (lo gq.num.natAbs:Int),.string (zal gq.num.natAbs),.int .u64 (lo (dk gq.den):Int),.string (zal (dk gq.den)),fv,out]
def zhu (H:Hp) (f:FuncId) (ccs:List Value) (dv:Value) (p:GP):Prop:=∀G,H.Le G→∀(D:Ows) (s:Int),zos dv D s→PW prog f ccs.toArray G D fun v ow G'=>IL G' v (p.cols s).1∧zos dv ow (p.cols s).2
theorem zhu.mono {H H':Hp} {f:FuncId} {ccs:List Value} {dv:Value} {p:GP} (h:zhu H f ccs dv p) (k:H.Le H'):zhu H' f ccs dv p:=fun G hG=>h G (k.trans hG)
theorem ztx {R:List Value→Nd→Prop} {s:Nat} (hlen:∀c n,R c n→c.length=s) {css:List (List Value)} {A B:List Nd} {n:Nd} (h:css.length=(A++n::B).length∧∀(j:Nat) (c:List Value) (m:Nd),css[j]?=some c→(A++n::B)[j]?=some m→R c m) :
  ∃cA c cB,css=cA++c::cB∧cA.flatten.length=A.length*s∧R c n∧∀(c':List Value) (n':Nd),R c' n'→((cA++c'::cB).length=(A++n'::B).length∧∀(j:Nat) (x:List Value) (m:Nd),(cA++c'::cB)[j]?=some x→(A++n'::B)[j]?=some m→R x m):=by
 have hl:=h.1;rw[qJ,qR]at hl;have hlt:A.length<css.length:=oM
 have e:css=css.take A.length++css[A.length]::css.drop (A.length+1):=by
  rw[←qt hlt,List.take_append_drop]
 have hla:(css.take A.length).length=A.length:=by rw[qP];omega
 refine⟨_,_,_,e,?_,h.2 A.length _ n (qA hlt) (by rw[qL (qH _),Nat.sub_self];rfl),?_⟩
 ·have:∀l:List (List Value),(∀c,c∈l→c.length=s)→l.flatten.length=l.length*s:=by
   intro l
   induction l with
   | nil=>intro _;simp
   | cons c l ih=>intro h;rw[List.flatten_cons,qJ,h c (qh ..),ih (fun c hc=>h c (qn _ hc)),qR,Nat.succ_mul];omega
  refine(this _ fun c hc=>?_).trans (by rw[hla]);obtain⟨j,hj⟩:=List.mem_iff_getElem?.1 (List.mem_of_mem_take hc);have hj':=(qE.1 hj).1;obtain⟨m,hm⟩:∃m,(A++n::B)[j]?=some m:=⟨_,qA (by rw[←h.1];exact hj')⟩;exact hlen _ _ (h.2 j c m hj hm)
 ·intro c' n' hc;refine⟨by simp only[qJ,qR,hla,qu];omega,fun j c1 n1 e1 e2=>?_⟩;rcases Nat.lt_trichotomy j A.length with hj | rfl | hj
  ·rw[qM oM,List.getElem?_take_of_lt hj]at e1;rw[qM hj]at e2;exact h.2 j c1 n1 e1 (by rw[qM hj];exact e2)
  ·rw[qL oM,hla,Nat.sub_self]at e1;rw[qL (qH _),Nat.sub_self]at e2;cases e1;cases e2;exact hc
  ·obtain⟨k,rfl⟩:∃k,j=A.length+(k+1):=⟨j-A.length-1,by omega⟩;rw[qL oM,hla,Nat.add_sub_cancel_left,pN,List.getElem?_drop]at e1;rw[qL oM,Nat.add_sub_cancel_left,pN]at e2;exact h.2 (A.length+(k+1)) c1 n1 (by rw[←e1];congr 1;omega) (by rw[qL oM,Nat.add_sub_cancel_left,pN];exact e2)
theorem zaO.midS {s:Nat} (hs:0<s) {e:TypeId} {v:Value} {m:Nat} {cA cB:List (List Value)} {c:List Value} {ow:Ows} (h:zaO e s v m (cA++c::cB).flatten ow) (hc:c.length=s):∃g cap sp,v=.slice (some ⟨g,0,none⟩) m cap∧ow=[(g,e,cA.flatten++(c++(cB.flatten++sp)))]∧∀c',c'.length=s→zaO e s v m (cA++c'::cB).flatten [(g,e,cA.flatten++(c'++(cB.flatten++sp)))]:=by
 have hl:=h.1;rcases h.2 with ⟨_,rfl,_⟩ | ⟨g,cap,sp,rfl,rfl,h1,h2,h3⟩
 ·simp[hc]at hl;omega
 ·have e1:∀c':List Value,(cA++c'::cB).flatten=cA.flatten++(c'++cB.flatten):=fun c'=>by simp
  rw[e1]at hl h1;refine⟨g,cap,sp,rfl,by rw[e1];simp,fun c' hc'=>⟨?_,.inr ⟨g,cap,sp,rfl,by rw[e1];simp,?_,h2,h3⟩⟩⟩
  ·rw[e1,←hl];simp[hc,hc']
  ·rw[e1,←h1];simp[hc,hc']
theorem znl (o:Option (Int × Rat × Rat)):∃c t g,zsb o=.int .i64 c::(zac (zaa t)++zac (zaa g))∧∀c' t' g',o=some (c',t',g')→c'=c∧t'=t∧g'=g:=by
 cases o with
 | none=>exact⟨0,0,0,rfl,fun c' t' g' e=>by cases e⟩
 | some q=>obtain⟨c,t,g⟩:=q;exact⟨c,t,g,rfl,fun c' t' g' e=>by cases e;exact⟨rfl,rfl,rfl⟩⟩
theorem zrA {p:GP} {kd cl least deep:Int} {S:List Int→List Value} {wo:List Int→Rat} {la va xa:Option Addr} {ln lc vn vc xc:Nat} {f:FuncId} {ccs:List Value} {dv:Value} (hcl:∀s,(p.cols s).1.length≤1000) (hx0:0<p.X.length) (hX20:p.X.length≤20) (hxq:∀x,x∈p.X→∀q,q∈x→ht q≤60) (hpl:p.least=least) (hgr:sm p.gain):∀(d:Nat) {H:Hp} {b:Nat} {T:TypeId} {dd s:Int} {vr out:Value} {rows:List Int} {ns:List Nd} {css:List (List Value)} {D ow:Ows},
  zkM H kd cl (.slice la ln lc) (.slice va vn vc) p S wo→QLL H (.slice xa p.X.length xc) p.X→zhu H f ccs dv p→dd+d=deep→0≤dd→deep≤10 →
  IL H vr rows→rows.length≤20→(∀r,r∈rows→0≤r∧r<(p.X.length:Int))→zos dv D s→zaO 160 21 out ns.length css.flatten ow→zaJ H css ns→ns.length+2 ^ (d+1)≤1000000 →
  PW prog 161 #[.pointer (some ⟨b,0,none⟩),vr,.int .i64 dd] H ((b,T,pgC kd cl (.slice la ln lc) (.slice va vn vc) (.slice xa p.X.length xc) deep least p.gain (.func (.func f) #[] ccs.toArray) out)::(D++ow)) fun v ow' H'=>v=.tuple #[]∧∃out' D' ow2 css',ow'=(b,T,pgC kd cl (.slice la ln lc) (.slice va vn vc) (.slice xa p.X.length xc) deep least p.gain (.func (.func f) #[] ccs.toArray) out')::(D'++ow2)∧zos dv D' (p.grow d ns.length rows s).2∧zaO 160 21 out' (ns++(p.grow d ns.length rows s).1).length css'.flatten ow2∧zaJ H' css' (ns++(p.grow d ns.length rows s).1):=by
 intro d
 induction d using Nat.strongRecOn with
 | _ d ih =>
  intro H b T dd s vr out rows ns css D ow hg hX hcf hdd hd0 hd1 hr hn hb hD hown hns hsz;obtain⟨oa,oc,rfl⟩:=hown.val;obtain⟨ra,rc,rfl⟩:=SlC.val hr;have hpw:2≤2 ^ (d+1):=by rw[qX];have:=Nat.one_le_two_pow (n:=d);omega
  have hex:=zk9 hb;have htop:=fun (G:Hp) (hG:H.Le G)=>hg.top G hG _ _ (hr.mono hG) oM;have hcost:=fun (G:Hp) (hG:H.Le G)=>hg.cost G hG _ _ (hr.mono hG) oM;have hmean:=fun (G:Hp) (hG:H.Le G)=>hg.mean G hG _ _ (hr.mono hG) oM;have hcnt:=fun (G:Hp) (hG:H.Le G)=>hg.counts G hG _ _ (hr.mono hG) oM;rw[hex]at htop hcost hmean hcnt;refine PW.body tO func161 rfl kR ntmps161 rfl rfl ?_;refine uR ?_;refine RP ?_;refine EVL.loadOwn tO rfl rfl rfl rfl rfl rfl (0) rfl (rfl) rfl rfl ?_;refine uR ?_;refine EV.meetK (ι:=Value × Ows × List Value) [0,1,2,6] [] (fun _=>[]) (fun _=>[]) (fun q=>(b,T,pgC kd cl (.slice la ln lc) (.slice va vn vc) (.slice xa p.X.length xc) deep least p.gain (.func (.func f) #[] ccs.toArray) q.1)::(D++q.2.1)) (fun q G=>H.Le G∧zaO 160 21 q.1 (ns.length+1) (css++[q.2.2]).flatten q.2.1∧zb4 G q.2.2 (p.nd rows)) rfl rfl (fun _=>rfl) ?_ ?_
  ·refine EVI.start (some 36) (b,T,pgC kd cl (.slice la ln lc) (.slice va vn vc) (.slice xa p.X.length xc) deep least p.gain (.func (.func f) #[] ccs.toArray) (.slice oa ns.length oc)) ?_;refine IV 0 ?_;refine IV 1 ?_;refine IN 2 ?_;refine IF 3 ?_;refine IL0 4 ?_;refine IV 5 ?_;refine IV 6 ?_;refine IV 7 ?_;refine IN 8 ?_;refine IF 9 ?_;refine IL0 10 ?_;refine IV 11 ?_;refine IV 13 ?_;refine IN 14 ?_;refine IF 15 ?_;refine IL0 16 ?_;refine IV 17 ?_;refine IV 19 ?_;refine IN 20 ?_;refine IF 21 ?_;refine IL0 22 ?_;refine IV 23 ?_;refine IV 25 ?_;refine IN 26 ?_;refine IF 27 ?_;refine IL0 28 ?_;refine IV 29 ?_;refine EVI.one 12 0 (.inr rfl) kR rfl ?_;refine vA (htop _ (Hp.Le.refl _)) ?_;rintro _ G1 rfl hG1;refine EVL.nil ⟨rfl,?_⟩;refine EVI.one 18 0 (.inr rfl) kR rfl ?_;refine vA (hcost _ hG1) ?_;rintro _ G2 rfl hG2;refine EVL.nil ⟨rfl,?_⟩;refine EVI.one 24 0 (.inr rfl) kR rfl ?_;refine vA (hmean _ (hG1.trans hG2)) ?_;rintro _ G3 rfl hG3;refine EVL.nil ⟨rfl,?_⟩;refine EVI.one 30 0 (.inr rfl) kR rfl ?_;refine vA (hcnt _ ((hG1.trans hG2).trans hG3)) ?_;intro r4 G4 hr4 hG4;obtain⟨a7,c7,rfl⟩:=SlC.val hr4;refine EVL.nil ⟨rfl,?_⟩;refine EVI.one 31 0 (.inr rfl) kR rfl ?_
   (try refine zfA ?_);refine EVL.nil ⟨rfl,?_⟩;refine EVI.one 32 0 (.inr rfl) kR rfl ?_;refine EVL.lit tO rfl rfl rfl rfl rfl rfl rfl rfl rfl rfl rfl fun bl=>?_;refine EVL.nil ⟨rfl,?_⟩;refine EVI.one 33 1 (.inr rfl) kR rfl ?_;refine EVL.append tO rfl rfl rfl rfl rfl rfl rfl rfl rfl rfl rfl rfl ([(bl,_,_),(b,T,_)]++D) ow [] (by rw[qG];rfl) hown (zdj.own 0 rfl rfl) rfl oM ?_;intro v2 ow2 hown2;obtain⟨oa2,oc2,rfl⟩:=hown2.val;refine EVL.nil ⟨rfl,?_⟩;refine EVI.one 34 1 (.inr rfl) kR rfl ?_;refine EVL.nilB rfl rfl rfl rfl rfl ?_;refine EVL.nil ⟨rfl,?_⟩;refine EVI.one 35 1 (.inr rfl) kR rfl ?_;refine EVL.fldB tO rfl rfl rfl rfl rfl rfl rfl ?_;refine EVL.nil ⟨rfl,?_⟩;refine EVI.one 36 1 (.inr rfl) kR rfl ?_;refine EVL.storeOwn tO rfl rfl rfl rfl rfl rfl ([(bl,_,_)]) (D++(ow2++[])) rfl rfl rfl rfl ((by exact qH 14)) (rfl) ?_;refine EVL.subOw [] [(bl,_,_)] _ rfl ?_;refine EVL.nil ⟨rfl,?_⟩;refine EVI.nil 0 (.inl kR) kR ?_
   have hpn:zb4 G4 (([.int .i64 (-1),.int .i64 0,.int .i64 0,.int .i64 (rows.length:Int),.int .i64 (topN (p.cnt rows) (p.cnt rows).length:Nat),.bool false,.int .u64 0,.string ⟨#[]⟩,.int .u64 0,.string ⟨#[]⟩]:List Value)++(zac (zaa (p.cost rows))++(zac (zaa (p.mean rows))++[.slice a7 (p.cnt rows).length c7]))) (p.nd rows):=⟨a7,c7,hr4,by
    rw[show zac (zaa (p.nd rows).at')=_ from zar];rfl⟩
   exact⟨(_,ow2++[],_),trivial,sB,trivial,trivial,rfl,((hG1.trans hG2).trans hG3).trans hG4,(by rw[qG,List.flatten_append];exact hown2),hpn⟩
  ·rintro⟨out1,ow1,c1⟩ G1 ⟨hG1,hown1,hnd1⟩;dsimp only at hown1 hnd1;obtain⟨oa1,oc1,rfl⟩:=hown1.val;have hns1:zaJ G1 (css++[c1]) (ns++[p.nd rows]):=zmG (hns.mono hG1) hnd1;refine uR ?_;refine RP ?_;refine EVL.loadOwn tO rfl rfl rfl rfl rfl rfl (0) rfl (rfl) rfl rfl ?_;refine uR ?_;by_cases hd:d=0
   ·subst hd;obtain rfl:dd=deep:=oM;rw[qD (show dd≥dd from Int.le_refl _)];refine uR ?_;exact⟨rfl,_,D,ow1,_,rfl,hD,by rw[qJ];exact hown1,hns1⟩
   obtain⟨e,rfl⟩:∃e,d=e+1:=⟨d-1,by omega⟩;have ih':=@ih e oM;clear ih;rw[qC (show ¬dd≥deep by omega)];refine uR ?_;have hcolp:=hcf G1 hG1 D s hD
   have hbest:∀(G:Hp) (ca:Option Addr) (cc:Nat),G1.Le G→IL G (.slice ca (p.cols s).1.length cc) (p.cols s).1→PC prog 202 #[zbg kd cl (.slice la ln lc) (.slice va vn vc),.slice xa p.X.length xc,.slice ra rows.length rc,.slice ca (p.cols s).1.length cc,.int .i64 least] G fun r _=>r=.tuple #[.agg (zsb (p.best rows (p.cols s).1)).toArray,.bool (p.best rows (p.cols s).1).isSome]:=fun G ca cc hG hc =>
    zrz (hg.ok.mono (hG1.trans hG)) hg.pok (hX.mono (hG1.trans hG)) (hr.mono (hG1.trans hG)) hn hb hc (qI (hcl s) oM) (fun x hx q hq=>qI (hxq x hx q hq) oM) hpl
   obtain⟨c,t,g,hcut,hval⟩:=znl (p.best rows (p.cols s).1);rw[hcut]at hbest;refine EV.meetK (ι:=Ows) [0,1,2,6] [] (fun _=>[(7,.p 7 0),(8,.v (.bool (p.best rows (p.cols s).1).isSome))]) (fun _=>[(7,283,.int .i64 c::(zac (zaa t)++zac (zaa g)))]) (fun q=>(b,T,pgC kd cl (.slice la ln lc) (.slice va vn vc) (.slice xa p.X.length xc) deep least p.gain (.func (.func f) #[] ccs.toArray) (.slice oa1 (ns.length+1) oc1))::(q++ow1)) (fun q G=>G1.Le G∧zos dv q (p.cols s).2) rfl rfl (fun _=>rfl) ?_ ?_
   ·refine EVI.start none (b,T,pgC kd cl (.slice la ln lc) (.slice va vn vc) (.slice xa p.X.length xc) deep least p.gain (.func (.func f) #[] ccs.toArray) (.slice oa1 (ns.length+1) oc1)) ?_;refine IV 0 ?_;refine IN 1 ?_;refine IF 2 ?_;refine IL0 3 ?_;refine IV 4 ?_;refine IN 5 ?_;refine IF 6 ?_;refine IL0 7 ?_;refine IV 8 ?_;refine IV 9 ?_;refine IN 10 ?_;refine IF 11 ?_;refine IL0 12 ?_;refine IV 14 ?_;refine IN 15 ?_;refine IF 16 ?_;refine IF 17 ?_;refine IL0 18 ?_;refine EVI.two 13 23 0 (.inr rfl) kR rfl rfl ?_ ?_
    ·(first|refine EVL.swapOw ([(b,T,_)]) (D++ow1) (rfl) ?_|refine EV.swapOw ([(b,T,_)]) (D++ow1) (rfl) ?_);refine EVL.callWC rfl rfl rfl rfl (cs:=ccs) rfl (vs:=[]) rfl D (ow1++[(b,T,_)]) (qZ _ _ _) hcolp ?_;rintro v2 D2 G2 ⟨hil,hD2⟩ hG2;obtain⟨ca,cc,rfl⟩:=SlC.val hil;(first|refine EVL.swapOw (D2++ow1) ([(b,T,_)]) ((qZ _ _ _).symm) ?_|refine EV.swapOw (D2++ow1) ([(b,T,_)]) ((qZ _ _ _).symm) ?_);refine EVL.nil ⟨rfl,?_⟩;refine EVI.two 19 23 0 (.inr rfl) kR rfl rfl ?_ ?_
     ·refine vA (hbest _ _ _ hG2 hil) ?_;rintro _ G3 rfl hG3;refine EVL.nil ⟨rfl,?_⟩;refine IV 20 ?_;refine IV 21 ?_;refine IV 22 ?_;refine EVI.one 23 0 (.inr rfl) kR rfl ?_
      (try refine zfA ?_);refine EVL.nil ⟨rfl,?_⟩;refine EVI.one 24 0 (.inr rfl) kR rfl ?_
      (try refine zfA ?_);refine EVL.nil ⟨rfl,?_⟩;refine EVI.one 25 0 (.inr rfl) kR rfl ?_
      (try refine zfA ?_);refine EVL.nil ⟨rfl,?_⟩;refine EVI.nil 0 (.inr rfl) kR ?_;exact⟨D2,⟨rfl,rfl,trivial⟩,sB,⟨rfl,trivial⟩,trivial,rfl,hG2.trans hG3,hD2⟩
     ·(try refine zfA ?_);refine EVL.nil ⟨rfl,?_⟩;refine EVI.one 19 0 (.inr rfl) kR rfl ?_;refine vA (hbest _ _ _ hG2 hil) ?_;rintro _ G3 rfl hG3;refine EVL.nil ⟨rfl,?_⟩;refine IV 20 ?_;refine IV 21 ?_;refine IV 22 ?_;refine EVI.one 24 0 (.inr rfl) kR rfl ?_
      (try refine zfA ?_);refine EVL.nil ⟨rfl,?_⟩;refine EVI.one 25 0 (.inr rfl) kR rfl ?_
      (try refine zfA ?_);refine EVL.nil ⟨rfl,?_⟩;refine EVI.nil 0 (.inr rfl) kR ?_;exact⟨D2,⟨rfl,rfl,trivial⟩,sB,⟨rfl,trivial⟩,trivial,rfl,hG2.trans hG3,hD2⟩
    ·(try refine zfA ?_);refine EVL.nil ⟨rfl,?_⟩;refine EVI.one 13 0 (.inr rfl) kR rfl ?_;(first|refine EVL.swapOw ([(b,T,_)]) (D++ow1) (rfl) ?_|refine EV.swapOw ([(b,T,_)]) (D++ow1) (rfl) ?_);refine EVL.callWC rfl rfl rfl rfl (cs:=ccs) rfl (vs:=[]) rfl D (ow1++[(b,T,_)]) (qZ _ _ _) hcolp ?_;rintro v2 D2 G2 ⟨hil,hD2⟩ hG2;obtain⟨ca,cc,rfl⟩:=SlC.val hil;(first|refine EVL.swapOw (D2++ow1) ([(b,T,_)]) ((qZ _ _ _).symm) ?_|refine EV.swapOw (D2++ow1) ([(b,T,_)]) ((qZ _ _ _).symm) ?_);refine EVL.nil ⟨rfl,?_⟩;refine EVI.one 19 0 (.inr rfl) kR rfl ?_;refine vA (hbest _ _ _ hG2 hil) ?_;rintro _ G3 rfl hG3;refine EVL.nil ⟨rfl,?_⟩;refine IV 20 ?_;refine IV 21 ?_;refine IV 22 ?_;refine EVI.one 24 0 (.inr rfl) kR rfl ?_
     (try refine zfA ?_);refine EVL.nil ⟨rfl,?_⟩;refine EVI.one 25 0 (.inr rfl) kR rfl ?_
     (try refine zfA ?_);refine EVL.nil ⟨rfl,?_⟩;refine EVI.nil 0 (.inr rfl) kR ?_;exact⟨D2,⟨rfl,rfl,trivial⟩,sB,⟨rfl,trivial⟩,trivial,rfl,hG2.trans hG3,hD2⟩
   ·rintro D2 G2 ⟨hG2,hD2⟩;clear hbest hcolp;have hH2:=hG1.trans hG2;refine uR ?_
    cases hbe:p.best rows (p.cols s).1 with
    | none =>
     have hcut0:p.cut rows (p.cols s).1=none:=by unfold GP.cut;rw[hbe]
     rw[GP.grow_none hcut0];rw[show (none:Option (Int × Rat × Rat)).isSome=false from rfl];apply EV.drawn 13 kR kR;intro xv yw;(repeat refine' DD ?_);(refine DJ.nil (fun G hG hF=>?_);(case hS|hS2=>rfl));refine uR ?_;exact⟨rfl,_,D2,ow1,_,rfl,hD2,by rw[qJ];exact hown1,hns1.mono (hG2.trans hG)⟩
    | some q =>
     obtain⟨c',t',g'⟩:=q;obtain⟨rfl,rfl,rfl⟩:=hval c' t' g' hbe;rw[show (some (c',t',g')).isSome=true from rfl]
     have htg:sm t'∧sm g':=by
      have hf:=zcb (zaY p.X p.cost rows (max 1 p.least) (p.cols s).1);rw[show (zaY p.X p.cost rows (max 1 p.least) (p.cols s).1).foldl zqL none=some (c',t',g') from hbe]at hf;have:=zox hg.small oM hb hxq hf.1;exact⟨zai this.1 oM,zai this.2 oM⟩
     obtain⟨htb,hgb⟩:=htg;have hcmp:=zbF g' p.gain hgb hgr;apply EV.drawn 13 kR kR;intro xv yw;(repeat (first|refine' DD ?_|refine' vN ?_|refine' vF ?_));refine' DJ.ofVal (zab.loadOwn tO rfl rfl rfl rfl (0) rfl (rfl) rfl rfl) rfl rfl rfl ?_;rotate_left;(repeat (first|refine' DD ?_|(refine' DC (hcmp) (h:=?_);rotate_left)));(refine DJ.nil (fun G4 hG4 hF4=>?_);(case hS|hS2=>rfl));refine uR ?_;by_cases hle:g'≤p.gain
     ·have hcut0:p.cut rows (p.cols s).1=none:=by unfold GP.cut;rw[hbe];exact if_pos hle
      rw[GP.grow_none hcut0];rw[qD (zlq hle)];refine uR ?_;exact⟨rfl,_,D2,ow1,_,rfl,hD2,by rw[qJ];exact hown1,hns1.mono (hG2.trans hG4)⟩
     have hcut0:p.cut rows (p.cols s).1=some (c',t'):=by unfold GP.cut;rw[hbe];exact if_neg hle
     rw[GP.grow_some hcut0];rw[qC (Int.not_le.2 (zeO.2 (Rat.not_le.1 hle)))];have hH4:=hH2.trans hG4;refine uR ?_;apply EV.drawn 14 kR kR;intro xv yw;(repeat (first|refine' DD ?_|refine' vN ?_|refine' vF ?_));refine' DJ.ofVal (zab.loadOwn tO rfl rfl rfl rfl (0) rfl (rfl) rfl rfl) rfl rfl rfl ?_;rotate_left;(repeat (first|refine' DD ?_|refine' vN ?_|refine' vF ?_));refine' vB (cO func203) (fun G hG hd=>zrO (col:=c') (t:=t') (hX.mono (hH4.trans hG)) (hr.mono (hH4.trans hG)) oM (fun x hx q hq=>zai (hxq x hx q hq) oM) htb) (fun _ _ _ h k=>(by obtain⟨u,w,e,hu,hw⟩:=h;exact⟨u,w,e,hu.mono k,hw.mono k⟩)) ?_;rotate_left;refine' DJ.copy (9) (by first|exact .inl rfl|exact .inr rfl) rfl rfl rfl id rfl kR ?_;rotate_left;refine' DJ.extract (9) rfl rfl rfl rfl rfl kR (fun G hd=>(by obtain⟨u,w,e,_⟩:=hd.head kR;exact⟨_,e,Nat.zero_lt_succ _⟩)) ?_;rotate_left;refine' DJ.extract (9) rfl rfl rfl rfl rfl kR (fun G hd=>(by obtain⟨u,w,e,_⟩:=hd.head kR;exact⟨_,e,Nat.lt_succ_self _⟩)) ?_;rotate_left;refine' DJ.copy (9) (.inr rfl) rfl rfl rfl (zkt 0) rfl kR ?_;rotate_left;(refine DJ.nil (fun G5 hG5 hF5=>?_);(case hS|hS2=>rfl));obtain⟨⟨u5,w5,e5,hu5,hw5⟩,_⟩:=hF5;rw[e5];rw[zk9 hb]at hu5 hw5;obtain⟨ua,uc,rfl⟩:=SlC.val hu5;obtain⟨wa,wc,rfl⟩:=SlC.val hw5;rw[show zkt 0 (Value.tuple #[.slice ua (za5 p.X c' t' rows).length uc,.slice wa (zaB p.X c' t' rows).length wc])=.slice ua (za5 p.X c' t' rows).length uc from rfl,show zkt 1 (Value.tuple #[.slice ua (za5 p.X c' t' rows).length uc,.slice wa (zaB p.X c' t' rows).length wc])=.slice wa (zaB p.X c' t' rows).length wc from rfl];have hH5:=hH4.trans hG5;have hns5:=hns1.mono (hG2.trans (hG4.trans hG5));have wd:IntKind.i64.wrap (dd+1)=dd+1:=by rw[pM];omega
     have hlo3:(za5 p.X c' t' rows).length≤20:=qI (List.length_filter_le _ _) hn;have hhi3:(zaB p.X c' t' rows).length≤20:=qI (List.length_filter_le _ _) hn;have hlom:∀r,r∈za5 p.X c' t' rows→0≤r∧r<(p.X.length:Int):=fun r hr=>hb r (List.mem_filter.mp hr).1;have hhim:∀r,r∈zaB p.X c' t' rows→0≤r∧r<(p.X.length:Int):=fun r hr=>hb r (List.mem_filter.mp hr).1;have hl1:(ns++[p.nd rows]).length=ns.length+1:=by simp
     have hp2:2 ^ (e+1+1)=2 ^ (e+1)+2 ^ (e+1):=by rw[qX];omega
     have hp3:2≤2 ^ (e+1):=by rw[qX];have:=Nat.one_le_two_pow (n:=e);omega
     have hL:=ih' (H:=G5) (b:=b) (T:=T) (dd:=dd+1) (s:=(p.cols s).2) (ns:=ns++[p.nd rows]) (hg.mono hH5) (hX.mono hH5) (hcf.mono hH5) oM oM hd1 hu5 hlo3 hlom hD2 (by rw[hl1];exact hown1) hns5 (by rw[hl1];omega);rw[hl1]at hL;have hLl:=(p.grow_len e (ns.length+1) (za5 p.X c' t' rows) (p.cols s).2).2;generalize hLe:p.grow e (ns.length+1) (za5 p.X c' t' rows) (p.cols s).2=Lp at *
     obtain⟨Ls,s2⟩:=Lp;dsimp only at hL hLl;refine uR ?_;refine RP ?_;refine EVL.loadOwn tO rfl rfl rfl rfl rfl rfl (0) rfl (rfl) rfl rfl ?_;refine uR ?_;rw[wd];refine EVL.callW rfl rfl rfl rfl rfl _ [] (qG _).symm hL ?_;rintro _ _ G8 ⟨rfl,out2,D3,ow3,css3,rfl,hD3,hown3,hns3⟩ hG8;rw[qG ((b,T,_)::(D3++ow3))];have hl2:(ns++[p.nd rows]++Ls).length=ns.length+1+Ls.length:=by simp;omega
     rw[hl2]at hown3;obtain⟨oa3,oc3,rfl⟩:=hown3.val;have hH8:=hH5.trans hG8;have hR:=ih' (H:=G8) (b:=b) (T:=T) (dd:=dd+1) (s:=s2) (ns:=ns++[p.nd rows]++Ls) (hg.mono hH8) (hX.mono hH8) (hcf.mono hH8) oM oM hd1 (hw5.mono hG8) hhi3 hhim hD3 (by rw[hl2];exact hown3) hns3 (by rw[hl2];omega);rw[hl2]at hR;generalize hRe:p.grow e (ns.length+1+Ls.length) (zaB p.X c' t' rows) s2=Rp at *
     obtain⟨Rs,s3⟩:=Rp;dsimp only at hR;refine uR ?_;refine RP ?_;refine EVL.loadOwn tO rfl rfl rfl rfl rfl rfl (0) rfl (rfl) rfl rfl ?_;refine uR ?_;rw[wd];refine EVL.callW rfl rfl rfl rfl rfl _ [] (qG _).symm hR ?_;rintro _ _ G10 ⟨rfl,out4,D4,ow4,css4,rfl,hD4,hown4,hns4⟩ hG10;rw[qG ((b,T,_)::(D4++ow4))];rw[show ns++[p.nd rows]++Ls++Rs=ns++p.nd rows::(Ls++Rs) by simp]at hown4 hns4;obtain⟨cA,cc1,cB,ecs,hAl,⟨a7,c7,hil7,rfl⟩,hput⟩:=ztx (fun c n h=>zb4.len h) hns4;rw[ecs]at hown4;clear ecs;obtain⟨go,capo,sp,rfl,rfl,hback⟩:=hown4.midS oM rfl;have hl3:(ns++p.nd rows::(Ls++Rs)).length=ns.length+1+Ls.length+Rs.length:=by simp;omega
     refine uR ?_;refine RP ?_;refine EVL.loadOwn tO rfl rfl rfl rfl rfl rfl (0) rfl (rfl) rfl rfl ?_;refine uR ?_;refine EVL.idxB tO rfl rfl rfl rfl rfl rfl rfl rfl rfl (ns.length) (ns.length*21) (rfl) ((by rw[hl3];omega)) (rfl) ?_;refine uR ?_;(first|refine EVL.unbox (7) rfl fun gc=>?_|refine EV.unbox (7) rfl fun gc=>?_);refine EVI.start (some 21) (gc,283,.int .i64 c'::(zac (zaa t')++zac (zaa g'))) ?_;refine IV 0 ?_;refine IV 1 ?_;refine IV 2 ?_;refine IV 3 ?_;refine IF 4 ?_;refine IL0 5 ?_;refine IF 6 ?_;refine IL0 7 ?_;refine IV 8 ?_;refine IV 9 ?_;refine IN 10 ?_;refine IF 11 ?_;refine EVI.one 12 0 (.inr rfl) kR rfl ?_;refine EVL.storeOwn tO rfl rfl rfl rfl rfl rfl ((gc,_,_)::(b,T,_)::D4) ([]) rfl rfl rfl rfl ((zfT (f:=0) hAl rfl (by show 0+1≤21;omega))) (zc4 (f:=0) hAl rfl rfl (by show 0+1≤21;omega) rfl) ?_;refine EVL.nil ⟨rfl,?_⟩;refine IN 13 ?_;refine IF 14 ?_;refine EVI.one 15 0 (.inr rfl) kR rfl ?_;refine EVL.storeOwn tO rfl rfl rfl rfl rfl rfl ((gc,_,_)::(b,T,_)::D4) ([]) rfl rfl rfl rfl ((zfT (f:=5) hAl rfl (by show 5+5≤21;omega))) (zc4 (f:=5) hAl rfl rfl (by show 5+5≤21;omega) rfl) ?_;refine EVL.nil ⟨rfl,?_⟩;refine IN 16 ?_;refine IF 17 ?_;refine EVI.one 18 0 (.inr rfl) kR rfl ?_;refine EVL.storeOwn tO rfl rfl rfl rfl rfl rfl ((gc,_,_)::(b,T,_)::D4) ([]) rfl rfl rfl rfl ((zfT (f:=1) hAl rfl (by show 1+1≤21;omega))) (zc4 (f:=1) hAl rfl rfl (by show 1+1≤21;omega) rfl) ?_;refine EVL.nil ⟨rfl,?_⟩;refine IN 19 ?_;refine IF 20 ?_;refine EVI.one 21 0 (.inr rfl) kR rfl ?_;refine EVL.storeOwn tO rfl rfl rfl rfl rfl rfl ((gc,_,_)::(b,T,_)::D4) ([]) rfl rfl rfl rfl ((zfT (f:=2) hAl rfl (by show 2+1≤21;omega))) (zc4 (f:=2) hAl rfl rfl (by show 2+1≤21;omega) rfl) ?_;refine EVL.subOw [] [(gc,_,_)] _ rfl ?_;refine EVL.nil ⟨rfl,?_⟩;refine EVI.nil 0 (.inl kR) kR ?_;refine uR ?_;obtain⟨n2,hn2⟩:∃n2:Nd,({ p.nd rows with col:=c',left:=((ns.length+1:Nat):Int),right:=((ns.length+1+Ls.length:Nat):Int),at':=t' }:Nd)=n2:=⟨_,rfl⟩
     have hpn:zb4 G10 ([.int .i64 c',.int .i64 ((ns.length+1:Nat):Int),.int .i64 ((ns.length+1+Ls.length:Nat):Int),.int .i64 (p.nd rows).rows,.int .i64 (p.nd rows).cls]++(zac (zaa t')++(zac (zaa (p.nd rows).cost)++(zac (zaa (p.nd rows).value)++[.slice a7 (p.nd rows).counts.length c7])))) n2:=by
      subst hn2;exact⟨a7,c7,hil7,rfl⟩
     rw[hn2];have hl4:(ns++n2::(Ls++Rs)).length=(ns++p.nd rows::(Ls++Rs)).length:=by simp
     refine⟨rfl,_,D4,_,_,rfl,hD4,?_,hput _ _ hpn⟩;rw[hl4];exact hback _ rfl
section
variable {P:Program} {n:Nat} {ops:Array Oper} {fuel:Nat} {L:Array Bool} {env:Env} {bx:Bxs} {H:Hs} {K:Env→Bxs→Hs→Prop} {τ:Tab} {d:Nat} {o:Oper} {v:Value}
theorem EVL.eqnilP {rest:List Oper} {Q:EQ} {T T' e:TypeId} {x:Operand} {p:Addr} (hT:P.underlying T=some (.pointer e)) (ho:o.op=.binOp .eql T x (.const (.pointer none)) T') (hw:zag ops env o=some true) (hd:o.dst=some d) (hn:Nat.blt d n=true)
  (hx:env.op x=some (.v (.pointer (some p)))) (h:EVL P n ops rest ((d,.v (.bool false))::env) bx H Q):EVL P n ops (o::rest) env bx H Q :=
 EVL.gen hw hd hn (fun ev W he=>by
  have ex:=he x _ (by simp[ho,Op.operands]) hx;have ey:=he (.const (.pointer none)) _ (by simp[ho,Op.operands]) rfl
  have hq:(Op.equalIn (9999+1) T (.pointer (some p)) (.pointer none)).run P W=.ok false W:=by
   unfold Op.equalIn;simp[run_underlying hT]
  have hm:Op.maxDepth=9999+1:=rfl;unfold execOp;simp[ho,ex,ey,eqGuard,binOp,Op.equal,hm,hq]) h
end
theorem zsX {H:Hp} (s:Int):PO prog 33 #[.int .u64 s] H fun v ow=>∃g,v=.pointer (some ⟨g,0,none⟩)∧ow=[(g,164,[.int .u64 s])] :=
 ⟨(cO func33),fun W _ _=>(zq9 s W).mono fun e W' ⟨he,hw⟩=>by
  subst hw;refine⟨_,_,he,⟨_,rfl,rfl⟩,⟨by simp,fun b T cs h=>?_⟩,(Below.refl _ _).alloc (qH _) _⟩;rw[pL]at h;cases h;exact⟨qH _,Box.new W _ _⟩⟩
theorem zpV {H:Hp} {b n:Nat} {T:TypeId} {s:Int} (hs:0≤s) (hn:1≤n) (hn2:n≤65536) :
  PW prog 34 #[.pointer (some ⟨b,0,none⟩),.int .i64 (n:Int)] H [(b,T,[.int .u64 s])] fun v ow H'=>(∃T',ow=[(b,T',[.int .u64 (zcx n s).2])])∧0≤(zcx n s).2∧IL H' v (zcx n s).1∧∃a,v=.slice a (zcx n s).1.length (zcx n s).1.length :=
 PW.of_order (cO func34) hs fun W hd=>by
  have:=znt b n s W hd hn hn2;rw[zhQ];exact this
set_option maxRecDepth 100000 in
theorem znQ {H:Hp} {kd cl w:Int} {ns:List Nd} {cs:List Value} (ht:zcs H cs kd cl w ns) (hok:zcf ⟨kd,cl,w,ns⟩):PC prog 72 #[.agg cs.toArray] H fun r _=>r=.int .i64 0:=by
 obtain⟨a,cp,css,rfl,hns,hsl⟩:=ht;obtain⟨hkd,hw,hln,⟨hh,hh10,hsub⟩,hall⟩:=hok;dsimp only at hkd hw hln hsub hall;have hpos:=hsub.end0;refine BD func72 ntmps72 ?_;refine uR ?_;refine EVL.meetK (ι:=Bool) [1,2] [1] (fun _=>[(17,.v (.bool false))]) (fun _=>[]) (fun _=>[]) (fun _ G=>H.Le G) rfl rfl (fun _=>rfl) ?_ ?_
 ·rcases hkd with ⟨rfl,_⟩ | ⟨rfl,rfl⟩
  ·try refine uR ?_
   exact⟨true,⟨rfl,trivial⟩,sB,trivial,sB,rfl,Hp.Le.refl _⟩
  ·try refine uR ?_
   exact⟨true,⟨rfl,trivial⟩,sB,trivial,sB,rfl,Hp.Le.refl _⟩
 rintro _ G1 hG1;refine uR ?_;rw[qC (show ¬w<1 by omega)];refine uR ?_;rw[qC (show ¬w>20 by omega)];refine uR ?_;rw[qC (show ¬(ns.length:Int)<1 by omega)];refine uR ?_;rw[qC (show ¬(ns.length:Int)>2000 by omega)];refine uR ?_;refine EVL.meetK (ι:=Bool) [1,2] [1] (fun _=>[(60,.v (.bool false))]) (fun _=>[]) (fun _=>[]) (fun _ G=>H.Le G) rfl rfl (fun _=>rfl) ?_ ?_
 ·rcases hkd with ⟨rfl,h1,h2⟩ | ⟨rfl,rfl⟩
  ·try refine uR ?_
   rw[qC (show ¬cl<1 by omega)];refine uR ?_;rw[qC (show ¬cl>12 by omega)];refine uR ?_;exact⟨true,⟨rfl,trivial⟩,sB,trivial,sB,rfl,hG1⟩
  ·try refine uR ?_
   exact⟨true,⟨rfl,trivial⟩,sB,trivial,sB,rfl,hG1⟩
 rintro _ G2 hG2;refine uR ?_;(first|refine EVL.unbox (3) rfl fun g3=>?_|refine EV.unbox (3) rfl fun g3=>?_);refine uR ?_;refine EVL.callW rfl rfl rfl rfl rfl ([(g3,203,zlL kd cl w (.slice a ns.length cp) 0)]) ([]) rfl (ztn oM hsub (hns.mono hG2) (hsl.mono hG2) (deep:=0) (qH _)) ?_;rintro _ _ G3 ⟨rfl,far,rfl,hfar⟩ hG3;refine uR ?_;rw[show ((ns.length:Int) != (ns.length:Int))=false from pQ _];refine uR ?_;refine EVL.fldB tO rfl rfl rfl rfl rfl rfl rfl ?_;refine EVL.loadOwn tO rfl rfl rfl rfl rfl rfl (0) rfl (rfl) rfl rfl ?_;refine uR ?_;rw[qC (show ¬far>10 by omega)];refine uR ?_;refine EV.loopK (ι:=Nat) [1,80,81] [1] (fun q=>[(82,.v (.int .i64 (q:Int)))]) (fun _=>[]) (fun _=>[(g3,_,zlL kd cl w (.slice a ns.length cp) far)]) (fun q _=>q≤ns.length) (fun q=>ns.length-q) (0) rfl rfl ⟨rfl,trivial⟩ trivial rfl (fun _=>rfl) (qQ _) ?_;rintro i G4 hG4 hi;have hH4:=hG2.trans (hG3.trans hG4);refine uR ?_;refine EV.cond rfl (fun hlt=>?_) (fun hlt=>?_)
 ·simp only[nN]at hlt;obtain⟨n,hn,hN,hC⟩:=hall i hlt;obtain⟨c,hcut,hnd⟩:=(hns.mono hH4).get hn;obtain⟨a7,c7,rfl,_⟩:=hnd.cells;refine uR ?_;refine EVL.idxM tO rfl rfl rfl rfl rfl rfl rfl rfl rfl ((hsl.mono hH4)) (i) (rfl) (hlt) (hcut) ?_
  repeat (first|refine RUN ?_|refine CV (zj0 hkd hnd hN) ?_|refine CE (zj0 hkd hnd hN) ?_)
  refine⟨i+1,⟨by rw[zad i (by omega)];rfl,trivial⟩,sB,trivial,sB,rfl,hlt,Hp.Le.refl _,by omega⟩
 ·simp only[nN]at hlt;refine uR ?_;refine EV.loopK (ι:=Nat) [1,92,93] [1] (fun q=>[(94,.v (.int .i64 (q:Int)))]) (fun _=>[]) (fun _=>[(g3,_,zlL kd cl w (.slice a ns.length cp) far)]) (fun q _=>q≤ns.length) (fun q=>ns.length-q) (0) rfl rfl ⟨rfl,trivial⟩ trivial rfl (fun _=>rfl) (qQ _) ?_;rintro j G5 hG5 hj;have hH5:=hH4.trans hG5;refine uR ?_;refine EV.cond rfl (fun hlj=>?_) (fun hlj=>?_)
  ·simp only[nN]at hlj;obtain⟨n,hn,hN,hC⟩:=hall j hlj;obtain⟨c,hcut,hnd⟩:=(hns.mono hH5).get hn;obtain⟨a7,c7,rfl,_⟩:=hnd.cells;refine uR ?_;refine EVL.idxM tO rfl rfl rfl rfl rfl rfl rfl rfl rfl ((hsl.mono hH5)) (j) (rfl) (hlj) (hcut) ?_;refine uR ?_;by_cases hcol:n.col = -1
   ·apply EV.drawn 20 kR kR;intro xv yw;(repeat refine' DD ?_);rw[show (n.col != -1)=false by rw[hcol];rfl];(repeat refine' DD ?_);(refine DJ.nil (fun G hG hF=>?_);(case hS|hS2=>rfl));refine uR ?_;refine⟨j+1,⟨by rw[zad j (by omega)];rfl,trivial⟩,sB,trivial,sB,rfl,hlj,hG,by omega⟩
   ·obtain⟨hc0,hl0,hr0,na,nb,hna,hnb,hCC⟩:=hC hcol;have hla:=(qE.1 hna).1;have hlb:=(qE.1 hnb).1;obtain⟨na',ena,hNa,_⟩:=hall _ hla;obtain⟨nb',enb,hNb,_⟩:=hall _ hlb;cases hna.symm.trans ena;cases hnb.symm.trans enb;obtain⟨ca,hcuta,hnda⟩:=(hns.mono hH5).get hna;obtain⟨cb,hcutb,hndb⟩:=(hns.mono hH5).get hnb;obtain⟨xa7,xc7,rfl,_⟩:=hnda.cells;obtain⟨ya7,yc7,rfl,_⟩:=hndb.cells;apply EV.drawn 20 kR kR;intro xv yw;(repeat refine' DD ?_);rw[show (n.col != -1)=true from bne_iff_ne.2 hcol];(repeat refine' DD ?_);refine' DJ.idxM tO rfl rfl rfl rfl rfl rfl rfl rfl rfl ((hsl.mono hH5)) (n.left.toNat) ((by rw[Int.toNat_of_nonneg hl0])) (hla) (hcuta) ?_;rotate_left;(repeat refine' DD ?_);refine' DJ.idxM tO rfl rfl rfl rfl rfl rfl rfl rfl rfl ((hsl.mono hH5)) (n.right.toNat) ((by rw[Int.toNat_of_nonneg hr0])) (hlb) (hcutb) ?_;rotate_left;(repeat refine' DD ?_);refine' vC (cO func133) (fun G hG hd=>zrx hkd (hnd.mono hG) (hnda.mono hG) (hndb.mono hG) hN hNa hNb hCC) ?_;rotate_left;(repeat refine' DD ?_);(refine DJ.nil (fun G hG hF=>?_);(case hS|hS2=>rfl));refine uR ?_;refine⟨j+1,⟨by rw[zad j (by omega)];rfl,trivial⟩,sB,trivial,sB,rfl,hlj,hG,by omega⟩
  ·try refine uR ?_
   rfl
inductive zjb (T:List Nd) (x:List Rat):Nat→Nat→Prop
 | here {i:Nat} {n:Nd}:T[i]?=some n→n.col = -1→zjb T x i i
 | low {i j:Nat} {n:Nd}:T[i]?=some n→n.col ≠ -1→x.getD n.col.toNat 0≤n.at'→zjb T x n.left.toNat j→zjb T x i j
 | high {i j:Nat} {n:Nd}:T[i]?=some n→n.col ≠ -1→¬x.getD n.col.toNat 0≤n.at'→zjb T x n.right.toNat j→zjb T x i j
theorem zjb.det {T:List Nd} {x:List Rat} {i j:Nat} (h:zjb T x i j):∀{k:Nat},zjb T x i k→j=k:=by
 induction h with
 | here h1 h2 =>
  intro k h
  cases h with
  | here _ _=>rfl
  | low e n _ _=>rw[h1]at e;cases e;exact absurd h2 n
  | high e n _ _=>rw[h1]at e;cases e;exact absurd h2 n
 | low h1 h2 h3 _ ih =>
  intro k h
  cases h with
  | here e n=>rw[h1]at e;cases e;exact absurd n h2
  | low e n _ h=>rw[h1]at e;cases e;exact ih h
  | high e n h' _=>rw[h1]at e;cases e;exact absurd h3 h'
 | high h1 h2 h3 _ ih =>
  intro k h
  cases h with
  | here e n=>rw[h1]at e;cases e;exact absurd n h2
  | low e n h' _=>rw[h1]at e;cases e;exact absurd h' h3
  | high e n _ h=>rw[h1]at e;cases e;exact ih h
theorem Sub.at {T:List Nd} {w:Int} {k h e:Nat} (h0:Sub T w k h e):∀i,k≤i→i<e→∃h' e',Sub T w i h' e':=by
 induction h0 with
 | @leaf k h n a b c d e =>
  intro i h1 h2;obtain rfl:i=k:=oM;exact⟨0,_,.leaf a b c d e⟩
 | @node k h m e n a b c d f s1 s2 ih1 ih2 =>
  intro i h1 h2;by_cases h3:i=k
  ·subst h3;exact⟨_,_,.node a b c d f s1 s2⟩
  ·by_cases h4:i<m
   ·exact ih1 i oM h4
   ·exact ih2 i oM h2
def cqF (q:Rat):List Value:=zac (zaa q)
theorem zk3 (l:List Rat):(l.flatMap cqF).length=l.length*5:=flat_len cqF 5 l fun _ _=>rfl
theorem zfH (n:Nat):(List.replicate n ([.bool false,.int .u64 0,.string ⟨#[]⟩,.int .u64 0,.string ⟨#[]⟩]:List Value)).flatten=(([]:List Rat)++List.replicate (n-0) 0).flatMap cqF:=by
 rw[pO,Nat.sub_zero,List.flatMap_def,List.map_replicate,show cqF 0=_ from zar]
theorem zoV (qs:List Rat) (q:Rat) {n:Nat} (h:qs.length<n):((qs++List.replicate (n-qs.length) 0).flatMap cqF).take (qs.length*5)++zac (zaa q)++((qs++List.replicate (n-qs.length) 0).flatMap cqF).drop (qs.length*5+5)=((qs++[q])++List.replicate (n-(qs++[q]).length) 0).flatMap cqF:=by
 have e:n-qs.length=(n-(qs++[q]).length)+1:=by rw[qJ,qx];omega
 rw[e,List.replicate_succ,List.flatMap_append,List.flatMap_cons,List.flatMap_append,List.flatMap_append,List.flatMap_singleton,qZ (qs.flatMap cqF) (cqF q)];have:=zc4 (A:=qs.flatMap cqF) (c:=cqF 0) (B:=(List.replicate (n-(qs++[q]).length) (0:Rat)).flatMap cqF) (vs:=zac (zaa q)) (c':=cqF q) (k:=qs.length) (s:=5) (f:=0) (m:=5) (q:=qs.length*5) (zk3 qs) rfl rfl (qH 5) rfl;exact this
theorem zoJ {H:Hp} {v:Value} {l:List Int} (h:IL H v l) (hl:l.length≤1000000):PC prog 91 #[v] H fun r G=>IL G r l:=by
 by_cases h0:l.length=0
 ·obtain rfl:=pK.1 h0;obtain⟨a,cap,rfl⟩:=SlC.val h;refine BD func91 ntmps91 ?_;refine uR ?_;refine EVL.eqnil tO rfl rfl rfl rfl rfl rfl rfl ?_
  cases a with
  | none =>
   refine uR ?_;exact IL.nil _ _ _
  | some x =>
   refine uR ?_;refine EVL.lit0 tO rfl rfl rfl rfl rfl rfl rfl fun g0=>?_;refine uR ?_;refine EVL.append0 tO rfl rfl rfl rfl rfl rfl rfl rfl rfl (qH _) ?_;refine uR ?_;exact IL.nil _ _ _
 ·have hs:=h.2;rcases hs with ⟨e,_⟩ | ⟨b,off,cap,c,rfl,_⟩
  ·omega
  ·refine BD func91 ntmps91 ?_;refine uR ?_;refine EVL.eqnil tO rfl rfl rfl rfl rfl rfl rfl ?_;refine uR ?_;refine EVL.lit0 tO rfl rfl rfl rfl rfl rfl rfl fun g0=>?_;refine uR ?_;refine EVL.append tO rfl rfl rfl rfl rfl rfl rfl rfl rfl rfl rfl rfl [] [(g0,3,[])] [] rfl (zaO.full (m:=0) rfl oM) (zdj.ro h oM) (zlp l) oM ?_;intro v1 ow1 hown1;rw[qv,pO]at hown1;(first|refine EVL.publishL [] ow1 [] (rfl) hown1 fun G2 hG2 hs2=>?_|refine EV.publishL [] ow1 [] (rfl) hown1 fun G2 hG2 hs2=>?_);refine uR ?_;exact hs2
theorem zaJ.one {H:Hp}:∀{css:List (List Value)} {ns:List Nd},zaJ H css ns→zed css.flatten=true
 | [],_,_=>rfl
 | c::css,[],h=>by have:=h.1;simp at this
 | c::css,n::ns,h=>by
  rw[List.flatten_cons];refine zfP (h.2 0 c n rfl rfl).one (zaJ.one (ns:=ns) ⟨?_,fun j c' n' e1 e2=>h.2 (j+1) c' n' (by rw[pN];exact e1) (by rw[pN];exact e2)⟩);have:=h.1;simpa using this
theorem zoL {H:Hp} {v:Value} {ns:List Nd} {css:List (List Value)} (hns:zaJ H css ns) (h:SlC H v ns.length 21 css.flatten) (h0:0<ns.length) (hl:ns.length≤1000000):PW prog 90 #[v] H [] fun r ow _=>zaO 160 21 r ns.length css.flatten ow:=by
 have hs:=h.2;rcases hs with ⟨e,_⟩ | ⟨b,off,cap,c,rfl,_⟩
 ·omega
 ·refine PW.body tO func90 rfl kR ntmps90 rfl rfl ?_;refine uR ?_;refine EVL.eqnil tO rfl rfl rfl rfl rfl rfl rfl ?_;refine uR ?_;refine EVL.lit0 tO rfl rfl rfl rfl rfl rfl rfl fun g0=>?_;refine uR ?_;refine EVL.append tO rfl rfl rfl rfl rfl rfl rfl rfl rfl rfl rfl rfl [] [(g0,160,[])] [] rfl (zaO.full (m:=0) rfl oM) (zdj.ro h h0) hns.one oM ?_;intro v1 ow1 hown1;refine uR ?_;rw[qv]at hown1;rw[qG];exact hown1
theorem zaO.same {e:TypeId} {s m:Nat} {v:Value} {xs:List Value} {ow:Ows} (h:zaO e s v m xs ow) (h0:0<m):∃g cap sp,v=.slice (some ⟨g,0,none⟩) m cap∧ow=[(g,e,xs++sp)]∧∀xs',xs'.length=xs.length→zaO e s v m xs' [(g,e,xs'++sp)]:=by
 rcases h.2 with ⟨_,e0,_⟩ | ⟨g,cap,sp,rfl,rfl,h1,h2,h3⟩
 ·omega
 ·exact⟨g,cap,sp,rfl,rfl,fun xs' e=>⟨by rw[e];exact h.1,.inr ⟨g,cap,sp,rfl,rfl,by rw[←h1,qJ,qJ,e],h2,h3⟩⟩⟩
theorem zaJ.put {H:Hp} {A B:List (List Value)} {c c':List Value} {ns:List Nd} {n:Nd} (h:zaJ H (A++c::B) ns) (hn:ns[A.length]?=some n) (h':zb4 H c' n):zaJ H (A++c'::B) ns:=by
 refine⟨by have:=h.1;simpa using this,fun j x m e1 e2=>?_⟩;rcases Nat.lt_trichotomy j A.length with k | k | k
 ·exact h.2 j x m (by rw[qM k]at e1 ⊢;exact e1) e2
 ·subst k;rw[qL (qH _),Nat.sub_self]at e1;cases e1;rw[hn]at e2;cases e2;exact h'
 ·obtain⟨q,hq⟩:∃q,j-A.length=q+1:=⟨j-A.length-1,by omega⟩;exact h.2 j x m (by rw[qL oM,hq,pN]at e1 ⊢;exact e1) e2
theorem zfK (A B:List (List Value)) (c:List Value) (sp:List Value):(A++c::B).flatten++sp=A.flatten++(c++(B.flatten++sp)):=by simp
theorem zaJ.flat_len {H:Hp}:∀{css:List (List Value)} {ns:List Nd},zaJ H css ns→css.flatten.length=css.length*21
 | [],_,_=>rfl
 | c::css,[],h=>by have:=h.1;simp at this
 | c::css,n::ns,h=>by
  have h1:=(h.2 0 c n rfl rfl).len;have h2:=zaJ.flat_len (css:=css) (ns:=ns) ⟨by have:=h.1;simpa using this,fun j c' n' e1 e2=>h.2 (j+1) c' n' (by rw[pN];exact e1) (by rw[pN];exact e2)⟩;rw[List.flatten_cons,qJ,qR];omega
theorem zaJ.left {H:Hp} {A B:List (List Value)} {ns:List Nd} (h:zaJ H (A++B) ns):zaJ H A (ns.take A.length):=by
 have hl:=h.1;rw[qJ]at hl;refine⟨by rw[qP];omega,fun j c n e1 e2=>?_⟩;have hj:=(qE.1 e1).1;rw[pP,if_pos hj]at e2;exact h.2 j c n (by rw[qM hj];exact e1) e2
theorem zcs.one {H:Hp} {cs:List Value} {kd cl w:Int} {ns:List Nd} (h:zcs H cs kd cl w ns):zed cs=true:=by
 obtain⟨_,_,_,rfl,_⟩:=h;rfl
theorem zcs.len {H:Hp} {cs:List Value} {kd cl w:Int} {ns:List Nd} (h:zcs H cs kd cl w ns):cs.length=4:=by
 obtain⟨_,_,_,rfl,_⟩:=h;rfl
theorem zcf.copies {t:Tr} (h:zcf t):0<t.ns.length∧t.ns.length≤1000000∧∀n,n∈t.ns→n.counts.length≤1000000:=by
 obtain⟨hkd,hw,hln,⟨hh,hh10,hsub⟩,hall⟩:=h;refine⟨hsub.end0,by omega,fun n hn=>?_⟩;obtain⟨i,hi⟩:=List.mem_iff_getElem?.1 hn;obtain⟨n',e,hN,_⟩:=hall i (qE.1 hi).1;cases hi.symm.trans e;have:=hN.len;omega
end
section
end
section
open Go.RowKit _root_.Go.Proofs.Tryz
theorem zrv (a b:Int) (ha:0≤a∧a≤1000) (hb:1≤b∧b≤1000):PV prog 44 #[.int .i64 a,.int .i64 b] (.tuple #[zaa (mkRat a b.natAbs),.bool true]):=by
 have h1:=zdT a oM oM;have h2:=zdT b oM oM;have b1:bl a.natAbs≤20:=zaU oM;have b2:bl b.natAbs≤20:=zaU oM;have h3:=zpq a b (by show bl a.natAbs≤_;omega) (by show bl b.natAbs≤_;omega) oM;rw[if_neg (show ¬b<0 by omega)]at h3;refine PV.of_pc ?_;refine BD func44 ntmps44 ?_
 repeat (first|refine RUN ?_|refine CV (h1) ?_|refine CV (h2) ?_|refine CV (h3) ?_|refine CE (h1) ?_|refine CE (h2) ?_|refine CE (h3) ?_)
 rfl
end
section
end
section
open Go.RowKit _root_.Go.Proofs.Tryz
end
section
open Go.ChangeShapes Go.WideShapes Go.ChangeAt Go.RowKit
def hpOf (W:World):Hp:=fun b=>match W.heap[b]? with
 | some (.cells c _ _)=>some c
 | _=>none
theorem fits_hpOf (W:World):Fits (hpOf W) W:=fun b c h=>by
 unfold hpOf at h;split at h
 ·rename_i c' T fz hb;cases h;exact⟨T,fz,hb⟩
 ·cases h
section
variable {H:Type} {enc:TypeId × Value→H} {P:Program} {w:World} {base:Nat} {spare:Nat→Bool} {held:Bool}
theorem ints_open {t e:TypeId} {k:IntKind} {fuel:Nat} {cs:List Value} {x:DataW H × List MemPlace} (ht:P.underlying t=some (.slice e)) (he:P.underlying e=some (.int k)) (hc:P.cellsOf e=1) (h:DataW.trod enc P w base spare held fuel t cs=some x) :
  ∃a len cap zs,cs=[.slice a len cap]∧SlN (fun z:Int=>Value.int k z) (hpOf w) (.slice a len cap) zs∧∀n∈zs,(Lit.int k n).wf=true:=by
 rcases open_ints ht he hc h with ⟨rfl,_⟩ | ⟨x,len,cap,zs,rfl,_,hl,hm,hz,_,hcell,hw⟩
 ·exact⟨none,0,0,[],rfl,zsj _ _,fun n hn=>by cases hn⟩
 ·have hzl:len≤zs.length:=by rw[hz];split <;> omega
  refine⟨some x,len,cap,zs.take len,rfl,?_,fun n hn=>hw n (List.mem_of_mem_take hn)⟩;have hlen:(zs.take len).length=len:=by rw[qP];omega
  unfold SlN;rw[hlen];refine⟨by rw[qV,hlen,Nat.mul_one],?_⟩;by_cases h0:len=0
  ·subst h0;exact .inl ⟨rfl,some x,cap,rfl⟩
  ·right;have h1:=hcell 0 oM;obtain⟨b,off,sp⟩:=x
   have hsp:sp=none:=by
    cases sp with
    | none=>rfl
    | some s=>simp only[World.cell?,Addr.add]at h1;split at h1 <;> simp_all
   subst hsp
   have hb:∃c,hpOf w b=some c∧∀i,i<zs.length→c[off+i]?=some (.int k (zs.getD i 0)):=by
    simp only[Addr.add_mid]at hcell;unfold World.cell? at hcell;unfold hpOf;simp only at hcell
    cases hw':w.heap[b]? with
    | none=>have:=hcell 0 oM;rw[hw']at this;cases this
    | some o =>
     cases o with
     | cells c T fz=>exact⟨c,rfl,fun i hi=>by have:=hcell i hi;rw[hw']at this;simpa using this⟩
     | _=>have:=hcell 0 oM;rw[hw']at this;cases this
   obtain⟨c,hc1,hc2⟩:=hb;refine⟨b,off,cap,c,rfl,hl,hc1,fun j y hj=>?_⟩;rw[qK,pP]at hj;split at hj
   ·rename_i hjl;rw[hc2 j oM,←hj,qB,qA (by omega)];rfl
   ·cases hj
end
theorem i64_bounds {z:Int} (h:(Lit.int .i64 z).wf=true):-9223372036854775808≤z∧z<9223372036854775808:=by
 have:=bounds_i64 h;omega
end
section
open Go.ChangeShapes Go.WideShapes Go.ChangeAt Go.RowKit
theorem zuC {α:Type}:∀{l:List α},l.length=10→∃a b c d e f g h i j,l=[a,b,c,d,e,f,g,h,i,j]
 | [a,b,c,d,e,f,g,h,i,j],_=>⟨a,b,c,d,e,f,g,h,i,j,rfl⟩
end
section
open Go.RowKit _root_.Go.Proofs.Tryz
theorem zp2 {α β:Type} {R:α→β→Prop} {A B:List α} {c c':α} {ys:List β} {y:β} (h:(A++c::B).length=ys.length∧∀(j:Nat) (x:α) (y:β),(A++c::B)[j]?=some x→ys[j]?=some y→R x y) (k:R c' y) :
  (A++c'::B).length=(ys.set A.length y).length∧∀(j:Nat) (x:α) (z:β),(A++c'::B)[j]?=some x→(ys.set A.length y)[j]?=some z→R x z:=by
 refine⟨by have:=h.1;simpa using this,fun j x m e1 e2=>?_⟩;rcases Nat.lt_trichotomy j A.length with q | q | q
 ·rw[List.getElem?_set_ne (by omega)]at e2;exact h.2 j x m (by rw[qM q]at e1 ⊢;exact e1) e2
 ·subst q;rw[qL (qH _),Nat.sub_self]at e1;cases e1;have hl:A.length<ys.length:=by have:=h.1;simp at this;omega
  rw[List.getElem?_set_self hl]at e2;cases e2;exact k
 ·obtain⟨p,hp⟩:∃p,j-A.length=p+1:=⟨j-A.length-1,by omega⟩;rw[List.getElem?_set_ne (by omega)]at e2;exact h.2 j x m (by rw[qL oM,hp,pN]at e1 ⊢;exact e1) e2
theorem ztw {α β:Type} {R:α→β→Prop} {xs:List α} {ys:List β} (h:xs.length=ys.length∧∀(j:Nat) (x:α) (y:β),xs[j]?=some x→ys[j]?=some y→R x y) (k:Nat) :
  (xs.take k).length=(ys.take k).length∧∀(j:Nat) (x:α) (y:β),(xs.take k)[j]?=some x→(ys.take k)[j]?=some y→R x y:=by
 refine⟨by rw[qP,qP,h.1],fun j x y e1 e2=>?_⟩;rw[pP]at e1 e2;split at e1
 ·rename_i hj;rw[if_pos hj]at e2;exact h.2 j x y e1 e2
 ·cases e1
theorem zfV {α:Type} {l:List α} {k:Nat} (h:k<l.length):∃A c B,l=A++c::B∧A.length=k:=⟨l.take k,l[k],l.drop (k+1),by rw[List.getElem_cons_drop,List.take_append_drop],by rw[qP];omega⟩
section
variable {P:Program} {n:Nat} {ops:Array Oper} {o:Oper} {rest:List Oper} {env:Env} {bx:Bxs} {H:Hs} {Q:EQ} {τ:Tab} {d:Nat}
end
end
section
instance:Nonempty Nd:=⟨⟨0,0,0,0,0,0,0,0,[]⟩⟩
noncomputable def zb3 (x:List Rat) (t:Tr):Nd:=Classical.epsilon fun n=>∃i,zjb t.ns x 0 i∧t.ns[i]?=some n
theorem zml {x:List Rat} {t:Tr} {i:Nat} {n:Nd} (h1:zjb t.ns x 0 i) (h2:t.ns[i]?=some n):zb3 x t=n:=by
 have h:∃n,∃i,zjb t.ns x 0 i∧t.ns[i]?=some n:=⟨n,i,h1,h2⟩;obtain⟨j,h3,h4⟩:=Classical.epsilon_spec h;have e:=h1.det h3;subst e;have h5:some (zb3 x t)=some n:=h4.symm.trans h2;exact Option.some.inj h5
noncomputable def vL (x:List Rat) (ts:List Tr):List Rat:=ts.map fun t=>(zb3 x t).value
theorem Sub.leafs {T:List Nd} {w:Int} {k h e:Nat} (h0:Sub T w k h e) (x:List Rat):∃(j:Nat) (n:Nd),zjb T x k j∧T[j]?=some n:=by
 induction h0 with
 | @leaf k h n a b _ _ _=>exact⟨k,n,.here a b,a⟩
 | @node k h m e n a b c d f s1 s2 ih1 ih2 =>
  by_cases hle:x.getD n.col.toNat 0≤n.at'
  ·obtain⟨j,q,h1,h2⟩:=ih1;refine⟨j,q,.low a oM hle ?_,h2⟩;rw[d];exact h1
  ·obtain⟨j,q,h1,h2⟩:=ih2;refine⟨j,q,.high a oM hle ?_,h2⟩;rw[f];exact h1
theorem ziA {t:Tr} (h:zcf t) (x:List Rat):∃i:Nat,zjb t.ns x 0 i∧i<t.ns.length∧t.ns[i]?=some (zb3 x t)∧OkN t.kd t.cl (zb3 x t):=by
 obtain⟨_,_,_,⟨hh,_,hsub⟩,hall⟩:=h;obtain⟨i,n,h1,h2⟩:=hsub.leafs x;have hi:=(qE.1 h2).1;rw[zml h1 h2];obtain⟨n',e,hN,_⟩:=hall i hi;rw[h2]at e;cases e;exact⟨i,h1,hi,h2,hN⟩
end
section
open Go.RowKit _root_.Go.Proofs.Tryz
theorem zqo {H:Hp} {v:Value} {X:List (List Rat)} {w:Nat} (h:QLL H v X) (h1:1≤X.length) (h2:X.length≤300) (hw:1≤w∧w≤20) (hx:∀x,x∈X→x.length=w):PC prog 158 #[v] H fun r _=>r=.bool true:=by
 obtain⟨vs,hvs,hs⟩:=h;obtain⟨a,c,rfl⟩:=SlC.val hs;obtain⟨x0,hx0⟩:=gE h1;obtain⟨a0,c0,hv0,_⟩:=hvs.at hx0;have hl0:=hx x0 (qF hx0);rw[hl0]at hv0;refine BD func158 ntmps158 ?_;refine uR ?_;rw[qC (show ¬(X.length:Int)<1 by omega)];refine uR ?_;rw[qC (show ¬(X.length:Int)>300 by omega)];refine uR ?_;refine vI (hs) (0) (rfl) (h1) (hv0) ?_;refine uR ?_;rw[qC (show ¬(w:Int)<1 by omega)];refine uR ?_;refine vI (hs) (0) (rfl) (h1) (hv0) ?_;refine uR ?_;rw[qC (show ¬(w:Int)>20 by omega)];refine uR ?_;refine EV.loopK (ι:=Nat) [0,27,28] [] (fun i=>[(29,.v (.int .i64 (i:Int)))]) (fun _=>[]) (fun _=>[]) (fun i _=>i≤X.length) (fun i=>X.length-i) (0) rfl rfl ⟨rfl,trivial⟩ trivial rfl (fun _=>rfl) (qQ _) ?_;rintro i G1 hG1 hi;refine uR ?_;refine EV.cond rfl (fun hlt=>?_) (fun hlt=>?_)
 ·simp only[nN]at hlt;obtain⟨x,hxi⟩:=gE hlt;obtain⟨a1,c1,hv1,_⟩:=hvs.at hxi;have hl1:=hx x (qF hxi);rw[hl1]at hv1;refine uR ?_;refine vI ((hs.mono hG1)) (i) (rfl) (hlt) (hv1) ?_;refine uR ?_;refine vI ((hs.mono hG1)) (0) (rfl) (h1) (hv0) ?_;refine uR ?_;rw[pQ];refine uR ?_;refine⟨i+1,⟨by rw[zad i (by omega)];rfl,trivial⟩,sB,trivial,sB,rfl,hlt,Hp.Le.refl _,by omega⟩
 ·simp only[nN]at hlt;refine uR ?_;rfl
abbrev zuw (deep least:Int) (g:Rat):List Value:=.int .i64 deep::.int .i64 least::zac (zaa g)
theorem zg9 {H:Hp} {deep least:Int} {g:Rat} (hg:sm g):PC prog 48 #[.agg (zuw deep least g).toArray] H fun r _=>r=.bool (decide (zm3 deep least g)):=by
 have hs:=zcp g (qI hg.num oM);refine BD func48 ntmps48 ?_;refine uR ?_;by_cases h1:deep≥0
 case neg =>
  rw[qC h1];refine uR ?_;exact ziD fun k=>h1 k.1
 rw[qD h1];refine uR ?_;by_cases h2:deep≤10
 case neg =>
  rw[qC h2];refine uR ?_;exact ziD fun k=>h2 k.2.1
 rw[qD h2];refine uR ?_;by_cases h3:least≥1
 case neg =>
  rw[qC h3];refine uR ?_;exact ziD fun k=>h3 k.2.2.1
 rw[qD h3];refine uR ?_;by_cases h4:least≤300
 case neg =>
  rw[qC h4];refine uR ?_;exact ziD fun k=>h4 k.2.2.2.1
 rw[qD h4]
 repeat (first|refine RUN ?_|refine CV (hs) ?_|refine CE (hs) ?_)
 exact congrArg Value.bool (decide_eq_decide.2 ((zrP g).trans ⟨fun k=>⟨h1,h2,h3,h4,k⟩,fun k=>k.2.2.2.2⟩))
theorem zof {H:Hp} {v:Value} (h:QLL H v []):PC prog 158 #[v] H fun r _=>r=.bool false:=by
 obtain⟨a,c,rfl⟩:=h.val;refine BD func158 ntmps158 ?_;refine uR ?_;rfl
theorem zoe {H:Hp} {kd cl deep least ck:Int} {sl sv vx vr:Value} {X:List (List Rat)} {N:Nat} {rows:List Int} {w:Nat} {g:Rat} (hck:∀G,H.Le G→PC prog 160 #[zbg kd cl sl sv] G fun r _=>r=.int .i64 ck) (hlen:PV prog 159 #[zbg kd cl sl sv] (.int .i64 (N:Int))) (hX:QLL H vx X) (hN:1≤N) (h2:X.length≤300) (hw:1≤w∧w≤20) (hx:∀x,x∈X→x.length=w)
  (hr:IL H vr rows) (hr0:0<rows.length) (hrn:rows.length≤300) (hgs:sm g) :
  PC prog 108 #[zbg kd cl sl sv,vx,vr,.agg (zuw deep least g).toArray] H fun r _=>r=.int .i64 (zuN X.length N ck (decide (zm3 deep least g)) rows):=by
 obtain⟨ra,rc,rfl⟩:=SlC.val hr;by_cases hn0:X.length=0
 ·have hne:X.length≠N:=oM;obtain rfl:=pK.1 hn0;have hv:=zof hX;obtain⟨xa,xc,rfl⟩:=hX.val;refine BD func108 ntmps108 ?_;refine uR ?_;refine vA (hv) ?_;rintro _ G1 rfl hG1;refine uR ?_;rw[zsd hne]
 have hv:=zqo hX oM h2 hw hx;obtain⟨xa,xc,rfl⟩:=hX.val;have hf:=fun (G:Hp)=>zg9 (H:=G) (deep:=deep) (least:=least) hgs;generalize decide (zm3 deep least g)=fb at *
 refine BD func108 ntmps108 ?_;refine uR ?_;refine vA (hv) ?_;rintro _ G1 rfl hG1
 repeat (first|refine RUN ?_|refine CV (hlen) ?_|refine CE (hlen) ?_)
 by_cases hne:X.length=N
 case neg =>
  rw[show ((X.length:Int) != (N:Int))=true from bne_iff_ne.2 (by omega)];refine uR ?_;rw[zsd hne]
 subst hne;rw[show ((X.length:Int) != (X.length:Int))=false from pQ _];refine uR ?_;rw[qC (show ¬(rows.length:Int)<1 by omega)];refine uR ?_;rw[qC (show ¬(rows.length:Int)>300 by omega)];refine uR ?_;refine vA (hck G1 hG1) ?_;rintro _ G2 rfl hG2;refine uR ?_;by_cases hc0:ck=0
 case neg =>
  rw[show (ck != 0)=true from bne_iff_ne.2 hc0];refine uR ?_;rw[zmd fun k=>hc0 k.1]
 subst hc0;refine uR ?_;refine vA (hf G2) ?_;rintro _ G3 rfl hG3;have hH3:=hG1.trans (hG2.trans hG3);cases fb
 case false =>
  refine uR ?_;rw[zmd fun k=>by cases k.2.1]
 refine uR ?_;refine EV.loopK (ι:=Nat) [1,39,40] [] (fun q=>[(41,.v (.int .i64 (q:Int)))]) (fun _=>[]) (fun _=>[]) (fun q _=>q≤rows.length∧∀r,r∈rows.take q→0≤r∧r<(X.length:Int)) (fun q=>rows.length-q) (0) rfl rfl ⟨rfl,trivial⟩ trivial rfl (fun _=>rfl) (⟨qQ _,fun r hr=>by cases hr⟩) ?_;rintro i G4 hG4 ⟨hi,hall⟩;refine uR ?_;refine EV.cond rfl (fun hlt=>?_) (fun hlt=>?_)
 ·simp only[nN]at hlt;obtain⟨r,hri⟩:=gE hlt;have hmem:=qF hri;refine uR ?_;refine vI ((hr.mono (hH3.trans hG4))) (i) (rfl) (hlt) ((by rw[qK,hri];rfl)) ?_;refine uR ?_;by_cases hr0:r<0
  ·rw[qD hr0];refine uR ?_;rw[zmd fun k=>by have:=k.2.2 r hmem;omega]
  rw[qC hr0];refine uR ?_;by_cases hrx:r≥(X.length:Int)
  ·rw[qD hrx];refine uR ?_;rw[zmd fun k=>by have:=k.2.2 r hmem;omega]
  rw[qC hrx];refine uR ?_;refine⟨i+1,⟨by rw[zad i (by omega)];rfl,trivial⟩,sB,trivial,trivial,rfl,⟨hlt,fun y hy=>?_⟩,Hp.Le.refl _,by omega⟩;rw[zan hri]at hy;rcases List.mem_append.1 hy with h | h
  ·exact hall y h
  ·rw[pL.1 h];omega
 ·simp only[nN]at hlt;obtain rfl:i=rows.length:=oM;rw[qb]at hall;refine uR ?_;rw[zsc hall]
theorem zcJ (a:Rat):zcr a a=0:=Int.le_antisymm (zlq Rat.le_refl) (ziH.2 Rat.lt_irrefl)
theorem zo6 {H:Hp} {u v:Value} {l:List Int} (hu:IL H u l) (hv:IL H v l) (hl:l.length≤1000000):PC prog 148 #[u,v] H fun r _=>r=.bool true:=by
 obtain⟨a,c,rfl⟩:=SlC.val hu;obtain⟨a2,c2,rfl⟩:=SlC.val hv;refine BD func148 ntmps148 ?_;refine uR ?_;rw[pQ];refine uR ?_;refine EV.loopK (ι:=Nat) [0,1,12] [] (fun i=>[(13,.v (.int .i64 (i:Int)))]) (fun _=>[]) (fun _=>[]) (fun i _=>i≤l.length) (fun i=>l.length-i) (0) rfl rfl ⟨rfl,trivial⟩ trivial rfl (fun _=>rfl) (qQ _) ?_;rintro i G1 hG1 hi;refine uR ?_;refine EV.cond rfl (fun hlt=>?_) (fun hlt=>?_)
 ·simp only[nN]at hlt;obtain⟨z,hz⟩:=gE hlt;refine uR ?_;apply EV.drawn 9 kR kR;intro xv yw;(repeat refine' DD ?_);refine' vJ ((hu.mono hG1)) (i) (rfl) (hlt) ((by rw[qK,hz];rfl)) ?_;rotate_left;(repeat refine' DD ?_);refine' vJ ((hv.mono hG1)) (i) (rfl) (hlt) ((by rw[qK,hz];rfl)) ?_;rotate_left;(repeat refine' DD ?_);rw[pQ];(repeat refine' DD ?_);(refine DJ.nil (fun G hG hF=>?_);(case hS|hS2=>rfl));refine uR ?_;refine⟨i+1,⟨by rw[zad i (by omega)];rfl,trivial⟩,sB,trivial,trivial,rfl,hlt,hG,by omega⟩
 ·simp only[nN]at hlt;refine uR ?_;rfl
def SmN (n:Nd):Prop:=sm n.at'∧sm n.cost∧sm n.value∧n.counts.length≤1000000
theorem zrL {H:Hp} {cs ds:List Value} {n:Nd} (hu:zb4 H cs n) (hv:zb4 H ds n) (h:SmN n):PC prog 147 #[.agg cs.toArray,.agg ds.toArray] H fun r _=>r=.bool true:=by
 obtain⟨h1,h2,h3,h4⟩:=h;obtain⟨a,c,hl1,rfl⟩:=hu;obtain⟨a2,c2,hl2,rfl⟩:=hv;have e1:=(zbF n.at' n.at' h1 h1).of_eq (congrArg _ (zcJ _));have e2:=(zbF n.cost n.cost h2 h2).of_eq (congrArg _ (zcJ _));have e3:=(zbF n.value n.value h3 h3).of_eq (congrArg _ (zcJ _));have e4:=fun G (hG:H.Le G)=>zo6 (hl1.mono hG) (hl2.mono hG) h4;obtain⟨nc,nl,nr,nrs,ncl,nat',nco,nva,ncs⟩:=n;dsimp only at *
 refine BD func147 ntmps147 ?_;refine uR ?_;rw[beq_self_eq_true nc];refine uR ?_;rw[beq_self_eq_true nl];refine uR ?_;rw[beq_self_eq_true nr];refine uR ?_;rw[beq_self_eq_true nrs];refine uR ?_;rw[beq_self_eq_true ncl]
 repeat (first|refine RUN ?_|refine CV (e1) ?_|refine CE (e1) ?_)
 repeat (first|refine RUN ?_|refine CV (e2) ?_|refine CE (e2) ?_)
 repeat (first|refine RUN ?_|refine CV (e3) ?_|refine CE (e3) ?_)
 refine uR ?_;refine vA (e4 _ (Hp.Le.refl _)) ?_;rintro _ G rfl hG;refine uR ?_;rfl
theorem znw {H:Hp} {u v:Value} {ns:List Nd} {cx cy:List (List Value)} {f:FuncId} (hx:zaJ H cx ns) (hsx:SlC H u ns.length 21 cx.flatten) (hy:zaJ H cy ns) (hsy:SlC H v ns.length 21 cy.flatten) (hl:ns.length≤1000000) (hf:∀G,H.Le G→∀c d n,n∈ns→zb4 G c n→zb4 G d n→PC prog f #[.agg c.toArray,.agg d.toArray] G fun r _=>r=.bool true):PC prog 146 #[u,v,.func (.func f) #[] #[]] H fun r _=>r=.bool true:=by
 obtain⟨a,c,rfl⟩:=SlC.val hsx;obtain⟨a2,c2,rfl⟩:=SlC.val hsy;refine BD func146 ntmps146 ?_;refine uR ?_;rw[pQ];refine uR ?_;refine EV.loopK (ι:=Nat) [1,2,15,16] [] (fun i=>[(17,.v (.int .i64 (i:Int)))]) (fun _=>[]) (fun _=>[]) (fun i _=>i≤ns.length) (fun i=>ns.length-i) (0) rfl rfl ⟨rfl,trivial⟩ trivial rfl (fun _=>rfl) (qQ _) ?_;rintro i G1 hG1 hi;refine uR ?_;refine EV.cond rfl (fun hlt=>?_) (fun hlt=>?_)
 ·simp only[nN]at hlt;obtain⟨t,ht⟩:=gE hlt;obtain⟨c1,hc1,hn1⟩:=(hx.mono hG1).get ht;obtain⟨c2,hc2,hn2⟩:=(hy.mono hG1).get ht;have hff:=hf G1 hG1 c1 c2 t (qF ht) hn1 hn2;obtain⟨b1,d1,hl1,rfl⟩:=hn1;obtain⟨b2,d2,hl2,rfl⟩:=hn2;refine uR ?_;refine EVL.idxM tO rfl rfl rfl rfl rfl rfl rfl rfl rfl ((hsx.mono hG1)) (i) (rfl) (hlt) (hc1) ?_;refine uR ?_;refine EVL.idxM tO rfl rfl rfl rfl rfl rfl rfl rfl rfl ((hsy.mono hG1)) (i) (rfl) (hlt) (hc2) ?_;refine uR ?_;refine EVL.callC (cs:=[]) rfl rfl rfl rfl rfl rfl (hff) ?_;rintro _ G2 rfl hG2;refine uR ?_;refine⟨i+1,⟨by rw[zad i (by omega)];rfl,trivial⟩,sB,trivial,trivial,rfl,hlt,hG2,by omega⟩
 ·simp only[nN]at hlt;refine uR ?_;rfl
theorem znx {H:Hp} {u v:Value} {ts:List Tr} {f:FuncId} (hu:PTL H u ts) (hv:PTL H v ts) (hl:ts.length≤1000000) (hf:∀G,H.Le G→∀c d t,t∈ts→zcs G c t.kd t.cl t.w t.ns→zcs G d t.kd t.cl t.w t.ns→PC prog f #[.agg c.toArray,.agg d.toArray] G fun r _=>r=.bool true):PC prog 94 #[u,v,.func (.func f) #[] #[]] H fun r _=>r=.bool true:=by
 obtain⟨cx,hx,hsx⟩:=hu;obtain⟨cy,hy,hsy⟩:=hv;obtain⟨a,c,rfl⟩:=SlC.val hsx;obtain⟨a2,c2,rfl⟩:=SlC.val hsy;refine BD func94 ntmps94 ?_;refine uR ?_;rw[pQ];refine uR ?_;refine EV.loopK (ι:=Nat) [1,2,15,16] [] (fun i=>[(17,.v (.int .i64 (i:Int)))]) (fun _=>[]) (fun _=>[]) (fun i _=>i≤ts.length) (fun i=>ts.length-i) (0) rfl rfl ⟨rfl,trivial⟩ trivial rfl (fun _=>rfl) (qQ _) ?_;rintro i G1 hG1 hi;refine uR ?_;refine EV.cond rfl (fun hlt=>?_) (fun hlt=>?_)
 ·simp only[nN]at hlt;obtain⟨t,ht⟩:=gE hlt;obtain⟨c1,hc1,hn1⟩:=(hx.mono hG1).get ht;obtain⟨c2,hc2,hn2⟩:=(hy.mono hG1).get ht;have hff:=hf G1 hG1 c1 c2 t (qF ht) hn1 hn2;obtain⟨b1,d1,q1,rfl,_⟩:=hn1;obtain⟨b2,d2,q2,rfl,_⟩:=hn2;refine uR ?_;refine EVL.idxM tO rfl rfl rfl rfl rfl rfl rfl rfl rfl ((hsx.mono hG1)) (i) (rfl) (hlt) (hc1) ?_;refine uR ?_;refine EVL.idxM tO rfl rfl rfl rfl rfl rfl rfl rfl rfl ((hsy.mono hG1)) (i) (rfl) (hlt) (hc2) ?_;refine uR ?_;refine EVL.callC (cs:=[]) rfl rfl rfl rfl rfl rfl (hff) ?_;rintro _ G2 rfl hG2;refine uR ?_;refine⟨i+1,⟨by rw[zad i (by omega)];rfl,trivial⟩,sB,trivial,trivial,rfl,hlt,hG2,by omega⟩
 ·simp only[nN]at hlt;refine uR ?_;rfl
theorem zrM {H:Hp} {cs ds:List Value} {kd cl w:Int} {ns:List Nd} (hu:zcs H cs kd cl w ns) (hv:zcs H ds kd cl w ns) (hl:ns.length≤1000000) (h:∀n,n∈ns→SmN n):PC prog 95 #[.agg cs.toArray,.agg ds.toArray] H fun r _=>r=.bool true:=by
 obtain⟨a,c,css,rfl,hn1,hs1⟩:=hu;obtain⟨a2,c2,css2,rfl,hn2,hs2⟩:=hv;have he:=znw hn1 hs1 hn2 hs2 hl fun G hG c d n hn hc hd=>zrL hc hd (h n hn);refine BD func95 ntmps95 ?_;refine uR ?_;rw[beq_self_eq_true kd];refine uR ?_;rw[beq_self_eq_true cl];refine uR ?_;rw[beq_self_eq_true w];refine uR ?_;refine vA (he) ?_;rintro _ G rfl hG;refine uR ?_;rfl
inductive GD where
 | v (qs:List Rat)
 | c (C:Nat) (ls:List Int)
def GD.kd:GD→Int
 | .v _=>2
 | .c _ _=>1
def GD.cl:GD→Int
 | .v _=>0
 | .c C _=>C
def GD.cost:GD→List Int→Rat
 | .v qs=>zfr qs
 | .c _ ls=>zhC ls
def GD.mean:GD→List Int→Rat
 | .v qs=>fun l=>za0 (atR qs l)
 | .c _ _=>fun _=>0
def GD.cnt:GD→List Int→List Int
 | .v _=>fun _=>[]
 | .c C ls=>fun l=>zfq C (atI ls l)
def GD.Ok (n:Nat):GD→Prop
 | .v qs=>qs.length=n∧zhl qs
 | .c C ls=>(1≤C∧C≤12)∧ls.length=n∧∀z,z∈ls→0≤z∧z<(C:Int)
def GD.P (H:Hp) (sl sv:Value):GD→Prop
 | .v qs=>∃la lc va vc,sl=.slice la 0 lc∧sv=.slice va qs.length vc∧QL H sv qs
 | .c _ ls=>∃la lc va vc,sl=.slice la ls.length lc∧sv=.slice va 0 vc∧IL H sl ls
theorem GD.Ok.sm {n:Nat} {d:GD} (hd:d.Ok n):∀l:List Int,l.length≤300→(∀r,r∈l→0≤r∧r<(n:Int))→ht (d.mean l)≤4000∧ht (d.cost l)≤2000000:=by
 intro l hn hr
 cases d with
 | v qs =>
  obtain⟨rfl,hq⟩:=hd;have h2:=hq.small (m:=atR qs l) (fun q k=>ze2 hr q k) (by rw[zb0];omega);show ht (za0 (atR qs l))≤4000∧ht (zfr qs l)≤2000000;unfold zfr;omega
 | c C ls =>
  have hsq:=zkp (atI ls l);have hll:(atI ls l).length=l.length:=zcC ls l;rw[hll]at hsq;have hsq2:l.length*l.length≤300*300:=Nat.mul_le_mul hn hn;have hn2:=zbG (l.length:Int);have hn3:bl (l.length:Int).natAbs≤20:=zaU oM;have hs2:=zbG (sqL (atI ls l):Int);have hs3:bl (sqL (atI ls l):Int).natAbs≤20:=zaU oM;have hdv:=zgu ((sqL (atI ls l):Int):Rat) ((l.length:Int):Rat);have hsb:=zmj ((l.length:Int):Rat) (((sqL (atI ls l):Int):Rat) / ((l.length:Int):Rat));refine⟨by show ht (0:Rat)≤4000;rw[zcD];decide,?_⟩;show ht (zhC ls l)≤2000000;unfold zhC zjr;rw[hll];omega
theorem GD.Ok.plain {n:Nat} {d:GD} (hd:d.Ok n):zlT d.kd d.cl n d.cost d.mean d.cnt:=by
 have hsm:=hd.sm
 cases d with
 | v qs =>
  obtain⟨rfl,hq⟩:=hd;exact⟨.inr ⟨rfl,rfl⟩,fun _=>rfl,fun _ _ _ _ k=>rfl,fun l c hc=>(by cases hc),fun e=>absurd e (by decide:¬(2:Int)=1),fun e=>absurd e (by decide:¬(2:Int)=1),fun l=>zk4 _ _,fun l hn hr=>(hsm l hn hr).2,fun l hn hr=>(hsm l hn hr).1⟩
 | c C ls =>
  obtain⟨hc,rfl,hlb⟩:=hd;refine⟨.inl ⟨rfl,by show (1:Int)≤(C:Int);omega,by show (C:Int)≤12;omega⟩,fun l=>by show ((zfq C (atI ls l)).length:Int)=(C:Int);rw[zb6],fun r l m hp k=>zqX C (by have:=hp.map (fun r:Int=>ls.getD r.toNat 0);rwa [qr]at this) k,fun l c hc=>?_,fun _ l hr=>?_,fun _ l=>rfl,fun l=>zjs _,fun l hn hr=>(hsm l hn hr).2,fun l hn hr=>(hsm l hn hr).1⟩
  ·obtain⟨k,_,rfl⟩:=List.mem_map.1 hc;omega
  ·show (zfq C (atI ls l)).sum=_;rw[zqY (fun z hz=>hlb z (zqP hr z hz)),zcC]
theorem GD.Ok.pgoal {H:Hp} {n:Nat} {d:GD} (hd:d.Ok n) (h0:1≤n) (h1:n≤300) {sl sv:Value} (hP:d.P H sl sv) {p:GP} (e0:p.X.length=n) (e1:p.cost=d.cost) (e2:p.mean=d.mean) (e3:p.cnt=d.cnt):∃S wo,zkM H d.kd d.cl sl sv p S wo:=by
 have hsm:=hd.sm
 cases d with
 | v qs =>
  obtain⟨rfl,hq⟩:=hd;obtain⟨la,lc,va,vc,rfl,rfl,hv⟩:=hP;have q100:∀q,q∈qs→ht q≤100:=fun q hq'=>qI (hq.bits q hq') oM;have hcnt:=fun (G:Hp) (u:Value)=>znk (H:=G) (v:=u) (va:=va) (vc:=vc) (la:=la) (lc:=lc) h0 h1;refine⟨zkj qs,woV qs,⟨by rw[e0];exact zvk hv h0 h1 q100,by rw[e1];exact zvo qs,?_,?_,?_,?_,?_,?_⟩⟩
  ·rw[e0,e3];exact fun G hG u l hl hn=>hcnt G u
  ·rw[e3];exact fun l=>qQ _
  ·rw[e0,e3];exact fun G hG u l hl hn=>zmV (w:=u) ⟨_,_,_,_,rfl⟩ (hcnt G u) (by show ([]:List Int).length≤300;decide)
  ·rw[e0,e2];exact fun G hG u l hl hn=>zmm hl hn (SlC.mono hv hG) h0 h1 q100
  ·rw[e0,e1];exact fun l hn hr=>(hsm l hn hr).2
  ·rw[e0,e1];exact fun G hG u l hl hn=>zq1 hl hn (SlC.mono hv hG) h0 h1 q100
 | c C ls =>
  obtain⟨hc,rfl,hlb⟩:=hd;obtain⟨la,lc,va,vc,rfl,rfl,hv⟩:=hP;have hcnt:=fun (G:Hp) (hG:H.Le G) (u:Value) (l:List Int) (hl:IL G u l) (hn:l.length≤300)=>znj (va:=va) (vc:=vc) hl hn (SlC.mono hv hG) (C:=C) hc h0 h1 hlb;refine⟨zki ls,woL ls,⟨by rw[e0];exact zvj ⟨by show (1:Int)≤(C:Int);omega,by show (C:Int)≤12;omega⟩ hv h0 h1 hlb,by rw[e1];exact zvn (fun z hz=>⟨(hlb z hz).1,by have:=(hlb z hz).2;omega⟩),?_,?_,?_,?_,?_,?_⟩⟩
  ·rw[e0,e3];exact hcnt
  ·rw[e3];exact fun l=>by show (zfq C (atI ls l)).length≤12;rw[zb6];omega
  ·rw[e0,e3];exact fun G hG u l hl hn=>zmV (w:=u) ⟨_,_,_,_,rfl⟩ (hcnt G hG u l hl hn) (by show (zfq C (atI ls (exL l ls.length))).length≤300;rw[zb6];omega)
  ·rw[e0,e2];exact fun G hG u l hl hn=>zrl
  ·rw[e0,e1];exact fun l hn hr=>(hsm l hn hr).2
  ·rw[e0,e1];exact fun G hG u l hl hn=>zq0 (va:=va) (vc:=vc) hl hn (SlC.mono hv hG) ⟨by show (1:Int)≤(C:Int);omega,by show (C:Int)≤12;omega⟩ h0 h1 hlb
def za8 (w:Nat):List Int:=(List.range w).map fun i:Nat=>(i:Int)
theorem zaW (w:Nat):(za8 w).length=w:=by simp[za8]
theorem zjg (w:Nat):za8 (w+1)=za8 w++[(w:Int)]:=by simp[za8,List.range_succ]
theorem zb7 (x:Value):∀w:Nat,(List.replicate w [x]).flatten=List.replicate w x
 | 0=>rfl
 | w+1=>by rw[List.replicate_succ,List.flatten_cons,zb7 x w,List.replicate_succ];rfl
theorem zow {w i:Nat} (h:i<w) (u:Nat):(za8 i).map iv++List.replicate (w-i) (Value.int .i64 0)=(za8 i).map iv++([Value.int .i64 0]++List.replicate (w-(i+1)) (Value.int .i64 0)):=by
 rw[show w-i=(w-(i+1))+1 by omega,List.replicate_succ];rfl
theorem zsK {w i:Nat} (h:i<w):((za8 i).map iv++List.replicate (w-i) (Value.int .i64 0)).set i (.int .i64 (i:Int))=(za8 (i+1)).map iv++List.replicate (w-(i+1)) (Value.int .i64 0):=by
 rw[zow h 0,List.set_append_right _ _ (by rw[qV,zaW];exact qH _),qV,zaW,Nat.sub_self,zjg,qr,qZ];rfl
theorem zlw {H:Hp} {p:GP} {a w c:Nat} {sa:Option Addr} (hds:∀s,p.cols s=(za8 w,s)) (ha:H a=some ([.slice sa w c]:List Value).toArray) (hil:IL H (.slice sa w c) (za8 w)):zhu H 110 [.pointer (some ⟨a,0,none⟩)] (.pointer none) p:=by
 intro G hG D s hD;have hcs:(p.cols s).1=za8 w:=by rw[hds]
 have hcs2:(p.cols s).2=s:=by rw[hds]
 rw[hcs,hcs2];have hil2:=hil.mono hG;refine PW.body tO func110 rfl kR ntmps110 rfl rfl ?_;refine EV.asRo 0 rfl (hG _ _ ha) ?_;refine uR ?_;exact⟨hil2,hD⟩
theorem zlT.gpAny {p:GP} {kd cl:Int} {w:Nat} (h:zlT kd cl p.X.length p.cost p.mean p.cnt) (hX:p.X.length≤300) (hx:∀x,x∈p.X→x.length=w∧∀q,q∈x→ht q≤60) (hg:0≤p.gain) (hc:∀s c,c∈(p.cols s).1→0≤c∧c<(w:Int)):zm4 p kd cl w :=
 ⟨h.kind,hX,fun x k=>(hx x k).1,fun x k=>(hx x k).2,h.clen,h.cadd,h.cpos,h.csum,h.zero,h.cost0,h.csm,h.msm,hg,hc⟩
theorem zeG {p:GP} {kd cl:Int} {w:Nat} (hp:zm4 p kd cl w):∀(d k:Nat) (rows:List Int) (s:Int),1≤rows.length→(∀r,r∈rows→0≤r∧r<(p.X.length:Int))→(p.grow d k rows s).1.length+1≤2*rows.length
 | 0,k,rows,s,h1,hb=>by rw[GP.grow_zero];show 1+1≤_;omega
 | d+1,k,rows,s,h1,hb=>by
  cases h:p.cut rows (p.cols s).1 with
  | none=>rw[GP.grow_none h];show 1+1≤_;omega
  | some ct =>
   obtain⟨c,t⟩:=ct;obtain⟨_,_,hl,hh,hpm,_⟩:=zgm hp hb h;have hpl:=hpm.length_eq;rw[qJ]at hpl;have hlb:∀r,r∈za5 p.X c t rows→0≤r∧r<(p.X.length:Int):=fun r hr=>hb r (List.mem_filter.mp hr).1;have hhb:∀r,r∈zaB p.X c t rows→0≤r∧r<(p.X.length:Int):=fun r hr=>hb r (List.mem_filter.mp hr).1;rw[GP.grow_some h];have h2:=zeG hp d (k+1) (za5 p.X c t rows) (p.cols s).2 hl hlb;have h3:=zeG hp d (k+1+(p.grow d (k+1) (za5 p.X c t rows) (p.cols s).2).1.length) (zaB p.X c t rows) (p.grow d (k+1) (za5 p.X c t rows) (p.cols s).2).2 hh hhb;simp only[qR,qJ];omega
theorem znC {p:GP} {kd cl:Int} {w D:Nat} (hp:zm4 p kd cl w) (hw:1≤w∧w≤20) (hD:D≤10) {rows:List Int} (h1:1≤rows.length) (h2:rows.length≤300) (hb:∀r,r∈rows→0≤r∧r<(p.X.length:Int)) (s:Int):zcf ⟨kd,cl,w,(p.grow D 0 rows s).1⟩:=by
 obtain⟨h3,_,h4⟩:=zs1 hp D 0 rows s h1 h2 hb (p.grow D 0 rows s).1 (fun j n hj=>by rw[qv];exact hj);have hl:=zeG hp D 0 rows s h1 hb;rw[qv]at h3;exact⟨hp.kind,⟨by show (1:Int)≤w;omega,by show (w:Int)≤20;omega⟩,by show (p.grow D 0 rows s).1.length≤2000;omega,⟨D,by omega,h3⟩,fun i hi=>by have:=h4 i hi;rwa [qv]at this⟩
abbrev trP (d:GD) (X:List (List Rat)) (least:Int) (g:Rat) (cols:Int→List Int × Int):GP:=⟨X,d.cost,d.mean,d.cnt,least,g,cols⟩
theorem zuE {d:GD} {N W:Nat} {X:List (List Rat)} {least:Int} {g:Rat} {cols:Int→List Int × Int} (hd:d.Ok N) (hXN:X.length=N) (hN:N≤20) (hXw:∀x,x∈X→x.length=W∧∀q,q∈x→ht q≤60) (hg:0≤g) (hc:∀s c,c∈(cols s).1→0≤c∧c<(W:Int)):zm4 (trP d X least g cols) d.kd d.cl W:=by
 subst hXN;exact zlT.gpAny (p:=trP d X least g cols) hd.plain (by show X.length≤300;omega) hXw hg hc
theorem zbb {w:Nat}:∀c,c∈za8 w→0≤c∧c<(w:Int):=fun c hc=>by
 obtain⟨i,hi,rfl⟩:=List.mem_map.1 hc;have:=List.mem_range.1 hi;omega
end
section
theorem zjE {f:Rat→Rat} (hlt:∀a b:Rat,a<b↔f a<f b) (hmid:∀a b:Rat,(f a+f b) / 2=f ((a+b) / 2)) (V:List Rat):∀j,j≤V.length-1→zld (V.map f) j=(zld V j).map f
 | 0,_=>rfl
 | j+1,h=>by
  have g:∀i,i<V.length→(V.map f).getD i 0=f (V.getD i 0):=fun i hi=>by simp[qB,hi]
  unfold zld;rw[zjE hlt hmid V j oM,g j oM,g (j+1) oM,qr,hmid];by_cases k:V.getD j 0<V.getD (j+1) 0
  ·rw[if_pos k,if_pos ((hlt _ _).1 k)];rfl
  ·rw[if_neg k,if_neg (fun e=>k ((hlt _ _).2 e))];rfl
theorem zcg {X:List (List Rat)} {cost:List Int→Rat} {rs:List Int} {L:Int} {cols:List Int} {u:Int × Rat × Rat}:u∈zaY X cost rs L cols↔∃c t,c∈cols∧t∈plQ X c rs∧(L≤((za5 X c t rs).length:Int)∧L≤((zaB X c t rs).length:Int))∧u=(c,t,cost rs-(cost (za5 X c t rs)+cost (zaB X c t rs))):=by
 unfold zaY zhG;constructor
 ·intro h;obtain⟨c,hc,h⟩:=List.mem_flatMap.1 h;obtain⟨t,ht,h⟩:=List.mem_flatMap.1 h;split at h
  ·rename_i k;exact⟨c,t,hc,ht,k,pL.1 h⟩
  ·cases h
 ·rintro⟨c,t,hc,ht,k,rfl⟩;refine List.mem_flatMap.2 ⟨c,hc,List.mem_flatMap.2 ⟨t,ht,?_⟩⟩;rw[if_pos k];exact pL.2 rfl
end
section
open Go.RowKit _root_.Go.Proofs.Tryz
inductive zdn (T:List Nd) (x:List Rat):Nat→List Int→Prop
 | here {i:Nat} {n:Nd}:T[i]?=some n→n.col = -1→zdn T x i [(i:Int)]
 | low {i:Nat} {l:List Int} {n:Nd}:T[i]?=some n→n.col ≠ -1→x.getD n.col.toNat 0≤n.at'→zdn T x n.left.toNat l→zdn T x i ((i:Int)::l)
 | high {i:Nat} {l:List Int} {n:Nd}:T[i]?=some n→n.col ≠ -1→¬x.getD n.col.toNat 0≤n.at'→zdn T x n.right.toNat l→zdn T x i ((i:Int)::l)
theorem zdn.leaf {T:List Nd} {x:List Rat} {i:Nat} {l:List Int} (h:zdn T x i l):∃(j:Nat) (q:List Int),l=q++[(j:Int)]∧zjb T x i j:=by
 induction h with
 | here h1 h2=>exact⟨_,[],rfl,.here h1 h2⟩
 | @low i _ _ h1 h2 h3 _ ih=>obtain⟨j,q,rfl,h⟩:=ih;exact⟨j,(i:Int)::q,rfl,.low h1 h2 h3 h⟩
 | @high i _ _ h1 h2 h3 _ ih=>obtain⟨j,q,rfl,h⟩:=ih;exact⟨j,(i:Int)::q,rfl,.high h1 h2 h3 h⟩
end
section
def At (S:List Nd) (k:Nat) (L:List Nd):Prop:=∀(j:Nat) (n:Nd),L[j]?=some n→S[k+j]?=some n
theorem At.head {S L:List Nd} {k:Nat} {n:Nd} (h:At S k (n::L)):S[k]?=some n:=h 0 n rfl
theorem At.left {S A B:List Nd} {k:Nat} {n:Nd} (h:At S k (n::(A++B))):At S (k+1) A:=fun j m hj=>by
 have:=h (j+1) m (by rw[pN,qM (qE.1 hj).1];exact hj);rw[show k+1+j=k+(j+1) by omega];exact this
theorem At.right {S A B:List Nd} {k:Nat} {n:Nd} (h:At S k (n::(A++B))):At S (k+1+A.length) B:=fun j m hj=>by
 have:=h (j+A.length+1) m (by rw[pN,qL oM,Nat.add_sub_cancel];exact hj);rw[show k+1+A.length+j=k+(j+A.length+1) by omega];exact this
theorem At.self (L:List Nd):At L 0 L:=fun j n h=>by rw[qv];exact h
theorem zdn.one {T:List Nd} {x:List Rat} {i:Nat} {n:Nd} {l:List Int} (h:zdn T x i l) (hn:T[i]?=some n):(n.col = -1∧l=[(i:Int)])∨(n.col ≠ -1∧∃m,l=(i:Int)::m∧m≠[]∧((x.getD n.col.toNat 0≤n.at'∧zdn T x n.left.toNat m)∨(¬x.getD n.col.toNat 0≤n.at'∧zdn T x n.right.toNat m))):=by
 have hne:∀{j:Nat} {m:List Int},zdn T x j m→m≠[]:=fun h=>by cases h <;> simp
 cases h with
 | here h1 h2=>cases h1.symm.trans hn;exact .inl ⟨h2,rfl⟩
 | low h1 h2 h3 h4=>cases h1.symm.trans hn;exact .inr ⟨h2,_,rfl,hne h4,.inl ⟨h3,h4⟩⟩
 | high h1 h2 h3 h4=>cases h1.symm.trans hn;exact .inr ⟨h2,_,rfl,hne h4,.inr ⟨h3,h4⟩⟩
end
section
def GP.rowsAt (p:GP) (cols:List Int):Nat→List Int→List (List Int)
 | 0,rows=>[rows]
 | d+1,rows=>match p.cut rows cols with
  | none=>[rows]
  | some (c,t)=>rows::(p.rowsAt cols d (za5 p.X c t rows)++p.rowsAt cols d (zaB p.X c t rows))
theorem GP.rowsAt_none {p:GP} {cols:List Int} {d:Nat} {rows:List Int} (h:p.cut rows cols=none):p.rowsAt cols (d+1) rows=[rows]:=by rw[GP.rowsAt,h]
theorem GP.rowsAt_some {p:GP} {cols:List Int} {d:Nat} {rows:List Int} {c:Int} {t:Rat} (h:p.cut rows cols=some (c,t)):p.rowsAt cols (d+1) rows=rows::(p.rowsAt cols d (za5 p.X c t rows)++p.rowsAt cols d (zaB p.X c t rows)):=by rw[GP.rowsAt,h]
theorem zgY (p:GP) (cols:List Int) (d:Nat) (rows:List Int):∃L,p.rowsAt cols d rows=rows::L:=by
 cases d with
 | zero=>exact⟨[],rfl⟩
 | succ d =>
  cases h:p.cut rows cols with
  | none=>rw[GP.rowsAt_none h];exact⟨_,rfl⟩
  | some q=>obtain⟨c,t⟩:=q;rw[GP.rowsAt_some h];exact⟨_,rfl⟩
structure OfR (p:GP) (n:Nd) (R:List Int):Prop where
 rows:n.rows=(R.length:Int)
 cost:n.cost=p.cost R
 value:n.value=p.mean R
 cls:n.cls=(topN (p.cnt R) (p.cnt R).length:Int)
 counts:n.counts=p.cnt R
theorem OfR.nd (p:GP) (R:List Int) (c l r:Int) (t:Rat):OfR p { p.nd R with col:=c,left:=l,right:=r,at':=t } R:=⟨rfl,rfl,rfl,rfl,rfl⟩
theorem zq4 {p:GP} {rows cols:List Int} {c:Int} {t:Rat} (h:p.cut rows cols=some (c,t)):p.gain<p.cost rows-(p.cost (za5 p.X c t rows)+p.cost (zaB p.X c t rows))∧p.least≤((za5 p.X c t rows).length:Int)∧p.least≤((zaB p.X c t rows).length:Int):=by
 unfold GP.cut at h
 cases hbe:p.best rows cols with
 | none=>rw[hbe]at h;cases h
 | some q =>
  obtain⟨c',t',g⟩:=q;rw[hbe]at h;dsimp only at h;split at h
  ·cases h
  ·rename_i hg;cases h;have hf:=zcb (zaY p.X p.cost rows (max 1 p.least) cols);rw[show (zaY p.X p.cost rows (max 1 p.least) cols).foldl zqL none=some (c,t,g) from hbe]at hf;obtain⟨c2,t2,_,_,hL,e⟩:=zcg.1 hf.1;cases e;exact⟨Rat.not_le.1 hg,by omega,by omega⟩
structure zvb (p:GP) (S:List Nd) (k:Nat) (L:List (List Int)) (w:Nat):Prop where
 node:∀(j:Nat) (R:List Int),L[j]?=some R→∃n,S[k+j]?=some n∧OfR p n R∧(∀r,r∈R→0≤r∧r<(p.X.length:Int))∧1≤R.length∧(n.col = -1∨(0≤n.col∧0≤n.left∧0≤n.right∧∃a b,S[n.left.toNat]?=some a∧S[n.right.toNat]?=some b∧p.gain<n.cost-a.cost-b.cost∧p.least≤a.rows∧p.least≤b.rows))
theorem zmf {p:GP} {kd cl:Int} {w:Nat} (hp:zm4 p kd cl w) {cols:List Int} (hst:∀s,(p.cols s).1=cols) {S:List Nd}:∀(d k:Nat) (rows:List Int) (s:Int),1≤rows.length→(∀r,r∈rows→0≤r∧r<(p.X.length:Int))→At S k (p.grow d k rows s).1→(p.rowsAt cols d rows).length=(p.grow d k rows s).1.length∧zvb p S k (p.rowsAt cols d rows) w:=by
 have single:∀(k:Nat) (rows:List Int),1≤rows.length→(∀r,r∈rows→0≤r∧r<(p.X.length:Int))→At S k [p.nd rows]→zvb p S k [rows] w:=fun k rows h1 hb hS=>⟨fun j R hj=>by
  cases j with
  | zero=>cases hj;exact⟨_,hS.head,OfR.nd p rows (-1) 0 0 0,hb,h1,.inl rfl⟩
  | succ j=>cases hj⟩
 intro d
 induction d with
 | zero =>
  intro k rows s h1 hb hS;rw[GP.grow_zero]at hS ⊢;exact⟨rfl,single k rows h1 hb hS⟩
 | succ d ih =>
  intro k rows s h1 hb hS
  cases hc:p.cut rows (p.cols s).1 with
  | none =>
   rw[GP.grow_none hc]at hS ⊢;rw[GP.rowsAt_none (by rw[←hst s];exact hc)];exact⟨rfl,single k rows h1 hb hS⟩
  | some q =>
   obtain⟨c,t⟩:=q;obtain⟨hcw,_,hl1,hr1,hpm,_⟩:=zgm hp hb hc;obtain⟨hgn,hll,hlh⟩:=zq4 hc;have hlo:∀r,r∈za5 p.X c t rows→0≤r∧r<(p.X.length:Int):=fun r hr=>hb r (List.mem_filter.mp hr).1;have hhi:∀r,r∈zaB p.X c t rows→0≤r∧r<(p.X.length:Int):=fun r hr=>hb r (List.mem_filter.mp hr).1;rw[GP.grow_some hc]at hS ⊢;rw[GP.rowsAt_some (by rw[←hst s];exact hc)];dsimp only at hS ⊢;obtain⟨e1,f1⟩:=ih (k+1) _ (p.cols s).2 hl1 hlo hS.left;obtain⟨e2,f2⟩:=ih (k+1+(p.grow d (k+1) (za5 p.X c t rows) (p.cols s).2).1.length) _ (p.grow d (k+1) (za5 p.X c t rows) (p.cols s).2).2 hr1 hhi hS.right;refine⟨by simp only[qR,qJ];omega,⟨fun j R hj=>?_⟩⟩
   cases j with
   | zero =>
    cases hj;obtain⟨LA,ea⟩:=zgY p cols d (za5 p.X c t rows);obtain⟨LB,eb⟩:=zgY p cols d (zaB p.X c t rows);obtain⟨a,ha,oa,_⟩:=f1.node 0 _ (by rw[ea];rfl);obtain⟨b,hb',ob,_⟩:=f2.node 0 _ (by rw[eb];rfl);rw[qY]at ha hb';refine⟨_,hS.head,OfR.nd p rows c _ _ t,hb,h1,.inr ⟨hcw.1,Int.natCast_nonneg _,Int.natCast_nonneg _,a,b,?_,?_,?_,?_,?_⟩⟩
    ·exact(congrArg (S[·]?) (qU _)).trans ha
    ·exact(congrArg (S[·]?) (qU _)).trans hb'
    ·rw[oa.cost,ob.cost];show p.gain<p.cost rows-p.cost (za5 p.X c t rows)-p.cost (zaB p.X c t rows);grind
    ·rw[oa.rows];exact hll
    ·rw[ob.rows];exact hlh
   | succ j =>
    rw[pN]at hj;by_cases hjl:j<(p.rowsAt cols d (za5 p.X c t rows)).length
    ·rw[qM hjl]at hj;have:=f1.node j R hj;rw[show k+1+j=k+(j+1) by omega]at this;exact this
    ·rw[qL (by omega)]at hj;have:=f2.node _ R hj;rw[show k+1+(p.grow d (k+1) (za5 p.X c t rows) (p.cols s).2).1.length+(j-(p.rowsAt cols d (za5 p.X c t rows)).length)=k+(j+1) by omega]at this;exact this
theorem zgN {p:GP} {kd cl:Int} {w:Nat} (hp:zm4 p kd cl w) {S:List Nd} {x:List Rat}:∀(d k:Nat) (rows:List Int) (s:Int),(∀r,r∈rows→0≤r∧r<(p.X.length:Int))→At S k (p.grow d k rows s).1→∀l,zdn S x k l→∀z,z∈l→(k:Int)≤z∧z<((k+(p.grow d k rows s).1.length:Nat):Int):=by
 intro d
 induction d with
 | zero =>
  intro k rows s hb hS l hl z hz;rw[GP.grow_zero]at hS ⊢;rcases hl.one hS.head with ⟨_,rfl⟩ | ⟨h,_⟩
  ·have:=pL.1 hz;show _∧z<((k+1:Nat):Int);omega
  ·exact absurd rfl h
 | succ d ih =>
  intro k rows s hb hS l hl z hz
  cases hc:p.cut rows (p.cols s).1 with
  | none =>
   rw[GP.grow_none hc]at hS ⊢;rcases hl.one hS.head with ⟨_,rfl⟩ | ⟨h,_⟩
   ·have:=pL.1 hz;show _∧z<((k+1:Nat):Int);omega
   ·exact absurd rfl h
  | some q =>
   obtain⟨c,t⟩:=q;obtain⟨hcw,_⟩:=zgm hp hb hc;have hlo:∀r,r∈za5 p.X c t rows→0≤r∧r<(p.X.length:Int):=fun r hr=>hb r (List.mem_filter.mp hr).1;have hhi:∀r,r∈zaB p.X c t rows→0≤r∧r<(p.X.length:Int):=fun r hr=>hb r (List.mem_filter.mp hr).1;rw[GP.grow_some hc]at hS ⊢;dsimp only at hS ⊢;simp only[qR,qJ];rcases hl.one hS.head with ⟨h,_⟩ | ⟨_,m,rfl,_,hm⟩
   ·have:c = -1:=h;omega
   ·rcases List.mem_cons.1 hz with rfl | hz
    ·omega
    ·dsimp only at hm;rcases hm with ⟨_,h2⟩ | ⟨_,h2⟩
     ·rw[qU]at h2;have:=ih _ _ _ hlo hS.left _ h2 z hz;omega
     ·rw[qU]at h2;have:=ih _ _ _ hhi hS.right _ h2 z hz;omega
theorem zn3 {p:GP} {kd cl:Int} {w:Nat} (hp:zm4 p kd cl w) {cols:List Int} (hst:∀s,(p.cols s).1=cols) {S:List Nd}:∀(d k:Nat) (rows:List Int) (s:Int),(∀r,r∈rows→0≤r∧r<(p.X.length:Int))→At S k (p.grow d k rows s).1→∀W:Int→List Int,(∀r,r∈rows→zdn S (p.X.getD r.toNat []) k (W r))→∀(j:Nat) (R:List Int),(p.rowsAt cols d rows)[j]?=some R→R=rows.filter fun r=>decide (((k+j:Nat):Int)∈W r):=by
 have root:∀{k:Nat} {rows:List Int} {W:Int→List Int},(∀r,r∈rows→zdn S (p.X.getD r.toNat []) k (W r))→rows=rows.filter fun r=>decide (((k+0:Nat):Int)∈W r):=fun {k rows W} h=>(List.filter_eq_self.2 fun r hr=>by
  have:=h r hr;rw[qY];generalize W r=l at this ⊢;cases this <;> simp).symm
 intro d
 induction d with
 | zero =>
  intro k rows s hb hS W hW j R hj
  cases j with
  | zero=>cases hj;exact root hW
  | succ j=>cases hj
 | succ d ih =>
  intro k rows s hb hS W hW j R hj
  cases hc:p.cut rows (p.cols s).1 with
  | none =>
   rw[GP.rowsAt_none (by rw[←hst s];exact hc)]at hj
   cases j with
   | zero=>cases hj;exact root hW
   | succ j=>cases hj
  | some q =>
   obtain⟨c,t⟩:=q;obtain⟨hcw,_,hl1,hr1,_,_⟩:=zgm hp hb hc;have hlo:∀r,r∈za5 p.X c t rows→0≤r∧r<(p.X.length:Int):=fun r hr=>hb r (List.mem_filter.mp hr).1;have hhi:∀r,r∈zaB p.X c t rows→0≤r∧r<(p.X.length:Int):=fun r hr=>hb r (List.mem_filter.mp hr).1;rw[GP.grow_some hc]at hS;rw[GP.rowsAt_some (by rw[←hst s];exact hc)]at hj;dsimp only at hS
   cases j with
   | zero=>cases hj;exact root hW
   | succ j =>
    rw[pN]at hj
    have hhas:∀r,r∈rows→zbO p.X c r=true:=fun r hr=>by
     obtain⟨R,rfl⟩:=qj (hb r hr).1;have hR:=(hb _ hr).2;unfold zbO;obtain⟨x,hx⟩:∃x,p.X[R]?=some x:=⟨_,qA oM⟩;rw[qU,qB,hx,Option.getD_some,hp.wide x (qF hx)];simp;omega
    have hsplit:∀r,r∈rows→∃m,W r=(k:Int)::m∧((zbi p.X c r≤t∧zdn S (p.X.getD r.toNat []) (k+1) m)∨(¬zbi p.X c r≤t∧zdn S (p.X.getD r.toNat []) (k+1+(p.grow d (k+1) (za5 p.X c t rows) (p.cols s).2).1.length) m)):=fun r hr=>by
     rcases (hW r hr).one hS.head with ⟨h,_⟩ | ⟨_,m,e,_,hm⟩
     ·have:c = -1:=h;omega
     ·refine⟨m,e,?_⟩;dsimp only at hm;rw[qU,qU]at hm;exact hm
    have hlW:∀r,r∈za5 p.X c t rows→zdn S (p.X.getD r.toNat []) (k+1) ((W r).tail):=fun r hr=>by
     obtain⟨h1,h2⟩:=List.mem_filter.1 hr;obtain⟨m,e,hm⟩:=hsplit r h1;rw[hhas r h1,Bool.true_and]at h2;rw[e];exact(hm.resolve_right fun k=>k.1 (of_decide_eq_true h2)).2
    have hhW:∀r,r∈zaB p.X c t rows→zdn S (p.X.getD r.toNat []) (k+1+(p.grow d (k+1) (za5 p.X c t rows) (p.cols s).2).1.length) ((W r).tail):=fun r hr=>by
     obtain⟨h1,h2⟩:=List.mem_filter.1 hr;obtain⟨m,e,hm⟩:=hsplit r h1;rw[hhas r h1,Bool.true_and]at h2;rw[e];refine(hm.resolve_left fun k=>?_).2;rw[qD k.1]at h2;cases h2
    have hlen:=(zmf hp hst (S:=S) d (k+1) _ (p.cols s).2 hl1 hlo hS.left).1;by_cases hjl:j<(p.rowsAt cols d (za5 p.X c t rows)).length
    ·rw[qM hjl]at hj;rw[ih _ _ _ hlo hS.left _ hlW j R hj];unfold za5;rw[List.filter_filter];refine List.filter_congr fun r hr=>?_;obtain⟨m,e,hm⟩:=hsplit r hr;rw[hhas r hr,e,Bool.true_and,List.tail_cons];have hne:((k+(j+1):Nat):Int)≠(k:Int):=oM;rcases hm with ⟨h1,h2⟩ | ⟨h1,h2⟩
     ·rw[qD h1,Bool.and_true,show k+1+j=k+(j+1) by omega];exact decide_eq_decide.2 ⟨fun h=>qn _ h,fun h=>(List.mem_cons.1 h).resolve_left hne⟩
     ·rw[qC h1,Bool.and_false];refine(qC fun h=>?_).symm;have:=zgN hp d _ _ _ hhi hS.right m h2 _ ((List.mem_cons.1 h).resolve_left hne);omega
    ·rw[qL (by omega)]at hj;rw[ih _ _ _ hhi hS.right _ hhW _ R hj];unfold zaB;rw[List.filter_filter];refine List.filter_congr fun r hr=>?_;obtain⟨m,e,hm⟩:=hsplit r hr;rw[hhas r hr,e,Bool.true_and,List.tail_cons];have hne:((k+(j+1):Nat):Int)≠(k:Int):=oM;rcases hm with ⟨h1,h2⟩ | ⟨h1,h2⟩
     ·rw[qD h1,Bool.not_true,Bool.and_false];refine(qC fun h=>?_).symm;have:=zgN hp d _ _ _ hlo hS.left m h2 _ ((List.mem_cons.1 h).resolve_left hne);omega
     ·rw[qC h1,Bool.not_false,Bool.and_true,show k+1+(p.grow d (k+1) (za5 p.X c t rows) (p.cols s).2).1.length+(j-(p.rowsAt cols d (za5 p.X c t rows)).length)=k+(j+1) by omega];exact decide_eq_decide.2 ⟨fun h=>qn _ h,fun h=>(List.mem_cons.1 h).resolve_left hne⟩
theorem znO {p:GP} {kd cl:Int} {w:Nat} (hp:zm4 p kd cl w) {S:List Nd} {x:List Rat}:∀(d k:Nat) (rows:List Int) (s:Int),(∀r,r∈rows→0≤r∧r<(p.X.length:Int))→At S k (p.grow d k rows s).1→∀l,zdn S x k l→l.Nodup:=by
 intro d
 induction d with
 | zero =>
  intro k rows s hb hS l hl;rw[GP.grow_zero]at hS;rcases hl.one hS.head with ⟨_,rfl⟩ | ⟨h,_⟩
  ·simp
  ·exact absurd rfl h
 | succ d ih =>
  intro k rows s hb hS l hl
  cases hc:p.cut rows (p.cols s).1 with
  | none =>
   rw[GP.grow_none hc]at hS;rcases hl.one hS.head with ⟨_,rfl⟩ | ⟨h,_⟩
   ·simp
   ·exact absurd rfl h
  | some q =>
   obtain⟨c,t⟩:=q;obtain⟨hcw,_⟩:=zgm hp hb hc;have hlo:∀r,r∈za5 p.X c t rows→0≤r∧r<(p.X.length:Int):=fun r hr=>hb r (List.mem_filter.mp hr).1;have hhi:∀r,r∈zaB p.X c t rows→0≤r∧r<(p.X.length:Int):=fun r hr=>hb r (List.mem_filter.mp hr).1;rw[GP.grow_some hc]at hS;dsimp only at hS;rcases hl.one hS.head with ⟨h,_⟩ | ⟨_,m,rfl,_,hm⟩
   ·have:c = -1:=h;omega
   ·dsimp only at hm;rw[qU,qU]at hm;rcases hm with ⟨_,h2⟩ | ⟨_,h2⟩
    ·refine List.nodup_cons.2 ⟨fun hk=>?_,ih _ _ _ hlo hS.left _ h2⟩;have:=zgN hp d _ _ _ hlo hS.left m h2 _ hk;omega
    ·refine List.nodup_cons.2 ⟨fun hk=>?_,ih _ _ _ hhi hS.right _ h2⟩;have:=zgN hp d _ _ _ hhi hS.right m h2 _ hk;omega
theorem Sub.path {T:List Nd} {w:Int} (x:List Rat) {k h e:Nat} (hs:Sub T w k h e):∃l,zdn T x k l:=by
 induction hs with
 | leaf h1 h2 _ _ _=>exact⟨_,.here h1 h2⟩
 | @node k h m e n h1 h2 h3 h4 h5 _ _ ih1 ih2 =>
  obtain⟨l1,q1⟩:=ih1;obtain⟨l2,q2⟩:=ih2;by_cases hc:x.getD n.col.toNat 0≤n.at'
  ·exact⟨_,.low h1 oM hc (by rw[h4,qU];exact q1)⟩
  ·exact⟨_,.high h1 oM hc (by rw[h5,qU];exact q2)⟩
theorem zdn.det {T:List Nd} {x:List Rat} {i:Nat} {l:List Int} (h:zdn T x i l):∀{m:List Int},zdn T x i m→l=m:=by
 induction h with
 | here h1 h2 =>
  intro m hm;rcases hm.one h1 with ⟨_,rfl⟩ | ⟨k,_⟩
  ·rfl
  ·exact absurd h2 k
 | low h1 h2 h3 _ ih =>
  intro m hm;rcases hm.one h1 with ⟨k,_⟩ | ⟨_,m',rfl,_,⟨_,k⟩ | ⟨k,_⟩⟩
  ·exact absurd k h2
  ·rw[ih k]
  ·exact absurd h3 k
 | high h1 h2 h3 _ ih =>
  intro m hm;rcases hm.one h1 with ⟨k,_⟩ | ⟨_,m',rfl,_,⟨k,_⟩ | ⟨_,k⟩⟩
  ·exact absurd k h2
  ·exact absurd k h3
  ·rw[ih k]
def zeB (W:Int→List Int) (n:Nat) (done:List Int) (r:Int) (q:List Int):List (List Int):=(List.range n).map fun (j:Nat)=>done.filter (fun r=>decide ((j:Int)∈W r))++if (j:Int)∈q then [r] else []
theorem zdu (W:Int→List Int) (n:Nat) (done:List Int) (r:Int) (q:List Int):(zeB W n done r q).length=n:=by simp[zeB]
theorem zeC {W:Int→List Int} {n:Nat} {done:List Int} {r:Int} {q:List Int} {j:Nat} (h:j<n):(zeB W n done r q)[j]?=some (done.filter (fun r=>decide ((j:Int)∈W r))++if (j:Int)∈q then [r] else []):=by
 unfold zeB;rw[qK,List.getElem?_range h];rfl
theorem zo4 (W:Int→List Int) (n:Nat) (r:Int):zeB W n [] r []=List.replicate n []:=by
 refine List.ext_getElem? fun j=>?_;by_cases h:j<n
 ·rw[zeC h,List.getElem?_replicate,if_pos h];simp
 ·rw[qg (by rw[zdu];omega),qg (by rw[List.length_replicate];omega)]
theorem znv {W:Int→List Int} {n:Nat} {done:List Int} {r:Int} {q:List Int} {j:Nat} (hq:(j:Int) ∉ q):(zeB W n done r q).set j (done.filter (fun r=>decide ((j:Int)∈W r))++[r])=zeB W n done r (q++[(j:Int)]):=by
 refine List.ext_getElem? fun i=>?_;by_cases h:i<n
 ·rw[List.getElem?_set,zeC h,zeC h];by_cases e:j=i
  ·subst e;rw[if_pos rfl,if_pos (by rw[zdu];exact h),if_pos (by simp)]
  ·rw[if_neg e]
   have:((i:Int)∈q++[(j:Int)])↔(i:Int)∈q:=by
    rw[List.mem_append,pL];exact⟨fun k=>k.resolve_right oM,.inl⟩
   by_cases hi:(i:Int)∈q
   ·rw[if_pos hi,if_pos (this.2 hi)]
   ·rw[if_neg hi,if_neg fun k=>hi (this.1 k)]
 ·rw[qg (by rw[List.length_set,zdu];omega),qg (by rw[zdu];omega)]
theorem zo5 {W:Int→List Int} {n:Nat} {done:List Int} {r r':Int}:zeB W n done r (W r)=zeB W n (done++[r]) r' []:=by
 unfold zeB;refine List.map_congr_left fun j _=>?_;rw[List.filter_append,if_neg List.not_mem_nil,qG];congr 1;by_cases h:(j:Int)∈W r
 ·rw[if_pos h,List.filter_cons_of_pos (by simpa using h)];rfl
 ·rw[if_neg h,List.filter_cons_of_neg (by simpa using h)];rfl
end
section
def zi1 (a:Rat) (n:Nat):Nat:=(List.range n).findIdx fun k=>decide (a*((n:Int):Rat)≤(((k+1:Nat):Int):Rat))
def zkH (a:Rat) (l:List Rat):Rat:=(zc6 l).getD (zi1 a l.length) 0
def zpr (loss:Int) (a:Rat) (l:List Rat):Rat:=if loss=1 then za0 l else zkH a l
theorem zfX {a:Rat} {n:Nat} (ha:a<1) (hn:1≤n):zi1 a n<n:=by
 unfold zi1
 have:=List.findIdx_lt_length_of_exists (xs:=List.range n) (p:=fun k=>decide (a*((n:Int):Rat)≤(((k+1:Nat):Int):Rat))) ⟨n-1,List.mem_range.2 oM,qD (by
  rw[show n-1+1=n by omega];have h0:(0:Rat)≤((n:Int):Rat):=Rat.intCast_nonneg.2 oM;have:=Rat.mul_le_mul_of_nonneg_right (Rat.le_of_lt ha) h0
  rwa [Rat.one_mul]at this)⟩
 rwa [List.length_range]at this
theorem zmU {a:Rat} {n:Nat} (ha:a<1) (hn:1≤n):a*((n:Int):Rat)≤(((zi1 a n+1:Nat):Int):Rat):=by
 have h:=zfX ha hn;have:=List.findIdx_getElem (xs:=List.range n) (p:=fun k=>decide (a*((n:Int):Rat)≤(((k+1:Nat):Int):Rat))) (w:=by rw[List.length_range];exact h);rw[List.getElem_range]at this;exact of_decide_eq_true this
theorem zks {a:Rat} {n k:Nat} (hk:k<zi1 a n):¬a*((n:Int):Rat)≤(((k+1:Nat):Int):Rat):=fun h=>by
 have h1:zi1 a n≤(List.range n).length:=List.findIdx_le_length;rw[List.length_range]at h1;have:=List.not_of_lt_findIdx (xs:=List.range n) (p:=fun k=>decide (a*((n:Int):Rat)≤(((k+1:Nat):Int):Rat))) hk;rw[List.getElem_range]at this;rw[qD h]at this;cases this
theorem zrW {a:Rat} {n k:Nat} (ha:a<1) (hn:1≤n) (h1:a*((n:Int):Rat)≤(((k+1:Nat):Int):Rat)) (h2:∀j,j<k→¬a*((n:Int):Rat)≤(((j+1:Nat):Int):Rat)):k=zi1 a n:=by
 rcases Nat.lt_trichotomy k (zi1 a n) with h | h | h
 ·exact absurd h1 (zks h)
 ·exact h
 ·exact absurd (zmU ha hn) (h2 _ h)
theorem zmo {a:Rat} {l:List Rat} (ha:a<1) (hl:1≤l.length):zkH a l∈l:=by
 have h:=zfX ha hl;have hs:=(zbq l).length_eq;unfold zkH;rw[qB,qA oM,Option.getD_some];exact(zbq l).mem_iff.1 (List.getElem_mem _)
structure BG where
 loss:Int
 rate:Rat
 tilt:Rat
 X:List (List Rat)
 W:Nat
 D:Nat
 least:Int
 gain:Rat
structure BG.Ok (b:BG):Prop where
 loss:b.loss=1∨b.loss=2
 rate:0<b.rate∧b.rate≤1
 one:b.loss=1→b.tilt=0
 two:b.loss=2→0<b.tilt∧b.tilt<1
 den:b.rate.den≤4∧ht b.tilt≤10
 rows:1≤b.X.length∧b.X.length≤8
 wide:1≤b.W∧b.W≤20
 each:∀x,x∈b.X→x.length=b.W∧∀q,q∈x→ht q≤60
 deep:b.D≤10
 least:1≤b.least∧b.least≤300
 gain:0≤b.gain∧ht b.gain≤10
def BG.mid (b:BG) (l:List Rat):Rat:=zpr b.loss b.tilt l
def BG.goal (b:BG) (left:List Rat):List Rat:=if b.loss=1 then left else left.map fun t=>if 0<t then b.tilt else if t=0 then 0 else b.tilt-1
theorem BG.goal_len (b:BG) (left:List Rat):(b.goal left).length=left.length:=by
 unfold BG.goal;split
 ·rfl
 ·exact qV ..
abbrev BG.gp (b:BG) (left:List Rat):GP:=trP (.v (b.goal left)) b.X b.least b.gain fun s=>(za8 b.W,s)
def BG.raw (b:BG) (left:List Rat):List Nd:=((b.gp left).grow b.D 0 (za8 b.X.length) 0).1
noncomputable def zr2 (ns:List Nd) (x:List Rat):List Int:=Classical.epsilon (zdn ns x 0)
theorem zi5 {ns:List Nd} {x:List Rat} {l:List Int} (h:zdn ns x 0 l):zr2 ns x=l:=(Classical.epsilon_spec (p:=zdn ns x 0) ⟨l,h⟩).det h
noncomputable def BG.part (b:BG) (left:List Rat) (ns:List Nd) (j:Nat):List Rat:=atR left ((za8 b.X.length).filter fun r=>decide ((j:Int)∈zr2 ns (b.X.getD r.toNat [])))
def zuT (n:Nd) (v:Rat):Nd:={ n with value:=v }
noncomputable def BG.midsTo (b:BG) (left:List Rat) (ns:List Nd) (k:Nat):List Nd:=ns.mapIdx fun j n=>if j<k then zuT n (zkH b.tilt (b.part left ns j)) else n
noncomputable def BG.mids (b:BG) (left:List Rat) (ns:List Nd):List Nd:=b.midsTo left ns ns.length
noncomputable def BG.nodes (b:BG) (left:List Rat):List Nd:=if b.loss=1 then b.raw left else b.mids left (b.raw left)
noncomputable def BG.tree (b:BG) (left:List Rat):Tr:=⟨2,0,(b.W:Int),b.nodes left⟩
noncomputable def BG.next (b:BG) (left:List Rat):List Rat:=List.zipWith (fun x q=>q-b.rate*(zb3 x (b.tree left)).value) b.X left
noncomputable def BG.fit (b:BG) (y:List Rat):Nat→List Tr × List Rat
 | 0=>([],y.map fun q=>q-b.mid y)
 | k+1=>((b.fit y k).1++[b.tree (b.fit y k).2],b.next (b.fit y k).2)
noncomputable def zkP (base rate:Rat) (ts:List Tr) (x:List Rat):Rat:=base+rate*zaR (vL x ts)
theorem zhk {α β γ:Type} {f:α→β→γ} {l:List α} {m:List β} {i:Nat} {a:α} {b:β} (h1:l[i]?=some a) (h2:m[i]?=some b):(List.zipWith f l m)[i]?=some (f a b):=by
 rw[List.getElem?_zipWith,h1,h2]
theorem BG.fit_len (b:BG) (y:List Rat) (hy:y.length=b.X.length) (k:Nat):(b.fit y k).2.length=b.X.length∧(b.fit y k).1.length=k:=by
 induction k with
 | zero=>exact⟨by show (y.map _).length=_;rw[qV];exact hy,rfl⟩
 | succ k ih =>
  refine⟨?_,?_⟩
  ·show (b.next (b.fit y k).2).length=_;unfold BG.next;rw[List.length_zipWith];omega
  ·show ((b.fit y k).1++[_]).length=_;rw[qJ,ih.2];rfl
theorem BG.fit_pre (b:BG) (y:List Rat) (k j:Nat):∃m,(b.fit y (k+j)).1=(b.fit y k).1++m:=by
 induction j with
 | zero=>exact⟨[],(qG _).symm⟩
 | succ j ih =>
  obtain⟨m,e⟩:=ih;exact⟨m++[b.tree (b.fit y (k+j)).2],by rw[←qZ,←e];rfl⟩
structure zes (T T':List Nd):Prop where
 len:T'.length=T.length
 node:∀(j:Nat) (n:Nd),T[j]?=some n→∃v,T'[j]?=some (zuT n v)
theorem zes.refl (T:List Nd):zes T T:=⟨rfl,fun j n h=>⟨n.value,h⟩⟩
theorem zes.sub {T T':List Nd} (h:zes T T') {w:Int} {k hh e:Nat} (s:Sub T w k hh e):Sub T' w k hh e:=by
 induction s with
 | leaf a b c d f =>
  obtain⟨v,q⟩:=h.node _ _ a;exact .leaf q b c d f
 | node a b c d f _ _ ih1 ih2 =>
  obtain⟨v,q⟩:=h.node _ _ a;exact .node q b c d f ih1 ih2
theorem zes.ok {T T':List Nd} (h:zes T T') {w:Int} (ht':zcf ⟨2,0,w,T⟩) (hv:∀n,n∈T'→ht n.value≤4000):zcf ⟨2,0,w,T'⟩:=by
 obtain⟨h1,h2,h3,⟨hh,h4,h5⟩,h6⟩:=ht';dsimp only at h3 h5 h6;refine⟨h1,h2,by have:=h.len;dsimp only;omega,⟨hh,h4,by dsimp only;rw[h.len];exact h.sub h5⟩,fun i hi=>?_⟩;dsimp only at hi ⊢;obtain⟨n,e,o,c⟩:=h6 i (by have:=h.len;omega);obtain⟨v,q⟩:=h.node _ _ e;refine⟨_,q,⟨o.rows,o.cost,o.len,o.pos,o.sum,o.cls,fun k=>absurd k (by decide),o.small.1,o.small.2.1,hv _ (qF q)⟩,fun k=>?_⟩;obtain⟨k1,k2,k3,a,b',q1,q2,q3⟩:=c k;obtain⟨v1,e1⟩:=h.node _ _ q1;obtain⟨v2,e2⟩:=h.node _ _ q2;exact⟨k1,k2,k3,_,_,e1,e2,⟨q3.rows,q3.counts,q3.cost⟩⟩
theorem zbp (b:BG) (left:List Rat) (ns:List Nd) (k j:Nat):(b.midsTo left ns k)[j]?=ns[j]?.map fun n=>if j<k then zuT n (zkH b.tilt (b.part left ns j)) else n:=List.getElem?_mapIdx
theorem zhO (b:BG) (left:List Rat) (ns:List Nd) (k:Nat):(b.midsTo left ns k).length=ns.length:=List.length_mapIdx
theorem zlh (b:BG) (left:List Rat) (ns:List Nd):b.midsTo left ns 0=ns:=by
 refine List.ext_getElem? fun j=>?_;rw[zbp];cases ns[j]? <;> rfl
theorem ziC (b:BG) (left:List Rat) (ns:List Nd) (k:Nat):zes ns (b.midsTo left ns k):=⟨zhO ..,fun j n h=>by
 rw[zbp,h];by_cases hj:j<k
 ·exact⟨_,by rw[Option.map_some,if_pos hj]⟩
 ·exact⟨n.value,by rw[Option.map_some,if_neg hj];rfl⟩⟩
theorem znI (b:BG) (left:List Rat) {ns:List Nd} {k:Nat} {n:Nd} (h:(b.midsTo left ns k)[k]?=some n):(b.midsTo left ns k).set k (zuT n (zkH b.tilt (b.part left ns k)))=b.midsTo left ns (k+1):=by
 have hk:=(qE.1 h).1;refine List.ext_getElem? fun j=>?_;rw[List.getElem?_set];by_cases e:k=j
 ·subst e;rw[if_pos rfl,if_pos hk,zbp];rw[zbp]at h
  cases hn:ns[k]? with
  | none=>rw[hn]at h;cases h
  | some m =>
   rw[hn,Option.map_some,if_neg (Nat.lt_irrefl k)]at h;cases h;rw[Option.map_some,if_pos (Nat.lt_succ_self k)]
 ·rw[if_neg e,zbp,zbp]
  cases ns[j]? with
  | none=>rfl
  | some m =>
   rw[Option.map_some,Option.map_some];by_cases h1:j<k
   ·rw[if_pos h1,if_pos (by omega)]
   ·rw[if_neg h1,if_neg (by omega)]
theorem zsg:∀n:Nat,1≤n→n≤8→n ∣ 840:=fun n h1 h2=>by
 have h:∀m:Fin 9,m.val≠0→m.val ∣ 840:=by decide
 exact h ⟨n,by omega⟩ (by show n≠0;omega)
section
variable {b:BG} (hb:b.Ok)
include hb
theorem BG.Ok.goal_grid {left:List Rat} (hl:zhl left):zhl (b.goal left):=by
 unfold BG.goal;by_cases h:b.loss=1
 ·rw[if_pos h];exact hl
 rw[if_neg h];obtain⟨h0,h1⟩:=hb.two (hb.loss.resolve_left h);have hd:=zci b.tilt;have h10:=hb.den.2;have hdn:=b.tilt.den_nz
 have hg:Gr b.tilt.den 2 b.tilt:=by
  refine Gr.ofDen (Nat.dvd_refl _) ?_;have e:=zlA b.tilt;have h2:(0:Rat)<(((b.tilt.den:Nat):Int):Rat):=Rat.intCast_pos.2 oM;have h3:=Rat.mul_lt_mul_of_pos_right h1 h2;rw[e,Rat.one_mul]at h3;have h4:b.tilt.num<(b.tilt.den:Int):=Rat.intCast_lt_intCast.1 h3;have h5:0<b.tilt.num:=ziE.2 h0;omega
 have h1':Gr b.tilt.den 1 1:=Gr.ofDen (q:=1) (Nat.one_dvd _) (by decide);refine⟨b.tilt.den,3,by omega,by omega,?_,fun q hq=>?_⟩
 ·have:=zbB 3 b.tilt.den;have h3:bl 3≤2:=zaU (by decide);omega
 ·obtain⟨t,_,rfl⟩:=List.mem_map.1 hq;split
  ·exact hg.mono oM
  split
  ·exact Gr.zero _ _
  ·exact hg.sub h1'
theorem BG.Ok.gd {left:List Rat} (hl:zhl left) (hn:left.length=b.X.length):GD.Ok b.X.length (.v (b.goal left)):=⟨by rw[BG.goal_len];exact hn,hb.goal_grid hl⟩
theorem BG.Ok.gp {left:List Rat} (hl:zhl left) (hn:left.length=b.X.length):zm4 (b.gp left) 2 0 b.W :=
 zuE (d:=.v (b.goal left)) (hb.gd hl hn) rfl (by have:=hb.rows;omega) hb.each hb.gain.1 fun _=>zbb
theorem BG.Ok.raw {left:List Rat} (hl:zhl left) (hn:left.length=b.X.length):zcf ⟨2,0,(b.W:Int),b.raw left⟩∧1≤(b.raw left).length∧(b.raw left).length≤15:=by
 have h1:=hb.rows;have hal:=zaW b.X.length;refine⟨znC (hb.gp hl hn) hb.wide hb.deep (rows:=za8 b.X.length) (show 1≤(za8 b.X.length).length by omega) (show (za8 b.X.length).length≤300 by omega) zbb 0,(GP.grow_len _ _ _ _ _).1,?_⟩;have:=zeG (hb.gp hl hn) b.D 0 (za8 b.X.length) 0 oM zbb;unfold BG.raw;omega
theorem BG.Ok.part {left:List Rat} (hl:zhl left) (hn:left.length=b.X.length) {j:Nat} {n:Nd} (h:(b.raw left)[j]?=some n):(∀q,q∈b.part left (b.raw left) j→q∈left)∧1≤(b.part left (b.raw left) j).length∧(b.part left (b.raw left) j).length≤8∧n.value=za0 (atR (b.goal left) ((za8 b.X.length).filter fun r=>decide ((j:Int)∈zr2 (b.raw left) (b.X.getD r.toNat [])))):=by
 obtain⟨hok,_,_⟩:=hb.raw hl hn;obtain⟨hh,_,hsub⟩:=hok.sub;dsimp only at hsub;have h8:=hb.rows;have hal:=zaW b.X.length;obtain⟨e1,f1⟩:=zmf (hb.gp hl hn) (cols:=za8 b.W) (fun _=>rfl) (S:=b.raw left) b.D 0 (za8 b.X.length) 0 oM zbb (At.self _);have hjl:=(qE.1 h).1;obtain⟨R,hR⟩:∃R,((b.gp left).rowsAt (za8 b.W) b.D (za8 b.X.length))[j]?=some R:=⟨_,qA (by rw[e1];exact hjl)⟩
 have hw:=zn3 (hb.gp hl hn) (cols:=za8 b.W) (fun _=>rfl) (S:=b.raw left) b.D 0 (za8 b.X.length) 0 zbb (At.self _) (fun r=>zr2 (b.raw left) (b.X.getD r.toNat [])) (fun r _=>by
  obtain⟨l,hl'⟩:=hsub.path (b.X.getD r.toNat []);have:=zi5 hl';rw[this];exact hl') j R hR
 obtain⟨n',hn',ho,hRb,hR1,_⟩:=f1.node j R hR;rw[qv]at hn' hw;cases h.symm.trans hn';unfold BG.part;rw[←hw]
 have hRl:R.length≤b.X.length:=by
  have:=List.length_filter_le (fun r=>decide ((j:Int)∈zr2 (b.raw left) (b.X.getD r.toNat []))) (za8 b.X.length);rw[hw];omega
 refine⟨ze2 fun r hr=>?_,by rw[zb0];exact hR1,by rw[zb0];omega,ho.value⟩;have:=hRb r hr;rw[hn];exact this
theorem BG.Ok.rd:Gr b.rate.den 1 b.rate:=by
 refine Gr.ofDen (Nat.dvd_refl _) ?_;have e:=zlA b.rate;have hdn:=b.rate.den_nz;have h2:(0:Rat)≤(((b.rate.den:Nat):Int):Rat):=Rat.intCast_nonneg.2 oM;have h3:=Rat.mul_le_mul_of_nonneg_right hb.rate.2 h2;rw[e,Rat.one_mul]at h3;have h4:b.rate.num≤(b.rate.den:Int):=Rat.intCast_le_intCast.1 h3;have h5:0<b.rate.num:=ziE.2 hb.rate.1;omega
theorem BG.Ok.nodes_gr {left:List Rat} {D A:Nat} (hD:1≤D) (hA:1≤A) (hbl:bl (A*D)≤95) (hq:∀q,q∈left→Gr D A q) (hn:left.length=b.X.length):∀n,n∈b.nodes left→Gr (D*840) A n.value:=by
 have hg:zhl left:=⟨D,A,hD,hA,hbl,hq⟩;intro n hm;unfold BG.nodes at hm;by_cases h:b.loss=1
 ·rw[if_pos h]at hm;obtain⟨j,hj⟩:=List.mem_iff_getElem?.1 hm;obtain⟨p1,p2,p3,p4⟩:=hb.part hg hn hj;rw[p4,show b.goal left=left from if_pos h];exact Gr.meanK (fun q k=>hq q (p1 q k)) (zsg _ p2 p3)
 ·rw[if_neg h]at hm;obtain⟨j,hj⟩:=List.mem_iff_getElem?.1 hm;unfold BG.mids at hj;rw[zbp]at hj
  cases hn':(b.raw left)[j]? with
  | none=>rw[hn']at hj;cases hj
  | some m =>
   have hjl:=(qE.1 hn').1;rw[hn',Option.map_some,if_pos hjl]at hj;cases hj;obtain⟨p1,p2,p3,_⟩:=hb.part hg hn hn';exact(hq _ (p1 _ (zmo (hb.two (hb.loss.resolve_left h)).2 p2))).up 840
omit hb in
theorem BG.nodes_alikeV (b:BG) (left:List Rat):zes (b.raw left) (b.nodes left):=by
 unfold BG.nodes;split
 ·exact zes.refl _
 ·exact ziC ..
structure zdV (w:Nat) (t:Tr):Prop where
 ok:zcf t
 kd:t.kd=2
 cl:t.cl=0
 wide:t.w=(w:Int)
 len:1≤t.ns.length∧t.ns.length≤15
 small:∀n,n∈t.ns→ht n.value≤105
theorem BG.Ok.tree {left:List Rat} {D A:Nat} (hD:1≤D) (hA:1≤A) (hbl:bl (A*D)≤95) (hq:∀q,q∈left→Gr D A q) (hn:left.length=b.X.length):zdV b.W (b.tree left):=by
 have hg:zhl left:=⟨D,A,hD,hA,hbl,hq⟩;obtain⟨h1,h2,h3⟩:=hb.raw hg hn;have ha:=b.nodes_alikeV left;have hv:=hb.nodes_gr hD hA hbl hq hn
 have hs:∀n,n∈b.nodes left→ht n.value≤105:=fun n k=>by
  refine qI ((hv n k).bits oM hA) ?_;rw[←Nat.mul_assoc];have h4:=zbB (A*D) 840;have h5:bl 840≤10:=zaU (by decide);omega
 exact⟨ha.ok h1 fun n k=>qI (hs n k) oM,rfl,rfl,rfl,by have:=ha.len;show 1≤(b.nodes left).length∧(b.nodes left).length≤15;omega,hs⟩
theorem BG.Ok.next {left:List Rat} {D A:Nat} (hD:1≤D) (hA:1≤A) (hbl:bl (A*D)≤95) (hq:∀q,q∈left→Gr D A q) (hn:left.length=b.X.length):∀q,q∈b.next left→Gr (D*(840*b.rate.den)) (2*A) q:=by
 have ht:=hb.tree hD hA hbl hq hn;have hv:=hb.nodes_gr hD hA hbl hq hn;intro q hm;obtain⟨i,hi⟩:=List.mem_iff_getElem?.1 hm;unfold BG.next at hi;rw[List.getElem?_zipWith]at hi
 cases hx:b.X[i]? with
 | none=>rw[hx]at hi;cases hi
 | some x =>
  cases hl:left[i]? with
  | none=>rw[hx,hl]at hi;cases hi
  | some p =>
   rw[hx,hl]at hi;cases hi;obtain⟨j,_,_,hj,_⟩:=ziA ht.ok x;have h1:=hq p (qF hl);have h2:=hb.rd.mul (hv _ (qF hj))
   have h3:=(h1.up (840*b.rate.den)).sub (B:=A) (by
    rw[show D*(840*b.rate.den)=b.rate.den*(D*840) by rw[qW b.rate.den,Nat.mul_assoc]]
    rwa [Nat.one_mul]at h2)
   rwa [show 2*A=A+A by omega]
theorem BG.Ok.mid_gr {y:List Rat} {D A:Nat} (hq:∀q,q∈y→Gr D A q) (hn:y.length=b.X.length):Gr (D*840) A (b.mid y):=by
 have h8:=hb.rows;unfold BG.mid zpr;by_cases h:b.loss=1
 ·rw[if_pos h];exact Gr.meanK hq (zsg _ oM oM)
 ·rw[if_neg h];exact(hq _ (zmo (hb.two (hb.loss.resolve_left h)).2 oM)).up 840
omit hb in
theorem zoD {D A K r k:Nat} (hr:r≠0) (hbl:bl ((2*A*2 ^ K)*(D*840*(840*r) ^ K))≤95) (hk:k≤K):bl ((2*A*2 ^ k)*(D*840*(840*r) ^ k))≤95:=qI (zaZ (Nat.mul_le_mul (qe _ (qf oM hk)) (qe _ (qf oM hk)))) hbl
theorem BG.Ok.fit {y:List Rat} {D A:Nat} (hD:1≤D) (hA:1≤A) (hq:∀q,q∈y→Gr D A q) (hn:y.length=b.X.length) {K:Nat} (hbl:bl ((2*A*2 ^ K)*(D*840*(840*b.rate.den) ^ K))≤95):∀k,k≤K→(∀q,q∈(b.fit y k).2→Gr (D*840*(840*b.rate.den) ^ k) (2*A*2 ^ k) q)∧(∀t,t∈(b.fit y k).1→zdV b.W t):=by
 have hrd:=b.rate.den_nz;have hb0:∀k,k≤K→bl ((2*A*2 ^ k)*(D*840*(840*b.rate.den) ^ k))≤95:=fun k hk=>zoD hrd hbl hk;intro k
 induction k with
 | zero =>
  refine fun _=>⟨fun q hm=>?_,fun t hm=>by cases hm⟩;obtain⟨p,hp,rfl⟩:=List.mem_map.1 hm;rw[Nat.pow_zero,Nat.pow_zero,Nat.mul_one,Nat.mul_one,show 2*A=A+A by omega];exact((hq p hp).up 840).sub (hb.mid_gr hq hn)
 | succ k ih =>
  intro hk;obtain⟨h1,h2⟩:=ih oM;have hl:=(b.fit_len y hn k).1;have hp1:0<(840*b.rate.den) ^ k:=Nat.pow_pos oM;have hp2:0<2 ^ k:=Nat.pow_pos oM;have hd1:1≤D*840*(840*b.rate.den) ^ k:=Nat.mul_pos oM hp1;have ha1:1≤2*A*2 ^ k:=Nat.mul_pos oM hp2;refine⟨fun q hm=>?_,fun t hm=>?_⟩
  ·have:=hb.next hd1 ha1 (hb0 k oM) h1 hl q hm
   rwa [qX,←Nat.mul_assoc,qX,show 2*A*(2 ^ k*2)=2*(2*A*2 ^ k) by rw[qW (2 ^ k) 2,←Nat.mul_assoc,qW (2*A) 2,Nat.mul_assoc 2 (2*A)]]
  ·rcases List.mem_append.1 (show t∈(b.fit y k).1++[b.tree (b.fit y k).2] from hm) with h | h
   ·exact h2 t h
   ·rw[pL.1 h];exact hb.tree hd1 ha1 (hb0 k oM) h1 hl
end
end
section
open Go.RowKit _root_.Go.Proofs.Tryz
section
variable {n:Nat} {ops:Array Oper} {o:Oper} {env:Env} {bx:Bxs} {H:Hs} {K:Env→Bxs→Hs→Prop} {L:Array Bool} {fuel d:Nat} {v:Value} {I:World→Prop} {z:Option Nat}
theorem IX (i:Nat) {x y:Operand} {T:TypeId} {te te':TE} {e:TypeId} {b off m cap q:Nat} {k:IntKind} {w:Int} (h:EVG I z prog n ops fuel (L.setIfInBounds i true) ((d,.v (.pointer (some ⟨b,off+q*te'.size,none⟩)))::env) bx H K) (hw':w=(q:Int)) (hq:q<m) (hi:ops[i]?=some o:=by exact rfl) (hs:Region.noSelect ops=true:=by kernel_rfl) (hf:Region.free .any ops L i=true:=by kernel_rfl) (hr:(Region.ready .any ops L).contains i=true:=by kernel_rfl) (hy:zol .any ops L i=true:=by kernel_rfl) (hts:(z == some i)=false:=by kernel_rfl) (hw:zag ops env o=some true:=by exact rfl) (hd:o.dst=some d:=by exact rfl) (hn:Nat.blt d n=true:=by exact rfl)
  (ho:o.op=.indexAddr T x y:=by exact rfl) (hx:env.op x=some (.v (.slice (some ⟨b,off,none⟩) m cap)):=by exact rfl) (hyy:env.op y=some (.v (.int k w)):=by exact rfl) (ht:Tryz.tab.get T=some te:=by exact rfl) (hk:te.kind=.slice e:=by exact rfl) (ht':Tryz.tab.get e=some te':=by exact rfl):EVG I z prog n ops (fuel+1) L env bx H K :=
 EVG.take (J:=fun _=>True) i (.inr ⟨fun _=>trivial,fun e=>by rw[e]at hts;simp at hts⟩) hi hs hf hr hy hw hd hn (fun β a W he _=>by
  have ex:a.eval x=_:=he x _ hx;have ey:a.eval y=_:=he y _ hyy;have hkd:=(tO.get ht).kind;rw[hk]at hkd;have hkd':Tryz.prog.underlying T=some (.slice e):=hkd;unfold execOp;simp[ho,ex,ey,Instr.indexAt,asIntOf,run_underlying hkd',hw',(tO.get ht').size,Addr.add_mid,hq]) h
theorem IRQ (i:Nat) {H0:Hp} {x:Operand} {T:TypeId} {te:TE} {b off:Nat} {c:Array Value} {l:List Value} (hI:∀w,I w→Fits H0 w) (h:EVG I z prog n ops fuel (L.setIfInBounds i true) ((d,.v v)::env) bx H K) (hc:H0 b=some c) (hl:∀(j:Nat) (u:Value),l[j]?=some u→c[off+j]?=some u) (hlen:l.length=te.size) (hv:ze1 te.agg l=some v) (hi:ops[i]?=some o:=by exact rfl) (hs:Region.noSelect ops=true:=by kernel_rfl) (hf:Region.free .any ops L i=true:=by kernel_rfl) (hr:(Region.ready .any ops L).contains i=true:=by kernel_rfl) (hy:zol .any ops L i=true:=by kernel_rfl) (hts:zt5 .any ops z i=true:=by kernel_rfl) (hw:zag ops env o=some true:=by exact rfl) (hd:o.dst=some d:=by exact rfl) (hn:Nat.blt d n=true:=by exact rfl)
  (ho:o.op=.load T x:=by exact rfl) (hx:env.op x=some (.v (.pointer (some ⟨b,off,none⟩))):=by exact rfl) (ht:Tryz.tab.get T=some te:=by exact rfl):EVG I z prog n ops (fuel+1) L env bx H K :=
 EVG.take (J:=Fits H0) i (.inl ⟨hts,hI⟩) hi hs hf hr hy hw hd hn (fun β a W he hB=>by
  have ex:a.eval x=_:=he x _ hx;obtain⟨T',fz,hW⟩:=hB b c hc
  have hrg:W.rangeAt b off l:=fun j u hj=>by
   rw[cell_of_row W b (off+j) c T' fz hW];exact hl j u hj
  have hrun:=za4 (tO.get ht) hrg hlen hv;unfold execOp;simp only[ho,ex,Sem.run_bind,hrun,Result.andThen_ok,Sem.run_pure]) h
theorem ILQ (i:Nat) {T0:TypeId} {cs:List Value} {x:Operand} {T:TypeId} {te:TE} {b off:Nat} {l:List Value} (hI:∀w,I w→Box w b cs.toArray T0) (h:EVG I z prog n ops fuel (L.setIfInBounds i true) ((d,.v v)::env) bx H K) (hl:(cs.drop off).take te.size=l) (hlen:l.length=te.size) (hv:ze1 te.agg l=some v) (hi:ops[i]?=some o:=by exact rfl) (hs:Region.noSelect ops=true:=by kernel_rfl) (hf:Region.free .any ops L i=true:=by kernel_rfl) (hr:(Region.ready .any ops L).contains i=true:=by kernel_rfl) (hy:zol .any ops L i=true:=by kernel_rfl) (hts:zt5 .any ops z i=true:=by kernel_rfl) (hw:zag ops env o=some true:=by exact rfl) (hd:o.dst=some d:=by exact rfl) (hn:Nat.blt d n=true:=by exact rfl)
  (ho:o.op=.load T x:=by exact rfl) (hx:env.op x=some (.v (.pointer (some ⟨b,off,none⟩))):=by exact rfl) (ht:Tryz.tab.get T=some te:=by exact rfl):EVG I z prog n ops (fuel+1) L env bx H K :=
 EVG.take (J:=fun w=>Box w b cs.toArray T0) i (.inl ⟨hts,hI⟩) hi hs hf hr hy hw hd hn (fun β a W he hB=>by
  have ex:a.eval x=_:=he x _ hx;have hrg:=hB.range off te.size;rw[hl]at hrg;have hrun:=za4 (tO.get ht) hrg hlen hv;unfold execOp;simp only[ho,ex,Sem.run_bind,hrun,Result.andThen_ok,Sem.run_pure]) h
end
theorem SlC.expl {H:Hp} {v:Value} {n s:Nat} {xs:List Value} (h:SlC H v n s xs) (h0:0<n):∃b off cap c,v=.slice (some ⟨b,off,none⟩) n cap∧H b=some c∧∀(j:Nat) (x:Value),xs[j]?=some x→c[off+j]?=some x:=by
 rcases h.2 with ⟨e,_⟩ | ⟨b,off,cap,c,e,_,h2,h3⟩
 ·omega
 ·exact⟨b,off,cap,c,e,h2,h3⟩
theorem zpg {z:Option Nat} {L:Array Bool} {n:Nat} {env:Env} {bx:Bxs} {H:Hs} {p:Nat × TypeId × List Value} {H0:Hp} {jj:Nat} (hj:zeb z L=false∨H.ow[jj]?=some p) (h:H0.Le H.ro):zeb z L=true→∀W0 β a W,Rel n W0 H.base β env bx H a W→Box W p.1 p.2.2.toArray p.2.1∧Fits H0 W:=fun hn W0 β a W r=>⟨zuP hj hn W0 β a W r,r.fits.mono h⟩
theorem PW.reads {P:Program} {f:FuncId} {args:Array Value} {H:Hp} {L:Ows} {b:Nat} {T:TypeId} {cs:List Value} {Φ:Value→Ows→Prop} (hcan:zat P f) (h:∀G,H.Le G→G b=some cs.toArray→PW P f args G L fun v ow _=>Φ v ow) :
  PW P f args H ((b,T,cs)::L) fun v ow _=>∃ow',ow=(b,T,cs)::ow'∧Φ v ow':=by
 refine⟨hcan,fun W hf hg hL hd=>?_⟩;obtain⟨hbox,hH,hgb⟩:=hL 0 b T cs rfl
 have hne:∀(j b':Nat) (T':TypeId) (cs':List Value),L[j]?=some (b',T',cs')→b'≠b:=fun j b' T' cs' hj e=>by
  subst e;have:=hd (j+1) 0 b' T' T cs' cs (by rw[pN];exact hj) rfl;omega
 have hnb:b ∉ L.bs:=fun hm=>by
  obtain⟨j,T',cs',hj⟩:=Ows.mem_bs hm;exact hne j b T' cs' hj rfl
 have hle:H.Le (fun k=>if k=b then some cs.toArray else H k):=fun k c e=>by
  have:k≠b:=fun e'=>by subst e';rw[hH]at e;cases e
  show (if k=b then some cs.toArray else H k)=some c;rw[if_neg this];exact e
 refine((h (fun k=>if k=b then some cs.toArray else H k) hle (if_pos rfl)).run W (fun k c e=>?_) hg (fun j b' T' cs' hj=>?_) (fun j j' b' T1 T2 c1 c2 h1 h2=>?_)).mono ?_
 ·change (if k=b then some cs.toArray else H k)=some c at e;by_cases hk:k=b
  ·subst hk;rw[if_pos rfl]at e;cases e;exact⟨T,(0,0),hbox⟩
  ·rw[if_neg hk]at e;exact hf k c e
 ·obtain⟨q1,q2,q3⟩:=hL (j+1) b' T' cs' (by rw[pN];exact hj);refine⟨q1,?_,q3⟩;show (if b'=b then some cs.toArray else H b')=none;rw[if_neg (hne j b' T' cs' hj)];exact q2
 ·have:=hd (j+1) (j'+1) b' T1 T2 c1 c2 (by rw[pN];exact h1) (by rw[pN];exact h2);omega
 ·rintro e W' ⟨v,ow,H',rfl,hΦ,hle',hf',hnew,hk,hb',hdi⟩;have hHb:H' b=some cs.toArray:=hle' b _ (if_pos rfl)
  have hB2:Box W' b cs.toArray T:=by
   have h2:W'.heap[b]?=W.heap[b]?:=hk.block b hbox.lt hnb;have h1:W.heap[b]?=some (.cells cs.toArray T (0,0)):=hbox;show W'.heap[b]?=some (.cells cs.toArray T (0,0));rw[h2];exact h1
  refine⟨v,(b,T,cs)::ow,fun k=>if k=b then none else H' k,rfl,⟨ow,rfl,hΦ⟩,fun k c ek=>?_,fun k c ek=>?_,fun k c ek=>?_,⟨hk.os,hk.tape,hk.output,hk.size,fun k hlt hx=>hk.block k hlt fun hm=>hx (qn _ hm)⟩,fun j b' T' cs' hj=>?_,fun j j' b' T1 T2 c1 c2 h1 h2=>?_⟩
  ·have hkb:k≠b:=fun e'=>by subst e';rw[hH]at ek;cases ek
   show (if k=b then none else H' k)=some c;rw[if_neg hkb];exact hle' k c (by show (if k=b then some cs.toArray else H k)=some c;rw[if_neg hkb];exact ek)
  ·change (if k=b then none else H' k)=some c at ek;by_cases hkb:k=b
   ·rw[if_pos hkb]at ek;cases ek
   ·rw[if_neg hkb]at ek;exact hf' k c ek
  ·change (if k=b then none else H' k)=some c at ek;by_cases hkb:k=b
   ·rw[if_pos hkb]at ek;cases ek
   ·rw[if_neg hkb]at ek;rcases hnew k c ek with q | q
    ·change (if k=b then some cs.toArray else H k)=some c at q;rw[if_neg hkb]at q;exact .inl q
    ·exact .inr q
  ·cases j with
   | zero =>
    cases hj;exact⟨hB2,.inr (qh ..),if_pos rfl⟩
   | succ j =>
    rw[pN]at hj;obtain⟨q1,q2,q3⟩:=hb' j b' T' cs' hj;refine⟨q1,q2.imp id (fun k=>qn _ k),?_⟩;show (if b'=b then none else H' b')=none;by_cases hkb:b'=b
    ·exact if_pos hkb
    ·rw[if_neg hkb];exact q3
  ·have hno:∀(j:Nat) (T':TypeId) (cs':List Value),ow[j]?≠some (b,T',cs'):=fun j T' cs' hj=>by
    have:=(hb' j b T' cs' hj).2.2;rw[hHb]at this;cases this
   cases j with
   | zero =>
    cases j' with
    | zero=>rfl
    | succ j'=>cases h1;exact absurd h2 (hno j' T2 c2)
   | succ j =>
    cases j' with
    | zero=>cases h2;exact absurd h1 (hno j T1 c1)
    | succ j' =>
     have:=hdi j j' b' T1 T2 c1 c2 h1 h2;omega
theorem PW.publish {P:Program} {f:FuncId} {args:Array Value} {H:Hp} {Φ:Value→Ows→Hp→Prop} {Ψ:Value→Hp→Prop} (h:PW P f args H [] Φ) (k:∀v ow H',Φ v ow H'→∃(e:TypeId) (s:Nat) (u:Value) (m:Nat) (xs:List Value),zaO e s u m xs ow∧∀G,H'.Le G→SlC G u m s xs→Ψ v G):PC P f args H Ψ:=by
 refine⟨h.can,fun W hf hg=>(h.run W hf hg (fun j b T cs hj=>by cases hj) (fun j j' b T T' cs cs' hj=>by cases hj)).mono ?_⟩;rintro e W' ⟨v,ow,H',rfl,hΦ,hle,hf',hnew,hk,hb,_⟩;have hbel:Below W.heap.size W W':=⟨hk.os,hk.tape,hk.output,hk.size,fun k hlt=>hk.block k hlt (by simp[Ows.bs])⟩;obtain⟨e,s,u,m,xs,hown,hq⟩:=k v ow H' hΦ;rcases hown.2 with ⟨rfl,rfl,rfl⟩ | ⟨g,cap,sp,rfl,rfl,h1,h2,h3⟩
 ·exact⟨v,H',rfl,hq H' (Hp.Le.refl _) ⟨hown.1,.inl ⟨rfl,none,0,rfl⟩⟩,hle,hf',hbel,hnew⟩
 ·obtain⟨q1,q2,q3⟩:=hb 0 g e (xs++sp) rfl;have q2:W.heap.size≤g:=q2.resolve_right (by simp[Ows.bs])
  have hle2:H'.Le (fun k=>if k=g then some (xs++sp).toArray else H' k):=fun k c ek=>by
   have:k≠g:=fun e'=>by subst e';rw[q3]at ek;cases ek
   show (if k=g then some (xs++sp).toArray else H' k)=some c;rw[if_neg this];exact ek
  refine⟨v,fun k=>if k=g then some (xs++sp).toArray else H' k,rfl,hq _ hle2 ⟨hown.1,.inr ⟨g,0,cap,_,rfl,h2,if_pos rfl,fun j x hj=>?_⟩⟩,hle.trans hle2,fun k c ek=>?_,hbel,fun k c ek=>?_⟩
  ·simp only[qv,List.getElem?_toArray];rw[qM (qE.1 hj).1];exact hj
  ·change (if k=g then some (xs++sp).toArray else H' k)=some c at ek;by_cases hkg:k=g
   ·subst hkg;rw[if_pos rfl]at ek;cases ek;exact⟨e,(0,0),q1⟩
   ·rw[if_neg hkg]at ek;exact hf' k c ek
  ·change (if k=g then some (xs++sp).toArray else H' k)=some c at ek;by_cases hkg:k=g
   ·subst hkg;rw[if_pos rfl]at ek;cases ek;exact .inr ⟨q2,e,q1⟩
   ·rw[if_neg hkg]at ek;exact hnew k c ek
section
variable {P:Program} {n:Nat} {ops:Array Oper} {o:Oper} {rest:List Oper} {env:Env} {bx:Bxs} {sb:Bxs} {ow:Ows} {H:Hs} {Q:EQ} {τ:Tab} {d:Nat} {s:SV}
end
def zdW (loss:Int) (rate tilt:Rat):Bool:=decide (0<rate) && (decide (rate≤1) && (if loss=1 then decide (tilt=0) else decide (0<tilt) && decide (tilt<1)))
theorem zg3 {q:Rat}:q.num.sign≤0↔¬0<q:=by
 rw[←ziE];rcases Int.lt_trichotomy q.num 0 with h | h | h
 ·rw[Int.sign_eq_neg_one_of_neg h];omega
 ·rw[h];simp
 ·rw[Int.sign_eq_one_of_pos h];omega
theorem ziI (a b:Rat):zcr a b<0↔a<b:=by
 unfold zcr;by_cases h:a<b
 ·rw[if_pos h];exact⟨fun _=>h,fun _=>by omega⟩
 ·rw[if_neg h];refine⟨fun k=>?_,fun k=>absurd k h⟩;split at k <;> omega
theorem zg4 {q:Rat}:q.num.sign=0↔q=0:=by rw[Int.sign_eq_zero_iff_zero,Rat.num_eq_zero]
def zuS (t:Int):Rat:=if t.tmod 4=1 then (if (zgR t).num<0 then -zgR t else zgR t) else 0
theorem zrJ {H:Hp} (d0 l0 t:Int) (hd:zfD d0) (hl:zfD l0) (ht:zfD t) :
  PC prog 37 #[.int .i64 d0,.int .i64 l0,.int .i64 t] H fun r H'=>∃b1 a1 l1 c1 a2 l2 c2,r=zux (d0 % 5) (1+l0 % 3) (.bool b1) (.slice a1 l1 c1) (.slice a2 l2 c2)∧RQ H' (.agg #[.bool b1,.slice a1 l1 c1,.slice a2 l2 c2]) (zuS t):=by
 have hp1:=zcG d0 5 hd oM oM;have hp2:=zcG l0 3 hl oM oM;refine BD func37 ntmps37 ?_
 repeat (first|refine RUN ?_|refine CV (hp1) ?_|refine CV (hp2) ?_|refine CE (hp1) ?_|refine CE (hp2) ?_)
 rw[show IntKind.i64.wrap (1+l0 % 3)=1+l0 % 3 by rw[pM];omega];refine uR ?_;refine EVL.call rfl rfl rfl rfl rfl (zfR 0 oM oM) ?_;intro r1 G1 hr1 hG1;obtain⟨a1,l1,c1,a2,l2,c2,rfl,_⟩:=id hr1;refine uR ?_;by_cases h:t.tmod 4=1
 ·rw[show (t.tmod 4 == 1)=true from beq_iff_eq.2 h];refine uR ?_;refine vA (zu1 t ht) ?_;intro r2 G2 hr2 hG2;refine vA (zpZ hr2) ?_;intro r3 G3 hr3 hG3;obtain⟨a3,l3,c3,a4,l4,c4,rfl,_⟩:=id hr3;refine uR ?_;exact⟨_,_,_,_,_,_,_,rfl,by unfold zuS;rw[if_pos h];exact hr3⟩
 ·rw[show (t.tmod 4 == 1)=false from beq_false_of_ne h];refine uR ?_;exact⟨_,_,_,_,_,_,_,rfl,by unfold zuS;rw[if_neg h];exact hr1⟩
abbrev zsq (n w dp ls rd rt at':Int) (tl:Bool) (vy vl:Value):Value:=.agg #[.int .i64 n,.int .i64 w,.int .i64 dp,.int .i64 ls,.int .i64 rd,.int .i64 rt,.int .i64 at',.bool tl,vy,vl]
abbrev ztM (loss rounds deep least:Int) (r a g:List Value):List Value:=.int .i64 loss::.int .i64 rounds::(r++(a++(.int .i64 deep::.int .i64 least::g)))
abbrev rc (b:Bool) (a1:Option Addr) (l1 c1:Nat) (a2:Option Addr) (l2 c2:Nat):List Value:=[.bool b,.slice a1 l1 c1,.slice a2 l2 c2]
def zlG (tl:Bool) (a:Int):Rat:=if tl then Rat.divInt (1+a % 5) 6 else 0
def zkN (G:Hp) (v:Value) (loss rounds deep least:Int) (rate tilt gain:Rat):Prop:=∃b1 a1 l1 c1 a2 l2 c2 b2 a3 l3 c3 a4 l4 c4 b3 a5 l5 c5 a6 l6 c6,v=.agg (ztM loss rounds deep least (rc b1 a1 l1 c1 a2 l2 c2) (rc b2 a3 l3 c3 a4 l4 c4) (rc b3 a5 l5 c5 a6 l6 c6)).toArray∧RQ G (.agg (rc b1 a1 l1 c1 a2 l2 c2).toArray) rate∧RQ G (.agg (rc b2 a3 l3 c3 a4 l4 c4).toArray) tilt∧RQ G (.agg (rc b3 a5 l5 c5 a6 l6 c6).toArray) gain
theorem zkN.mono {G K:Hp} {v:Value} {loss rounds deep least:Int} {rate tilt gain:Rat} (h:zkN G v loss rounds deep least rate tilt gain) (k:G.Le K):zkN K v loss rounds deep least rate tilt gain:=by
 obtain⟨b1,a1,l1,c1,a2,l2,c2,b2,a3,l3,c3,a4,l4,c4,b3,a5,l5,c5,a6,l6,c6,e,h1,h2,h3⟩:=h;exact⟨b1,a1,l1,c1,a2,l2,c2,b2,a3,l3,c3,a4,l4,c4,b3,a5,l5,c5,a6,l6,c6,e,RQ.mono h1 k,RQ.mono h2 k,RQ.mono h3 k⟩
set_option maxRecDepth 100000 in
theorem zrt {H:Hp} {vy vl:Value} {ly ll:List Int} (n w dp ls rd rt at':Int) (tl:Bool) (hn:zfD n) (hw:zfD w) (hdp:zfD dp) (hls:zfD ls) (hrd:zfD rd) (hrt:zfD rt) (hat:zfD at') (hy:IL H vy ly) (hyb:∀z,z∈ly→zfD z) (hl:IL H vl ll) (hlb:∀z,z∈ll→zfD z) {N W:Nat} (hN:1+n % 8=(N:Int)) (hW:1+w % 3=(W:Int)) :
  PC prog 7 #[zsq n w dp ls rd rt at' tl vy vl] H fun r G=>∃vx vv vs,r=.tuple #[vx,vv,vs]∧RLL G vx (zfi ll N W)∧RL G vv (zkc ly N)∧zkN G vs (if tl then 2 else 1) (rd % 4) (dp % 3) (1+ls % 3) (Rat.divInt 1 (1+rt % 4)) (zlG tl at') 0:=by
 obtain⟨ya0,yc0,rfl⟩:=SlC.val hy;obtain⟨la0,lc0,rfl⟩:=SlC.val hl;have hp1:=zcG n 8 hn oM oM;have hp2:=zcG rd 4 hrd oM oM;have hp3:=zcG rt 4 hrt oM oM;have hp4:=zcG dp 3 hdp oM oM;have hp5:=zcG at' 5 hat oM oM;have hp6:=zcG w 3 hw oM oM;have w1:IntKind.i64.wrap (1+n % 8)=(N:Int):=by rw[pM];omega
 have w2:IntKind.i64.wrap (1+rt % 4)=1+rt % 4:=by rw[pM];omega
 have w3:IntKind.i64.wrap (1+w % 3)=(W:Int):=by rw[pM];omega
 have w4:IntKind.i64.wrap (1+at' % 5)=1+at' % 5:=by rw[pM];omega
 have hov:=fun G:Hp=>zdP (H:=G) 1 (1+rt % 4) oM oM oM oM oM;have ho0:=fun G:Hp=>zfR (H:=G) 0 oM oM;rw[show ((0:Int):Rat)=0 from rfl]at ho0;have hru:=fun G:Hp=>zrJ (H:=G) (dp % 3) ls 0 (by unfold zfD;omega) hls (by unfold zfD;omega);rw[show (dp % 3) % 5=dp % 3 by omega,show zuS 0=0 from rfl]at hru;refine BD func7 ntmps7 ?_
 repeat (first|refine RUN ?_|refine CV (hp1) ?_|refine CE (hp1) ?_)
 rw[w1];refine uR ?_;apply EV.drawn 17 kR kR;intro xv yw;(repeat (first|refine' DD ?_|(refine' DC (hp2) (h:=?_);rotate_left)|(refine' DC (hp3) (h:=?_);rotate_left)));rw[w2];refine' vB (cO func36) (fun G hG hd=>hov G) (fun _ _ _ h k=>RQ.mono h k) ?_;rotate_left;refine' vB (cO func11) (fun G hG hd=>ho0 G) (fun _ _ _ h k=>RQ.mono h k) ?_;rotate_left;(repeat (first|refine' DD ?_|(refine' DC (hp4) (h:=?_);rotate_left)));refine' vB (cO func37) (fun G hG hd=>hru G) (fun _ _ _ h k=>(by obtain⟨b1,a1,l1,c1,a2,l2,c2,e,h⟩:=h;exact⟨b1,a1,l1,c1,a2,l2,c2,e,RQ.mono h k⟩)) ?_;rotate_left
 (refine' DJ.plainE tO (fun v G=>zkN G v 1 (rd % 4) (dp % 3) (1+ls % 3) (Rat.divInt 1 (1+rt % 4)) 0 0) (fun v G G' h k=>h.mono k) rfl rfl rfl (fun G hd=>(by
  obtain⟨b3,a5,l5,c5,a6,l6,c6,e3,h3⟩:=hd.head kR;obtain⟨a3,l3,c3,a4,l4,c4,e2,h2⟩:=id (show RQ G (xv 8) 0 from hd.tail.head kR);obtain⟨a1,l1,c1,a2,l2,c2,e1,h1⟩:=id (show RQ G (xv 7) (Rat.divInt 1 (1+rt % 4)) from hd.tail.tail.head kR);have h2':=show RQ G (xv 8) 0 from hd.tail.head kR;have h1':=show RQ G (xv 7) (Rat.divInt 1 (1+rt % 4)) from hd.tail.tail.head kR;rw[e1]at h1';rw[e2]at h2';rw[e1,e2,e3];exact⟨_,rfl,_,_,_,_,_,_,_,_,_,_,_,_,_,_,_,_,_,_,_,_,_,rfl,h1',h2',h3⟩)) ?_;rotate_left)
 (repeat refine' DD ?_);(refine DJ.nil (fun G1 hG1 hF1=>?_);(case hS|hS2=>rfl));obtain⟨⟨b1,a1,l1,c1,a2,l2,c2,b2,a3,l3,c3,a4,l4,c4,b3,a5,l5,c5,a6,l6,c6,e,h1,h2,h3⟩,_⟩:=hF1;rw[e]
 (try refine zt9 ?_);refine EV.meetK (ι:=Bool × (Option Addr × Nat × Nat) × (Option Addr × Nat × Nat)) [1,4,5,6] [1,4] (fun _=>[]) (fun q=>[(6,37,ztM (if tl then 2 else 1) (rd % 4) (dp % 3) (1+ls % 3) (rc b1 a1 l1 c1 a2 l2 c2) (rc q.1 q.2.1.1 q.2.1.2.1 q.2.1.2.2 q.2.2.1 q.2.2.2.1 q.2.2.2.2) (rc b3 a5 l5 c5 a6 l6 c6))]) (fun _=>[]) (fun q G=>G1.Le G∧RQ G (.agg (rc q.1 q.2.1.1 q.2.1.2.1 q.2.1.2.2 q.2.2.1 q.2.2.2.1 q.2.2.2.2).toArray) (zlG tl at')) rfl rfl (fun _=>rfl) ?_ ?_
 ·cases tl with
  | false =>
   refine uR ?_;exact⟨⟨b2,(a3,l3,c3),(a4,l4,c4)⟩,trivial,sB,⟨rfl,trivial⟩,sB,rfl,Hp.Le.refl _,h2⟩
  | true =>
   repeat (first|refine RUN ?_|refine CV (hp5) ?_|refine CE (hp5) ?_)
   rw[w4];refine uR ?_;refine EVL.call rfl rfl rfl rfl rfl (zdP (1+at' % 5) 6 oM oM oM oM oM) ?_;rintro r2 G2 hr2 hG2;obtain⟨za1,zl1,zc1,za2,zl2,zc2,rfl,_⟩:=id hr2;refine uR ?_;exact⟨⟨_,(_,_,_),(_,_,_)⟩,trivial,sB,⟨rfl,trivial⟩,sB,rfl,hG2,hr2⟩
 rintro⟨b4,⟨a7,l7,c7⟩,⟨a8,l8,c8⟩⟩ G2 ⟨hG2,hq2⟩;dsimp only at hq2;have hHG:=hG1.trans hG2;have hrows:=fun (G:Hp) (hG:G2.Le G)=>ztA (hl.mono (hHG.trans hG)) hlb N W oM oM;have hrow:=fun (G:Hp) (hG:G2.Le G)=>zp7 (hy.mono (hHG.trans hG)) hyb N oM;refine uR ?_;apply EV.drawn 15 kR kR;intro xv yw;(repeat (first|refine' DD ?_|(refine' DC (hp6) (h:=?_);rotate_left)));rw[w3];(repeat refine' DD ?_);refine' vB (cO func38) (fun G hG hd=>hrows G hG) (fun _ _ _ h k=>RLL.mono h k) ?_;rotate_left;(repeat refine' DD ?_);refine' vB (cO func27) (fun G hG hd=>hrow G hG) (fun _ _ _ h k=>RL.mono h k) ?_;rotate_left;(repeat refine' DD ?_);refine' DJ.copy (7) (by first|exact .inl rfl|exact .inr rfl) rfl rfl rfl id rfl kR ?_;rotate_left;refine' DJ.copy (11) (by first|exact .inl rfl|exact .inr rfl) rfl rfl rfl id rfl kR ?_;rotate_left;(refine DJ.nil (fun G3 hG3 hF3=>?_);(case hS|hS2=>rfl));obtain⟨hF3a,hF3b,_⟩:=hF3;refine uR ?_;exact⟨_,_,_,rfl,hF3b,hF3a,_,_,_,_,_,_,_,_,_,_,_,_,_,_,_,_,_,_,_,_,_,rfl,RQ.mono h1 (hG2.trans hG3),RQ.mono hq2 hG3,RQ.mono h3 (hG2.trans hG3)⟩
theorem zsN {base rate:Rat} {ts:List Tr} {x:List Rat} {w:Nat} (hb:ht base≤200) (hr:ht rate≤200) (hl:ts.length≤60) (ht':∀t,t∈ts→ht (zb3 x t).value≤4000):ht (zkP base rate ts x)≤400000:=by
 unfold zkP
 have h1:=zfu 4000 (vL x ts) fun q hq=>by
  obtain⟨t,k,rfl⟩:=List.mem_map.1 hq;exact ht' t k
 have h2:(4000+1)*(vL x ts).length≤(4000+1)*60:=qe _ (by unfold vL;rw[qV];exact hl);have h3:=zdx rate (zaR (vL x ts));have h4:=zdw base (rate*zaR (vL x ts));omega
theorem zfN {w:Nat} {t:Tr} (h:zdV w t) (x:List Rat):ht (zb3 x t).value≤105:=by
 obtain⟨i,_,_,hi,_⟩:=ziA h.ok x;exact h.small _ (qF hi)
structure zkO (w:Nat) (t:Tr):Prop where
 cl:t.cl=0
 wide:t.w=(w:Int)
 w20:1≤w∧w≤20
 ok:t.ns=[]∨zcf ⟨2,0,(w:Int),t.ns⟩
 len:t.ns.length≤15
 small:∀n,n∈t.ns→ht n.value≤105
def zkG (t:Tr):Int:=if ¬(t.kd=1∨t.kd=2) then 10 else if t.kd=1∨t.ns=[] then 5 else 0
def zfC (w:Int) (t:Tr):Int:=if zkG t≠0 then zkG t else if t.kd≠2∨t.w≠w then 10 else 0
def zd0 (w:Int):List Tr→Int
 | []=>0
 | t::ts=>if zfC w t≠0 then zfC w t else zd0 w ts
def za9 (loss w:Int) (rate tilt:Rat) (ts:List Tr):Int:=if ¬(loss=1∨loss=2) then 10 else if w<1∨w>20∨ts.length>50 then 5 else if zdW loss rate tilt=false then 1 else zd0 w ts
theorem zdV.x {w:Nat} {t:Tr} (h:zdV w t):zkO w t:=by
 have h1:=h.ok.wide;have h2:=h.wide;have h3:=h.ok;have h4:=h.kd;have h5:=h.cl;have h6:=h.len.2;have h7:=h.small;obtain⟨kd,cl,w',ns⟩:=t;dsimp only at h1 h2 h3 h4 h5 h6 h7;subst h4 h5 h2;exact⟨rfl,rfl,by omega,.inr h3,h6,h7⟩
theorem zkO.b {W n:Nat} {w:Int} {t:Tr} (h:zkO W t) (he:zfC w t=0) (hw:(n:Int)=w):zdV n t:=by
 have h1:zkG t=0:=Classical.not_not.1 fun k=>by unfold zfC at he;rw[if_pos k]at he;exact k he
 unfold zfC at he;rw[if_neg (fun k=>k h1)]at he
 have h2:t.kd=2∧t.w=w:=Classical.not_not.1 fun k=>by
  rw[if_pos (by by_cases c:t.kd=2 <;> simp_all)]at he;cases he
 have h3:t.ns≠[]:=fun k=>by
  unfold zkG at h1;rw[if_neg (fun c=>c (.inr h2.1)),if_pos (.inr k)]at h1;cases h1
 obtain⟨c1,c2,c3,c4,c5,c6⟩:=h;obtain⟨kd,cl,w',ns⟩:=t;dsimp only at c1 c2 c4 c5 c6 h2 h3;obtain⟨rfl,rfl⟩:=h2;subst c1;have:n=W:=oM;subst this;subst c2;have hpos:ns.length≠0:=fun k=>h3 (pK.1 k);exact⟨c4.resolve_left h3,rfl,rfl,rfl,⟨by dsimp only;omega,c5⟩,c6⟩
theorem zhc {w:Int}:∀{ts:List Tr},zd0 w ts=0→∀t,t∈ts→zfC w t=0
 | [],_,t,h=>by cases h
 | u::ts,h,t,ht=>by
  unfold zd0 at h;by_cases c:zfC w u=0
  ·rw[if_neg (fun k=>k c)]at h;rcases List.mem_cons.1 ht with rfl | ht
   ·exact c
   ·exact zhc h t ht
  ·rw[if_pos c]at h;exact absurd h c
theorem zem {w:Int}:∀{i:Nat} {ts:List Tr},(∀t,t∈ts.take i→zfC w t=0)→zd0 w ts=zd0 w (ts.drop i)
 | 0,ts,_=>rfl
 | i+1,[],_=>rfl
 | i+1,t::ts,h=>by
  have h1:=h t (by rw[List.take_succ_cons];exact qh ..);rw[List.drop_succ_cons,←zem fun u hu=>h u (by rw[List.take_succ_cons];exact qn _ hu)];show (if zfC w t≠0 then zfC w t else zd0 w ts)=_;rw[if_neg (fun k=>k h1)]
theorem zhb {w:Int} {i:Nat} {ts:List Tr} {t:Tr} (h:∀t,t∈ts.take i→zfC w t=0) (ht:ts[i]?=some t) (he:zfC w t≠0):zd0 w ts=zfC w t:=by
 obtain⟨hl,rfl⟩:=qE.1 ht;rw[zem h,qt hl];exact if_pos he
theorem zh4 {w:Int} {ts:List Tr} (h:∀t,t∈ts.take ts.length→zfC w t=0):zd0 w ts=0:=by
 rw[zem h,List.drop_length];rfl
theorem zrU {P:Tr→Prop} {ts:List Tr} {i:Nat} {t:Tr} (h:∀t,t∈ts.take i→P t) (ht:ts[i]?=some t) (k:P t):∀t,t∈ts.take (i+1)→P t:=fun u hu=>by
 rw[zan ht,List.mem_append,pL]at hu;rcases hu with hu | rfl
 ·exact h u hu
 ·exact k
theorem zoH {loss w:Int} {rate tilt:Rat} {ts:List Tr} (h:¬(loss=1∨loss=2)):za9 loss w rate tilt ts=10:=if_pos h
theorem zii {loss w:Int} {rate tilt:Rat} {ts:List Tr} (h0:loss=1∨loss=2) (h:w<1∨w>20∨ts.length>50):za9 loss w rate tilt ts=5:=by
 unfold za9;rw[if_neg (fun k=>k h0),if_pos h]
theorem zqT {loss w:Int} {rate tilt:Rat} {ts:List Tr} (h0:loss=1∨loss=2) (h:¬(w<1∨w>20∨ts.length>50)) (h1:zdW loss rate tilt=false):za9 loss w rate tilt ts=1:=by
 unfold za9;rw[if_neg (fun k=>k h0),if_neg h,if_pos h1]
theorem zl5 {loss w:Int} {rate tilt:Rat} {ts:List Tr} (h0:loss=1∨loss=2) (h:¬(w<1∨w>20∨ts.length>50)) (h1:zdW loss rate tilt=true):za9 loss w rate tilt ts=zd0 w ts:=by
 unfold za9;rw[if_neg (fun k=>k h0),if_neg h,if_neg (by rw[h1];decide)]
theorem zoI {loss w:Int} {rate tilt:Rat} {ts:List Tr} (h:za9 loss w rate tilt ts=0):(loss=1∨loss=2)∧(1≤w∧w≤20∧ts.length≤50)∧zdW loss rate tilt=true∧∀t,t∈ts→zfC w t=0:=by
 unfold za9 at h;split at h
 ·cases h
 rename_i h1;split at h
 ·cases h
 rename_i h2;split at h
 ·cases h
 rename_i h3;exact⟨Classical.not_not.1 h1,by omega,by simpa using h3,zhc h⟩
set_option maxRecDepth 100000 in
theorem zmF {H:Hp} {cs:List Value} {vx:Value} {kd cl w:Int} {ns:List Nd} {x:List Rat} (ht:zcs H cs kd cl w ns) (hok:zcf ⟨kd,cl,w,ns⟩) (hx:QL H vx x) (hxl:(x.length:Int)=w) (hxs:∀q,q∈x→sm q) :
  PW prog 111 #[.agg cs.toArray,vx] H [] fun r ow _=>∃l:List Int,zaO 3 1 r l.length (l.map iv) ow∧zdn ns x 0 l∧l.length≤2000:=by
 obtain⟨a,cp,css,rfl,hns,hsl⟩:=ht;obtain⟨hkd,hw,hln,⟨hh,hh10,hsub⟩,hall⟩:=hok;dsimp only at hkd hw hln hsub hall;have hpos:=hsub.end0;obtain⟨xa,xc,rfl⟩:=SlC.val hx;have hxS:SlC H (.slice xa x.length xc) x.length 5 (x.flatMap fun q=>zac (zaa q)):=hx;refine PW.body tO func111 rfl kR ntmps111 rfl rfl ?_;refine uR ?_;refine EVL.lit tO rfl rfl rfl rfl rfl rfl rfl rfl rfl rfl rfl fun bl=>?_;refine uR ?_;refine EV.loopK (ι:=Nat × List Int × Value × Ows) [1,2] [2] (fun q=>[(5,.v (.int .i64 (q.1:Int))),(6,.v q.2.2.1)]) (fun _=>[]) (fun q=>q.2.2.2) (fun q G=>q.1<ns.length∧zaO 3 1 q.2.2.1 (q.2.1++[(q.1:Int)]).length ((q.2.1++[(q.1:Int)]).map iv) q.2.2.2∧q.2.1.length≤q.1∧∀l,zdn ns x q.1 l→zdn ns x 0 (q.2.1++l)) (fun q=>ns.length-q.1) ((0,[],.slice (some ⟨bl,0,none⟩) 1 1,[(bl,_,_)])) rfl rfl ⟨rfl,rfl,trivial⟩ trivial rfl (fun _=>rfl) (⟨hpos,zaO.full (m:=1) rfl oM,qH _,fun l h=>h⟩) ?_;rintro⟨i,q,u,ow⟩ G1 hG1 ⟨hi,hown,hql,hlf⟩;dsimp only at hi hown hql hlf;obtain⟨oa,oc,rfl⟩:=hown.val;obtain⟨n,hn⟩:=gE hi;obtain⟨c,hcut,hnd⟩:=(hns.mono hG1).get hn;obtain⟨a7,c7,rfl,_⟩:=hnd.cells;obtain⟨n',hn',hN,_⟩:=hall i hi;cases hn.symm.trans hn';obtain⟨h',e',hsi⟩:=hsub.at i (qQ _) hi;have hle:=hsi.lt;have hsl1:=hsl.mono hG1;have hll:(q++[(i:Int)]).length≤1000000:=by rw[qJ,qx];omega
 refine uR ?_;refine EVL.idxM tO rfl rfl rfl rfl rfl rfl rfl rfl rfl (hsl1) (i) (rfl) (hi) (hcut) ?_;refine uR ?_
 cases hsi with
 | leaf q1 q2 q3 q4 q5 =>
  rw[hn]at q1;cases q1;rw[show (n.col != -1)=false by rw[q2];rfl];refine uR ?_;exact⟨_,hown,hlf _ (.here hn q2),by rw[qJ,qx];omega⟩
 | @node _ h1 m _ _ q1 q2 q3 q4 q5 s1 s2 =>
  rw[hn]at q1;cases q1;have hm1:=s1.lt;have hm2:=s2.lt;have hcl:n.col.toNat<x.length:=oM;obtain⟨y,hy⟩:∃y,x[n.col.toNat]?=some y:=⟨_,qA hcl⟩;have hyg:x.getD n.col.toNat 0=y:=by rw[qB,hy];rfl
  have hcmp:=zbF y n.at' (hxs y (qF hy)) (zai hN.small.1 oM);rw[show (n.col != -1)=true from bne_iff_ne.2 (by omega)];refine uR ?_;refine EVL.idxM tO rfl rfl rfl rfl rfl rfl rfl rfl rfl (hsl1) (i) (rfl) (hi) (hcut) ?_;refine uR ?_;apply EV.drawn 9 kR kR;intro xv yw;(repeat refine' DD ?_);refine' DJ.idxM tO rfl rfl rfl rfl rfl rfl rfl rfl rfl ((hxS.mono hG1)) (n.col.toNat) ((by rw[Int.toNat_of_nonneg q2])) (hcl) (QL.at (H:=H) (v:=.bool true) hy) ?_;rotate_left;(repeat (first|refine' DD ?_|(refine' DC (hcmp) (h:=?_);rotate_left)));(refine DJ.nil (fun G2 hG2 hF2=>?_);(case hS|hS2=>rfl));by_cases hle2:y≤n.at'
  ·rw[qD (zpK hle2)];refine uR ?_;refine EVL.app1 tO rfl rfl rfl rfl rfl rfl rfl rfl rfl rfl rfl rfl rfl rfl rfl rfl rfl rfl rfl (fun _=>rfl) (ow) ([]) ((qG _).symm) (hown) (oM) fun _=>?_;intro v' ow' hown';refine uR ?_;refine⟨(n.left.toNat,q++[(i:Int)],v',ow'),⟨by rw[Int.toNat_of_nonneg (by omega)];rfl,rfl,trivial⟩,sB,trivial,sB,qG _,⟨by dsimp only;omega,by dsimp only;rw[Int.toNat_of_nonneg (by omega)];exact hown'.il,by dsimp only;rw[qJ,qx];omega,fun l h=>by dsimp only;rw[qZ];exact hlf _ (.low hn oM (by rw[hyg];exact hle2) h)⟩,hG2,by dsimp only;omega⟩
  ·rw[qC (show ¬zcr y n.at'≤0 from fun k=>hle2 (Rat.not_lt.1 fun k2=>by have:=(zmz y n.at').2 k2;omega))];refine uR ?_;refine EVL.app1 tO rfl rfl rfl rfl rfl rfl rfl rfl rfl rfl rfl rfl rfl rfl rfl rfl rfl rfl rfl (fun _=>rfl) (ow) ([]) ((qG _).symm) (hown) (oM) fun _=>?_;intro v' ow' hown';refine uR ?_;refine⟨(n.right.toNat,q++[(i:Int)],v',ow'),⟨by rw[Int.toNat_of_nonneg (by omega)];rfl,rfl,trivial⟩,sB,trivial,sB,qG _,⟨by dsimp only;omega,by dsimp only;rw[Int.toNat_of_nonneg (by omega)];exact hown'.il,by dsimp only;rw[qJ,qx];omega,fun l h=>by dsimp only;rw[qZ];exact hlf _ (.high hn oM (by rw[hyg];exact hle2) h)⟩,hG2,by dsimp only;omega⟩
theorem zrE {H:Hp} {cs:List Value} {vx:Value} {kd cl w:Int} {ns:List Nd} {x:List Rat} (ht:zcs H cs kd cl w ns) (hok:zcf ⟨kd,cl,w,ns⟩) (hx:QL H vx x) (hxl:(x.length:Int)=w) (hxs:∀q,q∈x→sm q) :
  PC prog 111 #[.agg cs.toArray,vx] H fun r G=>∃l:List Int,IL G r l∧zdn ns x 0 l∧l.length≤2000 :=
 (zmF ht hok hx hxl hxs).publish fun v ow H' ⟨l,h1,h2,h3⟩=>⟨_,_,v,_,_,h1,fun G _ hs=>⟨l,hs,h2,h3⟩⟩
set_option maxRecDepth 100000 in
theorem zka {H:Hp} {cs:List Value} {vx:Value} {kd cl w:Int} {ns:List Nd} {x:List Rat} (ht:zcs H cs kd cl w ns) (hok:zcf ⟨kd,cl,w,ns⟩) (hx:QL H vx x) (hxl:(x.length:Int)=w) (hxs:∀q,q∈x→sm q) :
  PC prog 54 #[.agg cs.toArray,vx] H fun r _=>r=zaa (zb3 x ⟨kd,cl,w,ns⟩).value:=by
 have hw:=zrE ht hok hx hxl hxs;obtain⟨a,cp,css,rfl,hns,hsl⟩:=ht;obtain⟨xa,xc,rfl⟩:=SlC.val hx;refine BD func54 ntmps54 ?_;refine uR ?_;refine vA (hw) ?_;rintro r G ⟨l0,hil,hp,hll⟩ hG;obtain⟨j,l,rfl,hL⟩:=hp.leaf;obtain⟨i0,hlf0,hi0,hni0,_⟩:=ziA hok x;obtain rfl:i0=j:=hlf0.det hL;generalize zb3 x ⟨kd,cl,w,ns⟩=n at *
 dsimp only at hi0 hni0;rw[qJ,qx]at hll;obtain⟨la,lc,rfl⟩:=SlC.val hil
 have hw':IntKind.i64.wrap (((l++[(i0:Int)]).length:Int)-1)=((l.length:Nat):Int):=by
  rw[qJ,qx,pM];omega
 obtain⟨c,hcut,hnd⟩:=(hns.mono hG).get hni0;obtain⟨a7,c7,rfl,_⟩:=hnd.cells;have hsl1:=hsl.mono hG;refine uR ?_;apply EV.drawn 11 kR kR;intro xv yw;(repeat refine' DD ?_);rw[hw'];refine' vJ (hil) (l.length) (rfl) ((by rw[qJ,qx];omega)) ((by rw[qK,qL (qH _),Nat.sub_self];rfl)) ?_;rotate_left;(repeat refine' DD ?_);refine' DJ.idxM tO rfl rfl rfl rfl rfl rfl rfl rfl rfl (hsl1) (i0) (rfl) (hi0) (hcut) ?_;rotate_left;(repeat refine' DD ?_);(refine DJ.nil (fun G2 hG2 hF2=>?_);(case hS|hS2=>rfl));refine uR ?_;rfl
abbrev zbE (loss w:Int) (base rate tilt:Rat) (ts:Value):List Value:=.int .i64 loss::.int .i64 w::(zac (zaa base)++(zac (zaa rate)++(zac (zaa tilt)++[ts])))
def zmt (loss:Int) (rate tilt:Rat):Bool:=(decide (loss=1) || decide (loss=2)) && zdW loss rate tilt
theorem zpC {loss:Int} {rate tilt:Rat} (h:loss=1∨loss=2):zmt loss rate tilt=zdW loss rate tilt:=by
 unfold zmt;rcases h with rfl | rfl <;> rfl
theorem zeg {loss:Int} {rate tilt:Rat} (h1:sm rate) (h2:sm tilt):PV prog 47 #[.int .i64 loss,zaa rate,zaa tilt] (.bool (zmt loss rate tilt)):=by
 refine PV.of_pc ?_;have s1:sm 1:=by show ht 1≤_;decide +kernel
 have ho:=zec 1 oM oM;rw[show ((1:Int):Rat)=1 from rfl]at ho;have hs1:=zcp rate (qI h1.num oM);have hs2:=zcp tilt (qI h2.num oM);have hc1:=zbF rate 1 h1 s1;have hc2:=zbF tilt 1 h2 s1;refine BD func47 ntmps47 ?_
 repeat (first|refine RUN ?_|refine CV (ho) ?_|refine CV (hs1) ?_|refine CE (ho) ?_|refine CE (hs1) ?_)
 by_cases k1:0<rate
 case neg =>
  rw[qD (zg3.2 k1)];refine uR ?_;rw[show zmt loss rate tilt=false by unfold zmt zdW;rw[qC k1,Bool.false_and,Bool.and_false]]
 rw[qC (fun k=>zg3.1 k k1)]
 repeat (first|refine RUN ?_|refine CV (hc1) ?_|refine CE (hc1) ?_)
 by_cases k2:rate≤1
 case neg =>
  rw[qD (show zcr rate 1>0 from (zmz rate 1).2 (Rat.not_le.1 k2))];refine uR ?_;rw[show zmt loss rate tilt=false by unfold zmt zdW;rw[qC k2,Bool.false_and,Bool.and_false,Bool.and_false]]
 rw[qC (show ¬zcr rate 1>0 by have:=zpK k2;omega)];refine uR ?_;by_cases e1:loss=1
 ·subst e1;rw[show ((1:Int) == 1)=true from rfl]
  repeat (first|refine RUN ?_|refine CV (hs2) ?_|refine CE (hs2) ?_)
  rw[show zmt 1 rate tilt=decide (tilt=0) by unfold zmt zdW;rw[qD k1,qD k2];rfl];by_cases z:tilt=0
  ·rw[qD z,zg4.2 z];rfl
  ·rw[qC z,show (tilt.num.sign == 0)=false from pR.2 fun k=>z (zg4.1 k)]
 rw[show (loss == 1)=false from pR.2 e1];refine uR ?_;by_cases e2:loss=2
 ·subst e2;have e:zmt 2 rate tilt=(decide (0<tilt) && decide (tilt<1)):=by unfold zmt zdW;rw[qD k1,qD k2];rfl
  rw[e,show ((2:Int) == 2)=true from rfl]
  repeat (first|refine RUN ?_|refine CV (hs2) ?_|refine CE (hs2) ?_)
  by_cases z:0<tilt
  ·rw[qD z,qD (show tilt.num.sign>0 from Int.not_le.1 fun k=>zg3.1 k z)]
   repeat (first|refine RUN ?_|refine CV (hc2) ?_|refine CE (hc2) ?_)
   rw[Bool.true_and];by_cases y:tilt<1
   ·rw[qD y,qD ((ziI tilt 1).2 y)]
   ·rw[qC y,qC fun k=>y ((ziI tilt 1).1 k)]
  ·rw[qC z,qC (show ¬tilt.num.sign>0 from fun k=>absurd (zg3.2 z) oM)];refine uR ?_;rfl
 rw[show (loss == 2)=false from pR.2 e2];refine uR ?_;rw[show zmt loss rate tilt=false by unfold zmt;rw[qC e1,qC e2];rfl]
set_option maxRecDepth 100000 in
theorem znR {H:Hp} {t:Tr} {w:Nat} {cs:List Value} (ht:zcs H cs t.kd t.cl t.w t.ns) (hx:zkO w t):PC prog 72 #[.agg cs.toArray] H fun r _=>r=.int .i64 (zkG t):=by
 obtain⟨kd,cl,w',ns⟩:=t;obtain⟨hcl,hw,hw20,hok,_,_⟩:=hx;dsimp only at ht hcl hw hok;subst hcl hw;by_cases hk:kd=1∨kd=2
 case neg =>
  obtain⟨a,cp,css,rfl,hns,hsl⟩:=ht;refine BD func72 ntmps72 ?_;refine uR ?_;rw[show (kd != 1)=true from bne_iff_ne.2 (fun h=>hk (.inl h))];refine uR ?_;rw[show (kd != 2)=true from bne_iff_ne.2 (fun h=>hk (.inr h))];refine uR ?_;rw[show zkG ⟨kd,0,(w:Int),ns⟩=10 from if_pos hk]
 have w1:decide ((w:Int)<1)=false:=qC oM;have w2:decide ((w:Int)>20)=false:=qC oM;by_cases h0:kd=2∧ns≠[]
 ·obtain⟨rfl,hn⟩:=h0;have hc:zkG ⟨2,0,(w:Int),ns⟩=0:=by unfold zkG;rw[if_neg (fun k=>k (.inr rfl)),if_neg (fun k=>k.elim (fun k=>absurd k (by decide:¬(2:Int)=1)) hn)]
  rw[hc];exact znQ ht (hok.resolve_left hn)
 have hc:zkG ⟨kd,0,(w:Int),ns⟩=5:=by
  unfold zkG;rw[if_neg (fun k=>k hk),if_pos];rcases hk with h | h
  ·exact .inl h
  ·exact .inr (Classical.not_not.1 fun k=>h0 ⟨h,k⟩)
 rw[hc];obtain⟨a,cp,css,rfl,hns,hsl⟩:=ht;rcases hk with rfl | rfl
 ·refine BD func72 ntmps72 ?_;refine uR ?_;rw[w1];refine uR ?_;rw[w2];refine uR ?_;by_cases n0:ns=[]
  ·subst n0;refine uR ?_;rfl
  ·have hT:=hok.resolve_left n0;have n1:=hT.len;have n2:ns.length≠0:=fun k=>n0 (pK.1 k);dsimp only at n1;rw[qC (show ¬(ns.length:Int)<1 by omega)];refine uR ?_;rw[qC (show ¬(ns.length:Int)>2000 by omega)];refine uR ?_;rfl
 ·obtain rfl:ns=[]:=Classical.not_not.1 fun k=>h0 ⟨rfl,k⟩;refine BD func72 ntmps72 ?_;refine uR ?_;rw[w1];refine uR ?_;rw[w2];refine uR ?_;rfl
set_option maxRecDepth 100000 in
theorem zfc {H:Hp} {loss w:Int} {W:Nat} {base rate tilt:Rat} {ta:Option Addr} {tc:Nat} {ts:List Tr} (ht:PTL H (.slice ta ts.length tc) ts) (hx:∀t,t∈ts→zkO W t) (hr:sm rate) (hq:sm tilt) (hl:ts.length≤1000000) :
  PC prog 21 #[.agg (zbE loss w base rate tilt (.slice ta ts.length tc)).toArray] H fun r _=>r=.int .i64 (za9 loss w rate tilt ts):=by
 obtain⟨tcs,hts,hst⟩:=ht;refine BD func21 ntmps21 ?_;refine uR ?_;by_cases hk:loss=1∨loss=2
 case neg =>
  rw[show (loss != 1)=true from bne_iff_ne.2 (fun h=>hk (.inl h))];refine uR ?_;rw[show (loss != 2)=true from bne_iff_ne.2 (fun h=>hk (.inr h))];refine uR ?_;rw[zoH hk]
 refine EVL.meetK (ι:=Bool) [1,2] [1] (fun _=>[(13,.v (.bool false))]) (fun _=>[]) (fun _=>[]) (fun _ G=>H.Le G) rfl rfl (fun _=>rfl) ?_ ?_
 ·rcases hk with e | e
  ·rw[show (loss != 1)=false by rw[e];rfl];refine uR ?_;exact⟨true,⟨rfl,trivial⟩,sB,trivial,sB,rfl,Hp.Le.refl _⟩
  ·rw[show (loss != 1)=true by rw[e];rfl];refine uR ?_;rw[show (loss != 2)=false by rw[e];rfl];refine uR ?_;exact⟨true,⟨rfl,trivial⟩,sB,trivial,sB,rfl,Hp.Le.refl _⟩
 rintro _ G1 hG1;refine uR ?_;by_cases w1:w<1
 ·rw[qD w1];refine uR ?_;rw[zii hk (.inl w1)]
 rw[qC w1];refine uR ?_;by_cases w2:w>20
 ·rw[qD w2];refine uR ?_;rw[zii hk (.inr (.inl w2))]
 rw[qC w2];refine uR ?_;by_cases w3:ts.length>50
 ·rw[qD (show (ts.length:Int)>50 by omega)];refine uR ?_;rw[zii hk (.inr (.inr w3))]
 rw[qC (show ¬(ts.length:Int)>50 by omega)];have h5:¬(w<1∨w>20∨ts.length>50):=oM;have hrt1:=zeg (loss:=loss) hr hq;rw[zpC hk]at hrt1
 cases hrb:zdW loss rate tilt with
 | false =>
  rw[hrb]at hrt1
  repeat (first|refine RUN ?_|refine CV (hrt1) ?_|refine CE (hrt1) ?_)
  rw[zqT hk h5 hrb]
 | true =>
  rw[hrb]at hrt1;rw[zl5 hk h5 hrb]
  repeat (first|refine RUN ?_|refine CV (hrt1) ?_|refine CE (hrt1) ?_)
  refine EV.loopK (ι:=Nat) [1,37,38] [1] (fun q=>[(39,.v (.int .i64 (q:Int)))]) (fun _=>[]) (fun _=>[]) (fun q G=>q≤ts.length∧G1.Le G∧∀t,t∈ts.take q→zfC w t=0) (fun q=>ts.length-q) (0) rfl rfl ⟨rfl,trivial⟩ trivial rfl (fun _=>rfl) (⟨qQ _,Hp.Le.refl _,fun t h=>(by rw[List.take_zero]at h;cases h)⟩) ?_;rintro i G2 hG2 ⟨hi,hG12,hall⟩;have hH2:=hG1.trans hG12;refine uR ?_;refine EV.cond rfl (fun hlt=>?_) (fun hlt=>?_)
  ·simp only[nN]at hlt;obtain⟨t,hti'⟩:=gE hlt;obtain⟨c,hcut,htr⟩:=(hts.mono hH2).get hti';have hck:=znR htr (hx t (qF hti'));obtain⟨na,nc,css,rfl,_⟩:=id htr;have hst2:=hst.mono hH2;refine uR ?_;refine EVL.idxM tO rfl rfl rfl rfl rfl rfl rfl rfl rfl (hst2) (i) (rfl) (hlt) (hcut) ?_
   repeat (first|refine RUN ?_|refine CV (hck) ?_|refine CE (hck) ?_)
   by_cases e0:zkG t=0
   case neg =>
    rw[show (zkG t != 0)=true from bne_iff_ne.2 e0];refine uR ?_;have he:zfC w t=zkG t:=if_pos e0;rw[zhb hall hti' (by rw[he];exact e0),he]
   rw[show (zkG t != 0)=false by rw[e0];rfl];refine uR ?_;by_cases e2:t.kd=2
   case neg =>
    rw[show (t.kd != 2)=true from bne_iff_ne.2 e2];refine uR ?_;have he:zfC w t=10:=by unfold zfC;rw[if_neg (fun k=>k e0),if_pos (.inl e2)]
    rw[zhb hall hti' (by rw[he];decide),he]
   rw[show (t.kd != 2)=false from bne_eq_false_iff_eq.2 e2];refine uR ?_;by_cases e3:t.w=w
   case neg =>
    rw[show (t.w != w)=true from bne_iff_ne.2 e3];refine uR ?_;have he:zfC w t=10:=by unfold zfC;rw[if_neg (fun k=>k e0),if_pos (.inr e3)]
    rw[zhb hall hti' (by rw[he];decide),he]
   have he:zfC w t=0:=by unfold zfC;rw[if_neg (fun k=>k e0),if_neg fun k=>k.elim (fun k=>k e2) fun k=>k e3]
   rw[show (t.w != w)=false from bne_eq_false_iff_eq.2 e3];refine uR ?_;exact⟨i+1,⟨by rw[zad i (by omega)];rfl,trivial⟩,sB,trivial,sB,rfl,⟨hlt,hG12,zrU hall hti' he⟩,Hp.Le.refl _,by omega⟩
  ·simp only[nN]at hlt;obtain rfl:i=ts.length:=oM;rw[zh4 hall];refine uR ?_;rfl
theorem znU {H:Hp} {loss w:Int} {W n xc:Nat} {xa:Option Addr} {base rate tilt:Rat} {ta:Option Addr} {tc:Nat} {ts:List Tr} (ht:PTL H (.slice ta ts.length tc) ts) (hx:∀t,t∈ts→zkO W t) (hr:sm rate) (hq:sm tilt) (hl:ts.length≤1000000) :
  PC prog 85 #[.agg (zbE loss w base rate tilt (.slice ta ts.length tc)).toArray,.slice xa n xc] H fun r _=>r=.int .i64 (if za9 loss w rate tilt ts≠0 then 1 else if (n:Int)≠w then 5 else 0):=by
 have hck:=zfc (loss:=loss) (w:=w) (base:=base) ht hx hr hq hl;refine BD func85 ntmps85 ?_
 repeat (first|refine RUN ?_|refine CV (hck) ?_|refine CE (hck) ?_)
 by_cases e:za9 loss w rate tilt ts=0
 case neg =>
  rw[show (za9 loss w rate tilt ts != 0)=true from bne_iff_ne.2 e,if_pos e];refine uR ?_;rfl
 rw[show (za9 loss w rate tilt ts != 0)=false by rw[e];rfl,if_neg (fun k=>k e)];refine uR ?_;by_cases e2:(n:Int)=w
 ·rw[show ((n:Int) != w)=false from bne_eq_false_iff_eq.2 e2,if_neg (fun k=>k e2)];refine uR ?_;rfl
 ·rw[show ((n:Int) != w)=true from bne_iff_ne.2 e2,if_pos e2];refine uR ?_;rfl
theorem zuH {x:List Rat} {ts:List Tr} {i:Nat} {t:Tr} (h:ts[i]?=some t):(vL x ts)[i]?=some (zb3 x t).value:=by
 unfold vL;rw[qK,h];rfl
theorem ztU (x:List Rat) (ts:List Tr) (i:Nat):(vL x ts).take i=vL x (ts.take i):=by unfold vL;rw[List.map_take]
theorem zsv {x:List Rat} {ts:List Tr} (h:∀t,t∈ts→zdV x.length t) (hl:ts.length≤60):ht (zaR (vL x ts))≤10000:=by
 have h1:=zfu 105 (vL x ts) fun q hq=>by
  obtain⟨t,k,rfl⟩:=List.mem_map.1 hq;exact zfN (h t k) x
 have h2:(105+1)*(vL x ts).length≤(105+1)*60:=qe _ (by unfold vL;rw[qV];exact hl);omega
set_option maxRecDepth 100000 in
theorem zpO {H:Hp} {loss w:Int} {base rate tilt:Rat} {ta:Option Addr} {tc:Nat} {ts:List Tr} {vx:Value} {x:List Rat} (ht':PTL H (.slice ta ts.length tc) ts) (hok:∀t,t∈ts→zdV x.length t) (hx:QL H vx x) (hxs:∀q,q∈x→ht q≤100) (hb:ht base≤200) (hr:ht rate≤200) (hl:ts.length≤60) :
  PC prog 86 #[.agg (zbE loss w base rate tilt (.slice ta ts.length tc)).toArray,vx] H fun r _=>r=zaa (zkP base rate ts x):=by
 obtain⟨tcs,hts,hst⟩:=ht';obtain⟨xa,xc,rfl⟩:=SlC.val hx;have hxq:∀q,q∈x→sm q:=fun q hq=>zai (hxs q hq) oM;have hz:zac (zaa (zaR ((vL x ts).take 0)))=[.bool false,.int .u64 0,.string ⟨#[]⟩,.int .u64 0,.string ⟨#[]⟩]:=zar;refine BD func86 ntmps86 ?_;refine uR ?_;refine EV.loopK (ι:=Nat) [1,2,4,5,9,10] [2,4] (fun i=>[(11,.v (.int .i64 (i:Int)))]) (fun i=>[(5,51,zac (zaa (zaR ((vL x ts).take i))))]) (fun _=>[]) (fun i G=>i≤ts.length) (fun i=>ts.length-i) (0) rfl rfl ⟨rfl,trivial⟩ ⟨by rw[hz];rfl,trivial⟩ rfl (fun _=>rfl) (qQ _) ?_;intro i G1 hG1 hi;refine uR ?_;refine EV.cond rfl (fun hlt=>?_) (fun hlt=>?_)
 ·simp only[nN]at hlt;obtain⟨t,hti⟩:=gE hlt;have hB:=hok t (qF hti);obtain⟨c,hcut,htr⟩:=(hts.mono hG1).get hti;obtain⟨na,nc,css,rfl,_⟩:=id htr;have hst1:=hst.mono hG1;have hval:=fun (G:Hp) (hG:G1.Le G)=>zka (htr.mono hG) hB.ok (SlC.mono hx (hG1.trans hG)) (by rw[hB.wide]) hxq;have hlb:=zfN hB x;have hs1:=zsv (x:=x) (ts:=ts.take i) (fun t h=>hok t (List.mem_of_mem_take h)) (by rw[qP];omega);rw[←ztU]at hs1;have hadd:=zdf (zaR ((vL x ts).take i)) (zb3 x t).value (zai hs1 oM) (zai hlb oM);rw[←zby,←zan (zuH hti)]at hadd;refine uR ?_;refine EVL.idxM tO rfl rfl rfl rfl rfl rfl rfl rfl rfl (hst1) (i) (rfl) (hlt) (hcut) ?_;refine uR ?_;apply EV.drawn 5 kR kR;intro xv yw;(repeat refine' DD ?_);refine' vC (cO func54) (fun G hG hd=>hval G hG) ?_;rotate_left;(repeat (first|refine' DD ?_|(refine' DC (hadd) (h:=?_);rotate_left)));(refine DJ.nil (fun G2 hG2 hF2=>?_);(case hS|hS2=>rfl));refine uR ?_;exact⟨i+1,⟨by rw[zad i (by omega)];rfl,trivial⟩,sB,⟨rfl,trivial⟩,sB,rfl,hlt,hG2,by omega⟩
 ·simp only[nN]at hlt;obtain rfl:i=ts.length:=oM;have hl1:(vL x ts).take ts.length=vL x ts:=qO (by unfold vL;rw[qV];exact qH _);have hs1:=zsv hok hl;have hm:=zgD rate (zaR (vL x ts)) (zai hr oM) (zai hs1 oM);have hmh:=zdx rate (zaR (vL x ts));have ha:=zdf base (rate*zaR (vL x ts)) (zai hb oM) (zai (n:=20000) oM oM);rw[hl1];refine uR ?_
  (apply EV.drawn 7 kR kR;intro xv yw;(repeat (first|refine' DD ?_|(refine' DC (hm) (h:=?_);rotate_left)|(refine' DC (ha) (h:=?_);rotate_left)));refine DJ.nil (fun G hG hF=>?_);(case hS|hS2=>rfl));refine uR ?_;rfl
theorem znM {H:Hp} {loss w:Int} {W:Nat} {base rate tilt:Rat} {ta:Option Addr} {tc:Nat} {ts:List Tr} {vx:Value} {x:List Rat} (ht':PTL H (.slice ta ts.length tc) ts) (hx':∀t,t∈ts→zkO W t) (hx:QL H vx x) (hxs:∀q,q∈x→ht q≤100) (hb:ht base≤200) (hr:ht rate≤200) (hq:ht tilt≤200) (hl:ts.length≤1000000) :
  PC prog 28 #[.agg (zbE loss w base rate tilt (.slice ta ts.length tc)).toArray,vx] H fun r _=>∃q,r=.tuple #[zaa q,.int .i64 (if za9 loss w rate tilt ts≠0 then 1 else if (x.length:Int)≠w then 5 else 0)]∧(za9 loss w rate tilt ts=0→(x.length:Int)=w→q=zkP base rate ts x)∧(¬(za9 loss w rate tilt ts=0∧(x.length:Int)=w)→q=0):=by
 obtain⟨xa,xc,rfl⟩:=SlC.val hx;have hrf:=znU (loss:=loss) (w:=w) (base:=base) (xa:=xa) (n:=x.length) (xc:=xc) ht' hx' (zai hr oM) (zai hq oM) hl;by_cases h:za9 loss w rate tilt ts=0∧(x.length:Int)=w
 ·obtain⟨_,hlen,_,hall⟩:=zoI h.1;have hans:=zpO (loss:=loss) (w:=w) (tilt:=tilt) ht' (fun t k=>(hx' t k).b (hall t k) h.2) hx hxs hb hr oM;rw[if_neg (fun k=>k h.1),if_neg (fun k=>k h.2)]at hrf;rw[if_neg (fun k=>k h.1),if_neg (fun k=>k h.2)];refine BD func28 ntmps28 ?_
  repeat (first|refine RUN ?_|refine CV (hrf) ?_|refine CE (hrf) ?_)
  refine vA (hans) ?_;rintro _ G rfl hG;refine uR ?_;exact⟨_,rfl,fun _ _=>rfl,fun k=>absurd h k⟩
 ·have he:(if za9 loss w rate tilt ts≠0 then 1 else if (x.length:Int)≠w then 5 else 0:Int)≠0:=by
   by_cases c:za9 loss w rate tilt ts=0
   ·rw[if_neg (fun k=>k c),if_pos fun k=>h ⟨c,k⟩];decide
   ·rw[if_pos c];decide
  generalize (if za9 loss w rate tilt ts≠0 then 1 else if (x.length:Int)≠w then 5 else 0:Int)=e at *
  refine BD func28 ntmps28 ?_
  repeat (first|refine RUN ?_|refine CV (hrf) ?_|refine CE (hrf) ?_)
  rw[show (e != 0)=true from bne_iff_ne.2 he];refine uR ?_;exact⟨0,by rw[zbN],fun a b=>absurd ⟨a,b⟩ h,fun _=>rfl⟩
abbrev zkd (loss rounds deep least:Int) (rate tilt gain:Rat):List Value:=.int .i64 loss::.int .i64 rounds::(zac (zaa rate)++(zac (zaa tilt)++(.int .i64 deep::.int .i64 least::zac (zaa gain))))
set_option maxRecDepth 100000 in
theorem zff {H:Hp} {loss:Int} {v:Value} {l:List Rat} {tilt:Rat} (hl:QL H v l) (h0:1≤l.length) (h8:l.length≤12) (hb:∀q,q∈l→ht q≤100) (htl:loss≠1→0<tilt∧tilt<1) (hht:ht tilt≤10) :
  PC prog 49 #[.int .i64 loss,zaa tilt,v] H fun r _=>r=zaa (zpr loss tilt l):=by
 obtain⟨va,vc,rfl⟩:=SlC.val hl;have hsm:∀q,q∈l→sm q:=fun q hq=>zai (hb q hq) oM;refine BD func49 ntmps49 ?_;by_cases k1:loss=1
 ·subst k1;rw[show zpr 1 tilt l=za0 l from if_pos rfl];refine uR ?_;rw[show ((1:Int) == 1)=true from rfl];refine uR ?_;refine EVL.call rfl rfl rfl rfl rfl (zjN hl oM hb) ?_;rintro _ G rfl hG;refine uR ?_;rfl
 ·rw[show zpr loss tilt l=zkH tilt l from if_neg k1];refine uR ?_;rw[show (loss == 1)=false from pR.2 k1];refine uR ?_;obtain⟨t0,t1⟩:=htl k1;refine vA (zrQ hl h8 hsm) ?_;intro r G hs hG;have hsl:(zc6 l).length=l.length:=(zbq l).length_eq;obtain⟨sa,sc,rfl⟩:=SlC.val hs;have hst:sm tilt:=zai hht oM;have hlh:=zbG (l.length:Int);have hlb:bl (l.length:Int).natAbs≤20:=zaU oM;have ho:=zec (l.length:Int) oM oM;have hm:=zgD tilt ((l.length:Int):Rat) hst (zai (n:=30) oM oM);have hmh:=zdx tilt ((l.length:Int):Rat);have hkl:=zfX (a:=tilt) t1 h0;have hsS:SlC G (.slice sa (zc6 l).length sc) (zc6 l).length 5 ((zc6 l).flatMap fun q=>zac (zaa q)):=hs;rw[hsl]at hsS ⊢;refine uR ?_;apply EV.drawn 6 kR kR;intro xv yw;(repeat (first|refine' DD ?_|(refine' DC (ho) (h:=?_);rotate_left)|(refine' DC (hm) (h:=?_);rotate_left)));(refine DJ.nil (fun G5 hG5 hF5=>?_);(case hS|hS2=>rfl));refine uR ?_;refine EV.loopK (ι:=Nat) [6,9,27,28] [6,9] (fun q=>[(29,.v (.int .i64 (q:Int)))]) (fun _=>[]) (fun _=>[]) (fun q G'=>q≤zi1 tilt l.length∧G.Le G') (fun q=>l.length-q) (0) rfl rfl ⟨rfl,trivial⟩ trivial rfl (fun _=>rfl) (⟨qQ _,hG5⟩) ?_;rintro k G2 hG2 ⟨hk,hGG2⟩;have hkl2:k<(zc6 l).length:=oM;obtain⟨x,hx⟩:∃x,(zc6 l)[k]?=some x:=⟨_,qA hkl2⟩;have hkh:=zbG ((k+1:Nat):Int);have hkb:bl ((k+1:Nat):Int).natAbs≤20:=zaU oM;have ho2:=zec ((k+1:Nat):Int) oM oM;have hc2:=zbF (((k+1:Nat):Int):Rat) (tilt*((l.length:Int):Rat)) (zai (n:=30) oM oM) (zai (n:=100) oM oM);refine uR ?_;rw[qD (show (k:Int)<(l.length:Int) by omega)];refine uR ?_;refine EVL.idxM tO rfl rfl rfl rfl rfl rfl rfl rfl rfl ((hsS.mono hGG2)) (k) (rfl) (oM) ((QL.at (H:=H) (v:=.bool true) hx)) ?_;refine uR ?_;apply EV.drawn 6 kR kR;intro xv yw;(repeat refine' DD ?_);rw[zad k (by omega)];(repeat (first|refine' DD ?_|(refine' DC (ho2) (h:=?_);rotate_left)|(refine' DC (hc2) (h:=?_);rotate_left)));(refine DJ.nil (fun G6 hG6 hF6=>?_);(case hS|hS2=>rfl));by_cases hc:tilt*((l.length:Int):Rat)≤(((k+1:Nat):Int):Rat)
  ·rw[qD (show zcr (((k+1:Nat):Int):Rat) (tilt*((l.length:Int):Rat))≥0 from Int.not_lt.1 fun c=>absurd ((ziI _ _).1 c) (Rat.not_lt.2 hc))];have hke:=zrW t1 h0 hc fun j hj=>zks (Nat.lt_of_lt_of_le hj hk)
   have hmx:zkH tilt l=x:=by
    unfold zkH;rw[←hke,qB,hx];rfl
   rw[hmx];refine uR ?_;rfl
  ·rw[qC (show ¬zcr (((k+1:Nat):Int):Rat) (tilt*((l.length:Int):Rat))≥0 from fun c=>hc (Rat.not_lt.1 fun q=>absurd ((ziI _ _).2 q) oM))];refine uR ?_;refine⟨k+1,⟨by rw[zad k (by omega)];rfl,trivial⟩,sB,trivial,sB,rfl,⟨?_,hGG2.trans hG6⟩,hG6,by omega⟩;rcases Nat.lt_or_eq_of_le hk with h | h
   ·exact h
   ·exact absurd (zmU t1 h0) (by rw[←h];exact hc)
set_option maxRecDepth 100000 in
theorem zj9 {H:Hp} {vx:Value} {X:List (List Rat)} {w:Nat} (hX:QLL H vx X) (hw:∀x,x∈X→x.length=w) (h0:1≤X.length) (hn:X.length≤300) (h1:1≤w) (h2:w≤20):PC prog 46 #[vx] H fun r _=>r=.bool true:=by
 obtain⟨vs,hvs,hvx⟩:=id hX;obtain⟨xa,xc,rfl⟩:=hX.val;obtain⟨x0,hxx0⟩:=gE h0;obtain⟨u0,e0,hu0,_⟩:=hvs.at hxx0;rw[hw x0 (qF hxx0)]at hu0;refine BD func46 ntmps46 ?_;refine uR ?_;rw[qC (show ¬(X.length:Int)<1 by omega)];refine uR ?_;rw[qC (show ¬(X.length:Int)>300 by omega)];refine uR ?_;refine vI (hvx) (0) (rfl) (h0) (hu0) ?_;refine uR ?_;rw[qC (show ¬(w:Int)<1 by omega)];refine uR ?_;refine vI (hvx) (0) (rfl) (h0) (hu0) ?_;refine uR ?_;rw[qC (show ¬(w:Int)>20 by omega)];refine uR ?_;refine EV.loopK (ι:=Nat) [0,27,28] [] (fun q=>[(29,.v (.int .i64 (q:Int)))]) (fun _=>[]) (fun _=>[]) (fun q G=>q≤X.length∧H.Le G) (fun q=>X.length-q) (0) rfl rfl ⟨rfl,trivial⟩ trivial rfl (fun _=>rfl) (⟨qQ _,Hp.Le.refl _⟩) ?_;rintro i G hG ⟨hi,hHG⟩;refine uR ?_;refine EV.cond rfl (fun hlt=>?_) (fun hlt=>?_)
 ·simp only[nN]at hlt;obtain⟨x,hx⟩:=gE hlt;obtain⟨u,e,hu,_⟩:=hvs.at hx;rw[hw x (qF hx)]at hu;have hvG:=hvx.mono hHG;refine uR ?_;refine vI (hvG) (i) (rfl) (hlt) (hu) ?_;refine uR ?_;refine vI (hvG) (0) (rfl) (h0) (hu0) ?_;refine uR ?_;rw[show ((w:Int) != (w:Int))=false from pQ _];refine uR ?_;exact⟨i+1,⟨by rw[zad i (by omega)];rfl,trivial⟩,sB,trivial,sB,rfl,⟨hlt,hHG⟩,Hp.Le.refl _,by omega⟩
 ·simp only[nN]at hlt;refine uR ?_;rfl
end
end Go.Proofs.YteoollbcdpfkpaaGreatDoor
