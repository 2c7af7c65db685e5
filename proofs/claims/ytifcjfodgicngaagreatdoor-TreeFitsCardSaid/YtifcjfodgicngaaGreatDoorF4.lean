/- Texts of ours in one: Wd1, Ls7, LsR, Ls8, Wd2, Ha3, Lw8, Lw9, Wd3, Wd4, Ev24, RqL, Wd5, GnX, Tr1, Ev25, Wd6, Tr2, Dice, Draw, RefDice, Dg1, Wd7, Ev26, Tr3, Ev27, Stable, Swaps, RestPlain, Rest, Same, Rising, Tr4, Tr5, TrT, Tr6, Tr7, Tr8, Tr9, Tr10, Tr11, Tr12, Tr13, Wd8, Ev28, Pg1, Tr14, Tr15, Pg2, Od1, Pg3, Tr16, Tr17, Tr18, Tr19, Tr20, Tr21, Tr22, Tr23, Tr24, Tr25, Tr26, Opn, Opn20, Tr27, Tr29, Tr30, Tr31, Pg4, Tg1, Pg5, Pg6, Pg7, Str2, Str3, Bd1, Bd2, Pg9, Bd3, Tg2, Tg3, Kd17, Tg4, Pg8, Tr32, Tr33, Tr34, Tr35, Tr36, PgD, Ot1, Ot2, PgE, PgF, Th1, Th2, Th3, Th4, Tp1, Opn18, GnU, Lw10, Th6, Tp2, Lc1, Tp3, Lc2, Ev29, Ev30. -/
import Derived.Test.YtifcjfodgicngaaGreatDoorF0
import Derived.Test.YtifcjfodgicngaaGreatDoorF1
import Derived.Test.YtifcjfodgicngaaGreatDoorF2
import Derived.Test.YtifcjfodgicngaaGreatDoorF3
import Derived.Test.YtifcjfodgicngaaGreatDoorRows
import Derived.WalkLawsBesides
import Derived.Deep.LoopGhost
import Derived.Lib.ConvBytes
import Derived.Deep.QuietTactic
import Derived.BigQuiet
import Derived.WalkKit
import Derived.ProofKit
import Derived.OpenShut
import Derived.Lib.ItoaMem
import Derived.Lib.AppendIntMem
import Derived.Lib.ItoaWalk
import Derived.BigCall
import Derived.BigGuard
import Derived.Laws.Concat
import Derived.Lib.AppendStr
import Derived.Lib.UnsafeStr
set_option linter.unusedVariables false
set_option linter.unusedSimpArgs false
set_option maxHeartbeats 64000000
namespace Go.Proofs.YtifcjfodgicngaaGreatDoor
section
open Go.RowKit _root_.Go.Proofs.Tryz
def zeI (C:Nat) (l:List Int):List Int:=(List.range C).map fun (k:Nat)=>(l.count (k:Int):Int)
theorem zbI (C:Nat) (l:List Int):(zeI C l).length=C:=by simp[zeI]
theorem zg3 {C:Nat} (l:List Int) {k:Nat} (hk:k<C):(zeI C l)[k]?=some (l.count (k:Int):Int):=by
 unfold zeI;rw[List.getElem?_map,List.getElem?_range hk];rfl
theorem zmA {C:Nat} (l:List Int) {k:Nat} (hk:k<C):zeI C (l++[(k:Int)])=(zeI C l).set k ((l.count (k:Int)+1:Nat):Int):=by
 apply List.ext_getElem?;intro j;rw[List.getElem?_set];by_cases hj:j<C
 ·rw[zg3 _ hj,zg3 _ hj,zeo,zbI];by_cases e:k=j
  ·subst e;rw[if_pos rfl,if_pos rfl,if_pos hk]
  ·rw[if_neg e,if_neg oM,Nat.add_zero]
 ·rw[List.getElem?_eq_none (by rw[zbI];omega),List.getElem?_eq_none (by rw[zbI];omega),if_neg (by omega)]
theorem zkm (C:Nat):(List.replicate C [iv 0]).flatten=(zeI C []).map iv++[]:=by
 have:zeI C []=List.replicate C 0:=by
  unfold zeI;apply List.ext_getElem?;intro j;by_cases hj:j<C
  ·rw[List.getElem?_map,List.getElem?_range hj,List.getElem?_replicate,if_pos hj];simp
  ·rw[List.getElem?_eq_none (by simp;omega),List.getElem?_eq_none (by simp;omega)]
 rw[this,qG]
 induction C with
 | zero=>rfl
 | succ n ih =>
  rw[List.replicate_succ,List.flatten_cons,List.replicate_succ,List.map_cons,List.singleton_append];congr 1;apply ih;unfold zeI;apply List.ext_getElem?;intro j;by_cases hj:j<n
  ·rw[List.getElem?_map,List.getElem?_range hj,List.getElem?_replicate,if_pos hj];simp
  ·rw[List.getElem?_eq_none (by simp;omega),List.getElem?_eq_none (by simp;omega)]
theorem zpz {H:Hp} {b m:Nat} {l:List Int} {sp:List Value} (h:H b=some (l.map iv++sp).toArray) (hm:l.length=m):IL H (.slice (some ⟨b,0,none⟩) m m) l:=by
 subst hm;refine⟨by simp,.inr ⟨b,0,l.length,_,rfl,qH _,h,fun j x hj=>?_⟩⟩;rw[Nat.zero_add];have hl:=(qE.1 hj).1;rw[List.getElem?_toArray,List.getElem?_append_left hl];exact hj
theorem zlm {H:Hp} {v:Value} {rs:List Int} (hr:IL H v rs) (hn:rs.length≤300) {va:Option Addr} {vc:Nat} {la:Option Addr} {lc:Nat} {ls:List Int} (hv:IL H (.slice la ls.length lc) ls) {C:Nat} (hc:1≤C∧C≤12) (h0:1≤ls.length) (h1:ls.length≤300) (hls:∀z,z∈ls→0≤z∧z<(C:Int)) :
  PC prog 23 #[zaE 1 C (.slice la ls.length lc) (.slice va 0 vc),v] H fun r H'=>IL H' r (zeI C (atI ls (exL rs ls.length))):=by
 have hchk:=zfj (va:=va) (vc:=vc) hv (cl:=(C:Int)) oM h0 h1 hls;have hel:=zcY rs ls.length;have heb:=zdv (rs:=rs) (n:=ls.length);have hex:=zbS hr oM ls.length;generalize exL rs ls.length=es at *
 obtain⟨a,cap,rfl⟩:=SlC.val hr;refine BD func23 ntmps23 ?_
 repeat (first|refine RUN ?_|refine CV (hchk) ?_|refine CE (hchk) ?_)
 refine EVL.make tO rfl rfl rfl rfl rfl rfl rfl rfl rfl (C) (rfl) oM (by rfl) (by rfl) fun b=>?_;refine uR ?_;refine vA (hex) ?_;intro r1 G1 he hG1;obtain⟨ea,ec,rfl⟩:=SlC.val he;(first|refine EVL.swapOw ([(b,3,(zeI C (atI ls (es.take 0))).map iv++[])]) ([]) ((by rw[show atI ls (es.take 0)=[] from rfl,←zkm];rfl)) ?_|refine EV.swapOw ([(b,3,(zeI C (atI ls (es.take 0))).map iv++[])]) ([]) ((by rw[show atI ls (es.take 0)=[] from rfl,←zkm];rfl)) ?_);refine uR ?_;refine EV.loopK (ι:=Nat) [2,5,23,24] [2] (fun i=>[(25,.v (.int .i64 (i:Int)))]) (fun _=>[]) (fun i=>[(b,3,(zeI C (atI ls (es.take i))).map iv++[])]) (fun i _=>i≤es.length) (fun i=>es.length-i) (0) rfl rfl ⟨rfl,trivial⟩ trivial rfl (fun _=>rfl) (Nat.zero_le _) ?_;rintro i G2 hG2 hi;refine uR ?_;refine EV.cond rfl (fun hlt=>?_) (fun hlt=>?_)
 ·simp only[nN]at hlt;obtain⟨r,hri⟩:=gE hlt;have hb:=heb r (qF hri);obtain⟨R,rfl⟩:=Int.eq_ofNat_of_zero_le hb.1;obtain⟨x,hx⟩:∃x,ls[R]?=some x:=⟨_,qA oM⟩;have hRl:R<ls.length:=by omega
  have hxb:=hls x (qF hx);obtain⟨k,rfl⟩:=Int.eq_ofNat_of_zero_le hxb.1;have hk:k<C:=by omega
  have hsn:atI ls (es.take (i+1))=atI ls (es.take i)++[(k:Int)]:=by
   rw[zat hri];unfold atI;rw[List.map_append,List.map_cons,Int.toNat_natCast,qB,hx];rfl
  have hcl:(atI ls (es.take i)).count (k:Int)≤300:=qI List.count_le_length (by rw[zb6,List.length_take];omega);have hget:=zg3 (C:=C) (atI ls (es.take i)) hk;have hcn:=zmA (C:=C) (atI ls (es.take i)) hk;rw[←hsn]at hcn;have hlen:=zbI C (atI ls (es.take i));generalize zeI C (atI ls (es.take i))=cs at *
  generalize (atI ls (es.take i)).count (k:Int)=m at *
  have wm:IntKind.i64.wrap ((m:Int)+1)=((m+1:Nat):Int):=zai m oM;refine uR ?_;refine vI ((he.mono hG2)) (i) (rfl) (hlt) ((by rw[List.getElem?_map,hri];rfl)) ?_;refine uR ?_;refine vI ((hv.mono (hG1.trans hG2))) (R) (rfl) (hRl) ((by rw[List.getElem?_map,hx];rfl)) ?_;refine uR ?_;refine EVL.idxB tO rfl rfl rfl rfl rfl rfl rfl rfl rfl (k) (k*1) (rfl) (hk) (rfl) ?_;refine EVL.loadOwn tO rfl rfl rfl rfl rfl rfl (0) rfl (zfk [] hget) rfl rfl ?_;refine uR ?_;rw[wm];refine EVL.idxB tO rfl rfl rfl rfl rfl rfl rfl rfl rfl (k) (k*1) (rfl) (hk) (rfl) ?_;refine EVL.storeOwn tO rfl rfl rfl rfl rfl rfl ([]) ([]) rfl rfl rfl rfl ((by rw[List.length_append,List.length_map,hlen];show k*1+1≤_;omega)) (zh7 [] _ (show k<cs.length by omega)) ?_;refine uR ?_;refine⟨i+1,⟨by rw[zai i (by omega)];rfl,trivial⟩,sB,trivial,sB,by rw[hcn];rfl,hlt,Hp.Le.refl _,by omega⟩
 ·simp only[nN]at hlt;obtain rfl:i=es.length:=by omega
  rw[List.take_length];(first|refine EVL.publish [] [] rfl fun G3 hG3 hb3=>?_|refine EV.publish [] [] rfl fun G3 hG3 hb3=>?_);refine uR ?_;exact zpz hb3 (zbI _ _)
def topN (l:List Int):Nat→Nat
 | 0=>0
 | i+1=>if l.getD (topN l i) 0<l.getD i 0 then i else topN l i
theorem zj2 (l:List Int):∀i,topN l i<i∨topN l i=0
 | 0=>.inr rfl
 | i+1=>by
  unfold topN;split
  ·exact .inl (Nat.lt_succ_self _)
  ·rcases zj2 l i with h | h
   ·exact .inl oM
   ·exact .inr h
theorem zhc {l:List Int} {i:Nat} (h:i<l.length):l[i]?=some (l.getD i 0):=by
 rw[qB,qA h];rfl
theorem zk3 {H:Hp} {g v w:Value} {l:List Int} (hg:∃kd cl sl sv,g=zaE kd cl sl sv) (hc:PC prog 23 #[g,v] H fun r H'=>IL H' r l) (hn:l.length≤300):PC prog 21 #[g,v] H fun r _=>r=.int .i64 (topN l l.length:Nat):=by
 obtain⟨kd,cl,sl,sv,rfl⟩:=hg;refine BD func21 ntmps21 ?_;refine uR ?_;refine vA (hc) ?_;intro r1 G1 hr hG1;obtain⟨a,cap,rfl⟩:=SlC.val hr;refine uR ?_;refine EV.loopK (ι:=Nat) [6,12,13] [] (fun i=>[(5,.v (.int .i64 (topN l i:Nat))),(14,.v (.int .i64 (i:Int)))]) (fun _=>[]) (fun _=>[]) (fun i _=>i≤l.length) (fun i=>l.length-i) (0) rfl rfl ⟨rfl,rfl,trivial⟩ trivial rfl (fun _=>rfl) (Nat.zero_le _) ?_;rintro i G2 hG2 hi;refine uR ?_;refine EV.cond rfl (fun hlt=>?_) (fun hlt=>?_)
 ·simp only[nN]at hlt;have hr2:=hr.mono hG2;have ht:=zj2 l i;have htl:topN l i<l.length:=by omega
  have g1:=zhc hlt;have g2:=zhc htl;have hst:topN l (i+1)=if l.getD (topN l i) 0<l.getD i 0 then i else topN l i:=rfl
  have wn:IntKind.i64.wrap ((i:Int)+1)=((i+1:Nat):Int):=zai i oM;generalize topN l i=tp at *
  generalize l.getD tp 0=x at *
  generalize l.getD i 0=y at *
  refine uR ?_;refine vI (hr2) (i) (rfl) (hlt) ((by rw[List.getElem?_map,g1];rfl)) ?_;refine uR ?_;refine vI (hr2) (tp) (rfl) (htl) ((by rw[List.getElem?_map,g2];rfl)) ?_;refine uR ?_;by_cases h:y>x
  ·rw[qD h];rw[if_pos h]at hst;refine uR ?_;refine⟨i+1,⟨by rw[hst];rfl,by rw[wn];rfl,trivial⟩,sB,trivial,sB,rfl,by omega,Hp.Le.refl _,by omega⟩
  ·rw[qC h];rw[if_neg h]at hst;refine uR ?_;refine⟨i+1,⟨by rw[hst];rfl,by rw[wn];rfl,trivial⟩,sB,trivial,sB,rfl,by omega,Hp.Le.refl _,by omega⟩
 ·simp only[nN]at hlt;obtain rfl:i=l.length:=by omega
  refine uR ?_;rfl
theorem zln {H:Hp} {v:Value} {va:Option Addr} {vn vc:Nat} {la:Option Addr} {lc:Nat} (h0:1≤vn) (h1:vn≤300):PC prog 23 #[zaE 2 0 (.slice la 0 lc) (.slice va vn vc),v] H fun r H'=>IL H' r []:=by
 have hchk:=zdW (va:=va) (vc:=vc) (la:=la) (lc:=lc) h0 h1;refine BD func23 ntmps23 ?_;refine uR ?_;exact⟨rfl,.inl ⟨rfl,_,_,rfl⟩⟩
end
section
end
section
open Go.RowKit _root_.Go.Proofs.Tryz
theorem zng {a b:Rat} (h:a≤b):zcA a b≤0:=by
 unfold zcA;split
 ·omega
 ·split
  ·rename_i k;exact absurd k (Rat.not_lt.2 h)
  ·omega
theorem znu {l:List Int} (n:Nat):∀q,q∈zjf l n→ht q≤5:=fun q hq=>by
 obtain⟨i,hi,rfl⟩:=List.mem_map.1 hq;split
 ·exact zmU _
 ·rw[zb8];omega
theorem zkP {l:List Int} {n w:Nat}:∀x,x∈zeU l n w→x.length=w∧∀q,q∈x→ht q≤5:=fun x hx=>by
 obtain⟨i,_,rfl⟩:=List.mem_map.1 hx;exact⟨ze4 _ _,znu w⟩
theorem zg4 {X:List (List Rat)} {B:Nat} (h:∀x,x∈X→∀q,q∈x→ht q≤B) (c r:Int) (hB:1≤B:=by omega):ht (zbp X c r)≤B:=by
 unfold zbp;rw[qB,qB]
 cases e:X[r.toNat]? with
 | none=>simp;rw[zb8];omega
 | some x =>
  rw[Option.getD_some]
  cases e2:x[c.toNat]? with
  | none=>rw[Option.getD_none,zb8];omega
  | some q=>exact h x (qF e) q (qF e2)
theorem zrT {X:List (List Rat)} (h:∀x,x∈X→∀q,q∈x→ht q≤5) (c:Int) (m:List Int) (j:Nat):ht (zdN (zbp X c) m j)≤100:=by
 have h1:=zg4 h c (m.getD j 0);have h2:=zg4 h c (m.getD (j+1) 0);have h3:=zd3 (zbp X c (m.getD j 0)) (zbp X c (m.getD (j+1) 0))
 have h4:ht ((2:Int):Rat)≤10:=by
  have:=zbG 2;have h2:bl (2:Int).natAbs≤5:=za4 (by decide);omega
 have h5:=zfA (zbp X c (m.getD j 0)+zbp X c (m.getD (j+1) 0)) ((2:Int):Rat);rw[show ((2:Int):Rat)=2 from rfl]at h4 h5;unfold zdN;omega
theorem zm2 {X:List (List Rat)} (h:∀x,x∈X→∀q,q∈x→ht q≤60) (c:Int) (m:List Int) (j:Nat):ht (zdN (zbp X c) m j)≤200:=by
 have h1:=zg4 h c (m.getD j 0);have h2:=zg4 h c (m.getD (j+1) 0);have h3:=zd3 (zbp X c (m.getD j 0)) (zbp X c (m.getD (j+1) 0))
 have h4:ht ((2:Int):Rat)≤10:=by
  have:=zbG 2;have h2:bl (2:Int).natAbs≤5:=za4 (by decide);omega
 have h5:=zfA (zbp X c (m.getD j 0)+zbp X c (m.getD (j+1) 0)) ((2:Int):Rat);rw[show ((2:Int):Rat)=2 from rfl]at h4 h5;unfold zdN;omega
theorem zkX (C:Nat):∀l:List Int,(∀z,z∈l→0≤z∧z<(C:Int))→sqL l=((List.range C).map fun (k:Nat)=>l.count (k:Int)*l.count (k:Int)).sum∧l.length=((List.range C).map fun (k:Nat)=>l.count (k:Int)).sum
 | [],_=>by
  constructor
  ·show 0=_
   induction C with
   | zero=>rfl
   | succ n ih=>rw[List.range_succ,List.map_append,List.sum_append,←ih (by simp)];simp
  ·show 0=_
   induction C with
   | zero=>rfl
   | succ n ih=>rw[List.range_succ,List.map_append,List.sum_append,←ih (by simp)];simp
 | x::l,h=>by
  have hx:=h x (List.mem_cons_self ..);obtain⟨j,rfl⟩:=Int.eq_ofNat_of_zero_le hx.1;obtain⟨ih1,ih2⟩:=zkX C l (fun z hz=>h z (List.mem_cons_of_mem _ hz));constructor
  ·have hs:=zhG (fun k=>l.count (k:Int)*l.count (k:Int)) (fun k=>2*l.count (k:Int)+1) j C;rw[if_pos (by omega)]at hs;rw[zhE,ih1,Nat.add_assoc,←hs];congr 1;refine List.map_congr_left fun k _=>?_;rw[List.count_cons];by_cases e:k=j
   ·subst e;rw[if_pos rfl];simp;grind
   ·have e2:¬((j:Int) == (k:Int))=true:=by simp;omega
    rw[if_neg e,if_neg e2];simp
  ·have hs:=zhG (fun k=>l.count (k:Int)) (fun k=>1) j C;rw[if_pos (by omega)]at hs;rw[List.length_cons,ih2,←hs];congr 1;refine List.map_congr_left fun k _=>?_;rw[List.count_cons];by_cases e:k=j
   ·subst e;rw[if_pos rfl];simp
   ·have e2:¬((j:Int) == (k:Int))=true:=by simp;omega
    rw[if_neg e,if_neg e2]
theorem zkv (size:Nat):∀(vs:List Value) (k:Nat) (pre zs:List Value),(∀v,v∈vs→(zah v).length=size)→pre.length=k*size→zs.length=vs.length*size →
  Instr.fill (fun i=>some (i*size,size)) (pre++zs).toArray ((List.range' k vs.length).zip vs)=some (pre++vs.flatMap zah).toArray
 | [],k,pre,zs,_,_,hz=>by
  obtain rfl:zs=[]:=List.eq_nil_of_length_eq_zero (by simpa using hz);rfl
 | v::vs,k,pre,zs,hv,hp,hz=>by
  have hlen:=hv v (List.mem_cons_self ..);rw[List.length_cons,Nat.succ_mul]at hz;rw[List.length_cons,List.range'_succ,List.zip_cons_cons];unfold Instr.fill;simp only[zf8];rw[if_neg (by simp[hlen];omega)];have:=ze1 (zah v) (pre++zs) (k*size) 0 (by rw[List.length_append,hlen];omega);rw[Nat.add_zero]at this
  have e:((zah v).toArray.zipIdx.foldl (fun (cs:Array Value) (x:Value × Nat)=>match x with | (c,j)=>cs.setIfInBounds (k*size+j) c) (pre++zs).toArray)=((zah v).zipIdx.foldl (fun (c:Array Value) (p:Value × Nat)=>c.setIfInBounds (k*size+p.2) p.1) (pre++zs).toArray):=by
   simp
  rw[e,this,List.take_left' hp,hlen,←hp,←List.drop_drop,List.drop_left,List.flatMap_cons,←List.append_assoc];have ih:=zkv size vs (k+1) (pre++zah v) (zs.drop size) (fun u hu=>hv u (List.mem_cons_of_mem _ hu)) (by rw[List.length_append,hp,hlen,Nat.succ_mul]) (by rw[List.length_drop];omega);exact ih
def ixB:List (Nat × Operand)→Nat→Nat→Bool
 | [],_,0=>true
 | p::ps,k,n+1=>match Nat.beq p.1 k with
  | true=>ixB ps (k+1) n
  | false=>false
 | _,_,_=>false
theorem zkB:∀(ps:List (Nat × Operand)) (k n:Nat),ixB ps k n=true→ps.map (·.1)=List.range' k n
 | [],k,0,_=>rfl
 | p::ps,k,n+1,h=>by
  unfold ixB at h;split at h
  ·rename_i e;rw[List.map_cons,List.range'_succ,zkB ps (k+1) n h,Nat.eq_of_beq_eq_true e]
  ·cases h
 | [],k,n+1,h=>by cases h
 | p::ps,k,0,h=>by cases h
section
variable {P:Program} {n:Nat} {ops:Array Oper} {o:Oper} {rest:List Oper} {env:Env} {bx:Bxs} {sb:Bxs} {ow:Ows} {H:Hs} {Q:EQ} {τ:Tab} {d:Nat} {s:SV}
theorem DJ.litD {tail l:List Oper} {x:Nat→Value} {y:Nat→Ows} {ow':Ows} {kl ks:List DK} {i:Nat} {bx':Bxs} {Γ:zek} (hτ:zap P τ) {T:TypeId} {len:Nat} {parts:Array (Nat × Operand)} (ho:o.op=.buildSlice T len parts) (hw:zae ops env o=some true) (hd:o.dst=some d) (hn:Nat.blt d n=true) {te te':TE} {e:TypeId} (ht:τ.get T=some te) (hk:te.kind=.slice e) (ht':τ.get e=some te')
  (hsz:Nat.beq te'.zero.length te'.size=true) (hpos:Nat.ble 1 (len*te'.size)=true) (hsm:Nat.ble (len*te'.size) 10000=true) {vs:List Value} (ha:za2 env (parts.toList.map (·.2)) some=some vs) (hix':ixB parts.toList 0 len=true) (hv:∀G,zcm ops i Γ G→∀v,v∈vs→(zah v).length=te'.size)
  {Φ:Value→Hp→Prop} (hm:∀v G G',Φ v G→G.Le G'→Φ v G') (hΦ:∀G G' v,zcm ops i Γ G→G.Le G'→SlC G' v len te'.size (vs.flatMap zah)→Φ v G')
  (h:DJ P n ops tail sb bx H Q x y kl (i+1) l ks ((d,.v (x i))::env) bx' ((i,Φ (x i))::Γ) ow'):DJ P n ops tail sb bx H Q x y kl i (o::l) (.call Φ::ks) env bx' Γ ow':=by
 have hix:parts.toList.map (·.1)=List.range' 0 len:=zkB _ _ _ hix';have hkd:=(hτ.get ht).kind;rw[hk]at hkd;have hkd':P.underlying T=some (.slice e):=hkd;obtain⟨zv,hinfo,hzc⟩:=(hτ.get ht').info;obtain⟨i0,hi,hz0,hz1,hz2⟩:=info_parts hinfo;have hl:=Nat.eq_of_beq_eq_true hsz;have hp:=Nat.le_of_ble_eq_true hpos;have hm':=Nat.le_of_ble_eq_true hsm;refine DJ.ofCall (fun β a W G hle hf _ hb _ hs hF=>?_) hd hn hm h;rw[if_pos (hs.want hw)];have hvv:=hv G hF;obtain⟨vs',e1,h2⟩:=zem ha;cases e1;have h3:=h2 a.eval fun y u hy he=>hs.op (s:=.v u) (by rw[ho];simpa[Op.operands] using hy) he
 have hvl:vs.length=len:=by
  have e1:=congrArg List.length h3;have e2:=congrArg List.length hix;simp at e1 e2;omega
 have hfl:(vs.flatMap zah).length=len*te'.size:=by rw[zkx zah te'.size vs hvv,hvl]
 have h4:((parts.map fun (i,x)=>(i,a.eval x)):Array (Nat × Value)).toList=(List.range' 0 vs.length).zip vs:=by
  rw[hvl,←hix,←h3,Array.toList_map];generalize parts.toList=l
  induction l with
  | nil=>rfl
  | cons p l ih=>simp only[List.map_cons,List.zip_cons_cons,ih]
 have hfill:=zkv te'.size vs 0 [] ((List.replicate len te'.zero).flatten) hvv (by simp) (by rw[List.length_flatten];simp[hl,hvl]);rw[List.nil_append,List.nil_append,←h4]at hfill
 have hrun:=run_buildSlice (P:=P) W T e len (parts.map fun (i,x)=>(i,a.eval x)) (vs.flatMap zah).toArray i0 zv hkd' hi hz0 (by rw[hz1];omega) (by rw[hz1];omega) (by
  rw[hz1,hzc,zfG te'.zero te'.size len hl,←hfill])
 have hB:Below W.heap.size W (W.alloc (.cells (vs.flatMap zah).toArray e)):=(Below.refl _ _).alloc (qH _) _;obtain⟨k1,k2,k3⟩:=zpC hf hB (Box.new W (vs.flatMap zah).toArray e)
 have hr:(execOp a.eval o).run P W=.ok (.value (.slice (some ⟨W.heap.size,0,none⟩) len len)) (W.alloc (.cells (vs.flatMap zah).toArray e)):=by
  unfold execOp;simp only[ho,Sem.run_bind,hrun,Result.andThen_ok,Sem.run_pure]
 unfold Oper.wp;rw[hr,Oper.upon_value];exact⟨_,_,rfl,hΦ G _ _ hF k1 ⟨hfl,.inr ⟨W.heap.size,0,len,(vs.flatMap zah).toArray,rfl,qH _,by simp[Hp.put],fun j x hj=>by rw[Nat.zero_add];simpa using hj⟩⟩,k1,k2,hB,k3⟩
theorem DJ.litD1 {tail l:List Oper} {x:Nat→Value} {y:Nat→Ows} {ow':Ows} {kl ks:List DK} {i:Nat} {bx':Bxs} {Γ:zek} {Φ:Value→Hp→Prop} (hm:∀v G G',Φ v G→G.Le G'→Φ v G') (hτ:zap P τ) {T:TypeId} {u:Operand} (ho:o.op=.buildSlice T 1 #[(0,u)]) (hw:zae ops env o=some true) (hd:o.dst=some d) (hn:Nat.blt d n=true) {te te':TE} {e:TypeId} (ht:τ.get T=some te) (hk:te.kind=.slice e) (ht':τ.get e=some te')
  (hsz:Nat.beq te'.zero.length te'.size=true) (hpos:Nat.ble 1 (1*te'.size)=true) (hsm:Nat.ble (1*te'.size) 10000=true) {v:Value} (hx:env.op u=some (.v v)) (hv:∀G,zcm ops i Γ G→(zah v).length=te'.size)
  (hΦ:∀G G' w,zcm ops i Γ G→G.Le G'→SlC G' w 1 te'.size ([v].flatMap zah)→Φ w G')
  (h:DJ P n ops tail sb bx H Q x y kl (i+1) l ks ((d,.v (x i))::env) bx' ((i,Φ (x i))::Γ) ow'):DJ P n ops tail sb bx H Q x y kl i (o::l) (.call Φ::ks) env bx' Γ ow' :=
 DJ.litD hτ ho hw hd hn ht hk ht' hsz hpos hsm (vs:=[v]) (by show za2 env [u] some=_;simp[za2,hx]) rfl (fun G hd w hm=>by rw[List.mem_singleton.1 hm];exact hv G hd) hm hΦ h
theorem DJ.litD3 {tail l:List Oper} {x:Nat→Value} {y:Nat→Ows} {ow':Ows} {kl ks:List DK} {i:Nat} {bx':Bxs} {Γ:zek} {Φ:Value→Hp→Prop} (hm:∀v G G',Φ v G→G.Le G'→Φ v G') (hτ:zap P τ) {T:TypeId} {u1 u2 u3:Operand} (ho:o.op=.buildSlice T 3 #[(0,u1),(1,u2),(2,u3)]) (hw:zae ops env o=some true) (hd:o.dst=some d) (hn:Nat.blt d n=true) {te te':TE} {e:TypeId} (ht:τ.get T=some te) (hk:te.kind=.slice e) (ht':τ.get e=some te')
  (hsz:Nat.beq te'.zero.length te'.size=true) (hpos:Nat.ble 1 (3*te'.size)=true) (hsm:Nat.ble (3*te'.size) 10000=true) {v1 v2 v3:Value} (hx1:env.op u1=some (.v v1)) (hx2:env.op u2=some (.v v2)) (hx3:env.op u3=some (.v v3))
  (hv:∀G,zcm ops i Γ G→∀w,w∈[v1,v2,v3]→(zah w).length=te'.size) (hΦ:∀G G' w,zcm ops i Γ G→G.Le G'→SlC G' w 3 te'.size ([v1,v2,v3].flatMap zah)→Φ w G')
  (h:DJ P n ops tail sb bx H Q x y kl (i+1) l ks ((d,.v (x i))::env) bx' ((i,Φ (x i))::Γ) ow'):DJ P n ops tail sb bx H Q x y kl i (o::l) (.call Φ::ks) env bx' Γ ow' :=
 DJ.litD hτ ho hw hd hn ht hk ht' hsz hpos hsm (vs:=[v1,v2,v3]) (by show za2 env [u1,u2,u3] some=_;simp[za2,hx1,hx2,hx3]) rfl hv hm hΦ h
end
theorem RQ.len3 {H:Hp} {x:Value} {q:Rat} (h:RQ H x q):(zah x).length=3:=by
 obtain⟨xa,xl,xc,ya,yl,yc,rfl,hx1,hx2⟩:=h;rfl
theorem RL.one {H:Hp} {v x:Value} {q:Rat} (h:SlC H v 1 3 ([x].flatMap zah)) (hx:RQ H x q):RL H v [q] :=
 ⟨[x],rfl,fun j y r e1 e2=>by
  cases j with
  | zero=>cases e1;cases e2;exact hx
  | succ j=>simp at e1,h⟩
def zox (V:List Rat):Nat→List Rat
 | 0=>[]
 | j+1=>zox V j++if V.getD j 0<V.getD (j+1) 0 then [(V.getD j 0+V.getD (j+1) 0) / 2] else []
theorem zmO (key:Int→Rat) (m:List Int):∀j,j≤m.length-1→zik key m j=zox (m.map key) j
 | 0,_=>rfl
 | j+1,h=>by
  have g:∀i,i<m.length→(m.map key).getD i 0=key (m.getD i 0):=fun i hi=>by simp[qB,hi]
  unfold zik zox zdN;rw[zmO key m j oM,g j oM,g (j+1) (by omega)]
def plQ (X:List (List Rat)) (col:Int) (es:List Int):List Rat:=if es.all (zdk X col)=true then zox (zl3 (es.map (zbp X col))) (es.length-1) else []
theorem zht {X:List (List Rat)} {col:Int} {es m:List Int} (h:zlb X col es m):zik (zbp X col) m (m.length-1)=plQ X col es:=by
 unfold plQ;rcases h with ⟨ha,hp,hr⟩ | ⟨ha,rfl⟩
 ·rw[if_pos ha,zmO _ _ _ (qH _),hp.length_eq,znH (hp.map _) hr]
 ·rw[if_neg (by rw[ha];decide)];rfl
end
section
def zgt (X:List (List Rat)) (cost:List Int→Rat) (es:List Int) (L c:Int) (ts:List Rat):List (Int × Rat × Rat) :=
 ts.flatMap fun t=>if L≤((zaZ X c t es).length:Int)∧L≤((zaC X c t es).length:Int) then [(c,t,cost es-(cost (zaZ X c t es)+cost (zaC X c t es)))] else []
def zbb (X:List (List Rat)) (cost:List Int→Rat) (es:List Int) (L:Int) (cols:List Int):List (Int × Rat × Rat):=cols.flatMap fun c=>zgt X cost es L c (plQ X c es)
theorem zkz {key:Int→Rat} {m:List Int}:∀{n j:Nat},j<n→key (m.getD j 0)<key (m.getD (j+1) 0)→zdN key m j∈zik key m n
 | 0,j,h,_=>by omega
 | n+1,j,h,hlt=>by
  unfold zik;by_cases e:j=n
  ·subst e;rw[if_pos hlt];exact List.mem_append_right _ (List.mem_singleton.2 rfl)
  ·exact List.mem_append_left _ (zkz (show j<n by omega) hlt)
theorem ziV (key:Int→Rat) (es:List Int):∃m,m.Perm es∧zgi key m:=by
 refine⟨es.mergeSort fun a b=>decide (key a≤key b),List.mergeSort_perm _ _,?_⟩;have:=List.pairwise_mergeSort (le:=fun a b:Int=>decide (key a≤key b)) (fun a b c h1 h2=>by simp at h1 h2 ⊢;exact Rat.le_trans h1 h2) (fun a b=>by simp;exact Rat.le_total) es;exact List.pairwise_map.2 (this.imp fun h=>by simpa using h)
theorem zib {wo cost:List Int→Rat} (hp:POk wo cost) {es a b m:List Int} {j:Nat} (hm:m.Perm es) (hl:a.Perm (m.take (j+1))) (hh:b.Perm (m.drop (j+1))):cost es-(cost a+cost b)=zeF wo m j-wo es:=by
 have hab:(a++b).Perm es:=by
  refine(hl.append hh).trans ?_;rw[List.take_append_drop];exact hm
 have h1:=hp.gain hab;have h2:=hp.wperm _ _ hl;have h3:=hp.wperm _ _ hh;have h4:zeF wo m j=wo (m.take (j+1))+wo (m.drop (j+1)):=rfl;rw[h4,←h2,←h3];grind
theorem zoI {X:List (List Rat)} {wo cost:List Int→Rat} {es cols:List Int} {L:Int} (hp:POk wo cost) (p:Int × Rat × Rat):p∈zbb X cost es L cols↔zrQ X wo es cols L p:=by
 obtain⟨c,t,g⟩:=p;unfold zbb zgt;rw[List.mem_flatMap];constructor
 ·rintro⟨c',hc,h⟩;obtain⟨t',ht,h⟩:=List.mem_flatMap.1 h;split at h
  ·rename_i hcond;rw[List.mem_singleton]at h;cases h;by_cases ha:es.all (zdk X c)=true
   ·obtain⟨m,hm,hr⟩:=ziV (zbp X c) es;rw[←zht (.inl ⟨ha,hm,hr⟩:zlb X c es m)]at ht;obtain⟨j,hj,hlt,rfl⟩:=zfy ht;have hj1:j+1<m.length:=by omega
    obtain⟨hl,hh⟩:=ze6 hm hr (List.all_eq_true.1 ha) hj1 hlt;have e1:=hl.length_eq;have e2:=hh.length_eq;rw[List.length_take]at e1;rw[List.length_drop]at e2;exact⟨hc,ha,m,j,hm,hr,hj1,zdV.2 ⟨by omega,by omega,hlt⟩,rfl,zib hp hm hl hh⟩
   ·unfold plQ at ht;rw[if_neg ha]at ht;cases ht
  ·cases h
 ·rintro⟨hc,ha,m,j,hm,hr,hj,hcand,he,hg⟩;dsimp only at hc ha hr hcand he hg;obtain⟨h1,h2,hlt⟩:=zdV.1 hcand;obtain⟨hl,hh⟩:=ze6 hm hr (List.all_eq_true.1 ha) hj hlt;have e1:=hl.length_eq;have e2:=hh.length_eq;rw[List.length_take]at e1;rw[List.length_drop]at e2;refine⟨c,hc,List.mem_flatMap.2 ⟨t,?_,?_⟩⟩
  ·rw[←zht (.inl ⟨ha,hm,hr⟩:zlb X c es m),he];exact zkz oM hlt
  ·rw[he,if_pos ⟨by omega,by omega⟩,zib hp hm hl hh,hg];exact List.mem_singleton.2 rfl
theorem zdb (l:List (Int × Rat × Rat)):zfd l (l.foldl zoY none):=by
 have key:∀(qs pre:List (Int × Rat × Rat)) (st:Option (Int × Rat × Rat)),zfd pre st→zfd (pre++qs) (qs.foldl zoY st):=by
  intro qs
  induction qs with
  | nil=>intro pre st h;rw[qG];exact h
  | cons p qs ih =>
   intro pre st h;rw[show pre++p::qs=(pre++[p])++qs by simp];exact ih _ _ (zly h p)
 have:=key l [] none rfl;simpa using this
theorem zjo {X:List (List Rat)} {wo cost:List Int→Rat} {es cols:List Int} {L:Int} {ps:List (Int × Option (Rat × Rat))} (hp:POk wo cost) (hcol:zq7 cols (ps.map (·.1))) (hps:∀p,p∈ps→zps X wo es L p.1 p.2) :
  ((zbD ps).map fun t=>(t.1,t.2.1,t.2.2-wo es))=(zbb X cost es L cols).foldl zoY none :=
 zlx (zjn hp hcol hps) (zdb _).p fun p=>(zoI hp p).symm
end
section
structure Nd where
 col:Int
 left:Int
 right:Int
 rows:Int
 cls:Int
 at':Rat
 cost:Rat
 value:Rat
 counts:List Int
structure GP where
 X:List (List Rat)
 cost:List Int→Rat
 mean:List Int→Rat
 cnt:List Int→List Int
 least:Int
 gain:Rat
 cols:Int→List Int × Int
def GP.nd (p:GP) (rows:List Int):Nd:=⟨-1,0,0,(rows.length:Int),(topN (p.cnt rows) (p.cnt rows).length:Int),0,p.cost rows,p.mean rows,p.cnt rows⟩
def GP.best (p:GP) (rows cols:List Int):Option (Int × Rat × Rat):=(zbb p.X p.cost rows (max 1 p.least) cols).foldl zoY none
def GP.cut (p:GP) (rows cols:List Int):Option (Int × Rat):=match p.best rows cols with
 | some (c,t,g)=>if g≤p.gain then none else some (c,t)
 | none=>none
def GP.grow (p:GP):Nat→Nat→List Int→Int→List Nd × Int
 | 0,_,rows,s=>([p.nd rows],s)
 | d+1,k,rows,s=>match p.cut rows (p.cols s).1 with
  | none=>([p.nd rows],(p.cols s).2)
  | some (c,t) =>
   let L:=p.grow d (k+1) (zaZ p.X c t rows) (p.cols s).2
   let R:=p.grow d (k+1+L.1.length) (zaC p.X c t rows) L.2
   ({p.nd rows with col:=c,left:=((k+1:Nat):Int),right:=((k+1+L.1.length:Nat):Int),at':=t}::(L.1++R.1),R.2)
theorem GP.grow_zero (p:GP) (k:Nat) (rows:List Int) (s:Int):p.grow 0 k rows s=([p.nd rows],s):=rfl
theorem GP.grow_none {p:GP} {d k:Nat} {rows:List Int} {s:Int} (h:p.cut rows (p.cols s).1=none):p.grow (d+1) k rows s=([p.nd rows],(p.cols s).2):=by
 rw[GP.grow,h]
theorem GP.grow_some {p:GP} {d k:Nat} {rows:List Int} {s:Int} {c:Int} {t:Rat} (h:p.cut rows (p.cols s).1=some (c,t)):p.grow (d+1) k rows s =
  ({p.nd rows with col:=c,left:=((k+1:Nat):Int),right:=((k+1+(p.grow d (k+1) (zaZ p.X c t rows) (p.cols s).2).1.length:Nat):Int),at':=t}::((p.grow d (k+1) (zaZ p.X c t rows) (p.cols s).2).1++(p.grow d (k+1+(p.grow d (k+1) (zaZ p.X c t rows) (p.cols s).2).1.length) (zaC p.X c t rows) (p.grow d (k+1) (zaZ p.X c t rows) (p.cols s).2).2).1),(p.grow d (k+1+(p.grow d (k+1) (zaZ p.X c t rows) (p.cols s).2).1.length) (zaC p.X c t rows) (p.grow d (k+1) (zaZ p.X c t rows) (p.cols s).2).2).2):=by
 rw[GP.grow,h]
theorem GP.grow_len (p:GP):∀(d k:Nat) (rows:List Int) (s:Int),1≤(p.grow d k rows s).1.length∧(p.grow d k rows s).1.length<2 ^ (d+1)
 | 0,k,rows,s=>by rw[GP.grow_zero];simp
 | d+1,k,rows,s=>by
  have hp:1<2 ^ (d+2):=Nat.one_lt_two_pow oM
  cases h:p.cut rows (p.cols s).1 with
  | none=>rw[GP.grow_none h];exact⟨qH _,hp⟩
  | some ct =>
   obtain⟨c,t⟩:=ct;rw[GP.grow_some h];have h1:=p.grow_len d (k+1) (zaZ p.X c t rows) (p.cols s).2;have h2:=p.grow_len d (k+1+(p.grow d (k+1) (zaZ p.X c t rows) (p.cols s).2).1.length) (zaC p.X c t rows) (p.grow d (k+1) (zaZ p.X c t rows) (p.cols s).2).2;simp only[List.length_cons,List.length_append];have h3:2 ^ (d+1+1)=2 ^ (d+1)+2 ^ (d+1):=by rw[Nat.pow_succ];omega
   omega
end
section
open Go.RowKit _root_.Go.Proofs.Tryz
section
variable {P:Program} {n:Nat} {ops:Array Oper} {tail:List Oper} {sb bx:Bxs} {H:Hs} {Q:EQ} {x:Nat→Value} {y:Nat→Ows} {ow':Ows} {kl:List DK} {i:Nat} {o:Oper} {l:List Oper} {ks:List DK} {env:Env} {bx':Bxs} {Γ:zek} {τ:Tab} {d:Nat}
theorem DJ.plainE (hτ:zap P τ) (Φ:Value→Hp→Prop) (hm:∀v G G',Φ v G→G.Le G'→Φ v G') (hw:zae ops env o=some true) (hd:o.dst=some d) (hn:Nat.blt d n=true) (hv:∀G,zcm ops i Γ G→∃v,zoX τ env bx o.op=some (.v v)∧Φ v G)
  (h:DJ P n ops tail sb bx H Q x y kl (i+1) l ks ((d,.v (x i))::env) bx' ((i,Φ (x i))::Γ) ow'):DJ P n ops tail sb bx H Q x y kl i (o::l) (.call Φ::ks) env bx' Γ ow' :=
 DJ.ofCall (fun β a W G _ hf _ hb _ hs hF=>by
  obtain⟨v,hv,hΦ⟩:=hv G hF;obtain⟨u,hu,hr⟩:=zcf hτ hv (fun y s hm hy=>hs.op hm hy) hb hf;rw[if_pos (hs.want hw)];unfold Oper.wp;rw[hu,Oper.upon_value];have e:u=v:=hr;subst e;exact⟨u,G,rfl,hΦ,Hp.Le.refl G,hf,Below.refl _ _,Nw.refl _ _ _⟩) hd hn hm h
end
section
variable {n:Nat} {ops:Array Oper} {fuel:Nat} {L:Array Bool} {env:Env} {bx:Bxs} {H:Hs} {K:Env→Bxs→Hs→Prop} {d:Nat} {o:Oper} {v:Value}
end
section
variable {P:Program} {n:Nat} {ops:Array Oper} {o:Oper} {rest:List Oper} {env:Env} {bx:Bxs} {H:Hs} {Q:EQ} {d:Nat}
end
theorem zo1 {A c B:List Value} {k s f:Nat} (hA:A.length=k*s) (hf:f≤c.length):(A++(c++B)).take (k*s+f)=A++c.take f:=by
 rw[List.take_append,List.take_of_length_le oM,hA,Nat.add_sub_cancel_left,List.take_append_of_le_length hf]
theorem zo0 {A c B:List Value} {k s f:Nat} (hA:A.length=k*s) (hf:f≤c.length):(A++(c++B)).drop (k*s+f)=c.drop f++B:=by
 rw[List.drop_append,List.drop_eq_nil_of_le oM,hA,Nat.add_sub_cancel_left,List.drop_append_of_le_length hf,List.nil_append]
theorem zhx {A c B vs c':List Value} {k s f m q:Nat} (hA:A.length=k*s) (hq:q=k*s+f) (hm:vs.length=m) (hf:f+m≤c.length) (hc:c.take f++vs++c.drop (f+m)=c'):(A++(c++B)).take q++vs++(A++(c++B)).drop (q+m)=A++(c'++B):=by
 subst hq;rw[zo1 hA oM,Nat.add_assoc,zo0 hA hf,←hc];simp only[List.append_assoc]
theorem zpJ {X:List (List Rat)} (h:∀x,x∈X→∀q,q∈x→ht q≤60) {c:Int} {es:List Int} {t:Rat} (ht':t∈plQ X c es):ht t≤200:=by
 by_cases ha:es.all (zdk X c)=true
 ·obtain⟨m,hm,hr⟩:=ziV (zbp X c) es;rw[←zht (.inl ⟨ha,hm,hr⟩:zlb X c es m)]at ht';obtain⟨j,_,_,rfl⟩:=zfy ht';exact zm2 h c m j
 ·unfold plQ at ht';rw[if_neg ha]at ht';cases ht'
theorem zoO (a b:Rat):zcA a b>0↔b<a:=by
 unfold zcA;split
 ·rename_i h;exact⟨fun k=>absurd k (by decide),fun k=>by exfalso;grind⟩
 ·split
  ·rename_i h;exact⟨fun _=>h,fun _=>by decide⟩
  ·rename_i h;exact⟨fun k=>absurd k (by decide),fun k=>absurd k h⟩
theorem zoP (a b:Rat):zcA a b<0↔a<b:=by
 unfold zcA;split
 ·rename_i h;exact⟨fun _=>h,fun _=>by decide⟩
 ·rename_i h;split
  ·exact⟨fun k=>absurd k (by decide),fun k=>absurd k h⟩
  ·exact⟨fun k=>absurd k (by decide),fun k=>absurd k h⟩
theorem zlp {X:List (List Rat)} {cost:List Int→Rat} {es:List Int} {n:Nat} {L c:Int} {ts:List Rat} (hs:∀l:List Int,l.length≤300→(∀r,r∈l→0≤r∧r<(n:Int))→ht (cost l)≤2000000) (he:es.length≤300) (hb:∀r,r∈es→0≤r∧r<(n:Int)) (hts:∀t,t∈ts→ht t≤200) {p:Int × Rat × Rat} (h:p∈zgt X cost es L c ts):ht p.2.1≤200∧ht p.2.2≤8000000:=by
 unfold zgt at h;obtain⟨t,ht',hp⟩:=List.mem_flatMap.1 h;split at hp
 ·obtain rfl:=List.mem_singleton.1 hp;have h1:=hs _ (qI (List.length_filter_le _ _) he:(zaZ X c t es).length≤300) (fun r hr=>hb r (List.mem_filter.mp hr).1);have h2:=hs _ (qI (List.length_filter_le _ _) he:(zaC X c t es).length≤300) (fun r hr=>hb r (List.mem_filter.mp hr).1);have h3:=hs es he hb;have h4:=zd3 (cost (zaZ X c t es)) (cost (zaC X c t es));have h5:=zgy (cost es) (cost (zaZ X c t es)+cost (zaC X c t es));exact⟨hts t ht',by dsimp only;omega⟩
 ·cases hp
theorem zmn {X:List (List Rat)} {cost:List Int→Rat} {es:List Int} {n:Nat} {L:Int} {cols:List Int} (hs:∀l:List Int,l.length≤300→(∀r,r∈l→0≤r∧r<(n:Int))→ht (cost l)≤2000000) (he:es.length≤300) (hb:∀r,r∈es→0≤r∧r<(n:Int)) (hq:∀x,x∈X→∀q,q∈x→ht q≤60) {p:Int × Rat × Rat} (h:p∈zbb X cost es L cols):ht p.2.1≤200∧ht p.2.2≤8000000:=by
 unfold zbb at h;obtain⟨c,_,hp⟩:=List.mem_flatMap.1 h;exact zlp hs he hb (fun t ht'=>zpJ hq ht') hp
section
variable {P:Program} {ops:Array Oper} {md:Region.Mode} {Q:Exit→Act→World→Prop} {I:World→Prop} {z:Option Nat}
def zmf (md:Region.Mode) (ops:Array Oper) (L:Array Bool) (i:Nat):Bool:=(List.range ops.size).all fun k => !L.getD k false || match ops[k]? with
 | some o => !o.after.any fun e=>Region.binds md e && e.on == i
 | none=>true
theorem zhO {L:Array Bool} {i:Nat}:zmf md ops L i=true↔∀k o,ops[k]?=some o→L.getD k false=true→∀e∈o.after,Region.binds md e=true→e.on≠i:=by
 unfold zmf;rw[List.all_eq_true];constructor
 ·intro h k o ho hk e he hb heq;have h1:=h k (List.mem_range.2 (Array.getElem?_eq_some_iff.1 ho).1);rw[hk,ho]at h1;simp only[Bool.not_true,Bool.false_or,Bool.not_eq_true',Array.any_eq_false']at h1;have:=h1 e he;simp[hb,heq]at this
 ·intro h k hk
  cases hL:L.getD k false with
  | false=>rfl
  | true =>
   obtain⟨o,ho⟩:∃o,ops[k]?=some o:=⟨_,Array.getElem?_eq_getElem (List.mem_range.1 hk)⟩;rw[ho];simp only[Bool.not_true,Bool.false_or,Bool.not_eq_true',Array.any_eq_false'];intro e he
   cases hb:Region.binds md e with
   | false=>simp
   | true=>have:=h k o ho hL e he hb;simpa using this
def zdz (z:Option Nat) (L:Array Bool):Bool:=match z with
 | none=>true
 | some k => !L.getD k false
def zq6 (md:Region.Mode) (ops:Array Oper) (z:Option Nat) (i:Nat):Bool:=match z with
 | none=>true
 | some k => !(k == i) && match ops[k]? with
  | some o=>o.after.any fun e=>Region.binds md e && e.on == i
  | none=>false
def zc9 (P:Program) (md:Region.Mode) (ops:Array Oper) (Q:Exit→Act→World→Prop) (I:World→Prop) (z:Option Nat):Nat→Array Bool→Act→World→Prop
 | 0,L,a,w=>(zdz z L=true→I w)∧Region.ready md ops L=[]∧Q .normal a w
 | f+1,L,a,w=>(zdz z L=true→I w)∧(Region.ready md ops L=[]→Q .normal a w)∧∀i,i∈Region.ready md ops L→wpOp P ops Q i (zc9 P md ops Q I z f (L.setIfInBounds i true)) a w
theorem zc9.now:∀{f:Nat} {L:Array Bool} {a:Act} {w:World},zc9 P md ops Q I z f L a w→zdz z L=true→I w
 | 0,_,_,_,h=>h.1
 | _+1,_,_,_,h=>h.1
theorem zc9.any:∀(f:Nat) (L:Array Bool) (a:Act) (w:World),zc9 P md ops Q I z f L a w→wpAny P md ops Q f L a w
 | 0,_,_,_,h=>h.2
 | f+1,_,_,_,h=>⟨h.2.1,fun i hi=>wpOp_mono (fun a w k=>zc9.any f _ a w k) (h.2.2 i hi)⟩
def zgZ (P:Program) (ops:Array Oper) (I:World→Prop) (o:Oper) (v:Value) (a:Act):Prop :=
 Region.wanted o (yielded ops a.tmps)=true∧∀w,I w→(execOp a.eval o).run P w=.ok (.value v) w
theorem zgZ.op {i:Nat} {o:Oper} {v:Value} {a:Act} (hi:ops[i]?=some o) (hy:zgZ P ops I o v a) {K:Act→World→Prop} {w:World} (hw:I w) (h:K (a.put o.dst v) w):wpOp P ops Q i K a w:=by
 unfold wpOp;simp only[hi,hy.1,if_true,Oper.wp,hy.2 w hw,Oper.upon];exact .inl h
theorem zn5 {j:Nat} {oj:Oper} (hj:ops[j]?=some oj) {Y:Act→Prop} (k1:∀a u,Y a→Y (a.put oj.dst u)) (k2:∀(a:Act) d,Y a→Y { a with defers:=d::a.defers }) {K:Act→World→Prop} {a:Act} {w:World} (hy:Y a) (h:wpOp P ops Q j K a w):wpOp P ops Q j (fun a' w'=>Y a'∧K a' w') a w:=by
 unfold wpOp at *
 simp only[hj]at *
 split
 ·rename_i hw;rw[if_pos hw]at h;refine h.imp (fun h=>?_) id;unfold Oper.wp at *
  generalize (execOp a.eval oj).run P w=r at *
  cases r with
  | ok n w' =>
   cases n <;> simp only[Oper.upon]at h ⊢
   case value u=>exact⟨k1 _ _ hy,h⟩
   case skip=>exact⟨k1 _ _ hy,h⟩
   case defer d=>exact⟨k1 _ _ (k2 _ _ hy),h⟩
   case enter f args =>
    refine Calls.mono h fun e w'' he=>?_
    cases e with
    | returned u=>exact⟨k1 _ _ hy,he⟩
    | _=>exact he
   case row row args=>exact Rows.mono h fun u w'' he=>⟨k1 _ _ hy,he⟩
  | halt x w'=>cases x <;> simp only[Oper.upon]at h ⊢ <;> exact h
 ·rename_i hw;rw[if_neg hw]at h;exact⟨k1 _ _ hy,h⟩
theorem zlw {oi oj:Oper} {v:Value} (h:oi.apart ops oj=true):Oper.apart ops { oi with op:=.move (.const v),guard:=none } oj=true:=by
 unfold Oper.apart at *
 rw[Bool.and_eq_true]at *
 refine⟨h.1,?_⟩
 cases oj.dst with
 | none=>rfl
 | some d=>rfl
theorem zj6 {J:World→Prop} {i:Nat} {oi:Oper} {v:Value} (hi:ops[i]?=some oi) (hsel:Region.noSelect ops=true) (hQ:∀c a w,Q (.panic c) (a.put oi.dst v) w→Q (.panic c) a w) (hts:(zq6 md ops z i=true∧∀w,I w→J w)∨((∀w,J w)∧z≠some i)) :
  ∀(f:Nat) (L:Array Bool) (a:Act) (w:World),(∀j oj,ops[j]?=some oj→j≠i→L.getD j true=false→(∀e∈oj.after,Region.binds md e=true→e.on≠i)→oi.apart ops oj=true)→zmf md ops L i=true →
   i∈Region.ready md ops L→zgZ P ops J oi v a→zc9 P md ops Q I z f (L.setIfInBounds i true) (a.put oi.dst v) w→zc9 P md ops Q I z (f+1) L a w:=by
 have now:∀{f:Nat} {L:Array Bool} {a:Act} {w:World},zmf md ops L i=true→zc9 P md ops Q I z f (L.setIfInBounds i true) (a.put oi.dst v) w→(zdz z L=true→I w)∧J w:=fun {f L a w} hy H=>by
  rcases hts with ⟨hz,hJ⟩ | ⟨hJ,hz⟩
  ·have hI:I w:=H.now (by
    cases z with
    | none=>rfl
    | some k =>
     simp only[zq6,Bool.and_eq_true,Bool.not_eq_true',beq_eq_false_iff_ne]at hz;obtain⟨hki,hk⟩:=hz;show (!(L.setIfInBounds i true).getD k false)=true;rw[Go.getD_set_ne false (Ne.symm hki)]
     cases hL:L.getD k false with
     | false=>rfl
     | true =>
      cases ho:ops[k]? with
      | none=>rw[ho]at hk;cases hk
      | some o =>
       rw[ho]at hk;obtain⟨e,he,hb⟩:=Array.any_eq_true'.1 hk;simp only[Bool.and_eq_true,beq_iff_eq]at hb;exact absurd hb.2 (zhO.1 hy k o ho hL e he hb.1))
   exact⟨fun _=>hI,hJ _ hI⟩
  ·refine⟨fun h=>H.now ?_,hJ w⟩
   cases z with
   | none=>rfl
   | some k =>
    have hki:i≠k:=fun e=>hz (by rw[e]);show (!(L.setIfInBounds i true).getD k false)=true;rw[Go.getD_set_ne false hki];exact h
 intro f
 induction f with
 | zero =>
  intro L a w _ hy hr hY H;refine⟨(now hy H).1,fun h=>(by rw[h]at hr;cases hr),fun j hj=>?_⟩;by_cases hji:j=i
  ·subst hji;exact hY.op hi (now hy H).2 H
  ·have:=ready_mono hj hji;rw[H.2.1]at this;cases this
 | succ f ih =>
  intro L a w hfree hyt hr hy H;refine⟨(now hyt H).1,fun h=>(by rw[h]at hr;cases hr),fun j hj=>?_⟩;by_cases hji:j=i
  ·subst hji;exact hy.op hi (now hyt H).2 H
  ·have h1:=H.2.2 j (ready_mono hj hji);obtain⟨hjun,oj,hoj,hall⟩:=mem_ready.1 hj
   have hnot:∀e∈oj.after,Region.binds md e=true→e.on≠i:=fun e he hb heq=>by
    have h1:=hall e he hb;have h0:=(mem_ready.1 hr).1;rw[heq]at h1;rcases Nat.lt_or_ge i L.size with h' | h'
    ·simp[h']at h0 h1;rw[h0]at h1;cases h1
    ·simp[Array.getElem?_eq_none h']at h1
   have hap:=hfree j oj hoj hji hjun hnot;obtain⟨_,_,hap3⟩:=Oper.apart_spec hap;have hsi:=fun cs b=>Region.noSelect_spec hsel i oi cs b hi
   have h2:=wpOp_put (oi:={ oi with op:=.move (.const v),guard:=none }) hoj (zlw hap) (fun cs b e=>by cases e) (fun cs b=>Region.noSelect_spec hsel j oj cs b hoj) hQ
    (.inl ⟨rfl,fun w=>rfl⟩) h1
   have h3:=zn5 (Y:=zgZ P ops J oi v) hoj (fun a u hy=>⟨by rw[wanted_put oi a oj.dst u hap3];exact hy.1,fun w hw=>by rw[execOp_put oi hsi a oj.dst u hap3];exact hy.2 w hw⟩) (fun a d hy=>hy) hy h2
   have hfree':∀k ok,ops[k]?=some ok→k≠i→(L.setIfInBounds j true).getD k true=false→(∀e∈ok.after,Region.binds md e=true→e.on≠i)→oi.apart ops ok=true:=fun k ok hk hki hun hno=>by
    refine hfree k ok hk hki ?_ hno;by_cases hjk:j=k
    ·subst hjk;exact hjun
    ·rw[Go.getD_set_ne true hjk]at hun;exact hun
   have hyt':zmf md ops (L.setIfInBounds j true) i=true:=zhO.2 fun k o ho hk=>by
    by_cases hjk:j=k
    ·subst hjk;cases hoj.symm.trans ho;exact hnot
    ·rw[Go.getD_set_ne false hjk]at hk;exact zhO.1 hyt k o ho hk
   refine wpOp_mono (fun a' w' h4=>ih (L.setIfInBounds j true) a' w' hfree' hyt' (ready_mono hr (Ne.symm hji)) h4.1 ?_) h3;rw[Array.setIfInBounds_comm _ _ hji];exact h4.2.2
end
def EVG (I:World→Prop) (z:Option Nat) (P:Program) (n:Nat) (ops:Array Oper) (fuel:Nat) (L:Array Bool) (env:Env) (bx:Bxs) (H:Hs) (K:Env→Bxs→Hs→Prop):Prop :=
 ∀W0 β a W,Rel n W0 H.base β env bx H a W→zc9 P .any ops (fun e a W=>e=.normal∧zis n W0 H.base (fun _ env bx H=>K env bx H) .normal a W) I z fuel L a W
abbrev EVI (z:Option Nat) (p:Nat × TypeId × List Value) (P:Program) (n:Nat) (ops:Array Oper) (fuel:Nat) (L:Array Bool) (env:Env) (bx:Bxs) (H:Hs) (K:Env→Bxs→Hs→Prop):Prop :=
 EVG (fun W=>Box W p.1 p.2.2.toArray p.2.1) z P n ops fuel L env bx H K
section
variable {I:World→Prop} {z:Option Nat} {p:Nat × TypeId × List Value} {n:Nat} {ops:Array Oper} {fuel:Nat} {L:Array Bool} {env:Env} {bx:Bxs} {H:Hs} {K:Env→Bxs→Hs→Prop} {d:Nat} {o:Oper} {v:Value}
theorem EVG.start (I:World→Prop) (z:Option Nat) {id:Nat} {l:List Oper} {Q:EQ} (h:EVG I z prog n l.toArray l.length (Array.replicate l.length false) env bx H (fun env bx H=>Q .normal env bx H)) (hm:Tryz.prog.follows .mixedOrders=true:=by kernel_rfl):EV prog n (.region id l.toArray true) env bx H Q :=
 EVA.start hm fun W0 β a W r=>(h W0 β a W r).any _ _ _ _
theorem EVI.start (z:Option Nat) (p:Nat × TypeId × List Value) {id:Nat} {l:List Oper} {Q:EQ} (h:EVI z p prog n l.toArray l.length (Array.replicate l.length false) env bx H (fun env bx H=>Q .normal env bx H)) (hm:Tryz.prog.follows .mixedOrders=true:=by kernel_rfl):EV prog n (.region id l.toArray true) env bx H Q:=EVG.start _ z h hm
theorem EVG.take {J:World→Prop} (i:Nat) (hts:(zq6 .any ops z i=true∧∀w,I w→J w)∨((∀w,J w)∧z≠some i)) (hi:ops[i]?=some o) (hs:Region.noSelect ops=true) (hf:Region.free .any ops L i=true) (hr:(Region.ready .any ops L).contains i=true) (hy:zmf .any ops L i=true) (hw:zae ops env o=some true) (hd:o.dst=some d) (hn:Nat.blt d n=true)
  (hx:∀(β:Nat→Nat) (a:Act) (W:World),(∀y s,env.op y=some s→s.rep β H.ro (a.eval y))→J W→(execOp a.eval o).run prog W=.ok (.value v) W)
  (h:EVG I z prog n ops fuel (L.setIfInBounds i true) ((d,.v v)::env) bx H K):EVG I z prog n ops (fuel+1) L env bx H K:=fun W0 β a W r=>by
 refine zj6 (v:=v) hi hs (fun c a w e=>by cases e.1) hts fuel L a W (Region.free_spec hi hf) hy (by simpa using hr) ⟨r.want hw,fun w hI=>hx β a w (fun y s hy=>r.op hy) hI⟩ ?_;rw[hd];exact h W0 β _ W (r.put hn rfl rfl)
theorem IV (i:Nat) (h:EVG I z prog n ops fuel (L.setIfInBounds i true) ((d,.v v)::env) bx H K) (hi:ops[i]?=some o:=by exact rfl) (hs:Region.noSelect ops=true:=by kernel_rfl) (hf:Region.free .any ops L i=true:=by kernel_rfl) (hr:(Region.ready .any ops L).contains i=true:=by kernel_rfl) (hy:zmf .any ops L i=true:=by kernel_rfl) (hts:(z == some i)=false:=by kernel_rfl) (hw:zae ops env o=some true:=by exact rfl) (hd:o.dst=some d:=by exact rfl) (hn:Nat.blt d n=true:=by exact rfl)
  (hv:zoX Tryz.tab env [] o.op=some (.v v):=by exact rfl) (hpl:ziG env o.op.operands.toList=true:=by exact rfl):EVG I z prog n ops (fuel+1) L env bx H K :=
 EVG.take (J:=fun _=>True) i (.inr ⟨fun _=>trivial,fun e=>by rw[e]at hts;simp at hts⟩) hi hs hf hr hy hw hd hn (fun β a W he _=>by
  obtain⟨x,hx,hr⟩:=zcf (β:=β) (H:=fun _=>none) (W:=W) (a:=a) tO hv (fun y s hm hy=>ziH (zew hpl y (by simpa using hm)) hy (he y s hy)) (fun i T cs e=>by cases e) (fun b c e=>by cases e);have e:x=v:=hr;rw[←e];exact hx) h
theorem IN (i:Nat) {x:Operand} {c:Addr} (h:EVG I z prog n ops fuel (L.setIfInBounds i true) ((d,.v (.pointer (some c)))::env) bx H K) (hi:ops[i]?=some o:=by exact rfl) (hs:Region.noSelect ops=true:=by kernel_rfl) (hf:Region.free .any ops L i=true:=by kernel_rfl) (hr:(Region.ready .any ops L).contains i=true:=by kernel_rfl) (hy:zmf .any ops L i=true:=by kernel_rfl) (hts:(z == some i)=false:=by kernel_rfl) (hw:zae ops env o=some true:=by exact rfl) (hd:o.dst=some d:=by exact rfl) (hn:Nat.blt d n=true:=by exact rfl)
  (ho:o.op=.nilCheck x:=by exact rfl) (hx:env.op x=some (.v (.pointer (some c))):=by exact rfl):EVG I z prog n ops (fuel+1) L env bx H K :=
 EVG.take (J:=fun _=>True) i (.inr ⟨fun _=>trivial,fun e=>by rw[e]at hts;simp at hts⟩) hi hs hf hr hy hw hd hn (fun β a W he _=>zhA ho hx _ W fun y x _ hy=>he y _ hy) h
theorem IF (i:Nat) {x:Operand} {T:TypeId} {te:TE} {f b q fo sz:Nat} {ag:Bool} (h:EVG I z prog n ops fuel (L.setIfInBounds i true) ((d,.v (.pointer (some ⟨b,q+fo,none⟩)))::env) bx H K) (hi:ops[i]?=some o:=by exact rfl) (hs:Region.noSelect ops=true:=by kernel_rfl) (hf:Region.free .any ops L i=true:=by kernel_rfl) (hr:(Region.ready .any ops L).contains i=true:=by kernel_rfl) (hy:zmf .any ops L i=true:=by kernel_rfl) (hts:(z == some i)=false:=by kernel_rfl) (hw:zae ops env o=some true:=by exact rfl) (hd:o.dst=some d:=by exact rfl) (hn:Nat.blt d n=true:=by exact rfl)
  (ho:o.op=.fieldAddr T x f:=by exact rfl) (hx:env.op x=some (.v (.pointer (some ⟨b,q,none⟩))):=by exact rfl) (ht:Tryz.tab.get T=some te:=by exact rfl) (hfd:te.fields[f]?=some (fo,ag,sz):=by exact rfl):EVG I z prog n ops (fuel+1) L env bx H K :=
 EVG.take (J:=fun _=>True) i (.inr ⟨fun _=>trivial,fun e=>by rw[e]at hts;simp at hts⟩) hi hs hf hr hy hw hd hn (fun β a W he _=>zhy tO ho ht hfd hx _ W fun y x _ hy=>he y _ hy) h
theorem IL0 (i:Nat) {x:Operand} {T:TypeId} {te:TE} {q:Nat} {l:List Value} (h:EVI z p prog n ops fuel (L.setIfInBounds i true) ((d,.v v)::env) bx H K) (hi:ops[i]?=some o:=by exact rfl) (hs:Region.noSelect ops=true:=by kernel_rfl) (hf:Region.free .any ops L i=true:=by kernel_rfl) (hr:(Region.ready .any ops L).contains i=true:=by kernel_rfl) (hy:zmf .any ops L i=true:=by kernel_rfl) (hts:zq6 .any ops z i=true:=by kernel_rfl) (hw:zae ops env o=some true:=by exact rfl) (hd:o.dst=some d:=by exact rfl) (hn:Nat.blt d n=true:=by exact rfl)
  (ho:o.op=.load T x:=by exact rfl) (hx:env.op x=some (.v (.pointer (some ⟨p.1,q,none⟩))):=by exact rfl) (ht:Tryz.tab.get T=some te:=by exact rfl) (hl:(p.2.2.drop q).take te.size=l:=by exact rfl) (hlen:l.length=te.size:=by exact rfl) (hv:zen te.agg l=some v:=by exact rfl):EVI z p prog n ops (fuel+1) L env bx H K :=
 EVG.take (J:=fun w=>Box w p.1 p.2.2.toArray p.2.1) i (.inl ⟨hts,fun _ h=>h⟩) hi hs hf hr hy hw hd hn (fun β a W he hB=>by
  have ex:a.eval x=.pointer (some ⟨p.1,q,none⟩):=he x _ hx;have hrg:=hB.range q te.size;rw[hl]at hrg;have hrun:=zaQ (tO.get ht) hrg hlen hv;unfold execOp;simp only[ho,ex,Sem.run_bind,hrun,Result.andThen_ok,Sem.run_pure]) h
theorem EVG.step (hI:zdz z L=true→∀W0 β a W,Rel n W0 H.base β env bx H a W→I W) (hne:(Region.ready .any ops L).isEmpty=false) (hk:∀q,q∈Region.ready .any ops L→∃o,ops[q]?=some o∧EVL prog n ops [o] env bx H (fun e env bx H'=>e=.normal∧EVG I z prog n ops fuel (L.setIfInBounds q true) env bx H' K)):EVG I z prog n ops (fuel+1) L env bx H K:=fun W0 β a W r=>by
 refine⟨fun hn=>hI hn W0 β a W r,fun e=>(by rw[e]at hne;cases hne),fun q hq=>?_⟩;obtain⟨o,ho,h⟩:=hk q hq;have h1:=h W0 β a W r
 have hkk:∀a W,zis n W0 H.base (fun e env bx H'=>e=.normal∧EVG I z prog n ops fuel (L.setIfInBounds q true) env bx H' K) .normal a W→zc9 prog .any ops (fun e a W=>e=.normal∧zis n W0 H.base (fun _ env bx H=>K env bx H) .normal a W) I z fuel (L.setIfInBounds q true) a W:=by
  rintro a W ⟨β',env',bx',H',hbase,⟨_,hE⟩,rel⟩;have:=hE W0 β' a W (by rw[hbase];exact rel)
  rwa [hbase]at this
 unfold wpOp;simp only[ho];unfold wpList at h1;split
 ·rename_i hw;rw[if_pos hw]at h1;rcases h1 with h1 | ⟨h1,h2⟩
  ·refine .inl (Oper.wp_exits (fun c a W hq=>?_) (fun hq=>?_) (Oper.wp_mono (fun a W h=>hkk a W h) h1))
   ·obtain⟨_,_,_,_,_,⟨e,_⟩,_⟩:=hq;cases e
   ·obtain⟨a0,w0,_,_,_,_,_,⟨e,_⟩,_⟩:=hq;cases e
  ·obtain⟨a0,w0,_,_,_,_,_,⟨e,_⟩,_⟩:=h2;cases e
 ·rename_i hw;rw[if_neg hw]at h1;exact hkk _ _ h1
theorem EVG.nil (hI:zdz z L=true→∀W0 β a W,Rel n W0 H.base β env bx H a W→I W) (hr:(Region.ready .any ops L).isEmpty=true) (h:K env bx H):EVG I z prog n ops fuel L env bx H K:=fun W0 β a W r=>by
 have hr':=List.isEmpty_iff.1 hr;have hI:=fun hn=>hI hn W0 β a W r
 cases fuel with
 | zero=>exact⟨hI,hr',rfl,β,env,bx,H,rfl,h,r⟩
 | succ f=>exact⟨hI,fun _=>⟨rfl,β,env,bx,H,rfl,h,r⟩,fun i hi=>by rw[hr']at hi;cases hi⟩
theorem EVG.one (k:Nat) (hI:zdz z L=true→∀W0 β a W,Rel n W0 H.base β env bx H a W→I W) (hr:(Region.ready .any ops L == [k])=true) (ho:ops[k]?=some o) (h:EVL prog n ops [o] env bx H (fun e env bx H'=>e=.normal∧EVG I z prog n ops fuel (L.setIfInBounds k true) env bx H' K)):EVG I z prog n ops (fuel+1) L env bx H K:=by
 have hr':=eq_of_beq hr;refine EVG.step hI (by rw[hr'];rfl) fun q hq=>?_;rw[hr',List.mem_singleton]at hq;subst hq;exact⟨o,ho,h⟩
theorem EVG.two {o':Oper} (k k':Nat) (hI:zdz z L=true→∀W0 β a W,Rel n W0 H.base β env bx H a W→I W) (hr:(Region.ready .any ops L == [k,k'])=true) (ho:ops[k]?=some o) (ho':ops[k']?=some o') (h:EVL prog n ops [o] env bx H (fun e env bx H'=>e=.normal∧EVG I z prog n ops fuel (L.setIfInBounds k true) env bx H' K))
  (h':EVL prog n ops [o'] env bx H (fun e env bx H'=>e=.normal∧EVG I z prog n ops fuel (L.setIfInBounds k' true) env bx H' K)):EVG I z prog n ops (fuel+1) L env bx H K:=by
 have hr':=eq_of_beq hr;refine EVG.step hI (by rw[hr'];rfl) fun q hq=>?_;rw[hr']at hq;rcases List.mem_cons.1 hq with rfl | hq
 ·exact⟨o,ho,h⟩
 ·obtain rfl:q=k':=by simpa using hq
  exact⟨o',ho',h'⟩
theorem zrN {jj:Nat} (hj:zdz z L=false∨H.ow[jj]?=some p):zdz z L=true→∀W0 β a W,Rel n W0 H.base β env bx H a W→Box W p.1 p.2.2.toArray p.2.1:=fun hn W0 β a W r=>by
 rcases hj with hj | hj
 ·rw[hj]at hn;cases hn
 ·exact(r.own jj p.1 p.2.1 p.2.2 hj).1
theorem EVI.one (k jj:Nat) (hj:zdz z L=false∨H.ow[jj]?=some p) (hr:(Region.ready .any ops L == [k])=true) (ho:ops[k]?=some o) (h:EVL prog n ops [o] env bx H (fun e env bx H'=>e=.normal∧EVI z p prog n ops fuel (L.setIfInBounds k true) env bx H' K)):EVI z p prog n ops (fuel+1) L env bx H K:=EVG.one k (zrN hj) hr ho h
theorem EVI.two {o':Oper} (k k' jj:Nat) (hj:zdz z L=false∨H.ow[jj]?=some p) (hr:(Region.ready .any ops L == [k,k'])=true) (ho:ops[k]?=some o) (ho':ops[k']?=some o') (h:EVL prog n ops [o] env bx H (fun e env bx H'=>e=.normal∧EVI z p prog n ops fuel (L.setIfInBounds k true) env bx H' K))
  (h':EVL prog n ops [o'] env bx H (fun e env bx H'=>e=.normal∧EVI z p prog n ops fuel (L.setIfInBounds k' true) env bx H' K)):EVI z p prog n ops (fuel+1) L env bx H K:=EVG.two k k' (zrN hj) hr ho ho' h h'
theorem EVI.nil (jj:Nat) (hj:zdz z L=false∨H.ow[jj]?=some p) (hr:(Region.ready .any ops L).isEmpty=true) (h:K env bx H):EVI z p prog n ops fuel L env bx H K:=EVG.nil (zrN hj) hr h
end
def zgh (dv:Value) (D:Ows) (s:Int):Prop:=(dv=.pointer none∧D=[])∨∃bd T,dv=.pointer (some ⟨bd,0,none⟩)∧D=[(bd,T,[.int .u64 s])]∧0≤s
theorem ze5 {A c B:List Value} {k s f m q:Nat} (hA:A.length=k*s) (hq:q=k*s+f) (hf:f+m≤c.length):q+m≤(A++(c++B)).length:=by
 rw[List.length_append,List.length_append,hA,hq];omega
section
variable {P:Program} {n:Nat} {ops:Array Oper} {o1 o2:Oper} {rest:List Oper} {env:Env} {bx:Bxs} {H:Hs} {Q:EQ} {d d1:Nat}
end
end
section
section
variable {α:Type}
variable {lt:α→α→Bool}
end
end
section
open Go.RowKit _root_.Go.Proofs.Tryz
section
variable {α:Type} {enc:α→Value} {w w':World} {B:Nat} {T:TypeId} {cap:Nat} {l:List α}
end
abbrev zo5 (deep least:Int) (g1 g2 g3:Value):Value:=.agg #[.int .i64 deep,.int .i64 least,g1,g2,g3]
abbrev zob (deep least:Int) (g:Rat):Prop:=deep≥0∧deep≤10∧least≥1∧least≤300∧0≤g
theorem zo9 (q:Rat):(q.num.sign≥0)↔0≤q:=⟨fun h=>Rat.num_nonneg.1 (Int.sign_nonneg_iff.1 h),fun h=>Int.sign_nonneg_iff.2 (Rat.num_nonneg.2 h)⟩
theorem zhm {p:Prop} [Decidable p] (h:¬p):Value.bool false=.bool (decide p):=congrArg Value.bool (qC h).symm
def zrM (n N:Nat) (ck:Int) (fb:Bool) (rows:List Int):Int:=if n=N then (if ck=0∧fb=true∧∀r,r∈rows→0≤r∧r<(n:Int) then 0 else 1) else 5
theorem zpw {n N:Nat} {ck:Int} {fb:Bool} {rows:List Int} (h:n≠N):zrM n N ck fb rows=5:=if_neg h
theorem zku {n:Nat} {ck:Int} {fb:Bool} {rows:List Int} (h:¬(ck=0∧fb=true∧∀r,r∈rows→0≤r∧r<(n:Int))):zrM n n ck fb rows=1:=(if_pos rfl).trans (if_neg h)
theorem zpv {n:Nat} {rows:List Int} (h:∀r,r∈rows→0≤r∧r<(n:Int)):zrM n n 0 true rows=0:=(if_pos rfl).trans (if_pos ⟨rfl,rfl,h⟩)
end
section
structure Tr where
 kd:Int
 cl:Int
 w:Int
 ns:List Nd
end
section
open Go.RowKit _root_.Go.Proofs.Tryz
def ILs (H:Hp) (vs:List Value) (ls:List (List Int)):Prop:=vs.length=ls.length∧∀(j:Nat) (v:Value) (l:List Int),vs[j]?=some v→ls[j]?=some l→IL H v l
theorem ILs.mono {H G:Hp} {vs:List Value} {ls:List (List Int)} (h:ILs H vs ls) (k:H.Le G):ILs G vs ls:=⟨h.1,fun j v l e1 e2=>(h.2 j v l e1 e2).mono k⟩
theorem zoZ {α β:Type} {R:α→β→Prop} {xs:List α} {ys:List β} (h:xs.length=ys.length∧∀(j:Nat) (x:α) (y:β),xs[j]?=some x→ys[j]?=some y→R x y) {x:α} {y:β} (k:R x y):(xs++[x]).length=(ys++[y]).length∧∀(j:Nat) (x':α) (y':β),(xs++[x])[j]?=some x'→(ys++[y])[j]?=some y'→R x' y':=by
 refine⟨by simp[h.1],fun j x' y' e1 e2=>?_⟩;by_cases hj:j<xs.length
 ·rw[List.getElem?_append_left hj]at e1;rw[List.getElem?_append_left (by rw[←h.1];exact hj)]at e2;exact h.2 j x' y' e1 e2
 ·rw[List.getElem?_append_right (by omega)]at e1;rw[List.getElem?_append_right (by rw[←h.1];omega),←h.1]at e2
  have h0:j-xs.length=0:=by
   have:=(qE.1 e1).1;simp at this;omega
  rw[h0]at e1 e2;cases e1;cases e2;exact k
end
section
inductive Sub (T:List Nd) (w:Int):Nat→Nat→Nat→Prop
 | leaf {k h:Nat} {n:Nd}:T[k]?=some n→n.col = -1→n.left=0→n.right=0→n.at'=0→Sub T w k h (k+1)
 | node {k h m e:Nat} {n:Nd}:T[k]?=some n→0≤n.col→n.col<w→n.left=((k+1:Nat):Int)→n.right=(m:Int)→Sub T w (k+1) h m→Sub T w m h e→Sub T w k (h+1) e
theorem Sub.lt {T:List Nd} {w:Int} {k h e:Nat} (h0:Sub T w k h e):k<e∧e≤T.length:=by
 induction h0 with
 | leaf hn _ _ _ _ =>
  have:=(qE.1 hn).1;omega
 | node _ _ _ _ _ _ _ ih1 ih2=>omega
structure OkN (kd cl:Int) (n:Nd):Prop where
 rows:1≤n.rows∧n.rows≤1048576
 cost:0≤n.cost
 len:(n.counts.length:Int)=cl
 pos:∀c,c∈n.counts→0≤c
 sum:kd=1→n.counts.sum=n.rows
 cls:n.cls=(topN n.counts n.counts.length:Int)
 value:kd=1→n.value=0
 small:ht n.at'≤200∧ht n.cost≤2000000∧ht n.value≤4000
structure OkC (n a b:Nd):Prop where
 rows:n.rows=a.rows+b.rows
 counts:∀k:Nat,n.counts.getD k 0=a.counts.getD k 0+b.counts.getD k 0
 cost:a.cost+b.cost≤n.cost
def zkc (kd cl:Int) (T:List Nd) (i:Nat):Prop:=∃n,T[i]?=some n∧OkN kd cl n∧(n.col ≠ -1→0≤n.col∧0≤n.left∧0≤n.right∧∃a b,T[n.left.toNat]?=some a∧T[n.right.toNat]?=some b∧OkC n a b)
structure zjc (p:GP) (kd cl:Int) (w:Nat):Prop where
 kind:(kd=1∧1≤cl∧cl≤12)∨(kd=2∧cl=0)
 rowsX:p.X.length≤300
 wide:∀x,x∈p.X→x.length=w
 small:∀x,x∈p.X→∀q,q∈x→ht q≤60
 clen:∀l,((p.cnt l).length:Int)=cl
 cadd:∀r l m:List Int,r.Perm (l++m)→∀k:Nat,(p.cnt r).getD k 0=(p.cnt l).getD k 0+(p.cnt m).getD k 0
 cpos:∀l c,c∈p.cnt l→0≤c
 csum:kd=1→∀l,(∀r,r∈l→0≤r∧r<(p.X.length:Int))→(p.cnt l).sum=(l.length:Int)
 zero:kd=1→∀l,p.mean l=0
 cost0:∀l,0≤p.cost l
 csm:∀l:List Int,l.length≤300→(∀r,r∈l→0≤r∧r<(p.X.length:Int))→ht (p.cost l)≤2000000
 msm:∀l:List Int,l.length≤300→(∀r,r∈l→0≤r∧r<(p.X.length:Int))→ht (p.mean l)≤4000
 gain:0≤p.gain
 cols:∀s c,c∈(p.cols s).1→0≤c∧c<(w:Int)
theorem zjC (l:List Int) (f:Int→Bool):l.Perm (l.filter f++l.filter fun x => !f x):=by
 induction l with
 | nil=>exact List.Perm.nil
 | cons x l ih =>
  cases h:f x with
  | true=>rw[List.filter_cons_of_pos h,List.filter_cons_of_neg (by simp[h])];exact List.Perm.cons x ih
  | false=>rw[List.filter_cons_of_neg (by simp[h]),List.filter_cons_of_pos (by simp[h])];exact(List.Perm.cons x ih).trans List.perm_middle.symm
theorem zeJ {p:GP} {kd cl:Int} {w:Nat} (hp:zjc p kd cl w) {rows:List Int} {s c:Int} {t:Rat} (hb:∀r,r∈rows→0≤r∧r<(p.X.length:Int)) (h:p.cut rows (p.cols s).1=some (c,t)) :
  (0≤c∧c<(w:Int))∧ht t≤200∧1≤(zaZ p.X c t rows).length∧1≤(zaC p.X c t rows).length∧rows.Perm (zaZ p.X c t rows++zaC p.X c t rows)∧p.cost (zaZ p.X c t rows)+p.cost (zaC p.X c t rows)≤p.cost rows:=by
 unfold GP.cut at h
 cases hbe:p.best rows (p.cols s).1 with
 | none=>rw[hbe]at h;cases h
 | some q =>
  obtain⟨c',t',g⟩:=q;rw[hbe]at h;dsimp only at h;split at h
  ·cases h
  ·rename_i hg;cases h;have hf:=zdb (zbb p.X p.cost rows (max 1 p.least) (p.cols s).1);rw[show (zbb p.X p.cost rows (max 1 p.least) (p.cols s).1).foldl zoY none=some (c,t,g) from hbe]at hf;have hm:=hf.1;unfold zbb zgt at hm;obtain⟨c2,hc2,hm⟩:=List.mem_flatMap.1 hm;obtain⟨t2,ht2,hm⟩:=List.mem_flatMap.1 hm;split at hm
   ·rename_i hL;cases List.mem_singleton.1 hm;have hcw:=hp.cols s c hc2
    have hall:∀r,r∈rows→zdk p.X c r=true:=fun r hr=>by
     obtain⟨R,rfl⟩:=Int.eq_ofNat_of_zero_le (hb r hr).1;have hR:=(hb _ hr).2;unfold zdk;obtain⟨x,hx⟩:∃x,p.X[R]?=some x:=⟨_,qA oM⟩;rw[Int.toNat_natCast,qB,hx,Option.getD_some,hp.wide x (qF hx)];simp;omega
    have hlo:zaZ p.X c t rows=rows.filter fun r=>decide (zbp p.X c r≤t):=by
     unfold zaZ;exact List.filter_congr fun r hr=>by rw[hall r hr,Bool.true_and]
    have hhi:zaC p.X c t rows=rows.filter fun r => !decide (zbp p.X c r≤t):=by
     unfold zaC;exact List.filter_congr fun r hr=>by rw[hall r hr,Bool.true_and]
    have hpm:rows.Perm (zaZ p.X c t rows++zaC p.X c t rows):=by rw[hlo,hhi];exact zjC _ _
    have h0:=hp.gain;refine⟨hcw,zpJ hp.small ht2,by omega,by omega,hpm,?_⟩;have:p.gain<p.cost rows-(p.cost (zaZ p.X c t rows)+p.cost (zaC p.X c t rows)):=Rat.not_le.1 hg;grind
   ·cases hm
theorem zrr {p:GP} {kd cl:Int} {w:Nat} (hp:zjc p kd cl w) {rows:List Int} (h1:1≤rows.length) (h2:rows.length≤300) (hb:∀r,r∈rows→0≤r∧r<(p.X.length:Int)) {c l r:Int} {t:Rat} (ht':ht t≤200):OkN kd cl { p.nd rows with col:=c,left:=l,right:=r,at':=t } :=
 ⟨⟨by show 1≤(rows.length:Int);omega,by show (rows.length:Int)≤1048576;omega⟩,hp.cost0 rows,hp.clen rows,hp.cpos rows,fun e=>hp.csum e rows hb,rfl,fun e=>hp.zero e rows,ht',hp.csm rows h2 hb,hp.msm rows h2 hb⟩
theorem zjE {p:GP} {kd cl:Int} {w:Nat} (hp:zjc p kd cl w):∀(d k:Nat) (rows:List Int) (s:Int),1≤rows.length→rows.length≤300→(∀r,r∈rows→0≤r∧r<(p.X.length:Int))→∀T:List Nd,(∀(j:Nat) (n:Nd),(p.grow d k rows s).1[j]?=some n→T[k+j]?=some n) →
  Sub T w k d (k+(p.grow d k rows s).1.length)∧(∃n,T[k]?=some n∧n.rows=(rows.length:Int)∧n.counts=p.cnt rows∧n.cost=p.cost rows)∧∀j,j<(p.grow d k rows s).1.length→zkc kd cl T (k+j):=by
 have single:∀(d k:Nat) (rows:List Int),1≤rows.length→rows.length≤300→(∀r,r∈rows→0≤r∧r<(p.X.length:Int))→∀T:List Nd,(∀(j:Nat) (n:Nd),[p.nd rows][j]?=some n→T[k+j]?=some n) →
   Sub T w k d (k+1)∧(∃n,T[k]?=some n∧n.rows=(rows.length:Int)∧n.counts=p.cnt rows∧n.cost=p.cost rows)∧∀j,j<1→zkc kd cl T (k+j):=by
  intro d k rows h1 h2 hb T hT;have h0:=hT 0 _ rfl;rw[Nat.add_zero]at h0;refine⟨.leaf h0 rfl rfl rfl rfl,⟨_,h0,rfl,rfl,rfl⟩,fun j hj=>?_⟩;obtain rfl:j=0:=by omega
  refine⟨_,by rw[Nat.add_zero];exact h0,zrr hp h1 h2 hb (c:=-1) (l:=0) (r:=0) (t:=0) (by rw[zb8];decide),fun e=>absurd rfl e⟩
 intro d
 induction d with
 | zero =>
  intro k rows s h1 h2 hb T hT;rw[GP.grow_zero]at hT ⊢;exact single 0 k rows h1 h2 hb T hT
 | succ d ih =>
  intro k rows s h1 h2 hb T hT
  cases hc:p.cut rows (p.cols s).1 with
  | none =>
   rw[GP.grow_none hc]at hT ⊢;exact single (d+1) k rows h1 h2 hb T hT
  | some ct =>
   obtain⟨c,t⟩:=ct;obtain⟨hcw,htb,hl1,hr1,hpm,hcost⟩:=zeJ hp hb hc;have hll:(zaZ p.X c t rows).length≤300:=qI (List.length_filter_le _ _) h2;have hhl:(zaC p.X c t rows).length≤300:=qI (List.length_filter_le _ _) h2;have hlm:∀r,r∈zaZ p.X c t rows→0≤r∧r<(p.X.length:Int):=fun r hr=>hb r (List.mem_filter.mp hr).1;have hhm:∀r,r∈zaC p.X c t rows→0≤r∧r<(p.X.length:Int):=fun r hr=>hb r (List.mem_filter.mp hr).1;rw[GP.grow_some hc]at hT ⊢;have hLl:=p.grow_len d (k+1) (zaZ p.X c t rows) (p.cols s).2;have ihL:=ih (k+1) (zaZ p.X c t rows) (p.cols s).2 hl1 hll hlm T;generalize p.grow d (k+1) (zaZ p.X c t rows) (p.cols s).2=L at *
   obtain⟨Ls,s2⟩:=L;have hRl:=p.grow_len d (k+1+Ls.length) (zaC p.X c t rows) s2;have ihR:=ih (k+1+Ls.length) (zaC p.X c t rows) s2 hr1 hhl hhm T;dsimp only at hT hLl ihL ⊢;generalize p.grow d (k+1+Ls.length) (zaC p.X c t rows) s2=R at *
   obtain⟨Rs,s3⟩:=R;dsimp only at hT hRl ihR ⊢;have h0:=hT 0 _ rfl;rw[Nat.add_zero]at h0
   obtain⟨sL,⟨a,ha,ha1,ha2,ha3⟩,nL⟩:=ihL (fun j n hj=>by
    have:=hT (j+1) n (by rw[List.getElem?_cons_succ,List.getElem?_append_left (qE.1 hj).1];exact hj);rw[show k+1+j=k+(j+1) by omega];exact this)
   obtain⟨sR,⟨b,hb',hb1,hb2,hb3⟩,nR⟩:=ihR (fun j n hj=>by
    have:=hT (j+Ls.length+1) n (by rw[List.getElem?_cons_succ,List.getElem?_append_right oM,Nat.add_sub_cancel];exact hj);rw[show k+1+Ls.length+j=k+(j+Ls.length+1) by omega];exact this)
   have hlen:rows.length=(zaZ p.X c t rows).length+(zaC p.X c t rows).length:=by rw[hpm.length_eq,List.length_append]
   have hroot:zkc kd cl T k:=by
    refine⟨_,h0,zrr hp h1 h2 hb htb,fun _=>⟨hcw.1,Int.natCast_nonneg _,Int.natCast_nonneg _,a,b,by rw[Int.toNat_natCast];exact ha,by rw[Int.toNat_natCast];exact hb',⟨?_,fun q=>?_,?_⟩⟩⟩
    ·rw[ha1,hb1];show (rows.length:Int)=_;omega
    ·rw[ha2,hb2];exact hp.cadd _ _ _ hpm q
    ·rw[ha3,hb3];exact hcost
   refine⟨?_,⟨_,h0,rfl,rfl,rfl⟩,fun j hj=>?_⟩
   ·rw[List.length_cons,List.length_append,show k+(Ls.length+Rs.length+1)=k+1+Ls.length+Rs.length by omega];exact .node h0 hcw.1 hcw.2 rfl rfl sL sR
   ·rw[List.length_cons,List.length_append]at hj
    cases j with
    | zero=>exact hroot
    | succ j =>
     by_cases h:j<Ls.length
     ·rw[show k+(j+1)=k+1+j by omega];exact nL j h
     ·rw[show k+(j+1)=k+1+Ls.length+(j-Ls.length) by omega];exact nR _ oM
structure zb0 (t:Tr):Prop where
 kind:(t.kd=1∧1≤t.cl∧t.cl≤12)∨(t.kd=2∧t.cl=0)
 wide:1≤t.w∧t.w≤20
 len:t.ns.length≤2000
 sub:∃h,h≤10∧Sub t.ns t.w 0 h t.ns.length
 nodes:∀i,i<t.ns.length→zkc t.kd t.cl t.ns i
theorem zmR {p:GP} {kd cl:Int} {w D:Nat} (hp:zjc p kd cl w) (hw:1≤w∧w≤20) (hD:D≤9) {rows:List Int} (h1:1≤rows.length) (h2:rows.length≤300) (hb:∀r,r∈rows→0≤r∧r<(p.X.length:Int)) (s:Int):zb0 ⟨kd,cl,w,(p.grow D 0 rows s).1⟩:=by
 obtain⟨h3,_,h4⟩:=zjE hp D 0 rows s h1 h2 hb (p.grow D 0 rows s).1 (fun j n hj=>by rw[Nat.zero_add];exact hj);have hl:=(p.grow_len D 0 rows s).2;have hpow:2 ^ (D+1)≤2 ^ 10:=Nat.pow_le_pow_right oM oM;rw[Nat.zero_add]at h3;exact⟨hp.kind,⟨by show (1:Int)≤w;omega,by show (w:Int)≤20;omega⟩,by show (p.grow D 0 rows s).1.length≤2000;omega,⟨D,by omega,h3⟩,fun i hi=>by have:=h4 i hi;rwa [Nat.zero_add]at this⟩
end
section
open Go.RowKit _root_.Go.Proofs.Tryz
abbrev zrZ (kd cl w:Int) (vn:Value):Value:=.agg #[.int .i64 kd,.int .i64 cl,.int .i64 w,vn]
theorem zcD {l:List Int} (h:∀c,c∈l→0≤c) (k:Nat):0≤(l.take k).sum∧(l.take k).sum≤l.sum:=by
 have h0:∀m:List Int,(∀c,c∈m→0≤c)→0≤m.sum:=fun m=>by
  induction m with
  | nil=>exact fun _=>Int.le_refl 0
  | cons c m ih=>intro hm;rw[List.sum_cons];have:=hm c (List.mem_cons_self ..);have:=ih fun c hc=>hm c (List.mem_cons_of_mem _ hc);omega
 have e:l.sum=(l.take k).sum+(l.drop k).sum:=by rw[←List.sum_append,List.take_append_drop]
 have h1:=h0 (l.take k) fun c hc=>h c (List.mem_of_mem_take hc);have h2:=h0 (l.drop k) fun c hc=>h c (List.mem_of_mem_drop hc);omega
theorem zqK {q:Rat} (h:0≤q):¬q.num.sign<0:=by
 have:=Rat.num_nonneg.2 h;intro k;have:=Int.sign_nonneg_iff.2 this;omega
theorem Sub.end0 {T:List Nd} {w:Int} {h e:Nat} (h0:Sub T w 0 h e):0<T.length:=by
 have:=h0.lt;omega
def zhh (z:Int):Prop:=-9223372036854775808≤z∧z<9223372036854775808
structure zhR (kd cl:Int) (n:Nat) (cost mean:List Int→Rat) (cnt:List Int→List Int):Prop where
 kind:(kd=1∧1≤cl∧cl≤12)∨(kd=2∧cl=0)
 clen:∀l,((cnt l).length:Int)=cl
 cadd:∀r l m:List Int,r.Perm (l++m)→∀k:Nat,(cnt r).getD k 0=(cnt l).getD k 0+(cnt m).getD k 0
 cpos:∀l c,c∈cnt l→0≤c
 csum:kd=1→∀l,(∀r,r∈l→0≤r∧r<(n:Int))→(cnt l).sum=(l.length:Int)
 zero:kd=1→∀l,mean l=0
 cost0:∀l,0≤cost l
 csm:∀l:List Int,l.length≤300→(∀r,r∈l→0≤r∧r<(n:Int))→ht (cost l)≤2000000
 msm:∀l:List Int,l.length≤300→(∀r,r∈l→0≤r∧r<(n:Int))→ht (mean l)≤4000
theorem zf6:∀l:List Rat,(∀q,q∈l→0≤q)→0≤zaU l
 | [],_=>by rw[zby];exact Rat.le_refl
 | x::l,h=>by
  rw[zas];exact Rat.add_nonneg (h x (.head _)) (zf6 l fun q hq=>h q (.tail _ hq))
theorem zjx (m:Rat) (l:List Rat):0≤zaU (zeS m l):=zf6 _ fun q hq=>by
 obtain⟨v,_,rfl⟩:=List.mem_map.1 hq;exact ziX _
theorem zh9 (L:List Int):0≤zh8 L:=by
 unfold zh8;have h1:=ziW L;by_cases h0:L.length=0
 ·obtain rfl:=List.length_eq_zero_iff.1 h0;decide +kernel
 ·have hp:(0:Rat)<((L.length:Int):Rat):=by
   have:((0:Int):Rat)<((L.length:Int):Rat):=Rat.intCast_lt_intCast.2 oM;exact this
  have h2:((sqL L:Int):Rat)≤((L.length:Int):Rat)*((L.length:Int):Rat):=by
   rw[←Rat.intCast_mul];exact Rat.intCast_le_intCast.2 (by exact_mod_cast h1)
  generalize ((L.length:Int):Rat)=N at *
  generalize ((sqL L:Int):Rat)=S at *
  have h3:0≤N⁻¹:=Rat.le_of_lt (Rat.inv_pos.2 hp);have h4:0≤N*N-S:=by grind
  have h5:=Rat.mul_nonneg h4 h3;have hne:N≠0:=by grind
  have h6:N*N⁻¹=1:=Rat.mul_inv_cancel N hne;have h7:(N*N-S)*N⁻¹=N-S / N:=by rw[Rat.div_def];grind
  rw[h7]at h5;exact h5
theorem zk0 {α:Type} (f:α→Nat):∀l:List α,(l.map fun x=>(f x:Int)).sum=(((l.map f).sum:Nat):Int)
 | []=>rfl
 | x::l=>by
  rw[List.map_cons,List.map_cons,List.sum_cons,List.sum_cons,zk0 f l];omega
theorem zom {C:Nat} {L:List Int} (h:∀z,z∈L→0≤z∧z<(C:Int)):(zeI C L).sum=(L.length:Int):=by
 have h1:=(zkX C L h).2;unfold zeI;rw[zk0 (fun k:Nat=>L.count (k:Int)),←h1]
theorem zfm (C:Nat) (L:List Int) (k:Nat):(zeI C L).getD k 0=if k<C then (L.count (k:Int):Int) else 0:=by
 rw[qB];by_cases h:k<C
 ·rw[zg3 _ h,if_pos h];rfl
 ·rw[List.getElem?_eq_none (by rw[zbI];omega),if_neg h];rfl
theorem zol (C:Nat) {R L M:List Int} (h:R.Perm (L++M)) (k:Nat):(zeI C R).getD k 0=(zeI C L).getD k 0+(zeI C M).getD k 0:=by
 rw[zfm,zfm,zfm,h.count_eq,List.count_append];split <;> omega
theorem zoe {ls:List Int} {rs:List Int} (h:∀r,r∈rs→0≤r∧r<(ls.length:Int)):∀q,q∈atI ls rs→q∈ls:=fun q hq=>by
 obtain⟨r,hr,rfl⟩:=List.mem_map.1 hq;have:=h r hr;have hl:r.toNat<ls.length:=by omega
 rw[qB,qA hl];exact List.getElem_mem hl
theorem zl0 {l:List Int} {n w:Nat}:∀x,x∈zeU l n w→x.length=w∧∀q,q∈x→ht q≤60:=fun x hx=>⟨(zkP x hx).1,fun q hq=>qI ((zkP x hx).2 q hq) oM⟩
def zcR (H:Hp) (cs:List Value) (n:Nd):Prop:=∃a c,IL H (.slice a n.counts.length c) n.counts ∧
 cs=[.int .i64 n.col,.int .i64 n.left,.int .i64 n.right,.int .i64 n.rows,.int .i64 n.cls]++(zah (zab n.at')++(zah (zab n.cost)++(zah (zab n.value)++[.slice a n.counts.length c])))
theorem zcR.mono {H G:Hp} {cs:List Value} {n:Nd} (h:zcR H cs n) (k:H.Le G):zcR G cs n:=by
 obtain⟨a,c,h1,e⟩:=h;exact⟨a,c,h1.mono k,e⟩
theorem zcR.len {H:Hp} {cs:List Value} {n:Nd} (h:zcR H cs n):cs.length=21:=by
 obtain⟨a,c,_,rfl⟩:=h;rfl
def zdm (H:Hp) (css:List (List Value)) (ns:List Nd):Prop:=css.length=ns.length∧∀(j:Nat) (c:List Value) (n:Nd),css[j]?=some c→ns[j]?=some n→zcR H c n
theorem zdm.mono {H G:Hp} {css:List (List Value)} {ns:List Nd} (h:zdm H css ns) (k:H.Le G):zdm G css ns:=⟨h.1,fun j c n e1 e2=>(h.2 j c n e1 e2).mono k⟩
theorem zdm.get {H:Hp} {css:List (List Value)} {ns:List Nd} (h:zdm H css ns) {j:Nat} {n:Nd} (hj:ns[j]?=some n):∃c,(css.flatten.drop (j*21)).take 21=c∧zcR H c n:=by
 have hlt:=(qE.1 hj).1;obtain⟨c,hc⟩:∃c,css[j]?=some c:=⟨_,qA (by rw[h.1];exact hlt)⟩;refine⟨c,?_,h.2 j c n hc hj⟩
 have h21:∀x,x∈css→(id x).length=21:=fun x hx=>by
  obtain⟨i,hi⟩:=List.mem_iff_getElem?.1 hx;have hi':=(qE.1 hi).1;exact(h.2 i x _ hi (qA (by rw[←h.1];exact hi'))).len
 have:=ze0 id 21 css h21 j c hc
 rwa [List.flatMap_id]at this
def zds (H:Hp) (cs:List Value) (kd cl w:Int) (ns:List Nd):Prop:=∃a c css,cs=[.int .i64 kd,.int .i64 cl,.int .i64 w,.slice a ns.length c]∧zdm H css ns∧SlC H (.slice a ns.length c) ns.length 21 css.flatten
theorem zds.mono {H G:Hp} {cs:List Value} {kd cl w:Int} {ns:List Nd} (h:zds H cs kd cl w ns) (k:H.Le G):zds G cs kd cl w ns:=by
 obtain⟨a,c,css,e,h1,h2⟩:=h;exact⟨a,c,css,e,h1.mono k,h2.mono k⟩
theorem zjY {H:Hp} {u w:Value} {l:List Int} (hu:IL H u l) (hw:IL H w l) (hl:l.length≤1000000):PC prog 22 #[u,w] H fun r _=>r=.bool true:=by
 obtain⟨a,cap,rfl⟩:=SlC.val hu;obtain⟨a2,cap2,rfl⟩:=SlC.val hw;refine BD func22 ntmps22 ?_;refine uR ?_;rw[show ((l.length:Int) != (l.length:Int))=false from bne_self_eq_false _];refine uR ?_;refine EV.loopK (ι:=Nat) [0,1] [] (fun q=>[(5,.v (.int .i64 (q:Int)))]) (fun _=>[]) (fun _=>[]) (fun q _=>q≤l.length) (fun q=>l.length-q) (0) rfl rfl ⟨rfl,trivial⟩ trivial rfl (fun _=>rfl) (Nat.zero_le _) ?_;rintro i G1 hG1 hi;refine uR ?_;refine EV.cond rfl (fun hlt=>?_) (fun hlt=>?_)
 ·simp only[nN]at hlt;obtain⟨z,hz⟩:=gE hlt;have hu1:=hu.mono hG1;have hw1:=hw.mono hG1;refine uR ?_;apply EV.drawn 9 kR kR;intro xv yw;(repeat refine' DD ?_);refine' vJ (hu1) (i) (rfl) (hlt) ((by rw[List.getElem?_map,hz];rfl)) ?_;rotate_left;(repeat refine' DD ?_);refine' vJ (hw1) (i) (rfl) (hlt) ((by rw[List.getElem?_map,hz];rfl)) ?_;rotate_left;(repeat refine' DD ?_);(refine DJ.nil (fun G hG hF=>?_);(case hS|hS2=>rfl));rw[show (z != z)=false from bne_self_eq_false _];refine uR ?_;refine⟨i+1,⟨by rw[zai i (by omega)];rfl,trivial⟩,sB,trivial,sB,rfl,hlt,hG,by omega⟩
 ·try refine uR ?_
  rfl
theorem zoH {H:Hp} {v:Value} {cl:Int} {sl sv:Value}:PC prog 20 #[zaE 1 cl sl sv,v] H fun r _=>r=zab 0:=by
 refine BD func20 ntmps20 ?_;refine uR ?_;exact zbM.symm
section
variable {P:Program} {n:Nat} {ops:Array Oper} {o:Oper} {rest:List Oper} {env:Env} {bx:Bxs} {sb:Bxs} {ow:Ows} {H:Hs} {Q:EQ} {τ:Tab} {d:Nat} {s:SV}
theorem EVL.callWC {f:FuncId} {t:Nat} {args:Array Operand} {tys:Array TypeId} (ho:o.op=.call ⟨.value (.tmp t),args,tys⟩) (hw:zae ops env o=some true) (hd:o.dst=some d) (hn:Nat.blt d n=true)
  {cs:List Value} (ht:env.op (.tmp t)=some (.v (.func (.func f) #[] cs.toArray))) {vs:List Value} (ha:za2 env args.toList some=some vs) (L R:Ows) (e:H.ow=L++R) {Φ:Value→Ows→Hp→Prop} (hpc:PW P f (vs++cs).toArray H.ro L Φ)
  (h:∀v ow H',Φ v ow H'→H.ro.Le H'→EVL P n ops rest ((d,.v v)::env) bx ⟨H',ow++R,H.base⟩ Q):EVL P n ops (o::rest) env bx H Q:=fun W0 β a W r=>by
 obtain⟨vs',hk,hm⟩:=zaS env _ _ _ ha;cases hk;have hvs:=hm β H.ro a.eval (fun y s _ hy=>r.op hy);have htv:a.eval (.tmp t)=.func (.func f) #[] cs.toArray:=r.op ht;unfold wpList;rw[if_pos (r.want hw)];refine .inl ?_;unfold Oper.wp;rw[zeO hpc.can ho htv hvs,Oper.upon_enter]
 have up:∀(j b:Nat) (T:TypeId) (cs:List Value),L[j]?=some (b,T,cs)→H.ow[j]?=some (b,T,cs):=fun j b T cs hj=>by
  rw[e,List.getElem?_append_left (qE.1 hj).1];exact hj
 refine(hpc.run W r.fits r.globW (fun j b T cs hj=>?_) (fun j j' b T T' cs cs' hj hj'=>r.one j j' b T T' cs cs' (up _ _ _ _ hj) (up _ _ _ _ hj'))).mono ?_
 ·obtain⟨h1,h2,h3,_⟩:=r.own j b T cs (up _ _ _ _ hj);refine⟨h1,h3,?_⟩;rcases h2 with h2 | h2
  ·cases hg:gH b with
   | none=>rfl
   | some c=>have:=r.glob.1.lt (b:=b) (by rw[hg];simp);omega
  ·exact(r.glob.2 b h2).1
 ·rintro e' W' ⟨v,ow,H',rfl,hΦ,hle,hf,hnw,hkp,hown,hdist⟩;rw[hd];exact h v ow H' hΦ hle W0 β _ W' ((r.callW e hle hf hnw hkp hown hdist).put hn rfl rfl)
end
section
variable {P:Program} {n:Nat} {ops:Array Oper} {o:Oper} {rest:List Oper} {env:Env} {bx:Bxs} {H:Hs} {Q:EQ} {d:Nat}
end
theorem zoT {H:Hp} {kd cl:Int} {sl sv vx vr vc:Value} {p:GP} {S:List Int→List Value} {wo:List Int→Rat} {rows cols:List Int} {least:Int} (hg:GOk H kd cl sl sv p.X.length S wo) (hp:POk wo p.cost) (hX:QLL H vx p.X) (hr:IL H vr rows) (hn:rows.length≤20) (hb:∀r,r∈rows→0≤r∧r<(p.X.length:Int)) (hc:IL H vc cols) (hcn:cols.length≤1000000) (hx:∀x,x∈p.X→∀q,q∈x→ht q≤100) (hpl:p.least=least) :
  PC prog 168 #[zaE kd cl sl sv,vx,vr,vc,.int .i64 least] H fun r _=>r=.tuple #[.agg (zpu (p.best rows cols)).toArray,.bool (p.best rows cols).isSome]:=by
 refine(zp5 hg hX hr hn hc hcn hx).mono ?_;rintro r G ⟨ps,h1,h2,h3⟩ _;rw[zhb hb]at h2 h3;have e:=zjo hp h1 h2
 have e2:p.best rows cols=(zbD ps).map fun t=>(t.1,t.2.1,t.2.2-wo rows):=by
  unfold GP.best;rw[hpl,show max 1 least=max least 1 from Int.max_comm _ _];exact e.symm
 rcases h3 with ⟨h4,rfl⟩ | ⟨c,a,w,h4,rfl⟩
 ·rw[e2,h4];rfl
 ·rw[e2,h4];rfl
structure zji (H:Hp) (kd cl:Int) (sl sv:Value) (p:GP) (S:List Int→List Value) (wo:List Int→Rat):Prop where
 ok:GOk H kd cl sl sv p.X.length S wo
 pok:POk wo p.cost
 counts:∀G,H.Le G→∀u l,IL G u l→l.length≤300→PC prog 23 #[zaE kd cl sl sv,u] G fun r H'=>IL H' r (p.cnt (exL l p.X.length))
 cntlen:∀l,(p.cnt l).length≤12
 top:∀G,H.Le G→∀u l,IL G u l→l.length≤300→PC prog 21 #[zaE kd cl sl sv,u] G fun r _=>r=.int .i64 (topN (p.cnt (exL l p.X.length)) (p.cnt (exL l p.X.length)).length:Nat)
 mean:∀G,H.Le G→∀u l,IL G u l→l.length≤300→PC prog 20 #[zaE kd cl sl sv,u] G fun r _=>r=zab (p.mean (exL l p.X.length))
 small:∀l:List Int,l.length≤300→(∀r,r∈l→0≤r∧r<(p.X.length:Int))→ht (p.cost l)≤2000000
 cost:∀G,H.Le G→∀u l,IL G u l→l.length≤300→PC prog 19 #[zaE kd cl sl sv,u] G fun r _=>r=zab (p.cost (exL l p.X.length))
theorem zji.mono {H H':Hp} {kd cl:Int} {sl sv:Value} {p:GP} {S:List Int→List Value} {wo:List Int→Rat} (h:zji H kd cl sl sv p S wo) (k:H.Le H'):zji H' kd cl sl sv p S wo :=
 ⟨h.ok.mono k,h.pok,fun G hG=>h.counts G (k.trans hG),h.cntlen,fun G hG=>h.top G (k.trans hG),fun G hG=>h.mean G (k.trans hG),h.small,fun G hG=>h.cost G (k.trans hG)⟩
theorem zcR.cells {H:Hp} {cs:List Value} {n:Nd} (h:zcR H cs n):∃a c,cs=[.int .i64 n.col,.int .i64 n.left,.int .i64 n.right,.int .i64 n.rows,.int .i64 n.cls,
  .bool (decide (n.at'.num<0)),.int .u64 (lo n.at'.num.natAbs:Int),.string (zaj n.at'.num.natAbs),.int .u64 (lo (dk n.at'.den):Int),.string (zaj (dk n.at'.den)),
  .bool (decide (n.cost.num<0)),.int .u64 (lo n.cost.num.natAbs:Int),.string (zaj n.cost.num.natAbs),.int .u64 (lo (dk n.cost.den):Int),.string (zaj (dk n.cost.den)),
  .bool (decide (n.value.num<0)),.int .u64 (lo n.value.num.natAbs:Int),.string (zaj n.value.num.natAbs),.int .u64 (lo (dk n.value.den):Int),.string (zaj (dk n.value.den)),.slice a n.counts.length c]∧IL H (.slice a n.counts.length c) n.counts:=by
 obtain⟨a,c,h1,rfl⟩:=h;exact⟨a,c,rfl,h1⟩
abbrev zi5 (kd cl w:Int) (vn:Value) (far:Int):List Value:=[.int .i64 kd,.int .i64 cl,.int .i64 w,vn,.int .i64 far]
set_option maxRecDepth 100000 in
theorem znj {kd cl w:Int} {a:Option Addr} {cp:Nat} {ns:List Nd} (hln:ns.length≤1000000) {k h e:Nat} (hsub:Sub ns w k h e):∀{H:Hp} {css:List (List Value)} {b:Nat} {T:TypeId} {deep:Nat} {far:Int},zdm H css ns→SlC H (.slice a ns.length cp) ns.length 21 css.flatten→deep≤k →
  PW prog 68 #[.pointer (some ⟨b,0,none⟩),.int .i64 (k:Int),.int .i64 (deep:Int)] H [(b,T,zi5 kd cl w (.slice a ns.length cp) far)] fun v ow _=>v=.tuple #[.int .i64 (e:Int),.bool true]∧∃far',ow=[(b,T,zi5 kd cl w (.slice a ns.length cp) far')]∧far'≤max far ((deep+h:Nat):Int):=by
 induction hsub with
 | @leaf k h n hn hc hl hr ha =>
  intro H css b T deep far hns hsl hdk;have hlt:=(qE.1 hn).1;obtain⟨c,hcut,hnd⟩:=hns.get hn;obtain⟨a7,c7,rfl,_⟩:=hnd.cells
  have hsg:PV prog 45 #[zab n.at'] (.int .i64 0):=by
   rw[ha];exact zc6 0 (by show bl 0≤_;rw[zbg];omega)
  refine PW.body tO func68 rfl kR ntmps68 rfl rfl ?_;refine uR ?_;refine RP ?_;refine EVL.loadOwn tO rfl rfl rfl rfl rfl rfl (0) rfl (rfl) rfl rfl ?_;refine uR ?_;rw[qC (show ¬(k:Int)≥(ns.length:Int) by omega)];refine uR ?_;refine RP ?_;refine EVL.loadOwn tO rfl rfl rfl rfl rfl rfl (0) rfl (rfl) rfl rfl ?_;refine uR ?_;refine EVL.idxM tO rfl rfl rfl rfl rfl rfl rfl rfl rfl (hsl) (k) (rfl) (hlt) (hcut) ?_;refine uR ?_;rw[hc];refine uR ?_;refine RP ?_;refine EVL.loadOwn tO rfl rfl rfl rfl rfl rfl (0) rfl (rfl) rfl rfl ?_;refine uR ?_;refine RP ?_;refine EVL.storeOwn tO rfl rfl rfl rfl rfl rfl ([]) ([]) rfl rfl rfl rfl ((by exact qH 5)) (rfl) ?_;refine uR ?_;rw[hl,hr]
  repeat (first|refine RUN ?_|refine CV (hsg) ?_|refine CE (hsg) ?_)
  refine⟨by rw[zai k (by omega)];rfl,_,rfl,?_⟩;split <;> omega
 | @node k h m e n hn hc1 hc2 hl hr s1 s2 ih1 ih2 =>
  intro H css b T deep far hns hsl hdk;have hlt:=(qE.1 hn).1;obtain⟨hm1,hm2⟩:=s1.lt;obtain⟨he1,he2⟩:=s2.lt;obtain⟨c,hcut,hnd⟩:=hns.get hn;obtain⟨a7,c7,rfl,_⟩:=hnd.cells;refine PW.body tO func68 rfl kR ntmps68 rfl rfl ?_;refine uR ?_;refine RP ?_;refine EVL.loadOwn tO rfl rfl rfl rfl rfl rfl (0) rfl (rfl) rfl rfl ?_;refine uR ?_;rw[qC (show ¬(k:Int)≥(ns.length:Int) by omega)];refine uR ?_;refine RP ?_;refine EVL.loadOwn tO rfl rfl rfl rfl rfl rfl (0) rfl (rfl) rfl rfl ?_;refine uR ?_;refine EVL.idxM tO rfl rfl rfl rfl rfl rfl rfl rfl rfl (hsl) (k) (rfl) (hlt) (hcut) ?_;refine uR ?_;rw[show (n.col == -1)=false from beq_eq_false_iff_ne.2 (by omega)];refine uR ?_;apply EV.drawn 20 kR kR;intro xv yw;(repeat refine' DD ?_);rw[qC (show ¬n.col<0 by omega)];(repeat refine' DD ?_);(repeat (first|refine' DD ?_|refine' vN ?_|refine' vF ?_));refine' DJ.ofVal (zaa.loadOwn tO rfl rfl rfl rfl (0) rfl (rfl) rfl rfl) rfl rfl rfl ?_;rotate_left;(repeat refine' DD ?_);rw[qC (show ¬n.col≥w by omega)];(repeat refine' DD ?_);rw[hl,zai k oM,show (((k+1:Nat):Int) != ((k+1:Nat):Int))=false from bne_self_eq_false _];(repeat refine' DD ?_);(refine DJ.nil (fun G1 hG1 hF1=>?_);(case hS|hS2=>rfl));refine uR ?_;rw[zai k oM,zai deep (by omega)];refine EVL.callW rfl rfl rfl rfl rfl ([(b,T,zi5 kd cl w (.slice a ns.length cp) far)]) ([]) rfl (ih1 (hns.mono hG1) (hsl.mono hG1) (deep:=deep+1) oM) ?_;rintro _ _ G2 ⟨rfl,far1,rfl,hf1⟩ hG2;refine uR ?_;rw[hr,show ((m:Int) != (m:Int))=false from bne_self_eq_false _];refine uR ?_;rw[zai deep (by omega)];refine EVL.callW rfl rfl rfl rfl rfl ([(b,T,zi5 kd cl w (.slice a ns.length cp) far1)]) ([]) rfl (ih2 (hns.mono (hG1.trans hG2)) (hsl.mono (hG1.trans hG2)) (deep:=deep+1) oM) ?_;rintro _ _ G3 ⟨rfl,far2,rfl,hf2⟩ hG3;refine uR ?_;exact⟨rfl,far2,rfl,by omega⟩
set_option maxRecDepth 100000 in
theorem ziE {H:Hp} {kd cl w:Int} {vn:Value} {n:Nd} {cs:List Value} (hkd:(kd=1∧1≤cl∧cl≤12)∨(kd=2∧cl=0)) (hnd:zcR H cs n) (hN:OkN kd cl n) :
  PC prog 69 #[zrZ kd cl w vn,.agg cs.toArray] H fun r _=>r=.bool true:=by
 obtain⟨a7,c7,rfl,k4⟩:=hnd.cells;have hN1:=hN.rows;have hcl:n.counts.length≤12:=by have:=hN.len;omega
 have hsc:PV prog 45 #[zab n.cost] (.int .i64 n.cost.num.sign):=zc6 _ (by have:=(zaG hN.small.2.1 oM).num;show bl n.cost.num.natAbs≤_;omega);refine BD func69 ntmps69 ?_;refine uR ?_;rw[qC (show ¬n.rows<1 by omega)];refine uR ?_;rw[qC (show ¬n.rows>1048576 by omega)]
 repeat (first|refine RUN ?_|refine CV (hsc) ?_|refine CE (hsc) ?_)
 rw[qC (zqK hN.cost)];refine uR ?_;rw[show ((n.counts.length:Int) != cl)=false by rw[hN.len];exact bne_self_eq_false _];refine uR ?_;rcases hkd with ⟨rfl,hc1,hc2⟩ | ⟨rfl,rfl⟩
 ·have hsv:PV prog 45 #[zab n.value] (.int .i64 0):=by
   rw[hN.value rfl];exact zc6 0 (by show bl 0≤_;rw[zbg];omega)
  refine uR ?_;refine EV.loopK (ι:=Nat) [2,3,38,39] [2,3] (fun q=>[(5,.v (.int .i64 (n.counts.take q).sum)),(6,.v (.int .i64 (topN n.counts q:Nat))),(40,.v (.int .i64 (q:Int)))]) (fun _=>[]) (fun _=>[]) (fun q _=>q≤n.counts.length) (fun q=>n.counts.length-q) (0) rfl rfl ⟨rfl,rfl,rfl,trivial⟩ trivial rfl (fun _=>rfl) (Nat.zero_le _) ?_;rintro q G2 hG2 hq;have hsum:=hN.sum rfl;refine uR ?_;refine EV.cond rfl (fun hlt=>?_) (fun hlt=>?_)
  ·simp only[nN]at hlt;have ht1:=zcD hN.pos (q+1);have ht0:=zcD hN.pos q;have hti:=zj2 n.counts q;have htl:topN n.counts q<n.counts.length:=by omega
   have g1:=zhc hlt;have g2:=zhc htl;have hz0:=hN.pos _ (qF g1);have hts:(n.counts.take (q+1)).sum=(n.counts.take q).sum+n.counts.getD q 0:=by rw[zat g1,List.sum_append,List.sum_singleton]
   have hst:topN n.counts (q+1)=if n.counts.getD (topN n.counts q) 0<n.counts.getD q 0 then q else topN n.counts q:=rfl
   generalize topN n.counts q=tp at *
   generalize n.counts.getD tp 0=x at *
   generalize n.counts.getD q 0=y at *
   refine uR ?_;refine vI ((k4.mono hG2)) (q) (rfl) (hlt) ((by rw[List.getElem?_map,g1];rfl)) ?_;refine uR ?_;rw[qC (show ¬y<0 by omega)];refine uR ?_;rw[qC (show ¬y>n.rows by omega)];refine uR ?_;rw[show IntKind.i64.wrap ((n.counts.take q).sum+y)=(n.counts.take (q+1)).sum by rw[IntKind.wrap_i64];omega];refine vI ((k4.mono hG2)) (tp) (rfl) (htl) ((by rw[List.getElem?_map,g2];rfl)) ?_;refine uR ?_;by_cases h:y>x
   ·rw[qD h];rw[if_pos h]at hst;refine uR ?_;refine⟨q+1,⟨rfl,by rw[hst];rfl,by rw[zai q (by omega)];rfl,trivial⟩,sB,trivial,sB,rfl,by omega,Hp.Le.refl _,by omega⟩
   ·rw[qC h];rw[if_neg h]at hst;refine uR ?_;refine⟨q+1,⟨rfl,by rw[hst];rfl,by rw[zai q (by omega)];rfl,trivial⟩,sB,trivial,sB,rfl,by omega,Hp.Le.refl _,by omega⟩
  ·simp only[nN]at hlt;obtain rfl:q=n.counts.length:=by omega
   rw[List.take_length,hsum,hN.cls];refine uR ?_;rw[show (n.rows == n.rows)=true from beq_self_eq_true _];refine uR ?_;rw[show ((topN n.counts n.counts.length:Int) == (topN n.counts n.counts.length:Int))=true from beq_self_eq_true _]
   repeat (first|refine RUN ?_|refine CV (hsv) ?_|refine CE (hsv) ?_)
   rfl
 ·have hc0:n.counts=[]:=List.length_eq_zero_iff.1 (by have:=hN.len;omega);have hcls0:n.cls=0:=by rw[hN.cls,hc0];rfl
  rw[hcls0];refine uR ?_;rfl
set_option maxRecDepth 100000 in
theorem zoR {H:Hp} {kd cl:Int} {n na nb:Nd} {cs ca cb:List Value} (hkd:(kd=1∧1≤cl∧cl≤12)∨(kd=2∧cl=0)) (hnd:zcR H cs n) (hnda:zcR H ca na) (hndb:zcR H cb nb) (hN:OkN kd cl n) (hNa:OkN kd cl na) (hNb:OkN kd cl nb) (hCC:OkC n na nb) :
  PC prog 70 #[.agg cs.toArray,.agg ca.toArray,.agg cb.toArray] H fun r _=>r=.bool true:=by
 obtain⟨a7,c7,rfl,k4⟩:=hnd.cells;obtain⟨xa7,xc7,rfl,ka4⟩:=hnda.cells;obtain⟨ya7,yc7,rfl,kb4⟩:=hndb.cells;have hRa:=hNa.rows;have hRb:=hNb.rows;have hRc:=hCC.rows;have hRn:=hN.rows;have hs0:=hN.small;have hsa:=hNa.small;have hsb:=hNb.small;have hlna:(na.counts.length:Int)=cl:=hNa.len;have hlnb:(nb.counts.length:Int)=cl:=hNb.len;have hlnn:(n.counts.length:Int)=cl:=hN.len;have had:=zd3 na.cost nb.cost;have hadd:=zdR na.cost nb.cost (zaG hsa.2.1 oM) (zaG hsb.2.1 oM);have hcmp:=zcN n.cost (na.cost+nb.cost) (zaG hs0.2.1 oM) (by unfold sm;omega);refine BD func70 ntmps70 ?_;refine uR ?_;refine EV.loopK (ι:=Nat) [3,4,5,10,11] [3,4,5] (fun q=>[(12,.v (.int .i64 (q:Int)))]) (fun _=>[]) (fun _=>[]) (fun q _=>q≤n.counts.length) (fun q=>n.counts.length-q) (0) rfl rfl ⟨rfl,trivial⟩ trivial rfl (fun _=>rfl) (Nat.zero_le _) ?_;rintro q G1 hG1 hq;refine uR ?_;refine EV.cond rfl (fun hlt=>?_) (fun hlt=>?_)
 ·simp only[nN]at hlt
  have hk1:kd=1:=by
   rcases hkd with ⟨e,_⟩ | ⟨_,e⟩
   ·exact e
   ·omega
  obtain⟨z,hz⟩:=gE hlt;have hqa:q<na.counts.length:=by omega
  have hqb:q<nb.counts.length:=by omega
  obtain⟨za,hza⟩:=gE hqa;obtain⟨zb,hzb⟩:=gE hqb;have hcc:=hCC.counts q;rw[qB,qB,qB,hz,hza,hzb]at hcc;simp only[Option.getD_some]at hcc;have hz0:=hN.pos z (qF hz)
  have hup:z≤1048576:=by
   have h1:=zcD hN.pos (q+1);have h2:=zcD hN.pos q;rw[zat hz,List.sum_append,List.sum_singleton]at h1;have h3:=hN.sum hk1;omega
  have hwz:IntKind.i64.wrap (za+zb)=z:=by rw[IntKind.wrap_i64];omega
  refine uR ?_;refine vI ((k4.mono hG1)) (q) (rfl) (hlt) ((by rw[List.getElem?_map,hz];rfl)) ?_;refine uR ?_;apply EV.drawn 13 kR kR;intro xv yw;(repeat refine' DD ?_);refine' vJ ((ka4.mono hG1)) (q) (rfl) (hqa) ((by rw[List.getElem?_map,hza];rfl)) ?_;rotate_left;(repeat refine' DD ?_);refine' vJ ((kb4.mono hG1)) (q) (rfl) (hqb) ((by rw[List.getElem?_map,hzb];rfl)) ?_;rotate_left;(repeat refine' DD ?_);rw[hwz,show (z != z)=false from bne_self_eq_false _];(repeat refine' DD ?_);(refine DJ.nil (fun G hG hF=>?_);(case hS|hS2=>rfl));refine uR ?_;refine⟨q+1,⟨by rw[zai q (by omega)];rfl,trivial⟩,sB,trivial,sB,rfl,hlt,hG,by omega⟩
 ·simp only[nN]at hlt;refine uR ?_;have hwr:IntKind.i64.wrap (na.rows+nb.rows)=n.rows:=by rw[IntKind.wrap_i64];omega
  apply EV.drawn 20 kR kR;intro xv yw;(repeat refine' DD ?_);rw[hwr,show (n.rows == n.rows)=true from beq_self_eq_true _];(repeat (first|refine' DD ?_|(refine' DC (hadd) (h:=?_);rotate_left)|(refine' DC (hcmp) (h:=?_);rotate_left)));rw[qD (show zcA n.cost (na.cost+nb.cost)≥0 from Int.not_lt.1 fun k=>Rat.not_lt.2 hCC.cost ((zoP _ _).1 k))];(repeat refine' DD ?_);(refine DJ.nil (fun G hG hF=>?_);(case hS|hS2=>rfl));refine uR ?_;rfl
abbrev pgC (kd cl:Int) (sl sv vx:Value) (deep least:Int) (gq:Rat) (fv out:Value):List Value:=[.int .i64 kd,.int .i64 cl,sl,sv,vx,.int .i64 deep,.int .i64 least,.bool (decide (gq.num<0)),.int .u64 (lo gq.num.natAbs:Int),.string (zaj gq.num.natAbs),.int .u64 (lo (dk gq.den):Int),.string (zaj (dk gq.den)),fv,out]
def zgm (H:Hp) (f:FuncId) (ccs:List Value) (dv:Value) (p:GP):Prop:=∀G,H.Le G→∀(D:Ows) (s:Int),zgh dv D s→PW prog f ccs.toArray G D fun v ow G'=>IL G' v (p.cols s).1∧zgh dv ow (p.cols s).2
theorem zgm.mono {H H':Hp} {f:FuncId} {ccs:List Value} {dv:Value} {p:GP} (h:zgm H f ccs dv p) (k:H.Le H'):zgm H' f ccs dv p:=fun G hG=>h G (k.trans hG)
theorem zqD {R:List Value→Nd→Prop} {s:Nat} (hlen:∀c n,R c n→c.length=s) {css:List (List Value)} {A B:List Nd} {n:Nd} (h:css.length=(A++n::B).length∧∀(j:Nat) (c:List Value) (m:Nd),css[j]?=some c→(A++n::B)[j]?=some m→R c m) :
  ∃cA c cB,css=cA++c::cB∧cA.flatten.length=A.length*s∧R c n∧∀(c':List Value) (n':Nd),R c' n'→((cA++c'::cB).length=(A++n'::B).length∧∀(j:Nat) (x:List Value) (m:Nd),(cA++c'::cB)[j]?=some x→(A++n'::B)[j]?=some m→R x m):=by
 have hl:=h.1;rw[List.length_append,List.length_cons]at hl;have hlt:A.length<css.length:=by omega
 have e:css=css.take A.length++css[A.length]::css.drop (A.length+1):=by
  rw[←List.drop_eq_getElem_cons hlt,List.take_append_drop]
 have hla:(css.take A.length).length=A.length:=by rw[List.length_take];omega
 refine⟨_,_,_,e,?_,h.2 A.length _ n (qA hlt) (by rw[List.getElem?_append_right (qH _),Nat.sub_self];rfl),?_⟩
 ·have:∀l:List (List Value),(∀c,c∈l→c.length=s)→l.flatten.length=l.length*s:=by
   intro l
   induction l with
   | nil=>intro _;simp
   | cons c l ih=>intro h;rw[List.flatten_cons,List.length_append,h c (List.mem_cons_self ..),ih (fun c hc=>h c (List.mem_cons_of_mem _ hc)),List.length_cons,Nat.succ_mul];omega
  refine(this _ fun c hc=>?_).trans (by rw[hla]);obtain⟨j,hj⟩:=List.mem_iff_getElem?.1 (List.mem_of_mem_take hc);have hj':=(qE.1 hj).1;obtain⟨m,hm⟩:∃m,(A++n::B)[j]?=some m:=⟨_,qA (by rw[←h.1];exact hj')⟩;exact hlen _ _ (h.2 j c m hj hm)
 ·intro c' n' hc;refine⟨by simp only[List.length_append,List.length_cons,hla,List.length_drop];omega,fun j c1 n1 e1 e2=>?_⟩;rcases Nat.lt_trichotomy j A.length with hj | rfl | hj
  ·rw[List.getElem?_append_left oM,List.getElem?_take_of_lt hj]at e1;rw[List.getElem?_append_left hj]at e2;exact h.2 j c1 n1 e1 (by rw[List.getElem?_append_left hj];exact e2)
  ·rw[List.getElem?_append_right oM,hla,Nat.sub_self]at e1;rw[List.getElem?_append_right (qH _),Nat.sub_self]at e2;cases e1;cases e2;exact hc
  ·obtain⟨k,rfl⟩:∃k,j=A.length+(k+1):=⟨j-A.length-1,by omega⟩;rw[List.getElem?_append_right oM,hla,Nat.add_sub_cancel_left,List.getElem?_cons_succ,List.getElem?_drop]at e1;rw[List.getElem?_append_right oM,Nat.add_sub_cancel_left,List.getElem?_cons_succ]at e2;exact h.2 (A.length+(k+1)) c1 n1 (by rw[←e1];congr 1;omega) (by rw[List.getElem?_append_right oM,Nat.add_sub_cancel_left,List.getElem?_cons_succ];exact e2)
theorem zaW.midS {s:Nat} (hs:0<s) {e:TypeId} {v:Value} {m:Nat} {cA cB:List (List Value)} {c:List Value} {ow:Ows} (h:zaW e s v m (cA++c::cB).flatten ow) (hc:c.length=s):∃g cap sp,v=.slice (some ⟨g,0,none⟩) m cap∧ow=[(g,e,cA.flatten++(c++(cB.flatten++sp)))]∧∀c',c'.length=s→zaW e s v m (cA++c'::cB).flatten [(g,e,cA.flatten++(c'++(cB.flatten++sp)))]:=by
 have hl:=h.1;rcases h.2 with ⟨_,rfl,_⟩ | ⟨g,cap,sp,rfl,rfl,h1,h2,h3⟩
 ·simp[hc]at hl;omega
 ·have e1:∀c':List Value,(cA++c'::cB).flatten=cA.flatten++(c'++cB.flatten):=fun c'=>by simp
  rw[e1]at hl h1;refine⟨g,cap,sp,rfl,by rw[e1];simp,fun c' hc'=>⟨?_,.inr ⟨g,cap,sp,rfl,by rw[e1];simp,?_,h2,h3⟩⟩⟩
  ·rw[e1,←hl];simp[hc,hc']
  ·rw[e1,←h1];simp[hc,hc']
theorem zlo (o:Option (Int × Rat × Rat)):∃c t g,zpu o=.int .i64 c::(zah (zab t)++zah (zab g))∧∀c' t' g',o=some (c',t',g')→c'=c∧t'=t∧g'=g:=by
 cases o with
 | none=>exact⟨0,0,0,rfl,fun c' t' g' e=>by cases e⟩
 | some q=>obtain⟨c,t,g⟩:=q;exact⟨c,t,g,rfl,fun c' t' g' e=>by cases e;exact⟨rfl,rfl,rfl⟩⟩
theorem zoU {p:GP} {kd cl least deep:Int} {S:List Int→List Value} {wo:List Int→Rat} {la va xa:Option Addr} {ln lc vn vc xc:Nat} {f:FuncId} {ccs:List Value} {dv:Value} (hcl:∀s,(p.cols s).1.length≤1000) (hx0:0<p.X.length) (hX20:p.X.length≤20) (hxq:∀x,x∈p.X→∀q,q∈x→ht q≤60) (hpl:p.least=least) (hgr:sm p.gain):∀(d:Nat) {H:Hp} {b:Nat} {T:TypeId} {dd s:Int} {vr out:Value} {rows:List Int} {ns:List Nd} {css:List (List Value)} {D ow:Ows},
  zji H kd cl (.slice la ln lc) (.slice va vn vc) p S wo→QLL H (.slice xa p.X.length xc) p.X→zgm H f ccs dv p→dd+d=deep→0≤dd→deep≤10 →
  IL H vr rows→rows.length≤20→(∀r,r∈rows→0≤r∧r<(p.X.length:Int))→zgh dv D s→zaW 69 21 out ns.length css.flatten ow→zdm H css ns→ns.length+2 ^ (d+1)≤1000000 →
  PW prog 118 #[.pointer (some ⟨b,0,none⟩),vr,.int .i64 dd] H ((b,T,pgC kd cl (.slice la ln lc) (.slice va vn vc) (.slice xa p.X.length xc) deep least p.gain (.func (.func f) #[] ccs.toArray) out)::(D++ow)) fun v ow' H'=>v=.tuple #[]∧∃out' D' ow2 css',ow'=(b,T,pgC kd cl (.slice la ln lc) (.slice va vn vc) (.slice xa p.X.length xc) deep least p.gain (.func (.func f) #[] ccs.toArray) out')::(D'++ow2)∧zgh dv D' (p.grow d ns.length rows s).2∧zaW 69 21 out' (ns++(p.grow d ns.length rows s).1).length css'.flatten ow2∧zdm H' css' (ns++(p.grow d ns.length rows s).1):=by
 intro d
 induction d using Nat.strongRecOn with
 | _ d ih =>
  intro H b T dd s vr out rows ns css D ow hg hX hcf hdd hd0 hd1 hr hn hb hD hown hns hsz;obtain⟨oa,oc,rfl⟩:=hown.val;obtain⟨ra,rc,rfl⟩:=SlC.val hr;have hpw:2≤2 ^ (d+1):=by rw[Nat.pow_succ];have:=Nat.one_le_two_pow (n:=d);omega
  have hex:=zhb hb;have htop:=fun (G:Hp) (hG:H.Le G)=>hg.top G hG _ _ (hr.mono hG) oM;have hcost:=fun (G:Hp) (hG:H.Le G)=>hg.cost G hG _ _ (hr.mono hG) oM;have hmean:=fun (G:Hp) (hG:H.Le G)=>hg.mean G hG _ _ (hr.mono hG) oM;have hcnt:=fun (G:Hp) (hG:H.Le G)=>hg.counts G hG _ _ (hr.mono hG) oM;rw[hex]at htop hcost hmean hcnt;refine PW.body tO func118 rfl kR ntmps118 rfl rfl ?_;refine uR ?_;refine RP ?_;refine EVL.loadOwn tO rfl rfl rfl rfl rfl rfl (0) rfl (rfl) rfl rfl ?_;refine uR ?_;refine EV.meetK (ι:=Value × Ows × List Value) [0,1,2,6] [] (fun _=>[]) (fun _=>[]) (fun q=>(b,T,pgC kd cl (.slice la ln lc) (.slice va vn vc) (.slice xa p.X.length xc) deep least p.gain (.func (.func f) #[] ccs.toArray) q.1)::(D++q.2.1)) (fun q G=>H.Le G∧zaW 69 21 q.1 (ns.length+1) (css++[q.2.2]).flatten q.2.1∧zcR G q.2.2 (p.nd rows)) rfl rfl (fun _=>rfl) ?_ ?_
  ·refine EVI.start (some 36) (b,T,pgC kd cl (.slice la ln lc) (.slice va vn vc) (.slice xa p.X.length xc) deep least p.gain (.func (.func f) #[] ccs.toArray) (.slice oa ns.length oc)) ?_;refine IV 0 ?_;refine IV 1 ?_;refine IN 2 ?_;refine IF 3 ?_;refine IL0 4 ?_;refine IV 5 ?_;refine IV 6 ?_;refine IV 7 ?_;refine IN 8 ?_;refine IF 9 ?_;refine IL0 10 ?_;refine IV 11 ?_;refine IV 13 ?_;refine IN 14 ?_;refine IF 15 ?_;refine IL0 16 ?_;refine IV 17 ?_;refine IV 19 ?_;refine IN 20 ?_;refine IF 21 ?_;refine IL0 22 ?_;refine IV 23 ?_;refine IV 25 ?_;refine IN 26 ?_;refine IF 27 ?_;refine IL0 28 ?_;refine IV 29 ?_;refine EVI.one 12 0 (.inr rfl) kR rfl ?_;refine vA (htop _ (Hp.Le.refl _)) ?_;rintro _ G1 rfl hG1;refine EVL.nil ⟨rfl,?_⟩;refine EVI.one 18 0 (.inr rfl) kR rfl ?_;refine vA (hcost _ hG1) ?_;rintro _ G2 rfl hG2;refine EVL.nil ⟨rfl,?_⟩;refine EVI.one 24 0 (.inr rfl) kR rfl ?_;refine vA (hmean _ (hG1.trans hG2)) ?_;rintro _ G3 rfl hG3;refine EVL.nil ⟨rfl,?_⟩;refine EVI.one 30 0 (.inr rfl) kR rfl ?_;refine vA (hcnt _ ((hG1.trans hG2).trans hG3)) ?_;intro r4 G4 hr4 hG4;obtain⟨a7,c7,rfl⟩:=SlC.val hr4;refine EVL.nil ⟨rfl,?_⟩;refine EVI.one 31 0 (.inr rfl) kR rfl ?_
   (try refine zdP ?_);refine EVL.nil ⟨rfl,?_⟩;refine EVI.one 32 0 (.inr rfl) kR rfl ?_;refine EVL.lit tO rfl rfl rfl rfl rfl rfl rfl rfl rfl rfl rfl fun bl=>?_;refine EVL.nil ⟨rfl,?_⟩;refine EVI.one 33 1 (.inr rfl) kR rfl ?_;refine EVL.append tO rfl rfl rfl rfl rfl rfl rfl rfl rfl rfl rfl rfl ([(bl,_,_),(b,T,_)]++D) ow [] (by rw[qG];rfl) hown (zel.own 0 rfl rfl) rfl oM ?_;intro v2 ow2 hown2;obtain⟨oa2,oc2,rfl⟩:=hown2.val;refine EVL.nil ⟨rfl,?_⟩;refine EVI.one 34 1 (.inr rfl) kR rfl ?_;refine EVL.nilB rfl rfl rfl rfl rfl ?_;refine EVL.nil ⟨rfl,?_⟩;refine EVI.one 35 1 (.inr rfl) kR rfl ?_;refine EVL.fldB tO rfl rfl rfl rfl rfl rfl rfl ?_;refine EVL.nil ⟨rfl,?_⟩;refine EVI.one 36 1 (.inr rfl) kR rfl ?_;refine EVL.storeOwn tO rfl rfl rfl rfl rfl rfl ([(bl,_,_)]) (D++(ow2++[])) rfl rfl rfl rfl ((by exact qH 14)) (rfl) ?_;refine EVL.subOw [] [(bl,_,_)] _ rfl ?_;refine EVL.nil ⟨rfl,?_⟩;refine EVI.nil 0 (.inl kR) kR ?_
   have hpn:zcR G4 (([.int .i64 (-1),.int .i64 0,.int .i64 0,.int .i64 (rows.length:Int),.int .i64 (topN (p.cnt rows) (p.cnt rows).length:Nat),.bool false,.int .u64 0,.string ⟨#[]⟩,.int .u64 0,.string ⟨#[]⟩]:List Value)++(zah (zab (p.cost rows))++(zah (zab (p.mean rows))++[.slice a7 (p.cnt rows).length c7]))) (p.nd rows):=⟨a7,c7,hr4,by
    rw[show zah (zab (p.nd rows).at')=_ from zaz];rfl⟩
   exact⟨(_,ow2++[],_),trivial,sB,trivial,trivial,rfl,((hG1.trans hG2).trans hG3).trans hG4,(by rw[qG,List.flatten_append];exact hown2),hpn⟩
  ·rintro⟨out1,ow1,c1⟩ G1 ⟨hG1,hown1,hnd1⟩;dsimp only at hown1 hnd1;obtain⟨oa1,oc1,rfl⟩:=hown1.val;have hns1:zdm G1 (css++[c1]) (ns++[p.nd rows]):=zoZ (hns.mono hG1) hnd1;refine uR ?_;refine RP ?_;refine EVL.loadOwn tO rfl rfl rfl rfl rfl rfl (0) rfl (rfl) rfl rfl ?_;refine uR ?_;by_cases hd:d=0
   ·subst hd;obtain rfl:dd=deep:=by omega
    rw[qD (show dd≥dd from Int.le_refl _)];refine uR ?_;exact⟨rfl,_,D,ow1,_,rfl,hD,by rw[List.length_append];exact hown1,hns1⟩
   obtain⟨e,rfl⟩:∃e,d=e+1:=⟨d-1,by omega⟩;have ih':=@ih e oM;clear ih;rw[qC (show ¬dd≥deep by omega)];refine uR ?_;have hcolp:=hcf G1 hG1 D s hD
   have hbest:∀(G:Hp) (ca:Option Addr) (cc:Nat),G1.Le G→IL G (.slice ca (p.cols s).1.length cc) (p.cols s).1→PC prog 168 #[zaE kd cl (.slice la ln lc) (.slice va vn vc),.slice xa p.X.length xc,.slice ra rows.length rc,.slice ca (p.cols s).1.length cc,.int .i64 least] G fun r _=>r=.tuple #[.agg (zpu (p.best rows (p.cols s).1)).toArray,.bool (p.best rows (p.cols s).1).isSome]:=fun G ca cc hG hc =>
    zoT (hg.ok.mono (hG1.trans hG)) hg.pok (hX.mono (hG1.trans hG)) (hr.mono (hG1.trans hG)) hn hb hc (qI (hcl s) oM) (fun x hx q hq=>qI (hxq x hx q hq) oM) hpl
   obtain⟨c,t,g,hcut,hval⟩:=zlo (p.best rows (p.cols s).1);rw[hcut]at hbest;refine EV.meetK (ι:=Ows) [0,1,2,6] [] (fun _=>[(7,.p 7 0),(8,.v (.bool (p.best rows (p.cols s).1).isSome))]) (fun _=>[(7,250,.int .i64 c::(zah (zab t)++zah (zab g)))]) (fun q=>(b,T,pgC kd cl (.slice la ln lc) (.slice va vn vc) (.slice xa p.X.length xc) deep least p.gain (.func (.func f) #[] ccs.toArray) (.slice oa1 (ns.length+1) oc1))::(q++ow1)) (fun q G=>G1.Le G∧zgh dv q (p.cols s).2) rfl rfl (fun _=>rfl) ?_ ?_
   ·refine EVI.start none (b,T,pgC kd cl (.slice la ln lc) (.slice va vn vc) (.slice xa p.X.length xc) deep least p.gain (.func (.func f) #[] ccs.toArray) (.slice oa1 (ns.length+1) oc1)) ?_;refine IV 0 ?_;refine IN 1 ?_;refine IF 2 ?_;refine IL0 3 ?_;refine IV 4 ?_;refine IN 5 ?_;refine IF 6 ?_;refine IL0 7 ?_;refine IV 8 ?_;refine IV 9 ?_;refine IN 10 ?_;refine IF 11 ?_;refine IL0 12 ?_;refine IV 14 ?_;refine IN 15 ?_;refine IF 16 ?_;refine IF 17 ?_;refine IL0 18 ?_;refine EVI.two 13 23 0 (.inr rfl) kR rfl rfl ?_ ?_
    ·(first|refine EVL.swapOw ([(b,T,_)]) (D++ow1) (rfl) ?_|refine EV.swapOw ([(b,T,_)]) (D++ow1) (rfl) ?_);refine EVL.callWC rfl rfl rfl rfl (cs:=ccs) rfl (vs:=[]) rfl D (ow1++[(b,T,_)]) (List.append_assoc _ _ _) hcolp ?_;rintro v2 D2 G2 ⟨hil,hD2⟩ hG2;obtain⟨ca,cc,rfl⟩:=SlC.val hil;(first|refine EVL.swapOw (D2++ow1) ([(b,T,_)]) ((List.append_assoc _ _ _).symm) ?_|refine EV.swapOw (D2++ow1) ([(b,T,_)]) ((List.append_assoc _ _ _).symm) ?_);refine EVL.nil ⟨rfl,?_⟩;refine EVI.two 19 23 0 (.inr rfl) kR rfl rfl ?_ ?_
     ·refine vA (hbest _ _ _ hG2 hil) ?_;rintro _ G3 rfl hG3;refine EVL.nil ⟨rfl,?_⟩;refine IV 20 ?_;refine IV 21 ?_;refine IV 22 ?_;refine EVI.one 23 0 (.inr rfl) kR rfl ?_
      (try refine zdP ?_);refine EVL.nil ⟨rfl,?_⟩;refine EVI.one 24 0 (.inr rfl) kR rfl ?_
      (try refine zdP ?_);refine EVL.nil ⟨rfl,?_⟩;refine EVI.one 25 0 (.inr rfl) kR rfl ?_
      (try refine zdP ?_);refine EVL.nil ⟨rfl,?_⟩;refine EVI.nil 0 (.inr rfl) kR ?_;exact⟨D2,⟨rfl,rfl,trivial⟩,sB,⟨rfl,trivial⟩,trivial,rfl,hG2.trans hG3,hD2⟩
     ·(try refine zdP ?_);refine EVL.nil ⟨rfl,?_⟩;refine EVI.one 19 0 (.inr rfl) kR rfl ?_;refine vA (hbest _ _ _ hG2 hil) ?_;rintro _ G3 rfl hG3;refine EVL.nil ⟨rfl,?_⟩;refine IV 20 ?_;refine IV 21 ?_;refine IV 22 ?_;refine EVI.one 24 0 (.inr rfl) kR rfl ?_
      (try refine zdP ?_);refine EVL.nil ⟨rfl,?_⟩;refine EVI.one 25 0 (.inr rfl) kR rfl ?_
      (try refine zdP ?_);refine EVL.nil ⟨rfl,?_⟩;refine EVI.nil 0 (.inr rfl) kR ?_;exact⟨D2,⟨rfl,rfl,trivial⟩,sB,⟨rfl,trivial⟩,trivial,rfl,hG2.trans hG3,hD2⟩
    ·(try refine zdP ?_);refine EVL.nil ⟨rfl,?_⟩;refine EVI.one 13 0 (.inr rfl) kR rfl ?_;(first|refine EVL.swapOw ([(b,T,_)]) (D++ow1) (rfl) ?_|refine EV.swapOw ([(b,T,_)]) (D++ow1) (rfl) ?_);refine EVL.callWC rfl rfl rfl rfl (cs:=ccs) rfl (vs:=[]) rfl D (ow1++[(b,T,_)]) (List.append_assoc _ _ _) hcolp ?_;rintro v2 D2 G2 ⟨hil,hD2⟩ hG2;obtain⟨ca,cc,rfl⟩:=SlC.val hil;(first|refine EVL.swapOw (D2++ow1) ([(b,T,_)]) ((List.append_assoc _ _ _).symm) ?_|refine EV.swapOw (D2++ow1) ([(b,T,_)]) ((List.append_assoc _ _ _).symm) ?_);refine EVL.nil ⟨rfl,?_⟩;refine EVI.one 19 0 (.inr rfl) kR rfl ?_;refine vA (hbest _ _ _ hG2 hil) ?_;rintro _ G3 rfl hG3;refine EVL.nil ⟨rfl,?_⟩;refine IV 20 ?_;refine IV 21 ?_;refine IV 22 ?_;refine EVI.one 24 0 (.inr rfl) kR rfl ?_
     (try refine zdP ?_);refine EVL.nil ⟨rfl,?_⟩;refine EVI.one 25 0 (.inr rfl) kR rfl ?_
     (try refine zdP ?_);refine EVL.nil ⟨rfl,?_⟩;refine EVI.nil 0 (.inr rfl) kR ?_;exact⟨D2,⟨rfl,rfl,trivial⟩,sB,⟨rfl,trivial⟩,trivial,rfl,hG2.trans hG3,hD2⟩
   ·rintro D2 G2 ⟨hG2,hD2⟩;clear hbest hcolp;have hH2:=hG1.trans hG2;refine uR ?_
    cases hbe:p.best rows (p.cols s).1 with
    | none =>
     have hcut0:p.cut rows (p.cols s).1=none:=by unfold GP.cut;rw[hbe]
     rw[GP.grow_none hcut0];rw[show (none:Option (Int × Rat × Rat)).isSome=false from rfl];apply EV.drawn 13 kR kR;intro xv yw;(repeat refine' DD ?_);(refine DJ.nil (fun G hG hF=>?_);(case hS|hS2=>rfl));refine uR ?_;exact⟨rfl,_,D2,ow1,_,rfl,hD2,by rw[List.length_append];exact hown1,hns1.mono (hG2.trans hG)⟩
    | some q =>
     obtain⟨c',t',g'⟩:=q;obtain⟨rfl,rfl,rfl⟩:=hval c' t' g' hbe;rw[show (some (c',t',g')).isSome=true from rfl]
     have htg:sm t'∧sm g':=by
      have hf:=zdb (zbb p.X p.cost rows (max 1 p.least) (p.cols s).1);rw[show (zbb p.X p.cost rows (max 1 p.least) (p.cols s).1).foldl zoY none=some (c',t',g') from hbe]at hf;have:=zmn hg.small oM hb hxq hf.1;exact⟨zaG this.1 oM,zaG this.2 oM⟩
     obtain⟨htb,hgb⟩:=htg;have hcmp:=zcN g' p.gain hgb hgr;apply EV.drawn 13 kR kR;intro xv yw;(repeat (first|refine' DD ?_|refine' vN ?_|refine' vF ?_));refine' DJ.ofVal (zaa.loadOwn tO rfl rfl rfl rfl (0) rfl (rfl) rfl rfl) rfl rfl rfl ?_;rotate_left;(repeat (first|refine' DD ?_|(refine' DC (hcmp) (h:=?_);rotate_left)));(refine DJ.nil (fun G4 hG4 hF4=>?_);(case hS|hS2=>rfl));refine uR ?_;by_cases hle:g'≤p.gain
     ·have hcut0:p.cut rows (p.cols s).1=none:=by unfold GP.cut;rw[hbe];exact if_pos hle
      rw[GP.grow_none hcut0];rw[qD (zjO hle)];refine uR ?_;exact⟨rfl,_,D2,ow1,_,rfl,hD2,by rw[List.length_append];exact hown1,hns1.mono (hG2.trans hG4)⟩
     have hcut0:p.cut rows (p.cols s).1=some (c',t'):=by unfold GP.cut;rw[hbe];exact if_neg hle
     rw[GP.grow_some hcut0];rw[qC (Int.not_le.2 (zee.2 (Rat.not_le.1 hle)))];have hH4:=hH2.trans hG4;refine uR ?_;apply EV.drawn 14 kR kR;intro xv yw;(repeat (first|refine' DD ?_|refine' vN ?_|refine' vF ?_));refine' DJ.ofVal (zaa.loadOwn tO rfl rfl rfl rfl (0) rfl (rfl) rfl rfl) rfl rfl rfl ?_;rotate_left;(repeat (first|refine' DD ?_|refine' vN ?_|refine' vF ?_));refine' vB (cO func169) (fun G hG hd=>zo8 (col:=c') (t:=t') (hX.mono (hH4.trans hG)) (hr.mono (hH4.trans hG)) oM (fun x hx q hq=>zaG (hxq x hx q hq) oM) htb) (fun _ _ _ h k=>(by obtain⟨u,w,e,hu,hw⟩:=h;exact⟨u,w,e,hu.mono k,hw.mono k⟩)) ?_;rotate_left;refine' DJ.copy (9) (by first|exact .inl rfl|exact .inr rfl) rfl rfl rfl id rfl kR ?_;rotate_left;refine' DJ.extract (9) rfl rfl rfl rfl rfl kR (fun G hd=>(by obtain⟨u,w,e,_⟩:=hd.head kR;exact⟨_,e,Nat.zero_lt_succ _⟩)) ?_;rotate_left;refine' DJ.extract (9) rfl rfl rfl rfl rfl kR (fun G hd=>(by obtain⟨u,w,e,_⟩:=hd.head kR;exact⟨_,e,Nat.lt_succ_self _⟩)) ?_;rotate_left;refine' DJ.copy (9) (.inr rfl) rfl rfl rfl (zdI 0) rfl kR ?_;rotate_left;(refine DJ.nil (fun G5 hG5 hF5=>?_);(case hS|hS2=>rfl));obtain⟨⟨u5,w5,e5,hu5,hw5⟩,_⟩:=hF5;rw[e5];rw[zhb hb]at hu5 hw5;obtain⟨ua,uc,rfl⟩:=SlC.val hu5;obtain⟨wa,wc,rfl⟩:=SlC.val hw5;rw[show zdI 0 (Value.tuple #[.slice ua (zaZ p.X c' t' rows).length uc,.slice wa (zaC p.X c' t' rows).length wc])=.slice ua (zaZ p.X c' t' rows).length uc from rfl,show zdI 1 (Value.tuple #[.slice ua (zaZ p.X c' t' rows).length uc,.slice wa (zaC p.X c' t' rows).length wc])=.slice wa (zaC p.X c' t' rows).length wc from rfl];have hH5:=hH4.trans hG5;have hns5:=hns1.mono (hG2.trans (hG4.trans hG5));have wd:IntKind.i64.wrap (dd+1)=dd+1:=by rw[IntKind.wrap_i64];omega
     have hlo3:(zaZ p.X c' t' rows).length≤20:=qI (List.length_filter_le _ _) hn;have hhi3:(zaC p.X c' t' rows).length≤20:=qI (List.length_filter_le _ _) hn;have hlom:∀r,r∈zaZ p.X c' t' rows→0≤r∧r<(p.X.length:Int):=fun r hr=>hb r (List.mem_filter.mp hr).1;have hhim:∀r,r∈zaC p.X c' t' rows→0≤r∧r<(p.X.length:Int):=fun r hr=>hb r (List.mem_filter.mp hr).1;have hl1:(ns++[p.nd rows]).length=ns.length+1:=by simp
     have hp2:2 ^ (e+1+1)=2 ^ (e+1)+2 ^ (e+1):=by rw[Nat.pow_succ];omega
     have hp3:2≤2 ^ (e+1):=by rw[Nat.pow_succ];have:=Nat.one_le_two_pow (n:=e);omega
     have hL:=ih' (H:=G5) (b:=b) (T:=T) (dd:=dd+1) (s:=(p.cols s).2) (ns:=ns++[p.nd rows]) (hg.mono hH5) (hX.mono hH5) (hcf.mono hH5) oM oM hd1 hu5 hlo3 hlom hD2 (by rw[hl1];exact hown1) hns5 (by rw[hl1];omega);rw[hl1]at hL;have hLl:=(p.grow_len e (ns.length+1) (zaZ p.X c' t' rows) (p.cols s).2).2;generalize hLe:p.grow e (ns.length+1) (zaZ p.X c' t' rows) (p.cols s).2=Lp at *
     obtain⟨Ls,s2⟩:=Lp;dsimp only at hL hLl;refine uR ?_;refine RP ?_;refine EVL.loadOwn tO rfl rfl rfl rfl rfl rfl (0) rfl (rfl) rfl rfl ?_;refine uR ?_;rw[wd];refine EVL.callW rfl rfl rfl rfl rfl _ [] (qG _).symm hL ?_;rintro _ _ G8 ⟨rfl,out2,D3,ow3,css3,rfl,hD3,hown3,hns3⟩ hG8;rw[qG ((b,T,_)::(D3++ow3))];have hl2:(ns++[p.nd rows]++Ls).length=ns.length+1+Ls.length:=by simp;omega
     rw[hl2]at hown3;obtain⟨oa3,oc3,rfl⟩:=hown3.val;have hH8:=hH5.trans hG8;have hR:=ih' (H:=G8) (b:=b) (T:=T) (dd:=dd+1) (s:=s2) (ns:=ns++[p.nd rows]++Ls) (hg.mono hH8) (hX.mono hH8) (hcf.mono hH8) oM oM hd1 (hw5.mono hG8) hhi3 hhim hD3 (by rw[hl2];exact hown3) hns3 (by rw[hl2];omega);rw[hl2]at hR;generalize hRe:p.grow e (ns.length+1+Ls.length) (zaC p.X c' t' rows) s2=Rp at *
     obtain⟨Rs,s3⟩:=Rp;dsimp only at hR;refine uR ?_;refine RP ?_;refine EVL.loadOwn tO rfl rfl rfl rfl rfl rfl (0) rfl (rfl) rfl rfl ?_;refine uR ?_;rw[wd];refine EVL.callW rfl rfl rfl rfl rfl _ [] (qG _).symm hR ?_;rintro _ _ G10 ⟨rfl,out4,D4,ow4,css4,rfl,hD4,hown4,hns4⟩ hG10;rw[qG ((b,T,_)::(D4++ow4))];rw[show ns++[p.nd rows]++Ls++Rs=ns++p.nd rows::(Ls++Rs) by simp]at hown4 hns4;obtain⟨cA,cc1,cB,ecs,hAl,⟨a7,c7,hil7,rfl⟩,hput⟩:=zqD (fun c n h=>zcR.len h) hns4;rw[ecs]at hown4;clear ecs;obtain⟨go,capo,sp,rfl,rfl,hback⟩:=hown4.midS oM rfl;have hl3:(ns++p.nd rows::(Ls++Rs)).length=ns.length+1+Ls.length+Rs.length:=by simp;omega
     refine uR ?_;refine RP ?_;refine EVL.loadOwn tO rfl rfl rfl rfl rfl rfl (0) rfl (rfl) rfl rfl ?_;refine uR ?_;refine EVL.idxB tO rfl rfl rfl rfl rfl rfl rfl rfl rfl (ns.length) (ns.length*21) (rfl) ((by rw[hl3];omega)) (rfl) ?_;refine uR ?_;(first|refine EVL.unbox (7) rfl fun gc=>?_|refine EV.unbox (7) rfl fun gc=>?_);refine EVI.start (some 21) (gc,250,.int .i64 c'::(zah (zab t')++zah (zab g'))) ?_;refine IV 0 ?_;refine IV 1 ?_;refine IV 2 ?_;refine IV 3 ?_;refine IF 4 ?_;refine IL0 5 ?_;refine IF 6 ?_;refine IL0 7 ?_;refine IV 8 ?_;refine IV 9 ?_;refine IN 10 ?_;refine IF 11 ?_;refine EVI.one 12 0 (.inr rfl) kR rfl ?_;refine EVL.storeOwn tO rfl rfl rfl rfl rfl rfl ((gc,_,_)::(b,T,_)::D4) ([]) rfl rfl rfl rfl ((ze5 (f:=0) hAl rfl (by show 0+1≤21;omega))) (zhx (f:=0) hAl rfl rfl (by show 0+1≤21;omega) rfl) ?_;refine EVL.nil ⟨rfl,?_⟩;refine IN 13 ?_;refine IF 14 ?_;refine EVI.one 15 0 (.inr rfl) kR rfl ?_;refine EVL.storeOwn tO rfl rfl rfl rfl rfl rfl ((gc,_,_)::(b,T,_)::D4) ([]) rfl rfl rfl rfl ((ze5 (f:=5) hAl rfl (by show 5+5≤21;omega))) (zhx (f:=5) hAl rfl rfl (by show 5+5≤21;omega) rfl) ?_;refine EVL.nil ⟨rfl,?_⟩;refine IN 16 ?_;refine IF 17 ?_;refine EVI.one 18 0 (.inr rfl) kR rfl ?_;refine EVL.storeOwn tO rfl rfl rfl rfl rfl rfl ((gc,_,_)::(b,T,_)::D4) ([]) rfl rfl rfl rfl ((ze5 (f:=1) hAl rfl (by show 1+1≤21;omega))) (zhx (f:=1) hAl rfl rfl (by show 1+1≤21;omega) rfl) ?_;refine EVL.nil ⟨rfl,?_⟩;refine IN 19 ?_;refine IF 20 ?_;refine EVI.one 21 0 (.inr rfl) kR rfl ?_;refine EVL.storeOwn tO rfl rfl rfl rfl rfl rfl ((gc,_,_)::(b,T,_)::D4) ([]) rfl rfl rfl rfl ((ze5 (f:=2) hAl rfl (by show 2+1≤21;omega))) (zhx (f:=2) hAl rfl rfl (by show 2+1≤21;omega) rfl) ?_;refine EVL.subOw [] [(gc,_,_)] _ rfl ?_;refine EVL.nil ⟨rfl,?_⟩;refine EVI.nil 0 (.inl kR) kR ?_;refine uR ?_;obtain⟨n2,hn2⟩:∃n2:Nd,({ p.nd rows with col:=c',left:=((ns.length+1:Nat):Int),right:=((ns.length+1+Ls.length:Nat):Int),at':=t' }:Nd)=n2:=⟨_,rfl⟩
     have hpn:zcR G10 ([.int .i64 c',.int .i64 ((ns.length+1:Nat):Int),.int .i64 ((ns.length+1+Ls.length:Nat):Int),.int .i64 (p.nd rows).rows,.int .i64 (p.nd rows).cls]++(zah (zab t')++(zah (zab (p.nd rows).cost)++(zah (zab (p.nd rows).value)++[.slice a7 (p.nd rows).counts.length c7])))) n2:=by
      subst hn2;exact⟨a7,c7,hil7,rfl⟩
     rw[hn2];have hl4:(ns++n2::(Ls++Rs)).length=(ns++p.nd rows::(Ls++Rs)).length:=by simp
     refine⟨rfl,_,D4,_,_,rfl,hD4,?_,hput _ _ hpn⟩;rw[hl4];exact hback _ rfl
section
variable {P:Program} {n:Nat} {ops:Array Oper} {fuel:Nat} {L:Array Bool} {env:Env} {bx:Bxs} {H:Hs} {K:Env→Bxs→Hs→Prop} {τ:Tab} {d:Nat} {o:Oper} {v:Value}
end
set_option maxRecDepth 100000 in
theorem zbN {H:Hp} {kd cl w:Int} {ns:List Nd} {cs:List Value} (ht:zds H cs kd cl w ns) (hok:zb0 ⟨kd,cl,w,ns⟩):PC prog 15 #[.agg cs.toArray] H fun r _=>r=.int .i64 0:=by
 obtain⟨a,cp,css,rfl,hns,hsl⟩:=ht;obtain⟨hkd,hw,hln,⟨hh,hh10,hsub⟩,hall⟩:=hok;dsimp only at hkd hw hln hsub hall;have hpos:=hsub.end0;refine BD func15 ntmps15 ?_;refine uR ?_;refine EVL.meetK (ι:=Bool) [1,2] [1] (fun _=>[(17,.v (.bool false))]) (fun _=>[]) (fun _=>[]) (fun _ G=>H.Le G) rfl rfl (fun _=>rfl) ?_ ?_
 ·rcases hkd with ⟨rfl,_⟩ | ⟨rfl,rfl⟩
  ·try refine uR ?_
   exact⟨true,⟨rfl,trivial⟩,sB,trivial,sB,rfl,Hp.Le.refl _⟩
  ·try refine uR ?_
   exact⟨true,⟨rfl,trivial⟩,sB,trivial,sB,rfl,Hp.Le.refl _⟩
 rintro _ G1 hG1;refine uR ?_;rw[qC (show ¬w<1 by omega)];refine uR ?_;rw[qC (show ¬w>20 by omega)];refine uR ?_;rw[qC (show ¬(ns.length:Int)<1 by omega)];refine uR ?_;rw[qC (show ¬(ns.length:Int)>2000 by omega)];refine uR ?_;refine EVL.meetK (ι:=Bool) [1,2] [1] (fun _=>[(60,.v (.bool false))]) (fun _=>[]) (fun _=>[]) (fun _ G=>H.Le G) rfl rfl (fun _=>rfl) ?_ ?_
 ·rcases hkd with ⟨rfl,h1,h2⟩ | ⟨rfl,rfl⟩
  ·try refine uR ?_
   rw[qC (show ¬cl<1 by omega)];refine uR ?_;rw[qC (show ¬cl>12 by omega)];refine uR ?_;exact⟨true,⟨rfl,trivial⟩,sB,trivial,sB,rfl,hG1⟩
  ·try refine uR ?_
   exact⟨true,⟨rfl,trivial⟩,sB,trivial,sB,rfl,hG1⟩
 rintro _ G2 hG2;refine uR ?_;(first|refine EVL.unbox (3) rfl fun g3=>?_|refine EV.unbox (3) rfl fun g3=>?_);refine uR ?_;refine EVL.callW rfl rfl rfl rfl rfl ([(g3,136,zi5 kd cl w (.slice a ns.length cp) 0)]) ([]) rfl (znj oM hsub (hns.mono hG2) (hsl.mono hG2) (deep:=0) (qH _)) ?_;rintro _ _ G3 ⟨rfl,far,rfl,hfar⟩ hG3;refine uR ?_;rw[show ((ns.length:Int) != (ns.length:Int))=false from bne_self_eq_false _];refine uR ?_;refine EVL.fldB tO rfl rfl rfl rfl rfl rfl rfl ?_;refine EVL.loadOwn tO rfl rfl rfl rfl rfl rfl (0) rfl (rfl) rfl rfl ?_;refine uR ?_;rw[qC (show ¬far>10 by omega)];refine uR ?_;refine EV.loopK (ι:=Nat) [1,80,81] [1] (fun q=>[(82,.v (.int .i64 (q:Int)))]) (fun _=>[]) (fun _=>[(g3,_,zi5 kd cl w (.slice a ns.length cp) far)]) (fun q _=>q≤ns.length) (fun q=>ns.length-q) (0) rfl rfl ⟨rfl,trivial⟩ trivial rfl (fun _=>rfl) (Nat.zero_le _) ?_;rintro i G4 hG4 hi;have hH4:=hG2.trans (hG3.trans hG4);refine uR ?_;refine EV.cond rfl (fun hlt=>?_) (fun hlt=>?_)
 ·simp only[nN]at hlt;obtain⟨n,hn,hN,hC⟩:=hall i hlt;obtain⟨c,hcut,hnd⟩:=(hns.mono hH4).get hn;obtain⟨a7,c7,rfl,_⟩:=hnd.cells;refine uR ?_;refine EVL.idxM tO rfl rfl rfl rfl rfl rfl rfl rfl rfl ((hsl.mono hH4)) (i) (rfl) (hlt) (hcut) ?_
  repeat (first|refine RUN ?_|refine CV (ziE hkd hnd hN) ?_|refine CE (ziE hkd hnd hN) ?_)
  refine⟨i+1,⟨by rw[zai i (by omega)];rfl,trivial⟩,sB,trivial,sB,rfl,hlt,Hp.Le.refl _,by omega⟩
 ·simp only[nN]at hlt;refine uR ?_;refine EV.loopK (ι:=Nat) [1,92,93] [1] (fun q=>[(94,.v (.int .i64 (q:Int)))]) (fun _=>[]) (fun _=>[(g3,_,zi5 kd cl w (.slice a ns.length cp) far)]) (fun q _=>q≤ns.length) (fun q=>ns.length-q) (0) rfl rfl ⟨rfl,trivial⟩ trivial rfl (fun _=>rfl) (Nat.zero_le _) ?_;rintro j G5 hG5 hj;have hH5:=hH4.trans hG5;refine uR ?_;refine EV.cond rfl (fun hlj=>?_) (fun hlj=>?_)
  ·simp only[nN]at hlj;obtain⟨n,hn,hN,hC⟩:=hall j hlj;obtain⟨c,hcut,hnd⟩:=(hns.mono hH5).get hn;obtain⟨a7,c7,rfl,_⟩:=hnd.cells;refine uR ?_;refine EVL.idxM tO rfl rfl rfl rfl rfl rfl rfl rfl rfl ((hsl.mono hH5)) (j) (rfl) (hlj) (hcut) ?_;refine uR ?_;by_cases hcol:n.col = -1
   ·apply EV.drawn 20 kR kR;intro xv yw;(repeat refine' DD ?_);rw[show (n.col != -1)=false by rw[hcol];rfl];(repeat refine' DD ?_);(refine DJ.nil (fun G hG hF=>?_);(case hS|hS2=>rfl));refine uR ?_;refine⟨j+1,⟨by rw[zai j (by omega)];rfl,trivial⟩,sB,trivial,sB,rfl,hlj,hG,by omega⟩
   ·obtain⟨hc0,hl0,hr0,na,nb,hna,hnb,hCC⟩:=hC hcol;have hla:=(qE.1 hna).1;have hlb:=(qE.1 hnb).1;obtain⟨na',ena,hNa,_⟩:=hall _ hla;obtain⟨nb',enb,hNb,_⟩:=hall _ hlb;cases hna.symm.trans ena;cases hnb.symm.trans enb;obtain⟨ca,hcuta,hnda⟩:=(hns.mono hH5).get hna;obtain⟨cb,hcutb,hndb⟩:=(hns.mono hH5).get hnb;obtain⟨xa7,xc7,rfl,_⟩:=hnda.cells;obtain⟨ya7,yc7,rfl,_⟩:=hndb.cells;apply EV.drawn 20 kR kR;intro xv yw;(repeat refine' DD ?_);rw[show (n.col != -1)=true from bne_iff_ne.2 hcol];(repeat refine' DD ?_);refine' DJ.idxM tO rfl rfl rfl rfl rfl rfl rfl rfl rfl ((hsl.mono hH5)) (n.left.toNat) ((by rw[Int.toNat_of_nonneg hl0])) (hla) (hcuta) ?_;rotate_left;(repeat refine' DD ?_);refine' DJ.idxM tO rfl rfl rfl rfl rfl rfl rfl rfl rfl ((hsl.mono hH5)) (n.right.toNat) ((by rw[Int.toNat_of_nonneg hr0])) (hlb) (hcutb) ?_;rotate_left;(repeat refine' DD ?_);refine' vC (cO func70) (fun G hG hd=>zoR hkd (hnd.mono hG) (hnda.mono hG) (hndb.mono hG) hN hNa hNb hCC) ?_;rotate_left;(repeat refine' DD ?_);(refine DJ.nil (fun G hG hF=>?_);(case hS|hS2=>rfl));refine uR ?_;refine⟨j+1,⟨by rw[zai j (by omega)];rfl,trivial⟩,sB,trivial,sB,rfl,hlj,hG,by omega⟩
  ·try refine uR ?_
   rfl
theorem Sub.at {T:List Nd} {w:Int} {k h e:Nat} (h0:Sub T w k h e):∀i,k≤i→i<e→∃h' e',Sub T w i h' e':=by
 induction h0 with
 | @leaf k h n a b c d e =>
  intro i h1 h2;obtain rfl:i=k:=by omega
  exact⟨0,_,.leaf a b c d e⟩
 | @node k h m e n a b c d f s1 s2 ih1 ih2 =>
  intro i h1 h2;by_cases h3:i=k
  ·subst h3;exact⟨_,_,.node a b c d f s1 s2⟩
  ·by_cases h4:i<m
   ·exact ih1 i oM h4
   ·exact ih2 i oM h2
end
section
end
section
open Go.RowKit _root_.Go.Proofs.Tryz
end
section
end
section
open Go.RowKit _root_.Go.Proofs.Tryz
end
section
open Go.ChangeShapes Go.WideShapes Go.ChangeAt Go.RowKit
def zq3 (W:World):Hp:=fun b=>match W.heap[b]? with
 | some (.cells c _ _)=>some c
 | _=>none
theorem fits_hpOf (W:World):Fits (zq3 W) W:=fun b c h=>by
 unfold zq3 at h;split at h
 ·rename_i c' T fz hb;cases h;exact⟨T,fz,hb⟩
 ·cases h
section
variable {H:Type} {enc:TypeId × Value→H} {P:Program} {w:World} {base:Nat} {spare:Nat→Bool} {held:Bool}
theorem zfB {t e:TypeId} {k:IntKind} {fuel:Nat} {cs:List Value} {x:DataW H × List MemPlace} (ht:P.underlying t=some (.slice e)) (he:P.underlying e=some (.int k)) (hc:P.cellsOf e=1) (h:DataW.trod enc P w base spare held fuel t cs=some x) :
  ∃a len cap zs,cs=[.slice a len cap]∧SlN (fun z:Int=>Value.int k z) (zq3 w) (.slice a len cap) zs∧∀n∈zs,(Lit.int k n).wf=true:=by
 rcases open_ints ht he hc h with ⟨rfl,_⟩ | ⟨x,len,cap,zs,rfl,_,hl,hm,hz,_,hcell,hw⟩
 ·exact⟨none,0,0,[],rfl,zpD _ _,fun n hn=>by cases hn⟩
 ·have hzl:len≤zs.length:=by rw[hz];split <;> omega
  refine⟨some x,len,cap,zs.take len,rfl,?_,fun n hn=>hw n (List.mem_of_mem_take hn)⟩;have hlen:(zs.take len).length=len:=by rw[List.length_take];omega
  unfold SlN;rw[hlen];refine⟨by rw[List.length_map,hlen,Nat.mul_one],?_⟩;by_cases h0:len=0
  ·subst h0;exact .inl ⟨rfl,some x,cap,rfl⟩
  ·right;have h1:=hcell 0 oM;obtain⟨b,off,sp⟩:=x
   have hsp:sp=none:=by
    cases sp with
    | none=>rfl
    | some s=>simp only[World.cell?,Addr.add]at h1;split at h1 <;> simp_all
   subst hsp
   have hb:∃c,zq3 w b=some c∧∀i,i<zs.length→c[off+i]?=some (.int k (zs.getD i 0)):=by
    simp only[Addr.add_mid]at hcell;unfold World.cell? at hcell;unfold zq3;simp only at hcell
    cases hw':w.heap[b]? with
    | none=>have:=hcell 0 oM;rw[hw']at this;cases this
    | some o =>
     cases o with
     | cells c T fz=>exact⟨c,rfl,fun i hi=>by have:=hcell i hi;rw[hw']at this;simpa using this⟩
     | _=>have:=hcell 0 oM;rw[hw']at this;cases this
   obtain⟨c,hc1,hc2⟩:=hb;refine⟨b,off,cap,c,rfl,hl,hc1,fun j y hj=>?_⟩;rw[List.getElem?_map,List.getElem?_take]at hj;split at hj
   ·rename_i hjl;rw[hc2 j oM,←hj,qB,qA (by omega)];rfl
   ·cases hj
end
theorem zbk {z:Int} (h:(Lit.int .i64 z).wf=true):-9223372036854775808≤z∧z<9223372036854775808:=by
 have:=bounds_i64 h;omega
end
section
open Go.ChangeShapes Go.WideShapes Go.ChangeAt Go.RowKit
end
section
open Go.RowKit _root_.Go.Proofs.Tryz
theorem zpb {α:Type} {l:List α} {k:Nat} (h:k<l.length):∃A c B,l=A++c::B∧A.length=k:=⟨l.take k,l[k],l.drop (k+1),by rw[List.getElem_cons_drop,List.take_append_drop],by rw[List.length_take];omega⟩
section
variable {P:Program} {n:Nat} {ops:Array Oper} {o:Oper} {rest:List Oper} {env:Env} {bx:Bxs} {H:Hs} {Q:EQ} {τ:Tab} {d:Nat}
end
end
section
instance:Nonempty Nd:=⟨⟨0,0,0,0,0,0,0,0,[]⟩⟩
end
section
open Go.RowKit _root_.Go.Proofs.Tryz
theorem znR {H:Hp} {v:Value} {X:List (List Rat)} {w:Nat} (h:QLL H v X) (h1:1≤X.length) (h2:X.length≤300) (hw:1≤w∧w≤20) (hx:∀x,x∈X→x.length=w):PC prog 117 #[v] H fun r _=>r=.bool true:=by
 obtain⟨vs,hvs,hs⟩:=h;obtain⟨a,c,rfl⟩:=SlC.val hs;obtain⟨x0,hx0⟩:=gE h1;obtain⟨a0,c0,hv0,_⟩:=hvs.at hx0;have hl0:=hx x0 (qF hx0);rw[hl0]at hv0;refine BD func117 ntmps117 ?_;refine uR ?_;rw[qC (show ¬(X.length:Int)<1 by omega)];refine uR ?_;rw[qC (show ¬(X.length:Int)>300 by omega)];refine uR ?_;refine vI (hs) (0) (rfl) (h1) (hv0) ?_;refine uR ?_;rw[qC (show ¬(w:Int)<1 by omega)];refine uR ?_;refine vI (hs) (0) (rfl) (h1) (hv0) ?_;refine uR ?_;rw[qC (show ¬(w:Int)>20 by omega)];refine uR ?_;refine EV.loopK (ι:=Nat) [0,27,28] [] (fun i=>[(29,.v (.int .i64 (i:Int)))]) (fun _=>[]) (fun _=>[]) (fun i _=>i≤X.length) (fun i=>X.length-i) (0) rfl rfl ⟨rfl,trivial⟩ trivial rfl (fun _=>rfl) (Nat.zero_le _) ?_;rintro i G1 hG1 hi;refine uR ?_;refine EV.cond rfl (fun hlt=>?_) (fun hlt=>?_)
 ·simp only[nN]at hlt;obtain⟨x,hxi⟩:=gE hlt;obtain⟨a1,c1,hv1,_⟩:=hvs.at hxi;have hl1:=hx x (qF hxi);rw[hl1]at hv1;refine uR ?_;refine vI ((hs.mono hG1)) (i) (rfl) (hlt) (hv1) ?_;refine uR ?_;refine vI ((hs.mono hG1)) (0) (rfl) (h1) (hv0) ?_;refine uR ?_;rw[bne_self_eq_false];refine uR ?_;refine⟨i+1,⟨by rw[zai i (by omega)];rfl,trivial⟩,sB,trivial,sB,rfl,hlt,Hp.Le.refl _,by omega⟩
 ·simp only[nN]at hlt;refine uR ?_;rfl
abbrev zpM (deep least:Int) (g:Rat):List Value:=.int .i64 deep::.int .i64 least::zah (zab g)
theorem znP {H:Hp} {deep least:Int} {g:Rat} (hg:sm g):PC prog 35 #[.agg (zpM deep least g).toArray] H fun r _=>r=.bool (decide (zob deep least g)):=by
 have hs:=zc6 g (qI hg.num oM);refine BD func35 ntmps35 ?_;refine uR ?_;by_cases h1:deep≥0
 case neg =>
  rw[qC h1];refine uR ?_;exact zhm fun k=>h1 k.1
 rw[qD h1];refine uR ?_;by_cases h2:deep≤10
 case neg =>
  rw[qC h2];refine uR ?_;exact zhm fun k=>h2 k.2.1
 rw[qD h2];refine uR ?_;by_cases h3:least≥1
 case neg =>
  rw[qC h3];refine uR ?_;exact zhm fun k=>h3 k.2.2.1
 rw[qD h3];refine uR ?_;by_cases h4:least≤300
 case neg =>
  rw[qC h4];refine uR ?_;exact zhm fun k=>h4 k.2.2.2.1
 rw[qD h4]
 repeat (first|refine RUN ?_|refine CV (hs) ?_|refine CE (hs) ?_)
 exact congrArg Value.bool (decide_eq_decide.2 ((zo9 g).trans ⟨fun k=>⟨h1,h2,h3,h4,k⟩,fun k=>k.2.2.2.2⟩))
theorem zl9 {H:Hp} {v:Value} (h:QLL H v []):PC prog 117 #[v] H fun r _=>r=.bool false:=by
 obtain⟨a,c,rfl⟩:=h.val;refine BD func117 ntmps117 ?_;refine uR ?_;rfl
theorem zl8 {H:Hp} {kd cl deep least ck:Int} {sl sv vx vr:Value} {X:List (List Rat)} {N:Nat} {rows:List Int} {w:Nat} {g:Rat} (hck:∀G,H.Le G→PC prog 75 #[zaE kd cl sl sv] G fun r _=>r=.int .i64 ck) (hlen:PV prog 78 #[zaE kd cl sl sv] (.int .i64 (N:Int))) (hX:QLL H vx X) (hN:1≤N) (h2:X.length≤300) (hw:1≤w∧w≤20) (hx:∀x,x∈X→x.length=w)
  (hr:IL H vr rows) (hr0:0<rows.length) (hrn:rows.length≤300) (hgs:sm g) :
  PC prog 64 #[zaE kd cl sl sv,vx,vr,.agg (zpM deep least g).toArray] H fun r _=>r=.int .i64 (zrM X.length N ck (decide (zob deep least g)) rows):=by
 obtain⟨ra,rc,rfl⟩:=SlC.val hr;by_cases hn0:X.length=0
 ·have hne:X.length≠N:=by omega
  obtain rfl:=List.length_eq_zero_iff.1 hn0;have hv:=zl9 hX;obtain⟨xa,xc,rfl⟩:=hX.val;refine BD func64 ntmps64 ?_;refine uR ?_;refine vA (hv) ?_;rintro _ G1 rfl hG1;refine uR ?_;rw[zpw hne]
 have hv:=znR hX oM h2 hw hx;obtain⟨xa,xc,rfl⟩:=hX.val;have hf:=fun (G:Hp)=>znP (H:=G) (deep:=deep) (least:=least) hgs;generalize decide (zob deep least g)=fb at *
 refine BD func64 ntmps64 ?_;refine uR ?_;refine vA (hv) ?_;rintro _ G1 rfl hG1
 repeat (first|refine RUN ?_|refine CV (hlen) ?_|refine CE (hlen) ?_)
 by_cases hne:X.length=N
 case neg =>
  rw[show ((X.length:Int) != (N:Int))=true from bne_iff_ne.2 (by omega)];refine uR ?_;rw[zpw hne]
 subst hne;rw[show ((X.length:Int) != (X.length:Int))=false from bne_self_eq_false _];refine uR ?_;rw[qC (show ¬(rows.length:Int)<1 by omega)];refine uR ?_;rw[qC (show ¬(rows.length:Int)>300 by omega)];refine uR ?_;refine vA (hck G1 hG1) ?_;rintro _ G2 rfl hG2;refine uR ?_;by_cases hc0:ck=0
 case neg =>
  rw[show (ck != 0)=true from bne_iff_ne.2 hc0];refine uR ?_;rw[zku fun k=>hc0 k.1]
 subst hc0;refine uR ?_;refine vA (hf G2) ?_;rintro _ G3 rfl hG3;have hH3:=hG1.trans (hG2.trans hG3);cases fb
 case false =>
  refine uR ?_;rw[zku fun k=>by cases k.2.1]
 refine uR ?_;refine EV.loopK (ι:=Nat) [1,39,40] [] (fun q=>[(41,.v (.int .i64 (q:Int)))]) (fun _=>[]) (fun _=>[]) (fun q _=>q≤rows.length∧∀r,r∈rows.take q→0≤r∧r<(X.length:Int)) (fun q=>rows.length-q) (0) rfl rfl ⟨rfl,trivial⟩ trivial rfl (fun _=>rfl) (⟨Nat.zero_le _,fun r hr=>by cases hr⟩) ?_;rintro i G4 hG4 ⟨hi,hall⟩;refine uR ?_;refine EV.cond rfl (fun hlt=>?_) (fun hlt=>?_)
 ·simp only[nN]at hlt;obtain⟨r,hri⟩:=gE hlt;have hmem:=qF hri;refine uR ?_;refine vI ((hr.mono (hH3.trans hG4))) (i) (rfl) (hlt) ((by rw[List.getElem?_map,hri];rfl)) ?_;refine uR ?_;by_cases hr0:r<0
  ·rw[qD hr0];refine uR ?_;rw[zku fun k=>by have:=k.2.2 r hmem;omega]
  rw[qC hr0];refine uR ?_;by_cases hrx:r≥(X.length:Int)
  ·rw[qD hrx];refine uR ?_;rw[zku fun k=>by have:=k.2.2 r hmem;omega]
  rw[qC hrx];refine uR ?_;refine⟨i+1,⟨by rw[zai i (by omega)];rfl,trivial⟩,sB,trivial,trivial,rfl,⟨hlt,fun y hy=>?_⟩,Hp.Le.refl _,by omega⟩;rw[zat hri]at hy;rcases List.mem_append.1 hy with h | h
  ·exact hall y h
  ·rw[List.mem_singleton.1 h];omega
 ·simp only[nN]at hlt;obtain rfl:i=rows.length:=by omega
  rw[List.take_length]at hall;refine uR ?_;rw[zpv hall]
theorem zlH {x:Nat × TypeId × List Value} {D ow post:Ows} (h:zcn (x::(D++(ow++post)))):∀k,k∈Ows.bs D→∀q,q∈ow→k≠q.1:=fun k hk q hq e=>by
 have hn:=zcW.1 h;unfold Ows.bs at hn hk;simp only[List.map_cons,List.map_append,List.nodup_cons,List.nodup_append]at hn;exact hn.2.2.2 k hk q.1 (List.mem_append_left _ (List.mem_map.2 ⟨q,hq,rfl⟩)) e
theorem zgh.bs {dv:Value} {D D':Ows} {s s':Int} (h:zgh dv D s) (h':zgh dv D' s'):Ows.bs D=Ows.bs D':=by
 rcases h with ⟨e,rfl⟩ | ⟨b,T,e,rfl,_⟩
 ·rcases h' with ⟨_,rfl⟩ | ⟨b',T',e',rfl,_⟩
  ·rfl
  ·rw[e]at e';cases e'
 ·rcases h' with ⟨e',rfl⟩ | ⟨b',T',e',rfl,_⟩
  ·rw[e]at e';cases e'
  ·rw[e]at e';cases e';rfl
set_option maxRecDepth 100000 in
theorem zpf {p:GP} {H:Hp} {kd cl least:Int} {D0 w:Nat} {S:List Int→List Value} {wo:List Int→Rat} {la va xa:Option Addr} {ln lc vn vc xc:Nat} {f:FuncId} {ccs:List Value} {dv vr:Value} {rows:List Int} {s:Int} {D:Ows}
  (hcl:∀s,(p.cols s).1.length≤1000) (hx0:0<p.X.length) (hX20:p.X.length≤20) (hxw:∀x,x∈p.X→x.length=w) (hxq:∀x,x∈p.X→∀q,q∈x→ht q≤60) (hpl:p.least=least) (hgr:sm p.gain) (hD0:D0≤10)
  (hg:zji H kd cl (.slice la ln lc) (.slice va vn vc) p S wo) (hX:QLL H (.slice xa p.X.length xc) p.X) (hcf:zgm H f ccs dv p) (hr:IL H vr rows) (hn:rows.length≤20) (hb:∀r,r∈rows→0≤r∧r<(p.X.length:Int)) (hD:zgh dv D s) :
  PW prog 65 #[zaE kd cl (.slice la ln lc) (.slice va vn vc),.slice xa p.X.length xc,vr,.agg (zpM (D0:Int) least p.gain).toArray,.func (.func f) #[] ccs.toArray] H D fun v ow H'=>∃cs,v=.agg cs.toArray∧zds H' cs kd cl (w:Int) (p.grow D0 0 rows s).1∧zgh dv ow (p.grow D0 0 rows s).2:=by
 obtain⟨ra,rc,rfl⟩:=SlC.val hr;have hpow:2 ^ (D0+1)≤2 ^ 11:=Nat.pow_le_pow_right oM oM;obtain⟨vs,hvs,hvx⟩:=id hX;obtain⟨x0,hxx0⟩:=gE hx0;obtain⟨u0,e0,hu0,_⟩:=hvs.at hxx0;rw[hxw x0 (qF hxx0)]at hu0;refine PW.body tO func65 rfl kR ntmps65 rfl rfl ?_;refine uR ?_;(first|refine EVL.unbox (11) rfl fun gb=>?_|refine EV.unbox (11) rfl fun gb=>?_);refine EVL.callW rfl rfl rfl rfl rfl ((gb,195,_)::(D++[])) [] (by rw[qG,qG]) (zoU (p:=p) (deep:=(D0:Int)) hcl hx0 hX20 hxq hpl hgr D0 (ns:=[]) (css:=[]) hg hX hcf oM (Int.le_refl _) oM hr hn hb hD (zaW.nil _ _) ⟨rfl,fun j c n e1 e2=>by cases e1⟩ (by rw[List.length_nil];omega)) ?_;rintro _ _ G1 ⟨rfl,out,D',ow2,css,rfl,hD',hown,hns⟩ hG1;rw[List.nil_append]at hown hns;rw[List.length_nil]at hown hns hD';obtain⟨oa,oc,rfl⟩:=hown.val;rw[qG ((gb,_,_)::(D'++ow2))];refine EVL.apart fun hdis=>?_;refine EVL.publishL ((gb,_,_)::D') ow2 [] (by rw[qG,List.cons_append]) hown (fun G2 hG2 hc=>?_) (fun k hk q hq=>zlH (post:=[]) (by rw[qG];exact hdis) k (by rw[←hD.bs hD'];exact hk) q hq);rw[qG ((gb,_,_)::D')];have hG12:=hG1.trans hG2;refine uR ?_;apply EV.drawn 11 kR kR;intro xv yw;(repeat refine' DD ?_);refine' vJ (hvx.mono hG12) (0) (rfl) (hx0) (hu0) ?_;rotate_left;(repeat (first|refine' DD ?_|refine' vN ?_|refine' vF ?_));refine' DJ.ofVal (zaa.loadOwn tO rfl rfl rfl rfl (0) rfl (rfl) rfl rfl) rfl rfl rfl ?_;rotate_left;(repeat (first|refine' DD ?_|refine' vN ?_|refine' vF ?_));(refine DJ.nil (fun G hG hF=>?_);(case hS|hS2=>rfl));(first|refine EVL.subOw [] [(gb,_,_)] _ rfl ?_|refine EV.subOw [] [(gb,_,_)] _ rfl ?_);refine uR ?_;exact⟨_,rfl,⟨oa,oc,css,rfl,hns.mono (hG2.trans hG),SlC.mono hc hG⟩,hD'⟩
def zcL (w:Nat):List Int:=(List.range w).map fun i:Nat=>(i:Int)
theorem zcp (w:Nat):(zcL w).length=w:=by simp[zcL]
theorem zhT (w:Nat):zcL (w+1)=zcL w++[(w:Int)]:=by simp[zcL,List.range_succ]
theorem zd1 (x:Value):∀w:Nat,(List.replicate w [x]).flatten=List.replicate w x
 | 0=>rfl
 | w+1=>by rw[List.replicate_succ,List.flatten_cons,zd1 x w,List.replicate_succ];rfl
theorem zp3 {w i:Nat} (h:i<w) (u:Nat):(zcL i).map iv++List.replicate (w-i) (Value.int .i64 0)=(zcL i).map iv++([Value.int .i64 0]++List.replicate (w-(i+1)) (Value.int .i64 0)):=by
 rw[show w-i=(w-(i+1))+1 by omega,List.replicate_succ];rfl
theorem zp2 {w i:Nat} (h:i<w):((zcL i).map iv++List.replicate (w-i) (Value.int .i64 0)).set i (.int .i64 (i:Int))=(zcL (i+1)).map iv++List.replicate (w-(i+1)) (Value.int .i64 0):=by
 rw[zp3 h 0,List.set_append_right _ _ (by rw[List.length_map,zcp];exact qH _),List.length_map,zcp,Nat.sub_self,zhT,List.map_append,List.append_assoc];rfl
theorem zjQ {H:Hp} {p:GP} {a w c:Nat} {sa:Option Addr} (hds:∀s,p.cols s=(zcL w,s)) (ha:H a=some ([.slice sa w c]:List Value).toArray) (hil:IL H (.slice sa w c) (zcL w)):zgm H 66 [.pointer (some ⟨a,0,none⟩)] (.pointer none) p:=by
 intro G hG D s hD;have hcs:(p.cols s).1=zcL w:=by rw[hds]
 have hcs2:(p.cols s).2=s:=by rw[hds]
 rw[hcs,hcs2];have hil2:=hil.mono hG;refine PW.body tO func66 rfl kR ntmps66 rfl rfl ?_;refine EV.asRo 0 rfl (hG _ _ ha) ?_;refine uR ?_;exact⟨hil2,hD⟩
set_option maxRecDepth 100000 in
theorem zf7 {p:GP} {H:Hp} {kd cl least:Int} {D0 w:Nat} {s:Int} {S:List Int→List Value} {wo:List Int→Rat} {la va xa:Option Addr} {ln lc vn vc xc:Nat} {vr:Value} {rows:List Int}
  (hds:∀s,p.cols s=(zcL w,s)) (hw1:1≤w) (hw2:w≤20) (hx0:0<p.X.length) (hX20:p.X.length≤20) (hxw:∀x,x∈p.X→x.length=w) (hxq:∀x,x∈p.X→∀q,q∈x→ht q≤60) (hpl:p.least=least) (hl:1≤least∧least≤300) (hgr:sm p.gain) (hg0:0≤p.gain) (hD0:D0≤10)
  (hg:zji H kd cl (.slice la ln lc) (.slice va vn vc) p S wo) (hX:QLL H (.slice xa p.X.length xc) p.X) (hr:IL H vr rows) (hr0:0<rows.length) (hn:rows.length≤20) (hb:∀r,r∈rows→0≤r∧r<(p.X.length:Int)) :
  PC prog 13 #[zaE kd cl (.slice la ln lc) (.slice va vn vc),.slice xa p.X.length xc,vr,.agg (zpM (D0:Int) least p.gain).toArray] H
   fun v H'=>∃cs,v=.tuple #[.agg cs.toArray,.int .i64 0]∧zds H' cs kd cl (w:Int) (p.grow D0 0 rows s).1:=by
 obtain⟨ra,rc,rfl⟩:=SlC.val hr;have hrf:=zl8 (deep:=(D0:Int)) (least:=least) hg.ok.check hg.ok.leng hX oM oM ⟨by omega,hw2⟩ hxw hr hr0 oM hgr;rw[qD (show zob (D0:Int) least p.gain from ⟨by omega,by omega,by omega,by omega,hg0⟩),zpv hb]at hrf;obtain⟨vs,hvs,hvx⟩:=id hX;obtain⟨x0,hxx0⟩:=gE hx0;obtain⟨u0,e0,hu0,_⟩:=hvs.at hxx0;rw[hxw x0 (qF hxx0)]at hu0;refine BD func13 ntmps13 ?_;refine uR ?_;refine vA (hrf) ?_;rintro _ G1 rfl hG1;refine uR ?_;refine vI ((hvx.mono hG1)) (0) (rfl) (hx0) (hu0) ?_;refine uR ?_;refine EVL.make tO rfl rfl rfl rfl rfl rfl rfl rfl rfl (w) (rfl) oM (by rfl) (by rfl) fun b=>?_;refine uR ?_;(first|refine EVL.swapOw ([(b,3,(zcL 0).map iv++List.replicate (w-0) (.int .i64 0))]) ([]) ((by rw[show (Tryz.te3).zero=[Value.int .i64 0] from rfl,zd1];rfl)) ?_|refine EV.swapOw ([(b,3,(zcL 0).map iv++List.replicate (w-0) (.int .i64 0))]) ([]) ((by rw[show (Tryz.te3).zero=[Value.int .i64 0] from rfl,zd1];rfl)) ?_);refine EV.loopK (ι:=Nat) [1,2,4,7,8,11,28] [4,7,8,11] (fun i=>[(29,.v (.int .i64 (i:Int)))]) (fun _=>[]) (fun i=>[(b,3,(zcL i).map iv++List.replicate (w-i) (.int .i64 0))]) (fun i _=>i≤w) (fun i=>w-i) (0) rfl rfl ⟨rfl,trivial⟩ trivial rfl (fun _=>rfl) (Nat.zero_le _) ?_;rintro i G2 hG2 hi;refine uR ?_;refine EV.cond rfl (fun hlt=>?_) (fun hlt=>?_)
 ·simp only[nN]at hlt;have wn:IntKind.i64.wrap ((i:Int)+1)=((i+1:Nat):Int):=zai i oM;refine uR ?_;refine EVL.idxB tO rfl rfl rfl rfl rfl rfl rfl rfl rfl (i) (i*1) (rfl) (hlt) (rfl) ?_;rw[Nat.mul_one];refine uR ?_;refine EVL.set1 tO rfl rfl rfl rfl rfl rfl rfl rfl rfl rfl ((by rw[List.length_append,List.length_map,zcp,List.length_replicate];omega)) ?_;rw[zp2 hlt];refine uR ?_;refine⟨i+1,⟨by rw[wn];rfl,trivial⟩,sB,trivial,sB,rfl,hlt,Hp.Le.refl _,by omega⟩
 ·simp only[nN]at hlt;obtain rfl:i=w:=by omega
  rw[Nat.sub_self,List.replicate_zero];(first|refine EVL.publish [] [] rfl fun G3 hG3 hb3=>?_|refine EV.publish [] [] rfl fun G3 hG3 hb3=>?_);(first|refine EVL.unbox (11) rfl fun ga=>?_|refine EV.unbox (11) rfl fun ga=>?_);(first|refine EVL.publish [] [] rfl fun G4 hG4 hb4=>?_|refine EV.publish [] [] rfl fun G4 hG4 hb4=>?_);refine uR ?_;refine EVL.fn1 rfl rfl rfl rfl rfl ?_;have hH4:=hG1.trans (hG2.trans (hG3.trans hG4));have hcf:=zjQ (p:=p) (H:=G4) hds hb4 (zpz (hG4 _ _ hb3) (zcp _));refine EVL.callW rfl rfl rfl rfl rfl [] [] rfl (zpf (w:=i) (s:=s) (fun s=>by rw[hds];show (zcL i).length≤1000;rw[zcp];omega) hx0 hX20 hxw hxq hpl hgr hD0 (hg.mono hH4) (hX.mono hH4) hcf (hr.mono hH4) hn hb (.inl ⟨rfl,rfl⟩)) ?_;rintro _ D' G5 ⟨cs,rfl,hpt,hD'⟩ hG5;rcases hD' with ⟨_,rfl⟩|⟨bd',T',e1,_⟩
  ·obtain⟨ta,tc,css,rfl,_⟩:=id hpt;refine uR ?_;exact⟨_,rfl,hpt⟩
  ·cases e1
theorem zfO (a:Rat):zcA a a=0:=Int.le_antisymm (zjO Rat.le_refl) (zhp.2 Rat.lt_irrefl)
def SmN (n:Nd):Prop:=sm n.at'∧sm n.cost∧sm n.value∧n.counts.length≤1000000
inductive GD where
 | v (qs:List Rat)
 | c (C:Nat) (ls:List Int)
def GD.kd:GD→Int
 | .v _=>2
 | .c _ _=>1
def GD.cl:GD→Int
 | .v _=>0
 | .c C _=>C
def GD.cost:GD→List Int→Rat
 | .v qs=>zia qs
 | .c _ ls=>zgr ls
def GD.mean:GD→List Int→Rat
 | .v qs=>fun l=>zd8 (atR qs l)
 | .c _ _=>fun _=>0
def GD.cnt:GD→List Int→List Int
 | .v _=>fun _=>[]
 | .c C ls=>fun l=>zeI C (atI ls l)
def GD.Ok (n:Nat):GD→Prop
 | .v qs=>qs.length=n∧∀q,q∈qs→ht q≤5
 | .c C ls=>(1≤C∧C≤12)∧ls.length=n∧∀z,z∈ls→0≤z∧z<(C:Int)
def GD.P (H:Hp) (sl sv:Value):GD→Prop
 | .v qs=>∃la lc va vc,sl=.slice la 0 lc∧sv=.slice va qs.length vc∧QL H sv qs
 | .c _ ls=>∃la lc va vc,sl=.slice la ls.length lc∧sv=.slice va 0 vc∧IL H sl ls
theorem GD.P.mono {H G:Hp} {sl sv:Value} {d:GD} (h:d.P H sl sv) (k:H.Le G):d.P G sl sv:=by
 cases d with
 | v qs=>obtain⟨la,lc,va,vc,e1,e2,h⟩:=h;exact⟨la,lc,va,vc,e1,e2,SlC.mono h k⟩
 | c C ls=>obtain⟨la,lc,va,vc,e1,e2,h⟩:=h;exact⟨la,lc,va,vc,e1,e2,SlC.mono h k⟩
def GD.R (H:Hp) (v:Value):GD→Prop
 | .v qs=>∃s,v=zaE 2 0 (.slice none 0 0) s∧RL H s qs
 | .c C ls=>∃s,v=zaE 1 C s (.slice none 0 0)∧IL H s ls
theorem zhQ.gd {H:Hp} {v:Value} {n:Nat} {qs:List Rat} (h:zhQ H v n qs) (hql:qs.length=n) (hq:∀q,q∈qs→ht q≤5):∃d:GD,d.Ok n∧d.R H v∧d.cl≤4:=by
 rcases h with ⟨s,rfl,hs⟩ | ⟨cl,s,ls,rfl,hc1,hc2,hll,hlb,hs⟩
 ·exact⟨.v qs,⟨hql,hq⟩,⟨s,rfl,hs⟩,by show (0:Int)≤4;decide⟩
 ·obtain⟨C,rfl⟩:=Int.eq_ofNat_of_zero_le (show 0≤cl by omega);exact⟨.c C ls,⟨⟨by omega,by omega⟩,hll,hlb⟩,⟨s,rfl,hs⟩,hc2⟩
theorem GD.Ok.sm {n:Nat} {d:GD} (hd:d.Ok n):∀l:List Int,l.length≤300→(∀r,r∈l→0≤r∧r<(n:Int))→ht (d.mean l)≤4000∧ht (d.cost l)≤2000000:=by
 intro l hn hr
 cases d with
 | v qs =>
  obtain⟨rfl,hq⟩:=hd;have hlb:=fun q hq'=>hq q (zfg hr q hq');have hll:(atR qs l).length≤300:=by rw[zb7];omega
  have h2:=zkF hll hlb;have h3:=zmE hll hlb h2;show ht (zd8 (atR qs l))≤4000∧ht (zia qs l)≤2000000;unfold zia;omega
 | c C ls =>
  have hsq:=ziW (atI ls l);have hll:(atI ls l).length=l.length:=zb6 ls l;rw[hll]at hsq;have hsq2:l.length*l.length≤300*300:=Nat.mul_le_mul hn hn;have hn2:=zbG (l.length:Int);have hn3:bl (l.length:Int).natAbs≤20:=za4 oM;have hs2:=zbG (sqL (atI ls l):Int);have hs3:bl (sqL (atI ls l):Int).natAbs≤20:=za4 oM;have hdv:=zfA ((sqL (atI ls l):Int):Rat) ((l.length:Int):Rat);have hsb:=zgy ((l.length:Int):Rat) (((sqL (atI ls l):Int):Rat) / ((l.length:Int):Rat));refine⟨by show ht (0:Rat)≤4000;rw[zb8];decide,?_⟩;show ht (zgr ls l)≤2000000;unfold zgr zh8;rw[hll];omega
theorem GD.Ok.plain {n:Nat} {d:GD} (hd:d.Ok n):zhR d.kd d.cl n d.cost d.mean d.cnt:=by
 have hsm:=hd.sm
 cases d with
 | v qs =>
  obtain⟨rfl,hq⟩:=hd;exact⟨.inr ⟨rfl,rfl⟩,fun _=>rfl,fun _ _ _ _ k=>rfl,fun l c hc=>(by cases hc),fun e=>absurd e (by decide:¬(2:Int)=1),fun e=>absurd e (by decide:¬(2:Int)=1),fun l=>zjx _ _,fun l hn hr=>(hsm l hn hr).2,fun l hn hr=>(hsm l hn hr).1⟩
 | c C ls =>
  obtain⟨hc,rfl,hlb⟩:=hd;refine⟨.inl ⟨rfl,by show (1:Int)≤(C:Int);omega,by show (C:Int)≤12;omega⟩,fun l=>by show ((zeI C (atI ls l)).length:Int)=(C:Int);rw[zbI],fun r l m hp k=>zol C (by have:=hp.map (fun r:Int=>ls.getD r.toNat 0);rwa [List.map_append]at this) k,fun l c hc=>?_,fun _ l hr=>?_,fun _ l=>rfl,fun l=>zh9 _,fun l hn hr=>(hsm l hn hr).2,fun l hn hr=>(hsm l hn hr).1⟩
  ·obtain⟨k,_,rfl⟩:=List.mem_map.1 hc;omega
  ·show (zeI C (atI ls l)).sum=_;rw[zom (fun z hz=>hlb z (zoe hr z hz)),zb6]
theorem GD.Ok.pgoal {H:Hp} {n:Nat} {d:GD} (hd:d.Ok n) (h0:1≤n) (h1:n≤300) {sl sv:Value} (hP:d.P H sl sv) {p:GP} (e0:p.X.length=n) (e1:p.cost=d.cost) (e2:p.mean=d.mean) (e3:p.cnt=d.cnt):∃S wo,zji H d.kd d.cl sl sv p S wo:=by
 have hsm:=hd.sm
 cases d with
 | v qs =>
  obtain⟨rfl,hq⟩:=hd;obtain⟨la,lc,va,vc,rfl,rfl,hv⟩:=hP;have q100:∀q,q∈qs→ht q≤100:=fun q hq'=>qI (hq q hq') oM;have hcnt:=fun (G:Hp) (u:Value)=>zln (H:=G) (v:=u) (va:=va) (vc:=vc) (la:=la) (lc:=lc) h0 h1;refine⟨ziR qs,woV qs,⟨by rw[e0];exact zsc hv h0 h1 q100,by rw[e1];exact zsi qs,?_,?_,?_,?_,?_,?_⟩⟩
  ·rw[e0,e3];exact fun G hG u l hl hn=>hcnt G u
  ·rw[e3];exact fun l=>Nat.zero_le _
  ·rw[e0,e3];exact fun G hG u l hl hn=>zk3 (w:=u) ⟨_,_,_,_,rfl⟩ (hcnt G u) (by show ([]:List Int).length≤300;decide)
  ·rw[e0,e2];exact fun G hG u l hl hn=>zkE hl hn (SlC.mono hv hG) h0 h1 q100
  ·rw[e0,e1];exact fun l hn hr=>(hsm l hn hr).2
  ·rw[e0,e1];exact fun G hG u l hl hn=>zoo hl hn (SlC.mono hv hG) h0 h1 q100
 | c C ls =>
  obtain⟨hc,rfl,hlb⟩:=hd;obtain⟨la,lc,va,vc,rfl,rfl,hv⟩:=hP;have hcnt:=fun (G:Hp) (hG:H.Le G) (u:Value) (l:List Int) (hl:IL G u l) (hn:l.length≤300)=>zlm (va:=va) (vc:=vc) hl hn (SlC.mono hv hG) (C:=C) hc h0 h1 hlb;refine⟨ziQ ls,woL ls,⟨by rw[e0];exact zsb ⟨by show (1:Int)≤(C:Int);omega,by show (C:Int)≤12;omega⟩ hv h0 h1 hlb,by rw[e1];exact zsh (fun z hz=>⟨(hlb z hz).1,by have:=(hlb z hz).2;omega⟩),?_,?_,?_,?_,?_,?_⟩⟩
  ·rw[e0,e3];exact hcnt
  ·rw[e3];exact fun l=>by show (zeI C (atI ls l)).length≤12;rw[zbI];omega
  ·rw[e0,e3];exact fun G hG u l hl hn=>zk3 (w:=u) ⟨_,_,_,_,rfl⟩ (hcnt G hG u l hl hn) (by show (zeI C (atI ls (exL l ls.length))).length≤300;rw[zbI];omega)
  ·rw[e0,e2];exact fun G hG u l hl hn=>zoH
  ·rw[e0,e1];exact fun l hn hr=>(hsm l hn hr).2
  ·rw[e0,e1];exact fun G hG u l hl hn=>zon (va:=va) (vc:=vc) hl hn (SlC.mono hv hG) ⟨by show (1:Int)≤(C:Int);omega,by show (C:Int)≤12;omega⟩ h0 h1 hlb
theorem GD.Ok.inGoal {H:Hp} {n:Nat} {d:GD} (hd:d.Ok n) (h1:n≤300) {v:Value} (hR:d.R H v):PC prog 10 #[v] H fun r H'=>∃la ln lc va vn vc,r=zaE d.kd d.cl (.slice la ln lc) (.slice va vn vc)∧d.P H' (.slice la ln lc) (.slice va vn vc):=by
 cases d with
 | v qs =>
  obtain⟨rfl,hq⟩:=hd;obtain⟨s,rfl,hs⟩:=hR;have hqr:∀q,q∈qs→rq q:=fun q hq'=>zkQ (hq q hq') oM;refine(zin (kd:=2) (cl:=0) (IL.nil H none 0) hs (by decide) oM hqr).mono ?_;rintro r H' ⟨la,lc,va,vc,rfl,_,hv⟩ hH;exact⟨_,_,_,_,_,_,rfl,_,_,_,_,rfl,rfl,hv⟩
 | c C ls =>
  obtain⟨hc,rfl,hlb⟩:=hd;obtain⟨s,rfl,hs⟩:=hR;refine(zin (kd:=1) (cl:=(C:Int)) hs (RL.nil H none 0) oM (by decide) (by intro q hq;cases hq)).mono ?_;rintro r H' ⟨la,lc,va,vc,rfl,hv,_⟩ hH;exact⟨_,_,_,_,_,_,rfl,_,_,_,_,rfl,rfl,hv⟩
end
section
open Go.RowKit Go.Sort Go.Lib
abbrev zrL (n:Nat):ByteArray:=⟨(Lib.decDigits n).toArray⟩
end
section
open Go.RowKit _root_.Go.Proofs.Tryz
abbrev sb (l:List UInt8):ByteArray:=⟨l.toArray⟩
section
variable {P:Program} {n:Nat} {ops:Array Oper} {o:Oper} {rest:List Oper} {env:Env} {bx:Bxs} {sb':Bxs} {ow:Ows} {H:Hs} {Q:EQ} {τ:Tab} {d:Nat} {s:SV}
theorem zny {T T':TypeId} {x y:Operand} (ho:o.op=.binOp .add T x y T') (a b:List UInt8) (hx:env.op x=some (.v (.string (sb a)))) (hy:env.op y=some (.v (.string (sb b)))) (ha:a.length≤8388608) (hb:b.length≤8388608) (ev:Operand→Value) (W:World) (he:∀y x,y∈o.op.operands→env.op y=some (.v x)→ev y=x) :
  (execOp ev o).run P W=.ok (.value (.string (sb (a++b)))) W:=by
 have ex:=he x _ (by simp[ho,Op.operands]) hx;have ey:=he y _ (by simp[ho,Op.operands]) hy;unfold execOp;simp[ho,ex,ey,eqGuard,binOp,run_string_add_lists W a b oM (by omega)]
theorem EVL.cat {T T':TypeId} {x y:Operand} (a b:List UInt8) (ho:o.op=.binOp .add T x y T') (hw:zae ops env o=some true) (hd:o.dst=some d) (hn:Nat.blt d n=true) (hx:env.op x=some (.v (.string (sb a)))) (hy:env.op y=some (.v (.string (sb b)))) (ha:a.length≤8388608) (hb:b.length≤8388608)
  (h:EVL P n ops rest ((d,.v (.string (sb (a++b))))::env) bx H Q):EVL P n ops (o::rest) env bx H Q:=EVL.gen hw hd hn (zny ho a b hx hy ha hb) h
theorem DJ.cat {tail l:List Oper} {x:Nat→Value} {y:Nat→Ows} {ow':Ows} {kl ks:List DK} {i:Nat} {bx':Bxs} {Γ:zek} {T T':TypeId} {u w:Operand} (a b:List UInt8) (ho:o.op=.binOp .add T u w T') (hw:zae ops env o=some true) (hd:o.dst=some d) (hn:Nat.blt d n=true) (hx:env.op u=some (.v (.string (sb a)))) (hy:env.op w=some (.v (.string (sb b)))) (ha:a.length≤8388608) (hb:b.length≤8388608)
  (h:DJ P n ops tail sb' bx H Q x y kl (i+1) l ks ((d,.v (.string (sb (a++b))))::env) bx' Γ ow'):DJ P n ops tail sb' bx H Q x y kl i (o::l) (.sv (.v (.string (sb (a++b))))::ks) env bx' Γ ow' :=
 DJ.ofVal (zaa.gen hw (zny ho a b hx hy ha hb)) hd hn rfl h
end
theorem zor {n:Nat} (h:n<18446744073709551616):(Lib.decDigits n).length≤20:=by
 rw[Lib.decDigits_length];by_cases h1:1≤n
 ·have:=Lib.numDigits_eq n h1 h;split at this <;> omega
 ·have:n=0:=by omega
  subst this;rw[Lib.nDigits_small (by omega)];omega
theorem zmF {n:Nat} (h0:n≠0) (h:n<W64):dig W64 n=[n]:=by
 rw[zct zad oM,Nat.mod_eq_of_lt h,Nat.div_eq_of_lt h,zaR]
theorem zeA {P:Program} (w:World) (t u ty e:TypeId) (i:TypeInfo) (ht:P.underlying t=some (.slice e)) (hu:P.underlying u=some .string) (hi:P.info? e=some i) (hz:i.zero=some (.int .u8 0)) (hsize:i.size=1) (hby:i.bytes=1)
  (v:Value) (n:Nat) (xs:List Value) (hown:w.ownsRow 0 e 1 v n xs) (s:ByteArray) (hb:n+s.size≤140737488355328) :
  ∃v' w',(Builtin.append_ #[t,u] ty #[v,.string s]).run P w=.ok v' w'∧w'.ownsRow 0 e 1 v' (n+s.size) (xs++Lib.strCells s)∧w.grownBy w' v.ownBlock∧∀g,v'.ownBlock=some g→v.ownBlock=some g∨w.heap.size≤g:=by
 obtain⟨v',w',hr,h2,h3,h4⟩:=Lib.run_append_own_string (P:=P) w 0 t u ty e i ht hu hi hz hsize hby v n xs hown s (by simp only[maxLen];omega) hb (Nat.zero_le _);refine⟨v',w',hr,h2,h3,fun g hg=>?_⟩;have hxl:xs.length=n:=by simpa using hown.1
 rcases hown.2 with ⟨rfl,rfl⟩ | ⟨g0,cap,cur,rfl,hbg,hgb,hnc,hcm,hcs,htake⟩
 ·have hx:xs=[]:=List.eq_nil_of_length_eq_zero hxl;subst hx;obtain⟨v2,w2,hr2,h22,_⟩:=Lib.run_append_own_string (P:=P) w w.heap.size t u ty e i ht hu hi hz hsize hby (.slice none 0 0) 0 [] (World.ownsRow_nil w w.heap.size e 1) s (by simp only[maxLen];omega) hb (qH _);rw[hr]at hr2;cases hr2;exact .inr ((h22.lt g hg).1)
 ·by_cases hroom:n+s.size≤cap
  ·have hr2:=Lib.run_append_room_string (P:=P) w t u ty e i ht hu hi hsize g0 n cap cur hgb s hroom (by simp at hcs;omega);rw[hr]at hr2;cases hr2;left;exact hg
  ·have holds:∀j u,xs[j]?=some u→w.cell? ((⟨g0,0,none⟩:Addr).add j)=some u:=hown.cells (g:=g0) rfl;have hr2:=Lib.run_append_grow_string (P:=P) w t u ty e i (.int .u8 0) ht hu hi hz ⟨g0,0,none⟩ n cap xs (by rw[hsize];simpa using hxl) holds s oM oM (by rw[hby];exact growslice_fits oM oM);rw[hr]at hr2;cases hr2;right;have:w.heap.size=g:=by simpa[Value.ownBlock] using hg
   omega
theorem zr7 {P:Program} {w0:World} {ops:Array Oper} {rest:List Oper} {o:Oper} {a:Act} {Q:Exit→Act→World→Prop} (hgd:o.guard=none) (s x:Operand) (t u:TypeId)
  (ho:o.op=.call { callee:=.builtin .append,args:=#[s,x],argTypes:=#[t,u] })
  (e:TypeId) (hinfo:(P.info? e).map (fun i=>(i.zero,i.size,i.bytes))=some (some (.int .u8 0),1,1)) (ht:P.underlying t=some (.slice e)) (hu:P.underlying u=some .string)
  (v:Value) (n:Nat) (xs:List Value) (hs:a.eval s=v) (hown:w0.ownsRow 0 e 1 v n xs) (y:ByteArray) (hx:a.eval x=.string y) (hb:n+y.size≤140737488355328)
  (h:∀v' w',w'.ownsRow 0 e 1 v' (n+y.size) (xs++Lib.strCells y)→za1 (fun k=>v.ownBlock=some k) w0 w'→(∀g,v'.ownBlock=some g→v.ownBlock=some g∨w0.heap.size≤g)→wpList P ops Q rest (a.put o.dst v') w'):wpList P ops Q (o::rest) a w0:=by
 obtain⟨i0,hi,hz0,hz1,hz2⟩:=info_parts hinfo;refine wpList_plain hgd fun K hK=>?_;obtain⟨v',w',hr,h2,h3,h4⟩:=zeA (P:=P) w0 t u o.type e i0 ht hu hi hz0 hz1 hz2 v n xs hown y hb;unfold Oper.wp execOp;simp only[ho,resolve,invoke,builtin,Sem.run_bind,Sem.run_pure,Result.andThen_ok,List.map_toArray,List.map_cons,List.map_nil,hs,hx,hr];exact hK _ _ (h v' w' h2 ((za1.refl _ w0).grown h3 (fun k e _=>e)) h4)
def zpr (b:Nat) (l:List UInt8) (L:Ows):Prop:=∃p v ow,L=(b,172,[p,v])::ow∧(p=.pointer none∨p=.pointer (some ⟨b,0,none⟩))∧zaW 5 1 v l.length (Lib.byteCells l) ow
theorem zpr.new (b:Nat):zpr b [] [(b,172,[.pointer none,.slice none 0 0])]:=⟨_,_,[],rfl,.inl rfl,zaW.nil _ _⟩
theorem zh1 (b:Nat) (p v:Value) (w:World) (hp:p=.pointer none∨p=.pointer (some ⟨b,0,none⟩)) (hB:Box w b #[p,v] 172) :
  Calls prog 187 #[.pointer (some ⟨b,0,none⟩)] w fun e w'=>e=.returned (.tuple #[])∧Box w' b #[.pointer (some ⟨b,0,none⟩),v] 172∧za1 (·=b) w w':=by
 have c0:w.cell? ⟨b,0,none⟩=some p:=by rw[Lib.cell_of_heap hB];rfl
 rcases hp with rfl | rfl
 ·refine(zdo b w c0 (by have h:=hB;unfold Box at h;simp[World.shape?,h]) (Lib.frozen_of_heap hB 0)).mono ?_;rintro e w' ⟨rfl,rfl⟩;refine⟨rfl,?_,za1.setCell (X:=(·=b)) (p:=⟨b,0,none⟩) (za1.refl _ w) (fun _=>rfl) _⟩;have h:=hB;unfold Box at h ⊢;simp[World.setCell,Array.getElem?_modify,h]
 ·refine(zdU b w c0).mono ?_;rintro e w' ⟨rfl,rfl⟩;exact⟨rfl,hB,za1.refl _ _⟩
theorem zjX {H:Hp} {W:World} {L pre post:Ows} {e:TypeId} {v:Value} {m:Nat} {xs:List Value} {ow:Ows} (h:zaW e 1 v m xs ow) (he:L=pre++(ow++post)) (hL:∀(j b:Nat) (T:TypeId) (cs:List Value),L[j]?=some (b,T,cs)→Box W b cs.toArray T∧H b=none∧gH b=none):W.ownsRow 0 e 1 v m xs:=by
 refine⟨h.1,?_⟩;rcases h.2 with ⟨h2,h3,_⟩ | ⟨g,cap,sp,h2,h3,h4,h5,h6⟩
 ·exact .inl ⟨h2,h3⟩
 ·have hjg:L[pre.length]?=some (g,e,xs++sp):=by rw[he,h3];simp
  exact .inr ⟨g,cap,(xs++sp).toArray,h2,Nat.zero_le _,(hL _ _ _ _ hjg).1,h5,h6,by simpa using h4,by simp only[List.toList_toArray];rw[←h.1];exact List.take_left⟩
set_option maxRecDepth 100000 in
theorem zh3 {H:Hp} {W:World} {b:Nat} {p v:Value} {l:List UInt8} {ow:Ows} (s:ByteArray) (hp:p=.pointer none∨p=.pointer (some ⟨b,0,none⟩)) (hown:zaW 5 1 v l.length (Lib.byteCells l) ow) (hlen:l.length+s.size≤100000000000)
  (hL:∀(j k:Nat) (T:TypeId) (cs:List Value),((b,172,[p,v])::ow)[j]?=some (k,T,cs)→Box W k cs.toArray T∧H k=none∧gH k=none) :
  Calls prog 143 #[.pointer (some ⟨b,0,none⟩),.string s] W fun e W'=>e=.returned (.tuple #[.int .i64 s.size,.nilIface])∧∃v',Box W' b #[.pointer (some ⟨b,0,none⟩),v'] 172∧W'.ownsRow 0 5 1 v' (l.length+s.size) (Lib.byteCells l++Lib.strCells s)∧za1 (fun k=>k=b∨v.ownBlock=some k) W W'∧∀g,v'.ownBlock=some g→v.ownBlock=some g∨W.heap.size≤g:=by
 have hB:=(hL 0 b _ _ rfl).1;have hrow:W.ownsRow 0 5 1 v l.length (Lib.byteCells l):=zjX (pre:=[(b,172,[p,v])]) (post:=[]) hown (by simp) hL
 go_enter func143,ntmps143
 go_wp2_with fail;refine(zh1 b p v _ hp hB).mono ?_;rintro e w1 ⟨rfl,hB1,hk1⟩;have hbk:w1.heap[b]?=some (.cells #[.pointer (some ⟨b,0,none⟩),v] 172 (0,0)):=hB1;have c1:w1.cell? ⟨b,1,none⟩=some v:=by rw[Lib.cell_of_heap hbk];rfl
 have hne:v.ownBlock≠some b:=Lib.ownBlock_ne hrow hB (by decide)
 have hrow1:w1.ownsRow 0 5 1 v l.length (Lib.byteCells l):=by
  refine hrow.kept (row:=some b) ⟨hk1.os,hk1.tape,hk1.output,hk1.size,fun k hk hne=>hk1.block k hk (fun e=>hne (by rw[e]))⟩ (.inr hne)
 have hs1:=hk1.size
 go_wp2_with (at_builtin;refine zr7 rfl _ _ _ _ rfl 5 Tryz.infoU8 Tryz.underlying170 Tryz.underlying9 _ _ _ rfl hrow1 s rfl oM ?_);intro v' w2 hown2 hk2 hpl;have hlt:=hB.lt;have hb2:w2.heap[b]?=some (.cells #[.pointer (some ⟨b,0,none⟩),v] 172 (0,0)):=by rw[hk2.block b oM hne];exact hbk
 have d1:w2.cell? ⟨b,1,none⟩=some v:=by rw[Lib.cell_of_heap hb2];rfl
 have f1:w2.frozen? ⟨b,1,none⟩=false:=Lib.frozen_of_heap hb2 1
 obtain⟨ao,n',cap,rfl⟩:∃ao n' cap,v'=.slice ao n' cap:=by
  rcases hown2.2 with ⟨hv,_⟩ | ⟨g,cap,cur,hv,_⟩
  ·exact⟨_,_,_,hv⟩
  ·exact⟨_,_,_,hv⟩
 go_wp2
 go_ret2;have hne2:(Value.slice ao n' cap).ownBlock≠some b:=Lib.ownBlock_ne hown2 hb2 (by decide);refine⟨rfl,.slice ao n' cap,?_,?_,?_,fun g hg=>(hpl g hg).imp id fun h=>by omega⟩
 ·unfold Box;simp[World.setCell,Array.getElem?_modify,hb2]
 ·exact hown2.kept (row:=some b) ⟨rfl,rfl,rfl,by simp[World.setCell],fun k _ hk=>Below.heap_setCell _ _ _ _ (fun e=>hk (by simp[e]))⟩ (.inr hne2)
 ·exact((hk1.mono fun k _ e=>.inl e).trans (hk2.mono fun k _ e=>.inr e)).setCell (p:=⟨b,1,none⟩) (fun _=>.inl rfl) _
theorem zbr {H:Hp} {b:Nat} {l:List UInt8} {L:Ows} (s:List UInt8) (h:zpr b l L) (hlen:l.length+s.length≤100000000000) :
  PW prog 143 #[.pointer (some ⟨b,0,none⟩),.string (sb s)] H L fun r ow _=>r=.tuple #[.int .i64 s.length,.nilIface]∧zpr b (l++s) ow:=by
 obtain⟨p,v,ow,rfl,hp,hown⟩:=h;refine⟨(cO func143),fun W hf hg hL hd=>?_⟩;have hsz:(sb s).size=s.length:=by simp[sb,ByteArray.size]
 refine(zh3 (sb s) hp hown (by rw[hsz];exact hlen) hL).mono ?_;rw[hsz];rintro e W' ⟨rfl,v',hB',hrow',hk,hpl⟩;obtain⟨ow',how',hl1,hnew⟩:=zfQ hrow'
 have vb:∀k,v.ownBlock=some k→∃xs,ow=[(k,5,xs)]:=fun k hk=>by
  rcases hown.2 with ⟨h2,_,_⟩ | ⟨g,cap,sp,h2,h3,_⟩
  ·rw[h2]at hk;cases hk
  ·rw[h2]at hk;cases hk;exact⟨_,h3⟩
 have vH:∀k,v.ownBlock=some k→H k=none∧k∈Ows.bs ((b,172,[p,v])::ow):=fun k hk=>by
  obtain⟨xs,h2⟩:=vb k hk;exact⟨(hL 1 k _ xs (by rw[h2];rfl)).2.1,Ows.bs_mem (j:=1) (T:=5) (cs:=xs) (by rw[h2];rfl)⟩
 obtain⟨hB,hHb,_⟩:=hL 0 b _ _ rfl;have hbt:Lib.strCells (sb s)=Lib.byteCells s:=by rw[Lib.strCells_eq]
 rw[hbt,←Lib.byteCells_append,show l.length+s.length=(l++s).length by simp]at how'
 have hob:∀k T cs,(k,T,cs)∈ow'→v'.ownBlock=some k:=fun k T cs hm=>by
  rcases how'.2 with ⟨_,_,h3⟩ | ⟨g,cap,sp,h2,h3,_⟩
  ·rw[h3]at hm;cases hm
  ·rw[h3]at hm;rw[h2];simp at hm;simp[Value.ownBlock,hm.1]
 have hneb:v'.ownBlock≠some b:=Lib.ownBlock_ne hrow' hB' (by decide);refine⟨_,(b,172,[.pointer (some ⟨b,0,none⟩),v'])::ow',H,rfl,⟨rfl,_,v',ow',rfl,.inr rfl,how'⟩,Hp.Le.refl _,fun k c hc=>?_,Nw.refl _ _ _,hk.mono (fun k _ e=>?_),fun j k T1 cs hj=>?_,?_⟩
 ·obtain⟨T3,fz,hW⟩:=hf k c hc;refine⟨T3,fz,?_⟩;rw[hk.block k (hf.lt (by rw[hc];simp)) (fun e=>?_)]
  ·exact hW
  ·rcases e with e | e
   ·subst e;rw[hHb]at hc;cases hc
   ·rw[(vH k e).1]at hc;cases hc
 ·rcases e with e | e
  ·subst e;exact Ows.bs_mem (j:=0) rfl
  ·exact(vH k e).2
 ·cases j with
  | zero =>
   cases (show some (b,172,[Value.pointer (some ⟨b,0,none⟩),v'])=some (k,T1,cs) from hj);exact⟨hB',.inr (Ows.bs_mem (j:=0) rfl),hHb⟩
  | succ j =>
   have hm:(k,T1,cs)∈ow':=qF (by simpa using hj);refine⟨(hnew _ _ _ hm).2,?_,?_⟩
   ·rcases hpl k (hob _ _ _ hm) with e | e
    ·exact .inr (vH k e).2
    ·exact .inl e
   ·rcases hpl k (hob _ _ _ hm) with e | e
    ·exact(vH k e).1
    ·cases hc:H k with
     | none=>rfl
     | some c=>have:=hf.lt (b:=k) (by rw[hc];simp);omega
 ·intro j j' k T1 T2 c1 c2 h1 h2;have nb:∀(j:Nat) (T:TypeId) (cs:List Value),ow'[j]?=some (b,T,cs)→False:=fun j T cs hj=>hneb (hob _ _ _ (qF hj))
  cases j with
  | zero =>
   simp only[List.getElem?_cons_zero,Option.some.injEq,Prod.mk.injEq]at h1
   cases j' with
   | zero=>rfl
   | succ j'=>rw[←h1.1]at h2;exact(nb j' _ _ (by simpa using h2)).elim
  | succ j =>
   cases j' with
   | zero =>
    simp only[List.getElem?_cons_zero,Option.some.injEq,Prod.mk.injEq]at h2;rw[←h2.1]at h1;exact(nb j _ _ (by simpa using h1)).elim
   | succ j' =>
    have e1:=(qE.1 (show ow'[j]?=some (k,T1,c1) by simpa using h1)).1;have e2:=(qE.1 (show ow'[j']?=some (k,T2,c2) by simpa using h2)).1;omega
theorem za1.freeze {X:Nat→Prop} {a w:World} (h:za1 X a w) {p:Addr} (hp:p.block<a.heap.size→X p.block) (n:Nat):za1 X a (w.freeze p n):=by
 unfold World.freeze;split
 ·exact h
 ·refine⟨h.os,h.tape,h.output,by simpa using h.size,fun k hk hx=>?_⟩;simp only[Array.getElem?_modify];rw[if_neg (fun e=>hx (by rw[←e];exact hp (by rw[e];exact hk)))];exact h.block k hk hx
theorem Tryz.cellsU8:Tryz.prog.cellsOf 5=1:=by kernel_rfl
set_option maxRecDepth 100000 in
theorem zg1 {W:World} {b g cap:Nat} {p:Value} {l:List UInt8} {cur:Array Value} (h0:l≠[]) (hB:Box W b #[p,.slice (some ⟨g,0,none⟩) l.length cap] 172) (hg:Box W g cur 5) (hnc:l.length≤cap) (hcm:cap≤maxLen) (hcs:cur.size=cap) (htake:cur.toList.take l.length=Lib.byteCells l) :
  Calls prog 94 #[.pointer (some ⟨b,0,none⟩)] W fun e W'=>e=.returned (.string ⟨l.toArray⟩)∧W'=W.drew.freeze ⟨g,0,none⟩ l.length:=by
 have hl0:l.length≠0:=by simpa using h0
 have hg':W.drew.heap[g]?=some (.cells cur 5 (0,0)):=hg
 have c1:W.drew.cell? ⟨b,1,none⟩=some (.slice (some ⟨g,0,none⟩) l.length cap):=by
  have:W.drew.heap[b]?=some (.cells #[p,.slice (some ⟨g,0,none⟩) l.length cap] 172 (0,0)):=hB;rw[Lib.cell_of_heap this];rfl
 have hSD:(Builtin.unsafeSliceData_ #[170] 226 #[.slice (some ⟨g,0,none⟩) l.length cap]).run prog W.drew=.ok (.pointer (some ⟨g,0,none⟩)) W.drew :=
  Lib.run_unsafeSliceData_row _ _ _ _ _ _ oM
 have hUS:(Builtin.unsafeString_ #[226,3] 9 #[.pointer (some ⟨g,0,none⟩),.int .i64 l.length]).run prog W.drew=.ok (.string ⟨l.toArray⟩) (W.drew.freeze ⟨g,0,none⟩ l.length):=by
  refine Lib.run_unsafeString_row W.drew 226 3 9 5 Tryz.underlying226 Tryz.cellsU8 g cur.size (by simp[World.shape?,hg']) l h0 oM (by simp only[maxLen]at hcm;omega) ?_;intro j x hx;have hj:=(qE.1 hx).1
  have e1:cur.toList[j]?=some (.int .u8 x.toNat):=by
   have:(cur.toList.take l.length)[j]?=some (.int .u8 x.toNat):=by rw[htake];simp[Lib.byteCells,hx]
   rwa [List.getElem?_take_of_lt hj]at this
  rw[Addr.add_mid,Nat.zero_add,Lib.cell_of_heap hg'];simpa using e1
 have mixed:Tryz.prog.follows Departure.mixedOrders=true:=by kernel_rfl
 go_enter func94,ntmps94;go_wp2
 go_region_o
 all_goals (go_wp2;go_ret;exact⟨rfl,rfl⟩)
theorem zh2 {H:Hp} {b:Nat} {l:List UInt8} {L:Ows} (h:zpr b l L) (h0:l≠[]):PW prog 94 #[.pointer (some ⟨b,0,none⟩)] H L fun r ow _=>r=.string (sb l)∧ow=[]:=by
 obtain⟨p,v,ow,rfl,hp,hown⟩:=h;have hl:0<l.length:=List.length_pos_iff.2 h0;refine⟨(cO func94),fun W hf hg hL hd=>?_⟩;obtain⟨g,cap,sp,rfl,rfl,hsp,hnc,hcm⟩:=hown.block hl;obtain⟨hB,hHb,_⟩:=hL 0 b _ _ rfl;obtain⟨hG,hHg,_⟩:=hL 1 g _ _ rfl;refine(zg1 (cur:=(Lib.byteCells l++sp).toArray) h0 hB hG hnc hcm (by simpa using hsp) (by simp only[List.toList_toArray];rw[show l.length=(Lib.byteCells l).length by rw[Lib.byteCells_length]];exact List.take_left)).mono ?_;rintro e W' ⟨rfl,rfl⟩
 have hk:za1 (fun k=>k∈Ows.bs [(b,172,[p,.slice (some ⟨g,0,none⟩) l.length cap]),(g,5,Lib.byteCells l++sp)]) W (W.drew.freeze ⟨g,0,none⟩ l.length) :=
  za1.freeze (p:=⟨g,0,none⟩) (za1.refl _ W).drew (fun _=>Ows.bs_mem (j:=1) rfl) _
 refine⟨_,[],H,rfl,⟨rfl,rfl⟩,Hp.Le.refl _,fun k c hc=>?_,Nw.refl _ _ _,hk,fun j k T1 cs hj=>(by simp at hj),fun j j' k T1 T2 c1 c2 h1 h2=>(by simp at h1)⟩;obtain⟨T3,fz,hW⟩:=hf k c hc;refine⟨T3,fz,?_⟩;rw[hk.block k (hf.lt (by rw[hc];simp)) (fun e=>?_)]
 ·exact hW
 ·simp[Ows.bs]at e;rcases e with e | e
  ·subst e;rw[hHb]at hc;cases hc
  ·subst e;rw[hHg]at hc;cases hc
theorem zpa (u:Nat) (h:u<100):PV prog 251 #[.int .i64 (u:Int)] (.string (zrL u)) :=
 ⟨(cO func251),fun W _=>(Tryz.internal_strconv_small u h W).mono fun e W' ⟨he,hw⟩=>⟨he,by rw[hw];exact Below.refl _ _⟩⟩
theorem zkA (z:Int) (h0:0≤z) (h:z<100):PV prog 145 #[.int .i64 z] (.string (sb (Lib.decDigits z.toNat))):=by
 obtain⟨u,rfl⟩:=Int.eq_ofNat_of_zero_le h0;exact⟨(cO func145),fun W _=>(Tryz.strconv_Itoa_small u oM W).mono fun e W' ⟨he,hw⟩=>⟨he,by rw[hw];exact Below.refl _ _⟩⟩
theorem ziL (s:List UInt8) (c:Nat) (hc:c≤1000000) (hs:s.length≤1000000):PV prog 144 #[.string (sb s),.int .i64 (c:Int)] (.string (sb (Lib.repeatL s c))) :=
 ⟨(cO func144),fun W _=>Tryz.strings_Repeat (sb s) c W oM (by
  have e:(sb s).size=s.length:=by simp[sb,ByteArray.size]
  rw[e];have:=Nat.mul_le_mul hs hc;omega)⟩
theorem zqd (u:Nat) (hu:u<100):PV prog 234 #[.int .u64 (u:Int),.int .i64 10] (.string (zrL u)):=by
 have h0:=zpa u hu
 have h1:PV prog 255 #[.int .u64 (u:Int),.int .i64 10] (.string (zrL u)):=by
  refine PV.of_pc ?_;refine BD func255 ntmps255 ?_;refine uR ?_;rw[qD (show (u:Int)<100 by omega)];refine uR ?_;rw[show IntKind.i64.wrap (u:Int)=(u:Int) by rw[IntKind.wrap_i64];omega]
  repeat (first|refine RUN ?_|refine CV (h0) ?_|refine CE (h0) ?_)
  rfl
 refine PV.of_pc ?_;refine BD func234 ntmps234 ?_
 repeat (first|refine RUN ?_|refine CV (h1) ?_|refine CE (h1) ?_)
 rfl
theorem zjM (n:Nat) (hn:n<100):PV prog 194 #[zaA n] (.string (zrL n)):=by
 refine PV.of_pc ?_
 have hb:big n:=by
  show bl n≤_;have:=za4 (n:=n) (k:=64) oM;omega
 have hw:=fun H=>zcJ n hb H
 have hlen:(dig W64 n).length≤1:=by
  by_cases h0:n=0
  ·subst h0;rw[zaR];simp
  ·rw[zmF h0 (by simp only[W64];omega)];simp
 have hlo:lo n=n:=zb2 (by simp only[W64];omega);have hfmt:=zqd n hn;generalize dig W64 n=L at *
 refine BD func194 ntmps194 ?_;refine uR ?_;refine vA (hw _) ?_;rintro v G hv hG;obtain⟨a,c,rfl⟩:=SlC.val hv;rw[hlo];refine uR ?_;rw[qD (show (L.length:Int)≤1 by omega)]
 repeat (first|refine RUN ?_|refine CV (hfmt) ?_|refine CE (hfmt) ?_)
 rfl
theorem zhL (n:Nat) (hn:n<100):PV prog 193 #[zdy (n:Int)] (.string (sb (Lib.decDigits n))):=by
 have h:=zjM n hn;refine PV.of_pc ?_;refine BD func193 ntmps193 ?_;refine uR ?_;rw[qC (show ¬(n:Int)<0 by omega)]
 repeat (first|refine RUN ?_|refine CV (h) ?_|refine CE (h) ?_)
 rfl
theorem zij (n:Nat) (hn:n<100):PV prog 146 #[zab (n:Rat)] (.string (sb (Lib.decDigits n))):=by
 have h:PV prog 193 #[zdy ((n:Rat)).num] (.string (sb (Lib.decDigits n))):=zhL n hn;have hd:((n:Rat)).den=1:=rfl;have hw:=za7 (n:Rat) (by rw[hd];show bl 1≤_;have:=za4 (n:=1) (k:=1) oM;omega);generalize (n:Rat)=q at *
 refine PV.of_pc ?_;refine BD func146 ntmps146 ?_
 repeat (first|refine RUN ?_|refine CV (hw) ?_|refine CE (hw) ?_)
 rw[qD hd]
 repeat (first|refine RUN ?_|refine CV (h) ?_|refine CE (h) ?_)
 rfl
inductive zeQ (T:List Nd) (x:List Rat):Nat→List Int→Prop
 | here {i:Nat} {n:Nd}:T[i]?=some n→n.col = -1→zeQ T x i [(i:Int)]
 | low {i:Nat} {l:List Int} {n:Nd}:T[i]?=some n→n.col ≠ -1→x.getD n.col.toNat 0≤n.at'→zeQ T x n.left.toNat l→zeQ T x i ((i:Int)::l)
 | high {i:Nat} {l:List Int} {n:Nd}:T[i]?=some n→n.col ≠ -1→¬x.getD n.col.toNat 0≤n.at'→zeQ T x n.right.toNat l→zeQ T x i ((i:Int)::l)
set_option maxRecDepth 100000 in
theorem zrG {H:Hp} {cs:List Value} {vx:Value} {kd cl w:Int} {ns:List Nd} {x:List Rat} (ht:zds H cs kd cl w ns) (hok:zb0 ⟨kd,cl,w,ns⟩) (hx:QL H vx x) (hxl:(x.length:Int)=w) (hxs:∀q,q∈x→sm q) :
  PC prog 17 #[.agg cs.toArray,vx] H fun r G=>∃l v,r=.tuple #[v,.int .i64 0]∧IL G v l∧zeQ ns x 0 l∧l.length≤2000:=by
 have hck:=zbN ht hok;obtain⟨a,cp,css,rfl,hns,hsl⟩:=ht;obtain⟨hkd,hw,hln,⟨hh,hh10,hsub⟩,hall⟩:=hok;dsimp only at hkd hw hln hsub hall;have hpos:=hsub.end0;obtain⟨xa,xc,rfl⟩:=SlC.val hx;have hxS:SlC H (.slice xa x.length xc) x.length 5 (x.flatMap fun q=>zah (zab q)):=hx;refine BD func17 ntmps17 ?_
 repeat (first|refine RUN ?_|refine CV (hck) ?_|refine CE (hck) ?_)
 rw[show ((x.length:Int) != w)=false by rw[hxl];exact bne_self_eq_false _];refine uR ?_;refine EVL.lit tO rfl rfl rfl rfl rfl rfl rfl rfl rfl rfl rfl fun bl=>?_;refine uR ?_;refine EV.loopK (ι:=Nat × List Int × Value × Ows) [1,2] [2] (fun q=>[(6,.v q.2.2.1),(7,.v (.int .i64 (q.1:Int)))]) (fun _=>[]) (fun q=>q.2.2.2) (fun q G=>q.1<ns.length∧zaW 3 1 q.2.2.1 (q.2.1++[(q.1:Int)]).length ((q.2.1++[(q.1:Int)]).map iv) q.2.2.2∧q.2.1.length≤q.1∧∀l,zeQ ns x q.1 l→zeQ ns x 0 (q.2.1++l)) (fun q=>ns.length-q.1) ((0,[],.slice (some ⟨bl,0,none⟩) 1 1,[(bl,_,_)])) rfl rfl ⟨rfl,rfl,trivial⟩ trivial rfl (fun _=>rfl) (⟨hpos,zaW.full (m:=1) rfl oM,qH _,fun l h=>h⟩) ?_;rintro⟨i,q,u,ow⟩ G1 hG1 ⟨hi,hown,hql,hlf⟩;dsimp only at hi hown hql hlf;obtain⟨oa,oc,rfl⟩:=hown.val;obtain⟨n,hn⟩:=gE hi;obtain⟨c,hcut,hnd⟩:=(hns.mono hG1).get hn;obtain⟨a7,c7,rfl,_⟩:=hnd.cells;obtain⟨n',hn',hN,_⟩:=hall i hi;cases hn.symm.trans hn';obtain⟨h',e',hsi⟩:=hsub.at i (Nat.zero_le _) hi;have hle:=hsi.lt;have hsl1:=hsl.mono hG1;have hll:(q++[(i:Int)]).length≤1000000:=by rw[List.length_append,List.length_singleton];omega
 refine uR ?_;refine EVL.idxM tO rfl rfl rfl rfl rfl rfl rfl rfl rfl (hsl1) (i) (rfl) (hi) (hcut) ?_;refine uR ?_
 cases hsi with
 | leaf q1 q2 q3 q4 q5 =>
  rw[hn]at q1;cases q1;rw[show (n.col != -1)=false by rw[q2];rfl];(first|refine EVL.publishL [] ow [] ((qG _).symm) hown fun G2 hG2 hs2=>?_|refine EV.publishL [] ow [] ((qG _).symm) hown fun G2 hG2 hs2=>?_);refine uR ?_;exact⟨_,_,rfl,hs2,hlf _ (.here hn q2),by rw[List.length_append,List.length_singleton];omega⟩
 | @node _ h1 m _ _ q1 q2 q3 q4 q5 s1 s2 =>
  rw[hn]at q1;cases q1;have hm1:=s1.lt;have hm2:=s2.lt;have hcl:n.col.toNat<x.length:=by omega
  obtain⟨y,hy⟩:∃y,x[n.col.toNat]?=some y:=⟨_,qA hcl⟩;have hyg:x.getD n.col.toNat 0=y:=by rw[qB,hy];rfl
  have hcmp:=zcN y n.at' (hxs y (qF hy)) (zaG hN.small.1 oM);rw[show (n.col != -1)=true from bne_iff_ne.2 (by omega)];refine uR ?_;refine EVL.idxM tO rfl rfl rfl rfl rfl rfl rfl rfl rfl (hsl1) (i) (rfl) (hi) (hcut) ?_;refine uR ?_;apply EV.drawn 9 kR kR;intro xv yw;(repeat refine' DD ?_);refine' DJ.idxM tO rfl rfl rfl rfl rfl rfl rfl rfl rfl ((hxS.mono hG1)) (n.col.toNat) ((by rw[Int.toNat_of_nonneg q2])) (hcl) (QL.at (H:=H) (v:=.bool true) hy) ?_;rotate_left;(repeat (first|refine' DD ?_|(refine' DC (hcmp) (h:=?_);rotate_left)));(refine DJ.nil (fun G2 hG2 hF2=>?_);(case hS|hS2=>rfl));by_cases hle2:y≤n.at'
  ·rw[qD (zng hle2)];refine uR ?_;refine EVL.app1 tO rfl rfl rfl rfl rfl rfl rfl rfl rfl rfl rfl rfl rfl rfl rfl rfl rfl rfl rfl (fun _=>rfl) (ow) ([]) ((qG _).symm) (hown) (oM) fun _=>?_;intro v' ow' hown';refine uR ?_;refine⟨(n.left.toNat,q++[(i:Int)],v',ow'),⟨rfl,by rw[Int.toNat_of_nonneg (by omega)];rfl,trivial⟩,sB,trivial,sB,qG _,⟨by dsimp only;omega,by dsimp only;rw[Int.toNat_of_nonneg (by omega)];exact hown'.il,by dsimp only;rw[List.length_append,List.length_singleton];omega,fun l h=>by dsimp only;rw[List.append_assoc];exact hlf _ (.low hn oM (by rw[hyg];exact hle2) h)⟩,hG2,by dsimp only;omega⟩
  ·rw[qC (show ¬zcA y n.at'≤0 from fun k=>hle2 (Rat.not_lt.1 fun k2=>by have:=(zoQ y n.at').2 k2;omega))];refine uR ?_;refine EVL.app1 tO rfl rfl rfl rfl rfl rfl rfl rfl rfl rfl rfl rfl rfl rfl rfl rfl rfl rfl rfl (fun _=>rfl) (ow) ([]) ((qG _).symm) (hown) (oM) fun _=>?_;intro v' ow' hown';refine uR ?_;refine⟨(n.right.toNat,q++[(i:Int)],v',ow'),⟨rfl,by rw[Int.toNat_of_nonneg (by omega)];rfl,trivial⟩,sB,trivial,sB,qG _,⟨by dsimp only;omega,by dsimp only;rw[Int.toNat_of_nonneg (by omega)];exact hown'.il,by dsimp only;rw[List.length_append,List.length_singleton];omega,fun l h=>by dsimp only;rw[List.append_assoc];exact hlf _ (.high hn oM (by rw[hyg];exact hle2) h)⟩,hG2,by dsimp only;omega⟩
abbrev znB (d:Nat):List UInt8:=Lib.repeatL [32,32] d
inductive Txt (T:List Nd) (kd:Int) (f:Rat→List UInt8):Nat→Nat→List UInt8→Prop
 | cls {k d:Nat} {n:Nd}:T[k]?=some n→n.col = -1→kd=1→Txt T kd f k d (znB d++(([99,108,97,115,115,32]++Lib.decDigits n.cls.toNat)++[10]))
 | val {k d:Nat} {n:Nd}:T[k]?=some n→n.col = -1→kd≠1→Txt T kd f k d (znB d++(([118,97,108,117,101,32]++f n.value)++[10]))
 | node {k d:Nat} {n:Nd} {a b:List UInt8}:T[k]?=some n→n.col ≠ -1→Txt T kd f n.left.toNat (d+1) a→Txt T kd f n.right.toNat (d+1) b→Txt T kd f k d (znB d++(((([120]++Lib.decDigits n.col.toNat)++[32,60,61,32])++f n.at')++[10])++a++b)
theorem zdD (s:List UInt8):∀c,(Lib.repeatL s c).length=c*s.length
 | 0=>by simp[Lib.repeatL]
 | c+1=>by rw[Lib.repeatL,List.length_append,zdD s c,Nat.succ_mul];omega
structure zrR (H:Hp) (ns:List Nd) (kd w:Int) (f:Rat→List UInt8):Prop where
 wide:w≤100
 cls:∀n,n∈ns→0≤n.cls∧n.cls<100
 atT:∀n,n∈ns→n.col ≠ -1→(f n.at').length≤9000∧∀G,H.Le G→PC prog 146 #[zab n.at'] G fun r _=>r=.string (sb (f n.at'))
 valT:kd≠1→∀n,n∈ns→(f n.value).length≤9000∧∀G,H.Le G→PC prog 146 #[zab n.value] G fun r _=>r=.string (sb (f n.value))
theorem zkp {n:Nat} (h:n<100):(Lib.decDigits n).length≤20:=zor oM
set_option maxRecDepth 100000 in
theorem zpp {H0:Hp} {ns:List Nd} {kd cl w:Int} {f:Rat→List UInt8} (hF:zrR H0 ns kd w f):∀{k h e:Nat},Sub ns w k h e→∀(d:Nat),d+h≤1000 →
  ∃l,Txt ns kd f k d l∧0<l.length∧l.length≤(e-k)*20000∧∀{H:Hp} {cs:List Value} {b:Nat} {t:List UInt8} {L:Ows},H0.Le H→zds H cs kd cl w ns→zpr b t L→t.length+(e-k)*20000≤100000000 →
   PW prog 93 #[.pointer (some ⟨b,0,none⟩),.agg cs.toArray,.int .i64 (k:Int),.int .i64 (d:Int)] H L fun r ow _=>r=.tuple #[]∧zpr b (t++l) ow:=by
 intro k h e hs
 induction hs with
 | @leaf k h n q1 q2 q3 q4 q5 =>
  intro d hd;have hk:=(qE.1 q1).1;have hmem:=qF q1;obtain⟨hc0,hc1⟩:=hF.cls n hmem;have hrep:=ziL [32,32] d oM (by simp);have hlr:(znB d).length=d*2:=zdD _ _;by_cases hkd:kd=1
  ·have hl:=zkp (n:=n.cls.toNat) oM;refine⟨_,.cls q1 q2 hkd,by simp;omega,by simp only[List.length_append,hlr,List.length_cons,List.length_nil];omega,fun {H cs b t L} hH ht hb hsz=>?_⟩;have hit:=zkA n.cls hc0 hc1;obtain⟨a,cp,css,rfl,hns,hsl⟩:=ht;obtain⟨c,hcut,hnd⟩:=hns.get q1;obtain⟨a7,c7,rfl,_⟩:=hnd.cells;obtain⟨p,v,ow,rfl,hp,hown⟩:=id hb;refine PW.body tO func93 rfl kR ntmps93 rfl rfl ?_;refine uR ?_;refine EVL.idxM tO rfl rfl rfl rfl rfl rfl rfl rfl rfl (hsl) (k) (rfl) (hk) (hcut) ?_
   repeat (first|refine RUN ?_|refine CV (hrep) ?_|refine CE (hrep) ?_)
   refine EVL.callW rfl rfl rfl rfl rfl ((b,172,[p,v])::ow) [] (qG _).symm (zbr (znB d) hb oM) ?_;rintro _ ow1 H1 ⟨rfl,hb1⟩ hH1;refine uR ?_;rw[show (n.col != -1)=false by rw[q2];rfl];refine uR ?_;rw[show (kd == 1)=true by rw[hkd];rfl]
   repeat (first|refine RUN ?_|refine CV (hit) ?_|refine CE (hit) ?_)
   refine EVL.cat [99,108,97,115,115,32] (Lib.decDigits n.cls.toNat) rfl rfl rfl rfl rfl rfl (by decide) oM ?_;refine EVL.cat ([99,108,97,115,115,32]++Lib.decDigits n.cls.toNat) [10] rfl rfl rfl rfl rfl rfl (by simp only[List.length_append,List.length_cons,List.length_nil];omega) (by decide) ?_;refine EVL.callW rfl rfl rfl rfl rfl ow1 [] rfl (zbr (([99,108,97,115,115,32]++Lib.decDigits n.cls.toNat)++[10]) hb1 (by simp only[List.length_append,hlr,List.length_cons,List.length_nil];omega)) ?_;rintro _ ow2 H2 ⟨rfl,hb2⟩ hH2;refine uR ?_;rw[List.append_assoc]at hb2;exact⟨rfl,by rw[qG];exact hb2⟩
  ·obtain⟨hl,hvt⟩:=hF.valT hkd n hmem;refine⟨_,.val q1 q2 hkd,by simp;omega,by simp only[List.length_append,hlr,List.length_cons,List.length_nil];omega,fun {H cs b t L} hH ht hb hsz=>?_⟩;obtain⟨a,cp,css,rfl,hns,hsl⟩:=ht;obtain⟨c,hcut,hnd⟩:=hns.get q1;obtain⟨a7,c7,rfl,_⟩:=hnd.cells;obtain⟨p,v,ow,rfl,hp,hown⟩:=id hb;refine PW.body tO func93 rfl kR ntmps93 rfl rfl ?_;refine uR ?_;refine EVL.idxM tO rfl rfl rfl rfl rfl rfl rfl rfl rfl (hsl) (k) (rfl) (hk) (hcut) ?_
   repeat (first|refine RUN ?_|refine CV (hrep) ?_|refine CE (hrep) ?_)
   refine EVL.callW rfl rfl rfl rfl rfl ((b,172,[p,v])::ow) [] (qG _).symm (zbr (znB d) hb oM) ?_;rintro _ ow1 H1 ⟨rfl,hb1⟩ hH1;refine uR ?_;rw[show (n.col != -1)=false by rw[q2];rfl];refine uR ?_;rw[show (kd == 1)=false from beq_false_of_ne hkd];refine uR ?_;refine vA (hvt _ (hH.trans hH1)) ?_;rintro _ G rfl hG;refine EVL.cat [118,97,108,117,101,32] (f n.value) rfl rfl rfl rfl rfl rfl (by decide) oM ?_;refine EVL.cat ([118,97,108,117,101,32]++f n.value) [10] rfl rfl rfl rfl rfl rfl (by simp only[List.length_append,List.length_cons,List.length_nil];omega) (by decide) ?_;refine EVL.callW rfl rfl rfl rfl rfl ow1 [] rfl (zbr (([118,97,108,117,101,32]++f n.value)++[10]) hb1 (by simp only[List.length_append,hlr,List.length_cons,List.length_nil];omega)) ?_;rintro _ ow2 H2 ⟨rfl,hb2⟩ hH2;refine uR ?_;rw[List.append_assoc]at hb2;exact⟨rfl,by rw[qG];exact hb2⟩
 | @node k h m e n q1 q2 q3 q4 q5 s1 s2 ih1 ih2 =>
  intro d hd;have hk:=(qE.1 q1).1;have hmem:=qF q1;have hrep:=ziL [32,32] d oM (by simp);have hlr:(znB d).length=d*2:=zdD _ _;have hw:=hF.wide;have hl0:=zkp (n:=n.col.toNat) oM;have hit:=zkA n.col q2 oM;have hcm:n.col ≠ -1:=by omega
  obtain⟨hl,hvt⟩:=hF.atT n hmem hcm;obtain⟨la,hta,ha0,ha1,ha2⟩:=ih1 (d+1) oM;obtain⟨lb,htb,hb0,hb1',hb2'⟩:=ih2 (d+1) oM;have hm1:=s1.lt;have hm2:=s2.lt;refine⟨_,.node q1 hcm (by rw[q4,Int.toNat_natCast];exact hta) (by rw[q5,Int.toNat_natCast];exact htb),by simp;omega,by simp only[List.length_append,hlr,List.length_cons,List.length_nil];omega,fun {H cs b t L} hH ht hb hsz=>?_⟩;have ht0:=ht;obtain⟨a,cp,css,rfl,hns,hsl⟩:=ht;obtain⟨c,hcut,hnd⟩:=hns.get q1;obtain⟨a7,c7,rfl,_⟩:=hnd.cells;obtain⟨p,v,ow,rfl,hp,hown⟩:=id hb;refine PW.body tO func93 rfl kR ntmps93 rfl rfl ?_;refine uR ?_;refine EVL.idxM tO rfl rfl rfl rfl rfl rfl rfl rfl rfl (hsl) (k) (rfl) (hk) (hcut) ?_
  repeat (first|refine RUN ?_|refine CV (hrep) ?_|refine CE (hrep) ?_)
  refine EVL.callW rfl rfl rfl rfl rfl ((b,172,[p,v])::ow) [] (qG _).symm (zbr (znB d) hb oM) ?_;rintro _ ow1 H1 ⟨rfl,hb1⟩ hH1;refine uR ?_;rw[show (n.col != -1)=true from bne_iff_ne.2 hcm];refine uR ?_;apply EV.drawn 11 kR kR;intro xv yw;(repeat (first|refine' DD ?_|(refine' DC (hit) (h:=?_);rotate_left)));refine' DJ.cat [120] (Lib.decDigits n.col.toNat) rfl rfl rfl rfl rfl rfl (by decide) oM ?_;rotate_left;refine' DJ.cat ([120]++Lib.decDigits n.col.toNat) [32,60,61,32] rfl rfl rfl rfl rfl rfl (by simp only[List.length_append,List.length_cons,List.length_nil];omega) (by decide) ?_;rotate_left;(repeat refine' DD ?_);refine' vC (cO func146) (fun G hG hd=>hvt G ((hH.trans hH1).trans hG)) ?_;rotate_left;refine' DJ.cat (([120]++Lib.decDigits n.col.toNat)++[32,60,61,32]) (f n.at') rfl rfl rfl rfl rfl rfl (by simp only[List.length_append,List.length_cons,List.length_nil];omega) oM ?_;rotate_left;refine' DJ.cat ((([120]++Lib.decDigits n.col.toNat)++[32,60,61,32])++f n.at') [10] rfl rfl rfl rfl rfl rfl (by simp only[List.length_append,List.length_cons,List.length_nil];omega) (by decide) ?_;rotate_left;(refine DJ.nil (fun G2 hG2 hF2=>?_);(case hS|hS2=>rfl));refine EVL.callW rfl rfl rfl rfl rfl ow1 [] rfl (zbr (((([120]++Lib.decDigits n.col.toNat)++[32,60,61,32])++f n.at')++[10]) hb1 (by simp only[List.length_append,hlr,List.length_cons,List.length_nil];omega)) ?_;rintro _ ow2 H2 ⟨rfl,hb2⟩ hH2;refine uR ?_;have ht2:=ht0.mono ((hH1.trans hG2).trans hH2);have hH3:=hH.trans ((hH1.trans hG2).trans hH2);have hX:(znB d++(((([120]++Lib.decDigits n.col.toNat)++[32,60,61,32])++f n.at')++[10])).length≤20000:=by simp only[List.length_append,hlr,List.length_cons,List.length_nil];omega
  rw[List.append_assoc]at hb2;generalize znB d++(((([120]++Lib.decDigits n.col.toNat)++[32,60,61,32])++f n.at')++[10])=X at *
  have pa:=ha2 hH3 ht2 hb2 (by rw[List.length_append];omega);rw[←q4]at pa;refine EVL.asI ((((d+1:Nat):Int))) ((by rw[IntKind.wrap_i64];omega)) ?_;refine EVL.callW rfl rfl rfl rfl rfl ow2 [] rfl pa ?_;rintro _ ow3 H3 ⟨rfl,hb3⟩ hH4;refine uR ?_;have pb:=hb2' (hH3.trans hH4) (ht2.mono hH4) hb3 (by simp only[List.length_append];omega);rw[←q5]at pb;refine EVL.asI ((((d+1:Nat):Int))) ((by rw[IntKind.wrap_i64];omega)) ?_;refine EVL.callW rfl rfl rfl rfl rfl ow3 [] rfl pb ?_;rintro _ ow4 H4 ⟨rfl,hb4⟩ hH5;refine uR ?_;exact⟨rfl,by rw[qG];simpa only[List.append_assoc] using hb4⟩
set_option maxRecDepth 100000 in
theorem zpj {H:Hp} {cs:List Value} {kd cl w:Int} {ns:List Nd} {f:Rat→List UInt8} (ht:zds H cs kd cl w ns) (hok:zb0 ⟨kd,cl,w,ns⟩) (hF:zrR H ns kd w f) :
  PC prog 43 #[.agg cs.toArray] H fun r _=>∃l,r=.string (sb l)∧Txt ns kd f 0 0 l:=by
 have hck:=zbN ht hok;obtain⟨hkd,hw,hln,⟨hh,hh10,hsub⟩,hall⟩:=hok;dsimp only at hkd hw hln hsub hall;obtain⟨l,htx,hl0,hl1,hpw⟩:=zpp (cl:=cl) hF hsub 0 oM;have ht0:=ht;obtain⟨a,cp,css,rfl,hns,hsl⟩:=ht;refine BD func43 ntmps43 ?_
 repeat (first|refine RUN ?_|refine CV (hck) ?_|refine CE (hck) ?_)
 (first|refine EVL.unbox (3) rfl fun b=>?_|refine EV.unbox (3) rfl fun b=>?_);refine uR ?_;refine EVL.callW rfl rfl rfl rfl rfl [(b,172,[.pointer none,.slice none 0 0])] [] rfl (hpw (Hp.Le.refl _) ht0 (zpr.new b) (by simp only[List.length_nil];omega)) ?_;rintro _ ow1 H1 ⟨rfl,hb1⟩ hH1;refine uR ?_;refine EVL.callW rfl rfl rfl rfl rfl ow1 [] rfl (zh2 hb1 (by rw[List.nil_append];exact List.length_pos_iff.1 hl0)) ?_;rintro _ ow2 H2 ⟨rfl,rfl⟩ hH2;refine uR ?_;exact⟨l,by rw[List.nil_append],htx⟩
def zrk:GD:=.c 2 [0,0,1]
def k18:GP:=⟨[[1],[2],[4]],zrk.cost,zrk.mean,zrk.cnt,1,0,fun s=>(zcL 1,s)⟩
theorem zoB:zl3 [1,2,4]=[1,2,4]:=by
 unfold zl3;exact List.mergeSort_of_pairwise (by decide)
theorem zrm:plQ k18.X 0 [0,1,2]=[3 / 2,3]:=by
 unfold plQ;rw[if_pos kR,show List.map (zbp k18.X 0) [0,1,2]=[1,2,4] by kernel_rfl,zoB]
 kernel_rfl
theorem zoz:k18.best [0,1,2] (zcL 1)=some (0,3,4 / 3):=by
 unfold GP.best zbb;rw[show zcL 1=[0] by kernel_rfl,List.flatMap_cons,List.flatMap_nil,zrm]
 kernel_rfl
theorem zql:k18.cut [0,1,2] (zcL 1)=some (0,3):=by
 unfold GP.cut;rw[zoz]
 kernel_rfl
set_option maxRecDepth 100000 in
theorem zoA (s:Int):(k18.grow 1 0 [0,1,2] s).1.map (fun n=>(n.col,n.left,n.right,n.cls,n.at'))=[(0,1,2,0,3),(-1,0,0,0,0),(-1,0,0,1,0)]:=by
 rw[GP.grow];rw[show (k18.cols s).1=zcL 1 from rfl,zql]
 kernel_rfl
abbrev zqS:List UInt8:=[120,48,32,60,61,32,51,10,32,32,99,108,97,115,115,32,48,10,32,32,99,108,97,115,115,32,49,10]
abbrev f18:Rat→List UInt8:=fun q=>Lib.decDigits q.num.natAbs
def zq0 (ns:List Nd):Prop:=ns.map (fun n=>(n.col,n.left,n.right,n.cls,n.at'))=[(0,1,2,0,3),(-1,0,0,0,0),(-1,0,0,1,0)]
theorem zq0.parts {ns:List Nd} (h:zq0 ns):∃a b c:Nd,ns=[a,b,c]∧(a.col=0∧a.left=1∧a.right=2∧a.cls=0∧a.at'=3)∧(b.col = -1∧b.cls=0)∧(c.col = -1∧c.cls=1):=by
 unfold zq0 at h;have hl:ns.length=3:=by simpa using congrArg List.length h
 match ns,hl with
 | [a,b,c],_ =>
  simp only[List.map_cons,List.map_nil,List.cons.injEq,Prod.mk.injEq,and_true]at h;obtain⟨⟨h1,h2,h3,h4,h5⟩,⟨h6,_,_,h7,_⟩,⟨h8,_,_,h9,_⟩⟩:=h;exact⟨a,b,c,rfl,⟨h1,h2,h3,h4,h5⟩,⟨h6,h7⟩,⟨h8,h9⟩⟩
theorem zgP {ns:List Nd} {f:Rat→List UInt8} {k d:Nat} {n:Nd} {l:List UInt8} (hn:ns[k]?=some n) (hc:n.col = -1) (h:Txt ns 1 f k d l):l=znB d++(([99,108,97,115,115,32]++Lib.decDigits n.cls.toNat)++[10]):=by
 cases h with
 | cls h1 h2 h3=>cases hn.symm.trans h1;rfl
 | val h1 h2 h3=>exact absurd rfl h3
 | node h1 h2 h3 h4=>cases hn.symm.trans h1;exact absurd hc h2
theorem zpk {ns:List Nd} (h:zq0 ns) {l:List UInt8} (ht:Txt ns 1 f18 0 0 l):l=zqS:=by
 obtain⟨a,b,c,rfl,⟨h1,h2,h3,h4,h5⟩,⟨h6,h7⟩,⟨h8,h9⟩⟩:=h.parts
 cases ht with
 | cls k1 k2 k3=>cases k1;omega
 | val k1 k2 k3=>exact absurd rfl k3
 | node k1 k2 k3 k4 =>
  cases k1;rw[h2]at k3;rw[h3]at k4;rw[zgP (n:=b) rfl h6 k3,zgP (n:=c) rfl h8 k4,h1,h5,h7,h9];decide +kernel
theorem zhR.gpAny {p:GP} {kd cl:Int} {w:Nat} (h:zhR kd cl p.X.length p.cost p.mean p.cnt) (hX:p.X.length≤300) (hx:∀x,x∈p.X→x.length=w∧∀q,q∈x→ht q≤60) (hg:0≤p.gain) (hc:∀s c,c∈(p.cols s).1→0≤c∧c<(w:Int)):zjc p kd cl w :=
 ⟨h.kind,hX,fun x k=>(hx x k).1,fun x k=>(hx x k).2,h.clen,h.cadd,h.cpos,h.csum,h.zero,h.cost0,h.csm,h.msm,hg,hc⟩
theorem zpA:zrk.Ok 3:=⟨by omega,rfl,by decide⟩
theorem zhk:∀x,x∈k18.X→x.length=1∧∀q,q∈x→ht q≤60:=by decide +kernel
theorem zrl:zjc k18 1 2 1:=zhR.gpAny (p:=k18) zpA.plain (by decide) zhk (by decide +kernel) (fun s c hc=>by
 have:c∈([0]:List Int):=hc;rw[List.mem_singleton.1 this];omega)
theorem zoC (s:Int):zb0 ⟨1,2,1,(k18.grow 1 0 [0,1,2] s).1⟩:=zmR zrl ⟨by omega,by omega⟩ oM (by decide) (by decide) (by decide) s
theorem zqm (H:Hp) {ns:List Nd} (h:zq0 ns):zrR H ns 1 1 f18:=by
 obtain⟨a,b,c,rfl,⟨h1,h2,h3,h4,h5⟩,⟨h6,h7⟩,⟨h8,h9⟩⟩:=h.parts;have hm:∀n,n∈[a,b,c]→n=a∨n=b∨n=c:=fun n hn=>by simpa using hn
 refine⟨by omega,fun n hn=>?_,fun n hn hc=>?_,fun h=>absurd rfl h⟩
 ·rcases hm n hn with rfl | rfl | rfl <;> omega
 ·rcases hm n hn with rfl | rfl | rfl
  ·rw[h5];exact⟨by decide +kernel,fun G _=>((zij 3 oM).pc G).mono fun _ _ h _=>h.1⟩
  ·exact absurd h6 hc
  ·exact absurd h8 hc
def knX:List (List Rat):=[[1],[2],[4]]
theorem zrn {G:Hp} {a b c v:Value} {p q r:Rat} (h1:RL G a [p]) (h2:RL G b [q]) (h3:RL G c [r]) (hm:v∈[a,b,c]):(zah v).length=1:=by
 obtain⟨_,_,rfl⟩:=h1.val;obtain⟨_,_,rfl⟩:=h2.val;obtain⟨_,_,rfl⟩:=h3.val;rcases List.mem_cons.1 hm with rfl | hm
 ·rfl
 ·rcases List.mem_cons.1 hm with rfl | hm
  ·rfl
  ·rw[List.mem_singleton.1 hm];rfl
theorem zro {G:Hp} {a b c v:Value} (h1:RL G a [((1:Int):Rat)]) (h2:RL G b [((2:Int):Rat)]) (h3:RL G c [((4:Int):Rat)]) (h:SlC G v 3 1 ([a,b,c].flatMap zah)):RLL G v knX:=by
 obtain⟨_,_,rfl⟩:=h1.val;obtain⟨_,_,rfl⟩:=h2.val;obtain⟨_,_,rfl⟩:=h3.val;exact⟨_,(((RRs.nil G).snoc h1).snoc h2).snoc h3,h⟩
theorem zrS:∀x,x∈knX→∀q,q∈x→ht q≤100:=by decide +kernel
theorem zoD:∀x,x∈knX→x.length≤1000000∧∀q,q∈x→rq q:=fun x hx=>⟨by revert x;decide +kernel,fun q hq=>qI (zrS x hx q hq) oM⟩
abbrev zrw:Value:=.agg #[.int .i64 1,.int .i64 1,.bool false,.int .u64 0,.string .empty,.int .u64 0,.string .empty]
theorem zo3:zrw=.agg (zpM ((1:Nat):Int) 1 0).toArray:=by
 unfold zpM;rw[zaz];rfl
theorem zmQ {G1:Hp} {b:Nat} (hv:IL G1 (.slice (some ⟨b,0,none⟩) 3 3) [0,0,1]) (G:Hp) (hG:G1.Le G) (v8 v9:Value) (h8:QLL G v8 k18.X) (h9:IL G v9 [0,1,2]) :
  PC prog 13 #[zaE 1 2 (.slice (some ⟨b,0,none⟩) 3 3) (.slice none 0 0),v8,v9,zrw] G fun v H'=>∃cs ns,v=.tuple #[.agg cs.toArray,.int .i64 0]∧zds H' cs 1 2 1 ns∧zq0 ns∧zb0 ⟨1,2,1,ns⟩:=by
 have hP:zrk.P G (.slice (some ⟨b,0,none⟩) 3 3) (.slice none 0 0):=⟨_,3,none,0,rfl,rfl,hv.mono hG⟩;obtain⟨S,wo,hg⟩:=zpA.pgoal oM oM hP (p:=k18) rfl rfl rfl rfl;obtain⟨xa,xc,rfl⟩:=SlC.val h8.choose_spec.2;rw[zo3];exact(zf7 (p:=k18) (least:=1) (w:=1) (s:=0) (D0:=1) (fun _=>rfl) oM oM (by decide) (by decide) (fun x hx=>(zhk x hx).1) (fun x hx=>(zhk x hx).2) rfl oM (show sm 0 by show ht 0≤100000000;rw[zb8];decide) (by decide +kernel) oM hg h8 h9 (by decide) (by decide) (by decide)).mono fun v H' ⟨cs,e,hp⟩ _=>⟨cs,_,e,hp,zoA 0,zoC 0⟩
set_option maxRecDepth 100000 in
theorem zlD:PV prog 14 #[] (.bool true):=by
 refine PV.of_pc ?_;have hof:=fun (z:Int) (h1:-9223372036854775808≤z) (h2:z<9223372036854775808) (G:Hp)=>zhw (H:=G) z h1 h2;refine BD func14 ntmps14 ?_;refine uR ?_;refine EVL.lit tO rfl rfl rfl rfl rfl rfl rfl rfl rfl rfl rfl fun b=>?_;(first|refine EVL.publish [] [] rfl fun G1 hG1 hb=>?_|refine EV.publish [] [] rfl fun G1 hG1 hb=>?_);have hv:IL G1 (.slice (some ⟨b,0,none⟩) 3 3) [0,0,1]:=⟨rfl,.inr ⟨b,0,3,_,rfl,qH _,hb,fun j x hj=>by rw[Nat.zero_add];simpa using hj⟩⟩;refine uR ?_;apply EV.drawn 17 kR kR;intro xv yw;(repeat refine' DD ?_);refine' vB (cO func67) (fun G hG hd=>hof 1 (by decide) (by decide) G) (fun _ _ _ h k=>RQ.mono h k) ?_;rotate_left;(refine' DJ.litD1 (Φ:=fun w G=>RL G w [((1:Int):Rat)]) (fun _ _ _ h k=>h.mono k) tO rfl rfl rfl rfl rfl rfl rfl rfl rfl rfl rfl (fun G hd=>RQ.len3 (hd.head kR)) (fun G G' w hd hG h=>RL.one h ((hd.head kR).mono hG)) ?_;rotate_left);refine' vB (cO func67) (fun G hG hd=>hof 2 (by decide) (by decide) G) (fun _ _ _ h k=>RQ.mono h k) ?_;rotate_left;(refine' DJ.litD1 (Φ:=fun w G=>RL G w [((2:Int):Rat)]) (fun _ _ _ h k=>h.mono k) tO rfl rfl rfl rfl rfl rfl rfl rfl rfl rfl rfl (fun G hd=>RQ.len3 (hd.head kR)) (fun G G' w hd hG h=>RL.one h ((hd.head kR).mono hG)) ?_;rotate_left);refine' vB (cO func67) (fun G hG hd=>hof 4 (by decide) (by decide) G) (fun _ _ _ h k=>RQ.mono h k) ?_;rotate_left;(refine' DJ.litD1 (Φ:=fun w G=>RL G w [((4:Int):Rat)]) (fun _ _ _ h k=>h.mono k) tO rfl rfl rfl rfl rfl rfl rfl rfl rfl rfl rfl (fun G hd=>RQ.len3 (hd.head kR)) (fun G G' w hd hG h=>RL.one h ((hd.head kR).mono hG)) ?_;rotate_left);(refine' DJ.litD3 (Φ:=fun w G=>RLL G w knX) (fun _ _ _ h k=>h.mono k) tO rfl rfl rfl rfl rfl rfl rfl rfl rfl rfl rfl rfl rfl (fun G hd w hm=>zrn (hd.tail.tail.tail.tail.head kR) (hd.tail.tail.head kR) (hd.head kR) hm) (fun G G' w hd hG h=>zro ((hd.tail.tail.tail.tail.head kR).mono hG) ((hd.tail.tail.head kR).mono hG) ((hd.head kR).mono hG) h) ?_;rotate_left);refine' vB (cO func12) (fun G hG hd=>zio (X:=knX) (hd.head kR) (by decide) zoD) (fun _ _ _ h k=>QLL.mono h k) ?_;rotate_left;(refine' DJ.lit tO rfl rfl rfl rfl rfl rfl rfl rfl rfl rfl rfl rfl ?_;rotate_left);(repeat refine' DD ?_);refine' vB (cO func13) (fun G hG hd=>zmQ hv G hG (xv 8) (xv 9) (hd.tail.head kR) (show IL G (xv 9) [0,1,2] from hd.head kR)) (fun _ _ _ h k=>(by obtain⟨cs,ns,e,hp,h1,h2⟩:=h;exact⟨cs,ns,e,hp.mono k,h1,h2⟩)) ?_;rotate_left;refine' DJ.copy (11) (by first|exact .inl rfl|exact .inr rfl) rfl rfl rfl id rfl kR ?_;rotate_left;refine' DJ.extract (11) rfl rfl rfl rfl rfl kR (fun G hd=>(by obtain⟨cs,ns,e,_⟩:=hd.head kR;exact⟨_,e,Nat.zero_lt_succ _⟩)) ?_;rotate_left;refine' DJ.extract (11) rfl rfl rfl rfl rfl kR (fun G hd=>(by obtain⟨cs,ns,e,_⟩:=hd.head kR;exact⟨_,e,Nat.lt_succ_self _⟩)) ?_;rotate_left;(repeat refine' DD ?_);refine' DJ.storeD tO rfl rfl rfl rfl (11) (zdI 0) rfl rfl (15) rfl rfl kR kR rfl (fun G hd=>(by obtain⟨cs,ns,e,hp,_⟩:=hd.head kR;obtain⟨_,_,_,rfl,_⟩:=hp;rw[e];exact⟨rfl,rfl⟩)) ?_;rotate_left;(refine DJ.nil (fun G2 hG2 hF2=>?_);(case hS|hS2=>rfl));obtain⟨⟨cs,ns,e4,hp4,hi4,ho4⟩,_⟩:=hF2;have htx:=zpj hp4 ho4 (zqm G2 hi4);obtain⟨a4,c4,css,rfl,_,_⟩:=id hp4;rw[e4];rw[show zdI 1 (Value.tuple #[.agg (([.int .i64 1,.int .i64 2,.int .i64 1,.slice a4 ns.length c4]:List Value)).toArray,.int .i64 0])=.int .i64 0 from rfl,show zah (zdI 0 (Value.tuple #[.agg (([.int .i64 1,.int .i64 2,.int .i64 1,.slice a4 ns.length c4]:List Value)).toArray,.int .i64 0]))=[.int .i64 1,.int .i64 2,.int .i64 1,.slice a4 ns.length c4] from rfl];refine uR ?_;refine vA (htx) ?_;rintro _ G3 ⟨l,rfl,hl⟩ hG3;obtain rfl:=zpk hi4 hl;have hck3:=zbN (hp4.mono hG3) ho4;refine uR ?_;rw[show ((sb zqS).toList == (⟨#[120,48,32,60,61,32,51,10,32,32,99,108,97,115,115,32,48,10,32,32,99,108,97,115,115,32,49,10]⟩:ByteArray).toList)=true from beq_self_eq_true (sb zqS).toList]
 repeat (first|refine RUN ?_|refine CV (hck3) ?_|refine CE (hck3) ?_)
 rfl
theorem zlC {H:Hp} {deep least:Int} {b1:Bool} {a1 a2:Option Addr} {l1 c1 l2 c2:Nat} {g:Rat} (hq:RQ H (.agg #[.bool b1,.slice a1 l1 c1,.slice a2 l2 c2]) g) (hg:rq g) :
  PC prog 11 #[zo5 deep least (.bool b1) (.slice a1 l1 c1) (.slice a2 l2 c2)] H fun r _=>r=.agg (zpM deep least g).toArray:=by
 refine BD func11 ntmps11 ?_;refine uR ?_;apply EV.drawn 8 kR kR;intro xv yw;(repeat refine' DD ?_);refine' vC (cO func63) (fun G hG hd=>zqh (RQ.mono hq hG) hg) ?_;rotate_left;(repeat refine' DD ?_);(refine DJ.nil (fun G hG hF=>?_);(case hS|hS2=>rfl));refine uR ?_;rfl
def zo4 (t:Int):Rat:=if t.tmod 4=1 then (if (zno t).num<0 then -zno t else zno t) else 0
theorem zo6 {H:Hp} (d0 l0 t:Int) (hd:zhh d0) (hl:zhh l0) (ht:zhh t) :
  PC prog 62 #[.int .i64 d0,.int .i64 l0,.int .i64 t] H fun r H'=>∃b1 a1 l1 c1 a2 l2 c2,r=zo5 (d0 % 5) (1+l0 % 3) (.bool b1) (.slice a1 l1 c1) (.slice a2 l2 c2)∧RQ H' (.agg #[.bool b1,.slice a1 l1 c1,.slice a2 l2 c2]) (zo4 t):=by
 have hp1:=zc4 d0 5 hd oM oM;have hp2:=zc4 l0 3 hl oM oM;refine BD func62 ntmps62 ?_
 repeat (first|refine RUN ?_|refine CV (hp1) ?_|refine CV (hp2) ?_|refine CE (hp1) ?_|refine CE (hp2) ?_)
 rw[show IntKind.i64.wrap (1+l0 % 3)=1+l0 % 3 by rw[IntKind.wrap_i64];omega];refine uR ?_;refine EVL.call rfl rfl rfl rfl rfl (zhw 0 oM oM) ?_;intro r1 G1 hr1 hG1;obtain⟨a1,l1,c1,a2,l2,c2,rfl,_⟩:=id hr1;refine uR ?_;by_cases h:t.tmod 4=1
 ·rw[show (t.tmod 4 == 1)=true from beq_iff_eq.2 h];refine uR ?_;refine vA (zr4 t ht) ?_;intro r2 G2 hr2 hG2;refine vA (znp hr2) ?_;intro r3 G3 hr3 hG3;obtain⟨a3,l3,c3,a4,l4,c4,rfl,_⟩:=id hr3;refine uR ?_;exact⟨_,_,_,_,_,_,_,rfl,by unfold zo4;rw[if_pos h];exact hr3⟩
 ·rw[show (t.tmod 4 == 1)=false from beq_false_of_ne h];refine uR ?_;exact⟨_,_,_,_,_,_,_,rfl,by unfold zo4;rw[if_neg h];exact hr1⟩
def za8 (l:List Int) (N:Nat):List Int:=(l.take 14).map fun z=>z % (N:Int)
def zbY (l:List Int) (N:Nat):List Int:=if za8 l N=[] then zcL N else za8 l N
theorem znx {l:List Int} {N:Nat} (hN:1≤N):∀r,r∈zbY l N→0≤r∧r<(N:Int):=by
 intro r hr;unfold zbY at hr;split at hr
 ·obtain⟨i,hi,rfl⟩:=List.mem_map.1 hr;have:=List.mem_range.1 hi;omega
 ·obtain⟨z,_,rfl⟩:=List.mem_map.1 hr;exact⟨Int.emod_nonneg _ oM,Int.emod_lt_of_pos _ oM⟩
theorem zlY {l:List Int} {N:Nat} (hN:1≤N) (hN10:N≤10):1≤(zbY l N).length∧(zbY l N).length≤14:=by
 unfold zbY;split
 ·rw[zcp];omega
 ·rename_i h;have h1:=List.length_pos_iff.2 h;have h2:(za8 l N).length≤14:=by unfold za8;rw[List.length_map,List.length_take];omega
  omega
abbrev zpK (kd n w dp ls gn:Int) (vg vl vr:Value):Value:=.agg #[.int .i64 kd,.int .i64 n,.int .i64 w,.int .i64 dp,.int .i64 ls,.int .i64 gn,vg,vl,vr]
theorem zjR {l:List Int} {N i:Nat} {z:Int} (h:l[i]?=some z) (hi:i<14):(l.take (i+1)).map (fun z=>z % (N:Int))=(l.take i).map (fun z=>z % (N:Int))++[z % (N:Int)]:=by
 rw[zat h,List.map_append];rfl
theorem zlO {l:List Int} {N i:Nat} (h:min l.length 14≤i) (h14:i≤14):(l.take i).map (fun z=>z % (N:Int))=za8 l N:=by
 unfold za8;by_cases h1:i=14
 ·rw[h1]
 ·rw[List.take_of_length_le (show l.length≤i by omega),List.take_of_length_le (show l.length≤14 by omega)]
set_option maxRecDepth 100000 in
theorem zoN {H:Hp} {vg vl vr:Value} {lg ll lr:List Int} (kd n w dp ls gn:Int) (hn:zhh n) (hw:zhh w) (hdp:zhh dp) (hls:zhh ls) (hgn:zhh gn) (hg:IL H vg lg) (hgb:∀z,z∈lg→zhh z) (hl:IL H vl ll) (hlb:∀z,z∈ll→zhh z) (hr:IL H vr lr) (hrb:∀z,z∈lr→zhh z) {N W:Nat} (hN:1+n % 10=(N:Int)) (hW:1+w % 3=(W:Int)) :
  PC prog 9 #[zpK kd n w dp ls gn vg vl vr] H fun r H'=>∃kd' cl ga gc' gc va vn vc vx vrows b1 a1 l1 c1 a2 l2 c2,r=.tuple #[zaE kd' cl (.slice ga gc' gc) (.slice va vn vc),vx,vrows,zo5 (dp % 5) (1+ls % 3) (.bool b1) (.slice a1 l1 c1) (.slice a2 l2 c2)] ∧
   zhQ H' (zaE kd' cl (.slice ga gc' gc) (.slice va vn vc)) N (zjf lg N)∧RLL H' vx (zeU ll N W)∧IL H' vrows (zbY lr N)∧RQ H' (.agg #[.bool b1,.slice a1 l1 c1,.slice a2 l2 c2]) (zo4 gn):=by
 obtain⟨ga0,gc0,rfl⟩:=SlC.val hg;obtain⟨la0,lc0,rfl⟩:=SlC.val hl;obtain⟨ra0,rc0,rfl⟩:=SlC.val hr;have hp1:=zc4 n 10 hn oM oM;have hp2:=zc4 w 3 hw oM oM;refine BD func9 ntmps9 ?_
 repeat (first|refine RUN ?_|refine CV (hp1) ?_|refine CE (hp1) ?_)
 rw[show IntKind.i64.wrap (1+n % 10)=(N:Int) by rw[IntKind.wrap_i64];omega]
 repeat (first|refine zra ?_|refine CV (hp2) ?_|refine CE (hp2) ?_)
 rw[show IntKind.i64.wrap (1+w % 3)=(W:Int) by rw[IntKind.wrap_i64];omega];refine EV.meetK (ι:=Value × Ows) [1,2,5,6,7] [1,2,5] (fun q=>[(8,.v q.1)]) (fun _=>[]) (fun q=>q.2) (fun q G=>H.Le G∧zaW 3 1 q.1 (za8 lr N).length ((za8 lr N).map iv) q.2) rfl rfl (fun _=>rfl) ?_ ?_
 ·try refine uR ?_
  refine EV.loopK (ι:=Nat × Value × Ows) [1,2,5,6,7] [1,2,5] (fun q=>[(8,.v q.2.1),(9,.v (.int .i64 (q.1:Int)))]) (fun _=>[]) (fun q=>q.2.2) (fun q _=>(q.1≤lr.length∧q.1≤14)∧zaW 3 1 q.2.1 q.1 (((lr.take q.1).map fun z=>z % (N:Int)).map iv) q.2.2) (fun q=>14-q.1) ((0,.slice none 0 0,[])) rfl rfl ⟨rfl,rfl,trivial⟩ trivial rfl (fun _=>rfl) (⟨⟨Nat.zero_le _,Nat.zero_le _⟩,zaW.nil _ _⟩) ?_;rintro⟨i,v8,ow⟩ G1 hG1 ⟨⟨hi,hi4⟩,hown⟩;dsimp only at hi hi4 hown;obtain⟨a8,c8,rfl⟩:=hown.val;have wi:IntKind.i64.wrap ((i:Int)+1)=((i+1:Nat):Int):=zai i oM;by_cases hgo:i<lr.length∧i<14
  ·obtain⟨z,hz⟩:∃z,lr[i]?=some z:=⟨_,qA hgo.1⟩;have hp:=zc4 z (N:Int) (hrb z (qF hz)) oM oM;have hps:=zjR (N:=N) hz hgo.2;refine uR ?_;rw[qD (show (i:Int)<(lr.length:Int) by omega)];refine uR ?_;rw[qD (show (i:Int)<14 by omega)];refine uR ?_;refine vI ((hr.mono hG1)) (i) (rfl) (hgo.1) ((by rw[List.getElem?_map,hz];rfl)) ?_
   repeat (first|refine RUN ?_|refine CV (hp) ?_|refine CE (hp) ?_)
   refine EVL.app1 tO rfl rfl rfl rfl rfl rfl rfl rfl rfl rfl rfl rfl rfl rfl rfl rfl rfl rfl rfl (fun _=>rfl) (ow) ([]) ((qG _).symm) (hown) oM fun _=>?_;intro v' ow' hown';refine uR ?_;exact⟨(i+1,v',ow'),⟨rfl,by rw[wi];rfl,trivial⟩,sB,trivial,sB,qG _,⟨⟨hgo.1,hgo.2⟩,by dsimp only;rw[hps,List.map_append];exact hown'⟩,Hp.Le.refl _,by dsimp only;omega⟩
  ·have hall:=zlO (l:=lr) (N:=N) (i:=i) oM hi4;rw[hall]at hown;have hil0:(za8 lr N).length=i:=by have:=hown.1;rw[List.length_map]at this;omega
   by_cases h1:i<lr.length
   ·try refine uR ?_
    rw[qD (show (i:Int)<(lr.length:Int) by omega)];refine uR ?_;rw[qC (show ¬(i:Int)<14 by omega)];refine uR ?_;exact⟨(_,ow),⟨rfl,trivial⟩,sB,trivial,sB,rfl,hG1,by rw[hil0];exact hown⟩
   ·try refine uR ?_
    rw[qC (show ¬(i:Int)<(lr.length:Int) by omega)];refine uR ?_;exact⟨(_,ow),⟨rfl,trivial⟩,sB,trivial,sB,rfl,hG1,by rw[hil0];exact hown⟩
 ·rintro⟨v8,ow⟩ G1 ⟨hG1,hown⟩;dsimp only at hown;obtain⟨a8,c8,rfl⟩:=hown.val;refine uR ?_;refine EV.meetK (ι:=Value × Ows) [1,2,5,6,7] [1,2,5] (fun q=>[(8,.v q.1)]) (fun _=>[]) (fun q=>q.2) (fun q G=>H.Le G∧zaW 3 1 q.1 (zbY lr N).length ((zbY lr N).map iv) q.2) rfl rfl (fun _=>rfl) ?_ ?_
  ·by_cases h0:za8 lr N=[]
   ·rw[show zbY lr N=zcL N from if_pos h0];rw[h0]at hown ⊢;rw[show (((([]:List Int).length:Nat):Int) == 0)=true from rfl];refine uR ?_;refine EV.loopK (ι:=Nat × Value × Ows) [1,2,5,6,7] [1,2,5] (fun q=>[(8,.v q.2.1),(10,.v (.int .i64 (q.1:Int)))]) (fun _=>[]) (fun q=>q.2.2) (fun q _=>q.1≤N∧zaW 3 1 q.2.1 q.1 ((zcL q.1).map iv) q.2.2) (fun q=>N-q.1) ((0,.slice a8 0 c8,ow)) rfl rfl ⟨rfl,rfl,trivial⟩ trivial rfl (fun _=>rfl) (⟨Nat.zero_le _,hown⟩) ?_;rintro⟨i,v9,ow9⟩ G2 hG2 ⟨hi,hown9⟩;dsimp only at hi hown9;obtain⟨a9,c9,rfl⟩:=hown9.val;have wi:IntKind.i64.wrap ((i:Int)+1)=((i+1:Nat):Int):=zai i oM;refine uR ?_;refine EV.cond rfl (fun hlt=>?_) (fun hlt=>?_)
    ·simp only[nN]at hlt;refine uR ?_;refine EVL.app1 tO rfl rfl rfl rfl rfl rfl rfl rfl rfl rfl rfl rfl rfl rfl rfl rfl rfl rfl rfl (fun _=>rfl) (ow9) ([]) ((qG _).symm) (hown9) oM fun _=>?_;intro v' ow' hown';refine uR ?_;exact⟨(i+1,v',ow'),⟨rfl,by rw[wi];rfl,trivial⟩,sB,trivial,sB,qG _,⟨hlt,by dsimp only;rw[zhT,List.map_append];exact hown'⟩,Hp.Le.refl _,by dsimp only;omega⟩
    ·simp only[nN]at hlt;obtain rfl:i=N:=by omega
     refine uR ?_;exact⟨(_,ow9),⟨rfl,trivial⟩,sB,trivial,sB,rfl,hG1.trans hG2,by rw[zcp];exact hown9⟩
   ·have hl0:(za8 lr N).length≠0:=fun e=>h0 (List.length_eq_zero_iff.1 e);rw[show zbY lr N=za8 lr N from if_neg h0];rw[show (((za8 lr N).length:Int) == 0)=false from beq_eq_false_iff_ne.2 (by omega)];refine uR ?_;exact⟨(_,ow),⟨rfl,trivial⟩,sB,trivial,sB,rfl,hG1,hown⟩
  ·rintro⟨v9,ow9⟩ G2 ⟨hG2,hown9⟩;dsimp only at hown9;obtain⟨a9,c9,rfl⟩:=hown9.val;(first|refine EVL.publishL [] ow9 [] ((qG _).symm) hown9 fun G3 hG3 hs3=>?_|refine EV.publishL [] ow9 [] ((qG _).symm) hown9 fun G3 hG3 hs3=>?_);have hil:IL G3 (.slice a9 (zbY lr N).length c9) (zbY lr N):=hs3;have hH3:=hG2.trans hG3;generalize hrows:zbY lr N=rows at *
   (first|refine EVL.unbox (1) rfl fun g1=>?_|refine EV.unbox (1) rfl fun g1=>?_);refine EV.seq ?_;refine EVI.start none (g1,24,[.int .i64 kd,.int .i64 n,.int .i64 w,.int .i64 dp,.int .i64 ls,.int .i64 gn,.slice ga0 lg.length gc0,.slice la0 ll.length lc0,.slice ra0 lr.length rc0]) ?_;refine IF 0 ?_;refine IL0 1 ?_;refine IF 2 ?_;refine IL0 3 ?_;refine IV 4 ?_;refine IF 6 ?_;refine IL0 7 ?_;refine IV 8 ?_;refine IV 9 ?_;refine IF 12 ?_;refine IL0 13 ?_;refine IF 14 ?_;refine IL0 15 ?_;refine IF 16 ?_;refine IL0 17 ?_;refine IV 11 ?_;refine EVI.one 5 0 (.inr rfl) kR rfl ?_;refine EVL.call rfl rfl rfl rfl rfl (zqf (hg.mono hH3) hgb kd N oM) ?_;intro r5 G5 hr5 hG5
   obtain⟨kd',cl',ga,gn',gc,va,vn,vc,rfl⟩:∃k c ga gn gc va vn vc,r5=zaE k c (.slice ga gn gc) (.slice va vn vc):=by
    rcases hr5 with ⟨s,rfl,h⟩ | ⟨c,s,_,rfl,_,_,_,_,h⟩
    ·obtain⟨a,c,rfl⟩:=h.val;exact⟨_,_,_,_,_,_,_,_,rfl⟩
    ·obtain⟨a,c,rfl⟩:=SlC.val h;exact⟨_,_,_,_,_,_,_,_,rfl⟩
   refine EVL.nil ⟨rfl,?_⟩;refine EVI.one 10 0 (.inr rfl) kR rfl ?_;refine EVL.call rfl rfl rfl rfl rfl (zqF (hl.mono (hH3.trans hG5)) hlb N W oM oM) ?_;intro r6 G6 hr6 hG6;obtain⟨xa,xc,rfl⟩:=hr6.val;refine EVL.nil ⟨rfl,?_⟩;refine EVI.one 18 0 (.inr rfl) kR rfl ?_;refine vA (zo6 dp ls gn hdp hls hgn) ?_;rintro r7 G7 ⟨b1,a1,l1,c1,a2,l2,c2,rfl,hq⟩ hG7;refine EVL.nil ⟨rfl,?_⟩;refine EVI.one 19 0 (.inr rfl) kR rfl ?_
   (try refine zdP ?_);refine EVL.nil ⟨rfl,?_⟩;refine EVI.one 20 0 (.inr rfl) kR rfl ?_
   (try refine zdP ?_);refine EVL.nil ⟨rfl,?_⟩;refine EVI.one 21 0 (.inr rfl) kR rfl ?_
   (try refine zdP ?_);refine EVL.nil ⟨rfl,?_⟩;refine EVI.one 22 0 (.inr rfl) kR rfl ?_
   (try refine zdP ?_);refine EVL.nil ⟨rfl,?_⟩;refine EVI.nil 0 (.inr rfl) kR ?_;refine uR ?_;have hX67:=hG5.trans (hG6.trans hG7);exact⟨kd',cl',ga,gn',gc,va,vn,vc,.slice xa (zeU ll N W).length xc,.slice a9 rows.length c9,b1,a1,l1,c1,a2,l2,c2,rfl,hr5.mono (hG6.trans hG7),hr6.mono hG7,hil.mono hX67,hq⟩
def TPp (G:Hp) (r:Value) (t:Tr) (e:Int):Prop:=∃cs,r=.tuple #[.agg cs.toArray,.int .i64 e]∧zds G cs t.kd t.cl t.w t.ns
theorem zd2 {p:GP} {kd cl:Int} {w:Nat} (hp:zjc p kd cl w):∀(d k:Nat) (rows:List Int) (s:Int),1≤rows.length→(∀r,r∈rows→0≤r∧r<(p.X.length:Int))→(p.grow d k rows s).1.length+1≤2*rows.length
 | 0,k,rows,s,h1,hb=>by rw[GP.grow_zero];show 1+1≤_;omega
 | d+1,k,rows,s,h1,hb=>by
  cases h:p.cut rows (p.cols s).1 with
  | none=>rw[GP.grow_none h];show 1+1≤_;omega
  | some ct =>
   obtain⟨c,t⟩:=ct;obtain⟨_,_,hl,hh,hpm,_⟩:=zeJ hp hb h;have hpl:=hpm.length_eq;rw[List.length_append]at hpl;have hlb:∀r,r∈zaZ p.X c t rows→0≤r∧r<(p.X.length:Int):=fun r hr=>hb r (List.mem_filter.mp hr).1;have hhb:∀r,r∈zaC p.X c t rows→0≤r∧r<(p.X.length:Int):=fun r hr=>hb r (List.mem_filter.mp hr).1;rw[GP.grow_some h];have h2:=zd2 hp d (k+1) (zaZ p.X c t rows) (p.cols s).2 hl hlb;have h3:=zd2 hp d (k+1+(p.grow d (k+1) (zaZ p.X c t rows) (p.cols s).2).1.length) (zaC p.X c t rows) (p.grow d (k+1) (zaZ p.X c t rows) (p.cols s).2).2 hh hhb;simp only[List.length_cons,List.length_append];omega
theorem zlB {p:GP} {kd cl:Int} {w D:Nat} (hp:zjc p kd cl w) (hw:1≤w∧w≤20) (hD:D≤10) {rows:List Int} (h1:1≤rows.length) (h2:rows.length≤300) (hb:∀r,r∈rows→0≤r∧r<(p.X.length:Int)) (s:Int):zb0 ⟨kd,cl,w,(p.grow D 0 rows s).1⟩:=by
 obtain⟨h3,_,h4⟩:=zjE hp D 0 rows s h1 h2 hb (p.grow D 0 rows s).1 (fun j n hj=>by rw[Nat.zero_add];exact hj);have hl:=zd2 hp D 0 rows s h1 hb;rw[Nat.zero_add]at h3;exact⟨hp.kind,⟨by show (1:Int)≤w;omega,by show (w:Int)≤20;omega⟩,by show (p.grow D 0 rows s).1.length≤2000;omega,⟨D,by omega,h3⟩,fun i hi=>by have:=h4 i hi;rwa [Nat.zero_add]at this⟩
abbrev trP (d:GD) (X:List (List Rat)) (least:Int) (g:Rat) (cols:Int→List Int × Int):GP:=⟨X,d.cost,d.mean,d.cnt,least,g,cols⟩
theorem zrD {d:GD} {N W:Nat} {X:List (List Rat)} {least:Int} {g:Rat} {cols:Int→List Int × Int} (hd:d.Ok N) (hXN:X.length=N) (hN:N≤20) (hXw:∀x,x∈X→x.length=W∧∀q,q∈x→ht q≤60) (hg:0≤g) (hc:∀s c,c∈(cols s).1→0≤c∧c<(W:Int)):zjc (trP d X least g cols) d.kd d.cl W:=by
 subst hXN;exact zhR.gpAny (p:=trP d X least g cols) hd.plain (by show X.length≤300;omega) hXw hg hc
theorem zod {w:Nat}:∀c,c∈zcL w→0≤c∧c<(w:Int):=fun c hc=>by
 obtain⟨i,hi,rfl⟩:=List.mem_map.1 hc;have:=List.mem_range.1 hi;omega
end
section
theorem zjj {X:List (List Rat)} {cost:List Int→Rat} {rs:List Int} {L:Int} {cols:List Int} {u:Int × Rat × Rat}:u∈zbb X cost rs L cols↔∃c t,c∈cols∧t∈plQ X c rs∧(L≤((zaZ X c t rs).length:Int)∧L≤((zaC X c t rs).length:Int))∧u=(c,t,cost rs-(cost (zaZ X c t rs)+cost (zaC X c t rs))):=by
 unfold zbb zgt;constructor
 ·intro h;obtain⟨c,hc,h⟩:=List.mem_flatMap.1 h;obtain⟨t,ht,h⟩:=List.mem_flatMap.1 h;split at h
  ·rename_i k;exact⟨c,t,hc,ht,k,List.mem_singleton.1 h⟩
  ·cases h
 ·rintro⟨c,t,hc,ht,k,rfl⟩;refine List.mem_flatMap.2 ⟨c,hc,List.mem_flatMap.2 ⟨t,ht,?_⟩⟩;rw[if_pos k];exact List.mem_singleton.2 rfl
end
section
open Go.ChangeShapes Go.WideShapes Go.ChangeAt Go.RowKit
def zpW (H:Hp) (v:Value):Prop:=∃kd n w dp ls gn vg vl vr lg ll lr,v=zpK kd n w dp ls gn vg vl vr∧(zhh n∧zhh w∧zhh dp∧zhh ls∧zhh gn)∧(IL H vg lg∧∀z,z∈lg→zhh z)∧(IL H vl ll∧∀z,z∈ll→zhh z)∧(IL H vr lr∧∀z,z∈lr→zhh z)
theorem zqw {α:Type}:∀{l:List α},l.length=9→∃a b c d e f g h i,l=[a,b,c,d,e,f,g,h,i]
 | [a,b,c,d,e,f,g,h,i],_=>⟨a,b,c,d,e,f,g,h,i,rfl⟩
theorem raw18_open {H:Type} {enc:TypeId × Value→H} {w:World} {base:Nat} {spare:Nat→Bool} {held:Bool} {v:Value} {d:DataW H} {p:List MemPlace} (hv:∃cs,v=.agg cs) (h:DataW.Trod enc Tryz.prog w base spare held 24 v d p):zpW (zq3 w) v:=by
 obtain⟨cs,rfl⟩:=hv;obtain⟨fuel,h⟩:=h;obtain⟨xs,n,_,hx,hl,hlen,hf⟩:=DataW.trod_struct Tryz.underlying24 h;rw[show Tryz.prog.cellsOf 24=9 from by kernel_rfl]at hl;have hl4:cs.toList.length=9:=hl;obtain⟨l,rfl⟩:∃l:List Value,cs=l.toArray:=⟨cs.toList,by simp⟩;have hl4':l.length=9:=by simpa using hl4
 obtain⟨c0,c1,c2,c3,c4,c5,c6,c7,c8,rfl⟩:=zqw hl4';have hx4:xs.length=9:=hlen;have f0:DataW.trod enc Tryz.prog w base spare held n 3 (([c0,c1,c2,c3,c4,c5,c6,c7,c8].drop 0).take (Tryz.prog.cellsOf 3))=xs[0]?:=hf 0 _ rfl;have f1:DataW.trod enc Tryz.prog w base spare held n 3 (([c0,c1,c2,c3,c4,c5,c6,c7,c8].drop 1).take (Tryz.prog.cellsOf 3))=xs[1]?:=hf 1 _ rfl;have f2:DataW.trod enc Tryz.prog w base spare held n 3 (([c0,c1,c2,c3,c4,c5,c6,c7,c8].drop 2).take (Tryz.prog.cellsOf 3))=xs[2]?:=hf 2 _ rfl;have f3:DataW.trod enc Tryz.prog w base spare held n 3 (([c0,c1,c2,c3,c4,c5,c6,c7,c8].drop 3).take (Tryz.prog.cellsOf 3))=xs[3]?:=hf 3 _ rfl;have f4:DataW.trod enc Tryz.prog w base spare held n 3 (([c0,c1,c2,c3,c4,c5,c6,c7,c8].drop 4).take (Tryz.prog.cellsOf 3))=xs[4]?:=hf 4 _ rfl;have f5:DataW.trod enc Tryz.prog w base spare held n 3 (([c0,c1,c2,c3,c4,c5,c6,c7,c8].drop 5).take (Tryz.prog.cellsOf 3))=xs[5]?:=hf 5 _ rfl;have f6:DataW.trod enc Tryz.prog w base spare held n 22 (([c0,c1,c2,c3,c4,c5,c6,c7,c8].drop 6).take (Tryz.prog.cellsOf 22))=xs[6]?:=hf 6 _ rfl;have f7:DataW.trod enc Tryz.prog w base spare held n 22 (([c0,c1,c2,c3,c4,c5,c6,c7,c8].drop 7).take (Tryz.prog.cellsOf 22))=xs[7]?:=hf 7 _ rfl;have f8:DataW.trod enc Tryz.prog w base spare held n 22 (([c0,c1,c2,c3,c4,c5,c6,c7,c8].drop 8).take (Tryz.prog.cellsOf 22))=xs[8]?:=hf 8 _ rfl;rw[show Tryz.prog.cellsOf 3=1 from by kernel_rfl]at f0 f1 f2 f3 f4 f5;rw[show Tryz.prog.cellsOf 22=1 from by kernel_rfl]at f6 f7 f8;rw[qA (by omega)]at f0 f1 f2 f3 f4 f5 f6 f7 f8;obtain⟨z0,e0,_,w0⟩:=DataW.trod_int Tryz.underlying3 f0;obtain⟨z1,e1,_,w1⟩:=DataW.trod_int Tryz.underlying3 f1;obtain⟨z2,e2,_,w2⟩:=DataW.trod_int Tryz.underlying3 f2;obtain⟨z3,e3,_,w3⟩:=DataW.trod_int Tryz.underlying3 f3;obtain⟨z4,e4,_,w4⟩:=DataW.trod_int Tryz.underlying3 f4;obtain⟨z5,e5,_,w5⟩:=DataW.trod_int Tryz.underlying3 f5;obtain⟨a6,l6,k6,b6,e6,s6,d6⟩:=zfB Tryz.underlying22 Tryz.underlying3 kR f6;obtain⟨a7,l7,k7,b7,e7,s7,d7⟩:=zfB Tryz.underlying22 Tryz.underlying3 kR f7;obtain⟨a8,l8,k8,b8,e8,s8,d8⟩:=zfB Tryz.underlying22 Tryz.underlying3 kR f8;have g0:[c0]=[.int .i64 z0]:=e0;have g1:[c1]=[.int .i64 z1]:=e1;have g2:[c2]=[.int .i64 z2]:=e2;have g3:[c3]=[.int .i64 z3]:=e3;have g4:[c4]=[.int .i64 z4]:=e4;have g5:[c5]=[.int .i64 z5]:=e5;have g6:[c6]=[.slice a6 l6 k6]:=e6;have g7:[c7]=[.slice a7 l7 k7]:=e7;have g8:[c8]=[.slice a8 l8 k8]:=e8;cases g0;cases g1;cases g2;cases g3;cases g4;cases g5;cases g6;cases g7;cases g8;exact⟨z0,z1,z2,z3,z4,z5,_,_,_,b6,b7,b8,rfl,⟨zbk w1,zbk w2,zbk w3,zbk w4,zbk w5⟩,⟨s6,fun z hz=>zbk (d6 z hz)⟩,⟨s7,fun z hz=>zbk (d7 z hz)⟩,⟨s8,fun z hz=>zbk (d8 z hz)⟩⟩
theorem znb {H:Hp} {v:Value} (h:zpW H v):PC Tryz.prog 9 #[v] H fun r G=>∃(kd cl least gn:Int) (ga va a1 a2:Option Addr) (gl gc vn vc N W D l1 c1 l2 c2:Nat) (vx vr:Value) (b1:Bool) (lg ll lr:List Int),
  r=.tuple #[zaE kd cl (.slice ga gl gc) (.slice va vn vc),vx,vr,zo5 (D:Int) least (.bool b1) (.slice a1 l1 c1) (.slice a2 l2 c2)] ∧
  zhQ G (zaE kd cl (.slice ga gl gc) (.slice va vn vc)) N (zjf lg N)∧RLL G vx (zeU ll N W)∧IL G vr (zbY lr N)∧RQ G (.agg #[.bool b1,.slice a1 l1 c1,.slice a2 l2 c2]) (zo4 gn) ∧
  (1≤N∧N≤10)∧(1≤W∧W≤3)∧D≤4∧(1≤least∧least≤3):=by
 obtain⟨kd,n,w,dp,ls,gn,vg,vl,vr,lg,ll,lr,rfl,⟨hn,hw,hdp,hls,hgn⟩,⟨hg,hgb⟩,⟨hl,hlb⟩,hr,hrb⟩:=h;obtain⟨N,hN⟩:∃N:Nat,1+n % 10=(N:Int):=⟨(1+n % 10).toNat,by omega⟩;obtain⟨W,hW⟩:∃W:Nat,1+w % 3=(W:Int):=⟨(1+w % 3).toNat,by omega⟩;obtain⟨D,hD⟩:∃D:Nat,dp % 5=(D:Int):=⟨(dp % 5).toNat,by omega⟩;refine(zoN kd n w dp ls gn hn hw hdp hls hgn hg hgb hl hlb hr hrb hN hW).mono ?_;rintro r G ⟨kd',cl,ga,gl,gc,va,vn,vc,vx,vrows,b1,a1,l1,c1,a2,l2,c2,rfl,r1,r2,r3,r4⟩ hG;rw[hD];exact⟨kd',cl,1+ls % 3,gn,ga,va,a1,a2,gl,gc,vn,vc,N,W,D,l1,c1,l2,c2,vx,vrows,b1,lg,ll,lr,rfl,r1,r2,r3,r4,by omega,by omega,by omega,by omega⟩
theorem zqG (gn:Int):0≤zo4 gn∧ht (zo4 gn)≤5:=by
 have h5:=zmU gn;unfold zo4;split
 ·split
  ·rename_i h;refine⟨?_,?_⟩
   ·have:zno gn<0:=Rat.not_le.1 fun k=>by have:=Rat.num_nonneg.2 k;omega
    grind
   ·rw[zmT];exact h5
  ·rename_i h;exact⟨Rat.num_nonneg.1 oM,h5⟩
 ·exact⟨Rat.le_refl,by rw[zb8];decide⟩
end
section
end
section
open Go.RowKit _root_.Go.Proofs.Tryz
theorem zb0.smN {t:Tr} (h:zb0 t):∀n,n∈t.ns→SmN n:=fun n hn=>by
 obtain⟨i,hi⟩:=List.mem_iff_getElem?.1 hn;obtain⟨m,hm,ho,_⟩:=h.nodes i (qE.1 hi).1;cases hm.symm.trans hi;obtain⟨h1,h2,h3⟩:=ho.small;have hk:=h.kind;have hc:=ho.len;exact⟨zaG h1 oM,zaG h2 oM,zaG h3 oM,by omega⟩
theorem zpe {H:Hp} {d:GD} {N W D:Nat} {least:Int} {g:Rat} {X:List (List Rat)} {rows:List Int} {u v w:Value} (hd:d.Ok N) (hN:1≤N∧N≤20) (hW:1≤W∧W≤20) (hD:D≤10) (hl:1≤least∧least≤300) (hg:0≤g∧ht g≤10) (hu:∃la ln lc va vn vc,u=zaE d.kd d.cl (.slice la ln lc) (.slice va vn vc)∧d.P H (.slice la ln lc) (.slice va vn vc)) (hX:QLL H v X) (hXN:X.length=N) (hXw:∀x,x∈X→x.length=W∧∀q,q∈x→ht q≤60) (hr:IL H w rows) (hr0:0<rows.length) (hrn:rows.length≤20) (hb:∀r,r∈rows→0≤r∧r<(N:Int)) :
  PC prog 13 #[u,v,w,.agg (zpM (D:Int) least g).toArray] H (fun r G=>TPp G r ⟨d.kd,d.cl,(W:Int),((trP d X least g fun s=>(zcL W,s)).grow D 0 rows 0).1⟩ 0)∧zb0 ⟨d.kd,d.cl,(W:Int),((trP d X least g fun s=>(zcL W,s)).grow D 0 rows 0).1⟩∧zjc (trP d X least g fun s=>(zcL W,s)) d.kd d.cl W:=by
 subst hXN;obtain⟨la,ln,lc,va,vn,vc,rfl,hP⟩:=hu;obtain⟨xa,xc,rfl⟩:=hX.val;obtain⟨S,wo,h⟩:=hd.pgoal (H:=H) hN.1 oM hP (p:=trP d X least g fun s=>(zcL W,s)) rfl rfl rfl rfl;have hgp:=zrD (least:=least) (cols:=fun s=>(zcL W,s)) hd rfl hN.2 hXw hg.1 fun s c=>zod c;refine⟨?_,zlB hgp hW hD hr0 oM hb 0,hgp⟩;exact zf7 (p:=trP d X least g fun s=>(zcL W,s)) (s:=0) (fun s=>rfl) hW.1 hW.2 (by show 0<X.length;omega) hN.2 (fun x hx=>(hXw x hx).1) (fun x hx=>(hXw x hx).2) rfl hl (by have:=hg.2;show sm g;unfold sm;omega) hg.1 hD h hX hr hr0 hrn hb
end
section
def At (S:List Nd) (k:Nat) (L:List Nd):Prop:=∀(j:Nat) (n:Nd),L[j]?=some n→S[k+j]?=some n
theorem At.head {S L:List Nd} {k:Nat} {n:Nd} (h:At S k (n::L)):S[k]?=some n:=h 0 n rfl
theorem At.left {S A B:List Nd} {k:Nat} {n:Nd} (h:At S k (n::(A++B))):At S (k+1) A:=fun j m hj=>by
 have:=h (j+1) m (by rw[List.getElem?_cons_succ,List.getElem?_append_left (qE.1 hj).1];exact hj);rw[show k+1+j=k+(j+1) by omega];exact this
theorem At.right {S A B:List Nd} {k:Nat} {n:Nd} (h:At S k (n::(A++B))):At S (k+1+A.length) B:=fun j m hj=>by
 have:=h (j+A.length+1) m (by rw[List.getElem?_cons_succ,List.getElem?_append_right oM,Nat.add_sub_cancel];exact hj);rw[show k+1+A.length+j=k+(j+A.length+1) by omega];exact this
theorem At.self (L:List Nd):At L 0 L:=fun j n h=>by rw[Nat.zero_add];exact h
theorem zeQ.one {T:List Nd} {x:List Rat} {i:Nat} {n:Nd} {l:List Int} (h:zeQ T x i l) (hn:T[i]?=some n):(n.col = -1∧l=[(i:Int)])∨(n.col ≠ -1∧∃m,l=(i:Int)::m∧m≠[]∧((x.getD n.col.toNat 0≤n.at'∧zeQ T x n.left.toNat m)∨(¬x.getD n.col.toNat 0≤n.at'∧zeQ T x n.right.toNat m))):=by
 have hne:∀{j:Nat} {m:List Int},zeQ T x j m→m≠[]:=fun h=>by cases h <;> simp
 cases h with
 | here h1 h2=>cases h1.symm.trans hn;exact .inl ⟨h2,rfl⟩
 | low h1 h2 h3 h4=>cases h1.symm.trans hn;exact .inr ⟨h2,_,rfl,hne h4,.inl ⟨h3,h4⟩⟩
 | high h1 h2 h3 h4=>cases h1.symm.trans hn;exact .inr ⟨h2,_,rfl,hne h4,.inr ⟨h3,h4⟩⟩
def zcw (ns:List Nd):List Nd:=ns.filter fun n=>decide (n.col = -1)
def zcP (ns:List Nd):Rat:=zaU ((zcw ns).map Nd.cost)
theorem zeM (A B:List Nd):zcw (A++B)=zcw A++zcw B:=List.filter_append ..
theorem zeL (A B:List Nd):zcP (A++B)=zcP A+zcP B:=by
 unfold zcP;rw[zeM,List.map_append,zcC]
theorem zgB {n:Nd} (h:n.col ≠ -1) (A:List Nd):zcP (n::A)=zcP A:=by
 unfold zcP zcw;rw[List.filter_cons_of_neg (by simpa using h)]
theorem zd6 {n:Nd} (h:n.col = -1):zcP [n]=n.cost:=by
 unfold zcP zcw;rw[List.filter_cons_of_pos (by simpa using h),List.filter_nil,List.map_cons,List.map_nil,zas,zby,Rat.add_zero]
theorem ze2 {p:GP} {kd cl:Int} {w:Nat} (hp:zjc p kd cl w):∀(d k:Nat) (rows:List Int) (s:Int),(∀r,r∈rows→0≤r∧r<(p.X.length:Int))→zcP (p.grow d k rows s).1≤p.cost rows
 | 0,k,rows,s,hb=>by rw[GP.grow_zero,zd6 rfl];exact Rat.le_refl
 | d+1,k,rows,s,hb=>by
  cases hc:p.cut rows (p.cols s).1 with
  | none=>rw[GP.grow_none hc,zd6 rfl];exact Rat.le_refl
  | some q =>
   obtain⟨c,t⟩:=q;obtain⟨hcw,_,_,_,_,hcost⟩:=zeJ hp hb hc;have h1:=ze2 hp d (k+1) (zaZ p.X c t rows) (p.cols s).2 fun r hr=>hb r (List.mem_filter.mp hr).1;have h2:=ze2 hp d (k+1+(p.grow d (k+1) (zaZ p.X c t rows) (p.cols s).2).1.length) (zaC p.X c t rows) (p.grow d (k+1) (zaZ p.X c t rows) (p.cols s).2).2 fun r hr=>hb r (List.mem_filter.mp hr).1;rw[GP.grow_some hc];dsimp only;rw[zgB (show c ≠ -1 by omega),zeL];grind
end
section
open Go.RowKit _root_.Go.Proofs.Tryz
def zcZ (ns:List Nd):Nat→List Int
 | 0=>[]
 | k+1=>zcZ ns k++match ns[k]? with
  | some n=>if n.col = -1 then [(k:Int)] else []
  | none=>[]
theorem zir {ns:List Nd} {k:Nat} {n:Nd} (h:ns[k]?=some n) (hc:n.col = -1):zcZ ns (k+1)=zcZ ns k++[(k:Int)]:=by
 show zcZ ns k++_=_;rw[h];dsimp only;rw[if_pos hc]
theorem zkC {ns:List Nd} {k:Nat} {n:Nd} (h:ns[k]?=some n) (hc:n.col ≠ -1):zcZ ns (k+1)=zcZ ns k:=by
 show zcZ ns k++_=_;rw[h];dsimp only;rw[if_neg hc,qG]
theorem zlG {ns:List Nd} {k:Nat} {n:Nd} (h:ns[k]?=some n):zcw (ns.take (k+1))=zcw (ns.take k)++if n.col = -1 then [n] else []:=by
 rw[zat h,zeM];congr 1;unfold zcw;by_cases hc:n.col = -1
 ·rw[List.filter_cons_of_pos (by simpa using hc),if_pos hc];rfl
 ·rw[List.filter_cons_of_neg (by simpa using hc),if_neg hc];rfl
theorem zfD (ns:List Nd):∀k,(zcZ ns k).length≤k
 | 0=>qH _
 | k+1=>by
  have:=zfD ns k;show (zcZ ns k++_).length≤_;rw[List.length_append];split
  ·split
   ·rw[List.length_singleton];omega
   ·rw[List.length_nil];omega
  ·rw[List.length_nil];omega
theorem zfE (ns:List Nd):∀k,k≤ns.length→(zcZ ns k).length=(zcw (ns.take k)).length∧∀(j:Nat) (i:Int) (n:Nd),(zcZ ns k)[j]?=some i→(zcw (ns.take k))[j]?=some n→0≤i∧ns[i.toNat]?=some n
 | 0,_=>⟨rfl,fun j i n h=>by cases h⟩
 | k+1,hk=>by
  obtain⟨n,hn⟩:∃n,ns[k]?=some n:=⟨_,qA oM⟩;obtain⟨h1,h2⟩:=zfE ns k oM;rw[zlG hn];by_cases hc:n.col = -1
  ·rw[zir hn hc,if_pos hc];refine⟨by simp[h1],fun j i m e1 e2=>?_⟩;by_cases hj:j<(zcZ ns k).length
   ·rw[List.getElem?_append_left hj]at e1;rw[List.getElem?_append_left (by omega)]at e2;exact h2 j i m e1 e2
   ·rw[List.getElem?_append_right (by omega)]at e1;rw[List.getElem?_append_right oM,←h1]at e2
    have h0:j-(zcZ ns k).length=0:=by
     have:=(qE.1 e1).1;simp at this;omega
    rw[h0]at e1 e2;cases e1;cases e2;exact⟨by omega,by rw[Int.toNat_natCast];exact hn⟩
  ·rw[zkC hn hc,if_neg hc,qG];exact⟨h1,h2⟩
theorem zmY {H:Hp} {cs:List Value} {kd cl w:Int} {ns:List Nd} (ht:zds H cs kd cl w ns) (hok:zb0 ⟨kd,cl,w,ns⟩):PC prog 44 #[.agg cs.toArray] H fun r G=>IL G r (zcZ ns ns.length):=by
 have hck:=zbN ht hok;obtain⟨a,cp,css,rfl,hns,hsl⟩:=ht;have hln:=hok.len;dsimp only at hln;refine BD func44 ntmps44 ?_
 repeat (first|refine RUN ?_|refine CV (hck) ?_|refine CE (hck) ?_)
 refine EV.loopK (ι:=Nat × Value × Ows) [10,11] [] (fun q=>[(3,.v q.2.1),(12,.v (.int .i64 (q.1:Int)))]) (fun _=>[]) (fun q=>q.2.2) (fun q _=>q.1≤ns.length∧zaW 3 1 q.2.1 (zcZ ns q.1).length ((zcZ ns q.1).map iv) q.2.2) (fun q=>ns.length-q.1) ((0,.slice none 0 0,[])) rfl rfl ⟨rfl,rfl,trivial⟩ trivial rfl (fun _=>rfl) (⟨Nat.zero_le _,zaW.nil _ _⟩) ?_;rintro⟨i,u,ow⟩ G1 hG1 ⟨hi,hown⟩;dsimp only at hi hown;obtain⟨oa,oc,rfl⟩:=hown.val;have hll:=zfD ns i;have wn:IntKind.i64.wrap ((i:Int)+1)=((i+1:Nat):Int):=zai i oM;refine uR ?_;refine EV.cond rfl (fun hlt=>?_) (fun hlt=>?_)
 ·simp only[nN]at hlt;obtain⟨n,hn⟩:=gE hlt;obtain⟨c,hcut,hnd⟩:=(hns.mono hG1).get hn;obtain⟨a7,c7,rfl,_⟩:=hnd.cells;have hsl1:=hsl.mono hG1;refine uR ?_;refine EVL.idxM tO rfl rfl rfl rfl rfl rfl rfl rfl rfl (hsl1) (i) (rfl) (hlt) (hcut) ?_;refine uR ?_;by_cases hc:n.col = -1
  ·rw[show (n.col == -1)=true from beq_iff_eq.2 hc];refine uR ?_;refine EVL.app1 tO rfl rfl rfl rfl rfl rfl rfl rfl rfl rfl rfl rfl rfl rfl rfl rfl rfl rfl rfl (fun _=>rfl) (ow) ([]) ((qG _).symm) (hown) (oM) fun _=>?_;intro v' ow' hown';refine uR ?_;refine⟨(i+1,v',ow'),⟨rfl,by rw[wn];rfl,trivial⟩,sB,trivial,sB,qG _,⟨hlt,?_⟩,Hp.Le.refl _,by dsimp only;omega⟩;dsimp only;rw[zir hn hc,List.map_append,List.length_append];exact hown'
  ·rw[show (n.col == -1)=false from beq_eq_false_iff_ne.2 hc];refine uR ?_;refine⟨(i+1,_,ow),⟨rfl,by rw[wn];rfl,trivial⟩,sB,trivial,sB,rfl,⟨hlt,?_⟩,Hp.Le.refl _,by dsimp only;omega⟩;dsimp only;rw[zkC hn hc];exact hown
 ·simp only[nN]at hlt;obtain rfl:i=ns.length:=by omega
  (first|refine EVL.publishL [] ow [] ((qG _).symm) hown fun G2 hG2 hs2=>?_|refine EV.publishL [] ow [] ((qG _).symm) hown fun G2 hG2 hs2=>?_);refine uR ?_;exact hs2
theorem znM {B:Nat}:∀l:List Rat,(∀q,q∈l→ht q≤B)→ht (zaU l)≤1+l.length*(B+2):=by
 intro l
 induction l with
 | nil=>intro _;rw[zby,zb8];omega
 | cons q l ih =>
  intro h;have h1:=ih fun q hq=>h q (List.mem_cons_of_mem _ hq);have h2:=h q (List.mem_cons_self ..);have h3:=zd3 q (zaU l);rw[zas,List.length_cons,Nat.add_mul];omega
theorem zoE {t:Tr} (hok:zb0 t) (hl:t.ns.length≤40):ht (zcP t.ns)≤90000000:=by
 have hc:∀n,n∈t.ns→ht n.cost≤2000000:=fun n hn=>by
  obtain⟨i,hi⟩:=List.mem_iff_getElem?.1 hn;obtain⟨m,hm,ho,_⟩:=hok.nodes i (qE.1 hi).1;cases hm.symm.trans hi;exact ho.small.2.1
 have:=znM (B:=2000000) ((zcw t.ns).map Nd.cost) fun q hq=>by
  obtain⟨n,hn,rfl⟩:=List.mem_map.1 hq;exact hc n (List.mem_filter.1 hn).1
 have h2:(zcw t.ns).length≤t.ns.length:=List.length_filter_le _ _;rw[List.length_map]at this;have:(zcw t.ns).length*(2000000+2)≤40*(2000000+2):=Nat.mul_le_mul_right _ oM;unfold zcP;omega
set_option maxRecDepth 100000 in
theorem zpd {H:Hp} {cs:List Value} {kd cl w:Int} {ns:List Nd} (ht:zds H cs kd cl w ns) (hok:zb0 ⟨kd,cl,w,ns⟩) (hl:ns.length≤40):PC prog 25 #[.agg cs.toArray] H fun r _=>r=zab (zcP ns):=by
 have hlv:=zmY ht hok;have hnodes:=zfE ns ns.length (qH _);rw[List.take_length]at hnodes;obtain⟨hjl,hjn⟩:=hnodes;have hll:=zfD ns ns.length
 have hcost:∀n,n∈ns→Go.Proofs.YtifcjfodgicngaaGreatDoor.ht n.cost≤2000000:=fun n hn=>by
  obtain⟨i,hi⟩:=List.mem_iff_getElem?.1 hn;obtain⟨m,hm,ho,_⟩:=hok.nodes i (qE.1 hi).1;cases hm.symm.trans hi;exact ho.small.2.1
 have hsum:∀k,k≤(zcw ns).length→Go.Proofs.YtifcjfodgicngaaGreatDoor.ht (zaU (((zcw ns).map Nd.cost).take k))≤90000000:=fun k hk=>by
  have:=znM (B:=2000000) (((zcw ns).map Nd.cost).take k) fun q hq=>by
   obtain⟨n,hn,rfl⟩:=List.mem_map.1 (List.mem_of_mem_take hq);exact hcost n (List.mem_filter.1 hn).1
  rw[List.length_take,List.length_map,Nat.min_eq_left hk]at this;have:k*(2000000+2)≤40*(2000000+2):=Nat.mul_le_mul_right _ oM;omega
 obtain⟨a,cp,css,rfl,hns,hsl⟩:=ht;generalize hLe:zcZ ns ns.length=L at *
 generalize hme:zcw ns=M at *
 refine BD func25 ntmps25 ?_;refine uR ?_;refine vA (hlv) ?_;intro r7 G1 hr7 hG1;obtain⟨la,lc,rfl⟩:=SlC.val hr7;refine uR ?_;refine EV.loopK (ι:=Nat) [1,2,7,8] [1,2] (fun i=>[(3,.p 3 0),(9,.v (.int .i64 (i:Int)))]) (fun i=>[(3,50,zah (zab (zaU ((M.map Nd.cost).take i))))]) (fun _=>[]) (fun i _=>i≤L.length) (fun i=>L.length-i) (0) rfl rfl ⟨rfl,rfl,trivial⟩ ⟨by rw[List.take_zero,zby,zaz];rfl,trivial⟩ rfl (fun _=>rfl) (Nat.zero_le _) ?_;rintro i G2 hG2 hi;have wn:IntKind.i64.wrap ((i:Int)+1)=((i+1:Nat):Int):=zai i oM;refine uR ?_;refine EV.cond rfl (fun hlt=>?_) (fun hlt=>?_)
 ·simp only[nN]at hlt;obtain⟨j,hj⟩:=gE hlt;obtain⟨n,hn⟩:∃n,M[i]?=some n:=⟨_,qA oM⟩;obtain⟨hj0,hjn'⟩:=hjn i j n hj hn;obtain⟨c,hcut,hnd⟩:=(hns.mono (hG1.trans hG2)).get hjn';obtain⟨a7,c7,rfl,_⟩:=hnd.cells;have hsl2:=hsl.mono (hG1.trans hG2);have hmc:(M.map Nd.cost)[i]?=some n.cost:=by rw[List.getElem?_map,hn];rfl
  have hnm:n∈ns:=qF hjn';have hadd:=zdR (zaU ((M.map Nd.cost).take i)) n.cost (qI (hsum i oM) oM) (zaG (hcost n hnm) oM);have hjl2:=(qE.1 hjn').1;refine uR ?_;refine vI ((hr7.mono hG2)) (i) (rfl) (hlt) ((by rw[List.getElem?_map,hj];rfl)) ?_;refine uR ?_;apply EV.drawn 8 kR kR;intro xv yw;(repeat refine' DD ?_);refine' DJ.idxM tO rfl rfl rfl rfl rfl rfl rfl rfl rfl (hsl2) (j.toNat) ((by rw[Int.toNat_of_nonneg hj0])) (hjl2) (hcut) ?_;rotate_left;(repeat (first|refine' DD ?_|(refine' DC (hadd) (h:=?_);rotate_left)));(refine DJ.nil (fun G3 hG3 hF3=>?_);(case hS|hS2=>rfl));refine uR ?_;refine⟨i+1,⟨rfl,by rw[wn];rfl,trivial⟩,sB,⟨?_,trivial⟩,sB,rfl,hlt,hG3,by omega⟩;rw[zat hmc,zcC,zas,zby,Rat.add_zero];rfl
 ·simp only[nN]at hlt;obtain rfl:i=L.length:=by omega
  rw[List.take_of_length_le (by rw[List.length_map];omega)];refine uR ?_;show _=zab (zaU ((zcw ns).map Nd.cost));rw[hme]
end
section
def GP.rowsAt (p:GP) (cols:List Int):Nat→List Int→List (List Int)
 | 0,rows=>[rows]
 | d+1,rows=>match p.cut rows cols with
  | none=>[rows]
  | some (c,t)=>rows::(p.rowsAt cols d (zaZ p.X c t rows)++p.rowsAt cols d (zaC p.X c t rows))
theorem GP.rowsAt_none {p:GP} {cols:List Int} {d:Nat} {rows:List Int} (h:p.cut rows cols=none):p.rowsAt cols (d+1) rows=[rows]:=by rw[GP.rowsAt,h]
theorem GP.rowsAt_some {p:GP} {cols:List Int} {d:Nat} {rows:List Int} {c:Int} {t:Rat} (h:p.cut rows cols=some (c,t)):p.rowsAt cols (d+1) rows=rows::(p.rowsAt cols d (zaZ p.X c t rows)++p.rowsAt cols d (zaC p.X c t rows)):=by rw[GP.rowsAt,h]
theorem zfZ (p:GP) (cols:List Int) (d:Nat) (rows:List Int):∃L,p.rowsAt cols d rows=rows::L:=by
 cases d with
 | zero=>exact⟨[],rfl⟩
 | succ d =>
  cases h:p.cut rows cols with
  | none=>rw[GP.rowsAt_none h];exact⟨_,rfl⟩
  | some q=>obtain⟨c,t⟩:=q;rw[GP.rowsAt_some h];exact⟨_,rfl⟩
structure OfR (p:GP) (n:Nd) (R:List Int):Prop where
 rows:n.rows=(R.length:Int)
 cost:n.cost=p.cost R
 value:n.value=p.mean R
 cls:n.cls=(topN (p.cnt R) (p.cnt R).length:Int)
 counts:n.counts=p.cnt R
theorem OfR.nd (p:GP) (R:List Int) (c l r:Int) (t:Rat):OfR p { p.nd R with col:=c,left:=l,right:=r,at':=t } R:=⟨rfl,rfl,rfl,rfl,rfl⟩
theorem zkn {p:GP} {rows cols:List Int} {c:Int} {t:Rat} (h:p.cut rows cols=some (c,t)):p.gain<p.cost rows-(p.cost (zaZ p.X c t rows)+p.cost (zaC p.X c t rows))∧p.least≤((zaZ p.X c t rows).length:Int)∧p.least≤((zaC p.X c t rows).length:Int):=by
 unfold GP.cut at h
 cases hbe:p.best rows cols with
 | none=>rw[hbe]at h;cases h
 | some q =>
  obtain⟨c',t',g⟩:=q;rw[hbe]at h;dsimp only at h;split at h
  ·cases h
  ·rename_i hg;cases h;have hf:=zdb (zbb p.X p.cost rows (max 1 p.least) cols);rw[show (zbb p.X p.cost rows (max 1 p.least) cols).foldl zoY none=some (c,t,g) from hbe]at hf;obtain⟨c2,t2,_,_,hL,e⟩:=zjj.1 hf.1;cases e;exact⟨Rat.not_le.1 hg,by omega,by omega⟩
structure zr2 (p:GP) (S:List Nd) (k:Nat) (L:List (List Int)) (w:Nat):Prop where
 node:∀(j:Nat) (R:List Int),L[j]?=some R→∃n,S[k+j]?=some n∧OfR p n R∧(∀r,r∈R→0≤r∧r<(p.X.length:Int))∧1≤R.length∧(n.col = -1∨(0≤n.col∧0≤n.left∧0≤n.right∧∃a b,S[n.left.toNat]?=some a∧S[n.right.toNat]?=some b∧p.gain<n.cost-a.cost-b.cost∧p.least≤a.rows∧p.least≤b.rows))
theorem zkw {p:GP} {kd cl:Int} {w:Nat} (hp:zjc p kd cl w) {cols:List Int} (hst:∀s,(p.cols s).1=cols) {S:List Nd}:∀(d k:Nat) (rows:List Int) (s:Int),1≤rows.length→(∀r,r∈rows→0≤r∧r<(p.X.length:Int))→At S k (p.grow d k rows s).1→(p.rowsAt cols d rows).length=(p.grow d k rows s).1.length∧zr2 p S k (p.rowsAt cols d rows) w:=by
 have single:∀(k:Nat) (rows:List Int),1≤rows.length→(∀r,r∈rows→0≤r∧r<(p.X.length:Int))→At S k [p.nd rows]→zr2 p S k [rows] w:=fun k rows h1 hb hS=>⟨fun j R hj=>by
  cases j with
  | zero=>cases hj;exact⟨_,hS.head,OfR.nd p rows (-1) 0 0 0,hb,h1,.inl rfl⟩
  | succ j=>cases hj⟩
 intro d
 induction d with
 | zero =>
  intro k rows s h1 hb hS;rw[GP.grow_zero]at hS ⊢;exact⟨rfl,single k rows h1 hb hS⟩
 | succ d ih =>
  intro k rows s h1 hb hS
  cases hc:p.cut rows (p.cols s).1 with
  | none =>
   rw[GP.grow_none hc]at hS ⊢;rw[GP.rowsAt_none (by rw[←hst s];exact hc)];exact⟨rfl,single k rows h1 hb hS⟩
  | some q =>
   obtain⟨c,t⟩:=q;obtain⟨hcw,_,hl1,hr1,hpm,_⟩:=zeJ hp hb hc;obtain⟨hgn,hll,hlh⟩:=zkn hc;have hlo:∀r,r∈zaZ p.X c t rows→0≤r∧r<(p.X.length:Int):=fun r hr=>hb r (List.mem_filter.mp hr).1;have hhi:∀r,r∈zaC p.X c t rows→0≤r∧r<(p.X.length:Int):=fun r hr=>hb r (List.mem_filter.mp hr).1;rw[GP.grow_some hc]at hS ⊢;rw[GP.rowsAt_some (by rw[←hst s];exact hc)];dsimp only at hS ⊢;obtain⟨e1,f1⟩:=ih (k+1) _ (p.cols s).2 hl1 hlo hS.left;obtain⟨e2,f2⟩:=ih (k+1+(p.grow d (k+1) (zaZ p.X c t rows) (p.cols s).2).1.length) _ (p.grow d (k+1) (zaZ p.X c t rows) (p.cols s).2).2 hr1 hhi hS.right;refine⟨by simp only[List.length_cons,List.length_append];omega,⟨fun j R hj=>?_⟩⟩
   cases j with
   | zero =>
    cases hj;obtain⟨LA,ea⟩:=zfZ p cols d (zaZ p.X c t rows);obtain⟨LB,eb⟩:=zfZ p cols d (zaC p.X c t rows);obtain⟨a,ha,oa,_⟩:=f1.node 0 _ (by rw[ea];rfl);obtain⟨b,hb',ob,_⟩:=f2.node 0 _ (by rw[eb];rfl);rw[Nat.add_zero]at ha hb';refine⟨_,hS.head,OfR.nd p rows c _ _ t,hb,h1,.inr ⟨hcw.1,Int.natCast_nonneg _,Int.natCast_nonneg _,a,b,?_,?_,?_,?_,?_⟩⟩
    ·exact(congrArg (S[·]?) (Int.toNat_natCast _)).trans ha
    ·exact(congrArg (S[·]?) (Int.toNat_natCast _)).trans hb'
    ·rw[oa.cost,ob.cost];show p.gain<p.cost rows-p.cost (zaZ p.X c t rows)-p.cost (zaC p.X c t rows);grind
    ·rw[oa.rows];exact hll
    ·rw[ob.rows];exact hlh
   | succ j =>
    rw[List.getElem?_cons_succ]at hj;by_cases hjl:j<(p.rowsAt cols d (zaZ p.X c t rows)).length
    ·rw[List.getElem?_append_left hjl]at hj;have:=f1.node j R hj;rw[show k+1+j=k+(j+1) by omega]at this;exact this
    ·rw[List.getElem?_append_right (by omega)]at hj;have:=f2.node _ R hj;rw[show k+1+(p.grow d (k+1) (zaZ p.X c t rows) (p.cols s).2).1.length+(j-(p.rowsAt cols d (zaZ p.X c t rows)).length)=k+(j+1) by omega]at this;exact this
theorem zfR {p:GP} {kd cl:Int} {w:Nat} (hp:zjc p kd cl w) {S:List Nd} {x:List Rat}:∀(d k:Nat) (rows:List Int) (s:Int),(∀r,r∈rows→0≤r∧r<(p.X.length:Int))→At S k (p.grow d k rows s).1→∀l,zeQ S x k l→∀z,z∈l→(k:Int)≤z∧z<((k+(p.grow d k rows s).1.length:Nat):Int):=by
 intro d
 induction d with
 | zero =>
  intro k rows s hb hS l hl z hz;rw[GP.grow_zero]at hS ⊢;rcases hl.one hS.head with ⟨_,rfl⟩ | ⟨h,_⟩
  ·have:=List.mem_singleton.1 hz;show _∧z<((k+1:Nat):Int);omega
  ·exact absurd rfl h
 | succ d ih =>
  intro k rows s hb hS l hl z hz
  cases hc:p.cut rows (p.cols s).1 with
  | none =>
   rw[GP.grow_none hc]at hS ⊢;rcases hl.one hS.head with ⟨_,rfl⟩ | ⟨h,_⟩
   ·have:=List.mem_singleton.1 hz;show _∧z<((k+1:Nat):Int);omega
   ·exact absurd rfl h
  | some q =>
   obtain⟨c,t⟩:=q;obtain⟨hcw,_⟩:=zeJ hp hb hc;have hlo:∀r,r∈zaZ p.X c t rows→0≤r∧r<(p.X.length:Int):=fun r hr=>hb r (List.mem_filter.mp hr).1;have hhi:∀r,r∈zaC p.X c t rows→0≤r∧r<(p.X.length:Int):=fun r hr=>hb r (List.mem_filter.mp hr).1;rw[GP.grow_some hc]at hS ⊢;dsimp only at hS ⊢;simp only[List.length_cons,List.length_append];rcases hl.one hS.head with ⟨h,_⟩ | ⟨_,m,rfl,_,hm⟩
   ·have:c = -1:=h;omega
   ·rcases List.mem_cons.1 hz with rfl | hz
    ·omega
    ·dsimp only at hm;rcases hm with ⟨_,h2⟩ | ⟨_,h2⟩
     ·rw[Int.toNat_natCast]at h2;have:=ih _ _ _ hlo hS.left _ h2 z hz;omega
     ·rw[Int.toNat_natCast]at h2;have:=ih _ _ _ hhi hS.right _ h2 z hz;omega
theorem zlZ {p:GP} {kd cl:Int} {w:Nat} (hp:zjc p kd cl w) {cols:List Int} (hst:∀s,(p.cols s).1=cols) {S:List Nd}:∀(d k:Nat) (rows:List Int) (s:Int),(∀r,r∈rows→0≤r∧r<(p.X.length:Int))→At S k (p.grow d k rows s).1→∀W:Int→List Int,(∀r,r∈rows→zeQ S (p.X.getD r.toNat []) k (W r))→∀(j:Nat) (R:List Int),(p.rowsAt cols d rows)[j]?=some R→R=rows.filter fun r=>decide (((k+j:Nat):Int)∈W r):=by
 have root:∀{k:Nat} {rows:List Int} {W:Int→List Int},(∀r,r∈rows→zeQ S (p.X.getD r.toNat []) k (W r))→rows=rows.filter fun r=>decide (((k+0:Nat):Int)∈W r):=fun {k rows W} h=>(List.filter_eq_self.2 fun r hr=>by
  have:=h r hr;rw[Nat.add_zero];generalize W r=l at this ⊢;cases this <;> simp).symm
 intro d
 induction d with
 | zero =>
  intro k rows s hb hS W hW j R hj
  cases j with
  | zero=>cases hj;exact root hW
  | succ j=>cases hj
 | succ d ih =>
  intro k rows s hb hS W hW j R hj
  cases hc:p.cut rows (p.cols s).1 with
  | none =>
   rw[GP.rowsAt_none (by rw[←hst s];exact hc)]at hj
   cases j with
   | zero=>cases hj;exact root hW
   | succ j=>cases hj
  | some q =>
   obtain⟨c,t⟩:=q;obtain⟨hcw,_,hl1,hr1,_,_⟩:=zeJ hp hb hc;have hlo:∀r,r∈zaZ p.X c t rows→0≤r∧r<(p.X.length:Int):=fun r hr=>hb r (List.mem_filter.mp hr).1;have hhi:∀r,r∈zaC p.X c t rows→0≤r∧r<(p.X.length:Int):=fun r hr=>hb r (List.mem_filter.mp hr).1;rw[GP.grow_some hc]at hS;rw[GP.rowsAt_some (by rw[←hst s];exact hc)]at hj;dsimp only at hS
   cases j with
   | zero=>cases hj;exact root hW
   | succ j =>
    rw[List.getElem?_cons_succ]at hj
    have hhas:∀r,r∈rows→zdk p.X c r=true:=fun r hr=>by
     obtain⟨R,rfl⟩:=Int.eq_ofNat_of_zero_le (hb r hr).1;have hR:=(hb _ hr).2;unfold zdk;obtain⟨x,hx⟩:∃x,p.X[R]?=some x:=⟨_,qA oM⟩;rw[Int.toNat_natCast,qB,hx,Option.getD_some,hp.wide x (qF hx)];simp;omega
    have hsplit:∀r,r∈rows→∃m,W r=(k:Int)::m∧((zbp p.X c r≤t∧zeQ S (p.X.getD r.toNat []) (k+1) m)∨(¬zbp p.X c r≤t∧zeQ S (p.X.getD r.toNat []) (k+1+(p.grow d (k+1) (zaZ p.X c t rows) (p.cols s).2).1.length) m)):=fun r hr=>by
     rcases (hW r hr).one hS.head with ⟨h,_⟩ | ⟨_,m,e,_,hm⟩
     ·have:c = -1:=h;omega
     ·refine⟨m,e,?_⟩;dsimp only at hm;rw[Int.toNat_natCast,Int.toNat_natCast]at hm;exact hm
    have hlW:∀r,r∈zaZ p.X c t rows→zeQ S (p.X.getD r.toNat []) (k+1) ((W r).tail):=fun r hr=>by
     obtain⟨h1,h2⟩:=List.mem_filter.1 hr;obtain⟨m,e,hm⟩:=hsplit r h1;rw[hhas r h1,Bool.true_and]at h2;rw[e];exact(hm.resolve_right fun k=>k.1 (of_decide_eq_true h2)).2
    have hhW:∀r,r∈zaC p.X c t rows→zeQ S (p.X.getD r.toNat []) (k+1+(p.grow d (k+1) (zaZ p.X c t rows) (p.cols s).2).1.length) ((W r).tail):=fun r hr=>by
     obtain⟨h1,h2⟩:=List.mem_filter.1 hr;obtain⟨m,e,hm⟩:=hsplit r h1;rw[hhas r h1,Bool.true_and]at h2;rw[e];refine(hm.resolve_left fun k=>?_).2;rw[qD k.1]at h2;cases h2
    have hlen:=(zkw hp hst (S:=S) d (k+1) _ (p.cols s).2 hl1 hlo hS.left).1;by_cases hjl:j<(p.rowsAt cols d (zaZ p.X c t rows)).length
    ·rw[List.getElem?_append_left hjl]at hj;rw[ih _ _ _ hlo hS.left _ hlW j R hj];unfold zaZ;rw[List.filter_filter];refine List.filter_congr fun r hr=>?_;obtain⟨m,e,hm⟩:=hsplit r hr;rw[hhas r hr,e,Bool.true_and,List.tail_cons];have hne:((k+(j+1):Nat):Int)≠(k:Int):=by omega
     rcases hm with ⟨h1,h2⟩ | ⟨h1,h2⟩
     ·rw[qD h1,Bool.and_true,show k+1+j=k+(j+1) by omega];exact decide_eq_decide.2 ⟨fun h=>List.mem_cons_of_mem _ h,fun h=>(List.mem_cons.1 h).resolve_left hne⟩
     ·rw[qC h1,Bool.and_false];refine(qC fun h=>?_).symm;have:=zfR hp d _ _ _ hhi hS.right m h2 _ ((List.mem_cons.1 h).resolve_left hne);omega
    ·rw[List.getElem?_append_right (by omega)]at hj;rw[ih _ _ _ hhi hS.right _ hhW _ R hj];unfold zaC;rw[List.filter_filter];refine List.filter_congr fun r hr=>?_;obtain⟨m,e,hm⟩:=hsplit r hr;rw[hhas r hr,e,Bool.true_and,List.tail_cons];have hne:((k+(j+1):Nat):Int)≠(k:Int):=by omega
     rcases hm with ⟨h1,h2⟩ | ⟨h1,h2⟩
     ·rw[qD h1,Bool.not_true,Bool.and_false];refine(qC fun h=>?_).symm;have:=zfR hp d _ _ _ hlo hS.left m h2 _ ((List.mem_cons.1 h).resolve_left hne);omega
     ·rw[qC h1,Bool.not_false,Bool.and_true,show k+1+(p.grow d (k+1) (zaZ p.X c t rows) (p.cols s).2).1.length+(j-(p.rowsAt cols d (zaZ p.X c t rows)).length)=k+(j+1) by omega];exact decide_eq_decide.2 ⟨fun h=>List.mem_cons_of_mem _ h,fun h=>(List.mem_cons.1 h).resolve_left hne⟩
theorem zlF {p:GP} {kd cl:Int} {w:Nat} (hp:zjc p kd cl w) (d k:Nat) (rows:List Int) (s:Int) (hb:∀r,r∈rows→0≤r∧r<(p.X.length:Int)):((p.grow d k rows s).1.length=1∧zcP (p.grow d k rows s).1=p.cost rows)∨((p.grow d k rows s).1.length≠1∧zcP (p.grow d k rows s).1<p.cost rows):=by
 cases d with
 | zero=>rw[GP.grow_zero];exact .inl ⟨rfl,zd6 rfl⟩
 | succ d =>
  cases hc:p.cut rows (p.cols s).1 with
  | none=>rw[GP.grow_none hc];exact .inl ⟨rfl,zd6 rfl⟩
  | some q =>
   obtain⟨c,t⟩:=q;obtain⟨hcw,_⟩:=zeJ hp hb hc;obtain⟨hgn,_⟩:=zkn hc;have h0:=hp.gain;have h1:=ze2 hp d (k+1) (zaZ p.X c t rows) (p.cols s).2 fun r hr=>hb r (List.mem_filter.mp hr).1;have h2:=ze2 hp d (k+1+(p.grow d (k+1) (zaZ p.X c t rows) (p.cols s).2).1.length) (zaC p.X c t rows) (p.grow d (k+1) (zaZ p.X c t rows) (p.cols s).2).2 fun r hr=>hb r (List.mem_filter.mp hr).1;have h3:=(p.grow_len d (k+1) (zaZ p.X c t rows) (p.cols s).2).1;rw[GP.grow_some hc];dsimp only;rw[zgB (show c ≠ -1 by omega),zeL];simp only[List.length_cons,List.length_append];refine .inr ⟨by omega,?_⟩;grind
theorem zlM {p:GP} {kd cl:Int} {w:Nat} (hp:zjc p kd cl w) {S:List Nd} {x:List Rat}:∀(d k:Nat) (rows:List Int) (s:Int),(∀r,r∈rows→0≤r∧r<(p.X.length:Int))→At S k (p.grow d k rows s).1→∀l,zeQ S x k l→l.Nodup:=by
 intro d
 induction d with
 | zero =>
  intro k rows s hb hS l hl;rw[GP.grow_zero]at hS;rcases hl.one hS.head with ⟨_,rfl⟩ | ⟨h,_⟩
  ·simp
  ·exact absurd rfl h
 | succ d ih =>
  intro k rows s hb hS l hl
  cases hc:p.cut rows (p.cols s).1 with
  | none =>
   rw[GP.grow_none hc]at hS;rcases hl.one hS.head with ⟨_,rfl⟩ | ⟨h,_⟩
   ·simp
   ·exact absurd rfl h
  | some q =>
   obtain⟨c,t⟩:=q;obtain⟨hcw,_⟩:=zeJ hp hb hc;have hlo:∀r,r∈zaZ p.X c t rows→0≤r∧r<(p.X.length:Int):=fun r hr=>hb r (List.mem_filter.mp hr).1;have hhi:∀r,r∈zaC p.X c t rows→0≤r∧r<(p.X.length:Int):=fun r hr=>hb r (List.mem_filter.mp hr).1;rw[GP.grow_some hc]at hS;dsimp only at hS;rcases hl.one hS.head with ⟨h,_⟩ | ⟨_,m,rfl,_,hm⟩
   ·have:c = -1:=h;omega
   ·dsimp only at hm;rw[Int.toNat_natCast,Int.toNat_natCast]at hm;rcases hm with ⟨_,h2⟩ | ⟨_,h2⟩
    ·refine List.nodup_cons.2 ⟨fun hk=>?_,ih _ _ _ hlo hS.left _ h2⟩;have:=zfR hp d _ _ _ hlo hS.left m h2 _ hk;omega
    ·refine List.nodup_cons.2 ⟨fun hk=>?_,ih _ _ _ hhi hS.right _ h2⟩;have:=zfR hp d _ _ _ hhi hS.right m h2 _ hk;omega
theorem Sub.path {T:List Nd} {w:Int} (x:List Rat) {k h e:Nat} (hs:Sub T w k h e):∃l,zeQ T x k l:=by
 induction hs with
 | leaf h1 h2 _ _ _=>exact⟨_,.here h1 h2⟩
 | @node k h m e n h1 h2 h3 h4 h5 _ _ ih1 ih2 =>
  obtain⟨l1,q1⟩:=ih1;obtain⟨l2,q2⟩:=ih2;by_cases hc:x.getD n.col.toNat 0≤n.at'
  ·exact⟨_,.low h1 oM hc (by rw[h4,Int.toNat_natCast];exact q1)⟩
  ·exact⟨_,.high h1 oM hc (by rw[h5,Int.toNat_natCast];exact q2)⟩
theorem zeQ.det {T:List Nd} {x:List Rat} {i:Nat} {l:List Int} (h:zeQ T x i l):∀{m:List Int},zeQ T x i m→l=m:=by
 induction h with
 | here h1 h2 =>
  intro m hm;rcases hm.one h1 with ⟨_,rfl⟩ | ⟨k,_⟩
  ·rfl
  ·exact absurd h2 k
 | low h1 h2 h3 _ ih =>
  intro m hm;rcases hm.one h1 with ⟨k,_⟩ | ⟨_,m',rfl,_,⟨_,k⟩ | ⟨k,_⟩⟩
  ·exact absurd k h2
  ·rw[ih k]
  ·exact absurd h3 k
 | high h1 h2 h3 _ ih =>
  intro m hm;rcases hm.one h1 with ⟨k,_⟩ | ⟨_,m',rfl,_,⟨k,_⟩ | ⟨_,k⟩⟩
  ·exact absurd k h2
  ·exact absurd k h3
  ·rw[ih k]
def zdj (W:Int→List Int) (n:Nat) (done:List Int) (r:Int) (q:List Int):List (List Int):=(List.range n).map fun (j:Nat)=>done.filter (fun r=>decide ((j:Int)∈W r))++if (j:Int)∈q then [r] else []
theorem zbR (W:Int→List Int) (n:Nat) (done:List Int) (r:Int) (q:List Int):(zdj W n done r q).length=n:=by simp[zdj]
theorem zcX {W:Int→List Int} {n:Nat} {done:List Int} {r:Int} {q:List Int} {j:Nat} (h:j<n):(zdj W n done r q)[j]?=some (done.filter (fun r=>decide ((j:Int)∈W r))++if (j:Int)∈q then [r] else []):=by
 unfold zdj;rw[List.getElem?_map,List.getElem?_range h];rfl
theorem zmM (W:Int→List Int) (n:Nat) (r:Int):zdj W n [] r []=List.replicate n []:=by
 refine List.ext_getElem? fun j=>?_;by_cases h:j<n
 ·rw[zcX h,List.getElem?_replicate,if_pos h];simp
 ·rw[List.getElem?_eq_none (by rw[zbR];omega),List.getElem?_eq_none (by rw[List.length_replicate];omega)]
theorem zlv {W:Int→List Int} {n:Nat} {done:List Int} {r:Int} {q:List Int} {j:Nat} (hq:(j:Int) ∉ q):(zdj W n done r q).set j (done.filter (fun r=>decide ((j:Int)∈W r))++[r])=zdj W n done r (q++[(j:Int)]):=by
 refine List.ext_getElem? fun i=>?_;by_cases h:i<n
 ·rw[List.getElem?_set,zcX h,zcX h];by_cases e:j=i
  ·subst e;rw[if_pos rfl,if_pos (by rw[zbR];exact h),if_pos (by simp)]
  ·rw[if_neg e]
   have:((i:Int)∈q++[(j:Int)])↔(i:Int)∈q:=by
    rw[List.mem_append,List.mem_singleton];exact⟨fun k=>k.resolve_right oM,.inl⟩
   by_cases hi:(i:Int)∈q
   ·rw[if_pos hi,if_pos (this.2 hi)]
   ·rw[if_neg hi,if_neg fun k=>hi (this.1 k)]
 ·rw[List.getElem?_eq_none (by rw[List.length_set,zbR];omega),List.getElem?_eq_none (by rw[zbR];omega)]
theorem zmN {W:Int→List Int} {n:Nat} {done:List Int} {r r':Int}:zdj W n done r (W r)=zdj W n (done++[r]) r' []:=by
 unfold zdj;refine List.map_congr_left fun j _=>?_;rw[List.filter_append,if_neg List.not_mem_nil,qG];congr 1;by_cases h:(j:Int)∈W r
 ·rw[if_pos h,List.filter_cons_of_pos (by simpa using h)];rfl
 ·rw[if_neg h,List.filter_cons_of_neg (by simpa using h)];rfl
end
section
open Go.RowKit _root_.Go.Proofs.Tryz
theorem znO {H:Hp} {cs:List Value} {kd cl w:Int} {ns:List Nd} {D:Nat} (ht:zds H cs kd cl w ns) (hok:zb0 ⟨kd,cl,w,ns⟩) (hsub:Sub ns w 0 D ns.length):PC prog 16 #[.agg cs.toArray] H fun r _=>∃z,r=.int .i64 z∧z≤(D:Int):=by
 have hck:=zbN ht hok;have hln:=hok.len;dsimp only at hln;obtain⟨a,cp,css,rfl,hns,hsl⟩:=ht;refine BD func16 ntmps16 ?_
 repeat (first|refine RUN ?_|refine CV (hck) ?_|refine CE (hck) ?_)
 (first|refine EVL.unbox (3) rfl fun g3=>?_|refine EV.unbox (3) rfl fun g3=>?_);refine uR ?_;refine EVL.callW rfl rfl rfl rfl rfl ([(g3,136,zi5 kd cl w (.slice a ns.length cp) 0)]) ([]) rfl (znj oM hsub hns hsl (deep:=0) (qH _)) ?_;rintro _ _ G3 ⟨rfl,far,rfl,hfar⟩ hG3;refine uR ?_;refine EVL.fldB tO rfl rfl rfl rfl rfl rfl rfl ?_;refine EVL.loadOwn tO rfl rfl rfl rfl rfl rfl (0) rfl (rfl) rfl rfl ?_;refine uR ?_;exact⟨far,rfl,by omega⟩
theorem zmL (W:Int→List Int) (n:Nat) (done:List Int) (r r':Int):zdj W n done r []=zdj W n done r' []:=by
 unfold zdj;exact List.map_congr_left fun j _=>by rw[if_neg List.not_mem_nil,if_neg List.not_mem_nil]
theorem zii (n:Nat):(List.replicate n ([]:Ows)).flatten=[]:=by
 induction n with
 | zero=>rfl
 | succ n ih=>rw[List.replicate_succ,List.flatten_cons,ih];rfl
theorem zpc {A:List Int} {k:Nat} {z:Int} (h:A.Nodup) (hz:A[k]?=some z):z ∉ A.take k:=fun hm=>by
 obtain⟨j,hj⟩:=List.mem_iff_getElem?.1 hm;rw[List.getElem?_take]at hj;split at hj
 ·rename_i hjk;have:=(List.getElem?_inj (qE.1 hj).1 h).1 (hj.trans hz.symm);omega
 ·cases hj
section
variable {n:Nat} {ops:Array Oper} {o:Oper} {env:Env} {bx:Bxs} {H:Hs} {K:Env→Bxs→Hs→Prop} {L:Array Bool} {fuel d:Nat} {v:Value} {I:World→Prop} {z:Option Nat}
theorem IX (i:Nat) {x y:Operand} {T:TypeId} {te te':TE} {e:TypeId} {b off m cap q:Nat} {k:IntKind} {w:Int} (h:EVG I z prog n ops fuel (L.setIfInBounds i true) ((d,.v (.pointer (some ⟨b,off+q*te'.size,none⟩)))::env) bx H K) (hw':w=(q:Int)) (hq:q<m) (hi:ops[i]?=some o:=by exact rfl) (hs:Region.noSelect ops=true:=by kernel_rfl) (hf:Region.free .any ops L i=true:=by kernel_rfl) (hr:(Region.ready .any ops L).contains i=true:=by kernel_rfl) (hy:zmf .any ops L i=true:=by kernel_rfl) (hts:(z == some i)=false:=by kernel_rfl) (hw:zae ops env o=some true:=by exact rfl) (hd:o.dst=some d:=by exact rfl) (hn:Nat.blt d n=true:=by exact rfl)
  (ho:o.op=.indexAddr T x y:=by exact rfl) (hx:env.op x=some (.v (.slice (some ⟨b,off,none⟩) m cap)):=by exact rfl) (hyy:env.op y=some (.v (.int k w)):=by exact rfl) (ht:Tryz.tab.get T=some te:=by exact rfl) (hk:te.kind=.slice e:=by exact rfl) (ht':Tryz.tab.get e=some te':=by exact rfl):EVG I z prog n ops (fuel+1) L env bx H K :=
 EVG.take (J:=fun _=>True) i (.inr ⟨fun _=>trivial,fun e=>by rw[e]at hts;simp at hts⟩) hi hs hf hr hy hw hd hn (fun β a W he _=>by
  have ex:a.eval x=_:=he x _ hx;have ey:a.eval y=_:=he y _ hyy;have hkd:=(tO.get ht).kind;rw[hk]at hkd;have hkd':Tryz.prog.underlying T=some (.slice e):=hkd;unfold execOp;simp[ho,ex,ey,Instr.indexAt,asIntOf,run_underlying hkd',hw',(tO.get ht').size,Addr.add_mid,hq]) h
theorem IRQ (i:Nat) {H0:Hp} {x:Operand} {T:TypeId} {te:TE} {b off:Nat} {c:Array Value} {l:List Value} (hI:∀w,I w→Fits H0 w) (h:EVG I z prog n ops fuel (L.setIfInBounds i true) ((d,.v v)::env) bx H K) (hc:H0 b=some c) (hl:∀(j:Nat) (u:Value),l[j]?=some u→c[off+j]?=some u) (hlen:l.length=te.size) (hv:zen te.agg l=some v) (hi:ops[i]?=some o:=by exact rfl) (hs:Region.noSelect ops=true:=by kernel_rfl) (hf:Region.free .any ops L i=true:=by kernel_rfl) (hr:(Region.ready .any ops L).contains i=true:=by kernel_rfl) (hy:zmf .any ops L i=true:=by kernel_rfl) (hts:zq6 .any ops z i=true:=by kernel_rfl) (hw:zae ops env o=some true:=by exact rfl) (hd:o.dst=some d:=by exact rfl) (hn:Nat.blt d n=true:=by exact rfl)
  (ho:o.op=.load T x:=by exact rfl) (hx:env.op x=some (.v (.pointer (some ⟨b,off,none⟩))):=by exact rfl) (ht:Tryz.tab.get T=some te:=by exact rfl):EVG I z prog n ops (fuel+1) L env bx H K :=
 EVG.take (J:=Fits H0) i (.inl ⟨hts,hI⟩) hi hs hf hr hy hw hd hn (fun β a W he hB=>by
  have ex:a.eval x=_:=he x _ hx;obtain⟨T',fz,hW⟩:=hB b c hc
  have hrg:W.rangeAt b off l:=fun j u hj=>by
   rw[cell_of_row W b (off+j) c T' fz hW];exact hl j u hj
  have hrun:=zaQ (tO.get ht) hrg hlen hv;unfold execOp;simp only[ho,ex,Sem.run_bind,hrun,Result.andThen_ok,Sem.run_pure]) h
theorem ILQ (i:Nat) {T0:TypeId} {cs:List Value} {x:Operand} {T:TypeId} {te:TE} {b off:Nat} {l:List Value} (hI:∀w,I w→Box w b cs.toArray T0) (h:EVG I z prog n ops fuel (L.setIfInBounds i true) ((d,.v v)::env) bx H K) (hl:(cs.drop off).take te.size=l) (hlen:l.length=te.size) (hv:zen te.agg l=some v) (hi:ops[i]?=some o:=by exact rfl) (hs:Region.noSelect ops=true:=by kernel_rfl) (hf:Region.free .any ops L i=true:=by kernel_rfl) (hr:(Region.ready .any ops L).contains i=true:=by kernel_rfl) (hy:zmf .any ops L i=true:=by kernel_rfl) (hts:zq6 .any ops z i=true:=by kernel_rfl) (hw:zae ops env o=some true:=by exact rfl) (hd:o.dst=some d:=by exact rfl) (hn:Nat.blt d n=true:=by exact rfl)
  (ho:o.op=.load T x:=by exact rfl) (hx:env.op x=some (.v (.pointer (some ⟨b,off,none⟩))):=by exact rfl) (ht:Tryz.tab.get T=some te:=by exact rfl):EVG I z prog n ops (fuel+1) L env bx H K :=
 EVG.take (J:=fun w=>Box w b cs.toArray T0) i (.inl ⟨hts,hI⟩) hi hs hf hr hy hw hd hn (fun β a W he hB=>by
  have ex:a.eval x=_:=he x _ hx;have hrg:=hB.range off te.size;rw[hl]at hrg;have hrun:=zaQ (tO.get ht) hrg hlen hv;unfold execOp;simp only[ho,ex,Sem.run_bind,hrun,Result.andThen_ok,Sem.run_pure]) h
end
def zoc (T:TypeId) (vs:List Value) (es:List (List Int)) (ows:List Ows):Prop:=vs.length=es.length∧ows.length=es.length∧∀(j:Nat) (v:Value) (e:List Int) (o:Ows),vs[j]?=some v→es[j]?=some e→ows[j]?=some o→zaW T 1 v e.length (e.map iv) o
theorem zoc.nils (T:TypeId) (n:Nat):zoc T (List.replicate n (.slice none 0 0)) (List.replicate n []) (List.replicate n []):=by
 refine⟨by simp,by simp,fun j v e o h1 h2 h3=>?_⟩;rw[List.getElem?_replicate]at h1 h2 h3;split at h1
 ·rename_i h;rw[if_pos h]at h2 h3;cases h1;cases h2;cases h3;exact zaW.nil _ _
 ·cases h1
theorem zoc.put {T:TypeId} {vs:List Value} {es:List (List Int)} {A B:List Ows} {o o':Ows} {v':Value} {e':List Int} (h:zoc T vs es (A++o::B)) (k:zaW T 1 v' e'.length (e'.map iv) o'):zoc T (vs.set A.length v') (es.set A.length e') (A++o'::B):=by
 obtain⟨h1,h2,h3⟩:=h;refine⟨by rw[List.length_set,List.length_set];exact h1,by rw[List.length_set];simpa using h2,fun j v e q e1 e2 e3=>?_⟩;rw[List.getElem?_set]at e1 e2;by_cases hj:A.length=j
 ·subst hj;rw[if_pos rfl]at e1 e2;rw[List.getElem?_append_right (qH _),Nat.sub_self]at e3;cases e3;split at e1
  ·split at e2
   ·cases e1;cases e2;exact k
   ·cases e2
  ·cases e1
 ·rw[if_neg hj]at e1 e2;refine h3 j v e q e1 e2 ?_;rw[←e3];by_cases hl:j<A.length
  ·rw[List.getElem?_append_left hl,List.getElem?_append_left hl]
  ·rw[List.getElem?_append_right oM,List.getElem?_append_right (by omega)];obtain⟨i,hi⟩:∃i,j-A.length=i+1:=⟨j-A.length-1,by omega⟩;rw[hi];rfl
theorem EV.pubM {P:Program} {n:Nat} {env:Env} {bx:Bxs} {Q:EQ} {c:Code} {T:TypeId}:∀(ows:List Ows) {H:Hs} {vs:List Value} {es:List (List Int)} (pre post:Ows),zoc T vs es ows→H.ow=pre++(ows.flatten++post)→H.base.lent=[]→(∀G,H.ro.Le G→ILs G vs es→EV P n c env bx ⟨G,pre++post,H.base⟩ Q)→EV P n c env bx H Q
 | [],H,vs,es,pre,post,hm,e,hb,h=>by
  have h0:es=[]:=List.length_eq_zero_iff.1 hm.2.1.symm;subst h0;have h1:vs=[]:=List.length_eq_zero_iff.1 hm.1;subst h1;have:=h H.ro (Hp.Le.refl _) ⟨rfl,fun j v l e1 _=>by cases e1⟩;rw[←show H.ow=pre++post from e]at this;exact this
 | o::ows,H,[],es,pre,post,hm,e,hb,h=>by
  have h1:=hm.1;have h2:=hm.2.1;rw[←h1]at h2;cases h2
 | o::ows,H,v::vs,[],pre,post,hm,e,hb,h=>by have h1:=hm.1;cases h1
 | o::ows,H,v::vs,l::es,pre,post,hm,e,hb,h=>by
  have ho:=hm.2.2 0 v l o rfl rfl rfl;refine EV.publishL pre o (ows.flatten++post) (by rw[e,List.flatten_cons,List.append_assoc]) ho (fun G hG hc=>?_) (fun k hk=>by rw[hb]at hk;cases hk);refine EV.pubM ows pre post ⟨Nat.succ.inj hm.1,Nat.succ.inj hm.2.1,fun j v' e' o' e1 e2 e3=>hm.2.2 (j+1) v' e' o' e1 e2 e3⟩ rfl hb fun G2 hG2 hs=>h G2 (hG.trans hG2) ⟨by rw[List.length_cons,List.length_cons,hs.1],fun j v' l' e1 e2=>?_⟩
  cases j with
  | zero=>cases e1;cases e2;exact SlC.mono hc hG2
  | succ j=>exact hs.2 j v' l' e1 e2
theorem SlC.expl {H:Hp} {v:Value} {n s:Nat} {xs:List Value} (h:SlC H v n s xs) (h0:0<n):∃b off cap c,v=.slice (some ⟨b,off,none⟩) n cap∧H b=some c∧∀(j:Nat) (x:Value),xs[j]?=some x→c[off+j]?=some x:=by
 rcases h.2 with ⟨e,_⟩ | ⟨b,off,cap,c,e,_,h2,h3⟩
 ·omega
 ·exact⟨b,off,cap,c,e,h2,h3⟩
theorem zhn {c:Array Value} {q:Nat} {v:Value} (h:c[q]?=some v):∀(j:Nat) (u:Value),[v][j]?=some u→c[q+j]?=some u:=fun j u hj=>by
 cases j with
 | zero=>cases hj;exact h
 | succ j=>cases hj
theorem zmW {z:Option Nat} {L:Array Bool} {n:Nat} {env:Env} {bx:Bxs} {H:Hs} {p:Nat × TypeId × List Value} {H0:Hp} {jj:Nat} (hj:zdz z L=false∨H.ow[jj]?=some p) (h:H0.Le H.ro):zdz z L=true→∀W0 β a W,Rel n W0 H.base β env bx H a W→Box W p.1 p.2.2.toArray p.2.1∧Fits H0 W:=fun hn W0 β a W r=>⟨zrN hj hn W0 β a W r,r.fits.mono h⟩
end
end Go.Proofs.YtifcjfodgicngaaGreatDoor
