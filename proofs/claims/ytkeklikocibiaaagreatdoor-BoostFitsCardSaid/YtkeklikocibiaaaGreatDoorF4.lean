/- Texts of ours in one: GnR, GnS, GrP, GnT, GnV, Wd1, Ls7, LsR, Ls8, Wd2, Ha3, Lw8, Lw9, Wd3, Wd4, Ev24, RqL, Wd5, GnX, Tr1, Ev25, Wd6, Tr2, Dice, Draw, RefDice, Dg1, Wd7, Ev26, Tr3, Ev27, Stable, Swaps, RestPlain, Rest, Same, Rising, Tr4, Tr5, TrT, Tr6, Tr7, Tr8, Tr9, Tr10, Tr11, Tr12, Tr13, Wd8, Ev28, Pg1, Tr14, Tr15, Pg2, Od1, Pg3, Tr16, Tr17, Tr18, Tr19, Tr20, Tr21, Tr22, Tr23, Tr24, Tr25, Tr26, Opn, Opn20, Tr27, Tr29, Tr30, Tr31. -/
import Derived.Test.YtkeklikocibiaaaGreatDoorF0
import Derived.Test.YtkeklikocibiaaaGreatDoorF1
import Derived.Test.YtkeklikocibiaaaGreatDoorF2
import Derived.Test.YtkeklikocibiaaaGreatDoorF3
import Derived.Test.YtkeklikocibiaaaGreatDoorRows
import Derived.WalkLawsBesides
import Derived.Deep.LoopGhost
import Derived.Lib.ConvBytes
import Derived.Deep.QuietTactic
import Derived.BigQuiet
import Derived.WalkKit
import Derived.ProofKit
import Derived.OpenShut
set_option linter.unusedVariables false
set_option linter.unusedSimpArgs false
set_option maxHeartbeats 64000000
namespace Go.Proofs.YtkeklikocibiaaaGreatDoor
section
structure POk (wo cost:List Int->Rat):Prop where
 wperm:∀l m:List Int,l.Perm m->wo l=wo m
 cperm:∀l m:List Int,l.Perm m->cost l=cost m
 split:∀l m:List Int,cost (l++m)+wo (l++m)=cost l+wo l+(cost m+wo m)
 conv:∀l m:List Int,wo (l++m)<=wo l+wo m
theorem POk.gain {wo cost:List Int->Rat} (h:POk wo cost) {rs l m:List Int} (hp:(l++m).Perm rs):cost rs-cost l-cost m=wo l+wo m-wo rs:=by
 have h1:=h.split l m;have h2:=h.wperm _ _ hp;have h3:=h.cperm _ _ hp;rw[h2,h3]at h1;grind
theorem zlC {p:Int->Bool} {m:List Int} {k:Nat} (h1:∀x,x∈m.take k->p x=true) (h2:∀x,x∈m.drop k->p x=false):m.filter p=m.take k:=by
 rw[<-List.take_append_drop k m,List.filter_append,List.filter_eq_self.2 h1,List.filter_eq_nil_iff.2 (fun x hx=>by rw[h2 x hx];decide),qG,List.take_append_drop]
theorem zlA {p:Int->Bool} {m:List Int} {k:Nat} (h1:∀x,x∈m.take k->p x=false) (h2:∀x,x∈m.drop k->p x=true):m.filter p=m.drop k:=by
 conv=>lhs;rw[<-List.take_append_drop k m]
 rw[List.filter_append,List.filter_eq_nil_iff.2 (fun x hx=>by rw[h1 x hx];decide),List.filter_eq_self.2 h2,pN]
theorem X2 {a b:Rat} (h:a<b):a<(a+b) / 2/\(a+b) / 2<b:=by
 constructor <;> grind
theorem ziZ {m:List Int} {j:Nat} {x:Int} (h:x∈m.take (j+1)):∃i,i<=j/\i<m.length/\m.getD i 0=x:=by
 obtain⟨i,hi,rfl⟩:=List.mem_iff_getElem.1 h;rw[qP]at hi;exact⟨i,by omega,by omega,by simp[show i<m.length by omega]⟩
theorem ziY {m:List Int} {j:Nat} {x:Int} (h:x∈m.drop (j+1)):∃i,j+1<=i/\i<m.length/\m.getD i 0=x:=by
 obtain⟨i,hi,rfl⟩:=List.mem_iff_getElem.1 h;rw[qt]at hi;exact⟨j+1+i,by omega,by omega,by simp[show j+1+i<m.length by omega]⟩
theorem Iy {key:Int->Rat} {m:List Int} (h:iT key m) {i j:Nat} (sU:i<=j) (hj:j<m.length):key (m.getD i 0)<=key (m.getD j 0):=by
 rcases Nat.lt_or_eq_of_le sU with af | rfl
 ·have:=(List.pairwise_iff_getElem.1 h) i j (by simp;omega) (by simp;omega) af;simpa[show i<m.length by omega,hj] using this
 ·exact Rat.le_refl
theorem Iw {X:List (List Rat)} {col:Int} {rs m:List Int} (hp:m.Perm rs) (hr:iT (bD X col) m) (ha:∀r,r∈rs->cY X col r=true) {j:Nat} (hj:j+1<m.length) (af:bD X col (m.getD j 0)<bD X col (m.getD (j+1) 0)) :
  (aR X col (fp (bD X col) m j) rs).Perm (m.take (j+1))/\(bf X col (fp (bD X col) m j) rs).Perm (m.drop (j+1)):=by
 obtain⟨h1,h2⟩:=X2 af;have hm:∀r,r∈m->cY X col r=true:=fun r hr=>ha r (hp.mem_iff.1 hr)
 have cF:∀x,x∈m.take (j+1)->bD X col x<=fp (bD X col) m j:=fun x hx=>by
  obtain⟨i,hi,_,rfl⟩:=ziZ hx;exact Rat.le_trans (Iy hr hi oM) (Rat.le_of_lt h1)
 have cJ:∀x,x∈m.drop (j+1)->¬bD X col x<=fp (bD X col) m j:=fun x hx=>by
  obtain⟨i,hi,bY,rfl⟩:=ziY hx;have:=Iy hr hi bY;intro k;generalize bD X col (m.getD i 0)=x at *
  unfold fp at k;grind
 constructor
 ·refine(hp.symm.filter _).trans ?_;rw[zlC (k:=j+1)]
  ·intro x hx;rw[hm x (List.mem_of_mem_take hx),qD (cF x hx)];rfl
  ·intro x hx;rw[hm x (List.mem_of_mem_drop hx),qC (cJ x hx)];rfl
 ·refine(hp.symm.filter _).trans ?_;rw[zlA (k:=j+1)]
  ·intro x hx;rw[hm x (List.mem_of_mem_take hx),qD (cF x hx)];rfl
  ·intro x hx;rw[hm x (List.mem_of_mem_drop hx),qC (cJ x hx)];rfl
theorem I3 {key:Int->Rat} {least:Int} {m:List Int} {j:Nat}:kQ key least m j=true↔least<=((j+1:Nat):Int)/\least<=((m.length-(j+1):Nat):Int)/\key (m.getD j 0)<key (m.getD (j+1) 0):=by
 unfold kQ;simp only[Bool.and_eq_true,decide_eq_true_eq];exact and_assoc
theorem Lw {key:Int->Rat} {wo:List Int->Rat} {least:Int} {m:List Int}:∀{n:Nat} {a w:Rat},dN key wo least m n=some (a,w)->∃j,j<n/\kQ key least m j=true/\a=fp key m j/\w=fV wo m j
 | 0,a,w,h=>by cases h
 | n+1,a,w,h=>by
  unfold dN at h;split at h
  ·rename_i hc;split at h
   ·cases h;exact⟨n,Nat.lt_succ_self _,hc,rfl,rfl⟩
   ·rename_i a0 w0 h0;split at h
    ·cases h;exact⟨n,Nat.lt_succ_self _,hc,rfl,rfl⟩
    ·cases h;obtain⟨j,h1,h2⟩:=Lw h0;exact⟨j,by omega,h2⟩
  ·obtain⟨j,h1,h2⟩:=Lw h;exact⟨j,by omega,h2⟩
theorem Lx {key:Int->Rat} {wo:List Int->Rat} {least:Int} {m:List Int}:∀{n j:Nat},j<n->kQ key least m j=true->∃a w,dN key wo least m n=some (a,w)/\fV wo m j<=w
 | 0,j,h,_=>by omega
 | n+1,j,h,hc=>by
  unfold dN;by_cases Ba:j=n
  ·subst Ba;rw[if_pos hc];split
   ·exact⟨_,_,rfl,Rat.le_refl⟩
   ·rename_i a0 w0 _;by_cases hw:w0<fV wo m j
    ·rw[if_pos hw];exact⟨_,_,rfl,Rat.le_refl⟩
    ·rw[if_neg hw];exact⟨_,_,rfl,Rat.not_lt.1 hw⟩
  ·obtain⟨a,w,h1,h2⟩:=Lx (wo:=wo) (show j<n by omega) hc;split
   ·rw[h1];dsimp only;split
    ·rename_i hw;exact⟨_,_,rfl,Rat.le_trans h2 (Rat.le_of_lt hw)⟩
    ·exact⟨_,_,rfl,h2⟩
   ·exact⟨a,w,h1,h2⟩
theorem zoT {ps:List (Int × Option (Rat × Rat))} {c:Int} {a w:Rat} (h:gP ps=some (c,a,w)):(c,some (a,w))∈ps:=by
 have key:∀(qs pre:List (Int × Option (Rat × Rat))) (st:Option (Int × Rat × Rat)),(∀c a w,st=some (c,a,w)->(c,some (a,w))∈pre)->∀c a w,qs.foldl kS st=some (c,a,w)->(c,some (a,w))∈pre++qs:=by
  intro qs
  induction qs with
  | nil=>intro pre st h2 c a w h3;rw[qG];exact h2 c a w h3
  | cons p qs ih =>
   intro pre st h2 c a w h3
   have:=ih (pre++[p]) (kS st p) (fun c a w h4=>by
    obtain⟨pc,po⟩:=p;unfold kS at h4
    cases po with
    | none=>exact List.mem_append_left _ (h2 c a w h4)
    | some q =>
     obtain⟨a1,w1⟩:=q
     cases st with
     | none=>cases h4;simp
     | some t =>
      obtain⟨c0,a0,w0⟩:=t;dsimp only at h4;split at h4
      ·cases h4;simp
      ·cases h4;exact List.mem_append_left _ (h2 _ _ _ Z)) c a w h3
   simpa using this
 have:=key ps [] none (fun c a w h=>by cases h) c a w h;simpa using this
theorem zoS {ps:List (Int × Option (Rat × Rat))} {c:Int} {a w:Rat} (h:(c,some (a,w))∈ps):∃c' a' w',gP ps=some (c',a',w')/\w<=w':=by
 have key:∀(qs:List (Int × Option (Rat × Rat))) (st:Option (Int × Rat × Rat)),((c,some (a,w))∈qs\/∃c' a' w',st=some (c',a',w')/\w<=w')->∃c' a' w',qs.foldl kS st=some (c',a',w')/\w<=w':=by
  intro qs
  induction qs with
  | nil =>
   rintro st (h | h)
   ·cases h
   ·exact h
  | cons p qs ih =>
   intro st h;refine ih (kS st p) ?_
   have step:(p=(c,some (a,w))\/∃c' a' w',st=some (c',a',w')/\w<=w')->∃c' a' w',kS st p=some (c',a',w')/\w<=w':=by
    rintro (rfl | ⟨c',a',w',rfl,hw⟩)
    ·unfold kS
     cases st with
     | none=>exact⟨_,_,_,rfl,Rat.le_refl⟩
     | some t =>
      obtain⟨c0,a0,w0⟩:=t;dsimp only;split
      ·exact⟨_,_,_,rfl,Rat.le_refl⟩
      ·rename_i hn;exact⟨_,_,_,rfl,Rat.not_lt.1 hn⟩
    ·obtain⟨pc,po⟩:=p;unfold kS
     cases po with
     | none=>exact⟨_,_,_,rfl,hw⟩
     | some q =>
      obtain⟨a1,w1⟩:=q;dsimp only;split
      ·rename_i hn;exact⟨_,_,_,rfl,Rat.le_trans hw (Rat.le_of_lt hn)⟩
      ·exact⟨_,_,_,rfl,hw⟩
   rcases h with h | h
   ·rcases List.mem_cons.1 h with h | h
    ·exact .inr (step (.inl h.symm))
    ·exact .inl h
   ·exact .inr (step (.inr h))
 exact key ps none (.inl h)
theorem LZ {key:Int->Rat} {m:List Int}:∀{n:Nat} {t:Rat},t∈xX key m n->∃j,j<n/\key (m.getD j 0)<key (m.getD (j+1) 0)/\t=fp key m j
 | 0,t,h=>by cases h
 | n+1,t,h=>by
  unfold xX at h;rcases List.mem_append.1 h with h | h
  ·obtain⟨j,h1,h2⟩:=LZ h;exact⟨j,by omega,h2⟩
  ·split at h
   ·rename_i af;exact⟨n,Nat.lt_succ_self _,af,pK.1 h⟩
   ·cases h
section
variable {X:List (List Rat)} {wo cost:List Int->Rat} {rs cols:List Int} {L:Int} {ps:List (Int × Option (Rat × Rat))} (hp:POk wo cost) (eg:Dl cols (ps.map (·.1))) (gC:∀p,p∈ps->xS X wo rs L p.1 p.2)
include hp eg gC
end
end
section
theorem Tt {l m:List Rat} (h:l.Perm m):aJ l=aJ m:=by
 induction h with
 | nil=>rfl
 | cons x _ ih=>rw[ky,ky,ih]
 | swap x y l=>rw[ky,ky,ky,ky];grind
 | trans _ _ h1 h2=>rw[h1,h2]
theorem Up (l m:List Rat):aJ (l++m)=aJ l+aJ m:=by
 induction l with
 | nil=>rw[pN,zQ];grind
 | cons x l ih=>rw[List.cons_append,ky,ky,ih];grind
theorem yh {n:Nat} (h0:n≠0):((n:Int):Rat)≠0:=Je h0
theorem Lg {n:Nat} (h0:n≠0):0<((n:Int):Rat):=by
 have h1:((0:Int):Rat)<=((n:Int):Rat):=Rat.intCast_le_intCast.2 oM;have h2:=yh h0;have h3:((0:Int):Rat)=0:=rfl;rw[h3]at h1;rcases Rat.le_iff_lt_or_eq.1 h1 with h | h
 ·exact h
 ·exact absurd h.symm h2
theorem QG (a b:Rat) (x y:Nat) (hx:x=0->a=0) (hy:y=0->b=0):(a+b)*(a+b) / (((x+y:Nat):Int):Rat)<=a*a / ((x:Int):Rat)+b*b / ((y:Int):Rat):=by
 by_cases fR:x=0
 ·subst fR;rw[hx rfl,qu,show ((((0:Nat):Int)):Rat)=0 from rfl,wu,Rat.zero_add,Rat.zero_add];exact Rat.le_refl
 by_cases An:y=0
 ·subst An;rw[hy rfl,qY,show ((((0:Nat):Int)):Rat)=0 from rfl,wu,Rat.add_zero,Rat.add_zero];exact Rat.le_refl
 have h1:=yh fR;have h2:=yh An;have h3:=yh (n:=x+y) oM;have p1:=Lg fR;have p2:=Lg An;have p3:=Lg (n:=x+y) oM;have e:(((x+y:Nat):Int):Rat)=((x:Int):Rat)+((y:Int):Rat):=by rw[Int.natCast_add,Rat.intCast_add]
 rw[e]at h3 p3 ⊢;generalize ((x:Int):Rat)=u at *
 generalize ((y:Int):Rat)=v at *
 have key:a*a / u+b*b / v-(a+b)*(a+b) / (u+v)=(a*v-b*u)*(a*v-b*u) / (u*v*(u+v)):=by grind
 have hn:0<=(a*v-b*u)*(a*v-b*u) / (u*v*(u+v)):=by
  have h5:=Tv (a*v-b*u);have h6:0<u*v*(u+v):=Rat.mul_pos (Rat.mul_pos p1 p2) p3;rw[Rat.div_def];exact Rat.mul_nonneg h5 (Rat.le_of_lt (Rat.inv_pos.2 h6))
 grind
def B5 (vals:List Rat) (l:List Int):Rat:=aJ (eB (fe (atR vals l)) (atR vals l))
def zJ (ls:List Int) (l:List Int):Rat:=pA (atI ls l)
theorem QI (L:List Rat):aJ (eB (fe L) L)+aJ L*aJ L / ((L.length:Int):Rat)=aJ (eB 0 L):=by
 by_cases h0:L.length=0
 ·obtain rfl:=pJ.1 h0;show aJ []+aJ []*aJ [] / ((((([]:List Rat).length:Nat):Int)):Rat)=aJ [];rw[zQ,show ((((([]:List Rat).length:Nat):Int)):Rat)=0 from rfl,wu,Rat.add_zero]
 ·have h:=TH (fe L) 0 L.reverse;rw[List.reverse_reverse,List.length_reverse]at h;have hn:=yh h0;have hm:fe L=aJ L / ((L.length:Int):Rat):=rfl;rw[h];generalize aJ (eB (fe L) L)=A;rw[hm];generalize ((L.length:Int):Rat)=N at *
  generalize aJ L=S at *
  grind
theorem XW (vals:List Rat):POk (woV vals) (B5 vals):=by
 have jf:∀l m:List Int,l.Perm m->(atR vals l).Perm (atR vals m):=fun l m h=>h.map _
 have hw:∀l m:List Int,l.Perm m->woV vals l=woV vals m:=fun l m h=>by
  unfold woV;rw[Tt (jf l m h),h.length_eq]
 have hf:∀l:List Int,B5 vals l+woV vals l=aJ (eB 0 (atR vals l)):=fun l=>by
  have:=QI (atR vals l);rw[lY]at this;exact this
 refine⟨hw,fun l m h=>?_,fun l m=>?_,fun l m=>?_⟩
 ·have h1:=hf l;have h2:=hf m;have h3:aJ (eB 0 (atR vals l))=aJ (eB 0 (atR vals m)):=Tt ((jf l m h).map _);have h4:=hw l m h;grind
 ·rw[hf,hf,hf,KQ];show aJ ((atR vals l++atR vals m).map _)=_;rw[qo,Up];rfl
 ·unfold woV;rw[KQ,Up,qJ];exact QG _ _ _ _ (fun h=>by rw[pJ.1 h];rfl) (fun h=>by rw[pJ.1 h];rfl)
theorem Ia (f g:Nat->Nat) (j:Nat):∀n,((List.range n).map fun k=>f k+if k=j then g k else 0).sum=((List.range n).map f).sum+if j<n then g j else 0
 | 0=>by simp
 | n+1=>by
  rw[List.range_succ,qo,List.sum_append,qo,List.sum_append,Ia f g j n];simp only[qx,List.map_nil,List.sum_cons,List.sum_nil];by_cases h:n=j
  ·subst h;rw[if_pos rfl,if_neg oM,if_pos (by omega)];omega
  ·rw[if_neg h];by_cases h2:j<n
   ·rw[if_pos h2,if_pos (by omega)];omega
   ·rw[if_neg h2,if_neg (by omega)];omega
theorem Ro:∀l:List Int,(∀z,z∈l->0<=z/\z<12)->sqL l=((List.range 12).map fun (k:Nat)=>l.count (k:Int)*l.count (k:Int)).sum
 | [],_=>by decide
 | x::l,h=>by
  have hx:=h x (qf ..);obtain⟨j,rfl⟩:=qh hx.1;have ih:=Ro l (fun z hz=>h z (qk _ hz));have hs:=Ia (fun k=>l.count (k:Int)*l.count (k:Int)) (fun k=>2*l.count (k:Int)+1) j 12;rw[if_pos (by omega)]at hs;rw[K7,ih,Nat.add_assoc,<-hs];congr 1;refine List.map_congr_left fun k _=>?_;rw[List.count_cons];by_cases e:k=j
  ·subst e;rw[if_pos rfl];simp;grind
  ·have e2:¬((j:Int) == (k:Int))=true:=by simp;omega
   rw[if_neg e,if_neg e2];simp
def lQ (ks:List Nat) (f:Nat->Rat):Rat:=aJ (ks.map f)
theorem Sq (f:Nat->Nat):∀ks:List Nat,((((ks.map f).sum:Nat):Int):Rat)=lQ ks fun k=>(((f k:Nat):Int):Rat)
 | []=>rfl
 | k::ks=>by
  unfold lQ;rw[qx,List.sum_cons,qx,ky,Int.natCast_add,Rat.intCast_add,Sq f ks];rfl
theorem Rn {f g:Nat->Rat} (h:∀k,f k<=g k):∀ks:List Nat,lQ ks f<=lQ ks g
 | []=>Rat.le_refl
 | k::ks=>by
  have ih:=Rn h ks;unfold lQ at *
  rw[qx,ky,qx,ky];have:=h k;grind
theorem Sr (f g:Nat->Rat):∀ks:List Nat,lQ ks (fun k=>f k+g k)=lQ ks f+lQ ks g
 | []=>by unfold lQ;rw[List.map_nil,List.map_nil,List.map_nil,zQ,Rat.add_zero]
 | k::ks=>by
  have ih:=Sr f g ks;unfold lQ at *
  rw[qx,ky,qx,ky,qx,ky,ih];grind
theorem Iv (f:Nat->Rat) (c:Rat):∀ks:List Nat,lQ ks (fun k=>f k / c)=lQ ks f / c
 | []=>by unfold lQ;rw[List.map_nil,List.map_nil,zQ,Rat.div_def,Rat.zero_mul]
 | k::ks=>by
  have ih:=Iv f c ks;unfold lQ at *
  rw[qx,ky,qx,ky,ih,Rat.div_def,Rat.div_def,Rat.div_def,Rat.add_mul]
theorem K3 {l:List Int} (h:∀z,z∈l->0<=z/\z<12):((sqL l:Int):Rat)=lQ (List.range 12) fun k=>((l.count (k:Int):Int):Rat)*((l.count (k:Int):Int):Rat):=by
 rw[Ro l h,Sq];unfold lQ;congr 1;refine List.map_congr_left fun k _=>?_;rw[Int.natCast_mul,Rat.intCast_mul]
theorem XX {ls:List Int} (dE:∀z,z∈ls->0<=z/\z<12):POk (woL ls) (zJ ls):=by
 have jf:∀l m:List Int,l.Perm m->(atI ls l).Perm (atI ls m):=fun l m h=>h.map _
 have hb:∀l:List Int,∀z,z∈atI ls l->0<=z/\z<12:=fun l z hz=>by
  unfold atI at hz;obtain⟨r,_,rfl⟩:=List.mem_map.1 hz;rw[qB]
  cases e:ls[r.toNat]? with
  | none=>exact⟨by decide,by decide⟩
  | some x=>exact dE x (qF e)
 have hw:∀l m:List Int,l.Perm m->woL ls l=woL ls m:=fun l m h=>by
  unfold woL;rw[Sv (jf l m h),h.length_eq]
 have hf:∀l:List Int,zJ ls l+woL ls l=((l.length:Int):Rat):=fun l=>by
  unfold zJ pA woL;rw[pV];grind
 refine⟨hw,fun l m h=>?_,fun l m=>?_,fun l m=>?_⟩
 ·have h1:=hf l;have h2:=hf m;have h4:=hw l m h;rw[h.length_eq]at h1;grind
 ·rw[hf,hf,hf,qJ,Int.natCast_add,Rat.intCast_add]
 ·unfold woL;rw[K3 (hb (l++m)),K3 (hb l),K3 (hb m),<-Iv,<-Iv,<-Iv,<-Sr];refine Rn (fun k=>?_) _;rw[KR,List.count_append,Int.natCast_add,Rat.intCast_add,qJ];exact QG _ _ _ _ (fun h=>by rw[pJ.1 h];rfl) (fun h=>by rw[pJ.1 h];rfl)
end
section
def Gr (D A:Nat) (q:Rat):Prop:=∃z:Int,q*((D:Int):Rat)=(z:Rat)/\z.natAbs<=A*D
theorem zlE (z:Int) (k:Nat):(z*(k:Int)).natAbs=z.natAbs*k:=by rw[Int.natAbs_mul,Int.natAbs_natCast]
theorem Gr.bits {D A:Nat} {q:Rat} (hD:1<=D) (hA:1<=A) (h:Gr D A q):ht q<=bl (A*D):=by
 obtain⟨z,e,hz⟩:=h
 have hq:q=mkRat z D:=by
  rw[Rat.mkRat_eq_div];have h0:=yh (show D≠0 by omega);have:((D:Nat):Rat)=((D:Int):Rat):=rfl;rw[this,<-e];grind
 rw[hq];refine qI (Hj z D oM) ?_;have h1:=ik hz;have h2:=ik (show D<=A*D from Nat.le_mul_of_pos_left D oM);omega
theorem Gr.mono {D A B:Nat} {q:Rat} (h:Gr D A q) (hAB:A<=B):Gr D B q:=by
 obtain⟨z,e,hz⟩:=h;exact⟨z,e,qI hz (qN D hAB)⟩
theorem Gr.up {D A:Nat} {q:Rat} (h:Gr D A q) (k:Nat):Gr (D*k) A q:=by
 obtain⟨z,e,hz⟩:=h;refine⟨z*(k:Int),?_,?_⟩
 ·rw[Int.natCast_mul,Rat.intCast_mul,Rat.intCast_mul,<-Rat.mul_assoc,e]
 ·rw[zlE,<-Nat.mul_assoc];exact qN k hz
theorem Gr.zero (D A:Nat):Gr D A 0:=⟨0,by rw[Rat.zero_mul];rfl,qQ _⟩
theorem Gr.neg {D A:Nat} {q:Rat} (h:Gr D A q):Gr D A (-q):=by
 obtain⟨z,e,hz⟩:=h;refine⟨-z,?_,by rw[Int.natAbs_neg];exact hz⟩;rw[Rat.neg_mul,e,Rat.intCast_neg]
theorem Gr.add {D A B:Nat} {p q:Rat} (h:Gr D A p) (k:Gr D B q):Gr D (A+B) (p+q):=by
 obtain⟨z,e,hz⟩:=h;obtain⟨y,e',hy⟩:=k;refine⟨z+y,?_,?_⟩
 ·rw[Rat.add_mul,e,e',Rat.intCast_add]
 ·rw[qv];exact qI (Int.natAbs_add_le _ _) (Nat.add_le_add hz hy)
theorem Gr.sub {D A B:Nat} {p q:Rat} (h:Gr D A p) (k:Gr D B q):Gr D (A+B) (p-q):=by
 rw[Rat.sub_eq_add_neg];exact h.add k.neg
theorem Gr.mul {D E A B:Nat} {p q:Rat} (h:Gr D A p) (k:Gr E B q):Gr (D*E) (A*B) (p*q):=by
 obtain⟨z,e,hz⟩:=h;obtain⟨y,e',hy⟩:=k;refine⟨z*y,?_,?_⟩
 ·rw[Int.natCast_mul,Rat.intCast_mul,Rat.intCast_mul,<-e,<-e'];grind
 ·rw[Int.natAbs_mul,show A*B*(D*E)=(A*D)*(B*E) by rw[Nat.mul_assoc,Nat.mul_assoc,Nat.mul_left_comm B D E]];exact Nat.mul_le_mul hz hy
theorem Gr.sumr {D A:Nat}:∀(l:List Rat),(∀q,q∈l->Gr D A q)->Gr D (A*l.length) (aJ l.reverse)
 | [],_=>Gr.zero _ _
 | x::l,h=>by
  rw[List.reverse_cons,uk,qR,Nat.mul_succ];exact(Gr.sumr l fun q hq=>h q (qk _ hq)).add (h x (qf ..))
theorem Gr.sum {D A:Nat} {l:List Rat} (h:∀q,q∈l->Gr D A q):Gr D (A*l.length) (aJ l):=by
 have:=Gr.sumr (D:=D) (A:=A) l.reverse fun q hq=>h q (List.mem_reverse.1 hq)
 rwa [List.reverse_reverse,List.length_reverse]at this
theorem Gr.mean {D A:Nat} {l:List Rat} (h:∀q,q∈l->Gr D A q):Gr (D*l.length) A (fe l):=by
 by_cases h0:l.length=0
 ·obtain rfl:=pJ.1 h0;rw[show fe []=0 from wu _];exact Gr.zero _ _
 obtain⟨z,e,hz⟩:=Gr.sum h;refine⟨z,?_,?_⟩
 ·have h1:=yh (n:=l.length) oM;rw[Int.natCast_mul,Rat.intCast_mul,<-e];unfold fe;grind
 ·rw[show A*(D*l.length)=A*l.length*D by rw[Nat.mul_assoc,qW D]];exact hz
theorem Gr.meanK {D A m:Nat} {l:List Rat} (h:∀q,q∈l->Gr D A q) (hm:l.length ∣ m):Gr (D*m) A (fe l):=by
 obtain⟨k,rfl⟩:=hm;rw[<-Nat.mul_assoc];exact(Gr.mean h).up k
theorem Gr.dev {D A:Nat} {l:List Rat} (h:∀q,q∈l->Gr D A q):Gr (D*l.length*(D*l.length)) ((A+A)*(A+A)*l.length) (aJ (eB (fe l) l)):=by
 have hm:=Gr.mean h
 have:=Gr.sum (D:=D*l.length*(D*l.length)) (A:=(A+A)*(A+A)) (l:=eB (fe l) l) fun q hq=>by
  obtain⟨v,hv,rfl⟩:=List.mem_map.1 hq;have h1:=((h v hv).up l.length).sub hm;exact h1.mul h1
 rwa [show (eB (fe l) l).length=l.length by unfold eB;exact qV ..]at this
theorem KS (q:Rat):q*(((q.den:Nat):Int):Rat)=(q.num:Rat):=by
 have h0:=yh q.den_nz;have e:=Rat.mkRat_self q;rw[Rat.mkRat_eq_div]at e;have h1:((q.den:Nat):Rat)=(((q.den:Nat):Int):Rat):=rfl;rw[h1]at e;generalize (((q.den:Nat):Int):Rat)=d at *
 generalize (q.num:Rat)=n at *
 clear h1;rw[show q=n / d from e.symm];grind
theorem LC {q:Rat}:0<q.num↔0<q:=by
 have h1:=Rat.num_nonneg (q:=q);have h2:=Rat.num_eq_zero (q:=q);constructor
 ·intro h
  exact Rat.not_le.1 fun k=>by
   have h3:0<=q:=h1.1 oM;have h4:q=0:=Rat.le_antisymm k h3;have:=h2.2 h4;omega
 ·intro h;have h3:0<=q.num:=h1.2 (Rat.le_of_lt h);rcases Int.lt_or_eq_of_le h3 with h4 | h4
  ·exact h4
  ·have:=h2.1 h4.symm;rw[this]at h;exact absurd h (Rat.lt_irrefl)
theorem Gr.ofDen {D A:Nat} {q:Rat} (hd:q.den ∣ D) (hn:q.num.natAbs<=A*q.den):Gr D A q:=by
 obtain⟨k,rfl⟩:=hd;have h0:Gr q.den A q:=⟨q.num,KS q,hn⟩;exact h0.up k
def lU (l:List Rat):Prop:=∃D A:Nat,1<=D/\1<=A/\bl (A*D)<=95/\∀q,q∈l->Gr D A q
theorem lU.bits {l:List Rat} (h:lU l):∀q,q∈l->ht q<=95:=fun q hq=>by
 obtain⟨D,A,hD,hA,hb,hl⟩:=h;exact qI ((hl q hq).bits hD hA) hb
theorem lU.small {l m:List Rat} (h:lU l) (hm:∀q,q∈m->q∈l) (hl:m.length<=300):ht (fe m)<=104/\ht (aJ (eB (fe m) m))<=300:=by
 obtain⟨D,A,hD,hA,hb,hq⟩:=h;by_cases h0:m.length=0
 ·obtain rfl:=pJ.1 h0;rw[show fe []=0 from wu _,show aJ (eB 0 [])=0 from rfl,rK];omega
 have hg:=fun q k=>hq q (hm q k);have h300:bl m.length<=9:=cf oM;have h4:bl 4=3:=Il 2;constructor
 ·refine qI ((Gr.mean hg).bits (qI hD (Nat.le_mul_of_pos_right D oM)) hA) ?_;rw[<-Nat.mul_assoc];have:=gQ (A*D) m.length;omega
 ·refine qI ((Gr.dev hg).bits (Nat.mul_pos (Nat.mul_pos oM oM) (Nat.mul_pos oM oM)) (Nat.mul_pos (Nat.mul_pos oM oM) oM)) ?_;rw[show (A+A)*(A+A)*m.length*(D*m.length*(D*m.length))=4*((A*D)*(A*D))*(m.length*(m.length*m.length)) by grind];have h5:=gQ (4*((A*D)*(A*D))) (m.length*(m.length*m.length));have h6:=gQ 4 ((A*D)*(A*D));have h7:=gQ (A*D) (A*D);have h8:=gQ m.length (m.length*m.length);have h9:=gQ m.length m.length;omega
end
section
def kK (a b:Int × Rat × Rat):Prop:=b.2.2<a.2.2\/(a.2.2=b.2.2/\(a.1<b.1\/(a.1=b.1/\a.2.1<b.2.1)))
instance (a b:Int × Rat × Rat):Decidable (kK a b):=by unfold kK;exact inferInstance
theorem T8 {a b c:Int × Rat × Rat} (h:kK a b) (k:kK b c):kK a c:=by
 unfold kK at *
 rcases h with h | ⟨h1,h2⟩ <;> rcases k with k | ⟨k1,k2⟩
 ·left;grind
 ·left;grind
 ·left;grind
 ·right;refine⟨h1.trans k1,?_⟩;rcases h2 with h2 | ⟨h2,h3⟩ <;> rcases k2 with k2 | ⟨k2,k3⟩
  ·left;omega
  ·left;omega
  ·left;omega
  ·right;exact⟨by omega,by grind⟩
theorem zn7 {a b:Int × Rat × Rat} (h:¬kK a b) (k:¬kK b a):a=b:=by
 unfold kK at *
 obtain⟨a1,a2,a3⟩:=a;obtain⟨b1,b2,b3⟩:=b;dsimp only at *
 have e3:a3=b3:=by
  have h1:¬b3<a3:=fun x=>h (.inl x);have h2:¬a3<b3:=fun x=>k (.inl x);grind
 subst e3
 have e1:a1=b1:=by
  have h1:¬a1<b1:=fun x=>h (.inr ⟨rfl,.inl x⟩);have h2:¬b1<a1:=fun x=>k (.inr ⟨rfl,.inl x⟩);omega
 subst e1
 have e2:a2=b2:=by
  have h1:¬a2<b2:=fun x=>h (.inr ⟨rfl,.inr ⟨rfl,x⟩⟩);have h2:¬b2<a2:=fun x=>k (.inr ⟨rfl,.inr ⟨rfl,x⟩⟩);grind
 subst e2;rfl
theorem T9 {a b:Int × Rat × Rat} (h:kK a b) (k:kK b a):False:=by
 have:=T8 h k;unfold kK at this;rcases this with h | ⟨_,h | ⟨_,h⟩⟩
 ·exact absurd h Rat.lt_irrefl
 ·omega
 ·exact absurd h Rat.lt_irrefl
def gK (st:Option (Int × Rat × Rat)) (p:Int × Rat × Rat):Option (Int × Rat × Rat):=match st with
 | none=>some p
 | some q=>if kK p q then some p else some q
def zK (l:List (Int × Rat × Rat)) (r:Option (Int × Rat × Rat)):Prop:=match r with
 | none=>l=[]
 | some p=>p∈l/\∀q,q∈l->¬kK q p
theorem znO {l:List (Int × Rat × Rat)} {r:Option (Int × Rat × Rat)} (h:zK l r) (p:Int × Rat × Rat):zK (l++[p]) (gK r p):=by
 unfold gK
 cases r with
 | none =>
  obtain rfl:l=[]:=h
  exact⟨by simp,fun q hq=>by
   rw[pN,pK]at hq;subst hq;exact fun k=>T9 k k⟩
 | some q =>
  obtain⟨h1,h2⟩:=h;dsimp only;split
  ·rename_i hp;refine⟨by simp,fun z hz=>?_⟩;rcases List.mem_append.1 hz with hz | hz
   ·exact fun k=>h2 z hz (T8 k hp)
   ·rw[pK.1 hz];exact fun k=>T9 k k
  ·rename_i hp;refine⟨List.mem_append_left _ h1,fun z hz=>?_⟩;rcases List.mem_append.1 hz with hz | hz
   ·exact h2 z hz
   ·rw[pK.1 hz];exact hp
def Hu (P:Int × Rat × Rat->Prop) (r:Option (Int × Rat × Rat)):Prop:=match r with
 | none=>∀p,¬P p
 | some p=>P p/\∀q,P q->¬kK q p
theorem zK.p {l:List (Int × Rat × Rat)} {r:Option (Int × Rat × Rat)} (h:zK l r):Hu (·∈l) r:=by
 cases r with
 | none =>
  obtain rfl:l=[]:=h;intro p hp;cases hp
 | some p=>exact h
theorem znN {P Q:Int × Rat × Rat->Prop} {r s:Option (Int × Rat × Rat)} (h:Hu P r) (k:Hu Q s) (e:∀p,P p↔Q p):r=s:=by
 cases r with
 | none=>cases s with
  | none=>rfl
  | some q=>exact absurd ((e q).2 k.1) (h q)
 | some p=>cases s with
  | none=>exact absurd ((e p).1 h.1) (k p)
  | some q=>rw[zn7 (a:=p) (b:=q) (k.2 p ((e p).1 h.1)) (h.2 q ((e q).2 k.1))]
theorem Ms {key:Int->Rat} {wo:List Int->Rat} {L:Int} {m:List Int}:∀{n:Nat} {a w:Rat},dN key wo L m n=some (a,w) ->
  ∃j,j<n/\kQ key L m j=true/\a=fp key m j/\w=fV wo m j/\∀j',j'<n->kQ key L m j'=true->fV wo m j'<w\/(fV wo m j'=w/\j<=j')
 | 0,a,w,h=>by cases h
 | n+1,a,w,h=>by
  unfold dN at h;split at h
  ·rename_i hc;split at h
   ·rename_i h0;cases h;refine⟨n,Nat.lt_succ_self _,hc,rfl,rfl,fun j' ak dV=>?_⟩;by_cases e:j'=n
    ·subst e;exact .inr ⟨rfl,qH _⟩
    ·obtain⟨a1,w1,h1,_⟩:=Lx (wo:=wo) (show j'<n by omega) dV;rw[h0]at h1;cases h1
   ·rename_i a0 w0 h0;obtain⟨j,hj,h1,h2,h3,h4⟩:=Ms h0;split at h
    ·rename_i hw;cases h;refine⟨n,Nat.lt_succ_self _,hc,rfl,rfl,fun j' ak dV=>?_⟩;by_cases e:j'=n
     ·subst e;exact .inr ⟨rfl,qH _⟩
     ·rcases h4 j' oM dV with h5 | ⟨h5,_⟩
      ·left;grind
      ·left;rw[h5];exact hw
    ·rename_i hw;cases h;refine⟨j,by omega,h1,h2,h3,fun j' ak dV=>?_⟩;by_cases e:j'=n
     ·subst e;rcases Rat.le_iff_lt_or_eq.1 (Rat.not_lt.1 hw) with h5 | h5
      ·exact .inl h5
      ·exact .inr ⟨h5,by omega⟩
     ·exact h4 j' oM dV
  ·rename_i hc;obtain⟨j,hj,h1,h2,h3,h4⟩:=Ms h;refine⟨j,by omega,h1,h2,h3,fun j' ak dV=>?_⟩;by_cases e:j'=n
   ·subst e;exact absurd dV hc
   ·exact h4 j' oM dV
theorem zlk {ps:List (Int × Option (Rat × Rat))} (hs:(ps.map (·.1)).Pairwise (·<·)) {c:Int} {a w:Rat} (h:gP ps=some (c,a,w)):∀c' a' w',(c',some (a',w'))∈ps->w'<w\/(w'=w/\c<=c'):=by
 have key:∀(qs pre:List (Int × Option (Rat × Rat))) (st:Option (Int × Rat × Rat)),((pre++qs).map (·.1)).Pairwise (·<·) ->
   (∀c a w,st=some (c,a,w)->(c,some (a,w))∈pre/\∀c' a' w',(c',some (a',w'))∈pre->w'<w\/(w'=w/\c<=c'))->(st=none->∀c' a' w',(c',some (a',w')) ∉ pre) ->
   ∀c a w,qs.foldl kS st=some (c,a,w)->∀c' a' w',(c',some (a',w'))∈pre++qs->w'<w\/(w'=w/\c<=c'):=by
  intro qs
  induction qs with
  | nil=>intro pre st _ h2 _ c a w h3 c' a' w' hm;rw[qG]at hm;exact(h2 c a w h3).2 c' a' w' hm
  | cons p qs ih =>
   intro pre st uF h2 h0 c a w h3 c' a' w' hm;have e:pre++p::qs=(pre++[p])++qs:=by simp
   rw[e]at uF hm
   have af:∀z,z∈pre->z.1<p.1:=fun z hz=>by
    rw[qo,qo]at uF;exact(List.pairwise_append.1 (List.pairwise_append.1 uF).1).2.2 z.1 (List.mem_map.2 ⟨z,hz,rfl⟩) p.1 (by simp)
   refine ih (pre++[p]) (kS st p) uF (fun c a w h4=>?_) (fun h4=>?_) c a w h3 c' a' w' hm
   ·obtain⟨pc,po⟩:=p;unfold kS at h4
    cases po with
    | none =>
     obtain⟨h5,h6⟩:=h2 c a w h4;refine⟨List.mem_append_left _ h5,fun c' a' w' hz=>?_⟩;rcases List.mem_append.1 hz with hz | hz
     ·exact h6 c' a' w' hz
     ·cases pK.1 hz
    | some q =>
     obtain⟨a1,w1⟩:=q
     cases st with
     | none =>
      cases h4;refine⟨by simp,fun c' a' w' hz=>?_⟩;rcases List.mem_append.1 hz with hz | hz
      ·exact absurd hz (h0 Z c' a' w')
      ·cases pK.1 hz;exact .inr ⟨rfl,by omega⟩
     | some t =>
      obtain⟨c0,a0,w0⟩:=t;obtain⟨h5,h6⟩:=h2 c0 a0 w0 rfl;dsimp only at h4;split at h4
      ·rename_i hw;cases h4;refine⟨by simp,fun c' a' w' hz=>?_⟩;rcases List.mem_append.1 hz with hz | hz
       ·rcases h6 c' a' w' hz with h7 | ⟨h7,_⟩
        ·left;grind
        ·left;rw[h7];exact hw
       ·cases pK.1 hz;exact .inr ⟨rfl,by omega⟩
      ·rename_i hw;cases h4;refine⟨List.mem_append_left _ h5,fun c' a' w' hz=>?_⟩;rcases List.mem_append.1 hz with hz | hz
       ·exact h6 c' a' w' hz
       ·cases pK.1 hz;have hl:=af _ h5;dsimp only at hl;rcases Rat.le_iff_lt_or_eq.1 (Rat.not_lt.1 hw) with h8 | h8
        ·exact .inl h8
        ·exact .inr ⟨h8,by omega⟩
   ·obtain⟨pc,po⟩:=p;unfold kS at h4
    cases po with
    | none =>
     intro c' a' w' hz;rcases List.mem_append.1 hz with hz | hz
     ·exact h0 h4 c' a' w' hz
     ·cases pK.1 hz
    | some q =>
     obtain⟨a1,w1⟩:=q
     cases st with
     | none=>cases h4
     | some t =>
      obtain⟨c0,a0,w0⟩:=t;dsimp only at h4;split at h4 <;> cases h4
 exact key ps [] none hs (fun c a w h=>by cases h) (fun _ c' a' w' h=>by cases h) c a w h
end
section
theorem Ty {key:Int->Rat} {es m m2:List Int} (h1:m.Perm es) (r1:iT key m) (h2:m2.Perm es) (r2:iT key m2):m2.length=m.length/\∀i,i<m.length->key (m2.getD i 0)=key (m.getD i 0):=by
 have gS:m2.length=m.length:=by rw[h1.length_eq,h2.length_eq]
 have A9:m2.map key=m.map key:=TW r2 r1 ((h2.trans h1.symm).map _);refine⟨gS,fun i hi=>?_⟩;have:=congrArg (fun l:List Rat=>l[i]?) A9;simp only[qK]at this;rw[qA (show i<m2.length by omega),qA hi]at this;simpa[hi,gS] using this
theorem zoY {X:List (List Rat)} {wo cost:List Int->Rat} {c L:Int} {es m m2:List Int} (hp:POk wo cost) (ha:∀r,r∈es->cY X c r=true) (h1:m.Perm es) (r1:iT (bD X c) m) (h2:m2.Perm es) (r2:iT (bD X c) m2) {j:Nat} (hj:j+1<m.length) (hc:kQ (bD X c) L m j=true) :
  kQ (bD X c) L m2 j=true/\fp (bD X c) m2 j=fp (bD X c) m j/\fV wo m2 j=fV wo m j:=by
 obtain⟨gS,dK⟩:=Ty h1 r1 h2 r2;obtain⟨c1,c2,af⟩:=I3.1 hc;have iz:bD X c (m2.getD j 0)<bD X c (m2.getD (j+1) 0):=by rw[dK j oM,dK (j+1) hj];exact af
 have mV:fp (bD X c) m2 j=fp (bD X c) m j:=by unfold fp;rw[dK j oM,dK (j+1) hj]
 obtain⟨hl,hh⟩:=Iw h1 r1 ha hj af;obtain⟨eH,Wq⟩:=Iw h2 r2 ha (show j+1<m2.length by omega) iz;rw[mV]at eH Wq;refine⟨I3.2 ⟨c1,by rw[gS];exact c2,iz⟩,mV,?_⟩;unfold fV;rw[hp.wperm _ _ (eH.symm.trans hl),hp.wperm _ _ (Wq.symm.trans hh)]
def Ks (X:List (List Rat)) (wo:List Int->Rat) (es cols:List Int) (L:Int) (p:Int × Rat × Rat):Prop :=
 p.1∈cols/\es.all (cY X p.1)=true/\∃m j,m.Perm es/\iT (bD X p.1) m/\j+1<m.length/\kQ (bD X p.1) L m j=true/\p.2.1=fp (bD X p.1) m j/\p.2.2=fV wo m j-wo es
theorem zrD {key:Int->Rat} {m:List Int} (h:iT key m) {i j:Nat} (sU:i<=j) (hj:j+1<m.length):fp key m i<=fp key m j:=by
 have h1:=Iy h sU oM;have h2:=Iy h (show i+1<=j+1 by omega) hj;unfold fp;grind
theorem zrK {ps:List (Int × Option (Rat × Rat))} (hs:(ps.map (·.1)).Pairwise (·<·)):∀{c:Int} {o o':Option (Rat × Rat)},(c,o)∈ps->(c,o')∈ps->o=o':=by
 induction ps with
 | nil=>intro c o o' h;cases h
 | cons p ps ih =>
  intro c o o' h h';rw[qx]at hs;obtain⟨h1,h2⟩:=List.pairwise_cons.1 hs;rcases List.mem_cons.1 h with h | h <;> rcases List.mem_cons.1 h' with h' | h'
  ·rw[<-h]at h';cases h';rfl
  ·have:=h1 c (List.mem_map.2 ⟨_,h',rfl⟩);rw[<-h]at this;exact absurd this (by dsimp only;omega)
  ·have:=h1 c (List.mem_map.2 ⟨_,h,rfl⟩);rw[<-h']at this;exact absurd this (by dsimp only;omega)
  ·exact ih h2 h h'
theorem zll {X:List (List Rat)} {wo cost:List Int->Rat} {es cols:List Int} {L:Int} {ps:List (Int × Option (Rat × Rat))} (hp:POk wo cost) (eg:Dl cols (ps.map (·.1))) (gC:∀p,p∈ps->xS X wo es L p.1 p.2) :
  Hu (Ks X wo es cols L) ((gP ps).map fun t=>(t.1,t.2.1,t.2.2-wo es)):=by
 have own:∀c a g,Ks X wo es cols L (c,a,g)->∃a2 w2,(c,some (a2,w2))∈ps/\g+wo es<=w2/\(g+wo es=w2->a2<=a):=by
  rintro c a g ⟨hc,ha,m,j,hm,hr,hj,dT,he,hg⟩;dsimp only at hc ha hr dT he hg;obtain⟨⟨pk,po⟩,jf,V4⟩:=List.mem_map.1 ((eg.2 c).2 hc);dsimp only at V4;subst V4;obtain⟨m2,cr,oJ,_⟩:=gC _ jf;dsimp only at cr oJ;rcases cr with ⟨_,sM,bM⟩ | ⟨bF,_⟩
  ·obtain⟨h1,h2,h3⟩:=zoY hp (List.all_eq_true.1 ha) hm hr sM bM hj dT;have gS:=(Ty hm hr sM bM).1;obtain⟨a2,w2,oW,hw⟩:=Lx (wo:=wo) (show j<m2.length-1 by omega) h1;rw[<-oJ]at oW;subst oW;obtain⟨j2,hj2,_,e1,e2,e3⟩:=Ms oJ.symm;refine⟨a2,w2,jf,by grind,fun heq=>?_⟩;rcases e3 j oM h1 with h4 | ⟨_,h4⟩
   ·grind
   ·rw[e1,he,<-h2];exact zrD bM h4 oM
  ·rw[ha]at bF;cases bF
 cases hb:gP ps with
 | none =>
  rintro⟨c,a,g⟩ hq;obtain⟨a2,w2,h1,_⟩:=own c a g hq;obtain⟨_,_,_,h2,_⟩:=zoS h1;rw[hb]at h2;cases h2
 | some t =>
  obtain⟨c,a,w⟩:=t;have hm:=zoT hb;refine⟨?_,?_⟩
  ·obtain⟨m,hs,ho,_⟩:=gC _ hm;dsimp only at hs ho;obtain⟨j,hj,dT,e1,e2⟩:=Lw ho.symm;rcases hs with ⟨ha,jf,hr⟩ | ⟨_,rfl⟩
   ·exact⟨(eg.2 c).1 (List.mem_map.2 ⟨_,hm,rfl⟩),ha,m,j,jf,hr,by omega,dT,e1,by show w-wo es=_;rw[e2]⟩
   ·simp at hj
  ·rintro⟨c',a',g'⟩ hq Ot;obtain⟨a2,w2,h1,h2,h3⟩:=own c' a' g' hq;have h4:=zlk eg.1 hb c' a2 w2 h1;rcases Ot with h5 | ⟨h5,h6⟩
   ·have GR:w-wo es<g':=h5;rcases h4 with h4 | ⟨h4,_⟩ <;> grind
   ·have GR:g'=w-wo es:=h5;have hw:w2=w:=by rcases h4 with h4 | ⟨h4,_⟩ <;> grind
    have hle:c<=c':=by
     rcases h4 with h4 | ⟨_,h4⟩
     ·grind
     ·exact h4
    rcases h6 with h6 | ⟨h6,h7⟩
    ·have:c'<c:=h6;omega
    ·have h6':c'=c:=h6;subst h6';have:=zrK eg.1 h1 hm;cases this;have h8:=h3 (by grind);have h9:a'<a:=h7;grind
end
section
open Go.RowKit _root_.Go.Proofs.Tryz
def en (C:Nat) (l:List Int):List Int:=(List.range C).map fun (k:Nat)=>(l.count (k:Int):Int)
theorem om (C:Nat) (l:List Int):(en C l).length=C:=by simp[en]
theorem B8 {C:Nat} (l:List Int) {k:Nat} (hk:k<C):(en C l)[k]?=some (l.count (k:Int):Int):=by
 unfold en;rw[qK,List.getElem?_range hk];rfl
theorem TJ {C:Nat} (l:List Int) {k:Nat} (hk:k<C):en C (l++[(k:Int)])=(en C l).set k ((l.count (k:Int)+1:Nat):Int):=by
 apply List.ext_getElem?;intro j;rw[List.getElem?_set];by_cases hj:j<C
 ·rw[B8 _ hj,B8 _ hj,Mf,om];by_cases e:k=j
  ·subst e;rw[if_pos rfl,if_pos rfl,if_pos hk]
  ·rw[if_neg e,if_neg oM,qY]
 ·rw[qe (by rw[om];omega),qe (by rw[om];omega),if_neg (by omega)]
theorem IH (C:Nat):(List.replicate C [iv 0]).flatten=(en C []).map iv++[]:=by
 have:en C []=List.replicate C 0:=by
  unfold en;apply List.ext_getElem?;intro j;by_cases hj:j<C
  ·rw[qK,List.getElem?_range hj,List.getElem?_replicate,if_pos hj];simp
  ·rw[qe (by simp;omega),qe (by simp;omega)]
 rw[this,qG]
 induction C with
 | zero=>rfl
 | succ n ih =>
  rw[List.replicate_succ,List.flatten_cons,List.replicate_succ,qx,List.singleton_append];congr 1;apply ih;unfold en;apply List.ext_getElem?;intro j;by_cases hj:j<n
  ·rw[qK,List.getElem?_range hj,List.getElem?_replicate,if_pos hj];simp
  ·rw[qe (by simp;omega),qe (by simp;omega)]
theorem Hz {H:Hp} {b m:Nat} {l:List Int} {sp:List Value} (h:H b=some (l.map iv++sp).toArray) (hm:l.length=m):IL H (.slice (some ⟨b,0,none⟩) m m) l:=by
 subst hm;refine⟨by simp,.inr ⟨b,0,l.length,_,rfl,qH _,h,fun j x hj=>?_⟩⟩;rw[qu];have hl:=(qE.1 hj).1;rw[List.getElem?_toArray,qM hl];exact hj
theorem znD {H:Hp} {v:Value} {rs:List Int} (hr:IL H v rs) (hn:rs.length<=300) {va:Option Addr} {vc:Nat} {la:Option Addr} {lc:Nat} {ls:List Int} (hv:IL H (.slice la ls.length lc) ls) {C:Nat} (hc:1<=C/\C<=12) (h0:1<=ls.length) (h1:ls.length<=300) (dE:∀z,z∈ls->0<=z/\z<(C:Int)) :
  PC prog 160 #[bG 1 C (.slice la ls.length lc) (.slice va 0 vc),v] H fun r H'=>IL H' r (en C (atI ls (exL rs ls.length))):=by
 have fl:=L4 (va:=va) (vc:=vc) hv (cl:=(C:Int)) oM h0 h1 dE;have jl:=kU rs ls.length;have mm:=uf (rs:=rs) (n:=ls.length);have hex:=Eh hr oM ls.length;generalize exL rs ls.length=es at *
 obtain⟨a,cap,rfl⟩:=SlC.val hr;refine BD func160 ntmps160 ?_
 repeat (first|refine RUN ?_|refine CV (fl) ?_|refine CE (fl) ?_)
 refine EVL.make tO Z Z Z Z Z Z Z Z Z (C) (rfl) oM (by rfl) (by rfl) fun b=>?_;refine uR ?_;refine vA (hex) ?_;intro r1 G1 he aj;obtain⟨ea,ec,rfl⟩:=SlC.val he;(first|refine EVL.swapOw ([(b,3,(en C (atI ls (es.take 0))).map iv++[])]) ([]) ((by rw[show atI ls (es.take 0)=[] from rfl,<-IH];rfl)) ?_|refine EV.swapOw ([(b,3,(en C (atI ls (es.take 0))).map iv++[])]) ([]) ((by rw[show atI ls (es.take 0)=[] from rfl,<-IH];rfl)) ?_);refine uR ?_;refine EV.loopK (ι:=Nat) [2,5,23,24] [2] (fun i=>[(25,.v (.int .i64 (i:Int)))]) (fun _=>[]) (fun i=>[(b,3,(en C (atI ls (es.take i))).map iv++[])]) (fun i _=>i<=es.length) (fun i=>es.length-i) (0) Z Z ⟨Z,trivial⟩ trivial rfl (fun _=>rfl) (qQ _) ?_;rintro i G2 ai hi;refine uR ?_;refine EV.cond Z (fun af=>?_) (fun af=>?_)
 ·simp only[nN]at af;obtain⟨r,bB⟩:=gE af;have hb:=mm r (qF bB);obtain⟨R,rfl⟩:=qh hb.1;obtain⟨x,hx⟩:∃x,ls[R]?=some x:=⟨_,qA oM⟩;have iF:R<ls.length:=oM;have mM:=dE x (qF hx);obtain⟨k,rfl⟩:=qh mM.1;have hk:k<C:=oM
  have fk:atI ls (es.take (i+1))=atI ls (es.take i)++[(k:Int)]:=by
   rw[dZ bB];unfold atI;rw[qo,qx,qU,qB,hx];rfl
  have cj:(atI ls (es.take i)).count (k:Int)<=300:=qI List.count_le_length (by rw[pV,qP];omega);have dK:=B8 (C:=C) (atI ls (es.take i)) hk;have oW:=TJ (C:=C) (atI ls (es.take i)) hk;rw[<-fk]at oW;have hlen:=om C (atI ls (es.take i));generalize en C (atI ls (es.take i))=cs at *
  generalize (atI ls (es.take i)).count (k:Int)=m at *
  have wm:IntKind.i64.wrap ((m:Int)+1)=((m+1:Nat):Int):=aO m oM;refine uR ?_;refine vI ((he.mono ai)) (i) (rfl) (af) ((by rw[qK,bB];rfl)) ?_;refine uR ?_;refine vI ((hv.mono (aj.trans ai))) (R) (rfl) (iF) ((by rw[qK,hx];rfl)) ?_;refine uR ?_;refine EVL.idxB tO Z Z Z Z Z Z Z Z Z (k) (k*1) (rfl) (hk) (rfl) ?_;refine EVL.loadOwn tO Z Z Z Z Z Z (0) Z (x8 [] dK) Z Z ?_;refine uR ?_;rw[wm];refine EVL.idxB tO Z Z Z Z Z Z Z Z Z (k) (k*1) (rfl) (hk) (rfl) ?_;refine EVL.storeOwn tO Z Z Z Z Z Z ([]) ([]) Z Z Z Z ((by rw[qJ,qV,hlen];show k*1+1<=_;omega)) (B6 [] _ (show k<cs.length by omega)) ?_;refine uR ?_;refine⟨i+1,⟨by rw[aO i (by omega)];rfl,trivial⟩,sB,trivial,sB,by rw[oW];rfl,af,Hp.Le.refl _,by omega⟩
 ·simp only[nN]at af;obtain rfl:i=es.length:=oM;rw[qa];(first|refine EVL.publish [] [] Z fun G3 ax ei=>?_|refine EV.publish [] [] Z fun G3 ax ei=>?_);refine uR ?_;exact Hz ei (om _ _)
theorem Vb {H:Hp} {v:Value} {rs:List Int} (hr:IL H v rs) (hn:rs.length<=300) {kd:Int} {sv:Value} {la:Option Addr} {lc:Nat} {ls:List Int} (hv:IL H (.slice la ls.length lc) ls) {C:Nat} (hc:C<=12) (dE:∀z,z∈ls->0<=z/\z<(C:Int)) :
  PC prog 181 #[bG kd C (.slice la ls.length lc) sv,v] H fun r H'=>IL H' r (en C (atI ls (exL rs ls.length))):=by
 obtain⟨a,cap,rfl⟩:=SlC.val hr;refine BD func181 ntmps181 ?_;refine uR ?_;refine EVL.make tO Z Z Z Z Z Z Z Z Z (C) (rfl) oM (by rfl) (by rfl) fun b=>?_;(first|refine EVL.swapOw ([(b,3,(en C (atI ls (exL (rs.take 0) ls.length))).map iv++[])]) ([]) ((by rw[show atI ls (exL (rs.take 0) ls.length)=[] from rfl,<-IH];rfl)) ?_|refine EV.swapOw ([(b,3,(en C (atI ls (exL (rs.take 0) ls.length))).map iv++[])]) ([]) ((by rw[show atI ls (exL (rs.take 0) ls.length)=[] from rfl,<-IH];rfl)) ?_);refine uR ?_;refine EV.loopK (ι:=Nat) [1,2,5] [2] (fun i=>[(6,.v (.int .i64 (i:Int)))]) (fun _=>[]) (fun i=>[(b,3,(en C (atI ls (exL (rs.take i) ls.length))).map iv++[])]) (fun i _=>i<=rs.length) (fun i=>rs.length-i) (0) Z Z ⟨Z,trivial⟩ trivial rfl (fun _=>rfl) (qQ _) ?_;rintro i G2 ai hi;refine uR ?_;refine EV.cond Z (fun af=>?_) (fun af=>?_)
 ·simp only[nN]at af;obtain⟨r,bB⟩:=gE af;have hex:=B7 (n:=ls.length) bB;have jl:=kU (rs.take i) ls.length;rw[qP]at jl;have wn:IntKind.i64.wrap ((i:Int)+1)=((i+1:Nat):Int):=aO i oM;have bM:=hr.mono ai;refine uR ?_;by_cases h1:r>=0
  ·obtain⟨R,rfl⟩:=qh h1;apply EV.drawn 14 kR kR;intro xv yw;(repeat refine' DD ?_);refine' vJ (bM) (i) (rfl) (af) ((by rw[qK,bB];rfl)) ?_;rotate_left;(repeat refine' DD ?_);rw[qD h1];(repeat refine' DD ?_);refine' vJ (bM) (i) (rfl) (af) ((by rw[qK,bB];rfl)) ?_;rotate_left;(repeat refine' DD ?_);(refine DJ.nil (fun G3 ax fM=>?_);(case hS|hS2=>rfl));refine uR ?_;by_cases h2:(R:Int)<(ls.length:Int)
   ·have hp:inR ls.length (R:Int)=true:=by unfold inR;simp;omega
    rw[hp,if_pos rfl]at hex;have iF:R<ls.length:=oM;obtain⟨x,hx⟩:=gE iF;have mM:=dE x (qF hx);obtain⟨k,rfl⟩:=qh mM.1;have hk:k<C:=oM
    have fk:atI ls (exL (rs.take (i+1)) ls.length)=atI ls (exL (rs.take i) ls.length)++[(k:Int)]:=by
     rw[hex];unfold atI;rw[qo,qx,qU,qB,hx];rfl
    have cj:(atI ls (exL (rs.take i) ls.length)).count (k:Int)<=300:=qI List.count_le_length (by rw[pV];omega);have dK:=B8 (C:=C) (atI ls (exL (rs.take i) ls.length)) hk;have oW:=TJ (C:=C) (atI ls (exL (rs.take i) ls.length)) hk;rw[<-fk]at oW;have hlen:=om C (atI ls (exL (rs.take i) ls.length));generalize en C (atI ls (exL (rs.take i) ls.length))=cs at *
    generalize (atI ls (exL (rs.take i) ls.length)).count (k:Int)=m at *
    have wm:IntKind.i64.wrap ((m:Int)+1)=((m+1:Nat):Int):=aO m oM;have wM:=bM.mono ax;have rb:=hv.mono (ai.trans ax);rw[qD h2];refine uR ?_;apply EV.drawn 13 kR kR;intro xv yw;(repeat refine' DD ?_);refine' vJ (wM) (i) (rfl) (af) ((by rw[qK,bB];rfl)) ?_;rotate_left;(repeat refine' DD ?_);refine' vJ (rb) (R) (rfl) (iF) ((by rw[qK,hx];rfl)) ?_;rotate_left;(repeat refine' DD ?_);refine' DJ.idxB tO Z Z Z Z Z Z Z Z Z (k) (k*1) (rfl) (hk) (rfl) ?_;rotate_left;refine' DJ.ofVal (az.loadOwn tO Z Z Z Z (0) Z (x8 [] dK) Z Z) Z Z Z ?_;rotate_left;(repeat refine' DD ?_);refine' DJ.idxB tO Z Z Z Z Z Z Z Z Z (k) (k*1) (rfl) (hk) (rfl) ?_;rotate_left;(refine DJ.nil (fun G4 aT xF=>?_);(case hS|hS2=>rfl));rw[wm];refine EVL.storeOwn tO Z Z Z Z Z Z ([]) ([]) Z Z Z Z ((by rw[qJ,qV,hlen];show k*1+1<=_;omega)) (B6 [] _ (show k<cs.length by omega)) ?_;refine uR ?_;refine⟨i+1,⟨by rw[wn];rfl,trivial⟩,sB,trivial,sB,by rw[oW];rfl,af,ax.trans aT,by omega⟩
   ·have hp:inR ls.length (R:Int)=false:=by unfold inR;simp;omega
    rw[hp,if_neg (by decide),qG]at hex;rw[qC h2];refine uR ?_;refine⟨i+1,⟨by rw[wn];rfl,trivial⟩,sB,trivial,sB,by rw[hex],af,ax,by omega⟩
  ·have hp:inR ls.length r=false:=by unfold inR;simp;omega
   rw[hp,if_neg (by decide),qG]at hex;apply EV.drawn 14 kR kR;intro xv yw;(repeat refine' DD ?_);refine' vJ (bM) (i) (rfl) (af) ((by rw[qK,bB];rfl)) ?_;rotate_left;(repeat refine' DD ?_);rw[qC h1];(repeat refine' DD ?_);(refine DJ.nil (fun G3 ax fM=>?_);(case hS|hS2=>rfl));refine uR ?_;refine⟨i+1,⟨by rw[wn];rfl,trivial⟩,sB,trivial,sB,by rw[hex],af,ax,by omega⟩
 ·simp only[nN]at af;obtain rfl:i=rs.length:=oM;rw[qa];(first|refine EVL.publish [] [] Z fun G3 ax ei=>?_|refine EV.publish [] [] Z fun G3 ax ei=>?_);refine uR ?_;exact Hz ei (om _ _)
def topN (l:List Int):Nat->Nat
 | 0=>0
 | i+1=>if l.getD (topN l i) 0<l.getD i 0 then i else topN l i
theorem Ij (l:List Int):∀i,topN l i<i\/topN l i=0
 | 0=>.inr rfl
 | i+1=>by
  unfold topN;split
  ·exact .inl (Nat.lt_succ_self _)
  ·rcases Ij l i with h | h
   ·exact .inl oM
   ·exact .inr h
theorem Sk (l:List Int):topN l 1=0:=by
 unfold topN topN;rw[if_neg (by omega)]
theorem Cc {l:List Int} {i:Nat} (h:i<l.length):l[i]?=some (l.getD i 0):=by
 rw[qB,qA h];rfl
theorem zp7 {H:Hp} {v:Value} {l:List Int} (hr:IL H v l) (hn:l.length<=300):PC prog 182 #[v] H fun r _=>r=.int .i64 (topN l l.length:Nat):=by
 obtain⟨a,cap,rfl⟩:=SlC.val hr;refine BD func182 ntmps182 ?_;refine uR ?_;refine EV.loopK (ι:=Nat) [0] [] (fun i=>[(3,.v (.int .i64 (topN l (i+1):Nat))),(4,.v (.int .i64 ((i+1:Nat):Int)))]) (fun _=>[]) (fun _=>[]) (fun i _=>i<=l.length-1) (fun i=>l.length-i) (0) Z Z ⟨by rw[Sk];rfl,rfl,trivial⟩ trivial rfl (fun _=>rfl) (qQ _) ?_;rintro i G2 ai hi;refine uR ?_;refine EV.cond Z (fun af=>?_) (fun af=>?_)
 ·simp only[nN]at af;have bM:=hr.mono ai;have ht:=Ij l (i+1);have hZ:topN l (i+1)<l.length:=oM;have g1:=Cc af;have g2:=Cc hZ;have aK:topN l (i+1+1)=if l.getD (topN l (i+1)) 0<l.getD (i+1) 0 then i+1 else topN l (i+1):=rfl
  have wn:IntKind.i64.wrap (((i+1:Nat):Int)+1)=((i+1+1:Nat):Int):=aO (i+1) oM;generalize topN l (i+1)=tp at *
  generalize l.getD tp 0=x at *
  generalize l.getD (i+1) 0=y at *
  refine uR ?_;apply EV.drawn 8 kR kR;intro xv yw;(repeat refine' DD ?_);refine' vJ (bM) (i+1) (rfl) (af) ((by rw[qK,g1];rfl)) ?_;rotate_left;(repeat refine' DD ?_);refine' vJ (bM) (tp) (rfl) (hZ) ((by rw[qK,g2];rfl)) ?_;rotate_left;(repeat refine' DD ?_);(refine DJ.nil (fun G3 ax fM=>?_);(case hS|hS2=>rfl));refine uR ?_;by_cases h:y>x
  ·rw[qD h];rw[if_pos h]at aK;refine uR ?_;refine⟨i+1,⟨by rw[aK];rfl,by rw[wn];rfl,trivial⟩,sB,trivial,sB,rfl,by omega,ax,by omega⟩
  ·rw[qC h];rw[if_neg h]at aK;refine uR ?_;refine⟨i+1,⟨by rw[aK];rfl,by rw[wn];rfl,trivial⟩,sB,trivial,sB,rfl,by omega,ax,by omega⟩
 ·simp only[nN]at af
  have bn:topN l (i+1)=topN l l.length:=by
   by_cases h0:l.length=0
   ·obtain rfl:i=0:=oM;rw[Sk,h0];rfl
   ·rw[show i+1=l.length by omega]
  rw[bn];refine uR ?_;rfl
theorem Sj {H:Hp} {g v w:Value} {l:List Int} (hg:∃kd cl sl sv,g=bG kd cl sl sv) (hc:PC prog 160 #[g,v] H fun r H'=>IL H' r l) (hn:l.length<=300):PC prog 157 #[g,v] H fun r _=>r=.int .i64 (topN l l.length:Nat):=by
 obtain⟨kd,cl,sl,sv,rfl⟩:=hg;refine BD func157 ntmps157 ?_;refine uR ?_;refine vA (hc) ?_;intro r1 G1 hr aj;obtain⟨a,cap,rfl⟩:=SlC.val hr;refine uR ?_;refine EV.loopK (ι:=Nat) [6,12,13] [] (fun i=>[(5,.v (.int .i64 (topN l i:Nat))),(14,.v (.int .i64 (i:Int)))]) (fun _=>[]) (fun _=>[]) (fun i _=>i<=l.length) (fun i=>l.length-i) (0) Z Z ⟨Z,Z,trivial⟩ trivial rfl (fun _=>rfl) (qQ _) ?_;rintro i G2 ai hi;refine uR ?_;refine EV.cond Z (fun af=>?_) (fun af=>?_)
 ·simp only[nN]at af;have bM:=hr.mono ai;have ht:=Ij l i;have hZ:topN l i<l.length:=oM;have g1:=Cc af;have g2:=Cc hZ;have aK:topN l (i+1)=if l.getD (topN l i) 0<l.getD i 0 then i else topN l i:=rfl
  have wn:IntKind.i64.wrap ((i:Int)+1)=((i+1:Nat):Int):=aO i oM;generalize topN l i=tp at *
  generalize l.getD tp 0=x at *
  generalize l.getD i 0=y at *
  refine uR ?_;refine vI (bM) (i) (rfl) (af) ((by rw[qK,g1];rfl)) ?_;refine uR ?_;refine vI (bM) (tp) (rfl) (hZ) ((by rw[qK,g2];rfl)) ?_;refine uR ?_;by_cases h:y>x
  ·rw[qD h];rw[if_pos h]at aK;refine uR ?_;refine⟨i+1,⟨by rw[aK];rfl,by rw[wn];rfl,trivial⟩,sB,trivial,sB,rfl,by omega,Hp.Le.refl _,by omega⟩
  ·rw[qC h];rw[if_neg h]at aK;refine uR ?_;refine⟨i+1,⟨by rw[aK];rfl,by rw[wn];rfl,trivial⟩,sB,trivial,sB,rfl,by omega,Hp.Le.refl _,by omega⟩
 ·simp only[nN]at af;obtain rfl:i=l.length:=oM;refine uR ?_;rfl
theorem znE {H:Hp} {v:Value} {va:Option Addr} {vn vc:Nat} {la:Option Addr} {lc:Nat} (h0:1<=vn) (h1:vn<=300):PC prog 160 #[bG 2 0 (.slice la 0 lc) (.slice va vn vc),v] H fun r H'=>IL H' r []:=by
 have fl:=I2 (va:=va) (vc:=vc) (la:=la) (lc:=lc) h0 h1;refine BD func160 ntmps160 ?_;refine uR ?_;exact⟨rfl,.inl ⟨rfl,_,_,rfl⟩⟩
theorem zr7 {H:Hp} {v:Value} {l:List Rat} (h:QL H v l) (hl:l.length<=12) (hb:∀q,q∈l->sm q):PC prog 70 #[v] H fun r H'=>QL H' r (gw l) :=
 (YS h hl hb).mono fun r H' ⟨m,hm,hp,hr⟩ _=>IK hp hr ▸ hm
end
section
theorem wq {α:Type} (l:List α) (j:Nat) (y:α):(aV l j y).length=l.length+1:=by rw[(vV l j y).length_eq,qJ];rfl
theorem zu0 {α:Type} {l:List α} {j:Nat} {y:α} (h:j<=l.length):(aV l j y)[j]?=some y:=by
 have:(l.take j).length=j:=by rw[qP];omega
 unfold aV;rw[qL oM,this,Nat.sub_self];rfl
theorem Vc {α:Type} {l:List α} {j:Nat} {y z:α} (h:l[j]?=some z):(aV l (j+1) y)[j]?=some z:=by
 obtain⟨hl,_⟩:=qE.1 h;unfold aV;rw[qM (by rw[qP];omega),List.getElem?_take_of_lt oM,h]
theorem zn8 {α:Type} {l:List α} {j:Nat} {y z:α} (h:l[j]?=some z):(aV l (j+1) y).set (j+1) z=aV l j z:=by
 obtain⟨hl,hz⟩:=qE.1 h;have:(l.take (j+1)).length=j+1:=by rw[qP];omega
 unfold aV;rw[List.set_append_right _ _ oM,this,Nat.sub_self,List.set_cons_zero,qS hl,hz,qp hl,hz];simp
theorem Uw {α:Type} {l:List α} {j:Nat} {y z:α} (h:j<=l.length):(aV l j y).set j z=aV l j z:=by
 have:(l.take j).length=j:=by rw[qP];omega
 unfold aV;rw[List.set_append_right _ _ oM,this,Nat.sub_self,List.set_cons_zero]
theorem zpX {α:Type} (l:List α) (y:α):aV l l.length y=l++[y]:=by unfold aV;rw[qa,List.drop_length]
theorem zpZ {α:Type} {l:List α} {j:Nat} {y z:α} (h:z∈aV l j y):z=y\/z∈l:=by
 have:=(vV l j y).mem_iff.1 h;rcases List.mem_append.1 this with h | h
 ·exact .inr h
 ·exact .inl (pK.1 h)
end
section
open Go.RowKit _root_.Go.Proofs.Tryz
theorem RVs.put {H:Hp} {vs:List Value} {l:List Rat} {x:Value} {q:Rat} {j:Nat} (h:RVs H vs l) (k:RQ H x q) (hj:j<=l.length):RVs H (aV vs j x) (aV l j q):=by
 have h1:=h.1;refine⟨by rw[wq,wq,h1],fun i y r e1 e2=>?_⟩;have t1:(vs.take j).length=j:=by rw[qP];omega
 have t2:(l.take j).length=j:=by rw[qP];omega
 unfold aV at e1 e2;rw[List.getElem?_append,t1]at e1;rw[List.getElem?_append,t2]at e2;by_cases hi:i<j
 ·rw[if_pos hi,List.getElem?_take_of_lt hi]at e1 e2;exact h.2 i y r e1 e2
 ·rw[if_neg hi]at e1 e2
  cases hk:i-j with
  | zero=>rw[hk]at e1 e2;simp at e1 e2;subst e1;subst e2;exact k
  | succ m =>
   rw[hk,pM,List.getElem?_drop]at e1 e2;exact h.2 _ y r e1 e2
theorem RVs.three {H:Hp} {vs:List Value} {l:List Rat} (h:RVs H vs l):∀x,x∈vs->(aB x).length=3:=fun x hx=>by
 obtain⟨i,hi,rfl⟩:=List.getElem_of_mem hx;have:=h.1;exact(h.2 i _ _ (qA hi) (qA oM)).cells.1
theorem RVs.at {H:Hp} {vs:List Value} {l:List Rat} (h:RVs H vs l) {j:Nat} {q:Rat} (hj:l[j]?=some q):∃x,vs[j]?=some x/\RQ H x q:=by
 obtain⟨hl,rfl⟩:=qE.1 hj;have h1:=h.1;exact⟨_,qA oM,h.2 j _ _ (qA oM) (qA hl)⟩
theorem wh {vs:List Value} {j:Nat} {y:Value} (h:∀x,x∈vs->(aB x).length=3) (hy:(aB y).length=3):∀x,x∈aV vs j y->(aB x).length=3:=fun x hx=>by
 rcases zpZ hx with rfl | hx
 ·exact hy
 ·exact h x hx
theorem IJ {vs:List Value} (h:∀x,x∈vs->(aB x).length=3):(vs.flatMap aB).length=vs.length*3:=flat_len _ 3 vs h
theorem RR {T:TypeId} {b cap i j:Nat} {vs:List Value} {x:Value} {sp:List Value} {k:Nat} (hv:∀x,x∈vs->(aB x).length=3) (eQ:vs.length=i) (hx:(aB x).length=3) (hk:k+sp.length=cap*3) (ez:k=(i+1)*3) (h1:i+1<=cap) (h2:cap<=maxLen) :
  aF T 3 (.slice (some ⟨b,0,none⟩) (i+1) cap) (i+1) ((aV vs j x).flatMap aB) [(b,T,(aV vs j x).flatMap aB++sp)]:=by
 have hl:((aV vs j x).flatMap aB).length=(i+1)*3:=by rw[IJ (wh hv hx),wq,eQ]
 exact⟨hl,.inr ⟨b,cap,sp,rfl,rfl,by rw[qJ,hl];omega,h1,h2⟩⟩
theorem T3 {H:Hp} {v:Value} {l:List Rat} (h:RL H v l) (hl:l.length<=1000) (hb:∀q,q∈l->rq q):PC prog 91 #[v] H fun r H'=>RL H' r (gw l):=by
 obtain⟨a,cap,rfl⟩:=RL.val h;refine BD func91 ntmps91 ?_;refine uR ?_;refine EV.loopK (ι:=Nat × List Value × List Rat × Value × Ows) [0] [] (fun q=>[(3,.v q.2.2.2.1),(4,.v (.int .i64 (q.1:Int)))]) (fun _=>[]) (fun q=>q.2.2.2.2) (fun q G=>q.1<=l.length/\RVs G q.2.1 q.2.2.1/\q.2.2.1.Perm (l.take q.1)/\jQ q.2.2.1/\aF 33 3 q.2.2.2.1 q.1 (q.2.1.flatMap aB) q.2.2.2.2) (fun q=>l.length-q.1) ((0,[],[],.slice none 0 0,[])) Z Z ⟨Z,Z,trivial⟩ trivial rfl (fun _=>rfl) (⟨qQ _,RVs.nil _,List.Perm.refl _,List.Pairwise.nil,aF.nil _ _⟩) ?_;rintro⟨i,vs,acc,w,ow⟩ G1 aj ⟨hi,aG,bU,cT,ah⟩;dsimp only at hi aG bU cT ah;have bH:acc.length=i:=by rw[bU.length_eq,qP];omega
 have eQ:vs.length=i:=by rw[aG.1,bH]
 have ja:=aG.three;obtain⟨wa,wc,rfl⟩:=ah.val;refine uR ?_;refine EV.cond Z (fun af=>?_) (fun af=>?_)
 ·simp only[nN]at af;obtain⟨q,dR⟩:=gE af;obtain⟨us,x,bA,hc,hx⟩:=(h.mono aj).at dR;obtain⟨xa,xl,xc,ya,yl,yc,rfl,gA,gZ⟩:=id hx;have qq:=hb q (qF dR);have MZ:∀y,y∈acc->rq y:=fun y hy=>hb y (List.mem_of_mem_take (bU.mem_iff.1 hy));refine uR ?_;refine EVL.idxM tO Z Z Z Z Z Z Z Z Z (bA) (i) (rfl) (af) (hc) ?_;refine uR ?_;refine EVL.app1 tO Z Z Z Z Z Z Z Z Z Z Z Z Z Z Z Z Z Z Z (fun _=>rfl) (ow) ([]) ((qG _).symm) (ah) oM fun _=>?_;intro v' au ao;have e:=zpX vs (.agg #[.bool (decide (q.num<0)),.slice xa xl xc,.slice ya yl yc]);rw[eQ]at e
  have aD:aF 33 3 v' (i+1) ((aV vs i (.agg #[.bool (decide (q.num<0)),.slice xa xl xc,.slice ya yl yc])).flatMap aB) au:=by
   rw[e,List.flatMap_append];exact ao
  clear ao ah e;generalize hX:Value.agg #[.bool (decide (q.num<0)),.slice xa xl xc,.slice ya yl yc]=x at *
  have hx3:(aB x).length=3:=hX ▸ rfl;rcases aD with ⟨ez,⟨_,h0,_⟩ | ⟨b,bz,sp,rfl,rfl,hk,eA,cM⟩⟩
  ·omega
  rw[qJ]at hk;generalize ((aV vs i x).flatMap aB).length=k at hk ez
  have sA:∀j,(aV acc j q).Perm (l.take (i+1)):=fun j=>by
   rw[dZ dR];exact(vV acc j q).trans (bU.append_right [q])
  subst hX;refine uR ?_;refine EV.loopK (ι:=Nat × Value) [0,3,4] [] (fun p=>[(5,.v (.int .i64 (p.1:Int)))]) (fun _=>[]) (fun p=>[(b,33,(aV vs p.1 p.2).flatMap aB++sp)]) (fun p _=>p.1<=i/\(aB p.2).length=3/\∀y,y∈acc.drop p.1->q<=y) (fun p=>p.1) ((i,_)) Z Z ⟨Z,trivial⟩ trivial rfl (fun _=>rfl) (⟨qH _,rfl,by rw[<-bH,List.drop_length];intro y hy;cases hy⟩) ?_;rintro⟨j,y⟩ G2 ai ⟨hj,hy,cK⟩;dsimp only at hj hy cK;have rZ:=bA.mono ai
  cases j with
  | zero =>
   refine uR ?_;apply EV.drawn 15 kR kR;intro xv yw;(repeat refine' DD ?_);(refine DJ.nil (fun G3 ax fM=>?_);(case hS|hS2=>rfl));refine uR ?_;have ak:0<(aV vs (0) y).length:=by rw[wq];omega
   refine EVL.idxM tO Z Z Z Z Z Z Z Z Z ((rZ.mono ax)) (i) (rfl) (af) (hc) ?_;refine uR ?_;refine EVL.idxB tO Z Z Z Z Z Z Z Z Z (0) ((0)*3) (rfl) (oM) (rfl) ?_;refine EVL.storeOwn tO Z Z Z Z Z Z ([]) ([]) Z Z Z Z ((by rw[qJ,IJ (wh ja hy),wq,eQ];show (0)*3+3<=_;omega)) ((Eb (wh ja hy) sp (.agg #[.bool (decide (q.num<0)),.slice xa xl xc,.slice ya yl yc]) ak)) ?_;rw[Uw (by omega)];refine uR ?_;refine⟨(i+1,aV vs (0) (.agg #[.bool (decide (q.num<0)),.slice xa xl xc,.slice ya yl yc]),aV acc (0) q,.slice (some ⟨b,0,none⟩) (i+1) bz,[(b,33,(aV vs (0) (.agg #[.bool (decide (q.num<0)),.slice xa xl xc,.slice ya yl yc])).flatMap aB++sp)]),⟨rfl,?_,trivial⟩,sB,trivial,trivial,rfl,⟨by dsimp only;omega,(aG.mono (ai.trans ax)).put ((hx.mono ai).mono ax) oM,sA _,Ea cT (by intro y hy;rw[List.take_zero]at hy;cases hy) cK,RR ja eQ rfl hk ez eA cM⟩,ai.trans ax,by dsimp only;omega⟩;rw[aO i (by omega)];rfl
  | succ j =>
   obtain⟨r,CO⟩:∃r,acc[j]?=some r:=⟨_,qA oM⟩;obtain⟨z,Ni,hz⟩:=(aG.mono ai).at CO;obtain⟨za,zl,zc,Ae,Vk,Ad,rfl,fC,iY⟩:=id hz;have qr:=MZ r (qF CO);have aS:=fun G (hG:G2.Le G)=>kz (hz.mono hG) ((hx.mono ai).mono hG) qr qq
   have hgt:bI r q>0->q<=r:=fun h=>by
    unfold bI at h;split at h
    ·omega
    ·split at h
     ·exact Rat.le_of_lt (by assumption)
     ·omega
   have hle:¬bI r q>0->r<=q:=fun h=>by
    unfold bI at h;split at h
    ·exact Rat.le_of_lt (by assumption)
    ·split at h
     ·omega
     ·rename_i k1 k2;exact Rat.not_lt.1 k2
   generalize bI r q=o at *
   refine uR ?_;apply EV.drawn 15 kR kR;intro xv yw;(repeat refine' DD ?_);rw[qD (show ((j+1:Nat):Int)>0 by omega)];(repeat refine' DD ?_);refine' DJ.idxB tO Z Z Z Z Z Z Z Z Z (j) (j*3) ((by rw[pL];omega)) (oM) (rfl) ?_;rotate_left;refine' DJ.ofVal (az.loadOwn tO Z Z Z Z (0) Z (MO (wh ja hy) sp (Vc Ni)) Z Z) Z Z Z ?_;rotate_left;(repeat refine' DD ?_);refine' DJ.idxM tO Z Z Z Z Z Z Z Z Z (rZ) (i) (rfl) (af) (hc) ?_;rotate_left;(repeat refine' DD ?_);refine' vC (cO func53) (fun G hG hd=>aS G hG) ?_;rotate_left;(repeat refine' DD ?_);(refine DJ.nil (fun G3 ax fM=>?_);(case hS|hS2=>rfl));refine uR ?_;by_cases ho:o>0
   ·rw[qD ho];refine uR ?_;refine EVL.idxB tO Z Z Z Z Z Z Z Z Z (j) (j*3) ((by rw[pL];omega)) (oM) (rfl) ?_;refine EVL.loadOwn tO Z Z Z Z Z Z (0) Z (MO (wh ja hy) sp (Vc Ni)) Z Z ?_;refine uR ?_;refine EVL.idxB tO Z Z Z Z Z Z Z Z Z (j+1) ((j+1)*3) (rfl) (oM) (rfl) ?_;refine EVL.storeOwn tO Z Z Z Z Z Z ([]) ([]) Z Z Z Z ((by rw[qJ,IJ (wh ja hy),wq,eQ];show (j+1)*3+3<=_;omega)) ((Eb (wh ja hy) sp (.agg #[.bool (decide (r.num<0)),.slice za zl zc,.slice Ae Vk Ad]) (by rw[wq];omega))) ?_;rw[zn8 Ni];refine uR ?_;refine⟨(j,.agg #[.bool (decide (r.num<0)),.slice za zl zc,.slice Ae Vk Ad]),⟨?_,trivial⟩,sB,trivial,trivial,rfl,⟨by dsimp only;omega,rfl,?_⟩,ax,by dsimp only;omega⟩
    ·rw[show IntKind.i64.wrap (((j+1:Nat):Int)-1)=(j:Int) by rw[pL];omega];rfl
    ·intro z' hz';dsimp only at hz';rw[Ik CO]at hz';rcases List.mem_cons.1 hz' with rfl | hz'
     ·exact hgt ho
     ·exact cK z' hz'
   ·rw[qC ho];refine uR ?_;have ak:j+1<(aV vs (j+1) y).length:=by rw[wq];omega
    refine EVL.idxM tO Z Z Z Z Z Z Z Z Z ((rZ.mono ax)) (i) (rfl) (af) (hc) ?_;refine uR ?_;refine EVL.idxB tO Z Z Z Z Z Z Z Z Z (j+1) ((j+1)*3) (rfl) (oM) (rfl) ?_;refine EVL.storeOwn tO Z Z Z Z Z Z ([]) ([]) Z Z Z Z ((by rw[qJ,IJ (wh ja hy),wq,eQ];show (j+1)*3+3<=_;omega)) ((Eb (wh ja hy) sp (.agg #[.bool (decide (q.num<0)),.slice xa xl xc,.slice ya yl yc]) ak)) ?_;rw[Uw (by omega)];refine uR ?_;refine⟨(i+1,aV vs (j+1) (.agg #[.bool (decide (q.num<0)),.slice xa xl xc,.slice ya yl yc]),aV acc (j+1) q,.slice (some ⟨b,0,none⟩) (i+1) bz,[(b,33,(aV vs (j+1) (.agg #[.bool (decide (q.num<0)),.slice xa xl xc,.slice ya yl yc])).flatMap aB++sp)]),⟨rfl,?_,trivial⟩,sB,trivial,trivial,rfl,⟨by dsimp only;omega,(aG.mono (ai.trans ax)).put ((hx.mono ai).mono ax) oM,sA _,Ea cT (MA cT CO (hle ho)) cK,RR ja eQ rfl hk ez eA cM⟩,ai.trans ax,by dsimp only;omega⟩;rw[aO i (by omega)];rfl
 ·simp only[nN]at af;obtain rfl:i=l.length:=oM;rw[qa]at bU;(first|refine EVL.publishL [] ow [] ((qG _).symm) ah fun G2 ai hs=>?_|refine EV.publishL [] ow [] ((qG _).symm) ah fun G2 ai hs=>?_);refine uR ?_;rw[<-IK bU cT];exact(aG.mono ai).rl (by rw[bH];exact hs)
theorem ZC {vals:List Rat} {rs:List Int} {i:Nat} {R:Nat} {x:Rat} (bB:rs[i]?=some (R:Int)) (hx:vals[R]?=some x):atR vals (exL (rs.take (i+1)) vals.length)=atR vals (exL (rs.take i) vals.length)++[x]:=by
 obtain⟨hl,_⟩:=qE.1 hx;have hex:=B7 (n:=vals.length) bB;have hp:inR vals.length (R:Int)=true:=by unfold inR;simp;omega
 rw[hp,if_pos rfl]at hex;rw[hex];unfold atR;rw[qo,qx,qU,qB,hx];rfl
theorem U8 {H:Hp} {v:Value} {rs:List Int} (hr:IL H v rs) (hn:rs.length<=300) {kd cl:Int} {sl sv:Value} {qs:List Rat} (hv:RL H sv qs) :
  PC prog 215 #[bG kd cl sl sv,v] H fun r H'=>RL H' r (atR qs (exL rs qs.length)):=by
 obtain⟨a,cap,rfl⟩:=SlC.val hr;obtain⟨va,vc,rfl⟩:=hv.val;refine BD func215 ntmps215 ?_;refine uR ?_;refine EV.loopK (ι:=Nat × List Value × Value × Ows) [1,2] [2] (fun q=>[(5,.v q.2.2.1),(6,.v (.int .i64 (q.1:Int)))]) (fun _=>[]) (fun q=>q.2.2.2) (fun q G=>q.1<=rs.length/\RVs G q.2.1 (atR qs (exL (rs.take q.1) qs.length))/\aF 33 3 q.2.2.1 q.2.1.length (q.2.1.flatMap aB) q.2.2.2) (fun q=>rs.length-q.1) ((0,[],.slice none 0 0,[])) Z Z ⟨Z,Z,trivial⟩ trivial rfl (fun _=>rfl) (⟨qQ _,RVs.nil _,aF.nil _ _⟩) ?_;rintro⟨i,us,w,ow⟩ G2 ai ⟨hi,fX,ah⟩;dsimp only at hi fX ah;obtain⟨wa,wc,rfl⟩:=ah.val;refine uR ?_;refine EV.cond Z (fun af=>?_) (fun af=>?_)
 ·simp only[nN]at af;obtain⟨r,bB⟩:=gE af;have hex:=B7 (n:=qs.length) bB;have jl:=kU (rs.take i) qs.length;rw[qP]at jl;have VL:us.length<=i:=by rw[fX.1,lY];omega
  have wn:IntKind.i64.wrap ((i:Int)+1)=((i+1:Nat):Int):=aO i oM;have bM:=hr.mono ai;refine uR ?_;by_cases h1:r>=0
  ·obtain⟨R,rfl⟩:=qh h1;apply EV.drawn 14 kR kR;intro xv yw;(repeat refine' DD ?_);refine' vJ (bM) (i) (rfl) (af) ((by rw[qK,bB];rfl)) ?_;rotate_left;(repeat refine' DD ?_);rw[qD h1];(repeat refine' DD ?_);refine' vJ (bM) (i) (rfl) (af) ((by rw[qK,bB];rfl)) ?_;rotate_left;(repeat refine' DD ?_);(refine DJ.nil (fun G3 ax fM=>?_);(case hS|hS2=>rfl));refine uR ?_;by_cases h2:(R:Int)<(qs.length:Int)
   ·have iF:R<qs.length:=oM;obtain⟨x,hx⟩:=gE iF;have fk:=ZC bB hx;have wM:=bM.mono ax;obtain⟨vs,y,hs,hc,hy⟩:=(hv.mono (ai.trans ax)).at hx;obtain⟨xa,xl,xc,ya,yl,yc,rfl,gA,gZ⟩:=id hy;rw[qD h2];refine uR ?_;apply EV.drawn 10 kR kR;intro xv yw;(repeat refine' DD ?_);refine' vJ (wM) (i) (rfl) (af) ((by rw[qK,bB];rfl)) ?_;rotate_left;(repeat refine' DD ?_);refine' DJ.idxM tO Z Z Z Z Z Z Z Z Z (hs) (R) (rfl) (iF) (hc) ?_;rotate_left;(repeat refine' DD ?_);(refine' DJ.lit tO Z Z Z Z Z Z Z Z Z Z Z Z ?_;rotate_left);(refine DJ.nil (fun G4 aT xF=>?_);(case hS|hS2=>rfl));refine EVL.append tO Z Z Z Z Z Z Z Z Z Z Z Z [] ow [] (qG _).symm ah (iJ.ro xF.1 oM) Z oM ?_;intro v' au ao;refine uR ?_;refine⟨(i+1,us++[_],v',au),⟨rfl,by rw[wn];rfl,trivial⟩,sB,trivial,sB,qG _,⟨af,by dsimp only;rw[fk];exact(fX.mono (ax.trans aT)).snoc (hy.mono aT),by dsimp only;rw[qJ,List.flatMap_append];exact ao⟩,ax.trans aT,by dsimp only;omega⟩
   ·have hp:inR qs.length (R:Int)=false:=by unfold inR;simp;omega
    rw[hp,if_neg (by decide),qG]at hex;rw[qC h2];refine uR ?_;refine⟨(i+1,us,_,ow),⟨rfl,by rw[wn];rfl,trivial⟩,sB,trivial,sB,rfl,⟨af,by dsimp only;rw[hex];exact fX.mono ax,ah⟩,ax,by dsimp only;omega⟩
  ·have hp:inR qs.length r=false:=by unfold inR;simp;omega
   rw[hp,if_neg (by decide),qG]at hex;apply EV.drawn 14 kR kR;intro xv yw;(repeat refine' DD ?_);refine' vJ (bM) (i) (rfl) (af) ((by rw[qK,bB];rfl)) ?_;rotate_left;(repeat refine' DD ?_);rw[qC h1];(repeat refine' DD ?_);(refine DJ.nil (fun G3 ax fM=>?_);(case hS|hS2=>rfl));refine uR ?_;refine⟨(i+1,us,_,ow),⟨rfl,by rw[wn];rfl,trivial⟩,sB,trivial,sB,rfl,⟨af,by dsimp only;rw[hex];exact fX.mono ax,ah⟩,ax,by dsimp only;omega⟩
 ·simp only[nN]at af;obtain rfl:i=rs.length:=oM;rw[qa]at fX;(first|refine EVL.publishL [] ow [] ((qG _).symm) ah fun G3 ax jA=>?_|refine EV.publishL [] ow [] ((qG _).symm) ah fun G3 ax jA=>?_);have rX:=fX.mono ax;refine uR ?_;show RL G3 (.slice wa us.length wc) _;rw[rX.1]at jA ⊢;exact rX.rl jA
theorem Uu {H:Hp} {v:Value} {rs:List Int} (hr:IL H v rs) (hn:rs.length<=300) {kd cl:Int} {sl sv:Value} {qs:List Rat} (hv:RL H sv qs) (hb:∀q,q∈qs->ht q<=100) :
  PC prog 183 #[bG kd cl sl sv,v] H fun r H'=>RQ H' r (fe (atR qs (exL rs qs.length))):=by
 have kZ:=U8 (kd:=kd) (cl:=cl) (sl:=sl) hr hn hv;have jl:=kU rs qs.length;have df:=fun q hq=>hb q (yt (uf (rs:=rs) (n:=qs.length)) q hq);have dc:(atR qs (exL rs qs.length)).length<=300:=by rw[lY];omega
 generalize atR qs (exL rs qs.length)=L at *
 obtain⟨a,cap,rfl⟩:=SlC.val hr;obtain⟨va,vc,rfl⟩:=hv.val;refine BD func183 ntmps183 ?_;refine uR ?_;refine vA (kZ) ?_;intro r1 G1 hL aj;obtain⟨la,lc,rfl⟩:=hL.val;refine uR ?_;by_cases h0:L.length=0
 ·obtain rfl:=pJ.1 h0;refine uR ?_;refine vA (ju 0 (by decide) (by decide)) ?_;intro r2 G2 hq ai;obtain⟨xa,xl,xc,ya,yl,yc,rfl,gA,gZ⟩:=id hq;refine uR ?_;rw[I5];exact hq
 ·rw[show (((L.length:Nat):Int) == 0)=false from pQ.2 (by omega)];refine uR ?_;refine EVL.call Z Z Z Z Z (T5 hL oM h0 (fun q hq=>qI (df q hq) oM)) ?_;intro r2 G2 hq ai;obtain⟨xa,xl,xc,ya,yl,yc,rfl,gA,gZ⟩:=id hq;refine uR ?_;exact hq
theorem zrS (z:Int):(kP z).den<=4:=by
 unfold kP;have jB:=Jd (z.tdiv 41 % 6).toNat
 generalize u7 (z.tdiv 41 % 6).toNat=d at *
 obtain⟨n,rfl⟩:=qh (show 0<=d by omega);have:n≠0:=oM;show (mkRat _ n).den<=4;rw[<-Rat.normalize_eq_mkRat this,Rat.normalize_eq];show n / _<=4;exact qI (Nat.div_le_self _ _) oM
theorem QO {H:Hp} (q:Rat) (hq:rq q) (a b:Int) (h1:-9223372036854775808<=a) (h2:a<9223372036854775808) (h3:-9223372036854775808<=b) (h4:b<9223372036854775808) (h0:b≠0) (he:q=Rat.divInt a b):PC prog 29 #[aC q,.int .i64 a,.int .i64 b] H fun r _=>r=.bool true:=by
 have cX:=fun G:Hp=>Cp (H:=G) a b h1 h2 h3 h4 h0;rw[<-he]at cX;refine BD func29 ntmps29 ?_;refine uR ?_;apply EV.drawn 4 kR kR;intro xv yw;(repeat refine' DD ?_);refine' vB (cO func19) (fun G hG hd=>cX G) (fun _ _ _ h k=>RQ.mono h k) ?_;rotate_left;(refine DJ.nil (fun G1 aj gV=>?_);(case hS|hS2=>rfl));have hs:=zqn gV.1 hq
 repeat (first|refine RUN ?_|refine CV (hs) ?_|refine CE (hs) ?_)
 rfl
theorem KW {a b:Rat} (h:a<=b):bI a b<=0:=by
 unfold bI;split
 ·omega
 ·split
  ·rename_i k;exact absurd k (Rat.not_lt.2 h)
  ·omega
theorem Y4 {l:List Int} (n:Nat):∀q,q∈lR l n->ht q<=5:=fun q hq=>by
 obtain⟨i,hi,rfl⟩:=List.mem_map.1 hq;split
 ·exact RH _
 ·rw[rK];omega
theorem Ta {l:List Int} {n w:Nat}:∀x,x∈oe l n w->x.length=w/\∀q,q∈x->ht q<=5:=fun x hx=>by
 obtain⟨i,_,rfl⟩:=List.mem_map.1 hx;exact⟨Ix _ _,Y4 w⟩
theorem DP {X:List (List Rat)} {B:Nat} (h:∀x,x∈X->∀q,q∈x->ht q<=B) (c r:Int) (hB:1<=B:=by omega):ht (bD X c r)<=B:=by
 unfold bD;rw[qB,qB]
 cases e:X[r.toNat]? with
 | none=>simp;rw[rK];omega
 | some x =>
  rw[Option.getD_some]
  cases e2:x[c.toNat]? with
  | none=>rw[Option.getD_none,rK];omega
  | some q=>exact h x (qF e) q (qF e2)
theorem zu9 {X:List (List Rat)} (h:∀x,x∈X->∀q,q∈x->ht q<=5) (c:Int) (m:List Int) (j:Nat):ht (fp (bD X c) m j)<=100:=by
 have h1:=DP h c (m.getD j 0);have h2:=DP h c (m.getD (j+1) 0);have h3:=pB (bD X c (m.getD j 0)) (bD X c (m.getD (j+1) 0))
 have h4:ht ((2:Int):Rat)<=10:=by
  have:=ie 2;have h2:bl (2:Int).natAbs<=5:=cf (by decide);omega
 have h5:=tY (bD X c (m.getD j 0)+bD X c (m.getD (j+1) 0)) ((2:Int):Rat);rw[show ((2:Int):Rat)=2 from rfl]at h4 h5;unfold fp;omega
theorem zpv {X:List (List Rat)} (h:∀x,x∈X->∀q,q∈x->ht q<=60) (c:Int) (m:List Int) (j:Nat):ht (fp (bD X c) m j)<=200:=by
 have h1:=DP h c (m.getD j 0);have h2:=DP h c (m.getD (j+1) 0);have h3:=pB (bD X c (m.getD j 0)) (bD X c (m.getD (j+1) 0))
 have h4:ht ((2:Int):Rat)<=10:=by
  have:=ie 2;have h2:bl (2:Int).natAbs<=5:=cf (by decide);omega
 have h5:=tY (bD X c (m.getD j 0)+bD X c (m.getD (j+1) 0)) ((2:Int):Rat);rw[show ((2:Int):Rat)=2 from rfl]at h4 h5;unfold fp;omega
theorem ZM (L:List Rat):aJ (iI L L)=aJ (eB 0 L):=by
 congr 1;unfold iI eB
 induction L with
 | nil=>rfl
 | cons x L ih =>
  rw[List.zipWith_cons_cons,qx,ih];congr 1;grind
theorem znC (L:List Rat):aJ (iI L L)-aJ L*aJ L / ((L.length:Int):Rat)=aJ (eB (fe L) L):=by
 have:=QI L;rw[ZM];grind
theorem zlY {H:Hp} {v:Value} {rs:List Int} (hr:IL H v rs) (hn:rs.length<=300) {cl:Int} {sl sv:Value} {qs:List Rat} (hv:RL H sv qs) (hb:∀q,q∈qs->ht q<=100) :
  PC prog 180 #[bG 2 cl sl sv,v] H fun r H'=>RQ H' r (B5 qs (exL rs qs.length)):=by
 have kZ:=U8 (kd:=2) (cl:=cl) (sl:=sl) hr hn hv;have jl:=kU rs qs.length;have df:=fun q hq=>hb q (yt (uf (rs:=rs) (n:=qs.length)) q hq);have dc:(atR qs (exL rs qs.length)).length<=300:=by rw[lY];omega
 show PC prog 180 #[bG 2 cl sl sv,v] H fun r H'=>RQ H' r (aJ (eB (fe (atR qs (exL rs qs.length))) (atR qs (exL rs qs.length))));generalize atR qs (exL rs qs.length)=L at *
 have sY:=znC L;have hS:=pF 100 L df;have hD:=pF 200 (iI L L) (KO df df);have hDl:(iI L L).length<=300:=by unfold iI;rw[List.length_zipWith];omega
 have hM:=pG (aJ L) (aJ L);have hN:=ie (L.length:Int);have hN2:bl (L.length:Int).natAbs<=20:=cf oM;have hV:=tY (aJ L*aJ L) ((L.length:Int):Rat);have r1:rq (aJ L):=by unfold rq;omega
 have r2:rq (aJ L*aJ L):=by unfold rq;omega
 have r3:rq ((L.length:Int):Rat):=by unfold rq;omega
 have r4:rq (aJ L*aJ L / ((L.length:Int):Rat)):=by unfold rq;omega
 have r5:rq (aJ (iI L L)):=by unfold rq;omega
 rw[<-sY];obtain⟨a,cap,rfl⟩:=SlC.val hr;obtain⟨va,vc,rfl⟩:=hv.val;refine BD func180 ntmps180 ?_;refine uR ?_;refine vA (kZ) ?_;intro r1' G1 hL aj;obtain⟨la,lc,rfl⟩:=hL.val;refine uR ?_;by_cases h0:L.length=0
 ·obtain rfl:=pJ.1 h0;refine uR ?_;refine vA (ju 0 (by decide) (by decide)) ?_;intro r2 G2 hq ai;obtain⟨xa,xl,xc,ya,yl,yc,rfl,gA,gZ⟩:=id hq;refine uR ?_;have e:aJ (iI [] [])-aJ []*aJ [] / ((([]:List Rat).length:Int):Rat)=((0:Int):Rat):=by decide +kernel
  rw[e];exact hq
 ·have Oz:(((L.length:Nat):Int):Rat).num≠0:=by rw[Rat.num_intCast];omega
  rw[show (((L.length:Nat):Int) == 0)=false from pQ.2 (by omega)];refine uR ?_;refine EVL.call Z Z Z Z Z (Us hL oM (fun q hq=>qI (df q hq) oM)) ?_;intro rt G2 hT ai;obtain⟨xa,xl,xc,ya,yl,yc,rfl,gA,gZ⟩:=id hT;have C7:=hL.mono ai;refine uR ?_;apply EV.drawn 11 kR kR;intro xv yw;(repeat refine' DD ?_);refine' vB (cO func216) (fun G hG hd=>zoi (C7.mono hG) (C7.mono hG) rfl oM (fun q hq=>qI (df q hq) oM) (fun q hq=>qI (df q hq) oM)) (fun _ _ _ h k=>RQ.mono h k) ?_;rotate_left;(repeat refine' DD ?_);refine' vB (cO func94) (fun G hG hd=>Mk (hT.mono hG) (hT.mono hG) r1 r1) (fun _ _ _ h k=>RQ.mono h k) ?_;rotate_left;(repeat refine' DD ?_);refine' vB (cO func8) (fun G hG hd=>ju (L.length:Int) oM oM) (fun _ _ _ h k=>RQ.mono h k) ?_;rotate_left;refine' vB (cO func7) (fun G hG hd=>Jb (hd.tail.head kR) (hd.head kR) r2 r3 Oz) (fun _ _ _ h k=>RQ.mono h k) ?_;rotate_left;refine' vB (cO func46) (fun G hG hd=>D8 (hd.tail.tail.tail.head kR) (hd.head kR) r5 r4) (fun _ _ _ h k=>RQ.mono h k) ?_;rotate_left;(refine DJ.nil (fun G3 ax fM=>?_);(case hS|hS2=>rfl));have bn:=fM.1;obtain⟨xa,xl,xc,ya,yl,yc,e,gA,gZ⟩:=id bn;rw[e]at bn ⊢;refine uR ?_;exact bn
theorem K5 (C:Nat):∀l:List Int,(∀z,z∈l->0<=z/\z<(C:Int))->sqL l=((List.range C).map fun (k:Nat)=>l.count (k:Int)*l.count (k:Int)).sum/\l.length=((List.range C).map fun (k:Nat)=>l.count (k:Int)).sum
 | [],_=>by
  constructor
  ·show 0=_
   induction C with
   | zero=>rfl
   | succ n ih=>rw[List.range_succ,qo,List.sum_append,<-ih (by simp)];simp
  ·show 0=_
   induction C with
   | zero=>rfl
   | succ n ih=>rw[List.range_succ,qo,List.sum_append,<-ih (by simp)];simp
 | x::l,h=>by
  have hx:=h x (qf ..);obtain⟨j,rfl⟩:=qh hx.1;obtain⟨p7,pZ⟩:=K5 C l (fun z hz=>h z (qk _ hz));constructor
  ·have hs:=Ia (fun k=>l.count (k:Int)*l.count (k:Int)) (fun k=>2*l.count (k:Int)+1) j C;rw[if_pos (by omega)]at hs;rw[K7,p7,Nat.add_assoc,<-hs];congr 1;refine List.map_congr_left fun k _=>?_;rw[List.count_cons];by_cases e:k=j
   ·subst e;rw[if_pos rfl];simp;grind
   ·have e2:¬((j:Int) == (k:Int))=true:=by simp;omega
    rw[if_neg e,if_neg e2];simp
  ·have hs:=Ia (fun k=>l.count (k:Int)) (fun k=>1) j C;rw[if_pos (by omega)]at hs;rw[qR,pZ,<-hs];congr 1;refine List.map_congr_left fun k _=>?_;rw[List.count_cons];by_cases e:k=j
   ·subst e;rw[if_pos rfl];simp
   ·have e2:¬((j:Int) == (k:Int))=true:=by simp;omega
    rw[if_neg e,if_neg e2]
def nS (l:List Int) (i:Nat):Nat:=((List.range i).map fun (k:Nat)=>l.count (k:Int)).sum
def sS (l:List Int) (i:Nat):Nat:=((List.range i).map fun (k:Nat)=>l.count (k:Int)*l.count (k:Int)).sum
theorem RY (l:List Int) (i:Nat):nS l (i+1)=nS l i+l.count (i:Int):=by unfold nS;rw[List.range_succ,qo,List.sum_append];simp
theorem Rt (l:List Int) (i:Nat):sS l (i+1)=sS l i+l.count (i:Int)*l.count (i:Int):=by unfold sS;rw[List.range_succ,qo,List.sum_append];simp
theorem QM (l:List Int) (B:Nat) (h:∀z:Int,l.count z<=B):∀i,nS l i<=i*B/\sS l i<=i*(B*B)
 | 0=>⟨Nat.le_of_eq (by simp[nS]),Nat.le_of_eq (by simp[sS])⟩
 | i+1=>by
  obtain⟨h1,h2⟩:=QM l B h i;rw[RY,Rt,Nat.succ_mul,Nat.succ_mul];exact⟨Nat.add_le_add h1 (h _),Nat.add_le_add h2 (Nat.mul_le_mul (h _) (h _))⟩
theorem zlX {H:Hp} {v:Value} {rs:List Int} (hr:IL H v rs) (hn:rs.length<=300) {sv:Value} {la:Option Addr} {lc:Nat} {ls:List Int} (hv:IL H (.slice la ls.length lc) ls) {C:Nat} (hc:C<=12) (eA:1<=C) (dE:∀z,z∈ls->0<=z/\z<(C:Int)) :
  PC prog 180 #[bG 1 C (.slice la ls.length lc) sv,v] H fun r H'=>RQ H' r (zJ ls (exL rs ls.length)):=by
 have fJ:=Vb (kd:=1) (sv:=sv) hr hn hv hc dE;have jl:=kU rs ls.length;have dc:(atI ls (exL rs ls.length)).length<=300:=by rw[pV];omega
 have df:∀z,z∈atI ls (exL rs ls.length)->0<=z/\z<(C:Int):=fun z hz=>by
  unfold atI at hz;obtain⟨r,_,rfl⟩:=List.mem_map.1 hz;rw[qB]
  cases e:ls[r.toNat]? with
  | none=>exact⟨by decide,by simp;omega⟩
  | some x=>exact dE x (qF e)
 show PC prog 180 #[bG 1 C (.slice la ls.length lc) sv,v] H fun r H'=>RQ H' r (pA (atI ls (exL rs ls.length)));generalize atI ls (exL rs ls.length)=L at *
 obtain⟨e1,e2⟩:=K5 C L df;have cj:=om C L;have hb:=QM L 300 (fun z=>qI List.count_le_length dc);have Bl:∀z:Int,L.count z<=300:=fun z=>qI List.count_le_length dc;have zr:sqL L=sS L C:=e1;have zq:L.length=nS L C:=e2;obtain⟨a,cap,rfl⟩:=SlC.val hr;refine BD func180 ntmps180 ?_;refine uR ?_;refine vA (fJ) ?_;intro r1 G1 hL aj;obtain⟨ca,cc,rfl⟩:=SlC.val hL
 have hLC:SlC G1 (.slice ca C cc) C 1 ((en C L).map iv):=by
  have W8:SlC G1 (.slice ca (en C L).length cc) (en C L).length 1 ((en C L).map iv):=hL;rw[cj]at W8;exact W8
 rw[cj];refine uR ?_;refine EV.loopK (ι:=Nat) [4,7] [4] (fun i=>[(8,.v (.int .i64 (nS L i:Nat))),(9,.v (.int .i64 (sS L i:Nat))),(10,.v (.int .i64 (i:Int)))]) (fun _=>[]) (fun _=>[]) (fun i _=>i<=C) (fun i=>C-i) (0) Z Z ⟨Z,Z,Z,trivial⟩ trivial rfl (fun _=>rfl) (qQ _) ?_;rintro i G2 ai hi;refine uR ?_;refine EV.cond Z (fun af=>?_) (fun af=>?_)
 ·simp only[nN]at af;have C7:=hLC.mono ai;have dK:=B8 L af;have bY:i<C:=af;have b1:=hb i;have b2:=Bl (i:Int);have b3:i*300<=12*300:=Nat.mul_le_mul oM (qH _);have b4:i*(300*300)<=12*(300*300):=Nat.mul_le_mul oM (qH _);have b5:L.count (i:Int)*L.count (i:Int)<=300*300:=Nat.mul_le_mul b2 b2;have s1:=RY L i;have s2:=Rt L i;have w1:IntKind.i64.wrap ((nS L i:Int)+(L.count (i:Int):Int))=(nS L (i+1):Int):=by rw[s1,pL];omega
  have w2:IntKind.i64.wrap ((L.count (i:Int):Int)*(L.count (i:Int):Int))=((L.count (i:Int)*L.count (i:Int):Nat):Int):=by
   rw[<-Int.natCast_mul];generalize L.count (i:Int)*L.count (i:Int)=z at *;rw[pL];omega
  have w3:IntKind.i64.wrap ((sS L i:Int)+((L.count (i:Int)*L.count (i:Int):Nat):Int))=(sS L (i+1):Int):=by rw[s2];generalize L.count (i:Int)*L.count (i:Int)=z at *;rw[pL];omega
  have wn:IntKind.i64.wrap ((i:Int)+1)=((i+1:Nat):Int):=aO i oM;refine uR ?_;refine vI (C7) (i) (rfl) (bY) ((by rw[qK,dK];rfl)) ?_;refine uR ?_;apply EV.drawn 11 kR kR;intro xv yw;(repeat refine' DD ?_);refine' vJ (C7) (i) (rfl) (bY) ((by rw[qK,dK];rfl)) ?_;rotate_left;(repeat refine' DD ?_);refine' vJ (C7) (i) (rfl) (bY) ((by rw[qK,dK];rfl)) ?_;rotate_left;(repeat refine' DD ?_);(refine DJ.nil (fun G3 ax fM=>?_);(case hS|hS2=>rfl));refine uR ?_;refine⟨i+1,⟨by rw[<-w1];rfl,by rw[<-w3,<-w2];rfl,by rw[wn];rfl,trivial⟩,sB,trivial,sB,rfl,af,ax,by omega⟩
 ·simp only[nN]at af;obtain rfl:i=C:=oM;rw[<-zr,<-zq];have wI:=BX L;have AD:L.length*L.length<=300*300:=Nat.mul_le_mul dc dc;refine uR ?_;by_cases h0:L.length=0
  ·obtain rfl:=pJ.1 h0;refine uR ?_;refine vA (ju 0 (by decide) (by decide)) ?_;intro r2 G3 hq ax;obtain⟨xa,xl,xc,ya,yl,yc,rfl,gA,gZ⟩:=id hq;refine uR ?_;rw[show pA []=((0:Int):Rat) by decide +kernel];exact hq
  ·rw[show (((L.length:Nat):Int) == 0)=false from pQ.2 (by omega)];have cX:=fun G:Hp=>Cp (H:=G) (sqL L:Int) (L.length:Int) oM oM oM oM oM;have sY:((L.length:Int):Rat)-Rat.divInt (sqL L:Int) (L.length:Int)=pA L:=by unfold pA;rw[Rat.divInt_eq_div]
   have r1:rq ((L.length:Int):Rat):=by
    have:=ie (L.length:Int);have h2:bl (L.length:Int).natAbs<=20:=cf oM;unfold rq;omega
   have r2:rq (Rat.divInt (sqL L:Int) (L.length:Int)):=by
    rw[Rat.divInt_eq_div];have h1:=ie (L.length:Int);have h2:bl (L.length:Int).natAbs<=20:=cf oM;have h3:=ie (sqL L:Int);have h4:bl (sqL L:Int).natAbs<=20:=cf oM;have h5:=tY ((sqL L:Int):Rat) ((L.length:Int):Rat);unfold rq;omega
   refine uR ?_;refine EVL.call Z Z Z Z Z (ju (L.length:Int) oM oM) ?_;intro q1 G3 si ax;refine uR ?_;refine vA (cX _) ?_;intro q2 G4 rf aT;refine uR ?_;refine vA (D8 (si.mono aT) rf r1 r2) ?_;intro q3 G5 V3 bj;obtain⟨xa,xl,xc,ya,yl,yc,rfl,gA,gZ⟩:=id V3;refine uR ?_;rw[<-sY];exact V3
theorem Sn {H:Hp} {vx:Value} {X:List (List Rat)} (hX:RLL H vx X) (r col:Int):PC prog 187 #[vx,.int .i64 r,.int .i64 col] H fun u _=>u=.bool (inR X.length r && cY X col r):=by
 obtain⟨xa,xc,rfl⟩:=hX.val;obtain⟨vs,aG,hs⟩:=hX;refine BD func187 ntmps187 ?_;refine uR ?_;by_cases h1:r>=0
 ·obtain⟨R,rfl⟩:=qh h1;rw[qD h1];refine uR ?_;by_cases h2:(R:Int)<(X.length:Int)
  ·rw[qD h2];have hi:inR X.length (R:Int)=true:=by unfold inR;simp;omega
   obtain⟨x,hx⟩:∃x,X[R]?=some x:=⟨_,qA oM⟩;obtain⟨a1,e1,jz,_⟩:=aG.at hx;have iF:R<X.length:=oM
   have fG:cY X col (R:Int)=(decide (0<=col) && decide (col<(x.length:Int))):=by
    unfold cY;rw[qU,qB,hx];rfl
   rw[hi,fG];refine uR ?_;by_cases h3:col>=0
   ·rw[qD h3];refine uR ?_;refine vI (hs) (R) (rfl) (iF) (jz) ?_;refine uR ?_;rfl
   ·rw[qC h3];refine uR ?_;rfl
  ·rw[qC h2];have hi:inR X.length (R:Int)=false:=by unfold inR;simp;omega
   rw[hi];refine uR ?_;rfl
 ·rw[qC h1];have hi:inR X.length r=false:=by unfold inR;simp;omega
  rw[hi];refine uR ?_;rfl
theorem SU {X:List (List Rat)} {col:Int} {t:Rat} {rs:List Int} {i:Nat} {r:Int} (bB:rs[i]?=some r) (p:Int->Bool) :
  (exL (rs.take (i+1)) X.length).filter p=(exL (rs.take i) X.length).filter p++if inR X.length r && p r then [r] else []:=by
 rw[B7 bB,List.filter_append];cases inR X.length r <;> cases hp:p r <;> simp[hp]
theorem Ut {H:Hp} {vx vr vt:Value} {X:List (List Rat)} {rs:List Int} {col:Int} {t:Rat} (hX:RLL H vx X) (hr:IL H vr rs) (hn:rs.length<=100000) (hq:∀x,x∈X->∀q,q∈x->rq q) (EU:RQ H vt t) (ht:rq t) :
  PC prog 145 #[vx,vr,.int .i64 col,vt] H fun r H'=>∃u w,r=.tuple #[u,w]/\IL H' u (aR X col t (exL rs X.length))/\IL H' w (bf X col t (exL rs X.length)):=by
 obtain⟨a,cap,rfl⟩:=SlC.val hr;obtain⟨xa,xc,rfl⟩:=hX.val;obtain⟨ta,tl,tc,tb,tm,td,rfl,N2,Jz⟩:=id EU;refine BD func145 ntmps145 ?_;refine uR ?_;refine EV.loopK (ι:=Nat × Value × Value × Ows × Ows) [0,1,2,7] [7] (fun q=>[(10,.v q.2.1),(11,.v q.2.2.1),(12,.v (.int .i64 (q.1:Int)))]) (fun _=>[]) (fun q=>q.2.2.2.1++q.2.2.2.2) (fun q _=>q.1<=rs.length/\aF 3 1 q.2.1 (aR X col t (exL (rs.take q.1) X.length)).length ((aR X col t (exL (rs.take q.1) X.length)).map iv) q.2.2.2.1/\aF 3 1 q.2.2.1 (bf X col t (exL (rs.take q.1) X.length)).length ((bf X col t (exL (rs.take q.1) X.length)).map iv) q.2.2.2.2) (fun q=>rs.length-q.1) ((0,.slice none 0 0,.slice none 0 0,[],[])) Z Z ⟨Z,Z,Z,trivial⟩ trivial rfl (fun _=>rfl) (⟨qQ _,aF.nil _ _,aF.nil _ _⟩) ?_;rintro⟨i,w1,w2,bS,cC⟩ G1 aj ⟨hi,aE,aD⟩;dsimp only at hi aE aD;obtain⟨Vo,Vm,rfl⟩:=aE.val;obtain⟨Vn,Vl,rfl⟩:=aD.val;refine uR ?_;refine EV.cond Z (fun af=>?_) (fun af=>?_)
 ·simp only[nN]at af;obtain⟨r,bB⟩:=gE af;have cF:=SU (X:=X) (col:=col) (t:=t) bB fun r=>cY X col r && decide (bD X col r<=t);have cJ:=SU (X:=X) (col:=col) (t:=t) bB fun r=>cY X col r && !decide (bD X col r<=t);have jl:=kU (rs.take i) X.length;rw[qP]at jl;have ew:(aR X col t (exL (rs.take i) X.length)).length<=i:=qI (List.length_filter_le _ _) oM;have eH:(bf X col t (exL (rs.take i) X.length)).length<=i:=qI (List.length_filter_le _ _) oM;have wn:IntKind.i64.wrap ((i:Int)+1)=((i+1:Nat):Int):=aO i oM;have dQ:=hr.mono aj;have WR:=hX.mono aj;have mP:=Sn WR r col;refine uR ?_;refine vI (dQ) (i) (rfl) (af) ((by rw[qK,bB];rfl)) ?_
  repeat (first|refine RUN ?_|refine CV (mP) ?_|refine CE (mP) ?_)
  cases hb:inR X.length r && cY X col r with
  | false =>
   have e1:(inR X.length r && (cY X col r && decide (bD X col r<=t)))=false:=by rw[<-Bool.and_assoc,hb];rfl
   have e2:(inR X.length r && (cY X col r && !decide (bD X col r<=t)))=false:=by rw[<-Bool.and_assoc,hb];rfl
   rw[e1,if_neg (by decide),qG]at cF;rw[e2,if_neg (by decide),qG]at cJ;refine uR ?_;refine⟨(i+1,_,_,bS,cC),⟨rfl,rfl,by rw[wn];rfl,trivial⟩,sB,trivial,sB,rfl,⟨af,by unfold aR;rw[cF];exact aE,by unfold bf;rw[cJ];exact aD⟩,Hp.Le.refl _,by dsimp only;omega⟩
  | true =>
   have cP:inR X.length r=true/\cY X col r=true:=by simpa using hb
   have gh:0<=r/\r<(X.length:Int):=by have:=cP.1;unfold inR at this;simpa using this
   obtain⟨R,C,x,q,rfl,rfl,hx,yW⟩:=zL gh.1 gh.2 cP.2;have hk:=zM (X:=X) Z Z hx yW;rw[cP.1,cP.2,Bool.true_and,Bool.true_and,hk]at cF cJ;have iF:R<X.length:=oM;have GI:=(qE.1 yW).1;obtain⟨vs,aG,hs⟩:=WR;obtain⟨a2,c2,hu,Gq⟩:=aG.at hx;obtain⟨us,y,cr,cM,hy⟩:=Gq.at yW;obtain⟨Jo,Jm,Jn,Jl,Jj,Jk,rfl,gA,gZ⟩:=id hy;have wN:=hq x (qF hx) q (qF yW);have NQ:=EU.mono aj;refine uR ?_;apply EV.drawn 11 kR kR;intro xv yw;(repeat refine' DD ?_);refine' vJ (dQ) (i) (rfl) (af) ((by rw[qK,bB];rfl)) ?_;rotate_left;(repeat refine' DD ?_);refine' vJ (hs) (R) (rfl) (iF) (hu) ?_;rotate_left;(repeat refine' DD ?_);refine' DJ.idxM tO Z Z Z Z Z Z Z Z Z (cr) (C) (rfl) (GI) (cM) ?_;rotate_left;(repeat refine' DD ?_);(refine DJ.nil (fun G2 ai fN=>?_);(case hS|hS2=>rfl));refine vA (kz (hy.mono ai) (NQ.mono ai) wN ht) ?_;rintro rc G3 rfl ax;have wM:=dQ.mono (ai.trans ax);refine uR ?_;by_cases hle:q<=t
   ·have ho:bI q t<=0:=Ih hle;rw[qD hle,if_pos rfl]at cF;rw[qD hle,if_neg (by decide),qG]at cJ;rw[qD ho];refine uR ?_;refine vI (wM) (i) (rfl) (af) ((by rw[qK,bB];rfl)) ?_;refine uR ?_;refine EVL.app1 tO Z Z Z Z Z Z Z Z Z Z Z Z Z Z Z Z Z Z Z (fun _=>rfl) (bS) (cC) (rfl) (aE) oM fun _=>?_;intro v' au ao;refine uR ?_;refine⟨(i+1,v',_,au,cC),⟨rfl,rfl,by rw[wn];rfl,trivial⟩,sB,trivial,sB,rfl,⟨af,by unfold aR;rw[cF];exact ao.il,by unfold bf;rw[cJ];exact aD⟩,ai.trans ax,by dsimp only;omega⟩
   ·have ho:¬bI q t<=0:=by
     have:=Rat.not_le.1 hle;unfold bI;rw[if_neg (fun k=>absurd (Rat.le_of_lt k) (Rat.not_le.2 this)),if_pos this];omega
    rw[qC hle,if_neg (by decide),qG]at cF;rw[qC hle,Bool.not_false,if_pos rfl]at cJ;rw[qC ho];refine uR ?_;refine vI (wM) (i) (rfl) (af) ((by rw[qK,bB];rfl)) ?_;refine uR ?_;refine EVL.swapOw bS cC Z ?_;refine EVL.app1 tO Z Z Z Z Z Z Z Z Z Z Z Z Z Z Z Z Z Z Z (fun _=>rfl) (cC) (bS) (rfl) (aD) oM fun _=>?_;intro v' au ao;refine EVL.swapOw au bS Z ?_;refine uR ?_;refine⟨(i+1,_,v',bS,au),⟨rfl,rfl,by rw[wn];rfl,trivial⟩,sB,trivial,sB,rfl,⟨af,by unfold aR;rw[cF];exact aE,by unfold bf;rw[cJ];exact ao.il⟩,ai.trans ax,by dsimp only;omega⟩
 ·simp only[nN]at af;obtain rfl:i=rs.length:=oM;rw[qa]at aE aD ⊢;(first|refine EVL.publishL [] bS cC (rfl) aE fun G2 ai cr=>?_|refine EV.publishL [] bS cC (rfl) aE fun G2 ai cr=>?_);(first|refine EVL.publishL [] cC [] ((qG _).symm) aD fun G3 ax jA=>?_|refine EV.publishL [] cC [] ((qG _).symm) aD fun G3 ax jA=>?_);refine uR ?_;exact⟨_,_,rfl,cr.mono ax,jA⟩
theorem S1 (size:Nat):∀(vs:List Value) (k:Nat) (pre zs:List Value),(∀v,v∈vs->(aB v).length=size)->pre.length=k*size->zs.length=vs.length*size ->
  Instr.fill (fun i=>some (i*size,size)) (pre++zs).toArray ((List.range' k vs.length).zip vs)=some (pre++vs.flatMap aB).toArray
 | [],k,pre,zs,_,_,hz=>by
  obtain rfl:zs=[]:=List.eq_nil_of_length_eq_zero (by simpa using hz);rfl
 | v::vs,k,pre,zs,hv,hp,hz=>by
  have hlen:=hv v (qf ..);rw[qR,Nat.succ_mul]at hz;rw[qR,List.range'_succ,List.zip_cons_cons];unfold Instr.fill;simp only[UD];rw[if_neg (by simp[hlen];omega)];have:=IC (aB v) (pre++zs) (k*size) 0 (by rw[qJ,hlen];omega);rw[qY]at this
  have e:((aB v).toArray.zipIdx.foldl (fun (cs:Array Value) (x:Value × Nat)=>match x with | (c,j)=>cs.setIfInBounds (k*size+j) c) (pre++zs).toArray)=((aB v).zipIdx.foldl (fun (c:Array Value) (p:Value × Nat)=>c.setIfInBounds (k*size+p.2) p.1) (pre++zs).toArray):=by
   simp
  rw[e,this,List.take_left' hp,hlen,<-hp,<-List.drop_drop,List.drop_left,List.flatMap_cons,<-qZ];have ih:=S1 size vs (k+1) (pre++aB v) (zs.drop size) (fun u hu=>hv u (qk _ hu)) (by rw[qJ,hp,hlen,Nat.succ_mul]) (by rw[qt];omega);exact ih
def ixB:List (Nat × Operand)->Nat->Nat->Bool
 | [],_,0=>true
 | p::ps,k,n+1=>match Nat.beq p.1 k with
  | true=>ixB ps (k+1) n
  | false=>false
 | _,_,_=>false
theorem SW:∀(ps:List (Nat × Operand)) (k n:Nat),ixB ps k n=true->ps.map (·.1)=List.range' k n
 | [],k,0,_=>rfl
 | p::ps,k,n+1,h=>by
  unfold ixB at h;split at h
  ·rename_i e;rw[qx,List.range'_succ,SW ps (k+1) n h,qy e]
  ·cases h
 | [],k,n+1,h=>by cases h
 | p::ps,k,0,h=>by cases h
section
variable {P:Program} {n:Nat} {ops:Array Oper} {o:Oper} {rest:List Oper} {env:Env} {bx:Bxs} {sb:Bxs} {ow:Ows} {H:Hs} {Q:EQ} {τ:Tab} {d:Nat} {s:SV}
theorem DJ.litD {tail l:List Oper} {x:Nat->Value} {y:Nat->Ows} {au:Ows} {kl ks:List DK} {i:Nat} {aw:Bxs} {Γ:fO} (hτ:bp P τ) {T:TypeId} {len:Nat} {parts:Array (Nat × Operand)} (ho:o.op=.buildSlice T len parts) (hw:aP ops env o=some true) (hd:o.dst=some d) (hn:Nat.blt d n=true) {te te':TE} {e:TypeId} (ht:τ.get T=some te) (hk:te.kind=.slice e) (aM:τ.get e=some te')
  (cd:Nat.beq te'.zero.length te'.size=true) (bQ:Nat.ble 1 (len*te'.size)=true) (eS:Nat.ble (len*te'.size) 10000=true) {vs:List Value} (ha:dX env (parts.toList.map (·.2)) some=some vs) (Pd:ixB parts.toList 0 len=true) (hv:∀G,dD ops i Γ G->∀v,v∈vs->(aB v).length=te'.size)
  {Φ:Value->Hp->Prop} (hm:∀v G G',Φ v G->G.Le G'->Φ v G') (hΦ:∀G G' v,dD ops i Γ G->G.Le G'->SlC G' v len te'.size (vs.flatMap aB)->Φ v G')
  (h:DJ P n ops tail sb bx H Q x y kl (i+1) l ks ((d,.v (x i))::env) aw ((i,Φ (x i))::Γ) au):DJ P n ops tail sb bx H Q x y kl i (o::l) (.call Φ::ks) env aw Γ au:=by
 have Wp:parts.toList.map (·.1)=List.range' 0 len:=SW _ _ _ Pd;have aW:=(hτ.get ht).kind;rw[hk]at aW;have aN:P.underlying T=some (.slice e):=aW;obtain⟨zv,cz,mi⟩:=(hτ.get aM).info;obtain⟨i0,hi,eP,fC,iY⟩:=info_parts cz;have hl:=qy cd;have hp:=Nat.le_of_ble_eq_true bQ;have lz:=Nat.le_of_ble_eq_true eS;refine DJ.ofCall (fun β a W G hle hf _ hb _ hs hF=>?_) hd hn hm h;rw[if_pos (hs.want hw)];have yP:=hv G hF;obtain⟨aX,e1,h2⟩:=Mg ha;cases e1;have h3:=h2 a.eval fun y u hy he=>hs.op (s:=.v u) (by rw[ho];simpa[Op.operands] using hy) he
 have eQ:vs.length=len:=by
  have e1:=congrArg List.length h3;have e2:=congrArg List.length Wp;simp at e1 e2;omega
 have Wy:(vs.flatMap aB).length=len*te'.size:=by rw[flat_len aB te'.size vs yP,eQ]
 have h4:((parts.map fun (i,x)=>(i,a.eval x)):Array (Nat × Value)).toList=(List.range' 0 vs.length).zip vs:=by
  rw[eQ,<-Wp,<-h3,Array.toList_map];generalize parts.toList=l
  induction l with
  | nil=>rfl
  | cons p l ih=>simp only[qx,List.zip_cons_cons,ih]
 have dS:=S1 te'.size vs 0 [] ((List.replicate len te'.zero).flatten) yP (by simp) (by rw[List.length_flatten];simp[hl,eQ]);rw[pN,pN,<-h4]at dS
 have aY:=run_buildSlice (P:=P) W T e len (parts.map fun (i,x)=>(i,a.eval x)) (vs.flatMap aB).toArray i0 zv aN hi eP (by rw[fC];omega) (by rw[fC];omega) (by
  rw[fC,mi,Mb te'.zero te'.size len hl,<-dS])
 have hB:Below W.heap.size W (W.alloc (.cells (vs.flatMap aB).toArray e)):=(Below.refl _ _).alloc (qH _) _;obtain⟨k1,k2,k3⟩:=Q7 hf hB (Box.new W (vs.flatMap aB).toArray e)
 have hr:(execOp a.eval o).run P W=.ok (.value (.slice (some ⟨W.heap.size,0,none⟩) len len)) (W.alloc (.cells (vs.flatMap aB).toArray e)):=by
  unfold execOp;simp only[ho,Sem.run_bind,aY,Result.andThen_ok,Sem.run_pure]
 unfold Oper.wp;rw[hr,Oper.upon_value];exact⟨_,_,rfl,hΦ G _ _ hF k1 ⟨Wy,.inr ⟨W.heap.size,0,len,(vs.flatMap aB).toArray,rfl,qH _,by simp[Hp.put],fun j x hj=>by rw[qu];simpa using hj⟩⟩,k1,k2,hB,k3⟩
theorem DJ.litD1 {tail l:List Oper} {x:Nat->Value} {y:Nat->Ows} {au:Ows} {kl ks:List DK} {i:Nat} {aw:Bxs} {Γ:fO} {Φ:Value->Hp->Prop} (hm:∀v G G',Φ v G->G.Le G'->Φ v G') (hτ:bp P τ) {T:TypeId} {u:Operand} (ho:o.op=.buildSlice T 1 #[(0,u)]) (hw:aP ops env o=some true) (hd:o.dst=some d) (hn:Nat.blt d n=true) {te te':TE} {e:TypeId} (ht:τ.get T=some te) (hk:te.kind=.slice e) (aM:τ.get e=some te')
  (cd:Nat.beq te'.zero.length te'.size=true) (bQ:Nat.ble 1 (1*te'.size)=true) (eS:Nat.ble (1*te'.size) 10000=true) {v:Value} (hx:env.op u=some (.v v)) (hv:∀G,dD ops i Γ G->(aB v).length=te'.size)
  (hΦ:∀G G' w,dD ops i Γ G->G.Le G'->SlC G' w 1 te'.size ([v].flatMap aB)->Φ w G')
  (h:DJ P n ops tail sb bx H Q x y kl (i+1) l ks ((d,.v (x i))::env) aw ((i,Φ (x i))::Γ) au):DJ P n ops tail sb bx H Q x y kl i (o::l) (.call Φ::ks) env aw Γ au :=
 DJ.litD hτ ho hw hd hn ht hk aM cd bQ eS (vs:=[v]) (by show dX env [u] some=_;simp[dX,hx]) rfl (fun G hd w hm=>by rw[pK.1 hm];exact hv G hd) hm hΦ h
end
theorem RQ.len3 {H:Hp} {x:Value} {q:Rat} (h:RQ H x q):(aB x).length=3:=by
 obtain⟨xa,xl,xc,ya,yl,yc,rfl,gA,gZ⟩:=h;rfl
theorem RL.one {H:Hp} {v x:Value} {q:Rat} (h:SlC H v 1 3 ([x].flatMap aB)) (hx:RQ H x q):RL H v [q] :=
 ⟨[x],rfl,fun j y r e1 e2=>by
  cases j with
  | zero=>cases e1;cases e2;exact hx
  | succ j=>simp at e1,h⟩
def tR (V:List Rat):Nat->List Rat
 | 0=>[]
 | j+1=>tR V j++if V.getD j 0<V.getD (j+1) 0 then [(V.getD j 0+V.getD (j+1) 0) / 2] else []
theorem LY (V:List Rat):∀j,(tR V j).length<=j
 | 0=>qH _
 | j+1=>by
  have:=LY V j;unfold tR;rw[qJ];split
  ·rw[qw];omega
  ·rw[qg];omega
theorem RJ (key:Int->Rat) (m:List Int):∀j,j<=m.length-1->xX key m j=tR (m.map key) j
 | 0,_=>rfl
 | j+1,h=>by
  have g:∀i,i<m.length->(m.map key).getD i 0=key (m.getD i 0):=fun i hi=>by simp[qB,hi]
  unfold xX tR fp;rw[RJ key m j oM,g j oM,g (j+1) (by omega)]
def plQ (X:List (List Rat)) (col:Int) (es:List Int):List Rat:=if es.all (cY X col)=true then tR (gw (es.map (bD X col))) (es.length-1) else []
theorem Lh {X:List (List Rat)} {col:Int} {es m:List Int} (h:BQ X col es m):xX (bD X col) m (m.length-1)=plQ X col es:=by
 unfold plQ;rcases h with ⟨ha,hp,hr⟩ | ⟨ha,rfl⟩
 ·rw[if_pos ha,RJ _ _ _ (qH _),hp.length_eq,IK (hp.map _) hr]
 ·rw[if_neg (by rw[ha];decide)];rfl
theorem zqu {V:List Rat} {j:Nat} (h:j+1<(gw V).length):(gw V).getD j 0<=(gw V).getD (j+1) 0:=by
 have:=(List.pairwise_iff_getElem.1 (U5 V)) j (j+1) oM h oM;rw[qB,qB,qA oM,qA h];exact this
theorem zkG {H:Hp} {vx vr:Value} {X:List (List Rat)} {rs:List Int} {col:Int} (hX:RLL H vx X) (hr:IL H vr rs) (hn:rs.length<=300) (hq:∀x,x∈X->∀q,q∈x->ht q<=60) :
  PC prog 185 #[vx,vr,.int .i64 col] H fun r H'=>RL H' r (plQ X col (exL rs X.length)):=by
 obtain⟨a,cap,rfl⟩:=SlC.val hr;obtain⟨xa,xc,rfl⟩:=hX.val;refine BD func185 ntmps185 ?_;refine uR ?_;refine EV.loopK (ι:=Nat × List Value × Value × Ows) [0,1,2] [] (fun q=>[(7,.v q.2.2.1),(8,.v (.int .i64 (q.1:Int)))]) (fun _=>[]) (fun q=>q.2.2.2) (fun q G=>q.1<=rs.length/\(exL (rs.take q.1) X.length).all (cY X col)=true/\RVs G q.2.1 ((exL (rs.take q.1) X.length).map (bD X col))/\aF 33 3 q.2.2.1 q.2.1.length (q.2.1.flatMap aB) q.2.2.2) (fun q=>rs.length-q.1) ((0,[],.slice none 0 0,[])) Z Z ⟨Z,Z,trivial⟩ trivial rfl (fun _=>rfl) (⟨qQ _,rfl,RVs.nil _,aF.nil _ _⟩) ?_;rintro⟨i,us,w,ow⟩ G2 ai ⟨hi,av,fX,ah⟩;dsimp only at hi av fX ah;obtain⟨wa,wc,rfl⟩:=ah.val;refine uR ?_;refine EV.cond Z (fun af=>?_) (fun af=>?_)
 ·simp only[nN]at af;obtain⟨r,bB⟩:=gE af;have hex:=B7 (n:=X.length) bB;have jl:=kU (rs.take i) X.length;rw[qP]at jl;have VL:us.length<=i:=by rw[fX.1,qV];omega
  have wn:IntKind.i64.wrap ((i:Int)+1)=((i+1:Nat):Int):=aO i oM;have bM:=hr.mono ai;have zi:=hX.mono ai;have mP:=Sn zi r col;refine uR ?_;refine vI (bM) (i) (rfl) (af) ((by rw[qK,bB];rfl)) ?_;refine uR ?_;by_cases h1:r<0
  ·have hp:inR X.length r=false:=by unfold inR;simp;omega
   rw[hp,if_neg (by decide),qG]at hex;rw[qD h1];refine uR ?_;refine⟨(i+1,us,_,ow),⟨rfl,by rw[wn];rfl,trivial⟩,sB,trivial,trivial,rfl,⟨af,by dsimp only;rw[hex];exact av,by dsimp only;rw[hex];exact fX,ah⟩,Hp.Le.refl _,by dsimp only;omega⟩
  ·obtain⟨R,rfl⟩:=qh (show 0<=r by omega);rw[qC h1];refine uR ?_;refine vI (bM) (i) (rfl) (af) ((by rw[qK,bB];rfl)) ?_;refine uR ?_;by_cases h2:(R:Int)>=(X.length:Int)
   ·have hp:inR X.length (R:Int)=false:=by unfold inR;simp;omega
    rw[hp,if_neg (by decide),qG]at hex;rw[qD h2];refine uR ?_;refine⟨(i+1,us,_,ow),⟨rfl,by rw[wn];rfl,trivial⟩,sB,trivial,trivial,rfl,⟨af,by dsimp only;rw[hex];exact av,by dsimp only;rw[hex];exact fX,ah⟩,Hp.Le.refl _,by dsimp only;omega⟩
   ·have hp:inR X.length (R:Int)=true:=by unfold inR;simp;omega
    rw[hp,Bool.true_and]at mP;rw[hp,if_pos rfl]at hex;rw[qC h2];refine uR ?_;refine vI (bM) (i) (rfl) (af) ((by rw[qK,bB];rfl)) ?_
    repeat (first|refine RUN ?_|refine CV (mP) ?_|refine CE (mP) ?_)
    cases hb:cY X col (R:Int) with
    | false =>
     have bF:(exL rs X.length).all (cY X col)=false:=by
      rw[List.all_eq_false];refine⟨(R:Int),?_,by rw[hb];decide⟩;unfold exL;exact List.mem_filter.2 ⟨qF bB,hp⟩
     refine uR ?_;unfold plQ;rw[if_neg (by rw[bF];decide)];exact RL.nil _ _ _
    | true =>
     obtain⟨R',C,x,q,hRR,rfl,hx,yW⟩:=zL (show 0<=(R:Int) by omega) (show (R:Int)<(X.length:Int) by omega) hb;obtain rfl:R=R':=oM;have hk:=zM (X:=X) Z Z hx yW;have iF:R<X.length:=oM;have GI:=(qE.1 yW).1;obtain⟨vs,aG,hs⟩:=zi;obtain⟨a2,c2,hu,Gq⟩:=aG.at hx;obtain⟨us2,y,cr,cM,hy⟩:=Gq.at yW;obtain⟨Jo,Jm,Jn,Jl,Jj,Jk,rfl,gA,gZ⟩:=id hy;refine uR ?_;refine vI (bM) (i) (rfl) (af) ((by rw[qK,bB];rfl)) ?_;refine uR ?_;refine vI (hs) (R) (rfl) (iF) (hu) ?_;refine uR ?_;refine EVL.idxM tO Z Z Z Z Z Z Z Z Z (cr) (C) (rfl) (GI) (cM) ?_;refine uR ?_;refine EVL.app1 tO Z Z Z Z Z Z Z Z Z Z Z Z Z Z Z Z Z Z Z (fun _=>rfl) (ow) ([]) ((qG _).symm) (ah) oM fun _=>?_;intro v' au ao;refine uR ?_;refine⟨(i+1,us++[_],v',au),⟨rfl,by rw[wn];rfl,trivial⟩,sB,trivial,trivial,qG _,⟨af,by dsimp only;rw[hex,List.all_append,av];simp[hb],by dsimp only;rw[hex,qo,qx,hk];exact fX.snoc hy,by dsimp only;rw[qJ,List.flatMap_append];exact ao⟩,Hp.Le.refl _,by dsimp only;omega⟩
 ·simp only[nN]at af;obtain rfl:i=rs.length:=oM;rw[qa]at fX av;have jl:=kU rs X.length;(first|refine EVL.publishL [] ow [] ((qG _).symm) ah fun G3 ax jA=>?_|refine EV.publishL [] ow [] ((qG _).symm) ah fun G3 ax jA=>?_);have rX:=fX.mono ax
  have Gq:RL G3 (.slice wa us.length wc) ((exL rs X.length).map (bD X col)):=by
   rw[rX.1]at jA ⊢;exact rX.rl jA
  have fS:plQ X col (exL rs X.length)=tR (gw ((exL rs X.length).map (bD X col))) ((exL rs X.length).length-1):=by unfold plQ;rw[if_pos av]
  rw[fS]
  have fu:∀q,q∈(exL rs X.length).map (bD X col)->ht q<=60:=fun q hm=>by
   obtain⟨r,_,rfl⟩:=List.mem_map.1 hm;exact DP hq col r
  have eQ:((exL rs X.length).map (bD X col)).length=(exL rs X.length).length:=qV ..;rw[<-eQ];generalize (exL rs X.length).map (bD X col)=vals at *
  have bA:(gw vals).length=vals.length:=(zZ vals).length_eq;have dI:∀q,q∈gw vals->ht q<=60:=fun q hm=>fu q ((zZ vals).mem_iff.1 hm);have cT:=fun (j:Nat) (h:j+1<(gw vals).length)=>zqu h;refine uR ?_;refine EVL.call Z Z Z Z Z (T3 Gq oM (fun q hm=>qI (fu q hm) oM)) ?_;intro r5 G4 hV aT;rw[<-bA];generalize gw vals=V at *
  obtain⟨va,vc,rfl⟩:=hV.val
  have h2h:ht ((2:Int):Rat)<=10:=by
   have:=ie 2;have h2:bl (2:Int).natAbs<=5:=cf (by decide);omega
  have uC:∀q,ht q<=300->rq q:=fun q h=>qI h oM;refine uR ?_;refine EV.loopK (ι:=Nat × List Value × Value × Ows) [7] [] (fun q=>[(9,.v q.2.2.1),(10,.v (.int .i64 ((q.1+1:Nat):Int)))]) (fun _=>[]) (fun q=>q.2.2.2) (fun q G=>q.1<=V.length-1/\RVs G q.2.1 (tR V q.1)/\aF 33 3 q.2.2.1 q.2.1.length (q.2.1.flatMap aB) q.2.2.2) (fun q=>V.length-q.1) ((0,[],.slice none 0 0,[])) Z Z ⟨Z,Z,trivial⟩ trivial rfl (fun _=>rfl) (⟨qQ _,RVs.nil _,aF.nil _ _⟩) ?_;rintro⟨j,ps,u,cC⟩ G5 bj ⟨hj,gC,aD⟩;dsimp only at hj gC aD;obtain⟨ua,uc,rfl⟩:=aD.val;refine uR ?_;refine EV.cond Z (fun dJ=>?_) (fun dJ=>?_)
  ·simp only[nN]at dJ;have fw:j<V.length:=oM;have ha:V[j]?=some (V.getD j 0):=by rw[qB,qA fw];rfl
   have hb:V[j+1]?=some (V.getD (j+1) 0):=by rw[qB,qA dJ];rfl
   have hle:=cT j dJ;have hah:=dI _ (qF ha);have PH:=dI _ (qF hb);have gm:tR V (j+1)=tR V j++if V.getD j 0<V.getD (j+1) 0 then [(V.getD j 0+V.getD (j+1) 0) / 2] else []:=rfl
   have fS:=gC.1;have hgl:=LY V j;generalize V.getD j 0=p at *
   generalize V.getD (j+1) 0=q at *
   have cQ:=pB p q;have wj:IntKind.i64.wrap (((j+1:Nat):Int)-1)=(j:Int):=by rw[pL];omega
   have wn:IntKind.i64.wrap (((j+1:Nat):Int)+1)=((j+1+1:Nat):Int):=aO (j+1) oM;obtain⟨vs1,y1,kC,eA,jV⟩:=(hV.mono bj).at ha;obtain⟨vs2,y2,cr,cM,iM⟩:=(hV.mono bj).at hb;obtain⟨xa1,xl1,xc1,CH,CB,CD,rfl,hx11,hx12⟩:=id jV;obtain⟨xa2,xl2,xc2,CG,CA,CC,rfl,hx21,hx22⟩:=id iM;refine uR ?_;apply EV.drawn 9 kR kR;intro xv yw;(repeat refine' DD ?_);refine' DJ.idxM tO Z Z Z Z Z Z Z Z Z (kC) (j) (wj) (fw) (eA) ?_;rotate_left;(repeat refine' DD ?_);refine' DJ.idxM tO Z Z Z Z Z Z Z Z Z (cr) (j+1) (rfl) (dJ) (cM) ?_;rotate_left;(repeat refine' DD ?_);(refine DJ.nil (fun G6 bu Qf=>?_);(case hS|hS2=>rfl));refine EVL.call Z Z Z Z Z (kz (jV.mono bu) (iM.mono bu) (uC _ oM) (uC _ oM)) ?_;rintro rc G7 rfl aZ;by_cases oP:p<q
   ·rw[if_pos oP]at gm
    have ho:(bI p q != 0)=true:=by
     unfold bI;rw[if_pos oP];rfl
    refine uR ?_;rw[ho];refine uR ?_;apply EV.drawn 14 kR kR;intro xv yw;(repeat refine' DD ?_);refine' DJ.idxM tO Z Z Z Z Z Z Z Z Z ((kC.mono (bu.trans aZ))) (j) (wj) (fw) (eA) ?_;rotate_left;(repeat refine' DD ?_);refine' DJ.idxM tO Z Z Z Z Z Z Z Z Z ((cr.mono (bu.trans aZ))) (j+1) (rfl) (dJ) (cM) ?_;rotate_left;(repeat refine' DD ?_);refine' vB (cO func92) (fun G hG hd=>Ct (jV.mono ((bu.trans aZ).trans hG)) (iM.mono ((bu.trans aZ).trans hG)) (uC _ oM) (uC _ oM)) (fun _ _ _ h k=>RQ.mono h k) ?_;rotate_left;refine' vB (cO func8) (fun G hG hd=>ju 2 (by decide) (by decide)) (fun _ _ _ h k=>RQ.mono h k) ?_;rotate_left;refine' vB (cO func7) (fun G hG hd=>Jb (hd.tail.head kR) (hd.head kR) (uC _ oM) (uC _ oM) (by decide)) (fun _ _ _ h k=>RQ.mono h k) ?_;rotate_left;(refine' DJ.litD1 (Φ:=fun w G=>RL G w [(p+q) / ((2:Int):Rat)]) (fun _ _ _ h k=>h.mono k) tO Z Z Z Z Z Z Z Z Z Z Z (fun G hd=>RQ.len3 (hd.head kR)) (fun G G' w hd hG h=>RL.one h ((hd.head kR).mono hG)) ?_;rotate_left);(refine DJ.nil (fun G8 bt uT=>?_);(case hS|hS2=>rfl));obtain⟨Vp,xd,rb,Od⟩:=uT.1
    obtain⟨y3,rfl⟩:∃y,Vp=[y]:=by
     match Vp,xd with
     | [y],_=>exact⟨y,rfl⟩
    have VD:=rb 0 y3 _ Z Z;obtain⟨xa3,xl3,xc3,ya3,yl3,yc3,rfl,hx31,Ar⟩:=id VD;refine EVL.append tO Z Z Z Z Z Z Z Z Z Z Z Z [] cC [] (qG _).symm aD (iJ.ro Od (Nat.succ_pos 0)) Z (by simp;omega) ?_;intro v1 bS aE;refine uR ?_;refine⟨(j+1,ps++[_],v1,bS),⟨rfl,by rw[wn];rfl,trivial⟩,sB,trivial,trivial,qG _,⟨by dsimp only;omega,by dsimp only;rw[gm];exact(gC.mono (bu.trans (aZ.trans bt))).snoc VD,by dsimp only;rw[qJ,List.flatMap_append];exact aE⟩,bu.trans (aZ.trans bt),by dsimp only;omega⟩
   ·rw[if_neg oP,qG]at gm;have hpq:p=q:=Rat.le_antisymm hle (Rat.not_lt.1 oP)
    have ho:(bI p q != 0)=false:=by
     rw[hpq,zpN];rfl
    refine uR ?_;rw[ho];refine uR ?_;refine⟨(j+1,ps,_,cC),⟨rfl,by rw[wn];rfl,trivial⟩,sB,trivial,trivial,rfl,⟨by dsimp only;omega,by dsimp only;rw[gm];exact gC.mono (bu.trans aZ),aD⟩,bu.trans aZ,by dsimp only;omega⟩
  ·simp only[nN]at dJ;obtain rfl:j=V.length-1:=oM;(first|refine EVL.publishL [] cC [] ((qG _).symm) aD fun G6 bu CM=>?_|refine EV.publishL [] cC [] ((qG _).symm) aD fun G6 bu CM=>?_);have Fp:=gC.mono bu;refine uR ?_;show RL G6 (.slice ua ps.length uc) _;rw[Fp.1]at CM ⊢;exact Fp.rl CM
end
section
def jt (X:List (List Rat)) (cost:List Int->Rat) (es:List Int) (L c:Int) (ts:List Rat):List (Int × Rat × Rat) :=
 ts.flatMap fun t=>if L<=((aR X c t es).length:Int)/\L<=((bf X c t es).length:Int) then [(c,t,cost es-(cost (aR X c t es)+cost (bf X c t es)))] else []
def eX (X:List (List Rat)) (cost:List Int->Rat) (es:List Int) (L:Int) (cols:List Int):List (Int × Rat × Rat):=cols.flatMap fun c=>jt X cost es L c (plQ X c es)
theorem SX {key:Int->Rat} {m:List Int}:∀{n j:Nat},j<n->key (m.getD j 0)<key (m.getD (j+1) 0)->fp key m j∈xX key m n
 | 0,j,h,_=>by omega
 | n+1,j,h,af=>by
  unfold xX;by_cases e:j=n
  ·subst e;rw[if_pos af];exact List.mem_append_right _ (pK.2 Z)
  ·exact List.mem_append_left _ (SX (show j<n by omega) af)
theorem Tx (key:Int->Rat) (es:List Int):∃m,m.Perm es/\iT key m:=by
 refine⟨es.mergeSort fun a b=>decide (key a<=key b),List.mergeSort_perm _ _,?_⟩;have:=List.pairwise_mergeSort (le:=fun a b:Int=>decide (key a<=key b)) (fun a b c h1 h2=>by simp at h1 h2 ⊢;exact Rat.le_trans h1 h2) (fun a b=>by simp;exact Rat.le_total) es;exact List.pairwise_map.2 (this.imp fun h=>by simpa using h)
theorem TI {wo cost:List Int->Rat} (hp:POk wo cost) {es a b m:List Int} {j:Nat} (hm:m.Perm es) (hl:a.Perm (m.take (j+1))) (hh:b.Perm (m.drop (j+1))):cost es-(cost a+cost b)=fV wo m j-wo es:=by
 have cQ:(a++b).Perm es:=by
  refine(hl.append hh).trans ?_;rw[List.take_append_drop];exact hm
 have h1:=hp.gain cQ;have h2:=hp.wperm _ _ hl;have h3:=hp.wperm _ _ hh;have h4:fV wo m j=wo (m.take (j+1))+wo (m.drop (j+1)):=rfl;rw[h4,<-h2,<-h3];grind
theorem zrC {X:List (List Rat)} {wo cost:List Int->Rat} {es cols:List Int} {L:Int} (hp:POk wo cost) (p:Int × Rat × Rat):p∈eX X cost es L cols↔Ks X wo es cols L p:=by
 obtain⟨c,t,g⟩:=p;unfold eX jt;rw[List.mem_flatMap];constructor
 ·rintro⟨c',hc,h⟩;obtain⟨t',ht,h⟩:=List.mem_flatMap.1 h;split at h
  ·rename_i WE;rw[pK]at h;cases h;by_cases ha:es.all (cY X c)=true
   ·obtain⟨m,hm,hr⟩:=Tx (bD X c) es;rw[<-Lh (.inl ⟨ha,hm,hr⟩:BQ X c es m)]at ht;obtain⟨j,hj,af,rfl⟩:=LZ ht;have Wo:j+1<m.length:=oM;obtain⟨hl,hh⟩:=Iw hm hr (List.all_eq_true.1 ha) Wo af;have e1:=hl.length_eq;have e2:=hh.length_eq;rw[qP]at e1;rw[qt]at e2;exact⟨hc,ha,m,j,hm,hr,Wo,I3.2 ⟨by omega,by omega,af⟩,rfl,TI hp hm hl hh⟩
   ·unfold plQ at ht;rw[if_neg ha]at ht;cases ht
  ·cases h
 ·rintro⟨hc,ha,m,j,hm,hr,hj,dT,he,hg⟩;dsimp only at hc ha hr dT he hg;obtain⟨h1,h2,af⟩:=I3.1 dT;obtain⟨hl,hh⟩:=Iw hm hr (List.all_eq_true.1 ha) hj af;have e1:=hl.length_eq;have e2:=hh.length_eq;rw[qP]at e1;rw[qt]at e2;refine⟨c,hc,List.mem_flatMap.2 ⟨t,?_,?_⟩⟩
  ·rw[<-Lh (.inl ⟨ha,hm,hr⟩:BQ X c es m),he];exact SX oM af
  ·rw[he,if_pos ⟨by omega,by omega⟩,TI hp hm hl hh,hg];exact pK.2 Z
theorem Cm (l:List (Int × Rat × Rat)):zK l (l.foldl gK none):=by
 have key:∀(qs pre:List (Int × Rat × Rat)) (st:Option (Int × Rat × Rat)),zK pre st->zK (pre++qs) (qs.foldl gK st):=by
  intro qs
  induction qs with
  | nil=>intro pre st h;rw[qG];exact h
  | cons p qs ih =>
   intro pre st h;rw[show pre++p::qs=(pre++[p])++qs by simp];exact ih _ _ (znO h p)
 have:=key l [] none rfl;simpa using this
theorem zlm {X:List (List Rat)} {wo cost:List Int->Rat} {es cols:List Int} {L:Int} {ps:List (Int × Option (Rat × Rat))} (hp:POk wo cost) (eg:Dl cols (ps.map (·.1))) (gC:∀p,p∈ps->xS X wo es L p.1 p.2) :
  ((gP ps).map fun t=>(t.1,t.2.1,t.2.2-wo es))=(eX X cost es L cols).foldl gK none :=
 znN (zll hp eg gC) (Cm _).p fun p=>(zrC hp p).symm
end
section
structure Nd where
 col:Int
 left:Int
 right:Int
 rows:Int
 cls:Int
 at':Rat
 cost:Rat
 value:Rat
 counts:List Int
structure GP where
 X:List (List Rat)
 cost:List Int->Rat
 mean:List Int->Rat
 cnt:List Int->List Int
 least:Int
 gain:Rat
 cols:Int->List Int × Int
def GP.nd (p:GP) (rows:List Int):Nd:=⟨-1,0,0,(rows.length:Int),(topN (p.cnt rows) (p.cnt rows).length:Int),0,p.cost rows,p.mean rows,p.cnt rows⟩
def GP.best (p:GP) (rows cols:List Int):Option (Int × Rat × Rat):=(eX p.X p.cost rows (max 1 p.least) cols).foldl gK none
def GP.cut (p:GP) (rows cols:List Int):Option (Int × Rat):=match p.best rows cols with
 | some (c,t,g)=>if g<=p.gain then none else some (c,t)
 | none=>none
def GP.grow (p:GP):Nat->Nat->List Int->Int->List Nd × Int
 | 0,_,rows,s=>([p.nd rows],s)
 | d+1,k,rows,s=>match p.cut rows (p.cols s).1 with
  | none=>([p.nd rows],(p.cols s).2)
  | some (c,t) =>
   let L:=p.grow d (k+1) (aR p.X c t rows) (p.cols s).2
   let R:=p.grow d (k+1+L.1.length) (bf p.X c t rows) L.2
   ({p.nd rows with col:=c,left:=((k+1:Nat):Int),right:=((k+1+L.1.length:Nat):Int),at':=t}::(L.1++R.1),R.2)
theorem GP.grow_zero (p:GP) (k:Nat) (rows:List Int) (s:Int):p.grow 0 k rows s=([p.nd rows],s):=rfl
theorem GP.grow_none {p:GP} {d k:Nat} {rows:List Int} {s:Int} (h:p.cut rows (p.cols s).1=none):p.grow (d+1) k rows s=([p.nd rows],(p.cols s).2):=by
 rw[GP.grow,h]
theorem GP.grow_some {p:GP} {d k:Nat} {rows:List Int} {s:Int} {c:Int} {t:Rat} (h:p.cut rows (p.cols s).1=some (c,t)):p.grow (d+1) k rows s =
  ({p.nd rows with col:=c,left:=((k+1:Nat):Int),right:=((k+1+(p.grow d (k+1) (aR p.X c t rows) (p.cols s).2).1.length:Nat):Int),at':=t}::((p.grow d (k+1) (aR p.X c t rows) (p.cols s).2).1++(p.grow d (k+1+(p.grow d (k+1) (aR p.X c t rows) (p.cols s).2).1.length) (bf p.X c t rows) (p.grow d (k+1) (aR p.X c t rows) (p.cols s).2).2).1),(p.grow d (k+1+(p.grow d (k+1) (aR p.X c t rows) (p.cols s).2).1.length) (bf p.X c t rows) (p.grow d (k+1) (aR p.X c t rows) (p.cols s).2).2).2):=by
 rw[GP.grow,h]
theorem GP.grow_len (p:GP):∀(d k:Nat) (rows:List Int) (s:Int),1<=(p.grow d k rows s).1.length/\(p.grow d k rows s).1.length<2 ^ (d+1)
 | 0,k,rows,s=>by rw[GP.grow_zero];simp
 | d+1,k,rows,s=>by
  have hp:1<2 ^ (d+2):=Nat.one_lt_two_pow oM
  cases h:p.cut rows (p.cols s).1 with
  | none=>rw[GP.grow_none h];exact⟨qH _,hp⟩
  | some ct =>
   obtain⟨c,t⟩:=ct;rw[GP.grow_some h];have h1:=p.grow_len d (k+1) (aR p.X c t rows) (p.cols s).2;have h2:=p.grow_len d (k+1+(p.grow d (k+1) (aR p.X c t rows) (p.cols s).2).1.length) (bf p.X c t rows) (p.grow d (k+1) (aR p.X c t rows) (p.cols s).2).2;simp only[qR,qJ];have h3:2 ^ (d+1+1)=2 ^ (d+1)+2 ^ (d+1):=by rw[qX];omega
   omega
end
section
open Go.RowKit _root_.Go.Proofs.Tryz
section
variable {P:Program} {n:Nat} {ops:Array Oper} {tail:List Oper} {sb bx:Bxs} {H:Hs} {Q:EQ} {x:Nat->Value} {y:Nat->Ows} {au:Ows} {kl:List DK} {i:Nat} {o:Oper} {l:List Oper} {ks:List DK} {env:Env} {aw:Bxs} {Γ:fO} {τ:Tab} {d:Nat}
theorem DJ.plainE (hτ:bp P τ) (Φ:Value->Hp->Prop) (hm:∀v G G',Φ v G->G.Le G'->Φ v G') (hw:aP ops env o=some true) (hd:o.dst=some d) (hn:Nat.blt d n=true) (hv:∀G,dD ops i Γ G->∃v,tM τ env bx o.op=some (.v v)/\Φ v G)
  (h:DJ P n ops tail sb bx H Q x y kl (i+1) l ks ((d,.v (x i))::env) aw ((i,Φ (x i))::Γ) au):DJ P n ops tail sb bx H Q x y kl i (o::l) (.call Φ::ks) env aw Γ au :=
 DJ.ofCall (fun β a W G _ hf _ hb _ hs hF=>by
  obtain⟨v,hv,hΦ⟩:=hv G hF;obtain⟨u,hu,hr⟩:=Ck hτ hv (fun y s hm hy=>hs.op hm hy) hb hf;rw[if_pos (hs.want hw)];unfold Oper.wp;rw[hu,Oper.upon_value];have e:u=v:=hr;subst e;exact⟨u,G,rfl,hΦ,Hp.Le.refl G,hf,Below.refl _ _,Nw.refl _ _ _⟩) hd hn hm h
end
section
variable {n:Nat} {ops:Array Oper} {fuel:Nat} {L:Array Bool} {env:Env} {bx:Bxs} {H:Hs} {K:Env->Bxs->Hs->Prop} {d:Nat} {o:Oper} {v:Value}
end
section
variable {P:Program} {n:Nat} {ops:Array Oper} {o:Oper} {rest:List Oper} {env:Env} {bx:Bxs} {H:Hs} {Q:EQ} {d:Nat}
theorem EVL.neqnil {T T' e:TypeId} {x:Operand} {q:Option Addr} (hT:P.underlying T=some (.pointer e)) (ho:o.op=.binOp .neq T x (.const (.pointer none)) T') (hw:aP ops env o=some true) (hd:o.dst=some d) (hn:Nat.blt d n=true)
  (hx:env.op x=some (.v (.pointer q))) (h:EVL P n ops rest ((d,.v (.bool q.isSome))::env) bx H Q):EVL P n ops (o::rest) env bx H Q :=
 EVL.gen hw hd hn (fun ev W he=>by
  have ex:=he x _ (by simp[ho,Op.operands]) hx;have ey:=he (.const (.pointer none)) _ (by simp[ho,Op.operands]) rfl
  have hq:(Op.equalIn (9999+1) T (.pointer q) (.pointer none)).run P W=.ok (!q.isSome) W:=by
   unfold Op.equalIn;cases q <;> simp[run_underlying hT]
  have hm:Op.maxDepth=9999+1:=rfl;unfold execOp;simp[ho,ex,ey,eqGuard,binOp,Op.equal,hm,hq]) h
end
theorem zr1 {A c B:List Value} {k s f:Nat} (hA:A.length=k*s) (hf:f<=c.length):(A++(c++B)).take (k*s+f)=A++c.take f:=by
 rw[List.take_append,qO oM,hA,Nat.add_sub_cancel_left,List.take_append_of_le_length hf]
theorem zr0 {A c B:List Value} {k s f:Nat} (hA:A.length=k*s) (hf:f<=c.length):(A++(c++B)).drop (k*s+f)=c.drop f++B:=by
 rw[List.drop_append,List.drop_eq_nil_of_le oM,hA,Nat.add_sub_cancel_left,List.drop_append_of_le_length hf,pN]
theorem pR {A c B vs c':List Value} {k s f m q:Nat} (hA:A.length=k*s) (hq:q=k*s+f) (hm:vs.length=m) (hf:f+m<=c.length) (hc:c.take f++vs++c.drop (f+m)=c'):(A++(c++B)).take q++vs++(A++(c++B)).drop (q+m)=A++(c'++B):=by
 subst hq;rw[zr1 hA oM,Nat.add_assoc,zr0 hA hf,<-hc];simp only[qZ]
theorem zrX {cl:Int} {sv:Value} {la:Option Addr} {ln lc:Nat} {va:Option Addr} {vn vc:Nat}:PV prog 140 #[bG 1 cl (.slice la ln lc) (.slice va vn vc)] (.int .i64 (ln:Int)):=by
 refine PV.of_pc ?_;refine BD func140 ntmps140 ?_;refine uR ?_;rfl
theorem zrY {cl:Int} {la:Option Addr} {ln lc:Nat} {va:Option Addr} {vn vc:Nat}:PV prog 140 #[bG 2 cl (.slice la ln lc) (.slice va vn vc)] (.int .i64 (vn:Int)):=by
 refine PV.of_pc ?_;refine BD func140 ntmps140 ?_;refine uR ?_;rfl
theorem zob {H:Hp} {la:Option Addr} {lc:Nat} {va:Option Addr} {vn vc:Nat} (h0:1<=vn) (h1:vn<=300):PC prog 141 #[bG 2 0 (.slice la 0 lc) (.slice va vn vc)] H fun r _=>r=.int .i64 0:=by
 refine BD func141 ntmps141 ?_;refine uR ?_;rw[qC (show ¬(vn:Int)<1 by omega)];refine uR ?_;rw[qC (show ¬(vn:Int)>300 by omega)];refine uR ?_;rfl
theorem zoa {H:Hp} {la:Option Addr} {lc:Nat} {ls:List Int} (hv:IL H (.slice la ls.length lc) ls) {va:Option Addr} {vc:Nat} {cl:Int} (hc:1<=cl/\cl<=12) (h0:1<=ls.length) (h1:ls.length<=300) (dE:∀z,z∈ls->0<=z/\z<cl):PC prog 141 #[bG 1 cl (.slice la ls.length lc) (.slice va 0 vc)] H fun r _=>r=.int .i64 0:=by
 refine BD func141 ntmps141 ?_;refine uR ?_;rw[qC (show ¬(ls.length:Int)<1 by omega)];refine uR ?_;rw[qC (show ¬(ls.length:Int)>300 by omega)];refine uR ?_;rw[qC (show ¬cl<1 by omega)];refine uR ?_;rw[qC (show ¬cl>12 by omega)];refine uR ?_;refine EV.loopK (ι:=Nat) [1,3] [1] (fun i=>[(4,.v (.int .i64 (i:Int)))]) (fun _=>[]) (fun _=>[]) (fun i _=>i<=ls.length) (fun i=>ls.length-i) (0) Z Z ⟨Z,trivial⟩ trivial rfl (fun _=>rfl) (qQ _) ?_;rintro i G1 aj hi;refine uR ?_;refine EV.cond Z (fun af=>?_) (fun af=>?_)
 ·simp only[nN]at af;obtain⟨z,hz⟩:=gE af;have hb:=dE z (qF hz);have dP:=hv.mono aj;refine uR ?_;apply EV.drawn 15 kR kR;intro xv yw;(repeat refine' DD ?_);refine' vJ (dP) (i) (rfl) (af) ((by rw[qK,hz];rfl)) ?_;rotate_left;(repeat refine' DD ?_);rw[qC (show ¬z<0 by omega)];(repeat refine' DD ?_);refine' vJ (dP) (i) (rfl) (af) ((by rw[qK,hz];rfl)) ?_;rotate_left;(repeat refine' DD ?_);(refine DJ.nil (fun G2 ai fN=>?_);(case hS|hS2=>rfl));refine uR ?_;rw[qC (show ¬z>=cl by omega)];refine uR ?_;refine⟨i+1,⟨by rw[aO i (by omega)];rfl,trivial⟩,sB,trivial,sB,rfl,af,ai,by omega⟩
 ·try refine uR ?_
  rfl
abbrev BP:List Value:=[.int .i64 0,.bool false,.slice none 0 0,.slice none 0 0,.bool false,.slice none 0 0,.slice none 0 0]
theorem znP {H:Hp}:PC prog 186 #[.agg BP.toArray] H fun r H'=>RQ H' r 0:=by
 refine BD func186 ntmps186 ?_;refine uR ?_;refine vA (ju 0 (by decide) (by decide)) ?_;intro r2 G2 hq ai;obtain⟨xa,xl,xc,ya,yl,yc,rfl,gA,gZ⟩:=id hq;refine uR ?_;exact hq
theorem znQ {H:Hp} {c:Int} {b1:Bool} {s1 s2:Option Addr} {n1 c1 n2 c2:Nat} {y:Value} {g:Rat} (hy:RQ H y g):PC prog 186 #[.agg (.int .i64 c::([.bool b1,.slice s1 n1 c1,.slice s2 n2 c2]++aB y)).toArray] H fun r H'=>RQ H' r g:=by
 obtain⟨xa,xl,xc,ya,yl,yc,rfl,gA,gZ⟩:=id hy;have hl:yl=(dig B32 g.den).length:=SlN.cap gZ;have hne:yl≠0:=fun e=>g.den_nz (rO bN oM);refine BD func186 ntmps186 ?_;refine uR ?_;rw[show ((yl:Int) == 0)=false from pQ.2 (by omega)];refine uR ?_;exact hy
def gz (H:Hp) (cs:List Value) (n:Nd):Prop:=∃xa xc xv xs,RQ H xa n.at'/\RQ H xc n.cost/\RQ H xv n.value/\IL H xs n.counts /\
 cs=[.int .i64 n.col,.int .i64 n.left,.int .i64 n.right,.int .i64 n.rows,.int .i64 n.cls]++(aB xa++(aB xc++(aB xv++[xs])))
theorem gz.mono {H G:Hp} {cs:List Value} {n:Nd} (h:gz H cs n) (k:H.Le G):gz G cs n:=by
 obtain⟨xa,xc,xv,xs,h1,h2,h3,h4,e⟩:=h;exact⟨xa,xc,xv,xs,h1.mono k,h2.mono k,h3.mono k,h4.mono k,e⟩
theorem gz.cells {H:Hp} {cs:List Value} {n:Nd} (h:gz H cs n):∃b1 a1 l1 c1 a2 l2 c2 b3 a3 l3 c3 a4 l4 c4 b5 a5 l5 c5 a6 l6 c6 a7 c7,
  cs=[.int .i64 n.col,.int .i64 n.left,.int .i64 n.right,.int .i64 n.rows,.int .i64 n.cls,.bool b1,.slice a1 l1 c1,.slice a2 l2 c2,.bool b3,.slice a3 l3 c3,.slice a4 l4 c4,.bool b5,.slice a5 l5 c5,.slice a6 l6 c6,.slice a7 n.counts.length c7] /\
  RQ H (.agg #[.bool b1,.slice a1 l1 c1,.slice a2 l2 c2]) n.at'/\RQ H (.agg #[.bool b3,.slice a3 l3 c3,.slice a4 l4 c4]) n.cost/\RQ H (.agg #[.bool b5,.slice a5 l5 c5,.slice a6 l6 c6]) n.value/\IL H (.slice a7 n.counts.length c7) n.counts:=by
 obtain⟨xa,xc,xv,xs,h1,h2,h3,h4,e⟩:=h;obtain⟨a1,l1,c1,a2,l2,c2,rfl,_⟩:=id h1;obtain⟨a3,l3,c3,a4,l4,c4,rfl,_⟩:=id h2;obtain⟨a5,l5,c5,a6,l6,c6,rfl,_⟩:=id h3;obtain⟨a7,c7,rfl⟩:=SlC.val h4;exact⟨_,_,_,_,_,_,_,_,_,_,_,_,_,_,_,_,_,_,_,_,_,_,_,e,h1,h2,h3,h4⟩
structure zC (H:Hp) (g:Value) (kd:Int) (N:Nat) (cs mn:List Int->Rat) (cnt:List Int->List Int):Prop where
 counts:kd=1->∀G,H.Le G->∀u l,IL G u l->l.length<=300->PC prog 181 #[g,u] G fun r H'=>IL H' r (cnt (exL l N))
 no:kd≠1->∀l,cnt l=[]
 zero:kd=1->∀l,mn l=0
 cntlen:∀l,(cnt l).length<=12
 mean:∀G,H.Le G->∀u l,IL G u l->l.length<=300->PC prog 183 #[g,u] G fun r H'=>RQ H' r (mn (exL l N))
 msmall:∀l:List Int,l.length<=300->(∀r,r∈l->0<=r/\r<(N:Int))->ht (mn l)<=2000000
 cost:∀G,H.Le G->∀u l,IL G u l->l.length<=300->PC prog 180 #[g,u] G fun r H'=>RQ H' r (cs (exL l N))
 small:∀l:List Int,l.length<=300->(∀r,r∈l->0<=r/\r<(N:Int))->ht (cs l)<=2000000
 check:∀G,H.Le G->PC prog 141 #[g] G fun r _=>r=.int .i64 0
 len:PV prog 140 #[g] (.int .i64 (N:Int))
theorem zC.mono {H H':Hp} {g:Value} {kd:Int} {N:Nat} {cs mn:List Int->Rat} {cnt:List Int->List Int} (h:zC H g kd N cs mn cnt) (k:H.Le H'):zC H' g kd N cs mn cnt :=
 ⟨fun e G hG=>h.counts e G (k.trans hG),h.no,h.zero,h.cntlen,fun G hG=>h.mean G (k.trans hG),h.msmall,fun G hG=>h.cost G (k.trans hG),h.small,fun G hG=>h.check G (k.trans hG),h.len⟩
abbrev lW (kd cl:Int) (sl sv vx:Value) (deep least:Int) (g1 g2 g3 dv:Value) (sm:Int) (out:Value):List Value:=[.int .i64 kd,.int .i64 cl,sl,sv,vx,.int .i64 deep,.int .i64 least,g1,g2,g3,dv,.int .i64 sm,out]
abbrev XT (n:Nat) (x1 x2 x3:Value):Value:=.agg (([.int .i64 (-1),.int .i64 0,.int .i64 0,.int .i64 (n:Int),.int .i64 0]:List Value)++(aB x1++(aB x2++(aB x3++([.slice none 0 0]:List Value))))).toArray
theorem zrZ {H:Hp} {b:Nat} {T:TypeId} {kd cl deep least sm:Int} {la va xa:Option Addr} {ln lc vn vc xn xc:Nat} {g1 g2 g3 dv out vr:Value} {N:Nat} {p:GP} (hg:zC H (bG kd cl (.slice la ln lc) (.slice va vn vc)) kd N p.cost p.mean p.cnt) {rows:List Int} (hr:IL H vr rows) (hn:rows.length<=300) (hb:∀r,r∈rows->0<=r/\r<(N:Int)) :
  PW prog 142 #[.pointer (some ⟨b,0,none⟩),vr] H [(b,T,lW kd cl (.slice la ln lc) (.slice va vn vc) (.slice xa xn xc) deep least g1 g2 g3 dv sm out)] fun v ow H'=>ow=[(b,T,lW kd cl (.slice la ln lc) (.slice va vn vc) (.slice xa xn xc) deep least g1 g2 g3 dv sm out)]/\∃cs,v=.agg cs.toArray/\gz H' cs (p.nd rows):=by
 obtain⟨ra,rc,rfl⟩:=SlC.val hr;have hex:=yp hb;have eI:=fun (G:Hp) (hG:H.Le G)=>hg.cost G hG _ _ (hr.mono hG) hn;have gF:=fun (G:Hp) (hG:H.Le G)=>hg.mean G hG _ _ (hr.mono hG) hn;have fJ:=fun e (G:Hp) (hG:H.Le G)=>hg.counts e G hG _ _ (hr.mono hG) hn;rw[hex]at eI gF fJ;have cj:=hg.cntlen rows;refine PW.body tO func142 Z kR ntmps142 Z Z ?_;refine uR ?_;apply EV.drawn 12 kR kR;intro xv yw;(repeat refine' DD ?_);refine' vB (cO func8) (fun G hG hd=>ju 0 oM oM) (fun _ _ _ h k=>RQ.mono h k) ?_;rotate_left;(repeat (first|refine' DD ?_|refine' vN ?_|refine' vF ?_));refine' DJ.ofVal (az.loadOwn tO Z Z Z Z (0) Z (rfl) Z Z) Z Z Z ?_;rotate_left;(repeat refine' DD ?_);refine' vB (cO func180) (fun G hG hd=>eI G hG) (fun _ _ _ h k=>RQ.mono h k) ?_;rotate_left;refine' vB (cO func8) (fun G hG hd=>ju 0 oM oM) (fun _ _ _ h k=>RQ.mono h k) ?_;rotate_left
 (refine' DJ.plainE tO (fun v G=>∃x1 x2 x3,RQ G x1 ((0:Int):Rat)/\RQ G x2 (p.cost rows)/\RQ G x3 ((0:Int):Rat)/\v=XT rows.length x1 x2 x3) (fun v G G' ⟨x1,x2,x3,h1,h2,h3,e⟩ k=>⟨x1,x2,x3,h1.mono k,h2.mono k,h3.mono k,e⟩) Z Z Z (fun G hd=>(by
  obtain⟨a1,l1,c1,a2,l2,c2,e1,h1⟩:=hd.tail.tail.head kR;obtain⟨a3,l3,c3,a4,l4,c4,e2,h2⟩:=hd.tail.head kR;obtain⟨a5,l5,c5,a6,l6,c6,e3,h3⟩:=hd.head kR;refine⟨_,?_,_,_,_,⟨a1,l1,c1,a2,l2,c2,rfl,h1⟩,⟨a3,l3,c3,a4,l4,c4,rfl,h2⟩,⟨a5,l5,c5,a6,l6,c6,rfl,h3⟩,rfl⟩;rw[e1,e2,e3];rfl)) ?_;rotate_left)
 (repeat refine' DD ?_);(refine DJ.nil (fun G hG hF=>?_);(case hS|hS2=>rfl));obtain⟨⟨x1,x2,x3,h1,h2,h3,e⟩,_⟩:=hF;obtain⟨a1,l1,c1,a2,l2,c2,rfl,_⟩:=id h1;obtain⟨a3,l3,c3,a4,l4,c4,rfl,_⟩:=id h2;obtain⟨a5,l5,c5,a6,l6,c6,rfl,_⟩:=id h3;replace e:_=Value.agg #[.int .i64 (-1),.int .i64 0,.int .i64 0,.int .i64 (rows.length:Int),.int .i64 0,.bool (decide (((0:Int):Rat).num<0)),.slice a1 l1 c1,.slice a2 l2 c2,.bool (decide ((p.cost rows).num<0)),.slice a3 l3 c3,.slice a4 l4 c4,.bool (decide (((0:Int):Rat).num<0)),.slice a5 l5 c5,.slice a6 l6 c6,.slice none 0 0]:=e;rw[e];refine uR ?_;refine RP ?_;refine EVL.loadOwn tO Z Z Z Z Z Z (0) Z (rfl) Z Z ?_;refine uR ?_;by_cases hk:kd=1
 ·subst hk;refine uR ?_;refine RP ?_;refine EVL.loadOwn tO Z Z Z Z Z Z (0) Z (rfl) Z Z ?_;refine uR ?_;refine vA (fJ Z _ hG) ?_;intro r5 G5 wL bj;obtain⟨a7,c7,rfl⟩:=SlC.val wL;refine uR ?_;refine EVL.call Z Z Z Z Z (zp7 wL oM) ?_;rintro _ G6 rfl bu;refine uR ?_;refine⟨rfl,_,rfl,_,_,.agg #[_,.slice a5 l5 c5,.slice a6 l6 c6],_,h1.mono (bj.trans bu),h2.mono (bj.trans bu),?_,wL.mono bu,rfl⟩;rw[show (p.nd rows).value=p.mean rows from rfl,hg.zero rfl];exact h3.mono (bj.trans bu)
 ·rw[show (kd == 1)=false from pQ.2 hk];have bF:=hg.no hk rows;refine uR ?_;refine RP ?_;refine EVL.loadOwn tO Z Z Z Z Z Z (0) Z (rfl) Z Z ?_;refine uR ?_;refine vA (gF _ hG) ?_;intro r5 G5 wL bj;obtain⟨a8,l8,c8,a9,l9,c9,rfl,_⟩:=id wL;refine uR ?_;refine⟨rfl,_,rfl,.agg #[_,.slice a1 l1 c1,.slice a2 l2 c2],_,_,.slice none 0 0,h1.mono bj,h2.mono bj,wL,?_,?_⟩
  ·rw[show (p.nd rows).counts=p.cnt rows from rfl,bF];exact IL.nil _ _ _
  ·rw[show (p.nd rows).cls=(topN (p.cnt rows) (p.cnt rows).length:Int) from rfl,bF];rfl
def vh (G:Hp) (st:Option (Int × Rat × Rat)) (cs:List Value):Prop:=match st with
 | none=>cs=BP
 | some (c,t,g)=>∃x y,RQ G x t/\RQ G y g/\cs=.int .i64 c::(aB x++aB y)
theorem vh.mono {G G':Hp} {st:Option (Int × Rat × Rat)} {cs:List Value} (h:vh G st cs) (k:G.Le G'):vh G' st cs:=by
 cases st with
 | none=>exact h
 | some p =>
  obtain⟨x,y,h1,h2,h3⟩:=h;exact⟨x,y,h1.mono k,h2.mono k,h3⟩
theorem KK {X:List (List Rat)} (h:∀x,x∈X->∀q,q∈x->ht q<=60) {c:Int} {es:List Int} {t:Rat} (aM:t∈plQ X c es):ht t<=200:=by
 by_cases ha:es.all (cY X c)=true
 ·obtain⟨m,hm,hr⟩:=Tx (bD X c) es;rw[<-Lh (.inl ⟨ha,hm,hr⟩:BQ X c es m)]at aM;obtain⟨j,_,_,rfl⟩:=LZ aM;exact zpv h c m j
 ·unfold plQ at aM;rw[if_neg ha]at aM;cases aM
theorem Ze (X:List (List Rat)) (c:Int) (es:List Int):(plQ X c es).length<=es.length:=by
 unfold plQ;split
 ·have:=LY (gw (es.map (bD X c))) (es.length-1);omega
 ·exact qQ _
theorem zq6 {X:List (List Rat)} {cost:List Int->Rat} {es cols:List Int} {L c:Int} {i:Nat} (h:cols[i]?=some c):eX X cost es L (cols.take (i+1))=eX X cost es L (cols.take i)++jt X cost es L c (plQ X c es):=by
 unfold eX;rw[dZ h,List.flatMap_append];simp
theorem zo9 {X:List (List Rat)} {cost:List Int->Rat} {es:List Int} {L c:Int} {ts:List Rat} {j:Nat} {t:Rat} (h:ts[j]?=some t):jt X cost es L c (ts.take (j+1))=jt X cost es L c (ts.take j)++if L<=((aR X c t es).length:Int)/\L<=((bf X c t es).length:Int) then [(c,t,cost es-(cost (aR X c t es)+cost (bf X c t es)))] else []:=by
 unfold jt;rw[dZ h,List.flatMap_append];simp
theorem Iz (a b:Rat):bI a b>0↔b<a:=by
 unfold bI;split
 ·rename_i h;exact⟨fun k=>absurd k (by decide),fun k=>by exfalso;grind⟩
 ·split
  ·rename_i h;exact⟨fun _=>h,fun _=>by decide⟩
  ·rename_i h;exact⟨fun k=>absurd k (by decide),fun k=>absurd k h⟩
theorem Lj (a b:Rat):bI a b<0↔a<b:=by
 unfold bI;split
 ·rename_i h;exact⟨fun _=>h,fun _=>by decide⟩
 ·rename_i h;split
  ·exact⟨fun k=>absurd k (by decide),fun k=>absurd k h⟩
  ·exact⟨fun k=>absurd k (by decide),fun k=>absurd k h⟩
theorem zrH (a b:Rat):(bI a b == 0)=decide (a=b):=by
 unfold bI;split
 ·rename_i h;rw[qC (fun e=>by subst e;exact Rat.lt_irrefl h)];rfl
 ·split
  ·rename_i h;rw[qC (fun e=>by subst e;exact Rat.lt_irrefl h)];rfl
  ·rename_i h1 h2;rw[qD (Rat.le_antisymm (Rat.not_lt.1 h2) (Rat.not_lt.1 h1))];rfl
theorem UF {X:List (List Rat)} {cost:List Int->Rat} {es:List Int} {n:Nat} {L c:Int} {ts:List Rat} (hs:∀l:List Int,l.length<=300->(∀r,r∈l->0<=r/\r<(n:Int))->ht (cost l)<=2000000) (he:es.length<=300) (hb:∀r,r∈es->0<=r/\r<(n:Int)) (bq:∀t,t∈ts->ht t<=200) {p:Int × Rat × Rat} (h:p∈jt X cost es L c ts):ht p.2.1<=200/\ht p.2.2<=8000000:=by
 unfold jt at h;obtain⟨t,aM,hp⟩:=List.mem_flatMap.1 h;split at hp
 ·obtain rfl:=pK.1 hp;have h1:=hs _ (qI (List.length_filter_le _ _) he:(aR X c t es).length<=300) (fun r hr=>hb r (List.mem_filter.mp hr).1);have h2:=hs _ (qI (List.length_filter_le _ _) he:(bf X c t es).length<=300) (fun r hr=>hb r (List.mem_filter.mp hr).1);have h3:=hs es he hb;have h4:=pB (cost (aR X c t es)) (cost (bf X c t es));have h5:=DE (cost es) (cost (aR X c t es)+cost (bf X c t es));exact⟨bq t aM,by dsimp only;omega⟩
 ·cases hp
theorem L7 {X:List (List Rat)} {cost:List Int->Rat} {es:List Int} {n:Nat} {L:Int} {cols:List Int} (hs:∀l:List Int,l.length<=300->(∀r,r∈l->0<=r/\r<(n:Int))->ht (cost l)<=2000000) (he:es.length<=300) (hb:∀r,r∈es->0<=r/\r<(n:Int)) (hq:∀x,x∈X->∀q,q∈x->ht q<=60) {p:Int × Rat × Rat} (h:p∈eX X cost es L cols):ht p.2.1<=200/\ht p.2.2<=8000000:=by
 unfold eX at h;obtain⟨c,_,hp⟩:=List.mem_flatMap.1 h;exact UF hs he hb (fun t aM=>KK hq aM) hp
theorem zof {H:Hp} {kd cl:Int} {la va:Option Addr} {ln lc vn vc:Nat} {vx vr Eo:Value} {X:List (List Rat)} {rs cols:List Int} {least:Int} {cost:List Int->Rat}
  (fl:PC prog 141 #[bG kd cl (.slice la ln lc) (.slice va vn vc)] H fun r _=>r=.int .i64 0) (hlen:PV prog 140 #[bG kd cl (.slice la ln lc) (.slice va vn vc)] (.int .i64 (X.length:Int)))
  (eI:∀G,H.Le G->∀u l,IL G u l->l.length<=300->PC prog 180 #[bG kd cl (.slice la ln lc) (.slice va vn vc),u] G fun r H'=>RQ H' r (cost (exL l X.length)))
  (fY:∀l:List Int,l.length<=300->(∀r,r∈l->0<=r/\r<(X.length:Int))->ht (cost l)<=2000000)
  (hX:RLL H vx X) (hq:∀x,x∈X->∀q,q∈x->ht q<=60) (hr:IL H vr rs) (hn:rs.length<=300) (hc:IL H Eo cols) (oW:cols.length<=1000) :
  PC prog 144 #[bG kd cl (.slice la ln lc) (.slice va vn vc),vx,vr,Eo,.int .i64 least] H fun r H'=>∃cs,vh H' ((eX X cost (exL rs X.length) (max 1 least) cols).foldl gK none) cs/\r=.tuple #[.agg cs.toArray,.bool ((eX X cost (exL rs X.length) (max 1 least) cols).foldl gK none).isSome]:=by
 have jl:=kU rs X.length;have mm:=uf (rs:=rs) (n:=X.length);have uC:∀x,x∈X->∀q,q∈x->rq q:=fun x hx q hm=>qI (hq x hx q hm) oM;obtain⟨ra,rc,rfl⟩:=SlC.val hr;obtain⟨xa,xc,rfl⟩:=hX.val;obtain⟨ca,cc,rfl⟩:=SlC.val hc;refine BD func144 ntmps144 ?_
 repeat (first|refine RUN ?_|refine CV (fl) ?_|refine CV (hlen) ?_|refine CE (fl) ?_|refine CE (hlen) ?_)
 rw[show ((X.length:Int) != (X.length:Int))=false from pP _];refine uR ?_;refine vA (eI _ (Hp.Le.refl _) _ _ hr hn) ?_;intro rall G1 av aj;obtain⟨wa,wl,wc,za,zl,zc,rfl,nz,mO⟩:=id av;have VR:=fY (exL rs X.length) oM mm;refine uR ?_;refine EV.loopK (ι:=Nat × List Value) [1,2,3,4,5,10,12,14] [5,10,14] (fun q=>[(13,.v (.bool ((eX X cost (exL rs X.length) (max 1 least) (cols.take q.1)).foldl gK none).isSome)),(15,.v (.int .i64 (q.1:Int)))]) (fun q=>[(12,217,q.2)]) (fun _=>[]) (fun q G=>q.1<=cols.length/\vh G ((eX X cost (exL rs X.length) (max 1 least) (cols.take q.1)).foldl gK none) q.2) (fun q=>cols.length-q.1) ((0,BP)) Z Z ⟨Z,Z,trivial⟩ ⟨Z,trivial⟩ rfl (fun _=>rfl) (⟨qQ _,rfl⟩) ?_;rintro⟨i,cs⟩ G2 ai ⟨hi,bC⟩;dsimp only at hi bC;refine uR ?_;refine EV.cond Z (fun af=>?_) (fun af=>?_)
 ·simp only[nN]at af;obtain⟨c,oY⟩:=gE af;have iG:=aj.trans ai;have fk:=zq6 (X:=X) (cost:=cost) (es:=exL rs X.length) (L:=max 1 least) oY;have Fs:∀t,t∈plQ X c (exL rs X.length)->ht t<=200:=fun t hm=>KK hq hm;refine uR ?_;refine vI ((hc.mono iG)) (i) (rfl) (af) ((by rw[qK,oY];rfl)) ?_;refine uR ?_;refine vA (zkG (col:=c) (hX.mono iG) (hr.mono iG) hn hq) ?_;intro rp G3 hP ax;have hpll:(plQ X c (exL rs X.length)).length<=300:=by have:=Ze X c (exL rs X.length);omega
  generalize plQ X c (exL rs X.length)=P at *
  obtain⟨pa,pc,rfl⟩:=hP.val;refine uR ?_;refine EV.loopK (ι:=Nat × List Value) [1,2,3,4,5,10,12,14,15,16] [5,10,14] (fun q=>[(13,.v (.bool ((eX X cost (exL rs X.length) (max 1 least) (cols.take i)++jt X cost (exL rs X.length) (max 1 least) c (P.take q.1)).foldl gK none).isSome)),(17,.v (.int .i64 (q.1:Int)))]) (fun q=>[(12,217,q.2)]) (fun _=>[]) (fun q G=>q.1<=P.length/\vh G ((eX X cost (exL rs X.length) (max 1 least) (cols.take i)++jt X cost (exL rs X.length) (max 1 least) c (P.take q.1)).foldl gK none) q.2) (fun q=>P.length-q.1) ((0,cs)) Z Z ⟨by rw[show jt X cost (exL rs X.length) (max 1 least) c (P.take 0)=[] from rfl,qG];rfl,rfl,trivial⟩ ⟨Z,trivial⟩ rfl (fun _=>rfl) (⟨qQ _,by rw[show jt X cost (exL rs X.length) (max 1 least) c (P.take 0)=[] from rfl,qG];exact bC.mono ax⟩) ?_;rintro⟨j,uX⟩ G4 aT ⟨hj,jo⟩;dsimp only at hj jo;refine uR ?_;refine EV.cond Z (fun dJ=>?_) (fun dJ=>?_)
  ·simp only[nN]at dJ;obtain⟨t,N1⟩:=gE dJ;have mP:=Fs t (qF N1);have ld:=zo9 (X:=X) (cost:=cost) (es:=exL rs X.length) (L:=max 1 least) (c:=c) N1;have hP4:=hP.mono aT;have fU:=iG.trans (ax.trans aT);have hc4:=hc.mono fU;obtain⟨vs,y,hs,xk,hy⟩:=hP4.at N1;obtain⟨ya,yl,yc,yb,ym,yd,rfl,jV,iM⟩:=id hy;have wn:IntKind.i64.wrap ((j:Int)+1)=((j+1:Nat):Int):=aO j oM;refine uR ?_;apply EV.drawn 15 kR kR;intro xv yw;(repeat refine' DD ?_);refine' vJ (hc4) (i) (rfl) (af) ((by rw[qK,oY];rfl)) ?_;rotate_left;(repeat refine' DD ?_);refine' DJ.idxM tO Z Z Z Z Z Z Z Z Z (hs) (j) (rfl) (dJ) (xk) ?_;rotate_left;(repeat refine' DD ?_);refine' vB (cO func145) (fun G hG hd=>Ut (col:=c) (t:=t) ((hX.mono fU).mono hG) ((hr.mono fU).mono hG) oM uC (RQ.mono hy hG) (qI mP oM)) (fun _ _ _ h k=>(by obtain⟨u,w,e,hu,hw⟩:=h;exact⟨u,w,e,hu.mono k,hw.mono k⟩)) ?_;rotate_left;refine' DJ.copy (10) (by first|exact .inl rfl|exact .inr Z) Z Z Z id Z kR ?_;rotate_left;refine' DJ.extract (10) Z Z Z Z Z kR (fun G hd=>(by obtain⟨u,w,e,_⟩:=hd.head kR;exact⟨_,e,Nat.zero_lt_succ _⟩)) ?_;rotate_left;refine' DJ.extract (10) Z Z Z Z Z kR (fun G hd=>(by obtain⟨u,w,e,_⟩:=hd.head kR;exact⟨_,e,Nat.lt_succ_self _⟩)) ?_;rotate_left;refine' DJ.copy (10) (.inr Z) Z Z Z (js 0) Z kR ?_;rotate_left;(refine DJ.nil (fun G hG hF=>?_);(case hS|hS2=>rfl));obtain⟨⟨u,w,e,hu,hw⟩,_⟩:=hF;rw[e];obtain⟨ua,uc,rfl⟩:=SlC.val hu;obtain⟨Ae,Ad,rfl⟩:=SlC.val hw;rw[show js 0 (Value.tuple #[.slice ua (aR X c t (exL rs X.length)).length uc,.slice Ae (bf X c t (exL rs X.length)).length Ad])=.slice ua (aR X c t (exL rs X.length)).length uc from rfl,show js 1 (Value.tuple #[.slice ua (aR X c t (exL rs X.length)).length uc,.slice Ae (bf X c t (exL rs X.length)).length Ad])=.slice Ae (bf X c t (exL rs X.length)).length Ad from rfl];refine uR ?_;rw[show (if least>1 then least else 1)=max 1 least by omega];have oR:(aR X c t (exL rs X.length)).length<=300:=qI (List.length_filter_le _ _) oM;have oU:(bf X c t (exL rs X.length)).length<=300:=qI (List.length_filter_le _ _) oM;have oQ:∀r,r∈aR X c t (exL rs X.length)->0<=r/\r<(X.length:Int):=fun r hr=>mm r (List.mem_filter.mp hr).1;have oT:∀r,r∈bf X c t (exL rs X.length)->0<=r/\r<(X.length:Int):=fun r hr=>mm r (List.mem_filter.mp hr).1;have er:exL (aR X c t (exL rs X.length)) X.length=aR X c t (exL rs X.length):=yp oQ;have hxh:exL (bf X c t (exL rs X.length)) X.length=bf X c t (exL rs X.length):=yp oT;generalize OU:aR X c t (exL rs X.length)=lo at *
   generalize Pm:bf X c t (exL rs X.length)=ef at *
   generalize W7:max 1 least=L at *
   by_cases F9:(lo.length:Int)<L
   ·rw[qD F9];rw[if_neg oM,qG]at ld;refine uR ?_;refine⟨(j+1,uX),⟨by dsimp only;rw[ld];rfl,by dsimp only;rw[wn];rfl,trivial⟩,sB,⟨Z,trivial⟩,sB,rfl,⟨dJ,by rw[ld];exact jo.mono hG⟩,hG,by dsimp only;omega⟩
   rw[qC F9];refine uR ?_;rw[show (if least>1 then least else 1)=L by omega];by_cases Gb:(ef.length:Int)<L
   ·rw[qD Gb];rw[if_neg oM,qG]at ld;refine uR ?_;refine⟨(j+1,uX),⟨by dsimp only;rw[ld];rfl,by dsimp only;rw[wn];rfl,trivial⟩,sB,⟨Z,trivial⟩,sB,rfl,⟨dJ,by rw[ld];exact jo.mono hG⟩,hG,by dsimp only;omega⟩
   rw[qC Gb];rw[if_pos ⟨by omega,by omega⟩]at ld;have jK:=fU.trans hG;have hc5:=hc.mono jK;have JB:=hs.mono hG;have VC:=RQ.mono hy hG;have PL:=RQ.mono av (ai.trans (ax.trans (aT.trans hG)));have hslo:=fY lo oR oQ;have hshi:=fY ef oU oT;have F8:∀G',G.Le G'->PC prog 180 #[bG kd cl (.slice la ln lc) (.slice va vn vc),.slice ua lo.length uc] G' fun r H'=>RQ H' r (cost lo):=fun G' k=>by have:=eI G' (jK.trans k) _ _ (hu.mono k) oR;rwa [er]at this
   have Ga:∀G',G.Le G'->PC prog 180 #[bG kd cl (.slice la ln lc) (.slice va vn vc),.slice Ae ef.length Ad] G' fun r H'=>RQ H' r (cost ef):=fun G' k=>by have:=eI G' (jK.trans k) _ _ (hw.mono k) oU;rwa [hxh]at this
   have bk:rq (cost lo+cost ef):=by have:=pB (cost lo) (cost ef);unfold rq;omega
   have cK:rq (cost (exL rs X.length)-(cost lo+cost ef)):=by have h1:=pB (cost lo) (cost ef);have h2:=DE (cost (exL rs X.length)) (cost lo+cost ef);unfold rq;omega
   refine uR ?_;apply EV.drawn 19 kR kR;intro xv yw;(repeat refine' DD ?_);refine' vJ (hc5) (i) (rfl) (af) ((by rw[qK,oY];rfl)) ?_;rotate_left;(repeat refine' DD ?_);refine' DJ.idxM tO Z Z Z Z Z Z Z Z Z (JB) (j) (rfl) (dJ) (xk) ?_;rotate_left;(repeat refine' DD ?_);refine' vB (cO func180) (fun G hG hd=>F8 G hG) (fun _ _ _ h k=>RQ.mono h k) ?_;rotate_left;(repeat refine' DD ?_);refine' vB (cO func180) (fun G hG hd=>Ga G hG) (fun _ _ _ h k=>RQ.mono h k) ?_;rotate_left;(repeat refine' DD ?_);refine' vB (cO func92) (fun G hG hd=>Ct (hd.tail.head kR) (hd.head kR) (by unfold rq;omega) (by unfold rq;omega)) (fun _ _ _ h k=>RQ.mono h k) ?_;rotate_left;(repeat refine' DD ?_);refine' vB (cO func46) (fun G hG hd=>D8 (PL.mono hG) (hd.head kR) (by unfold rq;omega) bk) (fun _ _ _ h k=>RQ.mono h k) ?_;rotate_left;refine' DJ.fnP tO (16) (fun v=>Value.agg (Value.int IntKind.i64 c::(([Value.bool (decide (t.num<0)),Value.slice ya yl yc,Value.slice yb ym yd]:List Value)++aB v)).toArray) Z Z Z kR (fun G hd=>(by obtain⟨sa,sl,sc,ta,tl,tc,e,_⟩:=(show RQ G (xv 16) (cost (exL rs X.length)-(cost lo+cost ef)) from hd.head kR);rw[show xv (0+1+1+1+1+1+1+1+1+1+1+1+1+1+1+1+1)=xv 16 from rfl,e];rfl)) ?_;rotate_left;(repeat refine' DD ?_);(refine DJ.nil (fun G7 aZ Da=>?_);(case hS|hS2=>rfl));obtain⟨h16,_⟩:=Da;have lD:RQ G7 (xv 16) (cost (exL rs X.length)-(cost lo+cost ef)):=h16;obtain⟨sa,sl,sc,ta,tl,tc,Xp,_⟩:=id lD;have Qx:xv (0+1+1+1+1+1+1+1+1+1+1+1+1+1+1+1+1)=_:=Xp;rw[Qx];rw[Xp]at lD;rw[show (Value.agg (Value.int .i64 c::(([Value.bool (decide (t.num<0)),Value.slice ya yl yc,Value.slice yb ym yd]:List Value)++aB (.agg #[.bool (decide ((cost (exL rs X.length)-(cost lo+cost ef)).num<0)),.slice sa sl sc,.slice ta tl tc]))).toArray)=.agg #[.int .i64 c,.bool (decide (t.num<0)),.slice ya yl yc,.slice yb ym yd,.bool (decide ((cost (exL rs X.length)-(cost lo+cost ef)).num<0)),.slice sa sl sc,.slice ta tl tc] from rfl];refine uR ?_;have aK:vh G7 (List.foldl gK none (eX X cost (exL rs X.length) L (cols.take i)++jt X cost (exL rs X.length) L c (P.take j))) uX:=jo.mono (hG.trans aZ);have aL:List.foldl gK none (eX X cost (exL rs X.length) L (cols.take i)++jt X cost (exL rs X.length) L c (P.take (j+1)))=gK (List.foldl gK none (eX X cost (exL rs X.length) L (cols.take i)++jt X cost (exL rs X.length) L c (P.take j))) (c,t,cost (exL rs X.length)-(cost lo+cost ef)):=by rw[ld,<-qZ,List.foldl_append];rfl
   have N3:∀p,List.foldl gK none (eX X cost (exL rs X.length) L (cols.take i)++jt X cost (exL rs X.length) L c (P.take j))=some p->ht p.2.1<=200/\ht p.2.2<=8000000:=fun p e=>by
    have hf:=Cm (eX X cost (exL rs X.length) L (cols.take i)++jt X cost (exL rs X.length) L c (P.take j));rw[e]at hf;rcases List.mem_append.1 hf.1 with hm | hm
    ·exact L7 fY oM mm hq hm
    ·exact UF fY oM mm (fun t hm=>Fs t (List.mem_of_mem_take hm)) hm
   generalize List.foldl gK none (eX X cost (exL rs X.length) L (cols.take i)++jt X cost (exL rs X.length) L c (P.take j))=st at *
   cases st with
   | none =>
    have tj:uX=BP:=aK;subst tj;apply EV.drawn 4 kR kR;intro xv yw;(repeat refine' DD ?_);refine' vB (cO func186) (fun G hG hd=>znP) (fun _ _ _ h k=>RQ.mono h k) ?_;rotate_left;(repeat refine' DD ?_);(refine DJ.nil (fun G8 bt uT=>?_);(case hS|hS2=>rfl));obtain⟨h3,_⟩:=uT;refine uR ?_;refine vA (kz (RQ.mono lD bt) h3 cK (by unfold rq;rw[rK];decide)) ?_;rintro _ G9 rfl dG;refine uR ?_;refine⟨(j+1,[.int .i64 c,.bool (decide (t.num<0)),.slice ya yl yc,.slice yb ym yd,.bool (decide ((cost (exL rs X.length)-(cost lo+cost ef)).num<0)),.slice sa sl sc,.slice ta tl tc]),⟨by dsimp only;rw[aL];rfl,by dsimp only;rw[wn];rfl,trivial⟩,sB,⟨Z,trivial⟩,sB,rfl,⟨dJ,by rw[aL];exact⟨_,_,RQ.mono VC (aZ.trans (bt.trans dG)),RQ.mono lD (bt.trans dG),rfl⟩⟩,hG.trans (aZ.trans (bt.trans dG)),by dsimp only;omega⟩
   | some p =>
    obtain⟨c1,t1,g1⟩:=p;obtain⟨bq,gm⟩:=N3 _ rfl;dsimp only at bq gm;obtain⟨x1,y1,wB,oD,rfl⟩:=aK;obtain⟨M8,M4,M6,M7,M3,M5,rfl,lq,gi⟩:=id wB;obtain⟨M1,MV,MX,MY,MU,MW,rfl,uH,V7⟩:=id oD;apply EV.drawn 4 kR kR;intro xv yw;(repeat refine' DD ?_);refine' vB (cO func186) (fun G hG hd=>znQ (oD.mono hG)) (fun _ _ _ h k=>RQ.mono h k) ?_;rotate_left;(repeat refine' DD ?_);(refine DJ.nil (fun G8 bt uT=>?_);(case hS|hS2=>rfl));obtain⟨h3,_⟩:=uT;refine uR ?_;refine vA (kz (RQ.mono lD bt) h3 cK (by unfold rq;omega)) ?_;rintro _ G9 rfl dG;have yX:=RQ.mono wB (bt.trans dG);have CQ:=RQ.mono VC (aZ.trans (bt.trans dG));generalize Wu:cost (exL rs X.length)-(cost lo+cost ef)=g at *
    have hT:kK (c,t,g) (c1,t1,g1)->gK (some (c1,t1,g1)) (c,t,g)=some (c,t,g):=fun k=>if_pos k;have hK:¬kK (c,t,g) (c1,t1,g1)->gK (some (c1,t1,g1)) (c,t,g)=some (c1,t1,g1):=fun k=>if_neg k;refine uR ?_;by_cases hgt:g1<g
    ·rw[qD ((Iz g g1).2 hgt)];rw[hT (.inl hgt)]at aL;refine uR ?_;refine⟨(j+1,[.int .i64 c,.bool (decide (t.num<0)),.slice ya yl yc,.slice yb ym yd,.bool (decide (g.num<0)),.slice sa sl sc,.slice ta tl tc]),⟨by dsimp only;rw[aL];rfl,by dsimp only;rw[wn];rfl,trivial⟩,sB,⟨Z,trivial⟩,sB,rfl,⟨dJ,by rw[aL];exact⟨_,_,CQ.mono (Hp.Le.refl _),(RQ.mono lD (bt.trans dG)).mono (Hp.Le.refl _),rfl⟩⟩,(hG.trans (aZ.trans (bt.trans dG))).trans (Hp.Le.refl _),by dsimp only;omega⟩
    rw[qC (fun k=>hgt ((Iz g g1).1 k))];refine uR ?_;rw[zrH];by_cases heq:g=g1
    ·rw[qD heq];refine uR ?_;by_cases eA:c<c1
     ·rw[qD eA];rw[hT (.inr ⟨heq,.inl eA⟩)]at aL;refine uR ?_;refine⟨(j+1,[.int .i64 c,.bool (decide (t.num<0)),.slice ya yl yc,.slice yb ym yd,.bool (decide (g.num<0)),.slice sa sl sc,.slice ta tl tc]),⟨by dsimp only;rw[aL];rfl,by dsimp only;rw[wn];rfl,trivial⟩,sB,⟨Z,trivial⟩,sB,rfl,⟨dJ,by rw[aL];exact⟨_,_,CQ.mono (Hp.Le.refl _),(RQ.mono lD (bt.trans dG)).mono (Hp.Le.refl _),rfl⟩⟩,(hG.trans (aZ.trans (bt.trans dG))).trans (Hp.Le.refl _),by dsimp only;omega⟩
     rw[qC eA];refine uR ?_;by_cases cM:c=c1
     ·rw[show (c == c1)=true from beq_iff_eq.2 cM];refine uR ?_;refine vA (kz CQ yX (by unfold rq;omega) (by unfold rq;omega)) ?_;rintro _ G10 rfl fL;refine uR ?_;by_cases NY:t<t1
      ·rw[qD ((Lj t t1).2 NY)];rw[hT (.inr ⟨heq,.inr ⟨cM,NY⟩⟩)]at aL;refine uR ?_;refine⟨(j+1,[.int .i64 c,.bool (decide (t.num<0)),.slice ya yl yc,.slice yb ym yd,.bool (decide (g.num<0)),.slice sa sl sc,.slice ta tl tc]),⟨by dsimp only;rw[aL];rfl,by dsimp only;rw[wn];rfl,trivial⟩,sB,⟨Z,trivial⟩,sB,rfl,⟨dJ,by rw[aL];exact⟨_,_,CQ.mono fL,(RQ.mono lD (bt.trans dG)).mono fL,rfl⟩⟩,(hG.trans (aZ.trans (bt.trans dG))).trans fL,by dsimp only;omega⟩
      rw[qC (fun k=>NY ((Lj t t1).1 k))];rw[hK (fun k=>by rcases k with k | ⟨_,k | ⟨_,k⟩⟩ <;> contradiction)]at aL;refine uR ?_;refine⟨(j+1,[.int .i64 c1,.bool (decide (t1.num<0)),.slice M8 M4 M6,.slice M7 M3 M5,.bool (decide (g1.num<0)),.slice M1 MV MX,.slice MY MU MW]),⟨by dsimp only;rw[aL];rfl,by dsimp only;rw[wn];rfl,trivial⟩,sB,⟨Z,trivial⟩,sB,rfl,⟨dJ,by rw[aL];exact⟨_,_,yX.mono fL,(RQ.mono oD (bt.trans dG)).mono fL,rfl⟩⟩,(hG.trans (aZ.trans (bt.trans dG))).trans fL,by dsimp only;omega⟩
     rw[show (c == c1)=false from pQ.2 cM];rw[hK (fun k=>by rcases k with k | ⟨_,k | ⟨k,_⟩⟩ <;> contradiction)]at aL;refine uR ?_;refine⟨(j+1,[.int .i64 c1,.bool (decide (t1.num<0)),.slice M8 M4 M6,.slice M7 M3 M5,.bool (decide (g1.num<0)),.slice M1 MV MX,.slice MY MU MW]),⟨by dsimp only;rw[aL];rfl,by dsimp only;rw[wn];rfl,trivial⟩,sB,⟨Z,trivial⟩,sB,rfl,⟨dJ,by rw[aL];exact⟨_,_,yX.mono (Hp.Le.refl _),(RQ.mono oD (bt.trans dG)).mono (Hp.Le.refl _),rfl⟩⟩,(hG.trans (aZ.trans (bt.trans dG))).trans (Hp.Le.refl _),by dsimp only;omega⟩
    rw[qC heq];rw[hK (fun k=>by rcases k with k | ⟨k,_⟩ <;> contradiction)]at aL;refine uR ?_;refine⟨(j+1,[.int .i64 c1,.bool (decide (t1.num<0)),.slice M8 M4 M6,.slice M7 M3 M5,.bool (decide (g1.num<0)),.slice M1 MV MX,.slice MY MU MW]),⟨by dsimp only;rw[aL];rfl,by dsimp only;rw[wn];rfl,trivial⟩,sB,⟨Z,trivial⟩,sB,rfl,⟨dJ,by rw[aL];exact⟨_,_,yX.mono (Hp.Le.refl _),(RQ.mono oD (bt.trans dG)).mono (Hp.Le.refl _),rfl⟩⟩,(hG.trans (aZ.trans (bt.trans dG))).trans (Hp.Le.refl _),by dsimp only;omega⟩
  ·simp only[nN]at dJ;obtain rfl:j=P.length:=oM;rw[qa,<-fk]at jo ⊢;refine uR ?_;refine⟨(i+1,uX),⟨rfl,by rw[aO i (by omega)];rfl,trivial⟩,sB,⟨Z,trivial⟩,sB,rfl,⟨af,jo⟩,ax.trans aT,by dsimp only;omega⟩
 ·simp only[nN]at af;obtain rfl:i=cols.length:=oM;rw[qa]at bC ⊢;generalize (eX X cost (exL rs X.length) (max 1 least) cols).foldl gK none=st at *
  cases st with
  | none =>
   have tj:cs=BP:=bC;subst tj;refine uR ?_;exact⟨BP,rfl,rfl⟩
  | some p =>
   obtain⟨c,t,g⟩:=p;obtain⟨x,y,h1,h2,rfl⟩:=bC;obtain⟨xa,xl,xc,ya,yl,yc,rfl,gA,gZ⟩:=id h1;obtain⟨Jo,Jm,Jn,Jl,Jj,Jk,rfl,hx3,NB⟩:=id h2;refine uR ?_;exact⟨_,⟨_,_,h1,h2,rfl⟩,rfl⟩
section
variable {P:Program} {ops:Array Oper} {md:Region.Mode} {Q:Exit->Act->World->Prop} {I:World->Prop} {z:Option Nat}
def nV (md:Region.Mode) (ops:Array Oper) (L:Array Bool) (i:Nat):Bool:=(List.range ops.size).all fun k => !L.getD k false || match ops[k]? with
 | some o => !o.after.any fun e=>Region.binds md e && e.on == i
 | none=>true
theorem Lo {L:Array Bool} {i:Nat}:nV md ops L i=true↔∀k o,ops[k]?=some o->L.getD k false=true->∀e∈o.after,Region.binds md e=true->e.on≠i:=by
 unfold nV;rw[List.all_eq_true];constructor
 ·intro h k o ho hk e he hb heq;have h1:=h k (List.mem_range.2 (Array.getElem?_eq_some_iff.1 ho).1);rw[hk,ho]at h1;simp only[Bool.not_true,Bool.false_or,Bool.not_eq_true',Array.any_eq_false']at h1;have:=h1 e he;simp[hb,heq]at this
 ·intro h k hk
  cases hL:L.getD k false with
  | false=>rfl
  | true =>
   obtain⟨o,ho⟩:∃o,ops[k]?=some o:=⟨_,Array.getElem?_eq_getElem (List.mem_range.1 hk)⟩;rw[ho];simp only[Bool.not_true,Bool.false_or,Bool.not_eq_true',Array.any_eq_false'];intro e he
   cases hb:Region.binds md e with
   | false=>simp
   | true=>have:=h k o ho hL e he hb;simpa using this
def mC (z:Option Nat) (L:Array Bool):Bool:=match z with
 | none=>true
 | some k => !L.getD k false
def BF (md:Region.Mode) (ops:Array Oper) (z:Option Nat) (i:Nat):Bool:=match z with
 | none=>true
 | some k => !(k == i) && match ops[k]? with
  | some o=>o.after.any fun e=>Region.binds md e && e.on == i
  | none=>false
def rI (P:Program) (md:Region.Mode) (ops:Array Oper) (Q:Exit->Act->World->Prop) (I:World->Prop) (z:Option Nat):Nat->Array Bool->Act->World->Prop
 | 0,L,a,w=>(mC z L=true->I w)/\Region.ready md ops L=[]/\Q .normal a w
 | f+1,L,a,w=>(mC z L=true->I w)/\(Region.ready md ops L=[]->Q .normal a w)/\∀i,i∈Region.ready md ops L->wpOp P ops Q i (rI P md ops Q I z f (L.setIfInBounds i true)) a w
theorem rI.now:∀{f:Nat} {L:Array Bool} {a:Act} {w:World},rI P md ops Q I z f L a w->mC z L=true->I w
 | 0,_,_,_,h=>h.1
 | _+1,_,_,_,h=>h.1
theorem rI.any:∀(f:Nat) (L:Array Bool) (a:Act) (w:World),rI P md ops Q I z f L a w->wpAny P md ops Q f L a w
 | 0,_,_,_,h=>h.2
 | f+1,_,_,_,h=>⟨h.2.1,fun i hi=>wpOp_mono (fun a w k=>rI.any f _ a w k) (h.2.2 i hi)⟩
def Im (P:Program) (ops:Array Oper) (I:World->Prop) (o:Oper) (v:Value) (a:Act):Prop :=
 Region.wanted o (yielded ops a.tmps)=true/\∀w,I w->(execOp a.eval o).run P w=.ok (.value v) w
theorem Im.op {i:Nat} {o:Oper} {v:Value} {a:Act} (hi:ops[i]?=some o) (hy:Im P ops I o v a) {K:Act->World->Prop} {w:World} (hw:I w) (h:K (a.put o.dst v) w):wpOp P ops Q i K a w:=by
 unfold wpOp;simp only[hi,hy.1,if_true,Oper.wp,hy.2 w hw,Oper.upon];exact .inl h
theorem zqT {j:Nat} {oj:Oper} (hj:ops[j]?=some oj) {Y:Act->Prop} (k1:∀a u,Y a->Y (a.put oj.dst u)) (k2:∀(a:Act) d,Y a->Y { a with defers:=d::a.defers }) {K:Act->World->Prop} {a:Act} {w:World} (hy:Y a) (h:wpOp P ops Q j K a w):wpOp P ops Q j (fun a' w'=>Y a'/\K a' w') a w:=by
 unfold wpOp at *
 simp only[hj]at *
 split
 ·rename_i hw;rw[if_pos hw]at h;refine h.imp (fun h=>?_) id;unfold Oper.wp at *
  generalize (execOp a.eval oj).run P w=r at *
  cases r with
  | ok n w' =>
   cases n <;> simp only[Oper.upon]at h ⊢
   case value u=>exact⟨k1 _ _ hy,h⟩
   case skip=>exact⟨k1 _ _ hy,h⟩
   case defer d=>exact⟨k1 _ _ (k2 _ _ hy),h⟩
   case enter f args =>
    refine Calls.mono h fun e Em he=>?_
    cases e with
    | returned u=>exact⟨k1 _ _ hy,he⟩
    | _=>exact he
   case row row args=>exact Rows.mono h fun u Em he=>⟨k1 _ _ hy,he⟩
  | halt x w'=>cases x <;> simp only[Oper.upon]at h ⊢ <;> exact h
 ·rename_i hw;rw[if_neg hw]at h;exact⟨k1 _ _ hy,h⟩
theorem znM {oi oj:Oper} {v:Value} (h:oi.apart ops oj=true):Oper.apart ops { oi with op:=.move (.const v),guard:=none } oj=true:=by
 unfold Oper.apart at *
 rw[Bool.and_eq_true]at *
 refine⟨h.1,?_⟩
 cases oj.dst with
 | none=>rfl
 | some d=>rfl
theorem zme {J:World->Prop} {i:Nat} {oi:Oper} {v:Value} (hi:ops[i]?=some oi) (E8:Region.noSelect ops=true) (hQ:∀c a w,Q (.panic c) (a.put oi.dst v) w->Q (.panic c) a w) (bq:(BF md ops z i=true/\∀w,I w->J w)\/((∀w,J w)/\z≠some i)) :
  ∀(f:Nat) (L:Array Bool) (a:Act) (w:World),(∀j oj,ops[j]?=some oj->j≠i->L.getD j true=false->(∀e∈oj.after,Region.binds md e=true->e.on≠i)->oi.apart ops oj=true)->nV md ops L i=true ->
   i∈Region.ready md ops L->Im P ops J oi v a->rI P md ops Q I z f (L.setIfInBounds i true) (a.put oi.dst v) w->rI P md ops Q I z (f+1) L a w:=by
 have now:∀{f:Nat} {L:Array Bool} {a:Act} {w:World},nV md ops L i=true->rI P md ops Q I z f (L.setIfInBounds i true) (a.put oi.dst v) w->(mC z L=true->I w)/\J w:=fun {f L a w} hy H=>by
  rcases bq with ⟨hz,hJ⟩ | ⟨hJ,hz⟩
  ·have hI:I w:=H.now (by
    cases z with
    | none=>rfl
    | some k =>
     simp only[BF,Bool.and_eq_true,Bool.not_eq_true',pQ]at hz;obtain⟨sQ,hk⟩:=hz;show (!(L.setIfInBounds i true).getD k false)=true;rw[Go.getD_set_ne false (Ne.symm sQ)]
     cases hL:L.getD k false with
     | false=>rfl
     | true =>
      cases ho:ops[k]? with
      | none=>rw[ho]at hk;cases hk
      | some o =>
       rw[ho]at hk;obtain⟨e,he,hb⟩:=Array.any_eq_true'.1 hk;simp only[Bool.and_eq_true,beq_iff_eq]at hb;exact absurd hb.2 (Lo.1 hy k o ho hL e he hb.1))
   exact⟨fun _=>hI,hJ _ hI⟩
  ·refine⟨fun h=>H.now ?_,hJ w⟩
   cases z with
   | none=>rfl
   | some k =>
    have sQ:i≠k:=fun e=>hz (by rw[e]);show (!(L.setIfInBounds i true).getD k false)=true;rw[Go.getD_set_ne false sQ];exact h
 intro f
 induction f with
 | zero =>
  intro L a w _ hy hr hY H;refine⟨(now hy H).1,fun h=>(by rw[h]at hr;cases hr),fun j hj=>?_⟩;by_cases y7:j=i
  ·subst y7;exact hY.op hi (now hy H).2 H
  ·have:=ready_mono hj y7;rw[H.2.1]at this;cases this
 | succ f ih =>
  intro L a w zd yL hr hy H;refine⟨(now yL H).1,fun h=>(by rw[h]at hr;cases hr),fun j hj=>?_⟩;by_cases y7:j=i
  ·subst y7;exact hy.op hi (now yL H).2 H
  ·have h1:=H.2.2 j (ready_mono hj y7);obtain⟨xf,oj,uI,av⟩:=mem_ready.1 hj
   have wV:∀e∈oj.after,Region.binds md e=true->e.on≠i:=fun e he hb heq=>by
    have h1:=av e he hb;have h0:=(mem_ready.1 hr).1;rw[heq]at h1;rcases Nat.lt_or_ge i L.size with h' | h'
    ·simp[h']at h0 h1;rw[h0]at h1;cases h1
    ·simp[Array.getElem?_eq_none h']at h1
   have C4:=zd j oj uI y7 xf wV;obtain⟨_,_,Gl⟩:=Oper.apart_spec C4;have AE:=fun cs b=>Region.noSelect_spec E8 i oi cs b hi
   have h2:=wpOp_put (oi:={ oi with op:=.move (.const v),guard:=none }) uI (znM C4) (fun cs b e=>by cases e) (fun cs b=>Region.noSelect_spec E8 j oj cs b uI) hQ
    (.inl ⟨rfl,fun w=>rfl⟩) h1
   have h3:=zqT (Y:=Im P ops J oi v) uI (fun a u hy=>⟨by rw[wanted_put oi a oj.dst u Gl];exact hy.1,fun w hw=>by rw[execOp_put oi AE a oj.dst u Gl];exact hy.2 w hw⟩) (fun a d hy=>hy) hy h2
   have Be:∀k ok,ops[k]?=some ok->k≠i->(L.setIfInBounds j true).getD k true=false->(∀e∈ok.after,Region.binds md e=true->e.on≠i)->oi.apart ops ok=true:=fun k ok hk sQ iN bF=>by
    refine zd k ok hk sQ ?_ bF;by_cases CW:j=k
    ·subst CW;exact xf
    ·rw[Go.getD_set_ne true CW]at iN;exact iN
   have Nj:nV md ops (L.setIfInBounds j true) i=true:=Lo.2 fun k o ho hk=>by
    by_cases CW:j=k
    ·subst CW;cases uI.symm.trans ho;exact wV
    ·rw[Go.getD_set_ne false CW]at hk;exact Lo.1 yL k o ho hk
   refine wpOp_mono (fun a' w' h4=>ih (L.setIfInBounds j true) a' w' Be Nj (ready_mono hr (Ne.symm y7)) h4.1 ?_) h3;rw[Array.setIfInBounds_comm _ _ y7];exact h4.2.2
end
def EVG (I:World->Prop) (z:Option Nat) (P:Program) (n:Nat) (ops:Array Oper) (fuel:Nat) (L:Array Bool) (env:Env) (bx:Bxs) (H:Hs) (K:Env->Bxs->Hs->Prop):Prop :=
 ∀W0 β a W,Rel n W0 H.base β env bx H a W->rI P .any ops (fun e a W=>e=.normal/\kO n W0 H.base (fun _ env bx H=>K env bx H) .normal a W) I z fuel L a W
abbrev EVI (z:Option Nat) (p:Nat × TypeId × List Value) (P:Program) (n:Nat) (ops:Array Oper) (fuel:Nat) (L:Array Bool) (env:Env) (bx:Bxs) (H:Hs) (K:Env->Bxs->Hs->Prop):Prop :=
 EVG (fun W=>Box W p.1 p.2.2.toArray p.2.1) z P n ops fuel L env bx H K
section
variable {I:World->Prop} {z:Option Nat} {p:Nat × TypeId × List Value} {n:Nat} {ops:Array Oper} {fuel:Nat} {L:Array Bool} {env:Env} {bx:Bxs} {H:Hs} {K:Env->Bxs->Hs->Prop} {d:Nat} {o:Oper} {v:Value}
theorem EVG.start (I:World->Prop) (z:Option Nat) {id:Nat} {l:List Oper} {Q:EQ} (h:EVG I z prog n l.toArray l.length (Array.replicate l.length false) env bx H (fun env bx H=>Q .normal env bx H)) (hm:Tryz.prog.follows .mixedOrders=true:=by kernel_rfl):EV prog n (.region id l.toArray true) env bx H Q :=
 EVA.start hm fun W0 β a W r=>(h W0 β a W r).any _ _ _ _
theorem EVI.start (z:Option Nat) (p:Nat × TypeId × List Value) {id:Nat} {l:List Oper} {Q:EQ} (h:EVI z p prog n l.toArray l.length (Array.replicate l.length false) env bx H (fun env bx H=>Q .normal env bx H)) (hm:Tryz.prog.follows .mixedOrders=true:=by kernel_rfl):EV prog n (.region id l.toArray true) env bx H Q:=EVG.start _ z h hm
theorem EVG.take {J:World->Prop} (i:Nat) (bq:(BF .any ops z i=true/\∀w,I w->J w)\/((∀w,J w)/\z≠some i)) (hi:ops[i]?=some o) (hs:Region.noSelect ops=true) (hf:Region.free .any ops L i=true) (hr:(Region.ready .any ops L).contains i=true) (hy:nV .any ops L i=true) (hw:aP ops env o=some true) (hd:o.dst=some d) (hn:Nat.blt d n=true)
  (hx:∀(β:Nat->Nat) (a:Act) (W:World),(∀y s,env.op y=some s->s.rep β H.ro (a.eval y))->J W->(execOp a.eval o).run prog W=.ok (.value v) W)
  (h:EVG I z prog n ops fuel (L.setIfInBounds i true) ((d,.v v)::env) bx H K):EVG I z prog n ops (fuel+1) L env bx H K:=fun W0 β a W r=>by
 refine zme (v:=v) hi hs (fun c a w e=>by cases e.1) bq fuel L a W (Region.free_spec hi hf) hy (by simpa using hr) ⟨r.want hw,fun w hI=>hx β a w (fun y s hy=>r.op hy) hI⟩ ?_;rw[hd];exact h W0 β _ W (r.put hn Z Z)
theorem IV (i:Nat) (h:EVG I z prog n ops fuel (L.setIfInBounds i true) ((d,.v v)::env) bx H K) (hi:ops[i]?=some o:=by exact Z) (hs:Region.noSelect ops=true:=by kernel_rfl) (hf:Region.free .any ops L i=true:=by kernel_rfl) (hr:(Region.ready .any ops L).contains i=true:=by kernel_rfl) (hy:nV .any ops L i=true:=by kernel_rfl) (bq:(z == some i)=false:=by kernel_rfl) (hw:aP ops env o=some true:=by exact Z) (hd:o.dst=some d:=by exact Z) (hn:Nat.blt d n=true:=by exact Z)
  (hv:tM am env [] o.op=some (.v v):=by exact Z) (fS:Dt env o.op.operands.toList=true:=by exact Z):EVG I z prog n ops (fuel+1) L env bx H K :=
 EVG.take (J:=fun _=>True) i (.inr ⟨fun _=>trivial,fun e=>by rw[e]at bq;simp at bq⟩) hi hs hf hr hy hw hd hn (fun β a W he _=>by
  obtain⟨x,hx,hr⟩:=Ck (β:=β) (H:=fun _=>none) (W:=W) (a:=a) tO hv (fun y s hm hy=>Tf (Ml fS y (by simpa using hm)) hy (he y s hy)) (fun i T cs e=>by cases e) (fun b c e=>by cases e);have e:x=v:=hr;rw[<-e];exact hx) h
theorem IN (i:Nat) {x:Operand} {c:Addr} (h:EVG I z prog n ops fuel (L.setIfInBounds i true) ((d,.v (.pointer (some c)))::env) bx H K) (hi:ops[i]?=some o:=by exact Z) (hs:Region.noSelect ops=true:=by kernel_rfl) (hf:Region.free .any ops L i=true:=by kernel_rfl) (hr:(Region.ready .any ops L).contains i=true:=by kernel_rfl) (hy:nV .any ops L i=true:=by kernel_rfl) (bq:(z == some i)=false:=by kernel_rfl) (hw:aP ops env o=some true:=by exact Z) (hd:o.dst=some d:=by exact Z) (hn:Nat.blt d n=true:=by exact Z)
  (ho:o.op=.nilCheck x:=by exact Z) (hx:env.op x=some (.v (.pointer (some c))):=by exact Z):EVG I z prog n ops (fuel+1) L env bx H K :=
 EVG.take (J:=fun _=>True) i (.inr ⟨fun _=>trivial,fun e=>by rw[e]at bq;simp at bq⟩) hi hs hf hr hy hw hd hn (fun β a W he _=>Lc ho hx _ W fun y x _ hy=>he y _ hy) h
theorem IF (i:Nat) {x:Operand} {T:TypeId} {te:TE} {f b q fo sz:Nat} {ag:Bool} (h:EVG I z prog n ops fuel (L.setIfInBounds i true) ((d,.v (.pointer (some ⟨b,q+fo,none⟩)))::env) bx H K) (hi:ops[i]?=some o:=by exact Z) (hs:Region.noSelect ops=true:=by kernel_rfl) (hf:Region.free .any ops L i=true:=by kernel_rfl) (hr:(Region.ready .any ops L).contains i=true:=by kernel_rfl) (hy:nV .any ops L i=true:=by kernel_rfl) (bq:(z == some i)=false:=by kernel_rfl) (hw:aP ops env o=some true:=by exact Z) (hd:o.dst=some d:=by exact Z) (hn:Nat.blt d n=true:=by exact Z)
  (ho:o.op=.fieldAddr T x f:=by exact Z) (hx:env.op x=some (.v (.pointer (some ⟨b,q,none⟩))):=by exact Z) (ht:am.get T=some te:=by exact Z) (ze:te.fields[f]?=some (fo,ag,sz):=by exact Z):EVG I z prog n ops (fuel+1) L env bx H K :=
 EVG.take (J:=fun _=>True) i (.inr ⟨fun _=>trivial,fun e=>by rw[e]at bq;simp at bq⟩) hi hs hf hr hy hw hd hn (fun β a W he _=>Lf tO ho ht ze hx _ W fun y x _ hy=>he y _ hy) h
theorem IL0 (i:Nat) {x:Operand} {T:TypeId} {te:TE} {q:Nat} {l:List Value} (h:EVI z p prog n ops fuel (L.setIfInBounds i true) ((d,.v v)::env) bx H K) (hi:ops[i]?=some o:=by exact Z) (hs:Region.noSelect ops=true:=by kernel_rfl) (hf:Region.free .any ops L i=true:=by kernel_rfl) (hr:(Region.ready .any ops L).contains i=true:=by kernel_rfl) (hy:nV .any ops L i=true:=by kernel_rfl) (bq:BF .any ops z i=true:=by kernel_rfl) (hw:aP ops env o=some true:=by exact Z) (hd:o.dst=some d:=by exact Z) (hn:Nat.blt d n=true:=by exact Z)
  (ho:o.op=.load T x:=by exact Z) (hx:env.op x=some (.v (.pointer (some ⟨p.1,q,none⟩))):=by exact Z) (ht:am.get T=some te:=by exact Z) (hl:(p.2.2.drop q).take te.size=l:=by exact Z) (hlen:l.length=te.size:=by exact Z) (hv:nX te.agg l=some v:=by exact Z):EVI z p prog n ops (fuel+1) L env bx H K :=
 EVG.take (J:=fun w=>Box w p.1 p.2.2.toArray p.2.1) i (.inl ⟨bq,fun _ h=>h⟩) hi hs hf hr hy hw hd hn (fun β a W he hB=>by
  have ex:a.eval x=.pointer (some ⟨p.1,q,none⟩):=he x _ hx;have AI:=hB.range q te.size;rw[hl]at AI;have aY:=Ac (tO.get ht) AI hlen hv;unfold execOp;simp only[ho,ex,Sem.run_bind,aY,Result.andThen_ok,Sem.run_pure]) h
theorem EVG.step (hI:mC z L=true->∀W0 β a W,Rel n W0 H.base β env bx H a W->I W) (hne:(Region.ready .any ops L).isEmpty=false) (hk:∀q,q∈Region.ready .any ops L->∃o,ops[q]?=some o/\EVL prog n ops [o] env bx H (fun e env bx H'=>e=.normal/\EVG I z prog n ops fuel (L.setIfInBounds q true) env bx H' K)):EVG I z prog n ops (fuel+1) L env bx H K:=fun W0 β a W r=>by
 refine⟨fun hn=>hI hn W0 β a W r,fun e=>(by rw[e]at hne;cases hne),fun q hq=>?_⟩;obtain⟨o,ho,h⟩:=hk q hq;have h1:=h W0 β a W r
 have A9:∀a W,kO n W0 H.base (fun e env bx H'=>e=.normal/\EVG I z prog n ops fuel (L.setIfInBounds q true) env bx H' K) .normal a W->rI prog .any ops (fun e a W=>e=.normal/\kO n W0 H.base (fun _ env bx H=>K env bx H) .normal a W) I z fuel (L.setIfInBounds q true) a W:=by
  rintro a W ⟨β',aA,aw,H',aI,⟨_,hE⟩,rel⟩;have:=hE W0 β' a W (by rw[aI];exact rel)
  rwa [aI]at this
 unfold wpOp;simp only[ho];unfold wpList at h1;split
 ·rename_i hw;rw[if_pos hw]at h1;rcases h1 with h1 | ⟨h1,h2⟩
  ·refine .inl (Oper.wp_exits (fun c a W hq=>?_) (fun hq=>?_) (Oper.wp_mono (fun a W h=>A9 a W h) h1))
   ·obtain⟨_,_,_,_,_,⟨e,_⟩,_⟩:=hq;cases e
   ·obtain⟨a0,w0,_,_,_,_,_,⟨e,_⟩,_⟩:=hq;cases e
  ·obtain⟨a0,w0,_,_,_,_,_,⟨e,_⟩,_⟩:=h2;cases e
 ·rename_i hw;rw[if_neg hw]at h1;exact A9 _ _ h1
theorem EVG.nil (hI:mC z L=true->∀W0 β a W,Rel n W0 H.base β env bx H a W->I W) (hr:(Region.ready .any ops L).isEmpty=true) (h:K env bx H):EVG I z prog n ops fuel L env bx H K:=fun W0 β a W r=>by
 have jC:=List.isEmpty_iff.1 hr;have hI:=fun hn=>hI hn W0 β a W r
 cases fuel with
 | zero=>exact⟨hI,jC,rfl,β,env,bx,H,rfl,h,r⟩
 | succ f=>exact⟨hI,fun _=>⟨rfl,β,env,bx,H,rfl,h,r⟩,fun i hi=>by rw[jC]at hi;cases hi⟩
theorem EVG.one (k:Nat) (hI:mC z L=true->∀W0 β a W,Rel n W0 H.base β env bx H a W->I W) (hr:(Region.ready .any ops L == [k])=true) (ho:ops[k]?=some o) (h:EVL prog n ops [o] env bx H (fun e env bx H'=>e=.normal/\EVG I z prog n ops fuel (L.setIfInBounds k true) env bx H' K)):EVG I z prog n ops (fuel+1) L env bx H K:=by
 have jC:=eq_of_beq hr;refine EVG.step hI (by rw[jC];rfl) fun q hq=>?_;rw[jC,pK]at hq;subst hq;exact⟨o,ho,h⟩
theorem EVG.two {o':Oper} (k k':Nat) (hI:mC z L=true->∀W0 β a W,Rel n W0 H.base β env bx H a W->I W) (hr:(Region.ready .any ops L == [k,k'])=true) (ho:ops[k]?=some o) (mT:ops[k']?=some o') (h:EVL prog n ops [o] env bx H (fun e env bx H'=>e=.normal/\EVG I z prog n ops fuel (L.setIfInBounds k true) env bx H' K))
  (h':EVL prog n ops [o'] env bx H (fun e env bx H'=>e=.normal/\EVG I z prog n ops fuel (L.setIfInBounds k' true) env bx H' K)):EVG I z prog n ops (fuel+1) L env bx H K:=by
 have jC:=eq_of_beq hr;refine EVG.step hI (by rw[jC];rfl) fun q hq=>?_;rw[jC]at hq;rcases List.mem_cons.1 hq with rfl | hq
 ·exact⟨o,ho,h⟩
 ·obtain rfl:q=k':=by simpa using hq
  exact⟨o',mT,h'⟩
theorem He {jj:Nat} (hj:mC z L=false\/H.ow[jj]?=some p):mC z L=true->∀W0 β a W,Rel n W0 H.base β env bx H a W->Box W p.1 p.2.2.toArray p.2.1:=fun hn W0 β a W r=>by
 rcases hj with hj | hj
 ·rw[hj]at hn;cases hn
 ·exact(r.own jj p.1 p.2.1 p.2.2 hj).1
theorem EVI.one (k jj:Nat) (hj:mC z L=false\/H.ow[jj]?=some p) (hr:(Region.ready .any ops L == [k])=true) (ho:ops[k]?=some o) (h:EVL prog n ops [o] env bx H (fun e env bx H'=>e=.normal/\EVI z p prog n ops fuel (L.setIfInBounds k true) env bx H' K)):EVI z p prog n ops (fuel+1) L env bx H K:=EVG.one k (He hj) hr ho h
theorem EVI.two {o':Oper} (k k' jj:Nat) (hj:mC z L=false\/H.ow[jj]?=some p) (hr:(Region.ready .any ops L == [k,k'])=true) (ho:ops[k]?=some o) (mT:ops[k']?=some o') (h:EVL prog n ops [o] env bx H (fun e env bx H'=>e=.normal/\EVI z p prog n ops fuel (L.setIfInBounds k true) env bx H' K))
  (h':EVL prog n ops [o'] env bx H (fun e env bx H'=>e=.normal/\EVI z p prog n ops fuel (L.setIfInBounds k' true) env bx H' K)):EVI z p prog n ops (fuel+1) L env bx H K:=EVG.two k k' (He hj) hr ho mT h h'
theorem EVI.nil (jj:Nat) (hj:mC z L=false\/H.ow[jj]?=some p) (hr:(Region.ready .any ops L).isEmpty=true) (h:K env bx H):EVI z p prog n ops fuel L env bx H K:=EVG.nil (He hj) hr h
end
def jR (H:Hp) (css:List (List Value)) (ns:List Nd):Prop:=css.length=ns.length/\∀(j:Nat) (c:List Value) (n:Nd),css[j]?=some c->ns[j]?=some n->gz H c n
theorem jR.mono {H G:Hp} {css:List (List Value)} {ns:List Nd} (h:jR H css ns) (k:H.Le G):jR G css ns:=⟨h.1,fun j c n e1 e2=>(h.2 j c n e1 e2).mono k⟩
theorem jR.snoc {H G:Hp} {css:List (List Value)} {ns:List Nd} (h:jR H css ns) (k:H.Le G) {c:List Value} {n:Nd} (hc:gz G c n):jR G (css++[c]) (ns++[n]):=by
 refine⟨by simp[h.1],fun j c' n' e1 e2=>?_⟩;by_cases hj:j<css.length
 ·rw[qM hj]at e1;rw[qM (by rw[<-h.1];exact hj)]at e2;exact(h.2 j c' n' e1 e2).mono k
 ·rw[qL (by omega)]at e1;rw[qL (by rw[<-h.1];omega),<-h.1]at e2
  have h0:j-css.length=0:=by
   have:=(qE.1 e1).1;simp at this;omega
  rw[h0]at e1 e2;cases e1;cases e2;exact hc
def xW (dv:Value) (D:Ows) (s:Int):Prop:=(dv=.pointer none/\D=[])\/∃bd T,dv=.pointer (some ⟨bd,0,none⟩)/\D=[(bd,T,[.int .u64 s])]/\0<=s
theorem gz.len {H:Hp} {c:List Value} {n:Nd} (h:gz H c n):c.length=15:=by
 obtain⟨b1,a1,l1,c1,a2,l2,c2,b3,a3,l3,c3,a4,l4,c4,b5,a5,l5,c5,a6,l6,c6,a7,c7,rfl,_⟩:=h.cells;rfl
theorem vQ {A c B:List Value} {k s f m q:Nat} (hA:A.length=k*s) (hq:q=k*s+f) (hf:f+m<=c.length):q+m<=(A++(c++B)).length:=by
 rw[qJ,qJ,hA,hq];omega
theorem ZL {l:List (List Value)} (h:∀c,c∈l->c.length=15):l.flatten.length=l.length*15:=by
 induction l with
 | nil=>rfl
 | cons c l ih=>rw[List.flatten_cons,qJ,h c (qf ..),ih (fun c hc=>h c (qk _ hc)),qR];omega
theorem jR.mid {H:Hp} {css:List (List Value)} {A B:List Nd} {n:Nd} (h:jR H css (A++n::B)):∃cA c cB,css=cA++c::cB/\cA.flatten.length=A.length*15/\gz H c n/\∀(G:Hp) (c':List Value) (n':Nd),H.Le G->gz G c' n'->jR G (cA++c'::cB) (A++n'::B):=by
 have hl:=h.1;rw[qJ,qR]at hl;have af:A.length<css.length:=oM
 have e:css=css.take A.length++css[A.length]::css.drop (A.length+1):=by
  rw[<-qp af,List.take_append_drop]
 have kj:(css.take A.length).length=A.length:=by rw[qP];omega
 refine⟨_,_,_,e,?_,h.2 A.length _ n (qA af) (by rw[qL (qH _),Nat.sub_self];rfl),?_⟩
 ·refine(ZL fun c hc=>?_).trans (by rw[kj]);obtain⟨j,hj⟩:=List.mem_iff_getElem?.1 (List.mem_of_mem_take hc);have ak:=(qE.1 hj).1;obtain⟨m,hm⟩:∃m,(A++n::B)[j]?=some m:=⟨_,qA (by rw[<-h.1];exact ak)⟩;exact(h.2 j c m hj hm).len
 ·intro G c' n' hG hc;refine⟨by simp only[qJ,qR,kj,qt];omega,fun j c1 n1 e1 e2=>?_⟩;rcases Nat.lt_trichotomy j A.length with hj | rfl | hj
  ·rw[qM oM,List.getElem?_take_of_lt hj]at e1;rw[qM hj]at e2;exact(h.2 j c1 n1 e1 (by rw[qM hj];exact e2)).mono hG
  ·rw[qL oM,kj,Nat.sub_self]at e1;rw[qL (qH _),Nat.sub_self]at e2;cases e1;cases e2;exact hc
  ·obtain⟨k,rfl⟩:∃k,j=A.length+(k+1):=⟨j-A.length-1,by omega⟩;rw[qL oM,kj,Nat.add_sub_cancel_left,pM,List.getElem?_drop]at e1;rw[qL oM,Nat.add_sub_cancel_left,pM]at e2;exact(h.2 (A.length+(k+1)) c1 n1 (by rw[<-e1];congr 1;omega) (by rw[qL oM,Nat.add_sub_cancel_left,pM];exact e2)).mono hG
theorem aF.mid {e:TypeId} {v:Value} {m:Nat} {cA cB:List (List Value)} {c:List Value} {ow:Ows} (h:aF e 15 v m (cA++c::cB).flatten ow) (hc:c.length=15):∃g cap sp,v=.slice (some ⟨g,0,none⟩) m cap/\ow=[(g,e,cA.flatten++(c++(cB.flatten++sp)))]/\∀c',c'.length=15->aF e 15 v m (cA++c'::cB).flatten [(g,e,cA.flatten++(c'++(cB.flatten++sp)))]:=by
 have hl:=h.1;rcases h.2 with ⟨_,rfl,_⟩ | ⟨g,cap,sp,rfl,rfl,h1,h2,h3⟩
 ·simp[hc]at hl
 ·have e1:∀c':List Value,(cA++c'::cB).flatten=cA.flatten++(c'++cB.flatten):=fun c'=>by simp
  rw[e1]at hl h1;refine⟨g,cap,sp,rfl,by rw[e1];simp,fun c' dV=>⟨?_,.inr ⟨g,cap,sp,rfl,by rw[e1];simp,?_,h2,h3⟩⟩⟩
  ·rw[e1,<-hl];simp[hc,dV]
  ·rw[e1,<-h1];simp[hc,dV]
theorem vh.cells {G:Hp} {o:Option (Int × Rat × Rat)} {cs:List Value} (h:vh G o cs):∃c b1 a1 l1 c1 a2 l2 c2 b3 a3 l3 c3 a4 l4 c4,cs=[.int .i64 c,.bool b1,.slice a1 l1 c1,.slice a2 l2 c2,.bool b3,.slice a3 l3 c3,.slice a4 l4 c4]/\∀c' t g,o=some (c',t,g)->c=c'/\RQ G (.agg #[.bool b1,.slice a1 l1 c1,.slice a2 l2 c2]) t/\RQ G (.agg #[.bool b3,.slice a3 l3 c3,.slice a4 l4 c4]) g:=by
 cases o with
 | none=>exact⟨_,_,_,_,_,_,_,_,_,_,_,_,_,_,_,h,fun c' t g e=>by cases e⟩
 | some p =>
  obtain⟨x,y,h1,h2,rfl⟩:=h;obtain⟨a1,l1,c1,a2,l2,c2,rfl,_⟩:=id h1;obtain⟨a3,l3,c3,a4,l4,c4,rfl,_⟩:=id h2;exact⟨_,_,_,_,_,_,_,_,_,_,_,_,_,_,_,rfl,fun c' t g e=>by cases e;exact⟨rfl,h1,h2⟩⟩
section
variable {P:Program} {n:Nat} {ops:Array Oper} {o1 o2:Oper} {rest:List Oper} {env:Env} {bx:Bxs} {H:Hs} {Q:EQ} {d d1:Nat}
end
end
section
section
variable {α:Type}
variable {lt:α->α->Bool}
end
end
section
open Go.RowKit _root_.Go.Proofs.Tryz
section
variable {α:Type} {enc:α->Value} {w w':World} {B:Nat} {T:TypeId} {cap:Nat} {l:List α}
end
set_option maxRecDepth 100000 in
theorem zrW {H:Hp} {vx:Value} {X:List (List Rat)} (hX:RLL H vx X) {w:Nat} (hw:∀x,x∈X->x.length=w) (h1:1<=w) (h0:0<X.length) (hn:X.length<=1000000):PC prog 89 #[vx] H fun r _=>r=.bool true:=by
 obtain⟨xa,xc,rfl⟩:=hX.val;refine BD func89 ntmps89 ?_;refine uR ?_;refine EV.loopK (ι:=Nat) [0] [] (fun q=>[(3,.v (.int .i64 (q:Int)))]) (fun _=>[]) (fun _=>[]) (fun q _=>q<=X.length) (fun q=>X.length-q) (0) Z Z ⟨Z,trivial⟩ trivial rfl (fun _=>rfl) (qQ _) ?_;rintro i G1 aj hi;obtain⟨vs,aG,hs⟩:=hX.mono aj;obtain⟨x0,fR⟩:=gE h0;obtain⟨u0,e0,eR,_⟩:=aG.at fR;have uA:=hw x0 (qF fR);refine uR ?_;refine EV.cond Z (fun af=>?_) (fun af=>?_)
 ·simp only[nN]at af;obtain⟨x,hx⟩:=gE af;obtain⟨u1,e1,jz,_⟩:=aG.at hx;have nz:=hw x (qF hx);rw[uA]at eR;rw[nz]at jz;refine uR ?_;apply EV.drawn 18 kR kR;intro xv yw;(repeat refine' DD ?_);refine' vJ (hs) (i) (rfl) (af) (jz) ?_;rotate_left;(repeat refine' DD ?_);refine' vJ (hs) (0) (rfl) (h0) (eR) ?_;rotate_left;(repeat refine' DD ?_);rw[show ((w:Int) != (w:Int))=false from pP _];(repeat refine' DD ?_);refine' vJ (hs) (i) (rfl) (af) (jz) ?_;rotate_left;(repeat refine' DD ?_);rw[show ((w:Int) == 0)=false from pQ.2 (by omega)];(repeat refine' DD ?_);(refine DJ.nil (fun G hG hF=>?_);(case hS|hS2=>rfl));refine uR ?_;refine⟨i+1,⟨by rw[aO i (by omega)];rfl,trivial⟩,sB,trivial,trivial,rfl,af,hG,by omega⟩
 ·try refine uR ?_
  rw[qD (show (X.length:Int)>0 by omega)]
theorem LF {H:Hp} {vx:Value} {X:List (List Rat)} (hX:RLL H vx X) {w:Nat} (hw:∀x,x∈X->x.length=w) (h1:1<=w) (h2:w<=20) (h0:0<X.length) (hn:X.length<=300):PC prog 42 #[vx] H fun r _=>r=.bool true:=by
 obtain⟨xa,xc,rfl⟩:=hX.val;have hr:=zrW hX hw h1 h0 oM;obtain⟨vs,aG,hs⟩:=id hX;obtain⟨x0,fR⟩:=gE h0;obtain⟨u0,e0,eR,_⟩:=aG.at fR;rw[hw x0 (qF fR)]at eR;refine BD func42 ntmps42 ?_
 repeat (first|refine RUN ?_|refine CV (hr) ?_|refine CE (hr) ?_)
 rw[qD (show (X.length:Int)<=300 by omega)];refine uR ?_;refine vI (hs) (0) (rfl) (h0) (eR) ?_;refine uR ?_;rw[qD (show (w:Int)<=20 by omega)]
 try refine uR ?_
abbrev zF (deep least:Int) (g1 g2 g3:Value):Value:=.agg #[.int .i64 deep,.int .i64 least,g1,g2,g3]
abbrev vz (deep least:Int) (g:Rat):Prop:=deep>=0/\deep<=10/\least>=1/\least<=300/\0<=g
theorem S4 (q:Rat):(q.num.sign>=0)↔0<=q:=⟨fun h=>Rat.num_nonneg.1 (Int.sign_nonneg_iff.1 h),fun h=>Int.sign_nonneg_iff.2 (Rat.num_nonneg.2 h)⟩
theorem yk {p:Prop} [Decidable p] (h:¬p):Value.bool false=.bool (decide p):=congrArg Value.bool (qC h).symm
theorem TA {H:Hp} {deep least:Int} {b1:Bool} {a1 a2:Option Addr} {l1 c1 l2 c2:Nat} {q:Rat} (hq:RQ H (.agg #[.bool b1,.slice a1 l1 c1,.slice a2 l2 c2]) q):PC prog 44 #[zF deep least (.bool b1) (.slice a1 l1 c1) (.slice a2 l2 c2)] H fun r _=>r=.bool (decide (vz deep least q)):=by
 have hs:=Aa hq;refine BD func44 ntmps44 ?_;refine uR ?_;by_cases h1:deep>=0
 case neg =>
  rw[qC h1];refine uR ?_;exact yk fun k=>h1 k.1
 rw[qD h1];refine uR ?_;by_cases h2:deep<=10
 case neg =>
  rw[qC h2];refine uR ?_;exact yk fun k=>h2 k.2.1
 rw[qD h2];refine uR ?_;by_cases h3:least>=1
 case neg =>
  rw[qC h3];refine uR ?_;exact yk fun k=>h3 k.2.2.1
 rw[qD h3];refine uR ?_;by_cases h4:least<=300
 case neg =>
  rw[qC h4];refine uR ?_;exact yk fun k=>h4 k.2.2.2.1
 rw[qD h4]
 repeat (first|refine RUN ?_|refine CV (hs) ?_|refine CE (hs) ?_)
 exact congrArg Value.bool (decide_eq_decide.2 ((S4 q).trans ⟨fun k=>⟨h1,h2,h3,h4,k⟩,fun k=>k.2.2.2.2⟩))
theorem Tc {H:Hp} {deep least:Int} {b1:Bool} {a1 a2:Option Addr} {l1 c1 l2 c2:Nat} {q:Rat} (hq:RQ H (.agg #[.bool b1,.slice a1 l1 c1,.slice a2 l2 c2]) q) (h0:0<=q) (hd:0<=deep/\deep<=10) (hl:1<=least/\least<=300):PC prog 44 #[zF deep least (.bool b1) (.slice a1 l1 c1) (.slice a2 l2 c2)] H fun r _=>r=.bool true:=by
 have:=TA (deep:=deep) (least:=least) hq;rw[qD (show vz deep least q from ⟨hd.1,hd.2,hl.1,hl.2,h0⟩)]at this;exact this
def Dj (n N:Nat) (ck:Int) (fb:Bool) (rows:List Int):Int:=if n=N then (if ck=0/\fb=true/\∀r,r∈rows->0<=r/\r<(n:Int) then 0 else 1) else 5
theorem HU {n N:Nat} {ck:Int} {fb:Bool} {rows:List Int} (h:n≠N):Dj n N ck fb rows=5:=if_neg h
theorem xY {n:Nat} {ck:Int} {fb:Bool} {rows:List Int} (h:¬(ck=0/\fb=true/\∀r,r∈rows->0<=r/\r<(n:Int))):Dj n n ck fb rows=1:=(if_pos rfl).trans (if_neg h)
theorem HY {n:Nat} {rows:List Int} (h:∀r,r∈rows->0<=r/\r<(n:Int)):Dj n n 0 true rows=0:=(if_pos rfl).trans (if_pos ⟨rfl,rfl,h⟩)
theorem zor {H:Hp} {v:Value} (h:RLL H v []):PC prog 89 #[v] H fun r _=>r=.bool false:=by
 obtain⟨a,c,rfl⟩:=h.val;refine BD func89 ntmps89 ?_;refine uR ?_;refine EV.loopK (ι:=Nat) [0] [] (fun q=>[(3,.v (.int .i64 (q:Int)))]) (fun _=>[]) (fun _=>[]) (fun q _=>q=0) (fun q=>0) (0) Z Z ⟨Z,trivial⟩ trivial rfl (fun _=>rfl) (rfl) ?_;rintro i G1 aj rfl;refine uR ?_;rfl
theorem zoo {H:Hp} {v:Value} (h:RLL H v []):PC prog 42 #[v] H fun r _=>r=.bool false:=by
 have hr:=zor h;obtain⟨a,c,rfl⟩:=h.val;refine BD func42 ntmps42 ?_
 repeat (first|refine RUN ?_|refine CV (hr) ?_|refine CE (hr) ?_)
 rfl
theorem zon {H:Hp} {kd cl deep least ck:Int} {la va:Option Addr} {ln lc vn vc N:Nat} {vx vr:Value} {X:List (List Rat)} {rows:List Int} {w:Nat} {b1 fb:Bool} {a1 a2:Option Addr} {l1 c1 l2 c2:Nat}
  (oX:PC prog 141 #[bG kd cl (.slice la ln lc) (.slice va vn vc)] H fun r _=>r=.int .i64 ck) (hlen:PV prog 140 #[bG kd cl (.slice la ln lc) (.slice va vn vc)] (.int .i64 (N:Int)))
  (hX:RLL H vx X) (hw:∀x,x∈X->x.length=w) (h1:1<=w) (h2:w<=20) (hN:1<=N) (hn:X.length<=300) (hr:IL H vr rows) (gh:0<rows.length) (wK:rows.length<=300)
  (hf:PC prog 44 #[zF deep least (.bool b1) (.slice a1 l1 c1) (.slice a2 l2 c2)] H fun r _=>r=.bool fb) :
  PC prog 97 #[bG kd cl (.slice la ln lc) (.slice va vn vc),vx,vr,zF deep least (.bool b1) (.slice a1 l1 c1) (.slice a2 l2 c2)] H fun r _=>r=.int .i64 (Dj X.length N ck fb rows):=by
 obtain⟨ra,rc,rfl⟩:=SlC.val hr;by_cases h0:X.length=0
 ·have hne:X.length≠N:=oM;obtain rfl:=pJ.1 h0;have iA:=zoo hX;obtain⟨xa,xc,rfl⟩:=hX.val;refine BD func97 ntmps97 ?_
  repeat (first|refine RUN ?_|refine CV (iA) ?_|refine CE (iA) ?_)
  rw[HU hne]
 have iA:=LF hX hw h1 h2 oM hn;obtain⟨xa,xc,rfl⟩:=hX.val;refine BD func97 ntmps97 ?_
 repeat (first|refine RUN ?_|refine CV (iA) ?_|refine CV (hlen) ?_|refine CE (iA) ?_|refine CE (hlen) ?_)
 by_cases hne:X.length=N
 case neg =>
  rw[show ((N:Int) != (X.length:Int))=true from bne_iff_ne.2 (by omega)];refine uR ?_;rw[HU hne]
 subst hne;rw[show ((X.length:Int) != (X.length:Int))=false from pP _];refine uR ?_;rw[show ((rows.length:Int) == 0)=false from pQ.2 (by omega)];refine uR ?_;rw[qC (show ¬(rows.length:Int)>300 by omega)]
 repeat (first|refine RUN ?_|refine CV (oX) ?_|refine CE (oX) ?_)
 by_cases fa:ck=0
 case neg =>
  rw[show (ck != 0)=true from bne_iff_ne.2 fa];refine uR ?_;rw[xY fun k=>fa k.1]
 subst fa
 repeat (first|refine RUN ?_|refine CV (hf) ?_|refine CE (hf) ?_)
 cases fb
 case false =>
  refine uR ?_;rw[xY fun k=>by cases k.2.1]
 refine uR ?_;refine EV.loopK (ι:=Nat) [1,2] [] (fun q=>[(9,.v (.int .i64 (q:Int)))]) (fun _=>[]) (fun _=>[]) (fun q _=>q<=rows.length/\∀r,r∈rows.take q->0<=r/\r<(X.length:Int)) (fun q=>rows.length-q) (0) Z Z ⟨Z,trivial⟩ trivial rfl (fun _=>rfl) (⟨qQ _,fun r hr=>by cases hr⟩) ?_;rintro i G1 aj ⟨hi,av⟩;refine uR ?_;refine EV.cond Z (fun af=>?_) (fun af=>?_)
 ·simp only[nN]at af;obtain⟨r,bB⟩:=gE af;have ee:=qF bB;refine uR ?_;refine vI ((hr.mono aj)) (i) (rfl) (af) ((by rw[qK,bB];rfl)) ?_;refine uR ?_;by_cases gh:r<0
  ·rw[qD gh];refine uR ?_;rw[xY fun k=>by have:=k.2.2 r ee;omega]
  rw[qC gh];refine uR ?_;refine vI ((hr.mono aj)) (i) (rfl) (af) ((by rw[qK,bB];rfl)) ?_;refine uR ?_;by_cases Fb:r>=(X.length:Int)
  ·rw[qD Fb];refine uR ?_;rw[xY fun k=>by have:=k.2.2 r ee;omega]
  rw[qC Fb];refine uR ?_;refine⟨i+1,⟨by rw[aO i (by omega)];rfl,trivial⟩,sB,trivial,trivial,rfl,⟨af,fun y hy=>?_⟩,Hp.Le.refl _,by omega⟩;rw[dZ bB]at hy;rcases List.mem_append.1 hy with h | h
  ·exact av y h
  ·rw[pK.1 h];omega
 ·simp only[nN]at af;obtain rfl:i=rows.length:=oM;rw[qa]at av;refine uR ?_;rw[HY av]
def nY (H:Hp) (cs:List Value) (kd cl w:Int) (ns:List Nd):Prop:=∃a c css,cs=[.int .i64 kd,.int .i64 cl,.int .i64 w,.slice a ns.length c]/\jR H css ns/\SlC H (.slice a ns.length c) ns.length 15 css.flatten
theorem nY.mono {H G:Hp} {cs:List Value} {kd cl w:Int} {ns:List Nd} (h:nY H cs kd cl w ns) (k:H.Le G):nY G cs kd cl w ns:=by
 obtain⟨a,c,css,e,h1,h2⟩:=h;exact⟨a,c,css,e,h1.mono k,h2.mono k⟩
end
section
structure Tr where
 kd:Int
 cl:Int
 w:Int
 ns:List Nd
end
section
open Go.RowKit _root_.Go.Proofs.Tryz
def RTs (H:Hp) (tcs:List (List Value)) (ts:List Tr):Prop:=tcs.length=ts.length/\∀(j:Nat) (c:List Value) (t:Tr),tcs[j]?=some c->ts[j]?=some t->nY H c t.kd t.cl t.w t.ns
theorem RTs.mono {H G:Hp} {tcs:List (List Value)} {ts:List Tr} (h:RTs H tcs ts) (k:H.Le G):RTs G tcs ts:=⟨h.1,fun j c t e1 e2=>(h.2 j c t e1 e2).mono k⟩
theorem Cg {α β:Type} {R:α->β->Prop} {xs:List α} {ys:List β} (h:xs.length=ys.length/\∀(j:Nat) (x:α) (y:β),xs[j]?=some x->ys[j]?=some y->R x y) {x:α} {y:β} (k:R x y):(xs++[x]).length=(ys++[y]).length/\∀(j:Nat) (x':α) (y':β),(xs++[x])[j]?=some x'->(ys++[y])[j]?=some y'->R x' y':=by
 refine⟨by simp[h.1],fun j x' y' e1 e2=>?_⟩;by_cases hj:j<xs.length
 ·rw[qM hj]at e1;rw[qM (by rw[<-h.1];exact hj)]at e2;exact h.2 j x' y' e1 e2
 ·rw[qL (by omega)]at e1;rw[qL (by rw[<-h.1];omega),<-h.1]at e2
  have h0:j-xs.length=0:=by
   have:=(qE.1 e1).1;simp at this;omega
  rw[h0]at e1 e2;cases e1;cases e2;exact k
def RTL (H:Hp) (v:Value) (ts:List Tr):Prop:=∃tcs,RTs H tcs ts/\SlC H v ts.length 4 tcs.flatten
theorem RTL.mono {H G:Hp} {v:Value} {ts:List Tr} (h:RTL H v ts) (k:H.Le G):RTL G v ts:=by
 obtain⟨tcs,h1,h2⟩:=h;exact⟨tcs,h1.mono k,h2.mono k⟩
end
section
inductive Sub (T:List Nd) (w:Int):Nat->Nat->Nat->Prop
 | leaf {k h:Nat} {n:Nd}:T[k]?=some n->n.col = -1->n.left=0->n.right=0->n.at'=0->Sub T w k h (k+1)
 | node {k h m e:Nat} {n:Nd}:T[k]?=some n->0<=n.col->n.col<w->n.left=((k+1:Nat):Int)->n.right=(m:Int)->Sub T w (k+1) h m->Sub T w m h e->Sub T w k (h+1) e
theorem Sub.lt {T:List Nd} {w:Int} {k h e:Nat} (h0:Sub T w k h e):k<e/\e<=T.length:=by
 induction h0 with
 | leaf hn _ _ _ _ =>
  have:=(qE.1 hn).1;omega
 | node _ _ _ _ _ _ _ p7 pZ=>omega
structure OkN (kd cl:Int) (n:Nd):Prop where
 rows:1<=n.rows/\n.rows<=1048576
 cost:0<=n.cost
 len:(n.counts.length:Int)=cl
 pos:∀c,c∈n.counts->0<=c
 sum:kd=1->n.counts.sum=n.rows
 cls:n.cls=(topN n.counts n.counts.length:Int)
 value:kd=1->n.value=0
 small:ht n.at'<=200/\ht n.cost<=2000000/\ht n.value<=4000
structure OkC (n a b:Nd):Prop where
 rows:n.rows=a.rows+b.rows
 counts:∀k:Nat,n.counts.getD k 0=a.counts.getD k 0+b.counts.getD k 0
 cost:a.cost+b.cost<=n.cost
def Ht (kd cl:Int) (T:List Nd) (i:Nat):Prop:=∃n,T[i]?=some n/\OkN kd cl n/\(n.col ≠ -1->0<=n.col/\0<=n.left/\0<=n.right/\∃a b,T[n.left.toNat]?=some a/\T[n.right.toNat]?=some b/\OkC n a b)
structure py (p:GP) (kd cl:Int) (w:Nat):Prop where
 kind:(kd=1/\1<=cl/\cl<=12)\/(kd=2/\cl=0)
 rowsX:p.X.length<=300
 wide:∀x,x∈p.X->x.length=w
 small:∀x,x∈p.X->∀q,q∈x->ht q<=60
 clen:∀l,((p.cnt l).length:Int)=cl
 cadd:∀r l m:List Int,r.Perm (l++m)->∀k:Nat,(p.cnt r).getD k 0=(p.cnt l).getD k 0+(p.cnt m).getD k 0
 cpos:∀l c,c∈p.cnt l->0<=c
 csum:kd=1->∀l,(∀r,r∈l->0<=r/\r<(p.X.length:Int))->(p.cnt l).sum=(l.length:Int)
 zero:kd=1->∀l,p.mean l=0
 cost0:∀l,0<=p.cost l
 csm:∀l:List Int,l.length<=300->(∀r,r∈l->0<=r/\r<(p.X.length:Int))->ht (p.cost l)<=2000000
 msm:∀l:List Int,l.length<=300->(∀r,r∈l->0<=r/\r<(p.X.length:Int))->ht (p.mean l)<=4000
 gain:0<=p.gain
 cols:∀s c,c∈(p.cols s).1->0<=c/\c<(w:Int)
theorem zlB (l:List Int) (f:Int->Bool):l.Perm (l.filter f++l.filter fun x => !f x):=by
 induction l with
 | nil=>exact List.Perm.nil
 | cons x l ih =>
  cases h:f x with
  | true=>rw[List.filter_cons_of_pos h,List.filter_cons_of_neg (by simp[h])];exact List.Perm.cons x ih
  | false=>rw[List.filter_cons_of_neg (by simp[h]),List.filter_cons_of_pos (by simp[h])];exact(List.Perm.cons x ih).trans List.perm_middle.symm
theorem B1 {p:GP} {kd cl:Int} {w:Nat} (hp:py p kd cl w) {rows:List Int} {s c:Int} {t:Rat} (hb:∀r,r∈rows->0<=r/\r<(p.X.length:Int)) (h:p.cut rows (p.cols s).1=some (c,t)) :
  (0<=c/\c<(w:Int))/\ht t<=200/\1<=(aR p.X c t rows).length/\1<=(bf p.X c t rows).length/\rows.Perm (aR p.X c t rows++bf p.X c t rows)/\p.cost (aR p.X c t rows)+p.cost (bf p.X c t rows)<=p.cost rows:=by
 unfold GP.cut at h
 cases kq:p.best rows (p.cols s).1 with
 | none=>rw[kq]at h;cases h
 | some q =>
  obtain⟨c',t',g⟩:=q;rw[kq]at h;dsimp only at h;split at h
  ·cases h
  ·rename_i hg;cases h;have hf:=Cm (eX p.X p.cost rows (max 1 p.least) (p.cols s).1);rw[show (eX p.X p.cost rows (max 1 p.least) (p.cols s).1).foldl gK none=some (c,t,g) from kq]at hf;have hm:=hf.1;unfold eX jt at hm;obtain⟨c2,cM,hm⟩:=List.mem_flatMap.1 hm;obtain⟨t2,Jz,hm⟩:=List.mem_flatMap.1 hm;split at hm
   ·rename_i hL;cases pK.1 hm;have uQ:=hp.cols s c cM
    have av:∀r,r∈rows->cY p.X c r=true:=fun r hr=>by
     obtain⟨R,rfl⟩:=qh (hb r hr).1;have hR:=(hb _ hr).2;unfold cY;obtain⟨x,hx⟩:∃x,p.X[R]?=some x:=⟨_,qA oM⟩;rw[qU,qB,hx,Option.getD_some,hp.wide x (qF hx)];simp;omega
    have cF:aR p.X c t rows=rows.filter fun r=>decide (bD p.X c r<=t):=by
     unfold aR;exact List.filter_congr fun r hr=>by rw[av r hr,Bool.true_and]
    have cJ:bf p.X c t rows=rows.filter fun r => !decide (bD p.X c r<=t):=by
     unfold bf
     exact List.filter_congr fun r hr=>by rw[av r hr,Bool.true_and]
    have jf:rows.Perm (aR p.X c t rows++bf p.X c t rows):=by rw[cF,cJ];exact zlB _ _
    have h0:=hp.gain;refine⟨uQ,KK hp.small Jz,by omega,by omega,jf,?_⟩;have:p.gain<p.cost rows-(p.cost (aR p.X c t rows)+p.cost (bf p.X c t rows)):=Rat.not_le.1 hg;grind
   ·cases hm
theorem QX {p:GP} {kd cl:Int} {w:Nat} (hp:py p kd cl w) {rows:List Int} (h1:1<=rows.length) (h2:rows.length<=300) (hb:∀r,r∈rows->0<=r/\r<(p.X.length:Int)) {c l r:Int} {t:Rat} (aM:ht t<=200):OkN kd cl { p.nd rows with col:=c,left:=l,right:=r,at':=t } :=
 ⟨⟨by show 1<=(rows.length:Int);omega,by show (rows.length:Int)<=1048576;omega⟩,hp.cost0 rows,hp.clen rows,hp.cpos rows,fun e=>hp.csum e rows hb,rfl,fun e=>hp.zero e rows,aM,hp.csm rows h2 hb,hp.msm rows h2 hb⟩
theorem YQ {p:GP} {kd cl:Int} {w:Nat} (hp:py p kd cl w):∀(d k:Nat) (rows:List Int) (s:Int),1<=rows.length->rows.length<=300->(∀r,r∈rows->0<=r/\r<(p.X.length:Int))->∀T:List Nd,(∀(j:Nat) (n:Nd),(p.grow d k rows s).1[j]?=some n->T[k+j]?=some n) ->
  Sub T w k d (k+(p.grow d k rows s).1.length)/\(∃n,T[k]?=some n/\n.rows=(rows.length:Int)/\n.counts=p.cnt rows/\n.cost=p.cost rows)/\∀j,j<(p.grow d k rows s).1.length->Ht kd cl T (k+j):=by
 have single:∀(d k:Nat) (rows:List Int),1<=rows.length->rows.length<=300->(∀r,r∈rows->0<=r/\r<(p.X.length:Int))->∀T:List Nd,(∀(j:Nat) (n:Nd),[p.nd rows][j]?=some n->T[k+j]?=some n) ->
   Sub T w k d (k+1)/\(∃n,T[k]?=some n/\n.rows=(rows.length:Int)/\n.counts=p.cnt rows/\n.cost=p.cost rows)/\∀j,j<1->Ht kd cl T (k+j):=by
  intro d k rows h1 h2 hb T hT;have h0:=hT 0 _ rfl;rw[qY]at h0;refine⟨.leaf h0 Z Z Z Z,⟨_,h0,rfl,rfl,rfl⟩,fun j hj=>?_⟩;obtain rfl:j=0:=oM;refine⟨_,by rw[qY];exact h0,QX hp h1 h2 hb (c:=-1) (l:=0) (r:=0) (t:=0) (by rw[rK];decide),fun e=>absurd rfl e⟩
 intro d
 induction d with
 | zero =>
  intro k rows s h1 h2 hb T hT;rw[GP.grow_zero]at hT ⊢;exact single 0 k rows h1 h2 hb T hT
 | succ d ih =>
  intro k rows s h1 h2 hb T hT
  cases hc:p.cut rows (p.cols s).1 with
  | none =>
   rw[GP.grow_none hc]at hT ⊢;exact single (d+1) k rows h1 h2 hb T hT
  | some ct =>
   obtain⟨c,t⟩:=ct;obtain⟨uQ,nC,ew,dQ,jf,eI⟩:=B1 hp hb hc;have dc:(aR p.X c t rows).length<=300:=qI (List.length_filter_le _ _) h2;have Bb:(bf p.X c t rows).length<=300:=qI (List.length_filter_le _ _) h2;have sN:∀r,r∈aR p.X c t rows->0<=r/\r<(p.X.length:Int):=fun r hr=>hb r (List.mem_filter.mp hr).1;have hhm:∀r,r∈bf p.X c t rows->0<=r/\r<(p.X.length:Int):=fun r hr=>hb r (List.mem_filter.mp hr).1;rw[GP.grow_some hc]at hT ⊢;have zo:=p.grow_len d (k+1) (aR p.X c t rows) (p.cols s).2;have Vx:=ih (k+1) (aR p.X c t rows) (p.cols s).2 ew dc sN T;generalize p.grow d (k+1) (aR p.X c t rows) (p.cols s).2=L at *
   obtain⟨Ls,s2⟩:=L;have iF:=p.grow_len d (k+1+Ls.length) (bf p.X c t rows) s2;have Vw:=ih (k+1+Ls.length) (bf p.X c t rows) s2 dQ Bb hhm T;dsimp only at hT zo Vx ⊢;generalize p.grow d (k+1+Ls.length) (bf p.X c t rows) s2=R at *
   obtain⟨Rs,s3⟩:=R;dsimp only at hT iF Vw ⊢;have h0:=hT 0 _ rfl;rw[qY]at h0
   obtain⟨sL,⟨a,ha,ib,ha2,ha3⟩,nL⟩:=Vx (fun j n hj=>by
    have:=hT (j+1) n (by rw[pM,qM (qE.1 hj).1];exact hj);rw[show k+1+j=k+(j+1) by omega];exact this)
   obtain⟨sR,⟨b,dF,cG,cP,ei⟩,nR⟩:=Vw (fun j n hj=>by
    have:=hT (j+Ls.length+1) n (by rw[pM,qL oM,Nat.add_sub_cancel];exact hj);rw[show k+1+Ls.length+j=k+(j+Ls.length+1) by omega];exact this)
   have hlen:rows.length=(aR p.X c t rows).length+(bf p.X c t rows).length:=by rw[jf.length_eq,qJ]
   have Ff:Ht kd cl T k:=by
    refine⟨_,h0,QX hp h1 h2 hb nC,fun _=>⟨uQ.1,Int.natCast_nonneg _,Int.natCast_nonneg _,a,b,by rw[qU];exact ha,by rw[qU];exact dF,⟨?_,fun q=>?_,?_⟩⟩⟩
    ·rw[ib,cG];show (rows.length:Int)=_;omega
    ·rw[ha2,cP];exact hp.cadd _ _ _ jf q
    ·rw[ha3,ei];exact eI
   refine⟨?_,⟨_,h0,rfl,rfl,rfl⟩,fun j hj=>?_⟩
   ·rw[qR,qJ,show k+(Ls.length+Rs.length+1)=k+1+Ls.length+Rs.length by omega];exact .node h0 uQ.1 uQ.2 Z Z sL sR
   ·rw[qR,qJ]at hj
    cases j with
    | zero=>exact Ff
    | succ j =>
     by_cases h:j<Ls.length
     ·rw[show k+(j+1)=k+1+j by omega];exact nL j h
     ·rw[show k+(j+1)=k+1+Ls.length+(j-Ls.length) by omega];exact nR _ oM
structure kW (t:Tr):Prop where
 kind:(t.kd=1/\1<=t.cl/\t.cl<=12)\/(t.kd=2/\t.cl=0)
 wide:1<=t.w/\t.w<=20
 len:t.ns.length<=2000
 sub:∃h,h<=10/\Sub t.ns t.w 0 h t.ns.length
 nodes:∀i,i<t.ns.length->Ht t.kd t.cl t.ns i
end
section
open Go.RowKit _root_.Go.Proofs.Tryz
theorem jR.get {H:Hp} {css:List (List Value)} {ns:List Nd} (h:jR H css ns) {j:Nat} {n:Nd} (hj:ns[j]?=some n):∃c,(css.flatten.drop (j*15)).take 15=c/\gz H c n:=by
 have af:=(qE.1 hj).1;obtain⟨c,hc⟩:∃c,css[j]?=some c:=⟨_,qA (by rw[h.1];exact af)⟩;refine⟨c,?_,h.2 j c n hc hj⟩
 have GV:∀x,x∈css->(id x).length=15:=fun x hx=>by
  obtain⟨i,hi⟩:=List.mem_iff_getElem?.1 hx;have ef:=(qE.1 hi).1;exact(h.2 i x _ hi (qA (by rw[<-h.1];exact ef))).len
 have:=yy id 15 css GV j c hc
 rwa [List.flatMap_id]at this
abbrev XK (kd cl w:Int) (vn:Value):Value:=.agg #[.int .i64 kd,.int .i64 cl,.int .i64 w,vn]
theorem I7 {l:List Int} (h:∀c,c∈l->0<=c) (k:Nat):0<=(l.take k).sum/\(l.take k).sum<=l.sum:=by
 have h0:∀m:List Int,(∀c,c∈m->0<=c)->0<=m.sum:=fun m=>by
  induction m with
  | nil=>exact fun _=>Int.le_refl 0
  | cons c m ih=>intro hm;rw[List.sum_cons];have:=hm c (qf ..);have:=ih fun c hc=>hm c (qk _ hc);omega
 have e:l.sum=(l.take k).sum+(l.drop k).sum:=by rw[<-List.sum_append,List.take_append_drop]
 have h1:=h0 (l.take k) fun c hc=>h c (List.mem_of_mem_take hc);have h2:=h0 (l.drop k) fun c hc=>h c (List.mem_of_mem_drop hc);omega
theorem YW {q:Rat} (h:0<=q):¬q.num.sign<0:=by
 have:=Rat.num_nonneg.2 h;intro k;have:=Int.sign_nonneg_iff.2 this;omega
theorem Sub.end0 {T:List Nd} {w:Int} {h e:Nat} (h0:Sub T w 0 h e):0<T.length:=by
 have:=h0.lt;omega
theorem RTs.get {H:Hp} {tcs:List (List Value)} {ts:List Tr} (h:RTs H tcs ts) {j:Nat} {t:Tr} (hj:ts[j]?=some t):∃c,(tcs.flatten.drop (j*4)).take 4=c/\nY H c t.kd t.cl t.w t.ns:=by
 have af:=(qE.1 hj).1;obtain⟨c,hc⟩:∃c,tcs[j]?=some c:=⟨_,qA (by rw[h.1];exact af)⟩;refine⟨c,?_,h.2 j c t hc hj⟩
 have h4:∀x,x∈tcs->(id x).length=4:=fun x hx=>by
  obtain⟨i,hi⟩:=List.mem_iff_getElem?.1 hx;have ef:=(qE.1 hi).1;obtain⟨_,_,_,e,_⟩:=h.2 i x _ hi (qA (by rw[<-h.1];exact ef));subst e;rfl
 have:=yy id 4 tcs h4 j c hc
 rwa [List.flatMap_id]at this
def gM (z:Int):Prop:=-9223372036854775808<=z/\z<9223372036854775808
structure Hr (kd cl:Int) (n:Nat) (cost mean:List Int->Rat) (cnt:List Int->List Int):Prop where
 kind:(kd=1/\1<=cl/\cl<=12)\/(kd=2/\cl=0)
 clen:∀l,((cnt l).length:Int)=cl
 cadd:∀r l m:List Int,r.Perm (l++m)->∀k:Nat,(cnt r).getD k 0=(cnt l).getD k 0+(cnt m).getD k 0
 cpos:∀l c,c∈cnt l->0<=c
 csum:kd=1->∀l,(∀r,r∈l->0<=r/\r<(n:Int))->(cnt l).sum=(l.length:Int)
 zero:kd=1->∀l,mean l=0
 cost0:∀l,0<=cost l
 csm:∀l:List Int,l.length<=300->(∀r,r∈l->0<=r/\r<(n:Int))->ht (cost l)<=2000000
 msm:∀l:List Int,l.length<=300->(∀r,r∈l->0<=r/\r<(n:Int))->ht (mean l)<=4000
theorem Uo:∀l:List Rat,(∀q,q∈l->0<=q)->0<=aJ l
 | [],_=>by rw[zQ];exact Rat.le_refl
 | x::l,h=>by
  rw[ky];exact Rat.add_nonneg (h x (.head _)) (Uo l fun q hq=>h q (.tail _ hq))
theorem zlv (m:Rat) (l:List Rat):0<=aJ (eB m l):=Uo _ fun q hq=>by
 obtain⟨v,_,rfl⟩:=List.mem_map.1 hq;exact Tv _
theorem zjX (L:List Int):0<=pA L:=by
 unfold pA;have h1:=BX L;by_cases h0:L.length=0
 ·obtain rfl:=pJ.1 h0;decide +kernel
 ·have hp:(0:Rat)<((L.length:Int):Rat):=by
   have:((0:Int):Rat)<((L.length:Int):Rat):=Rat.intCast_lt_intCast.2 oM;exact this
  have h2:((sqL L:Int):Rat)<=((L.length:Int):Rat)*((L.length:Int):Rat):=by
   rw[<-Rat.intCast_mul];exact Rat.intCast_le_intCast.2 (by exact_mod_cast h1)
  generalize ((L.length:Int):Rat)=N at *
  generalize ((sqL L:Int):Rat)=S at *
  have h3:0<=N⁻¹:=Rat.le_of_lt (Rat.inv_pos.2 hp);have h4:0<=N*N-S:=by grind
  have h5:=Rat.mul_nonneg h4 h3;have hne:N≠0:=by grind
  have h6:N*N⁻¹=1:=Rat.mul_inv_cancel N hne;have h7:(N*N-S)*N⁻¹=N-S / N:=by rw[Rat.div_def];grind
  rw[h7]at h5;exact h5
theorem Ss {α:Type} (f:α->Nat):∀l:List α,(l.map fun x=>(f x:Int)).sum=(((l.map f).sum:Nat):Int)
 | []=>rfl
 | x::l=>by
  rw[qx,qx,List.sum_cons,List.sum_cons,Ss f l];omega
theorem zrg {C:Nat} {L:List Int} (h:∀z,z∈L->0<=z/\z<(C:Int)):(en C L).sum=(L.length:Int):=by
 have h1:=(K5 C L h).2;unfold en;rw[Ss (fun k:Nat=>L.count (k:Int)),<-h1]
theorem L3 (C:Nat) (L:List Int) (k:Nat):(en C L).getD k 0=if k<C then (L.count (k:Int):Int) else 0:=by
 rw[qB];by_cases h:k<C
 ·rw[B8 _ h,if_pos h];rfl
 ·rw[qe (by rw[om];omega),if_neg h];rfl
theorem zrf (C:Nat) {R L M:List Int} (h:R.Perm (L++M)) (k:Nat):(en C R).getD k 0=(en C L).getD k 0+(en C M).getD k 0:=by
 rw[L3,L3,L3,h.count_eq,List.count_append];split <;> omega
theorem zq7 {ls:List Int} {rs:List Int} (h:∀r,r∈rs->0<=r/\r<(ls.length:Int)):∀q,q∈atI ls rs->q∈ls:=fun q hq=>by
 obtain⟨r,hr,rfl⟩:=List.mem_map.1 hq;have:=h r hr;have hl:r.toNat<ls.length:=oM;rw[qB,qA hl];exact List.getElem_mem hl
theorem zoq {l:List Int} {n w:Nat}:∀x,x∈oe l n w->x.length=w/\∀q,q∈x->ht q<=60:=fun x hx=>⟨(Ta x hx).1,fun q hq=>qI ((Ta x hx).2 q hq) oM⟩
def kT (H:Hp) (cs:List Value) (n:Nd):Prop:=∃a c,IL H (.slice a n.counts.length c) n.counts /\
 cs=[.int .i64 n.col,.int .i64 n.left,.int .i64 n.right,.int .i64 n.rows,.int .i64 n.cls]++(aB (aC n.at')++(aB (aC n.cost)++(aB (aC n.value)++[.slice a n.counts.length c])))
theorem kT.mono {H G:Hp} {cs:List Value} {n:Nd} (h:kT H cs n) (k:H.Le G):kT G cs n:=by
 obtain⟨a,c,h1,e⟩:=h;exact⟨a,c,h1.mono k,e⟩
theorem kT.len {H:Hp} {cs:List Value} {n:Nd} (h:kT H cs n):cs.length=21:=by
 obtain⟨a,c,_,rfl⟩:=h;rfl
theorem QP (cs:List Value):[Value.agg cs.toArray].flatMap aB=cs:=by
 show aB (.agg cs.toArray)++[]=cs;rw[qG];rfl
theorem KA (c:List Value):[c].flatten=c:=List.flatten_singleton
def ig (H:Hp) (css:List (List Value)) (ns:List Nd):Prop:=css.length=ns.length/\∀(j:Nat) (c:List Value) (n:Nd),css[j]?=some c->ns[j]?=some n->kT H c n
theorem ig.mono {H G:Hp} {css:List (List Value)} {ns:List Nd} (h:ig H css ns) (k:H.Le G):ig G css ns:=⟨h.1,fun j c n e1 e2=>(h.2 j c n e1 e2).mono k⟩
theorem ig.get {H:Hp} {css:List (List Value)} {ns:List Nd} (h:ig H css ns) {j:Nat} {n:Nd} (hj:ns[j]?=some n):∃c,(css.flatten.drop (j*21)).take 21=c/\kT H c n:=by
 have af:=(qE.1 hj).1;obtain⟨c,hc⟩:∃c,css[j]?=some c:=⟨_,qA (by rw[h.1];exact af)⟩;refine⟨c,?_,h.2 j c n hc hj⟩
 have h21:∀x,x∈css->(id x).length=21:=fun x hx=>by
  obtain⟨i,hi⟩:=List.mem_iff_getElem?.1 hx;have ef:=(qE.1 hi).1;exact(h.2 i x _ hi (qA (by rw[<-h.1];exact ef))).len
 have:=yy id 21 css h21 j c hc
 rwa [List.flatMap_id]at this
def nZ (H:Hp) (cs:List Value) (kd cl w:Int) (ns:List Nd):Prop:=∃a c css,cs=[.int .i64 kd,.int .i64 cl,.int .i64 w,.slice a ns.length c]/\ig H css ns/\SlC H (.slice a ns.length c) ns.length 21 css.flatten
theorem nZ.mono {H G:Hp} {cs:List Value} {kd cl w:Int} {ns:List Nd} (h:nZ H cs kd cl w ns) (k:H.Le G):nZ G cs kd cl w ns:=by
 obtain⟨a,c,css,e,h1,h2⟩:=h;exact⟨a,c,css,e,h1.mono k,h2.mono k⟩
def ub (n:Nd):Prop:=rq n.at'/\rq n.cost/\rq n.value/\n.counts.length<=1000000
theorem OkN.smallN {kd cl:Int} {n:Nd} (h:OkN kd cl n) (hc:cl<=12):ub n:=by
 obtain⟨h1,h2,h3⟩:=h.small;have:=h.len;unfold ub rq;exact⟨by omega,by omega,by omega,by omega⟩
theorem zrA {H:Hp} {v:Value} {cl:Int} {sl sv:Value}:PC prog 159 #[bG 1 cl sl sv,v] H fun r _=>r=aC 0:=by
 refine BD func159 ntmps159 ?_;refine uR ?_;exact Cl.symm
section
variable {P:Program} {n:Nat} {ops:Array Oper} {o:Oper} {rest:List Oper} {env:Env} {bx:Bxs} {sb:Bxs} {ow:Ows} {H:Hs} {Q:EQ} {τ:Tab} {d:Nat} {s:SV}
theorem EVL.callWC {f:FuncId} {t:Nat} {args:Array Operand} {bW:Array TypeId} (ho:o.op=.call ⟨.value (.tmp t),args,bW⟩) (hw:aP ops env o=some true) (hd:o.dst=some d) (hn:Nat.blt d n=true)
  {cs:List Value} (ht:env.op (.tmp t)=some (.v (.func (.func f) #[] cs.toArray))) {vs:List Value} (ha:dX env args.toList some=some vs) (L R:Ows) (e:H.ow=L++R) {Φ:Value->Ows->Hp->Prop} (hpc:PW P f (vs++cs).toArray H.ro L Φ)
  (h:∀v ow H',Φ v ow H'->H.ro.Le H'->EVL P n ops rest ((d,.v v)::env) bx ⟨H',ow++R,H.base⟩ Q):EVL P n ops (o::rest) env bx H Q:=fun W0 β a W r=>by
 obtain⟨aX,hk,hm⟩:=oz env _ _ _ ha;cases hk;have aG:=hm β H.ro a.eval (fun y s _ hy=>r.op hy);have E1:a.eval (.tmp t)=.func (.func f) #[] cs.toArray:=r.op ht;unfold wpList;rw[if_pos (r.want hw)];refine .inl ?_;unfold Oper.wp;rw[U7 hpc.can ho E1 aG,Oper.upon_enter]
 have up:∀(j b:Nat) (T:TypeId) (cs:List Value),L[j]?=some (b,T,cs)->H.ow[j]?=some (b,T,cs):=fun j b T cs hj=>by
  rw[e,qM (qE.1 hj).1];exact hj
 refine(hpc.run W r.fits r.globW (fun j b T cs hj=>?_) (fun j j' b T T' cs aq hj ak=>r.one j j' b T T' cs aq (up _ _ _ _ hj) (up _ _ _ _ ak))).mono ?_
 ·obtain⟨h1,h2,h3,_⟩:=r.own j b T cs (up _ _ _ _ hj);refine⟨h1,h3,?_⟩;rcases h2 with h2 | h2
  ·cases hg:gH b with
   | none=>rfl
   | some c=>have:=r.glob.1.lt (b:=b) (by rw[hg];simp);omega
  ·exact(r.glob.2 b h2).1
 ·rintro e' W' ⟨v,ow,H',rfl,hΦ,hle,hf,ia,O7,ah,lG⟩;rw[hd];exact h v ow H' hΦ hle W0 β _ W' ((r.callW e hle hf ia O7 ah lG).put hn Z Z)
end
section
variable {P:Program} {n:Nat} {ops:Array Oper} {o:Oper} {rest:List Oper} {env:Env} {bx:Bxs} {H:Hs} {Q:EQ} {d:Nat}
end
theorem zrL {H:Hp} {kd cl:Int} {sl sv vx vr vc:Value} {p:GP} {S:List Int->List Value} {wo:List Int->Rat} {rows cols:List Int} {least:Int} (hg:GOk H kd cl sl sv p.X.length S wo) (hp:POk wo p.cost) (hX:QLL H vx p.X) (hr:IL H vr rows) (hn:rows.length<=20) (hb:∀r,r∈rows->0<=r/\r<(p.X.length:Int)) (hc:IL H vc cols) (oW:cols.length<=1000000) (hx:∀x,x∈p.X->∀q,q∈x->ht q<=100) (fS:p.least=least) :
  PC prog 161 #[bG kd cl sl sv,vx,vr,vc,.int .i64 least] H fun r _=>r=.tuple #[.agg (xR (p.best rows cols)).toArray,.bool (p.best rows cols).isSome]:=by
 refine(ZB hg hX hr hn hc oW hx).mono ?_;rintro r G ⟨ps,h1,h2,h3⟩ _;rw[yp hb]at h2 h3;have e:=zlm hp h1 h2
 have e2:p.best rows cols=(gP ps).map fun t=>(t.1,t.2.1,t.2.2-wo rows):=by
  unfold GP.best;rw[fS,show max 1 least=max least 1 from Int.max_comm _ _];exact e.symm
 rcases h3 with ⟨h4,rfl⟩ | ⟨c,a,w,h4,rfl⟩
 ·rw[e2,h4];rfl
 ·rw[e2,h4];rfl
structure zD (H:Hp) (kd cl:Int) (sl sv:Value) (p:GP) (S:List Int->List Value) (wo:List Int->Rat):Prop where
 ok:GOk H kd cl sl sv p.X.length S wo
 pok:POk wo p.cost
 counts:∀G,H.Le G->∀u l,IL G u l->l.length<=300->PC prog 160 #[bG kd cl sl sv,u] G fun r H'=>IL H' r (p.cnt (exL l p.X.length))
 cntlen:∀l,(p.cnt l).length<=12
 top:∀G,H.Le G->∀u l,IL G u l->l.length<=300->PC prog 157 #[bG kd cl sl sv,u] G fun r _=>r=.int .i64 (topN (p.cnt (exL l p.X.length)) (p.cnt (exL l p.X.length)).length:Nat)
 mean:∀G,H.Le G->∀u l,IL G u l->l.length<=300->PC prog 159 #[bG kd cl sl sv,u] G fun r _=>r=aC (p.mean (exL l p.X.length))
 small:∀l:List Int,l.length<=300->(∀r,r∈l->0<=r/\r<(p.X.length:Int))->ht (p.cost l)<=2000000
 cost:∀G,H.Le G->∀u l,IL G u l->l.length<=300->PC prog 158 #[bG kd cl sl sv,u] G fun r _=>r=aC (p.cost (exL l p.X.length))
theorem zD.mono {H H':Hp} {kd cl:Int} {sl sv:Value} {p:GP} {S:List Int->List Value} {wo:List Int->Rat} (h:zD H kd cl sl sv p S wo) (k:H.Le H'):zD H' kd cl sl sv p S wo :=
 ⟨h.ok.mono k,h.pok,fun G hG=>h.counts G (k.trans hG),h.cntlen,fun G hG=>h.top G (k.trans hG),fun G hG=>h.mean G (k.trans hG),h.small,fun G hG=>h.cost G (k.trans hG)⟩
def PTs (H:Hp) (tcs:List (List Value)) (ts:List Tr):Prop:=tcs.length=ts.length/\∀(j:Nat) (c:List Value) (t:Tr),tcs[j]?=some c->ts[j]?=some t->nZ H c t.kd t.cl t.w t.ns
theorem PTs.mono {H G:Hp} {tcs:List (List Value)} {ts:List Tr} (h:PTs H tcs ts) (k:H.Le G):PTs G tcs ts:=⟨h.1,fun j c t e1 e2=>(h.2 j c t e1 e2).mono k⟩
theorem PTs.get {H:Hp} {tcs:List (List Value)} {ts:List Tr} (h:PTs H tcs ts) {j:Nat} {t:Tr} (hj:ts[j]?=some t):∃c,(tcs.flatten.drop (j*4)).take 4=c/\nZ H c t.kd t.cl t.w t.ns:=by
 have af:=(qE.1 hj).1;obtain⟨c,hc⟩:∃c,tcs[j]?=some c:=⟨_,qA (by rw[h.1];exact af)⟩;refine⟨c,?_,h.2 j c t hc hj⟩
 have h4:∀x,x∈tcs->(id x).length=4:=fun x hx=>by
  obtain⟨i,hi⟩:=List.mem_iff_getElem?.1 hx;have ef:=(qE.1 hi).1;obtain⟨_,_,_,e,_⟩:=h.2 i x _ hi (qA (by rw[<-h.1];exact ef));subst e;rfl
 have:=yy id 4 tcs h4 j c hc
 rwa [List.flatMap_id]at this
def PTL (H:Hp) (v:Value) (ts:List Tr):Prop:=∃tcs,PTs H tcs ts/\SlC H v ts.length 4 tcs.flatten
theorem PTL.mono {H G:Hp} {v:Value} {ts:List Tr} (h:PTL H v ts) (k:H.Le G):PTL G v ts:=by
 obtain⟨tcs,h1,h2⟩:=h;exact⟨tcs,h1.mono k,h2.mono k⟩
theorem kT.cells {H:Hp} {cs:List Value} {n:Nd} (h:kT H cs n):∃a c,cs=[.int .i64 n.col,.int .i64 n.left,.int .i64 n.right,.int .i64 n.rows,.int .i64 n.cls,
  .bool (decide (n.at'.num<0)),.int .u64 (lo n.at'.num.natAbs:Int),.string (aU n.at'.num.natAbs),.int .u64 (lo (dk n.at'.den):Int),.string (aU (dk n.at'.den)),
  .bool (decide (n.cost.num<0)),.int .u64 (lo n.cost.num.natAbs:Int),.string (aU n.cost.num.natAbs),.int .u64 (lo (dk n.cost.den):Int),.string (aU (dk n.cost.den)),
  .bool (decide (n.value.num<0)),.int .u64 (lo n.value.num.natAbs:Int),.string (aU n.value.num.natAbs),.int .u64 (lo (dk n.value.den):Int),.string (aU (dk n.value.den)),.slice a n.counts.length c]/\IL H (.slice a n.counts.length c) n.counts:=by
 obtain⟨a,c,h1,rfl⟩:=h;exact⟨a,c,rfl,h1⟩
abbrev zB (kd cl w:Int) (vn:Value) (tC:Int):List Value:=[.int .i64 kd,.int .i64 cl,.int .i64 w,vn,.int .i64 tC]
set_option maxRecDepth 100000 in
theorem Yv {kd cl w:Int} {a:Option Addr} {cp:Nat} {ns:List Nd} (eU:ns.length<=1000000) {k h e:Nat} (aQ:Sub ns w k h e):∀{H:Hp} {css:List (List Value)} {b:Nat} {T:TypeId} {deep:Nat} {tC:Int},ig H css ns->SlC H (.slice a ns.length cp) ns.length 21 css.flatten->deep<=k ->
  PW prog 106 #[.pointer (some ⟨b,0,none⟩),.int .i64 (k:Int),.int .i64 (deep:Int)] H [(b,T,zB kd cl w (.slice a ns.length cp) tC)] fun v ow _=>v=.tuple #[.int .i64 (e:Int),.bool true]/\∃GY,ow=[(b,T,zB kd cl w (.slice a ns.length cp) GY)]/\GY<=max tC ((deep+h:Nat):Int):=by
 induction aQ with
 | @leaf k h n hn hc hl hr ha =>
  intro H css b T deep tC bX bA hdk;have af:=(qE.1 hn).1;obtain⟨c,hcut,hnd⟩:=bX.get hn;obtain⟨a7,c7,rfl,_⟩:=hnd.cells
  have lg:PV prog 15 #[aC n.at'] (.int .i64 0):=by
   rw[ha];exact pH 0 (by show bl 0<=_;rw[lX];omega)
  refine PW.body tO func106 Z kR ntmps106 Z Z ?_;refine uR ?_;refine RP ?_;refine EVL.loadOwn tO Z Z Z Z Z Z (0) Z (rfl) Z Z ?_;refine uR ?_;rw[qC (show ¬(k:Int)>=(ns.length:Int) by omega)];refine uR ?_;refine RP ?_;refine EVL.loadOwn tO Z Z Z Z Z Z (0) Z (rfl) Z Z ?_;refine uR ?_;refine EVL.idxM tO Z Z Z Z Z Z Z Z Z (bA) (k) (rfl) (af) (hcut) ?_;refine uR ?_;rw[hc];refine uR ?_;refine RP ?_;refine EVL.loadOwn tO Z Z Z Z Z Z (0) Z (rfl) Z Z ?_;refine uR ?_;refine RP ?_;refine EVL.storeOwn tO Z Z Z Z Z Z ([]) ([]) Z Z Z Z ((by exact qH 5)) (rfl) ?_;refine uR ?_;rw[hl,hr]
  repeat (first|refine RUN ?_|refine CV (lg) ?_|refine CE (lg) ?_)
  refine⟨by rw[aO k (by omega)];rfl,_,rfl,?_⟩;split <;> omega
 | @node k h m e n hn eA cM hl hr s1 s2 p7 pZ =>
  intro H css b T deep tC bX bA hdk;have af:=(qE.1 hn).1;obtain⟨FF,sM⟩:=s1.lt;obtain⟨WC,WB⟩:=s2.lt;obtain⟨c,hcut,hnd⟩:=bX.get hn;obtain⟨a7,c7,rfl,_⟩:=hnd.cells;refine PW.body tO func106 Z kR ntmps106 Z Z ?_;refine uR ?_;refine RP ?_;refine EVL.loadOwn tO Z Z Z Z Z Z (0) Z (rfl) Z Z ?_;refine uR ?_;rw[qC (show ¬(k:Int)>=(ns.length:Int) by omega)];refine uR ?_;refine RP ?_;refine EVL.loadOwn tO Z Z Z Z Z Z (0) Z (rfl) Z Z ?_;refine uR ?_;refine EVL.idxM tO Z Z Z Z Z Z Z Z Z (bA) (k) (rfl) (af) (hcut) ?_;refine uR ?_;rw[show (n.col == -1)=false from pQ.2 (by omega)];refine uR ?_;apply EV.drawn 20 kR kR;intro xv yw;(repeat refine' DD ?_);rw[qC (show ¬n.col<0 by omega)];(repeat refine' DD ?_);(repeat (first|refine' DD ?_|refine' vN ?_|refine' vF ?_));refine' DJ.ofVal (az.loadOwn tO Z Z Z Z (0) Z (rfl) Z Z) Z Z Z ?_;rotate_left;(repeat refine' DD ?_);rw[qC (show ¬n.col>=w by omega)];(repeat refine' DD ?_);rw[hl,aO k oM,show (((k+1:Nat):Int) != ((k+1:Nat):Int))=false from pP _];(repeat refine' DD ?_);(refine DJ.nil (fun G1 aj gV=>?_);(case hS|hS2=>rfl));refine uR ?_;rw[aO k oM,aO deep (by omega)];refine EVL.callW Z Z Z Z Z ([(b,T,zB kd cl w (.slice a ns.length cp) tC)]) ([]) Z (p7 (bX.mono aj) (bA.mono aj) (deep:=deep+1) oM) ?_;rintro _ _ G2 ⟨rfl,Qw,rfl,C0⟩ ai;refine uR ?_;rw[hr,show ((m:Int) != (m:Int))=false from pP _];refine uR ?_;rw[aO deep (by omega)];refine EVL.callW Z Z Z Z Z ([(b,T,zB kd cl w (.slice a ns.length cp) Qw)]) ([]) Z (pZ (bX.mono (aj.trans ai)) (bA.mono (aj.trans ai)) (deep:=deep+1) oM) ?_;rintro _ _ G3 ⟨rfl,Qv,rfl,CZ⟩ ax;refine uR ?_;exact⟨rfl,Qv,rfl,by omega⟩
set_option maxRecDepth 100000 in
theorem Th {H:Hp} {kd cl w:Int} {vn:Value} {n:Nd} {cs:List Value} (aW:(kd=1/\1<=cl/\cl<=12)\/(kd=2/\cl=0)) (hnd:kT H cs n) (hN:OkN kd cl n) :
  PC prog 107 #[XK kd cl w vn,.agg cs.toArray] H fun r _=>r=.bool true:=by
 obtain⟨a7,c7,rfl,k4⟩:=hnd.cells;have hN1:=hN.rows;have cj:n.counts.length<=12:=by have:=hN.len;omega
 have hsc:PV prog 15 #[aC n.cost] (.int .i64 n.cost.num.sign):=pH _ (by have:=(bE hN.small.2.1 oM).num;show bl n.cost.num.natAbs<=_;omega);refine BD func107 ntmps107 ?_;refine uR ?_;rw[qC (show ¬n.rows<1 by omega)];refine uR ?_;rw[qC (show ¬n.rows>1048576 by omega)]
 repeat (first|refine RUN ?_|refine CV (hsc) ?_|refine CE (hsc) ?_)
 rw[qC (YW hN.cost)];refine uR ?_;rw[show ((n.counts.length:Int) != cl)=false by rw[hN.len];exact pP _];refine uR ?_;rcases aW with ⟨rfl,eA,cM⟩ | ⟨rfl,rfl⟩
 ·have yR:PV prog 15 #[aC n.value] (.int .i64 0):=by
   rw[hN.value rfl];exact pH 0 (by show bl 0<=_;rw[lX];omega)
  refine uR ?_;refine EV.loopK (ι:=Nat) [2,3,38,39] [2,3] (fun q=>[(5,.v (.int .i64 (n.counts.take q).sum)),(6,.v (.int .i64 (topN n.counts q:Nat))),(40,.v (.int .i64 (q:Int)))]) (fun _=>[]) (fun _=>[]) (fun q _=>q<=n.counts.length) (fun q=>n.counts.length-q) (0) Z Z ⟨Z,Z,Z,trivial⟩ trivial rfl (fun _=>rfl) (qQ _) ?_;rintro q G2 ai hq;have bk:=hN.sum rfl;refine uR ?_;refine EV.cond Z (fun af=>?_) (fun af=>?_)
  ·simp only[nN]at af;have N2:=I7 hN.pos (q+1);have E4:=I7 hN.pos q;have kB:=Ij n.counts q;have hZ:topN n.counts q<n.counts.length:=oM;have g1:=Cc af;have g2:=Cc hZ;have eP:=hN.pos _ (qF g1);have bq:(n.counts.take (q+1)).sum=(n.counts.take q).sum+n.counts.getD q 0:=by rw[dZ g1,List.sum_append,List.sum_singleton]
   have aK:topN n.counts (q+1)=if n.counts.getD (topN n.counts q) 0<n.counts.getD q 0 then q else topN n.counts q:=rfl
   generalize topN n.counts q=tp at *
   generalize n.counts.getD tp 0=x at *
   generalize n.counts.getD q 0=y at *
   refine uR ?_;refine vI ((k4.mono ai)) (q) (rfl) (af) ((by rw[qK,g1];rfl)) ?_;refine uR ?_;rw[qC (show ¬y<0 by omega)];refine uR ?_;rw[qC (show ¬y>n.rows by omega)];refine uR ?_;rw[show IntKind.i64.wrap ((n.counts.take q).sum+y)=(n.counts.take (q+1)).sum by rw[pL];omega];refine vI ((k4.mono ai)) (tp) (rfl) (hZ) ((by rw[qK,g2];rfl)) ?_;refine uR ?_;by_cases h:y>x
   ·rw[qD h];rw[if_pos h]at aK;refine uR ?_;refine⟨q+1,⟨rfl,by rw[aK];rfl,by rw[aO q (by omega)];rfl,trivial⟩,sB,trivial,sB,rfl,by omega,Hp.Le.refl _,by omega⟩
   ·rw[qC h];rw[if_neg h]at aK;refine uR ?_;refine⟨q+1,⟨rfl,by rw[aK];rfl,by rw[aO q (by omega)];rfl,trivial⟩,sB,trivial,sB,rfl,by omega,Hp.Le.refl _,by omega⟩
  ·simp only[nN]at af;obtain rfl:q=n.counts.length:=oM;rw[qa,bk,hN.cls];refine uR ?_;rw[show (n.rows == n.rows)=true from beq_self_eq_true _];refine uR ?_;rw[show ((topN n.counts n.counts.length:Int) == (topN n.counts n.counts.length:Int))=true from beq_self_eq_true _]
   repeat (first|refine RUN ?_|refine CV (yR) ?_|refine CE (yR) ?_)
   rfl
 ·have fa:n.counts=[]:=pJ.1 (by have:=hN.len;omega);have F7:n.cls=0:=by rw[hN.cls,fa];rfl
  rw[F7];refine uR ?_;rfl
set_option maxRecDepth 100000 in
theorem zrJ {H:Hp} {kd cl:Int} {n na nb:Nd} {cs ca cb:List Value} (aW:(kd=1/\1<=cl/\cl<=12)\/(kd=2/\cl=0)) (hnd:kT H cs n) (wX:kT H ca na) (wW:kT H cb nb) (hN:OkN kd cl n) (Gu:OkN kd cl na) (C6:OkN kd cl nb) (xG:OkC n na nb) :
  PC prog 108 #[.agg cs.toArray,.agg ca.toArray,.agg cb.toArray] H fun r _=>r=.bool true:=by
 obtain⟨a7,c7,rfl,k4⟩:=hnd.cells;obtain⟨xa7,xc7,rfl,ka4⟩:=wX.cells;obtain⟨ya7,yc7,rfl,kb4⟩:=wW.cells;have hRa:=Gu.rows;have W4:=C6.rows;have hRc:=xG.rows;have hRn:=hN.rows;have nG:=hN.small;have VR:=Gu.small;have dI:=C6.small;have hlna:(na.counts.length:Int)=cl:=Gu.len;have hlnb:(nb.counts.length:Int)=cl:=C6.len;have hlnn:(n.counts.length:Int)=cl:=hN.len;have had:=pB na.cost nb.cost;have cE:=ye na.cost nb.cost (bE VR.2.1 oM) (bE dI.2.1 oM);have aS:=pC n.cost (na.cost+nb.cost) (bE nG.2.1 oM) (by unfold sm;omega);refine BD func108 ntmps108 ?_;refine uR ?_;refine EV.loopK (ι:=Nat) [3,4,5,10,11] [3,4,5] (fun q=>[(12,.v (.int .i64 (q:Int)))]) (fun _=>[]) (fun _=>[]) (fun q _=>q<=n.counts.length) (fun q=>n.counts.length-q) (0) Z Z ⟨Z,trivial⟩ trivial rfl (fun _=>rfl) (qQ _) ?_;rintro q G1 aj hq;refine uR ?_;refine EV.cond Z (fun af=>?_) (fun af=>?_)
 ·simp only[nN]at af
  have CU:kd=1:=by
   rcases aW with ⟨e,_⟩ | ⟨_,e⟩
   ·exact e
   ·omega
  obtain⟨z,hz⟩:=gE af;have JD:q<na.counts.length:=oM;have uE:q<nb.counts.length:=oM;obtain⟨za,VB⟩:=gE JD;obtain⟨zb,CL⟩:=gE uE;have WG:=xG.counts q;rw[qB,qB,qB,hz,VB,CL]at WG;simp only[Option.getD_some]at WG;have eP:=hN.pos z (qF hz)
  have E0:z<=1048576:=by
   have h1:=I7 hN.pos (q+1);have h2:=I7 hN.pos q;rw[dZ hz,List.sum_append,List.sum_singleton]at h1;have h3:=hN.sum CU;omega
  have hwz:IntKind.i64.wrap (za+zb)=z:=by rw[pL];omega
  refine uR ?_;refine vI ((k4.mono aj)) (q) (rfl) (af) ((by rw[qK,hz];rfl)) ?_;refine uR ?_;apply EV.drawn 13 kR kR;intro xv yw;(repeat refine' DD ?_);refine' vJ ((ka4.mono aj)) (q) (rfl) (JD) ((by rw[qK,VB];rfl)) ?_;rotate_left;(repeat refine' DD ?_);refine' vJ ((kb4.mono aj)) (q) (rfl) (uE) ((by rw[qK,CL];rfl)) ?_;rotate_left;(repeat refine' DD ?_);rw[hwz,show (z != z)=false from pP _];(repeat refine' DD ?_);(refine DJ.nil (fun G hG hF=>?_);(case hS|hS2=>rfl));refine uR ?_;refine⟨q+1,⟨by rw[aO q (by omega)];rfl,trivial⟩,sB,trivial,sB,rfl,af,hG,by omega⟩
 ·simp only[nN]at af;refine uR ?_;have NG:IntKind.i64.wrap (na.rows+nb.rows)=n.rows:=by rw[pL];omega
  apply EV.drawn 20 kR kR;intro xv yw;(repeat refine' DD ?_);rw[NG,show (n.rows == n.rows)=true from beq_self_eq_true _];(repeat (first|refine' DD ?_|(refine' DC (cE) (h:=?_);rotate_left)|(refine' DC (aS) (h:=?_);rotate_left)));rw[qD (show bI n.cost (na.cost+nb.cost)>=0 from Int.not_lt.1 fun k=>Rat.not_lt.2 xG.cost ((Lj _ _).1 k))];(repeat refine' DD ?_);(refine DJ.nil (fun G hG hF=>?_);(case hS|hS2=>rfl));refine uR ?_;rfl
abbrev pgC (kd cl:Int) (sl sv vx:Value) (deep least:Int) (gq:Rat) (fv out:Value):List Value:=[.int .i64 kd,.int .i64 cl,sl,sv,vx,.int .i64 deep,.int .i64 least,.bool (decide (gq.num<0)),.int .u64 (lo gq.num.natAbs:Int),.string (aU gq.num.natAbs),.int .u64 (lo (dk gq.den):Int),.string (aU (dk gq.den)),fv,out]
def B0 (H:Hp) (f:FuncId) (lO:List Value) (dv:Value) (p:GP):Prop:=∀G,H.Le G->∀(D:Ows) (s:Int),xW dv D s->PW prog f lO.toArray G D fun v ow G'=>IL G' v (p.cols s).1/\xW dv ow (p.cols s).2
theorem B0.mono {H H':Hp} {f:FuncId} {lO:List Value} {dv:Value} {p:GP} (h:B0 H f lO dv p) (k:H.Le H'):B0 H' f lO dv p:=fun G hG=>h G (k.trans hG)
theorem Y7 {R:List Value->Nd->Prop} {s:Nat} (hlen:∀c n,R c n->c.length=s) {css:List (List Value)} {A B:List Nd} {n:Nd} (h:css.length=(A++n::B).length/\∀(j:Nat) (c:List Value) (m:Nd),css[j]?=some c->(A++n::B)[j]?=some m->R c m) :
  ∃cA c cB,css=cA++c::cB/\cA.flatten.length=A.length*s/\R c n/\∀(c':List Value) (n':Nd),R c' n'->((cA++c'::cB).length=(A++n'::B).length/\∀(j:Nat) (x:List Value) (m:Nd),(cA++c'::cB)[j]?=some x->(A++n'::B)[j]?=some m->R x m):=by
 have hl:=h.1;rw[qJ,qR]at hl;have af:A.length<css.length:=oM
 have e:css=css.take A.length++css[A.length]::css.drop (A.length+1):=by
  rw[<-qp af,List.take_append_drop]
 have kj:(css.take A.length).length=A.length:=by rw[qP];omega
 refine⟨_,_,_,e,?_,h.2 A.length _ n (qA af) (by rw[qL (qH _),Nat.sub_self];rfl),?_⟩
 ·have:∀l:List (List Value),(∀c,c∈l->c.length=s)->l.flatten.length=l.length*s:=by
   intro l
   induction l with
   | nil=>intro _;simp
   | cons c l ih=>intro h;rw[List.flatten_cons,qJ,h c (qf ..),ih (fun c hc=>h c (qk _ hc)),qR,Nat.succ_mul];omega
  refine(this _ fun c hc=>?_).trans (by rw[kj]);obtain⟨j,hj⟩:=List.mem_iff_getElem?.1 (List.mem_of_mem_take hc);have ak:=(qE.1 hj).1;obtain⟨m,hm⟩:∃m,(A++n::B)[j]?=some m:=⟨_,qA (by rw[<-h.1];exact ak)⟩;exact hlen _ _ (h.2 j c m hj hm)
 ·intro c' n' hc;refine⟨by simp only[qJ,qR,kj,qt];omega,fun j c1 n1 e1 e2=>?_⟩;rcases Nat.lt_trichotomy j A.length with hj | rfl | hj
  ·rw[qM oM,List.getElem?_take_of_lt hj]at e1;rw[qM hj]at e2;exact h.2 j c1 n1 e1 (by rw[qM hj];exact e2)
  ·rw[qL oM,kj,Nat.sub_self]at e1;rw[qL (qH _),Nat.sub_self]at e2;cases e1;cases e2;exact hc
  ·obtain⟨k,rfl⟩:∃k,j=A.length+(k+1):=⟨j-A.length-1,by omega⟩;rw[qL oM,kj,Nat.add_sub_cancel_left,pM,List.getElem?_drop]at e1;rw[qL oM,Nat.add_sub_cancel_left,pM]at e2;exact h.2 (A.length+(k+1)) c1 n1 (by rw[<-e1];congr 1;omega) (by rw[qL oM,Nat.add_sub_cancel_left,pM];exact e2)
theorem aF.midS {s:Nat} (hs:0<s) {e:TypeId} {v:Value} {m:Nat} {cA cB:List (List Value)} {c:List Value} {ow:Ows} (h:aF e s v m (cA++c::cB).flatten ow) (hc:c.length=s):∃g cap sp,v=.slice (some ⟨g,0,none⟩) m cap/\ow=[(g,e,cA.flatten++(c++(cB.flatten++sp)))]/\∀c',c'.length=s->aF e s v m (cA++c'::cB).flatten [(g,e,cA.flatten++(c'++(cB.flatten++sp)))]:=by
 have hl:=h.1;rcases h.2 with ⟨_,rfl,_⟩ | ⟨g,cap,sp,rfl,rfl,h1,h2,h3⟩
 ·simp[hc]at hl;omega
 ·have e1:∀c':List Value,(cA++c'::cB).flatten=cA.flatten++(c'++cB.flatten):=fun c'=>by simp
  rw[e1]at hl h1;refine⟨g,cap,sp,rfl,by rw[e1];simp,fun c' dV=>⟨?_,.inr ⟨g,cap,sp,rfl,by rw[e1];simp,?_,h2,h3⟩⟩⟩
  ·rw[e1,<-hl];simp[hc,dV]
  ·rw[e1,<-h1];simp[hc,dV]
theorem znF (o:Option (Int × Rat × Rat)):∃c t g,xR o=.int .i64 c::(aB (aC t)++aB (aC g))/\∀c' t' g',o=some (c',t',g')->c'=c/\t'=t/\g'=g:=by
 cases o with
 | none=>exact⟨0,0,0,rfl,fun c' t' g' e=>by cases e⟩
 | some q=>obtain⟨c,t,g⟩:=q;exact⟨c,t,g,rfl,fun c' t' g' e=>by cases e;exact⟨rfl,rfl,rfl⟩⟩
theorem zrN {p:GP} {kd cl least deep:Int} {S:List Int->List Value} {wo:List Int->Rat} {la va xa:Option Addr} {ln lc vn vc xc:Nat} {f:FuncId} {lO:List Value} {dv:Value} (cj:∀s,(p.cols s).1.length<=1000) (fR:0<p.X.length) (xx:p.X.length<=20) (jY:∀x,x∈p.X->∀q,q∈x->ht q<=60) (fS:p.least=least) (cK:sm p.gain):∀(d:Nat) {H:Hp} {b:Nat} {T:TypeId} {dd s:Int} {vr out:Value} {rows:List Int} {ns:List Nd} {css:List (List Value)} {D ow:Ows},
  zD H kd cl (.slice la ln lc) (.slice va vn vc) p S wo->QLL H (.slice xa p.X.length xc) p.X->B0 H f lO dv p->dd+d=deep->0<=dd->deep<=10 ->
  IL H vr rows->rows.length<=20->(∀r,r∈rows->0<=r/\r<(p.X.length:Int))->xW dv D s->aF 150 21 out ns.length css.flatten ow->ig H css ns->ns.length+2 ^ (d+1)<=1000000 ->
  PW prog 126 #[.pointer (some ⟨b,0,none⟩),vr,.int .i64 dd] H ((b,T,pgC kd cl (.slice la ln lc) (.slice va vn vc) (.slice xa p.X.length xc) deep least p.gain (.func (.func f) #[] lO.toArray) out)::(D++ow)) fun v au H'=>v=.tuple #[]/\∃out' D' cC dh,au=(b,T,pgC kd cl (.slice la ln lc) (.slice va vn vc) (.slice xa p.X.length xc) deep least p.gain (.func (.func f) #[] lO.toArray) out')::(D'++cC)/\xW dv D' (p.grow d ns.length rows s).2/\aF 150 21 out' (ns++(p.grow d ns.length rows s).1).length dh.flatten cC/\ig H' dh (ns++(p.grow d ns.length rows s).1):=by
 intro d
 induction d using Nat.strongRecOn with
 | _ d ih =>
  intro H b T dd s vr out rows ns css D ow hg hX Bm hdd uP fT hr hn hb hD ah bX cd;obtain⟨oa,oc,rfl⟩:=ah.val;obtain⟨ra,rc,rfl⟩:=SlC.val hr;have uF:2<=2 ^ (d+1):=by rw[qX];have:=Nat.one_le_two_pow (n:=d);omega
  have hex:=yp hb;have cD:=fun (G:Hp) (hG:H.Le G)=>hg.top G hG _ _ (hr.mono hG) oM;have eI:=fun (G:Hp) (hG:H.Le G)=>hg.cost G hG _ _ (hr.mono hG) oM;have gF:=fun (G:Hp) (hG:H.Le G)=>hg.mean G hG _ _ (hr.mono hG) oM;have fJ:=fun (G:Hp) (hG:H.Le G)=>hg.counts G hG _ _ (hr.mono hG) oM;rw[hex]at cD eI gF fJ;refine PW.body tO func126 Z kR ntmps126 Z Z ?_;refine uR ?_;refine RP ?_;refine EVL.loadOwn tO Z Z Z Z Z Z (0) Z (rfl) Z Z ?_;refine uR ?_;refine EV.meetK (ι:=Value × Ows × List Value) [0,1,2,6] [] (fun _=>[]) (fun _=>[]) (fun q=>(b,T,pgC kd cl (.slice la ln lc) (.slice va vn vc) (.slice xa p.X.length xc) deep least p.gain (.func (.func f) #[] lO.toArray) q.1)::(D++q.2.1)) (fun q G=>H.Le G/\aF 150 21 q.1 (ns.length+1) (css++[q.2.2]).flatten q.2.1/\kT G q.2.2 (p.nd rows)) Z Z (fun _=>rfl) ?_ ?_
  ·refine EVI.start (some 36) (b,T,pgC kd cl (.slice la ln lc) (.slice va vn vc) (.slice xa p.X.length xc) deep least p.gain (.func (.func f) #[] lO.toArray) (.slice oa ns.length oc)) ?_;refine IV 0 ?_;refine IV 1 ?_;refine IN 2 ?_;refine IF 3 ?_;refine IL0 4 ?_;refine IV 5 ?_;refine IV 6 ?_;refine IV 7 ?_;refine IN 8 ?_;refine IF 9 ?_;refine IL0 10 ?_;refine IV 11 ?_;refine IV 13 ?_;refine IN 14 ?_;refine IF 15 ?_;refine IL0 16 ?_;refine IV 17 ?_;refine IV 19 ?_;refine IN 20 ?_;refine IF 21 ?_;refine IL0 22 ?_;refine IV 23 ?_;refine IV 25 ?_;refine IN 26 ?_;refine IF 27 ?_;refine IL0 28 ?_;refine IV 29 ?_;refine EVI.one 12 0 (.inr Z) kR Z ?_;refine vA (cD _ (Hp.Le.refl _)) ?_;rintro _ G1 rfl aj;refine EVL.nil ⟨rfl,?_⟩;refine EVI.one 18 0 (.inr Z) kR Z ?_;refine vA (eI _ aj) ?_;rintro _ G2 rfl ai;refine EVL.nil ⟨rfl,?_⟩;refine EVI.one 24 0 (.inr Z) kR Z ?_;refine vA (gF _ (aj.trans ai)) ?_;rintro _ G3 rfl ax;refine EVL.nil ⟨rfl,?_⟩;refine EVI.one 30 0 (.inr Z) kR Z ?_;refine vA (fJ _ ((aj.trans ai).trans ax)) ?_;intro r4 G4 Fh aT;obtain⟨a7,c7,rfl⟩:=SlC.val Fh;refine EVL.nil ⟨rfl,?_⟩;refine EVI.one 31 0 (.inr Z) kR Z ?_
   (try refine gO ?_);refine EVL.nil ⟨rfl,?_⟩;refine EVI.one 32 0 (.inr Z) kR Z ?_;refine EVL.lit tO Z Z Z Z Z Z Z Z Z Z Z fun bl=>?_;refine EVL.nil ⟨rfl,?_⟩;refine EVI.one 33 1 (.inr Z) kR Z ?_;refine EVL.append tO Z Z Z Z Z Z Z Z Z Z Z Z ([(bl,_,_),(b,T,_)]++D) ow [] (by rw[qG];rfl) ah (iJ.own 0 Z Z) rfl oM ?_;intro v2 cC aD;obtain⟨oa2,oc2,rfl⟩:=aD.val;refine EVL.nil ⟨rfl,?_⟩;refine EVI.one 34 1 (.inr Z) kR Z ?_;refine EVL.nilB Z Z Z Z Z ?_;refine EVL.nil ⟨rfl,?_⟩;refine EVI.one 35 1 (.inr Z) kR Z ?_;refine EVL.fldB tO Z Z Z Z Z Z Z ?_;refine EVL.nil ⟨rfl,?_⟩;refine EVI.one 36 1 (.inr Z) kR Z ?_;refine EVL.storeOwn tO Z Z Z Z Z Z ([(bl,_,_)]) (D++(cC++[])) Z Z Z Z ((by exact qH 14)) (rfl) ?_;refine EVL.subOw [] [(bl,_,_)] _ Z ?_;refine EVL.nil ⟨rfl,?_⟩;refine EVI.nil 0 (.inl kR) kR ?_
   have Ov:kT G4 (([.int .i64 (-1),.int .i64 0,.int .i64 0,.int .i64 (rows.length:Int),.int .i64 (topN (p.cnt rows) (p.cnt rows).length:Nat),.bool false,.int .u64 0,.string ⟨#[]⟩,.int .u64 0,.string ⟨#[]⟩]:List Value)++(aB (aC (p.cost rows))++(aB (aC (p.mean rows))++[.slice a7 (p.cnt rows).length c7]))) (p.nd rows):=⟨a7,c7,Fh,by
    rw[show aB (aC (p.nd rows).at')=_ from rN];rfl⟩
   exact⟨(_,cC++[],_),trivial,sB,trivial,trivial,rfl,((aj.trans ai).trans ax).trans aT,(by rw[qG,List.flatten_append];exact aD),Ov⟩
  ·rintro⟨fW,bS,c1⟩ G1 ⟨aj,aE,sH⟩;dsimp only at aE sH;obtain⟨Vv,Vu,rfl⟩:=aE.val;have kh:ig G1 (css++[c1]) (ns++[p.nd rows]):=Cg (bX.mono aj) sH;refine uR ?_;refine RP ?_;refine EVL.loadOwn tO Z Z Z Z Z Z (0) Z (rfl) Z Z ?_;refine uR ?_;by_cases hd:d=0
   ·subst hd;obtain rfl:dd=deep:=oM;rw[qD (show dd>=dd from Int.le_refl _)];refine uR ?_;exact⟨rfl,_,D,bS,_,rfl,hD,by rw[qJ];exact aE,kh⟩
   obtain⟨e,rfl⟩:∃e,d=e+1:=⟨d-1,by omega⟩;have EE:=@ih e oM;clear ih;rw[qC (show ¬dd>=deep by omega)];refine uR ?_;have tk:=Bm G1 aj D s hD
   have gI:∀(G:Hp) (ca:Option Addr) (cc:Nat),G1.Le G->IL G (.slice ca (p.cols s).1.length cc) (p.cols s).1->PC prog 161 #[bG kd cl (.slice la ln lc) (.slice va vn vc),.slice xa p.X.length xc,.slice ra rows.length rc,.slice ca (p.cols s).1.length cc,.int .i64 least] G fun r _=>r=.tuple #[.agg (xR (p.best rows (p.cols s).1)).toArray,.bool (p.best rows (p.cols s).1).isSome]:=fun G ca cc hG hc =>
    zrL (hg.ok.mono (aj.trans hG)) hg.pok (hX.mono (aj.trans hG)) (hr.mono (aj.trans hG)) hn hb hc (qI (cj s) oM) (fun x hx q hq=>qI (jY x hx q hq) oM) fS
   obtain⟨c,t,g,hcut,hval⟩:=znF (p.best rows (p.cols s).1);rw[hcut]at gI;refine EV.meetK (ι:=Ows) [0,1,2,6] [] (fun _=>[(7,.p 7 0),(8,.v (.bool (p.best rows (p.cols s).1).isSome))]) (fun _=>[(7,238,.int .i64 c::(aB (aC t)++aB (aC g)))]) (fun q=>(b,T,pgC kd cl (.slice la ln lc) (.slice va vn vc) (.slice xa p.X.length xc) deep least p.gain (.func (.func f) #[] lO.toArray) (.slice Vv (ns.length+1) Vu))::(q++bS)) (fun q G=>G1.Le G/\xW dv q (p.cols s).2) Z Z (fun _=>rfl) ?_ ?_
   ·refine EVI.start none (b,T,pgC kd cl (.slice la ln lc) (.slice va vn vc) (.slice xa p.X.length xc) deep least p.gain (.func (.func f) #[] lO.toArray) (.slice Vv (ns.length+1) Vu)) ?_;refine IV 0 ?_;refine IN 1 ?_;refine IF 2 ?_;refine IL0 3 ?_;refine IV 4 ?_;refine IN 5 ?_;refine IF 6 ?_;refine IL0 7 ?_;refine IV 8 ?_;refine IV 9 ?_;refine IN 10 ?_;refine IF 11 ?_;refine IL0 12 ?_;refine IV 14 ?_;refine IN 15 ?_;refine IF 16 ?_;refine IF 17 ?_;refine IL0 18 ?_;refine EVI.two 13 23 0 (.inr Z) kR Z Z ?_ ?_
    ·(first|refine EVL.swapOw ([(b,T,_)]) (D++bS) (rfl) ?_|refine EV.swapOw ([(b,T,_)]) (D++bS) (rfl) ?_);refine EVL.callWC Z Z Z Z (cs:=lO) rfl (vs:=[]) rfl D (bS++[(b,T,_)]) (qZ _ _ _) tk ?_;rintro v2 D2 G2 ⟨bY,gW⟩ ai;obtain⟨ca,cc,rfl⟩:=SlC.val bY;(first|refine EVL.swapOw (D2++bS) ([(b,T,_)]) ((qZ _ _ _).symm) ?_|refine EV.swapOw (D2++bS) ([(b,T,_)]) ((qZ _ _ _).symm) ?_);refine EVL.nil ⟨rfl,?_⟩;refine EVI.two 19 23 0 (.inr Z) kR Z Z ?_ ?_
     ·refine vA (gI _ _ _ ai bY) ?_;rintro _ G3 rfl ax;refine EVL.nil ⟨rfl,?_⟩;refine IV 20 ?_;refine IV 21 ?_;refine IV 22 ?_;refine EVI.one 23 0 (.inr Z) kR Z ?_
      (try refine gO ?_);refine EVL.nil ⟨rfl,?_⟩;refine EVI.one 24 0 (.inr Z) kR Z ?_
      (try refine gO ?_);refine EVL.nil ⟨rfl,?_⟩;refine EVI.one 25 0 (.inr Z) kR Z ?_
      (try refine gO ?_);refine EVL.nil ⟨rfl,?_⟩;refine EVI.nil 0 (.inr Z) kR ?_;exact⟨D2,⟨Z,Z,trivial⟩,sB,⟨Z,trivial⟩,trivial,rfl,ai.trans ax,gW⟩
     ·(try refine gO ?_);refine EVL.nil ⟨rfl,?_⟩;refine EVI.one 19 0 (.inr Z) kR Z ?_;refine vA (gI _ _ _ ai bY) ?_;rintro _ G3 rfl ax;refine EVL.nil ⟨rfl,?_⟩;refine IV 20 ?_;refine IV 21 ?_;refine IV 22 ?_;refine EVI.one 24 0 (.inr Z) kR Z ?_
      (try refine gO ?_);refine EVL.nil ⟨rfl,?_⟩;refine EVI.one 25 0 (.inr Z) kR Z ?_
      (try refine gO ?_);refine EVL.nil ⟨rfl,?_⟩;refine EVI.nil 0 (.inr Z) kR ?_;exact⟨D2,⟨Z,Z,trivial⟩,sB,⟨Z,trivial⟩,trivial,rfl,ai.trans ax,gW⟩
    ·(try refine gO ?_);refine EVL.nil ⟨rfl,?_⟩;refine EVI.one 13 0 (.inr Z) kR Z ?_;(first|refine EVL.swapOw ([(b,T,_)]) (D++bS) (rfl) ?_|refine EV.swapOw ([(b,T,_)]) (D++bS) (rfl) ?_);refine EVL.callWC Z Z Z Z (cs:=lO) rfl (vs:=[]) rfl D (bS++[(b,T,_)]) (qZ _ _ _) tk ?_;rintro v2 D2 G2 ⟨bY,gW⟩ ai;obtain⟨ca,cc,rfl⟩:=SlC.val bY;(first|refine EVL.swapOw (D2++bS) ([(b,T,_)]) ((qZ _ _ _).symm) ?_|refine EV.swapOw (D2++bS) ([(b,T,_)]) ((qZ _ _ _).symm) ?_);refine EVL.nil ⟨rfl,?_⟩;refine EVI.one 19 0 (.inr Z) kR Z ?_;refine vA (gI _ _ _ ai bY) ?_;rintro _ G3 rfl ax;refine EVL.nil ⟨rfl,?_⟩;refine IV 20 ?_;refine IV 21 ?_;refine IV 22 ?_;refine EVI.one 24 0 (.inr Z) kR Z ?_
     (try refine gO ?_);refine EVL.nil ⟨rfl,?_⟩;refine EVI.one 25 0 (.inr Z) kR Z ?_
     (try refine gO ?_);refine EVL.nil ⟨rfl,?_⟩;refine EVI.nil 0 (.inr Z) kR ?_;exact⟨D2,⟨Z,Z,trivial⟩,sB,⟨Z,trivial⟩,trivial,rfl,ai.trans ax,gW⟩
   ·rintro D2 G2 ⟨ai,gW⟩;clear gI tk;have iG:=aj.trans ai;refine uR ?_
    cases kq:p.best rows (p.cols s).1 with
    | none =>
     have lH:p.cut rows (p.cols s).1=none:=by unfold GP.cut;rw[kq]
     rw[GP.grow_none lH];rw[show (none:Option (Int × Rat × Rat)).isSome=false from rfl];apply EV.drawn 13 kR kR;intro xv yw;(repeat refine' DD ?_);(refine DJ.nil (fun G hG hF=>?_);(case hS|hS2=>rfl));refine uR ?_;exact⟨rfl,_,D2,bS,_,rfl,gW,by rw[qJ];exact aE,kh.mono (ai.trans hG)⟩
    | some q =>
     obtain⟨c',t',g'⟩:=q;obtain⟨rfl,rfl,rfl⟩:=hval c' t' g' kq;rw[show (some (c',t',g')).isSome=true from rfl]
     have htg:sm t'/\sm g':=by
      have hf:=Cm (eX p.X p.cost rows (max 1 p.least) (p.cols s).1);rw[show (eX p.X p.cost rows (max 1 p.least) (p.cols s).1).foldl gK none=some (c',t',g') from kq]at hf;have:=L7 hg.small oM hb jY hf.1;exact⟨bE this.1 oM,bE this.2 oM⟩
     obtain⟨nC,nQ⟩:=htg;have aS:=pC g' p.gain nQ cK;apply EV.drawn 13 kR kR;intro xv yw;(repeat (first|refine' DD ?_|refine' vN ?_|refine' vF ?_));refine' DJ.ofVal (az.loadOwn tO Z Z Z Z (0) Z (rfl) Z Z) Z Z Z ?_;rotate_left;(repeat (first|refine' DD ?_|(refine' DC (aS) (h:=?_);rotate_left)));(refine DJ.nil (fun G4 aT xF=>?_);(case hS|hS2=>rfl));refine uR ?_;by_cases hle:g'<=p.gain
     ·have lH:p.cut rows (p.cols s).1=none:=by unfold GP.cut;rw[kq];exact if_pos hle
      rw[GP.grow_none lH];rw[qD (Ih hle)];refine uR ?_;exact⟨rfl,_,D2,bS,_,rfl,gW,by rw[qJ];exact aE,kh.mono (ai.trans aT)⟩
     have lH:p.cut rows (p.cols s).1=some (c',t'):=by unfold GP.cut;rw[kq];exact if_neg hle
     rw[GP.grow_some lH];rw[qC (Int.not_le.2 (DX.2 (Rat.not_le.1 hle)))];have fU:=iG.trans aT;refine uR ?_;apply EV.drawn 14 kR kR;intro xv yw;(repeat (first|refine' DD ?_|refine' vN ?_|refine' vF ?_));refine' DJ.ofVal (az.loadOwn tO Z Z Z Z (0) Z (rfl) Z Z) Z Z Z ?_;rotate_left;(repeat (first|refine' DD ?_|refine' vN ?_|refine' vF ?_));refine' vB (cO func162) (fun G hG hd=>zr6 (col:=c') (t:=t') (hX.mono (fU.trans hG)) (hr.mono (fU.trans hG)) oM (fun x hx q hq=>bE (jY x hx q hq) oM) nC) (fun _ _ _ h k=>(by obtain⟨u,w,e,hu,hw⟩:=h;exact⟨u,w,e,hu.mono k,hw.mono k⟩)) ?_;rotate_left;refine' DJ.copy (9) (by first|exact .inl rfl|exact .inr Z) Z Z Z id Z kR ?_;rotate_left;refine' DJ.extract (9) Z Z Z Z Z kR (fun G hd=>(by obtain⟨u,w,e,_⟩:=hd.head kR;exact⟨_,e,Nat.zero_lt_succ _⟩)) ?_;rotate_left;refine' DJ.extract (9) Z Z Z Z Z kR (fun G hd=>(by obtain⟨u,w,e,_⟩:=hd.head kR;exact⟨_,e,Nat.lt_succ_self _⟩)) ?_;rotate_left;refine' DJ.copy (9) (.inr Z) Z Z Z (js 0) Z kR ?_;rotate_left;(refine DJ.nil (fun G5 bj Ke=>?_);(case hS|hS2=>rfl));obtain⟨⟨u5,w5,e5,Ay,Av⟩,_⟩:=Ke;rw[e5];rw[yp hb]at Ay Av;obtain⟨ua,uc,rfl⟩:=SlC.val Ay;obtain⟨wa,wc,rfl⟩:=SlC.val Av;rw[show js 0 (Value.tuple #[.slice ua (aR p.X c' t' rows).length uc,.slice wa (bf p.X c' t' rows).length wc])=.slice ua (aR p.X c' t' rows).length uc from rfl,show js 1 (Value.tuple #[.slice ua (aR p.X c' t' rows).length uc,.slice wa (bf p.X c' t' rows).length wc])=.slice wa (bf p.X c' t' rows).length wc from rfl];have jK:=fU.trans bj;have AW:=kh.mono (ai.trans (aT.trans bj));have wd:IntKind.i64.wrap (dd+1)=dd+1:=by rw[pL];omega
     have oR:(aR p.X c' t' rows).length<=20:=qI (List.length_filter_le _ _) hn;have oU:(bf p.X c' t' rows).length<=20:=qI (List.length_filter_le _ _) hn;have oQ:∀r,r∈aR p.X c' t' rows->0<=r/\r<(p.X.length:Int):=fun r hr=>hb r (List.mem_filter.mp hr).1;have oT:∀r,r∈bf p.X c' t' rows->0<=r/\r<(p.X.length:Int):=fun r hr=>hb r (List.mem_filter.mp hr).1;have ew:(ns++[p.nd rows]).length=ns.length+1:=by simp
     have gi:2 ^ (e+1+1)=2 ^ (e+1)+2 ^ (e+1):=by rw[qX];omega
     have uH:2<=2 ^ (e+1):=by rw[qX];have:=Nat.one_le_two_pow (n:=e);omega
     have hL:=EE (H:=G5) (b:=b) (T:=T) (dd:=dd+1) (s:=(p.cols s).2) (ns:=ns++[p.nd rows]) (hg.mono jK) (hX.mono jK) (Bm.mono jK) oM oM fT Ay oR oQ gW (by rw[ew];exact aE) AW (by rw[ew];omega);rw[ew]at hL;have zo:=(p.grow_len e (ns.length+1) (aR p.X c' t' rows) (p.cols s).2).2;generalize hLe:p.grow e (ns.length+1) (aR p.X c' t' rows) (p.cols s).2=Lp at *
     obtain⟨Ls,s2⟩:=Lp;dsimp only at hL zo;refine uR ?_;refine RP ?_;refine EVL.loadOwn tO Z Z Z Z Z Z (0) Z (rfl) Z Z ?_;refine uR ?_;rw[wd];refine EVL.callW Z Z Z Z Z _ [] (qG _).symm hL ?_;rintro _ _ G8 ⟨rfl,M9,D3,rR,Qy,rfl,gJ,eD,wU⟩ bt;rw[qG ((b,T,_)::(D3++rR))];have eH:(ns++[p.nd rows]++Ls).length=ns.length+1+Ls.length:=by simp;omega
     rw[eH]at eD;obtain⟨oa3,oc3,rfl⟩:=eD.val;have tv:=jK.trans bt;have hR:=EE (H:=G8) (b:=b) (T:=T) (dd:=dd+1) (s:=s2) (ns:=ns++[p.nd rows]++Ls) (hg.mono tv) (hX.mono tv) (Bm.mono tv) oM oM fT (Av.mono bt) oU oT gJ (by rw[eH];exact eD) wU (by rw[eH];omega);rw[eH]at hR;generalize hRe:p.grow e (ns.length+1+Ls.length) (bf p.X c' t' rows) s2=Rp at *
     obtain⟨Rs,s3⟩:=Rp;dsimp only at hR;refine uR ?_;refine RP ?_;refine EVL.loadOwn tO Z Z Z Z Z Z (0) Z (rfl) Z Z ?_;refine uR ?_;rw[wd];refine EVL.callW Z Z Z Z Z _ [] (qG _).symm hR ?_;rintro _ _ G10 ⟨rfl,Ey,D4,CJ,BB,rfl,Qj,jD,sF⟩ fL;rw[qG ((b,T,_)::(D4++CJ))];rw[show ns++[p.nd rows]++Ls++Rs=ns++p.nd rows::(Ls++Rs) by simp]at jD sF;obtain⟨cA,QA,cB,Ha,lN,⟨a7,c7,Pe,rfl⟩,sj⟩:=Y7 (fun c n h=>kT.len h) sF;rw[Ha]at jD;clear Ha;obtain⟨go,QB,sp,rfl,rfl,lK⟩:=jD.midS oM rfl;have xd:(ns++p.nd rows::(Ls++Rs)).length=ns.length+1+Ls.length+Rs.length:=by simp;omega
     refine uR ?_;refine RP ?_;refine EVL.loadOwn tO Z Z Z Z Z Z (0) Z (rfl) Z Z ?_;refine uR ?_;refine EVL.idxB tO Z Z Z Z Z Z Z Z Z (ns.length) (ns.length*21) (rfl) ((by rw[xd];omega)) (rfl) ?_;refine uR ?_;(first|refine EVL.unbox (7) Z fun gc=>?_|refine EV.unbox (7) Z fun gc=>?_);refine EVI.start (some 21) (gc,238,.int .i64 c'::(aB (aC t')++aB (aC g'))) ?_;refine IV 0 ?_;refine IV 1 ?_;refine IV 2 ?_;refine IV 3 ?_;refine IF 4 ?_;refine IL0 5 ?_;refine IF 6 ?_;refine IL0 7 ?_;refine IV 8 ?_;refine IV 9 ?_;refine IN 10 ?_;refine IF 11 ?_;refine EVI.one 12 0 (.inr Z) kR Z ?_;refine EVL.storeOwn tO Z Z Z Z Z Z ((gc,_,_)::(b,T,_)::D4) ([]) Z Z Z Z ((vQ (f:=0) lN rfl (by show 0+1<=21;omega))) (pR (f:=0) lN Z Z (by show 0+1<=21;omega) rfl) ?_;refine EVL.nil ⟨rfl,?_⟩;refine IN 13 ?_;refine IF 14 ?_;refine EVI.one 15 0 (.inr Z) kR Z ?_;refine EVL.storeOwn tO Z Z Z Z Z Z ((gc,_,_)::(b,T,_)::D4) ([]) Z Z Z Z ((vQ (f:=5) lN rfl (by show 5+5<=21;omega))) (pR (f:=5) lN Z Z (by show 5+5<=21;omega) rfl) ?_;refine EVL.nil ⟨rfl,?_⟩;refine IN 16 ?_;refine IF 17 ?_;refine EVI.one 18 0 (.inr Z) kR Z ?_;refine EVL.storeOwn tO Z Z Z Z Z Z ((gc,_,_)::(b,T,_)::D4) ([]) Z Z Z Z ((vQ (f:=1) lN rfl (by show 1+1<=21;omega))) (pR (f:=1) lN Z Z (by show 1+1<=21;omega) rfl) ?_;refine EVL.nil ⟨rfl,?_⟩;refine IN 19 ?_;refine IF 20 ?_;refine EVI.one 21 0 (.inr Z) kR Z ?_;refine EVL.storeOwn tO Z Z Z Z Z Z ((gc,_,_)::(b,T,_)::D4) ([]) Z Z Z Z ((vQ (f:=2) lN rfl (by show 2+1<=21;omega))) (pR (f:=2) lN Z Z (by show 2+1<=21;omega) rfl) ?_;refine EVL.subOw [] [(gc,_,_)] _ Z ?_;refine EVL.nil ⟨rfl,?_⟩;refine EVI.nil 0 (.inl kR) kR ?_;refine uR ?_;obtain⟨n2,mj⟩:∃n2:Nd,({ p.nd rows with col:=c',left:=((ns.length+1:Nat):Int),right:=((ns.length+1+Ls.length:Nat):Int),at':=t' }:Nd)=n2:=⟨_,rfl⟩
     have Ov:kT G10 ([.int .i64 c',.int .i64 ((ns.length+1:Nat):Int),.int .i64 ((ns.length+1+Ls.length:Nat):Int),.int .i64 (p.nd rows).rows,.int .i64 (p.nd rows).cls]++(aB (aC t')++(aB (aC (p.nd rows).cost)++(aB (aC (p.nd rows).value)++[.slice a7 (p.nd rows).counts.length c7])))) n2:=by
      subst mj;exact⟨a7,c7,Pe,rfl⟩
     rw[mj];have FL:(ns++n2::(Ls++Rs)).length=(ns++p.nd rows::(Ls++Rs)).length:=by simp
     refine⟨rfl,_,D4,_,_,rfl,Qj,?_,sj _ _ Ov⟩;rw[FL];exact lK _ Z
section
variable {P:Program} {n:Nat} {ops:Array Oper} {fuel:Nat} {L:Array Bool} {env:Env} {bx:Bxs} {H:Hs} {K:Env->Bxs->Hs->Prop} {τ:Tab} {d:Nat} {o:Oper} {v:Value}
end
set_option maxRecDepth 100000 in
theorem zn5 {H:Hp} {kd cl w:Int} {ns:List Nd} {cs:List Value} (ht:nZ H cs kd cl w ns) (fi:kW ⟨kd,cl,w,ns⟩):PC prog 57 #[.agg cs.toArray] H fun r _=>r=.int .i64 0:=by
 obtain⟨a,cp,css,rfl,bX,bA⟩:=ht;obtain⟨aW,hw,eU,⟨hh,FT,aQ⟩,av⟩:=fi;dsimp only at aW hw eU aQ av;have bQ:=aQ.end0;refine BD func57 ntmps57 ?_;refine uR ?_;refine EVL.meetK (ι:=Bool) [1,2] [1] (fun _=>[(17,.v (.bool false))]) (fun _=>[]) (fun _=>[]) (fun _ G=>H.Le G) Z Z (fun _=>rfl) ?_ ?_
 ·rcases aW with ⟨rfl,_⟩ | ⟨rfl,rfl⟩
  ·try refine uR ?_
   exact⟨true,⟨Z,trivial⟩,sB,trivial,sB,rfl,Hp.Le.refl _⟩
  ·try refine uR ?_
   exact⟨true,⟨Z,trivial⟩,sB,trivial,sB,rfl,Hp.Le.refl _⟩
 rintro _ G1 aj;refine uR ?_;rw[qC (show ¬w<1 by omega)];refine uR ?_;rw[qC (show ¬w>20 by omega)];refine uR ?_;rw[qC (show ¬(ns.length:Int)<1 by omega)];refine uR ?_;rw[qC (show ¬(ns.length:Int)>2000 by omega)];refine uR ?_;refine EVL.meetK (ι:=Bool) [1,2] [1] (fun _=>[(60,.v (.bool false))]) (fun _=>[]) (fun _=>[]) (fun _ G=>H.Le G) Z Z (fun _=>rfl) ?_ ?_
 ·rcases aW with ⟨rfl,h1,h2⟩ | ⟨rfl,rfl⟩
  ·try refine uR ?_
   rw[qC (show ¬cl<1 by omega)];refine uR ?_;rw[qC (show ¬cl>12 by omega)];refine uR ?_;exact⟨true,⟨Z,trivial⟩,sB,trivial,sB,rfl,aj⟩
  ·try refine uR ?_
   exact⟨true,⟨Z,trivial⟩,sB,trivial,sB,rfl,aj⟩
 rintro _ G2 ai;refine uR ?_;(first|refine EVL.unbox (3) Z fun g3=>?_|refine EV.unbox (3) Z fun g3=>?_);refine uR ?_;refine EVL.callW Z Z Z Z Z ([(g3,178,zB kd cl w (.slice a ns.length cp) 0)]) ([]) Z (Yv oM aQ (bX.mono ai) (bA.mono ai) (deep:=0) (qH _)) ?_;rintro _ _ G3 ⟨rfl,tC,rfl,hfar⟩ ax;refine uR ?_;rw[show ((ns.length:Int) != (ns.length:Int))=false from pP _];refine uR ?_;refine EVL.fldB tO Z Z Z Z Z Z Z ?_;refine EVL.loadOwn tO Z Z Z Z Z Z (0) Z (rfl) Z Z ?_;refine uR ?_;rw[qC (show ¬tC>10 by omega)];refine uR ?_;refine EV.loopK (ι:=Nat) [1,80,81] [1] (fun q=>[(82,.v (.int .i64 (q:Int)))]) (fun _=>[]) (fun _=>[(g3,_,zB kd cl w (.slice a ns.length cp) tC)]) (fun q _=>q<=ns.length) (fun q=>ns.length-q) (0) Z Z ⟨Z,trivial⟩ trivial rfl (fun _=>rfl) (qQ _) ?_;rintro i G4 aT hi;have fU:=ai.trans (ax.trans aT);refine uR ?_;refine EV.cond Z (fun af=>?_) (fun af=>?_)
 ·simp only[nN]at af;obtain⟨n,hn,hN,hC⟩:=av i af;obtain⟨c,hcut,hnd⟩:=(bX.mono fU).get hn;obtain⟨a7,c7,rfl,_⟩:=hnd.cells;refine uR ?_;refine EVL.idxM tO Z Z Z Z Z Z Z Z Z ((bA.mono fU)) (i) (rfl) (af) (hcut) ?_
  repeat (first|refine RUN ?_|refine CV (Th aW hnd hN) ?_|refine CE (Th aW hnd hN) ?_)
  refine⟨i+1,⟨by rw[aO i (by omega)];rfl,trivial⟩,sB,trivial,sB,rfl,af,Hp.Le.refl _,by omega⟩
 ·simp only[nN]at af;refine uR ?_;refine EV.loopK (ι:=Nat) [1,92,93] [1] (fun q=>[(94,.v (.int .i64 (q:Int)))]) (fun _=>[]) (fun _=>[(g3,_,zB kd cl w (.slice a ns.length cp) tC)]) (fun q _=>q<=ns.length) (fun q=>ns.length-q) (0) Z Z ⟨Z,trivial⟩ trivial rfl (fun _=>rfl) (qQ _) ?_;rintro j G5 bj hj;have jK:=fU.trans bj;refine uR ?_;refine EV.cond Z (fun dJ=>?_) (fun dJ=>?_)
  ·simp only[nN]at dJ;obtain⟨n,hn,hN,hC⟩:=av j dJ;obtain⟨c,hcut,hnd⟩:=(bX.mono jK).get hn;obtain⟨a7,c7,rfl,_⟩:=hnd.cells;refine uR ?_;refine EVL.idxM tO Z Z Z Z Z Z Z Z Z ((bA.mono jK)) (j) (rfl) (dJ) (hcut) ?_;refine uR ?_;by_cases eg:n.col = -1
   ·apply EV.drawn 20 kR kR;intro xv yw;(repeat refine' DD ?_);rw[show (n.col != -1)=false by rw[eg];rfl];(repeat refine' DD ?_);(refine DJ.nil (fun G hG hF=>?_);(case hS|hS2=>rfl));refine uR ?_;refine⟨j+1,⟨by rw[aO j (by omega)];rfl,trivial⟩,sB,trivial,sB,rfl,dJ,hG,by omega⟩
   ·obtain⟨fa,O6,gh,na,nb,oK,ki,xG⟩:=hC eg;have kj:=(qE.1 oK).1;have df:=(qE.1 ki).1;obtain⟨na',ena,Gu,_⟩:=av _ kj;obtain⟨nb',enb,C6,_⟩:=av _ df;cases oK.symm.trans ena;cases ki.symm.trans enb;obtain⟨ca,F5,wX⟩:=(bX.mono jK).get oK;obtain⟨cb,F4,wW⟩:=(bX.mono jK).get ki;obtain⟨xa7,xc7,rfl,_⟩:=wX.cells;obtain⟨ya7,yc7,rfl,_⟩:=wW.cells;apply EV.drawn 20 kR kR;intro xv yw;(repeat refine' DD ?_);rw[show (n.col != -1)=true from bne_iff_ne.2 eg];(repeat refine' DD ?_);refine' DJ.idxM tO Z Z Z Z Z Z Z Z Z ((bA.mono jK)) (n.left.toNat) ((by rw[Int.toNat_of_nonneg O6])) (kj) (F5) ?_;rotate_left;(repeat refine' DD ?_);refine' DJ.idxM tO Z Z Z Z Z Z Z Z Z ((bA.mono jK)) (n.right.toNat) ((by rw[Int.toNat_of_nonneg gh])) (df) (F4) ?_;rotate_left;(repeat refine' DD ?_);refine' vC (cO func108) (fun G hG hd=>zrJ aW (hnd.mono hG) (wX.mono hG) (wW.mono hG) hN Gu C6 xG) ?_;rotate_left;(repeat refine' DD ?_);(refine DJ.nil (fun G hG hF=>?_);(case hS|hS2=>rfl));refine uR ?_;refine⟨j+1,⟨by rw[aO j (by omega)];rfl,trivial⟩,sB,trivial,sB,rfl,dJ,hG,by omega⟩
  ·try refine uR ?_
   rfl
inductive mA (T:List Nd) (x:List Rat):Nat->Nat->Prop
 | here {i:Nat} {n:Nd}:T[i]?=some n->n.col = -1->mA T x i i
 | low {i j:Nat} {n:Nd}:T[i]?=some n->n.col ≠ -1->x.getD n.col.toNat 0<=n.at'->mA T x n.left.toNat j->mA T x i j
 | high {i j:Nat} {n:Nd}:T[i]?=some n->n.col ≠ -1->¬x.getD n.col.toNat 0<=n.at'->mA T x n.right.toNat j->mA T x i j
theorem mA.det {T:List Nd} {x:List Rat} {i j:Nat} (h:mA T x i j):∀{k:Nat},mA T x i k->j=k:=by
 induction h with
 | here h1 h2 =>
  intro k h
  cases h with
  | here _ _=>rfl
  | low e n _ _=>rw[h1]at e;cases e;exact absurd h2 n
  | high e n _ _=>rw[h1]at e;cases e;exact absurd h2 n
 | low h1 h2 h3 _ ih =>
  intro k h
  cases h with
  | here e n=>rw[h1]at e;cases e;exact absurd n h2
  | low e n _ h=>rw[h1]at e;cases e;exact ih h
  | high e n h' _=>rw[h1]at e;cases e;exact absurd h3 h'
 | high h1 h2 h3 _ ih =>
  intro k h
  cases h with
  | here e n=>rw[h1]at e;cases e;exact absurd n h2
  | low e n h' _=>rw[h1]at e;cases e;exact absurd h' h3
  | high e n _ h=>rw[h1]at e;cases e;exact ih h
theorem Sub.at {T:List Nd} {w:Int} {k h e:Nat} (h0:Sub T w k h e):∀i,k<=i->i<e->∃h' e',Sub T w i h' e':=by
 induction h0 with
 | @leaf k h n a b c d e =>
  intro i h1 h2;obtain rfl:i=k:=oM;exact⟨0,_,.leaf a b c d e⟩
 | @node k h m e n a b c d f s1 s2 p7 pZ =>
  intro i h1 h2;by_cases h3:i=k
  ·subst h3;exact⟨_,_,.node a b c d f s1 s2⟩
  ·by_cases h4:i<m
   ·exact p7 i oM h4
   ·exact pZ i oM h2
def cqF (q:Rat):List Value:=aB (aC q)
theorem Sa (l:List Rat):(l.flatMap cqF).length=l.length*5:=flat_len cqF 5 l fun _ _=>rfl
theorem Sx (n:Nat):(List.replicate n ([.bool false,.int .u64 0,.string ⟨#[]⟩,.int .u64 0,.string ⟨#[]⟩]:List Value)).flatten=(([]:List Rat)++List.replicate (n-0) 0).flatMap cqF:=by
 rw[pN,Nat.sub_zero,List.flatMap_def,List.map_replicate,show cqF 0=_ from rN]
theorem ZQ (qs:List Rat) (q:Rat) {n:Nat} (h:qs.length<n):((qs++List.replicate (n-qs.length) 0).flatMap cqF).take (qs.length*5)++aB (aC q)++((qs++List.replicate (n-qs.length) 0).flatMap cqF).drop (qs.length*5+5)=((qs++[q])++List.replicate (n-(qs++[q]).length) 0).flatMap cqF:=by
 have e:n-qs.length=(n-(qs++[q]).length)+1:=by rw[qJ,qw];omega
 rw[e,List.replicate_succ,List.flatMap_append,List.flatMap_cons,List.flatMap_append,List.flatMap_append,List.flatMap_singleton,qZ (qs.flatMap cqF) (cqF q)];have:=pR (A:=qs.flatMap cqF) (c:=cqF 0) (B:=(List.replicate (n-(qs++[q]).length) (0:Rat)).flatMap cqF) (vs:=aB (aC q)) (c':=cqF q) (k:=qs.length) (s:=5) (f:=0) (m:=5) (q:=qs.length*5) (Sa qs) Z Z (qH 5) rfl;exact this
theorem aF.same {e:TypeId} {s m:Nat} {v:Value} {xs:List Value} {ow:Ows} (h:aF e s v m xs ow) (h0:0<m):∃g cap sp,v=.slice (some ⟨g,0,none⟩) m cap/\ow=[(g,e,xs++sp)]/\∀jS,jS.length=xs.length->aF e s v m jS [(g,e,jS++sp)]:=by
 rcases h.2 with ⟨_,e0,_⟩ | ⟨g,cap,sp,rfl,rfl,h1,h2,h3⟩
 ·omega
 ·exact⟨g,cap,sp,rfl,rfl,fun jS e=>⟨by rw[e];exact h.1,.inr ⟨g,cap,sp,rfl,rfl,by rw[<-h1,qJ,qJ,e],h2,h3⟩⟩⟩
theorem SZ (A B:List (List Value)) (c:List Value) (sp:List Value):(A++c::B).flatten++sp=A.flatten++(c++(B.flatten++sp)):=by simp
theorem ig.flat_len {H:Hp}:∀{css:List (List Value)} {ns:List Nd},ig H css ns->css.flatten.length=css.length*21
 | [],_,_=>rfl
 | c::css,[],h=>by have:=h.1;simp at this
 | c::css,n::ns,h=>by
  have h1:=(h.2 0 c n Z Z).len;have h2:=ig.flat_len (css:=css) (ns:=ns) ⟨by have:=h.1;simpa using this,fun j c' n' e1 e2=>h.2 (j+1) c' n' (by rw[pM];exact e1) (by rw[pM];exact e2)⟩;rw[List.flatten_cons,qJ,qR];omega
theorem ig.left {H:Hp} {A B:List (List Value)} {ns:List Nd} (h:ig H (A++B) ns):ig H A (ns.take A.length):=by
 have hl:=h.1;rw[qJ]at hl;refine⟨by rw[qP];omega,fun j c n e1 e2=>?_⟩;have hj:=(qE.1 e1).1;rw[pO,if_pos hj]at e2;exact h.2 j c n (by rw[qM hj];exact e1) e2
end
section
end
section
open Go.RowKit _root_.Go.Proofs.Tryz
theorem zrI (a b:Int) (ha:0<=a/\a<=1000) (hb:1<=b/\b<=1000):PV prog 28 #[.int .i64 a,.int .i64 b] (.tuple #[aC (mkRat a b.natAbs),.bool true]):=by
 have h1:=IY a oM oM;have h2:=IY b oM oM;have b1:bl a.natAbs<=20:=cf oM;have b2:bl b.natAbs<=20:=cf oM;have h3:=RD a b (by show bl a.natAbs<=_;omega) (by show bl b.natAbs<=_;omega) oM;rw[if_neg (show ¬b<0 by omega)]at h3;refine PV.of_pc ?_;refine BD func28 ntmps28 ?_
 repeat (first|refine RUN ?_|refine CV (h1) ?_|refine CV (h2) ?_|refine CV (h3) ?_|refine CE (h1) ?_|refine CE (h2) ?_|refine CE (h3) ?_)
 rfl
end
section
end
section
open Go.RowKit _root_.Go.Proofs.Tryz
end
section
open Go.ChangeShapes Go.WideShapes Go.ChangeAt Go.RowKit
def BI (W:World):Hp:=fun b=>match W.heap[b]? with
 | some (.cells c _ _)=>some c
 | _=>none
theorem fits_hpOf (W:World):Fits (BI W) W:=fun b c h=>by
 unfold BI at h;split at h
 ·rename_i c' T fz hb;cases h;exact⟨T,fz,hb⟩
 ·cases h
section
variable {H:Type} {enc:TypeId × Value->H} {P:Program} {w:World} {base:Nat} {spare:Nat->Bool} {held:Bool}
theorem To {t e:TypeId} {k:IntKind} {fuel:Nat} {cs:List Value} {x:DataW H × List MemPlace} (ht:P.underlying t=some (.slice e)) (he:P.underlying e=some (.int k)) (hc:P.cellsOf e=1) (h:DataW.trod enc P w base spare held fuel t cs=some x) :
  ∃a len cap zs,cs=[.slice a len cap]/\SlN (fun z:Int=>Value.int k z) (BI w) (.slice a len cap) zs/\∀n∈zs,(Lit.int k n).wf=true:=by
 rcases open_ints ht he hc h with ⟨rfl,_⟩ | ⟨x,len,cap,zs,rfl,_,hl,hm,hz,_,fK,hw⟩
 ·exact⟨none,0,0,[],rfl,Q6 _ _,fun n hn=>by cases hn⟩
 ·have CK:len<=zs.length:=by rw[hz];split <;> omega
  refine⟨some x,len,cap,zs.take len,rfl,?_,fun n hn=>hw n (List.mem_of_mem_take hn)⟩;have hlen:(zs.take len).length=len:=by rw[qP];omega
  unfold SlN;rw[hlen];refine⟨by rw[qV,hlen,Nat.mul_one],?_⟩;by_cases h0:len=0
  ·subst h0;exact .inl ⟨rfl,some x,cap,rfl⟩
  ·right;have h1:=fK 0 oM;obtain⟨b,off,sp⟩:=x
   have hsp:sp=none:=by
    cases sp with
    | none=>rfl
    | some s=>simp only[World.cell?,Addr.add]at h1;split at h1 <;> simp_all
   subst hsp
   have hb:∃c,BI w b=some c/\∀i,i<zs.length->c[off+i]?=some (.int k (zs.getD i 0)):=by
    simp only[Addr.add_mid]at fK;unfold World.cell? at fK;unfold BI;simp only at fK
    cases hw':w.heap[b]? with
    | none=>have:=fK 0 oM;rw[hw']at this;cases this
    | some o =>
     cases o with
     | cells c T fz=>exact⟨c,rfl,fun i hi=>by have:=fK i hi;rw[hw']at this;simpa using this⟩
     | _=>have:=fK 0 oM;rw[hw']at this;cases this
   obtain⟨c,eA,cM⟩:=hb;refine⟨b,off,cap,c,rfl,hl,eA,fun j y hj=>?_⟩;rw[qK,pO]at hj;split at hj
   ·rename_i fw;rw[cM j oM,<-hj,qB,qA (by omega)];rfl
   ·cases hj
end
theorem i64_bounds {z:Int} (h:(Lit.int .i64 z).wf=true):-9223372036854775808<=z/\z<9223372036854775808:=by
 have:=bounds_i64 h;omega
end
section
open Go.ChangeShapes Go.WideShapes Go.ChangeAt Go.RowKit
theorem Yg {α:Type}:∀{l:List α},l.length=10->∃a b c d e f g h i j,l=[a,b,c,d,e,f,g,h,i,j]
 | [a,b,c,d,e,f,g,h,i,j],_=>⟨a,b,c,d,e,f,g,h,i,j,rfl⟩
end
section
open Go.RowKit _root_.Go.Proofs.Tryz
theorem Y6 {α β:Type} {R:α->β->Prop} {A B:List α} {c c':α} {ys:List β} {y:β} (h:(A++c::B).length=ys.length/\∀(j:Nat) (x:α) (y:β),(A++c::B)[j]?=some x->ys[j]?=some y->R x y) (k:R c' y) :
  (A++c'::B).length=(ys.set A.length y).length/\∀(j:Nat) (x:α) (z:β),(A++c'::B)[j]?=some x->(ys.set A.length y)[j]?=some z->R x z:=by
 refine⟨by have:=h.1;simpa using this,fun j x m e1 e2=>?_⟩;rcases Nat.lt_trichotomy j A.length with q | q | q
 ·rw[List.getElem?_set_ne (by omega)]at e2;exact h.2 j x m (by rw[qM q]at e1 ⊢;exact e1) e2
 ·subst q;rw[qL (qH _),Nat.sub_self]at e1;cases e1;have hl:A.length<ys.length:=by have:=h.1;simp at this;omega
  rw[List.getElem?_set_self hl]at e2;cases e2;exact k
 ·obtain⟨p,hp⟩:∃p,j-A.length=p+1:=⟨j-A.length-1,by omega⟩;rw[List.getElem?_set_ne (by omega)]at e2;exact h.2 j x m (by rw[qL oM,hp,pM]at e1 ⊢;exact e1) e2
theorem K8 {α:Type} {l:List α} {k:Nat} (h:k<l.length):∃A c B,l=A++c::B/\A.length=k:=⟨l.take k,l[k],l.drop (k+1),by rw[List.getElem_cons_drop,List.take_append_drop],by rw[qP];omega⟩
theorem RTs.one {H:Hp}:∀{css:List (List Value)} {ns:List Tr},RTs H css ns->oneB css.flatten=true
 | [],_,_=>rfl
 | c::css,[],h=>by have:=h.1;simp at this
 | c::css,n::ns,h=>by
  rw[List.flatten_cons];obtain⟨_,_,_,h1,_⟩:=h.2 0 c n Z Z;refine Lm (by rw[h1];rfl) (RTs.one (ns:=ns) ⟨?_,fun j c' n' e1 e2=>h.2 (j+1) c' n' (by rw[pM];exact e1) (by rw[pM];exact e2)⟩);have:=h.1;simpa using this
section
variable {P:Program} {n:Nat} {ops:Array Oper} {o:Oper} {rest:List Oper} {env:Env} {bx:Bxs} {H:Hs} {Q:EQ} {τ:Tab} {d:Nat}
theorem EVL.appendR (hτ:bp P τ) {T:TypeId} {x y:Operand} (ho:o.op=.call { callee:=.builtin .append,args:=#[x,y],argTypes:=#[T,T] }) (hg:o.guard=none) (hw:aP ops env o=some true) (hd:o.dst=some d) (hn:Nat.blt d n=true) {te te':TE} {e:TypeId} (ht:τ.get T=some te) (hk:te.kind=.slice e) (aM:τ.get e=some te')
  (uy:Nat.beq te'.zero.length te'.size=true) (bQ:Nat.ble 1 te'.size=true) (lI:Nat.ble te'.bytes 10000=true) {v:Value} (hx:env.op x=some (.v v)) {u:Value} (hy:env.op y=some (.v u)) (pre ow post:Ows) (he:H.ow=pre++(ow++post)) {m1 m2:Nat} {xs ys:List Value}
  (ah:aF e te'.size v m1 xs ow) (ir:SlC H.ro u m2 te'.size ys) (h1:oneB ys=true) (hm:m1+m2<=1000000000)
  (h:∀v' au,aF e te'.size v' (m1+m2) (xs++ys) au->EVL P n ops rest ((d,.v v')::env) bx ⟨H.ro,pre++(au++post),H.base⟩ Q):EVL P n ops (o::rest) env bx H Q:=by
 by_cases h0:m2=0
 ·subst h0;obtain⟨a',c',rfl⟩:=SlC.val ir;have yM:ys=[]:=pJ.1 (by rw[ir.1,Nat.zero_mul]);subst yM
  have hle:∃a c,v=.slice a m1 c/\m1<=c:=by
   rcases ah.2 with ⟨e1,e2,_⟩ | ⟨g,cap,sp,e1,_,_,e2,_⟩
   ·subst e2;exact⟨_,_,e1,qH _⟩
   ·exact⟨_,_,e1,e2⟩
  obtain⟨a,c,rfl,hle⟩:=hle;refine EVL.append0 hτ ho hw hd hn ht hk aM hx hy hle ?_;have:=h _ ow (by rw[qG];exact ah);rw[<-he]at this;exact this
 ·exact EVL.append hτ ho hg hd hn ht hk aM uy bQ lI hx hy pre ow post he ah (iJ.ro ir oM) h1 hm h
end
end
section
instance:Nonempty Nd:=⟨⟨0,0,0,0,0,0,0,0,[]⟩⟩
noncomputable def iU (x:List Rat) (t:Tr):Nd:=Classical.epsilon fun n=>∃i,mA t.ns x 0 i/\t.ns[i]?=some n
theorem ZV {x:List Rat} {t:Tr} {i:Nat} {n:Nd} (h1:mA t.ns x 0 i) (h2:t.ns[i]?=some n):iU x t=n:=by
 have h:∃n,∃i,mA t.ns x 0 i/\t.ns[i]?=some n:=⟨n,i,h1,h2⟩;obtain⟨j,h3,h4⟩:=Classical.epsilon_spec h;have e:=h1.det h3;subst e;have h5:some (iU x t)=some n:=h4.symm.trans h2;exact Option.some.inj h5
noncomputable def vL (x:List Rat) (ts:List Tr):List Rat:=ts.map fun t=>(iU x t).value
theorem Sub.leafs {T:List Nd} {w:Int} {k h e:Nat} (h0:Sub T w k h e) (x:List Rat):∃(j:Nat) (n:Nd),mA T x k j/\T[j]?=some n:=by
 induction h0 with
 | @leaf k h n a b _ _ _=>exact⟨k,n,.here a b,a⟩
 | @node k h m e n a b c d f s1 s2 p7 pZ =>
  by_cases hle:x.getD n.col.toNat 0<=n.at'
  ·obtain⟨j,q,h1,h2⟩:=p7;refine⟨j,q,.low a oM hle ?_,h2⟩;rw[d];exact h1
  ·obtain⟨j,q,h1,h2⟩:=pZ;refine⟨j,q,.high a oM hle ?_,h2⟩;rw[f];exact h1
theorem Io {t:Tr} (h:kW t) (x:List Rat):∃i:Nat,mA t.ns x 0 i/\i<t.ns.length/\t.ns[i]?=some (iU x t)/\OkN t.kd t.cl (iU x t):=by
 obtain⟨_,_,_,⟨hh,_,aQ⟩,av⟩:=h;obtain⟨i,n,h1,h2⟩:=aQ.leafs x;have hi:=(qE.1 h2).1;rw[ZV h1 h2];obtain⟨n',e,hN,_⟩:=av i hi;rw[h2]at e;cases e;exact⟨i,h1,hi,h2,hN⟩
end
section
open Go.RowKit _root_.Go.Proofs.Tryz
theorem RL.slc {H:Hp} {v:Value} {l:List Rat} (h:RL H v l) {j:Nat} {q:Rat} (hj:l[j]?=some q):∃(cs:List Value) (b:Bool) (a1:Option Addr) (l1 c1:Nat) (a2:Option Addr) (l2 c2:Nat),SlC H v l.length 3 cs/\(cs.drop (j*3)).take 3=[.bool b,.slice a1 l1 c1,.slice a2 l2 c2]/\RQ H (.agg #[.bool b,.slice a1 l1 c1,.slice a2 l2 c2]) q:=by
 obtain⟨vs,x,h1,h2,h3⟩:=h.at hj;obtain⟨a1,l1,c1,a2,l2,c2,rfl,_⟩:=id h3;exact⟨_,_,a1,l1,c1,a2,l2,c2,h1,h2,h3⟩
end
end Go.Proofs.YtkeklikocibiaaaGreatDoor
