/- Texts of ours in one: GnT, GnV, Wd1, Ls7, LsR, Ls8, Wd2, Ha3, Lw8, Lw9, Wd3, Wd4, Ev24, RqL, Wd5, GnX, Tr1, Ev25, Wd6, Tr2, Dice, Draw, RefDice, Dg1, Wd7, Ev26, Tr3, Ev27, Stable, Swaps, RestPlain, Rest, Same, Rising, Tr4, Tr5, TrT, Tr6, Tr7, Tr8, Tr9, Tr10, Tr11, Tr12, Tr13, Wd8, Ev28, Pg1, Tr14, Tr15, Pg2, Od1, Pg3, Tr16, Tr17, Tr18, Tr19, Tr20, Tr21, Tr22, Tr23, Tr24, Tr25, Tr26, Opn, Opn20, Tr27, Tr29, Tr30, Tr31, Pg4, Tg1, Pg5, Pg6, GrP. -/
import Derived.Test.YtjdpljkildlfaaaGreatDoorC0
import Derived.Test.YtjdpljkildlfaaaGreatDoorC1
import Derived.Test.YtjdpljkildlfaaaGreatDoorC2
import Derived.Test.YtjdpljkildlfaaaGreatDoorC3
import Derived.Test.YtjdpljkildlfaaaGreatDoorRows
import Derived.WalkLawsBesides
import Derived.Deep.LoopGhost
import Derived.Lib.ConvBytes
import Derived.Deep.QuietTactic
import Derived.BigQuiet
import Derived.WalkKit
import Derived.ProofKit
import Derived.OpenShut
set_option linter.unusedVariables false
set_option linter.unusedSimpArgs false
set_option maxHeartbeats 64000000
namespace Go.Proofs.YtjdpljkildlfaaaGreatDoor
section
def zjV (a b:Int × Rat × Rat):Prop:=b.2.2<a.2.2∨(a.2.2=b.2.2∧(a.1<b.1∨(a.1=b.1∧a.2.1<b.2.1)))
instance (a b:Int × Rat × Rat):Decidable (zjV a b):=by unfold zjV;exact inferInstance
theorem zhU {a b c:Int × Rat × Rat} (h:zjV a b) (k:zjV b c):zjV a c:=by
 unfold zjV at *
 rcases h with h | ⟨h1,h2⟩ <;> rcases k with k | ⟨k1,k2⟩
 ·left;grind
 ·left;grind
 ·left;grind
 ·right;refine⟨h1.trans k1,?_⟩;rcases h2 with h2 | ⟨h2,h3⟩ <;> rcases k2 with k2 | ⟨k2,k3⟩
  ·left;omega
  ·left;omega
  ·left;omega
  ·right;exact⟨by omega,by grind⟩
theorem znf {a b:Int × Rat × Rat} (h:¬zjV a b) (k:¬zjV b a):a=b:=by
 unfold zjV at *
 obtain⟨a1,a2,a3⟩:=a;obtain⟨b1,b2,b3⟩:=b;dsimp only at *
 have e3:a3=b3:=by
  have h1:¬b3<a3:=fun x=>h (.inl x);have h2:¬a3<b3:=fun x=>k (.inl x);grind
 subst e3
 have e1:a1=b1:=by
  have h1:¬a1<b1:=fun x=>h (.inr ⟨rfl,.inl x⟩);have h2:¬b1<a1:=fun x=>k (.inr ⟨rfl,.inl x⟩);omega
 subst e1
 have e2:a2=b2:=by
  have h1:¬a2<b2:=fun x=>h (.inr ⟨rfl,.inr ⟨rfl,x⟩⟩);have h2:¬b2<a2:=fun x=>k (.inr ⟨rfl,.inr ⟨rfl,x⟩⟩);grind
 subst e2;rfl
theorem zhT {a b:Int × Rat × Rat} (h:zjV a b) (k:zjV b a):False:=by
 have:=zhU h k;unfold zjV at this;rcases this with h | ⟨_,h | ⟨_,h⟩⟩
 ·exact absurd h Rat.lt_irrefl
 ·omega
 ·exact absurd h Rat.lt_irrefl
def zf2 (st:Option (Int × Rat × Rat)) (p:Int × Rat × Rat):Option (Int × Rat × Rat):=match st with
 | none=>some p
 | some q=>if zjV p q then some p else some q
def zgc (l:List (Int × Rat × Rat)) (r:Option (Int × Rat × Rat)):Prop:=match r with
 | none=>l=[]
 | some p=>p∈l∧∀q,q∈l→¬zjV q p
theorem zmZ {l:List (Int × Rat × Rat)} {r:Option (Int × Rat × Rat)} (h:zgc l r) (p:Int × Rat × Rat):zgc (l++[p]) (zf2 r p):=by
 unfold zf2
 cases r with
 | none =>
  obtain rfl:l=[]:=h
  exact⟨by simp,fun q hq=>by
   rw[pM,pJ]at hq;subst hq;exact fun k=>zhT k k⟩
 | some q =>
  obtain⟨h1,h2⟩:=h;dsimp only;split
  ·rename_i hp;refine⟨by simp,fun z hz=>?_⟩;rcases List.mem_append.1 hz with hz | hz
   ·exact fun k=>h2 z hz (zhU k hp)
   ·rw[pJ.1 hz];exact fun k=>zhT k k
  ·rename_i hp;refine⟨List.mem_append_left _ h1,fun z hz=>?_⟩;rcases List.mem_append.1 hz with hz | hz
   ·exact h2 z hz
   ·rw[pJ.1 hz];exact hp
def zlp (P:Int × Rat × Rat→Prop) (r:Option (Int × Rat × Rat)):Prop:=match r with
 | none=>∀p,¬P p
 | some p=>P p∧∀q,P q→¬zjV q p
theorem zgc.p {l:List (Int × Rat × Rat)} {r:Option (Int × Rat × Rat)} (h:zgc l r):zlp (·∈l) r:=by
 cases r with
 | none =>
  obtain rfl:l=[]:=h;intro p hp;cases hp
 | some p=>exact h
theorem zmY {P Q:Int × Rat × Rat→Prop} {r s:Option (Int × Rat × Rat)} (h:zlp P r) (k:zlp Q s) (e:∀p,P p↔Q p):r=s:=by
 cases r with
 | none=>cases s with
  | none=>rfl
  | some q=>exact absurd ((e q).2 k.1) (h q)
 | some p=>cases s with
  | none=>exact absurd ((e p).1 h.1) (k p)
  | some q=>rw[znf (a:=p) (b:=q) (k.2 p ((e p).1 h.1)) (h.2 q ((e q).2 k.1))]
theorem zei {key:Int→Rat} {wo:List Int→Rat} {L:Int} {m:List Int}:∀{n:Nat} {a w:Rat},zdp key wo L m n=some (a,w) →
  ∃j,j<n∧zdw key L m j=true∧a=zeA key m j∧w=zfv wo m j∧∀j',j'<n→zdw key L m j'=true→zfv wo m j'<w∨(zfv wo m j'=w∧j≤j')
 | 0,a,w,h=>by cases h
 | n+1,a,w,h=>by
  unfold zdp at h;split at h
  ·rename_i hc;split at h
   ·rename_i h0;cases h;refine⟨n,Nat.lt_succ_self _,hc,rfl,rfl,fun j' hj' hc'=>?_⟩;by_cases e:j'=n
    ·subst e;exact .inr ⟨rfl,qH _⟩
    ·obtain⟨a1,w1,h1,_⟩:=zim (wo:=wo) (show j'<n by omega) hc';rw[h0]at h1;cases h1
   ·rename_i a0 w0 h0;obtain⟨j,hj,h1,h2,h3,h4⟩:=zei h0;split at h
    ·rename_i hw;cases h;refine⟨n,Nat.lt_succ_self _,hc,rfl,rfl,fun j' hj' hc'=>?_⟩;by_cases e:j'=n
     ·subst e;exact .inr ⟨rfl,qH _⟩
     ·rcases h4 j' oM hc' with h5 | ⟨h5,_⟩
      ·left;grind
      ·left;rw[h5];exact hw
    ·rename_i hw;cases h;refine⟨j,by omega,h1,h2,h3,fun j' hj' hc'=>?_⟩;by_cases e:j'=n
     ·subst e;rcases Rat.le_iff_lt_or_eq.1 (Rat.not_lt.1 hw) with h5 | h5
      ·exact .inl h5
      ·exact .inr ⟨h5,by omega⟩
     ·exact h4 j' oM hc'
  ·rename_i hc;obtain⟨j,hj,h1,h2,h3,h4⟩:=zei h;refine⟨j,by omega,h1,h2,h3,fun j' hj' hc'=>?_⟩;by_cases e:j'=n
   ·subst e;exact absurd hc' hc
   ·exact h4 j' oM hc'
theorem zkC {ps:List (Int × Option (Rat × Rat))} (hs:(ps.map (·.1)).Pairwise (·<·)) {c:Int} {a w:Rat} (h:zb9 ps=some (c,a,w)):∀c' a' w',(c',some (a',w'))∈ps→w'<w∨(w'=w∧c≤c'):=by
 have key:∀(qs pre:List (Int × Option (Rat × Rat))) (st:Option (Int × Rat × Rat)),((pre++qs).map (·.1)).Pairwise (·<·) →
   (∀c a w,st=some (c,a,w)→(c,some (a,w))∈pre∧∀c' a' w',(c',some (a',w'))∈pre→w'<w∨(w'=w∧c≤c'))→(st=none→∀c' a' w',(c',some (a',w')) ∉ pre) →
   ∀c a w,qs.foldl zdv st=some (c,a,w)→∀c' a' w',(c',some (a',w'))∈pre++qs→w'<w∨(w'=w∧c≤c'):=by
  intro qs
  induction qs with
  | nil=>intro pre st _ h2 _ c a w h3 c' a' w' hm;rw[qG]at hm;exact(h2 c a w h3).2 c' a' w' hm
  | cons p qs ih =>
   intro pre st hpw h2 h0 c a w h3 c' a' w' hm;have e:pre++p::qs=(pre++[p])++qs:=by simp
   rw[e]at hpw hm
   have hlt:∀z,z∈pre→z.1<p.1:=fun z hz=>by
    rw[qn,qn]at hpw;exact(List.pairwise_append.1 (List.pairwise_append.1 hpw).1).2.2 z.1 (List.mem_map.2 ⟨z,hz,rfl⟩) p.1 (by simp)
   refine ih (pre++[p]) (zdv st p) hpw (fun c a w h4=>?_) (fun h4=>?_) c a w h3 c' a' w' hm
   ·obtain⟨pc,po⟩:=p;unfold zdv at h4
    cases po with
    | none =>
     obtain⟨h5,h6⟩:=h2 c a w h4;refine⟨List.mem_append_left _ h5,fun c' a' w' hz=>?_⟩;rcases List.mem_append.1 hz with hz | hz
     ·exact h6 c' a' w' hz
     ·cases pJ.1 hz
    | some q =>
     obtain⟨a1,w1⟩:=q
     cases st with
     | none =>
      cases h4;refine⟨by simp,fun c' a' w' hz=>?_⟩;rcases List.mem_append.1 hz with hz | hz
      ·exact absurd hz (h0 rfl c' a' w')
      ·cases pJ.1 hz;exact .inr ⟨rfl,by omega⟩
     | some t =>
      obtain⟨c0,a0,w0⟩:=t;obtain⟨h5,h6⟩:=h2 c0 a0 w0 rfl;dsimp only at h4;split at h4
      ·rename_i hw;cases h4;refine⟨by simp,fun c' a' w' hz=>?_⟩;rcases List.mem_append.1 hz with hz | hz
       ·rcases h6 c' a' w' hz with h7 | ⟨h7,_⟩
        ·left;grind
        ·left;rw[h7];exact hw
       ·cases pJ.1 hz;exact .inr ⟨rfl,by omega⟩
      ·rename_i hw;cases h4;refine⟨List.mem_append_left _ h5,fun c' a' w' hz=>?_⟩;rcases List.mem_append.1 hz with hz | hz
       ·exact h6 c' a' w' hz
       ·cases pJ.1 hz;have hl:=hlt _ h5;dsimp only at hl;rcases Rat.le_iff_lt_or_eq.1 (Rat.not_lt.1 hw) with h8 | h8
        ·exact .inl h8
        ·exact .inr ⟨h8,by omega⟩
   ·obtain⟨pc,po⟩:=p;unfold zdv at h4
    cases po with
    | none =>
     intro c' a' w' hz;rcases List.mem_append.1 hz with hz | hz
     ·exact h0 h4 c' a' w' hz
     ·cases pJ.1 hz
    | some q =>
     obtain⟨a1,w1⟩:=q
     cases st with
     | none=>cases h4
     | some t =>
      obtain⟨c0,a0,w0⟩:=t;dsimp only at h4;split at h4 <;> cases h4
 exact key ps [] none hs (fun c a w h=>by cases h) (fun _ c' a' w' h=>by cases h) c a w h
end
section
theorem zj4 {key:Int→Rat} {es m m2:List Int} (h1:m.Perm es) (r1:zht key m) (h2:m2.Perm es) (r2:zht key m2):m2.length=m.length∧∀i,i<m.length→key (m2.getD i 0)=key (m.getD i 0):=by
 have hml:m2.length=m.length:=by rw[h1.length_eq,h2.length_eq]
 have hkk:m2.map key=m.map key:=zh3 r2 r1 ((h2.trans h1.symm).map _);refine⟨hml,fun i hi=>?_⟩;have:=congrArg (fun l:List Rat=>l[i]?) hkk;simp only[qK]at this;rw[qA (show i<m2.length by omega),qA hi]at this;simpa[hi,hml] using this
theorem zn5 {X:List (List Rat)} {wo cost:List Int→Rat} {c L:Int} {es m m2:List Int} (hp:POk wo cost) (ha:∀r,r∈es→zcI X c r=true) (h1:m.Perm es) (r1:zht (zbv X c) m) (h2:m2.Perm es) (r2:zht (zbv X c) m2) {j:Nat} (hj:j+1<m.length) (hc:zdw (zbv X c) L m j=true) :
  zdw (zbv X c) L m2 j=true∧zeA (zbv X c) m2 j=zeA (zbv X c) m j∧zfv wo m2 j=zfv wo m j:=by
 obtain⟨hml,hget⟩:=zj4 h1 r1 h2 r2;obtain⟨c1,c2,hlt⟩:=zeG.1 hc;have hlt2:zbv X c (m2.getD j 0)<zbv X c (m2.getD (j+1) 0):=by rw[hget j oM,hget (j+1) hj];exact hlt
 have hmid:zeA (zbv X c) m2 j=zeA (zbv X c) m j:=by unfold zeA;rw[hget j oM,hget (j+1) hj]
 obtain⟨hl,hh⟩:=zf4 h1 r1 ha hj hlt;obtain⟨hl2,hh2⟩:=zf4 h2 r2 ha (show j+1<m2.length by omega) hlt2;rw[hmid]at hl2 hh2;refine⟨zeG.2 ⟨c1,by rw[hml];exact c2,hlt2⟩,hmid,?_⟩;unfold zfv;rw[hp.wperm _ _ (hl2.symm.trans hl),hp.wperm _ _ (hh2.symm.trans hh)]
def zt6 (X:List (List Rat)) (wo:List Int→Rat) (es cols:List Int) (L:Int) (p:Int × Rat × Rat):Prop :=
 p.1∈cols∧es.all (zcI X p.1)=true∧∃m j,m.Perm es∧zht (zbv X p.1) m∧j+1<m.length∧zdw (zbv X p.1) L m j=true∧p.2.1=zeA (zbv X p.1) m j∧p.2.2=zfv wo m j-wo es
theorem zqI {key:Int→Rat} {m:List Int} (h:zht key m) {i j:Nat} (hij:i≤j) (hj:j+1<m.length):zeA key m i≤zeA key m j:=by
 have h1:=zf3 h hij oM;have h2:=zf3 h (show i+1≤j+1 by omega) hj;unfold zeA;grind
theorem zqQ {ps:List (Int × Option (Rat × Rat))} (hs:(ps.map (·.1)).Pairwise (·<·)):∀{c:Int} {o o':Option (Rat × Rat)},(c,o)∈ps→(c,o')∈ps→o=o':=by
 induction ps with
 | nil=>intro c o o' h;cases h
 | cons p ps ih =>
  intro c o o' h h';rw[qw]at hs;obtain⟨h1,h2⟩:=List.pairwise_cons.1 hs;rcases List.mem_cons.1 h with h | h <;> rcases List.mem_cons.1 h' with h' | h'
  ·rw[←h]at h';cases h';rfl
  ·have:=h1 c (List.mem_map.2 ⟨_,h',rfl⟩);rw[←h]at this;exact absurd this (by dsimp only;omega)
  ·have:=h1 c (List.mem_map.2 ⟨_,h,rfl⟩);rw[←h']at this;exact absurd this (by dsimp only;omega)
  ·exact ih h2 h h'
theorem zkD {X:List (List Rat)} {wo cost:List Int→Rat} {es cols:List Int} {L:Int} {ps:List (Int × Option (Rat × Rat))} (hp:POk wo cost) (hcol:ztf cols (ps.map (·.1))) (hps:∀p,p∈ps→zrs X wo es L p.1 p.2) :
  zlp (zt6 X wo es cols L) ((zb9 ps).map fun t=>(t.1,t.2.1,t.2.2-wo es)):=by
 have own:∀c a g,zt6 X wo es cols L (c,a,g)→∃a2 w2,(c,some (a2,w2))∈ps∧g+wo es≤w2∧(g+wo es=w2→a2≤a):=by
  rintro c a g ⟨hc,ha,m,j,hm,hr,hj,hcand,he,hg⟩;dsimp only at hc ha hr hcand he hg;obtain⟨⟨pk,po⟩,hpm,hpk⟩:=List.mem_map.1 ((hcol.2 c).2 hc);dsimp only at hpk;subst hpk;obtain⟨m2,hs2,ho2,_⟩:=hps _ hpm;dsimp only at hs2 ho2;rcases hs2 with ⟨_,hm2,hr2⟩ | ⟨hno,_⟩
  ·obtain⟨h1,h2,h3⟩:=zn5 hp (List.all_eq_true.1 ha) hm hr hm2 hr2 hj hcand;have hml:=(zj4 hm hr hm2 hr2).1;obtain⟨a2,w2,hcn,hw⟩:=zim (wo:=wo) (show j<m2.length-1 by omega) h1;rw[←ho2]at hcn;subst hcn;obtain⟨j2,hj2,_,e1,e2,e3⟩:=zei ho2.symm;refine⟨a2,w2,hpm,by grind,fun heq=>?_⟩;rcases e3 j oM h1 with h4 | ⟨_,h4⟩
   ·grind
   ·rw[e1,he,←h2];exact zqI hr2 h4 oM
  ·rw[ha]at hno;cases hno
 cases hb:zb9 ps with
 | none =>
  rintro⟨c,a,g⟩ hq;obtain⟨a2,w2,h1,_⟩:=own c a g hq;obtain⟨_,_,_,h2,_⟩:=zn0 h1;rw[hb]at h2;cases h2
 | some t =>
  obtain⟨c,a,w⟩:=t;have hm:=zn1 hb;refine⟨?_,?_⟩
  ·obtain⟨m,hs,ho,_⟩:=hps _ hm;dsimp only at hs ho;obtain⟨j,hj,hcand,e1,e2⟩:=zin ho.symm;rcases hs with ⟨ha,hpm,hr⟩ | ⟨_,rfl⟩
   ·exact⟨(hcol.2 c).1 (List.mem_map.2 ⟨_,hm,rfl⟩),ha,m,j,hpm,hr,by omega,hcand,e1,by show w-wo es=_;rw[e2]⟩
   ·simp at hj
  ·rintro⟨c',a',g'⟩ hq hpre;obtain⟨a2,w2,h1,h2,h3⟩:=own c' a' g' hq;have h4:=zkC hcol.1 hb c' a2 w2 h1;rcases hpre with h5 | ⟨h5,h6⟩
   ·have h5':w-wo es<g':=h5;rcases h4 with h4 | ⟨h4,_⟩ <;> grind
   ·have h5':g'=w-wo es:=h5;have hw:w2=w:=by rcases h4 with h4 | ⟨h4,_⟩ <;> grind
    have hle:c≤c':=by
     rcases h4 with h4 | ⟨_,h4⟩
     ·grind
     ·exact h4
    rcases h6 with h6 | ⟨h6,h7⟩
    ·have:c'<c:=h6;omega
    ·have h6':c'=c:=h6;subst h6';have:=zqQ hcol.1 h1 hm;cases this;have h8:=h3 (by grind);have h9:a'<a:=h7;grind
end
section
open Go.RowKit _root_.Go.Proofs.Tryz
def zds (C:Nat) (l:List Int):List Int:=(List.range C).map fun (k:Nat)=>(l.count (k:Int):Int)
theorem zbo (C:Nat) (l:List Int):(zds C l).length=C:=by simp[zds]
theorem zfb {C:Nat} (l:List Int) {k:Nat} (hk:k<C):(zds C l)[k]?=some (l.count (k:Int):Int):=by
 unfold zds;rw[qK,List.getElem?_range hk];rfl
theorem zjr {C:Nat} (l:List Int) {k:Nat} (hk:k<C):zds C (l++[(k:Int)])=(zds C l).set k ((l.count (k:Int)+1:Nat):Int):=by
 apply List.ext_getElem?;intro j;rw[List.getElem?_set];by_cases hj:j<C
 ·rw[zfb _ hj,zfb _ hj,zfc,zbo];by_cases e:k=j
  ·subst e;rw[if_pos rfl,if_pos rfl,if_pos hk]
  ·rw[if_neg e,if_neg oM,qY]
 ·rw[qe (by rw[zbo];omega),qe (by rw[zbo];omega),if_neg (by omega)]
theorem zfV (C:Nat):(List.replicate C [iv 0]).flatten=(zds C []).map iv++[]:=by
 have:zds C []=List.replicate C 0:=by
  unfold zds;apply List.ext_getElem?;intro j;by_cases hj:j<C
  ·rw[qK,List.getElem?_range hj,List.getElem?_replicate,if_pos hj];simp
  ·rw[qe (by simp;omega),qe (by simp;omega)]
 rw[this,qG]
 induction C with
 | zero=>rfl
 | succ n ih =>
  rw[List.replicate_succ,List.flatten_cons,List.replicate_succ,qw,List.singleton_append];congr 1;apply ih;unfold zds;apply List.ext_getElem?;intro j;by_cases hj:j<n
  ·rw[qK,List.getElem?_range hj,List.getElem?_replicate,if_pos hj];simp
  ·rw[qe (by simp;omega),qe (by simp;omega)]
theorem zou {H:Hp} {b m:Nat} {l:List Int} {sp:List Value} (h:H b=some (l.map iv++sp).toArray) (hm:l.length=m):IL H (.slice (some ⟨b,0,none⟩) m m) l:=by
 subst hm;refine⟨by simp,.inr ⟨b,0,l.length,_,rfl,qH _,h,fun j x hj=>?_⟩⟩;rw[qt];have hl:=(qE.1 hj).1;rw[List.getElem?_toArray,qM hl];exact hj
theorem zmP {H:Hp} {v:Value} {rs:List Int} (hr:IL H v rs) (hn:rs.length≤300) {va:Option Addr} {vc:Nat} {la:Option Addr} {lc:Nat} {ls:List Int} (hv:IL H (.slice la ls.length lc) ls) {C:Nat} (hc:1≤C∧C≤12) (h0:1≤ls.length) (h1:ls.length≤300) (hls:∀z,z∈ls→0≤z∧z<(C:Int)) :
  PC prog 146 #[zas 1 C (.slice la ls.length lc) (.slice va 0 vc),v] H fun r H'=>IL H' r (zds C (atI ls (exL rs ls.length))):=by
 have hchk:=zgj (va:=va) (vc:=vc) hv (cl:=(C:Int)) oM h0 h1 hls;have hel:=zbj rs ls.length;have heb:=zcH (rs:=rs) (n:=ls.length);have hex:=zcq hr oM ls.length;generalize exL rs ls.length=es at *
 obtain⟨a,cap,rfl⟩:=SlC.val hr;refine BD func146 ntmps146 ?_
 repeat (first|refine RUN ?_|refine CV (hchk) ?_|refine CE (hchk) ?_)
 refine EVL.make tO rfl rfl rfl rfl rfl rfl rfl rfl rfl (C) (rfl) oM (by rfl) (by rfl) fun b=>?_;refine uR ?_;refine vA (hex) ?_;intro r1 G1 he hG1;obtain⟨ea,ec,rfl⟩:=SlC.val he;(first|refine EVL.swapOw ([(b,3,(zds C (atI ls (es.take 0))).map iv++[])]) ([]) ((by rw[show atI ls (es.take 0)=[] from rfl,←zfV];rfl)) ?_|refine EV.swapOw ([(b,3,(zds C (atI ls (es.take 0))).map iv++[])]) ([]) ((by rw[show atI ls (es.take 0)=[] from rfl,←zfV];rfl)) ?_);refine uR ?_;refine EV.loopK (ι:=Nat) [2,5,23,24] [2] (fun i=>[(25,.v (.int .i64 (i:Int)))]) (fun _=>[]) (fun i=>[(b,3,(zds C (atI ls (es.take i))).map iv++[])]) (fun i _=>i≤es.length) (fun i=>es.length-i) (0) rfl rfl ⟨rfl,trivial⟩ trivial rfl (fun _=>rfl) (qQ _) ?_;rintro i G2 hG2 hi;refine uR ?_;refine EV.cond rfl (fun hlt=>?_) (fun hlt=>?_)
 ·simp only[nN]at hlt;obtain⟨r,hri⟩:=gE hlt;have hb:=heb r (qF hri);obtain⟨R,rfl⟩:=qh hb.1;obtain⟨x,hx⟩:∃x,ls[R]?=some x:=⟨_,qA oM⟩;have hRl:R<ls.length:=oM;have hxb:=hls x (qF hx);obtain⟨k,rfl⟩:=qh hxb.1;have hk:k<C:=oM
  have hsn:atI ls (es.take (i+1))=atI ls (es.take i)++[(k:Int)]:=by
   rw[zan hri];unfold atI;rw[qn,qw,qU,qB,hx];rfl
  have hcl:(atI ls (es.take i)).count (k:Int)≤300:=qI List.count_le_length (by rw[zb8,qP];omega);have hget:=zfb (C:=C) (atI ls (es.take i)) hk;have hcn:=zjr (C:=C) (atI ls (es.take i)) hk;rw[←hsn]at hcn;have hlen:=zbo C (atI ls (es.take i));generalize zds C (atI ls (es.take i))=cs at *
  generalize (atI ls (es.take i)).count (k:Int)=m at *
  have wm:IntKind.i64.wrap ((m:Int)+1)=((m+1:Nat):Int):=zab m oM;refine uR ?_;refine vI ((he.mono hG2)) (i) (rfl) (hlt) ((by rw[qK,hri];rfl)) ?_;refine uR ?_;refine vI ((hv.mono (hG1.trans hG2))) (R) (rfl) (hRl) ((by rw[qK,hx];rfl)) ?_;refine uR ?_;refine EVL.idxB tO rfl rfl rfl rfl rfl rfl rfl rfl rfl (k) (k*1) (rfl) (hk) (rfl) ?_;refine EVL.loadOwn tO rfl rfl rfl rfl rfl rfl (0) rfl (zfz [] hget) rfl rfl ?_;refine uR ?_;rw[wm];refine EVL.idxB tO rfl rfl rfl rfl rfl rfl rfl rfl rfl (k) (k*1) (rfl) (hk) (rfl) ?_;refine EVL.storeOwn tO rfl rfl rfl rfl rfl rfl ([]) ([]) rfl rfl rfl rfl ((by rw[qJ,qV,hlen];show k*1+1≤_;omega)) (zhE [] _ (show k<cs.length by omega)) ?_;refine uR ?_;refine⟨i+1,⟨by rw[zab i (by omega)];rfl,trivial⟩,sB,trivial,sB,by rw[hcn];rfl,hlt,Hp.Le.refl _,by omega⟩
 ·simp only[nN]at hlt;obtain rfl:i=es.length:=oM;rw[qa];(first|refine EVL.publish [] [] rfl fun G3 hG3 hb3=>?_|refine EV.publish [] [] rfl fun G3 hG3 hb3=>?_);refine uR ?_;exact zou hb3 (zbo _ _)
theorem zfG {H:Hp} {v:Value} {rs:List Int} (hr:IL H v rs) (hn:rs.length≤300) {kd:Int} {sv:Value} {la:Option Addr} {lc:Nat} {ls:List Int} (hv:IL H (.slice la ls.length lc) ls) {C:Nat} (hc:C≤12) (hls:∀z,z∈ls→0≤z∧z<(C:Int)) :
  PC prog 84 #[zas kd C (.slice la ls.length lc) sv,v] H fun r H'=>IL H' r (zds C (atI ls (exL rs ls.length))):=by
 obtain⟨a,cap,rfl⟩:=SlC.val hr;refine BD func84 ntmps84 ?_;refine uR ?_;refine EVL.make tO rfl rfl rfl rfl rfl rfl rfl rfl rfl (C) (rfl) oM (by rfl) (by rfl) fun b=>?_;(first|refine EVL.swapOw ([(b,3,(zds C (atI ls (exL (rs.take 0) ls.length))).map iv++[])]) ([]) ((by rw[show atI ls (exL (rs.take 0) ls.length)=[] from rfl,←zfV];rfl)) ?_|refine EV.swapOw ([(b,3,(zds C (atI ls (exL (rs.take 0) ls.length))).map iv++[])]) ([]) ((by rw[show atI ls (exL (rs.take 0) ls.length)=[] from rfl,←zfV];rfl)) ?_);refine uR ?_;refine EV.loopK (ι:=Nat) [1,2,5] [2] (fun i=>[(6,.v (.int .i64 (i:Int)))]) (fun _=>[]) (fun i=>[(b,3,(zds C (atI ls (exL (rs.take i) ls.length))).map iv++[])]) (fun i _=>i≤rs.length) (fun i=>rs.length-i) (0) rfl rfl ⟨rfl,trivial⟩ trivial rfl (fun _=>rfl) (qQ _) ?_;rintro i G2 hG2 hi;refine uR ?_;refine EV.cond rfl (fun hlt=>?_) (fun hlt=>?_)
 ·simp only[nN]at hlt;obtain⟨r,hri⟩:=gE hlt;have hex:=zfe (n:=ls.length) hri;have hel:=zbj (rs.take i) ls.length;rw[qP]at hel;have wn:IntKind.i64.wrap ((i:Int)+1)=((i+1:Nat):Int):=zab i oM;have hr2:=hr.mono hG2;refine uR ?_;by_cases h1:r≥0
  ·obtain⟨R,rfl⟩:=qh h1;apply EV.drawn 14 kR kR;intro xv yw;(repeat refine' DD ?_);refine' vJ (hr2) (i) (rfl) (hlt) ((by rw[qK,hri];rfl)) ?_;rotate_left;(repeat refine' DD ?_);rw[qD h1];(repeat refine' DD ?_);refine' vJ (hr2) (i) (rfl) (hlt) ((by rw[qK,hri];rfl)) ?_;rotate_left;(repeat refine' DD ?_);(refine DJ.nil (fun G3 hG3 hF3=>?_);(case hS|hS2=>rfl));refine uR ?_;by_cases h2:(R:Int)<(ls.length:Int)
   ·have hp:inR ls.length (R:Int)=true:=by unfold inR;simp;omega
    rw[hp,if_pos rfl]at hex;have hRl:R<ls.length:=oM;obtain⟨x,hx⟩:=gE hRl;have hxb:=hls x (qF hx);obtain⟨k,rfl⟩:=qh hxb.1;have hk:k<C:=oM
    have hsn:atI ls (exL (rs.take (i+1)) ls.length)=atI ls (exL (rs.take i) ls.length)++[(k:Int)]:=by
     rw[hex];unfold atI;rw[qn,qw,qU,qB,hx];rfl
    have hcl:(atI ls (exL (rs.take i) ls.length)).count (k:Int)≤300:=qI List.count_le_length (by rw[zb8];omega);have hget:=zfb (C:=C) (atI ls (exL (rs.take i) ls.length)) hk;have hcn:=zjr (C:=C) (atI ls (exL (rs.take i) ls.length)) hk;rw[←hsn]at hcn;have hlen:=zbo C (atI ls (exL (rs.take i) ls.length));generalize zds C (atI ls (exL (rs.take i) ls.length))=cs at *
    generalize (atI ls (exL (rs.take i) ls.length)).count (k:Int)=m at *
    have wm:IntKind.i64.wrap ((m:Int)+1)=((m+1:Nat):Int):=zab m oM;have hr3:=hr2.mono hG3;have hv3:=hv.mono (hG2.trans hG3);rw[qD h2];refine uR ?_;apply EV.drawn 13 kR kR;intro xv yw;(repeat refine' DD ?_);refine' vJ (hr3) (i) (rfl) (hlt) ((by rw[qK,hri];rfl)) ?_;rotate_left;(repeat refine' DD ?_);refine' vJ (hv3) (R) (rfl) (hRl) ((by rw[qK,hx];rfl)) ?_;rotate_left;(repeat refine' DD ?_);refine' DJ.idxB tO rfl rfl rfl rfl rfl rfl rfl rfl rfl (k) (k*1) (rfl) (hk) (rfl) ?_;rotate_left;refine' DJ.ofVal (zaa.loadOwn tO rfl rfl rfl rfl (0) rfl (zfz [] hget) rfl rfl) rfl rfl rfl ?_;rotate_left;(repeat refine' DD ?_);refine' DJ.idxB tO rfl rfl rfl rfl rfl rfl rfl rfl rfl (k) (k*1) (rfl) (hk) (rfl) ?_;rotate_left;(refine DJ.nil (fun G4 hG4 hF4=>?_);(case hS|hS2=>rfl));rw[wm];refine EVL.storeOwn tO rfl rfl rfl rfl rfl rfl ([]) ([]) rfl rfl rfl rfl ((by rw[qJ,qV,hlen];show k*1+1≤_;omega)) (zhE [] _ (show k<cs.length by omega)) ?_;refine uR ?_;refine⟨i+1,⟨by rw[wn];rfl,trivial⟩,sB,trivial,sB,by rw[hcn];rfl,hlt,hG3.trans hG4,by omega⟩
   ·have hp:inR ls.length (R:Int)=false:=by unfold inR;simp;omega
    rw[hp,if_neg (by decide),qG]at hex;rw[qC h2];refine uR ?_;refine⟨i+1,⟨by rw[wn];rfl,trivial⟩,sB,trivial,sB,by rw[hex],hlt,hG3,by omega⟩
  ·have hp:inR ls.length r=false:=by unfold inR;simp;omega
   rw[hp,if_neg (by decide),qG]at hex;apply EV.drawn 14 kR kR;intro xv yw;(repeat refine' DD ?_);refine' vJ (hr2) (i) (rfl) (hlt) ((by rw[qK,hri];rfl)) ?_;rotate_left;(repeat refine' DD ?_);rw[qC h1];(repeat refine' DD ?_);(refine DJ.nil (fun G3 hG3 hF3=>?_);(case hS|hS2=>rfl));refine uR ?_;refine⟨i+1,⟨by rw[wn];rfl,trivial⟩,sB,trivial,sB,by rw[hex],hlt,hG3,by omega⟩
 ·simp only[nN]at hlt;obtain rfl:i=rs.length:=oM;rw[qa];(first|refine EVL.publish [] [] rfl fun G3 hG3 hb3=>?_|refine EV.publish [] [] rfl fun G3 hG3 hb3=>?_);refine uR ?_;exact zou hb3 (zbo _ _)
def topN (l:List Int):Nat→Nat
 | 0=>0
 | i+1=>if l.getD (topN l i) 0<l.getD i 0 then i else topN l i
theorem zhf (l:List Int):∀i,topN l i<i∨topN l i=0
 | 0=>.inr rfl
 | i+1=>by
  unfold topN;split
  ·exact .inl (Nat.lt_succ_self _)
  ·rcases zhf l i with h | h
   ·exact .inl oM
   ·exact .inr h
theorem zms (l:List Int):topN l 1=0:=by
 unfold topN topN;rw[if_neg (by omega)]
theorem zdA {l:List Int} {i:Nat} (h:i<l.length):l[i]?=some (l.getD i 0):=by
 rw[qB,qA h];rfl
theorem zg2 {H:Hp} {v:Value} {l:List Int} (hr:IL H v l) (hn:l.length≤300):PC prog 64 #[v] H fun r _=>r=.int .i64 (topN l l.length:Nat):=by
 obtain⟨a,cap,rfl⟩:=SlC.val hr;refine BD func64 ntmps64 ?_;refine uR ?_;refine EV.loopK (ι:=Nat) [0] [] (fun i=>[(3,.v (.int .i64 (topN l (i+1):Nat))),(4,.v (.int .i64 ((i+1:Nat):Int)))]) (fun _=>[]) (fun _=>[]) (fun i _=>i≤l.length-1) (fun i=>l.length-i) (0) rfl rfl ⟨by rw[zms];rfl,rfl,trivial⟩ trivial rfl (fun _=>rfl) (qQ _) ?_;rintro i G2 hG2 hi;refine uR ?_;refine EV.cond rfl (fun hlt=>?_) (fun hlt=>?_)
 ·simp only[nN]at hlt;have hr2:=hr.mono hG2;have ht:=zhf l (i+1);have htl:topN l (i+1)<l.length:=oM;have g1:=zdA hlt;have g2:=zdA htl;have hst:topN l (i+1+1)=if l.getD (topN l (i+1)) 0<l.getD (i+1) 0 then i+1 else topN l (i+1):=rfl
  have wn:IntKind.i64.wrap (((i+1:Nat):Int)+1)=((i+1+1:Nat):Int):=zab (i+1) oM;generalize topN l (i+1)=tp at *
  generalize l.getD tp 0=x at *
  generalize l.getD (i+1) 0=y at *
  refine uR ?_;apply EV.drawn 8 kR kR;intro xv yw;(repeat refine' DD ?_);refine' vJ (hr2) (i+1) (rfl) (hlt) ((by rw[qK,g1];rfl)) ?_;rotate_left;(repeat refine' DD ?_);refine' vJ (hr2) (tp) (rfl) (htl) ((by rw[qK,g2];rfl)) ?_;rotate_left;(repeat refine' DD ?_);(refine DJ.nil (fun G3 hG3 hF3=>?_);(case hS|hS2=>rfl));refine uR ?_;by_cases h:y>x
  ·rw[qD h];rw[if_pos h]at hst;refine uR ?_;refine⟨i+1,⟨by rw[hst];rfl,by rw[wn];rfl,trivial⟩,sB,trivial,sB,rfl,by omega,hG3,by omega⟩
  ·rw[qC h];rw[if_neg h]at hst;refine uR ?_;refine⟨i+1,⟨by rw[hst];rfl,by rw[wn];rfl,trivial⟩,sB,trivial,sB,rfl,by omega,hG3,by omega⟩
 ·simp only[nN]at hlt
  have hfin:topN l (i+1)=topN l l.length:=by
   by_cases h0:l.length=0
   ·obtain rfl:i=0:=oM;rw[zms,h0];rfl
   ·rw[show i+1=l.length by omega]
  rw[hfin];refine uR ?_;rfl
theorem zmt {H:Hp} {g v w:Value} {l:List Int} (hg:∃kd cl sl sv,g=zas kd cl sl sv) (hc:PC prog 146 #[g,v] H fun r H'=>IL H' r l) (hn:l.length≤300):PC prog 143 #[g,v] H fun r _=>r=.int .i64 (topN l l.length:Nat):=by
 obtain⟨kd,cl,sl,sv,rfl⟩:=hg;refine BD func143 ntmps143 ?_;refine uR ?_;refine vA (hc) ?_;intro r1 G1 hr hG1;obtain⟨a,cap,rfl⟩:=SlC.val hr;refine uR ?_;refine EV.loopK (ι:=Nat) [6,12,13] [] (fun i=>[(5,.v (.int .i64 (topN l i:Nat))),(14,.v (.int .i64 (i:Int)))]) (fun _=>[]) (fun _=>[]) (fun i _=>i≤l.length) (fun i=>l.length-i) (0) rfl rfl ⟨rfl,rfl,trivial⟩ trivial rfl (fun _=>rfl) (qQ _) ?_;rintro i G2 hG2 hi;refine uR ?_;refine EV.cond rfl (fun hlt=>?_) (fun hlt=>?_)
 ·simp only[nN]at hlt;have hr2:=hr.mono hG2;have ht:=zhf l i;have htl:topN l i<l.length:=oM;have g1:=zdA hlt;have g2:=zdA htl;have hst:topN l (i+1)=if l.getD (topN l i) 0<l.getD i 0 then i else topN l i:=rfl
  have wn:IntKind.i64.wrap ((i:Int)+1)=((i+1:Nat):Int):=zab i oM;generalize topN l i=tp at *
  generalize l.getD tp 0=x at *
  generalize l.getD i 0=y at *
  refine uR ?_;refine vI (hr2) (i) (rfl) (hlt) ((by rw[qK,g1];rfl)) ?_;refine uR ?_;refine vI (hr2) (tp) (rfl) (htl) ((by rw[qK,g2];rfl)) ?_;refine uR ?_;by_cases h:y>x
  ·rw[qD h];rw[if_pos h]at hst;refine uR ?_;refine⟨i+1,⟨by rw[hst];rfl,by rw[wn];rfl,trivial⟩,sB,trivial,sB,rfl,by omega,Hp.Le.refl _,by omega⟩
  ·rw[qC h];rw[if_neg h]at hst;refine uR ?_;refine⟨i+1,⟨by rw[hst];rfl,by rw[wn];rfl,trivial⟩,sB,trivial,sB,rfl,by omega,Hp.Le.refl _,by omega⟩
 ·simp only[nN]at hlt;obtain rfl:i=l.length:=oM;refine uR ?_;rfl
theorem zmQ {H:Hp} {v:Value} {va:Option Addr} {vn vc:Nat} {la:Option Addr} {lc:Nat} (h0:1≤vn) (h1:vn≤300):PC prog 146 #[zas 2 0 (.slice la 0 lc) (.slice va vn vc),v] H fun r H'=>IL H' r []:=by
 have hchk:=zeH (va:=va) (vc:=vc) (la:=la) (lc:=lc) h0 h1;refine BD func146 ntmps146 ?_;refine uR ?_;exact⟨rfl,.inl ⟨rfl,_,_,rfl⟩⟩
end
section
theorem zbJ {α:Type} (l:List α) (j:Nat) (y:α):(zaz l j y).length=l.length+1:=by rw[(zcl l j y).length_eq,qJ];rfl
theorem zt3 {α:Type} {l:List α} {j:Nat} {y:α} (h:j≤l.length):(zaz l j y)[j]?=some y:=by
 have:(l.take j).length=j:=by rw[qP];omega
 unfold zaz;rw[qL oM,this,Nat.sub_self];rfl
theorem zfF {α:Type} {l:List α} {j:Nat} {y z:α} (h:l[j]?=some z):(zaz l (j+1) y)[j]?=some z:=by
 obtain⟨hl,_⟩:=qE.1 h;unfold zaz;rw[qM (by rw[qP];omega),List.getElem?_take_of_lt oM,h]
theorem zng {α:Type} {l:List α} {j:Nat} {y z:α} (h:l[j]?=some z):(zaz l (j+1) y).set (j+1) z=zaz l j z:=by
 obtain⟨hl,hz⟩:=qE.1 h;have:(l.take (j+1)).length=j+1:=by rw[qP];omega
 unfold zaz;rw[List.set_append_right _ _ oM,this,Nat.sub_self,List.set_cons_zero,qS hl,hz,qo hl,hz];simp
theorem zgU {α:Type} {l:List α} {j:Nat} {y z:α} (h:j≤l.length):(zaz l j y).set j z=zaz l j z:=by
 have:(l.take j).length=j:=by rw[qP];omega
 unfold zaz;rw[List.set_append_right _ _ oM,this,Nat.sub_self,List.set_cons_zero]
theorem zo3 {α:Type} (l:List α) (y:α):zaz l l.length y=l++[y]:=by unfold zaz;rw[qa,List.drop_length]
theorem zo5 {α:Type} {l:List α} {j:Nat} {y z:α} (h:z∈zaz l j y):z=y∨z∈l:=by
 have:=(zcl l j y).mem_iff.1 h;rcases List.mem_append.1 this with h | h
 ·exact .inr h
 ·exact .inl (pJ.1 h)
end
section
open Go.RowKit _root_.Go.Proofs.Tryz
theorem RVs.put {H:Hp} {vs:List Value} {l:List Rat} {x:Value} {q:Rat} {j:Nat} (h:RVs H vs l) (k:RQ H x q) (hj:j≤l.length):RVs H (zaz vs j x) (zaz l j q):=by
 have h1:=h.1;refine⟨by rw[zbJ,zbJ,h1],fun i y r e1 e2=>?_⟩;have t1:(vs.take j).length=j:=by rw[qP];omega
 have t2:(l.take j).length=j:=by rw[qP];omega
 unfold zaz at e1 e2;rw[List.getElem?_append,t1]at e1;rw[List.getElem?_append,t2]at e2;by_cases hi:i<j
 ·rw[if_pos hi,List.getElem?_take_of_lt hi]at e1 e2;exact h.2 i y r e1 e2
 ·rw[if_neg hi]at e1 e2
  cases hk:i-j with
  | zero=>rw[hk]at e1 e2;simp at e1 e2;subst e1;subst e2;exact k
  | succ m =>
   rw[hk,pL,List.getElem?_drop]at e1 e2;exact h.2 _ y r e1 e2
theorem RVs.three {H:Hp} {vs:List Value} {l:List Rat} (h:RVs H vs l):∀x,x∈vs→(zac x).length=3:=fun x hx=>by
 obtain⟨i,hi,rfl⟩:=List.getElem_of_mem hx;have:=h.1;exact(h.2 i _ _ (qA hi) (qA oM)).cells.1
theorem RVs.at {H:Hp} {vs:List Value} {l:List Rat} (h:RVs H vs l) {j:Nat} {q:Rat} (hj:l[j]?=some q):∃x,vs[j]?=some x∧RQ H x q:=by
 obtain⟨hl,rfl⟩:=qE.1 hj;have h1:=h.1;exact⟨_,qA oM,h.2 j _ _ (qA oM) (qA hl)⟩
theorem zbM {vs:List Value} {j:Nat} {y:Value} (h:∀x,x∈vs→(zac x).length=3) (hy:(zac y).length=3):∀x,x∈zaz vs j y→(zac x).length=3:=fun x hx=>by
 rcases zo5 hx with rfl | hx
 ·exact hy
 ·exact h x hx
theorem ze4 {vs:List Value} (h:∀x,x∈vs→(zac x).length=3):(vs.flatMap zac).length=vs.length*3:=zfZ _ 3 vs h
theorem zoW {T:TypeId} {b cap i j:Nat} {vs:List Value} {x:Value} {sp:List Value} {k:Nat} (hv:∀x,x∈vs→(zac x).length=3) (hvl:vs.length=i) (hx:(zac x).length=3) (hk:k+sp.length=cap*3) (hk':k=(i+1)*3) (h1:i+1≤cap) (h2:cap≤maxLen) :
  zaE T 3 (.slice (some ⟨b,0,none⟩) (i+1) cap) (i+1) ((zaz vs j x).flatMap zac) [(b,T,(zaz vs j x).flatMap zac++sp)]:=by
 have hl:((zaz vs j x).flatMap zac).length=(i+1)*3:=by rw[ze4 (zbM hv hx),zbJ,hvl]
 exact⟨hl,.inr ⟨b,cap,sp,rfl,rfl,by rw[qJ,hl];omega,h1,h2⟩⟩
theorem znw {H:Hp} {v:Value} {l:List Rat} (h:RL H v l) (hl:l.length≤1000) (hb:∀q,q∈l→rq q):PC prog 140 #[v] H fun r H'=>RL H' r (zd8 l):=by
 obtain⟨a,cap,rfl⟩:=RL.val h;refine BD func140 ntmps140 ?_;refine uR ?_;refine EV.loopK (ι:=Nat × List Value × List Rat × Value × Ows) [0] [] (fun q=>[(3,.v q.2.2.2.1),(4,.v (.int .i64 (q.1:Int)))]) (fun _=>[]) (fun q=>q.2.2.2.2) (fun q G=>q.1≤l.length∧RVs G q.2.1 q.2.2.1∧q.2.2.1.Perm (l.take q.1)∧zdo q.2.2.1∧zaE 35 3 q.2.2.2.1 q.1 (q.2.1.flatMap zac) q.2.2.2.2) (fun q=>l.length-q.1) ((0,[],[],.slice none 0 0,[])) rfl rfl ⟨rfl,rfl,trivial⟩ trivial rfl (fun _=>rfl) (⟨qQ _,RVs.nil _,List.Perm.refl _,List.Pairwise.nil,zaE.nil _ _⟩) ?_;rintro⟨i,vs,acc,w,ow⟩ G1 hG1 ⟨hi,hvs,hperm,hris,hown⟩;dsimp only at hi hvs hperm hris hown;have hal:acc.length=i:=by rw[hperm.length_eq,qP];omega
 have hvl:vs.length=i:=by rw[hvs.1,hal]
 have hthr:=hvs.three;obtain⟨wa,wc,rfl⟩:=hown.val;refine uR ?_;refine EV.cond rfl (fun hlt=>?_) (fun hlt=>?_)
 ·simp only[nN]at hlt;obtain⟨q,hqi⟩:=gE hlt;obtain⟨us,x,hsl,hc,hx⟩:=(h.mono hG1).at hqi;obtain⟨xa,xl,xc,ya,yl,yc,rfl,hx1,hx2⟩:=id hx;have qq:=hb q (qF hqi);have qacc:∀y,y∈acc→rq y:=fun y hy=>hb y (List.mem_of_mem_take (hperm.mem_iff.1 hy));refine uR ?_;refine EVL.idxM tO rfl rfl rfl rfl rfl rfl rfl rfl rfl (hsl) (i) (rfl) (hlt) (hc) ?_;refine uR ?_;refine EVL.app1 tO rfl rfl rfl rfl rfl rfl rfl rfl rfl rfl rfl rfl rfl rfl rfl rfl rfl rfl rfl (fun _=>rfl) (ow) ([]) ((qG _).symm) (hown) oM fun _=>?_;intro v' ow' hown';have e:=zo3 vs (.agg #[.bool (decide (q.num<0)),.slice xa xl xc,.slice ya yl yc]);rw[hvl]at e
  have hown2:zaE 35 3 v' (i+1) ((zaz vs i (.agg #[.bool (decide (q.num<0)),.slice xa xl xc,.slice ya yl yc])).flatMap zac) ow':=by
   rw[e,List.flatMap_append];exact hown'
  clear hown' hown e;generalize hX:Value.agg #[.bool (decide (q.num<0)),.slice xa xl xc,.slice ya yl yc]=x at *
  have hx3:(zac x).length=3:=hX ▸ rfl;rcases hown2 with ⟨hk',⟨_,h0,_⟩ | ⟨b,cap',sp,rfl,rfl,hk,hc1,hc2⟩⟩
  ·omega
  rw[qJ]at hk;generalize ((zaz vs i x).flatMap zac).length=k at hk hk'
  have hperm':∀j,(zaz acc j q).Perm (l.take (i+1)):=fun j=>by
   rw[zan hqi];exact(zcl acc j q).trans (hperm.append_right [q])
  subst hX;refine uR ?_;refine EV.loopK (ι:=Nat × Value) [0,3,4] [] (fun p=>[(5,.v (.int .i64 (p.1:Int)))]) (fun _=>[]) (fun p=>[(b,35,(zaz vs p.1 p.2).flatMap zac++sp)]) (fun p _=>p.1≤i∧(zac p.2).length=3∧∀y,y∈acc.drop p.1→q≤y) (fun p=>p.1) ((i,_)) rfl rfl ⟨rfl,trivial⟩ trivial rfl (fun _=>rfl) (⟨qH _,rfl,by rw[←hal,List.drop_length];intro y hy;cases hy⟩) ?_;rintro⟨j,y⟩ G2 hG2 ⟨hj,hy,hgr⟩;dsimp only at hj hy hgr;have hsl2:=hsl.mono hG2
  cases j with
  | zero =>
   refine uR ?_;apply EV.drawn 15 kR kR;intro xv yw;(repeat refine' DD ?_);(refine DJ.nil (fun G3 hG3 hF3=>?_);(case hS|hS2=>rfl));refine uR ?_;have hj':0<(zaz vs (0) y).length:=by rw[zbJ];omega
   refine EVL.idxM tO rfl rfl rfl rfl rfl rfl rfl rfl rfl ((hsl2.mono hG3)) (i) (rfl) (hlt) (hc) ?_;refine uR ?_;refine EVL.idxB tO rfl rfl rfl rfl rfl rfl rfl rfl rfl (0) ((0)*3) (rfl) (oM) (rfl) ?_;refine EVL.storeOwn tO rfl rfl rfl rfl rfl rfl ([]) ([]) rfl rfl rfl rfl ((by rw[qJ,ze4 (zbM hthr hy),zbJ,hvl];show (0)*3+3≤_;omega)) ((zcB (zbM hthr hy) sp (.agg #[.bool (decide (q.num<0)),.slice xa xl xc,.slice ya yl yc]) hj')) ?_;rw[zgU (by omega)];refine uR ?_;refine⟨(i+1,zaz vs (0) (.agg #[.bool (decide (q.num<0)),.slice xa xl xc,.slice ya yl yc]),zaz acc (0) q,.slice (some ⟨b,0,none⟩) (i+1) cap',[(b,35,(zaz vs (0) (.agg #[.bool (decide (q.num<0)),.slice xa xl xc,.slice ya yl yc])).flatMap zac++sp)]),⟨rfl,?_,trivial⟩,sB,trivial,trivial,rfl,⟨by dsimp only;omega,(hvs.mono (hG2.trans hG3)).put ((hx.mono hG2).mono hG3) oM,hperm' _,zdH hris (by intro y hy;rw[List.take_zero]at hy;cases hy) hgr,zoW hthr hvl rfl hk hk' hc1 hc2⟩,hG2.trans hG3,by dsimp only;omega⟩;rw[zab i (by omega)];rfl
  | succ j =>
   obtain⟨r,hrj⟩:∃r,acc[j]?=some r:=⟨_,qA oM⟩;obtain⟨z,hzj,hz⟩:=(hvs.mono hG2).at hrj;obtain⟨za,zl,zc,wa',wl',wc',rfl,hz1,hz2⟩:=id hz;have qr:=qacc r (qF hrj);have hcmp:=fun G (hG:G2.Le G)=>zbB (hz.mono hG) ((hx.mono hG2).mono hG) qr qq
   have hgt:zb6 r q>0→q≤r:=fun h=>by
    unfold zb6 at h;split at h
    ·omega
    ·split at h
     ·exact Rat.le_of_lt (by assumption)
     ·omega
   have hle:¬zb6 r q>0→r≤q:=fun h=>by
    unfold zb6 at h;split at h
    ·exact Rat.le_of_lt (by assumption)
    ·split at h
     ·omega
     ·rename_i k1 k2;exact Rat.not_lt.1 k2
   generalize zb6 r q=o at *
   refine uR ?_;apply EV.drawn 15 kR kR;intro xv yw;(repeat refine' DD ?_);rw[qD (show ((j+1:Nat):Int)>0 by omega)];(repeat refine' DD ?_);refine' DJ.idxB tO rfl rfl rfl rfl rfl rfl rfl rfl rfl (j) (j*3) ((by rw[pK];omega)) (oM) (rfl) ?_;rotate_left;refine' DJ.ofVal (zaa.loadOwn tO rfl rfl rfl rfl (0) rfl (zfC (zbM hthr hy) sp (zfF hzj)) rfl rfl) rfl rfl rfl ?_;rotate_left;(repeat refine' DD ?_);refine' DJ.idxM tO rfl rfl rfl rfl rfl rfl rfl rfl rfl (hsl2) (i) (rfl) (hlt) (hc) ?_;rotate_left;(repeat refine' DD ?_);refine' vC (cO func51) (fun G hG hd=>hcmp G hG) ?_;rotate_left;(repeat refine' DD ?_);(refine DJ.nil (fun G3 hG3 hF3=>?_);(case hS|hS2=>rfl));refine uR ?_;by_cases ho:o>0
   ·rw[qD ho];refine uR ?_;refine EVL.idxB tO rfl rfl rfl rfl rfl rfl rfl rfl rfl (j) (j*3) ((by rw[pK];omega)) (oM) (rfl) ?_;refine EVL.loadOwn tO rfl rfl rfl rfl rfl rfl (0) rfl (zfC (zbM hthr hy) sp (zfF hzj)) rfl rfl ?_;refine uR ?_;refine EVL.idxB tO rfl rfl rfl rfl rfl rfl rfl rfl rfl (j+1) ((j+1)*3) (rfl) (oM) (rfl) ?_;refine EVL.storeOwn tO rfl rfl rfl rfl rfl rfl ([]) ([]) rfl rfl rfl rfl ((by rw[qJ,ze4 (zbM hthr hy),zbJ,hvl];show (j+1)*3+3≤_;omega)) ((zcB (zbM hthr hy) sp (.agg #[.bool (decide (r.num<0)),.slice za zl zc,.slice wa' wl' wc']) (by rw[zbJ];omega))) ?_;rw[zng hzj];refine uR ?_;refine⟨(j,.agg #[.bool (decide (r.num<0)),.slice za zl zc,.slice wa' wl' wc']),⟨?_,trivial⟩,sB,trivial,trivial,rfl,⟨by dsimp only;omega,rfl,?_⟩,hG3,by dsimp only;omega⟩
    ·rw[show IntKind.i64.wrap (((j+1:Nat):Int)-1)=(j:Int) by rw[pK];omega];rfl
    ·intro z' hz';dsimp only at hz';rw[zsa hrj]at hz';rcases List.mem_cons.1 hz' with rfl | hz'
     ·exact hgt ho
     ·exact hgr z' hz'
   ·rw[qC ho];refine uR ?_;have hj':j+1<(zaz vs (j+1) y).length:=by rw[zbJ];omega
    refine EVL.idxM tO rfl rfl rfl rfl rfl rfl rfl rfl rfl ((hsl2.mono hG3)) (i) (rfl) (hlt) (hc) ?_;refine uR ?_;refine EVL.idxB tO rfl rfl rfl rfl rfl rfl rfl rfl rfl (j+1) ((j+1)*3) (rfl) (oM) (rfl) ?_;refine EVL.storeOwn tO rfl rfl rfl rfl rfl rfl ([]) ([]) rfl rfl rfl rfl ((by rw[qJ,ze4 (zbM hthr hy),zbJ,hvl];show (j+1)*3+3≤_;omega)) ((zcB (zbM hthr hy) sp (.agg #[.bool (decide (q.num<0)),.slice xa xl xc,.slice ya yl yc]) hj')) ?_;rw[zgU (by omega)];refine uR ?_;refine⟨(i+1,zaz vs (j+1) (.agg #[.bool (decide (q.num<0)),.slice xa xl xc,.slice ya yl yc]),zaz acc (j+1) q,.slice (some ⟨b,0,none⟩) (i+1) cap',[(b,35,(zaz vs (j+1) (.agg #[.bool (decide (q.num<0)),.slice xa xl xc,.slice ya yl yc])).flatMap zac++sp)]),⟨rfl,?_,trivial⟩,sB,trivial,trivial,rfl,⟨by dsimp only;omega,(hvs.mono (hG2.trans hG3)).put ((hx.mono hG2).mono hG3) oM,hperm' _,zdH hris (zg5 hris hrj (hle ho)) hgr,zoW hthr hvl rfl hk hk' hc1 hc2⟩,hG2.trans hG3,by dsimp only;omega⟩;rw[zab i (by omega)];rfl
 ·simp only[nN]at hlt;obtain rfl:i=l.length:=oM;rw[qa]at hperm;(first|refine EVL.publishL [] ow [] ((qG _).symm) hown fun G2 hG2 hs=>?_|refine EV.publishL [] ow [] ((qG _).symm) hown fun G2 hG2 hs=>?_);refine uR ?_;rw[←zkc hperm hris];exact(hvs.mono hG2).rl (by rw[hal];exact hs)
theorem zr0 {vals:List Rat} {rs:List Int} {i:Nat} {R:Nat} {x:Rat} (hri:rs[i]?=some (R:Int)) (hx:vals[R]?=some x):atR vals (exL (rs.take (i+1)) vals.length)=atR vals (exL (rs.take i) vals.length)++[x]:=by
 obtain⟨hl,_⟩:=qE.1 hx;have hex:=zfe (n:=vals.length) hri;have hp:inR vals.length (R:Int)=true:=by unfold inR;simp;omega
 rw[hp,if_pos rfl]at hex;rw[hex];unfold atR;rw[qn,qw,qU,qB,hx];rfl
theorem zfJ {H:Hp} {v:Value} {rs:List Int} (hr:IL H v rs) (hn:rs.length≤300) {kd cl:Int} {sl sv:Value} {qs:List Rat} (hv:RL H sv qs) :
  PC prog 133 #[zas kd cl sl sv,v] H fun r H'=>RL H' r (atR qs (exL rs qs.length)):=by
 obtain⟨a,cap,rfl⟩:=SlC.val hr;obtain⟨va,vc,rfl⟩:=hv.val;refine BD func133 ntmps133 ?_;refine uR ?_;refine EV.loopK (ι:=Nat × List Value × Value × Ows) [1,2] [2] (fun q=>[(5,.v q.2.2.1),(6,.v (.int .i64 (q.1:Int)))]) (fun _=>[]) (fun q=>q.2.2.2) (fun q G=>q.1≤rs.length∧RVs G q.2.1 (atR qs (exL (rs.take q.1) qs.length))∧zaE 35 3 q.2.2.1 q.2.1.length (q.2.1.flatMap zac) q.2.2.2) (fun q=>rs.length-q.1) ((0,[],.slice none 0 0,[])) rfl rfl ⟨rfl,rfl,trivial⟩ trivial rfl (fun _=>rfl) (⟨qQ _,RVs.nil _,zaE.nil _ _⟩) ?_;rintro⟨i,us,w,ow⟩ G2 hG2 ⟨hi,hus,hown⟩;dsimp only at hi hus hown;obtain⟨wa,wc,rfl⟩:=hown.val;refine uR ?_;refine EV.cond rfl (fun hlt=>?_) (fun hlt=>?_)
 ·simp only[nN]at hlt;obtain⟨r,hri⟩:=gE hlt;have hex:=zfe (n:=qs.length) hri;have hel:=zbj (rs.take i) qs.length;rw[qP]at hel;have hul:us.length≤i:=by rw[hus.1,zbP];omega
  have wn:IntKind.i64.wrap ((i:Int)+1)=((i+1:Nat):Int):=zab i oM;have hr2:=hr.mono hG2;refine uR ?_;by_cases h1:r≥0
  ·obtain⟨R,rfl⟩:=qh h1;apply EV.drawn 14 kR kR;intro xv yw;(repeat refine' DD ?_);refine' vJ (hr2) (i) (rfl) (hlt) ((by rw[qK,hri];rfl)) ?_;rotate_left;(repeat refine' DD ?_);rw[qD h1];(repeat refine' DD ?_);refine' vJ (hr2) (i) (rfl) (hlt) ((by rw[qK,hri];rfl)) ?_;rotate_left;(repeat refine' DD ?_);(refine DJ.nil (fun G3 hG3 hF3=>?_);(case hS|hS2=>rfl));refine uR ?_;by_cases h2:(R:Int)<(qs.length:Int)
   ·have hRl:R<qs.length:=oM;obtain⟨x,hx⟩:=gE hRl;have hsn:=zr0 hri hx;have hr3:=hr2.mono hG3;obtain⟨vs,y,hs,hc,hy⟩:=(hv.mono (hG2.trans hG3)).at hx;obtain⟨xa,xl,xc,ya,yl,yc,rfl,hx1,hx2⟩:=id hy;rw[qD h2];refine uR ?_;apply EV.drawn 10 kR kR;intro xv yw;(repeat refine' DD ?_);refine' vJ (hr3) (i) (rfl) (hlt) ((by rw[qK,hri];rfl)) ?_;rotate_left;(repeat refine' DD ?_);refine' DJ.idxM tO rfl rfl rfl rfl rfl rfl rfl rfl rfl (hs) (R) (rfl) (hRl) (hc) ?_;rotate_left;(repeat refine' DD ?_);(refine' DJ.lit tO rfl rfl rfl rfl rfl rfl rfl rfl rfl rfl rfl rfl ?_;rotate_left);(refine DJ.nil (fun G4 hG4 hF4=>?_);(case hS|hS2=>rfl));refine EVL.append tO rfl rfl rfl rfl rfl rfl rfl rfl rfl rfl rfl rfl [] ow [] (qG _).symm hown (zb7.ro hF4.1 oM) rfl oM ?_;intro v' ow' hown';refine uR ?_;refine⟨(i+1,us++[_],v',ow'),⟨rfl,by rw[wn];rfl,trivial⟩,sB,trivial,sB,qG _,⟨hlt,by dsimp only;rw[hsn];exact(hus.mono (hG3.trans hG4)).snoc (hy.mono hG4),by dsimp only;rw[qJ,List.flatMap_append];exact hown'⟩,hG3.trans hG4,by dsimp only;omega⟩
   ·have hp:inR qs.length (R:Int)=false:=by unfold inR;simp;omega
    rw[hp,if_neg (by decide),qG]at hex;rw[qC h2];refine uR ?_;refine⟨(i+1,us,_,ow),⟨rfl,by rw[wn];rfl,trivial⟩,sB,trivial,sB,rfl,⟨hlt,by dsimp only;rw[hex];exact hus.mono hG3,hown⟩,hG3,by dsimp only;omega⟩
  ·have hp:inR qs.length r=false:=by unfold inR;simp;omega
   rw[hp,if_neg (by decide),qG]at hex;apply EV.drawn 14 kR kR;intro xv yw;(repeat refine' DD ?_);refine' vJ (hr2) (i) (rfl) (hlt) ((by rw[qK,hri];rfl)) ?_;rotate_left;(repeat refine' DD ?_);rw[qC h1];(repeat refine' DD ?_);(refine DJ.nil (fun G3 hG3 hF3=>?_);(case hS|hS2=>rfl));refine uR ?_;refine⟨(i+1,us,_,ow),⟨rfl,by rw[wn];rfl,trivial⟩,sB,trivial,sB,rfl,⟨hlt,by dsimp only;rw[hex];exact hus.mono hG3,hown⟩,hG3,by dsimp only;omega⟩
 ·simp only[nN]at hlt;obtain rfl:i=rs.length:=oM;rw[qa]at hus;(first|refine EVL.publishL [] ow [] ((qG _).symm) hown fun G3 hG3 hs3=>?_|refine EV.publishL [] ow [] ((qG _).symm) hown fun G3 hG3 hs3=>?_);have hus3:=hus.mono hG3;refine uR ?_;show RL G3 (.slice wa us.length wc) _;rw[hus3.1]at hs3 ⊢;exact hus3.rl hs3
theorem zgY {H:Hp} {v:Value} {rs:List Int} (hr:IL H v rs) (hn:rs.length≤300) {kd cl:Int} {sl sv:Value} {qs:List Rat} (hv:RL H sv qs) (hb:∀q,q∈qs→ht q≤100) :
  PC prog 85 #[zas kd cl sl sv,v] H fun r H'=>RQ H' r (zb5 (atR qs (exL rs qs.length))):=by
 have hvals:=zfJ (kd:=kd) (cl:=cl) (sl:=sl) hr hn hv;have hel:=zbj rs qs.length;have hlb:=fun q hq=>hb q (zef (zcH (rs:=rs) (n:=qs.length)) q hq);have hll:(atR qs (exL rs qs.length)).length≤300:=by rw[zbP];omega
 generalize atR qs (exL rs qs.length)=L at *
 obtain⟨a,cap,rfl⟩:=SlC.val hr;obtain⟨va,vc,rfl⟩:=hv.val;refine BD func85 ntmps85 ?_;refine uR ?_;refine vA (hvals) ?_;intro r1 G1 hL hG1;obtain⟨la,lc,rfl⟩:=hL.val;refine uR ?_;by_cases h0:L.length=0
 ·obtain rfl:=qz.1 h0;refine uR ?_;refine vA (za9 0 (by decide) (by decide)) ?_;intro r2 G2 hq hG2;obtain⟨xa,xl,xc,ya,yl,yc,rfl,hx1,hx2⟩:=id hq;refine uR ?_;rw[zeR];exact hq
 ·rw[show (((L.length:Nat):Int) == 0)=false from pP.2 (by omega)];refine uR ?_;refine EVL.call rfl rfl rfl rfl rfl (zns hL oM h0 (fun q hq=>qI (hlb q hq) oM)) ?_;intro r2 G2 hq hG2;obtain⟨xa,xl,xc,ya,yl,yc,rfl,hx1,hx2⟩:=id hq;refine uR ?_;exact hq
theorem zoT {a b:Rat} (h:a≤b):zb6 a b≤0:=by
 unfold zb6;split
 ·omega
 ·split
  ·rename_i k;exact absurd k (Rat.not_lt.2 h)
  ·omega
theorem zlc {l:List Int} (n:Nat):∀q,q∈zj3 l n→ht q≤5:=fun q hq=>by
 obtain⟨i,hi,rfl⟩:=List.mem_map.1 hq;split
 ·exact zgE _
 ·rw[zcr];omega
theorem zmc {l:List Int} {n w:Nat}:∀x,x∈zfS l n w→x.length=w∧∀q,q∈x→ht q≤5:=fun x hx=>by
 obtain⟨i,_,rfl⟩:=List.mem_map.1 hx;exact⟨zeY _ _,zlc w⟩
theorem zgm {X:List (List Rat)} {B:Nat} (h:∀x,x∈X→∀q,q∈x→ht q≤B) (c r:Int) (hB:1≤B:=by omega):ht (zbv X c r)≤B:=by
 unfold zbv;rw[qB,qB]
 cases e:X[r.toNat]? with
 | none=>simp;rw[zcr];omega
 | some x =>
  rw[Option.getD_some]
  cases e2:x[c.toNat]? with
  | none=>rw[Option.getD_none,zcr];omega
  | some q=>exact h x (qF e) q (qF e2)
theorem zua {X:List (List Rat)} (h:∀x,x∈X→∀q,q∈x→ht q≤5) (c:Int) (m:List Int) (j:Nat):ht (zeA (zbv X c) m j)≤100:=by
 have h1:=zgm h c (m.getD j 0);have h2:=zgm h c (m.getD (j+1) 0);have h3:=zcQ (zbv X c (m.getD j 0)) (zbv X c (m.getD (j+1) 0))
 have h4:ht ((2:Int):Rat)≤10:=by
  have:=zbz 2;have h2:bl (2:Int).natAbs≤5:=zaZ (by decide);omega
 have h5:=zeO (zbv X c (m.getD j 0)+zbv X c (m.getD (j+1) 0)) ((2:Int):Rat);rw[show ((2:Int):Rat)=2 from rfl]at h4 h5;unfold zeA;omega
theorem zoD {X:List (List Rat)} (h:∀x,x∈X→∀q,q∈x→ht q≤60) (c:Int) (m:List Int) (j:Nat):ht (zeA (zbv X c) m j)≤200:=by
 have h1:=zgm h c (m.getD j 0);have h2:=zgm h c (m.getD (j+1) 0);have h3:=zcQ (zbv X c (m.getD j 0)) (zbv X c (m.getD (j+1) 0))
 have h4:ht ((2:Int):Rat)≤10:=by
  have:=zbz 2;have h2:bl (2:Int).natAbs≤5:=zaZ (by decide);omega
 have h5:=zeO (zbv X c (m.getD j 0)+zbv X c (m.getD (j+1) 0)) ((2:Int):Rat);rw[show ((2:Int):Rat)=2 from rfl]at h4 h5;unfold zeA;omega
theorem zr9 (L:List Rat):zaJ (zhr L L)=zaJ (zdx 0 L):=by
 congr 1;unfold zhr zdx
 induction L with
 | nil=>rfl
 | cons x L ih =>
  rw[List.zipWith_cons_cons,qw,ih];congr 1;grind
theorem zmO (L:List Rat):zaJ (zhr L L)-zaJ L*zaJ L / ((L.length:Int):Rat)=zaJ (zdx (zb5 L) L):=by
 have:=zuo L;rw[zr9];grind
theorem zla {H:Hp} {v:Value} {rs:List Int} (hr:IL H v rs) (hn:rs.length≤300) {cl:Int} {sl sv:Value} {qs:List Rat} (hv:RL H sv qs) (hb:∀q,q∈qs→ht q≤100) :
  PC prog 83 #[zas 2 cl sl sv,v] H fun r H'=>RQ H' r (zhF qs (exL rs qs.length)):=by
 have hvals:=zfJ (kd:=2) (cl:=cl) (sl:=sl) hr hn hv;have hel:=zbj rs qs.length;have hlb:=fun q hq=>hb q (zef (zcH (rs:=rs) (n:=qs.length)) q hq);have hll:(atR qs (exL rs qs.length)).length≤300:=by rw[zbP];omega
 show PC prog 83 #[zas 2 cl sl sv,v] H fun r H'=>RQ H' r (zaJ (zdx (zb5 (atR qs (exL rs qs.length))) (atR qs (exL rs qs.length))));generalize atR qs (exL rs qs.length)=L at *
 have hform:=zmO L;have hS:=zdB 100 L hlb;have hD:=zdB 200 (zhr L L) (zkQ hlb hlb);have hDl:(zhr L L).length≤300:=by unfold zhr;rw[List.length_zipWith];omega
 have hM:=zfD (zaJ L) (zaJ L);have hN:=zbz (L.length:Int);have hN2:bl (L.length:Int).natAbs≤20:=zaZ oM;have hV:=zeO (zaJ L*zaJ L) ((L.length:Int):Rat);have r1:rq (zaJ L):=by unfold rq;omega
 have r2:rq (zaJ L*zaJ L):=by unfold rq;omega
 have r3:rq ((L.length:Int):Rat):=by unfold rq;omega
 have r4:rq (zaJ L*zaJ L / ((L.length:Int):Rat)):=by unfold rq;omega
 have r5:rq (zaJ (zhr L L)):=by unfold rq;omega
 rw[←hform];obtain⟨a,cap,rfl⟩:=SlC.val hr;obtain⟨va,vc,rfl⟩:=hv.val;refine BD func83 ntmps83 ?_;refine uR ?_;refine vA (hvals) ?_;intro r1' G1 hL hG1;obtain⟨la,lc,rfl⟩:=hL.val;refine uR ?_;by_cases h0:L.length=0
 ·obtain rfl:=qz.1 h0;refine uR ?_;refine vA (za9 0 (by decide) (by decide)) ?_;intro r2 G2 hq hG2;obtain⟨xa,xl,xc,ya,yl,yc,rfl,hx1,hx2⟩:=id hq;refine uR ?_;have e:zaJ (zhr [] [])-zaJ []*zaJ [] / ((([]:List Rat).length:Int):Rat)=((0:Int):Rat):=by decide +kernel
  rw[e];exact hq
 ·have hnum:(((L.length:Nat):Int):Rat).num≠0:=by rw[Rat.num_intCast];omega
  rw[show (((L.length:Nat):Int) == 0)=false from pP.2 (by omega)];refine uR ?_;refine EVL.call rfl rfl rfl rfl rfl (zg3 hL oM (fun q hq=>qI (hlb q hq) oM)) ?_;intro rt G2 hT hG2;obtain⟨xa,xl,xc,ya,yl,yc,rfl,hx1,hx2⟩:=id hT;have hL2:=hL.mono hG2;refine uR ?_;apply EV.drawn 11 kR kR;intro xv yw;(repeat refine' DD ?_);refine' vB (cO func135) (fun G hG hd=>znr (hL2.mono hG) (hL2.mono hG) rfl oM (fun q hq=>qI (hlb q hq) oM) (fun q hq=>qI (hlb q hq) oM)) (fun _ _ _ h k=>RQ.mono h k) ?_;rotate_left;(repeat refine' DD ?_);refine' vB (cO func137) (fun G hG hd=>zhX (hT.mono hG) (hT.mono hG) r1 r1) (fun _ _ _ h k=>RQ.mono h k) ?_;rotate_left;(repeat refine' DD ?_);refine' vB (cO func29) (fun G hG hd=>za9 (L.length:Int) oM oM) (fun _ _ _ h k=>RQ.mono h k) ?_;rotate_left;refine' vB (cO func136) (fun G hG hd=>zfn (hd.tail.head kR) (hd.head kR) r2 r3 hnum) (fun _ _ _ h k=>RQ.mono h k) ?_;rotate_left;refine' vB (cO func88) (fun G hG hd=>zg1 (hd.tail.tail.tail.head kR) (hd.head kR) r5 r4) (fun _ _ _ h k=>RQ.mono h k) ?_;rotate_left;(refine DJ.nil (fun G3 hG3 hF3=>?_);(case hS|hS2=>rfl));have hfin:=hF3.1;obtain⟨xa,xl,xc,ya,yl,yc,e,hx1,hx2⟩:=id hfin;rw[e]at hfin ⊢;refine uR ?_;exact hfin
theorem ziX (C:Nat):∀l:List Int,(∀z,z∈l→0≤z∧z<(C:Int))→sqL l=((List.range C).map fun (k:Nat)=>l.count (k:Int)*l.count (k:Int)).sum∧l.length=((List.range C).map fun (k:Nat)=>l.count (k:Int)).sum
 | [],_=>by
  constructor
  ·show 0=_
   induction C with
   | zero=>rfl
   | succ n ih=>rw[List.range_succ,qn,List.sum_append,←ih (by simp)];simp
  ·show 0=_
   induction C with
   | zero=>rfl
   | succ n ih=>rw[List.range_succ,qn,List.sum_append,←ih (by simp)];simp
 | x::l,h=>by
  have hx:=h x (qf ..);obtain⟨j,rfl⟩:=qh hx.1;obtain⟨ih1,ih2⟩:=ziX C l (fun z hz=>h z (qk _ hz));constructor
  ·have hs:=ziY (fun k=>l.count (k:Int)*l.count (k:Int)) (fun k=>2*l.count (k:Int)+1) j C;rw[if_pos (by omega)]at hs;rw[ziV,ih1,Nat.add_assoc,←hs];congr 1;refine List.map_congr_left fun k _=>?_;rw[List.count_cons];by_cases e:k=j
   ·subst e;rw[if_pos rfl];simp;grind
   ·have e2:¬((j:Int) == (k:Int))=true:=by simp;omega
    rw[if_neg e,if_neg e2];simp
  ·have hs:=ziY (fun k=>l.count (k:Int)) (fun k=>1) j C;rw[if_pos (by omega)]at hs;rw[qR,ih2,←hs];congr 1;refine List.map_congr_left fun k _=>?_;rw[List.count_cons];by_cases e:k=j
   ·subst e;rw[if_pos rfl];simp
   ·have e2:¬((j:Int) == (k:Int))=true:=by simp;omega
    rw[if_neg e,if_neg e2]
def nS (l:List Int) (i:Nat):Nat:=((List.range i).map fun (k:Nat)=>l.count (k:Int)).sum
def sS (l:List Int) (i:Nat):Nat:=((List.range i).map fun (k:Nat)=>l.count (k:Int)*l.count (k:Int)).sum
theorem zoK (l:List Int) (i:Nat):nS l (i+1)=nS l i+l.count (i:Int):=by unfold nS;rw[List.range_succ,qn,List.sum_append];simp
theorem zpo (l:List Int) (i:Nat):sS l (i+1)=sS l i+l.count (i:Int)*l.count (i:Int):=by unfold sS;rw[List.range_succ,qn,List.sum_append];simp
theorem ztC (l:List Int) (B:Nat) (h:∀z:Int,l.count z≤B):∀i,nS l i≤i*B∧sS l i≤i*(B*B)
 | 0=>⟨Nat.le_of_eq (by simp[nS]),Nat.le_of_eq (by simp[sS])⟩
 | i+1=>by
  obtain⟨h1,h2⟩:=ztC l B h i;rw[zoK,zpo,Nat.succ_mul,Nat.succ_mul];exact⟨Nat.add_le_add h1 (h _),Nat.add_le_add h2 (Nat.mul_le_mul (h _) (h _))⟩
theorem zk9 {H:Hp} {v:Value} {rs:List Int} (hr:IL H v rs) (hn:rs.length≤300) {sv:Value} {la:Option Addr} {lc:Nat} {ls:List Int} (hv:IL H (.slice la ls.length lc) ls) {C:Nat} (hc:C≤12) (hc1:1≤C) (hls:∀z,z∈ls→0≤z∧z<(C:Int)) :
  PC prog 83 #[zas 1 C (.slice la ls.length lc) sv,v] H fun r H'=>RQ H' r (zgr ls (exL rs ls.length)):=by
 have hcnt:=zfG (kd:=1) (sv:=sv) hr hn hv hc hls;have hel:=zbj rs ls.length;have hll:(atI ls (exL rs ls.length)).length≤300:=by rw[zb8];omega
 have hlb:∀z,z∈atI ls (exL rs ls.length)→0≤z∧z<(C:Int):=fun z hz=>by
  unfold atI at hz;obtain⟨r,_,rfl⟩:=List.mem_map.1 hz;rw[qB]
  cases e:ls[r.toNat]? with
  | none=>exact⟨by decide,by simp;omega⟩
  | some x=>exact hls x (qF e)
 show PC prog 83 #[zas 1 C (.slice la ls.length lc) sv,v] H fun r H'=>RQ H' r (zfP (atI ls (exL rs ls.length)));generalize atI ls (exL rs ls.length)=L at *
 obtain⟨e1,e2⟩:=ziX C L hlb;have hcl:=zbo C L;have hb:=ztC L 300 (fun z=>qI List.count_le_length hll);have hcount:∀z:Int,L.count z≤300:=fun z=>qI List.count_le_length hll;have e1':sqL L=sS L C:=e1;have e2':L.length=nS L C:=e2;obtain⟨a,cap,rfl⟩:=SlC.val hr;refine BD func83 ntmps83 ?_;refine uR ?_;refine vA (hcnt) ?_;intro r1 G1 hL hG1;obtain⟨ca,cc,rfl⟩:=SlC.val hL
 have hLC:SlC G1 (.slice ca C cc) C 1 ((zds C L).map iv):=by
  have hL0:SlC G1 (.slice ca (zds C L).length cc) (zds C L).length 1 ((zds C L).map iv):=hL;rw[hcl]at hL0;exact hL0
 rw[hcl];refine uR ?_;refine EV.loopK (ι:=Nat) [4,7] [4] (fun i=>[(8,.v (.int .i64 (nS L i:Nat))),(9,.v (.int .i64 (sS L i:Nat))),(10,.v (.int .i64 (i:Int)))]) (fun _=>[]) (fun _=>[]) (fun i _=>i≤C) (fun i=>C-i) (0) rfl rfl ⟨rfl,rfl,rfl,trivial⟩ trivial rfl (fun _=>rfl) (qQ _) ?_;rintro i G2 hG2 hi;refine uR ?_;refine EV.cond rfl (fun hlt=>?_) (fun hlt=>?_)
 ·simp only[nN]at hlt;have hL2:=hLC.mono hG2;have hget:=zfb L hlt;have hil:i<C:=hlt;have b1:=hb i;have b2:=hcount (i:Int);have b3:i*300≤12*300:=Nat.mul_le_mul oM (qH _);have b4:i*(300*300)≤12*(300*300):=Nat.mul_le_mul oM (qH _);have b5:L.count (i:Int)*L.count (i:Int)≤300*300:=Nat.mul_le_mul b2 b2;have s1:=zoK L i;have s2:=zpo L i;have w1:IntKind.i64.wrap ((nS L i:Int)+(L.count (i:Int):Int))=(nS L (i+1):Int):=by rw[s1,pK];omega
  have w2:IntKind.i64.wrap ((L.count (i:Int):Int)*(L.count (i:Int):Int))=((L.count (i:Int)*L.count (i:Int):Nat):Int):=by
   rw[←Int.natCast_mul];generalize L.count (i:Int)*L.count (i:Int)=z at *;rw[pK];omega
  have w3:IntKind.i64.wrap ((sS L i:Int)+((L.count (i:Int)*L.count (i:Int):Nat):Int))=(sS L (i+1):Int):=by rw[s2];generalize L.count (i:Int)*L.count (i:Int)=z at *;rw[pK];omega
  have wn:IntKind.i64.wrap ((i:Int)+1)=((i+1:Nat):Int):=zab i oM;refine uR ?_;refine vI (hL2) (i) (rfl) (hil) ((by rw[qK,hget];rfl)) ?_;refine uR ?_;apply EV.drawn 11 kR kR;intro xv yw;(repeat refine' DD ?_);refine' vJ (hL2) (i) (rfl) (hil) ((by rw[qK,hget];rfl)) ?_;rotate_left;(repeat refine' DD ?_);refine' vJ (hL2) (i) (rfl) (hil) ((by rw[qK,hget];rfl)) ?_;rotate_left;(repeat refine' DD ?_);(refine DJ.nil (fun G3 hG3 hF3=>?_);(case hS|hS2=>rfl));refine uR ?_;refine⟨i+1,⟨by rw[←w1];rfl,by rw[←w3,←w2];rfl,by rw[wn];rfl,trivial⟩,sB,trivial,sB,rfl,hlt,hG3,by omega⟩
 ·simp only[nN]at hlt;obtain rfl:i=C:=oM;rw[←e1',←e2'];have hsq:=zh5 L;have hsq2:L.length*L.length≤300*300:=Nat.mul_le_mul hll hll;refine uR ?_;by_cases h0:L.length=0
  ·obtain rfl:=qz.1 h0;refine uR ?_;refine vA (za9 0 (by decide) (by decide)) ?_;intro r2 G3 hq hG3;obtain⟨xa,xl,xc,ya,yl,yc,rfl,hx1,hx2⟩:=id hq;refine uR ?_;rw[show zfP []=((0:Int):Rat) by decide +kernel];exact hq
  ·rw[show (((L.length:Nat):Int) == 0)=false from pP.2 (by omega)];have hov:=fun G:Hp=>zhZ (H:=G) (sqL L:Int) (L.length:Int) oM oM oM oM oM;have hform:((L.length:Int):Rat)-Rat.divInt (sqL L:Int) (L.length:Int)=zfP L:=by unfold zfP;rw[Rat.divInt_eq_div]
   have r1:rq ((L.length:Int):Rat):=by
    have:=zbz (L.length:Int);have h2:bl (L.length:Int).natAbs≤20:=zaZ oM;unfold rq;omega
   have r2:rq (Rat.divInt (sqL L:Int) (L.length:Int)):=by
    rw[Rat.divInt_eq_div];have h1:=zbz (L.length:Int);have h2:bl (L.length:Int).natAbs≤20:=zaZ oM;have h3:=zbz (sqL L:Int);have h4:bl (sqL L:Int).natAbs≤20:=zaZ oM;have h5:=zeO ((sqL L:Int):Rat) ((L.length:Int):Rat);unfold rq;omega
   refine uR ?_;refine EVL.call rfl rfl rfl rfl rfl (za9 (L.length:Int) oM oM) ?_;intro q1 G3 hq1 hG3;refine uR ?_;refine vA (hov _) ?_;intro q2 G4 hq2 hG4;refine uR ?_;refine vA (zg1 (hq1.mono hG4) hq2 r1 r2) ?_;intro q3 G5 hq3 hG5;obtain⟨xa,xl,xc,ya,yl,yc,rfl,hx1,hx2⟩:=id hq3;refine uR ?_;rw[←hform];exact hq3
theorem zmp {H:Hp} {vx:Value} {X:List (List Rat)} (hX:RLL H vx X) (r col:Int):PC prog 93 #[vx,.int .i64 r,.int .i64 col] H fun u _=>u=.bool (inR X.length r && zcI X col r):=by
 obtain⟨xa,xc,rfl⟩:=hX.val;obtain⟨vs,hvs,hs⟩:=hX;refine BD func93 ntmps93 ?_;refine uR ?_;by_cases h1:r≥0
 ·obtain⟨R,rfl⟩:=qh h1;rw[qD h1];refine uR ?_;by_cases h2:(R:Int)<(X.length:Int)
  ·rw[qD h2];have hi:inR X.length (R:Int)=true:=by unfold inR;simp;omega
   obtain⟨x,hx⟩:∃x,X[R]?=some x:=⟨_,qA oM⟩;obtain⟨a1,e1,hu1,_⟩:=hvs.at hx;have hRl:R<X.length:=oM
   have hhas:zcI X col (R:Int)=(decide (0≤col) && decide (col<(x.length:Int))):=by
    unfold zcI;rw[qU,qB,hx];rfl
   rw[hi,hhas];refine uR ?_;by_cases h3:col≥0
   ·rw[qD h3];refine uR ?_;refine vI (hs) (R) (rfl) (hRl) (hu1) ?_;refine uR ?_;rfl
   ·rw[qC h3];refine uR ?_;rfl
  ·rw[qC h2];have hi:inR X.length (R:Int)=false:=by unfold inR;simp;omega
   rw[hi];refine uR ?_;rfl
 ·rw[qC h1];have hi:inR X.length r=false:=by unfold inR;simp;omega
  rw[hi];refine uR ?_;rfl
theorem zlU {X:List (List Rat)} {col:Int} {t:Rat} {rs:List Int} {i:Nat} {r:Int} (hri:rs[i]?=some r) (p:Int→Bool) :
  (exL (rs.take (i+1)) X.length).filter p=(exL (rs.take i) X.length).filter p++if inR X.length r && p r then [r] else []:=by
 rw[zfe hri,List.filter_append];cases inR X.length r <;> cases hp:p r <;> simp[hp]
theorem zg0 {H:Hp} {vx vr vt:Value} {X:List (List Rat)} {rs:List Int} {col:Int} {t:Rat} (hX:RLL H vx X) (hr:IL H vr rs) (hn:rs.length≤100000) (hq:∀x,x∈X→∀q,q∈x→rq q) (hvt:RQ H vt t) (ht:rq t) :
  PC prog 52 #[vx,vr,.int .i64 col,vt] H fun r H'=>∃u w,r=.tuple #[u,w]∧IL H' u (zbe X col t (exL rs X.length))∧IL H' w (zay X col t (exL rs X.length)):=by
 obtain⟨a,cap,rfl⟩:=SlC.val hr;obtain⟨xa,xc,rfl⟩:=hX.val;obtain⟨ta,tl,tc,tb,tm,td,rfl,ht1,ht2⟩:=id hvt;refine BD func52 ntmps52 ?_;refine uR ?_;refine EV.loopK (ι:=Nat × Value × Value × Ows × Ows) [0,1,2,7] [7] (fun q=>[(10,.v q.2.1),(11,.v q.2.2.1),(12,.v (.int .i64 (q.1:Int)))]) (fun _=>[]) (fun q=>q.2.2.2.1++q.2.2.2.2) (fun q _=>q.1≤rs.length∧zaE 3 1 q.2.1 (zbe X col t (exL (rs.take q.1) X.length)).length ((zbe X col t (exL (rs.take q.1) X.length)).map iv) q.2.2.2.1∧zaE 3 1 q.2.2.1 (zay X col t (exL (rs.take q.1) X.length)).length ((zay X col t (exL (rs.take q.1) X.length)).map iv) q.2.2.2.2) (fun q=>rs.length-q.1) ((0,.slice none 0 0,.slice none 0 0,[],[])) rfl rfl ⟨rfl,rfl,rfl,trivial⟩ trivial rfl (fun _=>rfl) (⟨qQ _,zaE.nil _ _,zaE.nil _ _⟩) ?_;rintro⟨i,w1,w2,ow1,ow2⟩ G1 hG1 ⟨hi,hown1,hown2⟩;dsimp only at hi hown1 hown2;obtain⟨wa1,wc1,rfl⟩:=hown1.val;obtain⟨wa2,wc2,rfl⟩:=hown2.val;refine uR ?_;refine EV.cond rfl (fun hlt=>?_) (fun hlt=>?_)
 ·simp only[nN]at hlt;obtain⟨r,hri⟩:=gE hlt;have hlo:=zlU (X:=X) (col:=col) (t:=t) hri fun r=>zcI X col r && decide (zbv X col r≤t);have hhi:=zlU (X:=X) (col:=col) (t:=t) hri fun r=>zcI X col r && !decide (zbv X col r≤t);have hel:=zbj (rs.take i) X.length;rw[qP]at hel;have hl1:(zbe X col t (exL (rs.take i) X.length)).length≤i:=qI (List.length_filter_le _ _) oM;have hl2:(zay X col t (exL (rs.take i) X.length)).length≤i:=qI (List.length_filter_le _ _) oM;have wn:IntKind.i64.wrap ((i:Int)+1)=((i+1:Nat):Int):=zab i oM;have hr1:=hr.mono hG1;have hX1:=hX.mono hG1;have hth:=zmp hX1 r col;refine uR ?_;refine vI (hr1) (i) (rfl) (hlt) ((by rw[qK,hri];rfl)) ?_
  repeat (first|refine RUN ?_|refine CV (hth) ?_|refine CE (hth) ?_)
  cases hb:inR X.length r && zcI X col r with
  | false =>
   have e1:(inR X.length r && (zcI X col r && decide (zbv X col r≤t)))=false:=by rw[←Bool.and_assoc,hb];rfl
   have e2:(inR X.length r && (zcI X col r && !decide (zbv X col r≤t)))=false:=by rw[←Bool.and_assoc,hb];rfl
   rw[e1,if_neg (by decide),qG]at hlo;rw[e2,if_neg (by decide),qG]at hhi;refine uR ?_;refine⟨(i+1,_,_,ow1,ow2),⟨rfl,rfl,by rw[wn];rfl,trivial⟩,sB,trivial,sB,rfl,⟨hlt,by unfold zbe;rw[hlo];exact hown1,by unfold zay;rw[hhi];exact hown2⟩,Hp.Le.refl _,by dsimp only;omega⟩
  | true =>
   have hb2:inR X.length r=true∧zcI X col r=true:=by simpa using hb
   have hr0:0≤r∧r<(X.length:Int):=by have:=hb2.1;unfold inR at this;simpa using this
   obtain⟨R,C,x,q,rfl,rfl,hx,hqx⟩:=zel hr0.1 hr0.2 hb2.2;have hk:=zeh (X:=X) rfl rfl hx hqx;rw[hb2.1,hb2.2,Bool.true_and,Bool.true_and,hk]at hlo hhi;have hRl:R<X.length:=oM;have hCl:=(qE.1 hqx).1;obtain⟨vs,hvs,hs⟩:=hX1;obtain⟨a2,c2,hu,hRL⟩:=hvs.at hx;obtain⟨us,y,hs2,hc2,hy⟩:=hRL.at hqx;obtain⟨xa',xl',xc',ya',yl',yc',rfl,hx1,hx2⟩:=id hy;have hqq:=hq x (qF hx) q (qF hqx);have hvt1:=hvt.mono hG1;refine uR ?_;apply EV.drawn 11 kR kR;intro xv yw;(repeat refine' DD ?_);refine' vJ (hr1) (i) (rfl) (hlt) ((by rw[qK,hri];rfl)) ?_;rotate_left;(repeat refine' DD ?_);refine' vJ (hs) (R) (rfl) (hRl) (hu) ?_;rotate_left;(repeat refine' DD ?_);refine' DJ.idxM tO rfl rfl rfl rfl rfl rfl rfl rfl rfl (hs2) (C) (rfl) (hCl) (hc2) ?_;rotate_left;(repeat refine' DD ?_);(refine DJ.nil (fun G2 hG2 hF2=>?_);(case hS|hS2=>rfl));refine vA (zbB (hy.mono hG2) (hvt1.mono hG2) hqq ht) ?_;rintro rc G3 rfl hG3;have hr3:=hr1.mono (hG2.trans hG3);refine uR ?_;by_cases hle:q≤t
   ·have ho:zb6 q t≤0:=zk4 hle;rw[qD hle,if_pos rfl]at hlo;rw[qD hle,if_neg (by decide),qG]at hhi;rw[qD ho];refine uR ?_;refine vI (hr3) (i) (rfl) (hlt) ((by rw[qK,hri];rfl)) ?_;refine uR ?_;refine EVL.app1 tO rfl rfl rfl rfl rfl rfl rfl rfl rfl rfl rfl rfl rfl rfl rfl rfl rfl rfl rfl (fun _=>rfl) (ow1) (ow2) (rfl) (hown1) oM fun _=>?_;intro v' ow' hown';refine uR ?_;refine⟨(i+1,v',_,ow',ow2),⟨rfl,rfl,by rw[wn];rfl,trivial⟩,sB,trivial,sB,rfl,⟨hlt,by unfold zbe;rw[hlo];exact hown'.il,by unfold zay;rw[hhi];exact hown2⟩,hG2.trans hG3,by dsimp only;omega⟩
   ·have ho:¬zb6 q t≤0:=by
     have:=Rat.not_le.1 hle;unfold zb6;rw[if_neg (fun k=>absurd (Rat.le_of_lt k) (Rat.not_le.2 this)),if_pos this];omega
    rw[qC hle,if_neg (by decide),qG]at hlo;rw[qC hle,Bool.not_false,if_pos rfl]at hhi;rw[qC ho];refine uR ?_;refine vI (hr3) (i) (rfl) (hlt) ((by rw[qK,hri];rfl)) ?_;refine uR ?_;refine EVL.swapOw ow1 ow2 rfl ?_;refine EVL.app1 tO rfl rfl rfl rfl rfl rfl rfl rfl rfl rfl rfl rfl rfl rfl rfl rfl rfl rfl rfl (fun _=>rfl) (ow2) (ow1) (rfl) (hown2) oM fun _=>?_;intro v' ow' hown';refine EVL.swapOw ow' ow1 rfl ?_;refine uR ?_;refine⟨(i+1,_,v',ow1,ow'),⟨rfl,rfl,by rw[wn];rfl,trivial⟩,sB,trivial,sB,rfl,⟨hlt,by unfold zbe;rw[hlo];exact hown1,by unfold zay;rw[hhi];exact hown'.il⟩,hG2.trans hG3,by dsimp only;omega⟩
 ·simp only[nN]at hlt;obtain rfl:i=rs.length:=oM;rw[qa]at hown1 hown2 ⊢;(first|refine EVL.publishL [] ow1 ow2 (rfl) hown1 fun G2 hG2 hs2=>?_|refine EV.publishL [] ow1 ow2 (rfl) hown1 fun G2 hG2 hs2=>?_);(first|refine EVL.publishL [] ow2 [] ((qG _).symm) hown2 fun G3 hG3 hs3=>?_|refine EV.publishL [] ow2 [] ((qG _).symm) hown2 fun G3 hG3 hs3=>?_);refine uR ?_;exact⟨_,_,rfl,hs2.mono hG3,hs3⟩
theorem zlJ (size:Nat):∀(vs:List Value) (k:Nat) (pre zs:List Value),(∀v,v∈vs→(zac v).length=size)→pre.length=k*size→zs.length=vs.length*size →
  Instr.fill (fun i=>some (i*size,size)) (pre++zs).toArray ((List.range' k vs.length).zip vs)=some (pre++vs.flatMap zac).toArray
 | [],k,pre,zs,_,_,hz=>by
  obtain rfl:zs=[]:=List.eq_nil_of_length_eq_zero (by simpa using hz);rfl
 | v::vs,k,pre,zs,hv,hp,hz=>by
  have hlen:=hv v (qf ..);rw[qR,Nat.succ_mul]at hz;rw[qR,List.range'_succ,List.zip_cons_cons];unfold Instr.fill;simp only[zhh];rw[if_neg (by simp[hlen];omega)];have:=zf0 (zac v) (pre++zs) (k*size) 0 (by rw[qJ,hlen];omega);rw[qY]at this
  have e:((zac v).toArray.zipIdx.foldl (fun (cs:Array Value) (x:Value × Nat)=>match x with | (c,j)=>cs.setIfInBounds (k*size+j) c) (pre++zs).toArray)=((zac v).zipIdx.foldl (fun (c:Array Value) (p:Value × Nat)=>c.setIfInBounds (k*size+p.2) p.1) (pre++zs).toArray):=by
   simp
  rw[e,this,List.take_left' hp,hlen,←hp,←List.drop_drop,List.drop_left,List.flatMap_cons,←qZ];have ih:=zlJ size vs (k+1) (pre++zac v) (zs.drop size) (fun u hu=>hv u (qk _ hu)) (by rw[qJ,hp,hlen,Nat.succ_mul]) (by rw[qp];omega);exact ih
def ixB:List (Nat × Operand)→Nat→Nat→Bool
 | [],_,0=>true
 | p::ps,k,n+1=>match Nat.beq p.1 k with
  | true=>ixB ps (k+1) n
  | false=>false
 | _,_,_=>false
theorem zlR:∀(ps:List (Nat × Operand)) (k n:Nat),ixB ps k n=true→ps.map (·.1)=List.range' k n
 | [],k,0,_=>rfl
 | p::ps,k,n+1,h=>by
  unfold ixB at h;split at h
  ·rename_i e;rw[qw,List.range'_succ,zlR ps (k+1) n h,qx e]
  ·cases h
 | [],k,n+1,h=>by cases h
 | p::ps,k,0,h=>by cases h
section
variable {P:Program} {n:Nat} {ops:Array Oper} {o:Oper} {rest:List Oper} {env:Env} {bx:Bxs} {sb:Bxs} {ow:Ows} {H:Hs} {Q:EQ} {τ:Tab} {d:Nat} {s:SV}
theorem DJ.litD {tail l:List Oper} {x:Nat→Value} {y:Nat→Ows} {ow':Ows} {kl ks:List DK} {i:Nat} {bx':Bxs} {Γ:ze6} (hτ:zat P τ) {T:TypeId} {len:Nat} {parts:Array (Nat × Operand)} (ho:o.op=.buildSlice T len parts) (hw:zah ops env o=some true) (hd:o.dst=some d) (hn:Nat.blt d n=true) {te te':TE} {e:TypeId} (ht:τ.get T=some te) (hk:te.kind=.slice e) (ht':τ.get e=some te')
  (hsz:Nat.beq te'.zero.length te'.size=true) (hpos:Nat.ble 1 (len*te'.size)=true) (hsm:Nat.ble (len*te'.size) 10000=true) {vs:List Value} (ha:zbf env (parts.toList.map (·.2)) some=some vs) (hix':ixB parts.toList 0 len=true) (hv:∀G,zcX ops i Γ G→∀v,v∈vs→(zac v).length=te'.size)
  {Φ:Value→Hp→Prop} (hm:∀v G G',Φ v G→G.Le G'→Φ v G') (hΦ:∀G G' v,zcX ops i Γ G→G.Le G'→SlC G' v len te'.size (vs.flatMap zac)→Φ v G')
  (h:DJ P n ops tail sb bx H Q x y kl (i+1) l ks ((d,.v (x i))::env) bx' ((i,Φ (x i))::Γ) ow'):DJ P n ops tail sb bx H Q x y kl i (o::l) (.call Φ::ks) env bx' Γ ow':=by
 have hix:parts.toList.map (·.1)=List.range' 0 len:=zlR _ _ _ hix';have hkd:=(hτ.get ht).kind;rw[hk]at hkd;have hkd':P.underlying T=some (.slice e):=hkd;obtain⟨zv,hinfo,hzc⟩:=(hτ.get ht').info;obtain⟨i0,hi,hz0,hz1,hz2⟩:=info_parts hinfo;have hl:=qx hsz;have hp:=Nat.le_of_ble_eq_true hpos;have hm':=Nat.le_of_ble_eq_true hsm;refine DJ.ofCall (fun β a W G hle hf _ hb _ hs hF=>?_) hd hn hm h;rw[if_pos (hs.want hw)];have hvv:=hv G hF;obtain⟨vs',e1,h2⟩:=ze9 ha;cases e1;have h3:=h2 a.eval fun y u hy he=>hs.op (s:=.v u) (by rw[ho];simpa[Op.operands] using hy) he
 have hvl:vs.length=len:=by
  have e1:=congrArg List.length h3;have e2:=congrArg List.length hix;simp at e1 e2;omega
 have hfl:(vs.flatMap zac).length=len*te'.size:=by rw[zfZ zac te'.size vs hvv,hvl]
 have h4:((parts.map fun (i,x)=>(i,a.eval x)):Array (Nat × Value)).toList=(List.range' 0 vs.length).zip vs:=by
  rw[hvl,←hix,←h3,Array.toList_map];generalize parts.toList=l
  induction l with
  | nil=>rfl
  | cons p l ih=>simp only[qw,List.zip_cons_cons,ih]
 have hfill:=zlJ te'.size vs 0 [] ((List.replicate len te'.zero).flatten) hvv (by simp) (by rw[List.length_flatten];simp[hl,hvl]);rw[pM,pM,←h4]at hfill
 have hrun:=run_buildSlice (P:=P) W T e len (parts.map fun (i,x)=>(i,a.eval x)) (vs.flatMap zac).toArray i0 zv hkd' hi hz0 (by rw[hz1];omega) (by rw[hz1];omega) (by
  rw[hz1,hzc,zgH te'.zero te'.size len hl,←hfill])
 have hB:Below W.heap.size W (W.alloc (.cells (vs.flatMap zac).toArray e)):=(Below.refl _ _).alloc (qH _) _;obtain⟨k1,k2,k3⟩:=zrA hf hB (Box.new W (vs.flatMap zac).toArray e)
 have hr:(execOp a.eval o).run P W=.ok (.value (.slice (some ⟨W.heap.size,0,none⟩) len len)) (W.alloc (.cells (vs.flatMap zac).toArray e)):=by
  unfold execOp;simp only[ho,Sem.run_bind,hrun,Result.andThen_ok,Sem.run_pure]
 unfold Oper.wp;rw[hr,Oper.upon_value];exact⟨_,_,rfl,hΦ G _ _ hF k1 ⟨hfl,.inr ⟨W.heap.size,0,len,(vs.flatMap zac).toArray,rfl,qH _,by simp[Hp.put],fun j x hj=>by rw[qt];simpa using hj⟩⟩,k1,k2,hB,k3⟩
theorem DJ.litD1 {tail l:List Oper} {x:Nat→Value} {y:Nat→Ows} {ow':Ows} {kl ks:List DK} {i:Nat} {bx':Bxs} {Γ:ze6} {Φ:Value→Hp→Prop} (hm:∀v G G',Φ v G→G.Le G'→Φ v G') (hτ:zat P τ) {T:TypeId} {u:Operand} (ho:o.op=.buildSlice T 1 #[(0,u)]) (hw:zah ops env o=some true) (hd:o.dst=some d) (hn:Nat.blt d n=true) {te te':TE} {e:TypeId} (ht:τ.get T=some te) (hk:te.kind=.slice e) (ht':τ.get e=some te')
  (hsz:Nat.beq te'.zero.length te'.size=true) (hpos:Nat.ble 1 (1*te'.size)=true) (hsm:Nat.ble (1*te'.size) 10000=true) {v:Value} (hx:env.op u=some (.v v)) (hv:∀G,zcX ops i Γ G→(zac v).length=te'.size)
  (hΦ:∀G G' w,zcX ops i Γ G→G.Le G'→SlC G' w 1 te'.size ([v].flatMap zac)→Φ w G')
  (h:DJ P n ops tail sb bx H Q x y kl (i+1) l ks ((d,.v (x i))::env) bx' ((i,Φ (x i))::Γ) ow'):DJ P n ops tail sb bx H Q x y kl i (o::l) (.call Φ::ks) env bx' Γ ow' :=
 DJ.litD hτ ho hw hd hn ht hk ht' hsz hpos hsm (vs:=[v]) (by show zbf env [u] some=_;simp[zbf,hx]) rfl (fun G hd w hm=>by rw[pJ.1 hm];exact hv G hd) hm hΦ h
theorem DJ.litD3 {tail l:List Oper} {x:Nat→Value} {y:Nat→Ows} {ow':Ows} {kl ks:List DK} {i:Nat} {bx':Bxs} {Γ:ze6} {Φ:Value→Hp→Prop} (hm:∀v G G',Φ v G→G.Le G'→Φ v G') (hτ:zat P τ) {T:TypeId} {u1 u2 u3:Operand} (ho:o.op=.buildSlice T 3 #[(0,u1),(1,u2),(2,u3)]) (hw:zah ops env o=some true) (hd:o.dst=some d) (hn:Nat.blt d n=true) {te te':TE} {e:TypeId} (ht:τ.get T=some te) (hk:te.kind=.slice e) (ht':τ.get e=some te')
  (hsz:Nat.beq te'.zero.length te'.size=true) (hpos:Nat.ble 1 (3*te'.size)=true) (hsm:Nat.ble (3*te'.size) 10000=true) {v1 v2 v3:Value} (hx1:env.op u1=some (.v v1)) (hx2:env.op u2=some (.v v2)) (hx3:env.op u3=some (.v v3))
  (hv:∀G,zcX ops i Γ G→∀w,w∈[v1,v2,v3]→(zac w).length=te'.size) (hΦ:∀G G' w,zcX ops i Γ G→G.Le G'→SlC G' w 3 te'.size ([v1,v2,v3].flatMap zac)→Φ w G')
  (h:DJ P n ops tail sb bx H Q x y kl (i+1) l ks ((d,.v (x i))::env) bx' ((i,Φ (x i))::Γ) ow'):DJ P n ops tail sb bx H Q x y kl i (o::l) (.call Φ::ks) env bx' Γ ow' :=
 DJ.litD hτ ho hw hd hn ht hk ht' hsz hpos hsm (vs:=[v1,v2,v3]) (by show zbf env [u1,u2,u3] some=_;simp[zbf,hx1,hx2,hx3]) rfl hv hm hΦ h
end
theorem RQ.len3 {H:Hp} {x:Value} {q:Rat} (h:RQ H x q):(zac x).length=3:=by
 obtain⟨xa,xl,xc,ya,yl,yc,rfl,hx1,hx2⟩:=h;rfl
theorem RL.one {H:Hp} {v x:Value} {q:Rat} (h:SlC H v 1 3 ([x].flatMap zac)) (hx:RQ H x q):RL H v [q] :=
 ⟨[x],rfl,fun j y r e1 e2=>by
  cases j with
  | zero=>cases e1;cases e2;exact hx
  | succ j=>simp at e1,h⟩
def zhu (V:List Rat):Nat→List Rat
 | 0=>[]
 | j+1=>zhu V j++if V.getD j 0<V.getD (j+1) 0 then [(V.getD j 0+V.getD (j+1) 0) / 2] else []
theorem zgD (V:List Rat):∀j,(zhu V j).length≤j
 | 0=>qH _
 | j+1=>by
  have:=zgD V j;unfold zhu;rw[qJ];split
  ·rw[qv];omega
  ·rw[qg];omega
theorem zom (key:Int→Rat) (m:List Int):∀j,j≤m.length-1→zjB key m j=zhu (m.map key) j
 | 0,_=>rfl
 | j+1,h=>by
  have g:∀i,i<m.length→(m.map key).getD i 0=key (m.getD i 0):=fun i hi=>by simp[qB,hi]
  unfold zjB zhu zeA;rw[zom key m j oM,g j oM,g (j+1) (by omega)]
def plQ (X:List (List Rat)) (col:Int) (es:List Int):List Rat:=if es.all (zcI X col)=true then zhu (zd8 (es.map (zbv X col))) (es.length-1) else []
theorem ziJ {X:List (List Rat)} {col:Int} {es m:List Int} (h:zmD X col es m):zjB (zbv X col) m (m.length-1)=plQ X col es:=by
 unfold plQ;rcases h with ⟨ha,hp,hr⟩ | ⟨ha,rfl⟩
 ·rw[if_pos ha,zom _ _ _ (qH _),hp.length_eq,zkc (hp.map _) hr]
 ·rw[if_neg (by rw[ha];decide)];rfl
theorem zpx {V:List Rat} {j:Nat} (h:j+1<(zd8 V).length):(zd8 V).getD j 0≤(zd8 V).getD (j+1) 0:=by
 have:=(List.pairwise_iff_getElem.1 (zfN V)) j (j+1) oM h oM;rw[qB,qB,qA oM,qA h];exact this
theorem zj0 {H:Hp} {vx vr:Value} {X:List (List Rat)} {rs:List Int} {col:Int} (hX:RLL H vx X) (hr:IL H vr rs) (hn:rs.length≤300) (hq:∀x,x∈X→∀q,q∈x→ht q≤60) :
  PC prog 87 #[vx,vr,.int .i64 col] H fun r H'=>RL H' r (plQ X col (exL rs X.length)):=by
 obtain⟨a,cap,rfl⟩:=SlC.val hr;obtain⟨xa,xc,rfl⟩:=hX.val;refine BD func87 ntmps87 ?_;refine uR ?_;refine EV.loopK (ι:=Nat × List Value × Value × Ows) [0,1,2] [] (fun q=>[(7,.v q.2.2.1),(8,.v (.int .i64 (q.1:Int)))]) (fun _=>[]) (fun q=>q.2.2.2) (fun q G=>q.1≤rs.length∧(exL (rs.take q.1) X.length).all (zcI X col)=true∧RVs G q.2.1 ((exL (rs.take q.1) X.length).map (zbv X col))∧zaE 35 3 q.2.2.1 q.2.1.length (q.2.1.flatMap zac) q.2.2.2) (fun q=>rs.length-q.1) ((0,[],.slice none 0 0,[])) rfl rfl ⟨rfl,rfl,trivial⟩ trivial rfl (fun _=>rfl) (⟨qQ _,rfl,RVs.nil _,zaE.nil _ _⟩) ?_;rintro⟨i,us,w,ow⟩ G2 hG2 ⟨hi,hall,hus,hown⟩;dsimp only at hi hall hus hown;obtain⟨wa,wc,rfl⟩:=hown.val;refine uR ?_;refine EV.cond rfl (fun hlt=>?_) (fun hlt=>?_)
 ·simp only[nN]at hlt;obtain⟨r,hri⟩:=gE hlt;have hex:=zfe (n:=X.length) hri;have hel:=zbj (rs.take i) X.length;rw[qP]at hel;have hul:us.length≤i:=by rw[hus.1,qV];omega
  have wn:IntKind.i64.wrap ((i:Int)+1)=((i+1:Nat):Int):=zab i oM;have hr2:=hr.mono hG2;have hX2:=hX.mono hG2;have hth:=zmp hX2 r col;refine uR ?_;refine vI (hr2) (i) (rfl) (hlt) ((by rw[qK,hri];rfl)) ?_;refine uR ?_;by_cases h1:r<0
  ·have hp:inR X.length r=false:=by unfold inR;simp;omega
   rw[hp,if_neg (by decide),qG]at hex;rw[qD h1];refine uR ?_;refine⟨(i+1,us,_,ow),⟨rfl,by rw[wn];rfl,trivial⟩,sB,trivial,trivial,rfl,⟨hlt,by dsimp only;rw[hex];exact hall,by dsimp only;rw[hex];exact hus,hown⟩,Hp.Le.refl _,by dsimp only;omega⟩
  ·obtain⟨R,rfl⟩:=qh (show 0≤r by omega);rw[qC h1];refine uR ?_;refine vI (hr2) (i) (rfl) (hlt) ((by rw[qK,hri];rfl)) ?_;refine uR ?_;by_cases h2:(R:Int)≥(X.length:Int)
   ·have hp:inR X.length (R:Int)=false:=by unfold inR;simp;omega
    rw[hp,if_neg (by decide),qG]at hex;rw[qD h2];refine uR ?_;refine⟨(i+1,us,_,ow),⟨rfl,by rw[wn];rfl,trivial⟩,sB,trivial,trivial,rfl,⟨hlt,by dsimp only;rw[hex];exact hall,by dsimp only;rw[hex];exact hus,hown⟩,Hp.Le.refl _,by dsimp only;omega⟩
   ·have hp:inR X.length (R:Int)=true:=by unfold inR;simp;omega
    rw[hp,Bool.true_and]at hth;rw[hp,if_pos rfl]at hex;rw[qC h2];refine uR ?_;refine vI (hr2) (i) (rfl) (hlt) ((by rw[qK,hri];rfl)) ?_
    repeat (first|refine RUN ?_|refine CV (hth) ?_|refine CE (hth) ?_)
    cases hb:zcI X col (R:Int) with
    | false =>
     have hno:(exL rs X.length).all (zcI X col)=false:=by
      rw[List.all_eq_false];refine⟨(R:Int),?_,by rw[hb];decide⟩;unfold exL;exact List.mem_filter.2 ⟨qF hri,hp⟩
     refine uR ?_;unfold plQ;rw[if_neg (by rw[hno];decide)];exact RL.nil _ _ _
    | true =>
     obtain⟨R',C,x,q,hRR,rfl,hx,hqx⟩:=zel (show 0≤(R:Int) by omega) (show (R:Int)<(X.length:Int) by omega) hb;obtain rfl:R=R':=oM;have hk:=zeh (X:=X) rfl rfl hx hqx;have hRl:R<X.length:=oM;have hCl:=(qE.1 hqx).1;obtain⟨vs,hvs,hs⟩:=hX2;obtain⟨a2,c2,hu,hRL⟩:=hvs.at hx;obtain⟨us2,y,hs2,hc2,hy⟩:=hRL.at hqx;obtain⟨xa',xl',xc',ya',yl',yc',rfl,hx1,hx2⟩:=id hy;refine uR ?_;refine vI (hr2) (i) (rfl) (hlt) ((by rw[qK,hri];rfl)) ?_;refine uR ?_;refine vI (hs) (R) (rfl) (hRl) (hu) ?_;refine uR ?_;refine EVL.idxM tO rfl rfl rfl rfl rfl rfl rfl rfl rfl (hs2) (C) (rfl) (hCl) (hc2) ?_;refine uR ?_;refine EVL.app1 tO rfl rfl rfl rfl rfl rfl rfl rfl rfl rfl rfl rfl rfl rfl rfl rfl rfl rfl rfl (fun _=>rfl) (ow) ([]) ((qG _).symm) (hown) oM fun _=>?_;intro v' ow' hown';refine uR ?_;refine⟨(i+1,us++[_],v',ow'),⟨rfl,by rw[wn];rfl,trivial⟩,sB,trivial,trivial,qG _,⟨hlt,by dsimp only;rw[hex,List.all_append,hall];simp[hb],by dsimp only;rw[hex,qn,qw,hk];exact hus.snoc hy,by dsimp only;rw[qJ,List.flatMap_append];exact hown'⟩,Hp.Le.refl _,by dsimp only;omega⟩
 ·simp only[nN]at hlt;obtain rfl:i=rs.length:=oM;rw[qa]at hus hall;have hel:=zbj rs X.length;(first|refine EVL.publishL [] ow [] ((qG _).symm) hown fun G3 hG3 hs3=>?_|refine EV.publishL [] ow [] ((qG _).symm) hown fun G3 hG3 hs3=>?_);have hus3:=hus.mono hG3
  have hRL:RL G3 (.slice wa us.length wc) ((exL rs X.length).map (zbv X col)):=by
   rw[hus3.1]at hs3 ⊢;exact hus3.rl hs3
  have hpl:plQ X col (exL rs X.length)=zhu (zd8 ((exL rs X.length).map (zbv X col))) ((exL rs X.length).length-1):=by unfold plQ;rw[if_pos hall]
  rw[hpl]
  have hkb:∀q,q∈(exL rs X.length).map (zbv X col)→ht q≤60:=fun q hm=>by
   obtain⟨r,_,rfl⟩:=List.mem_map.1 hm;exact zgm hq col r
  have hvl:((exL rs X.length).map (zbv X col)).length=(exL rs X.length).length:=qV ..;rw[←hvl];generalize (exL rs X.length).map (zbv X col)=vals at *
  have hsl:(zd8 vals).length=vals.length:=(zfu vals).length_eq;have hsb:∀q,q∈zd8 vals→ht q≤60:=fun q hm=>hkb q ((zfu vals).mem_iff.1 hm);have hris:=fun (j:Nat) (h:j+1<(zd8 vals).length)=>zpx h;refine uR ?_;refine EVL.call rfl rfl rfl rfl rfl (znw hRL oM (fun q hm=>qI (hkb q hm) oM)) ?_;intro r5 G4 hV hG4;rw[←hsl];generalize zd8 vals=V at *
  obtain⟨va,vc,rfl⟩:=hV.val
  have h2h:ht ((2:Int):Rat)≤10:=by
   have:=zbz 2;have h2:bl (2:Int).natAbs≤5:=zaZ (by decide);omega
  have hrq:∀q,ht q≤300→rq q:=fun q h=>qI h oM;refine uR ?_;refine EV.loopK (ι:=Nat × List Value × Value × Ows) [7] [] (fun q=>[(9,.v q.2.2.1),(10,.v (.int .i64 ((q.1+1:Nat):Int)))]) (fun _=>[]) (fun q=>q.2.2.2) (fun q G=>q.1≤V.length-1∧RVs G q.2.1 (zhu V q.1)∧zaE 35 3 q.2.2.1 q.2.1.length (q.2.1.flatMap zac) q.2.2.2) (fun q=>V.length-q.1) ((0,[],.slice none 0 0,[])) rfl rfl ⟨rfl,rfl,trivial⟩ trivial rfl (fun _=>rfl) (⟨qQ _,RVs.nil _,zaE.nil _ _⟩) ?_;rintro⟨j,ps,u,ow2⟩ G5 hG5 ⟨hj,hps,hown2⟩;dsimp only at hj hps hown2;obtain⟨ua,uc,rfl⟩:=hown2.val;refine uR ?_;refine EV.cond rfl (fun hlj=>?_) (fun hlj=>?_)
  ·simp only[nN]at hlj;have hjl:j<V.length:=oM;have ha:V[j]?=some (V.getD j 0):=by rw[qB,qA hjl];rfl
   have hb:V[j+1]?=some (V.getD (j+1) 0):=by rw[qB,qA hlj];rfl
   have hle:=hris j hlj;have hah:=hsb _ (qF ha);have hbh:=hsb _ (qF hb);have hgs:zhu V (j+1)=zhu V j++if V.getD j 0<V.getD (j+1) 0 then [(V.getD j 0+V.getD (j+1) 0) / 2] else []:=rfl
   have hpl:=hps.1;have hgl:=zgD V j;generalize V.getD j 0=p at *
   generalize V.getD (j+1) 0=q at *
   have hab:=zcQ p q;have wj:IntKind.i64.wrap (((j+1:Nat):Int)-1)=(j:Int):=by rw[pK];omega
   have wn:IntKind.i64.wrap (((j+1:Nat):Int)+1)=((j+1+1:Nat):Int):=zab (j+1) oM;obtain⟨vs1,y1,hs1,hc1,hy1⟩:=(hV.mono hG5).at ha;obtain⟨vs2,y2,hs2,hc2,hy2⟩:=(hV.mono hG5).at hb;obtain⟨xa1,xl1,xc1,ya1,yl1,yc1,rfl,hx11,hx12⟩:=id hy1;obtain⟨xa2,xl2,xc2,ya2,yl2,yc2,rfl,hx21,hx22⟩:=id hy2;refine uR ?_;apply EV.drawn 9 kR kR;intro xv yw;(repeat refine' DD ?_);refine' DJ.idxM tO rfl rfl rfl rfl rfl rfl rfl rfl rfl (hs1) (j) (wj) (hjl) (hc1) ?_;rotate_left;(repeat refine' DD ?_);refine' DJ.idxM tO rfl rfl rfl rfl rfl rfl rfl rfl rfl (hs2) (j+1) (rfl) (hlj) (hc2) ?_;rotate_left;(repeat refine' DD ?_);(refine DJ.nil (fun G6 hG6 hF6=>?_);(case hS|hS2=>rfl));refine EVL.call rfl rfl rfl rfl rfl (zbB (hy1.mono hG6) (hy2.mono hG6) (hrq _ oM) (hrq _ oM)) ?_;rintro rc G7 rfl hG7;by_cases hlt3:p<q
   ·rw[if_pos hlt3]at hgs
    have ho:(zb6 p q != 0)=true:=by
     unfold zb6;rw[if_pos hlt3];rfl
    refine uR ?_;rw[ho];refine uR ?_;apply EV.drawn 14 kR kR;intro xv yw;(repeat refine' DD ?_);refine' DJ.idxM tO rfl rfl rfl rfl rfl rfl rfl rfl rfl ((hs1.mono (hG6.trans hG7))) (j) (wj) (hjl) (hc1) ?_;rotate_left;(repeat refine' DD ?_);refine' DJ.idxM tO rfl rfl rfl rfl rfl rfl rfl rfl rfl ((hs2.mono (hG6.trans hG7))) (j+1) (rfl) (hlj) (hc2) ?_;rotate_left;(repeat refine' DD ?_);refine' vB (cO func65) (fun G hG hd=>zcu (hy1.mono ((hG6.trans hG7).trans hG)) (hy2.mono ((hG6.trans hG7).trans hG)) (hrq _ oM) (hrq _ oM)) (fun _ _ _ h k=>RQ.mono h k) ?_;rotate_left;refine' vB (cO func29) (fun G hG hd=>za9 2 (by decide) (by decide)) (fun _ _ _ h k=>RQ.mono h k) ?_;rotate_left;refine' vB (cO func136) (fun G hG hd=>zfn (hd.tail.head kR) (hd.head kR) (hrq _ oM) (hrq _ oM) (by decide)) (fun _ _ _ h k=>RQ.mono h k) ?_;rotate_left;(refine' DJ.litD1 (Φ:=fun w G=>RL G w [(p+q) / ((2:Int):Rat)]) (fun _ _ _ h k=>h.mono k) tO rfl rfl rfl rfl rfl rfl rfl rfl rfl rfl rfl (fun G hd=>RQ.len3 (hd.head kR)) (fun G G' w hd hG h=>RL.one h ((hd.head kR).mono hG)) ?_;rotate_left);(refine DJ.nil (fun G8 hG8 hF8=>?_);(case hS|hS2=>rfl));obtain⟨vs3,hl3,hv3,hs3'⟩:=hF8.1
    obtain⟨y3,rfl⟩:∃y,vs3=[y]:=by
     match vs3,hl3 with
     | [y],_=>exact⟨y,rfl⟩
    have hy3:=hv3 0 y3 _ rfl rfl;obtain⟨xa3,xl3,xc3,ya3,yl3,yc3,rfl,hx31,hx32⟩:=id hy3;refine EVL.append tO rfl rfl rfl rfl rfl rfl rfl rfl rfl rfl rfl rfl [] ow2 [] (qG _).symm hown2 (zb7.ro hs3' (Nat.succ_pos 0)) rfl (by simp;omega) ?_;intro v1 ow1 hown1;refine uR ?_;refine⟨(j+1,ps++[_],v1,ow1),⟨rfl,by rw[wn];rfl,trivial⟩,sB,trivial,trivial,qG _,⟨by dsimp only;omega,by dsimp only;rw[hgs];exact(hps.mono (hG6.trans (hG7.trans hG8))).snoc hy3,by dsimp only;rw[qJ,List.flatMap_append];exact hown1⟩,hG6.trans (hG7.trans hG8),by dsimp only;omega⟩
   ·rw[if_neg hlt3,qG]at hgs;have hpq:p=q:=Rat.le_antisymm hle (Rat.not_lt.1 hlt3)
    have ho:(zb6 p q != 0)=false:=by
     rw[hpq,zoU];rfl
    refine uR ?_;rw[ho];refine uR ?_;refine⟨(j+1,ps,_,ow2),⟨rfl,by rw[wn];rfl,trivial⟩,sB,trivial,trivial,rfl,⟨by dsimp only;omega,by dsimp only;rw[hgs];exact hps.mono (hG6.trans hG7),hown2⟩,hG6.trans hG7,by dsimp only;omega⟩
  ·simp only[nN]at hlj;obtain rfl:j=V.length-1:=oM;(first|refine EVL.publishL [] ow2 [] ((qG _).symm) hown2 fun G6 hG6 hs6=>?_|refine EV.publishL [] ow2 [] ((qG _).symm) hown2 fun G6 hG6 hs6=>?_);have hps6:=hps.mono hG6;refine uR ?_;show RL G6 (.slice ua ps.length uc) _;rw[hps6.1]at hs6 ⊢;exact hps6.rl hs6
end
section
def zbG (X:List (List Rat)) (cost:List Int→Rat) (es:List Int) (L c:Int) (ts:List Rat):List (Int × Rat × Rat) :=
 ts.flatMap fun t=>if L≤((zbe X c t es).length:Int)∧L≤((zay X c t es).length:Int) then [(c,t,cost es-(cost (zbe X c t es)+cost (zay X c t es)))] else []
def zaA (X:List (List Rat)) (cost:List Int→Rat) (es:List Int) (L:Int) (cols:List Int):List (Int × Rat × Rat):=cols.flatMap fun c=>zbG X cost es L c (plQ X c es)
theorem zlM {key:Int→Rat} {m:List Int}:∀{n j:Nat},j<n→key (m.getD j 0)<key (m.getD (j+1) 0)→zeA key m j∈zjB key m n
 | 0,j,h,_=>by omega
 | n+1,j,h,hlt=>by
  unfold zjB;by_cases e:j=n
  ·subst e;rw[if_pos hlt];exact List.mem_append_right _ (pJ.2 rfl)
  ·exact List.mem_append_left _ (zlM (show j<n by omega) hlt)
theorem zkd (key:Int→Rat) (es:List Int):∃m,m.Perm es∧zht key m:=by
 refine⟨es.mergeSort fun a b=>decide (key a≤key b),List.mergeSort_perm _ _,?_⟩;have:=List.pairwise_mergeSort (le:=fun a b:Int=>decide (key a≤key b)) (fun a b c h1 h2=>by simp at h1 h2 ⊢;exact Rat.le_trans h1 h2) (fun a b=>by simp;exact Rat.le_total) es;exact List.pairwise_map.2 (this.imp fun h=>by simpa using h)
theorem zjt {wo cost:List Int→Rat} (hp:POk wo cost) {es a b m:List Int} {j:Nat} (hm:m.Perm es) (hl:a.Perm (m.take (j+1))) (hh:b.Perm (m.drop (j+1))):cost es-(cost a+cost b)=zfv wo m j-wo es:=by
 have hab:(a++b).Perm es:=by
  refine(hl.append hh).trans ?_;rw[List.take_append_drop];exact hm
 have h1:=hp.gain hab;have h2:=hp.wperm _ _ hl;have h3:=hp.wperm _ _ hh;have h4:zfv wo m j=wo (m.take (j+1))+wo (m.drop (j+1)):=rfl;rw[h4,←h2,←h3];grind
theorem zqH {X:List (List Rat)} {wo cost:List Int→Rat} {es cols:List Int} {L:Int} (hp:POk wo cost) (p:Int × Rat × Rat):p∈zaA X cost es L cols↔zt6 X wo es cols L p:=by
 obtain⟨c,t,g⟩:=p;unfold zaA zbG;rw[List.mem_flatMap];constructor
 ·rintro⟨c',hc,h⟩;obtain⟨t',ht,h⟩:=List.mem_flatMap.1 h;split at h
  ·rename_i hcond;rw[pJ]at h;cases h;by_cases ha:es.all (zcI X c)=true
   ·obtain⟨m,hm,hr⟩:=zkd (zbv X c) es;rw[←ziJ (.inl ⟨ha,hm,hr⟩:zmD X c es m)]at ht;obtain⟨j,hj,hlt,rfl⟩:=zgC ht;have hj1:j+1<m.length:=oM;obtain⟨hl,hh⟩:=zf4 hm hr (List.all_eq_true.1 ha) hj1 hlt;have e1:=hl.length_eq;have e2:=hh.length_eq;rw[qP]at e1;rw[qp]at e2;exact⟨hc,ha,m,j,hm,hr,hj1,zeG.2 ⟨by omega,by omega,hlt⟩,rfl,zjt hp hm hl hh⟩
   ·unfold plQ at ht;rw[if_neg ha]at ht;cases ht
  ·cases h
 ·rintro⟨hc,ha,m,j,hm,hr,hj,hcand,he,hg⟩;dsimp only at hc ha hr hcand he hg;obtain⟨h1,h2,hlt⟩:=zeG.1 hcand;obtain⟨hl,hh⟩:=zf4 hm hr (List.all_eq_true.1 ha) hj hlt;have e1:=hl.length_eq;have e2:=hh.length_eq;rw[qP]at e1;rw[qp]at e2;refine⟨c,hc,List.mem_flatMap.2 ⟨t,?_,?_⟩⟩
  ·rw[←ziJ (.inl ⟨ha,hm,hr⟩:zmD X c es m),he];exact zlM oM hlt
  ·rw[he,if_pos ⟨by omega,by omega⟩,zjt hp hm hl hh,hg];exact pJ.2 rfl
theorem zcP (l:List (Int × Rat × Rat)):zgc l (l.foldl zf2 none):=by
 have key:∀(qs pre:List (Int × Rat × Rat)) (st:Option (Int × Rat × Rat)),zgc pre st→zgc (pre++qs) (qs.foldl zf2 st):=by
  intro qs
  induction qs with
  | nil=>intro pre st h;rw[qG];exact h
  | cons p qs ih =>
   intro pre st h;rw[show pre++p::qs=(pre++[p])++qs by simp];exact ih _ _ (zmZ h p)
 have:=key l [] none rfl;simpa using this
theorem zkE {X:List (List Rat)} {wo cost:List Int→Rat} {es cols:List Int} {L:Int} {ps:List (Int × Option (Rat × Rat))} (hp:POk wo cost) (hcol:ztf cols (ps.map (·.1))) (hps:∀p,p∈ps→zrs X wo es L p.1 p.2) :
  ((zb9 ps).map fun t=>(t.1,t.2.1,t.2.2-wo es))=(zaA X cost es L cols).foldl zf2 none :=
 zmY (zkD hp hcol hps) (zcP _).p fun p=>(zqH hp p).symm
end
section
structure Nd where
 col:Int
 left:Int
 right:Int
 rows:Int
 cls:Int
 at':Rat
 cost:Rat
 value:Rat
 counts:List Int
structure GP where
 X:List (List Rat)
 cost:List Int→Rat
 mean:List Int→Rat
 cnt:List Int→List Int
 least:Int
 gain:Rat
 cols:Int→List Int × Int
def GP.nd (p:GP) (rows:List Int):Nd:=⟨-1,0,0,(rows.length:Int),(topN (p.cnt rows) (p.cnt rows).length:Int),0,p.cost rows,p.mean rows,p.cnt rows⟩
def GP.best (p:GP) (rows cols:List Int):Option (Int × Rat × Rat):=(zaA p.X p.cost rows (max 1 p.least) cols).foldl zf2 none
def GP.cut (p:GP) (rows cols:List Int):Option (Int × Rat):=match p.best rows cols with
 | some (c,t,g)=>if g≤p.gain then none else some (c,t)
 | none=>none
def GP.grow (p:GP):Nat→Nat→List Int→Int→List Nd × Int
 | 0,_,rows,s=>([p.nd rows],s)
 | d+1,k,rows,s=>match p.cut rows (p.cols s).1 with
  | none=>([p.nd rows],(p.cols s).2)
  | some (c,t) =>
   let L:=p.grow d (k+1) (zbe p.X c t rows) (p.cols s).2
   let R:=p.grow d (k+1+L.1.length) (zay p.X c t rows) L.2
   ({p.nd rows with col:=c,left:=((k+1:Nat):Int),right:=((k+1+L.1.length:Nat):Int),at':=t}::(L.1++R.1),R.2)
theorem GP.grow_zero (p:GP) (k:Nat) (rows:List Int) (s:Int):p.grow 0 k rows s=([p.nd rows],s):=rfl
theorem GP.grow_none {p:GP} {d k:Nat} {rows:List Int} {s:Int} (h:p.cut rows (p.cols s).1=none):p.grow (d+1) k rows s=([p.nd rows],(p.cols s).2):=by
 rw[GP.grow,h]
theorem GP.grow_some {p:GP} {d k:Nat} {rows:List Int} {s:Int} {c:Int} {t:Rat} (h:p.cut rows (p.cols s).1=some (c,t)):p.grow (d+1) k rows s =
  ({p.nd rows with col:=c,left:=((k+1:Nat):Int),right:=((k+1+(p.grow d (k+1) (zbe p.X c t rows) (p.cols s).2).1.length:Nat):Int),at':=t}::((p.grow d (k+1) (zbe p.X c t rows) (p.cols s).2).1++(p.grow d (k+1+(p.grow d (k+1) (zbe p.X c t rows) (p.cols s).2).1.length) (zay p.X c t rows) (p.grow d (k+1) (zbe p.X c t rows) (p.cols s).2).2).1),(p.grow d (k+1+(p.grow d (k+1) (zbe p.X c t rows) (p.cols s).2).1.length) (zay p.X c t rows) (p.grow d (k+1) (zbe p.X c t rows) (p.cols s).2).2).2):=by
 rw[GP.grow,h]
theorem GP.grow_len (p:GP):∀(d k:Nat) (rows:List Int) (s:Int),1≤(p.grow d k rows s).1.length∧(p.grow d k rows s).1.length<2 ^ (d+1)
 | 0,k,rows,s=>by rw[GP.grow_zero];simp
 | d+1,k,rows,s=>by
  have hp:1<2 ^ (d+2):=Nat.one_lt_two_pow oM
  cases h:p.cut rows (p.cols s).1 with
  | none=>rw[GP.grow_none h];exact⟨qH _,hp⟩
  | some ct =>
   obtain⟨c,t⟩:=ct;rw[GP.grow_some h];have h1:=p.grow_len d (k+1) (zbe p.X c t rows) (p.cols s).2;have h2:=p.grow_len d (k+1+(p.grow d (k+1) (zbe p.X c t rows) (p.cols s).2).1.length) (zay p.X c t rows) (p.grow d (k+1) (zbe p.X c t rows) (p.cols s).2).2;simp only[qR,qJ];have h3:2 ^ (d+1+1)=2 ^ (d+1)+2 ^ (d+1):=by rw[qX];omega
   omega
end
section
open Go.RowKit _root_.Go.Proofs.Tryz
section
variable {P:Program} {n:Nat} {ops:Array Oper} {tail:List Oper} {sb bx:Bxs} {H:Hs} {Q:EQ} {x:Nat→Value} {y:Nat→Ows} {ow':Ows} {kl:List DK} {i:Nat} {o:Oper} {l:List Oper} {ks:List DK} {env:Env} {bx':Bxs} {Γ:ze6} {τ:Tab} {d:Nat}
theorem DJ.plainE (hτ:zat P τ) (Φ:Value→Hp→Prop) (hm:∀v G G',Φ v G→G.Le G'→Φ v G') (hw:zah ops env o=some true) (hd:o.dst=some d) (hn:Nat.blt d n=true) (hv:∀G,zcX ops i Γ G→∃v,zp3 τ env bx o.op=some (.v v)∧Φ v G)
  (h:DJ P n ops tail sb bx H Q x y kl (i+1) l ks ((d,.v (x i))::env) bx' ((i,Φ (x i))::Γ) ow'):DJ P n ops tail sb bx H Q x y kl i (o::l) (.call Φ::ks) env bx' Γ ow' :=
 DJ.ofCall (fun β a W G _ hf _ hb _ hs hF=>by
  obtain⟨v,hv,hΦ⟩:=hv G hF;obtain⟨u,hu,hr⟩:=zcm hτ hv (fun y s hm hy=>hs.op hm hy) hb hf;rw[if_pos (hs.want hw)];unfold Oper.wp;rw[hu,Oper.upon_value];have e:u=v:=hr;subst e;exact⟨u,G,rfl,hΦ,Hp.Le.refl G,hf,Below.refl _ _,Nw.refl _ _ _⟩) hd hn hm h
end
section
variable {n:Nat} {ops:Array Oper} {fuel:Nat} {L:Array Bool} {env:Env} {bx:Bxs} {H:Hs} {K:Env→Bxs→Hs→Prop} {d:Nat} {o:Oper} {v:Value}
end
section
variable {P:Program} {n:Nat} {ops:Array Oper} {o:Oper} {rest:List Oper} {env:Env} {bx:Bxs} {H:Hs} {Q:EQ} {d:Nat}
theorem EVL.neqnil {T T' e:TypeId} {x:Operand} {q:Option Addr} (hT:P.underlying T=some (.pointer e)) (ho:o.op=.binOp .neq T x (.const (.pointer none)) T') (hw:zah ops env o=some true) (hd:o.dst=some d) (hn:Nat.blt d n=true)
  (hx:env.op x=some (.v (.pointer q))) (h:EVL P n ops rest ((d,.v (.bool q.isSome))::env) bx H Q):EVL P n ops (o::rest) env bx H Q :=
 EVL.gen hw hd hn (fun ev W he=>by
  have ex:=he x _ (by simp[ho,Op.operands]) hx;have ey:=he (.const (.pointer none)) _ (by simp[ho,Op.operands]) rfl
  have hq:(Op.equalIn (9999+1) T (.pointer q) (.pointer none)).run P W=.ok (!q.isSome) W:=by
   unfold Op.equalIn;cases q <;> simp[run_underlying hT]
  have hm:Op.maxDepth=9999+1:=rfl;unfold execOp;simp[ho,ex,ey,eqGuard,binOp,Op.equal,hm,hq]) h
end
theorem zq2 {A c B:List Value} {k s f:Nat} (hA:A.length=k*s) (hf:f≤c.length):(A++(c++B)).take (k*s+f)=A++c.take f:=by
 rw[List.take_append,qO oM,hA,Nat.add_sub_cancel_left,List.take_append_of_le_length hf]
theorem zq1 {A c B:List Value} {k s f:Nat} (hA:A.length=k*s) (hf:f≤c.length):(A++(c++B)).drop (k*s+f)=c.drop f++B:=by
 rw[List.drop_append,List.drop_eq_nil_of_le oM,hA,Nat.add_sub_cancel_left,List.drop_append_of_le_length hf,pM]
theorem zdJ {A c B vs c':List Value} {k s f m q:Nat} (hA:A.length=k*s) (hq:q=k*s+f) (hm:vs.length=m) (hf:f+m≤c.length) (hc:c.take f++vs++c.drop (f+m)=c'):(A++(c++B)).take q++vs++(A++(c++B)).drop (q+m)=A++(c'++B):=by
 subst hq;rw[zq2 hA oM,Nat.add_assoc,zq1 hA hf,←hc];simp only[qZ]
theorem zqY {cl:Int} {sv:Value} {la:Option Addr} {ln lc:Nat} {va:Option Addr} {vn vc:Nat}:PV prog 45 #[zas 1 cl (.slice la ln lc) (.slice va vn vc)] (.int .i64 (ln:Int)):=by
 refine PV.of_pc ?_;refine BD func45 ntmps45 ?_;refine uR ?_;rfl
theorem zqZ {cl:Int} {la:Option Addr} {ln lc:Nat} {va:Option Addr} {vn vc:Nat}:PV prog 45 #[zas 2 cl (.slice la ln lc) (.slice va vn vc)] (.int .i64 (vn:Int)):=by
 refine PV.of_pc ?_;refine BD func45 ntmps45 ?_;refine uR ?_;rfl
theorem znk {H:Hp} {la:Option Addr} {lc:Nat} {va:Option Addr} {vn vc:Nat} (h0:1≤vn) (h1:vn≤300):PC prog 46 #[zas 2 0 (.slice la 0 lc) (.slice va vn vc)] H fun r _=>r=.int .i64 0:=by
 refine BD func46 ntmps46 ?_;refine uR ?_;rw[qC (show ¬(vn:Int)<1 by omega)];refine uR ?_;rw[qC (show ¬(vn:Int)>300 by omega)];refine uR ?_;rfl
theorem zni {H:Hp} {la:Option Addr} {lc:Nat} {ls:List Int} (hv:IL H (.slice la ls.length lc) ls) {va:Option Addr} {vc:Nat} {cl:Int} (hc:1≤cl∧cl≤12) (h0:1≤ls.length) (h1:ls.length≤300) (hls:∀z,z∈ls→0≤z∧z<cl):PC prog 46 #[zas 1 cl (.slice la ls.length lc) (.slice va 0 vc)] H fun r _=>r=.int .i64 0:=by
 refine BD func46 ntmps46 ?_;refine uR ?_;rw[qC (show ¬(ls.length:Int)<1 by omega)];refine uR ?_;rw[qC (show ¬(ls.length:Int)>300 by omega)];refine uR ?_;rw[qC (show ¬cl<1 by omega)];refine uR ?_;rw[qC (show ¬cl>12 by omega)];refine uR ?_;refine EV.loopK (ι:=Nat) [1,3] [1] (fun i=>[(4,.v (.int .i64 (i:Int)))]) (fun _=>[]) (fun _=>[]) (fun i _=>i≤ls.length) (fun i=>ls.length-i) (0) rfl rfl ⟨rfl,trivial⟩ trivial rfl (fun _=>rfl) (qQ _) ?_;rintro i G1 hG1 hi;refine uR ?_;refine EV.cond rfl (fun hlt=>?_) (fun hlt=>?_)
 ·simp only[nN]at hlt;obtain⟨z,hz⟩:=gE hlt;have hb:=hls z (qF hz);have hv1:=hv.mono hG1;refine uR ?_;apply EV.drawn 15 kR kR;intro xv yw;(repeat refine' DD ?_);refine' vJ (hv1) (i) (rfl) (hlt) ((by rw[qK,hz];rfl)) ?_;rotate_left;(repeat refine' DD ?_);rw[qC (show ¬z<0 by omega)];(repeat refine' DD ?_);refine' vJ (hv1) (i) (rfl) (hlt) ((by rw[qK,hz];rfl)) ?_;rotate_left;(repeat refine' DD ?_);(refine DJ.nil (fun G2 hG2 hF2=>?_);(case hS|hS2=>rfl));refine uR ?_;rw[qC (show ¬z≥cl by omega)];refine uR ?_;refine⟨i+1,⟨by rw[zab i (by omega)];rfl,trivial⟩,sB,trivial,sB,rfl,hlt,hG2,by omega⟩
 ·try refine uR ?_
  rfl
abbrev znl:List Value:=[.int .i64 0,.bool false,.slice none 0 0,.slice none 0 0,.bool false,.slice none 0 0,.slice none 0 0]
theorem zm0 {H:Hp}:PC prog 89 #[.agg znl.toArray] H fun r H'=>RQ H' r 0:=by
 refine BD func89 ntmps89 ?_;refine uR ?_;refine vA (za9 0 (by decide) (by decide)) ?_;intro r2 G2 hq hG2;obtain⟨xa,xl,xc,ya,yl,yc,rfl,hx1,hx2⟩:=id hq;refine uR ?_;exact hq
theorem zm1 {H:Hp} {c:Int} {b1:Bool} {s1 s2:Option Addr} {n1 c1 n2 c2:Nat} {y:Value} {g:Rat} (hy:RQ H y g):PC prog 89 #[.agg (.int .i64 c::([.bool b1,.slice s1 n1 c1,.slice s2 n2 c2]++zac y)).toArray] H fun r H'=>RQ H' r g:=by
 obtain⟨xa,xl,xc,ya,yl,yc,rfl,hx1,hx2⟩:=id hy;have hl:yl=(dig B32 g.den).length:=SlN.cap hx2;have hne:yl≠0:=fun e=>g.den_nz (zaK zad oM);refine BD func89 ntmps89 ?_;refine uR ?_;rw[show ((yl:Int) == 0)=false from pP.2 (by omega)];refine uR ?_;exact hy
def zdq (H:Hp) (cs:List Value) (n:Nd):Prop:=∃xa xc xv xs,RQ H xa n.at'∧RQ H xc n.cost∧RQ H xv n.value∧IL H xs n.counts ∧
 cs=[.int .i64 n.col,.int .i64 n.left,.int .i64 n.right,.int .i64 n.rows,.int .i64 n.cls]++(zac xa++(zac xc++(zac xv++[xs])))
theorem zdq.mono {H G:Hp} {cs:List Value} {n:Nd} (h:zdq H cs n) (k:H.Le G):zdq G cs n:=by
 obtain⟨xa,xc,xv,xs,h1,h2,h3,h4,e⟩:=h;exact⟨xa,xc,xv,xs,h1.mono k,h2.mono k,h3.mono k,h4.mono k,e⟩
theorem zdq.cells {H:Hp} {cs:List Value} {n:Nd} (h:zdq H cs n):∃b1 a1 l1 c1 a2 l2 c2 b3 a3 l3 c3 a4 l4 c4 b5 a5 l5 c5 a6 l6 c6 a7 c7,
  cs=[.int .i64 n.col,.int .i64 n.left,.int .i64 n.right,.int .i64 n.rows,.int .i64 n.cls,.bool b1,.slice a1 l1 c1,.slice a2 l2 c2,.bool b3,.slice a3 l3 c3,.slice a4 l4 c4,.bool b5,.slice a5 l5 c5,.slice a6 l6 c6,.slice a7 n.counts.length c7] ∧
  RQ H (.agg #[.bool b1,.slice a1 l1 c1,.slice a2 l2 c2]) n.at'∧RQ H (.agg #[.bool b3,.slice a3 l3 c3,.slice a4 l4 c4]) n.cost∧RQ H (.agg #[.bool b5,.slice a5 l5 c5,.slice a6 l6 c6]) n.value∧IL H (.slice a7 n.counts.length c7) n.counts:=by
 obtain⟨xa,xc,xv,xs,h1,h2,h3,h4,e⟩:=h;obtain⟨a1,l1,c1,a2,l2,c2,rfl,_⟩:=id h1;obtain⟨a3,l3,c3,a4,l4,c4,rfl,_⟩:=id h2;obtain⟨a5,l5,c5,a6,l6,c6,rfl,_⟩:=id h3;obtain⟨a7,c7,rfl⟩:=SlC.val h4;exact⟨_,_,_,_,_,_,_,_,_,_,_,_,_,_,_,_,_,_,_,_,_,_,_,e,h1,h2,h3,h4⟩
structure zkz (H:Hp) (g:Value) (kd:Int) (N:Nat) (cs mn:List Int→Rat) (cnt:List Int→List Int):Prop where
 counts:kd=1→∀G,H.Le G→∀u l,IL G u l→l.length≤300→PC prog 84 #[g,u] G fun r H'=>IL H' r (cnt (exL l N))
 no:kd≠1→∀l,cnt l=[]
 zero:kd=1→∀l,mn l=0
 cntlen:∀l,(cnt l).length≤12
 mean:∀G,H.Le G→∀u l,IL G u l→l.length≤300→PC prog 85 #[g,u] G fun r H'=>RQ H' r (mn (exL l N))
 msmall:∀l:List Int,l.length≤300→(∀r,r∈l→0≤r∧r<(N:Int))→ht (mn l)≤2000000
 cost:∀G,H.Le G→∀u l,IL G u l→l.length≤300→PC prog 83 #[g,u] G fun r H'=>RQ H' r (cs (exL l N))
 small:∀l:List Int,l.length≤300→(∀r,r∈l→0≤r∧r<(N:Int))→ht (cs l)≤2000000
 check:∀G,H.Le G→PC prog 46 #[g] G fun r _=>r=.int .i64 0
 len:PV prog 45 #[g] (.int .i64 (N:Int))
theorem zkz.mono {H H':Hp} {g:Value} {kd:Int} {N:Nat} {cs mn:List Int→Rat} {cnt:List Int→List Int} (h:zkz H g kd N cs mn cnt) (k:H.Le H'):zkz H' g kd N cs mn cnt :=
 ⟨fun e G hG=>h.counts e G (k.trans hG),h.no,h.zero,h.cntlen,fun G hG=>h.mean G (k.trans hG),h.msmall,fun G hG=>h.cost G (k.trans hG),h.small,fun G hG=>h.check G (k.trans hG),h.len⟩
abbrev zd6 (kd cl:Int) (sl sv vx:Value) (deep least:Int) (g1 g2 g3 dv:Value) (sm:Int) (out:Value):List Value:=[.int .i64 kd,.int .i64 cl,sl,sv,vx,.int .i64 deep,.int .i64 least,g1,g2,g3,dv,.int .i64 sm,out]
abbrev zub (n:Nat) (x1 x2 x3:Value):Value:=.agg (([.int .i64 (-1),.int .i64 0,.int .i64 0,.int .i64 (n:Int),.int .i64 0]:List Value)++(zac x1++(zac x2++(zac x3++([.slice none 0 0]:List Value))))).toArray
theorem zq0 {H:Hp} {b:Nat} {T:TypeId} {kd cl deep least sm:Int} {la va xa:Option Addr} {ln lc vn vc xn xc:Nat} {g1 g2 g3 dv out vr:Value} {N:Nat} {p:GP} (hg:zkz H (zas kd cl (.slice la ln lc) (.slice va vn vc)) kd N p.cost p.mean p.cnt) {rows:List Int} (hr:IL H vr rows) (hn:rows.length≤300) (hb:∀r,r∈rows→0≤r∧r<(N:Int)) :
  PW prog 48 #[.pointer (some ⟨b,0,none⟩),vr] H [(b,T,zd6 kd cl (.slice la ln lc) (.slice va vn vc) (.slice xa xn xc) deep least g1 g2 g3 dv sm out)] fun v ow H'=>ow=[(b,T,zd6 kd cl (.slice la ln lc) (.slice va vn vc) (.slice xa xn xc) deep least g1 g2 g3 dv sm out)]∧∃cs,v=.agg cs.toArray∧zdq H' cs (p.nd rows):=by
 obtain⟨ra,rc,rfl⟩:=SlC.val hr;have hex:=zdz hb;have hcost:=fun (G:Hp) (hG:H.Le G)=>hg.cost G hG _ _ (hr.mono hG) hn;have hmean:=fun (G:Hp) (hG:H.Le G)=>hg.mean G hG _ _ (hr.mono hG) hn;have hcnt:=fun e (G:Hp) (hG:H.Le G)=>hg.counts e G hG _ _ (hr.mono hG) hn;rw[hex]at hcost hmean hcnt;have hcl:=hg.cntlen rows;refine PW.body tO func48 rfl kR ntmps48 rfl rfl ?_;refine uR ?_;apply EV.drawn 12 kR kR;intro xv yw;(repeat refine' DD ?_);refine' vB (cO func29) (fun G hG hd=>za9 0 oM oM) (fun _ _ _ h k=>RQ.mono h k) ?_;rotate_left;(repeat (first|refine' DD ?_|refine' vN ?_|refine' vF ?_));refine' DJ.ofVal (zaa.loadOwn tO rfl rfl rfl rfl (0) rfl (rfl) rfl rfl) rfl rfl rfl ?_;rotate_left;(repeat refine' DD ?_);refine' vB (cO func83) (fun G hG hd=>hcost G hG) (fun _ _ _ h k=>RQ.mono h k) ?_;rotate_left;refine' vB (cO func29) (fun G hG hd=>za9 0 oM oM) (fun _ _ _ h k=>RQ.mono h k) ?_;rotate_left
 (refine' DJ.plainE tO (fun v G=>∃x1 x2 x3,RQ G x1 ((0:Int):Rat)∧RQ G x2 (p.cost rows)∧RQ G x3 ((0:Int):Rat)∧v=zub rows.length x1 x2 x3) (fun v G G' ⟨x1,x2,x3,h1,h2,h3,e⟩ k=>⟨x1,x2,x3,h1.mono k,h2.mono k,h3.mono k,e⟩) rfl rfl rfl (fun G hd=>(by
  obtain⟨a1,l1,c1,a2,l2,c2,e1,h1⟩:=hd.tail.tail.head kR;obtain⟨a3,l3,c3,a4,l4,c4,e2,h2⟩:=hd.tail.head kR;obtain⟨a5,l5,c5,a6,l6,c6,e3,h3⟩:=hd.head kR;refine⟨_,?_,_,_,_,⟨a1,l1,c1,a2,l2,c2,rfl,h1⟩,⟨a3,l3,c3,a4,l4,c4,rfl,h2⟩,⟨a5,l5,c5,a6,l6,c6,rfl,h3⟩,rfl⟩;rw[e1,e2,e3];rfl)) ?_;rotate_left)
 (repeat refine' DD ?_);(refine DJ.nil (fun G hG hF=>?_);(case hS|hS2=>rfl));obtain⟨⟨x1,x2,x3,h1,h2,h3,e⟩,_⟩:=hF;obtain⟨a1,l1,c1,a2,l2,c2,rfl,_⟩:=id h1;obtain⟨a3,l3,c3,a4,l4,c4,rfl,_⟩:=id h2;obtain⟨a5,l5,c5,a6,l6,c6,rfl,_⟩:=id h3;replace e:_=Value.agg #[.int .i64 (-1),.int .i64 0,.int .i64 0,.int .i64 (rows.length:Int),.int .i64 0,.bool (decide (((0:Int):Rat).num<0)),.slice a1 l1 c1,.slice a2 l2 c2,.bool (decide ((p.cost rows).num<0)),.slice a3 l3 c3,.slice a4 l4 c4,.bool (decide (((0:Int):Rat).num<0)),.slice a5 l5 c5,.slice a6 l6 c6,.slice none 0 0]:=e;rw[e];refine uR ?_;refine RP ?_;refine EVL.loadOwn tO rfl rfl rfl rfl rfl rfl (0) rfl (rfl) rfl rfl ?_;refine uR ?_;by_cases hk:kd=1
 ·subst hk;refine uR ?_;refine RP ?_;refine EVL.loadOwn tO rfl rfl rfl rfl rfl rfl (0) rfl (rfl) rfl rfl ?_;refine uR ?_;refine vA (hcnt rfl _ hG) ?_;intro r5 G5 hr5 hG5;obtain⟨a7,c7,rfl⟩:=SlC.val hr5;refine uR ?_;refine EVL.call rfl rfl rfl rfl rfl (zg2 hr5 oM) ?_;rintro _ G6 rfl hG6;refine uR ?_;refine⟨rfl,_,rfl,_,_,.agg #[_,.slice a5 l5 c5,.slice a6 l6 c6],_,h1.mono (hG5.trans hG6),h2.mono (hG5.trans hG6),?_,hr5.mono hG6,rfl⟩;rw[show (p.nd rows).value=p.mean rows from rfl,hg.zero rfl];exact h3.mono (hG5.trans hG6)
 ·rw[show (kd == 1)=false from pP.2 hk];have hno:=hg.no hk rows;refine uR ?_;refine RP ?_;refine EVL.loadOwn tO rfl rfl rfl rfl rfl rfl (0) rfl (rfl) rfl rfl ?_;refine uR ?_;refine vA (hmean _ hG) ?_;intro r5 G5 hr5 hG5;obtain⟨a8,l8,c8,a9,l9,c9,rfl,_⟩:=id hr5;refine uR ?_;refine⟨rfl,_,rfl,.agg #[_,.slice a1 l1 c1,.slice a2 l2 c2],_,_,.slice none 0 0,h1.mono hG5,h2.mono hG5,hr5,?_,?_⟩
  ·rw[show (p.nd rows).counts=p.cnt rows from rfl,hno];exact IL.nil _ _ _
  ·rw[show (p.nd rows).cls=(topN (p.cnt rows) (p.cnt rows).length:Int) from rfl,hno];rfl
def zp5 (G:Hp) (st:Option (Int × Rat × Rat)) (cs:List Value):Prop:=match st with
 | none=>cs=znl
 | some (c,t,g)=>∃x y,RQ G x t∧RQ G y g∧cs=.int .i64 c::(zac x++zac y)
theorem zp5.mono {G G':Hp} {st:Option (Int × Rat × Rat)} {cs:List Value} (h:zp5 G st cs) (k:G.Le G'):zp5 G' st cs:=by
 cases st with
 | none=>exact h
 | some p =>
  obtain⟨x,y,h1,h2,h3⟩:=h;exact⟨x,y,h1.mono k,h2.mono k,h3⟩
theorem zo2 {X:List (List Rat)} (h:∀x,x∈X→∀q,q∈x→ht q≤60) {c:Int} {es:List Int} {t:Rat} (ht':t∈plQ X c es):ht t≤200:=by
 by_cases ha:es.all (zcI X c)=true
 ·obtain⟨m,hm,hr⟩:=zkd (zbv X c) es;rw[←ziJ (.inl ⟨ha,hm,hr⟩:zmD X c es m)]at ht';obtain⟨j,_,_,rfl⟩:=zgC ht';exact zoD h c m j
 ·unfold plQ at ht';rw[if_neg ha]at ht';cases ht'
theorem zsC (X:List (List Rat)) (c:Int) (es:List Int):(plQ X c es).length≤es.length:=by
 unfold plQ;split
 ·have:=zgD (zd8 (es.map (zbv X c))) (es.length-1);omega
 ·exact qQ _
theorem zp8 {X:List (List Rat)} {cost:List Int→Rat} {es cols:List Int} {L c:Int} {i:Nat} (h:cols[i]?=some c):zaA X cost es L (cols.take (i+1))=zaA X cost es L (cols.take i)++zbG X cost es L c (plQ X c es):=by
 unfold zaA;rw[zan h,List.flatMap_append];simp
theorem zoe {X:List (List Rat)} {cost:List Int→Rat} {es:List Int} {L c:Int} {ts:List Rat} {j:Nat} {t:Rat} (h:ts[j]?=some t):zbG X cost es L c (ts.take (j+1))=zbG X cost es L c (ts.take j)++if L≤((zbe X c t es).length:Int)∧L≤((zay X c t es).length:Int) then [(c,t,cost es-(cost (zbe X c t es)+cost (zay X c t es)))] else []:=by
 unfold zbG;rw[zan h,List.flatMap_append];simp
theorem zf1 (a b:Rat):zb6 a b>0↔b<a:=by
 unfold zb6;split
 ·rename_i h;exact⟨fun k=>absurd k (by decide),fun k=>by exfalso;grind⟩
 ·split
  ·rename_i h;exact⟨fun _=>h,fun _=>by decide⟩
  ·rename_i h;exact⟨fun k=>absurd k (by decide),fun k=>absurd k h⟩
theorem zde (a b:Rat):zb6 a b<0↔a<b:=by
 unfold zb6;split
 ·rename_i h;exact⟨fun _=>h,fun _=>by decide⟩
 ·rename_i h;split
  ·exact⟨fun k=>absurd k (by decide),fun k=>absurd k h⟩
  ·exact⟨fun k=>absurd k (by decide),fun k=>absurd k h⟩
theorem zqO (a b:Rat):(zb6 a b == 0)=decide (a=b):=by
 unfold zb6;split
 ·rename_i h;rw[qC (fun e=>by subst e;exact Rat.lt_irrefl h)];rfl
 ·split
  ·rename_i h;rw[qC (fun e=>by subst e;exact Rat.lt_irrefl h)];rfl
  ·rename_i h1 h2;rw[qD (Rat.le_antisymm (Rat.not_lt.1 h2) (Rat.not_lt.1 h1))];rfl
theorem zhH {X:List (List Rat)} {cost:List Int→Rat} {es:List Int} {n:Nat} {L c:Int} {ts:List Rat} (hs:∀l:List Int,l.length≤300→(∀r,r∈l→0≤r∧r<(n:Int))→ht (cost l)≤2000000) (he:es.length≤300) (hb:∀r,r∈es→0≤r∧r<(n:Int)) (hts:∀t,t∈ts→ht t≤200) {p:Int × Rat × Rat} (h:p∈zbG X cost es L c ts):ht p.2.1≤200∧ht p.2.2≤8000000:=by
 unfold zbG at h;obtain⟨t,ht',hp⟩:=List.mem_flatMap.1 h;split at hp
 ·obtain rfl:=pJ.1 hp;have h1:=hs _ (qI (List.length_filter_le _ _) he:(zbe X c t es).length≤300) (fun r hr=>hb r (List.mem_filter.mp hr).1);have h2:=hs _ (qI (List.length_filter_le _ _) he:(zay X c t es).length≤300) (fun r hr=>hb r (List.mem_filter.mp hr).1);have h3:=hs es he hb;have h4:=zcQ (cost (zbe X c t es)) (cost (zay X c t es));have h5:=zjD (cost es) (cost (zbe X c t es)+cost (zay X c t es));exact⟨hts t ht',by dsimp only;omega⟩
 ·cases hp
theorem zge {X:List (List Rat)} {cost:List Int→Rat} {es:List Int} {n:Nat} {L:Int} {cols:List Int} (hs:∀l:List Int,l.length≤300→(∀r,r∈l→0≤r∧r<(n:Int))→ht (cost l)≤2000000) (he:es.length≤300) (hb:∀r,r∈es→0≤r∧r<(n:Int)) (hq:∀x,x∈X→∀q,q∈x→ht q≤60) {p:Int × Rat × Rat} (h:p∈zaA X cost es L cols):ht p.2.1≤200∧ht p.2.2≤8000000:=by
 unfold zaA at h;obtain⟨c,_,hp⟩:=List.mem_flatMap.1 h;exact zhH hs he hb (fun t ht'=>zo2 hq ht') hp
theorem zno {H:Hp} {kd cl:Int} {la va:Option Addr} {ln lc vn vc:Nat} {vx vr vcol:Value} {X:List (List Rat)} {rs cols:List Int} {least:Int} {cost:List Int→Rat}
  (hchk:PC prog 46 #[zas kd cl (.slice la ln lc) (.slice va vn vc)] H fun r _=>r=.int .i64 0) (hlen:PV prog 45 #[zas kd cl (.slice la ln lc) (.slice va vn vc)] (.int .i64 (X.length:Int)))
  (hcost:∀G,H.Le G→∀u l,IL G u l→l.length≤300→PC prog 83 #[zas kd cl (.slice la ln lc) (.slice va vn vc),u] G fun r H'=>RQ H' r (cost (exL l X.length)))
  (hsmall:∀l:List Int,l.length≤300→(∀r,r∈l→0≤r∧r<(X.length:Int))→ht (cost l)≤2000000)
  (hX:RLL H vx X) (hq:∀x,x∈X→∀q,q∈x→ht q≤60) (hr:IL H vr rs) (hn:rs.length≤300) (hc:IL H vcol cols) (hcn:cols.length≤1000) :
  PC prog 50 #[zas kd cl (.slice la ln lc) (.slice va vn vc),vx,vr,vcol,.int .i64 least] H fun r H'=>∃cs,zp5 H' ((zaA X cost (exL rs X.length) (max 1 least) cols).foldl zf2 none) cs∧r=.tuple #[.agg cs.toArray,.bool ((zaA X cost (exL rs X.length) (max 1 least) cols).foldl zf2 none).isSome]:=by
 have hel:=zbj rs X.length;have heb:=zcH (rs:=rs) (n:=X.length);have hrq:∀x,x∈X→∀q,q∈x→rq q:=fun x hx q hm=>qI (hq x hx q hm) oM;obtain⟨ra,rc,rfl⟩:=SlC.val hr;obtain⟨xa,xc,rfl⟩:=hX.val;obtain⟨ca,cc,rfl⟩:=SlC.val hc;refine BD func50 ntmps50 ?_
 repeat (first|refine RUN ?_|refine CV (hchk) ?_|refine CV (hlen) ?_|refine CE (hchk) ?_|refine CE (hlen) ?_)
 rw[show ((X.length:Int) != (X.length:Int))=false from pO _];refine uR ?_;refine vA (hcost _ (Hp.Le.refl _) _ _ hr hn) ?_;intro rall G1 hall hG1;obtain⟨wa,wl,wc,za,zl,zc,rfl,hw1,hw2⟩:=id hall;have hsa:=hsmall (exL rs X.length) oM heb;refine uR ?_;refine EV.loopK (ι:=Nat × List Value) [1,2,3,4,5,10,12,14] [5,10,14] (fun q=>[(13,.v (.bool ((zaA X cost (exL rs X.length) (max 1 least) (cols.take q.1)).foldl zf2 none).isSome)),(15,.v (.int .i64 (q.1:Int)))]) (fun q=>[(12,127,q.2)]) (fun _=>[]) (fun q G=>q.1≤cols.length∧zp5 G ((zaA X cost (exL rs X.length) (max 1 least) (cols.take q.1)).foldl zf2 none) q.2) (fun q=>cols.length-q.1) ((0,znl)) rfl rfl ⟨rfl,rfl,trivial⟩ ⟨rfl,trivial⟩ rfl (fun _=>rfl) (⟨qQ _,rfl⟩) ?_;rintro⟨i,cs⟩ G2 hG2 ⟨hi,hcs⟩;dsimp only at hi hcs;refine uR ?_;refine EV.cond rfl (fun hlt=>?_) (fun hlt=>?_)
 ·simp only[nN]at hlt;obtain⟨c,hci⟩:=gE hlt;have hH2:=hG1.trans hG2;have hsn:=zp8 (X:=X) (cost:=cost) (es:=exL rs X.length) (L:=max 1 least) hci;have hplh:∀t,t∈plQ X c (exL rs X.length)→ht t≤200:=fun t hm=>zo2 hq hm;refine uR ?_;refine vI ((hc.mono hH2)) (i) (rfl) (hlt) ((by rw[qK,hci];rfl)) ?_;refine uR ?_;refine vA (zj0 (col:=c) (hX.mono hH2) (hr.mono hH2) hn hq) ?_;intro rp G3 hP hG3;have hpll:(plQ X c (exL rs X.length)).length≤300:=by have:=zsC X c (exL rs X.length);omega
  generalize plQ X c (exL rs X.length)=P at *
  obtain⟨pa,pc,rfl⟩:=hP.val;refine uR ?_;refine EV.loopK (ι:=Nat × List Value) [1,2,3,4,5,10,12,14,15,16] [5,10,14] (fun q=>[(13,.v (.bool ((zaA X cost (exL rs X.length) (max 1 least) (cols.take i)++zbG X cost (exL rs X.length) (max 1 least) c (P.take q.1)).foldl zf2 none).isSome)),(17,.v (.int .i64 (q.1:Int)))]) (fun q=>[(12,127,q.2)]) (fun _=>[]) (fun q G=>q.1≤P.length∧zp5 G ((zaA X cost (exL rs X.length) (max 1 least) (cols.take i)++zbG X cost (exL rs X.length) (max 1 least) c (P.take q.1)).foldl zf2 none) q.2) (fun q=>P.length-q.1) ((0,cs)) rfl rfl ⟨by rw[show zbG X cost (exL rs X.length) (max 1 least) c (P.take 0)=[] from rfl,qG];rfl,rfl,trivial⟩ ⟨rfl,trivial⟩ rfl (fun _=>rfl) (⟨qQ _,by rw[show zbG X cost (exL rs X.length) (max 1 least) c (P.take 0)=[] from rfl,qG];exact hcs.mono hG3⟩) ?_;rintro⟨j,cs2⟩ G4 hG4 ⟨hj,hcs2⟩;dsimp only at hj hcs2;refine uR ?_;refine EV.cond rfl (fun hlj=>?_) (fun hlj=>?_)
  ·simp only[nN]at hlj;obtain⟨t,htj⟩:=gE hlj;have hth:=hplh t (qF htj);have hsn2:=zoe (X:=X) (cost:=cost) (es:=exL rs X.length) (L:=max 1 least) (c:=c) htj;have hP4:=hP.mono hG4;have hH4:=hH2.trans (hG3.trans hG4);have hc4:=hc.mono hH4;obtain⟨vs,y,hs,hcy,hy⟩:=hP4.at htj;obtain⟨ya,yl,yc,yb,ym,yd,rfl,hy1,hy2⟩:=id hy;have wn:IntKind.i64.wrap ((j:Int)+1)=((j+1:Nat):Int):=zab j oM;refine uR ?_;apply EV.drawn 15 kR kR;intro xv yw;(repeat refine' DD ?_);refine' vJ (hc4) (i) (rfl) (hlt) ((by rw[qK,hci];rfl)) ?_;rotate_left;(repeat refine' DD ?_);refine' DJ.idxM tO rfl rfl rfl rfl rfl rfl rfl rfl rfl (hs) (j) (rfl) (hlj) (hcy) ?_;rotate_left;(repeat refine' DD ?_);refine' vB (cO func52) (fun G hG hd=>zg0 (col:=c) (t:=t) ((hX.mono hH4).mono hG) ((hr.mono hH4).mono hG) oM hrq (RQ.mono hy hG) (qI hth oM)) (fun _ _ _ h k=>(by obtain⟨u,w,e,hu,hw⟩:=h;exact⟨u,w,e,hu.mono k,hw.mono k⟩)) ?_;rotate_left;refine' DJ.copy (10) (by first|exact .inl rfl|exact .inr rfl) rfl rfl rfl id rfl kR ?_;rotate_left;refine' DJ.extract (10) rfl rfl rfl rfl rfl kR (fun G hd=>(by obtain⟨u,w,e,_⟩:=hd.head kR;exact⟨_,e,Nat.zero_lt_succ _⟩)) ?_;rotate_left;refine' DJ.extract (10) rfl rfl rfl rfl rfl kR (fun G hd=>(by obtain⟨u,w,e,_⟩:=hd.head kR;exact⟨_,e,Nat.lt_succ_self _⟩)) ?_;rotate_left;refine' DJ.copy (10) (.inr rfl) rfl rfl rfl (zcW 0) rfl kR ?_;rotate_left;(refine DJ.nil (fun G hG hF=>?_);(case hS|hS2=>rfl));obtain⟨⟨u,w,e,hu,hw⟩,_⟩:=hF;rw[e];obtain⟨ua,uc,rfl⟩:=SlC.val hu;obtain⟨wa',wc',rfl⟩:=SlC.val hw;rw[show zcW 0 (Value.tuple #[.slice ua (zbe X c t (exL rs X.length)).length uc,.slice wa' (zay X c t (exL rs X.length)).length wc'])=.slice ua (zbe X c t (exL rs X.length)).length uc from rfl,show zcW 1 (Value.tuple #[.slice ua (zbe X c t (exL rs X.length)).length uc,.slice wa' (zay X c t (exL rs X.length)).length wc'])=.slice wa' (zay X c t (exL rs X.length)).length wc' from rfl];refine uR ?_;rw[show (if least>1 then least else 1)=max 1 least by omega];have hlo3:(zbe X c t (exL rs X.length)).length≤300:=qI (List.length_filter_le _ _) oM;have hhi3:(zay X c t (exL rs X.length)).length≤300:=qI (List.length_filter_le _ _) oM;have hlom:∀r,r∈zbe X c t (exL rs X.length)→0≤r∧r<(X.length:Int):=fun r hr=>heb r (List.mem_filter.mp hr).1;have hhim:∀r,r∈zay X c t (exL rs X.length)→0≤r∧r<(X.length:Int):=fun r hr=>heb r (List.mem_filter.mp hr).1;have hxl:exL (zbe X c t (exL rs X.length)) X.length=zbe X c t (exL rs X.length):=zdz hlom;have hxh:exL (zay X c t (exL rs X.length)) X.length=zay X c t (exL rs X.length):=zdz hhim;generalize hlodef:zbe X c t (exL rs X.length)=lo at *
   generalize hhidef:zay X c t (exL rs X.length)=hi' at *
   generalize hLdef:max 1 least=L at *
   by_cases hclo:(lo.length:Int)<L
   ·rw[qD hclo];rw[if_neg oM,qG]at hsn2;refine uR ?_;refine⟨(j+1,cs2),⟨by dsimp only;rw[hsn2];rfl,by dsimp only;rw[wn];rfl,trivial⟩,sB,⟨rfl,trivial⟩,sB,rfl,⟨hlj,by rw[hsn2];exact hcs2.mono hG⟩,hG,by dsimp only;omega⟩
   rw[qC hclo];refine uR ?_;rw[show (if least>1 then least else 1)=L by omega];by_cases hchi:(hi'.length:Int)<L
   ·rw[qD hchi];rw[if_neg oM,qG]at hsn2;refine uR ?_;refine⟨(j+1,cs2),⟨by dsimp only;rw[hsn2];rfl,by dsimp only;rw[wn];rfl,trivial⟩,sB,⟨rfl,trivial⟩,sB,rfl,⟨hlj,by rw[hsn2];exact hcs2.mono hG⟩,hG,by dsimp only;omega⟩
   rw[qC hchi];rw[if_pos ⟨by omega,by omega⟩]at hsn2;have hH5:=hH4.trans hG;have hc5:=hc.mono hH5;have hs5:=hs.mono hG;have hy5:=RQ.mono hy hG;have hal5:=RQ.mono hall (hG2.trans (hG3.trans (hG4.trans hG)));have hslo:=hsmall lo hlo3 hlom;have hshi:=hsmall hi' hhi3 hhim;have hclo5:∀G',G.Le G'→PC prog 83 #[zas kd cl (.slice la ln lc) (.slice va vn vc),.slice ua lo.length uc] G' fun r H'=>RQ H' r (cost lo):=fun G' k=>by have:=hcost G' (hH5.trans k) _ _ (hu.mono k) hlo3;rwa [hxl]at this
   have hchi5:∀G',G.Le G'→PC prog 83 #[zas kd cl (.slice la ln lc) (.slice va vn vc),.slice wa' hi'.length wc'] G' fun r H'=>RQ H' r (cost hi'):=fun G' k=>by have:=hcost G' (hH5.trans k) _ _ (hw.mono k) hhi3;rwa [hxh]at this
   have hsum:rq (cost lo+cost hi'):=by have:=zcQ (cost lo) (cost hi');unfold rq;omega
   have hgr:rq (cost (exL rs X.length)-(cost lo+cost hi')):=by have h1:=zcQ (cost lo) (cost hi');have h2:=zjD (cost (exL rs X.length)) (cost lo+cost hi');unfold rq;omega
   refine uR ?_;apply EV.drawn 19 kR kR;intro xv yw;(repeat refine' DD ?_);refine' vJ (hc5) (i) (rfl) (hlt) ((by rw[qK,hci];rfl)) ?_;rotate_left;(repeat refine' DD ?_);refine' DJ.idxM tO rfl rfl rfl rfl rfl rfl rfl rfl rfl (hs5) (j) (rfl) (hlj) (hcy) ?_;rotate_left;(repeat refine' DD ?_);refine' vB (cO func83) (fun G hG hd=>hclo5 G hG) (fun _ _ _ h k=>RQ.mono h k) ?_;rotate_left;(repeat refine' DD ?_);refine' vB (cO func83) (fun G hG hd=>hchi5 G hG) (fun _ _ _ h k=>RQ.mono h k) ?_;rotate_left;(repeat refine' DD ?_);refine' vB (cO func65) (fun G hG hd=>zcu (hd.tail.head kR) (hd.head kR) (by unfold rq;omega) (by unfold rq;omega)) (fun _ _ _ h k=>RQ.mono h k) ?_;rotate_left;(repeat refine' DD ?_);refine' vB (cO func88) (fun G hG hd=>zg1 (hal5.mono hG) (hd.head kR) (by unfold rq;omega) hsum) (fun _ _ _ h k=>RQ.mono h k) ?_;rotate_left;refine' DJ.fnP tO (16) (fun v=>Value.agg (Value.int IntKind.i64 c::(([Value.bool (decide (t.num<0)),Value.slice ya yl yc,Value.slice yb ym yd]:List Value)++zac v)).toArray) rfl rfl rfl kR (fun G hd=>(by obtain⟨sa,sl,sc,ta,tl,tc,e,_⟩:=(show RQ G (xv 16) (cost (exL rs X.length)-(cost lo+cost hi')) from hd.head kR);rw[show xv (0+1+1+1+1+1+1+1+1+1+1+1+1+1+1+1+1)=xv 16 from rfl,e];rfl)) ?_;rotate_left;(repeat refine' DD ?_);(refine DJ.nil (fun G7 hG7 hF7=>?_);(case hS|hS2=>rfl));obtain⟨h16,_⟩:=hF7;have hg16:RQ G7 (xv 16) (cost (exL rs X.length)-(cost lo+cost hi')):=h16;obtain⟨sa,sl,sc,ta,tl,tc,e16,_⟩:=id hg16;have e16':xv (0+1+1+1+1+1+1+1+1+1+1+1+1+1+1+1+1)=_:=e16;rw[e16'];rw[e16]at hg16;rw[show (Value.agg (Value.int .i64 c::(([Value.bool (decide (t.num<0)),Value.slice ya yl yc,Value.slice yb ym yd]:List Value)++zac (.agg #[.bool (decide ((cost (exL rs X.length)-(cost lo+cost hi')).num<0)),.slice sa sl sc,.slice ta tl tc]))).toArray)=.agg #[.int .i64 c,.bool (decide (t.num<0)),.slice ya yl yc,.slice yb ym yd,.bool (decide ((cost (exL rs X.length)-(cost lo+cost hi')).num<0)),.slice sa sl sc,.slice ta tl tc] from rfl];refine uR ?_;have hst:zp5 G7 (List.foldl zf2 none (zaA X cost (exL rs X.length) L (cols.take i)++zbG X cost (exL rs X.length) L c (P.take j))) cs2:=hcs2.mono (hG.trans hG7);have hnew:List.foldl zf2 none (zaA X cost (exL rs X.length) L (cols.take i)++zbG X cost (exL rs X.length) L c (P.take (j+1)))=zf2 (List.foldl zf2 none (zaA X cost (exL rs X.length) L (cols.take i)++zbG X cost (exL rs X.length) L c (P.take j))) (c,t,cost (exL rs X.length)-(cost lo+cost hi')):=by rw[hsn2,←qZ,List.foldl_append];rfl
   have hstp:∀p,List.foldl zf2 none (zaA X cost (exL rs X.length) L (cols.take i)++zbG X cost (exL rs X.length) L c (P.take j))=some p→ht p.2.1≤200∧ht p.2.2≤8000000:=fun p e=>by
    have hf:=zcP (zaA X cost (exL rs X.length) L (cols.take i)++zbG X cost (exL rs X.length) L c (P.take j));rw[e]at hf;rcases List.mem_append.1 hf.1 with hm | hm
    ·exact zge hsmall oM heb hq hm
    ·exact zhH hsmall oM heb (fun t hm=>hplh t (List.mem_of_mem_take hm)) hm
   generalize List.foldl zf2 none (zaA X cost (exL rs X.length) L (cols.take i)++zbG X cost (exL rs X.length) L c (P.take j))=st at *
   cases st with
   | none =>
    have hcs':cs2=znl:=hst;subst hcs';apply EV.drawn 4 kR kR;intro xv yw;(repeat refine' DD ?_);refine' vB (cO func89) (fun G hG hd=>zm0) (fun _ _ _ h k=>RQ.mono h k) ?_;rotate_left;(repeat refine' DD ?_);(refine DJ.nil (fun G8 hG8 hF8=>?_);(case hS|hS2=>rfl));obtain⟨h3,_⟩:=hF8;refine uR ?_;refine vA (zbB (RQ.mono hg16 hG8) h3 hgr (by unfold rq;rw[zcr];decide)) ?_;rintro _ G9 rfl hG9;refine uR ?_;refine⟨(j+1,[.int .i64 c,.bool (decide (t.num<0)),.slice ya yl yc,.slice yb ym yd,.bool (decide ((cost (exL rs X.length)-(cost lo+cost hi')).num<0)),.slice sa sl sc,.slice ta tl tc]),⟨by dsimp only;rw[hnew];rfl,by dsimp only;rw[wn];rfl,trivial⟩,sB,⟨rfl,trivial⟩,sB,rfl,⟨hlj,by rw[hnew];exact⟨_,_,RQ.mono hy5 (hG7.trans (hG8.trans hG9)),RQ.mono hg16 (hG8.trans hG9),rfl⟩⟩,hG.trans (hG7.trans (hG8.trans hG9)),by dsimp only;omega⟩
   | some p =>
    obtain⟨c1,t1,g1⟩:=p;obtain⟨hts,hgs⟩:=hstp _ rfl;dsimp only at hts hgs;obtain⟨x1,y1,hx1',hy1',rfl⟩:=hst;obtain⟨pa1,pl1,pc1,pb1,pm1,pd1,rfl,hp1,hp2⟩:=id hx1';obtain⟨qa1,ql1,qc1,qb1,qm1,qd1,rfl,hp3,hp4⟩:=id hy1';apply EV.drawn 4 kR kR;intro xv yw;(repeat refine' DD ?_);refine' vB (cO func89) (fun G hG hd=>zm1 (hy1'.mono hG)) (fun _ _ _ h k=>RQ.mono h k) ?_;rotate_left;(repeat refine' DD ?_);(refine DJ.nil (fun G8 hG8 hF8=>?_);(case hS|hS2=>rfl));obtain⟨h3,_⟩:=hF8;refine uR ?_;refine vA (zbB (RQ.mono hg16 hG8) h3 hgr (by unfold rq;omega)) ?_;rintro _ G9 rfl hG9;have hpx:=RQ.mono hx1' (hG8.trans hG9);have hpt:=RQ.mono hy5 (hG7.trans (hG8.trans hG9));generalize hgdef:cost (exL rs X.length)-(cost lo+cost hi')=g at *
    have hT:zjV (c,t,g) (c1,t1,g1)→zf2 (some (c1,t1,g1)) (c,t,g)=some (c,t,g):=fun k=>if_pos k;have hK:¬zjV (c,t,g) (c1,t1,g1)→zf2 (some (c1,t1,g1)) (c,t,g)=some (c1,t1,g1):=fun k=>if_neg k;refine uR ?_;by_cases hgt:g1<g
    ·rw[qD ((zf1 g g1).2 hgt)];rw[hT (.inl hgt)]at hnew;refine uR ?_;refine⟨(j+1,[.int .i64 c,.bool (decide (t.num<0)),.slice ya yl yc,.slice yb ym yd,.bool (decide (g.num<0)),.slice sa sl sc,.slice ta tl tc]),⟨by dsimp only;rw[hnew];rfl,by dsimp only;rw[wn];rfl,trivial⟩,sB,⟨rfl,trivial⟩,sB,rfl,⟨hlj,by rw[hnew];exact⟨_,_,hpt.mono (Hp.Le.refl _),(RQ.mono hg16 (hG8.trans hG9)).mono (Hp.Le.refl _),rfl⟩⟩,(hG.trans (hG7.trans (hG8.trans hG9))).trans (Hp.Le.refl _),by dsimp only;omega⟩
    rw[qC (fun k=>hgt ((zf1 g g1).1 k))];refine uR ?_;rw[zqO];by_cases heq:g=g1
    ·rw[qD heq];refine uR ?_;by_cases hc1:c<c1
     ·rw[qD hc1];rw[hT (.inr ⟨heq,.inl hc1⟩)]at hnew;refine uR ?_;refine⟨(j+1,[.int .i64 c,.bool (decide (t.num<0)),.slice ya yl yc,.slice yb ym yd,.bool (decide (g.num<0)),.slice sa sl sc,.slice ta tl tc]),⟨by dsimp only;rw[hnew];rfl,by dsimp only;rw[wn];rfl,trivial⟩,sB,⟨rfl,trivial⟩,sB,rfl,⟨hlj,by rw[hnew];exact⟨_,_,hpt.mono (Hp.Le.refl _),(RQ.mono hg16 (hG8.trans hG9)).mono (Hp.Le.refl _),rfl⟩⟩,(hG.trans (hG7.trans (hG8.trans hG9))).trans (Hp.Le.refl _),by dsimp only;omega⟩
     rw[qC hc1];refine uR ?_;by_cases hc2:c=c1
     ·rw[show (c == c1)=true from beq_iff_eq.2 hc2];refine uR ?_;refine vA (zbB hpt hpx (by unfold rq;omega) (by unfold rq;omega)) ?_;rintro _ G10 rfl hG10;refine uR ?_;by_cases htt:t<t1
      ·rw[qD ((zde t t1).2 htt)];rw[hT (.inr ⟨heq,.inr ⟨hc2,htt⟩⟩)]at hnew;refine uR ?_;refine⟨(j+1,[.int .i64 c,.bool (decide (t.num<0)),.slice ya yl yc,.slice yb ym yd,.bool (decide (g.num<0)),.slice sa sl sc,.slice ta tl tc]),⟨by dsimp only;rw[hnew];rfl,by dsimp only;rw[wn];rfl,trivial⟩,sB,⟨rfl,trivial⟩,sB,rfl,⟨hlj,by rw[hnew];exact⟨_,_,hpt.mono hG10,(RQ.mono hg16 (hG8.trans hG9)).mono hG10,rfl⟩⟩,(hG.trans (hG7.trans (hG8.trans hG9))).trans hG10,by dsimp only;omega⟩
      rw[qC (fun k=>htt ((zde t t1).1 k))];rw[hK (fun k=>by rcases k with k | ⟨_,k | ⟨_,k⟩⟩ <;> contradiction)]at hnew;refine uR ?_;refine⟨(j+1,[.int .i64 c1,.bool (decide (t1.num<0)),.slice pa1 pl1 pc1,.slice pb1 pm1 pd1,.bool (decide (g1.num<0)),.slice qa1 ql1 qc1,.slice qb1 qm1 qd1]),⟨by dsimp only;rw[hnew];rfl,by dsimp only;rw[wn];rfl,trivial⟩,sB,⟨rfl,trivial⟩,sB,rfl,⟨hlj,by rw[hnew];exact⟨_,_,hpx.mono hG10,(RQ.mono hy1' (hG8.trans hG9)).mono hG10,rfl⟩⟩,(hG.trans (hG7.trans (hG8.trans hG9))).trans hG10,by dsimp only;omega⟩
     rw[show (c == c1)=false from pP.2 hc2];rw[hK (fun k=>by rcases k with k | ⟨_,k | ⟨k,_⟩⟩ <;> contradiction)]at hnew;refine uR ?_;refine⟨(j+1,[.int .i64 c1,.bool (decide (t1.num<0)),.slice pa1 pl1 pc1,.slice pb1 pm1 pd1,.bool (decide (g1.num<0)),.slice qa1 ql1 qc1,.slice qb1 qm1 qd1]),⟨by dsimp only;rw[hnew];rfl,by dsimp only;rw[wn];rfl,trivial⟩,sB,⟨rfl,trivial⟩,sB,rfl,⟨hlj,by rw[hnew];exact⟨_,_,hpx.mono (Hp.Le.refl _),(RQ.mono hy1' (hG8.trans hG9)).mono (Hp.Le.refl _),rfl⟩⟩,(hG.trans (hG7.trans (hG8.trans hG9))).trans (Hp.Le.refl _),by dsimp only;omega⟩
    rw[qC heq];rw[hK (fun k=>by rcases k with k | ⟨k,_⟩ <;> contradiction)]at hnew;refine uR ?_;refine⟨(j+1,[.int .i64 c1,.bool (decide (t1.num<0)),.slice pa1 pl1 pc1,.slice pb1 pm1 pd1,.bool (decide (g1.num<0)),.slice qa1 ql1 qc1,.slice qb1 qm1 qd1]),⟨by dsimp only;rw[hnew];rfl,by dsimp only;rw[wn];rfl,trivial⟩,sB,⟨rfl,trivial⟩,sB,rfl,⟨hlj,by rw[hnew];exact⟨_,_,hpx.mono (Hp.Le.refl _),(RQ.mono hy1' (hG8.trans hG9)).mono (Hp.Le.refl _),rfl⟩⟩,(hG.trans (hG7.trans (hG8.trans hG9))).trans (Hp.Le.refl _),by dsimp only;omega⟩
  ·simp only[nN]at hlj;obtain rfl:j=P.length:=oM;rw[qa,←hsn]at hcs2 ⊢;refine uR ?_;refine⟨(i+1,cs2),⟨rfl,by rw[zab i (by omega)];rfl,trivial⟩,sB,⟨rfl,trivial⟩,sB,rfl,⟨hlt,hcs2⟩,hG3.trans hG4,by dsimp only;omega⟩
 ·simp only[nN]at hlt;obtain rfl:i=cols.length:=oM;rw[qa]at hcs ⊢;generalize (zaA X cost (exL rs X.length) (max 1 least) cols).foldl zf2 none=st at *
  cases st with
  | none =>
   have hcs':cs=znl:=hcs;subst hcs';refine uR ?_;exact⟨znl,rfl,rfl⟩
  | some p =>
   obtain⟨c,t,g⟩:=p;obtain⟨x,y,h1,h2,rfl⟩:=hcs;obtain⟨xa,xl,xc,ya,yl,yc,rfl,hx1,hx2⟩:=id h1;obtain⟨xa',xl',xc',ya',yl',yc',rfl,hx3,hx4⟩:=id h2;refine uR ?_;exact⟨_,⟨_,_,h1,h2,rfl⟩,rfl⟩
section
variable {P:Program} {ops:Array Oper} {md:Region.Mode} {Q:Exit→Act→World→Prop} {I:World→Prop} {z:Option Nat}
def zmB (md:Region.Mode) (ops:Array Oper) (L:Array Bool) (i:Nat):Bool:=(List.range ops.size).all fun k => !L.getD k false || match ops[k]? with
 | some o => !o.after.any fun e=>Region.binds md e && e.on == i
 | none=>true
theorem zi5 {L:Array Bool} {i:Nat}:zmB md ops L i=true↔∀k o,ops[k]?=some o→L.getD k false=true→∀e∈o.after,Region.binds md e=true→e.on≠i:=by
 unfold zmB;rw[List.all_eq_true];constructor
 ·intro h k o ho hk e he hb heq;have h1:=h k (List.mem_range.2 (Array.getElem?_eq_some_iff.1 ho).1);rw[hk,ho]at h1;simp only[Bool.not_true,Bool.false_or,Bool.not_eq_true',Array.any_eq_false']at h1;have:=h1 e he;simp[hb,heq]at this
 ·intro h k hk
  cases hL:L.getD k false with
  | false=>rfl
  | true =>
   obtain⟨o,ho⟩:∃o,ops[k]?=some o:=⟨_,Array.getElem?_eq_getElem (List.mem_range.1 hk)⟩;rw[ho];simp only[Bool.not_true,Bool.false_or,Bool.not_eq_true',Array.any_eq_false'];intro e he
   cases hb:Region.binds md e with
   | false=>simp
   | true=>have:=h k o ho hL e he hb;simpa using this
def zen (z:Option Nat) (L:Array Bool):Bool:=match z with
 | none=>true
 | some k => !L.getD k false
def zte (md:Region.Mode) (ops:Array Oper) (z:Option Nat) (i:Nat):Bool:=match z with
 | none=>true
 | some k => !(k == i) && match ops[k]? with
  | some o=>o.after.any fun e=>Region.binds md e && e.on == i
  | none=>false
def zdN (P:Program) (md:Region.Mode) (ops:Array Oper) (Q:Exit→Act→World→Prop) (I:World→Prop) (z:Option Nat):Nat→Array Bool→Act→World→Prop
 | 0,L,a,w=>(zen z L=true→I w)∧Region.ready md ops L=[]∧Q .normal a w
 | f+1,L,a,w=>(zen z L=true→I w)∧(Region.ready md ops L=[]→Q .normal a w)∧∀i,i∈Region.ready md ops L→wpOp P ops Q i (zdN P md ops Q I z f (L.setIfInBounds i true)) a w
theorem zdN.now:∀{f:Nat} {L:Array Bool} {a:Act} {w:World},zdN P md ops Q I z f L a w→zen z L=true→I w
 | 0,_,_,_,h=>h.1
 | _+1,_,_,_,h=>h.1
theorem zdN.any:∀(f:Nat) (L:Array Bool) (a:Act) (w:World),zdN P md ops Q I z f L a w→wpAny P md ops Q f L a w
 | 0,_,_,_,h=>h.2
 | f+1,_,_,_,h=>⟨h.2.1,fun i hi=>wpOp_mono (fun a w k=>zdN.any f _ a w k) (h.2.2 i hi)⟩
def zif (P:Program) (ops:Array Oper) (I:World→Prop) (o:Oper) (v:Value) (a:Act):Prop :=
 Region.wanted o (yielded ops a.tmps)=true∧∀w,I w→(execOp a.eval o).run P w=.ok (.value v) w
theorem zif.op {i:Nat} {o:Oper} {v:Value} {a:Act} (hi:ops[i]?=some o) (hy:zif P ops I o v a) {K:Act→World→Prop} {w:World} (hw:I w) (h:K (a.put o.dst v) w):wpOp P ops Q i K a w:=by
 unfold wpOp;simp only[hi,hy.1,if_true,Oper.wp,hy.2 w hw,Oper.upon];exact .inl h
theorem zpV {j:Nat} {oj:Oper} (hj:ops[j]?=some oj) {Y:Act→Prop} (k1:∀a u,Y a→Y (a.put oj.dst u)) (k2:∀(a:Act) d,Y a→Y { a with defers:=d::a.defers }) {K:Act→World→Prop} {a:Act} {w:World} (hy:Y a) (h:wpOp P ops Q j K a w):wpOp P ops Q j (fun a' w'=>Y a'∧K a' w') a w:=by
 unfold wpOp at *
 simp only[hj]at *
 split
 ·rename_i hw;rw[if_pos hw]at h;refine h.imp (fun h=>?_) id;unfold Oper.wp at *
  generalize (execOp a.eval oj).run P w=r at *
  cases r with
  | ok n w' =>
   cases n <;> simp only[Oper.upon]at h ⊢
   case value u=>exact⟨k1 _ _ hy,h⟩
   case skip=>exact⟨k1 _ _ hy,h⟩
   case defer d=>exact⟨k1 _ _ (k2 _ _ hy),h⟩
   case enter f args =>
    refine Calls.mono h fun e w'' he=>?_
    cases e with
    | returned u=>exact⟨k1 _ _ hy,he⟩
    | _=>exact he
   case row row args=>exact Rows.mono h fun u w'' he=>⟨k1 _ _ hy,he⟩
  | halt x w'=>cases x <;> simp only[Oper.upon]at h ⊢ <;> exact h
 ·rename_i hw;rw[if_neg hw]at h;exact⟨k1 _ _ hy,h⟩
theorem zmX {oi oj:Oper} {v:Value} (h:oi.apart ops oj=true):Oper.apart ops { oi with op:=.move (.const v),guard:=none } oj=true:=by
 unfold Oper.apart at *
 rw[Bool.and_eq_true]at *
 refine⟨h.1,?_⟩
 cases oj.dst with
 | none=>rfl
 | some d=>rfl
theorem zlm {J:World→Prop} {i:Nat} {oi:Oper} {v:Value} (hi:ops[i]?=some oi) (hsel:Region.noSelect ops=true) (hQ:∀c a w,Q (.panic c) (a.put oi.dst v) w→Q (.panic c) a w) (hts:(zte md ops z i=true∧∀w,I w→J w)∨((∀w,J w)∧z≠some i)) :
  ∀(f:Nat) (L:Array Bool) (a:Act) (w:World),(∀j oj,ops[j]?=some oj→j≠i→L.getD j true=false→(∀e∈oj.after,Region.binds md e=true→e.on≠i)→oi.apart ops oj=true)→zmB md ops L i=true →
   i∈Region.ready md ops L→zif P ops J oi v a→zdN P md ops Q I z f (L.setIfInBounds i true) (a.put oi.dst v) w→zdN P md ops Q I z (f+1) L a w:=by
 have now:∀{f:Nat} {L:Array Bool} {a:Act} {w:World},zmB md ops L i=true→zdN P md ops Q I z f (L.setIfInBounds i true) (a.put oi.dst v) w→(zen z L=true→I w)∧J w:=fun {f L a w} hy H=>by
  rcases hts with ⟨hz,hJ⟩ | ⟨hJ,hz⟩
  ·have hI:I w:=H.now (by
    cases z with
    | none=>rfl
    | some k =>
     simp only[zte,Bool.and_eq_true,Bool.not_eq_true',pP]at hz;obtain⟨hki,hk⟩:=hz;show (!(L.setIfInBounds i true).getD k false)=true;rw[Go.getD_set_ne false (Ne.symm hki)]
     cases hL:L.getD k false with
     | false=>rfl
     | true =>
      cases ho:ops[k]? with
      | none=>rw[ho]at hk;cases hk
      | some o =>
       rw[ho]at hk;obtain⟨e,he,hb⟩:=Array.any_eq_true'.1 hk;simp only[Bool.and_eq_true,beq_iff_eq]at hb;exact absurd hb.2 (zi5.1 hy k o ho hL e he hb.1))
   exact⟨fun _=>hI,hJ _ hI⟩
  ·refine⟨fun h=>H.now ?_,hJ w⟩
   cases z with
   | none=>rfl
   | some k =>
    have hki:i≠k:=fun e=>hz (by rw[e]);show (!(L.setIfInBounds i true).getD k false)=true;rw[Go.getD_set_ne false hki];exact h
 intro f
 induction f with
 | zero =>
  intro L a w _ hy hr hY H;refine⟨(now hy H).1,fun h=>(by rw[h]at hr;cases hr),fun j hj=>?_⟩;by_cases hji:j=i
  ·subst hji;exact hY.op hi (now hy H).2 H
  ·have:=ready_mono hj hji;rw[H.2.1]at this;cases this
 | succ f ih =>
  intro L a w hfree hyt hr hy H;refine⟨(now hyt H).1,fun h=>(by rw[h]at hr;cases hr),fun j hj=>?_⟩;by_cases hji:j=i
  ·subst hji;exact hy.op hi (now hyt H).2 H
  ·have h1:=H.2.2 j (ready_mono hj hji);obtain⟨hjun,oj,hoj,hall⟩:=mem_ready.1 hj
   have hnot:∀e∈oj.after,Region.binds md e=true→e.on≠i:=fun e he hb heq=>by
    have h1:=hall e he hb;have h0:=(mem_ready.1 hr).1;rw[heq]at h1;rcases Nat.lt_or_ge i L.size with h' | h'
    ·simp[h']at h0 h1;rw[h0]at h1;cases h1
    ·simp[Array.getElem?_eq_none h']at h1
   have hap:=hfree j oj hoj hji hjun hnot;obtain⟨_,_,hap3⟩:=Oper.apart_spec hap;have hsi:=fun cs b=>Region.noSelect_spec hsel i oi cs b hi
   have h2:=wpOp_put (oi:={ oi with op:=.move (.const v),guard:=none }) hoj (zmX hap) (fun cs b e=>by cases e) (fun cs b=>Region.noSelect_spec hsel j oj cs b hoj) hQ
    (.inl ⟨rfl,fun w=>rfl⟩) h1
   have h3:=zpV (Y:=zif P ops J oi v) hoj (fun a u hy=>⟨by rw[wanted_put oi a oj.dst u hap3];exact hy.1,fun w hw=>by rw[execOp_put oi hsi a oj.dst u hap3];exact hy.2 w hw⟩) (fun a d hy=>hy) hy h2
   have hfree':∀k ok,ops[k]?=some ok→k≠i→(L.setIfInBounds j true).getD k true=false→(∀e∈ok.after,Region.binds md e=true→e.on≠i)→oi.apart ops ok=true:=fun k ok hk hki hun hno=>by
    refine hfree k ok hk hki ?_ hno;by_cases hjk:j=k
    ·subst hjk;exact hjun
    ·rw[Go.getD_set_ne true hjk]at hun;exact hun
   have hyt':zmB md ops (L.setIfInBounds j true) i=true:=zi5.2 fun k o ho hk=>by
    by_cases hjk:j=k
    ·subst hjk;cases hoj.symm.trans ho;exact hnot
    ·rw[Go.getD_set_ne false hjk]at hk;exact zi5.1 hyt k o ho hk
   refine wpOp_mono (fun a' w' h4=>ih (L.setIfInBounds j true) a' w' hfree' hyt' (ready_mono hr (Ne.symm hji)) h4.1 ?_) h3;rw[Array.setIfInBounds_comm _ _ hji];exact h4.2.2
end
def EVG (I:World→Prop) (z:Option Nat) (P:Program) (n:Nat) (ops:Array Oper) (fuel:Nat) (L:Array Bool) (env:Env) (bx:Bxs) (H:Hs) (K:Env→Bxs→Hs→Prop):Prop :=
 ∀W0 β a W,Rel n W0 H.base β env bx H a W→zdN P .any ops (fun e a W=>e=.normal∧zjG n W0 H.base (fun _ env bx H=>K env bx H) .normal a W) I z fuel L a W
abbrev EVI (z:Option Nat) (p:Nat × TypeId × List Value) (P:Program) (n:Nat) (ops:Array Oper) (fuel:Nat) (L:Array Bool) (env:Env) (bx:Bxs) (H:Hs) (K:Env→Bxs→Hs→Prop):Prop :=
 EVG (fun W=>Box W p.1 p.2.2.toArray p.2.1) z P n ops fuel L env bx H K
section
variable {I:World→Prop} {z:Option Nat} {p:Nat × TypeId × List Value} {n:Nat} {ops:Array Oper} {fuel:Nat} {L:Array Bool} {env:Env} {bx:Bxs} {H:Hs} {K:Env→Bxs→Hs→Prop} {d:Nat} {o:Oper} {v:Value}
theorem EVG.start (I:World→Prop) (z:Option Nat) {id:Nat} {l:List Oper} {Q:EQ} (h:EVG I z prog n l.toArray l.length (Array.replicate l.length false) env bx H (fun env bx H=>Q .normal env bx H)) (hm:Tryz.prog.follows .mixedOrders=true:=by kernel_rfl):EV prog n (.region id l.toArray true) env bx H Q :=
 EVA.start hm fun W0 β a W r=>(h W0 β a W r).any _ _ _ _
theorem EVI.start (z:Option Nat) (p:Nat × TypeId × List Value) {id:Nat} {l:List Oper} {Q:EQ} (h:EVI z p prog n l.toArray l.length (Array.replicate l.length false) env bx H (fun env bx H=>Q .normal env bx H)) (hm:Tryz.prog.follows .mixedOrders=true:=by kernel_rfl):EV prog n (.region id l.toArray true) env bx H Q:=EVG.start _ z h hm
theorem EVG.take {J:World→Prop} (i:Nat) (hts:(zte .any ops z i=true∧∀w,I w→J w)∨((∀w,J w)∧z≠some i)) (hi:ops[i]?=some o) (hs:Region.noSelect ops=true) (hf:Region.free .any ops L i=true) (hr:(Region.ready .any ops L).contains i=true) (hy:zmB .any ops L i=true) (hw:zah ops env o=some true) (hd:o.dst=some d) (hn:Nat.blt d n=true)
  (hx:∀(β:Nat→Nat) (a:Act) (W:World),(∀y s,env.op y=some s→s.rep β H.ro (a.eval y))→J W→(execOp a.eval o).run prog W=.ok (.value v) W)
  (h:EVG I z prog n ops fuel (L.setIfInBounds i true) ((d,.v v)::env) bx H K):EVG I z prog n ops (fuel+1) L env bx H K:=fun W0 β a W r=>by
 refine zlm (v:=v) hi hs (fun c a w e=>by cases e.1) hts fuel L a W (Region.free_spec hi hf) hy (by simpa using hr) ⟨r.want hw,fun w hI=>hx β a w (fun y s hy=>r.op hy) hI⟩ ?_;rw[hd];exact h W0 β _ W (r.put hn rfl rfl)
theorem IV (i:Nat) (h:EVG I z prog n ops fuel (L.setIfInBounds i true) ((d,.v v)::env) bx H K) (hi:ops[i]?=some o:=by exact rfl) (hs:Region.noSelect ops=true:=by kernel_rfl) (hf:Region.free .any ops L i=true:=by kernel_rfl) (hr:(Region.ready .any ops L).contains i=true:=by kernel_rfl) (hy:zmB .any ops L i=true:=by kernel_rfl) (hts:(z == some i)=false:=by kernel_rfl) (hw:zah ops env o=some true:=by exact rfl) (hd:o.dst=some d:=by exact rfl) (hn:Nat.blt d n=true:=by exact rfl)
  (hv:zp3 Tryz.tab env [] o.op=some (.v v):=by exact rfl) (hpl:zjT env o.op.operands.toList=true:=by exact rfl):EVG I z prog n ops (fuel+1) L env bx H K :=
 EVG.take (J:=fun _=>True) i (.inr ⟨fun _=>trivial,fun e=>by rw[e]at hts;simp at hts⟩) hi hs hf hr hy hw hd hn (fun β a W he _=>by
  obtain⟨x,hx,hr⟩:=zcm (β:=β) (H:=fun _=>none) (W:=W) (a:=a) tO hv (fun y s hm hy=>zjU (zfm hpl y (by simpa using hm)) hy (he y s hy)) (fun i T cs e=>by cases e) (fun b c e=>by cases e);have e:x=v:=hr;rw[←e];exact hx) h
theorem IN (i:Nat) {x:Operand} {c:Addr} (h:EVG I z prog n ops fuel (L.setIfInBounds i true) ((d,.v (.pointer (some c)))::env) bx H K) (hi:ops[i]?=some o:=by exact rfl) (hs:Region.noSelect ops=true:=by kernel_rfl) (hf:Region.free .any ops L i=true:=by kernel_rfl) (hr:(Region.ready .any ops L).contains i=true:=by kernel_rfl) (hy:zmB .any ops L i=true:=by kernel_rfl) (hts:(z == some i)=false:=by kernel_rfl) (hw:zah ops env o=some true:=by exact rfl) (hd:o.dst=some d:=by exact rfl) (hn:Nat.blt d n=true:=by exact rfl)
  (ho:o.op=.nilCheck x:=by exact rfl) (hx:env.op x=some (.v (.pointer (some c))):=by exact rfl):EVG I z prog n ops (fuel+1) L env bx H K :=
 EVG.take (J:=fun _=>True) i (.inr ⟨fun _=>trivial,fun e=>by rw[e]at hts;simp at hts⟩) hi hs hf hr hy hw hd hn (fun β a W he _=>ziQ ho hx _ W fun y x _ hy=>he y _ hy) h
theorem IF (i:Nat) {x:Operand} {T:TypeId} {te:TE} {f b q fo sz:Nat} {ag:Bool} (h:EVG I z prog n ops fuel (L.setIfInBounds i true) ((d,.v (.pointer (some ⟨b,q+fo,none⟩)))::env) bx H K) (hi:ops[i]?=some o:=by exact rfl) (hs:Region.noSelect ops=true:=by kernel_rfl) (hf:Region.free .any ops L i=true:=by kernel_rfl) (hr:(Region.ready .any ops L).contains i=true:=by kernel_rfl) (hy:zmB .any ops L i=true:=by kernel_rfl) (hts:(z == some i)=false:=by kernel_rfl) (hw:zah ops env o=some true:=by exact rfl) (hd:o.dst=some d:=by exact rfl) (hn:Nat.blt d n=true:=by exact rfl)
  (ho:o.op=.fieldAddr T x f:=by exact rfl) (hx:env.op x=some (.v (.pointer (some ⟨b,q,none⟩))):=by exact rfl) (ht:Tryz.tab.get T=some te:=by exact rfl) (hfd:te.fields[f]?=some (fo,ag,sz):=by exact rfl):EVG I z prog n ops (fuel+1) L env bx H K :=
 EVG.take (J:=fun _=>True) i (.inr ⟨fun _=>trivial,fun e=>by rw[e]at hts;simp at hts⟩) hi hs hf hr hy hw hd hn (fun β a W he _=>ziO tO ho ht hfd hx _ W fun y x _ hy=>he y _ hy) h
theorem IL0 (i:Nat) {x:Operand} {T:TypeId} {te:TE} {q:Nat} {l:List Value} (h:EVI z p prog n ops fuel (L.setIfInBounds i true) ((d,.v v)::env) bx H K) (hi:ops[i]?=some o:=by exact rfl) (hs:Region.noSelect ops=true:=by kernel_rfl) (hf:Region.free .any ops L i=true:=by kernel_rfl) (hr:(Region.ready .any ops L).contains i=true:=by kernel_rfl) (hy:zmB .any ops L i=true:=by kernel_rfl) (hts:zte .any ops z i=true:=by kernel_rfl) (hw:zah ops env o=some true:=by exact rfl) (hd:o.dst=some d:=by exact rfl) (hn:Nat.blt d n=true:=by exact rfl)
  (ho:o.op=.load T x:=by exact rfl) (hx:env.op x=some (.v (.pointer (some ⟨p.1,q,none⟩))):=by exact rfl) (ht:Tryz.tab.get T=some te:=by exact rfl) (hl:(p.2.2.drop q).take te.size=l:=by exact rfl) (hlen:l.length=te.size:=by exact rfl) (hv:zfa te.agg l=some v:=by exact rfl):EVI z p prog n ops (fuel+1) L env bx H K :=
 EVG.take (J:=fun w=>Box w p.1 p.2.2.toArray p.2.1) i (.inl ⟨hts,fun _ h=>h⟩) hi hs hf hr hy hw hd hn (fun β a W he hB=>by
  have ex:a.eval x=.pointer (some ⟨p.1,q,none⟩):=he x _ hx;have hrg:=hB.range q te.size;rw[hl]at hrg;have hrun:=zaY (tO.get ht) hrg hlen hv;unfold execOp;simp only[ho,ex,Sem.run_bind,hrun,Result.andThen_ok,Sem.run_pure]) h
theorem EVG.step (hI:zen z L=true→∀W0 β a W,Rel n W0 H.base β env bx H a W→I W) (hne:(Region.ready .any ops L).isEmpty=false) (hk:∀q,q∈Region.ready .any ops L→∃o,ops[q]?=some o∧EVL prog n ops [o] env bx H (fun e env bx H'=>e=.normal∧EVG I z prog n ops fuel (L.setIfInBounds q true) env bx H' K)):EVG I z prog n ops (fuel+1) L env bx H K:=fun W0 β a W r=>by
 refine⟨fun hn=>hI hn W0 β a W r,fun e=>(by rw[e]at hne;cases hne),fun q hq=>?_⟩;obtain⟨o,ho,h⟩:=hk q hq;have h1:=h W0 β a W r
 have hkk:∀a W,zjG n W0 H.base (fun e env bx H'=>e=.normal∧EVG I z prog n ops fuel (L.setIfInBounds q true) env bx H' K) .normal a W→zdN prog .any ops (fun e a W=>e=.normal∧zjG n W0 H.base (fun _ env bx H=>K env bx H) .normal a W) I z fuel (L.setIfInBounds q true) a W:=by
  rintro a W ⟨β',env',bx',H',hbase,⟨_,hE⟩,rel⟩;have:=hE W0 β' a W (by rw[hbase];exact rel)
  rwa [hbase]at this
 unfold wpOp;simp only[ho];unfold wpList at h1;split
 ·rename_i hw;rw[if_pos hw]at h1;rcases h1 with h1 | ⟨h1,h2⟩
  ·refine .inl (Oper.wp_exits (fun c a W hq=>?_) (fun hq=>?_) (Oper.wp_mono (fun a W h=>hkk a W h) h1))
   ·obtain⟨_,_,_,_,_,⟨e,_⟩,_⟩:=hq;cases e
   ·obtain⟨a0,w0,_,_,_,_,_,⟨e,_⟩,_⟩:=hq;cases e
  ·obtain⟨a0,w0,_,_,_,_,_,⟨e,_⟩,_⟩:=h2;cases e
 ·rename_i hw;rw[if_neg hw]at h1;exact hkk _ _ h1
theorem EVG.nil (hI:zen z L=true→∀W0 β a W,Rel n W0 H.base β env bx H a W→I W) (hr:(Region.ready .any ops L).isEmpty=true) (h:K env bx H):EVG I z prog n ops fuel L env bx H K:=fun W0 β a W r=>by
 have hr':=List.isEmpty_iff.1 hr;have hI:=fun hn=>hI hn W0 β a W r
 cases fuel with
 | zero=>exact⟨hI,hr',rfl,β,env,bx,H,rfl,h,r⟩
 | succ f=>exact⟨hI,fun _=>⟨rfl,β,env,bx,H,rfl,h,r⟩,fun i hi=>by rw[hr']at hi;cases hi⟩
theorem EVG.one (k:Nat) (hI:zen z L=true→∀W0 β a W,Rel n W0 H.base β env bx H a W→I W) (hr:(Region.ready .any ops L == [k])=true) (ho:ops[k]?=some o) (h:EVL prog n ops [o] env bx H (fun e env bx H'=>e=.normal∧EVG I z prog n ops fuel (L.setIfInBounds k true) env bx H' K)):EVG I z prog n ops (fuel+1) L env bx H K:=by
 have hr':=eq_of_beq hr;refine EVG.step hI (by rw[hr'];rfl) fun q hq=>?_;rw[hr',pJ]at hq;subst hq;exact⟨o,ho,h⟩
theorem EVG.two {o':Oper} (k k':Nat) (hI:zen z L=true→∀W0 β a W,Rel n W0 H.base β env bx H a W→I W) (hr:(Region.ready .any ops L == [k,k'])=true) (ho:ops[k]?=some o) (ho':ops[k']?=some o') (h:EVL prog n ops [o] env bx H (fun e env bx H'=>e=.normal∧EVG I z prog n ops fuel (L.setIfInBounds k true) env bx H' K))
  (h':EVL prog n ops [o'] env bx H (fun e env bx H'=>e=.normal∧EVG I z prog n ops fuel (L.setIfInBounds k' true) env bx H' K)):EVG I z prog n ops (fuel+1) L env bx H K:=by
 have hr':=eq_of_beq hr;refine EVG.step hI (by rw[hr'];rfl) fun q hq=>?_;rw[hr']at hq;rcases List.mem_cons.1 hq with rfl | hq
 ·exact⟨o,ho,h⟩
 ·obtain rfl:q=k':=by simpa using hq
  exact⟨o',ho',h'⟩
theorem zt1 {jj:Nat} (hj:zen z L=false∨H.ow[jj]?=some p):zen z L=true→∀W0 β a W,Rel n W0 H.base β env bx H a W→Box W p.1 p.2.2.toArray p.2.1:=fun hn W0 β a W r=>by
 rcases hj with hj | hj
 ·rw[hj]at hn;cases hn
 ·exact(r.own jj p.1 p.2.1 p.2.2 hj).1
theorem EVI.one (k jj:Nat) (hj:zen z L=false∨H.ow[jj]?=some p) (hr:(Region.ready .any ops L == [k])=true) (ho:ops[k]?=some o) (h:EVL prog n ops [o] env bx H (fun e env bx H'=>e=.normal∧EVI z p prog n ops fuel (L.setIfInBounds k true) env bx H' K)):EVI z p prog n ops (fuel+1) L env bx H K:=EVG.one k (zt1 hj) hr ho h
theorem EVI.two {o':Oper} (k k' jj:Nat) (hj:zen z L=false∨H.ow[jj]?=some p) (hr:(Region.ready .any ops L == [k,k'])=true) (ho:ops[k]?=some o) (ho':ops[k']?=some o') (h:EVL prog n ops [o] env bx H (fun e env bx H'=>e=.normal∧EVI z p prog n ops fuel (L.setIfInBounds k true) env bx H' K))
  (h':EVL prog n ops [o'] env bx H (fun e env bx H'=>e=.normal∧EVI z p prog n ops fuel (L.setIfInBounds k' true) env bx H' K)):EVI z p prog n ops (fuel+1) L env bx H K:=EVG.two k k' (zt1 hj) hr ho ho' h h'
theorem EVI.nil (jj:Nat) (hj:zen z L=false∨H.ow[jj]?=some p) (hr:(Region.ready .any ops L).isEmpty=true) (h:K env bx H):EVI z p prog n ops fuel L env bx H K:=EVG.nil (zt1 hj) hr h
end
def zaR (H:Hp) (css:List (List Value)) (ns:List Nd):Prop:=css.length=ns.length∧∀(j:Nat) (c:List Value) (n:Nd),css[j]?=some c→ns[j]?=some n→zdq H c n
theorem zaR.mono {H G:Hp} {css:List (List Value)} {ns:List Nd} (h:zaR H css ns) (k:H.Le G):zaR G css ns:=⟨h.1,fun j c n e1 e2=>(h.2 j c n e1 e2).mono k⟩
theorem zaR.snoc {H G:Hp} {css:List (List Value)} {ns:List Nd} (h:zaR H css ns) (k:H.Le G) {c:List Value} {n:Nd} (hc:zdq G c n):zaR G (css++[c]) (ns++[n]):=by
 refine⟨by simp[h.1],fun j c' n' e1 e2=>?_⟩;by_cases hj:j<css.length
 ·rw[qM hj]at e1;rw[qM (by rw[←h.1];exact hj)]at e2;exact(h.2 j c' n' e1 e2).mono k
 ·rw[qL (by omega)]at e1;rw[qL (by rw[←h.1];omega),←h.1]at e2
  have h0:j-css.length=0:=by
   have:=(qE.1 e1).1;simp at this;omega
  rw[h0]at e1 e2;cases e1;cases e2;exact hc
def ze7 (dv:Value) (D:Ows) (s:Int):Prop:=(dv=.pointer none∧D=[])∨∃bd T,dv=.pointer (some ⟨bd,0,none⟩)∧D=[(bd,T,[.int .u64 s])]∧0≤s
theorem zdq.len {H:Hp} {c:List Value} {n:Nd} (h:zdq H c n):c.length=15:=by
 obtain⟨b1,a1,l1,c1,a2,l2,c2,b3,a3,l3,c3,a4,l4,c4,b5,a5,l5,c5,a6,l6,c6,a7,c7,rfl,_⟩:=h.cells;rfl
theorem zcE {A c B:List Value} {k s f m q:Nat} (hA:A.length=k*s) (hq:q=k*s+f) (hf:f+m≤c.length):q+m≤(A++(c++B)).length:=by
 rw[qJ,qJ,hA,hq];omega
theorem zsb {l:List (List Value)} (h:∀c,c∈l→c.length=15):l.flatten.length=l.length*15:=by
 induction l with
 | nil=>rfl
 | cons c l ih=>rw[List.flatten_cons,qJ,h c (qf ..),ih (fun c hc=>h c (qk _ hc)),qR];omega
theorem zaR.mid {H:Hp} {css:List (List Value)} {A B:List Nd} {n:Nd} (h:zaR H css (A++n::B)):∃cA c cB,css=cA++c::cB∧cA.flatten.length=A.length*15∧zdq H c n∧∀(G:Hp) (c':List Value) (n':Nd),H.Le G→zdq G c' n'→zaR G (cA++c'::cB) (A++n'::B):=by
 have hl:=h.1;rw[qJ,qR]at hl;have hlt:A.length<css.length:=oM
 have e:css=css.take A.length++css[A.length]::css.drop (A.length+1):=by
  rw[←qo hlt,List.take_append_drop]
 have hla:(css.take A.length).length=A.length:=by rw[qP];omega
 refine⟨_,_,_,e,?_,h.2 A.length _ n (qA hlt) (by rw[qL (qH _),Nat.sub_self];rfl),?_⟩
 ·refine(zsb fun c hc=>?_).trans (by rw[hla]);obtain⟨j,hj⟩:=List.mem_iff_getElem?.1 (List.mem_of_mem_take hc);have hj':=(qE.1 hj).1;obtain⟨m,hm⟩:∃m,(A++n::B)[j]?=some m:=⟨_,qA (by rw[←h.1];exact hj')⟩;exact(h.2 j c m hj hm).len
 ·intro G c' n' hG hc;refine⟨by simp only[qJ,qR,hla,qp];omega,fun j c1 n1 e1 e2=>?_⟩;rcases Nat.lt_trichotomy j A.length with hj | rfl | hj
  ·rw[qM oM,List.getElem?_take_of_lt hj]at e1;rw[qM hj]at e2;exact(h.2 j c1 n1 e1 (by rw[qM hj];exact e2)).mono hG
  ·rw[qL oM,hla,Nat.sub_self]at e1;rw[qL (qH _),Nat.sub_self]at e2;cases e1;cases e2;exact hc
  ·obtain⟨k,rfl⟩:∃k,j=A.length+(k+1):=⟨j-A.length-1,by omega⟩;rw[qL oM,hla,Nat.add_sub_cancel_left,pL,List.getElem?_drop]at e1;rw[qL oM,Nat.add_sub_cancel_left,pL]at e2;exact(h.2 (A.length+(k+1)) c1 n1 (by rw[←e1];congr 1;omega) (by rw[qL oM,Nat.add_sub_cancel_left,pL];exact e2)).mono hG
theorem zaE.mid {e:TypeId} {v:Value} {m:Nat} {cA cB:List (List Value)} {c:List Value} {ow:Ows} (h:zaE e 15 v m (cA++c::cB).flatten ow) (hc:c.length=15):∃g cap sp,v=.slice (some ⟨g,0,none⟩) m cap∧ow=[(g,e,cA.flatten++(c++(cB.flatten++sp)))]∧∀c',c'.length=15→zaE e 15 v m (cA++c'::cB).flatten [(g,e,cA.flatten++(c'++(cB.flatten++sp)))]:=by
 have hl:=h.1;rcases h.2 with ⟨_,rfl,_⟩ | ⟨g,cap,sp,rfl,rfl,h1,h2,h3⟩
 ·simp[hc]at hl
 ·have e1:∀c':List Value,(cA++c'::cB).flatten=cA.flatten++(c'++cB.flatten):=fun c'=>by simp
  rw[e1]at hl h1;refine⟨g,cap,sp,rfl,by rw[e1];simp,fun c' hc'=>⟨?_,.inr ⟨g,cap,sp,rfl,by rw[e1];simp,?_,h2,h3⟩⟩⟩
  ·rw[e1,←hl];simp[hc,hc']
  ·rw[e1,←h1];simp[hc,hc']
theorem zp5.cells {G:Hp} {o:Option (Int × Rat × Rat)} {cs:List Value} (h:zp5 G o cs):∃c b1 a1 l1 c1 a2 l2 c2 b3 a3 l3 c3 a4 l4 c4,cs=[.int .i64 c,.bool b1,.slice a1 l1 c1,.slice a2 l2 c2,.bool b3,.slice a3 l3 c3,.slice a4 l4 c4]∧∀c' t g,o=some (c',t,g)→c=c'∧RQ G (.agg #[.bool b1,.slice a1 l1 c1,.slice a2 l2 c2]) t∧RQ G (.agg #[.bool b3,.slice a3 l3 c3,.slice a4 l4 c4]) g:=by
 cases o with
 | none=>exact⟨_,_,_,_,_,_,_,_,_,_,_,_,_,_,_,h,fun c' t g e=>by cases e⟩
 | some p =>
  obtain⟨x,y,h1,h2,rfl⟩:=h;obtain⟨a1,l1,c1,a2,l2,c2,rfl,_⟩:=id h1;obtain⟨a3,l3,c3,a4,l4,c4,rfl,_⟩:=id h2;exact⟨_,_,_,_,_,_,_,_,_,_,_,_,_,_,_,rfl,fun c' t g e=>by cases e;exact⟨rfl,h1,h2⟩⟩
section
variable {P:Program} {n:Nat} {ops:Array Oper} {o1 o2:Oper} {rest:List Oper} {env:Env} {bx:Bxs} {H:Hs} {Q:EQ} {d d1:Nat}
end
end
section
section
variable {α:Type}
variable {lt:α→α→Bool}
end
end
section
open Go.RowKit _root_.Go.Proofs.Tryz
section
variable {α:Type} {enc:α→Value} {w w':World} {B:Nat} {T:TypeId} {cap:Nat} {l:List α}
end
set_option maxRecDepth 100000 in
theorem zqX {H:Hp} {vx:Value} {X:List (List Rat)} (hX:RLL H vx X) {w:Nat} (hw:∀x,x∈X→x.length=w) (h1:1≤w) (h0:0<X.length) (hn:X.length≤1000000):PC prog 82 #[vx] H fun r _=>r=.bool true:=by
 obtain⟨xa,xc,rfl⟩:=hX.val;refine BD func82 ntmps82 ?_;refine uR ?_;refine EV.loopK (ι:=Nat) [0] [] (fun q=>[(3,.v (.int .i64 (q:Int)))]) (fun _=>[]) (fun _=>[]) (fun q _=>q≤X.length) (fun q=>X.length-q) (0) rfl rfl ⟨rfl,trivial⟩ trivial rfl (fun _=>rfl) (qQ _) ?_;rintro i G1 hG1 hi;obtain⟨vs,hvs,hs⟩:=hX.mono hG1;obtain⟨x0,hx0⟩:=gE h0;obtain⟨u0,e0,hu0,_⟩:=hvs.at hx0;have hw0:=hw x0 (qF hx0);refine uR ?_;refine EV.cond rfl (fun hlt=>?_) (fun hlt=>?_)
 ·simp only[nN]at hlt;obtain⟨x,hx⟩:=gE hlt;obtain⟨u1,e1,hu1,_⟩:=hvs.at hx;have hw1:=hw x (qF hx);rw[hw0]at hu0;rw[hw1]at hu1;refine uR ?_;apply EV.drawn 18 kR kR;intro xv yw;(repeat refine' DD ?_);refine' vJ (hs) (i) (rfl) (hlt) (hu1) ?_;rotate_left;(repeat refine' DD ?_);refine' vJ (hs) (0) (rfl) (h0) (hu0) ?_;rotate_left;(repeat refine' DD ?_);rw[show ((w:Int) != (w:Int))=false from pO _];(repeat refine' DD ?_);refine' vJ (hs) (i) (rfl) (hlt) (hu1) ?_;rotate_left;(repeat refine' DD ?_);rw[show ((w:Int) == 0)=false from pP.2 (by omega)];(repeat refine' DD ?_);(refine DJ.nil (fun G hG hF=>?_);(case hS|hS2=>rfl));refine uR ?_;refine⟨i+1,⟨by rw[zab i (by omega)];rfl,trivial⟩,sB,trivial,trivial,rfl,hlt,hG,by omega⟩
 ·try refine uR ?_
  rw[qD (show (X.length:Int)>0 by omega)]
theorem zqC {H:Hp} {vx:Value} {X:List (List Rat)} (hX:RLL H vx X) {w:Nat} (hw:∀x,x∈X→x.length=w) (h1:1≤w) (h2:w≤20) (h0:0<X.length) (hn:X.length≤300):PC prog 44 #[vx] H fun r _=>r=.bool true:=by
 obtain⟨xa,xc,rfl⟩:=hX.val;have hr:=zqX hX hw h1 h0 oM;obtain⟨vs,hvs,hs⟩:=id hX;obtain⟨x0,hx0⟩:=gE h0;obtain⟨u0,e0,hu0,_⟩:=hvs.at hx0;rw[hw x0 (qF hx0)]at hu0;refine BD func44 ntmps44 ?_
 repeat (first|refine RUN ?_|refine CV (hr) ?_|refine CE (hr) ?_)
 rw[qD (show (X.length:Int)≤300 by omega)];refine uR ?_;refine vI (hs) (0) (rfl) (h0) (hu0) ?_;refine uR ?_;rw[qD (show (w:Int)≤20 by omega)]
 try refine uR ?_
abbrev ziN (deep least:Int) (g1 g2 g3:Value):Value:=.agg #[.int .i64 deep,.int .i64 least,g1,g2,g3]
abbrev zmC (deep least:Int) (g:Rat):Prop:=deep≥0∧deep≤10∧least≥1∧least≤300∧0≤g
theorem zmh (q:Rat):(q.num.sign≥0)↔0≤q:=⟨fun h=>Rat.num_nonneg.1 (Int.sign_nonneg_iff.1 h),fun h=>Int.sign_nonneg_iff.2 (Rat.num_nonneg.2 h)⟩
theorem zdE {p:Prop} [Decidable p] (h:¬p):Value.bool false=.bool (decide p):=congrArg Value.bool (qC h).symm
theorem zpb {H:Hp} {deep least:Int} {b1:Bool} {a1 a2:Option Addr} {l1 c1 l2 c2:Nat} {q:Rat} (hq:RQ H (.agg #[.bool b1,.slice a1 l1 c1,.slice a2 l2 c2]) q):PC prog 47 #[ziN deep least (.bool b1) (.slice a1 l1 c1) (.slice a2 l2 c2)] H fun r _=>r=.bool (decide (zmC deep least q)):=by
 have hs:=zdZ hq;refine BD func47 ntmps47 ?_;refine uR ?_;by_cases h1:deep≥0
 case neg =>
  rw[qC h1];refine uR ?_;exact zdE fun k=>h1 k.1
 rw[qD h1];refine uR ?_;by_cases h2:deep≤10
 case neg =>
  rw[qC h2];refine uR ?_;exact zdE fun k=>h2 k.2.1
 rw[qD h2];refine uR ?_;by_cases h3:least≥1
 case neg =>
  rw[qC h3];refine uR ?_;exact zdE fun k=>h3 k.2.2.1
 rw[qD h3];refine uR ?_;by_cases h4:least≤300
 case neg =>
  rw[qC h4];refine uR ?_;exact zdE fun k=>h4 k.2.2.2.1
 rw[qD h4]
 repeat (first|refine RUN ?_|refine CV (hs) ?_|refine CE (hs) ?_)
 exact congrArg Value.bool (decide_eq_decide.2 ((zmh q).trans ⟨fun k=>⟨h1,h2,h3,h4,k⟩,fun k=>k.2.2.2.2⟩))
theorem zqV {H:Hp} {deep least:Int} {b1:Bool} {a1 a2:Option Addr} {l1 c1 l2 c2:Nat} {q:Rat} (hq:RQ H (.agg #[.bool b1,.slice a1 l1 c1,.slice a2 l2 c2]) q) (h0:0≤q) (hd:0≤deep∧deep≤10) (hl:1≤least∧least≤300):PC prog 47 #[ziN deep least (.bool b1) (.slice a1 l1 c1) (.slice a2 l2 c2)] H fun r _=>r=.bool true:=by
 have:=zpb (deep:=deep) (least:=least) hq;rw[qD (show zmC deep least q from ⟨hd.1,hd.2,hl.1,hl.2,h0⟩)]at this;exact this
def ztr (n N:Nat) (ck:Int) (fb:Bool) (rows:List Int):Int:=if n=N then (if ck=0∧fb=true∧∀r,r∈rows→0≤r∧r<(n:Int) then 0 else 1) else 5
theorem zlI {n N:Nat} {ck:Int} {fb:Bool} {rows:List Int} (h:n≠N):ztr n N ck fb rows=5:=if_neg h
theorem zfB {n:Nat} {ck:Int} {fb:Bool} {rows:List Int} (h:¬(ck=0∧fb=true∧∀r,r∈rows→0≤r∧r<(n:Int))):ztr n n ck fb rows=1:=(if_pos rfl).trans (if_neg h)
theorem zlH {n:Nat} {rows:List Int} (h:∀r,r∈rows→0≤r∧r<(n:Int)):ztr n n 0 true rows=0:=(if_pos rfl).trans (if_pos ⟨rfl,rfl,h⟩)
theorem znB {H:Hp} {v:Value} (h:RLL H v []):PC prog 82 #[v] H fun r _=>r=.bool false:=by
 obtain⟨a,c,rfl⟩:=h.val;refine BD func82 ntmps82 ?_;refine uR ?_;refine EV.loopK (ι:=Nat) [0] [] (fun q=>[(3,.v (.int .i64 (q:Int)))]) (fun _=>[]) (fun _=>[]) (fun q _=>q=0) (fun q=>0) (0) rfl rfl ⟨rfl,trivial⟩ trivial rfl (fun _=>rfl) (rfl) ?_;rintro i G1 hG1 rfl;refine uR ?_;rfl
theorem zny {H:Hp} {v:Value} (h:RLL H v []):PC prog 44 #[v] H fun r _=>r=.bool false:=by
 have hr:=znB h;obtain⟨a,c,rfl⟩:=h.val;refine BD func44 ntmps44 ?_
 repeat (first|refine RUN ?_|refine CV (hr) ?_|refine CE (hr) ?_)
 rfl
theorem znx {H:Hp} {kd cl deep least ck:Int} {la va:Option Addr} {ln lc vn vc N:Nat} {vx vr:Value} {X:List (List Rat)} {rows:List Int} {w:Nat} {b1 fb:Bool} {a1 a2:Option Addr} {l1 c1 l2 c2:Nat}
  (hck:PC prog 46 #[zas kd cl (.slice la ln lc) (.slice va vn vc)] H fun r _=>r=.int .i64 ck) (hlen:PV prog 45 #[zas kd cl (.slice la ln lc) (.slice va vn vc)] (.int .i64 (N:Int)))
  (hX:RLL H vx X) (hw:∀x,x∈X→x.length=w) (h1:1≤w) (h2:w≤20) (hN:1≤N) (hn:X.length≤300) (hr:IL H vr rows) (hr0:0<rows.length) (hrn:rows.length≤300)
  (hf:PC prog 47 #[ziN deep least (.bool b1) (.slice a1 l1 c1) (.slice a2 l2 c2)] H fun r _=>r=.bool fb) :
  PC prog 25 #[zas kd cl (.slice la ln lc) (.slice va vn vc),vx,vr,ziN deep least (.bool b1) (.slice a1 l1 c1) (.slice a2 l2 c2)] H fun r _=>r=.int .i64 (ztr X.length N ck fb rows):=by
 obtain⟨ra,rc,rfl⟩:=SlC.val hr;by_cases h0:X.length=0
 ·have hne:X.length≠N:=oM;obtain rfl:=qz.1 h0;have hlearn:=zny hX;obtain⟨xa,xc,rfl⟩:=hX.val;refine BD func25 ntmps25 ?_
  repeat (first|refine RUN ?_|refine CV (hlearn) ?_|refine CE (hlearn) ?_)
  rw[zlI hne]
 have hlearn:=zqC hX hw h1 h2 oM hn;obtain⟨xa,xc,rfl⟩:=hX.val;refine BD func25 ntmps25 ?_
 repeat (first|refine RUN ?_|refine CV (hlearn) ?_|refine CV (hlen) ?_|refine CE (hlearn) ?_|refine CE (hlen) ?_)
 by_cases hne:X.length=N
 case neg =>
  rw[show ((N:Int) != (X.length:Int))=true from bne_iff_ne.2 (by omega)];refine uR ?_;rw[zlI hne]
 subst hne;rw[show ((X.length:Int) != (X.length:Int))=false from pO _];refine uR ?_;rw[show ((rows.length:Int) == 0)=false from pP.2 (by omega)];refine uR ?_;rw[qC (show ¬(rows.length:Int)>300 by omega)]
 repeat (first|refine RUN ?_|refine CV (hck) ?_|refine CE (hck) ?_)
 by_cases hc0:ck=0
 case neg =>
  rw[show (ck != 0)=true from bne_iff_ne.2 hc0];refine uR ?_;rw[zfB fun k=>hc0 k.1]
 subst hc0
 repeat (first|refine RUN ?_|refine CV (hf) ?_|refine CE (hf) ?_)
 cases fb
 case false =>
  refine uR ?_;rw[zfB fun k=>by cases k.2.1]
 refine uR ?_;refine EV.loopK (ι:=Nat) [1,2] [] (fun q=>[(9,.v (.int .i64 (q:Int)))]) (fun _=>[]) (fun _=>[]) (fun q _=>q≤rows.length∧∀r,r∈rows.take q→0≤r∧r<(X.length:Int)) (fun q=>rows.length-q) (0) rfl rfl ⟨rfl,trivial⟩ trivial rfl (fun _=>rfl) (⟨qQ _,fun r hr=>by cases hr⟩) ?_;rintro i G1 hG1 ⟨hi,hall⟩;refine uR ?_;refine EV.cond rfl (fun hlt=>?_) (fun hlt=>?_)
 ·simp only[nN]at hlt;obtain⟨r,hri⟩:=gE hlt;have hmem:=qF hri;refine uR ?_;refine vI ((hr.mono hG1)) (i) (rfl) (hlt) ((by rw[qK,hri];rfl)) ?_;refine uR ?_;by_cases hr0:r<0
  ·rw[qD hr0];refine uR ?_;rw[zfB fun k=>by have:=k.2.2 r hmem;omega]
  rw[qC hr0];refine uR ?_;refine vI ((hr.mono hG1)) (i) (rfl) (hlt) ((by rw[qK,hri];rfl)) ?_;refine uR ?_;by_cases hrx:r≥(X.length:Int)
  ·rw[qD hrx];refine uR ?_;rw[zfB fun k=>by have:=k.2.2 r hmem;omega]
  rw[qC hrx];refine uR ?_;refine⟨i+1,⟨by rw[zab i (by omega)];rfl,trivial⟩,sB,trivial,trivial,rfl,⟨hlt,fun y hy=>?_⟩,Hp.Le.refl _,by omega⟩;rw[zan hri]at hy;rcases List.mem_append.1 hy with h | h
  ·exact hall y h
  ·rw[pJ.1 h];omega
 ·simp only[nN]at hlt;obtain rfl:i=rows.length:=oM;rw[qa]at hall;refine uR ?_;rw[zlH hall]
def zhs (H:Hp) (cs:List Value) (kd cl w:Int) (ns:List Nd):Prop:=∃a c css,cs=[.int .i64 kd,.int .i64 cl,.int .i64 w,.slice a ns.length c]∧zaR H css ns∧SlC H (.slice a ns.length c) ns.length 15 css.flatten
theorem zhs.mono {H G:Hp} {cs:List Value} {kd cl w:Int} {ns:List Nd} (h:zhs H cs kd cl w ns) (k:H.Le G):zhs G cs kd cl w ns:=by
 obtain⟨a,c,css,e,h1,h2⟩:=h;exact⟨a,c,css,e,h1.mono k,h2.mono k⟩
end
section
structure Tr where
 kd:Int
 cl:Int
 w:Int
 ns:List Nd
end
section
open Go.RowKit _root_.Go.Proofs.Tryz
theorem ziL {α β:Type} {R:α→β→Prop} {xs:List α} {ys:List β} (h:xs.length=ys.length∧∀(j:Nat) (x:α) (y:β),xs[j]?=some x→ys[j]?=some y→R x y) {x:α} {y:β} (k:R x y):(xs++[x]).length=(ys++[y]).length∧∀(j:Nat) (x':α) (y':β),(xs++[x])[j]?=some x'→(ys++[y])[j]?=some y'→R x' y':=by
 refine⟨by simp[h.1],fun j x' y' e1 e2=>?_⟩;by_cases hj:j<xs.length
 ·rw[qM hj]at e1;rw[qM (by rw[←h.1];exact hj)]at e2;exact h.2 j x' y' e1 e2
 ·rw[qL (by omega)]at e1;rw[qL (by rw[←h.1];omega),←h.1]at e2
  have h0:j-xs.length=0:=by
   have:=(qE.1 e1).1;simp at this;omega
  rw[h0]at e1 e2;cases e1;cases e2;exact k
end
section
inductive Sub (T:List Nd) (w:Int):Nat→Nat→Nat→Prop
 | leaf {k h:Nat} {n:Nd}:T[k]?=some n→n.col = -1→n.left=0→n.right=0→n.at'=0→Sub T w k h (k+1)
 | node {k h m e:Nat} {n:Nd}:T[k]?=some n→0≤n.col→n.col<w→n.left=((k+1:Nat):Int)→n.right=(m:Int)→Sub T w (k+1) h m→Sub T w m h e→Sub T w k (h+1) e
theorem Sub.lt {T:List Nd} {w:Int} {k h e:Nat} (h0:Sub T w k h e):k<e∧e≤T.length:=by
 induction h0 with
 | leaf hn _ _ _ _ =>
  have:=(qE.1 hn).1;omega
 | node _ _ _ _ _ _ _ ih1 ih2=>omega
theorem Sub.up {T:List Nd} {w:Int} {k h e:Nat} (h0:Sub T w k h e):∀{h':Nat},h≤h'→Sub T w k h' e:=by
 induction h0 with
 | leaf a b c d e=>exact fun _=>.leaf a b c d e
 | node a b c d e _ _ ih1 ih2 =>
  intro h' hh;obtain⟨h1,rfl⟩:∃h1,h'=h1+1:=⟨h'-1,by omega⟩;exact .node a b c d e (ih1 oM) (ih2 oM)
structure OkN (kd cl:Int) (n:Nd):Prop where
 rows:1≤n.rows∧n.rows≤1048576
 cost:0≤n.cost
 len:(n.counts.length:Int)=cl
 pos:∀c,c∈n.counts→0≤c
 sum:kd=1→n.counts.sum=n.rows
 cls:n.cls=(topN n.counts n.counts.length:Int)
 value:kd=1→n.value=0
 small:ht n.at'≤200∧ht n.cost≤2000000∧ht n.value≤4000
structure OkC (n a b:Nd):Prop where
 rows:n.rows=a.rows+b.rows
 counts:∀k:Nat,n.counts.getD k 0=a.counts.getD k 0+b.counts.getD k 0
 cost:a.cost+b.cost≤n.cost
def zlr (kd cl:Int) (T:List Nd) (i:Nat):Prop:=∃n,T[i]?=some n∧OkN kd cl n∧(n.col ≠ -1→0≤n.col∧0≤n.left∧0≤n.right∧∃a b,T[n.left.toNat]?=some a∧T[n.right.toNat]?=some b∧OkC n a b)
structure zp1 (p:GP) (kd cl:Int) (w:Nat):Prop where
 kind:(kd=1∧1≤cl∧cl≤12)∨(kd=2∧cl=0)
 rowsX:p.X.length≤300
 wide:∀x,x∈p.X→x.length=w
 small:∀x,x∈p.X→∀q,q∈x→ht q≤60
 clen:∀l,((p.cnt l).length:Int)=cl
 cadd:∀r l m:List Int,r.Perm (l++m)→∀k:Nat,(p.cnt r).getD k 0=(p.cnt l).getD k 0+(p.cnt m).getD k 0
 cpos:∀l c,c∈p.cnt l→0≤c
 csum:kd=1→∀l,(∀r,r∈l→0≤r∧r<(p.X.length:Int))→(p.cnt l).sum=(l.length:Int)
 zero:kd=1→∀l,p.mean l=0
 cost0:∀l,0≤p.cost l
 csm:∀l:List Int,l.length≤300→(∀r,r∈l→0≤r∧r<(p.X.length:Int))→ht (p.cost l)≤2000000
 msm:∀l:List Int,l.length≤300→(∀r,r∈l→0≤r∧r<(p.X.length:Int))→ht (p.mean l)≤4000
 gain:0≤p.gain
 cols:∀s c,c∈(p.cols s).1→0≤c∧c<(w:Int)
theorem zkS (l:List Int) (f:Int→Bool):l.Perm (l.filter f++l.filter fun x => !f x):=by
 induction l with
 | nil=>exact List.Perm.nil
 | cons x l ih =>
  cases h:f x with
  | true=>rw[List.filter_cons_of_pos h,List.filter_cons_of_neg (by simp[h])];exact List.Perm.cons x ih
  | false=>rw[List.filter_cons_of_neg (by simp[h]),List.filter_cons_of_pos (by simp[h])];exact(List.Perm.cons x ih).trans List.perm_middle.symm
theorem zrw {p:GP} {kd cl:Int} {w:Nat} (hp:zp1 p kd cl w) {rows:List Int} {s c:Int} {t:Rat} (hb:∀r,r∈rows→0≤r∧r<(p.X.length:Int)) (h:p.cut rows (p.cols s).1=some (c,t)) :
  (0≤c∧c<(w:Int))∧ht t≤200∧1≤(zbe p.X c t rows).length∧1≤(zay p.X c t rows).length∧rows.Perm (zbe p.X c t rows++zay p.X c t rows)∧p.cost (zbe p.X c t rows)+p.cost (zay p.X c t rows)≤p.cost rows:=by
 unfold GP.cut at h
 cases hbe:p.best rows (p.cols s).1 with
 | none=>rw[hbe]at h;cases h
 | some q =>
  obtain⟨c',t',g⟩:=q;rw[hbe]at h;dsimp only at h;split at h
  ·cases h
  ·rename_i hg;cases h;have hf:=zcP (zaA p.X p.cost rows (max 1 p.least) (p.cols s).1);rw[show (zaA p.X p.cost rows (max 1 p.least) (p.cols s).1).foldl zf2 none=some (c,t,g) from hbe]at hf;have hm:=hf.1;unfold zaA zbG at hm;obtain⟨c2,hc2,hm⟩:=List.mem_flatMap.1 hm;obtain⟨t2,ht2,hm⟩:=List.mem_flatMap.1 hm;split at hm
   ·rename_i hL;cases pJ.1 hm;have hcw:=hp.cols s c hc2
    have hall:∀r,r∈rows→zcI p.X c r=true:=fun r hr=>by
     obtain⟨R,rfl⟩:=qh (hb r hr).1;have hR:=(hb _ hr).2;unfold zcI;obtain⟨x,hx⟩:∃x,p.X[R]?=some x:=⟨_,qA oM⟩;rw[qU,qB,hx,Option.getD_some,hp.wide x (qF hx)];simp;omega
    have hlo:zbe p.X c t rows=rows.filter fun r=>decide (zbv p.X c r≤t):=by
     unfold zbe;exact List.filter_congr fun r hr=>by rw[hall r hr,Bool.true_and]
    have hhi:zay p.X c t rows=rows.filter fun r => !decide (zbv p.X c r≤t):=by
     unfold zay;exact List.filter_congr fun r hr=>by rw[hall r hr,Bool.true_and]
    have hpm:rows.Perm (zbe p.X c t rows++zay p.X c t rows):=by rw[hlo,hhi];exact zkS _ _
    have h0:=hp.gain;refine⟨hcw,zo2 hp.small ht2,by omega,by omega,hpm,?_⟩;have:p.gain<p.cost rows-(p.cost (zbe p.X c t rows)+p.cost (zay p.X c t rows)):=Rat.not_le.1 hg;grind
   ·cases hm
theorem ztD {p:GP} {kd cl:Int} {w:Nat} (hp:zp1 p kd cl w) {rows:List Int} (h1:1≤rows.length) (h2:rows.length≤300) (hb:∀r,r∈rows→0≤r∧r<(p.X.length:Int)) {c l r:Int} {t:Rat} (ht':ht t≤200):OkN kd cl { p.nd rows with col:=c,left:=l,right:=r,at':=t } :=
 ⟨⟨by show 1≤(rows.length:Int);omega,by show (rows.length:Int)≤1048576;omega⟩,hp.cost0 rows,hp.clen rows,hp.cpos rows,fun e=>hp.csum e rows hb,rfl,fun e=>hp.zero e rows,ht',hp.csm rows h2 hb,hp.msm rows h2 hb⟩
theorem zop {p:GP} {kd cl:Int} {w:Nat} (hp:zp1 p kd cl w):∀(d k:Nat) (rows:List Int) (s:Int),1≤rows.length→rows.length≤300→(∀r,r∈rows→0≤r∧r<(p.X.length:Int))→∀T:List Nd,(∀(j:Nat) (n:Nd),(p.grow d k rows s).1[j]?=some n→T[k+j]?=some n) →
  Sub T w k d (k+(p.grow d k rows s).1.length)∧(∃n,T[k]?=some n∧n.rows=(rows.length:Int)∧n.counts=p.cnt rows∧n.cost=p.cost rows)∧∀j,j<(p.grow d k rows s).1.length→zlr kd cl T (k+j):=by
 have single:∀(d k:Nat) (rows:List Int),1≤rows.length→rows.length≤300→(∀r,r∈rows→0≤r∧r<(p.X.length:Int))→∀T:List Nd,(∀(j:Nat) (n:Nd),[p.nd rows][j]?=some n→T[k+j]?=some n) →
   Sub T w k d (k+1)∧(∃n,T[k]?=some n∧n.rows=(rows.length:Int)∧n.counts=p.cnt rows∧n.cost=p.cost rows)∧∀j,j<1→zlr kd cl T (k+j):=by
  intro d k rows h1 h2 hb T hT;have h0:=hT 0 _ rfl;rw[qY]at h0;refine⟨.leaf h0 rfl rfl rfl rfl,⟨_,h0,rfl,rfl,rfl⟩,fun j hj=>?_⟩;obtain rfl:j=0:=oM;refine⟨_,by rw[qY];exact h0,ztD hp h1 h2 hb (c:=-1) (l:=0) (r:=0) (t:=0) (by rw[zcr];decide),fun e=>absurd rfl e⟩
 intro d
 induction d with
 | zero =>
  intro k rows s h1 h2 hb T hT;rw[GP.grow_zero]at hT ⊢;exact single 0 k rows h1 h2 hb T hT
 | succ d ih =>
  intro k rows s h1 h2 hb T hT
  cases hc:p.cut rows (p.cols s).1 with
  | none =>
   rw[GP.grow_none hc]at hT ⊢;exact single (d+1) k rows h1 h2 hb T hT
  | some ct =>
   obtain⟨c,t⟩:=ct;obtain⟨hcw,htb,hl1,hr1,hpm,hcost⟩:=zrw hp hb hc;have hll:(zbe p.X c t rows).length≤300:=qI (List.length_filter_le _ _) h2;have hhl:(zay p.X c t rows).length≤300:=qI (List.length_filter_le _ _) h2;have hlm:∀r,r∈zbe p.X c t rows→0≤r∧r<(p.X.length:Int):=fun r hr=>hb r (List.mem_filter.mp hr).1;have hhm:∀r,r∈zay p.X c t rows→0≤r∧r<(p.X.length:Int):=fun r hr=>hb r (List.mem_filter.mp hr).1;rw[GP.grow_some hc]at hT ⊢;have hLl:=p.grow_len d (k+1) (zbe p.X c t rows) (p.cols s).2;have ihL:=ih (k+1) (zbe p.X c t rows) (p.cols s).2 hl1 hll hlm T;generalize p.grow d (k+1) (zbe p.X c t rows) (p.cols s).2=L at *
   obtain⟨Ls,s2⟩:=L;have hRl:=p.grow_len d (k+1+Ls.length) (zay p.X c t rows) s2;have ihR:=ih (k+1+Ls.length) (zay p.X c t rows) s2 hr1 hhl hhm T;dsimp only at hT hLl ihL ⊢;generalize p.grow d (k+1+Ls.length) (zay p.X c t rows) s2=R at *
   obtain⟨Rs,s3⟩:=R;dsimp only at hT hRl ihR ⊢;have h0:=hT 0 _ rfl;rw[qY]at h0
   obtain⟨sL,⟨a,ha,ha1,ha2,ha3⟩,nL⟩:=ihL (fun j n hj=>by
    have:=hT (j+1) n (by rw[pL,qM (qE.1 hj).1];exact hj);rw[show k+1+j=k+(j+1) by omega];exact this)
   obtain⟨sR,⟨b,hb',hb1,hb2,hb3⟩,nR⟩:=ihR (fun j n hj=>by
    have:=hT (j+Ls.length+1) n (by rw[pL,qL oM,Nat.add_sub_cancel];exact hj);rw[show k+1+Ls.length+j=k+(j+Ls.length+1) by omega];exact this)
   have hlen:rows.length=(zbe p.X c t rows).length+(zay p.X c t rows).length:=by rw[hpm.length_eq,qJ]
   have hroot:zlr kd cl T k:=by
    refine⟨_,h0,ztD hp h1 h2 hb htb,fun _=>⟨hcw.1,Int.natCast_nonneg _,Int.natCast_nonneg _,a,b,by rw[qU];exact ha,by rw[qU];exact hb',⟨?_,fun q=>?_,?_⟩⟩⟩
    ·rw[ha1,hb1];show (rows.length:Int)=_;omega
    ·rw[ha2,hb2];exact hp.cadd _ _ _ hpm q
    ·rw[ha3,hb3];exact hcost
   refine⟨?_,⟨_,h0,rfl,rfl,rfl⟩,fun j hj=>?_⟩
   ·rw[qR,qJ,show k+(Ls.length+Rs.length+1)=k+1+Ls.length+Rs.length by omega];exact .node h0 hcw.1 hcw.2 rfl rfl sL sR
   ·rw[qR,qJ]at hj
    cases j with
    | zero=>exact hroot
    | succ j =>
     by_cases h:j<Ls.length
     ·rw[show k+(j+1)=k+1+j by omega];exact nL j h
     ·rw[show k+(j+1)=k+1+Ls.length+(j-Ls.length) by omega];exact nR _ oM
structure zce (t:Tr):Prop where
 kind:(t.kd=1∧1≤t.cl∧t.cl≤12)∨(t.kd=2∧t.cl=0)
 wide:1≤t.w∧t.w≤20
 len:t.ns.length≤2000
 sub:∃h,h≤10∧Sub t.ns t.w 0 h t.ns.length
 nodes:∀i,i<t.ns.length→zlr t.kd t.cl t.ns i
theorem zoq {p:GP} {kd cl:Int} {w D:Nat} (hp:zp1 p kd cl w) (hw:1≤w∧w≤20) (hD:D≤9) {rows:List Int} (h1:1≤rows.length) (h2:rows.length≤300) (hb:∀r,r∈rows→0≤r∧r<(p.X.length:Int)) (s:Int):zce ⟨kd,cl,w,(p.grow D 0 rows s).1⟩:=by
 obtain⟨h3,_,h4⟩:=zop hp D 0 rows s h1 h2 hb (p.grow D 0 rows s).1 (fun j n hj=>by rw[qt];exact hj);have hl:=(p.grow_len D 0 rows s).2;have hpow:2 ^ (D+1)≤2 ^ 10:=qc oM oM;rw[qt]at h3;exact⟨hp.kind,⟨by show (1:Int)≤w;omega,by show (w:Int)≤20;omega⟩,by show (p.grow D 0 rows s).1.length≤2000;omega,⟨D,by omega,h3⟩,fun i hi=>by have:=h4 i hi;rwa [qt]at this⟩
end
section
open Go.RowKit _root_.Go.Proofs.Tryz
theorem zaR.get {H:Hp} {css:List (List Value)} {ns:List Nd} (h:zaR H css ns) {j:Nat} {n:Nd} (hj:ns[j]?=some n):∃c,(css.flatten.drop (j*15)).take 15=c∧zdq H c n:=by
 have hlt:=(qE.1 hj).1;obtain⟨c,hc⟩:∃c,css[j]?=some c:=⟨_,qA (by rw[h.1];exact hlt)⟩;refine⟨c,?_,h.2 j c n hc hj⟩
 have h15:∀x,x∈css→(id x).length=15:=fun x hx=>by
  obtain⟨i,hi⟩:=List.mem_iff_getElem?.1 hx;have hi':=(qE.1 hi).1;exact(h.2 i x _ hi (qA (by rw[←h.1];exact hi'))).len
 have:=zdQ id 15 css h15 j c hc
 rwa [List.flatMap_id]at this
abbrev zri (kd cl w:Int) (vn:Value):Value:=.agg #[.int .i64 kd,.int .i64 cl,.int .i64 w,vn]
theorem zbE {l:List Int} (h:∀c,c∈l→0≤c) (k:Nat):0≤(l.take k).sum∧(l.take k).sum≤l.sum:=by
 have h0:∀m:List Int,(∀c,c∈m→0≤c)→0≤m.sum:=fun m=>by
  induction m with
  | nil=>exact fun _=>Int.le_refl 0
  | cons c m ih=>intro hm;rw[List.sum_cons];have:=hm c (qf ..);have:=ih fun c hc=>hm c (qk _ hc);omega
 have e:l.sum=(l.take k).sum+(l.drop k).sum:=by rw[←List.sum_append,List.take_append_drop]
 have h1:=h0 (l.take k) fun c hc=>h c (List.mem_of_mem_take hc);have h2:=h0 (l.drop k) fun c hc=>h c (List.mem_of_mem_drop hc);omega
theorem zpw {q:Rat} (h:0≤q):¬q.num.sign<0:=by
 have:=Rat.num_nonneg.2 h;intro k;have:=Int.sign_nonneg_iff.2 this;omega
theorem Sub.end0 {T:List Nd} {w:Int} {h e:Nat} (h0:Sub T w 0 h e):0<T.length:=by
 have:=h0.lt;omega
def zfR (z:Int):Prop:=-9223372036854775808≤z∧z<9223372036854775808
structure zi9 (kd cl:Int) (n:Nat) (cost mean:List Int→Rat) (cnt:List Int→List Int):Prop where
 kind:(kd=1∧1≤cl∧cl≤12)∨(kd=2∧cl=0)
 clen:∀l,((cnt l).length:Int)=cl
 cadd:∀r l m:List Int,r.Perm (l++m)→∀k:Nat,(cnt r).getD k 0=(cnt l).getD k 0+(cnt m).getD k 0
 cpos:∀l c,c∈cnt l→0≤c
 csum:kd=1→∀l,(∀r,r∈l→0≤r∧r<(n:Int))→(cnt l).sum=(l.length:Int)
 zero:kd=1→∀l,mean l=0
 cost0:∀l,0≤cost l
 csm:∀l:List Int,l.length≤300→(∀r,r∈l→0≤r∧r<(n:Int))→ht (cost l)≤2000000
 msm:∀l:List Int,l.length≤300→(∀r,r∈l→0≤r∧r<(n:Int))→ht (mean l)≤4000
theorem zhe:∀l:List Rat,(∀q,q∈l→0≤q)→0≤zaJ l
 | [],_=>by rw[zd1];exact Rat.le_refl
 | x::l,h=>by
  rw[zaH];exact Rat.add_nonneg (h x (.head _)) (zhe l fun q hq=>h q (.tail _ hq))
theorem zkM (m:Rat) (l:List Rat):0≤zaJ (zdx m l):=zhe _ fun q hq=>by
 obtain⟨v,_,rfl⟩:=List.mem_map.1 hq;exact zke _
theorem zjs (L:List Int):0≤zfP L:=by
 unfold zfP;have h1:=zh5 L;by_cases h0:L.length=0
 ·obtain rfl:=qz.1 h0;decide +kernel
 ·have hp:(0:Rat)<((L.length:Int):Rat):=by
   have:((0:Int):Rat)<((L.length:Int):Rat):=Rat.intCast_lt_intCast.2 oM;exact this
  have h2:((sqL L:Int):Rat)≤((L.length:Int):Rat)*((L.length:Int):Rat):=by
   rw[←Rat.intCast_mul];exact Rat.intCast_le_intCast.2 (by exact_mod_cast h1)
  generalize ((L.length:Int):Rat)=N at *
  generalize ((sqL L:Int):Rat)=S at *
  have h3:0≤N⁻¹:=Rat.le_of_lt (Rat.inv_pos.2 hp);have h4:0≤N*N-S:=by grind
  have h5:=Rat.mul_nonneg h4 h3;have hne:N≠0:=by grind
  have h6:N*N⁻¹=1:=Rat.mul_inv_cancel N hne;have h7:(N*N-S)*N⁻¹=N-S / N:=by rw[Rat.div_def];grind
  rw[h7]at h5;exact h5
theorem zmm {α:Type} (f:α→Nat):∀l:List α,(l.map fun x=>(f x:Int)).sum=(((l.map f).sum:Nat):Int)
 | []=>rfl
 | x::l=>by
  rw[qw,qw,List.sum_cons,List.sum_cons,zmm f l];omega
theorem zqh {C:Nat} {L:List Int} (h:∀z,z∈L→0≤z∧z<(C:Int)):(zds C L).sum=(L.length:Int):=by
 have h1:=(ziX C L h).2;unfold zds;rw[zmm (fun k:Nat=>L.count (k:Int)),←h1]
theorem zgl (C:Nat) (L:List Int) (k:Nat):(zds C L).getD k 0=if k<C then (L.count (k:Int):Int) else 0:=by
 rw[qB];by_cases h:k<C
 ·rw[zfb _ h,if_pos h];rfl
 ·rw[qe (by rw[zbo];omega),if_neg h];rfl
theorem zqg (C:Nat) {R L M:List Int} (h:R.Perm (L++M)) (k:Nat):(zds C R).getD k 0=(zds C L).getD k 0+(zds C M).getD k 0:=by
 rw[zgl,zgl,zgl,h.count_eq,List.count_append];split <;> omega
theorem zp9 {ls:List Int} {rs:List Int} (h:∀r,r∈rs→0≤r∧r<(ls.length:Int)):∀q,q∈atI ls rs→q∈ls:=fun q hq=>by
 obtain⟨r,hr,rfl⟩:=List.mem_map.1 hq;have:=h r hr;have hl:r.toNat<ls.length:=oM;rw[qB,qA hl];exact List.getElem_mem hl
theorem znA {l:List Int} {n w:Nat}:∀x,x∈zfS l n w→x.length=w∧∀q,q∈x→ht q≤60:=fun x hx=>⟨(zmc x hx).1,fun q hq=>qI ((zmc x hx).2 q hq) oM⟩
def zbO (H:Hp) (cs:List Value) (n:Nd):Prop:=∃a c,IL H (.slice a n.counts.length c) n.counts ∧
 cs=[.int .i64 n.col,.int .i64 n.left,.int .i64 n.right,.int .i64 n.rows,.int .i64 n.cls]++(zac (zae n.at')++(zac (zae n.cost)++(zac (zae n.value)++[.slice a n.counts.length c])))
theorem zbO.mono {H G:Hp} {cs:List Value} {n:Nd} (h:zbO H cs n) (k:H.Le G):zbO G cs n:=by
 obtain⟨a,c,h1,e⟩:=h;exact⟨a,c,h1.mono k,e⟩
theorem zbO.len {H:Hp} {cs:List Value} {n:Nd} (h:zbO H cs n):cs.length=21:=by
 obtain⟨a,c,_,rfl⟩:=h;rfl
theorem zbO.one {H:Hp} {cs:List Value} {n:Nd} (h:zbO H cs n):zdt cs=true:=by
 obtain⟨a,c,_,rfl⟩:=h;rfl
theorem zts (cs:List Value):[Value.agg cs.toArray].flatMap zac=cs:=by
 show zac (.agg cs.toArray)++[]=cs;rw[qG];rfl
theorem ztt (c:List Value):[c].flatten=c:=List.flatten_singleton
def zdn (H:Hp) (css:List (List Value)) (ns:List Nd):Prop:=css.length=ns.length∧∀(j:Nat) (c:List Value) (n:Nd),css[j]?=some c→ns[j]?=some n→zbO H c n
theorem zdn.mono {H G:Hp} {css:List (List Value)} {ns:List Nd} (h:zdn H css ns) (k:H.Le G):zdn G css ns:=⟨h.1,fun j c n e1 e2=>(h.2 j c n e1 e2).mono k⟩
theorem zdn.get {H:Hp} {css:List (List Value)} {ns:List Nd} (h:zdn H css ns) {j:Nat} {n:Nd} (hj:ns[j]?=some n):∃c,(css.flatten.drop (j*21)).take 21=c∧zbO H c n:=by
 have hlt:=(qE.1 hj).1;obtain⟨c,hc⟩:∃c,css[j]?=some c:=⟨_,qA (by rw[h.1];exact hlt)⟩;refine⟨c,?_,h.2 j c n hc hj⟩
 have h21:∀x,x∈css→(id x).length=21:=fun x hx=>by
  obtain⟨i,hi⟩:=List.mem_iff_getElem?.1 hx;have hi':=(qE.1 hi).1;exact(h.2 i x _ hi (qA (by rw[←h.1];exact hi'))).len
 have:=zdQ id 21 css h21 j c hc
 rwa [List.flatMap_id]at this
def zd4 (H:Hp) (cs:List Value) (kd cl w:Int) (ns:List Nd):Prop:=∃a c css,cs=[.int .i64 kd,.int .i64 cl,.int .i64 w,.slice a ns.length c]∧zdn H css ns∧SlC H (.slice a ns.length c) ns.length 21 css.flatten
theorem zd4.mono {H G:Hp} {cs:List Value} {kd cl w:Int} {ns:List Nd} (h:zd4 H cs kd cl w ns) (k:H.Le G):zd4 G cs kd cl w ns:=by
 obtain⟨a,c,css,e,h1,h2⟩:=h;exact⟨a,c,css,e,h1.mono k,h2.mono k⟩
def znX (n:Nd):Prop:=rq n.at'∧rq n.cost∧rq n.value∧n.counts.length≤1000000
set_option maxRecDepth 100000 in
theorem zow {H:Hp} {cs:List Value} {kd cl w:Int} {ns:List Nd} (h:zhs H cs kd cl w ns) (hs:∀n,n∈ns→znX n) (hl:ns.length≤1000000) :
  PC prog 9 #[.agg cs.toArray] H fun r H'=>∃cs',r=.agg cs'.toArray∧zd4 H' cs' kd cl w ns:=by
 obtain⟨a,c,css,rfl,hns,hsl⟩:=h;refine BD func9 ntmps9 ?_;refine uR ?_;refine EV.loopK (ι:=Nat × Value × List (List Value) × Ows) [1,2,3] [1,2] (fun q=>[(4,.v (.int .i64 (q.1:Int)))]) (fun q=>[(3,52,[.int .i64 kd,.int .i64 cl,.int .i64 w,q.2.1])]) (fun q=>q.2.2.2) (fun q G=>q.1≤ns.length∧zdn G q.2.2.1 (ns.take q.1)∧zaE 100 21 q.2.1 q.1 q.2.2.1.flatten q.2.2.2) (fun q=>ns.length-q.1) ((0,.slice none 0 0,[],[])) rfl rfl ⟨rfl,trivial⟩ ⟨rfl,trivial⟩ rfl (fun _=>rfl) (⟨qQ _,⟨rfl,fun j c n e1 e2=>by cases e1⟩,zaE.nil _ _⟩) ?_;rintro⟨i,u,ps,ow⟩ G1 hG1 ⟨hi,hps,hown⟩;dsimp only at hi hps hown;obtain⟨wa,wc,rfl⟩:=hown.val;refine uR ?_;refine EV.cond rfl (fun hlt=>?_) (fun hlt=>?_)
 ·simp only[nN]at hlt;obtain⟨n,hni⟩:=gE hlt;obtain⟨q1,q2,q3,q4⟩:=hs n (qF hni);obtain⟨cc,hcut,hnd⟩:=(hns.mono hG1).get hni;obtain⟨b1,a1,l1,c1,a2,l2,c2,b3,a3,l3,c3,a4,l4,c4,b5,a5,l5,c5,a6,l6,c6,a7,c7,rfl,k1,k2,k3,k4⟩:=hnd.cells;refine uR ?_;refine EVL.idxM tO rfl rfl rfl rfl rfl rfl rfl rfl rfl ((hsl.mono hG1)) (i) (rfl) (hlt) (hcut) ?_;refine uR ?_;by_cases e:n.counts.length=0
  ·have hc0:n.counts=[]:=qz.1 e;rw[e];apply EV.drawn 27 kR kR;intro xv yw;(repeat refine' DD ?_);refine' vC (cO func31) (fun G hG hd=>zjE (RQ.mono k1 hG) q1) ?_;rotate_left;(repeat refine' DD ?_);refine' vC (cO func31) (fun G hG hd=>zjE (RQ.mono k2 hG) q2) ?_;rotate_left;(repeat refine' DD ?_);refine' vC (cO func31) (fun G hG hd=>zjE (RQ.mono k3 hG) q3) ?_;rotate_left;(repeat refine' DD ?_);(refine' DJ.lit0 tO rfl rfl rfl rfl rfl rfl rfl ?_;rotate_left);(repeat refine' DD ?_);refine' DJ.append0E (u0:=xv 21) tO rfl rfl rfl rfl rfl rfl rfl rfl rfl (a7) (c7) rfl (fun G hd=>hd.head kR) ?_;rotate_left
   (refine' DJ.plainE tO (fun v G=>∃cs,v=.agg cs.toArray∧zbO G cs n) (fun v G G' ⟨cs,e,h⟩ k=>⟨cs,e,h.mono k⟩) rfl rfl rfl (fun G hd=>(by
    obtain⟨g8,e8⟩:∃g,xv 24=.slice (some ⟨g,0,none⟩) 0 0:=hd.head kR;rw[e8];exact⟨_,rfl,_,rfl,some ⟨g8,0,none⟩,0,(by rw[hc0];exact IL.nil _ _ _),by rw[hc0];rfl⟩)) ?_;rotate_left)
   (refine' DJ.litD1 (Φ:=fun v G=>∃cs,SlC G v 1 21 cs∧zbO G cs n) (fun v G G' ⟨cs,e,h⟩ k=>⟨cs,e.mono k,h.mono k⟩) tO rfl rfl rfl rfl rfl rfl rfl rfl rfl rfl rfl (fun G hd=>by obtain⟨cs,e,h⟩:=hd.head kR;rw[e];exact h.len) (fun G G' v hd hG h=>(by
    obtain⟨cs,e,hp⟩:=hd.head kR;rw[e,zts]at h;exact⟨cs,h,hp.mono hG⟩)) ?_;rotate_left)
   (refine DJ.nil (fun G2 hG2 hF2=>?_);(case hS|hS2=>rfl));obtain⟨cs2,hs2,hp2⟩:=hF2.1;refine EVL.append tO rfl rfl rfl rfl rfl rfl rfl rfl rfl rfl rfl rfl [] ow [] (qG _).symm hown (zb7.ro hs2 (Nat.succ_pos 0)) hp2.one oM ?_;intro v1 ow1 hown1;obtain⟨va,vc,rfl⟩:=hown1.val;refine uR ?_;refine⟨(i+1,.slice va (i+1) vc,ps++[cs2],ow1),⟨by dsimp only;rw[zab i (by omega)];rfl,trivial⟩,sB,⟨rfl,trivial⟩,sB,qG _,⟨hlt,by dsimp only;rw[zan hni];exact ziL (hps.mono hG2) hp2,by dsimp only;rw[List.flatten_append,ztt];exact hown1⟩,hG2,by dsimp only;omega⟩
  ·have hls:SlC G1 (.slice a7 n.counts.length c7) n.counts.length 1 (n.counts.map iv):=k4;apply EV.drawn 27 kR kR;intro xv yw;(repeat refine' DD ?_);refine' vC (cO func31) (fun G hG hd=>zjE (RQ.mono k1 hG) q1) ?_;rotate_left;(repeat refine' DD ?_);refine' vC (cO func31) (fun G hG hd=>zjE (RQ.mono k2 hG) q2) ?_;rotate_left;(repeat refine' DD ?_);refine' vC (cO func31) (fun G hG hd=>zjE (RQ.mono k3 hG) q3) ?_;rotate_left;(repeat refine' DD ?_);(refine' DJ.lit0 tO rfl rfl rfl rfl rfl rfl rfl ?_;rotate_left);(repeat refine' DD ?_);refine' DJ.appendE (u0:=xv 21) tO rfl rfl rfl rfl rfl rfl rfl rfl rfl rfl (fun G hd=>hd.head kR) (hls) (Nat.pos_of_ne_zero e) oM ?_;rotate_left
   (refine' DJ.plainE tO (fun v G=>∃cs,v=.agg cs.toArray∧zbO G cs n) (fun v G G' ⟨cs,e,h⟩ k=>⟨cs,e,h.mono k⟩) rfl rfl rfl (fun G hd=>(by
    have hA:SlC G (xv 24) n.counts.length 1 (n.counts.map iv):=hd.head kR;obtain⟨a8,c8,e8⟩:=SlC.val hA;rw[e8]at hA;rw[e8];exact⟨_,rfl,_,rfl,_,_,hA,rfl⟩)) ?_;rotate_left)
   (refine' DJ.litD1 (Φ:=fun v G=>∃cs,SlC G v 1 21 cs∧zbO G cs n) (fun v G G' ⟨cs,e,h⟩ k=>⟨cs,e.mono k,h.mono k⟩) tO rfl rfl rfl rfl rfl rfl rfl rfl rfl rfl rfl (fun G hd=>by obtain⟨cs,e,h⟩:=hd.head kR;rw[e];exact h.len) (fun G G' v hd hG h=>(by
    obtain⟨cs,e,hp⟩:=hd.head kR;rw[e,zts]at h;exact⟨cs,h,hp.mono hG⟩)) ?_;rotate_left)
   (refine DJ.nil (fun G2 hG2 hF2=>?_);(case hS|hS2=>rfl));obtain⟨cs2,hs2,hp2⟩:=hF2.1;refine EVL.append tO rfl rfl rfl rfl rfl rfl rfl rfl rfl rfl rfl rfl [] ow [] (qG _).symm hown (zb7.ro hs2 (Nat.succ_pos 0)) hp2.one oM ?_;intro v1 ow1 hown1;obtain⟨va,vc,rfl⟩:=hown1.val;refine uR ?_;refine⟨(i+1,.slice va (i+1) vc,ps++[cs2],ow1),⟨by dsimp only;rw[zab i (by omega)];rfl,trivial⟩,sB,⟨rfl,trivial⟩,sB,qG _,⟨hlt,by dsimp only;rw[zan hni];exact ziL (hps.mono hG2) hp2,by dsimp only;rw[List.flatten_append,ztt];exact hown1⟩,hG2,by dsimp only;omega⟩
 ·simp only[nN]at hlt;obtain rfl:i=ns.length:=oM;rw[qa]at hps;(first|refine EVL.publishL [] ow [] ((qG _).symm) hown fun G2 hG2 hs2=>?_|refine EV.publishL [] ow [] ((qG _).symm) hown fun G2 hG2 hs2=>?_);refine uR ?_;exact⟨_,rfl,_,_,_,rfl,hps.mono hG2,hs2⟩
theorem zqF {H:Hp} {v:Value} {cl:Int} {sl sv:Value}:PC prog 145 #[zas 1 cl sl sv,v] H fun r _=>r=zae 0:=by
 refine BD func145 ntmps145 ?_;refine uR ?_;exact zbU.symm
section
variable {P:Program} {n:Nat} {ops:Array Oper} {o:Oper} {rest:List Oper} {env:Env} {bx:Bxs} {sb:Bxs} {ow:Ows} {H:Hs} {Q:EQ} {τ:Tab} {d:Nat} {s:SV}
theorem EVL.callWC {f:FuncId} {t:Nat} {args:Array Operand} {tys:Array TypeId} (ho:o.op=.call ⟨.value (.tmp t),args,tys⟩) (hw:zah ops env o=some true) (hd:o.dst=some d) (hn:Nat.blt d n=true)
  {cs:List Value} (ht:env.op (.tmp t)=some (.v (.func (.func f) #[] cs.toArray))) {vs:List Value} (ha:zbf env args.toList some=some vs) (L R:Ows) (e:H.ow=L++R) {Φ:Value→Ows→Hp→Prop} (hpc:PW P f (vs++cs).toArray H.ro L Φ)
  (h:∀v ow H',Φ v ow H'→H.ro.Le H'→EVL P n ops rest ((d,.v v)::env) bx ⟨H',ow++R,H.base⟩ Q):EVL P n ops (o::rest) env bx H Q:=fun W0 β a W r=>by
 obtain⟨vs',hk,hm⟩:=za0 env _ _ _ ha;cases hk;have hvs:=hm β H.ro a.eval (fun y s _ hy=>r.op hy);have htv:a.eval (.tmp t)=.func (.func f) #[] cs.toArray:=r.op ht;unfold wpList;rw[if_pos (r.want hw)];refine .inl ?_;unfold Oper.wp;rw[zfK hpc.can ho htv hvs,Oper.upon_enter]
 have up:∀(j b:Nat) (T:TypeId) (cs:List Value),L[j]?=some (b,T,cs)→H.ow[j]?=some (b,T,cs):=fun j b T cs hj=>by
  rw[e,qM (qE.1 hj).1];exact hj
 refine(hpc.run W r.fits r.globW (fun j b T cs hj=>?_) (fun j j' b T T' cs cs' hj hj'=>r.one j j' b T T' cs cs' (up _ _ _ _ hj) (up _ _ _ _ hj'))).mono ?_
 ·obtain⟨h1,h2,h3,_⟩:=r.own j b T cs (up _ _ _ _ hj);refine⟨h1,h3,?_⟩;rcases h2 with h2 | h2
  ·cases hg:gH b with
   | none=>rfl
   | some c=>have:=r.glob.1.lt (b:=b) (by rw[hg];simp);omega
  ·exact(r.glob.2 b h2).1
 ·rintro e' W' ⟨v,ow,H',rfl,hΦ,hle,hf,hnw,hkp,hown,hdist⟩;rw[hd];exact h v ow H' hΦ hle W0 β _ W' ((r.callW e hle hf hnw hkp hown hdist).put hn rfl rfl)
end
section
variable {P:Program} {n:Nat} {ops:Array Oper} {o:Oper} {rest:List Oper} {env:Env} {bx:Bxs} {H:Hs} {Q:EQ} {d:Nat}
end
theorem zqR {H:Hp} {kd cl:Int} {sl sv vx vr vc:Value} {p:GP} {S:List Int→List Value} {wo:List Int→Rat} {rows cols:List Int} {least:Int} (hg:GOk H kd cl sl sv p.X.length S wo) (hp:POk wo p.cost) (hX:QLL H vx p.X) (hr:IL H vr rows) (hn:rows.length≤20) (hb:∀r,r∈rows→0≤r∧r<(p.X.length:Int)) (hc:IL H vc cols) (hcn:cols.length≤1000000) (hx:∀x,x∈p.X→∀q,q∈x→ht q≤100) (hpl:p.least=least) :
  PC prog 147 #[zas kd cl sl sv,vx,vr,vc,.int .i64 least] H fun r _=>r=.tuple #[.agg (zrv (p.best rows cols)).toArray,.bool (p.best rows cols).isSome]:=by
 refine(zr1 hg hX hr hn hc hcn hx).mono ?_;rintro r G ⟨ps,h1,h2,h3⟩ _;rw[zdz hb]at h2 h3;have e:=zkE hp h1 h2
 have e2:p.best rows cols=(zb9 ps).map fun t=>(t.1,t.2.1,t.2.2-wo rows):=by
  unfold GP.best;rw[hpl,show max 1 least=max least 1 from Int.max_comm _ _];exact e.symm
 rcases h3 with ⟨h4,rfl⟩ | ⟨c,a,w,h4,rfl⟩
 ·rw[e2,h4];rfl
 ·rw[e2,h4];rfl
structure zky (H:Hp) (kd cl:Int) (sl sv:Value) (p:GP) (S:List Int→List Value) (wo:List Int→Rat):Prop where
 ok:GOk H kd cl sl sv p.X.length S wo
 pok:POk wo p.cost
 counts:∀G,H.Le G→∀u l,IL G u l→l.length≤300→PC prog 146 #[zas kd cl sl sv,u] G fun r H'=>IL H' r (p.cnt (exL l p.X.length))
 cntlen:∀l,(p.cnt l).length≤12
 top:∀G,H.Le G→∀u l,IL G u l→l.length≤300→PC prog 143 #[zas kd cl sl sv,u] G fun r _=>r=.int .i64 (topN (p.cnt (exL l p.X.length)) (p.cnt (exL l p.X.length)).length:Nat)
 mean:∀G,H.Le G→∀u l,IL G u l→l.length≤300→PC prog 145 #[zas kd cl sl sv,u] G fun r _=>r=zae (p.mean (exL l p.X.length))
 small:∀l:List Int,l.length≤300→(∀r,r∈l→0≤r∧r<(p.X.length:Int))→ht (p.cost l)≤2000000
 cost:∀G,H.Le G→∀u l,IL G u l→l.length≤300→PC prog 144 #[zas kd cl sl sv,u] G fun r _=>r=zae (p.cost (exL l p.X.length))
theorem zky.mono {H H':Hp} {kd cl:Int} {sl sv:Value} {p:GP} {S:List Int→List Value} {wo:List Int→Rat} (h:zky H kd cl sl sv p S wo) (k:H.Le H'):zky H' kd cl sl sv p S wo :=
 ⟨h.ok.mono k,h.pok,fun G hG=>h.counts G (k.trans hG),h.cntlen,fun G hG=>h.top G (k.trans hG),fun G hG=>h.mean G (k.trans hG),h.small,fun G hG=>h.cost G (k.trans hG)⟩
theorem zbO.cells {H:Hp} {cs:List Value} {n:Nd} (h:zbO H cs n):∃a c,cs=[.int .i64 n.col,.int .i64 n.left,.int .i64 n.right,.int .i64 n.rows,.int .i64 n.cls,
  .bool (decide (n.at'.num<0)),.int .u64 (lo n.at'.num.natAbs:Int),.string (zam n.at'.num.natAbs),.int .u64 (lo (dk n.at'.den):Int),.string (zam (dk n.at'.den)),
  .bool (decide (n.cost.num<0)),.int .u64 (lo n.cost.num.natAbs:Int),.string (zam n.cost.num.natAbs),.int .u64 (lo (dk n.cost.den):Int),.string (zam (dk n.cost.den)),
  .bool (decide (n.value.num<0)),.int .u64 (lo n.value.num.natAbs:Int),.string (zam n.value.num.natAbs),.int .u64 (lo (dk n.value.den):Int),.string (zam (dk n.value.den)),.slice a n.counts.length c]∧IL H (.slice a n.counts.length c) n.counts:=by
 obtain⟨a,c,h1,rfl⟩:=h;exact⟨a,c,rfl,h1⟩
abbrev ze5 (kd cl w:Int) (vn:Value) (far:Int):List Value:=[.int .i64 kd,.int .i64 cl,.int .i64 w,vn,.int .i64 far]
set_option maxRecDepth 100000 in
theorem zsA {kd cl w:Int} {a:Option Addr} {cp:Nat} {ns:List Nd} (hln:ns.length≤1000000) {k h e:Nat} (hsub:Sub ns w k h e):∀{H:Hp} {css:List (List Value)} {b:Nat} {T:TypeId} {deep:Nat} {far:Int},zdn H css ns→SlC H (.slice a ns.length cp) ns.length 21 css.flatten→deep≤k →
  PW prog 35 #[.pointer (some ⟨b,0,none⟩),.int .i64 (k:Int),.int .i64 (deep:Int)] H [(b,T,ze5 kd cl w (.slice a ns.length cp) far)] fun v ow _=>v=.tuple #[.int .i64 (e:Int),.bool true]∧∃far',ow=[(b,T,ze5 kd cl w (.slice a ns.length cp) far')]∧far'≤max far ((deep+h:Nat):Int):=by
 induction hsub with
 | @leaf k h n hn hc hl hr ha =>
  intro H css b T deep far hns hsl hdk;have hlt:=(qE.1 hn).1;obtain⟨c,hcut,hnd⟩:=hns.get hn;obtain⟨a7,c7,rfl,_⟩:=hnd.cells
  have hsg:PV prog 20 #[zae n.at'] (.int .i64 0):=by
   rw[ha];exact zcd 0 (by show bl 0≤_;rw[zbt];omega)
  refine PW.body tO func35 rfl kR ntmps35 rfl rfl ?_;refine uR ?_;refine RP ?_;refine EVL.loadOwn tO rfl rfl rfl rfl rfl rfl (0) rfl (rfl) rfl rfl ?_;refine uR ?_;rw[qC (show ¬(k:Int)≥(ns.length:Int) by omega)];refine uR ?_;refine RP ?_;refine EVL.loadOwn tO rfl rfl rfl rfl rfl rfl (0) rfl (rfl) rfl rfl ?_;refine uR ?_;refine EVL.idxM tO rfl rfl rfl rfl rfl rfl rfl rfl rfl (hsl) (k) (rfl) (hlt) (hcut) ?_;refine uR ?_;rw[hc];refine uR ?_;refine RP ?_;refine EVL.loadOwn tO rfl rfl rfl rfl rfl rfl (0) rfl (rfl) rfl rfl ?_;refine uR ?_;refine RP ?_;refine EVL.storeOwn tO rfl rfl rfl rfl rfl rfl ([]) ([]) rfl rfl rfl rfl ((by exact qH 5)) (rfl) ?_;refine uR ?_;rw[hl,hr]
  repeat (first|refine RUN ?_|refine CV (hsg) ?_|refine CE (hsg) ?_)
  refine⟨by rw[zab k (by omega)];rfl,_,rfl,?_⟩;split <;> omega
 | @node k h m e n hn hc1 hc2 hl hr s1 s2 ih1 ih2 =>
  intro H css b T deep far hns hsl hdk;have hlt:=(qE.1 hn).1;obtain⟨hm1,hm2⟩:=s1.lt;obtain⟨he1,he2⟩:=s2.lt;obtain⟨c,hcut,hnd⟩:=hns.get hn;obtain⟨a7,c7,rfl,_⟩:=hnd.cells;refine PW.body tO func35 rfl kR ntmps35 rfl rfl ?_;refine uR ?_;refine RP ?_;refine EVL.loadOwn tO rfl rfl rfl rfl rfl rfl (0) rfl (rfl) rfl rfl ?_;refine uR ?_;rw[qC (show ¬(k:Int)≥(ns.length:Int) by omega)];refine uR ?_;refine RP ?_;refine EVL.loadOwn tO rfl rfl rfl rfl rfl rfl (0) rfl (rfl) rfl rfl ?_;refine uR ?_;refine EVL.idxM tO rfl rfl rfl rfl rfl rfl rfl rfl rfl (hsl) (k) (rfl) (hlt) (hcut) ?_;refine uR ?_;rw[show (n.col == -1)=false from pP.2 (by omega)];refine uR ?_;apply EV.drawn 20 kR kR;intro xv yw;(repeat refine' DD ?_);rw[qC (show ¬n.col<0 by omega)];(repeat refine' DD ?_);(repeat (first|refine' DD ?_|refine' vN ?_|refine' vF ?_));refine' DJ.ofVal (zaa.loadOwn tO rfl rfl rfl rfl (0) rfl (rfl) rfl rfl) rfl rfl rfl ?_;rotate_left;(repeat refine' DD ?_);rw[qC (show ¬n.col≥w by omega)];(repeat refine' DD ?_);rw[hl,zab k oM,show (((k+1:Nat):Int) != ((k+1:Nat):Int))=false from pO _];(repeat refine' DD ?_);(refine DJ.nil (fun G1 hG1 hF1=>?_);(case hS|hS2=>rfl));refine uR ?_;rw[zab k oM,zab deep (by omega)];refine EVL.callW rfl rfl rfl rfl rfl ([(b,T,ze5 kd cl w (.slice a ns.length cp) far)]) ([]) rfl (ih1 (hns.mono hG1) (hsl.mono hG1) (deep:=deep+1) oM) ?_;rintro _ _ G2 ⟨rfl,far1,rfl,hf1⟩ hG2;refine uR ?_;rw[hr,show ((m:Int) != (m:Int))=false from pO _];refine uR ?_;rw[zab deep (by omega)];refine EVL.callW rfl rfl rfl rfl rfl ([(b,T,ze5 kd cl w (.slice a ns.length cp) far1)]) ([]) rfl (ih2 (hns.mono (hG1.trans hG2)) (hsl.mono (hG1.trans hG2)) (deep:=deep+1) oM) ?_;rintro _ _ G3 ⟨rfl,far2,rfl,hf2⟩ hG3;refine uR ?_;exact⟨rfl,far2,rfl,by omega⟩
set_option maxRecDepth 100000 in
theorem zjR {H:Hp} {kd cl w:Int} {vn:Value} {n:Nd} {cs:List Value} (hkd:(kd=1∧1≤cl∧cl≤12)∨(kd=2∧cl=0)) (hnd:zbO H cs n) (hN:OkN kd cl n) :
  PC prog 36 #[zri kd cl w vn,.agg cs.toArray] H fun r _=>r=.bool true:=by
 obtain⟨a7,c7,rfl,k4⟩:=hnd.cells;have hN1:=hN.rows;have hcl:n.counts.length≤12:=by have:=hN.len;omega
 have hsc:PV prog 20 #[zae n.cost] (.int .i64 n.cost.num.sign):=zcd _ (by have:=(zaL hN.small.2.1 oM).num;show bl n.cost.num.natAbs≤_;omega);refine BD func36 ntmps36 ?_;refine uR ?_;rw[qC (show ¬n.rows<1 by omega)];refine uR ?_;rw[qC (show ¬n.rows>1048576 by omega)]
 repeat (first|refine RUN ?_|refine CV (hsc) ?_|refine CE (hsc) ?_)
 rw[qC (zpw hN.cost)];refine uR ?_;rw[show ((n.counts.length:Int) != cl)=false by rw[hN.len];exact pO _];refine uR ?_;rcases hkd with ⟨rfl,hc1,hc2⟩ | ⟨rfl,rfl⟩
 ·have hsv:PV prog 20 #[zae n.value] (.int .i64 0):=by
   rw[hN.value rfl];exact zcd 0 (by show bl 0≤_;rw[zbt];omega)
  refine uR ?_;refine EV.loopK (ι:=Nat) [2,3,38,39] [2,3] (fun q=>[(5,.v (.int .i64 (n.counts.take q).sum)),(6,.v (.int .i64 (topN n.counts q:Nat))),(40,.v (.int .i64 (q:Int)))]) (fun _=>[]) (fun _=>[]) (fun q _=>q≤n.counts.length) (fun q=>n.counts.length-q) (0) rfl rfl ⟨rfl,rfl,rfl,trivial⟩ trivial rfl (fun _=>rfl) (qQ _) ?_;rintro q G2 hG2 hq;have hsum:=hN.sum rfl;refine uR ?_;refine EV.cond rfl (fun hlt=>?_) (fun hlt=>?_)
  ·simp only[nN]at hlt;have ht1:=zbE hN.pos (q+1);have ht0:=zbE hN.pos q;have hti:=zhf n.counts q;have htl:topN n.counts q<n.counts.length:=oM;have g1:=zdA hlt;have g2:=zdA htl;have hz0:=hN.pos _ (qF g1);have hts:(n.counts.take (q+1)).sum=(n.counts.take q).sum+n.counts.getD q 0:=by rw[zan g1,List.sum_append,List.sum_singleton]
   have hst:topN n.counts (q+1)=if n.counts.getD (topN n.counts q) 0<n.counts.getD q 0 then q else topN n.counts q:=rfl
   generalize topN n.counts q=tp at *
   generalize n.counts.getD tp 0=x at *
   generalize n.counts.getD q 0=y at *
   refine uR ?_;refine vI ((k4.mono hG2)) (q) (rfl) (hlt) ((by rw[qK,g1];rfl)) ?_;refine uR ?_;rw[qC (show ¬y<0 by omega)];refine uR ?_;rw[qC (show ¬y>n.rows by omega)];refine uR ?_;rw[show IntKind.i64.wrap ((n.counts.take q).sum+y)=(n.counts.take (q+1)).sum by rw[pK];omega];refine vI ((k4.mono hG2)) (tp) (rfl) (htl) ((by rw[qK,g2];rfl)) ?_;refine uR ?_;by_cases h:y>x
   ·rw[qD h];rw[if_pos h]at hst;refine uR ?_;refine⟨q+1,⟨rfl,by rw[hst];rfl,by rw[zab q (by omega)];rfl,trivial⟩,sB,trivial,sB,rfl,by omega,Hp.Le.refl _,by omega⟩
   ·rw[qC h];rw[if_neg h]at hst;refine uR ?_;refine⟨q+1,⟨rfl,by rw[hst];rfl,by rw[zab q (by omega)];rfl,trivial⟩,sB,trivial,sB,rfl,by omega,Hp.Le.refl _,by omega⟩
  ·simp only[nN]at hlt;obtain rfl:q=n.counts.length:=oM;rw[qa,hsum,hN.cls];refine uR ?_;rw[show (n.rows == n.rows)=true from beq_self_eq_true _];refine uR ?_;rw[show ((topN n.counts n.counts.length:Int) == (topN n.counts n.counts.length:Int))=true from beq_self_eq_true _]
   repeat (first|refine RUN ?_|refine CV (hsv) ?_|refine CE (hsv) ?_)
   rfl
 ·have hc0:n.counts=[]:=qz.1 (by have:=hN.len;omega);have hcls0:n.cls=0:=by rw[hN.cls,hc0];rfl
  rw[hcls0];refine uR ?_;rfl
set_option maxRecDepth 100000 in
theorem zqP {H:Hp} {kd cl:Int} {n na nb:Nd} {cs ca cb:List Value} (hkd:(kd=1∧1≤cl∧cl≤12)∨(kd=2∧cl=0)) (hnd:zbO H cs n) (hnda:zbO H ca na) (hndb:zbO H cb nb) (hN:OkN kd cl n) (hNa:OkN kd cl na) (hNb:OkN kd cl nb) (hCC:OkC n na nb) :
  PC prog 37 #[.agg cs.toArray,.agg ca.toArray,.agg cb.toArray] H fun r _=>r=.bool true:=by
 obtain⟨a7,c7,rfl,k4⟩:=hnd.cells;obtain⟨xa7,xc7,rfl,ka4⟩:=hnda.cells;obtain⟨ya7,yc7,rfl,kb4⟩:=hndb.cells;have hRa:=hNa.rows;have hRb:=hNb.rows;have hRc:=hCC.rows;have hRn:=hN.rows;have hs0:=hN.small;have hsa:=hNa.small;have hsb:=hNb.small;have hlna:(na.counts.length:Int)=cl:=hNa.len;have hlnb:(nb.counts.length:Int)=cl:=hNb.len;have hlnn:(n.counts.length:Int)=cl:=hN.len;have had:=zcQ na.cost nb.cost;have hadd:=zeD na.cost nb.cost (zaL hsa.2.1 oM) (zaL hsb.2.1 oM);have hcmp:=zeI n.cost (na.cost+nb.cost) (zaL hs0.2.1 oM) (by unfold sm;omega);refine BD func37 ntmps37 ?_;refine uR ?_;refine EV.loopK (ι:=Nat) [3,4,5,10,11] [3,4,5] (fun q=>[(12,.v (.int .i64 (q:Int)))]) (fun _=>[]) (fun _=>[]) (fun q _=>q≤n.counts.length) (fun q=>n.counts.length-q) (0) rfl rfl ⟨rfl,trivial⟩ trivial rfl (fun _=>rfl) (qQ _) ?_;rintro q G1 hG1 hq;refine uR ?_;refine EV.cond rfl (fun hlt=>?_) (fun hlt=>?_)
 ·simp only[nN]at hlt
  have hk1:kd=1:=by
   rcases hkd with ⟨e,_⟩ | ⟨_,e⟩
   ·exact e
   ·omega
  obtain⟨z,hz⟩:=gE hlt;have hqa:q<na.counts.length:=oM;have hqb:q<nb.counts.length:=oM;obtain⟨za,hza⟩:=gE hqa;obtain⟨zb,hzb⟩:=gE hqb;have hcc:=hCC.counts q;rw[qB,qB,qB,hz,hza,hzb]at hcc;simp only[Option.getD_some]at hcc;have hz0:=hN.pos z (qF hz)
  have hup:z≤1048576:=by
   have h1:=zbE hN.pos (q+1);have h2:=zbE hN.pos q;rw[zan hz,List.sum_append,List.sum_singleton]at h1;have h3:=hN.sum hk1;omega
  have hwz:IntKind.i64.wrap (za+zb)=z:=by rw[pK];omega
  refine uR ?_;refine vI ((k4.mono hG1)) (q) (rfl) (hlt) ((by rw[qK,hz];rfl)) ?_;refine uR ?_;apply EV.drawn 13 kR kR;intro xv yw;(repeat refine' DD ?_);refine' vJ ((ka4.mono hG1)) (q) (rfl) (hqa) ((by rw[qK,hza];rfl)) ?_;rotate_left;(repeat refine' DD ?_);refine' vJ ((kb4.mono hG1)) (q) (rfl) (hqb) ((by rw[qK,hzb];rfl)) ?_;rotate_left;(repeat refine' DD ?_);rw[hwz,show (z != z)=false from pO _];(repeat refine' DD ?_);(refine DJ.nil (fun G hG hF=>?_);(case hS|hS2=>rfl));refine uR ?_;refine⟨q+1,⟨by rw[zab q (by omega)];rfl,trivial⟩,sB,trivial,sB,rfl,hlt,hG,by omega⟩
 ·simp only[nN]at hlt;refine uR ?_;have hwr:IntKind.i64.wrap (na.rows+nb.rows)=n.rows:=by rw[pK];omega
  apply EV.drawn 20 kR kR;intro xv yw;(repeat refine' DD ?_);rw[hwr,show (n.rows == n.rows)=true from beq_self_eq_true _];(repeat (first|refine' DD ?_|(refine' DC (hadd) (h:=?_);rotate_left)|(refine' DC (hcmp) (h:=?_);rotate_left)));rw[qD (show zb6 n.cost (na.cost+nb.cost)≥0 from Int.not_lt.1 fun k=>Rat.not_lt.2 hCC.cost ((zde _ _).1 k))];(repeat refine' DD ?_);(refine DJ.nil (fun G hG hF=>?_);(case hS|hS2=>rfl));refine uR ?_;rfl
abbrev pgC (kd cl:Int) (sl sv vx:Value) (deep least:Int) (gq:Rat) (fv out:Value):List Value:=[.int .i64 kd,.int .i64 cl,sl,sv,vx,.int .i64 deep,.int .i64 least,.bool (decide (gq.num<0)),.int .u64 (lo gq.num.natAbs:Int),.string (zam gq.num.natAbs),.int .u64 (lo (dk gq.den):Int),.string (zam (dk gq.den)),fv,out]
def zhz (H:Hp) (f:FuncId) (ccs:List Value) (dv:Value) (p:GP):Prop:=∀G,H.Le G→∀(D:Ows) (s:Int),ze7 dv D s→PW prog f ccs.toArray G D fun v ow G'=>IL G' v (p.cols s).1∧ze7 dv ow (p.cols s).2
theorem zhz.mono {H H':Hp} {f:FuncId} {ccs:List Value} {dv:Value} {p:GP} (h:zhz H f ccs dv p) (k:H.Le H'):zhz H' f ccs dv p:=fun G hG=>h G (k.trans hG)
theorem zsI {R:List Value→Nd→Prop} {s:Nat} (hlen:∀c n,R c n→c.length=s) {css:List (List Value)} {A B:List Nd} {n:Nd} (h:css.length=(A++n::B).length∧∀(j:Nat) (c:List Value) (m:Nd),css[j]?=some c→(A++n::B)[j]?=some m→R c m) :
  ∃cA c cB,css=cA++c::cB∧cA.flatten.length=A.length*s∧R c n∧∀(c':List Value) (n':Nd),R c' n'→((cA++c'::cB).length=(A++n'::B).length∧∀(j:Nat) (x:List Value) (m:Nd),(cA++c'::cB)[j]?=some x→(A++n'::B)[j]?=some m→R x m):=by
 have hl:=h.1;rw[qJ,qR]at hl;have hlt:A.length<css.length:=oM
 have e:css=css.take A.length++css[A.length]::css.drop (A.length+1):=by
  rw[←qo hlt,List.take_append_drop]
 have hla:(css.take A.length).length=A.length:=by rw[qP];omega
 refine⟨_,_,_,e,?_,h.2 A.length _ n (qA hlt) (by rw[qL (qH _),Nat.sub_self];rfl),?_⟩
 ·have:∀l:List (List Value),(∀c,c∈l→c.length=s)→l.flatten.length=l.length*s:=by
   intro l
   induction l with
   | nil=>intro _;simp
   | cons c l ih=>intro h;rw[List.flatten_cons,qJ,h c (qf ..),ih (fun c hc=>h c (qk _ hc)),qR,Nat.succ_mul];omega
  refine(this _ fun c hc=>?_).trans (by rw[hla]);obtain⟨j,hj⟩:=List.mem_iff_getElem?.1 (List.mem_of_mem_take hc);have hj':=(qE.1 hj).1;obtain⟨m,hm⟩:∃m,(A++n::B)[j]?=some m:=⟨_,qA (by rw[←h.1];exact hj')⟩;exact hlen _ _ (h.2 j c m hj hm)
 ·intro c' n' hc;refine⟨by simp only[qJ,qR,hla,qp];omega,fun j c1 n1 e1 e2=>?_⟩;rcases Nat.lt_trichotomy j A.length with hj | rfl | hj
  ·rw[qM oM,List.getElem?_take_of_lt hj]at e1;rw[qM hj]at e2;exact h.2 j c1 n1 e1 (by rw[qM hj];exact e2)
  ·rw[qL oM,hla,Nat.sub_self]at e1;rw[qL (qH _),Nat.sub_self]at e2;cases e1;cases e2;exact hc
  ·obtain⟨k,rfl⟩:∃k,j=A.length+(k+1):=⟨j-A.length-1,by omega⟩;rw[qL oM,hla,Nat.add_sub_cancel_left,pL,List.getElem?_drop]at e1;rw[qL oM,Nat.add_sub_cancel_left,pL]at e2;exact h.2 (A.length+(k+1)) c1 n1 (by rw[←e1];congr 1;omega) (by rw[qL oM,Nat.add_sub_cancel_left,pL];exact e2)
theorem zaE.midS {s:Nat} (hs:0<s) {e:TypeId} {v:Value} {m:Nat} {cA cB:List (List Value)} {c:List Value} {ow:Ows} (h:zaE e s v m (cA++c::cB).flatten ow) (hc:c.length=s):∃g cap sp,v=.slice (some ⟨g,0,none⟩) m cap∧ow=[(g,e,cA.flatten++(c++(cB.flatten++sp)))]∧∀c',c'.length=s→zaE e s v m (cA++c'::cB).flatten [(g,e,cA.flatten++(c'++(cB.flatten++sp)))]:=by
 have hl:=h.1;rcases h.2 with ⟨_,rfl,_⟩ | ⟨g,cap,sp,rfl,rfl,h1,h2,h3⟩
 ·simp[hc]at hl;omega
 ·have e1:∀c':List Value,(cA++c'::cB).flatten=cA.flatten++(c'++cB.flatten):=fun c'=>by simp
  rw[e1]at hl h1;refine⟨g,cap,sp,rfl,by rw[e1];simp,fun c' hc'=>⟨?_,.inr ⟨g,cap,sp,rfl,by rw[e1];simp,?_,h2,h3⟩⟩⟩
  ·rw[e1,←hl];simp[hc,hc']
  ·rw[e1,←h1];simp[hc,hc']
theorem zmR (o:Option (Int × Rat × Rat)):∃c t g,zrv o=.int .i64 c::(zac (zae t)++zac (zae g))∧∀c' t' g',o=some (c',t',g')→c'=c∧t'=t∧g'=g:=by
 cases o with
 | none=>exact⟨0,0,0,rfl,fun c' t' g' e=>by cases e⟩
 | some q=>obtain⟨c,t,g⟩:=q;exact⟨c,t,g,rfl,fun c' t' g' e=>by cases e;exact⟨rfl,rfl,rfl⟩⟩
theorem zqS {p:GP} {kd cl least deep:Int} {S:List Int→List Value} {wo:List Int→Rat} {la va xa:Option Addr} {ln lc vn vc xc:Nat} {f:FuncId} {ccs:List Value} {dv:Value} (hcl:∀s,(p.cols s).1.length≤1000) (hx0:0<p.X.length) (hX20:p.X.length≤20) (hxq:∀x,x∈p.X→∀q,q∈x→ht q≤60) (hpl:p.least=least) (hgr:sm p.gain):∀(d:Nat) {H:Hp} {b:Nat} {T:TypeId} {dd s:Int} {vr out:Value} {rows:List Int} {ns:List Nd} {css:List (List Value)} {D ow:Ows},
  zky H kd cl (.slice la ln lc) (.slice va vn vc) p S wo→QLL H (.slice xa p.X.length xc) p.X→zhz H f ccs dv p→dd+d=deep→0≤dd→deep≤10 →
  IL H vr rows→rows.length≤20→(∀r,r∈rows→0≤r∧r<(p.X.length:Int))→ze7 dv D s→zaE 100 21 out ns.length css.flatten ow→zdn H css ns→ns.length+2 ^ (d+1)≤1000000 →
  PW prog 98 #[.pointer (some ⟨b,0,none⟩),vr,.int .i64 dd] H ((b,T,pgC kd cl (.slice la ln lc) (.slice va vn vc) (.slice xa p.X.length xc) deep least p.gain (.func (.func f) #[] ccs.toArray) out)::(D++ow)) fun v ow' H'=>v=.tuple #[]∧∃out' D' ow2 css',ow'=(b,T,pgC kd cl (.slice la ln lc) (.slice va vn vc) (.slice xa p.X.length xc) deep least p.gain (.func (.func f) #[] ccs.toArray) out')::(D'++ow2)∧ze7 dv D' (p.grow d ns.length rows s).2∧zaE 100 21 out' (ns++(p.grow d ns.length rows s).1).length css'.flatten ow2∧zdn H' css' (ns++(p.grow d ns.length rows s).1):=by
 intro d
 induction d using Nat.strongRecOn with
 | _ d ih =>
  intro H b T dd s vr out rows ns css D ow hg hX hcf hdd hd0 hd1 hr hn hb hD hown hns hsz;obtain⟨oa,oc,rfl⟩:=hown.val;obtain⟨ra,rc,rfl⟩:=SlC.val hr;have hpw:2≤2 ^ (d+1):=by rw[qX];have:=Nat.one_le_two_pow (n:=d);omega
  have hex:=zdz hb;have htop:=fun (G:Hp) (hG:H.Le G)=>hg.top G hG _ _ (hr.mono hG) oM;have hcost:=fun (G:Hp) (hG:H.Le G)=>hg.cost G hG _ _ (hr.mono hG) oM;have hmean:=fun (G:Hp) (hG:H.Le G)=>hg.mean G hG _ _ (hr.mono hG) oM;have hcnt:=fun (G:Hp) (hG:H.Le G)=>hg.counts G hG _ _ (hr.mono hG) oM;rw[hex]at htop hcost hmean hcnt;refine PW.body tO func98 rfl kR ntmps98 rfl rfl ?_;refine uR ?_;refine RP ?_;refine EVL.loadOwn tO rfl rfl rfl rfl rfl rfl (0) rfl (rfl) rfl rfl ?_;refine uR ?_;refine EV.meetK (ι:=Value × Ows × List Value) [0,1,2,6] [] (fun _=>[]) (fun _=>[]) (fun q=>(b,T,pgC kd cl (.slice la ln lc) (.slice va vn vc) (.slice xa p.X.length xc) deep least p.gain (.func (.func f) #[] ccs.toArray) q.1)::(D++q.2.1)) (fun q G=>H.Le G∧zaE 100 21 q.1 (ns.length+1) (css++[q.2.2]).flatten q.2.1∧zbO G q.2.2 (p.nd rows)) rfl rfl (fun _=>rfl) ?_ ?_
  ·refine EVI.start (some 36) (b,T,pgC kd cl (.slice la ln lc) (.slice va vn vc) (.slice xa p.X.length xc) deep least p.gain (.func (.func f) #[] ccs.toArray) (.slice oa ns.length oc)) ?_;refine IV 0 ?_;refine IV 1 ?_;refine IN 2 ?_;refine IF 3 ?_;refine IL0 4 ?_;refine IV 5 ?_;refine IV 6 ?_;refine IV 7 ?_;refine IN 8 ?_;refine IF 9 ?_;refine IL0 10 ?_;refine IV 11 ?_;refine IV 13 ?_;refine IN 14 ?_;refine IF 15 ?_;refine IL0 16 ?_;refine IV 17 ?_;refine IV 19 ?_;refine IN 20 ?_;refine IF 21 ?_;refine IL0 22 ?_;refine IV 23 ?_;refine IV 25 ?_;refine IN 26 ?_;refine IF 27 ?_;refine IL0 28 ?_;refine IV 29 ?_;refine EVI.one 12 0 (.inr rfl) kR rfl ?_;refine vA (htop _ (Hp.Le.refl _)) ?_;rintro _ G1 rfl hG1;refine EVL.nil ⟨rfl,?_⟩;refine EVI.one 18 0 (.inr rfl) kR rfl ?_;refine vA (hcost _ hG1) ?_;rintro _ G2 rfl hG2;refine EVL.nil ⟨rfl,?_⟩;refine EVI.one 24 0 (.inr rfl) kR rfl ?_;refine vA (hmean _ (hG1.trans hG2)) ?_;rintro _ G3 rfl hG3;refine EVL.nil ⟨rfl,?_⟩;refine EVI.one 30 0 (.inr rfl) kR rfl ?_;refine vA (hcnt _ ((hG1.trans hG2).trans hG3)) ?_;intro r4 G4 hr4 hG4;obtain⟨a7,c7,rfl⟩:=SlC.val hr4;refine EVL.nil ⟨rfl,?_⟩;refine EVI.one 31 0 (.inr rfl) kR rfl ?_
   (try refine zey ?_);refine EVL.nil ⟨rfl,?_⟩;refine EVI.one 32 0 (.inr rfl) kR rfl ?_;refine EVL.lit tO rfl rfl rfl rfl rfl rfl rfl rfl rfl rfl rfl fun bl=>?_;refine EVL.nil ⟨rfl,?_⟩;refine EVI.one 33 1 (.inr rfl) kR rfl ?_;refine EVL.append tO rfl rfl rfl rfl rfl rfl rfl rfl rfl rfl rfl rfl ([(bl,_,_),(b,T,_)]++D) ow [] (by rw[qG];rfl) hown (zb7.own 0 rfl rfl) rfl oM ?_;intro v2 ow2 hown2;obtain⟨oa2,oc2,rfl⟩:=hown2.val;refine EVL.nil ⟨rfl,?_⟩;refine EVI.one 34 1 (.inr rfl) kR rfl ?_;refine EVL.nilB rfl rfl rfl rfl rfl ?_;refine EVL.nil ⟨rfl,?_⟩;refine EVI.one 35 1 (.inr rfl) kR rfl ?_;refine EVL.fldB tO rfl rfl rfl rfl rfl rfl rfl ?_;refine EVL.nil ⟨rfl,?_⟩;refine EVI.one 36 1 (.inr rfl) kR rfl ?_;refine EVL.storeOwn tO rfl rfl rfl rfl rfl rfl ([(bl,_,_)]) (D++(ow2++[])) rfl rfl rfl rfl ((by exact qH 14)) (rfl) ?_;refine EVL.subOw [] [(bl,_,_)] _ rfl ?_;refine EVL.nil ⟨rfl,?_⟩;refine EVI.nil 0 (.inl kR) kR ?_
   have hpn:zbO G4 (([.int .i64 (-1),.int .i64 0,.int .i64 0,.int .i64 (rows.length:Int),.int .i64 (topN (p.cnt rows) (p.cnt rows).length:Nat),.bool false,.int .u64 0,.string ⟨#[]⟩,.int .u64 0,.string ⟨#[]⟩]:List Value)++(zac (zae (p.cost rows))++(zac (zae (p.mean rows))++[.slice a7 (p.cnt rows).length c7]))) (p.nd rows):=⟨a7,c7,hr4,by
    rw[show zac (zae (p.nd rows).at')=_ from zaD];rfl⟩
   exact⟨(_,ow2++[],_),trivial,sB,trivial,trivial,rfl,((hG1.trans hG2).trans hG3).trans hG4,(by rw[qG,List.flatten_append];exact hown2),hpn⟩
  ·rintro⟨out1,ow1,c1⟩ G1 ⟨hG1,hown1,hnd1⟩;dsimp only at hown1 hnd1;obtain⟨oa1,oc1,rfl⟩:=hown1.val;have hns1:zdn G1 (css++[c1]) (ns++[p.nd rows]):=ziL (hns.mono hG1) hnd1;refine uR ?_;refine RP ?_;refine EVL.loadOwn tO rfl rfl rfl rfl rfl rfl (0) rfl (rfl) rfl rfl ?_;refine uR ?_;by_cases hd:d=0
   ·subst hd;obtain rfl:dd=deep:=oM;rw[qD (show dd≥dd from Int.le_refl _)];refine uR ?_;exact⟨rfl,_,D,ow1,_,rfl,hD,by rw[qJ];exact hown1,hns1⟩
   obtain⟨e,rfl⟩:∃e,d=e+1:=⟨d-1,by omega⟩;have ih':=@ih e oM;clear ih;rw[qC (show ¬dd≥deep by omega)];refine uR ?_;have hcolp:=hcf G1 hG1 D s hD
   have hbest:∀(G:Hp) (ca:Option Addr) (cc:Nat),G1.Le G→IL G (.slice ca (p.cols s).1.length cc) (p.cols s).1→PC prog 147 #[zas kd cl (.slice la ln lc) (.slice va vn vc),.slice xa p.X.length xc,.slice ra rows.length rc,.slice ca (p.cols s).1.length cc,.int .i64 least] G fun r _=>r=.tuple #[.agg (zrv (p.best rows (p.cols s).1)).toArray,.bool (p.best rows (p.cols s).1).isSome]:=fun G ca cc hG hc =>
    zqR (hg.ok.mono (hG1.trans hG)) hg.pok (hX.mono (hG1.trans hG)) (hr.mono (hG1.trans hG)) hn hb hc (qI (hcl s) oM) (fun x hx q hq=>qI (hxq x hx q hq) oM) hpl
   obtain⟨c,t,g,hcut,hval⟩:=zmR (p.best rows (p.cols s).1);rw[hcut]at hbest;refine EV.meetK (ι:=Ows) [0,1,2,6] [] (fun _=>[(7,.p 7 0),(8,.v (.bool (p.best rows (p.cols s).1).isSome))]) (fun _=>[(7,220,.int .i64 c::(zac (zae t)++zac (zae g)))]) (fun q=>(b,T,pgC kd cl (.slice la ln lc) (.slice va vn vc) (.slice xa p.X.length xc) deep least p.gain (.func (.func f) #[] ccs.toArray) (.slice oa1 (ns.length+1) oc1))::(q++ow1)) (fun q G=>G1.Le G∧ze7 dv q (p.cols s).2) rfl rfl (fun _=>rfl) ?_ ?_
   ·refine EVI.start none (b,T,pgC kd cl (.slice la ln lc) (.slice va vn vc) (.slice xa p.X.length xc) deep least p.gain (.func (.func f) #[] ccs.toArray) (.slice oa1 (ns.length+1) oc1)) ?_;refine IV 0 ?_;refine IN 1 ?_;refine IF 2 ?_;refine IL0 3 ?_;refine IV 4 ?_;refine IN 5 ?_;refine IF 6 ?_;refine IL0 7 ?_;refine IV 8 ?_;refine IV 9 ?_;refine IN 10 ?_;refine IF 11 ?_;refine IL0 12 ?_;refine IV 14 ?_;refine IN 15 ?_;refine IF 16 ?_;refine IF 17 ?_;refine IL0 18 ?_;refine EVI.two 13 23 0 (.inr rfl) kR rfl rfl ?_ ?_
    ·(first|refine EVL.swapOw ([(b,T,_)]) (D++ow1) (rfl) ?_|refine EV.swapOw ([(b,T,_)]) (D++ow1) (rfl) ?_);refine EVL.callWC rfl rfl rfl rfl (cs:=ccs) rfl (vs:=[]) rfl D (ow1++[(b,T,_)]) (qZ _ _ _) hcolp ?_;rintro v2 D2 G2 ⟨hil,hD2⟩ hG2;obtain⟨ca,cc,rfl⟩:=SlC.val hil;(first|refine EVL.swapOw (D2++ow1) ([(b,T,_)]) ((qZ _ _ _).symm) ?_|refine EV.swapOw (D2++ow1) ([(b,T,_)]) ((qZ _ _ _).symm) ?_);refine EVL.nil ⟨rfl,?_⟩;refine EVI.two 19 23 0 (.inr rfl) kR rfl rfl ?_ ?_
     ·refine vA (hbest _ _ _ hG2 hil) ?_;rintro _ G3 rfl hG3;refine EVL.nil ⟨rfl,?_⟩;refine IV 20 ?_;refine IV 21 ?_;refine IV 22 ?_;refine EVI.one 23 0 (.inr rfl) kR rfl ?_
      (try refine zey ?_);refine EVL.nil ⟨rfl,?_⟩;refine EVI.one 24 0 (.inr rfl) kR rfl ?_
      (try refine zey ?_);refine EVL.nil ⟨rfl,?_⟩;refine EVI.one 25 0 (.inr rfl) kR rfl ?_
      (try refine zey ?_);refine EVL.nil ⟨rfl,?_⟩;refine EVI.nil 0 (.inr rfl) kR ?_;exact⟨D2,⟨rfl,rfl,trivial⟩,sB,⟨rfl,trivial⟩,trivial,rfl,hG2.trans hG3,hD2⟩
     ·(try refine zey ?_);refine EVL.nil ⟨rfl,?_⟩;refine EVI.one 19 0 (.inr rfl) kR rfl ?_;refine vA (hbest _ _ _ hG2 hil) ?_;rintro _ G3 rfl hG3;refine EVL.nil ⟨rfl,?_⟩;refine IV 20 ?_;refine IV 21 ?_;refine IV 22 ?_;refine EVI.one 24 0 (.inr rfl) kR rfl ?_
      (try refine zey ?_);refine EVL.nil ⟨rfl,?_⟩;refine EVI.one 25 0 (.inr rfl) kR rfl ?_
      (try refine zey ?_);refine EVL.nil ⟨rfl,?_⟩;refine EVI.nil 0 (.inr rfl) kR ?_;exact⟨D2,⟨rfl,rfl,trivial⟩,sB,⟨rfl,trivial⟩,trivial,rfl,hG2.trans hG3,hD2⟩
    ·(try refine zey ?_);refine EVL.nil ⟨rfl,?_⟩;refine EVI.one 13 0 (.inr rfl) kR rfl ?_;(first|refine EVL.swapOw ([(b,T,_)]) (D++ow1) (rfl) ?_|refine EV.swapOw ([(b,T,_)]) (D++ow1) (rfl) ?_);refine EVL.callWC rfl rfl rfl rfl (cs:=ccs) rfl (vs:=[]) rfl D (ow1++[(b,T,_)]) (qZ _ _ _) hcolp ?_;rintro v2 D2 G2 ⟨hil,hD2⟩ hG2;obtain⟨ca,cc,rfl⟩:=SlC.val hil;(first|refine EVL.swapOw (D2++ow1) ([(b,T,_)]) ((qZ _ _ _).symm) ?_|refine EV.swapOw (D2++ow1) ([(b,T,_)]) ((qZ _ _ _).symm) ?_);refine EVL.nil ⟨rfl,?_⟩;refine EVI.one 19 0 (.inr rfl) kR rfl ?_;refine vA (hbest _ _ _ hG2 hil) ?_;rintro _ G3 rfl hG3;refine EVL.nil ⟨rfl,?_⟩;refine IV 20 ?_;refine IV 21 ?_;refine IV 22 ?_;refine EVI.one 24 0 (.inr rfl) kR rfl ?_
     (try refine zey ?_);refine EVL.nil ⟨rfl,?_⟩;refine EVI.one 25 0 (.inr rfl) kR rfl ?_
     (try refine zey ?_);refine EVL.nil ⟨rfl,?_⟩;refine EVI.nil 0 (.inr rfl) kR ?_;exact⟨D2,⟨rfl,rfl,trivial⟩,sB,⟨rfl,trivial⟩,trivial,rfl,hG2.trans hG3,hD2⟩
   ·rintro D2 G2 ⟨hG2,hD2⟩;clear hbest hcolp;have hH2:=hG1.trans hG2;refine uR ?_
    cases hbe:p.best rows (p.cols s).1 with
    | none =>
     have hcut0:p.cut rows (p.cols s).1=none:=by unfold GP.cut;rw[hbe]
     rw[GP.grow_none hcut0];rw[show (none:Option (Int × Rat × Rat)).isSome=false from rfl];apply EV.drawn 13 kR kR;intro xv yw;(repeat refine' DD ?_);(refine DJ.nil (fun G hG hF=>?_);(case hS|hS2=>rfl));refine uR ?_;exact⟨rfl,_,D2,ow1,_,rfl,hD2,by rw[qJ];exact hown1,hns1.mono (hG2.trans hG)⟩
    | some q =>
     obtain⟨c',t',g'⟩:=q;obtain⟨rfl,rfl,rfl⟩:=hval c' t' g' hbe;rw[show (some (c',t',g')).isSome=true from rfl]
     have htg:sm t'∧sm g':=by
      have hf:=zcP (zaA p.X p.cost rows (max 1 p.least) (p.cols s).1);rw[show (zaA p.X p.cost rows (max 1 p.least) (p.cols s).1).foldl zf2 none=some (c',t',g') from hbe]at hf;have:=zge hg.small oM hb hxq hf.1;exact⟨zaL this.1 oM,zaL this.2 oM⟩
     obtain⟨htb,hgb⟩:=htg;have hcmp:=zeI g' p.gain hgb hgr;apply EV.drawn 13 kR kR;intro xv yw;(repeat (first|refine' DD ?_|refine' vN ?_|refine' vF ?_));refine' DJ.ofVal (zaa.loadOwn tO rfl rfl rfl rfl (0) rfl (rfl) rfl rfl) rfl rfl rfl ?_;rotate_left;(repeat (first|refine' DD ?_|(refine' DC (hcmp) (h:=?_);rotate_left)));(refine DJ.nil (fun G4 hG4 hF4=>?_);(case hS|hS2=>rfl));refine uR ?_;by_cases hle:g'≤p.gain
     ·have hcut0:p.cut rows (p.cols s).1=none:=by unfold GP.cut;rw[hbe];exact if_pos hle
      rw[GP.grow_none hcut0];rw[qD (zk4 hle)];refine uR ?_;exact⟨rfl,_,D2,ow1,_,rfl,hD2,by rw[qJ];exact hown1,hns1.mono (hG2.trans hG4)⟩
     have hcut0:p.cut rows (p.cols s).1=some (c',t'):=by unfold GP.cut;rw[hbe];exact if_neg hle
     rw[GP.grow_some hcut0];rw[qC (Int.not_le.2 (zeX.2 (Rat.not_le.1 hle)))];have hH4:=hH2.trans hG4;refine uR ?_;apply EV.drawn 14 kR kR;intro xv yw;(repeat (first|refine' DD ?_|refine' vN ?_|refine' vF ?_));refine' DJ.ofVal (zaa.loadOwn tO rfl rfl rfl rfl (0) rfl (rfl) rfl rfl) rfl rfl rfl ?_;rotate_left;(repeat (first|refine' DD ?_|refine' vN ?_|refine' vF ?_));refine' vB (cO func148) (fun G hG hd=>zq9 (col:=c') (t:=t') (hX.mono (hH4.trans hG)) (hr.mono (hH4.trans hG)) oM (fun x hx q hq=>zaL (hxq x hx q hq) oM) htb) (fun _ _ _ h k=>(by obtain⟨u,w,e,hu,hw⟩:=h;exact⟨u,w,e,hu.mono k,hw.mono k⟩)) ?_;rotate_left;refine' DJ.copy (9) (by first|exact .inl rfl|exact .inr rfl) rfl rfl rfl id rfl kR ?_;rotate_left;refine' DJ.extract (9) rfl rfl rfl rfl rfl kR (fun G hd=>(by obtain⟨u,w,e,_⟩:=hd.head kR;exact⟨_,e,Nat.zero_lt_succ _⟩)) ?_;rotate_left;refine' DJ.extract (9) rfl rfl rfl rfl rfl kR (fun G hd=>(by obtain⟨u,w,e,_⟩:=hd.head kR;exact⟨_,e,Nat.lt_succ_self _⟩)) ?_;rotate_left;refine' DJ.copy (9) (.inr rfl) rfl rfl rfl (zcW 0) rfl kR ?_;rotate_left;(refine DJ.nil (fun G5 hG5 hF5=>?_);(case hS|hS2=>rfl));obtain⟨⟨u5,w5,e5,hu5,hw5⟩,_⟩:=hF5;rw[e5];rw[zdz hb]at hu5 hw5;obtain⟨ua,uc,rfl⟩:=SlC.val hu5;obtain⟨wa,wc,rfl⟩:=SlC.val hw5;rw[show zcW 0 (Value.tuple #[.slice ua (zbe p.X c' t' rows).length uc,.slice wa (zay p.X c' t' rows).length wc])=.slice ua (zbe p.X c' t' rows).length uc from rfl,show zcW 1 (Value.tuple #[.slice ua (zbe p.X c' t' rows).length uc,.slice wa (zay p.X c' t' rows).length wc])=.slice wa (zay p.X c' t' rows).length wc from rfl];have hH5:=hH4.trans hG5;have hns5:=hns1.mono (hG2.trans (hG4.trans hG5));have wd:IntKind.i64.wrap (dd+1)=dd+1:=by rw[pK];omega
     have hlo3:(zbe p.X c' t' rows).length≤20:=qI (List.length_filter_le _ _) hn;have hhi3:(zay p.X c' t' rows).length≤20:=qI (List.length_filter_le _ _) hn;have hlom:∀r,r∈zbe p.X c' t' rows→0≤r∧r<(p.X.length:Int):=fun r hr=>hb r (List.mem_filter.mp hr).1;have hhim:∀r,r∈zay p.X c' t' rows→0≤r∧r<(p.X.length:Int):=fun r hr=>hb r (List.mem_filter.mp hr).1;have hl1:(ns++[p.nd rows]).length=ns.length+1:=by simp
     have hp2:2 ^ (e+1+1)=2 ^ (e+1)+2 ^ (e+1):=by rw[qX];omega
     have hp3:2≤2 ^ (e+1):=by rw[qX];have:=Nat.one_le_two_pow (n:=e);omega
     have hL:=ih' (H:=G5) (b:=b) (T:=T) (dd:=dd+1) (s:=(p.cols s).2) (ns:=ns++[p.nd rows]) (hg.mono hH5) (hX.mono hH5) (hcf.mono hH5) oM oM hd1 hu5 hlo3 hlom hD2 (by rw[hl1];exact hown1) hns5 (by rw[hl1];omega);rw[hl1]at hL;have hLl:=(p.grow_len e (ns.length+1) (zbe p.X c' t' rows) (p.cols s).2).2;generalize hLe:p.grow e (ns.length+1) (zbe p.X c' t' rows) (p.cols s).2=Lp at *
     obtain⟨Ls,s2⟩:=Lp;dsimp only at hL hLl;refine uR ?_;refine RP ?_;refine EVL.loadOwn tO rfl rfl rfl rfl rfl rfl (0) rfl (rfl) rfl rfl ?_;refine uR ?_;rw[wd];refine EVL.callW rfl rfl rfl rfl rfl _ [] (qG _).symm hL ?_;rintro _ _ G8 ⟨rfl,out2,D3,ow3,css3,rfl,hD3,hown3,hns3⟩ hG8;rw[qG ((b,T,_)::(D3++ow3))];have hl2:(ns++[p.nd rows]++Ls).length=ns.length+1+Ls.length:=by simp;omega
     rw[hl2]at hown3;obtain⟨oa3,oc3,rfl⟩:=hown3.val;have hH8:=hH5.trans hG8;have hR:=ih' (H:=G8) (b:=b) (T:=T) (dd:=dd+1) (s:=s2) (ns:=ns++[p.nd rows]++Ls) (hg.mono hH8) (hX.mono hH8) (hcf.mono hH8) oM oM hd1 (hw5.mono hG8) hhi3 hhim hD3 (by rw[hl2];exact hown3) hns3 (by rw[hl2];omega);rw[hl2]at hR;generalize hRe:p.grow e (ns.length+1+Ls.length) (zay p.X c' t' rows) s2=Rp at *
     obtain⟨Rs,s3⟩:=Rp;dsimp only at hR;refine uR ?_;refine RP ?_;refine EVL.loadOwn tO rfl rfl rfl rfl rfl rfl (0) rfl (rfl) rfl rfl ?_;refine uR ?_;rw[wd];refine EVL.callW rfl rfl rfl rfl rfl _ [] (qG _).symm hR ?_;rintro _ _ G10 ⟨rfl,out4,D4,ow4,css4,rfl,hD4,hown4,hns4⟩ hG10;rw[qG ((b,T,_)::(D4++ow4))];rw[show ns++[p.nd rows]++Ls++Rs=ns++p.nd rows::(Ls++Rs) by simp]at hown4 hns4;obtain⟨cA,cc1,cB,ecs,hAl,⟨a7,c7,hil7,rfl⟩,hput⟩:=zsI (fun c n h=>zbO.len h) hns4;rw[ecs]at hown4;clear ecs;obtain⟨go,capo,sp,rfl,rfl,hback⟩:=hown4.midS oM rfl;have hl3:(ns++p.nd rows::(Ls++Rs)).length=ns.length+1+Ls.length+Rs.length:=by simp;omega
     refine uR ?_;refine RP ?_;refine EVL.loadOwn tO rfl rfl rfl rfl rfl rfl (0) rfl (rfl) rfl rfl ?_;refine uR ?_;refine EVL.idxB tO rfl rfl rfl rfl rfl rfl rfl rfl rfl (ns.length) (ns.length*21) (rfl) ((by rw[hl3];omega)) (rfl) ?_;refine uR ?_;(first|refine EVL.unbox (7) rfl fun gc=>?_|refine EV.unbox (7) rfl fun gc=>?_);refine EVI.start (some 21) (gc,220,.int .i64 c'::(zac (zae t')++zac (zae g'))) ?_;refine IV 0 ?_;refine IV 1 ?_;refine IV 2 ?_;refine IV 3 ?_;refine IF 4 ?_;refine IL0 5 ?_;refine IF 6 ?_;refine IL0 7 ?_;refine IV 8 ?_;refine IV 9 ?_;refine IN 10 ?_;refine IF 11 ?_;refine EVI.one 12 0 (.inr rfl) kR rfl ?_;refine EVL.storeOwn tO rfl rfl rfl rfl rfl rfl ((gc,_,_)::(b,T,_)::D4) ([]) rfl rfl rfl rfl ((zcE (f:=0) hAl rfl (by show 0+1≤21;omega))) (zdJ (f:=0) hAl rfl rfl (by show 0+1≤21;omega) rfl) ?_;refine EVL.nil ⟨rfl,?_⟩;refine IN 13 ?_;refine IF 14 ?_;refine EVI.one 15 0 (.inr rfl) kR rfl ?_;refine EVL.storeOwn tO rfl rfl rfl rfl rfl rfl ((gc,_,_)::(b,T,_)::D4) ([]) rfl rfl rfl rfl ((zcE (f:=5) hAl rfl (by show 5+5≤21;omega))) (zdJ (f:=5) hAl rfl rfl (by show 5+5≤21;omega) rfl) ?_;refine EVL.nil ⟨rfl,?_⟩;refine IN 16 ?_;refine IF 17 ?_;refine EVI.one 18 0 (.inr rfl) kR rfl ?_;refine EVL.storeOwn tO rfl rfl rfl rfl rfl rfl ((gc,_,_)::(b,T,_)::D4) ([]) rfl rfl rfl rfl ((zcE (f:=1) hAl rfl (by show 1+1≤21;omega))) (zdJ (f:=1) hAl rfl rfl (by show 1+1≤21;omega) rfl) ?_;refine EVL.nil ⟨rfl,?_⟩;refine IN 19 ?_;refine IF 20 ?_;refine EVI.one 21 0 (.inr rfl) kR rfl ?_;refine EVL.storeOwn tO rfl rfl rfl rfl rfl rfl ((gc,_,_)::(b,T,_)::D4) ([]) rfl rfl rfl rfl ((zcE (f:=2) hAl rfl (by show 2+1≤21;omega))) (zdJ (f:=2) hAl rfl rfl (by show 2+1≤21;omega) rfl) ?_;refine EVL.subOw [] [(gc,_,_)] _ rfl ?_;refine EVL.nil ⟨rfl,?_⟩;refine EVI.nil 0 (.inl kR) kR ?_;refine uR ?_;obtain⟨n2,hn2⟩:∃n2:Nd,({ p.nd rows with col:=c',left:=((ns.length+1:Nat):Int),right:=((ns.length+1+Ls.length:Nat):Int),at':=t' }:Nd)=n2:=⟨_,rfl⟩
     have hpn:zbO G10 ([.int .i64 c',.int .i64 ((ns.length+1:Nat):Int),.int .i64 ((ns.length+1+Ls.length:Nat):Int),.int .i64 (p.nd rows).rows,.int .i64 (p.nd rows).cls]++(zac (zae t')++(zac (zae (p.nd rows).cost)++(zac (zae (p.nd rows).value)++[.slice a7 (p.nd rows).counts.length c7])))) n2:=by
      subst hn2;exact⟨a7,c7,hil7,rfl⟩
     rw[hn2];have hl4:(ns++n2::(Ls++Rs)).length=(ns++p.nd rows::(Ls++Rs)).length:=by simp
     refine⟨rfl,_,D4,_,_,rfl,hD4,?_,hput _ _ hpn⟩;rw[hl4];exact hback _ rfl
section
variable {P:Program} {n:Nat} {ops:Array Oper} {fuel:Nat} {L:Array Bool} {env:Env} {bx:Bxs} {H:Hs} {K:Env→Bxs→Hs→Prop} {τ:Tab} {d:Nat} {o:Oper} {v:Value}
end
set_option maxRecDepth 100000 in
theorem zfk {H:Hp} {kd cl w:Int} {ns:List Nd} {cs:List Value} (ht:zd4 H cs kd cl w ns) (hok:zce ⟨kd,cl,w,ns⟩):PC prog 15 #[.agg cs.toArray] H fun r _=>r=.int .i64 0:=by
 obtain⟨a,cp,css,rfl,hns,hsl⟩:=ht;obtain⟨hkd,hw,hln,⟨hh,hh10,hsub⟩,hall⟩:=hok;dsimp only at hkd hw hln hsub hall;have hpos:=hsub.end0;refine BD func15 ntmps15 ?_;refine uR ?_;refine EVL.meetK (ι:=Bool) [1,2] [1] (fun _=>[(17,.v (.bool false))]) (fun _=>[]) (fun _=>[]) (fun _ G=>H.Le G) rfl rfl (fun _=>rfl) ?_ ?_
 ·rcases hkd with ⟨rfl,_⟩ | ⟨rfl,rfl⟩
  ·try refine uR ?_
   exact⟨true,⟨rfl,trivial⟩,sB,trivial,sB,rfl,Hp.Le.refl _⟩
  ·try refine uR ?_
   exact⟨true,⟨rfl,trivial⟩,sB,trivial,sB,rfl,Hp.Le.refl _⟩
 rintro _ G1 hG1;refine uR ?_;rw[qC (show ¬w<1 by omega)];refine uR ?_;rw[qC (show ¬w>20 by omega)];refine uR ?_;rw[qC (show ¬(ns.length:Int)<1 by omega)];refine uR ?_;rw[qC (show ¬(ns.length:Int)>2000 by omega)];refine uR ?_;refine EVL.meetK (ι:=Bool) [1,2] [1] (fun _=>[(60,.v (.bool false))]) (fun _=>[]) (fun _=>[]) (fun _ G=>H.Le G) rfl rfl (fun _=>rfl) ?_ ?_
 ·rcases hkd with ⟨rfl,h1,h2⟩ | ⟨rfl,rfl⟩
  ·try refine uR ?_
   rw[qC (show ¬cl<1 by omega)];refine uR ?_;rw[qC (show ¬cl>12 by omega)];refine uR ?_;exact⟨true,⟨rfl,trivial⟩,sB,trivial,sB,rfl,hG1⟩
  ·try refine uR ?_
   exact⟨true,⟨rfl,trivial⟩,sB,trivial,sB,rfl,hG1⟩
 rintro _ G2 hG2;refine uR ?_;(first|refine EVL.unbox (3) rfl fun g3=>?_|refine EV.unbox (3) rfl fun g3=>?_);refine uR ?_;refine EVL.callW rfl rfl rfl rfl rfl ([(g3,107,ze5 kd cl w (.slice a ns.length cp) 0)]) ([]) rfl (zsA oM hsub (hns.mono hG2) (hsl.mono hG2) (deep:=0) (qH _)) ?_;rintro _ _ G3 ⟨rfl,far,rfl,hfar⟩ hG3;refine uR ?_;rw[show ((ns.length:Int) != (ns.length:Int))=false from pO _];refine uR ?_;refine EVL.fldB tO rfl rfl rfl rfl rfl rfl rfl ?_;refine EVL.loadOwn tO rfl rfl rfl rfl rfl rfl (0) rfl (rfl) rfl rfl ?_;refine uR ?_;rw[qC (show ¬far>10 by omega)];refine uR ?_;refine EV.loopK (ι:=Nat) [1,80,81] [1] (fun q=>[(82,.v (.int .i64 (q:Int)))]) (fun _=>[]) (fun _=>[(g3,_,ze5 kd cl w (.slice a ns.length cp) far)]) (fun q _=>q≤ns.length) (fun q=>ns.length-q) (0) rfl rfl ⟨rfl,trivial⟩ trivial rfl (fun _=>rfl) (qQ _) ?_;rintro i G4 hG4 hi;have hH4:=hG2.trans (hG3.trans hG4);refine uR ?_;refine EV.cond rfl (fun hlt=>?_) (fun hlt=>?_)
 ·simp only[nN]at hlt;obtain⟨n,hn,hN,hC⟩:=hall i hlt;obtain⟨c,hcut,hnd⟩:=(hns.mono hH4).get hn;obtain⟨a7,c7,rfl,_⟩:=hnd.cells;refine uR ?_;refine EVL.idxM tO rfl rfl rfl rfl rfl rfl rfl rfl rfl ((hsl.mono hH4)) (i) (rfl) (hlt) (hcut) ?_
  repeat (first|refine RUN ?_|refine CV (zjR hkd hnd hN) ?_|refine CE (zjR hkd hnd hN) ?_)
  refine⟨i+1,⟨by rw[zab i (by omega)];rfl,trivial⟩,sB,trivial,sB,rfl,hlt,Hp.Le.refl _,by omega⟩
 ·simp only[nN]at hlt;refine uR ?_;refine EV.loopK (ι:=Nat) [1,92,93] [1] (fun q=>[(94,.v (.int .i64 (q:Int)))]) (fun _=>[]) (fun _=>[(g3,_,ze5 kd cl w (.slice a ns.length cp) far)]) (fun q _=>q≤ns.length) (fun q=>ns.length-q) (0) rfl rfl ⟨rfl,trivial⟩ trivial rfl (fun _=>rfl) (qQ _) ?_;rintro j G5 hG5 hj;have hH5:=hH4.trans hG5;refine uR ?_;refine EV.cond rfl (fun hlj=>?_) (fun hlj=>?_)
  ·simp only[nN]at hlj;obtain⟨n,hn,hN,hC⟩:=hall j hlj;obtain⟨c,hcut,hnd⟩:=(hns.mono hH5).get hn;obtain⟨a7,c7,rfl,_⟩:=hnd.cells;refine uR ?_;refine EVL.idxM tO rfl rfl rfl rfl rfl rfl rfl rfl rfl ((hsl.mono hH5)) (j) (rfl) (hlj) (hcut) ?_;refine uR ?_;by_cases hcol:n.col = -1
   ·apply EV.drawn 20 kR kR;intro xv yw;(repeat refine' DD ?_);rw[show (n.col != -1)=false by rw[hcol];rfl];(repeat refine' DD ?_);(refine DJ.nil (fun G hG hF=>?_);(case hS|hS2=>rfl));refine uR ?_;refine⟨j+1,⟨by rw[zab j (by omega)];rfl,trivial⟩,sB,trivial,sB,rfl,hlj,hG,by omega⟩
   ·obtain⟨hc0,hl0,hr0,na,nb,hna,hnb,hCC⟩:=hC hcol;have hla:=(qE.1 hna).1;have hlb:=(qE.1 hnb).1;obtain⟨na',ena,hNa,_⟩:=hall _ hla;obtain⟨nb',enb,hNb,_⟩:=hall _ hlb;cases hna.symm.trans ena;cases hnb.symm.trans enb;obtain⟨ca,hcuta,hnda⟩:=(hns.mono hH5).get hna;obtain⟨cb,hcutb,hndb⟩:=(hns.mono hH5).get hnb;obtain⟨xa7,xc7,rfl,_⟩:=hnda.cells;obtain⟨ya7,yc7,rfl,_⟩:=hndb.cells;apply EV.drawn 20 kR kR;intro xv yw;(repeat refine' DD ?_);rw[show (n.col != -1)=true from bne_iff_ne.2 hcol];(repeat refine' DD ?_);refine' DJ.idxM tO rfl rfl rfl rfl rfl rfl rfl rfl rfl ((hsl.mono hH5)) (n.left.toNat) ((by rw[Int.toNat_of_nonneg hl0])) (hla) (hcuta) ?_;rotate_left;(repeat refine' DD ?_);refine' DJ.idxM tO rfl rfl rfl rfl rfl rfl rfl rfl rfl ((hsl.mono hH5)) (n.right.toNat) ((by rw[Int.toNat_of_nonneg hr0])) (hlb) (hcutb) ?_;rotate_left;(repeat refine' DD ?_);refine' vC (cO func37) (fun G hG hd=>zqP hkd (hnd.mono hG) (hnda.mono hG) (hndb.mono hG) hN hNa hNb hCC) ?_;rotate_left;(repeat refine' DD ?_);(refine DJ.nil (fun G hG hF=>?_);(case hS|hS2=>rfl));refine uR ?_;refine⟨j+1,⟨by rw[zab j (by omega)];rfl,trivial⟩,sB,trivial,sB,rfl,hlj,hG,by omega⟩
  ·try refine uR ?_
   rfl
inductive zi6 (T:List Nd) (x:List Rat):Nat→Nat→Prop
 | here {i:Nat} {n:Nd}:T[i]?=some n→n.col = -1→zi6 T x i i
 | low {i j:Nat} {n:Nd}:T[i]?=some n→n.col ≠ -1→x.getD n.col.toNat 0≤n.at'→zi6 T x n.left.toNat j→zi6 T x i j
 | high {i j:Nat} {n:Nd}:T[i]?=some n→n.col ≠ -1→¬x.getD n.col.toNat 0≤n.at'→zi6 T x n.right.toNat j→zi6 T x i j
theorem zi6.det {T:List Nd} {x:List Rat} {i j:Nat} (h:zi6 T x i j):∀{k:Nat},zi6 T x i k→j=k:=by
 induction h with
 | here h1 h2 =>
  intro k h
  cases h with
  | here _ _=>rfl
  | low e n _ _=>rw[h1]at e;cases e;exact absurd h2 n
  | high e n _ _=>rw[h1]at e;cases e;exact absurd h2 n
 | low h1 h2 h3 _ ih =>
  intro k h
  cases h with
  | here e n=>rw[h1]at e;cases e;exact absurd n h2
  | low e n _ h=>rw[h1]at e;cases e;exact ih h
  | high e n h' _=>rw[h1]at e;cases e;exact absurd h3 h'
 | high h1 h2 h3 _ ih =>
  intro k h
  cases h with
  | here e n=>rw[h1]at e;cases e;exact absurd n h2
  | low e n h' _=>rw[h1]at e;cases e;exact absurd h' h3
  | high e n _ h=>rw[h1]at e;cases e;exact ih h
theorem Sub.at {T:List Nd} {w:Int} {k h e:Nat} (h0:Sub T w k h e):∀i,k≤i→i<e→∃h' e',Sub T w i h' e':=by
 induction h0 with
 | @leaf k h n a b c d e =>
  intro i h1 h2;obtain rfl:i=k:=oM;exact⟨0,_,.leaf a b c d e⟩
 | @node k h m e n a b c d f s1 s2 ih1 ih2 =>
  intro i h1 h2;by_cases h3:i=k
  ·subst h3;exact⟨_,_,.node a b c d f s1 s2⟩
  ·by_cases h4:i<m
   ·exact ih1 i oM h4
   ·exact ih2 i oM h2
end
section
end
section
open Go.RowKit _root_.Go.Proofs.Tryz
end
section
end
section
open Go.RowKit _root_.Go.Proofs.Tryz
end
section
open Go.ChangeShapes Go.WideShapes Go.ChangeAt Go.RowKit
def hpOf (W:World):Hp:=fun b=>match W.heap[b]? with
 | some (.cells c _ _)=>some c
 | _=>none
theorem fits_hpOf (W:World):Fits (hpOf W) W:=fun b c h=>by
 unfold hpOf at h;split at h
 ·rename_i c' T fz hb;cases h;exact⟨T,fz,hb⟩
 ·cases h
section
variable {H:Type} {enc:TypeId × Value→H} {P:Program} {w:World} {base:Nat} {spare:Nat→Bool} {held:Bool}
theorem ints_open {t e:TypeId} {k:IntKind} {fuel:Nat} {cs:List Value} {x:DataW H × List MemPlace} (ht:P.underlying t=some (.slice e)) (he:P.underlying e=some (.int k)) (hc:P.cellsOf e=1) (h:DataW.trod enc P w base spare held fuel t cs=some x) :
  ∃a len cap zs,cs=[.slice a len cap]∧SlN (fun z:Int=>Value.int k z) (hpOf w) (.slice a len cap) zs∧∀n∈zs,(Lit.int k n).wf=true:=by
 rcases open_ints ht he hc h with ⟨rfl,_⟩ | ⟨x,len,cap,zs,rfl,_,hl,hm,hz,_,hcell,hw⟩
 ·exact⟨none,0,0,[],rfl,zrB _ _,fun n hn=>by cases hn⟩
 ·have hzl:len≤zs.length:=by rw[hz];split <;> omega
  refine⟨some x,len,cap,zs.take len,rfl,?_,fun n hn=>hw n (List.mem_of_mem_take hn)⟩;have hlen:(zs.take len).length=len:=by rw[qP];omega
  unfold SlN;rw[hlen];refine⟨by rw[qV,hlen,Nat.mul_one],?_⟩;by_cases h0:len=0
  ·subst h0;exact .inl ⟨rfl,some x,cap,rfl⟩
  ·right;have h1:=hcell 0 oM;obtain⟨b,off,sp⟩:=x
   have hsp:sp=none:=by
    cases sp with
    | none=>rfl
    | some s=>simp only[World.cell?,Addr.add]at h1;split at h1 <;> simp_all
   subst hsp
   have hb:∃c,hpOf w b=some c∧∀i,i<zs.length→c[off+i]?=some (.int k (zs.getD i 0)):=by
    simp only[Addr.add_mid]at hcell;unfold World.cell? at hcell;unfold hpOf;simp only at hcell
    cases hw':w.heap[b]? with
    | none=>have:=hcell 0 oM;rw[hw']at this;cases this
    | some o =>
     cases o with
     | cells c T fz=>exact⟨c,rfl,fun i hi=>by have:=hcell i hi;rw[hw']at this;simpa using this⟩
     | _=>have:=hcell 0 oM;rw[hw']at this;cases this
   obtain⟨c,hc1,hc2⟩:=hb;refine⟨b,off,cap,c,rfl,hl,hc1,fun j y hj=>?_⟩;rw[qK,pN]at hj;split at hj
   ·rename_i hjl;rw[hc2 j oM,←hj,qB,qA (by omega)];rfl
   ·cases hj
end
theorem i64_bounds {z:Int} (h:(Lit.int .i64 z).wf=true):-9223372036854775808≤z∧z<9223372036854775808:=by
 have:=bounds_i64 h;omega
end
section
open Go.ChangeShapes Go.WideShapes Go.ChangeAt Go.RowKit
end
section
open Go.RowKit _root_.Go.Proofs.Tryz
theorem zsJ {α β:Type} {R:α→β→Prop} {A B:List α} {c c':α} {ys:List β} {y:β} (h:(A++c::B).length=ys.length∧∀(j:Nat) (x:α) (y:β),(A++c::B)[j]?=some x→ys[j]?=some y→R x y) (k:R c' y) :
  (A++c'::B).length=(ys.set A.length y).length∧∀(j:Nat) (x:α) (z:β),(A++c'::B)[j]?=some x→(ys.set A.length y)[j]?=some z→R x z:=by
 refine⟨by have:=h.1;simpa using this,fun j x m e1 e2=>?_⟩;rcases Nat.lt_trichotomy j A.length with q | q | q
 ·rw[List.getElem?_set_ne (by omega)]at e2;exact h.2 j x m (by rw[qM q]at e1 ⊢;exact e1) e2
 ·subst q;rw[qL (qH _),Nat.sub_self]at e1;cases e1;have hl:A.length<ys.length:=by have:=h.1;simp at this;omega
  rw[List.getElem?_set_self hl]at e2;cases e2;exact k
 ·obtain⟨p,hp⟩:∃p,j-A.length=p+1:=⟨j-A.length-1,by omega⟩;rw[List.getElem?_set_ne (by omega)]at e2;exact h.2 j x m (by rw[qL oM,hp,pL]at e1 ⊢;exact e1) e2
theorem zsH {α β:Type} {R:α→β→Prop} {xs:List α} {ys:List β} (h:xs.length=ys.length∧∀(j:Nat) (x:α) (y:β),xs[j]?=some x→ys[j]?=some y→R x y) (k:Nat) :
  (xs.take k).length=(ys.take k).length∧∀(j:Nat) (x:α) (y:β),(xs.take k)[j]?=some x→(ys.take k)[j]?=some y→R x y:=by
 refine⟨by rw[qP,qP,h.1],fun j x y e1 e2=>?_⟩;rw[pN]at e1 e2;split at e1
 ·rename_i hj;rw[if_pos hj]at e2;exact h.2 j x y e1 e2
 ·cases e1
theorem zrb {α:Type} {l:List α} {k:Nat} (h:k<l.length):∃A c B,l=A++c::B∧A.length=k:=⟨l.take k,l[k],l.drop (k+1),by rw[List.getElem_cons_drop,List.take_append_drop],by rw[qP];omega⟩
section
variable {P:Program} {n:Nat} {ops:Array Oper} {o:Oper} {rest:List Oper} {env:Env} {bx:Bxs} {H:Hs} {Q:EQ} {τ:Tab} {d:Nat}
theorem EVL.appendR (hτ:zat P τ) {T:TypeId} {x y:Operand} (ho:o.op=.call { callee:=.builtin .append,args:=#[x,y],argTypes:=#[T,T] }) (hg:o.guard=none) (hw:zah ops env o=some true) (hd:o.dst=some d) (hn:Nat.blt d n=true) {te te':TE} {e:TypeId} (ht:τ.get T=some te) (hk:te.kind=.slice e) (ht':τ.get e=some te')
  (hzs:Nat.beq te'.zero.length te'.size=true) (hpos:Nat.ble 1 te'.size=true) (hby:Nat.ble te'.bytes 10000=true) {v:Value} (hx:env.op x=some (.v v)) {u:Value} (hy:env.op y=some (.v u)) (pre ow post:Ows) (he:H.ow=pre++(ow++post)) {m1 m2:Nat} {xs ys:List Value}
  (hown:zaE e te'.size v m1 xs ow) (hsrc:SlC H.ro u m2 te'.size ys) (h1:zdt ys=true) (hm:m1+m2≤1000000000)
  (h:∀v' ow',zaE e te'.size v' (m1+m2) (xs++ys) ow'→EVL P n ops rest ((d,.v v')::env) bx ⟨H.ro,pre++(ow'++post),H.base⟩ Q):EVL P n ops (o::rest) env bx H Q:=by
 by_cases h0:m2=0
 ·subst h0;obtain⟨a',c',rfl⟩:=SlC.val hsrc;have hys:ys=[]:=qz.1 (by rw[hsrc.1,Nat.zero_mul]);subst hys
  have hle:∃a c,v=.slice a m1 c∧m1≤c:=by
   rcases hown.2 with ⟨e1,e2,_⟩ | ⟨g,cap,sp,e1,_,_,e2,_⟩
   ·subst e2;exact⟨_,_,e1,qH _⟩
   ·exact⟨_,_,e1,e2⟩
  obtain⟨a,c,rfl,hle⟩:=hle;refine EVL.append0 hτ ho hw hd hn ht hk ht' hx hy hle ?_;have:=h _ ow (by rw[qG];exact hown);rw[←he]at this;exact this
 ·exact EVL.append hτ ho hg hd hn ht hk ht' hzs hpos hby hx hy pre ow post he hown (zb7.ro hsrc oM) h1 hm h
end
end
section
instance:Nonempty Nd:=⟨⟨0,0,0,0,0,0,0,0,[]⟩⟩
noncomputable def zm6 (x:List Rat) (t:Tr):Nd:=Classical.epsilon fun n=>∃i,zi6 t.ns x 0 i∧t.ns[i]?=some n
theorem zqB {x:List Rat} {t:Tr} {i:Nat} {n:Nd} (h1:zi6 t.ns x 0 i) (h2:t.ns[i]?=some n):zm6 x t=n:=by
 have h:∃n,∃i,zi6 t.ns x 0 i∧t.ns[i]?=some n:=⟨n,i,h1,h2⟩;obtain⟨j,h3,h4⟩:=Classical.epsilon_spec h;have e:=h1.det h3;subst e;have h5:some (zm6 x t)=some n:=h4.symm.trans h2;exact Option.some.inj h5
theorem Sub.leafs {T:List Nd} {w:Int} {k h e:Nat} (h0:Sub T w k h e) (x:List Rat):∃(j:Nat) (n:Nd),zi6 T x k j∧T[j]?=some n:=by
 induction h0 with
 | @leaf k h n a b _ _ _=>exact⟨k,n,.here a b,a⟩
 | @node k h m e n a b c d f s1 s2 ih1 ih2 =>
  by_cases hle:x.getD n.col.toNat 0≤n.at'
  ·obtain⟨j,q,h1,h2⟩:=ih1;refine⟨j,q,.low a oM hle ?_,h2⟩;rw[d];exact h1
  ·obtain⟨j,q,h1,h2⟩:=ih2;refine⟨j,q,.high a oM hle ?_,h2⟩;rw[f];exact h1
theorem zoz {t:Tr} (h:zce t) (x:List Rat):∃i:Nat,zi6 t.ns x 0 i∧i<t.ns.length∧t.ns[i]?=some (zm6 x t)∧OkN t.kd t.cl (zm6 x t):=by
 obtain⟨_,_,_,⟨hh,_,hsub⟩,hall⟩:=h;obtain⟨i,n,h1,h2⟩:=hsub.leafs x;have hi:=(qE.1 h2).1;rw[zqB h1 h2];obtain⟨n',e,hN,_⟩:=hall i hi;rw[h2]at e;cases e;exact⟨i,h1,hi,h2,hN⟩
end
section
open Go.RowKit _root_.Go.Proofs.Tryz
theorem RL.slc {H:Hp} {v:Value} {l:List Rat} (h:RL H v l) {j:Nat} {q:Rat} (hj:l[j]?=some q):∃(cs:List Value) (b:Bool) (a1:Option Addr) (l1 c1:Nat) (a2:Option Addr) (l2 c2:Nat),SlC H v l.length 3 cs∧(cs.drop (j*3)).take 3=[.bool b,.slice a1 l1 c1,.slice a2 l2 c2]∧RQ H (.agg #[.bool b,.slice a1 l1 c1,.slice a2 l2 c2]) q:=by
 obtain⟨vs,x,h1,h2,h3⟩:=h.at hj;obtain⟨a1,l1,c1,a2,l2,c2,rfl,_⟩:=id h3;exact⟨_,_,a1,l1,c1,a2,l2,c2,h1,h2,h3⟩
theorem zpF {H:Hp} {v:Value} {X:List (List Rat)} {w:Nat} (h:QLL H v X) (h1:1≤X.length) (h2:X.length≤300) (hw:1≤w∧w≤20) (hx:∀x,x∈X→x.length=w):PC prog 94 #[v] H fun r _=>r=.bool true:=by
 obtain⟨vs,hvs,hs⟩:=h;obtain⟨a,c,rfl⟩:=SlC.val hs;obtain⟨x0,hx0⟩:=gE h1;obtain⟨a0,c0,hv0,_⟩:=hvs.at hx0;have hl0:=hx x0 (qF hx0);rw[hl0]at hv0;refine BD func94 ntmps94 ?_;refine uR ?_;rw[qC (show ¬(X.length:Int)<1 by omega)];refine uR ?_;rw[qC (show ¬(X.length:Int)>300 by omega)];refine uR ?_;refine vI (hs) (0) (rfl) (h1) (hv0) ?_;refine uR ?_;rw[qC (show ¬(w:Int)<1 by omega)];refine uR ?_;refine vI (hs) (0) (rfl) (h1) (hv0) ?_;refine uR ?_;rw[qC (show ¬(w:Int)>20 by omega)];refine uR ?_;refine EV.loopK (ι:=Nat) [0,27,28] [] (fun i=>[(29,.v (.int .i64 (i:Int)))]) (fun _=>[]) (fun _=>[]) (fun i _=>i≤X.length) (fun i=>X.length-i) (0) rfl rfl ⟨rfl,trivial⟩ trivial rfl (fun _=>rfl) (qQ _) ?_;rintro i G1 hG1 hi;refine uR ?_;refine EV.cond rfl (fun hlt=>?_) (fun hlt=>?_)
 ·simp only[nN]at hlt;obtain⟨x,hxi⟩:=gE hlt;obtain⟨a1,c1,hv1,_⟩:=hvs.at hxi;have hl1:=hx x (qF hxi);rw[hl1]at hv1;refine uR ?_;refine vI ((hs.mono hG1)) (i) (rfl) (hlt) (hv1) ?_;refine uR ?_;refine vI ((hs.mono hG1)) (0) (rfl) (h1) (hv0) ?_;refine uR ?_;rw[pO];refine uR ?_;refine⟨i+1,⟨by rw[zab i (by omega)];rfl,trivial⟩,sB,trivial,sB,rfl,hlt,Hp.Le.refl _,by omega⟩
 ·simp only[nN]at hlt;refine uR ?_;rfl
abbrev ztd (deep least:Int) (g:Rat):List Value:=.int .i64 deep::.int .i64 least::zac (zae g)
theorem zpD {H:Hp} {deep least:Int} {g:Rat} (hg:sm g):PC prog 97 #[.agg (ztd deep least g).toArray] H fun r _=>r=.bool (decide (zmC deep least g)):=by
 have hs:=zcd g (qI hg.num oM);refine BD func97 ntmps97 ?_;refine uR ?_;by_cases h1:deep≥0
 case neg =>
  rw[qC h1];refine uR ?_;exact zdE fun k=>h1 k.1
 rw[qD h1];refine uR ?_;by_cases h2:deep≤10
 case neg =>
  rw[qC h2];refine uR ?_;exact zdE fun k=>h2 k.2.1
 rw[qD h2];refine uR ?_;by_cases h3:least≥1
 case neg =>
  rw[qC h3];refine uR ?_;exact zdE fun k=>h3 k.2.2.1
 rw[qD h3];refine uR ?_;by_cases h4:least≤300
 case neg =>
  rw[qC h4];refine uR ?_;exact zdE fun k=>h4 k.2.2.2.1
 rw[qD h4]
 repeat (first|refine RUN ?_|refine CV (hs) ?_|refine CE (hs) ?_)
 exact congrArg Value.bool (decide_eq_decide.2 ((zmh g).trans ⟨fun k=>⟨h1,h2,h3,h4,k⟩,fun k=>k.2.2.2.2⟩))
theorem znJ {H:Hp} {v:Value} (h:QLL H v []):PC prog 94 #[v] H fun r _=>r=.bool false:=by
 obtain⟨a,c,rfl⟩:=h.val;refine BD func94 ntmps94 ?_;refine uR ?_;rfl
theorem znI {H:Hp} {kd cl deep least ck:Int} {sl sv vx vr:Value} {X:List (List Rat)} {N:Nat} {rows:List Int} {w:Nat} {g:Rat} (hck:∀G,H.Le G→PC prog 96 #[zas kd cl sl sv] G fun r _=>r=.int .i64 ck) (hlen:PV prog 95 #[zas kd cl sl sv] (.int .i64 (N:Int))) (hX:QLL H vx X) (hN:1≤N) (h2:X.length≤300) (hw:1≤w∧w≤20) (hx:∀x,x∈X→x.length=w)
  (hr:IL H vr rows) (hr0:0<rows.length) (hrn:rows.length≤300) (hgs:sm g) :
  PC prog 53 #[zas kd cl sl sv,vx,vr,.agg (ztd deep least g).toArray] H fun r _=>r=.int .i64 (ztr X.length N ck (decide (zmC deep least g)) rows):=by
 obtain⟨ra,rc,rfl⟩:=SlC.val hr;by_cases hn0:X.length=0
 ·have hne:X.length≠N:=oM;obtain rfl:=qz.1 hn0;have hv:=znJ hX;obtain⟨xa,xc,rfl⟩:=hX.val;refine BD func53 ntmps53 ?_;refine uR ?_;refine vA (hv) ?_;rintro _ G1 rfl hG1;refine uR ?_;rw[zlI hne]
 have hv:=zpF hX oM h2 hw hx;obtain⟨xa,xc,rfl⟩:=hX.val;have hf:=fun (G:Hp)=>zpD (H:=G) (deep:=deep) (least:=least) hgs;generalize decide (zmC deep least g)=fb at *
 refine BD func53 ntmps53 ?_;refine uR ?_;refine vA (hv) ?_;rintro _ G1 rfl hG1
 repeat (first|refine RUN ?_|refine CV (hlen) ?_|refine CE (hlen) ?_)
 by_cases hne:X.length=N
 case neg =>
  rw[show ((X.length:Int) != (N:Int))=true from bne_iff_ne.2 (by omega)];refine uR ?_;rw[zlI hne]
 subst hne;rw[show ((X.length:Int) != (X.length:Int))=false from pO _];refine uR ?_;rw[qC (show ¬(rows.length:Int)<1 by omega)];refine uR ?_;rw[qC (show ¬(rows.length:Int)>300 by omega)];refine uR ?_;refine vA (hck G1 hG1) ?_;rintro _ G2 rfl hG2;refine uR ?_;by_cases hc0:ck=0
 case neg =>
  rw[show (ck != 0)=true from bne_iff_ne.2 hc0];refine uR ?_;rw[zfB fun k=>hc0 k.1]
 subst hc0;refine uR ?_;refine vA (hf G2) ?_;rintro _ G3 rfl hG3;have hH3:=hG1.trans (hG2.trans hG3);cases fb
 case false =>
  refine uR ?_;rw[zfB fun k=>by cases k.2.1]
 refine uR ?_;refine EV.loopK (ι:=Nat) [1,39,40] [] (fun q=>[(41,.v (.int .i64 (q:Int)))]) (fun _=>[]) (fun _=>[]) (fun q _=>q≤rows.length∧∀r,r∈rows.take q→0≤r∧r<(X.length:Int)) (fun q=>rows.length-q) (0) rfl rfl ⟨rfl,trivial⟩ trivial rfl (fun _=>rfl) (⟨qQ _,fun r hr=>by cases hr⟩) ?_;rintro i G4 hG4 ⟨hi,hall⟩;refine uR ?_;refine EV.cond rfl (fun hlt=>?_) (fun hlt=>?_)
 ·simp only[nN]at hlt;obtain⟨r,hri⟩:=gE hlt;have hmem:=qF hri;refine uR ?_;refine vI ((hr.mono (hH3.trans hG4))) (i) (rfl) (hlt) ((by rw[qK,hri];rfl)) ?_;refine uR ?_;by_cases hr0:r<0
  ·rw[qD hr0];refine uR ?_;rw[zfB fun k=>by have:=k.2.2 r hmem;omega]
  rw[qC hr0];refine uR ?_;by_cases hrx:r≥(X.length:Int)
  ·rw[qD hrx];refine uR ?_;rw[zfB fun k=>by have:=k.2.2 r hmem;omega]
  rw[qC hrx];refine uR ?_;refine⟨i+1,⟨by rw[zab i (by omega)];rfl,trivial⟩,sB,trivial,trivial,rfl,⟨hlt,fun y hy=>?_⟩,Hp.Le.refl _,by omega⟩;rw[zan hri]at hy;rcases List.mem_append.1 hy with h | h
  ·exact hall y h
  ·rw[pJ.1 h];omega
 ·simp only[nN]at hlt;obtain rfl:i=rows.length:=oM;rw[qa]at hall;refine uR ?_;rw[zlH hall]
theorem zm7 {x:Nat × TypeId × List Value} {D ow post:Ows} (h:zcY (x::(D++(ow++post)))):∀k,k∈Ows.bs D→∀q,q∈ow→k≠q.1:=fun k hk q hq e=>by
 have hn:=zdy.1 h;unfold Ows.bs at hn hk;simp only[qw,qn,List.nodup_cons,List.nodup_append]at hn;exact hn.2.2.2 k hk q.1 (List.mem_append_left _ (List.mem_map.2 ⟨q,hq,rfl⟩)) e
theorem ze7.bs {dv:Value} {D D':Ows} {s s':Int} (h:ze7 dv D s) (h':ze7 dv D' s'):Ows.bs D=Ows.bs D':=by
 rcases h with ⟨e,rfl⟩ | ⟨b,T,e,rfl,_⟩
 ·rcases h' with ⟨_,rfl⟩ | ⟨b',T',e',rfl,_⟩
  ·rfl
  ·rw[e]at e';cases e'
 ·rcases h' with ⟨e',rfl⟩ | ⟨b',T',e',rfl,_⟩
  ·rw[e]at e';cases e'
  ·rw[e]at e';cases e';rfl
set_option maxRecDepth 100000 in
theorem zre {p:GP} {H:Hp} {kd cl least:Int} {D0 w:Nat} {S:List Int→List Value} {wo:List Int→Rat} {la va xa:Option Addr} {ln lc vn vc xc:Nat} {f:FuncId} {ccs:List Value} {dv vr:Value} {rows:List Int} {s:Int} {D:Ows}
  (hcl:∀s,(p.cols s).1.length≤1000) (hx0:0<p.X.length) (hX20:p.X.length≤20) (hxw:∀x,x∈p.X→x.length=w) (hxq:∀x,x∈p.X→∀q,q∈x→ht q≤60) (hpl:p.least=least) (hgr:sm p.gain) (hD0:D0≤10)
  (hg:zky H kd cl (.slice la ln lc) (.slice va vn vc) p S wo) (hX:QLL H (.slice xa p.X.length xc) p.X) (hcf:zhz H f ccs dv p) (hr:IL H vr rows) (hn:rows.length≤20) (hb:∀r,r∈rows→0≤r∧r<(p.X.length:Int)) (hD:ze7 dv D s) :
  PW prog 54 #[zas kd cl (.slice la ln lc) (.slice va vn vc),.slice xa p.X.length xc,vr,.agg (ztd (D0:Int) least p.gain).toArray,.func (.func f) #[] ccs.toArray] H D fun v ow H'=>∃cs,v=.agg cs.toArray∧zd4 H' cs kd cl (w:Int) (p.grow D0 0 rows s).1∧ze7 dv ow (p.grow D0 0 rows s).2:=by
 obtain⟨ra,rc,rfl⟩:=SlC.val hr;have hpow:2 ^ (D0+1)≤2 ^ 11:=qc oM oM;obtain⟨vs,hvs,hvx⟩:=id hX;obtain⟨x0,hxx0⟩:=gE hx0;obtain⟨u0,e0,hu0,_⟩:=hvs.at hxx0;rw[hxw x0 (qF hxx0)]at hu0;refine PW.body tO func54 rfl kR ntmps54 rfl rfl ?_;refine uR ?_;(first|refine EVL.unbox (11) rfl fun gb=>?_|refine EV.unbox (11) rfl fun gb=>?_);refine EVL.callW rfl rfl rfl rfl rfl ((gb,178,_)::(D++[])) [] (by rw[qG,qG]) (zqS (p:=p) (deep:=(D0:Int)) hcl hx0 hX20 hxq hpl hgr D0 (ns:=[]) (css:=[]) hg hX hcf oM (Int.le_refl _) oM hr hn hb hD (zaE.nil _ _) ⟨rfl,fun j c n e1 e2=>by cases e1⟩ (by rw[qg];omega)) ?_;rintro _ _ G1 ⟨rfl,out,D',ow2,css,rfl,hD',hown,hns⟩ hG1;rw[pM]at hown hns;rw[qg]at hown hns hD';obtain⟨oa,oc,rfl⟩:=hown.val;rw[qG ((gb,_,_)::(D'++ow2))];refine EVL.apart fun hdis=>?_;refine EVL.publishL ((gb,_,_)::D') ow2 [] (by rw[qG,List.cons_append]) hown (fun G2 hG2 hc=>?_) (fun k hk q hq=>zm7 (post:=[]) (by rw[qG];exact hdis) k (by rw[←hD.bs hD'];exact hk) q hq);rw[qG ((gb,_,_)::D')];have hG12:=hG1.trans hG2;refine uR ?_;apply EV.drawn 11 kR kR;intro xv yw;(repeat refine' DD ?_);refine' vJ (hvx.mono hG12) (0) (rfl) (hx0) (hu0) ?_;rotate_left;(repeat (first|refine' DD ?_|refine' vN ?_|refine' vF ?_));refine' DJ.ofVal (zaa.loadOwn tO rfl rfl rfl rfl (0) rfl (rfl) rfl rfl) rfl rfl rfl ?_;rotate_left;(repeat (first|refine' DD ?_|refine' vN ?_|refine' vF ?_));(refine DJ.nil (fun G hG hF=>?_);(case hS|hS2=>rfl));(first|refine EVL.subOw [] [(gb,_,_)] _ rfl ?_|refine EV.subOw [] [(gb,_,_)] _ rfl ?_);refine uR ?_;exact⟨_,rfl,⟨oa,oc,css,rfl,hns.mono (hG2.trans hG),SlC.mono hc hG⟩,hD'⟩
def zd5 (w:Nat):List Int:=(List.range w).map fun i:Nat=>(i:Int)
theorem zc0 (w:Nat):(zd5 w).length=w:=by simp[zd5]
theorem zjb (w:Nat):zd5 (w+1)=zd5 w++[(w:Int)]:=by simp[zd5,List.range_succ]
theorem ziu (x:Value):∀w:Nat,(List.replicate w [x]).flatten=List.replicate w x
 | 0=>rfl
 | w+1=>by rw[List.replicate_succ,List.flatten_cons,ziu x w,List.replicate_succ];rfl
theorem zrY {w i:Nat} (h:i<w) (u:Nat):(zd5 i).map iv++List.replicate (w-i) (Value.int .i64 0)=(zd5 i).map iv++([Value.int .i64 0]++List.replicate (w-(i+1)) (Value.int .i64 0)):=by
 rw[show w-i=(w-(i+1))+1 by omega,List.replicate_succ];rfl
theorem zrX {w i:Nat} (h:i<w):((zd5 i).map iv++List.replicate (w-i) (Value.int .i64 0)).set i (.int .i64 (i:Int))=(zd5 (i+1)).map iv++List.replicate (w-(i+1)) (Value.int .i64 0):=by
 rw[zrY h 0,List.set_append_right _ _ (by rw[qV,zc0];exact qH _),qV,zc0,Nat.sub_self,zjb,qn,qZ];rfl
theorem zk5 {H:Hp} {p:GP} {a w c:Nat} {sa:Option Addr} (hds:∀s,p.cols s=(zd5 w,s)) (ha:H a=some ([.slice sa w c]:List Value).toArray) (hil:IL H (.slice sa w c) (zd5 w)):zhz H 55 [.pointer (some ⟨a,0,none⟩)] (.pointer none) p:=by
 intro G hG D s hD;have hcs:(p.cols s).1=zd5 w:=by rw[hds]
 have hcs2:(p.cols s).2=s:=by rw[hds]
 rw[hcs,hcs2];have hil2:=hil.mono hG;refine PW.body tO func55 rfl kR ntmps55 rfl rfl ?_;refine EV.asRo 0 rfl (hG _ _ ha) ?_;refine uR ?_;exact⟨hil2,hD⟩
set_option maxRecDepth 100000 in
theorem zli {p:GP} {H:Hp} {kd cl least:Int} {D0 w:Nat} {s:Int} {S:List Int→List Value} {wo:List Int→Rat} {la va xa:Option Addr} {ln lc vn vc xc:Nat} {vr:Value} {rows:List Int}
  (hds:∀s,p.cols s=(zd5 w,s)) (hw1:1≤w) (hw2:w≤20) (hx0:0<p.X.length) (hX20:p.X.length≤20) (hxw:∀x,x∈p.X→x.length=w) (hxq:∀x,x∈p.X→∀q,q∈x→ht q≤60) (hpl:p.least=least) (hl:1≤least∧least≤300) (hgr:sm p.gain) (hg0:0≤p.gain) (hD0:D0≤10)
  (hg:zky H kd cl (.slice la ln lc) (.slice va vn vc) p S wo) (hX:QLL H (.slice xa p.X.length xc) p.X) (hr:IL H vr rows) (hr0:0<rows.length) (hn:rows.length≤20) (hb:∀r,r∈rows→0≤r∧r<(p.X.length:Int)) :
  PC prog 27 #[zas kd cl (.slice la ln lc) (.slice va vn vc),.slice xa p.X.length xc,vr,.agg (ztd (D0:Int) least p.gain).toArray] H
   fun v H'=>∃cs,v=.tuple #[.agg cs.toArray,.int .i64 0]∧zd4 H' cs kd cl (w:Int) (p.grow D0 0 rows s).1:=by
 obtain⟨ra,rc,rfl⟩:=SlC.val hr;have hrf:=znI (deep:=(D0:Int)) (least:=least) hg.ok.check hg.ok.leng hX oM oM ⟨by omega,hw2⟩ hxw hr hr0 oM hgr;rw[qD (show zmC (D0:Int) least p.gain from ⟨by omega,by omega,by omega,by omega,hg0⟩),zlH hb]at hrf;obtain⟨vs,hvs,hvx⟩:=id hX;obtain⟨x0,hxx0⟩:=gE hx0;obtain⟨u0,e0,hu0,_⟩:=hvs.at hxx0;rw[hxw x0 (qF hxx0)]at hu0;refine BD func27 ntmps27 ?_;refine uR ?_;refine vA (hrf) ?_;rintro _ G1 rfl hG1;refine uR ?_;refine vI ((hvx.mono hG1)) (0) (rfl) (hx0) (hu0) ?_;refine uR ?_;refine EVL.make tO rfl rfl rfl rfl rfl rfl rfl rfl rfl (w) (rfl) oM (by rfl) (by rfl) fun b=>?_;refine uR ?_;(first|refine EVL.swapOw ([(b,3,(zd5 0).map iv++List.replicate (w-0) (.int .i64 0))]) ([]) ((by rw[show (Tryz.te3).zero=[Value.int .i64 0] from rfl,ziu];rfl)) ?_|refine EV.swapOw ([(b,3,(zd5 0).map iv++List.replicate (w-0) (.int .i64 0))]) ([]) ((by rw[show (Tryz.te3).zero=[Value.int .i64 0] from rfl,ziu];rfl)) ?_);refine EV.loopK (ι:=Nat) [1,2,4,7,8,11,28] [4,7,8,11] (fun i=>[(29,.v (.int .i64 (i:Int)))]) (fun _=>[]) (fun i=>[(b,3,(zd5 i).map iv++List.replicate (w-i) (.int .i64 0))]) (fun i _=>i≤w) (fun i=>w-i) (0) rfl rfl ⟨rfl,trivial⟩ trivial rfl (fun _=>rfl) (qQ _) ?_;rintro i G2 hG2 hi;refine uR ?_;refine EV.cond rfl (fun hlt=>?_) (fun hlt=>?_)
 ·simp only[nN]at hlt;have wn:IntKind.i64.wrap ((i:Int)+1)=((i+1:Nat):Int):=zab i oM;refine uR ?_;refine EVL.idxB tO rfl rfl rfl rfl rfl rfl rfl rfl rfl (i) (i*1) (rfl) (hlt) (rfl) ?_;rw[Nat.mul_one];refine uR ?_;refine EVL.set1 tO rfl rfl rfl rfl rfl rfl rfl rfl rfl rfl ((by rw[qJ,qV,zc0,List.length_replicate];omega)) ?_;rw[zrX hlt];refine uR ?_;refine⟨i+1,⟨by rw[wn];rfl,trivial⟩,sB,trivial,sB,rfl,hlt,Hp.Le.refl _,by omega⟩
 ·simp only[nN]at hlt;obtain rfl:i=w:=oM;rw[Nat.sub_self,List.replicate_zero];(first|refine EVL.publish [] [] rfl fun G3 hG3 hb3=>?_|refine EV.publish [] [] rfl fun G3 hG3 hb3=>?_);(first|refine EVL.unbox (11) rfl fun ga=>?_|refine EV.unbox (11) rfl fun ga=>?_);(first|refine EVL.publish [] [] rfl fun G4 hG4 hb4=>?_|refine EV.publish [] [] rfl fun G4 hG4 hb4=>?_);refine uR ?_;refine EVL.fn1 rfl rfl rfl rfl rfl ?_;have hH4:=hG1.trans (hG2.trans (hG3.trans hG4));have hcf:=zk5 (p:=p) (H:=G4) hds hb4 (zou (hG4 _ _ hb3) (zc0 _));refine EVL.callW rfl rfl rfl rfl rfl [] [] rfl (zre (w:=i) (s:=s) (fun s=>by rw[hds];show (zd5 i).length≤1000;rw[zc0];omega) hx0 hX20 hxw hxq hpl hgr hD0 (hg.mono hH4) (hX.mono hH4) hcf (hr.mono hH4) hn hb (.inl ⟨rfl,rfl⟩)) ?_;rintro _ D' G5 ⟨cs,rfl,hpt,hD'⟩ hG5;rcases hD' with ⟨_,rfl⟩|⟨bd',T',e1,_⟩
  ·obtain⟨ta,tc,css,rfl,_⟩:=id hpt;refine uR ?_;exact⟨_,rfl,hpt⟩
  ·cases e1
end
section
def Gr (D A:Nat) (q:Rat):Prop:=∃z:Int,q*((D:Int):Rat)=(z:Rat)∧z.natAbs≤A*D
theorem zkV (z:Int) (k:Nat):(z*(k:Int)).natAbs=z.natAbs*k:=by rw[Int.natAbs_mul,Int.natAbs_natCast]
theorem Gr.bits {D A:Nat} {q:Rat} (hD:1≤D) (hA:1≤A) (h:Gr D A q):ht q≤bl (A*D):=by
 obtain⟨z,e,hz⟩:=h
 have hq:q=mkRat z D:=by
  rw[Rat.mkRat_eq_div];have h0:=zdI (show D≠0 by omega);have:((D:Nat):Rat)=((D:Int):Rat):=rfl;rw[this,←e];grind
 rw[hq];refine qI (zqv z D oM) ?_;have h1:=zbC hz;have h2:=zbC (show D≤A*D from Nat.le_mul_of_pos_left D oM);omega
theorem Gr.up {D A:Nat} {q:Rat} (h:Gr D A q) (k:Nat):Gr (D*k) A q:=by
 obtain⟨z,e,hz⟩:=h;refine⟨z*(k:Int),?_,?_⟩
 ·rw[Int.natCast_mul,Rat.intCast_mul,Rat.intCast_mul,←Rat.mul_assoc,e]
 ·rw[zkV,←Nat.mul_assoc];exact qN k hz
theorem Gr.zero (D A:Nat):Gr D A 0:=⟨0,by rw[Rat.zero_mul];rfl,qQ _⟩
theorem Gr.neg {D A:Nat} {q:Rat} (h:Gr D A q):Gr D A (-q):=by
 obtain⟨z,e,hz⟩:=h;refine⟨-z,?_,by rw[Int.natAbs_neg];exact hz⟩;rw[Rat.neg_mul,e,Rat.intCast_neg]
theorem Gr.add {D A B:Nat} {p q:Rat} (h:Gr D A p) (k:Gr D B q):Gr D (A+B) (p+q):=by
 obtain⟨z,e,hz⟩:=h;obtain⟨y,e',hy⟩:=k;refine⟨z+y,?_,?_⟩
 ·rw[Rat.add_mul,e,e',Rat.intCast_add]
 ·rw[qu];exact qI (Int.natAbs_add_le _ _) (Nat.add_le_add hz hy)
theorem Gr.sub {D A B:Nat} {p q:Rat} (h:Gr D A p) (k:Gr D B q):Gr D (A+B) (p-q):=by
 rw[Rat.sub_eq_add_neg];exact h.add k.neg
theorem Gr.mul {D E A B:Nat} {p q:Rat} (h:Gr D A p) (k:Gr E B q):Gr (D*E) (A*B) (p*q):=by
 obtain⟨z,e,hz⟩:=h;obtain⟨y,e',hy⟩:=k;refine⟨z*y,?_,?_⟩
 ·rw[Int.natCast_mul,Rat.intCast_mul,Rat.intCast_mul,←e,←e'];grind
 ·rw[Int.natAbs_mul,show A*B*(D*E)=(A*D)*(B*E) by rw[Nat.mul_assoc,Nat.mul_assoc,Nat.mul_left_comm B D E]];exact Nat.mul_le_mul hz hy
theorem Gr.sumr {D A:Nat}:∀(l:List Rat),(∀q,q∈l→Gr D A q)→Gr D (A*l.length) (zaJ l.reverse)
 | [],_=>Gr.zero _ _
 | x::l,h=>by
  rw[List.reverse_cons,zbL,qR,Nat.mul_succ];exact(Gr.sumr l fun q hq=>h q (qk _ hq)).add (h x (qf ..))
theorem Gr.sum {D A:Nat} {l:List Rat} (h:∀q,q∈l→Gr D A q):Gr D (A*l.length) (zaJ l):=by
 have:=Gr.sumr (D:=D) (A:=A) l.reverse fun q hq=>h q (List.mem_reverse.1 hq)
 rwa [List.reverse_reverse,List.length_reverse]at this
theorem Gr.mean {D A:Nat} {l:List Rat} (h:∀q,q∈l→Gr D A q):Gr (D*l.length) A (zb5 l):=by
 by_cases h0:l.length=0
 ·obtain rfl:=qz.1 h0;rw[show zb5 []=0 from zaV _];exact Gr.zero _ _
 obtain⟨z,e,hz⟩:=Gr.sum h;refine⟨z,?_,?_⟩
 ·have h1:=zdI (n:=l.length) oM;rw[Int.natCast_mul,Rat.intCast_mul,←e];unfold zb5;grind
 ·rw[show A*(D*l.length)=A*l.length*D by rw[Nat.mul_assoc,qW D]];exact hz
theorem Gr.dev {D A:Nat} {l:List Rat} (h:∀q,q∈l→Gr D A q):Gr (D*l.length*(D*l.length)) ((A+A)*(A+A)*l.length) (zaJ (zdx (zb5 l) l)):=by
 have hm:=Gr.mean h
 have:=Gr.sum (D:=D*l.length*(D*l.length)) (A:=(A+A)*(A+A)) (l:=zdx (zb5 l) l) fun q hq=>by
  obtain⟨v,hv,rfl⟩:=List.mem_map.1 hq;have h1:=((h v hv).up l.length).sub hm;exact h1.mul h1
 rwa [show (zdx (zb5 l) l).length=l.length by unfold zdx;exact qV ..]at this
theorem zsF (q:Rat):q*(((q.den:Nat):Int):Rat)=(q.num:Rat):=by
 have h0:=zdI q.den_nz;have e:=Rat.mkRat_self q;rw[Rat.mkRat_eq_div]at e;have h1:((q.den:Nat):Rat)=(((q.den:Nat):Int):Rat):=rfl;rw[h1]at e;generalize (((q.den:Nat):Int):Rat)=d at *
 generalize (q.num:Rat)=n at *
 clear h1;rw[show q=n / d from e.symm];grind
theorem Gr.ofDen {D A:Nat} {q:Rat} (hd:q.den ∣ D) (hn:q.num.natAbs≤A*q.den):Gr D A q:=by
 obtain⟨k,rfl⟩:=hd;have h0:Gr q.den A q:=⟨q.num,zsF q,hn⟩;exact h0.up k
def zsl:Nat:=72201776446800
theorem zoy:∀d:Nat,d<32→d≠0→d ∣ zsl:=by decide
theorem Gr.of5 {q:Rat} (h:ht q≤5):Gr zsl 31 q:=by
 have h1:=zbi q;have h2:=za3 q
 have lt5:∀n:Nat,bl n≤5→n<32:=fun n hn=>Nat.lt_of_not_le fun k=>by
  have:=zbC k;have h6:bl 32=6:=zgg 5;omega
 have:=lt5 _ (qI h1 h);have h3:=lt5 _ (qI h2 h);have hd:=q.den_nz;refine Gr.ofDen (zoy _ h3 hd) ?_;have:31*1≤31*q.den:=qb 31 oM;omega
def zrt (l:List Rat):Prop:=∃D A:Nat,1≤D∧1≤A∧bl (A*D)≤95∧∀q,q∈l→Gr D A q
theorem zrt.of5 {l:List Rat} (h:∀q,q∈l→ht q≤5):zrt l:=⟨zsl,31,by decide,by decide,zaZ (by decide),fun q hq=>Gr.of5 (h q hq)⟩
theorem zrt.bits {l:List Rat} (h:zrt l):∀q,q∈l→ht q≤95:=fun q hq=>by
 obtain⟨D,A,hD,hA,hb,hl⟩:=h;exact qI ((hl q hq).bits hD hA) hb
theorem zrt.small {l m:List Rat} (h:zrt l) (hm:∀q,q∈m→q∈l) (hl:m.length≤300):ht (zb5 m)≤104∧ht (zaJ (zdx (zb5 m) m))≤300:=by
 obtain⟨D,A,hD,hA,hb,hq⟩:=h;by_cases h0:m.length=0
 ·obtain rfl:=qz.1 h0;rw[show zb5 []=0 from zaV _,show zaJ (zdx 0 [])=0 from rfl,zcr];omega
 have hg:=fun q k=>hq q (hm q k);have h300:bl m.length≤9:=zaZ oM;have h4:bl 4=3:=zgg 2;constructor
 ·refine qI ((Gr.mean hg).bits (qI hD (Nat.le_mul_of_pos_right D oM)) hA) ?_;rw[←Nat.mul_assoc];have:=zbh (A*D) m.length;omega
 ·refine qI ((Gr.dev hg).bits (Nat.mul_pos (Nat.mul_pos oM oM) (Nat.mul_pos oM oM)) (Nat.mul_pos (Nat.mul_pos oM oM) oM)) ?_;rw[show (A+A)*(A+A)*m.length*(D*m.length*(D*m.length))=4*((A*D)*(A*D))*(m.length*(m.length*m.length)) by grind];have h5:=zbh (4*((A*D)*(A*D))) (m.length*(m.length*m.length));have h6:=zbh 4 ((A*D)*(A*D));have h7:=zbh (A*D) (A*D);have h8:=zbh m.length (m.length*m.length);have h9:=zbh m.length m.length;omega
end
end Go.Proofs.YtjdpljkildlfaaaGreatDoor
