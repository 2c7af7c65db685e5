/- Texts of ours in one: Tp2, Lc1, Ev29, Th8, LaidE. -/
import Derived.Test.YtifcjfodgicngaaGreatDoorD0
import Derived.Test.YtifcjfodgicngaaGreatDoorD1
import Derived.Test.YtifcjfodgicngaaGreatDoorD4
import Derived.ProofKit
import Derived.OpenShut
import Derived.LaidMore
import Derived.Lay
import Derived.Stop.Joined
set_option linter.unusedVariables false
set_option linter.unusedSimpArgs false
set_option maxHeartbeats 64000000
namespace Go.Proofs.YtifcjfodgicngaaGreatDoor
section
def At (S:List Nd) (k:Nat) (L:List Nd):Prop:=∀(j:Nat) (n:Nd),L[j]?=some n→S[k+j]?=some n
theorem At.head {S L:List Nd} {k:Nat} {n:Nd} (h:At S k (n::L)):S[k]?=some n:=h 0 n rfl
theorem At.left {S A B:List Nd} {k:Nat} {n:Nd} (h:At S k (n::(A++B))):At S (k+1) A:=fun j m hj=>by
 have:=h (j+1) m (by rw[List.getElem?_cons_succ,List.getElem?_append_left (qE.1 hj).1];exact hj);rw[show k+1+j=k+(j+1) by omega];exact this
theorem At.right {S A B:List Nd} {k:Nat} {n:Nd} (h:At S k (n::(A++B))):At S (k+1+A.length) B:=fun j m hj=>by
 have:=h (j+A.length+1) m (by rw[List.getElem?_cons_succ,List.getElem?_append_right oM,Nat.add_sub_cancel];exact hj);rw[show k+1+A.length+j=k+(j+A.length+1) by omega];exact this
theorem At.self (L:List Nd):At L 0 L:=fun j n h=>by rw[Nat.zero_add];exact h
def zrW (S T:List Nd):List Int→List Int→Prop
 | [],_=>True
 | _::_,[]=>False
 | a::l,b::m=>(0≤a∧0≤b)∧(∃n n',S[a.toNat]?=some n∧T[b.toNat]?=some n'∧n.rows=n'.rows∧(l≠[]→n.col=n'.col∧n.at'=n'.at'))∧zrW S T l m
theorem zrW.get {S T:List Nd}:∀{l m:List Int},zrW S T l m→l.length≤m.length∧∀(i:Nat) (a b:Int),l[i]?=some a→m[i]?=some b→(0≤a∧0≤b)∧∃n n',S[a.toNat]?=some n∧T[b.toNat]?=some n'∧n.rows=n'.rows∧(i+1<l.length→n.col=n'.col∧n.at'=n'.at')
 | [],m,_=>⟨Nat.zero_le _,fun i a b h=>by cases h⟩
 | a::l,[],h=>h.elim
 | a::l,b::m,h=>by
  obtain⟨h0,⟨n,n',h1,h2,h3,h4⟩,h5⟩:=h;obtain⟨k1,k2⟩:=zrW.get h5;refine⟨by simp only[List.length_cons];omega,fun i x y hx hy=>?_⟩
  cases i with
  | zero =>
   cases hx;cases hy;exact⟨h0,n,n',h1,h2,h3,fun k=>h4 fun e=>by subst e;simp at k⟩
  | succ i =>
   obtain⟨q1,n2,n2',q2,q3,q4,q5⟩:=k2 i x y hx hy;exact⟨q1,n2,n2',q2,q3,q4,fun k=>q5 (by rw[List.length_cons]at k;omega)⟩
theorem zjB.one {T:List Nd} {x:List Rat} {i:Nat} {n:Nd} {l:List Int} (h:zjB T x i l) (hn:T[i]?=some n):(n.col = -1∧l=[(i:Int)])∨(n.col ≠ -1∧∃m,l=(i:Int)::m∧m≠[]∧((x.getD n.col.toNat 0≤n.at'∧zjB T x n.left.toNat m)∨(¬x.getD n.col.toNat 0≤n.at'∧zjB T x n.right.toNat m))):=by
 have hne:∀{j:Nat} {m:List Int},zjB T x j m→m≠[]:=fun h=>by cases h <;> simp
 cases h with
 | here h1 h2=>cases h1.symm.trans hn;exact .inl ⟨h2,rfl⟩
 | low h1 h2 h3 h4=>cases h1.symm.trans hn;exact .inr ⟨h2,_,rfl,hne h4,.inl ⟨h3,h4⟩⟩
 | high h1 h2 h3 h4=>cases h1.symm.trans hn;exact .inr ⟨h2,_,rfl,hne h4,.inr ⟨h3,h4⟩⟩
def GP.still (p:GP):Prop:=∀s s',(p.cols s).1=(p.cols s').1
theorem znn (p:GP) (d k:Nat) (rows:List Int) (s:Int):∃n L,(p.grow d k rows s).1=n::L∧n.rows=(rows.length:Int):=by
 cases d with
 | zero=>exact⟨_,[],rfl,rfl⟩
 | succ d =>
  cases h:p.cut rows (p.cols s).1 with
  | none=>rw[GP.grow_none h];exact⟨_,[],rfl,rfl⟩
  | some q=>obtain⟨c,t⟩:=q;rw[GP.grow_some h];exact⟨_,_,rfl,rfl⟩
theorem zlV {p:GP} {kd cl:Int} {w:Nat} (hp:zkw p kd cl w) (hst:p.still) {S T:List Nd} {x:List Rat}:∀(d k m:Nat) (rows:List Int) (s s':Int),(∀r,r∈rows→0≤r∧r<(p.X.length:Int))→At S k (p.grow d k rows s).1→At T m (p.grow (d+1) m rows s').1→∀a b,zjB S x k a→zjB T x m b→zrW S T a b:=by
 intro d
 induction d with
 | zero =>
  intro k m rows s s' hb hS hT a b ha hb';rw[GP.grow_zero]at hS;obtain⟨n',L,e,hr⟩:=znn p 1 m rows s';rw[e]at hT;rcases ha.one hS.head with ⟨_,rfl⟩ | ⟨h,_⟩
  ·have hbb:∃l,b=(m:Int)::l:=by
    rcases hb'.one hT.head with ⟨_,rfl⟩ | ⟨_,l,rfl,_⟩ <;> exact⟨_,rfl⟩
   obtain⟨l,rfl⟩:=hbb;exact⟨by omega,⟨_,_,(congrArg (S[·]?) (Int.toNat_natCast _)).trans hS.head,(congrArg (T[·]?) (Int.toNat_natCast _)).trans hT.head,hr.symm,fun h=>absurd rfl h⟩,trivial⟩
  ·exact absurd rfl h
 | succ d ih =>
  intro k m rows s s' hb hS hT a b ha hb'
  cases hc:p.cut rows (p.cols s).1 with
  | none =>
   have hc':p.cut rows (p.cols s').1=none:=by rw[hst s' s];exact hc
   rw[GP.grow_none hc]at hS;rw[GP.grow_none hc']at hT;rcases ha.one hS.head with ⟨_,rfl⟩ | ⟨h,_⟩
   ·rcases hb'.one hT.head with ⟨_,rfl⟩ | ⟨h,_⟩
    ·exact⟨by omega,⟨_,_,(congrArg (S[·]?) (Int.toNat_natCast _)).trans hS.head,(congrArg (T[·]?) (Int.toNat_natCast _)).trans hT.head,rfl,fun h=>absurd rfl h⟩,trivial⟩
    ·exact absurd rfl h
   ·exact absurd rfl h
  | some q =>
   obtain⟨c,t⟩:=q;have hc':p.cut rows (p.cols s').1=some (c,t):=by rw[hst s' s];exact hc
   obtain⟨hcw,_⟩:=zgJ hp hb hc;rw[GP.grow_some hc]at hS;rw[GP.grow_some hc']at hT;have hlo:∀r,r∈zbe p.X c t rows→0≤r∧r<(p.X.length:Int):=fun r hr=>hb r (List.mem_filter.mp hr).1;have hhi:∀r,r∈zaM p.X c t rows→0≤r∧r<(p.X.length:Int):=fun r hr=>hb r (List.mem_filter.mp hr).1;rcases ha.one hS.head with ⟨h,_⟩ | ⟨_,a',rfl,hna,ha'⟩
   ·have:c = -1:=h;omega
   rcases hb'.one hT.head with ⟨h,_⟩ | ⟨_,b',rfl,_,hb''⟩
   ·have:c = -1:=h;omega
   refine⟨by omega,⟨_,_,(congrArg (S[·]?) (Int.toNat_natCast _)).trans hS.head,(congrArg (T[·]?) (Int.toNat_natCast _)).trans hT.head,rfl,fun _=>⟨rfl,rfl⟩⟩,?_⟩;dsimp only at ha' hb'';rcases ha' with ⟨h1,h2⟩ | ⟨h1,h2⟩
   ·rcases hb'' with ⟨_,h4⟩ | ⟨h3,_⟩
    ·rw[Int.toNat_natCast]at h2 h4;exact ih _ _ _ _ _ hlo hS.left hT.left _ _ h2 h4
    ·exact absurd h1 h3
   ·rcases hb'' with ⟨h3,_⟩ | ⟨_,h4⟩
    ·exact absurd h3 h1
    ·rw[Int.toNat_natCast]at h2 h4;exact ih _ _ _ _ _ hhi hS.right hT.right _ _ h2 h4
def zcE (ns:List Nd):List Nd:=ns.filter fun n=>decide (n.col = -1)
def zcD (ns:List Nd):Rat:=zaX ((zcE ns).map Nd.cost)
theorem zeS (A B:List Nd):zcE (A++B)=zcE A++zcE B:=List.filter_append ..
theorem zc9 (A B:List Nd):zcD (A++B)=zcD A+zcD B:=by
 unfold zcD;rw[zeS,List.map_append,zcK]
theorem zez {n:Nd} (h:n.col ≠ -1) (A:List Nd):zcD (n::A)=zcD A:=by
 unfold zcD zcE;rw[List.filter_cons_of_neg (by simpa using h)]
theorem zfN {n:Nd} (h:n.col = -1):zcD [n]=n.cost:=by
 unfold zcD zcE;rw[List.filter_cons_of_pos (by simpa using h),List.filter_nil,List.map_cons,List.map_nil,zas,zbA,Rat.add_zero]
theorem zhB {p:GP} {kd cl:Int} {w:Nat} (hp:zkw p kd cl w):∀(d k:Nat) (rows:List Int) (s:Int),(∀r,r∈rows→0≤r∧r<(p.X.length:Int))→zcD (p.grow d k rows s).1≤p.cost rows
 | 0,k,rows,s,hb=>by rw[GP.grow_zero,zfN rfl];exact Rat.le_refl
 | d+1,k,rows,s,hb=>by
  cases hc:p.cut rows (p.cols s).1 with
  | none=>rw[GP.grow_none hc,zfN rfl];exact Rat.le_refl
  | some q =>
   obtain⟨c,t⟩:=q;obtain⟨hcw,_,_,_,_,hcost⟩:=zgJ hp hb hc;have h1:=zhB hp d (k+1) (zbe p.X c t rows) (p.cols s).2 fun r hr=>hb r (List.mem_filter.mp hr).1;have h2:=zhB hp d (k+1+(p.grow d (k+1) (zbe p.X c t rows) (p.cols s).2).1.length) (zaM p.X c t rows) (p.grow d (k+1) (zbe p.X c t rows) (p.cols s).2).2 fun r hr=>hb r (List.mem_filter.mp hr).1;rw[GP.grow_some hc];dsimp only;rw[zez (show c ≠ -1 by omega),zc9];grind
theorem zjP {p:GP} {kd cl:Int} {w:Nat} (hp:zkw p kd cl w) (hst:p.still):∀(d k m:Nat) (rows:List Int) (s s':Int),(∀r,r∈rows→0≤r∧r<(p.X.length:Int))→zcD (p.grow (d+1) m rows s').1≤zcD (p.grow d k rows s).1∧(p.grow d k rows s).1.length≤(p.grow (d+1) m rows s').1.length:=by
 intro d
 induction d with
 | zero =>
  intro k m rows s s' hb;refine⟨?_,?_⟩
  ·rw[GP.grow_zero,zfN rfl];exact zhB hp 1 m rows s' hb
  ·rw[GP.grow_zero];exact(p.grow_len 1 m rows s').1
 | succ d ih =>
  intro k m rows s s' hb
  cases hc:p.cut rows (p.cols s).1 with
  | none =>
   have hc':p.cut rows (p.cols s').1=none:=by rw[hst s' s];exact hc
   rw[GP.grow_none hc,GP.grow_none hc'];exact⟨Rat.le_refl,qH _⟩
  | some q =>
   obtain⟨c,t⟩:=q;have hc':p.cut rows (p.cols s').1=some (c,t):=by rw[hst s' s];exact hc
   obtain⟨hcw,_⟩:=zgJ hp hb hc;have hlo:∀r,r∈zbe p.X c t rows→0≤r∧r<(p.X.length:Int):=fun r hr=>hb r (List.mem_filter.mp hr).1;have hhi:∀r,r∈zaM p.X c t rows→0≤r∧r<(p.X.length:Int):=fun r hr=>hb r (List.mem_filter.mp hr).1;have h1:=ih (k+1) (m+1) _ (p.cols s).2 (p.cols s').2 hlo;have h2:=ih (k+1+(p.grow d (k+1) (zbe p.X c t rows) (p.cols s).2).1.length) (m+1+(p.grow (d+1) (m+1) (zbe p.X c t rows) (p.cols s').2).1.length) _ (p.grow d (k+1) (zbe p.X c t rows) (p.cols s).2).2 (p.grow (d+1) (m+1) (zbe p.X c t rows) (p.cols s').2).2 hhi;rw[GP.grow_some hc,GP.grow_some hc'];dsimp only;rw[zez (show c ≠ -1 by omega),zez (show c ≠ -1 by omega),zc9,zc9];simp only[List.length_cons,List.length_append];refine⟨?_,by omega⟩;have:=h1.1;have:=h2.1;grind
end
section
open Go.RowKit _root_.Go.Proofs.Tryz
def zda (ns:List Nd):Nat→List Int
 | 0=>[]
 | k+1=>zda ns k++match ns[k]? with
  | some n=>if n.col = -1 then [(k:Int)] else []
  | none=>[]
theorem ziL {ns:List Nd} {k:Nat} {n:Nd} (h:ns[k]?=some n) (hc:n.col = -1):zda ns (k+1)=zda ns k++[(k:Int)]:=by
 show zda ns k++_=_;rw[h];dsimp only;rw[if_pos hc]
theorem zkZ {ns:List Nd} {k:Nat} {n:Nd} (h:ns[k]?=some n) (hc:n.col ≠ -1):zda ns (k+1)=zda ns k:=by
 show zda ns k++_=_;rw[h];dsimp only;rw[if_neg hc,qG]
theorem zmc {ns:List Nd} {k:Nat} {n:Nd} (h:ns[k]?=some n):zcE (ns.take (k+1))=zcE (ns.take k)++if n.col = -1 then [n] else []:=by
 rw[zaz h,zeS];congr 1;unfold zcE;by_cases hc:n.col = -1
 ·rw[List.filter_cons_of_pos (by simpa using hc),if_pos hc];rfl
 ·rw[List.filter_cons_of_neg (by simpa using hc),if_neg hc];rfl
theorem zfO (ns:List Nd):∀k,(zda ns k).length≤k
 | 0=>qH _
 | k+1=>by
  have:=zfO ns k;show (zda ns k++_).length≤_;rw[List.length_append];split
  ·split
   ·rw[List.length_singleton];omega
   ·rw[List.length_nil];omega
  ·rw[List.length_nil];omega
theorem zfP (ns:List Nd):∀k,k≤ns.length→(zda ns k).length=(zcE (ns.take k)).length∧∀(j:Nat) (i:Int) (n:Nd),(zda ns k)[j]?=some i→(zcE (ns.take k))[j]?=some n→0≤i∧ns[i.toNat]?=some n
 | 0,_=>⟨rfl,fun j i n h=>by cases h⟩
 | k+1,hk=>by
  obtain⟨n,hn⟩:∃n,ns[k]?=some n:=⟨_,qA oM⟩;obtain⟨h1,h2⟩:=zfP ns k oM;rw[zmc hn];by_cases hc:n.col = -1
  ·rw[ziL hn hc,if_pos hc];refine⟨by simp[h1],fun j i m e1 e2=>?_⟩;by_cases hj:j<(zda ns k).length
   ·rw[List.getElem?_append_left hj]at e1;rw[List.getElem?_append_left (by omega)]at e2;exact h2 j i m e1 e2
   ·rw[List.getElem?_append_right (by omega)]at e1;rw[List.getElem?_append_right oM,←h1]at e2
    have h0:j-(zda ns k).length=0:=by
     have:=(qE.1 e1).1;simp at this;omega
    rw[h0]at e1 e2;cases e1;cases e2;exact⟨by omega,by rw[Int.toNat_natCast];exact hn⟩
  ·rw[zkZ hn hc,if_neg hc,qG];exact⟨h1,h2⟩
theorem znx {H:Hp} {cs:List Value} {kd cl w:Int} {ns:List Nd} (ht:zb0 H cs kd cl w ns) (hok:zce ⟨kd,cl,w,ns⟩):PC prog 44 #[.agg cs.toArray] H fun r G=>IL G r (zda ns ns.length):=by
 have hck:=zdr ht hok;obtain⟨a,cp,css,rfl,hns,hsl⟩:=ht;have hln:=hok.len;dsimp only at hln;refine BD func44 ntmps44 ?_
 repeat (first|refine RUN ?_|refine CV (hck) ?_|refine CE (hck) ?_)
 refine EV.loopK (ι:=Nat × Value × Ows) [10,11] [] (fun q=>[(3,.v q.2.1),(12,.v (.int .i64 (q.1:Int)))]) (fun _=>[]) (fun q=>q.2.2) (fun q _=>q.1≤ns.length∧zaZ 3 1 q.2.1 (zda ns q.1).length ((zda ns q.1).map iv) q.2.2) (fun q=>ns.length-q.1) ((0,.slice none 0 0,[])) rfl rfl ⟨rfl,rfl,trivial⟩ trivial rfl (fun _=>rfl) (⟨Nat.zero_le _,zaZ.nil _ _⟩) ?_;rintro⟨i,u,ow⟩ G1 hG1 ⟨hi,hown⟩;dsimp only at hi hown;obtain⟨oa,oc,rfl⟩:=hown.val;have hll:=zfO ns i;have wn:IntKind.i64.wrap ((i:Int)+1)=((i+1:Nat):Int):=zai i oM;refine uR ?_;refine EV.cond rfl (fun hlt=>?_) (fun hlt=>?_)
 ·simp only[nN]at hlt;obtain⟨n,hn⟩:=gE hlt;obtain⟨c,hcut,hnd⟩:=(hns.mono hG1).get hn;obtain⟨a7,c7,rfl,_⟩:=hnd.cells;have hsl1:=hsl.mono hG1;refine uR ?_;refine EVL.idxM tO rfl rfl rfl rfl rfl rfl rfl rfl rfl (hsl1) (i) (rfl) (hlt) (hcut) ?_;refine uR ?_;by_cases hc:n.col = -1
  ·rw[show (n.col == -1)=true from beq_iff_eq.2 hc];refine uR ?_;refine EVL.app1 tO rfl rfl rfl rfl rfl rfl rfl rfl rfl rfl rfl rfl rfl rfl rfl rfl rfl rfl rfl (fun _=>rfl) (ow) ([]) ((qG _).symm) (hown) (oM) fun _=>?_;intro v' ow' hown';refine uR ?_;refine⟨(i+1,v',ow'),⟨rfl,by rw[wn];rfl,trivial⟩,sB,trivial,sB,qG _,⟨hlt,?_⟩,Hp.Le.refl _,by dsimp only;omega⟩;dsimp only;rw[ziL hn hc,List.map_append,List.length_append];exact hown'
  ·rw[show (n.col == -1)=false from beq_eq_false_iff_ne.2 hc];refine uR ?_;refine⟨(i+1,_,ow),⟨rfl,by rw[wn];rfl,trivial⟩,sB,trivial,sB,rfl,⟨hlt,?_⟩,Hp.Le.refl _,by dsimp only;omega⟩;dsimp only;rw[zkZ hn hc];exact hown
 ·simp only[nN]at hlt;obtain rfl:i=ns.length:=by omega
  (first|refine EVL.publishL [] ow [] ((qG _).symm) hown fun G2 hG2 hs2=>?_|refine EV.publishL [] ow [] ((qG _).symm) hown fun G2 hG2 hs2=>?_);refine uR ?_;exact hs2
theorem zom {B:Nat}:∀l:List Rat,(∀q,q∈l→ht q≤B)→ht (zaX l)≤1+l.length*(B+2):=by
 intro l
 induction l with
 | nil=>intro _;rw[zbA,zcb];omega
 | cons q l ih =>
  intro h;have h1:=ih fun q hq=>h q (List.mem_cons_of_mem _ hq);have h2:=h q (List.mem_cons_self ..);have h3:=zeb q (zaX l);rw[zas,List.length_cons,Nat.add_mul];omega
theorem zkY {t:Tr} (hok:zce t) (hl:t.ns.length≤40):ht (zcD t.ns)≤90000000:=by
 have hc:∀n,n∈t.ns→ht n.cost≤2000000:=fun n hn=>by
  obtain⟨i,hi⟩:=List.mem_iff_getElem?.1 hn;obtain⟨m,hm,ho,_⟩:=hok.nodes i (qE.1 hi).1;cases hm.symm.trans hi;exact ho.small.2.1
 have:=zom (B:=2000000) ((zcE t.ns).map Nd.cost) fun q hq=>by
  obtain⟨n,hn,rfl⟩:=List.mem_map.1 hq;exact hc n (List.mem_filter.1 hn).1
 have h2:(zcE t.ns).length≤t.ns.length:=List.length_filter_le _ _;rw[List.length_map]at this;have:(zcE t.ns).length*(2000000+2)≤40*(2000000+2):=Nat.mul_le_mul_right _ oM;unfold zcD;omega
set_option maxRecDepth 100000 in
theorem zlt {H:Hp} {cs:List Value} {kd cl w:Int} {ns:List Nd} (ht:zb0 H cs kd cl w ns) (hok:zce ⟨kd,cl,w,ns⟩) (hl:ns.length≤40):PC prog 25 #[.agg cs.toArray] H fun r _=>r=zad (zcD ns):=by
 have hlv:=znx ht hok;have hnodes:=zfP ns ns.length (qH _);rw[List.take_length]at hnodes;obtain⟨hjl,hjn⟩:=hnodes;have hll:=zfO ns ns.length
 have hcost:∀n,n∈ns→Go.Proofs.YtifcjfodgicngaaGreatDoor.ht n.cost≤2000000:=fun n hn=>by
  obtain⟨i,hi⟩:=List.mem_iff_getElem?.1 hn;obtain⟨m,hm,ho,_⟩:=hok.nodes i (qE.1 hi).1;cases hm.symm.trans hi;exact ho.small.2.1
 have hsum:∀k,k≤(zcE ns).length→Go.Proofs.YtifcjfodgicngaaGreatDoor.ht (zaX (((zcE ns).map Nd.cost).take k))≤90000000:=fun k hk=>by
  have:=zom (B:=2000000) (((zcE ns).map Nd.cost).take k) fun q hq=>by
   obtain⟨n,hn,rfl⟩:=List.mem_map.1 (List.mem_of_mem_take hq);exact hcost n (List.mem_filter.1 hn).1
  rw[List.length_take,List.length_map,Nat.min_eq_left hk]at this;have:k*(2000000+2)≤40*(2000000+2):=Nat.mul_le_mul_right _ oM;omega
 obtain⟨a,cp,css,rfl,hns,hsl⟩:=ht;generalize hLe:zda ns ns.length=L at *
 generalize hme:zcE ns=M at *
 refine BD func25 ntmps25 ?_;refine uR ?_;refine vA (hlv) ?_;intro r7 G1 hr7 hG1;obtain⟨la,lc,rfl⟩:=SlC.val hr7;refine uR ?_;refine EV.loopK (ι:=Nat) [1,2,7,8] [1,2] (fun i=>[(3,.p 3 0),(9,.v (.int .i64 (i:Int)))]) (fun i=>[(3,50,zah (zad (zaX ((M.map Nd.cost).take i))))]) (fun _=>[]) (fun i _=>i≤L.length) (fun i=>L.length-i) (0) rfl rfl ⟨rfl,rfl,trivial⟩ ⟨by rw[List.take_zero,zbA,zay];rfl,trivial⟩ rfl (fun _=>rfl) (Nat.zero_le _) ?_;rintro i G2 hG2 hi;have wn:IntKind.i64.wrap ((i:Int)+1)=((i+1:Nat):Int):=zai i oM;refine uR ?_;refine EV.cond rfl (fun hlt=>?_) (fun hlt=>?_)
 ·simp only[nN]at hlt;obtain⟨j,hj⟩:=gE hlt;obtain⟨n,hn⟩:∃n,M[i]?=some n:=⟨_,qA oM⟩;obtain⟨hj0,hjn'⟩:=hjn i j n hj hn;obtain⟨c,hcut,hnd⟩:=(hns.mono (hG1.trans hG2)).get hjn';obtain⟨a7,c7,rfl,_⟩:=hnd.cells;have hsl2:=hsl.mono (hG1.trans hG2);have hmc:(M.map Nd.cost)[i]?=some n.cost:=by rw[List.getElem?_map,hn];rfl
  have hnm:n∈ns:=qF hjn';have hadd:=zd0 (zaX ((M.map Nd.cost).take i)) n.cost (qI (hsum i oM) oM) (zaE (hcost n hnm) oM);have hjl2:=(qE.1 hjn').1;refine uR ?_;refine vI ((hr7.mono hG2)) (i) (rfl) (hlt) ((by rw[List.getElem?_map,hj];rfl)) ?_;refine uR ?_;apply EV.drawn 8 kR kR;intro xv yw;(repeat refine' DD ?_);refine' DJ.idxM tO rfl rfl rfl rfl rfl rfl rfl rfl rfl (hsl2) (j.toNat) ((by rw[Int.toNat_of_nonneg hj0])) (hjl2) (hcut) ?_;rotate_left;(repeat (first|refine' DD ?_|(refine' DC (hadd) (h:=?_);rotate_left)));(refine DJ.nil (fun G3 hG3 hF3=>?_);(case hS|hS2=>rfl));refine uR ?_;refine⟨i+1,⟨rfl,by rw[wn];rfl,trivial⟩,sB,⟨?_,trivial⟩,sB,rfl,hlt,hG3,by omega⟩;rw[zaz hmc,zcK,zas,zbA,Rat.add_zero];rfl
 ·simp only[nN]at hlt;obtain rfl:i=L.length:=by omega
  rw[List.take_of_length_le (by rw[List.length_map];omega)];refine uR ?_;show _=zad (zaX ((zcE ns).map Nd.cost));rw[hme]
section
variable {n:Nat} {ops:Array Oper} {o:Oper} {env:Env} {bx:Bxs} {H:Hs} {K:Env→Bxs→Hs→Prop} {L:Array Bool} {fuel d:Nat} {v:Value} {I:World→Prop} {z:Option Nat}
theorem IX (i:Nat) {x y:Operand} {T:TypeId} {te te':TE} {e:TypeId} {b off m cap q:Nat} {k:IntKind} {w:Int} (h:EVG I z prog n ops fuel (L.setIfInBounds i true) ((d,.v (.pointer (some ⟨b,off+q*te'.size,none⟩)))::env) bx H K) (hw':w=(q:Int)) (hq:q<m) (hi:ops[i]?=some o:=by exact rfl) (hs:Region.noSelect ops=true:=by kernel_rfl) (hf:Region.free .any ops L i=true:=by kernel_rfl) (hr:(Region.ready .any ops L).contains i=true:=by kernel_rfl) (hy:zmI .any ops L i=true:=by kernel_rfl) (hts:(z == some i)=false:=by kernel_rfl) (hw:zae ops env o=some true:=by exact rfl) (hd:o.dst=some d:=by exact rfl) (hn:Nat.blt d n=true:=by exact rfl)
  (ho:o.op=.indexAddr T x y:=by exact rfl) (hx:env.op x=some (.v (.slice (some ⟨b,off,none⟩) m cap)):=by exact rfl) (hyy:env.op y=some (.v (.int k w)):=by exact rfl) (ht:Tryz.tab.get T=some te:=by exact rfl) (hk:te.kind=.slice e:=by exact rfl) (ht':Tryz.tab.get e=some te':=by exact rfl):EVG I z prog n ops (fuel+1) L env bx H K :=
 EVG.take (J:=fun _=>True) i (.inr ⟨fun _=>trivial,fun e=>by rw[e]at hts;simp at hts⟩) hi hs hf hr hy hw hd hn (fun β a W he _=>by
  have ex:a.eval x=_:=he x _ hx;have ey:a.eval y=_:=he y _ hyy;have hkd:=(tO.get ht).kind;rw[hk]at hkd;have hkd':Tryz.prog.underlying T=some (.slice e):=hkd;unfold execOp;simp[ho,ex,ey,Instr.indexAt,asIntOf,run_underlying hkd',hw',(tO.get ht').size,Addr.add_mid,hq]) h
theorem IRP (i:Nat) {H0:Hp} {x:Operand} {T:TypeId} {te:TE} {b off:Nat} {c:Array Value} {l:List Value} (h:EVG (Fits H0) z prog n ops fuel (L.setIfInBounds i true) ((d,.v v)::env) bx H K) (hc:H0 b=some c) (hl:∀(j:Nat) (u:Value),l[j]?=some u→c[off+j]?=some u) (hlen:l.length=te.size) (hv:zeu te.agg l=some v) (hi:ops[i]?=some o:=by exact rfl) (hs:Region.noSelect ops=true:=by kernel_rfl) (hf:Region.free .any ops L i=true:=by kernel_rfl) (hr:(Region.ready .any ops L).contains i=true:=by kernel_rfl) (hy:zmI .any ops L i=true:=by kernel_rfl) (hts:zrR .any ops z i=true:=by kernel_rfl) (hw:zae ops env o=some true:=by exact rfl) (hd:o.dst=some d:=by exact rfl) (hn:Nat.blt d n=true:=by exact rfl)
  (ho:o.op=.load T x:=by exact rfl) (hx:env.op x=some (.v (.pointer (some ⟨b,off,none⟩))):=by exact rfl) (ht:Tryz.tab.get T=some te:=by exact rfl):EVG (Fits H0) z prog n ops (fuel+1) L env bx H K :=
 EVG.take (J:=Fits H0) i (.inl ⟨hts,fun _ h=>h⟩) hi hs hf hr hy hw hd hn (fun β a W he hB=>by
  have ex:a.eval x=_:=he x _ hx;obtain⟨T',fz,hW⟩:=hB b c hc
  have hrg:W.rangeAt b off l:=fun j u hj=>by
   rw[cell_of_row W b (off+j) c T' fz hW];exact hl j u hj
  have hrun:=zaS (tO.get ht) hrg hlen hv;unfold execOp;simp only[ho,ex,Sem.run_bind,hrun,Result.andThen_ok,Sem.run_pure]) h
end
theorem znS {w:Nat} (hw:w≤65536) (s:Int) (c:Int):c∈((zaK w s).1.take w)↔c∈zcZ w:=by
 rw[List.take_of_length_le (by rw[zdq];exact qH _),(zkb w s hw).mem_iff];exact Iff.rfl
set_option maxRecDepth 100000 in
theorem treeDeeper_pc {H:Hp} {vx:Value} (seed:Int) (hx:zqz H vx) (hsd:0≤seed):PC prog 8 #[vx,.int .u64 seed] H fun r _=>r=.bool true:=by
 have ho1:=znN hx;obtain⟨_,_,_,_,_,_,_,_,_,_,_,_,rfl,_⟩:=hx;refine BD func8 ntmps8 ?_;refine uR ?_;refine vA (ho1) ?_;rintro r1 G1 ⟨kd,cl,least,gn,ga,va,p1,q1,gl,gc,vn,vc,N,W,D,l1,c1,l2,c2,vX,vR,b1,lg,ll,lr,rfl,hg1,hX1,hr1,hq1,hN,hW,hD,hl⟩ hG1;obtain⟨d,hd,hR,hcl4⟩:=hg1.gd (zfb _ _) (zn6 N);have hlen:=zgc ll N W;have hrows60:=fun x hx=>zmu (l:=ll) (n:=N) (w:=W) x hx;generalize ze2 ll N W=X at *
 have hrl:=zmt (l:=lr) hN.1 hN.2;have hrin:=zn9 (l:=lr) hN.1;generalize zbY lr N=rows at *
 obtain⟨hg0,hg5⟩:=zrm gn;generalize zpH gn=g at *
 obtain⟨ra,rc,rfl⟩:=SlC.val hr1;subst hlen;have hgr:rq g:=by unfold rq;omega
 refine uR ?_;refine EVL.call rfl rfl rfl rfl rfl (hd.inGoal oM hR) ?_;rintro _ G2 ⟨la,ln,lc,va',vn',vc',rfl,hP⟩ hG2;refine uR ?_;refine vA (zl9 (RQ.mono hq1 hG2) hgr) ?_;rintro _ G3 rfl hG3;refine uR ?_;refine EVL.call rfl rfl rfl rfl rfl (ziJ (hX1.mono (hG2.trans hG3)) oM (fun x hx=>⟨by rw[(hrows60 x hx).1];omega,fun q hq=>zlf ((hrows60 x hx).2 q hq) oM⟩)) ?_;intro v4 G4 hQ hG4;obtain⟨vs,hvs,hs⟩:=id hQ
 obtain⟨bx0,off0,cap0,cx0,rfl,hcap0,hcx0,hcells0⟩:∃b off cap c,v4=.slice (some ⟨b,off,none⟩) X.length cap∧X.length≤cap∧G4 b=some c∧∀(j:Nat) (x:Value),vs[j]?=some x→c[off+j]?=some x:=by
  rcases hs.2 with ⟨h0,_⟩ | ⟨b,off,cap,c,e,h1,h2,h3⟩
  ·omega
  ·exact⟨b,off,cap,c,e,h1,h2,h3⟩
 have hH4:=hG2.trans (hG3.trans hG4);have hP4:=hP.mono (hG3.trans hG4);have hu4:=fun (G:Hp) (hG:G4.Le G)=>(⟨la,ln,lc,va',vn',vc',rfl,hP4.mono hG⟩:∃la1 ln1 lc1 va1 vn1 vc1,zaC d.kd d.cl (.slice la ln lc) (.slice va' vn' vc')=zaC d.kd d.cl (.slice la1 ln1 lc1) (.slice va1 vn1 vc1)∧d.P G (.slice la1 ln1 lc1) (.slice va1 vn1 vc1));have g1:=fun (G:Hp) (hG:G4.Le G)=>zlu (D:=D) (least:=least) hd ⟨hN.1,by omega⟩ ⟨hW.1,by omega⟩ oM ⟨hl.1,by omega⟩ ⟨hg0,by omega⟩ (hu4 G hG) (hQ.mono hG) rfl hrows60 (hr1.mono (hH4.trans hG)) oM oM hrin;have g2:=fun (G:Hp) (hG:G4.Le G)=>zlu (D:=D+1) (least:=least) hd ⟨hN.1,by omega⟩ ⟨hW.1,by omega⟩ oM ⟨hl.1,by omega⟩ ⟨hg0,by omega⟩ (hu4 G hG) (hQ.mono hG) rfl hrows60 (hr1.mono (hH4.trans hG)) oM oM hrin;obtain⟨_,ok1,gp1⟩:=g1 G4 (Hp.Le.refl _);obtain⟨_,ok2,_⟩:=g2 G4 (Hp.Le.refl _);have g1':=fun (G:Hp) (hG:G4.Le G)=>(g1 G hG).1;have g2':=fun (G:Hp) (hG:G4.Le G)=>(g2 G hG).1;have hst:(trP d X least g fun s=>(zcZ W,s)).still:=fun s s'=>rfl;have hdc:=zjP gp1 hst D 0 0 rows 0 0 hrin;have hdw:=fun (x:List Rat) (a b:List Int)=>zlV gp1 hst (x:=x) D 0 0 rows 0 0 hrin (At.self _) (At.self _) a b;have hl1:=zc8 gp1 D 0 rows 0 oM hrin;have hl2:=zc8 gp1 (D+1) 0 rows 0 oM hrin;have e3:=(zrA (least:=least) (g:=g) (cols:=fun s=>(zcZ W,s)) (cols':=fun s=>((zaK W s).1.take W,(zaK W s).2)) (f:=fun q=>q) hd (fun x hx=>(hrows60 x hx).1) (fun a b=>Iff.rfl) (fun a b=>rfl) (fun s s' c=>znS oM s' c) (fun s c=>zkA c)).grow gp1 (D+1) 0 rows rows 0 seed (List.Perm.refl _) hrin;rw[zj0,show (X.map fun x=>x.map fun q:Rat=>q)=X from by rw[show (fun x:List Rat=>x.map fun q:Rat=>q)=id from funext fun x=>List.map_id' x,List.map_id]]at e3
 have hgsm:∀(G:Hp),G4.Le G→∀(bd:Nat) (Td:TypeId),PW prog 32 #[zaC d.kd d.cl (.slice la ln lc) (.slice va' vn' vc'),.slice (some ⟨bx0,off0,none⟩) X.length cap0,.slice ra rows.length rc,.agg (zoN ((D+1:Nat):Int) least g).toArray,.int .i64 (W:Int),.pointer (some ⟨bd,0,none⟩)] G [(bd,Td,[.int .u64 seed])] fun v ow H'=>∃T' cs,v=.tuple #[.agg cs.toArray,.int .i64 0]∧ow=[(bd,T',[.int .u64 ((trP d X least g fun s=>((zaK W s).1.take W,(zaK W s).2)).grow (D+1) 0 rows seed).2])]∧0≤((trP d X least g fun s=>((zaK W s).1.take W,(zaK W s).2)).grow (D+1) 0 rows seed).2∧zb0 H' cs d.kd d.cl (W:Int) ((trP d X least g fun s=>((zaK W s).1.take W,(zaK W s).2)).grow (D+1) 0 rows seed).1:=fun G hG bd Td=>by
  obtain⟨S,wo,h⟩:=hd.pgoal (H:=G) hN.1 oM (hP4.mono hG) (p:=trP d X least g fun s=>((zaK W s).1.take W,(zaK W s).2)) rfl rfl rfl rfl;exact zjk (p:=trP d X least g fun s=>((zaK W s).1.take W,(zaK W s).2)) (sm':=W) (w:=W) (s:=seed) (fun s=>rfl) hW.1 (qH _) oM (by show 0<X.length;omega) (by show X.length≤20;omega) (fun x hx=>(hrows60 x hx).1) (fun x hx=>(hrows60 x hx).2) rfl ⟨hl.1,by omega⟩ (by show sm g;unfold sm;omega) hg0 oM h (hQ.mono hG) (hr1.mono (hH4.trans hG)) oM oM hrin hsd
 rw[e3]at hgsm;clear g1 g2 e3;generalize ((trP d X least g fun s=>(zcZ W,s)).grow D 0 rows 0).1=ns at *
 generalize ((trP d X least g fun s=>(zcZ W,s)).grow (D+1) 0 rows 0).1=nt at *
 have h1l:ns.length≤40:=by omega
 have h2l:nt.length≤40:=by omega
 refine uR ?_;refine vA (g1' _ (Hp.Le.refl _)) ?_;rintro _ Ga ⟨_,rfl,ta,tca,cssa,rfl,hna,hsa⟩ hGa;have hTa:zb0 Ga [.int .i64 d.kd,.int .i64 d.cl,.int .i64 (W:Int),.slice ta ns.length tca] d.kd d.cl (W:Int) ns:=⟨ta,tca,cssa,rfl,hna,hsa⟩;refine uR ?_;rw[show IntKind.i64.wrap ((D:Int)+1)=((D+1:Nat):Int) by rw[IntKind.wrap_i64];omega];refine vA (g2' _ hGa) ?_;rintro _ Gb ⟨_,rfl,tb,tcb,cssb,rfl,hnb,hsb⟩ hGb;have hTb:zb0 Gb [.int .i64 d.kd,.int .i64 d.cl,.int .i64 (W:Int),.slice tb nt.length tcb] d.kd d.cl (W:Int) nt:=⟨tb,tcb,cssb,rfl,hnb,hsb⟩;refine uR ?_;(first|refine EVL.unbox (9) rfl fun gg=>?_|refine EV.unbox (9) rfl fun gg=>?_);(first|refine EVL.unbox (10) rfl fun gr=>?_|refine EV.unbox (10) rfl fun gr=>?_);(first|refine EVL.publish [] _ rfl fun Gu hGu hbu=>?_|refine EV.publish [] _ rfl fun Gu hGu hbu=>?_);(first|refine EVL.publish [] _ rfl fun Gv hGv hbv=>?_|refine EV.publish [] _ rfl fun Gv hGv hbv=>?_);(first|refine EVL.asRo 10 rfl (hGv _ _ hbu) ?_|refine EV.asRo 10 rfl (hGv _ _ hbu) ?_);(first|refine EVL.asRo 9 rfl hbv ?_|refine EV.asRo 9 rfl hbv ?_);have hK9:G4.Le Gv:=hGa.trans (hGb.trans (hGu.trans hGv));have hgs:=fun (G:Hp) (hG:Gv.Le G)=>hgsm G (hK9.trans hG);have hT8:∀(G:Hp) (a:Option Addr) (c:Nat) (cs:List Value) (_:Unit),zb0 G [.int .i64 d.kd,.int .i64 d.cl,.int .i64 (W:Int),.slice a nt.length c] d.kd d.cl (W:Int) nt→zb0 G [.int .i64 d.kd,.int .i64 d.cl,.int .i64 (W:Int),.slice a nt.length c] d.kd d.cl (W:Int) nt:=fun G a c cs _ h=>h;obtain⟨x0,hx0⟩:∃x,X[0]?=some x:=⟨_,qA oM⟩;obtain⟨u0,f0,hu0,_⟩:=hvs.at hx0;rw[(hrows60 x0 (qF hx0)).1]at hu0;refine EV.meetK (ι:=Option Addr × Nat) [7,11,12,13,14,15] [12,14] (fun q=>[(16,.p 16 0),(17,.v (.int .i64 0))]) (fun q=>[(16,58,[.int .i64 d.kd,.int .i64 d.cl,.int .i64 (W:Int),.slice q.1 nt.length q.2])]) (fun _=>[]) (fun q G=>Gv.Le G∧zb0 G [.int .i64 d.kd,.int .i64 d.cl,.int .i64 (W:Int),.slice q.1 nt.length q.2] d.kd d.cl (W:Int) nt) rfl rfl (fun _=>rfl) ?_ ?_
 ·refine EVG.start (Fits Gv) none ?_;refine IR 0 ?_ rfl;refine IV 1 ?_;refine IV 2 ?_;refine IR 3 ?_ rfl;refine IV 4 ?_;refine IX 5 (q:=0) (m:=X.length) ?_ rfl (show 0<X.length by omega)
  refine IRP 6 (l:=[.slice u0 W f0]) ?_ (hK9 _ _ hcx0) (fun j u hj=>by
   cases j with
   | zero=>cases hj;exact hcells0 0 _ hu0
   | succ j=>cases hj) rfl rfl
  refine IV 7 ?_;refine IV 8 ?_;refine EVG.two 9 14 (zcA (Hp.Le.refl _)) kR rfl rfl ?_ ?_
  ·refine EVL.callO rfl rfl rfl rfl rfl (znf seed) ?_;rintro vd owd ⟨bd,rfl,rfl⟩;refine EVL.nil ⟨rfl,?_⟩;refine EVG.two 10 14 (zcA (Hp.Le.refl _)) kR rfl rfl ?_ ?_
   ·refine vW ([(bd,164,[.int .u64 seed])]) ([]) (hgs _ (Hp.Le.refl _) _ _) ?_;rintro _ _ Gd ⟨Td,_,rfl,rfl,_,⟨ta8,tc8,css8,rfl,hns8,hsl8⟩⟩ hGd;refine EVL.nil ⟨rfl,?_⟩;refine IV 11 ?_;refine IV 12 ?_;refine IV 13 ?_;refine EVG.one 14 (zcA (hGd)) kR rfl ?_
    (try refine zcr ?_);refine EVL.nil ⟨rfl,?_⟩;refine EVG.one 15 (zcA (hGd)) kR rfl ?_
    (try refine zcr ?_);refine EVL.nil ⟨rfl,?_⟩;refine EVG.one 16 (zcA (hGd)) kR rfl ?_;refine EVL.subOw [] [(bd,Td,_)] [] rfl ?_
    (try refine zcr ?_);refine EVL.nil ⟨rfl,?_⟩;refine EVG.nil (zcA (hGd)) kR ?_;exact⟨(ta8,tc8),⟨rfl,rfl,trivial⟩,sB,⟨rfl,trivial⟩,sB,rfl,hGd,⟨ta8,tc8,css8,rfl,hns8,hsl8⟩⟩
   ·(try refine zcr ?_);refine EVL.nil ⟨rfl,?_⟩;refine EVG.one 10 (zcA (Hp.Le.refl _)) kR rfl ?_;refine vW ([(bd,164,[.int .u64 seed])]) ([]) (hgs _ (Hp.Le.refl _) _ _) ?_;rintro _ _ Gd ⟨Td,_,rfl,rfl,_,⟨ta8,tc8,css8,rfl,hns8,hsl8⟩⟩ hGd;refine EVL.nil ⟨rfl,?_⟩;refine IV 11 ?_;refine IV 12 ?_;refine IV 13 ?_;refine EVG.one 15 (zcA (hGd)) kR rfl ?_
    (try refine zcr ?_);refine EVL.nil ⟨rfl,?_⟩;refine EVG.one 16 (zcA (hGd)) kR rfl ?_;refine EVL.subOw [] [(bd,Td,_)] [] rfl ?_
    (try refine zcr ?_);refine EVL.nil ⟨rfl,?_⟩;refine EVG.nil (zcA (hGd)) kR ?_;exact⟨(ta8,tc8),⟨rfl,rfl,trivial⟩,sB,⟨rfl,trivial⟩,sB,rfl,hGd,⟨ta8,tc8,css8,rfl,hns8,hsl8⟩⟩
  ·(try refine zcr ?_);refine EVL.nil ⟨rfl,?_⟩;refine EVG.one 9 (zcA (Hp.Le.refl _)) kR rfl ?_;refine EVL.callO rfl rfl rfl rfl rfl (znf seed) ?_;rintro vd owd ⟨bd,rfl,rfl⟩;refine EVL.nil ⟨rfl,?_⟩;refine EVG.one 10 (zcA (Hp.Le.refl _)) kR rfl ?_;refine vW ([(bd,164,[.int .u64 seed])]) ([]) (hgs _ (Hp.Le.refl _) _ _) ?_;rintro _ _ Gd ⟨Td,_,rfl,rfl,_,⟨ta8,tc8,css8,rfl,hns8,hsl8⟩⟩ hGd;refine EVL.nil ⟨rfl,?_⟩;refine IV 11 ?_;refine IV 12 ?_;refine IV 13 ?_;refine EVG.one 15 (zcA (hGd)) kR rfl ?_
   (try refine zcr ?_);refine EVL.nil ⟨rfl,?_⟩;refine EVG.one 16 (zcA (hGd)) kR rfl ?_;refine EVL.subOw [] [(bd,Td,_)] [] rfl ?_
   (try refine zcr ?_);refine EVL.nil ⟨rfl,?_⟩;refine EVG.nil (zcA (hGd)) kR ?_;exact⟨(ta8,tc8),⟨rfl,rfl,trivial⟩,sB,⟨rfl,trivial⟩,sB,rfl,hGd,⟨ta8,tc8,css8,rfl,hns8,hsl8⟩⟩
 ·rintro⟨ta8,tc8⟩ G10 ⟨hG10,hTc⟩;dsimp only at hTc;have hK10:=hK9.trans hG10;have hb1:=zkY ok1 h1l;have hb2:=zkY ok2 h2l;dsimp only at hb1 hb2;have hcmp:=zci (zcD nt) (zcD ns) (zaE hb2 oM) (zaE hb1 oM);have hTa10:=hTa.mono (hGb.trans (hGu.trans (hGv.trans hG10)));have hTb10:=hTb.mono (hGu.trans (hGv.trans hG10));have hna10:=hna.mono (hGb.trans (hGu.trans (hGv.trans hG10)));have hsa10:=hsa.mono (hGb.trans (hGu.trans (hGv.trans hG10)));have hnb10:=hnb.mono (hGu.trans (hGv.trans hG10));have hsb10:=hsb.mono (hGu.trans (hGv.trans hG10));have hsame:=fun (G:Hp) (hG:G10.Le G)=>zpM (hTb10.mono hG) (hTc.mono hG) oM ok2.smN;have hc2:=fun (G:Hp) (hG:G10.Le G)=>zlt (hTb10.mono hG) ok2 h2l;have hc1:=fun (G:Hp) (hG:G10.Le G)=>zlt (hTa10.mono hG) ok1 h1l;refine uR ?_;apply EV.drawn 37 kR kR;intro xv yw;(repeat (first|refine' DD ?_|(refine' DC (zma) (h:=?_);rotate_left)));refine' vC (cO func52) (fun G hG hd=>hsame G hG) ?_;rotate_left;(repeat refine' DD ?_);refine' vC (cO func25) (fun G hG hd=>hc2 G hG) ?_;rotate_left;(repeat refine' DD ?_);refine' vC (cO func25) (fun G hG hd=>hc1 G hG) ?_;rotate_left;(repeat (first|refine' DD ?_|(refine' DC (hcmp) (h:=?_);rotate_left)));rw[qC (show ¬zc0 (zcD nt) (zcD ns)>0 from fun k=>Rat.not_lt.2 hdc.1 ((zpr _ _).1 k))];(repeat refine' DD ?_);rw[qC (show ¬(nt.length:Int)<(ns.length:Int) by omega)];(repeat refine' DD ?_);(refine DJ.nil (fun G6 hG6 hF6=>?_);(case hS|hS2=>rfl));refine uR ?_;refine EV.loopK (ι:=Nat) [7,11,12,14] [12,14] (fun i=>[(18,.v (.int .i64 (i:Int)))]) (fun _=>[]) (fun _=>[]) (fun i _=>i≤rows.length) (fun i=>rows.length-i) (0) rfl rfl ⟨rfl,trivial⟩ trivial rfl (fun _=>rfl) (Nat.zero_le _) ?_;rintro i G7 hG7 hi;have wi:IntKind.i64.wrap ((i:Int)+1)=((i+1:Nat):Int):=zai i oM;refine uR ?_;refine EV.cond rfl (fun hlt=>?_) (fun hlt=>?_)
  ·simp only[nN]at hlt;obtain⟨r,hr⟩:=gE hlt;have hrb:=hrin r (qF hr);obtain⟨R,rfl⟩:=Int.eq_ofNat_of_zero_le hrb.1;obtain⟨x,hx⟩:∃x,X[R]?=some x:=⟨_,qA oM⟩;obtain⟨hxl,hx60⟩:=hrows60 x (qF hx);obtain⟨a1,f1,hu1,hQx⟩:=hvs.at hx;have hwa:=fun (G:Hp) (hG:G7.Le G)=>zqr (hTa10.mono ((hG6.trans hG7).trans hG)) ok1 (hQx.mono (hK10.trans ((hG6.trans hG7).trans hG))) oM (fun q hq=>zaE (hx60 q hq) oM);have hrIa:=hr1.mono (hH4.trans (hK10.trans (hG6.trans hG7)));have hsIa:=hs.mono (hK10.trans (hG6.trans hG7));refine uR ?_;apply EV.drawn 14 kR kR;intro xv yw;(repeat refine' DD ?_);refine' vJ (hrIa) (i) (rfl) (hlt) ((by rw[List.getElem?_map,hr];rfl)) ?_;rotate_left;(repeat refine' DD ?_);refine' vJ (hsIa) (R) (rfl) (oM) (hu1) ?_;rotate_left;(repeat refine' DD ?_);refine' vB (cO func17) (fun G hG hd=>hwa G hG) (fun _ _ _ h k=>(by obtain⟨l,v,e,h1,h2,h3⟩:=h;exact⟨l,v,e,SlC.mono h1 k,h2,h3⟩)) ?_;rotate_left;refine' DJ.copy (8) (by first|exact .inl rfl|exact .inr rfl) rfl rfl rfl id rfl kR ?_;rotate_left;refine' DJ.extract (8) rfl rfl rfl rfl rfl kR (fun G hd=>(by obtain⟨l,v,e,_⟩:=hd.head kR;exact⟨_,e,Nat.zero_lt_succ _⟩)) ?_;rotate_left;refine' DJ.extract (8) rfl rfl rfl rfl rfl kR (fun G hd=>(by obtain⟨l,v,e,_⟩:=hd.head kR;exact⟨_,e,Nat.lt_succ_self _⟩)) ?_;rotate_left;refine' DJ.copy (8) (.inr rfl) rfl rfl rfl (zcN 0) rfl kR ?_;rotate_left;refine' DJ.copy (8) (.inr rfl) rfl rfl rfl (zcN 1) rfl kR ?_;rotate_left;(refine DJ.nil (fun G8 hG8 hF8=>?_);(case hS|hS2=>rfl));obtain⟨⟨A,v8,e8,hA,hpA,hlA⟩,_⟩:=hF8;obtain⟨aa,ac,rfl⟩:=SlC.val hA;rw[e8];rw[show zcN 1 (Value.tuple #[.slice aa A.length ac,.int .i64 0])=.int .i64 0 from rfl,show zcN 0 (Value.tuple #[.slice aa A.length ac,.int .i64 0])=.slice aa A.length ac from rfl];have hwb:=fun (G:Hp) (hG:G8.Le G)=>zqr (hTb10.mono ((hG6.trans (hG7.trans hG8)).trans hG)) ok2 (hQx.mono (hK10.trans ((hG6.trans (hG7.trans hG8)).trans hG))) oM (fun q hq=>zaE (hx60 q hq) oM);have hrIb:=hr1.mono (hH4.trans (hK10.trans (hG6.trans (hG7.trans hG8))));have hsIb:=hs.mono (hK10.trans (hG6.trans (hG7.trans hG8)));refine uR ?_;apply EV.drawn 14 kR kR;intro xv yw;(repeat refine' DD ?_);refine' vJ (hrIb) (i) (rfl) (hlt) ((by rw[List.getElem?_map,hr];rfl)) ?_;rotate_left;(repeat refine' DD ?_);refine' vJ (hsIb) (R) (rfl) (oM) (hu1) ?_;rotate_left;(repeat refine' DD ?_);refine' vB (cO func17) (fun G hG hd=>hwb G hG) (fun _ _ _ h k=>(by obtain⟨l,v,e,h1,h2,h3⟩:=h;exact⟨l,v,e,SlC.mono h1 k,h2,h3⟩)) ?_;rotate_left;refine' DJ.copy (8) (by first|exact .inl rfl|exact .inr rfl) rfl rfl rfl id rfl kR ?_;rotate_left;refine' DJ.extract (8) rfl rfl rfl rfl rfl kR (fun G hd=>(by obtain⟨l,v,e,_⟩:=hd.head kR;exact⟨_,e,Nat.zero_lt_succ _⟩)) ?_;rotate_left;refine' DJ.extract (8) rfl rfl rfl rfl rfl kR (fun G hd=>(by obtain⟨l,v,e,_⟩:=hd.head kR;exact⟨_,e,Nat.lt_succ_self _⟩)) ?_;rotate_left;refine' DJ.copy (8) (.inr rfl) rfl rfl rfl (zcN 0) rfl kR ?_;rotate_left;refine' DJ.copy (8) (.inr rfl) rfl rfl rfl (zcN 1) rfl kR ?_;rotate_left;(refine DJ.nil (fun G9 hG9 hF9=>?_);(case hS|hS2=>rfl));obtain⟨⟨B,v9,e9,hB,hpB,hlB⟩,_⟩:=hF9;obtain⟨ba,bc,rfl⟩:=SlC.val hB;rw[e9];rw[show zcN 1 (Value.tuple #[.slice ba B.length bc,.int .i64 0])=.int .i64 0 from rfl,show zcN 0 (Value.tuple #[.slice ba B.length bc,.int .i64 0])=.slice ba B.length bc from rfl];obtain⟨hle,hget⟩:=(hdw x A B hpA hpB).get;refine uR ?_;rw[qC (show ¬(A.length:Int)>(B.length:Int) by omega)];refine uR ?_;refine EV.loopK (ι:=Nat) [7,11,12,14,18,19,21] [12,14] (fun k=>[(23,.v (.int .i64 (k:Int)))]) (fun _=>[]) (fun _=>[]) (fun k _=>k≤A.length) (fun k=>A.length-k) (0) rfl rfl ⟨rfl,trivial⟩ trivial rfl (fun _=>rfl) (Nat.zero_le _) ?_;rintro k Gk hGk hk;have wk:IntKind.i64.wrap ((k:Int)+1)=((k+1:Nat):Int):=zai k oM;refine uR ?_;refine EV.cond rfl (fun hlk=>?_) (fun hlk=>?_)
   ·simp only[nN]at hlk;have hlkB:k<B.length:=by omega
    obtain⟨a,ha⟩:=gE hlk;obtain⟨b,hb⟩:=gE hlkB;obtain⟨⟨ha0,hb0⟩,n,n',hn,hn',hrows',hcol⟩:=hget k a b ha hb;have hKk:=hG6.trans (hG7.trans (hG8.trans (hG9.trans hGk)));obtain⟨c,hcut,hnd⟩:=(hna10.mono hKk).get hn;obtain⟨a7,c7,rfl,_⟩:=hnd.cells;obtain⟨c',hcut',hnd'⟩:=(hnb10.mono hKk).get hn';obtain⟨a8,c8,rfl,_⟩:=hnd'.cells;have hsak:=hsa10.mono hKk;have hsbk:=hsb10.mono hKk;have hal:=(qE.1 hn).1;have hbl:=(qE.1 hn').1;have hAk:=SlC.mono hA (hG9.trans hGk);have hBk:=SlC.mono hB hGk;by_cases hk1:k+1<A.length
    ·obtain⟨hc,hat⟩:=hcol hk1;have hcm:=zci n.at' n'.at' (ok1.smN n (qF hn)).1 (ok2.smN n' (qF hn')).1;refine uR ?_;apply EV.drawn 69 kR kR;intro xv yw;(repeat refine' DD ?_);refine' vJ (hAk) (k) (rfl) (hlk) ((by rw[List.getElem?_map,ha];rfl)) ?_;rotate_left;(repeat refine' DD ?_);refine' DJ.idxM tO rfl rfl rfl rfl rfl rfl rfl rfl rfl (hsak) (a.toNat) ((by rw[Int.toNat_of_nonneg ha0])) (hal) (hcut) ?_;rotate_left;(repeat refine' DD ?_);refine' vJ (hBk) (k) (rfl) (hlkB) ((by rw[List.getElem?_map,hb];rfl)) ?_;rotate_left;(repeat refine' DD ?_);refine' DJ.idxM tO rfl rfl rfl rfl rfl rfl rfl rfl rfl (hsbk) (b.toNat) ((by rw[Int.toNat_of_nonneg hb0])) (hbl) (hcut') ?_;rotate_left;(repeat refine' DD ?_);rw[show (n.rows != n'.rows)=false from by rw[hrows'];exact bne_self_eq_false _];(repeat refine' DD ?_);rw[wk];rw[qD (show ((k+1:Nat):Int)<(A.length:Int) by omega)];(repeat refine' DD ?_);refine' vJ (hAk) (k) (rfl) (hlk) ((by rw[List.getElem?_map,ha];rfl)) ?_;rotate_left;(repeat refine' DD ?_);refine' DJ.idxM tO rfl rfl rfl rfl rfl rfl rfl rfl rfl (hsak) (a.toNat) ((by rw[Int.toNat_of_nonneg ha0])) (hal) (hcut) ?_;rotate_left;(repeat refine' DD ?_);refine' vJ (hBk) (k) (rfl) (hlkB) ((by rw[List.getElem?_map,hb];rfl)) ?_;rotate_left;(repeat refine' DD ?_);refine' DJ.idxM tO rfl rfl rfl rfl rfl rfl rfl rfl rfl (hsbk) (b.toNat) ((by rw[Int.toNat_of_nonneg hb0])) (hbl) (hcut') ?_;rotate_left;(repeat refine' DD ?_);rw[show (n.col != n'.col)=false from by rw[hc];exact bne_self_eq_false _];(repeat refine' DD ?_);refine' vJ (hAk) (k) (rfl) (hlk) ((by rw[List.getElem?_map,ha];rfl)) ?_;rotate_left;(repeat refine' DD ?_);refine' DJ.idxM tO rfl rfl rfl rfl rfl rfl rfl rfl rfl (hsak) (a.toNat) ((by rw[Int.toNat_of_nonneg ha0])) (hal) (hcut) ?_;rotate_left;(repeat refine' DD ?_);refine' vJ (hBk) (k) (rfl) (hlkB) ((by rw[List.getElem?_map,hb];rfl)) ?_;rotate_left;(repeat refine' DD ?_);refine' DJ.idxM tO rfl rfl rfl rfl rfl rfl rfl rfl rfl (hsbk) (b.toNat) ((by rw[Int.toNat_of_nonneg hb0])) (hbl) (hcut') ?_;rotate_left;(repeat (first|refine' DD ?_|(refine' DC (hcm) (h:=?_);rotate_left)));rw[show (zc0 n.at' n'.at' != 0)=false from by rw[hat,zel];rfl];(repeat refine' DD ?_);(refine DJ.nil (fun G hG hF=>?_);(case hS|hS2=>rfl));refine uR ?_;refine⟨k+1,⟨by rw[wk];rfl,trivial⟩,sB,trivial,sB,rfl,hlk,hG,by omega⟩
    ·try refine uR ?_
     apply EV.drawn 69 kR kR;intro xv yw;(repeat refine' DD ?_);refine' vJ (hAk) (k) (rfl) (hlk) ((by rw[List.getElem?_map,ha];rfl)) ?_;rotate_left;(repeat refine' DD ?_);refine' DJ.idxM tO rfl rfl rfl rfl rfl rfl rfl rfl rfl (hsak) (a.toNat) ((by rw[Int.toNat_of_nonneg ha0])) (hal) (hcut) ?_;rotate_left;(repeat refine' DD ?_);refine' vJ (hBk) (k) (rfl) (hlkB) ((by rw[List.getElem?_map,hb];rfl)) ?_;rotate_left;(repeat refine' DD ?_);refine' DJ.idxM tO rfl rfl rfl rfl rfl rfl rfl rfl rfl (hsbk) (b.toNat) ((by rw[Int.toNat_of_nonneg hb0])) (hbl) (hcut') ?_;rotate_left;(repeat refine' DD ?_);rw[show (n.rows != n'.rows)=false from by rw[hrows'];exact bne_self_eq_false _];(repeat refine' DD ?_);rw[wk];rw[qC (show ¬((k+1:Nat):Int)<(A.length:Int) by omega)];(repeat refine' DD ?_);(refine DJ.nil (fun G hG hF=>?_);(case hS|hS2=>rfl));refine uR ?_;refine⟨k+1,⟨by rw[wk];rfl,trivial⟩,sB,trivial,sB,rfl,hlk,hG,by omega⟩
   ·try refine uR ?_
    exact⟨i+1,⟨by rw[wi];rfl,trivial⟩,sB,trivial,sB,rfl,hlt,hG8.trans (hG9.trans hGk),by omega⟩
  ·try refine uR ?_
   rfl
end
section
open Go Go.RowKit
theorem zgR {P:Program} {W:World} {n:String} {d:DataW Unit}:∀{l:List (String × DataW Unit)} {ps:List MemPlace},DataW.LaidVars P W l ps→(n,d)∈l →
  ∃p,DataW.LaidVars P W [(n,d)] p
 | [],_,_,h=>by cases h
 | (m,x)::r,ps,h,hm=>by
  obtain⟨g,t,cs,fuel,p,q,h1,h2,h3,h4,h5,h6⟩:=h;rcases List.mem_cons.1 hm with hm | hm
  ·cases hm;exact⟨_,g,t,cs,fuel,p,[],h1,h2,h3,h4,rfl,rfl⟩
  ·exact zgR h5 hm
theorem zq1 {P:Program} {l:List (String × DataW Unit)} {W:World} (h:laidMet P l W) {n:String} {zs:List Nat} {g:Nat} {T e:TypeId} (hmem:(n,.agg (zs.map fun (z:Nat)=>.lit (.int .u8 z)))∈l) (hg:P.globalNamed n=some g) (ht:(P.globals[g]?).map (·.type)=some T)
  (hT:P.underlying T=some (.array zs.length e)) (he:P.underlying e=some (.int .u8)) (hc:P.cellsOf e=1) (hcT:P.cellsOf T=zs.length) :
  ∃U fz,W.heap[g]?=some (.cells (zs.map fun (z:Nat)=>Value.int .u8 (z:Int)).toArray U fz):=by
 obtain⟨ps,hl,_⟩:=h;obtain⟨p0,g',t,cs,fuel,p,q,hg',ht',hv,hd,_,_⟩:=zgR hl hmem;obtain rfl:=Option.some.inj (hg.symm.trans hg');obtain rfl:=Option.some.inj (ht.symm.trans ht');obtain⟨xs,m,_,ex,hcl,hlen,hel⟩:=DataW.trod_array hT hd
 have hb:∃U fz,W.heap[g]?=some (.cells cs U fz):=by
  simp only[World.var?,hg,Option.bind_some]at hv;split at hv
  ·rename_i c U fz hc';cases hv;exact⟨U,fz,hc'⟩
  ·cases hv
 obtain⟨U,fz,hb⟩:=hb;refine⟨U,fz,?_⟩;rw[hb];congr 2;apply Array.ext';rw[hcT]at hcl;have e3:(xs.map (·.1))=zs.map fun (n:Nat)=>.lit (.int .u8 n):=(DataW.agg.inj (Prod.mk.inj ex).1).symm;apply List.ext_getElem?;intro r;rcases Nat.lt_or_ge r zs.length with hr | hr
 ·have hE:=hel r hr;rw[hc,Nat.mul_one,qA (by omega)]at hE;obtain⟨z,e1,e2,_⟩:=DataW.trod_int he hE;have e4:(xs.map (·.1))[r]?=(zs.map fun (n:Nat)=>(DataW.lit (.int .u8 n):DataW Unit))[r]?:=by rw[e3]
  rw[List.getElem?_map,List.getElem?_map,qA (by omega:r<xs.length),qA hr,e2]at e4;simp only[Option.map_some,Option.some.injEq,DataW.lit.injEq,Lit.int.injEq,true_and]at e4;have h0:((cs.toList.drop r).take 1)[0]?=some (.int .u8 z):=by rw[e1];rfl
  simp only[List.getElem?_take,List.getElem?_drop,Nat.add_zero]at h0;rw[if_pos (by omega)]at h0;rw[h0,e4];simp[hr]
 ·rw[List.getElem?_eq_none oM,List.getElem?_eq_none (by simpa using hr)]
theorem fits_gH {l:List (String × DataW Unit)} {W:World} (h:laidMet Tryz.prog l W) (hmem:("math/bits.deBruijn64tab", .agg (Lib.deBruijn64tab.map fun (z:Nat)=>.lit (.int .u8 z)))∈l):Fits gH W:=fun b c hb=>by
 unfold gH at hb;split at hb
 ·rename_i hbb;cases hb;obtain rfl:=Nat.eq_of_beq_eq_true hbb;exact zq1 h hmem kR kR Tryz.underlying321 Tryz.underlying5 kR kR
 ·cases hb
end
end Go.Proofs.YtifcjfodgicngaaGreatDoor
