/- Texts of ours in one: Val, Bl, Rat, Ht, LsP, GnP, GnQ, Base, Box, Ev, Ev2, Ev3, Region, Ev4, Ev5, Ev6, Ev7, Ev8, Ev9. -/
import Derived.WalkKit
import Derived.WalkSpells
import Derived.Deep.Draws
import Derived.Deep.MidRow
import Derived.Lib.TrailingZeros
import Derived.StillTail
import Derived.Deep.LoopGhost
import Derived.Great.BuildSlice
import Derived.OwnWalk
import Derived.Laws.MakeOwn
set_option linter.unusedVariables false
set_option linter.unusedSimpArgs false
set_option maxHeartbeats 64000000
namespace Go.Proofs.YtkeklikocibiaaaGreatDoor
theorem Z.{u} {a:Sort u} {b:a}:b=b:=rfl
section
def val (B:Nat):List Nat->Nat
 | []=>0
 | x::l=>x+B*val B l
theorem nx (B:Nat):val B []=0:=rfl
theorem kA (B x:Nat) (l:List Nat):val B (x::l)=x+B*val B l:=rfl
theorem uj (B:Nat) (l m:List Nat):val B (l++m)=val B l+B ^ l.length*val B m:=by
 induction l with
 | nil=>simp[val]
 | cons x l ih=>simp only[List.cons_append,kA,ih,List.length_cons,Nat.pow_succ];grind
theorem vP (B:Nat) (l:List Nat) (x:Nat):val B (l++[x])=val B l+x*B ^ l.length:=by
 rw[uj,kA,nx];grind
theorem pW (B n:Nat):val B (List.replicate n 0)=0:=by
 induction n with
 | zero=>rfl
 | succ n ih=>rw[List.replicate_succ,kA,ih];simp
def Dig (B:Nat) (l:List Nat):Prop:=∀x∈l,x<B
theorem Dig.nil (B:Nat):Dig B []:=by intro x h;cases h
theorem Dig.cons {B x:Nat} {l:List Nat} (hx:x<B) (h:Dig B l):Dig B (x::l):=by
 intro y hy;rcases List.mem_cons.1 hy with rfl | hy
 ·exact hx
 ·exact h y hy
theorem Dig.append {B:Nat} {l m:List Nat} (h:Dig B l) (k:Dig B m):Dig B (l++m):=by
 intro y hy;rcases List.mem_append.1 hy with hy | hy
 ·exact h y hy
 ·exact k y hy
theorem Dig.snoc {B x:Nat} {l:List Nat} (h:Dig B l) (hx:x<B):Dig B (l++[x]):=h.append (Dig.cons hx (Dig.nil B))
theorem Dig.take {B:Nat} {l:List Nat} (h:Dig B l) (n:Nat):Dig B (l.take n):=fun x hx=>h x (List.mem_of_mem_take hx)
theorem Dig.drop {B:Nat} {l:List Nat} (h:Dig B l) (n:Nat):Dig B (l.drop n):=fun x hx=>h x (List.mem_of_mem_drop hx)
theorem Dig.zeros {B:Nat} (hB:0<B) (n:Nat):Dig B (List.replicate n 0):=by
 intro x hx;rw[List.mem_replicate]at hx;omega
theorem Dig.set {B:Nat} {l:List Nat} (h:Dig B l) (j v:Nat) (hv:v<B):Dig B (l.set j v):=by
 intro x hx;rcases List.mem_or_eq_of_mem_set hx with hx | rfl
 ·exact h x hx
 ·exact hv
theorem Dig.get {B:Nat} {l:List Nat} (h:Dig B l) (j:Nat) (hj:j<l.length):l[j]<B:=h _ (List.getElem_mem hj)
theorem Dig.getD {B:Nat} {l:List Nat} (h:Dig B l) (hB:0<B) (j:Nat):l.getD j 0<B:=by
 rw[List.getD_eq_getElem?_getD]
 cases e:l[j]? with
 | none=>simpa using hB
 | some x=>exact h x (List.mem_of_getElem? e)
theorem cZ {B:Nat} {l:List Nat} (h:Dig B l):val B l<B ^ l.length:=by
 induction l with
 | nil=>simp[val]
 | cons x l ih =>
  have h1:=ih (fun y hy=>h y (List.mem_cons_of_mem _ hy));have h2:=h x (List.mem_cons_self ..);rw[kA,List.length_cons,Nat.pow_succ];have h3:val B l+1<=B ^ l.length:=h1;have h4:=Nat.mul_le_mul_left B h3;rw[Nat.mul_comm (B ^ l.length) B];rw[Nat.mul_add]at h4;omega
theorem mf (B:Nat) (l:List Nat) (i:Nat):val B (l.take (i+1))=val B (l.take i)+l.getD i 0*B ^ i:=by
 by_cases h:i<l.length
 ·rw[List.take_succ_eq_append_getElem h,vP,List.length_take,Nat.min_eq_left (by omega),List.getD_eq_getElem?_getD,List.getElem?_eq_getElem h];rfl
 ·rw[List.take_of_length_le (by omega),List.take_of_length_le (by omega),List.getD_eq_getElem?_getD,List.getElem?_eq_none (by omega)];simp
theorem dO (B:Nat) (l:List Nat) (i:Nat):val B (l.drop i)=l.getD i 0+B*val B (l.drop (i+1)):=by
 by_cases h:i<l.length
 ·rw[List.drop_eq_getElem_cons h,kA,List.getD_eq_getElem?_getD,List.getElem?_eq_getElem h];rfl
 ·rw[List.drop_of_length_le (by omega),List.drop_of_length_le (by omega),List.getD_eq_getElem?_getD,List.getElem?_eq_none (by omega)];simp[val]
theorem ep (B:Nat) (l:List Nat) (i:Nat) (h:i<=l.length):val B l=val B (l.take i)+B ^ i*val B (l.drop i):=by
 have:=uj B (l.take i) (l.drop i);rw[List.take_append_drop,List.length_take,Nat.min_eq_left h]at this;exact this
theorem kx (B:Nat) (l:List Nat) (j v:Nat) (h:j<l.length):val B (l.set j v)+l.getD j 0*B ^ j=val B l+v*B ^ j:=by
 have e1:(l.set j v).take j=l.take j:=by rw[List.take_set,List.set_eq_of_length_le (by simp;omega)]
 have e2:(l.set j v).drop (j+1)=l.drop (j+1):=by rw[List.drop_set_of_lt (by omega)]
 rw[ep B (l.set j v) j (by simp;omega),ep B l j (by omega),e1,dO B (l.set j v) j,dO B l j,e2];rw[show (l.set j v).getD j 0=v by simp[List.getD_eq_getElem?_getD,h]];grind
def cg:List Nat->List Nat
 | []=>[]
 | x::l=>if x=0/\cg l=[] then [] else x::cg l
def eM (B:Nat) (l:List Nat):Prop:=Dig B l/\∀x,l.getLast?=some x->x≠0
theorem eM.nil (B:Nat):eM B []:=⟨Dig.nil B,by simp⟩
theorem MN {B:Nat} (_hB:0<B) {l:List Nat} (h:eM B l) (hl:l≠[]):B ^ (l.length-1)<=val B l:=by
 have hd:=List.dropLast_concat_getLast hl;have hz:=h.2 (l.getLast hl) (List.getLast?_eq_some_getLast hl);have:=vP B l.dropLast (l.getLast hl);rw[hd,List.length_dropLast]at this;rw[this];have:1*B ^ (l.length-1)<=l.getLast hl*B ^ (l.length-1):=Nat.mul_le_mul_right _ (by omega);omega
theorem LQ {B:Nat} (hB:0<B) {l:List Nat} (h:eM B l) (hv:val B l=0):l=[]:=by
 apply Classical.byContradiction;intro hl;have h1:=MN hB h hl;have h2:0<B ^ (l.length-1):=Nat.pow_pos hB;omega
theorem eM.tail {B x:Nat} {l:List Nat} (h:eM B (x::l)):eM B l:=by
 refine⟨fun y hy=>h.1 y (List.mem_cons_of_mem _ hy),fun y hy=>h.2 y ?_⟩
 cases l with
 | nil=>simp at hy
 | cons z l=>rw[List.getLast?_cons_cons];exact hy
theorem KY {B:Nat} (hB:0<B):∀{l m:List Nat},eM B l->eM B m->val B l=val B m->l=m
 | [],m,_,hm,e=>(LQ hB hm (by rw[<-e];rfl)).symm
 | x::l,[],hl,_,e=>LQ hB hl (by rw[e];rfl)
 | x::l,y::m,hl,hm,e=>by
  have hx:=hl.1 x (List.mem_cons_self ..);have hy:=hm.1 y (List.mem_cons_self ..);rw[kA,kA]at e
  have e1:x=y:=by
   have h1:(x+B*val B l) % B=x:=by rw[Nat.add_mul_mod_self_left,Nat.mod_eq_of_lt hx]
   have h2:(y+B*val B m) % B=y:=by rw[Nat.add_mul_mod_self_left,Nat.mod_eq_of_lt hy]
   rw[<-h1,<-h2,e]
  subst e1;have e2:val B l=val B m:=Nat.eq_of_mul_eq_mul_left hB (by omega);rw[KY hB hl.tail hm.tail e2]
theorem Cq (B:Nat) (l:List Nat):val B (cg l)=val B l:=by
 induction l with
 | nil=>rfl
 | cons x l ih =>
  unfold cg;by_cases h:x=0/\cg l=[]
  ·rw[if_pos h,kA,<-ih,h.2,h.1];simp[val]
  ·rw[if_neg h,kA,kA,ih]
theorem zqC (l:List Nat):∀x∈cg l,x∈l:=by
 induction l with
 | nil=>intro x h;exact h
 | cons y l ih =>
  intro x hx;unfold cg at hx;by_cases h:y=0/\cg l=[]
  ·rw[if_pos h]at hx;cases hx
  ·rw[if_neg h]at hx;rcases List.mem_cons.1 hx with rfl | hx
   ·exact List.mem_cons_self ..
   ·exact List.mem_cons_of_mem _ (ih x hx)
theorem Ei {B:Nat} {l:List Nat} (h:Dig B l):eM B (cg l):=by
 refine⟨fun x hx=>h x (zqC l x hx),?_⟩;clear h
 induction l with
 | nil=>simp[cg]
 | cons y l ih =>
  intro x hx;unfold cg at hx;by_cases h:y=0/\cg l=[]
  ·rw[if_pos h]at hx;simp at hx
  ·rw[if_neg h]at hx
   cases e:cg l with
   | nil =>
    rw[e]at hx;simp at hx;subst hx;intro h0;exact h ⟨h0,e⟩
   | cons z m =>
    rw[e,List.getLast?_cons_cons,<-e]at hx;exact ih x hx
theorem MQ (l:List Nat):cg (l++[0])=cg l:=by
 induction l with
 | nil=>simp[cg]
 | cons x l ih=>rw[List.cons_append];unfold cg;rw[ih]
theorem MF (l:List Nat) (x:Nat) (h:x≠0):cg (l++[x])=l++[x]:=by
 induction l with
 | nil=>simp[cg,h]
 | cons y l ih=>rw[List.cons_append];unfold cg;rw[ih,if_neg (by simp)]
theorem Cw (l:List Nat):(cg l).length<=l.length:=by
 induction l with
 | nil=>simp[cg]
 | cons y l ih=>unfold cg;split <;> simp;exact ih
theorem IZ (l:List Nat):l.take (cg l).length=cg l:=by
 induction l with
 | nil=>simp[cg]
 | cons y l ih =>
  unfold cg;split
  ·simp
  ·simp[ih]
def dig (B n:Nat):List Nat:=if _h:2<=B/\n≠0 then (n % B)::dig B (n / B) else []
termination_by n
decreasing_by exact Nat.div_lt_self (by omega) (by omega)
theorem mH (B:Nat):dig B 0=[]:=by unfold dig;simp
theorem yq {B n:Nat} (hB:2<=B) (hn:n≠0):dig B n=(n % B)::dig B (n / B):=by rw[dig,dif_pos ⟨hB,hn⟩]
theorem cW {B:Nat} (hB:2<=B) (n:Nat):val B (dig B n)=n:=by
 induction n using Nat.strongRecOn with
 | ind n ih =>
  by_cases h:n=0
  ·rw[h,mH];rfl
  ·rw[yq hB h,kA,ih (n / B) (Nat.div_lt_self (by omega) (by omega))];exact Nat.mod_add_div n B
theorem eo {B:Nat} (hB:2<=B) (n:Nat):eM B (dig B n):=by
 induction n using Nat.strongRecOn with
 | ind n ih =>
  by_cases h:n=0
  ·rw[h,mH];exact eM.nil B
  ·have hi:=ih (n / B) (Nat.div_lt_self (by omega) (by omega));rw[yq hB h];refine⟨Dig.cons (Nat.mod_lt _ (by omega)) hi.1,fun x hx=>?_⟩;by_cases h2:n / B=0
   ·rw[h2,mH]at hx;simp at hx;have:=Nat.mod_add_div n B;rw[h2]at this;omega
   ·rw[yq hB h2,List.getLast?_cons_cons,<-yq hB h2]at hx;exact hi.2 x hx
theorem DH {B:Nat} (hB:2<=B) {l:List Nat} (h:eM B l):dig B (val B l)=l:=KY (by omega) (eo hB _) h (cW hB _)
theorem S2 {B:Nat} (hB:2<=B) {l:List Nat} (h:Dig B l):cg l=dig B (val B l):=by
 have:=DH hB (Ei h);rw[Cq]at this;exact this.symm
theorem xZ {B:Nat} (hB:2<=B) (n:Nat):n<B ^ (dig B n).length:=by
 have:=cZ (eo hB n).1;rwa [cW hB]at this
theorem H9 {B:Nat} (hB:2<=B) (n:Nat) (hn:n≠0):B ^ ((dig B n).length-1)<=n:=by
 have:=MN (by omega) (eo hB n) (by rw[yq hB hn];simp);rwa [cW hB]at this
theorem Cn {B:Nat} (hB:2<=B) (n k:Nat) (h:n<B ^ k):(dig B n).length<=k:=by
 by_cases hn:n=0
 ·rw[hn,mH];simp
 ·have:=H9 hB n hn;have h2:B ^ ((dig B n).length-1)<B ^ k:=by omega
  have:=(Nat.pow_lt_pow_iff_right (by omega:1<B)).1 h2;omega
theorem Ec {B:Nat} (hB:2<=B) {a b:Nat} (h:a<=b):(dig B a).length<=(dig B b).length :=
 Cn hB a _ (Nat.lt_of_le_of_lt h (xZ hB b))
theorem rO {B:Nat} (hB:2<=B) {n:Nat} (h:(dig B n).length=0):n=0:=by
 have:=xZ hB n;rw[h]at this;simp at this;exact this
theorem Me {B:Nat} (hB:2<=B) {n:Nat} (h:n≠0):dig B n≠[]:=by rw[yq hB h];simp
theorem qA {α:Type} {l:List α} {i:Nat} (h:i<l.length):l[i]?=some l[i]:=List.getElem?_eq_getElem h
theorem qB {α:Type} {l:List α} {i:Nat} {a:α}:l.getD i a=l[i]?.getD a:=List.getD_eq_getElem?_getD ..
theorem qC {p:Prop} [Decidable p] (h:¬p):decide p=false:=decide_eq_false h
theorem qD {p:Prop} [Decidable p] (h:p):decide p=true:=decide_eq_true h
theorem qE {α:Type} {l:List α} {i:Nat} {a:α}:l[i]?=some a↔∃h:i<l.length,l[i]=a:=List.getElem?_eq_some_iff
theorem gE {α:Type} {l:List α} {i:Nat} (h:i<l.length):∃x,l[i]?=some x:=⟨_,List.getElem?_eq_getElem h⟩
theorem qG {α:Type} (l:List α):l++[]=l:=List.append_nil l
theorem qH (n:Nat):n<=n:=Nat.le_refl n
theorem qI {a b c:Nat} (h:a<=b) (k:b<=c):a<=c:=Nat.le_trans h k
theorem qF {α:Type} {l:List α} {i:Nat} {a:α} (h:l[i]?=some a):a∈l:=List.mem_of_getElem? h
theorem qJ:type_of% @List.length_append.{0}:=@List.length_append
theorem qK:type_of% @List.getElem?_map.{0,0}:=@List.getElem?_map
theorem qL:type_of% @List.getElem?_append_right.{0}:=@List.getElem?_append_right
theorem qM:type_of% @List.getElem?_append_left.{0}:=@List.getElem?_append_left
theorem qN:type_of% @Nat.mul_le_mul_right:=@Nat.mul_le_mul_right
theorem qO:type_of% @List.take_of_length_le.{0}:=@List.take_of_length_le
theorem qP:type_of% @List.length_take.{0}:=@List.length_take
theorem qQ:type_of% @Nat.zero_le:=@Nat.zero_le
theorem qR:type_of% @List.length_cons.{0}:=@List.length_cons
theorem qS:type_of% @List.take_succ_eq_append_getElem.{0}:=@List.take_succ_eq_append_getElem
theorem qT:type_of% @Nat.mod_eq_of_lt:=@Nat.mod_eq_of_lt
theorem qU:type_of% @Int.toNat_natCast:=@Int.toNat_natCast
theorem qV:type_of% @List.length_map.{0,0}:=@List.length_map
theorem qW:type_of% @Nat.mul_comm:=@Nat.mul_comm
theorem qX:type_of% @Nat.pow_succ:=@Nat.pow_succ
theorem qY:type_of% @Nat.add_zero:=@Nat.add_zero
theorem qZ:type_of% @List.append_assoc.{0}:=@List.append_assoc
theorem qa:type_of% @List.take_length.{0}:=@List.take_length
theorem qb:type_of% @Nat.mul_le_mul_left:=@Nat.mul_le_mul_left
theorem qc:type_of% @Nat.pow_le_pow_right:=@Nat.pow_le_pow_right
theorem qe:type_of% @List.getElem?_eq_none.{0}:=@List.getElem?_eq_none
theorem qf:type_of% @List.mem_cons_self.{0}:=@List.mem_cons_self
theorem qg:type_of% @List.length_nil.{0}:=@List.length_nil
theorem qh:type_of% @Int.eq_ofNat_of_zero_le:=@Int.eq_ofNat_of_zero_le
theorem qi:type_of% @List.drop_of_length_le.{0}:=@List.drop_of_length_le
theorem qj:type_of% @Nat.div_add_mod:=@Nat.div_add_mod
theorem qk:type_of% @List.mem_cons_of_mem.{0}:=@List.mem_cons_of_mem
theorem qm:type_of% @Nat.mod_lt:=@Nat.mod_lt
theorem qn:type_of% @Nat.min_eq_left:=@Nat.min_eq_left
theorem qo:type_of% @List.map_append.{0,0}:=@List.map_append
theorem qp:type_of% @List.drop_eq_getElem_cons.{0}:=@List.drop_eq_getElem_cons
theorem qt:type_of% @List.length_drop.{0}:=@List.length_drop
theorem qu:type_of% @Nat.zero_add:=@Nat.zero_add
theorem qv:type_of% @Nat.add_mul:=@Nat.add_mul
theorem qw:type_of% @List.length_singleton.{0}:=@List.length_singleton
theorem qx:type_of% @List.map_cons.{0,0}:=@List.map_cons
theorem qy:type_of% @Nat.eq_of_beq_eq_true:=@Nat.eq_of_beq_eq_true
theorem qz:type_of% @Nat.eq_zero_or_pos:=@Nat.eq_zero_or_pos
theorem pJ:type_of% @List.length_eq_zero_iff.{0}:=@List.length_eq_zero_iff
theorem pK:type_of% @List.mem_singleton.{0}:=@List.mem_singleton
theorem pL:type_of% @IntKind.wrap_i64:=@IntKind.wrap_i64
theorem pM:type_of% @List.getElem?_cons_succ.{0}:=@List.getElem?_cons_succ
theorem pN:type_of% @List.nil_append.{0}:=@List.nil_append
theorem pO:type_of% @List.getElem?_take.{0}:=@List.getElem?_take
theorem pP:type_of% @bne_self_eq_false.{0}:=@bne_self_eq_false
theorem pQ:type_of% @beq_eq_false_iff_ne.{0}:=@beq_eq_false_iff_ne
end
section
def bl (n:Nat):Nat:=(dig 2 n).length
theorem lX:bl 0=0:=by simp[bl,mH]
theorem og (n:Nat):n<2 ^ bl n:=xZ (qH _) n
theorem cf {n k:Nat} (h:n<2 ^ k):bl n<=k:=Cn (qH _) n k h
theorem Ku {n:Nat} (h:n≠0):2 ^ (bl n-1)<=n:=H9 (qH _) n h
theorem Ho {n:Nat} (h:n≠0):0<bl n:=by
 rcases qz (bl n) with h0 | h0
 ·exact absurd (rO (qH _) h0) h
 ·exact h0
theorem UH {n:Nat}:bl n=0↔n=0:=⟨fun h=>rO (qH _) h,fun h=>by rw[h];exact lX⟩
theorem ik {a b:Nat} (h:a<=b):bl a<=bl b:=Ec (qH _) h
theorem KM (a b:Nat):bl (a+b)<=max (bl a) (bl b)+1:=by
 apply cf;have h1:=og a;have h2:=og b;have h3:2 ^ bl a<=2 ^ max (bl a) (bl b):=qc (by omega) (Nat.le_max_left ..);have h4:2 ^ bl b<=2 ^ max (bl a) (bl b):=qc (by omega) (Nat.le_max_right ..);rw[qX];omega
theorem gQ (a b:Nat):bl (a*b)<=bl a+bl b:=by
 apply cf;rw[Nat.pow_add];exact Nat.mul_lt_mul_of_lt_of_lt (og a) (og b)
theorem x9 (a b:Nat):bl (a / b)<=bl a:=ik (Nat.div_le_self a b)
theorem X7 (a b:Nat):bl (a % b)<=bl a:=ik (Nat.mod_le a b)
theorem zln (a b:Nat) (h:a≠0):bl (Nat.gcd a b)<=bl a:=ik (Nat.gcd_le_left b (by omega))
theorem Ed (a b:Nat) (h:b≠0):bl (Nat.gcd a b)<=bl b:=ik (Nat.gcd_le_right a (by omega))
theorem Il (k:Nat):bl (2 ^ k)=k+1:=by
 have h1:=cf (n:=2 ^ k) (k:=k+1) (Nat.pow_lt_pow_right (by omega) (by omega));have h2:=og (2 ^ k);have:=(Nat.pow_lt_pow_iff_right (by omega:1<2)).1 h2;omega
theorem zoW {n k:Nat}:bl n<=k↔n<2 ^ k:=⟨fun h=>Nat.lt_of_lt_of_le (og n) (qc (by omega) h),cf⟩
theorem ur (k n:Nat) (hk:1<=k):(dig (2 ^ k) n).length=(bl n+k-1) / k:=by
 have hB:2<=2 ^ k:=by have:=qc (n:=2) (by omega) hk;simpa using this
 by_cases h:n=0
 ·rw[h,mH,lX,Nat.div_eq_of_lt (by omega)];rfl
 ·have h1:=xZ hB n;have h2:=H9 hB n h;rw[<-Nat.pow_mul]at h1 h2;have h3:=cf h1;have h4:=og n;have h5:2 ^ (k*((dig (2 ^ k) n).length-1))<2 ^ bl n:=by omega
  have h6:=(Nat.pow_lt_pow_iff_right (by omega:1<2)).1 h5;have h7:(dig (2 ^ k) n).length≠0:=fun e=>h (rO hB e);generalize (dig (2 ^ k) n).length=L at *
  obtain⟨m,rfl⟩:∃m,L=m+1:=⟨L-1,by omega⟩;rw[Nat.add_sub_cancel]at h6;rw[Nat.mul_add,Nat.mul_one]at h3;have e:bl n+k-1=k*(m+1)+(bl n-1-k*m):=by rw[Nat.mul_add,Nat.mul_one];omega
  rw[e,Nat.mul_add_div (by omega),Nat.div_eq_of_lt (by omega)]
end
section
theorem Jc (n:Int) (d:Nat) (hd:d≠0):(mkRat n d).num=n / (Nat.gcd n.natAbs d:Nat)/\(mkRat n d).den=d / Nat.gcd n.natAbs d:=by
 rw[Rat.num_mkRat,Rat.den_mkRat,if_neg hd,if_neg hd,Nat.gcd_comm];exact⟨rfl,rfl⟩
theorem Zb (a b:Rat) (g down other h:Nat) (up:Int) (hg:g=Nat.gcd a.den b.den) (sZ:down=a.den / g) (mS:other=b.den / g) (E0:up=a.num*other+b.num*down) (hh:h=Nat.gcd up.natAbs g) :
  (a+b).num=up / (h:Nat)/\(a+b).den=down*(b.den / h):=by
 have ae:down*g=a.den:=by rw[sZ];exact Nat.div_mul_cancel (hg ▸ Nat.gcd_dvd_left ..)
 have be:other*g=b.den:=by rw[mS];exact Nat.div_mul_cancel (hg ▸ Nat.gcd_dvd_right ..)
 have lF:g≠0:=by rw[hg];exact Nat.gcd_ne_zero_left a.den_nz
 have uP:down*b.den≠0:=by
  refine Nat.mul_ne_zero (fun e=>?_) b.den_nz;rw[e,Nat.zero_mul]at ae;exact a.den_nz ae.symm
 have e1:a+b=mkRat up (down*b.den):=by
  rw[Rat.add_def',<-Rat.mkRat_mul_right (n:=up) (d:=down*b.den) lF];congr 1
  ·rw[E0,<-ae,<-be];simp only[Int.natCast_mul];grind
  ·rw[<-ae];grind
 have e2:Nat.gcd up.natAbs (down*b.den)=h:=by rw[hh,E0];exact(Rat.add.aux a b hg sZ mS).symm
 have h1:=Jc up (down*b.den) uP;rw[e2]at h1;rw[e1];refine⟨h1.1,h1.2.trans ?_⟩;refine Nat.mul_div_assoc _ ?_;rw[hh];exact Nat.dvd_trans (Nat.gcd_dvd_right ..) (hg ▸ Nat.gcd_dvd_right ..)
theorem Za (a b:Rat) (g h:Nat) (hg:g=Nat.gcd a.num.natAbs b.den) (hh:h=Nat.gcd b.num.natAbs a.den) :
  (a*b).num=(a.num / (g:Nat))*(b.num / (h:Nat))/\(a*b).den=(a.den / h)*(b.den / g):=by
 have:a*b=Rat.mul a b:=rfl;rw[this]
 delta Rat.mul;dsimp only;simp only[Int.divExact_eq_tdiv,Nat.divExact_eq_div];rw[Int.tdiv_eq_ediv_of_dvd (Int.ofNat_dvd_left.2 <| Nat.gcd_dvd_left ..),Int.tdiv_eq_ediv_of_dvd (Int.ofNat_dvd_left.2 <| Nat.gcd_dvd_left ..),hg,hh];exact⟨rfl,rfl⟩
theorem RO (n:Int) (g:Nat) (h:g ∣ n.natAbs):n / (g:Nat)=if n<0 then -((n.natAbs / g:Nat):Int) else ((n.natAbs / g:Nat):Int):=by
 obtain⟨k,hk⟩:=h;by_cases h0:g=0
 ·subst h0;have:n=0:=by omega
  subst this;simp
 ·have hg:0<g:=by omega
  rw[hk,Nat.mul_div_cancel_left k hg];by_cases hn:n<0
  ·rw[if_pos hn];have:n=g*(-(k:Int)):=by rw[Int.mul_neg,<-Int.natCast_mul,<-hk];omega
   rw[this,Int.mul_ediv_cancel_left _ (by omega)]
  ·rw[if_neg hn];have:n=g*(k:Int):=by rw[<-Int.natCast_mul,<-hk];omega
   rw[this,Int.mul_ediv_cancel_left _ (by omega)]
def bI (a b:Rat):Int:=if a<b then -1 else if b<a then 1 else 0
def gL (a b:Int):Int:=if a<b then -1 else if b<a then 1 else 0
theorem Ig (a b:Rat):bI a b=gL (a.num*b.den) (b.num*a.den):=by
 unfold bI gL;simp only[Rat.lt_iff]
end
section
def ht (q:Rat):Nat:=max (bl q.num.natAbs) (bl q.den)
theorem um (q:Rat):bl q.num.natAbs<=ht q:=Nat.le_max_left ..
theorem oA (q:Rat):bl q.den<=ht q:=Nat.le_max_right ..
theorem MP (n:Int) (g:Nat):(n / (g:Int)).natAbs<=n.natAbs:=by
 exact Int.natAbs_ediv_le_natAbs n g
theorem Hj (n:Int) (d:Nat) (hd:d≠0):ht (mkRat n d)<=max (bl n.natAbs) (bl d):=by
 have:=Jc n d hd;unfold ht;rw[this.1,this.2];have h1:=ik (MP n (Nat.gcd n.natAbs d));have h2:=x9 d (Nat.gcd n.natAbs d);omega
theorem KH (a:Rat):ht (-a)=ht a:=by simp[ht]
theorem MI (a b:Int):bl (a+b).natAbs<=max (bl a.natAbs) (bl b.natAbs)+1 :=
 qI (ik (Int.natAbs_add_le a b)) (KM _ _)
theorem pB (a b:Rat):ht (a+b)<=ht a+ht b+1:=by
 rw[Rat.add_def'];refine qI (Hj _ _ (Nat.mul_ne_zero a.den_nz b.den_nz)) ?_;have h1:=MI (a.num*b.den) (b.num*a.den);rw[Int.natAbs_mul,Int.natAbs_mul,Int.natAbs_natCast,Int.natAbs_natCast]at h1;have h2:=gQ a.num.natAbs b.den;have h3:=gQ b.num.natAbs a.den;have h4:=gQ a.den b.den;have:=um a;have:=um b;have:=oA a;have:=oA b;omega
theorem DE (a b:Rat):ht (a-b)<=ht a+ht b+1:=by
 rw[Rat.sub_eq_add_neg];have:=pB a (-b)
 rwa [KH]at this
theorem pG (a b:Rat):ht (a*b)<=ht a+ht b:=by
 rw[Rat.mul_def'];refine qI (Hj _ _ (Nat.mul_ne_zero a.den_nz b.den_nz)) ?_;rw[Int.natAbs_mul];have h2:=gQ a.num.natAbs b.num.natAbs;have h4:=gQ a.den b.den;have:=um a;have:=um b;have:=oA a;have:=oA b;omega
theorem ie (n:Int):ht (n:Rat)<=bl n.natAbs+1:=by
 unfold ht;have:bl 1=1:=Il 0;simp only[Rat.num_intCast,Rat.den_intCast];omega
theorem rK:ht 0=1:=by
 unfold ht;have:bl 1=1:=Il 0;simp only[Rat.zero_num,Rat.zero_den,Int.natAbs_zero,lX];omega
theorem Ra (a:Rat):ht a⁻¹<=ht a:=by
 by_cases h:a=0
 ·subst h;simp
 ·have h0:a.num≠0:=fun e=>h (Rat.num_eq_zero.1 e);unfold ht;rw[Rat.num_inv,Rat.den_inv,if_neg h0,Int.natAbs_mul,Int.natAbs_natCast,Int.natAbs_sign_of_ne_zero h0];simp only[Nat.one_mul];omega
theorem tY (a b:Rat):ht (a / b)<=ht a+ht b:=by
 rw[Rat.div_def];have h1:=pG a b⁻¹;have h2:=Ra b;omega
end
section
def aJ (l:List Rat):Rat:=l.foldl (·+·) 0
theorem zQ:aJ []=0:=rfl
theorem uk (l:List Rat) (x:Rat):aJ (l++[x])=aJ l+x:=by unfold aJ;rw[List.foldl_append];rfl
theorem RG (B:Nat):∀(l:List Rat),(∀q,q∈l->ht q<=B)->ht (aJ l.reverse)<=1+(B+1)*l.length
 | [],_=>by rw[List.reverse_nil,zQ,rK];exact Nat.le_add_right ..
 | x::l,h=>by
  have h1:=RG B l (fun q hq=>h q (qk _ hq));have h2:=h x (qf ..);have h3:=pB (aJ l.reverse) x;rw[List.reverse_cons,uk,qR,Nat.mul_succ];omega
theorem pF (B:Nat) (l:List Rat) (h:∀q,q∈l->ht q<=B):ht (aJ l)<=1+(B+1)*l.length:=by
 have:=RG B l.reverse (fun q hq=>h q (List.mem_reverse.1 hq))
 rwa [List.reverse_reverse,List.length_reverse]at this
def iI (a b:List Rat):List Rat:=List.zipWith (· * ·) a b
theorem Z3 {a b:List Rat} {i:Nat} {x y:Rat} (h1:a[i]?=some x) (h2:b[i]?=some y):(iI a b)[i]?=some (x*y):=by
 unfold iI;rw[List.getElem?_zipWith,h1,h2]
theorem KO {B:Nat}:∀{a b:List Rat},(∀q,q∈a->ht q<=B)->(∀q,q∈b->ht q<=B)->∀q,q∈iI a b->ht q<=B+B
 | [],_,_,_,q,hq=>by simp[iI]at hq
 | _::_,[],_,_,q,hq=>by simp[iI]at hq
 | x::a,y::b,ha,hb,q,hq=>by
  rcases List.mem_cons.1 (show q∈x*y::iI a b from hq) with rfl | h
  ·have:=pG x y;have h1:=ha x (qf ..);have h2:=hb y (qf ..);omega
  ·exact KO (fun q h=>ha q (qk _ h)) (fun q h=>hb q (qk _ h)) q h
theorem Ik {a:List Rat} {i:Nat} {x:Rat} (h:a[i]?=some x):a.drop i=x::a.drop (i+1):=by
 obtain⟨hl,rfl⟩:=qE.1 h;exact qp hl
def jQ (l:List Rat):Prop:=l.Pairwise (·<=·)
theorem TW {l m:List Rat} (h:jQ l) (k:jQ m) (p:l.Perm m):l=m:=List.Perm.eq_of_pairwise (fun a b _ _ h1 h2=>Rat.le_antisymm h1 h2) h k p
def aV {α:Type} (l:List α) (k:Nat) (x:α):List α:=l.take k++x::l.drop k
theorem vV {α:Type} (l:List α) (k:Nat) (x:α):(aV l k x).Perm (l++[x]):=by
 unfold aV;refine List.perm_middle.trans ?_;rw[List.take_append_drop];exact(List.perm_append_comm (l₁:=[x]) (l₂:=l))
theorem Ea {l:List Rat} {k:Nat} {x:Rat} (h:jQ l) (h1:∀y,y∈l.take k->y<=x) (h2:∀y,y∈l.drop k->x<=y):jQ (aV l k x):=by
 unfold aV jQ;rw[List.pairwise_append];refine⟨h.sublist (List.take_sublist ..),List.pairwise_cons.2 ⟨fun y hy=>h2 y hy,h.sublist (List.drop_sublist ..)⟩,fun a ha b hb=>?_⟩;rcases List.mem_cons.1 hb with rfl | hb
 ·exact h1 a ha
 ·exact Rat.le_trans (h1 a ha) (h2 b hb)
theorem MA {l:List Rat} {k:Nat} {x y:Rat} (h:jQ l) (hk:l[k]?=some y) (hy:y<=x):∀z,z∈l.take (k+1)->z<=x:=fun z hz=>by
 obtain⟨hl,rfl⟩:=qE.1 hk;rw[qS hl]at hz;rcases List.mem_append.1 hz with hz | hz
 ·have hp:jQ (l.take (k+1)):=h.sublist (List.take_sublist ..);unfold jQ at hp;rw[qS hl,List.pairwise_append]at hp;exact Rat.le_trans (hp.2.2 z hz _ (pK.2 Z)) hy
 ·rw[pK.1 hz];exact hy
def gw (l:List Rat):List Rat:=l.mergeSort fun a b=>decide (a<=b)
theorem zZ (l:List Rat):(gw l).Perm l:=List.mergeSort_perm l _
theorem U5 (l:List Rat):jQ (gw l):=by
 have:=List.pairwise_mergeSort (le:=fun a b:Rat=>decide (a<=b)) (fun a b c h1 h2=>by simp at h1 h2 ⊢;exact Rat.le_trans h1 h2) (fun a b=>by simp;exact Rat.le_total) l;exact this.imp fun h=>by simpa using h
theorem IK {l m:List Rat} (h:m.Perm l) (k:jQ m):m=gw l:=TW k (U5 l) (h.trans (zZ l).symm)
end
section
def csL (l:List Int):List Int:=(List.range 12).map fun (k:Nat)=>(l.count (k:Int):Int)
def sqL (l:List Int):Nat:=(l.map fun x=>l.count x).sum
theorem oq (l:List Int):(csL l).length=12:=by simp[csL]
theorem B2 (l:List Int) {k:Nat} (hk:k<12):(csL l)[k]?=some (l.count (k:Int):Int):=by
 unfold csL;rw[qK,List.getElem?_range hk];rfl
theorem Mf (l:List Int) (x y:Int):(l++[x]).count y=l.count y+if x=y then 1 else 0:=by
 rw[List.count_append,List.count_singleton];congr 1;by_cases h:x=y
 ·rw[if_pos h,h];simp
 ·rw[if_neg h];simp[h]
theorem Lv (l:List Int) {k:Nat} (hk:k<12):csL (l++[(k:Int)])=(csL l).set k ((l.count (k:Int)+1:Nat):Int):=by
 apply List.ext_getElem?;intro j;rw[List.getElem?_set];by_cases hj:j<12
 ·rw[B2 _ hj,B2 _ hj,Mf,oq];by_cases e:k=j
  ·subst e;rw[if_pos rfl,if_pos rfl,if_pos hk]
  ·rw[if_neg e,if_neg (by omega),qY]
 ·rw[qe (by rw[oq];omega),qe (by rw[oq];omega),if_neg (by omega)]
theorem zqA (l m:List Int) (x:Int):(m.map fun y=>l.count y+if x=y then 1 else 0).sum=(m.map fun y=>l.count y).sum+m.count x:=by
 induction m with
 | nil=>rfl
 | cons a m ih =>
  rw[qx,List.sum_cons,qx,List.sum_cons,ih,List.count_cons];by_cases h:x=a
  ·rw[if_pos h,h];simp;omega
  ·have h2:¬(a == x)=true:=by simp;omega
   rw[if_neg h,if_neg h2];omega
theorem K6 (l:List Int) (x:Int):sqL (l++[x])=sqL l+2*l.count x+1:=by
 unfold sqL;rw[qo,List.sum_append];have e:(l.map fun y=>(l++[x]).count y)=l.map fun y=>l.count y+if x=y then 1 else 0:=List.map_congr_left fun y _=>Mf l x y
 rw[e,zqA]
 have:([x].map fun y=>(l++[x]).count y).sum=l.count x+1:=by
  simp
 rw[this];omega
theorem Rj (l:List Int) (B:Nat):∀m:List Int,(∀y,y∈m->l.count y<=B)->(m.map fun y=>l.count y).sum<=m.length*B
 | [],_=>by simp
 | a::m,h=>by
  have ih:=Rj l B m (fun y hy=>h y (qk _ hy));have:=h a (qf ..);rw[qx,List.sum_cons,qR,Nat.succ_mul];omega
theorem BX (l:List Int):sqL l<=l.length*l.length:=Rj l l.length l (fun y _=>List.count_le_length)
def atR (vals:List Rat) (rs:List Int):List Rat:=rs.map fun r=>vals.getD r.toNat 0
def atI (ls:List Int) (rs:List Int):List Int:=rs.map fun r=>ls.getD r.toNat 0
theorem SF (vals:List Rat) {rs:List Int} {i:Nat} {r:Int} {x:Rat} (h:rs[i]?=some r) (hx:vals[r.toNat]?=some x):(atR vals rs).take (i+1)=(atR vals rs).take i++[x]:=by
 have:(atR vals rs)[i]?=some x:=by unfold atR;rw[qK,h];simp[hx]
 obtain⟨hl,hh⟩:=qE.1 this;rw[qS hl,hh]
theorem zq8 (ls:List Int) {rs:List Int} {i:Nat} {r x:Int} (h:rs[i]?=some r) (hx:ls[r.toNat]?=some x):(atI ls rs).take (i+1)=(atI ls rs).take i++[x]:=by
 have:(atI ls rs)[i]?=some x:=by unfold atI;rw[qK,h];simp[hx]
 obtain⟨hl,hh⟩:=qE.1 this;rw[qS hl,hh]
theorem lY (vals:List Rat) (rs:List Int):(atR vals rs).length=rs.length:=by simp[atR]
theorem pV (ls rs:List Int):(atI ls rs).length=rs.length:=by simp[atI]
theorem yt {vals:List Rat} {rs:List Int} (h:∀r,r∈rs->0<=r/\r<(vals.length:Int)):∀q,q∈atR vals rs->q∈vals:=fun q hq=>by
 obtain⟨r,hr,rfl⟩:=List.mem_map.1 hq;have:=h r hr;have hl:r.toNat<vals.length:=by omega
 rw[qB,qA hl];exact List.getElem_mem hl
def fe (l:List Rat):Rat:=aJ l / ((l.length:Int):Rat)
def eB (m:Rat) (l:List Rat):List Rat:=l.map fun v=>(v-m)*(v-m)
theorem L2 (m:Rat) (l:List Rat) (x:Rat):aJ (eB m (l++[x]))=aJ (eB m l)+(x-m)*(x-m):=by
 unfold eB;rw[qo,List.map_singleton,uk]
end
section
theorem TH (m o:Rat):∀l:List Rat,aJ (eB o l.reverse)=aJ (eB m l.reverse)+2*(m-o)*(aJ l.reverse-((l.length:Int):Rat)*m)+((l.length:Int):Rat)*((m-o)*(m-o))
 | []=>by
  rw[show aJ (eB o ([]:List Rat).reverse)=0 from rfl,show aJ (eB m ([]:List Rat).reverse)=0 from rfl,show aJ ([]:List Rat).reverse=0 from rfl,show (((([]:List Rat).length:Int)):Rat)=0 from rfl];grind
 | x::l=>by
  have ih:=TH m o l
  have e:(((x::l).length:Int):Rat)=((l.length:Int):Rat)+1:=by
   rw[qR,Int.natCast_add,Rat.intCast_add];rfl
  rw[List.reverse_cons,L2,L2,uk,ih,e];generalize aJ (eB m l.reverse)=A;generalize aJ l.reverse=B;generalize ((l.length:Int):Rat)=N;grind
theorem Tv (a:Rat):0<=a*a:=by
 rcases (Rat.le_total:0<=a\/a<=0) with h | h
 ·exact Rat.mul_nonneg h h
 ·have:0 <= -a:=by grind
  have:=Rat.mul_nonneg this this;grind
end
section
open Go.RowKit
theorem hid {p:Prop} (h:p):Hid p:=h
theorem R3 {k:IntKind} {a b:Int} (h:a=b):Ending.returned (.int k a)=.returned (.int k b):=by rw[h]
structure bK (X:Nat->Prop) (w w':World):Prop where
 os:w'.os=w.os
 tape:w'.tape=w.tape
 output:w'.output=w.output
 size:w.heap.size<=w'.heap.size
 block:∀k,k<w.heap.size->¬X k->w'.heap[k]?=w.heap[k]?
theorem bK.refl (X:Nat->Prop) (w:World):bK X w w:=⟨rfl,rfl,rfl,qH _,fun _ _ _=>rfl⟩
theorem bK.trans {X:Nat->Prop} {a b c:World} (h:bK X a b) (k:bK X b c):bK X a c :=
 ⟨k.os.trans h.os,k.tape.trans h.tape,k.output.trans h.output,qI h.size k.size,fun i hi hx=>(k.block i (Nat.lt_of_lt_of_le hi h.size) hx).trans (h.block i hi hx)⟩
theorem bK.mono {X Y:Nat->Prop} {w w':World} (h:bK X w w') (hx:∀k,k<w.heap.size->X k->Y k):bK Y w w' :=
 ⟨h.os,h.tape,h.output,h.size,fun k hk hy=>h.block k hk (fun x=>hy (hx k hk x))⟩
theorem bK.then {X Y:Nat->Prop} {a b c:World} (h:bK X a b) (k:bK Y b c) (hx:∀i,i<a.heap.size->Y i->X i):bK X a c :=
 ⟨k.os.trans h.os,k.tape.trans h.tape,k.output.trans h.output,qI h.size k.size,fun i hi hn=>(k.block i (Nat.lt_of_lt_of_le hi h.size) (fun y=>hn (hx i hi y))).trans (h.block i hi hn)⟩
theorem bK.drew {X:Nat->Prop} {a w:World} (h:bK X a w):bK X a w.drew:=⟨h.os,h.tape,h.output,h.size,h.block⟩
theorem bK.alloc {X:Nat->Prop} {a w:World} (h:bK X a w) (o:Obj):bK X a (w.alloc o) :=
 h.trans ⟨rfl,rfl,rfl,by simp,fun k hk _=>Below.heap_alloc _ _ _ (by omega)⟩
theorem bK.setCell {X:Nat->Prop} {a w:World} (h:bK X a w) {p:Addr} (hp:p.block<a.heap.size->X p.block) (u:Value):bK X a (w.setCell p u) :=
 h.then (Y:=fun k=>k=p.block) ⟨rfl,rfl,rfl,by simp[World.setCell],fun k _ hx=>Below.heap_setCell _ _ _ _ hx⟩ (fun i hi e=>by cases e;exact hp hi)
theorem bK.of_below {w w':World} (h:Below w.heap.size w w') (X:Nat->Prop):bK X w w' :=
 ⟨h.os,h.tape,h.output,h.size,fun k hk _=>h.block k hk⟩
theorem bK.below {X:Nat->Prop} {w w':World} (h:bK X w w') (B:Nat) (hB:B<=w.heap.size) (hx:∀k,k<B->¬X k):Below B w w' :=
 ⟨h.os,h.tape,h.output,h.size,fun k hk=>h.block k (by omega) (hx k hk)⟩
theorem bK.cell {X:Nat->Prop} {w w':World} (h:bK X w w') {p:Addr} (hp:p.block<w.heap.size) (hx:¬X p.block):w'.cell? p=w.cell? p:=World.cell?_of_block (w:=w) (h.block p.block hp hx)
theorem bK.grown {X:Nat->Prop} {a w w':World} {row:Option Nat} (h:bK X a w) (hg:w.grownBy w' row) (hr:∀k,row=some k->k<a.heap.size->X k):bK X a w' :=
 h.then (Y:=fun k=>row=some k) ⟨hg.os,hg.tape,hg.output,hg.size,fun k hk hx=>hg.block k hk (fun e=>hx e.symm)⟩ (fun i hi e=>hr i e hi)
theorem Ee {B:Nat} {a w:World} (h:Below B a w) (n:Nat):Below B a (w.drewN n):=⟨h.os,h.tape,h.output,h.size,h.block⟩
theorem D5 (w:World) (p:Addr) (u:Value):bK (fun k=>k=p.block) w (w.setCell p u):=(bK.refl (fun k=>k=p.block) w).setCell (p:=p) (fun _=>rfl) u
def cellsOf {α:Type} (enc:α->Value) (l:List α):Array Value:=(l.map enc).toArray
theorem zjV {α:Type} (enc:α->Value) (l:List α):(cellsOf enc l).size=l.length:=by simp[cellsOf]
theorem zlr {α:Type} (enc:α->Value) (l:List α) (j:Nat) (h:j<l.length):(cellsOf enc l)[j]?=some (enc l[j]):=by simp[cellsOf,h]
theorem UQ {α:Type} (enc:α->Value) (l:List α) (j:Nat) (x:α):(cellsOf enc l).setIfInBounds j (enc x)=cellsOf enc (l.set j x):=by
 simp[cellsOf,List.map_set]
theorem zi7 (z:Value) (n:Nat):madeCells #[z] n=Array.replicate n z:=by
 apply Array.ext
 ·simp[madeCells]
 ·intro i h1 h2;simp[madeCells,Nat.mod_one]
theorem zkf {α:Type} (enc:α->Value) (z:α) (n:Nat):madeCells #[enc z] n=cellsOf enc (List.replicate n z):=by
 rw[zi7];simp[cellsOf]
def Blk {α:Type} (enc:α->Value) (w:World) (b:Nat) (l:List α):Prop:=∃T,w.heap[b]?=some (.cells (cellsOf enc l) T (0,0))
theorem Blk.lt {α:Type} {enc:α->Value} {w:World} {b:Nat} {l:List α} (h:Blk enc w b l):b<w.heap.size:=by obtain⟨T,h⟩:=h;exact lt_of_block h
theorem Blk.cell {α:Type} {enc:α->Value} {w:World} {b:Nat} {l:List α} (h:Blk enc w b l) (j:Nat) (hj:j<l.length):w.cell? ⟨b,j,none⟩=some (enc l[j]):=by
 obtain⟨T,h⟩:=h;rw[cell_of_row w b j _ T (0,0) h,zlr enc l j hj]
theorem Blk.free {α:Type} {enc:α->Value} {w:World} {b:Nat} {l:List α} (h:Blk enc w b l) (j:Nat):w.frozen? ⟨b,j,none⟩=false:=by
 obtain⟨T,h⟩:=h;simp[World.frozen?,h]
theorem Blk.set {α:Type} {enc:α->Value} {w:World} {b:Nat} {l:List α} (h:Blk enc w b l) (j:Nat) (x:α):Blk enc (w.setCell ⟨b,j,none⟩ (enc x)) b (l.set j x):=by
 have af:=h.lt;obtain⟨T,h⟩:=h;refine⟨T,?_⟩;have h':w.heap[b]=.cells (cellsOf enc l) T (0,0):=by simpa[Array.getElem?_eq_getElem af] using h
 show (w.heap.modify b _)[b]?=_;rw[Array.getElem?_modify,if_pos rfl,h];simp[UQ]
theorem Blk.kept {α:Type} {enc:α->Value} {X:Nat->Prop} {w w':World} {b:Nat} {l:List α} (h:Blk enc w b l) (k:bK X w w') (hx:¬X b):Blk enc w' b l:=by
 have:=h.lt;obtain⟨T,h⟩:=h;exact⟨T,by rw[k.block b this hx];exact h⟩
theorem Blk.below {α:Type} {enc:α->Value} {w w':World} {b:Nat} {l:List α} (h:Blk enc w b l) (k:Below w.heap.size w w'):Blk enc w' b l :=
 h.kept (bK.of_below k (fun _=>False)) (fun x=>x)
theorem Blk.new {α:Type} (enc:α->Value) (w:World) (l:List α) (T:TypeId):Blk enc (w.alloc (.cells (cellsOf enc l) T)) w.heap.size l:=⟨T,heap_alloc_new w _⟩
theorem Blk.other {α:Type} {enc:α->Value} {w:World} {b:Nat} {l:List α} (h:Blk enc w b l) (p:Addr) (u:Value) (hp:b≠p.block):Blk enc (w.setCell p u) b l:=h.kept (D5 w p u) hp
theorem Blk.drew {α:Type} {enc:α->Value} {w:World} {b:Nat} {l:List α} (h:Blk enc w b l):Blk enc w.drew b l:=h
theorem Blk.has {α:Type} {enc:α->Value} {w:World} {b:Nat} {l:List α} (h:Blk enc w b l) (j:Nat) (hj:j<l.length):∃v,w.cell? ⟨b,j,none⟩=some v:=⟨_,h.cell j hj⟩
def fy {α:Type} (enc:α->Value) (T:TypeId) (w:World) (b:Nat) (l:List α):Prop:=w.heap[b]?=some (.cells (cellsOf enc l) T (0,0))
theorem fy.blk {α:Type} {enc:α->Value} {T:TypeId} {w:World} {b:Nat} {l:List α} (h:fy enc T w b l):Blk enc w b l:=⟨T,h⟩
theorem fy.lt {α:Type} {enc:α->Value} {T:TypeId} {w:World} {b:Nat} {l:List α} (h:fy enc T w b l):b<w.heap.size:=h.blk.lt
theorem fy.cell {α:Type} {enc:α->Value} {T:TypeId} {w:World} {b:Nat} {l:List α} (h:fy enc T w b l) (j:Nat) (hj:j<l.length):w.cell? ⟨b,j,none⟩=some (enc l[j]):=h.blk.cell j hj
theorem fy.free {α:Type} {enc:α->Value} {T:TypeId} {w:World} {b:Nat} {l:List α} (h:fy enc T w b l) (j:Nat):w.frozen? ⟨b,j,none⟩=false:=h.blk.free j
theorem fy.has {α:Type} {enc:α->Value} {T:TypeId} {w:World} {b:Nat} {l:List α} (h:fy enc T w b l) (j:Nat) (hj:j<l.length):∃v,w.cell? ⟨b,j,none⟩=some v:=h.blk.has j hj
theorem fy.set {α:Type} {enc:α->Value} {T:TypeId} {w:World} {b:Nat} {l:List α} (h:fy enc T w b l) (j:Nat) (x:α):fy enc T (w.setCell ⟨b,j,none⟩ (enc x)) b (l.set j x):=by
 unfold fy at *
 show (w.heap.modify b _)[b]?=_;rw[Array.getElem?_modify,if_pos rfl,h];simp[UQ]
theorem fy.below {α:Type} {enc:α->Value} {T:TypeId} {w w':World} {b:Nat} {l:List α} (h:fy enc T w b l) (k:Below w.heap.size w w'):fy enc T w' b l:=by unfold fy;rw[k.block b h.lt];exact h
theorem fy.new {α:Type} (enc:α->Value) (w:World) (l:List α) (T:TypeId):fy enc T (w.alloc (.cells (cellsOf enc l) T)) w.heap.size l:=heap_alloc_new w _
abbrev i64:Int->Value:=Value.int .i64
abbrev u64:Int->Value:=Value.int .u64
def Sl {α:Type} (enc:α->Value) (w:World) (v:Value) (l:List α):Prop :=
 (l=[]/\∃a cap,v=.slice a 0 cap) \/
 ∃b off cap,v=.slice (some ⟨b,off,none⟩) l.length cap/\b<w.heap.size/\∀j (h:j<l.length),w.cell? ⟨b,off+j,none⟩=some (enc l[j])
theorem Sl.kept {α:Type} {enc:α->Value} {X:Nat->Prop} {w w':World} {v:Value} {l:List α} (h:Sl enc w v l) (k:bK X w w') (hx:∀b off len cap,v=.slice (some ⟨b,off,none⟩) len cap->¬X b):Sl enc w' v l:=by
 rcases h with h | ⟨b,off,cap,hv,hb,hc⟩
 ·exact .inl h
 ·exact .inr ⟨b,off,cap,hv,Nat.lt_of_lt_of_le hb k.size,fun j hj=>by rw[k.cell hb (hx _ _ _ _ hv)];exact hc j hj⟩
theorem Sl.below {α:Type} {enc:α->Value} {w w':World} {v:Value} {l:List α} (h:Sl enc w v l) (k:Below w.heap.size w w'):Sl enc w' v l :=
 h.kept (bK.of_below k (fun _=>False)) (fun _ _ _ _ _ x=>x)
theorem Blk.sl {α:Type} {enc:α->Value} {w:World} {b:Nat} {l:List α} (h:Blk enc w b l) (cap:Nat):Sl enc w (.slice (some ⟨b,0,none⟩) l.length cap) l :=
 .inr ⟨b,0,cap,rfl,h.lt,fun j hj=>by rw[qu];exact h.cell j hj⟩
theorem Sl.at {α:Type} {enc:α->Value} {w:World} {a:Option Addr} {n cap:Nat} {l:List α} (h:Sl enc w (.slice a n cap) l) (j:Nat) (hj:j<l.length) :
  ∃b off,a=some ⟨b,off,none⟩/\b<w.heap.size/\w.cell? ⟨b,off+j,none⟩=some (enc l[j]):=by
 rcases h with ⟨rfl,_⟩ | ⟨b,off,bz,hv,hb,hc⟩
 ·exact absurd hj (Nat.not_lt_zero _)
 ·cases hv;exact⟨b,off,rfl,hb,hc j hj⟩
theorem app1 {P:Program} {w0:World} {ops:Array Oper} {rest:List Oper} {o:Oper} {a:Act} {Q:Exit->Act->World->Prop} (kF:o.guard=none) (s x:Operand) (t:TypeId)
  (ho:o.op=.call { callee:=.builtin .append,args:=#[s,x],argTypes:=#[t,t] })
  (base:Nat) (e:TypeId) (z:Value) (bytes:Nat) (cz:(P.info? e).map (fun i=>(i.zero,i.size,i.bytes))=some (some z,1,bytes)) (ht:P.underlying t=some (.slice e)) (uy:z.cells.size=1)
  (v:Value) (n:Nat) (xs:List Value) (hs:a.eval s=v) (ah:w0.ownsRow base e 1 v n xs)
  (y:Value) (hx:a.eval x=.slice (some ⟨w0.heap.size,0,none⟩) 1 1) (hy:y.oneCell'=true)
  (hb:(n+1)*bytes<=140737488355328) (Dc:n<140737488355328) (aI:base<=w0.heap.size)
  (h:∀g cap w',w'.ownsRow base e 1 (.slice (some ⟨g,0,none⟩) (n+1) cap) (n+1) (xs++[y])->bK (fun k=>v.ownBlock=some k) w0 w'->wpList P ops Q rest (a.put o.dst (.slice (some ⟨g,0,none⟩) (n+1) cap)) w') :
  wpList P ops Q (o::rest) a (w0.alloc (.cells #[y] e)):=by
 obtain⟨i0,hi,eP,fC,iY⟩:=info_parts cz;refine wpList_append_own _ kF s x t ho base e i0 z 1 bytes ht hi eP fC iY uy (by decide) v n xs hs (ah.alloc _) ⟨w0.heap.size,0,none⟩ 1 1 [y] hx rfl (cell_one_new _ _ _) (by simpa using hy) (by unfold maxLen;omega) hb (by simp;omega) ?_;intro v' w1 ao hg _;rcases ao.2 with ⟨_,h0⟩ | ⟨g,cap,cur,rfl,_⟩
 ·omega
 ·exact h g cap w1 ao (((bK.refl _ w0).alloc _).grown hg (fun k e _=>e))
def Box (w:World) (B:Nat) (cs:Array Value) (T:TypeId):Prop:=w.heap[B]?=some (.cells cs T (0,0))
theorem Box.at {w:World} {B:Nat} {cs:Array Value} {T:TypeId} (h:Box w B cs T) (j:Nat) {v:Value} (hv:cs[j]?=some v):w.cell? ⟨B,j,none⟩=some v:=by
 rw[cell_of_row w B j cs T (0,0) h,hv]
theorem Box.free {w:World} {B:Nat} {cs:Array Value} {T:TypeId} (h:Box w B cs T) (j:Nat):w.frozen? ⟨B,j,none⟩=false:=by
 unfold Box at h;simp[World.frozen?,h]
theorem Box.lt {w:World} {B:Nat} {cs:Array Value} {T:TypeId} (h:Box w B cs T):B<w.heap.size:=lt_of_block h
theorem Box.below {w w':World} {B K:Nat} {cs:Array Value} {T:TypeId} (h:Box w B cs T) (k:Below K w w') (hB:B<K):Box w' B cs T:=(k.block B hB).trans h
theorem Box.keep {w w':World} {B:Nat} {cs:Array Value} {T:TypeId} (h:Box w B cs T) (k:Below w.heap.size w w'):Box w' B cs T:=(k.block B h.lt).trans h
theorem Box.new (w:World) (cs:Array Value) (T:TypeId):Box (w.alloc (.cells cs T)) w.heap.size cs T:=heap_alloc_new w _
theorem Box.alloc {w:World} {B:Nat} {cs:Array Value} {T:TypeId} (h:Box w B cs T) (o:Obj):Box (w.alloc o) B cs T:=(Below.heap_alloc _ _ _ h.lt).trans h
theorem Box.set {w:World} {B:Nat} {cs:Array Value} {T:TypeId} (h:Box w B cs T) (j:Nat) (u:Value):Box (w.setCell ⟨B,j,none⟩ u) B (cs.setIfInBounds j u) T:=by
 have af:=h.lt;unfold Box at h ⊢;show (w.heap.modify B _)[B]?=_;rw[Array.getElem?_modify,if_pos rfl,h];simp
abbrev Hp:=Nat->Option (Array Value)
def Hp.Le (H G:Hp):Prop:=∀b c,H b=some c->G b=some c
theorem Hp.Le.refl (H:Hp):H.Le H:=fun _ _ h=>h
theorem Hp.Le.trans {H G K:Hp} (h:H.Le G) (k:G.Le K):H.Le K:=fun b c e=>k b c (h b c e)
def Fits (H:Hp) (W:World):Prop:=∀b c,H b=some c->∃T fz,W.heap[b]?=some (.cells c T fz)
theorem Fits.lt {H:Hp} {W:World} (h:Fits H W) {b:Nat} (hb:H b≠none):b<W.heap.size:=by
 obtain⟨c,hc⟩:=Option.ne_none_iff_exists'.1 hb;obtain⟨T,fz,e⟩:=h b c hc;exact(Array.getElem?_eq_some_iff.1 e).1
theorem Fits.below {H:Hp} {W W':World} (h:Fits H W) (k:Below W.heap.size W W'):Fits H W':=fun b c e=>by
 have:=h.lt (b:=b) (by rw[e];simp);rw[k.block b this];exact h b c e
theorem Fits.mono {H G:Hp} {W:World} (h:Fits G W) (k:H.Le G):Fits H W:=fun b c e=>h b c (k b c e)
def Nw (H:Hp) (m:Nat) (H':Hp) (W':World):Prop:=∀b c,H' b=some c->H b=some c\/(m<=b/\∃T,W'.heap[b]?=some (.cells c T (0,0)))
theorem Nw.refl (H:Hp) (m:Nat) (W:World):Nw H m H W:=fun _ _ h=>.inl h
theorem Nw.gone {H H':Hp} {m:Nat} {W':World} (h:Nw H m H' W') {b:Nat} (hb:b<m) (hn:H b=none):H' b=none:=by
 cases hc:H' b with
 | none=>rfl
 | some c =>
  rcases h b c hc with h1 | ⟨h1,_⟩
  ·rw[hn]at h1;cases h1
  ·omega
theorem Nw.below {H0 H:Hp} {m:Nat} {W W':World} (h:Nw H0 m H W) (hf:Fits H W) (k:Below W.heap.size W W'):Nw H0 m H W':=fun b c hb=>by
 rcases h b c hb with h1 | ⟨h1,T,h2⟩
 ·exact .inl h1
 ·exact .inr ⟨h1,T,by rw[k.block b (hf.lt (by rw[hb];simp))];exact h2⟩
theorem Nw.kept {X:Nat->Prop} {H0 H:Hp} {m:Nat} {W W':World} (h:Nw H0 m H W) (hf:Fits H W) (k:bK X W W') (hx:∀b,H b≠none->¬X b):Nw H0 m H W':=fun b c hb=>by
 rcases h b c hb with h1 | ⟨h1,T,h2⟩
 ·exact .inl h1
 ·exact .inr ⟨h1,T,by rw[k.block b (hf.lt (by rw[hb];simp)) (hx b (by rw[hb];simp))];exact h2⟩
theorem Nw.alloc {H0 H:Hp} {m:Nat} {W:World} (h:Nw H0 m H W) (hf:Fits H W) (o:Obj):Nw H0 m H (W.alloc o):=h.below hf ((Below.refl _ _).alloc (qH _) _)
theorem Nw.grow {H0 H H':Hp} {m:Nat} {W W':World} (h:Nw H0 m H W) (hf:Fits H W) (k:Below W.heap.size W W') (hm:m<=W.heap.size) (h':Nw H W.heap.size H' W'):Nw H0 m H' W':=fun b c hb=>by
 rcases h' b c hb with h1 | ⟨h1,h2⟩
 ·exact h.below hf k b c h1
 ·exact .inr ⟨by omega,h2⟩
def gH:Hp:=fun b=>match Nat.beq b 2 with
 | true=>some (Lib.deBruijn64tab.map fun (z:Nat)=>Value.int .u8 (z:Int)).toArray
 | false=>none
inductive SV where
 | v (x:Value)
 | p (i off:Nat)
 | ro (cs:List Value)
def SV.rep (β:Nat->Nat) (H:Hp):SV->Value->Prop
 | .v x,y=>y=x
 | .p i off,y=>y=.pointer (some ⟨β i,off,none⟩)
 | .ro cs,y=>∃b off c,y=.pointer (some ⟨b,off,none⟩)/\H b=some c/\∀j x,cs[j]?=some x->c[off+j]?=some x
theorem SV.rep.mono {β:Nat->Nat} {H G:Hp} {s:SV} {y:Value} (h:s.rep β H y) (k:H.Le G):s.rep β G y:=by
 cases s with
 | v x=>exact h
 | p i off=>exact h
 | ro cs=>obtain⟨b,off,c,h1,h2,h3⟩:=h;exact⟨b,off,c,h1,k b c h2,h3⟩
abbrev Env:=List (Nat × SV)
abbrev Bxs:=List (Nat × TypeId × List Value)
def Env.get:Env->Nat->Option SV
 | [],_=>none
 | (t,s)::e,u=>match Nat.beq t u with
  | true=>some s
  | false=>Env.get e u
def Bxs.get:Bxs->Nat->Option (TypeId × List Value)
 | [],_=>none
 | (t,s)::e,u=>match Nat.beq t u with
  | true=>some s
  | false=>Bxs.get e u
def Env.op (e:Env):Operand->Option SV
 | .tmp t=>e.get t
 | .const v=>some (.v v)
 | .func f=>some (.v (.func (.func f) #[] #[]))
 | _=>none
theorem Env.get_cons (t:Nat) (s:SV) (e:Env) (u:Nat):Env.get ((t,s)::e) u=if t=u then some s else Env.get e u:=by
 conv=>lhs;unfold Env.get
 by_cases h:t=u
 ·have:Nat.beq t u=true:=by subst h;exact Nat.beq_refl t
  simp only[this,if_pos h]
 ·have:Nat.beq t u=false:=by cases hb:Nat.beq t u with | false=>rfl | true=>exact absurd (qy hb) h
  simp only[this,if_neg h]
theorem Bxs.get_cons (t:Nat) (s:TypeId × List Value) (e:Bxs) (u:Nat):Bxs.get ((t,s)::e) u=if t=u then some s else Bxs.get e u:=by
 conv=>lhs;unfold Bxs.get
 by_cases h:t=u
 ·have:Nat.beq t u=true:=by subst h;exact Nat.beq_refl t
  simp only[this,if_pos h]
 ·have:Nat.beq t u=false:=by cases hb:Nat.beq t u with | false=>rfl | true=>exact absurd (qy hb) h
  simp only[this,if_neg h]
inductive TK where
 | int (k:IntKind) | bool | str | slice (e:TypeId) | other
structure TE where
 agg:Bool
 size:Nat
 fields:List (Nat × Bool × Nat)
 zero:List Value
 kind:TK
 bytes:Nat
abbrev Tab:=List (Nat × TE)
def Tab.get:Tab->Nat->Option TE
 | [],_=>none
 | (t,s)::e,u=>match Nat.beq t u with
  | true=>some s
  | false=>Tab.get e u
def TK.ok (P:Program) (T:TypeId):TK->Prop
 | .int k=>P.underlying T=some (.int k)
 | .bool=>P.underlying T=some .bool
 | .str=>P.underlying T=some .string
 | .slice e=>P.underlying T=some (.slice e)
 | .other=>True
def ID (ag:Bool) (fo sz:Nat) (cs:Array Value):Sem Value:=match ag with
 | true=>pure (.agg (cs.extract fo (fo+sz)))
 | false=>match cs[fo]? with
  | some v=>pure v
  | none=>stuck "part: no such cell"
def FOk (P:Program) (T:TypeId):Nat->List (Nat × Bool × Nat)->Prop
 | _,[]=>True
 | k,(fo,ag,sz)::r=>((∀(w:World) (a:Addr),(Instr.fieldAt T (.pointer (some a)) k).run P w=.ok (.pointer (some (a.add fo))) w) /\
   (∀(w:World) (cs:Array Value),(Instr.field T (.agg cs) k).run P w=(ID ag fo sz cs).run P w))/\FOk P T (k+1) r
structure u9 (P:Program) (T:TypeId) (te:TE):Prop where
 agg:∀w:World,(isAgg T).run P w=.ok te.agg w
 size:∀w:World,(sizeOf T).run P w=.ok te.size w
 zero:∃z:Value,(∀w:World,(zeroValue T).run P w=.ok z w)/\z.cells=te.zero.toArray
 fields:FOk P T 0 te.fields
 built:te.fields=[]\/∀parts,P.built T parts=Instr.fill (fun i=>((te.fields.map fun x=>(x.1,x.2.2)).toArray)[i]?) te.zero.toArray parts
 kind:te.kind.ok P T
 info:∃z:Value,(P.info? T).map (fun i=>(i.zero,i.size,i.bytes))=some (some z,te.size,te.bytes)/\z.cells=te.zero.toArray
theorem u9.und {P:Program} {T:TypeId} {te:TE} (h:u9 P T te):∃d,P.underlying T=some d:=by
 have h1:=h.agg default;unfold isAgg underlying at h1
 cases hu:P.underlying T with
 | some d=>exact⟨d,rfl⟩
 | none=>simp[hu,stuck]at h1
def bp (P:Program):Tab->Prop
 | []=>True
 | (T,te)::r=>u9 P T te/\bp P r
theorem bp.get {P:Program}:∀{τ:Tab},bp P τ->∀{T:TypeId} {te:TE},τ.get T=some te->u9 P T te
 | [],_,T,te,h=>by cases h
 | (T',te')::r,fi,T,te,h=>by
  unfold Tab.get at h
  cases hb:Nat.beq T' T with
  | true =>
   rw[hb]at h;have:=qy hb;subst this;cases h;exact fi.1
  | false=>rw[hb]at h;exact fi.2.get h
theorem FOk.get {P:Program} {T:TypeId}:∀{l:List (Nat × Bool × Nat)} {k:Nat},FOk P T k l->∀{f fo:Nat} {ag:Bool} {sz:Nat},l[f]?=some (fo,ag,sz) ->
  ((∀(w:World) (a:Addr),(Instr.fieldAt T (.pointer (some a)) (k+f)).run P w=.ok (.pointer (some (a.add fo))) w) /\
   (∀(w:World) (cs:Array Value),(Instr.field T (.agg cs) (k+f)).run P w=(ID ag fo sz cs).run P w))
 | [],k,_,f,fo,ag,sz,h=>by simp at h
 | (fo',ag',sz')::r,k,fi,f,fo,ag,sz,h=>by
  cases f with
  | zero=>simp at h;obtain⟨rfl,rfl,rfl⟩:=h;exact fi.1
  | succ f =>
   have:=FOk.get fi.2 (f:=f) (fo:=fo) (ag:=ag) (sz:=sz) (by simpa using h)
   rwa [show k+1+f=k+(f+1) by omega]at this
def aB:Value->List Value
 | .agg ⟨l⟩=>l
 | v=>[v]
theorem UD (v:Value):v.cells=(aB v).toArray:=by cases v <;> rfl
def px {α:Type}:Nat->Nat->List Value->(List Value->Option α)->Option α
 | 0,0,_,k=>k []
 | 0,n+1,c::cs,k=>px 0 n cs fun r=>k (c::r)
 | off+1,n,_::cs,k=>px off n cs k
 | _,_,[],_=>none
def BR {α:Type}:Nat->List Value->(List Value->Option α)->Option α
 | 0,cs,k=>k cs
 | off+1,_::cs,k=>BR off cs k
 | _+1,[],_=>none
def wrK {α:Type}:Nat->List Value->List Value->(List Value->Option α)->Option α
 | 0,[],cs,k=>k cs
 | 0,v::vs,_::cs,k=>wrK 0 vs cs fun r=>k (v::r)
 | off+1,vs,c::cs,k=>wrK off vs cs fun r=>k (c::r)
 | _,_,[],_=>none
def Dz {α:Type} (ag:Bool) (l:List Value) (k:Value->Option α):Option α:=match ag,l with
 | true,l=>k (.agg l.toArray)
 | false,[c]=>k c
 | false,_=>none
def Hk {α:Type} (te:TE) (s:SV) (bx:Bxs) (k:Value->Option α):Option α :=
 match s with
 | .p i off=>match bx.get i with
  | some (_,cs)=>px off te.size cs fun l=>Dz te.agg l k
  | none=>none
 | .ro cs=>px 0 te.size cs fun l=>Dz te.agg l k
 | _=>none
theorem Cu {α:Type}:∀(off n:Nat) (cs:List Value) (k:List Value->Option α) (r:α),px off n cs k=some r->k ((cs.drop off).take n)=some r/\off+n<=cs.length
 | 0,0,cs,k,r,h=>by simpa[px] using h
 | 0,n+1,[],k,r,h=>by simp[px]at h
 | 0,n+1,c::cs,k,r,h=>by
  have:=Cu 0 n cs _ r (by simpa[px] using h);simp at this ⊢;exact⟨this.1,by omega⟩
 | off+1,n,[],k,r,h=>by cases n <;> simp[px]at h
 | off+1,n,c::cs,k,r,h=>by
  have:=Cu off n cs k r (by cases n <;> simpa[px] using h);simp at this ⊢;exact⟨this.1,by omega⟩
theorem Uh {α:Type}:∀(off:Nat) (cs:List Value) (k:List Value->Option α) (r:α),BR off cs k=some r->k (cs.drop off)=some r
 | 0,cs,k,r,h=>by simpa[BR] using h
 | off+1,[],k,r,h=>by simp[BR]at h
 | off+1,c::cs,k,r,h=>by simpa using Uh off cs k r (by simpa[BR] using h)
theorem zP {α:Type}:∀(off:Nat) (vs cs:List Value) (k:List Value->Option α) (r:α),wrK off vs cs k=some r->k (cs.take off++vs++cs.drop (off+vs.length))=some r/\off+vs.length<=cs.length
 | 0,[],cs,k,r,h=>by simpa[wrK] using h
 | 0,v::vs,[],k,r,h=>by simp[wrK]at h
 | 0,v::vs,c::cs,k,r,h=>by
  have:=zP 0 vs cs _ r (by simpa[wrK] using h);simp at this ⊢;exact⟨this.1,by omega⟩
 | off+1,vs,[],k,r,h=>by cases vs <;> simp[wrK]at h
 | off+1,vs,c::cs,k,r,h=>by
  have:=zP off vs cs _ r (by cases vs <;> simpa[wrK] using h);simp[Nat.add_right_comm off 1]at this ⊢;exact⟨this.1,by omega⟩
def nX (ag:Bool) (l:List Value):Option Value:=match ag,l with
 | true,l=>some (.agg l.toArray)
 | false,[c]=>some c
 | false,_=>none
theorem L6 {α:Type} (ag:Bool) (l:List Value) (k:Value->Option α):Dz ag l k=(nX ag l).bind k:=by
 unfold Dz nX;split <;> simp_all
theorem Box.range {W:World} {b:Nat} {cs:List Value} {T:TypeId} (h:Box W b cs.toArray T) (off n:Nat):W.rangeAt b off ((cs.drop off).take n):=by
 intro j v hv;have hj:((cs.drop off).take n)[j]?=some v:=hv;rw[pO]at hj;split at hj
 ·rw[List.getElem?_drop]at hj;exact h.at (off+j) (by simpa using hj)
 ·cases hj
theorem Ac {P:Program} {te:TE} {T:TypeId} (ht:u9 P T te) {W:World} {b off:Nat} {l:List Value} (hr:W.rangeAt b off l) (hl:l.length=te.size) {x:Value}
  (hx:nX te.agg l=some x) :
  (Instr.loadAt T (.pointer (some ⟨b,off,none⟩))).run P W=.ok x W:=by
 have hc:(loadCells ⟨b,off,none⟩ l.length).run P W=.ok l.toArray W :=
  run_loadCells_list (P:=P) W ⟨b,off,none⟩ l (fun j v hv=>by rw[Addr.add_mid];exact hr j v hv)
 simp only[Instr.loadAt,Instr.sureAddr,Sem.run_bind,Sem.run_pure,Result.andThen_ok,loadVar,ht.agg]
 cases zh:te.agg with
 | true =>
  rw[zh]at hx;simp only[nX,Option.some.injEq]at hx;subst hx;simp[ht.size,<-hl,hc]
 | false =>
  rw[zh]at hx
  obtain⟨c,rfl⟩:∃c,l=[c]:=by
   unfold nX at hx;split at hx
   ·rename_i h;cases h
   ·exact⟨_,rfl⟩
   ·cases hx
  simp only[nX,Option.some.injEq]at hx;subst hx;have:=hr 0 c rfl;simp only[qY]at this;simp[this]
def Kq:BinOp->Value->Value->Option Value
 | .add,.int k x,.int k' y=>if k=k' then some (.int k (k.wrap (x+y))) else none
 | .sub,.int k x,.int k' y=>if k=k' then some (.int k (k.wrap (x-y))) else none
 | .mul,.int k x,.int k' y=>if k=k' then some (.int k (k.wrap (x*y))) else none
 | .eql,.int k x,.int k' y=>if k=k' then some (.bool (x == y)) else none
 | .neq,.int k x,.int k' y=>if k=k' then some (.bool (x != y)) else none
 | .lss,.int k x,.int k' y=>if k=k' then some (.bool (decide (x<y))) else none
 | .leq,.int k x,.int k' y=>if k=k' then some (.bool (decide (x<=y))) else none
 | .gtr,.int k x,.int k' y=>if k=k' then some (.bool (decide (x>y))) else none
 | .geq,.int k x,.int k' y=>if k=k' then some (.bool (decide (x>=y))) else none
 | .quo,.int k x,.int k' y=>if k=k' then (match decide (y=0) with | false=>some (.int k (k.wrap (x.tdiv y))) | true=>none) else none
 | .rem,.int k x,.int k' y=>if k=k' then (match decide (y=0) with | false=>some (.int k (x.tmod y)) | true=>none) else none
 | .shr,.int k x,.int _ (.ofNat m)=>some (.int k (x.fdiv (2 ^ (min m k.bits))))
 | .shl,.int k x,.int _ (.ofNat m)=>some (.int k (k.wrap (x*2 ^ (min m k.bits))))
 | .and,.int k x,.int k' y=>if k=k' then some (.int k (k.wrap (BitVec.ofInt k.bits x &&& BitVec.ofInt k.bits y).toNat)) else none
 | .or,.int k x,.int k' y=>if k=k' then some (.int k (k.wrap (BitVec.ofInt k.bits x ||| BitVec.ofInt k.bits y).toNat)) else none
 | .eql,.string x,.string y=>some (.bool (x.toList == y.toList))
 | .neq,.string x,.string y=>some (.bool (!(x.toList == y.toList)))
 | _,_,_=>none
theorem zn3 {P:Program} {op:BinOp} {T:TypeId} {x y v:Value} (h:Kq op x y=some v) (a b:Operand) (W:World):(do eqGuard op T a b x y;binOp op T x y:Sem Value).run P W=.ok v W:=by
 unfold Kq at h;split at h
 case h_10 =>
  split at h
  ·rename_i hk;subst hk;split at h
   ·rename_i hy;cases h;have:¬_:=of_decide_eq_false hy;simp[eqGuard,binOp,Op.intDiv,this]
   ·cases h
  ·cases h
 case h_11 =>
  split at h
  ·rename_i hk;subst hk;split at h
   ·rename_i hy;cases h;have:¬_:=of_decide_eq_false hy;simp[eqGuard,binOp,Op.intDiv,this]
   ·cases h
  ·cases h
 case h_12=>cases h;rename_i m;simp[eqGuard,binOp,Op.shift,show ¬((m:Int)<0) by omega]
 case h_13=>cases h;rename_i m;simp[eqGuard,binOp,Op.shift,show ¬((m:Int)<0) by omega]
 case h_14 =>
  split at h
  ·rename_i hk;subst hk;cases h;simp[eqGuard,binOp,Op.intBits]
  ·cases h
 case h_15 =>
  split at h
  ·rename_i hk;subst hk;cases h;simp[eqGuard,binOp,Op.intBits]
  ·cases h
 case h_16=>cases h;simp[eqGuard,binOp,Op.stringOp]
 case h_17=>cases h;simp[eqGuard,binOp,Op.stringOp]
 case h_18=>cases h
 all_goals
  split at h
  ·rename_i hk;subst hk;cases h;simp[eqGuard,binOp,Op.intArith,Op.intCmp]
  ·cases h
def nW:Value->Option (List Value)
 | .agg ⟨l⟩=>some l
 | v=>some [v]
theorem zY {v:Value} {l:List Value} (h:nW v=some l):v.cells=l.toArray:=by
 cases v <;> cases h <;> rfl
def Hn {α:Type} (env:Env) (fields:List (Nat × Bool × Nat)):List (Nat × Operand)->List Value->(List Value->Option α)->Option α
 | [],cs,k=>k cs
 | (f,x)::r,cs,k=>match fields[f]?,env.op x with
  | some (fo,_,sz),some (.v v)=>match nW v with
   | some vs=>match Nat.beq vs.length sz with
    | true=>wrK fo vs cs fun aq=>Hn env fields r aq k
    | false=>none
   | none=>none
  | _,_=>none
theorem IC:∀(vs cs:List Value) (off j0:Nat),off+j0+vs.length<=cs.length->(vs.zipIdx j0).foldl (fun (c:Array Value) (p:Value × Nat)=>c.setIfInBounds (off+p.2) p.1) cs.toArray=(cs.take (off+j0)++vs++cs.drop (off+j0+vs.length)).toArray
 | [],cs,off,j0,_=>by simp
 | v::r,cs,off,j0,h=>by
  have bV:off+j0<cs.length:=by simp at h;omega
  rw[List.zipIdx_cons,List.foldl_cons];have:=IC r (cs.set (off+j0) v) off (j0+1) (by simp at h ⊢;omega);simp only[List.setIfInBounds_toArray];rw[this];congr 1;rw[List.drop_set_of_lt (by omega),show off+(j0+1)=off+j0+1 by omega,List.take_set,qS bV,List.set_append_right _ _ (by simp;omega)];simp[qn (Nat.le_of_lt bV),Nat.add_assoc,Nat.add_comm 1]
theorem UR {α:Type} {env:Env} {fields:List (Nat × Bool × Nat)}:∀(ps:List (Nat × Operand)) (cs:List Value) (k:List Value->Option α) (r:α),Hn env fields ps cs k=some r ->
  ∃aq,k aq=some r/\∀(β:Nat->Nat) (H:Hp) (ev:Operand->Value),(∀y s,y∈ps.map (·.2)->env.op y=some s->s.rep β H (ev y)) ->
   Instr.fill (fun i=>((fields.map fun x=>(x.1,x.2.2)).toArray)[i]?) cs.toArray (ps.map fun p=>(p.1,ev p.2))=some aq.toArray
 | [],cs,k,r,h=>⟨cs,h,fun _ _ _ _=>rfl⟩
 | (f,x)::ps,cs,k,r,h=>by
  unfold Hn at h;split at h
  ·rename_i fo ag sz v hf hx;split at h
   ·rename_i vs aG;split at h
    ·rename_i hl;obtain⟨h1,h2⟩:=zP _ _ _ _ _ h;obtain⟨aq,hk,dS⟩:=UR ps _ k r h1;refine⟨aq,hk,fun β H ev he=>?_⟩;have hv:ev x=v:=he x _ (by simp) hx;have hlen:=qy hl;rw[qx];unfold Instr.fill;have hp:((fields.map fun x=>(x.1,x.2.2)).toArray)[f]?=some (fo,sz):=by simp[hf]
     simp only[hp,hv,zY aG];rw[if_neg (by simp[hlen];omega)];have:=IC vs cs fo 0 (by omega);rw[qY]at this
     have e:(vs.toArray.zipIdx.foldl (fun (cs:Array Value) (x:Value × Nat)=>match x with | (c,j)=>cs.setIfInBounds (fo+j) c) cs.toArray)=(vs.zipIdx.foldl (fun (c:Array Value) (p:Value × Nat)=>c.setIfInBounds (fo+p.2) p.1) cs.toArray):=by
      simp
     rw[e,this];exact dS β H ev (fun y s hy=>he y s (by simp at hy ⊢;exact .inr hy))
    ·cases h
   ·cases h
  ·cases h
def tM (τ:Tab) (env:Env) (bx:Bxs):Op->Option SV
 | .move x=>env.op x
 | .assign x=>env.op x
 | .load T x=>match τ.get T,env.op x with
  | some te,some s=>Hk te s bx fun v=>some (.v v)
  | _,_=>none
 | .fieldAddr T x f=>match τ.get T,env.op x with
  | some te,some (.p i off)=>match te.fields[f]? with
   | some (fo,_,_)=>some (.p i (off+fo))
   | none=>none
  | some te,some (.ro cs)=>match te.fields[f]? with
   | some (fo,_,_)=>BR fo cs fun l=>some (.ro l)
   | none=>none
  | _,_=>none
 | .field T x f=>match τ.get T,env.op x with
  | some te,some (.v (.agg ⟨cs⟩))=>match te.fields[f]? with
   | some (fo,ag,sz)=>px fo sz cs fun l=>Dz ag l fun v=>some (.v v)
   | none=>none
  | _,_=>none
 | .extract x i=>match env.op x with
  | some (.v (.tuple ⟨vs⟩))=>px i 1 vs fun l=>match l with | [c]=>some (.v c) | _=>none
  | _=>none
 | .pick c x y=>match env.op c with
  | some (.v (.bool true))=>env.op x
  | some (.v (.bool false))=>env.op y
  | _=>none
 | .binOp op _ x y _=>match env.op x,env.op y with
  | some (.v a),some (.v b)=>match Kq op a b with
   | some v=>some (.v v)
   | none=>none
  | _,_=>none
 | .unOp .not _ x=>match env.op x with
  | some (.v (.bool b))=>some (.v (.bool (!b)))
  | _=>none
 | .unOp .neg _ x=>match env.op x with
  | some (.v (.int k n))=>some (.v (.int k (k.wrap (0-n))))
  | _=>none
 | .convert src dst x=>match τ.get src,τ.get dst,env.op x with
  | some _,some te,some (.v (.int _ n))=>match te.kind with
   | .int k=>some (.v (.int k (k.wrap n)))
   | _=>none
  | _,_,_=>none
 | .build T parts=>match τ.get T with
  | some te=>match te.fields with
   | []=>none
   | f::fs=>Hn env (f::fs) parts.toList te.zero fun cs=>some (.v (.agg cs.toArray))
  | none=>none
 | .call ⟨.builtin .len,⟨[x]⟩,⟨[t]⟩⟩=>match τ.get t,env.op x with
  | some te,some (.v (.slice _ n _))=>match te.kind with
   | .slice _=>some (.v (.int .i64 n))
   | _=>none
  | some te,some (.v (.string s))=>match te.kind with
   | .str=>some (.v (.int .i64 s.size))
   | _=>none
  | _,_=>none
 | .call ⟨.builtin .min,⟨[x,y]⟩,_⟩=>match env.op x,env.op y with
  | some (.v (.int k a)),some (.v (.int _ b))=>some (.v (.int k (if b<a then b else a)))
  | _,_=>none
 | .call ⟨.builtin .max,⟨[x,y]⟩,_⟩=>match env.op x,env.op y with
  | some (.v (.int k a)),some (.v (.int _ b))=>some (.v (.int k (if b>a then b else a)))
  | _,_=>none
 | _=>none
theorem Ux {P:Program} {τ:Tab} (hτ:bp P τ) {T:TypeId} {te:TE} (ht:τ.get T=some te) {s:SV} {bx:Bxs} {β:Nat->Nat} {H:Hp} {W:World} {y:Value} {α:Type} {k:Value->Option α} {r:α}
  (hb:∀i T cs,bx.get i=some (T,cs)->Box W (β i) cs.toArray T) (hf:Fits H W) (hs:s.rep β H y) (h:Hk te s bx k=some r) :
  ∃x,(Instr.loadAt T y).run P W=.ok x W/\k x=some r:=by
 have VO:=hτ.get ht;unfold Hk at h
 cases s with
 | v x=>cases h
 | p i off =>
  simp only at h
  cases hg:bx.get i with
  | none=>rw[hg]at h;cases h
  | some p =>
   obtain⟨T',cs⟩:=p;rw[hg]at h;obtain⟨h1,h2⟩:=Cu _ _ _ _ _ h;rw[L6]at h1;obtain⟨x,hx,hk⟩:=Option.bind_eq_some_iff.1 h1;have fZ:y=.pointer (some ⟨β i,off,none⟩):=hs;subst fZ;exact⟨x,Ac VO ((hb i T' cs hg).range off te.size) (by simp;omega) hx,hk⟩
 | ro cs =>
  simp only at h;obtain⟨h1,h2⟩:=Cu _ _ _ _ _ h;rw[L6]at h1;obtain⟨x,hx,hk⟩:=Option.bind_eq_some_iff.1 h1;obtain⟨b,off,c,rfl,hc,bC⟩:=hs;obtain⟨T',fz,hW⟩:=hf b c hc;refine⟨x,Ac VO (l:=(cs.drop 0).take te.size) (fun j v hv=>?_) (by simp;omega) hx,hk⟩;rw[cell_of_row W b (off+j) c T' fz hW];apply bC;rw[List.drop_zero,pO]at hv;split at hv
  ·exact hv
  ·cases hv
theorem Ck {P:Program} {τ:Tab} (hτ:bp P τ) {o:Oper} {env:Env} {bx:Bxs} {s:SV} {β:Nat->Nat} {H:Hp} {a:Act} {W:World} (h:tM τ env bx o.op=some s)
  (he:∀y s,y∈o.op.operands->env.op y=some s->s.rep β H (a.eval y)) (hb:∀i T cs,bx.get i=some (T,cs)->Box W (β i) cs.toArray T) (hf:Fits H W) :
  ∃x,(execOp a.eval o).run P W=.ok (.value x) W/\s.rep β H x:=by
 unfold execOp;generalize o.op=op at h he;unfold tM at h;split at h
 case h_1 x=>exact⟨_,by simp,he x s (by simp[Op.operands]) h⟩
 case h_2 x=>exact⟨_,by simp,he x s (by simp[Op.operands]) h⟩
 case h_3 T x =>
  split at h
  ·rename_i te s' ht hx;obtain⟨v,hv,hk⟩:=Ux hτ ht hb hf (he x s' (by simp[Op.operands]) hx) h;cases hk;exact⟨v,by simp[hv],rfl⟩
  ·cases h
 case h_4 T x f =>
  split at h
  ·rename_i te i off ht hx;split at h
   ·rename_i fo ag sz jI;cases h;have hr:=he x _ (by simp[Op.operands]) hx;have h1:=((hτ.get ht).fields.get jI).1 W ⟨β i,off,none⟩;rw[qu]at h1;have jC:a.eval x=.pointer (some ⟨β i,off,none⟩):=hr;rw[Addr.add_mid]at h1;exact⟨.pointer (some ⟨β i,off+fo,none⟩),by simp[jC,h1],rfl⟩
   ·cases h
  ·rename_i te cs ht hx;split at h
   ·rename_i fo ag sz jI;have h2:=Uh _ _ _ _ h;cases h2;obtain⟨b,off,c,hr,hc,bC⟩:=he x _ (by simp[Op.operands]) hx;have h1:=((hτ.get ht).fields.get jI).1 W ⟨b,off,none⟩;rw[qu]at h1;rw[Addr.add_mid]at h1;refine⟨.pointer (some ⟨b,off+fo,none⟩),by simp[hr,h1],b,off+fo,c,rfl,hc,fun j v hv=>?_⟩;rw[List.getElem?_drop]at hv;rw[Nat.add_assoc];exact bC _ _ hv
   ·cases h
  ·cases h
 case h_5 T x f =>
  split at h
  ·rename_i te cs ht hx;split at h
   ·rename_i fo ag sz jI;obtain⟨h1,h2⟩:=Cu _ _ _ _ _ h;rw[L6]at h1;obtain⟨v,hv,hk⟩:=Option.bind_eq_some_iff.1 h1;cases hk;have hr:a.eval x=.agg ⟨cs⟩:=he x _ (by simp[Op.operands]) hx;have h3:=((hτ.get ht).fields.get jI).2 W ⟨cs⟩;rw[qu]at h3;refine⟨v,?_,rfl⟩;simp only[hr,Sem.run_bind,h3]
    cases ag with
    | true =>
     simp only[nX,Option.some.injEq]at hv;subst hv;simp[ID,List.extract_eq_take_drop,show fo+sz-fo=sz by omega]
    | false =>
     have e:∃c,(cs.drop fo).take sz=[c]/\c=v:=by
      unfold nX at hv;split at hv
      ·contradiction
      ·rename_i c _ hc;exact⟨c,hc,Option.some.inj hv⟩
      ·cases hv
     obtain⟨c,hc,rfl⟩:=e
     have:cs[fo]?=some c:=by
      have:=congrArg (·[0]?) hc;simp only[pO,List.getElem?_drop,qY]at this;split at this
      ·simpa using this
      ·simp at this
     simp[ID,this]
   ·cases h
  ·cases h
 case h_6 x i =>
  split at h
  ·rename_i vs hx;obtain⟨h1,h2⟩:=Cu _ _ _ _ _ h;split at h1
   ·rename_i c hc;cases h1;have hr:a.eval x=.tuple ⟨vs⟩:=he x _ (by simp[Op.operands]) hx
    have:vs[i]?=some c:=by
     have:=congrArg (·[0]?) hc;simpa[pO,List.getElem?_drop] using this
    refine⟨c,?_,rfl⟩;simp[hr,Instr.extract,this]
   ·cases h1
  ·cases h
 case h_7 c x y =>
  split at h
  ·rename_i hc;have hr:a.eval c=.bool true:=he c _ (by simp[Op.operands]) hc;exact⟨_,by simp[hr,asBool],he x s (by simp[Op.operands]) h⟩
  ·rename_i hc;have hr:a.eval c=.bool false:=he c _ (by simp[Op.operands]) hc;exact⟨_,by simp[hr,asBool],he y s (by simp[Op.operands]) h⟩
  ·cases h
 case h_8 op T x y T' =>
  split at h
  ·rename_i u v hx hy;split at h
   ·rename_i r hr;cases h;have h1:a.eval x=u:=he x _ (by simp[Op.operands]) hx;have h2:a.eval y=v:=he y _ (by simp[Op.operands]) hy;have:=zn3 (P:=P) (T:=T) hr x y W;refine⟨r,?_,rfl⟩;simp only[h1,h2];rw[Sem.run_bind,this];rfl
   ·cases h
  ·cases h
 case h_9 T x =>
  split at h
  ·rename_i b hx;cases h;have hr:a.eval x=.bool b:=he x _ (by simp[Op.operands]) hx;exact⟨_,by simp[hr,Op.unary],rfl⟩
  ·cases h
 case h_10 T x =>
  split at h
  ·rename_i k n hx;cases h;have hr:a.eval x=.int k n:=he x _ (by simp[Op.operands]) hx;exact⟨_,by simp[hr,Op.unary,Op.intArith],rfl⟩
  ·cases h
 case h_11 src dst x =>
  split at h
  ·rename_i te0 te k n E4 ht hx;split at h
   ·rename_i k' hk;cases h;have hr:a.eval x=.int k n:=he x _ (by simp[Op.operands]) hx;have aW:=(hτ.get ht).kind;rw[hk]at aW;have aN:P.underlying dst=some (.int k'):=aW;obtain⟨d,hd⟩:=(hτ.get E4).und;exact⟨.int k' (k'.wrap n),by simp[convert,hr,run_underlying aN,run_underlying hd,Conv.intToInt],rfl⟩
   ·cases h
  ·cases h
 case h_12 T parts =>
  split at h
  ·rename_i te ht;split at h
   ·cases h
   ·rename_i f fs xj;obtain⟨aq,hk,dS⟩:=UR _ _ _ _ h;cases hk;have hb:=(hτ.get ht).built;rcases hb with hb | hb
    ·rw[hb]at xj;cases xj
    ·have FZ:=dS β H a.eval (fun y s' hy=>he y s' (by simpa[Op.operands] using hy))
     have:=run_build (P:=P) W T (parts.map fun (i,x)=>(i,a.eval x)) aq.toArray (by
      rw[hb,xj];rw[<-FZ];congr 1;simp)
     exact⟨_,by simp[this],rfl⟩
  ·cases h
 case h_13 x t =>
  split at h
  ·rename_i te a0 n0 c0 ht hx;split at h
   ·rename_i e hk;cases h;have hr:a.eval x=.slice a0 n0 c0:=he x _ (by simp[Op.operands,Call.operands]) hx;have aW:=(hτ.get ht).kind;rw[hk]at aW;have aN:P.underlying t=some (.slice e):=aW;exact⟨.int .i64 n0,by simp[resolve,invoke,builtin,Builtin.len_,hr,run_underlying aN,goInt],rfl⟩
   ·cases h
  ·rename_i te st ht hx;split at h
   ·rename_i hk;cases h;have hr:a.eval x=.string st:=he x _ (by simp[Op.operands,Call.operands]) hx;have aW:=(hτ.get ht).kind;rw[hk]at aW;have aN:P.underlying t=some .string:=aW;exact⟨.int .i64 st.size,by simp[resolve,invoke,builtin,Builtin.len_,hr,run_underlying aN,goInt],rfl⟩
   ·cases h
  ·cases h
 case h_14 x y t =>
  split at h
  ·rename_i k u k' v hx hy;cases h;have h1:a.eval x=.int k u:=he x _ (by simp[Op.operands,Call.operands]) hx;have h2:a.eval y=.int k' v:=he y _ (by simp[Op.operands,Call.operands]) hy;exact⟨.int k (if v<u then v else u),by simp[resolve,invoke,builtin,Builtin.min_,Builtin.min2,h1,h2],rfl⟩
  ·cases h
 case h_15 x y t =>
  split at h
  ·rename_i k u k' v hx hy;cases h;have h1:a.eval x=.int k u:=he x _ (by simp[Op.operands,Call.operands]) hx;have h2:a.eval y=.int k' v:=he y _ (by simp[Op.operands,Call.operands]) hy;exact⟨.int k (if v>u then v else u),by simp[resolve,invoke,builtin,Builtin.max_,Builtin.max2,h1,h2],rfl⟩
  ·cases h
 case h_16=>cases h
abbrev Ows:=List (Nat × TypeId × List Value)
structure Bs where
 hp:Hp
 lent:List Nat
theorem Hy {k:Nat} {p:Prop} (h:k∈([]:List Nat)):p:=by cases h
structure Hs where
 ro:Hp
 ow:Ows
 base:Bs
structure Rel (n:Nat) (W0:World) (H0:Bs) (β:Nat->Nat) (env:Env) (bx:Bxs) (H:Hs) (a:Act) (W:World):Prop where
 size:a.tmps.size=n
 defers:a.defers=[]
 slot:∀t s,env.get t=some s->∃x,a.tmps[t]?=some x/\s.rep β H.ro x
 box:∀i T cs,bx.get i=some (T,cs)->Box W (β i) cs.toArray T
 low:∀i,(bx.get i).isSome=true->W0.heap.size<=β i/\H.ro (β i)=none
 inj:∀i j,(bx.get i).isSome=true->(bx.get j).isSome=true->β i=β j->i=j
 pin:∀t i off,env.get t=some (.p i off)->(bx.get i).isSome=true
 fits:Fits H.ro W
 le:H0.hp.Le H.ro
 new:Nw H0.hp W0.heap.size H.ro W
 bel:bK (fun b=>b∈H0.lent) W0 W
 glob:Fits gH W0/\∀b,b∈H0.lent->gH b=none/\b<W0.heap.size
 own:∀(j b:Nat) (T:TypeId) (cs:List Value),H.ow[j]?=some (b,T,cs)->Box W b cs.toArray T/\(W0.heap.size<=b\/b∈H0.lent)/\H.ro b=none/\∀i,(bx.get i).isSome=true->β i≠b
 one:∀(j j' b:Nat) (T T':TypeId) (cs aq:List Value),H.ow[j]?=some (b,T,cs)->H.ow[j']?=some (b,T',aq)->j=j'
theorem Rel.lt {n:Nat} {W0:World} {H0:Bs} {β:Nat->Nat} {env:Env} {bx:Bxs} {H:Hs} {a:Act} {W:World} (h:Rel n W0 H0 β env bx H a W) {i:Nat} (hi:(bx.get i).isSome=true):β i<W.heap.size:=by
 obtain⟨⟨T,cs⟩,hg⟩:=Option.isSome_iff_exists.1 hi;exact(h.box i T cs hg).lt
theorem Rel.op {n:Nat} {W0:World} {H0:Bs} {β:Nat->Nat} {env:Env} {bx:Bxs} {H:Hs} {a:Act} {W:World} (h:Rel n W0 H0 β env bx H a W) {y:Operand} {s:SV} (hy:env.op y=some s):s.rep β H.ro (a.eval y):=by
 cases y with
 | tmp t =>
  obtain⟨x,hx,hs⟩:=h.slot t s hy;simp only[Act.eval,Array.getD_eq_getD_getElem?,hx,Option.getD_some];exact hs
 | const v=>cases hy;rfl
 | global g=>cases hy
 | func f=>cases hy;rfl
abbrev EQ:=Exit->Env->Bxs->Hs->Prop
def kO (n:Nat) (W0:World) (H0:Bs) (Q:EQ):Exit->Act->World->Prop:=fun e a W=>∃β env bx H,H.base=H0/\Q e env bx H/\Rel n W0 H0 β env bx H a W
def EV (P:Program) (n:Nat) (c:Code) (env:Env) (bx:Bxs) (H:Hs) (Q:EQ):Prop:=∀W0 β a W,Rel n W0 H.base β env bx H a W->c.wp P (kO n W0 H.base Q) a W
def EVL (P:Program) (n:Nat) (ops:Array Oper) (l:List Oper) (env:Env) (bx:Bxs) (H:Hs) (Q:EQ):Prop:=∀W0 β a W,Rel n W0 H.base β env bx H a W->wpList P ops (kO n W0 H.base Q) l a W
def eO (K:Env->Bxs->Hs->Prop) (Q:EQ):EQ
 | .normal,env,bx,H=>K env bx H
 | e,env,bx,H=>Q e env bx H
def eW (id:Nat) (Q:EQ):EQ
 | .exit uw,env,bx,H=>match Nat.beq uw id with
  | true=>Q .normal env bx H
  | false=>Q (.exit uw) env bx H
 | e,env,bx,H=>Q e env bx H
section
variable {P:Program} {n:Nat} {env:Env} {bx:Bxs} {H:Hs} {Q:EQ} {K:Env->Bxs->Hs->Prop} {id:Nat}
theorem eO.normal (h:K env bx H):eO K Q .normal env bx H:=h
theorem eO.exit (h:Q (.exit id) env bx H):eO K Q (.exit id) env bx H:=h
theorem eO.ret (h:Q .ret env bx H):eO K Q .ret env bx H:=h
theorem eW.normal (h:Q .normal env bx H):eW id Q .normal env bx H:=h
theorem eW.ret (h:Q .ret env bx H):eW id Q .ret env bx H:=h
theorem eW.hit (h:Q .normal env bx H):eW id Q (.exit id) env bx H:=by
 unfold eW;simp only[Nat.beq_refl];exact h
theorem eW.miss {uw:Nat} (hne:Nat.beq uw id=false) (h:Q (.exit uw) env bx H):eW id Q (.exit uw) env bx H:=by
 unfold eW;simp only[hne];exact h
theorem EV.skip (h:Q .normal env bx H):EV P n .skip env bx H Q:=fun _ β _ _ r=>wp_skip ⟨β,env,bx,H,rfl,h,r⟩
theorem EV.label {l:Nat} (h:Q .normal env bx H):EV P n (.label l) env bx H Q:=fun _ β _ _ r=>wp_label ⟨β,env,bx,H,rfl,h,r⟩
theorem EV.exit (h:Q (.exit id) env bx H):EV P n (.exit id) env bx H Q:=fun _ β _ _ r=>wp_exit ⟨β,env,bx,H,rfl,h,r⟩
theorem EV.ret (h:Q .ret env bx H):EV P n .ret env bx H Q:=fun _ β _ _ r=>wp_ret ⟨β,env,bx,H,rfl,h,r⟩
theorem EV.seq {x y:Code} (h:EV P n x env bx H (eO (fun env bx H=>EV P n y env bx H Q) Q)):EV P n (.seq x y) env bx H Q:=fun W0 β a W r=>by
 refine wp_seq (wp_mono (h W0 β a W r) ?_);rintro e a' W' ⟨β',aA,aw,H',aI,hq,r'⟩
 cases e with
 | normal=>rw[<-aI];exact hq W0 β' a' W' (by rw[aI];exact r')
 | _=>exact⟨β',aA,aw,H',aI,hq,r'⟩
theorem EV.block {c:Code} (h:EV P n c env bx H (eW id Q)):EV P n (.block id c) env bx H Q:=fun W0 β a W r=>by
 refine wp_block (wp_mono (h W0 β a W r) ?_);rintro e a' W' ⟨β',aA,aw,H',aI,hq,r'⟩
 cases e with
 | exit uw =>
  simp only[Exit.inBlock];by_cases hid:uw=id
  ·subst hid;rw[if_pos rfl];unfold eW at hq;simp only[Nat.beq_refl]at hq;exact⟨β',aA,aw,H',aI,hq,r'⟩
  ·rw[if_neg hid];have hb:Nat.beq uw id=false:=by cases hb:Nat.beq uw id with | false=>rfl | true=>exact absurd (qy hb) hid
   unfold eW at hq;simp only[hb]at hq;exact⟨β',aA,aw,H',aI,hq,r'⟩
 | _=>exact⟨β',aA,aw,H',aI,hq,r'⟩
theorem EV.cond {c:Operand} {x y:Code} {b:Bool} (hc:env.op c=some (.v (.bool b))) (ht:b=true->EV P n x env bx H Q) (hf:b=false->EV P n y env bx H Q):EV P n (.cond c x y) env bx H Q :=
 fun W0 β a W r=>wp_cond_split (t:=b) (r.op hc) (fun h=>ht h W0 β a W r) (fun h=>hf h W0 β a W r)
theorem EV.condT {c:Operand} {x y:Code} (hc:env.op c=some (.v (.bool true))) (ht:EV P n x env bx H Q):EV P n (.cond c x y) env bx H Q:=EV.cond hc (fun _=>ht) (fun h=>by cases h)
theorem EV.condF {c:Operand} {x y:Code} (hc:env.op c=some (.v (.bool false))) (hf:EV P n y env bx H Q):EV P n (.cond c x y) env bx H Q:=EV.cond hc (fun h=>by cases h) (fun _=>hf)
theorem EV.region {l:List Oper} (h:EVL P n l.toArray l env bx H Q):EV P n (.region id l.toArray false) env bx H Q:=fun W0 β a W r=>wp_region_lit (h W0 β a W r)
theorem EVL.nil {ops:Array Oper} (h:Q .normal env bx H):EVL P n ops [] env bx H Q:=fun _ β _ _ r=>wpList_nil ⟨β,env,bx,H,rfl,h,r⟩
end
def aP (ops:Array Oper) (env:Env) (o:Oper):Option Bool:=match o.guard with
 | none=>some true
 | some (j,want)=>match (ops[j]?).bind (·.dst) with
  | some t=>match env.get t with
   | some (.v (.bool b))=>some (b == want)
   | some (.v (.tuple _))=>some false
   | _=>none
  | none=>none
theorem UC {ops:Array Oper} {env:Env} {o:Oper} {b:Bool} {β:Nat->Nat} {H:Hp} {a:Act} (h:aP ops env o=some b)
  (he:∀t s,(∃j w,o.guard=some (j,w)/\(ops[j]?).bind (·.dst)=some t)->env.get t=some s->∃x,a.tmps[t]?=some x/\s.rep β H x):Region.wanted o (yielded ops a.tmps)=b:=by
 unfold aP at h;unfold Region.wanted
 cases hg:o.guard with
 | none=>rw[hg]at h;cases h;rfl
 | some jw =>
  obtain⟨j,want⟩:=jw;rw[hg]at h;simp only at h ⊢
  cases hd:(ops[j]?).bind (·.dst) with
  | none=>rw[hd]at h;cases h
  | some t =>
   rw[hd]at h;simp only at h;split at h
   ·rename_i b' dF;cases h;obtain⟨x,hx,hs⟩:=he t _ ⟨j,want,hg,hd⟩ dF;have fZ:x=.bool b':=hs;subst fZ;simp only[yielded,hd,Option.bind_some,hx];cases b' <;> cases want <;> rfl
   ·rename_i vs dF;cases h;obtain⟨x,hx,hs⟩:=he t _ ⟨j,want,hg,hd⟩ dF;have fZ:x=.tuple vs:=hs;subst fZ;simp only[yielded,hd,Option.bind_some,hx];cases want <;> rfl
   ·cases h
def rF (bx:Bxs):SV->Bool
 | .p i _=>(bx.get i).isSome
 | _=>true
theorem Rel.put {n:Nat} {W0:World} {H0:Bs} {β:Nat->Nat} {env:Env} {bx:Bxs} {H:Hs} {a:Act} {W:World} (h:Rel n W0 H0 β env bx H a W) {d:Nat} (hd:Nat.blt d n=true) {s:SV} {x:Value} (hs:s.rep β H.ro x) (hp:rF bx s=true) :
  Rel n W0 H0 β ((d,s)::env) bx H (a.put (some d) x) W:=by
 have kJ:d<n:=Nat.blt_eq.mp hd;refine⟨by simp[Act.put,h.size],by simp[Act.put,h.defers],fun t u hu=>?_,h.box,h.low,h.inj,fun t i off hu=>?_,h.fits,h.le,h.new,h.bel,h.glob,h.own,h.one⟩
 ·rw[Env.get_cons]at hu;by_cases e:d=t
  ·subst e;rw[if_pos rfl]at hu;cases hu;exact⟨x,by simp[Act.put,h.size,kJ],hs⟩
  ·rw[if_neg e]at hu;obtain⟨y,hy,hr⟩:=h.slot t u hu;exact⟨y,by simp only[Act.put];rw[Array.getElem?_setIfInBounds_ne e];exact hy,hr⟩
 ·rw[Env.get_cons]at hu;by_cases e:d=t
  ·rw[if_pos e]at hu;cases hu;exact hp
  ·rw[if_neg e]at hu;exact h.pin t i off hu
theorem Rel.grow {n:Nat} {W0:World} {H0:Bs} {β:Nat->Nat} {env:Env} {bx:Bxs} {H:Hs} {H':Hp} {a:Act} {W W':World} (h:Rel n W0 H0 β env bx H a W) (hle:H.ro.Le H') (hf:Fits H' W') (hb:Below W.heap.size W W')
  (hn:Nw H.ro W.heap.size H' W'):Rel n W0 H0 β env bx ⟨H',H.ow,H.base⟩ a W':=by
 have cd:W0.heap.size<=W.heap.size:=h.bel.size;refine⟨h.size,h.defers,fun t s hs=>?_,fun i T cs hg=>(h.box i T cs hg).below hb (h.box i T cs hg).lt,fun i hi=>⟨(h.low i hi).1,?_⟩,h.inj,h.pin,hf,h.le.trans hle,h.new.grow h.fits hb cd hn,h.bel.trans (bK.of_below hb _),h.glob,fun j b T cs hj=>?_,h.one⟩
 ·obtain⟨x,hx,hr⟩:=h.slot t s hs;exact⟨x,hx,hr.mono hle⟩
 ·exact hn.gone (h.lt hi) (h.low i hi).2
 ·obtain⟨h1,h2,h3,h4⟩:=h.own j b T cs hj;exact⟨h1.keep hb,h2,hn.gone h1.lt h3,h4⟩
section
variable {P:Program} {n:Nat} {ops:Array Oper} {o:Oper} {rest:List Oper} {env:Env} {bx:Bxs} {H:Hs} {Q:EQ} {τ:Tab} {d:Nat} {s:SV}
theorem Rel.want {W0:World} {H0:Bs} {β:Nat->Nat} {a:Act} {W:World} (r:Rel n W0 H0 β env bx H a W) {b:Bool} (hw:aP ops env o=some b):Region.wanted o (yielded ops a.tmps)=b :=
 UC hw fun t s _ ht=>r.slot t s ht
theorem EVL.val (hτ:bp P τ) (hw:aP ops env o=some true) (hd:o.dst=some d) (hn:Nat.blt d n=true) (hv:tM τ env bx o.op=some s) (hp:rF bx s=true)
  (h:EVL P n ops rest ((d,s)::env) bx H Q):EVL P n ops (o::rest) env bx H Q:=fun W0 β a W r=>by
 obtain⟨x,hx,hs⟩:=Ck hτ hv (fun y s _ hy=>r.op hy) r.box r.fits;unfold wpList;rw[if_pos (r.want hw)];refine .inl ?_;unfold Oper.wp;rw[hx,Oper.upon_value,hd];exact h W0 β _ W (r.put hn hs hp)
theorem EVL.skip (hw:aP ops env o=some false) (hd:o.dst=some d) (hn:Nat.blt d n=true)
  (h:EVL P n ops rest ((d,.v undef)::env) bx H Q):EVL P n ops (o::rest) env bx H Q:=fun W0 β a W r=>by
 unfold wpList;rw[if_neg (by rw[r.want hw];simp),hd];exact h W0 β _ W (r.put hn Z Z)
theorem Rel.newBox {W0:World} {H0:Bs} {β:Nat->Nat} {a:Act} {W:World} (r:Rel n W0 H0 β env bx H a W) (hn:Nat.blt d n=true) (kG:bx.get d=none) (T:TypeId) (cs:List Value) :
  Rel n W0 H0 (fun i=>if i=d then W.heap.size else β i) ((d,.p d 0)::env) ((d,T,cs)::bx) H (a.put (some d) (.pointer (some ⟨W.heap.size,0,none⟩))) (W.alloc (.cells cs.toArray T)):=by
 have kJ:d<n:=Nat.blt_eq.mp hn;have cd:W0.heap.size<=W.heap.size:=r.bel.size;have cI:Below W.heap.size W (W.alloc (.cells cs.toArray T)):=(Below.refl _ _).alloc (qH _) _;have hne:∀i,(bx.get i).isSome=true->i≠d:=fun i hi e=>by subst e;rw[kG]at hi;cases hi
 have mI:∀i,(Bxs.get ((d,T,cs)::bx) i).isSome=true->i=d\/(i≠d/\(bx.get i).isSome=true):=fun i hi=>by
  rw[Bxs.get_cons]at hi;by_cases e:d=i
  ·exact .inl e.symm
  ·rw[if_neg e]at hi;exact .inr ⟨fun e'=>e e'.symm,hi⟩
 refine⟨by simp[Act.put,r.size],by simp[Act.put,r.defers],fun t u hu=>?_,fun i T' aq hg=>?_,fun i hi=>?_,fun i j hi hj sU=>?_,fun t i off hu=>?_,r.fits.below cI,r.le,r.new.alloc r.fits _,r.bel.alloc _,r.glob,fun j b T' aq hj=>?_,r.one⟩
 ·rw[Env.get_cons]at hu;by_cases e:d=t
  ·subst e;rw[if_pos rfl]at hu;cases hu;exact⟨_,by simp[Act.put,r.size,kJ];rfl,by simp[SV.rep]⟩
  ·rw[if_neg e]at hu;obtain⟨y,hy,hr⟩:=r.slot t u hu;refine⟨y,by simp only[Act.put];rw[Array.getElem?_setIfInBounds_ne e];exact hy,?_⟩
   cases u with
   | v x=>exact hr
   | p i off =>
    have:=hne i (r.pin t i off hu);simp only[SV.rep,if_neg this];exact hr
   | ro cs=>exact hr
 ·rw[Bxs.get_cons]at hg;by_cases e:d=i
  ·subst e;rw[if_pos rfl]at hg;cases hg;simp only[if_true];exact Box.new _ _ _
  ·rw[if_neg e]at hg;simp only[if_neg (fun e'=>e e'.symm:¬i=d)];exact(r.box i T' aq hg).alloc _
 ·rcases mI i hi with rfl | ⟨h1,h2⟩
  ·simp only[if_true];refine⟨cd,?_⟩
   cases hc:H.ro W.heap.size with
   | none=>rfl
   | some c=>exact absurd (r.fits.lt (b:=W.heap.size) (by rw[hc];simp)) (Nat.lt_irrefl _)
  ·simp only[if_neg h1];exact r.low i h2
 ·rcases mI i hi with rfl | ⟨h1,h2⟩
  ·rcases mI j hj with rfl | ⟨h3,h4⟩
   ·rfl
   ·simp only[if_true,if_neg h3]at sU;have:=r.lt h4;omega
  ·rcases mI j hj with rfl | ⟨h3,h4⟩
   ·simp only[if_true,if_neg h1]at sU;have:=r.lt h2;omega
   ·simp only[if_neg h1,if_neg h3]at sU;exact r.inj i j h2 h4 sU
 ·rw[Env.get_cons]at hu;rw[Bxs.get_cons];by_cases e:d=t
  ·rw[if_pos e]at hu;cases hu;simp
  ·rw[if_neg e]at hu;by_cases e':d=i
   ·rw[if_pos e'];rfl
   ·rw[if_neg e'];exact r.pin t i off hu
 ·obtain⟨h1,h2,h3,h4⟩:=r.own j b T' aq hj;refine⟨h1.alloc _,h2,h3,fun i hi=>?_⟩;rcases mI i hi with rfl | ⟨h5,h6⟩
  ·simp only[if_true];have:=h1.lt;omega
  ·simp only[if_neg h5];exact h4 i h6
theorem EVL.alloc (hτ:bp P τ) {T:TypeId} (ho:o.op=.alloc T) (hg:o.guard=none) (hd:o.dst=some d) (hn:Nat.blt d n=true) {te:TE} (ht:τ.get T=some te) (kG:bx.get d=none)
  (h:EVL P n ops rest ((d,.p d 0)::env) ((d,T,te.zero)::bx) H Q):EVL P n ops (o::rest) env bx H Q:=fun W0 β a W r=>by
 obtain⟨z,hz,mi⟩:=(hτ.get ht).zero;refine wpList_plain hg fun K hK=>?_
 have hx:(execOp a.eval o).run P W=.ok (.value (.pointer (some ⟨W.heap.size,0,none⟩))) (W.alloc (.cells te.zero.toArray T)):=by
  unfold execOp;simp[ho,Instr.alloc,hz,newVar,newRow,mi]
 unfold Oper.wp;rw[hx,Oper.upon_value,hd];exact hK _ _ (h W0 _ _ _ (r.newBox hn kG T te.zero))
theorem EVL.box {T:TypeId} {y:Operand} (ho:o.op=.box T y) (hg:o.guard=none) (hd:o.dst=some d) (hn:Nat.blt d n=true) {v:Value} (hy:env.op y=some (.v v)) {l:List Value} (hl:nW v=some l) (kG:bx.get d=none)
  (h:EVL P n ops rest ((d,.p d 0)::env) ((d,T,l)::bx) H Q):EVL P n ops (o::rest) env bx H Q:=fun W0 β a W r=>by
 refine wpList_plain hg fun K hK=>?_;have hv:a.eval y=v:=r.op hy
 have hx:(execOp a.eval o).run P W=.ok (.value (.pointer (some ⟨W.heap.size,0,none⟩))) (W.alloc (.cells l.toArray T)):=by
  unfold execOp;simp[ho,Instr.box,hv,newVar,newRow,zY hl]
 unfold Oper.wp;rw[hx,Oper.upon_value,hd];exact hK _ _ (h W0 _ _ _ (r.newBox hn kG T l))
end
theorem El (b:Nat):∀(vs:List Value) (o:Nat) (w:World),bK (fun k=>k=b) w (w.setCells b o vs)
 | [],_,w=>bK.refl _ w
 | v::r,o,w=>(D5 w ⟨b,o,none⟩ v).trans (El b r (o+1) _)
theorem Box.setCells {b:Nat} {T:TypeId}:∀(vs:List Value) (off:Nat) (w:World) (cs:List Value),Box w b cs.toArray T->off+vs.length<=cs.length->Box (w.setCells b off vs) b (cs.take off++vs++cs.drop (off+vs.length)).toArray T
 | [],off,w,cs,h,hl=>by simpa[World.setCells] using h
 | v::r,off,w,cs,h,hl=>by
  have h1:=h.set off v;have e:(cs.toArray.setIfInBounds off v)=(cs.set off v).toArray:=by simp
  rw[e]at h1;have h2:=Box.setCells r (off+1) _ (cs.set off v) h1 (by simp at hl ⊢;omega);have bV:off<cs.length:=by simp at hl;omega
  have e2:(cs.set off v).take (off+1)++r++(cs.set off v).drop (off+1+r.length)=cs.take off++v::r++cs.drop (off+(v::r).length):=by
   rw[List.drop_set_of_lt (by omega),List.take_set,qS bV,List.set_append_right _ _ (by simp;omega)];simp[qn (Nat.le_of_lt bV),Nat.add_assoc,Nat.add_comm 1]
  rw[e2]at h2;exact h2
section
variable {P:Program} {n:Nat} {ops:Array Oper} {o:Oper} {rest:List Oper} {env:Env} {bx:Bxs} {H:Hs} {Q:EQ} {τ:Tab} {d:Nat} {s:SV}
theorem Rel.setBox {W0:World} {H0:Bs} {β:Nat->Nat} {a:Act} {W:World} (r:Rel n W0 H0 β env bx H a W) {i:Nat} {T:TypeId} {cs:List Value} (hg:bx.get i=some (T,cs)) (off:Nat) (vs:List Value) (hl:off+vs.length<=cs.length) :
  Rel n W0 H0 β env ((i,T,cs.take off++vs++cs.drop (off+vs.length))::bx) H a (W.setCells (β i) off vs):=by
 have k:=El (β i) vs off W;have hi:(bx.get i).isSome=true:=by rw[hg];rfl
 have mI:∀j,(Bxs.get ((i,T,cs.take off++vs++cs.drop (off+vs.length))::bx) j).isSome=true->(bx.get j).isSome=true:=fun j hj=>by
  rw[Bxs.get_cons]at hj;by_cases e:i=j
  ·subst e;exact hi
  ·rw[if_neg e]at hj;exact hj
 have cd:W0.heap.size<=W.heap.size:=r.bel.size;refine⟨r.size,r.defers,r.slot,fun j T' aq hj=>?_,fun j hj=>r.low j (mI j hj),fun j j' hj ak=>r.inj j j' (mI j hj) (mI j' ak),fun t j dH ht=>?_,fun b c hc=>?_,r.le,r.new.kept r.fits k (fun b hb e=>hb (by rw[e];exact(r.low i hi).2)),?_,r.glob,fun j b T' aq hj=>?_,r.one⟩
 ·rw[Bxs.get_cons]at hj;by_cases e:i=j
  ·subst e;rw[if_pos rfl]at hj;cases hj;exact(r.box i T cs hg).setCells vs off W cs hl
  ·rw[if_neg e]at hj;have hb:=r.box j T' aq hj;exact(k.block (β j) hb.lt (fun e'=>e (r.inj j i (by rw[hj];rfl) hi e').symm)).trans hb
 ·rw[Bxs.get_cons];by_cases e:i=j
  ·rw[if_pos e];rfl
  ·rw[if_neg e];exact r.pin t j dH ht
 ·have hne:b≠β i:=fun e=>by subst e;rw[(r.low i hi).2]at hc;cases hc
  rw[k.block b (r.fits.lt (by rw[hc];simp)) hne];exact r.fits b c hc
 ·exact r.bel.then k (fun j hj e=>absurd hj (by have:=(r.low i hi).1;omega))
 ·obtain⟨h1,h2,h3,h4⟩:=r.own j b T' aq hj;exact⟨(k.block b h1.lt (fun e=>h4 i hi e.symm)).trans h1,h2,h3,fun i' ef=>h4 i' (mI i' ef)⟩
def oneB:List Value->Bool
 | []=>true
 | v::r=>v.oneCell' && oneB r
theorem DY:∀{l:List Value},oneB l=true->∀v∈l,v.oneCell'=true
 | [],_,v,hv=>by cases hv
 | u::r,h,v,hv=>by
  simp only[oneB,Bool.and_eq_true]at h;rcases List.mem_cons.1 hv with rfl | hv
  ·exact h.1
  ·exact DY h.2 v hv
theorem EVL.store (hτ:bp P τ) {T:TypeId} {x y:Operand} (ho:o.op=.store T x y) (hg:o.guard=none) (hd:o.dst=none) {i off:Nat} (hx:env.op x=some (.p i off)) {v:Value} (hy:env.op y=some (.v v)) {te:TE} (ht:τ.get T=some te)
  {T':TypeId} {cs:List Value} (hi:bx.get i=some (T',cs)) {vs:List Value} (aG:nW v=some vs) (hl:Nat.beq vs.length te.size=true) (h1:oneB vs=true) {aq:List Value} (hw:wrK off vs cs some=some aq)
  (h:EVL P n ops rest env ((i,T',aq)::bx) H Q):EVL P n ops (o::rest) env bx H Q:=fun W0 β a W r=>by
 obtain⟨e,hle⟩:=zP _ _ _ _ _ hw;cases e;have dt:=r.box i T' cs hi;have ex:a.eval x=.pointer (some ⟨β i,off,none⟩):=r.op hx;have ey:a.eval y=v:=r.op hy;have hlen:=qy hl
 have hsc:(storeCells ⟨β i,off,none⟩ vs 0).run P W=.ok () (W.setCells (β i) (off+0) vs) :=
  run_storeCells_cells (P:=P) (β i) off vs 0 W (fun j hj=>by rw[qY,cell_of_row W (β i) (off+j) _ T' (0,0) dt];simp;omega) (fun j hj=>by exact dt.free _) (fun u hu=>DY h1 u hu)
 rw[qY]at hsc;refine wpList_plain hg fun K hK=>?_
 have aY:(execOp a.eval o).run P W=.ok .skip (W.setCells (β i) off vs):=by
  unfold execOp;simp only[ho,ex,ey,Instr.storeAt,Instr.sureAddr,storeVar,zY aG,Sem.run_bind,Sem.run_pure,Result.andThen_ok,(hτ.get ht).size];simp[hlen,hsc]
 unfold Oper.wp;rw[aY,Oper.upon_skip,hd];exact hK _ _ (h W0 β a _ (r.setBox hi off vs hle))
end
theorem Rel.globW {n:Nat} {W0:World} {H0:Bs} {β:Nat->Nat} {env:Env} {bx:Bxs} {H:Hs} {a:Act} {W:World} (r:Rel n W0 H0 β env bx H a W):Fits gH W:=fun b c e=>by
 have h1:b<W0.heap.size:=r.glob.1.lt (b:=b) (by rw[e];simp);rw[r.bel.block b h1 (fun hb=>by have:=(r.glob.2 b hb).1;rw[this]at e;cases e)];exact r.glob.1 b c e
def fQ (P:Program) (f:FuncId):Prop:=∀args w,(callFunc f args).run P w=.ok (.enter f args) w
structure PC (P:Program) (f:FuncId) (args:Array Value) (H:Hp) (Φ:Value->Hp->Prop):Prop where
 can:fQ P f
 run:∀W,Fits H W->Fits gH W->Calls P f args W fun e W'=>∃v H',e=.returned v/\Φ v H'/\H.Le H'/\Fits H' W'/\Below W.heap.size W W'/\Nw H W.heap.size H' W'
structure PV (P:Program) (f:FuncId) (args:Array Value) (v:Value):Prop where
 can:fQ P f
 run:∀W,Fits gH W->Calls P f args W fun e W'=>e=.returned v/\Below W.heap.size W W'
theorem PV.pc {P:Program} {f:FuncId} {args:Array Value} {v:Value} (h:PV P f args v) (H:Hp):PC P f args H fun x H'=>x=v/\H'=H :=
 ⟨h.can,fun W hW hg=>(h.run W hg).mono fun e W' ⟨he,hb⟩=>⟨v,H,he,⟨rfl,rfl⟩,Hp.Le.refl H,hW.below hb,hb,Nw.refl _ _ _⟩⟩
theorem PC.mono {P:Program} {f:FuncId} {args:Array Value} {H:Hp} {Φ Ψ:Value->Hp->Prop} (h:PC P f args H Φ) (k:∀v H',Φ v H'->H.Le H'->Ψ v H'):PC P f args H Ψ :=
 ⟨h.can,fun W hW hg=>(h.run W hW hg).mono fun e W' ⟨v,H',he,hΦ,hle,r⟩=>⟨v,H',he,k v H' hΦ hle,hle,r⟩⟩
theorem PV.of_eq {P:Program} {f:FuncId} {args:Array Value} {v u:Value} (h:PV P f args v) (e:v=u):PV P f args u:=e ▸ h
def dX {α:Type} (env:Env):List Operand->(List Value->Option α)->Option α
 | [],k=>k []
 | x::r,k=>match env.op x with
  | some (.v v)=>dX env r fun l=>k (v::l)
  | _=>none
theorem oz {α:Type} (env:Env):∀(l:List Operand) (k:List Value->Option α) (r:α),dX env l k=some r->∃vs,k vs=some r/\∀(β:Nat->Nat) (H:Hp) (ev:Operand->Value),(∀y s,y∈l->env.op y=some s->s.rep β H (ev y))->l.map ev=vs
 | [],k,r,h=>⟨[],h,fun _ _ _ _=>rfl⟩
 | x::l,k,r,h=>by
  unfold dX at h;split at h
  ·rename_i v hv;obtain⟨vs,hk,hm⟩:=oz env l _ r h;refine⟨v::vs,hk,fun β H ev he=>?_⟩;have h1:ev x=v:=he x _ (qf ..) hv;rw[qx,h1,hm β H ev (fun y s hy=>he y s (qk _ hy))]
  ·cases h
section
variable {P:Program} {n:Nat} {ops:Array Oper} {o:Oper} {rest:List Oper} {env:Env} {bx:Bxs} {H:Hs} {Q:EQ} {τ:Tab} {d:Nat} {s:SV}
theorem yH {f:FuncId} (hc:fQ P f) {args:Array Operand} {bW:Array TypeId} {o:Oper} (ho:o.op=.call ⟨.value (.func f),args,bW⟩) {a:Act} {vs:List Value} (hv:args.toList.map a.eval=vs) (W:World) :
  (execOp a.eval o).run P W=.ok (.enter f vs.toArray) W:=by
 have hm:args.map a.eval=vs.toArray:=by rw[<-hv,<-Array.toList_map]
 unfold execOp;simp only[ho,resolve,hm,Act.eval,Deferred.ofValue,Sem.run_bind,Sem.run_pure,Result.andThen_ok,invoke];simp[hc vs.toArray W]
theorem EVL.call {f:FuncId} {args:Array Operand} {bW:Array TypeId} (ho:o.op=.call ⟨.value (.func f),args,bW⟩) (hw:aP ops env o=some true) (hd:o.dst=some d) (hn:Nat.blt d n=true)
  {vs:List Value} (ha:dX env args.toList some=some vs) {Φ:Value->Hp->Prop} (hpc:PC P f vs.toArray H.ro Φ)
  (h:∀v H',Φ v H'->H.ro.Le H'->EVL P n ops rest ((d,.v v)::env) bx ⟨H',H.ow,H.base⟩ Q):EVL P n ops (o::rest) env bx H Q:=fun W0 β a W r=>by
 obtain⟨aX,hk,hm⟩:=oz env _ _ _ ha;cases hk;have aG:=hm β H.ro a.eval (fun y s _ hy=>r.op hy);unfold wpList;rw[if_pos (r.want hw)];refine .inl ?_;unfold Oper.wp;rw[yH hpc.can ho aG,Oper.upon_enter];refine(hpc.run W r.fits r.globW).mono ?_;rintro e W' ⟨v,H',rfl,hΦ,hle,hf,hb,aL⟩;rw[hd];exact h v H' hΦ hle W0 β _ W' ((r.grow hle hf hb aL).put hn Z Z)
theorem EVL.callV {f:FuncId} {args:Array Operand} {bW:Array TypeId} (ho:o.op=.call ⟨.value (.func f),args,bW⟩) (hw:aP ops env o=some true) (hd:o.dst=some d) (hn:Nat.blt d n=true)
  {vs:List Value} (ha:dX env args.toList some=some vs) {v:Value} (hpc:PV P f vs.toArray v)
  (h:EVL P n ops rest ((d,.v v)::env) bx H Q):EVL P n ops (o::rest) env bx H Q :=
 EVL.call ho hw hd hn ha (hpc.pc H.ro) (by rintro _ _ ⟨rfl,rfl⟩ _;exact h)
end
def lT {α:Type} (τ:Tab) (env:Env) (bx:Bxs):List ResultVar->(List Value->Option α)->Option α
 | [],k=>k []
 | .tmp t::r,k=>match env.get t with
  | some (.v x)=>lT τ env bx r fun l=>k (x::l)
  | _=>none
 | .cell t T::r,k=>match env.get t,τ.get T with
  | some s,some te=>Hk te s bx fun v=>lT τ env bx r fun l=>k (v::l)
  | _,_=>none
def pq:List Value->Option Value
 | [v]=>some v
 | l=>some (.tuple l.toArray)
def lS (τ:Tab) (rs:List ResultVar) (Φ:Value->Hp->Prop):EQ
 | .normal,env,bx,H=>∃v,lT τ env bx rs pq=some v/\Φ v H.ro
 | .ret,env,bx,H=>∃v,lT τ env bx rs pq=some v/\Φ v H.ro
 | _,_,_,_=>False
theorem lS.ret {τ:Tab} {rs:List ResultVar} {Φ:Value->Hp->Prop} {env:Env} {bx:Bxs} {H:Hs} {v:Value} (hv:lT τ env bx rs pq=some v) (h:Φ v H.ro):lS τ rs Φ .ret env bx H:=⟨v,hv,h⟩
theorem lS.normal {τ:Tab} {rs:List ResultVar} {Φ:Value->Hp->Prop} {env:Env} {bx:Bxs} {H:Hs} {v:Value} (hv:lT τ env bx rs pq=some v) (h:Φ v H.ro):lS τ rs Φ .normal env bx H:=⟨v,hv,h⟩
def zu (tmps:Array Value):ResultVar->Sem Value
 | .tmp t=>pure (tmps.getD t undef)
 | .cell t T=>do loadVar T (<-asAddr (tmps.getD t undef))
theorem LK {P:Program} {τ:Tab} (hτ:bp P τ) {n:Nat} {W0:World} {H0:Bs} {β:Nat->Nat} {env:Env} {bx:Bxs} {H:Hs} {a:Act} {W:World} (r:Rel n W0 H0 β env bx H a W) {α:Type} :
  ∀(rs:List ResultVar) (k:List Value->Option α) (x:α),lT τ env bx rs k=some x->∃vs,k vs=some x /\
   (rs.mapM (zu a.tmps)).run P W=.ok vs W
 | [],k,x,h=>⟨[],h,by simp⟩
 | .tmp t::rs,k,x,h=>by
  unfold lT at h;split at h
  ·rename_i y hy;obtain⟨vs,hk,hr⟩:=LK hτ r rs _ x h;obtain⟨z,hz,hs⟩:=r.slot t _ hy;have fZ:z=y:=hs;subst fZ;refine⟨z::vs,hk,?_⟩;have h1:(zu a.tmps (.tmp t)).run P W=.ok z W:=by simp[zu,Array.getD_eq_getD_getElem?,hz]
   rw[List.mapM_cons];simp only[Sem.run_bind,Sem.run_pure,h1,hr,Result.andThen_ok]
  ·cases h
 | .cell t T::rs,k,x,h=>by
  unfold lT at h;split at h
  ·rename_i s te hs ht;obtain⟨z,hz,AK⟩:=r.slot t _ hs;obtain⟨v,hv,hk⟩:=Ux hτ ht r.box r.fits AK h;obtain⟨vs,ez,hr⟩:=LK hτ r rs _ x hk;refine⟨v::vs,ez,?_⟩
   have hz':∃ad,z=.pointer (some ad):=by
    cases s with
    | v _=>cases h
    | p i off=>exact⟨_,AK⟩
    | ro cs=>obtain⟨b,off,c,e,_⟩:=AK;exact⟨_,e⟩
   obtain⟨ad,rfl⟩:=hz'
   have hl:(loadVar T ad).run P W=.ok v W:=by
    simpa[Instr.loadAt,Instr.sureAddr] using hv
   have h1:(zu a.tmps (.cell t T)).run P W=.ok v W:=by simp[zu,Array.getD_eq_getD_getElem?,hz,asAddr,hl]
   rw[List.mapM_cons];simp only[Sem.run_bind,Sem.run_pure,h1,hr,Result.andThen_ok]
  ·cases h
theorem TX {P:Program} {τ:Tab} (hτ:bp P τ) {fn:Func} {n:Nat} {W0:World} {H0:Bs} {β:Nat->Nat} {env:Env} {bx:Bxs} {H:Hs} {a:Act} {W:World} (r:Rel n W0 H0 β env bx H a W) {v:Value}
  (h:lT τ env bx fn.results.toList pq=some v):(results fn a.tmps).run P W=.ok v W:=by
 obtain⟨vs,hk,hr⟩:=LK hτ r _ _ _ h
 have:(fn.results.mapM (zu a.tmps)).run P W=.ok vs.toArray W:=by
  rw[<-Array.toArray_toList (xs:=fn.results),List.mapM_toArray];simp[hr]
 have e:results fn a.tmps=(do let vs <-fn.results.mapM (zu a.tmps);pure (if h:vs.size=1 then vs[0] else .tuple vs)):=by
  unfold results;congr 1
 rw[e,Sem.run_bind,this];simp only[Result.andThen_ok,Sem.run_pure];unfold pq at hk;split at hk
 ·cases hk;simp
 ·rename_i hne;cases hk;rw[dif_neg];intro e
  match vs,e with
  | [x],_=>exact hne x Z
def BZ:Nat->List Value->Env
 | _,[]=>[]
 | k,v::r=>(k,.v v)::BZ (k+1) r
theorem Ek:∀(l:List Value) (k t:Nat) (s:SV),Env.get (BZ k l) t=some s->∃x,s=.v x/\k<=t/\l[t-k]?=some x
 | [],k,t,s,h=>by cases h
 | v::r,k,t,s,h=>by
  unfold BZ at h;rw[Env.get_cons]at h;by_cases e:k=t
  ·subst e;rw[if_pos rfl]at h;cases h;exact⟨v,rfl,qH _,by simp⟩
  ·rw[if_neg e]at h;obtain⟨x,h1,h2,h3⟩:=Ek r (k+1) t s h;exact⟨x,h1,by omega,by rw[show t-k=(t-(k+1))+1 by omega];simpa using h3⟩
theorem Mt {P:Program} {f:FuncId} {fn:Func} {c:Code} (hf:P.funcs[f]?=some fn) (hb:fn.body=some c) (hn:(fn.name == "runtime.NumGoroutine")=false):fQ P f:=fun args w=>by
 have sJ:¬fn.name = "runtime.NumGoroutine" := by simpa using hn
 unfold callFunc;simp[hf,sJ,hb]
theorem PC.body {P:Program} {τ:Tab} (hτ:bp P τ) {f:FuncId} {fn:Func} {c:Code} (hf:P.funcs[f]?=some fn) (hb:fn.body=some c) (sI:(fn.name == "runtime.NumGoroutine")=false) {n:Nat} (hn:fn.ntmps=n) {rs:List ResultVar} (eZ:fn.results.toList=rs)
  {args:List Value} (hl:Nat.ble args.length n=true) {H:Hp} {Φ:Value->Hp->Prop} (h:EV P n c (BZ 0 args) [] ⟨H,[],⟨H,[]⟩⟩ (lS τ rs Φ)):PC P f args.toArray H Φ:=by
 refine⟨Mt hf hb sI,fun W hW hgl=>?_⟩;have hle:=Nat.le_of_ble_eq_true hl;refine calls_of_wp hf hb (wp_mono (h W (fun _=>0) _ W ?_) ?_)
 ·refine⟨by simp[hn];omega,rfl,fun t s hs=>?_,fun i T cs hg=>(by cases hg),fun i hi=>(by cases hi),fun i j hi=>(by cases hi),fun t i off ht=>?_,hW,Hp.Le.refl H,Nw.refl _ _ _,bK.refl _ _,⟨hgl,fun b hb=>by cases hb⟩,fun j b T cs hj=>(by simp at hj),fun j j' b T T' cs aq hj=>(by simp at hj)⟩
  ·obtain⟨x,rfl,_,hx⟩:=Ek args 0 t s hs;rw[Nat.sub_zero]at hx;have af:t<args.length:=(qE.1 hx).1;exact⟨x,by rw[Array.getElem?_append_left (by simpa using af)];simpa using hx,rfl⟩
  ·obtain⟨x,hx,_⟩:=Ek args 0 t _ ht;cases hx
 ·rintro e a W' ⟨β,env,bx,H',_,hq,r⟩
  have fin:∀v,lT τ env bx rs pq=some v->Φ v H'.ro->a.defers=[]/\∃v,(results fn a.tmps).run P W'=.ok v W'/\∃u H'',Ending.returned v=.returned u/\Φ u H''/\H.Le H''/\Fits H'' W'/\Below W.heap.size W W'/\Nw H W.heap.size H'' W' :=
   fun v hv hΦ=>⟨r.defers,v,TX hτ r (by rw[eZ];exact hv),v,H'.ro,rfl,hΦ,r.le,r.fits,r.bel.below _ (qH _) (fun _ _ hb=>by cases hb),r.new⟩
  cases e with
  | normal=>obtain⟨v,hv,hΦ⟩:=hq;exact fin v hv hΦ
  | ret=>obtain⟨v,hv,hΦ⟩:=hq;exact fin v hv hΦ
  | _=>exact hq.elim
theorem PV.of_pc {P:Program} {f:FuncId} {args:Array Value} {v:Value} (h:PC P f args (fun _=>none) fun x _=>x=v):PV P f args v :=
 ⟨h.can,fun W hg=>(h.run W (fun b c e=>by cases e) hg).mono fun e W' ⟨x,H',he,hx,_,_,hb,_⟩=>⟨by rw[he,hx],hb⟩⟩
inductive Kd where
 | val (Sp:Value->World->Prop)
 | fresh (T:TypeId) (z:Array Value) (st:Nat) (cs:Array Value)
 | store (al:Nat)
def Hd (b:Nat):Value:=.pointer (some ⟨b,0,none⟩)
def QF:Exit->Act->World->Prop:=fun _ _ _=>False
section
variable (ops:Array Oper)
def zaK (i:Nat):Option Tmp:=(ops[i]?).bind (·.dst)
def upd (x:Nat->Value) (i:Nat) (v:Value):Nat->Value:=fun j=>if j=i then v else x j
def QW (i:Nat):Bool :=
 match ops[i]? with
 | none=>true
 | some o=>(o.looksAt ops).all fun d=>(List.range ops.size).all fun j=>zaK ops j != some d || (decide (j<i) && Region.waitsFor .any ops i j) || j == i || (decide (i<j) && Region.waitsFor .any ops j i)
def oh (m n:Nat):Bool :=
 (List.range m).all (fun i=>QW ops i) &&
 (List.range ops.size).all (fun i=>(match zaK ops i with | some d=>decide (d<n) | none=>true) && (List.range ops.size).all fun j=>i == j || zaK ops i == none || zaK ops i != zaK ops j) &&
 Region.noSelect ops
def BV:Bool:=(List.range ops.size).all fun i=>match ops[i]? with
 | none=>true
 | some o=>o.after.all fun e => !Region.binds .any e || decide (e.on<i)
end
theorem Jh {L:Array Bool} {i:Nat} (h:i<L.size):(L.setIfInBounds i true).getD i false=true:=by simp[h]
theorem Mq {L:Array Bool} {i j:Nat} (h:(L.setIfInBounds i true).getD j false=true):j=i\/L.getD j false=true:=by
 by_cases e:i=j
 ·exact .inl e.symm
 ·right;rw[getD_set_ne false e]at h;exact h
theorem Ir {ops:Array Oper} {i j:Nat} {L:Array Bool} (h:Region.waitsFor .any ops i j=true) (hr:i∈Region.ready .any ops L):L.getD j false=true:=by
 obtain⟨oi,hoi,e,he,hb,Fv⟩:=Region.waitsFor_spec h;obtain⟨_,o,ho,av⟩:=mem_ready.1 hr;have:o=oi:=Option.some.inj (ho.symm.trans hoi);subst this;rw[<-Fv];exact av e he hb
theorem TG {md:Region.Mode} {ops:Array Oper} {m i j:Nat} {L:Array Bool} (inv:HeadInv md ops m L) (h:Region.waitsFor md ops j i=true) (hi:L.getD i false=false):L.getD j false=false:=by
 obtain⟨oj,uI,e,he,hb,Fv⟩:=Region.waitsFor_spec h
 cases hl:L.getD j false with
 | false=>rfl
 | true =>
  have:=inv.closed j oj uI hl e he hb;rw[Fv,hi]at this;cases this
theorem X4 {ops:Array Oper} {m n i:Nat} {d:Tmp} (h:oh ops m n=true) (hd:zaK ops i=some d):d<n:=by
 simp only[oh,Bool.and_eq_true]at h
 have hi:i<ops.size:=by
  unfold zaK at hd
  cases ho:ops[i]? with
  | none=>rw[ho]at hd;cases hd
  | some o=>exact(Array.getElem?_eq_some_iff.1 ho).1
 have:=List.all_eq_true.1 h.1.2 i (List.mem_range.2 hi);simp only[hd,Bool.and_eq_true,decide_eq_true_eq]at this;exact this.1
theorem RK {ops:Array Oper} {m n i j:Nat} {d:Tmp} (h:oh ops m n=true) (hi:zaK ops i=some d) (hj:zaK ops j=some d):i=j:=by
 have af:∀{k},zaK ops k=some d->k<ops.size:=fun {k} hd=>by
  unfold zaK at hd
  cases ho:ops[k]? with
  | none=>rw[ho]at hd;cases hd
  | some o=>exact(Array.getElem?_eq_some_iff.1 ho).1
 simp only[oh,Bool.and_eq_true]at h;have h1:=List.all_eq_true.1 h.1.2 i (List.mem_range.2 (af hi));simp only[Bool.and_eq_true]at h1;have h2:=List.all_eq_true.1 h1.2 j (List.mem_range.2 (af hj));rw[hi,hj]at h2;simpa using h2
section
variable {P:Program} {ops:Array Oper} {a0:Act} {m base:Nat} {ks:Nat->Kd} {C:World->Prop} {w0:World} {L:Array Bool} {a:Act} {w:World} {x:Nat->Value}
variable {Q:Exit->Act->World->Prop} {Ts:List TypeId}
def unl (L:Array Bool) (m:Nat):Nat:=((List.range m).filter fun i=>L.getD i false == false).length
theorem Zk {L:Array Bool} {m i:Nat} (hi:i<m) (hl:i<L.size) (iN:L.getD i false=false):unl (L.setIfInBounds i true) m+1=unl L m:=by
 unfold unl
 induction m with
 | zero=>omega
 | succ m ih =>
  rw[List.range_succ,List.filter_append,List.filter_append,qJ,qJ];by_cases e:i=m
  ·subst e
   have h1:((List.range i).filter fun j=>(L.setIfInBounds i true).getD j false == false)=(List.range i).filter fun j=>L.getD j false == false:=by
    apply List.filter_congr;intro j hj;have:=List.mem_range.1 hj;rw[getD_set_ne false (by omega)]
   rw[h1];have h2:=Jh (L:=L) hl;simp only[List.filter_cons,List.filter_nil,h2,iN];simp
  ·have:=ih (by omega);simp only[List.filter_cons,List.filter_nil,getD_set_ne false e];omega
theorem Zr {L:Array Bool} {m:Nat} (h:unl L m=0):∀i,i<m->L.getD i false=true:=by
 intro i hi;unfold unl at h;have:=List.eq_nil_of_length_eq_zero h;rw[List.filter_eq_nil_iff]at this;have:=this i (List.mem_range.2 hi);simpa using this
theorem zod (he:BV ops=true) (hs:L.size=ops.size):∀(n i:Nat),i<=n->i<ops.size->L.getD i false=false->Region.ready .any ops L≠[]:=by
 intro n
 induction n with
 | zero =>
  intro i hi af iN eG;obtain rfl:i=0:=by omega
  exact here 0 af iN (fun j hj=>by omega) eG
 | succ n ih =>
  intro i hi af iN eG;by_cases hex:∃j,j<i/\L.getD j false=false
  ·obtain⟨j,hj,xf⟩:=hex;exact ih j (by omega) (by omega) xf eG
  ·refine here i af iN (fun j hj=>?_) eG
   cases hl:L.getD j false with
   | true=>rfl
   | false=>exact absurd ⟨j,hj,hl⟩ hex
where
 here (i:Nat) (af:i<ops.size) (iN:L.getD i false=false) (av:∀j,j<i->L.getD j false=true) (eG:Region.ready .any ops L=[]):False:=by
  have:i∈Region.ready .any ops L:=by
   refine mem_ready.2 ⟨getD_in (by rw[hs];exact af) iN,ops[i],Array.getElem?_eq_getElem af,fun e ee hb=>av _ ?_⟩;have h1:=List.all_eq_true.1 he i (List.mem_range.2 af);simp only[Array.getElem?_eq_getElem af]at h1;have h2:=Array.all_eq_true_iff_forall_mem.1 h1 e ee;simpa[hb] using h2
  rw[eG]at this;cases this
def BH (ops:Array Oper) (m n:Nat):Bool :=
 BV ops && oh ops m n && decide (m<=ops.size) && (m == ops.size || (decide (m<ops.size) && Region.sinkB .any ops m && Region.chainB .any ops m)) &&
 Region.seqB .any ops (ops.size-m) m (Array.replicate m true++Array.replicate (ops.size-m) false)
end
inductive SC where
 | k (vs:List Value)
 | f (q:Nat) (g:Value->List Value)
def SC.at (x:Nat->Value):SC->List Value
 | .k vs=>vs
 | .f q g=>g (x q)
def SC.deps (p:Nat->Prop):SC->Prop
 | .k _=>True
 | .f q _=>p q
theorem SC.deps.mono {p p':Nat->Prop} {c:SC} (h:c.deps p) (k:∀q,p q->p' q):c.deps p':=by
 cases c with
 | k vs=>trivial
 | f q g=>exact k q h
inductive DK where
 | sv (s:SV)
 | call (Φ:Value->Hp->Prop)
 | own (Φ:Value->Ows->Prop)
 | fn (j:Nat) (f:Value->Value)
 | fresh (d:Nat) (T:TypeId) (z:List Value)
 | store (al:Nat) (vs:SC)
 | setb (d:Nat) (T:TypeId) (vs:SC)
abbrev fO:=List (Nat × (Hp->Prop))
def Dv (ops:Array Oper):Nat->Nat->Nat->Bool
 | 0,_,_=>false
 | f+1,i,j=>Region.waitsFor .any ops i j || (List.range ops.size).any fun k=>Region.waitsFor .any ops i k && Dv ops f k j
def lV (ops:Array Oper) (i j:Nat):Bool:=Dv ops ops.size i j
theorem Uv {ops:Array Oper} {m:Nat} {L:Array Bool} (inv:HeadInv .any ops m L):∀(f k j:Nat),L.getD k false=true->Dv ops f k j=true->L.getD j false=true
 | 0,_,_,_,h=>by cases h
 | f+1,k,j,hk,h=>by
  have step:∀q,Region.waitsFor .any ops k q=true->L.getD q false=true:=fun q hq=>by
   obtain⟨o,ho,e,he,hb,Fv⟩:=Region.waitsFor_spec hq;rw[<-Fv];exact inv.closed k o ho hk e he hb
  unfold Dv at h;rcases Bool.or_eq_true_iff.1 h with h | h
  ·exact step j h
  ·obtain⟨q,_,hq⟩:=List.any_eq_true.1 h;simp only[Bool.and_eq_true]at hq;exact Uv inv f q j (step q hq.1) hq.2
theorem Ch {ops:Array Oper} {m:Nat} {L:Array Bool} (inv:HeadInv .any ops m L) {i j:Nat} (hr:i∈Region.ready .any ops L) (h:lV ops i j=true):L.getD j false=true:=by
 unfold lV at h
 cases hs:ops.size with
 | zero=>rw[hs]at h;cases h
 | succ f =>
  rw[hs]at h;unfold Dv at h;rcases Bool.or_eq_true_iff.1 h with h | h
  ·exact Ir h hr
  ·obtain⟨q,_,hq⟩:=List.any_eq_true.1 h;simp only[Bool.and_eq_true]at hq;exact Uv inv f q j (Ir hq.1 hr) hq.2
def dD (ops:Array Oper) (i:Nat) (Γ:fO) (G:Hp):Prop:=∀j F,(j,F)∈Γ->lV ops i j=true->F G
theorem dD.head {ops:Array Oper} {i j:Nat} {F:Hp->Prop} {Γ:fO} {G:Hp} (h:dD ops i ((j,F)::Γ) G) (hw:lV ops i j=true):F G:=h j F (qf ..) hw
theorem dD.tail {ops:Array Oper} {i:Nat} {p:Nat × (Hp->Prop)} {Γ:fO} {G:Hp} (h:dD ops i (p::Γ) G):dD ops i Γ G:=fun j F hm=>h j F (qk _ hm)
def BN:fO->Hp->Prop
 | [],_=>True
 | (_,F)::Γ,G=>F G/\BN Γ G
def DQ (bx:Bxs) (β:Nat->Nat) (W:World):Prop:=∀i T cs,bx.get i=some (T,cs)->Box W (β i) cs.toArray T
def ud (ops:Array Oper) (o:Oper) (env:Env) (β:Nat->Nat) (G:Hp) (a:Act):Prop:=∀t s,t∈o.looksAt ops->env.get t=some s->∃x,a.tmps[t]?=some x/\s.rep β G x
theorem ud.op {ops:Array Oper} {o:Oper} {env:Env} {β:Nat->Nat} {G:Hp} {a:Act} (h:ud ops o env β G a) {y:Operand} {s:SV} (hm:y∈o.op.operands) (hy:env.op y=some s):s.rep β G (a.eval y):=by
 cases y with
 | tmp t =>
  obtain⟨x,hx,hs⟩:=h t s (List.mem_append_left _ (List.mem_filterMap.2 ⟨.tmp t,by simpa using hm,rfl⟩)) hy;simp only[Act.eval,Array.getD_eq_getD_getElem?,hx,Option.getD_some];exact hs
 | const v=>cases hy;rfl
 | global g=>cases hy
 | func f=>cases hy;rfl
theorem ud.want {ops:Array Oper} {o:Oper} {env:Env} {β:Nat->Nat} {G:Hp} {a:Act} (h:ud ops o env β G a) {b:Bool} (hw:aP ops env o=some b):Region.wanted o (yielded ops a.tmps)=b :=
 UC hw fun t s ⟨j,w,hg,hd⟩ ht=>h t s (List.mem_append_right _ (by simp[hg,hd])) ht
def Rc (ow:Ows) (W:World):Prop:=∀(j b:Nat) (T:TypeId) (cs:List Value),ow[j]?=some (b,T,cs)->Box W b cs.toArray T
def az (P:Program) (ops:Array Oper) (o:Oper) (env:Env) (bx:Bxs) (ow:Ows) (H:Hp) (F:Hp->Prop) (R:(Nat->Nat)->Value->Hp->Prop):Prop :=
 ∀(β:Nat->Nat) (a:Act) (W:World) (G:Hp),H.Le G->Fits G W->Fits gH W->DQ bx β W->Rc ow W->ud ops o env β G a->F G ->
  if Region.wanted o (yielded ops a.tmps)=true then Oper.wp P o a W (fun a' W'=>∃v G',a'=a.put o.dst v/\R β v G'/\G.Le G'/\Fits G' W'/\Below W.heap.size W W'/\Nw G W.heap.size G' W') QF else R β undef G
def R8 (P:Program) (o:Oper) (T:TypeId) (z:List Value):Prop:=∀(a:Act) (W:World) (K:Act->World->Prop),K (a.put o.dst (Hd W.heap.size)) (W.alloc (.cells z.toArray T))->Oper.wp P o a W K QF
def vM (P:Program) (ops:Array Oper) (o:Oper) (env:Env) (F:Hp->Prop) (d:Nat) (T:TypeId) (z vs:List Value):Prop :=
 ∀(β:Nat->Nat) (a:Act) (W:World) (G:Hp),ud ops o env β G a->F G->Box W (β d) z.toArray T->∀K:Act->World->Prop,(∀W',Box W' (β d) vs.toArray T->bK (fun k=>k=β d) W W'->K a W')->Oper.wp P o a W K QF
def Ds (m:Nat) (W:World) (ow:Ows):Prop:=ow.length<=1/\∀b T cs,(b,T,cs)∈ow->m<=b/\Box W b cs.toArray T
def QU (P:Program) (ops:Array Oper) (o:Oper) (env:Env) (bx:Bxs) (H:Hp) (F:Hp->Prop) (Φ:Value->Ows->Prop):Prop :=
 ∀(β:Nat->Nat) (a:Act) (W:World) (G:Hp),H.Le G->Fits G W->Fits gH W->DQ bx β W->ud ops o env β G a->F G ->
  Oper.wp P o a W (fun a' W'=>∃v ow,a'=a.put o.dst v/\Φ v ow/\Ds W.heap.size W' ow/\Below W.heap.size W W') QF
def QJ (P:Program) (ops:Array Oper) (o:Oper) (env:Env) (bx:Bxs) (F:Hp->Prop) (v:Value):Prop :=
 ∀(β:Nat->Nat) (a:Act) (W:World) (G:Hp),Fits G W->DQ bx β W->ud ops o env β G a->F G->∀K:Act->World->Prop,K (a.put o.dst v) W->Oper.wp P o a W K QF
section
variable (P:Program) (n:Nat) (ops:Array Oper) (tail:List Oper) (sb bx:Bxs) (H:Hs) (Q:EQ) (x:Nat->Value) (y:Nat->Ows) (kl:List DK)
def DJ:Nat->List Oper->List DK->Env->Bxs->fO->Ows->Prop
 | _,[],[],env,aw,Γ,au=>∀G,H.ro.Le G->BN Γ G->EVL P n ops tail env aw ⟨G,au,H.base⟩ Q
 | i,o::l,.sv s::ks,env,aw,Γ,au=>∃d,o.dst=some d/\Nat.blt d n=true/\rF (sb++bx) s=true/\az P ops o env bx H.ow H.ro (dD ops i Γ) (fun β v G=>s.rep β G v)/\DJ (i+1) l ks ((d,s)::env) aw Γ au
 | i,o::l,.call Φ::ks,env,aw,Γ,au=>∃d,o.dst=some d/\Nat.blt d n=true/\(∀v G G',Φ v G->G.Le G'->Φ v G')/\az P ops o env bx H.ow H.ro (dD ops i Γ) (fun _ v G=>Φ v G)/\DJ (i+1) l ks ((d,.v (x i))::env) aw ((i,Φ (x i))::Γ) au
 | i,o::l,.own Φ::ks,env,aw,Γ,au=>∃d,o.dst=some d/\Nat.blt d n=true/\o.guard=none/\QU P ops o env bx H.ro (dD ops i Γ) Φ/\DJ (i+1) l ks ((d,.v (x i))::env) aw ((i,fun _=>Φ (x i) (y i))::Γ) (y i++au)
 | i,o::l,.fn j f::ks,env,aw,Γ,au=>∃d,o.dst=some d/\Nat.blt d n=true/\o.guard=none/\lV ops i j=true/\QJ P ops o env bx (dD ops i Γ) (f (x j))/\DJ (i+1) l ks ((d,.v (f (x j)))::env) aw Γ au
 | i,o::l,.fresh d T z::ks,env,aw,Γ,au=>o.dst=some d/\Nat.blt d n=true/\(sb++bx).get d=none/\o.guard=none/\R8 P o T z/\DJ (i+1) l ks ((d,.p d 0)::env) ((d,T,z)::aw) Γ au
 | i,o::l,.store al vs::ks,env,aw,Γ,au=>o.dst=none/\o.guard=none/\∃d T z,kl[al]?=some (.fresh d T z)/\Nat.blt al i=true/\Region.waitsFor .any ops i al=true/\vs.deps (fun q=>lV ops i q=true)/\vM P ops o env (dD ops i Γ) d T z (vs.at x)/\DJ (i+1) l ks env ((d,T,vs.at x)::aw) Γ au
 | i,o::l,.setb d T vs::ks,env,aw,Γ,au=>o.dst=none/\o.guard=none/\∃z,sb.get d=some (T,z)/\vs.deps (fun q=>lV ops i q=true)/\vM P ops o env (dD ops i Γ) d T z (vs.at x)/\DJ (i+1) l ks env ((d,T,vs.at x)::aw) Γ au
 | _,_,_,_,_,_,_=>False
end
section
variable {P:Program} {n:Nat} {ops:Array Oper} {tail:List Oper} {sb bx:Bxs} {ow:Ows} {H:Hs} {Q:EQ} {x:Nat->Value} {y:Nat->Ows} {au:Ows} {kl:List DK} {i:Nat} {o:Oper} {l:List Oper} {ks:List DK} {env:Env} {aw:Bxs} {Γ:fO} {τ:Tab} {d:Nat} {s:SV}
theorem Oper.wp_any {o:Oper} {a:Act} {w:World} {K:Act->World->Prop} {Q:Exit->Act->World->Prop} (h:Oper.wp P o a w K QF):Oper.wp P o a w K Q:=by
 unfold Oper.wp at *
 generalize (execOp a.eval o).run P w=r at *
 cases r with
 | ok m w' =>
  cases m <;> simp only[Oper.upon]at h ⊢ <;> try exact h
  case enter f args =>
   refine h.mono fun e Em he=>?_
   cases e with
   | returned v=>exact he
   | panicked c=>exact he.elim
   | outgrown=>obtain⟨_,_,h⟩:=he;exact h.elim
 | halt y w' =>
  cases y <;> simp only[Oper.upon]at h ⊢
  case panic v=>exact h.elim
theorem az.plain (hτ:bp P τ) (hw:aP ops env o=some true) (hv:tM τ env bx o.op=some s) {R:Hp} {F:Hp->Prop}:az P ops o env bx ow R F (fun β v G=>s.rep β G v) :=
 fun β a W G _ hf _ hb _ hs _=>by
  obtain⟨v,hx,hr⟩:=Ck hτ hv (fun y s hm hy=>hs.op hm hy) hb hf;rw[if_pos (hs.want hw)];unfold Oper.wp;rw[hx,Oper.upon_value];exact⟨v,G,rfl,hr,Hp.Le.refl G,hf,Below.refl _ _,Nw.refl _ _ _⟩
theorem az.skip (hw:aP ops env o=some false) {R:Hp} {F:Hp->Prop}:az P ops o env bx ow R F (fun β v G=>(SV.v undef).rep β G v) :=
 fun β a W G _ hf _ hb _ hs _=>by rw[if_neg (by rw[hs.want hw];simp)];rfl
theorem az.callG {f:FuncId} {args:Array Operand} {bW:Array TypeId} (ho:o.op=.call ⟨.value (.func f),args,bW⟩) (hw:aP ops env o=some true) {vs:List Value} (ha:dX env args.toList some=some vs) {F:Hp->Prop} {Φ:Value->Hp->Prop} (hc:fQ P f) {R:Hp}
  (hpc:∀G,R.Le G->F G->PC P f vs.toArray G Φ):az P ops o env bx ow R F (fun _ v G=>Φ v G):=fun β a W G hle hf hgl hb _ hs hF=>by
 obtain⟨aX,hk,hm⟩:=oz env _ _ _ ha;cases hk;have aG:=hm β G a.eval (fun y s hy=>hs.op (by simp[ho,Op.operands,Call.operands];exact .inr (by simpa using hy)));rw[if_pos (hs.want hw)];unfold Oper.wp;rw[yH hc ho aG,Oper.upon_enter];refine((hpc G hle hF).run W hf hgl).mono ?_;rintro e W' ⟨v,H',rfl,hΦ,gT,jI,dF,aL⟩;exact⟨v,H',rfl,hΦ,gT,jI,dF,aL⟩
theorem DJ.val (hτ:bp P τ) (hw:aP ops env o=some true) (hd:o.dst=some d) (hn:Nat.blt d n=true) (hv:tM τ env bx o.op=some s) (hp:rF (sb++bx) s=true)
  (h:DJ P n ops tail sb bx H Q x y kl (i+1) l ks ((d,s)::env) aw Γ au):DJ P n ops tail sb bx H Q x y kl i (o::l) (.sv s::ks) env aw Γ au:=⟨d,hd,hn,hp,az.plain hτ hw hv,h⟩
theorem DJ.skip (hw:aP ops env o=some false) (hd:o.dst=some d) (hn:Nat.blt d n=true)
  (h:DJ P n ops tail sb bx H Q x y kl (i+1) l ks ((d,.v undef)::env) aw Γ au):DJ P n ops tail sb bx H Q x y kl i (o::l) (.sv (.v undef)::ks) env aw Γ au:=⟨d,hd,hn,rfl,az.skip hw,h⟩
theorem DJ.callV {f:FuncId} {args:Array Operand} {bW:Array TypeId} (ho:o.op=.call ⟨.value (.func f),args,bW⟩) (hw:aP ops env o=some true) (hd:o.dst=some d) (hn:Nat.blt d n=true)
  {vs:List Value} (ha:dX env args.toList some=some vs) {v:Value} (hpc:PV P f vs.toArray v)
  (h:DJ P n ops tail sb bx H Q x y kl (i+1) l ks ((d,.v v)::env) aw Γ au):DJ P n ops tail sb bx H Q x y kl i (o::l) (.sv (.v v)::ks) env aw Γ au:=by
 refine⟨d,hd,hn,rfl,?_,h⟩;have:=az.callG (P:=P) (ops:=ops) (bx:=bx) (ow:=H.ow) (R:=H.ro) (F:=dD ops i Γ) (Φ:=fun u _=>u=v) ho hw ha hpc.can (fun G _ _=>(hpc.pc G).mono fun _ _ h _=>h.1);exact this
theorem DJ.call {f:FuncId} {args:Array Operand} {bW:Array TypeId} (ho:o.op=.call ⟨.value (.func f),args,bW⟩) (hw:aP ops env o=some true) (hd:o.dst=some d) (hn:Nat.blt d n=true)
  {vs:List Value} (ha:dX env args.toList some=some vs) (hc:fQ P f) {Φ:Value->Hp->Prop} (hpc:∀G,H.ro.Le G->dD ops i Γ G->PC P f vs.toArray G Φ) (hm:∀v G G',Φ v G->G.Le G'->Φ v G')
  (h:DJ P n ops tail sb bx H Q x y kl (i+1) l ks ((d,.v (x i))::env) aw ((i,Φ (x i))::Γ) au):DJ P n ops tail sb bx H Q x y kl i (o::l) (.call Φ::ks) env aw Γ au :=
 ⟨d,hd,hn,hm,az.callG ho hw ha hc hpc,h⟩
theorem DJ.callS {f:FuncId} {args:Array Operand} {bW:Array TypeId} (ho:o.op=.call ⟨.value (.func f),args,bW⟩) (hw:aP ops env o=some true) (hd:o.dst=some d) (hn:Nat.blt d n=true)
  {vs:List Value} (ha:dX env args.toList some=some vs) (hc:fQ P f) {v:Value} (hpc:∀G,H.ro.Le G->dD ops i Γ G->PC P f vs.toArray G (fun u _=>u=v))
  (h:DJ P n ops tail sb bx H Q x y kl (i+1) l ks ((d,.v v)::env) aw Γ au):DJ P n ops tail sb bx H Q x y kl i (o::l) (.sv (.v v)::ks) env aw Γ au:=by
 refine⟨d,hd,hn,rfl,?_,h⟩;have:=az.callG (P:=P) (ops:=ops) (bx:=bx) (ow:=H.ow) (R:=H.ro) (F:=dD ops i Γ) (Φ:=fun u _=>u=v) ho hw ha hc hpc;exact this
theorem DJ.alloc (hτ:bp P τ) {T:TypeId} (ho:o.op=.alloc T) (hg:o.guard=none) (hd:o.dst=some d) (hn:Nat.blt d n=true) {te:TE} (ht:τ.get T=some te) (kG:(sb++bx).get d=none)
  (h:DJ P n ops tail sb bx H Q x y kl (i+1) l ks ((d,.p d 0)::env) ((d,T,te.zero)::aw) Γ au):DJ P n ops tail sb bx H Q x y kl i (o::l) (.fresh d T te.zero::ks) env aw Γ au:=by
 refine⟨hd,hn,kG,hg,fun a W K hK=>?_,h⟩;obtain⟨z,hz,mi⟩:=(hτ.get ht).zero
 have hx:(execOp a.eval o).run P W=.ok (.value (.pointer (some ⟨W.heap.size,0,none⟩))) (W.alloc (.cells te.zero.toArray T)):=by
  unfold execOp;simp[ho,Instr.alloc,hz,newVar,newRow,mi]
 unfold Oper.wp;rw[hx,Oper.upon_value];exact hK
theorem vM.of (hτ:bp P τ) {T:TypeId} {ad yo:Operand} (ho:o.op=.store T ad yo) (hd:o.dst=none) {off:Nat} (hx:env.op ad=some (.p d off)) {v:Value} (hy:env.op yo=some (.v v)) {te:TE} (ht:τ.get T=some te) {T':TypeId} {z vs cs:List Value} {F:Hp->Prop}
  (aG:∀G,F G->v.cells=vs.toArray/\vs.length=te.size/\oneB vs=true) (hc:∀G,F G->cs=z.take off++vs++z.drop (off+vs.length)/\off+vs.length<=z.length):vM P ops o env F d T' z cs:=fun β a W G hs hF hB K hK=>by
 obtain⟨cj,hlen,h1⟩:=aG G hF;obtain⟨rfl,hle⟩:=hc G hF;have ex:a.eval ad=.pointer (some ⟨β d,off,none⟩):=hs.op (by simp[ho,Op.operands]) hx;have ey:a.eval yo=v:=hs.op (by simp[ho,Op.operands]) hy
 have hsc:(storeCells ⟨β d,off,none⟩ vs 0).run P W=.ok () (W.setCells (β d) (off+0) vs) :=
  run_storeCells_cells (P:=P) (β d) off vs 0 W (fun j hj=>by rw[qY,cell_of_row W (β d) (off+j) _ T' (0,0) hB];simp;omega) (fun j hj=>by exact hB.free _) (fun u hu=>DY h1 u hu)
 rw[qY]at hsc
 have aY:(execOp a.eval o).run P W=.ok .skip (W.setCells (β d) off vs):=by
  unfold execOp;simp only[ho,ex,ey,Instr.storeAt,Instr.sureAddr,storeVar,cj,Sem.run_bind,Sem.run_pure,Result.andThen_ok,(hτ.get ht).size];simp[hlen,hsc]
 unfold Oper.wp;rw[aY,Oper.upon_skip,hd];exact hK _ (hB.setCells vs off W z hle) (El _ _ _ _)
theorem DJ.store (hτ:bp P τ) {T:TypeId} {ad yo:Operand} (ho:o.op=.store T ad yo) (hg:o.guard=none) (hd:o.dst=none) (hx:env.op ad=some (.p d 0)) {v:Value} (hy:env.op yo=some (.v v)) {te:TE} (ht:τ.get T=some te)
  (al:Nat) {T':TypeId} {z:List Value} (bH:kl[al]?=some (.fresh d T' z)) (af:Nat.blt al i=true) (Au:Region.waitsFor .any ops i al=true) {vs:List Value} (aG:nW v=some vs) (hl:Nat.beq vs.length te.size=true) (hz:Nat.beq z.length te.size=true) (h1:oneB vs=true)
  (h:DJ P n ops tail sb bx H Q x y kl (i+1) l ks env ((d,T',vs)::aw) Γ au):DJ P n ops tail sb bx H Q x y kl i (o::l) (.store al (.k vs)::ks) env aw Γ au:=by
 have hlen:=qy hl;have CK:=qy hz;exact⟨hd,hg,d,T',z,bH,af,Au,trivial,vM.of hτ ho hd hx hy ht (fun _ _=>⟨zY aG,hlen,h1⟩) (fun _ _=>⟨by simp[SC.at,hlen,<-CK],by omega⟩),h⟩
theorem DJ.storeD (hτ:bp P τ) {T:TypeId} {ad yo:Operand} (ho:o.op=.store T ad yo) (hg:o.guard=none) (hd:o.dst=none) (hx:env.op ad=some (.p d 0)) (q:Nat) (f:Value->Value) (hy:env.op yo=some (.v (f (x q)))) {te:TE} (ht:τ.get T=some te)
  (al:Nat) {T':TypeId} {z:List Value} (bH:kl[al]?=some (.fresh d T' z)) (af:Nat.blt al i=true) (Au:Region.waitsFor .any ops i al=true) (hq:lV ops i q=true) (hz:Nat.beq z.length te.size=true) (aG:∀G,dD ops i Γ G->(aB (f (x q))).length=te.size/\oneB (aB (f (x q)))=true)
  (h:DJ P n ops tail sb bx H Q x y kl (i+1) l ks env ((d,T',aB (f (x q)))::aw) Γ au):DJ P n ops tail sb bx H Q x y kl i (o::l) (.store al (.f q fun u=>aB (f u))::ks) env aw Γ au:=by
 have CK:=qy hz;exact⟨hd,hg,d,T',z,bH,af,Au,hq,vM.of hτ ho hd hx hy ht (fun G hG=>⟨UD _,aG G hG⟩) (fun G hG=>⟨by simp[SC.at,(aG G hG).1,<-CK],by have:=(aG G hG).1;omega⟩),h⟩
theorem DJ.setb (hτ:bp P τ) {T:TypeId} {ad yo:Operand} (ho:o.op=.store T ad yo) (hg:o.guard=none) (hd:o.dst=none) {off:Nat} (hx:env.op ad=some (.p d off)) {v:Value} (hy:env.op yo=some (.v v)) {te:TE} (ht:τ.get T=some te)
  {T':TypeId} {z:List Value} (hz:sb.get d=some (T',z)) {vs:List Value} (aG:nW v=some vs) (hl:Nat.beq vs.length te.size=true) (h1:oneB vs=true) {cs:List Value} (hc:wrK off vs z some=some cs)
  (h:DJ P n ops tail sb bx H Q x y kl (i+1) l ks env ((d,T',cs)::aw) Γ au):DJ P n ops tail sb bx H Q x y kl i (o::l) (.setb d T' (.k cs)::ks) env aw Γ au:=by
 obtain⟨e,hle⟩:=zP off vs z some cs hc;cases e;exact⟨hd,hg,z,hz,trivial,vM.of hτ ho hd hx hy ht (fun _ _=>⟨zY aG,qy hl,h1⟩) (fun _ _=>⟨rfl,hle⟩),h⟩
theorem DJ.copy (j:Nat) {z:Operand} (ho:o.op=.move z\/o.op=.assign z) (hg:o.guard=none) (hd:o.dst=some d) (hn:Nat.blt d n=true) (f:Value->Value) (hz:env.op z=some (.v (f (x j)))) (hw:lV ops i j=true)
  (h:DJ P n ops tail sb bx H Q x y kl (i+1) l ks ((d,.v (f (x j)))::env) aw Γ au):DJ P n ops tail sb bx H Q x y kl i (o::l) (.fn j f::ks) env aw Γ au:=by
 refine⟨d,hd,hn,hg,hw,fun β a W G _ _ hs _ K hK=>?_,h⟩;have hv:a.eval z=f (x j):=hs.op (by rcases ho with ho | ho <;> simp[ho,Op.operands]) hz
 have aY:(execOp a.eval o).run P W=.ok (.value (f (x j))) W:=by
  unfold execOp;rcases ho with ho | ho <;> simp[ho,hv]
 unfold Oper.wp;rw[aY,Oper.upon_value];exact hK
theorem DJ.fnP (hτ:bp P τ) (j:Nat) (f:Value->Value) (hg:o.guard=none) (hd:o.dst=some d) (hn:Nat.blt d n=true) (hw:lV ops i j=true) (hv:∀G,dD ops i Γ G->tM τ env bx o.op=some (.v (f (x j))))
  (h:DJ P n ops tail sb bx H Q x y kl (i+1) l ks ((d,.v (f (x j)))::env) aw Γ au):DJ P n ops tail sb bx H Q x y kl i (o::l) (.fn j f::ks) env aw Γ au:=by
 refine⟨d,hd,hn,hg,hw,fun β a W G hf hb hs hF K hK=>?_,h⟩;obtain⟨v,hx,hr⟩:=Ck hτ (hv G hF) (fun y s hm hy=>hs.op hm hy) hb hf;have jC:v=f (x j):=hr;subst jC;unfold Oper.wp;rw[hx,Oper.upon_value];exact hK
def js (k:Nat):Value->Value
 | .tuple vs=>vs.getD k undef
 | v=>v
theorem DJ.extract (j:Nat) {z:Operand} {k:Nat} (ho:o.op=.extract z k) (hg:o.guard=none) (hd:o.dst=some d) (hn:Nat.blt d n=true) (hz:env.op z=some (.v (x j))) (hw:lV ops i j=true) (ht:∀G,dD ops i Γ G->∃vs:Array Value,x j=.tuple vs/\k<vs.size)
  (h:DJ P n ops tail sb bx H Q x y kl (i+1) l ks ((d,.v (js k (x j)))::env) aw Γ au):DJ P n ops tail sb bx H Q x y kl i (o::l) (.fn j (js k)::ks) env aw Γ au:=by
 refine⟨d,hd,hn,hg,hw,fun β a W G _ _ hs hF K hK=>?_,h⟩;obtain⟨vs,hx,hk⟩:=ht G hF;have hv:a.eval z=.tuple vs:=(hs.op (by simp[ho,Op.operands]) hz).trans hx
 have aY:(execOp a.eval o).run P W=.ok (.value (js k (x j))) W:=by
  unfold execOp;simp[ho,hv,Instr.extract,hx,js,hk]
 unfold Oper.wp;rw[aY,Oper.upon_value];exact hK
theorem DJ.nil (h:∀G,H.ro.Le G->BN Γ G->EVL P n ops tail env aw ⟨G,au,H.base⟩ Q):DJ P n ops tail sb bx H Q x y kl i [] [] env aw Γ au:=h
structure PO (P:Program) (f:FuncId) (args:Array Value) (H:Hp) (Φ:Value->Ows->Prop):Prop where
 can:fQ P f
 run:∀W,Fits H W->Fits gH W->Calls P f args W fun e W'=>∃v ow,e=.returned v/\Φ v ow/\Ds W.heap.size W' ow/\Below W.heap.size W W'
theorem DJ.callO {f:FuncId} {args:Array Operand} {bW:Array TypeId} (ho:o.op=.call ⟨.value (.func f),args,bW⟩) (hg:o.guard=none) (hd:o.dst=some d) (hn:Nat.blt d n=true)
  {vs:List Value} (ha:dX env args.toList some=some vs) (hc:fQ P f) {Φ:Value->Ows->Prop} (hpc:∀G,H.ro.Le G->dD ops i Γ G->PO P f vs.toArray G Φ)
  (h:DJ P n ops tail sb bx H Q x y kl (i+1) l ks ((d,.v (x i))::env) aw ((i,fun _=>Φ (x i) (y i))::Γ) (y i++au)):DJ P n ops tail sb bx H Q x y kl i (o::l) (.own Φ::ks) env aw Γ au:=by
 refine⟨d,hd,hn,hg,fun β a W G hle hf hgl hb hs hF=>?_,h⟩;obtain⟨aX,hk,hm⟩:=oz env _ _ _ ha;cases hk;have aG:=hm β G a.eval (fun y s hy=>hs.op (by simp[ho,Op.operands,Call.operands];exact .inr (by simpa using hy)));unfold Oper.wp;rw[yH hc ho aG,Oper.upon_enter];refine((hpc G hle hF).run W hf hgl).mono ?_;rintro e W' ⟨v,ow,rfl,hΦ,aL,dF⟩;exact⟨v,ow,rfl,hΦ,aL,dF⟩
end
theorem Bxs.get_app {sb bx:Bxs} {d:Nat}:(sb++bx).get d=(sb.get d).or (bx.get d):=by
 induction sb with
 | nil=>simp[Bxs.get]
 | cons p sb ih =>
  obtain⟨t,s⟩:=p;show Bxs.get ((t,s)::(sb++bx)) d=_;rw[Bxs.get_cons,Bxs.get_cons];by_cases e:t=d
  ·simp[e]
  ·simp[e,ih]
theorem Bxs.get_app_left {sb bx:Bxs} {d:Nat} (h:(sb.get d).isSome=true):((sb++bx).get d).isSome=true:=by rw[Bxs.get_app];simp[h]
theorem Bxs.get_app_right {sb bx:Bxs} {d:Nat} (h:(bx.get d).isSome=true):((sb++bx).get d).isSome=true:=by rw[Bxs.get_app];simp[h]
def zw (x:Nat->Value) (i:Nat):DK->SV
 | .sv s=>s
 | .call _=>.v (x i)
 | .own _=>.v (x i)
 | .fn j f=>.v (f (x j))
 | .fresh d _ _=>.p d 0
 | .store _ _=>.v undef
 | .setb _ _ _=>.v undef
def tL (o:Oper) (k:DK) (x:Nat->Value) (i:Nat) (env:Env):Env:=match o.dst with
 | some d=>(d,zw x i k)::env
 | none=>env
def bxS (kl:List DK) (x:Nat->Value) (k:DK) (bx:Bxs):Bxs:=match k with
 | .fresh d T z=>(d,T,z)::bx
 | .store al vs=>match kl[al]? with
  | some (.fresh d T _)=>(d,T,vs.at x)::bx
  | _=>bx
 | .setb d T vs=>(d,T,vs.at x)::bx
 | _=>bx
def fcS (i:Nat) (k:DK) (v:Value) (w:Ows) (Γ:fO):fO:=match k with
 | .call Φ=>(i,Φ v)::Γ
 | .own Φ=>(i,fun _=>Φ v w)::Γ
 | _=>Γ
def owS (k:DK) (w:Ows) (ow:Ows):Ows:=match k with
 | .own _=>w++ow
 | _=>ow
def jr (ops:Array Oper) (kl:List DK) (x:Nat->Value) (env:Env):Nat->Env
 | 0=>env
 | i+1=>match ops[i]?,kl[i]? with
  | some o,some k=>tL o k x i (jr ops kl x env i)
  | _,_=>jr ops kl x env i
def bxN (kl:List DK) (x:Nat->Value) (bx:Bxs):Nat->Bxs
 | 0=>bx
 | i+1=>match kl[i]? with
  | some k=>bxS kl x k (bxN kl x bx i)
  | none=>bxN kl x bx i
def fcN (kl:List DK) (x:Nat->Value) (y:Nat->Ows):Nat->fO
 | 0=>[]
 | i+1=>match kl[i]? with
  | some k=>fcS i k (x i) (y i) (fcN kl x y i)
  | none=>fcN kl x y i
def owN (kl:List DK) (y:Nat->Ows) (ow:Ows):Nat->Ows
 | 0=>ow
 | i+1=>match kl[i]? with
  | some k=>owS k (y i) (owN kl y ow i)
  | none=>owN kl y ow i
def DOb (P:Program) (n:Nat) (ops:Array Oper) (sb bx:Bxs) (ow:Ows) (H:Hp) (kl:List DK) (x:Nat->Value) (i:Nat) (o:Oper) (k:DK) (env:Env) (Γ:fO):Prop:=match k with
 | .sv s=>∃d,o.dst=some d/\rF (sb++bx) s=true/\az P ops o env bx ow H (dD ops i Γ) (fun β v G=>s.rep β G v)
 | .call Φ=>∃d,o.dst=some d/\(∀v G G',Φ v G->G.Le G'->Φ v G')/\az P ops o env bx ow H (dD ops i Γ) (fun _ v G=>Φ v G)
 | .own Φ=>∃d,o.dst=some d/\o.guard=none/\QU P ops o env bx H (dD ops i Γ) Φ
 | .fn j f=>∃d,o.dst=some d/\o.guard=none/\lV ops i j=true/\QJ P ops o env bx (dD ops i Γ) (f (x j))
 | .fresh d T z=>o.dst=some d/\(sb++bx).get d=none/\o.guard=none/\R8 P o T z
 | .store al vs=>o.dst=none/\o.guard=none/\∃d T z,kl[al]?=some (.fresh d T z)/\al<i/\Region.waitsFor .any ops i al=true/\vs.deps (fun q=>lV ops i q=true)/\vM P ops o env (dD ops i Γ) d T z (vs.at x)
 | .setb d T vs=>o.dst=none/\o.guard=none/\∃z,sb.get d=some (T,z)/\vs.deps (fun q=>lV ops i q=true)/\vM P ops o env (dD ops i Γ) d T z (vs.at x)
theorem DJ.all {P:Program} {n:Nat} {ops:Array Oper} {tail:List Oper} {sb bx bs:Bxs} {H:Hs} {Q:EQ} {x:Nat->Value} {y:Nat->Ows} {kl:List DK} {env0:Env} :
  ∀(l:List Oper) (i:Nat) (ks:List DK),(∀j,j<l.length->l[j]?=ops[i+j]?)->(∀j,ks[j]?=kl[i+j]?)->DJ P n ops tail sb bx H Q x y kl i l ks (jr ops kl x env0 i) (bxN kl x bs i) (fcN kl x y i) (owN kl y H.ow i) ->
   ks.length=l.length/\(∀j o k,j<l.length->ops[i+j]?=some o->kl[i+j]?=some k->DOb P n ops sb bx H.ow H.ro kl x (i+j) o k (jr ops kl x env0 (i+j)) (fcN kl x y (i+j))) /\
   ∀G,H.ro.Le G->BN (fcN kl x y (i+l.length)) G->EVL P n ops tail (jr ops kl x env0 (i+l.length)) (bxN kl x bs (i+l.length)) ⟨G,owN kl y H.ow (i+l.length),H.base⟩ Q
 | [],i,[],_,_,h=>⟨rfl,fun j o k hj=>(by cases hj),h⟩
 | [],i,k::ks,_,_,h=>by cases k <;> exact h.elim
 | o::l,i,[],_,_,h=>h.elim
 | o::l,i,k::ks,hl,hk,h=>by
  have ho:ops[i]?=some o:=by simpa using (hl 0 (by simp)).symm
  have sQ:kl[i]?=some k:=by simpa using (hk 0).symm
  have step:DOb P n ops sb bx H.ow H.ro kl x i o k (jr ops kl x env0 i) (fcN kl x y i)/\DJ P n ops tail sb bx H Q x y kl (i+1) l ks (jr ops kl x env0 (i+1)) (bxN kl x bs (i+1)) (fcN kl x y (i+1)) (owN kl y H.ow (i+1)):=by
   have e1:jr ops kl x env0 (i+1)=tL o k x i (jr ops kl x env0 i):=by simp[jr,ho,sQ]
   have e2:bxN kl x bs (i+1)=bxS kl x k (bxN kl x bs i):=by simp[bxN,sQ]
   have e3:fcN kl x y (i+1)=fcS i k (x i) (y i) (fcN kl x y i):=by simp[fcN,sQ]
   have e4:owN kl y H.ow (i+1)=owS k (y i) (owN kl y H.ow i):=by simp[owN,sQ]
   rw[e1,e2,e3,e4]
   cases k with
   | sv s=>obtain⟨d,hd,hn,hp,hv,h⟩:=h;exact⟨⟨d,hd,hp,hv⟩,by simpa[tL,hd,bxS,fcS,zw,owS] using h⟩
   | call Φ=>obtain⟨d,hd,hn,hm,hv,h⟩:=h;exact⟨⟨d,hd,hm,hv⟩,by simpa[tL,hd,bxS,fcS,zw,owS] using h⟩
   | own Φ=>obtain⟨d,hd,hn,hg,hv,h⟩:=h;exact⟨⟨d,hd,hg,hv⟩,by simpa[tL,hd,bxS,fcS,zw,owS] using h⟩
   | fn q f=>obtain⟨d,hd,hn,hg,hw,hv,h⟩:=h;exact⟨⟨d,hd,hg,hw,hv⟩,by simpa[tL,hd,bxS,fcS,zw,owS] using h⟩
   | fresh d T z=>obtain⟨hd,hn,kG,hg,ha,h⟩:=h;exact⟨⟨hd,kG,hg,ha⟩,by simpa[tL,hd,bxS,fcS,zw,owS] using h⟩
   | setb d T vs=>obtain⟨hd,hg,z,hz,hq,hs,h⟩:=h;exact⟨⟨hd,hg,z,hz,hq,hs⟩,by simpa[tL,hd,bxS,fcS,owS] using h⟩
   | store al vs=>obtain⟨hd,hg,d,T,z,bH,af,hw,hq,hs,h⟩:=h;exact⟨⟨hd,hg,d,T,z,bH,Nat.blt_eq.mp af,hw,hq,hs⟩,by simpa[tL,hd,bxS,fcS,bH,owS] using h⟩
  obtain⟨nJ,lh⟩:=step;obtain⟨h1,h2,h3⟩:=DJ.all l (i+1) ks (fun j hj=>by have:=hl (j+1) (by simp;omega);rw[show i+1+j=i+(j+1) by omega];simpa using this) (fun j=>by have:=hk (j+1);rw[show i+1+j=i+(j+1) by omega];simpa using this) lh;refine⟨by simp[h1],fun j o' k' hj mT ez=>?_,by rw[show i+(o::l).length=i+1+l.length by simp;omega];exact h3⟩
  cases j with
  | zero =>
   rw[qY]at mT ez;rw[ho]at mT;rw[sQ]at ez;cases mT;cases ez;exact nJ
  | succ j =>
   have:=h2 j o' k' (by simp at hj;omega) (by rw[show i+1+j=i+(j+1) by omega];exact mT) (by rw[show i+1+j=i+(j+1) by omega];exact ez)
   rwa [show i+1+j=i+(j+1) by omega]at this
theorem D7 {ops:Array Oper} {kl:List DK} {x:Nat->Value} {env:Env} {t:Nat} {s:SV}:∀(i:Nat),(jr ops kl x env i).get t=some s ->
  (∃j k,j<i/\zaK ops j=some t/\kl[j]?=some k/\s=zw x j k)\/((∀j,j<i->zaK ops j=some t->kl[j]?=none)/\env.get t=some s)
 | 0,h=>.inr ⟨fun j hj=>by omega,h⟩
 | i+1,h=>by
  unfold jr at h;split at h
  ·rename_i o k ho hk;unfold tL at h;split at h
   ·rename_i d hd;rw[Env.get_cons]at h;by_cases e:d=t
    ·subst e;rw[if_pos rfl]at h;cases h;exact .inl ⟨i,k,by omega,by simp[zaK,ho,hd],hk,rfl⟩
    ·rw[if_neg e]at h;rcases D7 i h with ⟨j,k',h1,h2⟩ | ⟨h1,h2⟩
     ·exact .inl ⟨j,k',by omega,h2⟩
     ·refine .inr ⟨fun j hj jm=>?_,h2⟩;by_cases ej:j=i
      ·subst ej;simp[zaK,ho,hd]at jm;exact absurd jm e
      ·exact h1 j (by omega) jm
   ·rename_i hd;rcases D7 i h with ⟨j,k',h1,h2⟩ | ⟨h1,h2⟩
    ·exact .inl ⟨j,k',by omega,h2⟩
    ·refine .inr ⟨fun j hj jm=>?_,h2⟩;by_cases ej:j=i
     ·subst ej;simp[zaK,ho,hd]at jm
     ·exact h1 j (by omega) jm
  ·rename_i bF;rcases D7 i h with ⟨j,k',h1,h2⟩ | ⟨h1,h2⟩
   ·exact .inl ⟨j,k',by omega,h2⟩
   ·refine .inr ⟨fun j hj jm=>?_,h2⟩;by_cases ej:j=i
    ·subst ej
     cases hk:kl[j]? with
     | none=>rfl
     | some k =>
      cases ho:ops[j]? with
      | none=>simp[zaK,ho]at jm
      | some o=>exact absurd hk (bF o k ho)
    ·exact h1 j (by omega) jm
structure nk (ops:Array Oper) (a0:Act) (m:Nat) (β0:Nat->Nat) (sb bx:Bxs) (H:Hs) (Ws:World) (kl:List DK) (L:Array Bool) (a:Act) (W:World) (x:Nat->Value) (β:Nat->Nat) (G:Hp) (y:Nat->Ows):Prop where
 inv:HeadInv .any ops m L
 size:a.tmps.size=a0.tmps.size
 defers:a.defers=a0.defers
 set:∀i d,zaK ops i=some d->L.getD i false=true->a.tmps[d]?=some (x i)
 old:∀t,(∀i,zaK ops i=some t->L.getD i false=false)->a.tmps[t]?=a0.tmps[t]?
 beta:∀i,((sb++bx).get i).isSome=true->β i=β0 i
 box:DQ bx β W
 off:∀i,(bx.get i).isSome=true->G (β i)=none
 le:H.ro.Le G
 fits:Fits G W
 own:∀(j b:Nat) (T:TypeId) (cs:List Value),H.ow[j]?=some (b,T,cs)->Box W b cs.toArray T/\G b=none
 new:Nw H.ro Ws.heap.size G W
 bel:bK (fun k=>∃d,(sb.get d).isSome=true/\k=β0 d) Ws W
 vals:∀i s,kl[i]?=some (.sv s)->L.getD i false=true->s.rep β G (x i)
 calls:∀i Φ,kl[i]?=some (.call Φ)->L.getD i false=true->Φ (x i) G
 fresh:∀i d T z,kl[i]?=some (.fresh d T z)->L.getD i false=true->x i=Hd (β d)/\Ws.heap.size<=β d/\G (β d)=none /\
  ∃cur:List Value,Box W (β d) cur.toArray T/\(∀j vs,kl[j]?=some (.store i vs)->L.getD j false=true->cur=vs.at x/\vs.deps (fun q=>L.getD q false=true))/\((∀j vs,kl[j]?=some (.store i vs)->L.getD j false=false)->cur=z)
 copies:∀i j f,kl[i]?=some (.fn j f)->L.getD i false=true->x i=f (x j)/\L.getD j false=true
 owned:∀i Φ,kl[i]?=some (.own Φ)->L.getD i false=true->Φ (x i) (y i)/\Ds Ws.heap.size W (y i)/\∀b T cs,(b,T,cs)∈y i->G b=none/\∀j d T z,kl[j]?=some (.fresh d T z)->L.getD j false=true->β d≠b
 ownA:∀i j Φ Ψ b T cs T' aq,i≠j->kl[i]?=some (.own Φ)->kl[j]?=some (.own Ψ)->L.getD i false=true->L.getD j false=true->(b,T,cs)∈y i->(b,T',aq) ∉ y j
 apart:∀i j d T z d' T' z',i≠j->kl[i]?=some (.fresh d T z)->kl[j]?=some (.fresh d' T' z')->L.getD i false=true->L.getD j false=true->β d≠β d'
 sbox:∀d T z,sb.get d=some (T,z)->G (β d)=none/\∃cur:List Value,Box W (β d) cur.toArray T/\(∀j U vs,kl[j]?=some (.setb d U vs)->L.getD j false=true->cur=vs.at x/\vs.deps (fun q=>L.getD q false=true))/\((∀j U vs,kl[j]?=some (.setb d U vs)->L.getD j false=false)->cur=z)
theorem LN {ops:Array Oper} {a0 a:Act} {m:Nat} {L:Array Bool} {x:Nat->Value} (hg:oh ops m a0.tmps.size=true) (cd:a.tmps.size=a0.tmps.size) (jc:∀i d,zaK ops i=some d->L.getD i false=true->a.tmps[d]?=some (x i))
  (hold:∀t,(∀i,zaK ops i=some t->L.getD i false=false)->a.tmps[t]?=a0.tmps[t]?) {i:Nat} (af:i<L.size) (v:Value) :
  (a.put (zaK ops i) v).tmps.size=a0.tmps.size/\(∀j d,zaK ops j=some d->(L.setIfInBounds i true).getD j false=true->(a.put (zaK ops i) v).tmps[d]?=some (upd x i v j)) /\
  (∀t,(∀j,zaK ops j=some t->(L.setIfInBounds i true).getD j false=false)->(a.put (zaK ops i) v).tmps[t]?=a0.tmps[t]?):=by
 refine⟨?_,fun j d hj hl=>?_,fun t ht=>?_⟩
 ·cases zaK ops i <;> simp[Act.put,cd]
 ·by_cases e:j=i
  ·subst e;rw[hj];have:=X4 hg hj;simp[Act.put,upd,cd,this]
  ·have bV:=(Mq hl).resolve_left e;have h1:=jc j d hj bV;simp only[upd,if_neg e]
   cases hd:zaK ops i with
   | none=>simpa[Act.put] using h1
   | some d' =>
    have:d'≠d:=fun e'=>e (RK hg hj (by rw[hd,e']));simp only[Act.put];rw[Array.getElem?_setIfInBounds_ne this];exact h1
 ·have h1:=hold t (fun j hj=>by
   have:=ht j hj
   cases hl:L.getD j false with
   | false=>rfl
   | true=>rw[getD_set_true hl]at this;cases this)
  cases hd:zaK ops i with
  | none=>simpa[Act.put] using h1
  | some d =>
   have:d≠t:=fun e=>by
    subst e;have:=ht i hd;rw[Jh af]at this;cases this
   simp only[Act.put];rw[Array.getElem?_setIfInBounds_ne this];exact h1
section
variable {P:Program} {n:Nat} {ops:Array Oper} {a0:Act} {m:Nat} {β0:Nat->Nat} {sb bx:Bxs} {H:Hs} {Ws:World} {kl:List DK} {L:Array Bool} {a:Act} {W:World} {x:Nat->Value} {β:Nat->Nat} {G:Hp} {y:Nat->Ows} {env0:Env} {W0:World} {H0:Bs}
theorem nk.slot (h:nk ops a0 m β0 sb bx H Ws kl L a W x β G y) (r0:Rel n W0 H0 β0 env0 (sb++bx) H a0 Ws) {i t:Nat} {s:SV} (dK:(jr ops kl x env0 i).get t=some s)
  (F0:∀j,j<i->zaK ops j=some t->kl[j]?≠none->L.getD j false=true) (wV:(∀j,j<i->zaK ops j=some t->kl[j]?=none)->∀j,zaK ops j=some t->L.getD j false=false)
  (aK:∀(j al:Nat) (vs:SC),kl[j]?=some (DK.store al vs)->zaK ops j=none) (dI:∀(j d:Nat) (T:TypeId) (vs:SC),kl[j]?=some (DK.setb d T vs)->zaK ops j=none) :
  ∃u,a.tmps[t]?=some u/\s.rep β G u:=by
 rcases D7 i dK with ⟨j,k,hj,hd,hk,rfl⟩ | ⟨bF,hg⟩
 ·have hl:=F0 j hj hd (by rw[hk];simp);refine⟨x j,h.set j t hd hl,?_⟩
  cases k with
  | sv s=>exact h.vals j s hk hl
  | call Φ=>rfl
  | own Φ=>rfl
  | fn q f=>exact(h.copies j q f hk hl).1
  | fresh d T z=>exact(h.fresh j d T z hk hl).1
  | store al vs=>rw[aK j al vs hk]at hd;cases hd
  | setb d T vs=>rw[dI j d T vs hk]at hd;cases hd
 ·obtain⟨y,hy,hr⟩:=r0.slot t s hg;refine⟨y,by rw[h.old t (wV bF)];exact hy,?_⟩
  cases s with
  | v u=>exact hr
  | p i' off =>
   have:=h.beta i' (r0.pin t i' off hg);simp only[SV.rep,this];exact hr
  | ro cs=>exact SV.rep.mono (s:=.ro cs) hr h.le
theorem nk.sees (h:nk ops a0 m β0 sb bx H Ws kl L a W x β G y) (r0:Rel n W0 H0 β0 env0 (sb++bx) H a0 Ws) (hg:oh ops m a0.tmps.size=true) (aK:∀(j al:Nat) (vs:SC),kl[j]?=some (DK.store al vs)->zaK ops j=none) (dI:∀(j d:Nat) (T:TypeId) (vs:SC),kl[j]?=some (DK.setb d T vs)->zaK ops j=none) (lB:kl.length=m)
  {i:Nat} {o:Oper} (ho:ops[i]?=some o) (iP:i<m) (hr:i∈Region.ready .any ops L):ud ops o (jr ops kl x env0 i) β G a:=by
 intro d s hd dK;simp only[oh,Bool.and_eq_true]at hg;have h1:=List.all_eq_true.1 hg.1.1 i (List.mem_range.2 iP);simp only[QW,ho]at h1;have h2:=List.all_eq_true.1 h1 d hd;have iN:L.getD i false=false:=getD_both (mem_ready.1 hr).1
 have tG:∀j,zaK ops j=some d->(j<i/\Region.waitsFor .any ops i j=true)\/j=i\/(i<j/\Region.waitsFor .any ops j i=true):=fun j hj=>by
  have af:j<ops.size:=by
   unfold zaK at hj
   cases uI:ops[j]? with
   | none=>rw[uI]at hj;cases hj
   | some o=>exact(Array.getElem?_eq_some_iff.1 uI).1
  have h3:=List.all_eq_true.1 h2 j (List.mem_range.2 af);simp only[hj,pP,Bool.false_or,Bool.or_eq_true,Bool.and_eq_true,decide_eq_true_eq,beq_iff_eq]at h3;rcases h3 with (h3 | h3) | h3
  ·exact .inl h3
  ·exact .inr (.inl h3)
  ·exact .inr (.inr h3)
 refine h.slot r0 dK (fun j hj CX _=>?_) (fun bF j CX=>?_) aK dI
 ·rcases tG j CX with h3 | h3 | h3
  ·exact Ir h3.2 hr
  ·omega
  ·omega
 ·rcases tG j CX with h3 | h3 | h3
  ·have:=bF j h3.1 CX;have af:j<kl.length:=by omega
   rw[qA af]at this;cases this
  ·rw[h3];exact iN
  ·exact TG h.inv h3.2 iN
variable {Q:Exit->Act->World->Prop}
theorem nk.step (h:nk ops a0 m β0 sb bx H Ws kl L a W x β G y) (r0:Rel n W0 H0 β0 env0 (sb++bx) H a0 Ws) (hg:oh ops m a0.tmps.size=true) (lB:kl.length=m)
  (aK:∀(j al:Nat) (vs:SC),kl[j]?=some (DK.store al vs)->zaK ops j=none) (dI:∀(j d:Nat) (T:TypeId) (vs:SC),kl[j]?=some (DK.setb d T vs)->zaK ops j=none) (kG:∀(j d:Nat) (T:TypeId) (z:List Value),kl[j]?=some (DK.fresh d T z)->zaK ops j=some d/\(sb++bx).get d=none) (C2:∀d,(sb.get d).isSome=true->bx.get d=none) (jE:∀(j j' d:Nat) (T T':TypeId) (vs aX:SC),kl[j]?=some (DK.setb d T vs)->kl[j']?=some (DK.setb d T' aX)->j=j')
  (yR:∀(j:Nat) (s:SV),kl[j]?=some (DK.sv s)->rF (sb++bx) s=true) (OK:∀(j:Nat) (Φ:Value->Hp->Prop),kl[j]?=some (DK.call Φ)->∀(v:Value) (G G':Hp),Φ v G->G.Le G'->Φ v G')
  (uz:∀(j al:Nat) (vs:SC),kl[j]?=some (DK.store al vs)->Region.waitsFor .any ops j al=true) (eF:∀(j j' al:Nat) (vs aX:SC),kl[j]?=some (DK.store al vs)->kl[j']?=some (DK.store al aX)->j=j')
  {i:Nat} {o:Oper} {k:DK} (ho:ops[i]?=some o) (hk:kl[i]?=some k) (iP:i<m) (hr:i∈Region.ready .any ops L) (hO:DOb P n ops sb bx H.ow H.ro kl x i o k (jr ops kl x env0 i) (fcN kl x y i)) :
  wpOp P ops Q i (fun a' W'=>∃x' β' G' y',nk ops a0 m β0 sb bx H Ws kl (L.setIfInBounds i true) a' W' x' β' G' y') a W:=by
 have jd:=h.sees r0 hg aK dI lB ho iP hr;have ah:Rc H.ow W:=fun j b T cs hj=>(h.own j b T cs hj).1;have mJ:∀d,(sb.get d).isSome=true->((sb++bx).get d).isSome=true:=fun d hd=>Bxs.get_app_left hd;have Ak:∀d,(bx.get d).isSome=true->((sb++bx).get d).isSome=true:=fun d hd=>Bxs.get_app_right hd
 have oB:∀(v:Value) (cur:List Value) (vs:SC),(cur=vs.at x/\vs.deps (fun q=>L.getD q false=true))->cur=vs.at (upd x i v)/\vs.deps (fun q=>(L.setIfInBounds i true).getD q false=true):=by
  intro v cur vs h;refine⟨?_,h.2.mono fun q hq=>getD_set_true hq⟩;rw[h.1]
  cases vs with
  | k vs=>rfl
  | f q g =>
   have hq:L.getD q false=true:=h.2;have iN:L.getD i false=false:=getD_both (mem_ready.1 hr).1;have:q≠i:=fun e=>by subst e;rw[iN]at hq;cases hq
   simp only[SC.at,upd,if_neg this]
 have ny:∀(cur:List Value) (vs:SC),(cur=vs.at x/\vs.deps (fun q=>L.getD q false=true))->cur=vs.at x/\vs.deps (fun q=>(L.setIfInBounds i true).getD q false=true):=fun cur vs h=>⟨h.1,h.2.mono fun q hq=>getD_set_true hq⟩
 have Jq:(∀d T vs,k≠.setb d T vs)->∀(x':Nat->Value) (hx':∀(cur:List Value) (vs:SC),(cur=vs.at x/\vs.deps (fun q=>L.getD q false=true))->cur=vs.at x'/\vs.deps (fun q=>(L.setIfInBounds i true).getD q false=true)) (β':Nat->Nat) (G':Hp) (W':World),(∀d,(sb.get d).isSome=true->β' d=β d)->(∀d,(sb.get d).isSome=true->G (β d)=none->G' (β d)=none)->(∀d T cs,(sb.get d).isSome=true->Box W (β d) cs T->Box W' (β d) cs T)->∀d T z,sb.get d=some (T,z)->G' (β' d)=none/\∃cur:List Value,Box W' (β' d) cur.toArray T/\(∀j U vs,kl[j]?=some (.setb d U vs)->(L.setIfInBounds i true).getD j false=true->cur=vs.at x'/\vs.deps (fun q=>(L.setIfInBounds i true).getD q false=true))/\((∀j U vs,kl[j]?=some (.setb d U vs)->(L.setIfInBounds i true).getD j false=false)->cur=z):=by
  intro bX x' hx' β' G' W' hβ hG hW d T z hz;obtain⟨h1,cur,h2,h3,h4⟩:=h.sbox d T z hz;have hd:(sb.get d).isSome=true:=by rw[hz];rfl
  have hne:∀j U vs,kl[j]?=some (.setb d U vs)->j≠i:=fun j U vs hj e'=>by subst e';rw[hk]at hj;cases hj;exact bX _ _ _ Z
  rw[hβ d hd];refine⟨hG d hd h1,cur,hW d T _ hd h2,fun j U vs hj hl=>hx' _ _ (h3 j U vs hj ((Mq hl).resolve_left (hne j U vs hj))),fun av=>h4 fun j U vs hj=>?_⟩;have:=av j U vs hj
  rwa [getD_set_ne false (Ne.symm (hne j U vs hj))]at this
 have hinv:HeadInv .any ops m (L.setIfInBounds i true):=h.inv.set hr iP;have af:i<L.size:=by rw[h.inv.size];exact(Array.getElem?_eq_some_iff.1 ho).1
 have iN:L.getD i false=false:=getD_both (mem_ready.1 hr).1;have C1:zaK ops i=o.dst:=by simp[zaK,ho]
 have cd:Ws.heap.size<=W.heap.size:=h.bel.size;have bT:∀j,(L.setIfInBounds i true).getD j false=true->j=i\/L.getD j false=true:=fun j hj=>Mq hj
 have Qz:∀v,(∀q f,k=.fn q f->v=f (x q)/\L.getD q false=true)->∀(j q:Nat) (f:Value->Value),kl[j]?=some (DK.fn q f)->(L.setIfInBounds i true).getD j false=true->upd x i v j=f (upd x i v q)/\(L.setIfInBounds i true).getD q false=true:=by
  intro v PA j q f hj hl;have up:L.getD q false=true->(L.setIfInBounds i true).getD q false=true:=fun h=>getD_set_true h;have nq:L.getD q false=true->q≠i:=fun h e=>by subst e;rw[iN]at h;cases h
  by_cases e:j=i
  ·subst e;rw[hk]at hj;cases hj;obtain⟨h1,h2⟩:=PA q f rfl;refine⟨?_,up h2⟩;simp only[upd,if_true,if_neg (nq h2)];exact h1
  ·obtain⟨h1,h2⟩:=h.copies j q f hj ((bT j hl).resolve_left e);refine⟨?_,up h2⟩;simp only[upd,if_neg e,if_neg (nq h2)];exact h1
 have next:∀v G' W',(∀s,k=.sv s->s.rep β G' v)->(∀Φ,k=.call Φ->Φ v G')->(∀d T z,k≠.fresh d T z)->(∀al vs,k≠.store al vs)->(∀d T vs,k≠.setb d T vs)->(∀Φ,k≠.own Φ)->(∀q f,k=.fn q f->v=f (x q)/\L.getD q false=true)->G.Le G'->Fits G' W'->Below W.heap.size W W'->Nw G W.heap.size G' W' ->
   ∃x' β' G'' y',nk ops a0 m β0 sb bx H Ws kl (L.setIfInBounds i true) (a.put o.dst v) W' x' β' G'' y':=by
  intro v G' W' dP Ju JG bX ki bF PA hle hf hb aL;obtain⟨p1,p3,p4⟩:=LN hg h.size h.set h.old af v;rw[C1]at p1 p3 p4;have gone:∀b,b<W.heap.size->G b=none->G' b=none:=fun b dF hG=>aL.gone dF hG
  refine⟨upd x i v,β,G',y,hinv,p1,?_,p3,p4,h.beta,fun j T cs hj=>(h.box j T cs hj).keep hb,fun j hj=>?_,h.le.trans hle,hf,fun j b T cs hj=>⟨(h.own j b T cs hj).1.keep hb,gone b (h.own j b T cs hj).1.lt (h.own j b T cs hj).2⟩,h.new.grow h.fits hb cd aL,h.bel.trans (bK.of_below hb _),?_,?_,?_,Qz v PA,?_,?_,?_,Jq ki _ (oB v) β G' W' (fun _ _=>rfl) (fun d hd hG=>(by
   obtain⟨⟨T,z⟩,hz⟩:=Option.isSome_iff_exists.1 hd;obtain⟨_,cur,h2,_⟩:=h.sbox d T z hz;exact gone _ h2.lt hG)) (fun d T cs _ hB=>hB.keep hb)⟩
  ·have:=h.defers;cases o.dst <;> simpa[Act.put] using this
  ·obtain⟨⟨T,cs⟩,bC⟩:=Option.isSome_iff_exists.1 hj;exact gone _ (h.box j T cs bC).lt (h.off j hj)
  ·intro j s hj hl;by_cases e:j=i
   ·subst e;rw[hk]at hj;cases hj;simpa[upd] using dP s rfl
   ·simp only[upd,if_neg e];exact(h.vals j s hj ((bT j hl).resolve_left e)).mono hle
  ·intro j Φ hj hl;by_cases e:j=i
   ·subst e;rw[hk]at hj;cases hj;simpa[upd] using Ju Φ rfl
   ·simp only[upd,if_neg e];exact OK j Φ hj _ _ _ (h.calls j Φ hj ((bT j hl).resolve_left e)) hle
  ·intro j d T z hj hl;have e:j≠i:=fun e=>by subst e;rw[hk]at hj;cases hj;exact JG _ _ _ Z
   obtain⟨h1,h2,h3,cur,h4,h5,h6⟩:=h.fresh j d T z hj ((bT j hl).resolve_left e);have hne:∀j' vs,kl[j']?=some (.store j vs)->j'≠i:=fun j' vs ak e'=>by subst e';rw[hk]at ak;cases ak;exact bX _ _ Z
   refine⟨by simp only[upd,if_neg e];exact h1,h2,gone _ h4.lt h3,cur,h4.keep hb,fun j' vs ak bV=>oB v _ _ (h5 j' vs ak ((bT j' bV).resolve_left (hne j' vs ak))),fun av=>h6 fun j' vs ak=>?_⟩;have:=av j' vs ak
   rwa [getD_set_ne false (Ne.symm (hne j' vs ak))]at this
  ·intro j Φ hj hl;have e:j≠i:=fun e=>by subst e;rw[hk]at hj;cases hj;exact bF _ Z
   obtain⟨h1,h2,h3⟩:=h.owned j Φ hj ((bT j hl).resolve_left e);refine⟨by simp only[upd,if_neg e];exact h1,⟨h2.1,fun b T cs hm=>⟨(h2.2 b T cs hm).1,(h2.2 b T cs hm).2.keep hb⟩⟩,fun b T cs hm=>⟨gone b (h2.2 b T cs hm).2.lt (h3 b T cs hm).1,fun j' d T' z ak bV=>?_⟩⟩;have e':j'≠i:=fun e=>by subst e;rw[hk]at ak;cases ak;exact JG _ _ _ Z
   exact(h3 b T cs hm).2 j' d T' z ak ((bT j' bV).resolve_left e')
  ·intro j j' Φ Ψ b T cs T' aq iC hj ak hl bV;have e:j≠i:=fun e=>by subst e;rw[hk]at hj;cases hj;exact bF _ Z
   have e':j'≠i:=fun e=>by subst e;rw[hk]at ak;cases ak;exact bF _ Z
   exact h.ownA j j' Φ Ψ b T cs T' aq iC hj ak ((bT j hl).resolve_left e) ((bT j' bV).resolve_left e')
  ·intro j j' d T z d' T' z' iC hj ak hl bV;have e:j≠i:=fun e=>by subst e;rw[hk]at hj;cases hj;exact JG _ _ _ Z
   have e':j'≠i:=fun e=>by subst e;rw[hk]at ak;cases ak;exact JG _ _ _ Z
   exact h.apart j j' d T z d' T' z' iC hj ak ((bT j hl).resolve_left e) ((bT j' bV).resolve_left e')
 have hgl:Fits gH W:=fun b c e=>by
  have hl:=r0.glob.1.lt (b:=b) (by rw[e];simp);rw[h.bel.block b (r0.globW.lt (by rw[e];simp)) (fun⟨d,hd,e'⟩=>by have:=(r0.low d (Bxs.get_app_left hd)).1;omega)];exact r0.globW b c e
 have ph:dD ops i (fcN kl x y i) G:=by
  have:∀q,q<=i->∀j F,(j,F)∈fcN kl x y q->(∃Φ,kl[j]?=some (.call Φ)/\F=Φ (x j))\/∃Φ,kl[j]?=some (.own Φ)/\F=fun _=>Φ (x j) (y j):=by
   intro q
   induction q with
   | zero=>intro _ j F hm;cases hm
   | succ q ih =>
    intro hq j F hm;unfold fcN at hm;split at hm
    ·rename_i k' ez;unfold fcS at hm;split at hm
     ·rename_i Φ;rcases List.mem_cons.1 hm with e | hm
      ·cases e;exact .inl ⟨Φ,ez,rfl⟩
      ·exact ih (by omega) j F hm
     ·rename_i Φ;rcases List.mem_cons.1 hm with e | hm
      ·cases e;exact .inr ⟨Φ,ez,rfl⟩
      ·exact ih (by omega) j F hm
     ·exact ih (by omega) j F hm
    ·exact ih (by omega) j F hm
  intro j F hm hw;rcases this i (qH _) j F hm with ⟨Φ,hΦ,rfl⟩ | ⟨Φ,hΦ,rfl⟩
  ·exact h.calls j Φ hΦ (Ch h.inv hr hw)
  ·exact(h.owned j Φ hΦ (Ch h.inv hr hw)).1
 unfold wpOp;simp only[ho];unfold DOb at hO
 cases k with
 | sv s =>
  obtain⟨d,hd,hp,hO⟩:=hO;have xA:=hO β a W G h.le h.fits hgl h.box ah jd ph;split
  ·rename_i hw;rw[if_pos hw]at xA;refine .inl (Oper.wp_any (Oper.wp_mono ?_ xA));rintro a' W' ⟨v,G',rfl,h1,h2,h3,h4,h5⟩;exact next v G' W' (fun s' e=>by cases e;exact h1) (fun Φ e=>by cases e) (fun _ _ _ e=>by cases e) (fun _ _ e=>by cases e) (fun _ _ _ e=>by cases e) (fun _ e=>by cases e) (fun _ _ e=>by cases e) h2 h3 h4 h5
  ·rename_i hw;rw[if_neg hw]at xA;exact next undef G W (fun s' e=>by cases e;exact xA) (fun Φ e=>by cases e) (fun _ _ _ e=>by cases e) (fun _ _ e=>by cases e) (fun _ _ _ e=>by cases e) (fun _ e=>by cases e) (fun _ _ e=>by cases e) (Hp.Le.refl G) h.fits (Below.refl _ _) (Nw.refl _ _ _)
 | call Φ =>
  obtain⟨d,hd,hm,hO⟩:=hO;have xA:=hO β a W G h.le h.fits hgl h.box ah jd ph;split
  ·rename_i hw;rw[if_pos hw]at xA;refine .inl (Oper.wp_any (Oper.wp_mono ?_ xA));rintro a' W' ⟨v,G',rfl,h1,h2,h3,h4,h5⟩;exact next v G' W' (fun s' e=>by cases e) (fun Φ e=>by cases e;exact h1) (fun _ _ _ e=>by cases e) (fun _ _ e=>by cases e) (fun _ _ _ e=>by cases e) (fun _ e=>by cases e) (fun _ _ e=>by cases e) h2 h3 h4 h5
  ·rename_i hw;rw[if_neg hw]at xA;exact next undef G W (fun s' e=>by cases e) (fun Φ e=>by cases e;exact xA) (fun _ _ _ e=>by cases e) (fun _ _ e=>by cases e) (fun _ _ _ e=>by cases e) (fun _ e=>by cases e) (fun _ _ e=>by cases e) (Hp.Le.refl G) h.fits (Below.refl _ _) (Nw.refl _ _ _)
 | fn q f =>
  obtain⟨d,hd,kF,hwq,hO⟩:=hO;rw[if_pos (by simp[Region.wanted,kF])];refine .inl (Oper.wp_any (hO β a W G h.fits h.box jd ph _ ?_));exact next (f (x q)) G W (fun s' e=>by cases e) (fun Φ e=>by cases e) (fun _ _ _ e=>by cases e) (fun _ _ e=>by cases e) (fun _ _ _ e=>by cases e) (fun _ e=>by cases e) (fun q' f' e=>by cases e;exact⟨rfl,Ch h.inv hr hwq⟩) (Hp.Le.refl G) h.fits (Below.refl _ _) (Nw.refl _ _ _)
 | own Φ =>
  obtain⟨d,hd,kF,hO⟩:=hO;rw[if_pos (by simp[Region.wanted,kF])];refine .inl (Oper.wp_any (Oper.wp_mono ?_ (hO β a W G h.le h.fits hgl h.box jd ph)));rintro a' W' ⟨v,ow,rfl,hΦ,ia,hb⟩;obtain⟨p1,p3,p4⟩:=LN hg h.size h.set h.old af v;rw[C1]at p1 p3 p4;have ynew:∀j,(if j=i then ow else y j)=if j=i then ow else y j:=fun _=>rfl
  refine⟨upd x i v,β,G,fun j=>if j=i then ow else y j,hinv,p1,?_,p3,p4,h.beta,fun j T cs hj=>(h.box j T cs hj).keep hb,h.off,h.le,h.fits.below hb,fun j b T cs hj=>⟨(h.own j b T cs hj).1.keep hb,(h.own j b T cs hj).2⟩,h.new.below h.fits hb,h.bel.trans (bK.of_below hb _),?_,?_,?_,Qz v (fun q f e=>by cases e),?_,?_,?_,Jq (fun _ _ _ e=>by cases e) _ (oB v) β G W' (fun _ _=>rfl) (fun _ _ hG=>hG) (fun d T cs _ hB=>hB.keep hb)⟩
  ·have:=h.defers;cases o.dst <;> simpa[Act.put] using this
  ·intro j s hj hl;have e:j≠i:=fun e=>by subst e;rw[hk]at hj;cases hj
   simp only[upd,if_neg e];exact h.vals j s hj ((bT j hl).resolve_left e)
  ·intro j Ψ hj hl;have e:j≠i:=fun e=>by subst e;rw[hk]at hj;cases hj
   simp only[upd,if_neg e];exact h.calls j Ψ hj ((bT j hl).resolve_left e)
  ·intro j d' T z hj hl;have e:j≠i:=fun e=>by subst e;rw[hk]at hj;cases hj
   obtain⟨h1,h2,h3,cur,h4,h5,h6⟩:=h.fresh j d' T z hj ((bT j hl).resolve_left e);have hne:∀j' vs,kl[j']?=some (.store j vs)->j'≠i:=fun j' vs ak e'=>by subst e';rw[hk]at ak;cases ak
   refine⟨by simp only[upd,if_neg e];exact h1,h2,h3,cur,h4.keep hb,fun j' vs ak bV=>oB v _ _ (h5 j' vs ak ((bT j' bV).resolve_left (hne j' vs ak))),fun av=>h6 fun j' vs ak=>?_⟩;have:=av j' vs ak
   rwa [getD_set_ne false (Ne.symm (hne j' vs ak))]at this
  ·intro j Ψ hj hl;by_cases e:j=i
   ·subst e;rw[hk]at hj;cases hj;refine⟨by simpa[upd] using hΦ,by simp only[if_true];exact⟨ia.1,fun b T cs hm=>⟨qI cd (ia.2 b T cs hm).1,(ia.2 b T cs hm).2⟩⟩,fun b T cs hm=>?_⟩;simp only[if_true]at hm;refine⟨?_,fun j' d' T' z ak bV=>?_⟩
    ·cases hc:G b with
     | none=>rfl
     | some c=>have:=h.fits.lt (b:=b) (by rw[hc];simp);have:=(ia.2 b T cs hm).1;omega
    ·have e':j'≠j:=fun e=>by subst e;rw[hk]at ak;cases ak
     obtain⟨_,_,_,cur,h4,_⟩:=h.fresh j' d' T' z ak ((bT j' bV).resolve_left e');have:=h4.lt;have:=(ia.2 b T cs hm).1;omega
   ·obtain⟨h1,h2,h3⟩:=h.owned j Ψ hj ((bT j hl).resolve_left e);simp only[upd,if_neg e];refine⟨h1,⟨h2.1,fun b T cs hm=>⟨(h2.2 b T cs hm).1,(h2.2 b T cs hm).2.keep hb⟩⟩,fun b T cs hm=>⟨(h3 b T cs hm).1,fun j' d' T' z ak bV=>?_⟩⟩;have e':j'≠i:=fun e=>by subst e;rw[hk]at ak;cases ak
    exact(h3 b T cs hm).2 j' d' T' z ak ((bT j' bV).resolve_left e')
  ·intro j j' Ψ Ψ' b T cs T' aq iC hj ak hl bV hm lz;by_cases e:j=i
   ·have e':j'≠i:=fun e'=>iC (e.trans e'.symm);simp only[if_pos e,if_neg e']at hm lz;have h1:=(ia.2 b T cs hm).1;have h2:=((h.owned j' Ψ' ak ((bT j' bV).resolve_left e')).2.1.2 b T' aq lz).2.lt;omega
   ·by_cases e':j'=i
    ·simp only[if_neg e,if_pos e']at hm lz;have h1:=(ia.2 b T' aq lz).1;have h2:=((h.owned j Ψ hj ((bT j hl).resolve_left e)).2.1.2 b T cs hm).2.lt;omega
    ·simp only[if_neg e,if_neg e']at hm lz;exact h.ownA j j' Ψ Ψ' b T cs T' aq iC hj ak ((bT j hl).resolve_left e) ((bT j' bV).resolve_left e') hm lz
  ·intro j j' d1 T1 z1 d2 T2 z2 iC hj ak hl bV;have e:j≠i:=fun e=>by subst e;rw[hk]at hj;cases hj
   have e':j'≠i:=fun e=>by subst e;rw[hk]at ak;cases ak
   exact h.apart j j' d1 T1 z1 d2 T2 z2 iC hj ak ((bT j hl).resolve_left e) ((bT j' bV).resolve_left e')
 | fresh d T z =>
  obtain⟨hd,Gg,kF,hO⟩:=hO;rw[if_pos (by simp[Region.wanted,kF])];refine .inl (Oper.wp_any (hO a W _ ?_));have hb:Below W.heap.size W (W.alloc (.cells z.toArray T)):=(Below.refl _ _).alloc (qH _) _;obtain⟨p1,p3,p4⟩:=LN hg h.size h.set h.old af (Hd W.heap.size);rw[C1]at p1 p3 p4;have lJ:∀j,((sb++bx).get j).isSome=true->j≠d:=fun j hj e=>by subst e;rw[Gg]at hj;cases hj
  have dt:∀j,(bx.get j).isSome=true->j≠d:=fun j hj=>lJ j (Ak j hj);have ze:∀j d' T' z',j≠i->kl[j]?=some (.fresh d' T' z')->d'≠d:=fun j d' T' z' hj hkj e=>hj (RK hg (kG j d' T' z' hkj).1 (by rw[C1,hd,e]));refine⟨upd x i (Hd W.heap.size),fun j=>if j=d then W.heap.size else β j,G,y,hinv,p1,?_,p3,p4,fun j hj=>by simp only[if_neg (lJ j hj)];exact h.beta j hj,fun j T' cs hj=>?_,fun j hj=>by simp only[if_neg (dt j hj)];exact h.off j hj,h.le,h.fits.below hb,fun j b T cs hj=>⟨(h.own j b T cs hj).1.keep hb,(h.own j b T cs hj).2⟩,h.new.alloc h.fits _,h.bel.alloc _,?_,?_,?_,Qz _ (fun q f e=>by cases e),?_,?_,?_,Jq (fun _ _ _ e=>by cases e) _ (oB _) _ G _ (fun d' jm=>if_neg (lJ d' (mJ d' jm))) (fun _ _ hG=>hG) (fun d' T cs _ hB=>hB.keep hb)⟩
  ·have:=h.defers;cases o.dst <;> simpa[Act.put] using this
  ·simp only[if_neg (dt j (by rw[hj];rfl))];exact(h.box j T' cs hj).keep hb
  ·intro j s hj hl;have e:j≠i:=fun e=>by subst e;rw[hk]at hj;cases hj
   simp only[upd,if_neg e];have hv:=h.vals j s hj ((bT j hl).resolve_left e)
   cases s with
   | v u=>exact hv
   | p i' off =>
    have:=lJ i' (yR j _ hj);simp only[SV.rep,if_neg this];exact hv
   | ro cs=>exact hv
  ·intro j Φ hj hl;have e:j≠i:=fun e=>by subst e;rw[hk]at hj;cases hj
   simp only[upd,if_neg e];exact h.calls j Φ hj ((bT j hl).resolve_left e)
  ·intro j d' T' z' hj hl;by_cases e:j=i
   ·subst e;rw[hk]at hj;cases hj;refine⟨by simp[upd],by simpa using cd,?_,z,by simpa using Box.new W z.toArray T,fun j' vs ak bV=>?_,fun _=>rfl⟩
    ·simp only[if_true]
     cases hc:G W.heap.size with
     | none=>rfl
     | some c=>exact absurd (h.fits.lt (b:=W.heap.size) (by rw[hc];simp)) (Nat.lt_irrefl _)
    ·have hne:j'≠j:=fun e'=>by subst e';rw[hk]at ak;cases ak
     have:=(bT j' bV).resolve_left hne;rw[TG h.inv (uz j' j vs ak) iN]at this;cases this
   ·obtain⟨h1,h2,h3,cur,h4,h5,h6⟩:=h.fresh j d' T' z' hj ((bT j hl).resolve_left e);have hne:=ze j d' T' z' e hj;have bX:∀j' vs,kl[j']?=some (.store j vs)->j'≠i:=fun j' vs ak e'=>by subst e';rw[hk]at ak;cases ak
    simp only[if_neg hne];refine⟨by simp only[upd,if_neg e];exact h1,h2,h3,cur,h4.keep hb,fun j' vs ak bV=>oB _ _ _ (h5 j' vs ak ((bT j' bV).resolve_left (bX j' vs ak))),fun av=>h6 fun j' vs ak=>?_⟩;have:=av j' vs ak
    rwa [getD_set_ne false (Ne.symm (bX j' vs ak))]at this
  ·intro j Φ hj hl;have e:j≠i:=fun e=>by subst e;rw[hk]at hj;cases hj
   obtain⟨h1,h2,h3⟩:=h.owned j Φ hj ((bT j hl).resolve_left e);refine⟨by simp only[upd,if_neg e];exact h1,⟨h2.1,fun b T cs hm=>⟨(h2.2 b T cs hm).1,(h2.2 b T cs hm).2.keep hb⟩⟩,fun b T cs hm=>⟨(h3 b T cs hm).1,fun j' d' T' z' ak bV=>?_⟩⟩;by_cases e':j'=i
   ·subst e';rw[hk]at ak;cases ak;simp only[if_true];have:=(h2.2 b T cs hm).2.lt;omega
   ·simp only[if_neg (ze j' d' T' z' e' ak)];exact(h3 b T cs hm).2 j' d' T' z' ak ((bT j' bV).resolve_left e')
  ·intro j j' Φ Ψ b T cs T' aq iC hj ak hl bV;have e:j≠i:=fun e=>by subst e;rw[hk]at hj;cases hj
   have e':j'≠i:=fun e=>by subst e;rw[hk]at ak;cases ak
   exact h.ownA j j' Φ Ψ b T cs T' aq iC hj ak ((bT j hl).resolve_left e) ((bT j' bV).resolve_left e')
  ·intro j j' d1 T1 z1 d2 T2 z2 iC hj ak hl bV
   have yJ:∀j d' T' z',kl[j]?=some (.fresh d' T' z')->L.getD j false=true->β d'≠W.heap.size:=fun j d' T' z' hj hl e=>by
    obtain⟨_,_,_,cur,h4,_⟩:=h.fresh j d' T' z' hj hl;have:=h4.lt;omega
   by_cases e:j=i
   ·subst e;rw[hk]at hj;cases hj;have e':j'≠j:=fun e=>iC e.symm;simp only[if_true,if_neg (ze j' d2 T2 z2 e' ak)];exact(yJ j' d2 T2 z2 ak ((bT j' bV).resolve_left e')).symm
   ·by_cases e':j'=i
    ·subst e';rw[hk]at ak;cases ak;simp only[if_true,if_neg (ze j d1 T1 z1 e hj)];exact yJ j d1 T1 z1 hj ((bT j hl).resolve_left e)
    ·simp only[if_neg (ze j d1 T1 z1 e hj),if_neg (ze j' d2 T2 z2 e' ak)];exact h.apart j j' d1 T1 z1 d2 T2 z2 iC hj ak ((bT j hl).resolve_left e) ((bT j' bV).resolve_left e')
 | store al vs =>
  obtain⟨hd,kF,d,T,z,bH,halt,Au,hq,hO⟩:=hO;rw[if_pos (by simp[Region.wanted,kF])];have kj:=Ir Au hr;obtain⟨f1,f2,f3,cur,f4,f5,f6⟩:=h.fresh al d T z bH kj;have fI:cur=z:=f6 fun j' aX ak=>by rw[eF j' i al aX vs ak hk];exact iN
  subst fI;refine .inl (Oper.wp_any (hO β a W G jd ph f4 _ ?_));intro W' hB hK;have kJ:zaK ops i=none:=by rw[C1,hd]
  have blk:∀j T' aq,Box W j aq T'->j≠β d->Box W' j aq T':=fun j T' aq dt hne=>(hK.block j dt.lt hne).trans dt
  have kY:∀j,((sb++bx).get j).isSome=true->β j≠β d:=fun j hj e=>by
   have h1:=r0.lt hj;rw[<-h.beta j hj]at h1;omega
  have Ai:∀j,(bx.get j).isSome=true->β j≠β d:=fun j hj=>kY j (Ak j hj)
  have Ah:∀(j b:Nat) (T:TypeId) (cs:List Value),H.ow[j]?=some (b,T,cs)->b≠β d:=fun j b T cs hj e=>by
   have:=(r0.own j b T cs hj).1.lt;omega
  refine⟨x,β,G,y,hinv,h.size,h.defers,fun j d' hj hl=>h.set j d' hj ((bT j hl).resolve_left (fun e=>by subst e;rw[kJ]at hj;cases hj)),fun t ht=>h.old t (fun j hj=>?_),h.beta,fun j T' aq hj=>blk _ _ _ (h.box j T' aq hj) (Ai j (by rw[hj];rfl)),h.off,h.le,fun b c hc=>?_,fun j b T' aq hj=>⟨blk _ _ _ (h.own j b T' aq hj).1 (Ah j b T' aq hj),(h.own j b T' aq hj).2⟩,h.new.kept h.fits hK (fun b hb e=>hb (by rw[e];exact f3)),?_,fun j s hj hl=>h.vals j s hj ((bT j hl).resolve_left (fun e=>by subst e;rw[hk]at hj;cases hj)),fun j Φ hj hl=>h.calls j Φ hj ((bT j hl).resolve_left (fun e=>by subst e;rw[hk]at hj;cases hj)),?_,fun j q f hj hl=>(by
    obtain⟨h1,h2⟩:=h.copies j q f hj ((bT j hl).resolve_left (fun e=>by subst e;rw[hk]at hj;cases hj));exact⟨h1,getD_set_true h2⟩),?_,fun j j' Φ Ψ b T' cs T'' aq iC hj ak hl bV=>h.ownA j j' Φ Ψ b T' cs T'' aq iC hj ak ((bT j hl).resolve_left (fun e=>by subst e;rw[hk]at hj;cases hj)) ((bT j' bV).resolve_left (fun e=>by subst e;rw[hk]at ak;cases ak)),?_,Jq (fun _ _ _ e=>by cases e) _ ny β G W' (fun _ _=>rfl) (fun _ _ hG=>hG) (fun d' T cs jm hB=>blk _ _ _ hB (kY d' (mJ d' jm)))⟩
  ·have:=ht j hj
   cases hl:L.getD j false with
   | false=>rfl
   | true=>rw[getD_set_true hl]at this;cases this
  ·have hne:b≠β d:=fun e=>by subst e;rw[f3]at hc;cases hc
   rw[hK.block b (h.fits.lt (by rw[hc];simp)) hne];exact h.fits b c hc
  ·exact h.bel.then hK (fun j hj e=>by omega)
  ·intro j d' T' z' hj hl;have e:j≠i:=fun e=>by subst e;rw[hk]at hj;cases hj
   have bV:=(bT j hl).resolve_left e;obtain⟨g1,g2,g3,tF,g4,g5,g6⟩:=h.fresh j d' T' z' hj bV;by_cases ej:j=al
   ·subst ej;rw[bH]at hj;cases hj;refine⟨g1,g2,g3,vs.at x,hB,fun j' aX ak _=>?_,fun av=>?_⟩
    ·have:=eF j' i j aX vs ak hk;subst this;rw[hk]at ak;cases ak;exact⟨rfl,hq.mono fun q h'=>getD_set_true (Ch h.inv hr h')⟩
    ·have:=av i vs hk;rw[Jh af]at this;cases this
   ·have hne:∀j' aX,kl[j']?=some (.store j aX)->j'≠i:=fun j' aX ak e'=>by subst e';rw[hk]at ak;cases ak;exact ej Z
    refine⟨g1,g2,g3,tF,blk _ _ _ g4 (h.apart j al d' T' z' d T cur ej hj bH bV kj),fun j' aX ak A7=>ny _ _ (g5 j' aX ak ((bT j' A7).resolve_left (hne j' aX ak))),fun av=>g6 fun j' aX ak=>?_⟩;have:=av j' aX ak
    rwa [getD_set_ne false (Ne.symm (hne j' aX ak))]at this
  ·intro j Φ hj hl;have e:j≠i:=fun e=>by subst e;rw[hk]at hj;cases hj
   obtain⟨h1,h2,h3⟩:=h.owned j Φ hj ((bT j hl).resolve_left e);refine⟨h1,⟨h2.1,fun b T' aq hm=>⟨(h2.2 b T' aq hm).1,blk _ _ _ (h2.2 b T' aq hm).2 (fun e'=>(h3 b T' aq hm).2 al d T cur bH kj e'.symm)⟩⟩,fun b T' aq hm=>⟨(h3 b T' aq hm).1,fun j' d' T'' z' ak bV=>?_⟩⟩;have e':j'≠i:=fun e=>by subst e;rw[hk]at ak;cases ak
   exact(h3 b T' aq hm).2 j' d' T'' z' ak ((bT j' bV).resolve_left e')
  ·intro j j' d1 T1 z1 d2 T2 z2 iC hj ak hl bV;have e:j≠i:=fun e=>by subst e;rw[hk]at hj;cases hj
   have e':j'≠i:=fun e=>by subst e;rw[hk]at ak;cases ak
   exact h.apart j j' d1 T1 z1 d2 T2 z2 iC hj ak ((bT j hl).resolve_left e) ((bT j' bV).resolve_left e')
 | setb d T vs =>
  obtain⟨hd,kF,z,hz,hq,hO⟩:=hO;rw[if_pos (by simp[Region.wanted,kF])];have kI:(sb.get d).isSome=true:=by rw[hz];rfl
  obtain⟨f3,cur,f4,f5,f6⟩:=h.sbox d T z hz;have fI:cur=z:=f6 fun j' U aX ak=>by rw[jE j' i d U T aX vs ak hk];exact iN
  subst fI;refine .inl (Oper.wp_any (hO β a W G jd ph f4 _ ?_));intro W' hB hK;have kJ:zaK ops i=none:=by rw[C1,hd]
  have blk:∀j T' aq,Box W j aq T'->j≠β d->Box W' j aq T':=fun j T' aq dt hne=>(hK.block j dt.lt hne).trans dt;have bd:=h.beta d (mJ d kI)
  have kY:∀j,j≠d->((sb++bx).get j).isSome=true->β j≠β d:=fun j hj hs e=>by
   rw[h.beta j hs,bd]at e;exact hj (r0.inj j d hs (mJ d kI) e)
  have Ai:∀j,(bx.get j).isSome=true->β j≠β d:=fun j hj=>kY j (fun e=>by subst e;rw[C2 j kI]at hj;cases hj) (Ak j hj);have dlow:β d<Ws.heap.size:=by rw[bd];exact r0.lt (mJ d kI)
  have Ah:∀(j b:Nat) (T:TypeId) (cs:List Value),H.ow[j]?=some (b,T,cs)->b≠β d:=fun j b T cs hj e=>by
   rw[bd]at e;exact(r0.own j b T cs hj).2.2.2 d (mJ d kI) e.symm
  have ne:∀j k',kl[j]?=some k'->(∀d T vs,k'≠.setb d T vs)->j≠i:=fun j k' hj ez e=>by subst e;rw[hk]at hj;cases hj;exact ez _ _ _ Z
  refine⟨x,β,G,y,hinv,h.size,h.defers,fun j d' hj hl=>h.set j d' hj ((bT j hl).resolve_left (fun e=>by subst e;rw[kJ]at hj;cases hj)),fun t ht=>h.old t (fun j hj=>?_),h.beta,fun j T' aq hj=>blk _ _ _ (h.box j T' aq hj) (Ai j (by rw[hj];rfl)),h.off,h.le,fun b c hc=>?_,fun j b T' aq hj=>⟨blk _ _ _ (h.own j b T' aq hj).1 (Ah j b T' aq hj),(h.own j b T' aq hj).2⟩,h.new.kept h.fits hK (fun b hb e=>hb (by rw[e];exact f3)),?_,fun j s hj hl=>h.vals j s hj ((bT j hl).resolve_left (fun e=>by subst e;rw[hk]at hj;cases hj)),fun j Φ hj hl=>h.calls j Φ hj ((bT j hl).resolve_left (fun e=>by subst e;rw[hk]at hj;cases hj)),?_,fun j q f hj hl=>(by
    obtain⟨h1,h2⟩:=h.copies j q f hj ((bT j hl).resolve_left (fun e=>by subst e;rw[hk]at hj;cases hj));exact⟨h1,getD_set_true h2⟩),?_,fun j j' Φ Ψ b T' cs T'' aq iC hj ak hl bV=>h.ownA j j' Φ Ψ b T' cs T'' aq iC hj ak ((bT j hl).resolve_left (fun e=>by subst e;rw[hk]at hj;cases hj)) ((bT j' bV).resolve_left (fun e=>by subst e;rw[hk]at ak;cases ak)),fun j j' d1 T1 z1 d2 T2 z2 iC hj ak hl bV=>h.apart j j' d1 T1 z1 d2 T2 z2 iC hj ak ((bT j hl).resolve_left (fun e=>by subst e;rw[hk]at hj;cases hj)) ((bT j' bV).resolve_left (fun e=>by subst e;rw[hk]at ak;cases ak)),?_⟩
  ·have:=ht j hj
   cases hl:L.getD j false with
   | false=>rfl
   | true=>rw[getD_set_true hl]at this;cases this
  ·have hne:b≠β d:=fun e=>by subst e;rw[f3]at hc;cases hc
   rw[hK.block b (h.fits.lt (by rw[hc];simp)) hne];exact h.fits b c hc
  ·exact h.bel.then hK (fun j hj e=>⟨d,kI,e.trans bd⟩)
  ·intro j d' T' z' hj hl;have bV:=(bT j hl).resolve_left (ne j _ hj (fun _ _ _ e=>by cases e));obtain⟨g1,g2,g3,tF,g4,g5,g6⟩:=h.fresh j d' T' z' hj bV;have hne:∀j' aX,kl[j']?=some (.store j aX)->j'≠i:=fun j' aX ak=>ne j' _ ak (fun _ _ _ e=>by cases e);refine⟨g1,g2,g3,tF,blk _ _ _ g4 (by omega),fun j' aX ak A7=>ny _ _ (g5 j' aX ak ((bT j' A7).resolve_left (hne j' aX ak))),fun av=>g6 fun j' aX ak=>?_⟩;have:=av j' aX ak
   rwa [getD_set_ne false (Ne.symm (hne j' aX ak))]at this
  ·intro j Φ hj hl;obtain⟨h1,h2,h3⟩:=h.owned j Φ hj ((bT j hl).resolve_left (ne j _ hj (fun _ _ _ e=>by cases e)));refine⟨h1,⟨h2.1,fun b T' aq hm=>⟨(h2.2 b T' aq hm).1,blk _ _ _ (h2.2 b T' aq hm).2 (by have:=(h2.2 b T' aq hm).1;omega)⟩⟩,fun b T' aq hm=>⟨(h3 b T' aq hm).1,fun j' d' T'' z' ak bV=>?_⟩⟩;exact(h3 b T' aq hm).2 j' d' T'' z' ak ((bT j' bV).resolve_left (ne j' _ ak (fun _ _ _ e=>by cases e)))
  ·intro d' T' z' hz';obtain⟨g1,tF,g2,g3,g4⟩:=h.sbox d' T' z' hz';by_cases e:d'=d
   ·subst e;rw[hz]at hz';cases hz';refine⟨f3,vs.at x,hB,fun j U aX hj _=>?_,fun av=>?_⟩
    ·have:=jE j i d' U T aX vs hj hk;subst this;rw[hk]at hj;cases hj;exact⟨rfl,hq.mono fun q h'=>getD_set_true (Ch h.inv hr h')⟩
    ·have:=av i T vs hk;rw[Jh af]at this;cases this
   ·have hne:∀j U aX,kl[j]?=some (.setb d' U aX)->j≠i:=fun j U aX hj e'=>by subst e';rw[hk]at hj;cases hj;exact e Z
    refine⟨g1,tF,blk _ _ _ g2 (kY d' e (mJ d' (by rw[hz'];rfl))),fun j U aX hj hl=>ny _ _ (g3 j U aX hj ((bT j hl).resolve_left (hne j U aX hj))),fun av=>g4 fun j U aX hj=>?_⟩;have:=av j U aX hj
    rwa [getD_set_ne false (Ne.symm (hne j U aX hj))]at this
end
def ot:Nat->List DK->List Nat->Bool
 | _,[],_=>true
 | i,.store al _::l,seen => !seen.contains al && ot (i+1) l (al::seen)
 | i,_::l,seen=>ot (i+1) l seen
theorem ML:∀(l:List DK) (i:Nat) (seen:List Nat),ot i l seen=true->(∀(j al:Nat) (vs:SC),l[j]?=some (DK.store al vs)->al ∉ seen)/\(∀(j j' al:Nat) (vs aX:SC),l[j]?=some (DK.store al vs)->l[j']?=some (DK.store al aX)->j=j')
 | [],_,_,_=>⟨fun j al vs h=>by simp at h,fun j j' al vs aX h=>by simp at h⟩
 | k::l,i,seen,h=>by
  have other:(∀al vs,k≠.store al vs)->ot (i+1) l seen=true:=fun hk=>by
   cases k with
   | store al vs=>exact absurd Z (hk al vs)
   | _=>exact h
  by_cases hk:∃al vs,k=.store al vs
  ·obtain⟨al,vs,rfl⟩:=hk;simp only[ot,Bool.and_eq_true,Bool.not_eq_true',List.contains_eq_mem,decide_eq_false_iff_not]at h;obtain⟨h1,h2⟩:=ML l (i+1) (al::seen) h.2;refine⟨fun j uZ aX hj=>?_,fun j j' uZ vs1 vs2 hj ak=>?_⟩
   ·cases j with
    | zero=>simp at hj;obtain⟨rfl,rfl⟩:=hj;exact h.1
    | succ j=>exact fun hm=>h1 j uZ aX (by simpa using hj) (qk _ hm)
   ·cases j with
    | zero =>
     simp at hj;obtain⟨rfl,rfl⟩:=hj
     cases j' with
     | zero=>rfl
     | succ j'=>exact absurd (qf ..) (h1 j' al vs2 (by simpa using ak))
    | succ j =>
     cases j' with
     | zero=>simp at ak;obtain⟨rfl,rfl⟩:=ak;exact absurd (qf ..) (h1 j al vs1 (by simpa using hj))
     | succ j'=>rw[h2 j j' uZ vs1 vs2 (by simpa using hj) (by simpa using ak)]
  ·have bF:∀al vs,k≠.store al vs:=fun al vs e=>hk ⟨al,vs,e⟩;obtain⟨h1,h2⟩:=ML l (i+1) seen (other bF);refine⟨fun j uZ aX hj=>?_,fun j j' uZ vs1 vs2 hj ak=>?_⟩
   ·cases j with
    | zero=>simp at hj;exact absurd hj (bF uZ aX)
    | succ j=>exact h1 j uZ aX (by simpa using hj)
   ·cases j with
    | zero=>simp at hj;exact absurd hj (bF uZ vs1)
    | succ j =>
     cases j' with
     | zero=>simp at ak;exact absurd ak (bF uZ vs2)
     | succ j'=>rw[h2 j j' uZ vs1 vs2 (by simpa using hj) (by simpa using ak)]
def od:List DK->List Nat->Bool
 | [],_=>true
 | .setb d _ _::l,seen => !seen.contains d && od l (d::seen)
 | _::l,seen=>od l seen
theorem Mi:∀(l:List DK) (seen:List Nat),od l seen=true->(∀(j d:Nat) (T:TypeId) (vs:SC),l[j]?=some (DK.setb d T vs)->d ∉ seen)/\(∀(j j' d:Nat) (T T':TypeId) (vs aX:SC),l[j]?=some (DK.setb d T vs)->l[j']?=some (DK.setb d T' aX)->j=j')
 | [],seen,_=>⟨fun j d T vs h=>by simp at h,fun j j' d T T' vs aX h=>by simp at h⟩
 | k::l,seen,h=>by
  by_cases hk:∃d T vs,k=.setb d T vs
  ·obtain⟨d,T,vs,rfl⟩:=hk;simp only[od,Bool.and_eq_true,Bool.not_eq_true',List.contains_eq_mem,decide_eq_false_iff_not]at h;obtain⟨h1,h2⟩:=Mi l (d::seen) h.2
   have old:∀(j d':Nat) (T':TypeId) (aX:SC),l[j]?=some (DK.setb d' T' aX)->d'≠d/\d' ∉ seen:=fun j d' T' aX hj=>by
    have:=h1 j d' T' aX hj;simp only[List.mem_cons,not_or]at this;exact this
   refine⟨fun j d' T' aX hj=>?_,fun j j' d' T1 T2 v1 v2 hj ak=>?_⟩
   ·cases j with
    | zero=>simp at hj;obtain⟨rfl,_,_⟩:=hj;exact h.1
    | succ j=>exact(old j d' T' aX (by simpa using hj)).2
   ·cases j with
    | zero =>
     cases j' with
     | zero=>rfl
     | succ j' =>
      simp at hj;obtain⟨rfl,_,_⟩:=hj;exact absurd Z (old j' d T2 v2 (by simpa using ak)).1
    | succ j =>
     cases j' with
     | zero =>
      simp at ak;obtain⟨rfl,_,_⟩:=ak;exact absurd Z (old j d T1 v1 (by simpa using hj)).1
     | succ j'=>rw[h2 j j' d' T1 T2 v1 v2 (by simpa using hj) (by simpa using ak)]
  ·have bF:∀d T vs,k≠.setb d T vs:=fun d T vs e=>hk ⟨d,T,vs,e⟩
   have h':od l seen=true:=by
    cases k <;> first|exact h|exact absurd Z (bF _ _ _)
   obtain⟨h1,h2⟩:=Mi l seen h';refine⟨fun j d' T' aX hj=>?_,fun j j' d' T1 T2 v1 v2 hj ak=>?_⟩
   ·cases j with
    | zero=>simp at hj;exact absurd hj (bF d' T' aX)
    | succ j=>exact h1 j d' T' aX (by simpa using hj)
   ·cases j with
    | zero=>simp at hj;exact absurd hj (bF d' T1 v1)
    | succ j =>
     cases j' with
     | zero=>simp at ak;exact absurd ak (bF d' T2 v2)
     | succ j'=>rw[h2 j j' d' T1 T2 v1 v2 (by simpa using hj) (by simpa using ak)]
def BK (ops:Array Oper) (m:Nat):Bool:=(List.range ops.size).all fun i=>decide (i<m) || (List.range m).all fun j=>lV ops i j
theorem zoQ {ops:Array Oper} {m:Nat} (h:BK ops m=true) {i j:Nat} (hi:i<ops.size) (iP:m<=i) (hj:j<m):lV ops i j=true:=by
 have h1:=List.all_eq_true.1 h i (List.mem_range.2 hi);simp only[Bool.or_eq_true,decide_eq_true_eq]at h1;rcases h1 with h1 | h1
 ·omega
 ·exact List.all_eq_true.1 h1 j (List.mem_range.2 hj)
section
variable {P:Program} {n:Nat} {ops:Array Oper} {a0:Act} {m:Nat} {β0:Nat->Nat} {sb bx:Bxs} {H:Hs} {Ws:World} {kl:List DK} {env0:Env} {W0:World} {H0:Bs} {Q:Exit->Act->World->Prop}
theorem nk.all (r0:Rel n W0 H0 β0 env0 (sb++bx) H a0 Ws) (Bh:BV ops=true) (hg:oh ops m a0.tmps.size=true) (hm:m<=ops.size) (rY:m=ops.size\/(m<ops.size/\Region.sinkB .any ops m=true/\Region.chainB .any ops m=true)\/BK ops m=true) (lB:kl.length=m)
  (hO:∀(x:Nat->Value) (y:Nat->Ows) (i:Nat) (o:Oper) (k:DK),i<m->ops[i]?=some o->kl[i]?=some k->DOb P n ops sb bx H.ow H.ro kl x i o k (jr ops kl x env0 i) (fcN kl x y i)) (eF:∀(j j' al:Nat) (vs aX:SC),kl[j]?=some (DK.store al vs)->kl[j']?=some (DK.store al aX)->j=j') (C2:∀d,(sb.get d).isSome=true->bx.get d=none) (jE:∀(j j' d:Nat) (T T':TypeId) (vs aX:SC),kl[j]?=some (DK.setb d T vs)->kl[j']?=some (DK.setb d T' aX)->j=j')
  (Bg:∀L a W x β G y,nk ops a0 m β0 sb bx H Ws kl L a W x β G y->(∀i,i<m->L.getD i false=true)->wpAny P .any ops Q (ops.size-m) L a W) :
  ∀(f:Nat) (L:Array Bool) (a:Act) (W:World) (x:Nat->Value) (β:Nat->Nat) (G:Hp) (y:Nat->Ows),unl L m=f->nk ops a0 m β0 sb bx H Ws kl L a W x β G y->wpAny P .any ops Q (f+(ops.size-m)) L a W:=by
 have mh:∀(i:Nat) (k:DK),kl[i]?=some k->∃o,ops[i]?=some o/\i<m:=fun i k hk=>by
  have h1:i<kl.length:=(qE.1 hk).1;exact⟨ops[i]'(by omega),Array.getElem?_eq_getElem (by omega),by omega⟩
 have aK:∀(j al:Nat) (vs:SC),kl[j]?=some (DK.store al vs)->zaK ops j=none:=fun j al vs hk=>by
  obtain⟨o,ho,hj⟩:=mh j _ hk;have:=hO (fun _=>undef) (fun _=>[]) j o _ hj ho hk;unfold DOb at this;simp[zaK,ho,this.1]
 have dI:∀(j d:Nat) (T:TypeId) (vs:SC),kl[j]?=some (DK.setb d T vs)->zaK ops j=none:=fun j d T vs hk=>by
  obtain⟨o,ho,hj⟩:=mh j _ hk;have:=hO (fun _=>undef) (fun _=>[]) j o _ hj ho hk;unfold DOb at this;simp[zaK,ho,this.1]
 have kG:∀(j d:Nat) (T:TypeId) (z:List Value),kl[j]?=some (DK.fresh d T z)->zaK ops j=some d/\(sb++bx).get d=none:=fun j d T z hk=>by
  obtain⟨o,ho,hj⟩:=mh j _ hk;have:=hO (fun _=>undef) (fun _=>[]) j o _ hj ho hk;unfold DOb at this;exact⟨by simp[zaK,ho,this.1],this.2.1⟩
 have yR:∀(j:Nat) (s:SV),kl[j]?=some (DK.sv s)->rF (sb++bx) s=true:=fun j s hk=>by
  obtain⟨o,ho,hj⟩:=mh j _ hk;have:=hO (fun _=>undef) (fun _=>[]) j o _ hj ho hk;unfold DOb at this;obtain⟨d,_,hp,_⟩:=this;exact hp
 have OK:∀(j:Nat) (Φ:Value->Hp->Prop),kl[j]?=some (DK.call Φ)->∀(v:Value) (G G':Hp),Φ v G->G.Le G'->Φ v G':=fun j Φ hk=>by
  obtain⟨o,ho,hj⟩:=mh j _ hk;have:=hO (fun _=>undef) (fun _=>[]) j o _ hj ho hk;unfold DOb at this;obtain⟨d,_,hp,_⟩:=this;exact hp
 have uz:∀(j al:Nat) (vs:SC),kl[j]?=some (DK.store al vs)->Region.waitsFor .any ops j al=true:=fun j al vs hk=>by
  obtain⟨o,ho,hj⟩:=mh j _ hk;have:=hO (fun _=>undef) (fun _=>[]) j o _ hj ho hk;unfold DOb at this;obtain⟨_,_,d,T,z,_,_,hw,_⟩:=this;exact hw
 intro f
 induction f with
 | zero =>
  intro L a w x β G y hf h;rw[qu];exact Bg L a w x β G y h (Zr hf)
 | succ f ih =>
  intro L a w x β G y hf h;rw[show f+1+(ops.size-m)=(f+(ops.size-m))+1 by omega]
  obtain⟨i0,xg,Aw⟩:∃i,i<m/\L.getD i false=false:=by
   cases he:(List.range m).filter fun i=>L.getD i false == false with
   | nil=>unfold unl at hf;rw[he]at hf;cases hf
   | cons i l =>
    have:=List.mem_filter.1 (he ▸ qf (a:=i) (l:=l));exact⟨i,List.mem_range.1 this.1,by simpa using this.2⟩
  have lC:∀i∈Region.ready .any ops L,i<m:=fun i hi=>by
   rcases rY with e | ⟨af,hs,hc⟩ | hbar
   ·obtain⟨_,o,ho,_⟩:=mem_ready.1 hi;rw[e];exact(Array.getElem?_eq_some_iff.1 ho).1
   ·rcases Nat.lt_or_ge i m with h' | h'
    ·exact h'
    ·exact absurd hi (tail_waits hs hc af h.inv _ i0 Z xg (getD_in (by rw[h.inv.size];omega) Aw) i h')
   ·rcases Nat.lt_or_ge i m with h' | h'
    ·exact h'
    ·obtain⟨_,o,ho,_⟩:=mem_ready.1 hi;have:=Ch h.inv hi (zoQ hbar (Array.getElem?_eq_some_iff.1 ho).1 h' xg);rw[Aw]at this;cases this
  refine⟨fun eG=>?_,fun i hi=>?_⟩
  ·exact absurd eG (zod Bh h.inv.size i0 i0 (qH _) (by omega) Aw)
  ·have iP:=lC i hi;obtain⟨_,o,ho,_⟩:=mem_ready.1 hi;have af:i<L.size:=by rw[h.inv.size];exact(Array.getElem?_eq_some_iff.1 ho).1
   have iN:L.getD i false=false:=getD_both (mem_ready.1 hi).1;have hk:kl[i]?=some (kl[i]'(by omega)):=qA (by omega);refine wpOp_mono ?_ (h.step (P:=P) (Q:=Q) r0 hg lB aK dI kG C2 jE yR OK uz eF ho hk iP hi (hO x y i o _ iP ho hk));rintro a' w' ⟨x',β',G',y',h'⟩;exact ih _ a' w' x' β' G' y' (by have:=Zk iP af iN;omega) h'
end
theorem zra {kl:List DK} {x:Nat->Value} {bx:Bxs} {P:Nat->TypeId->List Value->Prop} (hold:∀t T cs,bx.get t=some (T,cs)->(∀(j:Nat) (U:TypeId) (vs:SC),kl[j]?≠some (DK.setb t U vs))->P t T cs)
  (jc:∀(j t:Nat) (T:TypeId) (vs:SC),kl[j]?=some (DK.setb t T vs)->P t T (vs.at x))
  (aK:∀(j al:Nat) (vs:SC),kl[j]?=some (DK.store al vs)->al<j) (m:Nat) (hm:∀(j:Nat) (k:DK),kl[j]?=some k->j<m)
  (kG:∀(j d:Nat) (T:TypeId) (z:List Value),kl[j]?=some (DK.fresh d T z)->∃cur,P d T cur/\(∀(j':Nat) (vs:SC),kl[j']?=some (DK.store j vs)->cur=vs.at x)/\((∀(j':Nat) (vs:SC),kl[j']?≠some (DK.store j vs))->cur=z)) :
   ∀t T cs,(bxN kl x bx m).get t=some (T,cs)->P t T cs:=by
 have key:∀(i t:Nat) (T:TypeId) (cs:List Value),(bxN kl x bx i).get t=some (T,cs)->(bx.get t=some (T,cs)/\∀(j:Nat) (U:TypeId) (vs:SC),j<i->kl[j]?≠some (DK.setb t U vs))\/(∃(j:Nat) (vs:SC),kl[j]?=some (DK.setb t T vs)/\cs=vs.at x)\/∃(j:Nat) (z:List Value),kl[j]?=some (DK.fresh t T z)/\((∃(j':Nat) (vs:SC),kl[j']?=some (DK.store j vs)/\cs=vs.at x)\/((∀(j':Nat) (vs:SC),j'<i->kl[j']?≠some (DK.store j vs))/\cs=z)):=by
  intro i
  induction i with
  | zero=>intro t T cs h;exact .inl ⟨h,fun j U vs hj=>by omega⟩
  | succ i ih =>
   intro t T cs h;unfold bxN at h
   have up:(∀(U:TypeId) (vs:SC),kl[i]?≠some (DK.setb t U vs))->(∀(j:Nat) (z:List Value) (vs:SC),kl[j]?=some (DK.fresh t T z)->kl[i]?≠some (DK.store j vs))->(bxN kl x bx i).get t=some (T,cs)->(bx.get t=some (T,cs)/\∀(j:Nat) (U:TypeId) (vs:SC),j<i+1->kl[j]?≠some (DK.setb t U vs))\/(∃(j:Nat) (vs:SC),kl[j]?=some (DK.setb t T vs)/\cs=vs.at x)\/∃(j:Nat) (z:List Value),kl[j]?=some (DK.fresh t T z)/\((∃(j':Nat) (vs:SC),kl[j']?=some (DK.store j vs)/\cs=vs.at x)\/((∀(j':Nat) (vs:SC),j'<i+1->kl[j']?≠some (DK.store j vs))/\cs=z)):=by
    intro bX bF h;rcases ih t T cs h with ⟨h1,h0⟩ | h1 | ⟨j,z,hk,h2⟩
    ·refine .inl ⟨h1,fun j U vs hj=>?_⟩;by_cases ej:j=i
     ·subst ej;exact bX U vs
     ·exact h0 j U vs (by omega)
    ·exact .inr (.inl h1)
    ·refine .inr (.inr ⟨j,z,hk,?_⟩);rcases h2 with h2 | ⟨h2,e⟩
     ·exact .inl h2
     ·refine .inr ⟨fun j' vs ak=>?_,e⟩;by_cases ej:j'=i
      ·subst ej;exact bF j z vs hk
      ·exact h2 j' vs (by omega)
   split at h
   ·rename_i k hk;unfold bxS at h;split at h
    ·rename_i d T' z;rw[Bxs.get_cons]at h;by_cases e:d=t
     ·subst e;rw[if_pos rfl]at h;cases h;refine .inr (.inr ⟨i,cs,hk,.inr ⟨fun j' vs ak hc=>?_,rfl⟩⟩);have:=aK j' i vs hc;omega
     ·rw[if_neg e]at h;exact up (fun U vs hc=>by rw[hk]at hc;cases hc) (fun j z' vs _ hc=>by rw[hk]at hc;cases hc) h
    ·rename_i al vs;split at h
     ·rename_i d T' z bH;rw[Bxs.get_cons]at h;by_cases e:d=t
      ·subst e;rw[if_pos rfl]at h;cases h;exact .inr (.inr ⟨al,z,bH,.inl ⟨i,vs,hk,rfl⟩⟩)
      ·rw[if_neg e]at h;refine up (fun U vs hc=>by rw[hk]at hc;cases hc) (fun j z' aX hj hc=>?_) h;rw[hk]at hc;cases hc;rw[bH]at hj;cases hj;exact e Z
     ·rename_i bF;refine up (fun U vs hc=>by rw[hk]at hc;cases hc) (fun j z' aX hj hc=>?_) h;rw[hk]at hc;cases hc;exact bF _ _ _ hj
    ·rename_i d T' vs;rw[Bxs.get_cons]at h;by_cases e:d=t
     ·subst e;rw[if_pos rfl]at h;cases h;exact .inr (.inl ⟨i,vs,hk,rfl⟩)
     ·rw[if_neg e]at h;exact up (fun U aX hc=>by rw[hk]at hc;cases hc;exact e Z) (fun j z' aX _ hc=>by rw[hk]at hc;cases hc) h
    ·rename_i h1 h2 h3;exact up (fun U vs hc=>by rw[hk]at hc;cases hc;exact h3 _ _ _ Z) (fun j z' aX _ hc=>by rw[hk]at hc;cases hc;exact h2 _ _ Z) h
   ·rename_i hk;exact up (fun U vs hc=>by rw[hk]at hc;cases hc) (fun j z' aX _ hc=>by rw[hk]at hc;cases hc) h
 intro t T cs h;rcases key m t T cs h with ⟨h1,h0⟩ | ⟨j,vs,h1,rfl⟩ | ⟨j,z,hk,h2⟩
 ·exact hold t T cs h1 fun j U vs hc=>h0 j U vs (hm j _ hc) hc
 ·exact jc j t T vs h1
 ·obtain⟨cur,h3,h4,h5⟩:=kG j t T z hk;rcases h2 with ⟨j',vs,h2,rfl⟩ | ⟨h2,e⟩
  ·rw[<-h4 j' vs h2];exact h3
  ·rw[e,<-h5 fun j' vs hc=>h2 j' vs (hm j' _ hc) hc];exact h3
theorem SA {kl:List DK} {x:Nat->Value} {bx:Bxs} (aK:∀(j al:Nat) (vs:SC),kl[j]?=some (DK.store al vs)->al<j) (dI:∀(j d:Nat) (T:TypeId) (vs:SC),kl[j]?=some (DK.setb d T vs)->(bx.get d).isSome=true):∀(i t:Nat),((bxN kl x bx i).get t).isSome=true↔((bx.get t).isSome=true\/∃(j:Nat) (T:TypeId) (z:List Value),j<i/\kl[j]?=some (DK.fresh t T z))
 | 0,t=>by simp[bxN]
 | i+1,t=>by
  have ih:=SA (x:=x) (bx:=bx) aK dI i t
  have more:(∃(j:Nat) (T:TypeId) (z:List Value),j<i+1/\kl[j]?=some (DK.fresh t T z))↔((∃(j:Nat) (T:TypeId) (z:List Value),j<i/\kl[j]?=some (DK.fresh t T z))\/∃(T:TypeId) (z:List Value),kl[i]?=some (DK.fresh t T z)):=by
   constructor
   ·rintro⟨j,T,z,hj,hk⟩;by_cases e:j=i
    ·subst e;exact .inr ⟨T,z,hk⟩
    ·exact .inl ⟨j,T,z,by omega,hk⟩
   ·rintro (⟨j,T,z,hj,hk⟩ | ⟨T,z,hk⟩)
    ·exact⟨j,T,z,by omega,hk⟩
    ·exact⟨i,T,z,by omega,hk⟩
  rw[more];unfold bxN
  cases hk:kl[i]? with
  | none=>simp[ih]
  | some k =>
   cases k with
   | sv s=>simp[bxS,ih]
   | call Φ=>simp[bxS,ih]
   | own Φ=>simp[bxS,ih]
   | fn q f=>simp[bxS,ih]
   | fresh d T z =>
    simp only[bxS,Bxs.get_cons];by_cases e:d=t
    ·subst e;simp
    ·simp[e,ih]
   | setb d T vs =>
    simp only[bxS,Bxs.get_cons];by_cases e:d=t
    ·subst e;simp only[if_true,Option.isSome_some,true_iff];exact .inl (dI i d T vs hk)
    ·simp[e,ih]
   | store al vs =>
    simp only[bxS]
    cases bH:kl[al]? with
    | none=>simp[ih]
    | some k' =>
     cases k' with
     | fresh d T z =>
      simp only[Bxs.get_cons];by_cases e:d=t
      ·subst e;simp only[if_true,Option.isSome_some,true_iff];exact .inr (.inl ⟨al,T,z,aK i al vs hk,bH⟩)
      ·simp[e,ih]
     | _=>simp[ih]
theorem Rel.drew {n:Nat} {W0:World} {H0:Bs} {β:Nat->Nat} {env:Env} {bx:Bxs} {H:Hs} {a:Act} {W:World} (r:Rel n W0 H0 β env bx H a W):Rel n W0 H0 β env bx H a W.drew :=
 ⟨r.size,r.defers,r.slot,r.box,r.low,r.inj,r.pin,r.fits,r.le,r.new,r.bel.drew,r.glob,r.own,r.one⟩
theorem R9 {ops:Array Oper} {a0:Act} {m:Nat} {β0:Nat->Nat} {sb bx:Bxs} {H:Hs} {Ws:World} {kl:List DK} {L:Array Bool} {a:Act} {W:World} {x:Nat->Value} {β:Nat->Nat} {G:Hp} {y:Nat->Ows} (h:nk ops a0 m β0 sb bx H Ws kl L a W x β G y)
  (av:∀i,i<m->L.getD i false=true):∀i,i<=m->BN (fcN kl x y i) G
 | 0,_=>trivial
 | i+1,hi=>by
  have ih:=R9 h av i (by omega);unfold fcN
  cases hk:kl[i]? with
  | none=>exact ih
  | some k =>
   cases k with
   | call Φ=>exact⟨h.calls i Φ hk (av i (by omega)),ih⟩
   | own Φ=>exact⟨(h.owned i Φ hk (av i (by omega))).1,ih⟩
   | _=>exact ih
theorem DM {kl:List DK} {y:Nat->Ows} {ow:Ows} {p:Nat × TypeId × List Value}:∀(i j:Nat),(owN kl y ow i)[j]?=some p->(∃(q:Nat) (Φ:Value->Ows->Prop),q<i/\kl[q]?=some (DK.own Φ)/\p∈y q)\/∃j':Nat,ow[j']?=some p
 | 0,j,h=>.inr ⟨j,h⟩
 | i+1,j,h=>by
  have up:((∃(q:Nat) (Φ:Value->Ows->Prop),q<i/\kl[q]?=some (DK.own Φ)/\p∈y q)\/∃j':Nat,ow[j']?=some p)->((∃(q:Nat) (Φ:Value->Ows->Prop),q<i+1/\kl[q]?=some (DK.own Φ)/\p∈y q)\/∃j':Nat,ow[j']?=some p):=by
   rintro (⟨q,Φ,hq,h⟩ | h)
   ·exact .inl ⟨q,Φ,by omega,h⟩
   ·exact .inr h
  unfold owN at h
  cases hk:kl[i]? with
  | none=>rw[hk]at h;exact up (DM i j h)
  | some k =>
   rw[hk]at h
   cases k with
   | own Φ =>
    simp only[owS]at h;by_cases hj:j<(y i).length
    ·rw[qM hj]at h;exact .inl ⟨i,Φ,by omega,hk,qF h⟩
    ·rw[qL (by omega)]at h;exact up (DM i _ h)
   | _=>exact up (DM i j h)
theorem RS {kl:List DK} {y:Nat->Ows} {ow:Ows} (eF:∀(j j' b:Nat) (T T':TypeId) (cs aq:List Value),ow[j]?=some (b,T,cs)->ow[j']?=some (b,T',aq)->j=j')
  (hy:∀(q:Nat) (Φ:Value->Ows->Prop),kl[q]?=some (DK.own Φ)->(y q).length<=1) (cU:∀(q j b:Nat) (Φ:Value->Ows->Prop) (T T':TypeId) (cs aq:List Value),kl[q]?=some (DK.own Φ)->(b,T,cs)∈y q->ow[j]?≠some (b,T',aq))
  (hA:∀(q q' b:Nat) (Φ Ψ:Value->Ows->Prop) (T T':TypeId) (cs aq:List Value),q≠q'->kl[q]?=some (DK.own Φ)->kl[q']?=some (DK.own Ψ)->(b,T,cs)∈y q->(b,T',aq) ∉ y q') :
  ∀(i j j' b:Nat) (T T':TypeId) (cs aq:List Value),(owN kl y ow i)[j]?=some (b,T,cs)->(owN kl y ow i)[j']?=some (b,T',aq)->j=j'
 | 0,j,j',b,T,T',cs,aq,h,h'=>eF j j' b T T' cs aq h h'
 | i+1,j,j',b,T,T',cs,aq,h,h'=>by
  have ih:=RS (i:=i) eF hy cU hA;unfold owN at h h'
  cases hk:kl[i]? with
  | none=>rw[hk]at h h';exact ih j j' b T T' cs aq h h'
  | some k =>
   rw[hk]at h h'
   cases k with
   | own Φ =>
    simp only[owS]at h h';have hlen:=hy i Φ hk
    have cross:∀(T1 T2:TypeId) (c1 c2:List Value) (r:Nat),(b,T1,c1)∈y i->(owN kl y ow i)[r]?=some (b,T2,c2)->False:=fun T1 T2 c1 c2 r h1 h2=>by
     rcases DM i r h2 with ⟨q,Ψ,hq,hkq,hm⟩ | ⟨r',jC⟩
     ·exact hA i q b Φ Ψ T1 T2 c1 c2 (by omega) hk hkq h1 hm
     ·exact cU i r' b Φ T1 T2 c1 c2 hk h1 jC
    by_cases hj:j<(y i).length
    ·rw[qM hj]at h;by_cases ak:j'<(y i).length
     ·omega
     ·rw[qL (by omega)]at h';exact(cross T T' cs aq _ (qF h) h').elim
    ·rw[qL (by omega)]at h;by_cases ak:j'<(y i).length
     ·rw[qM ak]at h';exact(cross T' T aq cs _ (qF h') h).elim
     ·rw[qL (by omega)]at h';have:=ih _ _ b T T' cs aq h h';omega
   | _=>exact ih j j' b T T' cs aq h h'
def pz (p s:Nat):Array Bool:=Array.replicate p true++Array.replicate (s-p) false
theorem Md (s:Nat):pz 0 s=Array.replicate s false:=by simp[pz]
def EVD (P:Program) (n:Nat) (ops:Array Oper) (p:Nat) (env:Env) (bx:Bxs) (H:Hs) (Q:EQ):Prop:=∀W0 β a W,Rel n W0 H.base β env bx H a W->wpAny P .any ops (kO n W0 H.base Q) (ops.size-p) (pz p ops.size) a W
theorem EVD.core {P:Program} {n:Nat} {env:Env} (sb:Bxs) {bx:Bxs} {H:Hs} {Q1 Q:EQ} {l:List Oper} (tail:List Oper) (m:Nat) {kl:List DK} (Bh:BV l.toArray=true) (hg:oh l.toArray m n=true) (oL:m<=l.toArray.size)
  (mQ:m=l.toArray.size\/(m<l.toArray.size/\Region.sinkB .any l.toArray m=true/\Region.chainB .any l.toArray m=true)\/BK l.toArray m=true)
  (h:∀x y,DJ P n l.toArray tail sb bx H Q1 x y kl 0 (l.take m) kl env (sb++bx) [] H.ow) (hS:ot 0 kl []=true) (hS2:od kl []=true) (hD:(sb.all fun p=>(bx.get p.1).isNone)=true)
  (Bg:∀(W0:World) (a:Act) (W':World),wpList P l.toArray (kO n W0 H.base Q1) tail a W'->wpAny P .any l.toArray (kO n W0 H.base Q) (l.toArray.size-m) (pz m l.toArray.size) a W'):EVD P n l.toArray 0 env (sb++bx) H Q:=fun W0 β0 a0 W r=>by
 have hn:a0.tmps.size=n:=r.size;rw[<-hn]at hg;rw[Md,Nat.sub_zero];have lz:m<=l.length:=by simpa using oL
 have eF:=(ML kl 0 [] hS).2;have r0:Rel n W0 H.base β0 env (sb++bx) H a0 W:=r
 have hA:∀x y,kl.length=m/\(∀(j:Nat) (o:Oper) (k:DK),j<m->l.toArray[j]?=some o->kl[j]?=some k->DOb P n l.toArray sb bx H.ow H.ro kl x j o k (jr l.toArray kl x env j) (fcN kl x y j)) /\
   ∀G,H.ro.Le G->BN (fcN kl x y m) G->EVL P n l.toArray tail (jr l.toArray kl x env m) (bxN kl x (sb++bx) m) ⟨G,owN kl y H.ow m,H.base⟩ Q1:=fun x y=>by
  have hl:(l.take m).length=m:=by simp;omega
  have:=DJ.all (P:=P) (n:=n) (ops:=l.toArray) (tail:=tail) (sb:=sb) (bx:=bx) (bs:=sb++bx) (H:=H) (Q:=Q1) (x:=x) (y:=y) (kl:=kl) (env0:=env) (l.take m) 0 kl
   (fun j hj=>by rw[hl]at hj;rw[List.getElem?_take_of_lt hj];simp) (fun j=>by simp) (h x y)
  rw[hl]at this;simpa using this
 have lB:kl.length=m:=(hA (fun _=>undef) (fun _=>[])).1;have nJ:=fun x y=>(hA x y).2.1
 have mh:∀(i:Nat) (k:DK),kl[i]?=some k->∃o,l.toArray[i]?=some o/\i<m:=fun i k hk=>by
  have h1:i<kl.length:=(qE.1 hk).1;exact⟨l[i]'(by omega),by simp[show i<l.length by omega],by omega⟩
 have Kj:∀(i:Nat) (k:DK),kl[i]?=some k->∃o,l.toArray[i]?=some o/\DOb P n l.toArray sb bx H.ow H.ro kl (fun _=>undef) i o k (jr l.toArray kl (fun _=>undef) env i) (fcN kl (fun _=>undef) (fun _=>[]) i):=fun i k hk=>by
  obtain⟨o,ho,hi⟩:=mh i k hk;exact⟨o,ho,nJ _ _ i o k hi ho hk⟩
 have aK:∀(j al:Nat) (vs:SC),kl[j]?=some (DK.store al vs)->zaK l.toArray j=none/\al<j:=fun j al vs hk=>by
  obtain⟨o,ho,hd⟩:=Kj j _ hk;unfold DOb at hd;obtain⟨h1,_,d,T,z,_,h2,_⟩:=hd;exact⟨by rw[zaK,ho];exact h1,h2⟩
 have kG:∀(j d:Nat) (T:TypeId) (z:List Value),kl[j]?=some (DK.fresh d T z)->zaK l.toArray j=some d/\(sb++bx).get d=none:=fun j d T z hk=>by
  obtain⟨o,ho,hd⟩:=Kj j _ hk;unfold DOb at hd;exact⟨by rw[zaK,ho];exact hd.1,hd.2.1⟩
 have dI:∀(j d:Nat) (T:TypeId) (vs:SC),kl[j]?=some (DK.setb d T vs)->zaK l.toArray j=none/\∃z,sb.get d=some (T,z):=fun j d T vs hk=>by
  obtain⟨o,ho,hd⟩:=Kj j _ hk;unfold DOb at hd;obtain⟨h1,_,z,h2,_⟩:=hd;exact⟨by rw[zaK,ho];exact h1,z,h2⟩
 have jE:=(Mi kl [] hS2).2
 have C2:∀d,(sb.get d).isSome=true->bx.get d=none:=fun d hd=>by
  have:=List.all_eq_true.1 hD
  have key:∀(l:Bxs),(∀p∈l,(bx.get p.1).isNone=true)->(l.get d).isSome=true->bx.get d=none:=fun l=>by
   induction l with
   | nil=>intro _ h;simp[Bxs.get]at h
   | cons p l ih =>
    obtain⟨t,s⟩:=p;intro h1 h2;rw[Bxs.get_cons]at h2;by_cases e:t=d
    ·subst e;simpa using h1 (t,s) (qf ..)
    ·rw[if_neg e]at h2;exact ih (fun p hp=>h1 p (qk _ hp)) h2
  exact key sb this hd
 have yR:∀(j:Nat) (s:SV),kl[j]?=some (DK.sv s)->rF (sb++bx) s=true:=fun j s hk=>by
  obtain⟨o,ho,hd⟩:=Kj j _ hk;unfold DOb at hd;obtain⟨d,_,hp,_⟩:=hd;exact hp
 have Nh:HeadInv .any l.toArray m (Array.replicate l.toArray.size false) :=
  ⟨by simp,fun j oj _ hl=>(by rw[getD_replicate_false]at hl;cases hl),fun t _ ht=>getD_in (by simpa using ht) (getD_replicate_false _ _)⟩
 have none':∀i,(Array.replicate l.toArray.size false).getD i false=false:=getD_replicate_false _
 have QE:DQ bx β0 W:=fun i T cs hi=>by
  have hs:sb.get i=none:=by
   cases hs:sb.get i with
   | none=>rfl
   | some p=>rw[C2 i (by rw[hs];rfl)]at hi;cases hi
  exact r0.box i T cs (by rw[Bxs.get_app,hi,hs];rfl)
 have Nf:nk l.toArray a0 m β0 sb bx H W kl (Array.replicate l.toArray.size false) a0 W (fun _=>undef) β0 H.ro (fun _=>[]) :=
  ⟨Nh,rfl,rfl,fun i d _ h=>(by rw[none']at h;cases h),fun t _=>rfl,fun _ _=>rfl,QE,fun i hi=>(r0.low i (Bxs.get_app_right hi)).2,Hp.Le.refl _,r0.fits,fun j b T cs hj=>⟨(r0.own j b T cs hj).1,(r0.own j b T cs hj).2.2.1⟩,Nw.refl _ _ _,bK.refl _ _,
   fun i s _ h=>(by rw[none']at h;cases h),fun i Φ _ h=>(by rw[none']at h;cases h),fun i d T z _ h=>(by rw[none']at h;cases h),fun i j f _ h=>(by rw[none']at h;cases h),fun i Φ _ h=>(by rw[none']at h;cases h),fun i j Φ Ψ b T cs T' aq _ _ _ h=>(by rw[none']at h;cases h),fun i j d T z d' T' z' _ _ _ h=>(by rw[none']at h;cases h),fun d T z hz=>⟨(r0.low d (Bxs.get_app_left (by rw[hz];rfl))).2,z,r0.box d T z (by rw[Bxs.get_app,hz];rfl),fun j U vs _ h=>(by rw[none']at h;cases h),fun _=>rfl⟩⟩
 have NU:unl (Array.replicate l.toArray.size false) m=m:=by
  unfold unl;rw[List.filter_eq_self.2 (fun i _=>by simp only[none'];rfl)];simp
 have:=nk.all (P:=P) (Q:=kO n W0 H.base Q) r0 Bh hg oL mQ lB nJ eF C2 jE (fun L a W' x β G y h av=>?_) m _ a0 W (fun _=>undef) β0 H.ro (fun _=>[]) NU Nf
 ·rw[show m+(l.toArray.size-m)=l.toArray.size by omega]at this;exact this
 ·have hL:L=Array.replicate m true++Array.replicate (l.toArray.size-m) false:=by
   apply Array.ext
   ·simp[h.inv.size];omega
   ·intro i h1 h2;by_cases iP:i<m
    ·have:=av i iP;rw[Array.getElem_append_left (by simpa using iP)];simpa[h1] using this
    ·rw[Array.getElem_append_right (by simp;omega)];have:=h.inv.tail i (by omega) (by rw[<-h.inv.size];exact h1);simpa[h1] using this
  have Es:∀j,m<=j->L.getD j false=false:=fun j hj=>by
   rcases Nat.lt_or_ge j l.toArray.size with h' | h'
   ·exact getD_both (h.inv.tail j hj h')
   ·rw[Array.getD_eq_getD_getElem?,Array.getElem?_eq_none (by rw[h.inv.size];exact h')];rfl
  have E5:W0.heap.size<=W.heap.size:=r0.bel.size;have GX:=fun (j d:Nat) (T:TypeId) (z:List Value) (hk:kl[j]?=some (DK.fresh d T z))=>h.fresh j d T z hk (av j (mh j _ hk).choose_spec.2);have iu:=SA (x:=x) (bx:=sb++bx) (fun j al vs hk=>(aK j al vs hk).2) (fun j d T vs hk=>by obtain⟨_,z,hz⟩:=dI j d T vs hk;exact Bxs.get_app_left (by rw[hz];rfl)) m;have Ng:∀d,(sb.get d).isSome=true->W0.heap.size<=β0 d:=fun d hd=>(r0.low d (Bxs.get_app_left hd)).1;have Nb:∀b,H.ro b≠none->¬ ∃d,(sb.get d).isSome=true/\b=β0 d:=fun b hb ⟨d,hd,e⟩=>hb (by rw[e];exact(r0.low d (Bxs.get_app_left hd)).2)
  have rel:Rel n W0 H.base β (jr l.toArray kl x env m) (bxN kl x (sb++bx) m) ⟨G,owN kl y H.ow m,H.base⟩ a W':=by
   refine⟨h.size.trans hn,h.defers.trans r0.defers,fun t s hs=>?_,fun t T cs FX=>?_,fun t ht=>?_,fun t t' ht aM e=>?_,fun t i off ht=>?_,h.fits,r0.le.trans h.le,(fun b c hb=>by
    rcases h.new b c hb with h1 | ⟨h1,h2⟩
    ·exact r0.new.kept r0.fits h.bel Nb b c h1
    ·exact .inr ⟨by omega,h2⟩),r0.bel.then h.bel (fun j hj ⟨d,hd,e⟩=>absurd hj (by have:=Ng d hd;omega)),r0.glob,fun j b T cs hj=>?_,?_⟩
   ·refine h.slot r0 hs (fun j hj _ _=>av j hj) (fun bF j CX=>?_) (fun j al vs hk=>(aK j al vs hk).1) (fun j d T vs hk=>(dI j d T vs hk).1);rcases Nat.lt_or_ge j m with h' | h'
    ·have:=bF j h' CX;rw[qA (by omega)]at this;cases this
    ·exact Es j h'
   ·refine zra (P:=fun t T cs=>Box W' (β t) cs.toArray T) (fun t T cs hg bF=>?_) (fun j t T vs hk=>?_) (fun j al vs hk=>(aK j al vs hk).2) m (fun j k hk=>(mh j k hk).choose_spec.2) (fun j d T z hk=>?_) t T cs FX
    ·rw[Bxs.get_app]at hg
     cases hs:sb.get t with
     | none=>rw[hs]at hg;exact h.box t T cs (by simpa using hg)
     | some p =>
      rw[hs]at hg;cases hg;obtain⟨_,cur,h2,_,h4⟩:=h.sbox t T cs hs;rw[h4 fun j U vs hk=>absurd hk (bF j U vs)]at h2;exact h2
    ·obtain⟨_,z,hz⟩:=dI j t T vs hk;obtain⟨_,cur,h2,h3,_⟩:=h.sbox t T z hz;rw[(h3 j T vs hk (av j (mh j _ hk).choose_spec.2)).1]at h2;exact h2
    ·obtain⟨_,_,_,cur,h4,h5,h6⟩:=GX j d T z hk;refine⟨cur,h4,fun j' vs ez=>(h5 j' vs ez (av j' (mh j' _ ez).choose_spec.2)).1,fun bF=>h6 fun j' vs ez=>?_⟩;exact absurd ez (bF j' vs)
   ·rcases (iu t).1 ht with h1 | ⟨j,T,z,hj,hk⟩
    ·refine⟨by rw[h.beta t h1];exact(r0.low t h1).1,?_⟩
     cases hs:sb.get t with
     | none=>exact h.off t (by rw[Bxs.get_app,hs]at h1;simpa using h1)
     | some p=>exact(h.sbox t p.1 p.2 hs).1
    ·obtain⟨_,h2,h3,_⟩:=GX j t T z hk;exact⟨qI E5 h2,h3⟩
   ·rcases (iu t).1 ht with h1 | ⟨j,T,z,hj,hk⟩
    ·rcases (iu t').1 aM with h2 | ⟨j',T',z',ak,ez⟩
     ·rw[h.beta t h1,h.beta t' h2]at e;exact r0.inj t t' h1 h2 e
     ·obtain⟨_,h3,_⟩:=GX j' t' T' z' ez;have:=r0.lt h1;rw[<-h.beta t h1]at this;omega
    ·rcases (iu t').1 aM with h2 | ⟨j',T',z',ak,ez⟩
     ·obtain⟨_,h3,_⟩:=GX j t T z hk;have:=r0.lt h2;rw[<-h.beta t' h2]at this;omega
     ·by_cases ej:j=j'
      ·subst ej;rw[hk]at ez;cases ez;rfl
      ·exact absurd e (h.apart j j' t T z t' T' z' ej hk ez (av j hj) (av j' ak))
   ·rw[iu];rcases D7 m ht with ⟨j,k,hj,hd,hk,e⟩ | ⟨_,FX⟩
    ·cases k with
     | sv s =>
      have e':s=.p i off:=e.symm;subst e';exact .inl (yR j _ hk)
     | call Φ=>cases e
     | own Φ=>cases e
     | fn q f=>cases e
     | fresh d T z =>
      cases e;exact .inr ⟨j,T,z,hj,hk⟩
     | store al vs=>cases e
     | setb d T vs=>cases e
    ·exact .inl (r0.pin t i off FX)
   ·rcases DM m j hj with ⟨q,Φ,hq,hk,hm⟩ | ⟨j',ak⟩
    ·obtain⟨h1,h2,h3⟩:=h.owned q Φ hk (av q hq);refine⟨(h2.2 b T cs hm).2,.inl (qI E5 (h2.2 b T cs hm).1),(h3 b T cs hm).1,fun t ht=>?_⟩;rcases (iu t).1 ht with h4 | ⟨j',T',z',ak,ez⟩
     ·have:=r0.lt h4;rw[<-h.beta t h4]at this;have:=(h2.2 b T cs hm).1;omega
     ·exact(h3 b T cs hm).2 j' t T' z' ez (av j' ak)
    ·refine⟨(h.own j' b T cs ak).1,(r0.own j' b T cs ak).2.1,(h.own j' b T cs ak).2,fun t ht=>?_⟩;rcases (iu t).1 ht with h1 | ⟨q,T',z',hq,ez⟩
     ·rw[h.beta t h1];exact(r0.own j' b T cs ak).2.2.2 t h1
     ·obtain⟨_,h3,_⟩:=GX q t T' z' ez;have:=(r0.own j' b T cs ak).1.lt;omega
   ·refine RS r0.one (fun q Φ hk=>(h.owned q Φ hk (av q (mh q _ hk).choose_spec.2)).2.1.1) (fun q j b Φ T T' cs aq hk hm hj=>?_) (fun q q' b Φ Ψ T T' cs aq wN hk ez hm=>h.ownA q q' Φ Ψ b T cs T' aq wN hk ez (av q (mh q _ hk).choose_spec.2) (av q' (mh q' _ ez).choose_spec.2) hm) m;have h1:=((h.owned q Φ hk (av q (mh q _ hk).choose_spec.2)).2.1.2 b T cs hm).1;have h2:=(r0.own j b T' aq hj).1.lt;omega
  have hw:=(hA x y).2.2 G h.le (R9 h av m (qH _)) W0 β a W' rel;rw[hL];exact Bg W0 a W' hw
theorem EVD.start {P:Program} {n:Nat} {env:Env} {bx:Bxs} {H:Hs} {Q:EQ} {id:Nat} {l:List Oper} (hm:P.follows .mixedOrders=true) (h:EVD P n l.toArray 0 env bx H Q):EV P n (.region id l.toArray true) env bx H Q:=fun W0 β a W r=>by
 refine wp_region_any hm ?_;have:=h W0 β a W.drew r.drew
 rwa [Md,Nat.sub_zero]at this
theorem EVD.drawnS {P:Program} {n:Nat} {env:Env} (sb:Bxs) {bx:Bxs} {H:Hs} {Q:EQ} {l:List Oper} (m:Nat) {kl:List DK} (hB:BH l.toArray m n=true)
  (h:∀x y,DJ P n l.toArray (l.drop m) sb bx H Q x y kl 0 (l.take m) kl env (sb++bx) [] H.ow) (hS:ot 0 kl []=true) (hS2:od kl []=true) (hD:(sb.all fun p=>(bx.get p.1).isNone)=true):EVD P n l.toArray 0 env (sb++bx) H Q:=by
 simp only[BH,Bool.and_eq_true,decide_eq_true_eq,Bool.or_eq_true,beq_iff_eq]at hB;obtain⟨⟨⟨⟨Bh,hg⟩,oL⟩,rY⟩,Oa⟩:=hB
 have mQ:m=l.toArray.size\/(m<l.toArray.size/\Region.sinkB .any l.toArray m=true/\Region.chainB .any l.toArray m=true)\/BK l.toArray m=true:=by
  rcases rY with h | h
  ·exact .inl h
  ·exact .inr (.inl ⟨h.1.1,h.1.2,h.2⟩)
 refine EVD.core sb (l.drop m) m Bh hg oL mQ h hS hS2 hD fun W0 a W' hw=>?_;have hd:(l.drop m).length=l.toArray.size-m:=by simp
 have:=wpAny_of_seq (P:=P) (ops:=l.toArray) (md:=.any) (Q':=kO n W0 H.base Q) (l.drop m) m (pz m l.toArray.size) a W' (fun j=>by simp[List.getElem?_drop]) (by rw[hd];exact Oa) hw
 rwa [hd]at this
theorem EV.drawnS {P:Program} {n:Nat} {env:Env} (sb:Bxs) {bx:Bxs} {H:Hs} {Q:EQ} {id:Nat} {l:List Oper} (m:Nat) {kl:List DK} (hm:P.follows .mixedOrders=true) (hB:BH l.toArray m n=true)
  (h:∀x y,DJ P n l.toArray (l.drop m) sb bx H Q x y kl 0 (l.take m) kl env (sb++bx) [] H.ow) (hS:ot 0 kl []=true) (hS2:od kl []=true) (hD:(sb.all fun p=>(bx.get p.1).isNone)=true):EV P n (.region id l.toArray true) env (sb++bx) H Q:=EVD.start hm (EVD.drawnS sb m hB h hS hS2 hD)
theorem EVD.head {P:Program} {n:Nat} {env:Env} (sb:Bxs) {bx:Bxs} {H:Hs} {Q:EQ} {l:List Oper} (m:Nat) {kl:List DK} (hB:(BV l.toArray && oh l.toArray m n && decide (m<=l.toArray.size) && BK l.toArray m)=true)
  (h:∀x y,DJ P n l.toArray [] sb bx H (fun e env bx H'=>e=.normal/\EVD P n l.toArray m env bx H' Q) x y kl 0 (l.take m) kl env (sb++bx) [] H.ow) (hS:ot 0 kl []=true) (hS2:od kl []=true) (hD:(sb.all fun p=>(bx.get p.1).isNone)=true):EVD P n l.toArray 0 env (sb++bx) H Q:=by
 simp only[Bool.and_eq_true,decide_eq_true_eq]at hB;obtain⟨⟨⟨Bh,hg⟩,oL⟩,hbar⟩:=hB;refine EVD.core sb [] m Bh hg oL (.inr (.inr hbar)) h hS hS2 hD fun W0 a W' hw=>?_;obtain⟨β,aA,aw,H',aI,⟨_,hE⟩,rel⟩:=hw;have:=hE W0 β a W' (by rw[aI];exact rel)
 rwa [aI]at this
theorem Oper.wp_exits {P:Program} {o:Oper} {a:Act} {W:World} {K:Act->World->Prop} {Q Q':Exit->Act->World->Prop} (hp:∀c a W,Q (.panic c) a W->Q' (.panic c) a W) (ho:LetsOut Q->LetsOut Q') (h:Oper.wp P o a W K Q):Oper.wp P o a W K Q':=by
 unfold Oper.wp at *
 generalize (execOp a.eval o).run P W=r at *
 cases r with
 | ok m w' =>
  cases m <;> simp only[Oper.upon]at h ⊢ <;> try exact h
  case enter f args =>
   refine h.mono fun e Em he=>?_
   cases e with
   | returned v=>exact he
   | panicked c=>exact hp _ _ _ he
   | outgrown=>exact ho he
 | halt y w' =>
  cases y <;> simp only[Oper.upon]at h ⊢
  case panic v=>exact hp _ _ _ h
theorem EVD.one {P:Program} {n:Nat} {env:Env} {bx:Bxs} {H:Hs} {Q:EQ} {ops:Array Oper} {p:Nat} {o:Oper} (hr:(Region.ready .any ops (pz p ops.size) == [p] && (pz p ops.size).setIfInBounds p true == pz (p+1) ops.size)=true) (ho:ops[p]?=some o)
  (h:EVL P n ops [o] env bx H (fun e env bx H'=>e=.normal/\EVD P n ops (p+1) env bx H' Q)):EVD P n ops p env bx H Q:=fun W0 β a W r=>by
 simp only[Bool.and_eq_true,beq_iff_eq]at hr;obtain⟨hr,jc⟩:=hr;have af:p<ops.size:=(Array.getElem?_eq_some_iff.1 ho).1;have h1:=h W0 β a W r
 have hk:∀a W,kO n W0 H.base (fun e env bx H'=>e=.normal/\EVD P n ops (p+1) env bx H' Q) .normal a W->wpAny P .any ops (kO n W0 H.base Q) (ops.size-(p+1)) (pz (p+1) ops.size) a W:=by
  rintro a W ⟨β',aA,aw,H',aI,⟨_,hE⟩,rel⟩;have:=hE W0 β' a W (by rw[aI];exact rel)
  rwa [aI]at this
 rw[show ops.size-p=(ops.size-(p+1))+1 by omega];refine⟨fun e=>(by rw[hr]at e;cases e),fun i hi=>?_⟩;rw[hr]at hi;obtain rfl:i=p:=by simpa using hi
 rw[jc];unfold wpOp;simp only[ho];unfold wpList at h1;split
 ·rename_i hw;rw[if_pos hw]at h1;rcases h1 with h1 | ⟨h1,h2⟩
  ·refine .inl (Oper.wp_exits (fun c a W hq=>?_) (fun hq=>?_) (Oper.wp_mono (fun a W h=>hk a W h) h1))
   ·obtain⟨_,_,_,_,_,⟨e,_⟩,_⟩:=hq;cases e
   ·obtain⟨a0,w0,_,_,_,_,_,⟨e,_⟩,_⟩:=hq;cases e
  ·obtain⟨a0,w0,_,_,_,_,_,⟨e,_⟩,_⟩:=h2;cases e
 ·rename_i hw;rw[if_neg hw]at h1;exact hk _ _ h1
def shO (p:Nat) (o:Oper):Oper:={ o with after:=((o.after.toList.filter fun e=>decide (p<=e.on)).map fun e=>{ e with on:=e.on-p }).toArray }
def n9 (p:Nat) (l:List Oper):Array Oper:=((l.drop p).map (shO p)).toArray
theorem zmf {P:Program} {l:List Oper} {p:Nat} {Q:Exit->Act->World->Prop} (hg:((l.drop p).all fun o=>o.guard.isNone)=true):∀(f:Nat) (L L':Array Bool) (a:Act) (W:World),(∀j,j<p->L.getD j false=true)->(∀i b,L.getD (p+i) b=L'.getD i b)->L.size=p+L'.size ->
  wpAny P .any (n9 p l) Q f L' a W->wpAny P .any l.toArray Q f L a W:=by
 have AU:∀k,(n9 p l)[k]?=(l[p+k]?).map (shO p):=fun k=>by simp[n9]
 have MT:∀(L L':Array Bool),(∀j,j<p->L.getD j false=true)->(∀i b,L.getD (p+i) b=L'.getD i b)->∀i,i∈Region.ready .any l.toArray L↔∃k,i=p+k/\k∈Region.ready .any (n9 p l) L':=by
  intro L L' h1 h2 i;constructor
  ·intro hi;obtain⟨hu,o,ho,av⟩:=mem_ready.1 hi;have hip:p<=i:=Nat.le_of_not_lt fun af=>by have:=getD_both hu;rw[h1 i af]at this;cases this
   obtain⟨k,rfl⟩:=Nat.exists_eq_add_of_le hip
   refine⟨k,rfl,mem_ready.2 ⟨by rw[<-h2];exact hu,shO p o,(by
    have e1:l[p+k]?=some o:=by simpa using ho
    rw[AU,e1];rfl),fun e he hb=>?_⟩⟩
   simp only[shO,List.mem_toArray,List.mem_map,List.mem_filter,decide_eq_true_eq,Array.mem_toList_iff]at he;obtain⟨e0,⟨Pt,uG⟩,rfl⟩:=he;rw[<-h2];have:=av e0 Pt hb
   rwa [show e0.on=p+(e0.on-p) by omega]at this
  ·rintro⟨k,rfl,hk⟩;obtain⟨hu,o',mT,av⟩:=mem_ready.1 hk;rw[AU]at mT;obtain⟨o,ho,rfl⟩:=Option.map_eq_some_iff.1 mT;refine mem_ready.2 ⟨by rw[h2];exact hu,o,by simpa using ho,fun e he hb=>?_⟩;rcases Nat.lt_or_ge e.on p with af | hge
   ·exact h1 _ af
   ·have:=av { e with on:=e.on-p } (by simp only[shO,List.mem_toArray,List.mem_map,List.mem_filter,decide_eq_true_eq,Array.mem_toList_iff];exact⟨e,⟨he,hge⟩,rfl⟩) hb;rw[<-h2]at this
    rwa [show p+(e.on-p)=e.on by omega]at this
 have nil:∀(L L':Array Bool),(∀j,j<p->L.getD j false=true)->(∀i b,L.getD (p+i) b=L'.getD i b)->Region.ready .any l.toArray L=[]->Region.ready .any (n9 p l) L'=[]:=fun L L' h1 h2 he=>by
  cases hr:Region.ready .any (n9 p l) L' with
  | nil=>rfl
  | cons k r =>
   have:=(MT L L' h1 h2 (p+k)).2 ⟨k,rfl,by rw[hr];exact qf ..⟩;rw[he]at this;cases this
 have Nc:∀(L L':Array Bool),(∀j,j<p->L.getD j false=true)->(∀i b,L.getD (p+i) b=L'.getD i b)->Region.ready .any (n9 p l) L'=[]->Region.ready .any l.toArray L=[]:=fun L L' h1 h2 he=>by
  cases hr:Region.ready .any l.toArray L with
  | nil=>rfl
  | cons k r =>
   obtain⟨q,_,hq⟩:=(MT L L' h1 h2 k).1 (by rw[hr];exact qf ..);rw[he]at hq;cases hq
 intro f
 induction f with
 | zero=>intro L L' a W h1 h2 h3 h;exact⟨Nc L L' h1 h2 h.1,h.2⟩
 | succ f ih =>
  intro L L' a W h1 h2 h3 h;refine⟨fun he=>h.1 (nil L L' h1 h2 he),fun i hi=>?_⟩;obtain⟨k,rfl,hk⟩:=(MT L L' h1 h2 i).1 hi;have hw:=h.2 k hk;obtain⟨hu,o,ho,_⟩:=mem_ready.1 hi;have wS:l[p+k]?=some o:=by simpa using ho
  have oJ:(n9 p l)[k]?=some (shO p o):=by rw[AU,wS];rfl
  have y8:o.guard=none:=by
   have:=List.all_eq_true.1 hg o (qF (i:=k) (by rw[List.getElem?_drop];exact wS));simpa using this
  have next:∀a W,wpAny P .any (n9 p l) Q f (L'.setIfInBounds k true) a W->wpAny P .any l.toArray Q f (L.setIfInBounds (p+k) true) a W:=fun a W h=>by
   refine ih _ (L'.setIfInBounds k true) a W (fun j hj=>?_) (fun q b=>?_) (by simp[h3]) h
   ·rw[getD_set_ne false (by omega)];exact h1 j hj
   ·by_cases e:q=k
    ·subst e;by_cases lC:q<L'.size
     ·rw[Array.getD_eq_getD_getElem?,Array.getD_eq_getD_getElem?,Array.getElem?_setIfInBounds_self_of_lt (by omega),Array.getElem?_setIfInBounds_self_of_lt lC]
     ·rw[Array.setIfInBounds_eq_of_size_le (by omega),Array.setIfInBounds_eq_of_size_le (by omega)];exact h2 q b
    ·rw[getD_set_ne b (by omega),getD_set_ne b (Ne.symm e)];exact h2 q b
  unfold wpOp at hw ⊢;simp only[ho,oJ]at hw ⊢;have w1:Region.wanted o (yielded l.toArray a.tmps)=true:=by simp[Region.wanted,y8]
  have w2:Region.wanted (shO p o) (yielded (n9 p l) a.tmps)=true:=by simp[Region.wanted,shO,y8]
  rw[if_pos w1];rw[if_pos w2]at hw;rcases hw with hw | ⟨hw,hl⟩
  ·exact .inl (Oper.wp_mono next hw)
  ·exact .inr ⟨hw,hl⟩
theorem EVD.shift {P:Program} {n:Nat} {env:Env} {bx:Bxs} {H:Hs} {Q:EQ} {l:List Oper} (p:Nat) (hg:((l.drop p).all fun o=>o.guard.isNone)=true) (hp:p<=l.length) (h:EVD P n (n9 p l) 0 env bx H Q):EVD P n l.toArray p env bx H Q:=fun W0 β a W r=>by
 have h1:=h W0 β a W r;have hs:(n9 p l).size=l.length-p:=by simp[n9]
 have cr:l.toArray.size=l.length:=by simp
 rw[Md,Nat.sub_zero,hs]at h1;rw[cr];refine zmf hg _ _ _ a W (fun j hj=>?_) (fun i b=>?_) ?_ h1
 ·simp[pz,Array.getD_eq_getD_getElem?,Array.getElem?_append,hj]
 ·simp[pz,Array.getD_eq_getD_getElem?,Array.getElem?_append,Array.getElem?_replicate,show ¬(p+i<p) by omega]
 ·simp[pz]
theorem EVD.drawn {P:Program} {n:Nat} {env:Env} {bx:Bxs} {H:Hs} {Q:EQ} {l:List Oper} (m:Nat) {kl:List DK} (hB:BH l.toArray m n=true)
  (h:∀x y,DJ P n l.toArray (l.drop m) [] bx H Q x y kl 0 (l.take m) kl env bx [] H.ow) (hS:ot 0 kl []=true) (hS2:od kl []=true):EVD P n l.toArray 0 env bx H Q :=
 EVD.drawnS [] m hB h hS hS2 rfl
theorem EVD.head0 {P:Program} {n:Nat} {env:Env} {bx:Bxs} {H:Hs} {Q:EQ} {l:List Oper} (m:Nat) {kl:List DK} (hB:(BV l.toArray && oh l.toArray m n && decide (m<=l.toArray.size) && BK l.toArray m)=true)
  (h:∀x y,DJ P n l.toArray [] [] bx H (fun e env bx H'=>e=.normal/\EVD P n l.toArray m env bx H' Q) x y kl 0 (l.take m) kl env bx [] H.ow) (hS:ot 0 kl []=true) (hS2:od kl []=true):EVD P n l.toArray 0 env bx H Q :=
 EVD.head [] m hB h hS hS2 rfl
theorem EV.drawn {P:Program} {n:Nat} {env:Env} {bx:Bxs} {H:Hs} {Q:EQ} {id:Nat} {l:List Oper} (m:Nat) {kl:List DK} (hm:P.follows .mixedOrders=true) (hB:BH l.toArray m n=true)
  (h:∀x y,DJ P n l.toArray (l.drop m) [] bx H Q x y kl 0 (l.take m) kl env bx [] H.ow) (hS:ot 0 kl []=true) (hS2:od kl []=true):EV P n (.region id l.toArray true) env bx H Q :=
 EV.drawnS [] m hm hB h hS hS2 rfl
def QH (aA env:Env):Prop:=∀t s,aA.get t=some s->env.get t=some s
def zH (env:Env) (bx:Bxs):Bool:=env.all fun p=>match p.2 with
 | .p i _=>(bx.get i).isSome
 | _=>true
theorem Uf:∀{env:Env} {t:Nat} {s:SV},env.get t=some s->(t,s)∈env
 | [],t,s,h=>by cases h
 | (t',s')::e,t,s,h=>by
  rw[Env.get_cons]at h;by_cases e':t'=t
  ·subst e';rw[if_pos rfl]at h;cases h;exact qf ..
  ·rw[if_neg e']at h;exact qk _ (Uf h)
theorem Rel.weaken {n:Nat} {W0:World} {H0:Bs} {β:Nat->Nat} {env aA:Env} {bx aw:Bxs} {H:Hs} {a:Act} {W:World} (r:Rel n W0 H0 β env bx H a W) (he:QH aA env) (hb:∀t p,aw.get t=some p->bx.get t=some p) (hp:zH aA aw=true):Rel n W0 H0 β aA aw H a W:=by
 have mI:∀t,(aw.get t).isSome=true->(bx.get t).isSome=true:=fun t ht=>by
  obtain⟨p,hp⟩:=Option.isSome_iff_exists.1 ht;rw[hb t p hp];rfl
 refine⟨r.size,r.defers,fun t s hs=>r.slot t s (he t s hs),fun i T cs hg=>r.box i T cs (hb i _ hg),fun i hi=>r.low i (mI i hi),fun i j hi hj=>r.inj i j (mI i hi) (mI j hj),fun t i off ht=>?_,r.fits,r.le,r.new,r.bel,r.glob,fun j b T cs hj=>⟨(r.own j b T cs hj).1,(r.own j b T cs hj).2.1,(r.own j b T cs hj).2.2.1,fun i hi=>(r.own j b T cs hj).2.2.2 i (mI i hi)⟩,r.one⟩;have:=List.all_eq_true.1 hp _ (Uf ht);exact this
def fq (env:Env):Env->Prop
 | []=>True
 | (t,s)::r=>env.get t=some s/\fq env r
theorem fq.sub {env:Env}:∀{aA:Env},fq env aA->QH aA env
 | [],_,t,s,h=>by cases h
 | (t',s')::r,hs,t,s,h=>by
  rw[Env.get_cons]at h;by_cases e:t'=t
  ·subst e;rw[if_pos rfl]at h;cases h;exact hs.1
  ·rw[if_neg e]at h;exact hs.2.sub t s h
def fx (bx:Bxs):Bxs->Prop
 | []=>True
 | (t,p)::r=>bx.get t=some p/\fx bx r
theorem fx.sub {bx:Bxs}:∀{aw:Bxs},fx bx aw->∀t p,aw.get t=some p->bx.get t=some p
 | [],_,t,s,h=>by cases h
 | (t',s')::r,hs,t,s,h=>by
  rw[Bxs.get_cons]at h;by_cases e:t'=t
  ·subst e;rw[if_pos rfl]at h;cases h;exact hs.1
  ·rw[if_neg e]at h;exact hs.2.sub t s h
theorem EV.loop {P:Program} {n:Nat} {c:Code} {env:Env} {bx:Bxs} {H:Hs} {Q:EQ} {ι:Type} (E:ι->Env) (B:ι->Bxs) (O:ι->Ows) (I:ι->Hp->Prop) (μ:ι->Nat) (i0:ι)
  (he:fq env (E i0)) (hb:fx bx (B i0)) (ho:H.ow=O i0) (hp:∀i,zH (E i) (B i)=true) (h0:I i0 H.ro)
  (h:∀i G,H.ro.Le G->I i G->EV P n c (E i) (B i) ⟨G,O i,H.base⟩ (eO (fun aA aw G'=>∃i',fq aA (E i')/\fx aw (B i')/\G'.ow=O i'/\I i' G'.ro/\G.Le G'.ro/\μ i'<μ i) Q)):EV P n (.loop c) env bx H Q:=fun W0 β a W r=>by
 refine wp_loop_ghost (fun k a w=>∃i β G,μ i=k/\H.ro.Le G/\I i G/\Rel n W0 H.base β (E i) (B i) ⟨G,O i,H.base⟩ a w) (μ i0) ⟨i0,β,H.ro,rfl,Hp.Le.refl _,h0,by rw[<-ho];exact r.weaken he.sub hb.sub (hp i0)⟩ ?_;rintro k a w ⟨i,β,G,rfl,hle,hI,r⟩;refine wp_mono (h i G hle hI W0 β a w r) ?_;rintro e a' w' ⟨β',aA,aw,G',aI,hq,r'⟩
 cases e with
 | normal =>
  obtain⟨i',h1,h2,mT,h3,h4,h5⟩:=hq;exact⟨μ i',h5,i',β',G'.ro,rfl,hle.trans h4,h3,by have:=r'.weaken h1.sub h2.sub (hp i');obtain⟨ro,ow,ba⟩:=G';cases aI;rw[<-mT];exact this⟩
 | _=>exact⟨β',aA,aw,G',aI,hq,r'⟩
section
variable {P:Program} {n:Nat} {ops:Array Oper} {o:Oper} {rest:List Oper} {env:Env} {bx:Bxs} {sb:Bxs} {ow:Ows} {H:Hs} {Q:EQ} {τ:Tab} {d:Nat} {s:SV}
theorem Rel.sees {W0:World} {H0:Bs} {β:Nat->Nat} {a:Act} {W:World} (r:Rel n W0 H0 β env bx H a W):ud ops o env β H.ro a:=fun t s _ ht=>r.slot t s ht
theorem EVL.ofVal (hv:az P ops o env bx H.ow H.ro (fun _=>True) (fun β v G=>s.rep β G v)) (hd:o.dst=some d) (hn:Nat.blt d n=true) (hp:rF bx s=true)
  (h:∀G,H.ro.Le G->EVL P n ops rest ((d,s)::env) bx ⟨G,H.ow,H.base⟩ Q):EVL P n ops (o::rest) env bx H Q:=fun W0 β a W r=>by
 have h1:=hv β a W H.ro (Hp.Le.refl _) r.fits r.globW r.box (fun j b T cs hj=>(r.own j b T cs hj).1) r.sees trivial;unfold wpList;split at h1
 ·rename_i hw;rw[if_pos hw];refine .inl (Oper.wp_any (Oper.wp_mono ?_ h1));rintro a' W' ⟨v,G',rfl,hr,hle,hf,hb,aL⟩;rw[hd];exact h G' hle W0 β _ W' ((r.grow hle hf hb aL).put hn hr hp)
 ·rename_i hw;rw[if_neg hw,hd];exact h H.ro (Hp.Le.refl _) W0 β _ W (r.put hn h1 hp)
theorem DJ.ofVal {tail l:List Oper} {x:Nat->Value} {y:Nat->Ows} {au:Ows} {kl ks:List DK} {i:Nat} {aw:Bxs} {Γ:fO} (hv:az P ops o env bx H.ow H.ro (dD ops i Γ) (fun β v G=>s.rep β G v)) (hd:o.dst=some d) (hn:Nat.blt d n=true) (hp:rF (sb++bx) s=true)
  (h:DJ P n ops tail sb bx H Q x y kl (i+1) l ks ((d,s)::env) aw Γ au):DJ P n ops tail sb bx H Q x y kl i (o::l) (.sv s::ks) env aw Γ au:=⟨d,hd,hn,hp,hv,h⟩
theorem az.gen {R:Hp} {F:Hp->Prop} {v:Value} (hw:aP ops env o=some true) (h:∀(ev:Operand->Value) (W:World),(∀y x,y∈o.op.operands->env.op y=some (.v x)->ev y=x)->(execOp ev o).run P W=.ok (.value v) W):az P ops o env bx ow R F (fun β u G=>(SV.v v).rep β G u) :=
 fun β a W G _ hf _ hb _ hs _=>by
  rw[if_pos (hs.want hw)];unfold Oper.wp;rw[h a.eval W (fun y x hm hy=>hs.op hm hy),Oper.upon_value];exact⟨v,G,rfl,rfl,Hp.Le.refl G,hf,Below.refl _ _,Nw.refl _ _ _⟩
theorem az.rem {R:Hp} {F:Hp->Prop} {T T':TypeId} {x y:Operand} {k:IntKind} {a b:Int} (ho:o.op=.binOp .rem T x y T') (hw:aP ops env o=some true) (hx:env.op x=some (.v (.int k a))) (hy:env.op y=some (.v (.int k b))) (hb:b≠0) :
  az P ops o env bx ow R F (fun β u G=>(SV.v (.int k (a.tmod b))).rep β G u) :=
 az.gen hw fun ev W he=>by
  have h1:=he x _ (by simp[ho,Op.operands]) hx;have h2:=he y _ (by simp[ho,Op.operands]) hy;unfold execOp;simp[ho,h1,h2,eqGuard,binOp,Op.intDiv,hb]
theorem az.shl {R:Hp} {F:Hp->Prop} {T T':TypeId} {x y:Operand} {k k':IntKind} {a b:Int} (ho:o.op=.binOp .shl T x y T') (hw:aP ops env o=some true) (hx:env.op x=some (.v (.int k a))) (hy:env.op y=some (.v (.int k' b))) (hb:0<=b) :
  az P ops o env bx ow R F (fun β u G=>(SV.v (.int k (k.wrap (a*2 ^ (min b.toNat k.bits))))).rep β G u) :=
 az.gen hw fun ev W he=>by
  have h1:=he x _ (by simp[ho,Op.operands]) hx;have h2:=he y _ (by simp[ho,Op.operands]) hy;unfold execOp;simp[ho,h1,h2,eqGuard,binOp,Op.shift,show ¬b<0 by omega]
theorem az.shr {R:Hp} {F:Hp->Prop} {T T':TypeId} {x y:Operand} {k k':IntKind} {a b:Int} (ho:o.op=.binOp .shr T x y T') (hw:aP ops env o=some true) (hx:env.op x=some (.v (.int k a))) (hy:env.op y=some (.v (.int k' b))) (hb:0<=b) :
  az P ops o env bx ow R F (fun β u G=>(SV.v (.int k (a.fdiv (2 ^ (min b.toNat k.bits))))).rep β G u) :=
 az.gen hw fun ev W he=>by
  have h1:=he x _ (by simp[ho,Op.operands]) hx;have h2:=he y _ (by simp[ho,Op.operands]) hy;unfold execOp;simp[ho,h1,h2,eqGuard,binOp,Op.shift,show ¬b<0 by omega]
def SlC (H:Hp) (v:Value) (n size:Nat) (xs:List Value):Prop:=xs.length=n*size/\((n=0/\∃a cap,v=.slice a 0 cap)\/∃b off cap c,v=.slice (some ⟨b,off,none⟩) n cap/\n<=cap/\H b=some c/\∀j x,xs[j]?=some x->c[off+j]?=some x)
theorem SlC.mono {H G:Hp} {v:Value} {m size:Nat} {xs:List Value} (h:SlC H v m size xs) (k:H.Le G):SlC G v m size xs:=by
 refine⟨h.1,?_⟩;rcases h.2 with h1 | ⟨b,off,cap,c,h1,h2,h3,h4⟩
 ·exact .inl h1
 ·exact .inr ⟨b,off,cap,c,h1,h2,k b c h3,h4⟩
theorem SlC.val {H:Hp} {v:Value} {m size:Nat} {xs:List Value} (h:SlC H v m size xs):∃a cap,v=.slice a m cap:=by
 rcases h.2 with ⟨rfl,a,cap,rfl⟩ | ⟨b,off,cap,c,h1,_⟩
 ·exact⟨a,cap,rfl⟩
 ·exact⟨_,_,h1⟩
theorem az.idx {R:Hp} {F:Hp->Prop} (hτ:bp P τ) {T:TypeId} {x y:Operand} (ho:o.op=.indexAddr T x y) (hw:aP ops env o=some true) {te te':TE} {e:TypeId} (ht:τ.get T=some te) (hk:te.kind=.slice e) (aM:τ.get e=some te')
  {v:Value} (hx:env.op x=some (.v v)) {k:IntKind} {z:Int} (hy:env.op y=some (.v (.int k z))) {m:Nat} {xs:List Value} (hs:SlC R v m te'.size xs) (j:Nat) (hz:z=j) (hj:j<m) :
  az P ops o env bx ow R F (fun β u G=>(SV.ro ((xs.drop (j*te'.size)).take te'.size)).rep β G u) :=
 fun β a W G hle hf _ hb _ jd _=>by
  have ex:a.eval x=v:=jd.op (by simp[ho,Op.operands]) hx;have ey:a.eval y=.int k z:=jd.op (by simp[ho,Op.operands]) hy;have aW:=(hτ.get ht).kind;rw[hk]at aW;have aN:P.underlying T=some (.slice e):=aW;rw[if_pos (jd.want hw)];rcases hs.2 with ⟨h0,_⟩ | ⟨b,off,cap,c,rfl,hc,hH,bC⟩
  ·omega
  ·have aY:(execOp a.eval o).run P W=.ok (.value (.pointer (some ⟨b,off+j*te'.size,none⟩))) W:=by
    unfold execOp;simp[ho,ex,ey,Instr.indexAt,asIntOf,run_underlying aN,hz,(hτ.get aM).size,Addr.add_mid,hj]
   unfold Oper.wp;rw[aY,Oper.upon_value];refine⟨_,G,rfl,⟨b,off+j*te'.size,c,rfl,hle b c hH,fun q u hq=>?_⟩,Hp.Le.refl G,hf,Below.refl _ _,Nw.refl _ _ _⟩;rw[pO]at hq;split at hq
   ·rw[List.getElem?_drop]at hq;rw[Nat.add_assoc];exact bC _ _ hq
   ·cases hq
theorem SlC.sub {H:Hp} {a:Option Addr} {m cap size:Nat} {xs:List Value} (h:SlC H (.slice a m cap) m size xs) (lo hi:Nat) (h1:lo<=hi) (h2:hi<=m) (h3:m<=cap) :
  SlC H (.slice (if cap=lo then a else a.map (·.add (lo*size))) (hi-lo) (cap-lo)) (hi-lo) size ((xs.drop (lo*size)).take ((hi-lo)*size)):=by
 have hl:=h.1;have hmul:lo*size+(hi-lo)*size<=m*size:=by rw[<-qv];exact qN _ (by omega)
 refine⟨by simp;omega,?_⟩;by_cases e:hi-lo=0
 ·left;exact⟨e,_,_,by rw[e]⟩
 ·right;rcases h.2 with ⟨h0,_⟩ | ⟨b,off,bz,c,hv,hc,hH,bC⟩
  ·omega
  ·cases hv;rw[if_neg (by omega)];refine⟨b,off+lo*size,cap-lo,c,by simp[Addr.add_mid],by omega,hH,fun j x hj=>?_⟩;rw[pO]at hj;split at hj
   ·rw[List.getElem?_drop]at hj;rw[Nat.add_assoc];exact bC _ _ hj
   ·cases hj
theorem az.sliceV {R:Hp} {F:Hp->Prop} (hτ:bp P τ) {T:TypeId} {x:Operand} {lo hi:Option Operand} (ho:o.op=.slice T x lo hi none) (hw:aP ops env o=some true) {te te':TE} {e:TypeId} (ht:τ.get T=some te) (hk:te.kind=.slice e) (aM:τ.get e=some te')
  {a:Option Addr} {m cap:Nat} (hx:env.op x=some (.v (.slice a m cap))) (l h:Nat) (cF:lo=none/\l=0\/∃y k,lo=some y/\env.op y=some (.v (.int k (l:Int)))) (cJ:hi=none/\h=m\/∃y k,hi=some y/\env.op y=some (.v (.int k (h:Int)))) (y4:l<=h) (FR:h<=cap) (FD:m<=cap) :
  az P ops o env bx ow R F (fun β u G=>(SV.v (.slice (if cap=l then a else a.map (·.add (l*te'.size))) (h-l) (cap-l))).rep β G u) :=
 az.gen hw fun ev W he=>by
  have aW:=(hτ.get ht).kind;rw[hk]at aW;have aN:P.underlying T=some (.slice e):=aW;have h1:ev x=.slice a m cap:=he x _ (by simp[ho,Op.operands]) hx;unfold execOp;simp only[ho,Instr.sliceAt,h1,Option.map_none];rcases cF with ⟨rfl,rfl⟩ | ⟨y,k,rfl,hy⟩
  ·rcases cJ with ⟨rfl,rfl⟩ | ⟨y',k',rfl,jW⟩
   ·simp[run_underlying aN,Instr.slice,Instr.sliceBounds,(hτ.get aM).size]
   ·have h2:ev y'=.int k' h:=he y' _ (by simp[ho,Op.operands]) jW;simp[run_underlying aN,Instr.slice,Instr.sliceBounds,Instr.sliceBound,h2,asIntOf,(hτ.get aM).size,FR]
  ·have h3:ev y=.int k l:=he y _ (by simp[ho,Op.operands]) hy;rcases cJ with ⟨rfl,rfl⟩ | ⟨y',k',rfl,jW⟩
   ·simp[run_underlying aN,Instr.slice,Instr.sliceBounds,Instr.sliceBound,h3,asIntOf,(hτ.get aM).size,y4]
   ·have h2:ev y'=.int k' h:=he y' _ (by simp[ho,Op.operands]) jW;simp[run_underlying aN,Instr.slice,Instr.sliceBounds,Instr.sliceBound,h2,h3,asIntOf,(hτ.get aM).size,FR,y4]
theorem Rel.newOwn {W0:World} {H0:Bs} {β:Nat->Nat} {a:Act} {W:World} (r:Rel n W0 H0 β env bx H a W) (T:TypeId) (cs:List Value) :
  Rel n W0 H0 β env bx ⟨H.ro,(W.heap.size,T,cs)::H.ow,H.base⟩ a (W.alloc (.cells cs.toArray T)):=by
 have cd:W0.heap.size<=W.heap.size:=r.bel.size;have cI:Below W.heap.size W (W.alloc (.cells cs.toArray T)):=(Below.refl _ _).alloc (qH _) _
 have iw:H.ro W.heap.size=none:=by
  cases hc:H.ro W.heap.size with
  | none=>rfl
  | some c=>exact absurd (r.fits.lt (b:=W.heap.size) (by rw[hc];simp)) (Nat.lt_irrefl _)
 refine⟨r.size,r.defers,r.slot,fun i T' aq hg=>(r.box i T' aq hg).alloc _,r.low,r.inj,r.pin,r.fits.below cI,r.le,r.new.alloc r.fits _,r.bel.alloc _,r.glob,fun j b T' aq hj=>?_,fun j j' b T1 T2 c1 c2 hj ak=>?_⟩
 ·cases j with
  | zero =>
   simp at hj;obtain⟨rfl,rfl,rfl⟩:=hj;exact⟨Box.new _ _ _,.inl cd,iw,fun i hi e=>by have:=r.lt hi;omega⟩
  | succ j =>
   obtain⟨h1,h2,h3,h4⟩:=r.own j b T' aq (by simpa using hj);exact⟨h1.alloc _,h2,h3,h4⟩
 ·have lt:∀j T c,H.ow[j]?=some (W.heap.size,T,c)->False:=fun j T c hj=>by
   have:=(r.own j _ T c hj).1.lt;omega
  cases j with
  | zero =>
   simp at hj
   cases j' with
   | zero=>rfl
   | succ j'=>exact(lt j' T2 c2 (by rw[hj.1];simpa using ak)).elim
  | succ j =>
   cases j' with
   | zero=>simp at ak;exact(lt j T1 c1 (by rw[ak.1];simpa using hj)).elim
   | succ j'=>rw[r.one j j' b T1 T2 c1 c2 (by simpa using hj) (by simpa using ak)]
theorem Rel.subOw {W0:World} {H0:Bs} {β:Nat->Nat} {a:Act} {W:World} (r:Rel n W0 H0 β env bx H a W) (pre mid post:Ows) (e:H.ow=pre++(mid++post)):Rel n W0 H0 β env bx ⟨H.ro,pre++post,H.base⟩ a W:=by
 have key:∀j p,(pre++post)[j]?=some p->∃j',H.ow[j']?=some p/\j'=(if j<pre.length then j else j+mid.length):=fun j p hj=>by
  by_cases h:j<pre.length
  ·refine⟨j,?_,by rw[if_pos h]⟩;rw[e,qM h]
   rwa [qM h]at hj
  ·refine⟨j+mid.length,?_,by rw[if_neg h]⟩;rw[qL (by omega)]at hj;rw[e,qL (by omega),qL (by omega)];rw[show j+mid.length-pre.length-mid.length=j-pre.length by omega];exact hj
 refine⟨r.size,r.defers,r.slot,r.box,r.low,r.inj,r.pin,r.fits,r.le,r.new,r.bel,r.glob,fun j b T cs hj=>?_,fun j j' b T1 T2 c1 c2 hj ak=>?_⟩
 ·obtain⟨q,hq,_⟩:=key j _ hj;exact r.own q b T cs hq
 ·obtain⟨q,hq,eq⟩:=key j _ hj;obtain⟨q',lp,eq'⟩:=key j' _ ak;have:=r.one q q' b T1 T2 c1 c2 hq lp;subst eq;subst eq';split at this <;> split at this <;> omega
theorem EVL.subOw (pre mid post:Ows) (e:H.ow=pre++(mid++post)) (h:EVL P n ops rest env bx ⟨H.ro,pre++post,H.base⟩ Q):EVL P n ops rest env bx H Q :=
 fun W0 β a W r=>h W0 β a W (r.subOw pre mid post e)
theorem EV.subOw {c:Code} (pre mid post:Ows) (e:H.ow=pre++(mid++post)) (h:EV P n c env bx ⟨H.ro,pre++post,H.base⟩ Q):EV P n c env bx H Q :=
 fun W0 β a W r=>h W0 β a W (r.subOw pre mid post e)
theorem Rel.publish {W0:World} {H0:Bs} {β:Nat->Nat} {a:Act} {W:World} (r:Rel n W0 H0 β env bx H a W) (pre post:Ows) (b:Nat) (T:TypeId) (cs:List Value) (e:H.ow=pre++((b,T,cs)::post)) (iO:∀k,k∈H0.lent->k≠b) :
  Rel n W0 H0 β env bx ⟨fun k=>if k=b then some cs.toArray else H.ro k,pre++post,H.base⟩ a W/\H.ro.Le (fun k=>if k=b then some cs.toArray else H.ro k):=by
 have ah:H.ow[pre.length]?=some (b,T,cs):=by rw[e];simp
 obtain⟨hB,cU,iw,dt⟩:=r.own _ b T cs ah
 have hle:H.ro.Le (fun k=>if k=b then some cs.toArray else H.ro k):=fun k c hk=>by
  have:k≠b:=fun e'=>by subst e';rw[iw]at hk;cases hk
  simp only[if_neg this];exact hk
 refine⟨?_,hle⟩;have r':=r.subOw pre [(b,T,cs)] post (by rw[e];rfl);refine⟨r.size,r.defers,fun t s hs=>?_,r.box,fun i hi=>⟨(r.low i hi).1,?_⟩,r.inj,r.pin,fun k c hk=>?_,r.le.trans hle,fun k c hk=>?_,r.bel,r.glob,fun j b' T' aq hj=>?_,r'.one⟩
 ·obtain⟨x,hx,hr⟩:=r.slot t s hs;exact⟨x,hx,hr.mono hle⟩
 ·simp only[if_neg (dt i hi)];exact(r.low i hi).2
 ·by_cases ek:k=b
  ·subst ek;simp only[if_true]at hk;cases hk;exact⟨T,(0,0),hB⟩
  ·simp only[if_neg ek]at hk;exact r.fits k c hk
 ·by_cases ek:k=b
  ·subst ek;simp only[if_true]at hk;cases hk;exact .inr ⟨cU.resolve_right (fun hk=>iO _ hk rfl),T,hB⟩
  ·simp only[if_neg ek]at hk;exact r.new k c hk
 ·obtain⟨h1,h2,h3,h4⟩:=r'.own j b' T' aq hj;refine⟨h1,h2,?_,h4⟩
  have hne:b'≠b:=fun e'=>by
   subst e'
   have key:∃q,H.ow[q]?=some (b',T',aq)/\q≠pre.length:=by
    by_cases ak:j<pre.length
    ·refine⟨j,?_,by omega⟩;rw[e,qM ak]
     rwa [qM ak]at hj
    ·refine⟨j+1,?_,by omega⟩;rw[qL (by omega)]at hj;rw[e,qL (by omega),show j+1-pre.length=(j-pre.length)+1 by omega,pM];exact hj
   obtain⟨q,hq,hne⟩:=key;exact hne (r.one q pre.length b' T' T aq cs hq ah)
  simp only[if_neg hne];exact h3
theorem EVL.publish (pre post:Ows) {b:Nat} {T:TypeId} {cs:List Value} (e:H.ow=pre++((b,T,cs)::post)) (h:∀G,H.ro.Le G->G b=some cs.toArray->EVL P n ops rest env bx ⟨G,pre++post,H.base⟩ Q) (iO:∀k,k∈H.base.lent->k≠b:=by exact fun _ h=>Hy h):EVL P n ops rest env bx H Q :=
 fun W0 β a W r=>by
  obtain⟨r',hle⟩:=r.publish pre post b T cs e iO;exact h _ hle (by simp) W0 β a W r'
theorem EV.publish {c:Code} (pre post:Ows) {b:Nat} {T:TypeId} {cs:List Value} (e:H.ow=pre++((b,T,cs)::post)) (h:∀G,H.ro.Le G->G b=some cs.toArray->EV P n c env bx ⟨G,pre++post,H.base⟩ Q) (iO:∀k,k∈H.base.lent->k≠b:=by exact fun _ h=>Hy h):EV P n c env bx H Q :=
 fun W0 β a W r=>by
  obtain⟨r',hle⟩:=r.publish pre post b T cs e iO;exact h _ hle (by simp) W0 β a W r'
theorem EVL.make (hτ:bp P τ) {T:TypeId} {x y:Operand} (ho:o.op=.makeSlice T x y) (hg:o.guard=none) (hd:o.dst=some d) (hn:Nat.blt d n=true) {te te':TE} {e:TypeId} (ht:τ.get T=some te) (hk:te.kind=.slice e) (aM:τ.get e=some te')
  {k k':IntKind} {z:Int} (hx:env.op x=some (.v (.int k z))) (hy:env.op y=some (.v (.int k' z))) (m:Nat) (hz:z=m) (hm:m<=1000000000) (lI:Nat.ble te'.bytes 10000=true) (cd:Nat.beq te'.zero.length te'.size=true)
  (h:∀b,EVL P n ops rest ((d,.v (.slice (some ⟨b,0,none⟩) m m))::env) bx ⟨H.ro,(b,e,(List.replicate m te'.zero).flatten)::H.ow,H.base⟩ Q):EVL P n ops (o::rest) env bx H Q:=fun W0 β a W r=>by
 have aW:=(hτ.get ht).kind;rw[hk]at aW;have aN:P.underlying T=some (.slice e):=aW;obtain⟨zv,cz,mi⟩:=(hτ.get aM).info;obtain⟨i0,hi,eP,fC,iY⟩:=info_parts cz;have ex:a.eval x=.int k z:=r.op hx;have ey:a.eval y=.int k' z:=r.op hy;have hb:=Nat.le_of_ble_eq_true lI
 have hl:=qy cd
 have aY:=run_make (P:=P) W T e i0 zv aN hi eP k k' z z (by omega) (Int.le_refl _) (by
  rw[iY,hz];have:te'.bytes*m<=10000*1000000000:=Nat.mul_le_mul hb hm;have h2:((te'.bytes*m:Nat):Int)<=((10000*1000000000:Nat):Int):=by exact_mod_cast this
  rw[Int.natCast_mul]at h2;omega) (by omega)
 have FD:madeCells zv.cells (z.toNat*i0.size)=((List.replicate m te'.zero).flatten).toArray:=by
  rw[mi,fC,hz,qU];apply Array.ext
  ·simp[madeCells,hl]
  ·intro i h1 h2;simp only[madeCells,Array.getElem_map,Array.getElem_range];have ef:i<m*te'.size:=by simpa[madeCells] using h1
   have bQ:0<te'.size:=by rcases qz te'.size with h | h;(rw[h]at ef;omega);exact h
   have key:∀(q i:Nat),i<q*te'.size->((List.replicate q te'.zero).flatten)[i]?=te'.zero[i % te'.size]?:=by
    intro q
    induction q with
    | zero=>intro i hi;omega
    | succ q ih =>
     intro i hi;rw[List.replicate_succ,List.flatten_cons];by_cases af:i<te'.size
     ·rw[qM (by omega),qT af]
     ·rw[qL (by omega),ih (i-te'.zero.length) (by rw[qv]at hi;omega),hl];congr 1;exact(Nat.mod_eq_sub_mod (by omega)).symm
   have h3:=key m i ef;have h4:i % te'.size<te'.zero.length:=by rw[hl];exact qm _ bQ
   rw[qA (by simpa using h2),qA h4]at h3;have h5:=Option.some.inj h3;simp only[List.getElem_toArray,h5];simp[hl,getElem!_pos,qm _ bQ]
 refine wpList_plain hg fun K hK=>?_
 have hx':(execOp a.eval o).run P W=.ok (.value (.slice (some ⟨W.heap.size,0,none⟩) m m)) (W.alloc (.cells ((List.replicate m te'.zero).flatten).toArray e)):=by
  unfold execOp;simp only[ho,ex,ey,Sem.run_bind,aY,Result.andThen_ok,Sem.run_pure];rw[FD,hz,qU]
 unfold Oper.wp;rw[hx',Oper.upon_value,hd];exact hK _ _ (h W.heap.size W0 β _ _ ((r.newOwn e _).put hn Z Z))
end
theorem Z0 (z:List Value) (size:Nat) (hl:z.length=size):∀(q i:Nat),i<q*size->((List.replicate q z).flatten)[i]?=z[i % size]?:=by
 intro q
 induction q with
 | zero=>intro i hi;omega
 | succ q ih =>
  intro i hi;rw[List.replicate_succ,List.flatten_cons];by_cases af:i<size
  ·rw[qM (by omega),qT af]
  ·rw[qL (by omega),ih (i-z.length) (by rw[qv]at hi;omega),hl];congr 1;exact(Nat.mod_eq_sub_mod (by omega)).symm
theorem Mb (z:List Value) (size m:Nat) (hl:z.length=size):((Array.range (m*size)).map (z.toArray[· % z.toArray.size]!))=((List.replicate m z).flatten).toArray:=by
 apply Array.ext
 ·simp[hl]
 ·intro i h1 h2;have ef:i<m*size:=by simpa using h1
  have bQ:0<size:=by rcases qz size with h | h;(rw[h]at ef;omega);exact h
  have h3:=Z0 z size hl m i ef;have h4:i % size<z.length:=by rw[hl];exact qm _ bQ
  rw[qA (by simpa using h2),qA h4]at h3;have h5:=Option.some.inj h3;simp only[Array.getElem_map,Array.getElem_range,List.getElem_toArray,h5];simp[hl,getElem!_pos,qm _ bQ]
def IG {α:Type}:List Value->List Value->(List Value->Option α)->Option α
 | [],r,k=>k r
 | c::cs,r,k=>IG cs r fun r'=>k (c::r')
def zI {α:Type} (z:List Value):Nat->(List Value->Option α)->Option α
 | 0,k=>k []
 | m+1,k=>zI z m fun r=>IG z r k
def zt {α:Type} (env:Env) (size:Nat):List (Nat × Operand)->List Value->(List Value->Option α)->Option α
 | [],cs,k=>k cs
 | (f,x)::r,cs,k=>match env.op x with
  | some (.v v)=>match nW v with
   | some vs=>match Nat.beq vs.length size with
    | true=>wrK (f*size) vs cs fun aq=>zt env size r aq k
    | false=>none
   | none=>none
  | _=>none
theorem UM {α:Type}:∀(cs r:List Value) (k:List Value->Option α),IG cs r k=k (cs++r)
 | [],_,_=>rfl
 | c::cs,r,k=>by unfold IG;rw[UM];rfl
theorem LR {α:Type} (z:List Value):∀(m:Nat) (k:List Value->Option α),zI z m k=k ((List.replicate m z).flatten)
 | 0,_=>rfl
 | m+1,k=>by unfold zI;rw[LR z m,UM,List.replicate_succ,List.flatten_cons]
theorem Mc {α:Type} {env:Env} {size:Nat}:∀(ps:List (Nat × Operand)) (cs:List Value) (k:List Value->Option α) (r:α),zt env size ps cs k=some r ->
  ∃aq,k aq=some r/\∀(β:Nat->Nat) (H:Hp) (ev:Operand->Value),(∀y s,y∈ps.map (·.2)->env.op y=some s->s.rep β H (ev y)) ->
   Instr.fill (fun i=>some (i*size,size)) cs.toArray (ps.map fun p=>(p.1,ev p.2))=some aq.toArray
 | [],cs,k,r,h=>⟨cs,h,fun _ _ _ _=>rfl⟩
 | (f,x)::ps,cs,k,r,h=>by
  unfold zt at h;split at h
  ·rename_i v hx;split at h
   ·rename_i vs aG;split at h
    ·rename_i hl;obtain⟨h1,h2⟩:=zP _ _ _ _ _ h;obtain⟨aq,hk,dS⟩:=Mc ps _ k r h1;refine⟨aq,hk,fun β H ev he=>?_⟩;have hv:ev x=v:=he x _ (by simp) hx;have hlen:=qy hl;rw[qx];unfold Instr.fill;simp only[hv,zY aG];rw[if_neg (by simp[hlen];omega)];have:=IC vs cs (f*size) 0 (by omega);rw[qY]at this
     have e:(vs.toArray.zipIdx.foldl (fun (cs:Array Value) (x:Value × Nat)=>match x with | (c,j)=>cs.setIfInBounds (f*size+j) c) cs.toArray)=(vs.zipIdx.foldl (fun (c:Array Value) (p:Value × Nat)=>c.setIfInBounds (f*size+p.2) p.1) cs.toArray):=by
      simp
     rw[e,this];exact dS β H ev (fun y s hy=>he y s (by simp at hy ⊢;exact .inr hy))
    ·cases h
   ·cases h
  ·cases h
section
variable {P:Program} {n:Nat} {ops:Array Oper} {o:Oper} {rest:List Oper} {env:Env} {bx:Bxs} {sb:Bxs} {ow:Ows} {H:Hs} {Q:EQ} {τ:Tab} {d:Nat} {s:SV}
theorem EVL.lit (hτ:bp P τ) {T:TypeId} {len:Nat} {parts:Array (Nat × Operand)} (ho:o.op=.buildSlice T len parts) (hg:o.guard=none) (hd:o.dst=some d) (hn:Nat.blt d n=true) {te te':TE} {e:TypeId} (ht:τ.get T=some te) (hk:te.kind=.slice e) (aM:τ.get e=some te')
  (cd:Nat.beq te'.zero.length te'.size=true) (bQ:Nat.ble 1 (len*te'.size)=true) (eS:Nat.ble (len*te'.size) 10000=true) {cs:List Value} (hc:zI te'.zero len (fun zs=>zt env te'.size parts.toList zs some)=some cs)
  (h:∀b,EVL P n ops rest ((d,.v (.slice (some ⟨b,0,none⟩) len len))::env) bx ⟨H.ro,(b,e,cs)::H.ow,H.base⟩ Q):EVL P n ops (o::rest) env bx H Q:=fun W0 β a W r=>by
 have aW:=(hτ.get ht).kind;rw[hk]at aW;have aN:P.underlying T=some (.slice e):=aW;obtain⟨zv,cz,mi⟩:=(hτ.get aM).info;obtain⟨i0,hi,eP,fC,iY⟩:=info_parts cz;have hl:=qy cd;have hp:=Nat.le_of_ble_eq_true bQ;have hm:=Nat.le_of_ble_eq_true eS;rw[LR]at hc;obtain⟨aq,bC,dS⟩:=Mc _ _ _ _ hc;cases bC;have FZ:=dS β H.ro a.eval (fun y s' _ hy=>r.op hy)
 have aY:=run_buildSlice (P:=P) W T e len (parts.map fun (i,x)=>(i,a.eval x)) cs.toArray i0 zv aN hi eP (by rw[fC];omega) (by rw[fC];omega) (by
  rw[fC,mi,Mb te'.zero te'.size len hl,<-FZ];congr 1;simp)
 refine wpList_plain hg fun K hK=>?_
 have hx':(execOp a.eval o).run P W=.ok (.value (.slice (some ⟨W.heap.size,0,none⟩) len len)) (W.alloc (.cells cs.toArray e)):=by
  unfold execOp;simp only[ho,Sem.run_bind,aY,Result.andThen_ok,Sem.run_pure]
 unfold Oper.wp;rw[hx',Oper.upon_value,hd];exact hK _ _ (h W.heap.size W0 β _ _ ((r.newOwn e _).put hn Z Z))
theorem EVL.lit0 (hτ:bp P τ) {T:TypeId} (ho:o.op=.buildSlice T 0 #[]) (hg:o.guard=none) (hd:o.dst=some d) (hn:Nat.blt d n=true) {te te':TE} {e:TypeId} (ht:τ.get T=some te) (hk:te.kind=.slice e) (aM:τ.get e=some te')
  (h:∀b,EVL P n ops rest ((d,.v (.slice (some ⟨b,0,none⟩) 0 0))::env) bx ⟨H.ro,(b,e,[])::H.ow,H.base⟩ Q):EVL P n ops (o::rest) env bx H Q:=fun W0 β a W r=>by
 have aW:=(hτ.get ht).kind;rw[hk]at aW;have aN:P.underlying T=some (.slice e):=aW;refine wpList_plain hg fun K hK=>?_
 have hx':(execOp a.eval o).run P W=.ok (.value (.slice (some ⟨W.heap.size,0,none⟩) 0 0)) (W.alloc (.cells ([]:List Value).toArray e)):=by
  unfold execOp;have cd:(sizeOf e).run P W=.ok te'.size W:=(hτ.get aM).size W;simp[ho,Instr.buildSlice,run_underlying aN,cd,Instr.fill,newRow,Array.range_zero']
 unfold Oper.wp;rw[hx',Oper.upon_value,hd];exact hK _ _ (h W.heap.size W0 β _ _ ((r.newOwn e _).put hn Z Z))
theorem az.idxP {R:Hp} {F:Hp->Prop} (hτ:bp P τ) {T:TypeId} {x y:Operand} (ho:o.op=.indexAddr T x y) (hw:aP ops env o=some true) {te te':TE} {e:TypeId} (ht:τ.get T=some te) (hk:te.kind=.slice e) (aM:τ.get e=some te')
  {b off m cap:Nat} (hx:env.op x=some (.v (.slice (some ⟨b,off,none⟩) m cap))) {k:IntKind} {z:Int} (hy:env.op y=some (.v (.int k z))) (j:Nat) (hz:z=j) (hj:j<m) :
  az P ops o env bx ow R F (fun β u G=>(SV.v (.pointer (some ⟨b,off+j*te'.size,none⟩))).rep β G u) :=
 az.gen hw fun ev W he=>by
  have ex:=he x _ (by simp[ho,Op.operands]) hx;have ey:=he y _ (by simp[ho,Op.operands]) hy;have aW:=(hτ.get ht).kind;rw[hk]at aW;have aN:P.underlying T=some (.slice e):=aW;unfold execOp;simp[ho,ex,ey,Instr.indexAt,asIntOf,run_underlying aN,hz,(hτ.get aM).size,Addr.add_mid,hj]
theorem EVL.loadOwn (hτ:bp P τ) {T:TypeId} {x:Operand} (ho:o.op=.load T x) (hw:aP ops env o=some true) (hd:o.dst=some d) (hn:Nat.blt d n=true) {te:TE} (ht:τ.get T=some te)
  {b q:Nat} (hx:env.op x=some (.v (.pointer (some ⟨b,q,none⟩)))) (jj:Nat) {T':TypeId} {cs:List Value} (hj:H.ow[jj]?=some (b,T',cs)) {l:List Value} (hl:(cs.drop q).take te.size=l) (hlen:l.length=te.size) {v:Value} (hv:nX te.agg l=some v)
  (h:EVL P n ops rest ((d,.v v)::env) bx H Q):EVL P n ops (o::rest) env bx H Q:=fun W0 β a W r=>by
 obtain⟨hB,_⟩:=r.own jj b T' cs hj;have ex:a.eval x=.pointer (some ⟨b,q,none⟩):=r.op hx;have aY:=Ac (hτ.get ht) (by have:=hB.range q te.size;rw[hl]at this;exact this) hlen hv;unfold wpList;rw[if_pos (r.want hw)];refine .inl ?_
 have hx':(execOp a.eval o).run P W=.ok (.value v) W:=by
  unfold execOp;simp only[ho,ex,Sem.run_bind,aY,Result.andThen_ok,Sem.run_pure]
 unfold Oper.wp;rw[hx',Oper.upon_value,hd];exact h W0 β _ W (r.put hn Z Z)
theorem Rel.setOwn {W0:World} {H0:Bs} {β:Nat->Nat} {a:Act} {W:World} (r:Rel n W0 H0 β env bx H a W) (pre post:Ows) {b:Nat} {T:TypeId} {cs:List Value} (e:H.ow=pre++((b,T,cs)::post)) (off:Nat) (vs:List Value) (hl:off+vs.length<=cs.length) :
    Rel n W0 H0 β env bx ⟨H.ro,pre++((b,T,cs.take off++vs++cs.drop (off+vs.length))::post),H.base⟩ a (W.setCells b off vs):=by
  have k:=El b vs off W;have ah:H.ow[pre.length]?=some (b,T,cs):=by rw[e];simp
  obtain⟨hB,cU,iw,dt⟩:=r.own _ b T cs ah;have cd:W0.heap.size<=W.heap.size:=r.bel.size
  have key:∀(j b':Nat) (T':TypeId) (aq:List Value),(pre++((b,T,cs.take off++vs++cs.drop (off+vs.length))::post))[j]?=some (b',T',aq)->(j=pre.length/\b'=b/\T'=T/\aq=cs.take off++vs++cs.drop (off+vs.length))\/(j≠pre.length/\H.ow[j]?=some (b',T',aq)):=by
    intro j b' T' aq hj;by_cases ej:j=pre.length
    · subst ej
      simp at hj;obtain⟨rfl,rfl,rfl⟩:=hj;exact .inl ⟨rfl,rfl,rfl,by simp⟩
    · refine .inr ⟨ej,?_⟩
      rw[e];by_cases h:j<pre.length
      · rw[qM h]at hj ⊢;exact hj
      · rw[qL (by omega)]at hj ⊢
        rw[show j-pre.length=(j-pre.length-1)+1 by omega,pM]at hj ⊢;exact hj
  refine⟨r.size,r.defers,r.slot,fun i T' aq hg=>?_,r.low,r.inj,r.pin,fun c x hc=>?_,r.le,r.new.kept r.fits k (fun c hc e=>hc (by rw[e];exact iw)),?_,r.glob,fun j b' T' aq hj=>?_,fun j j' b' T1 T2 c1 c2 hj ak=>?_⟩
  · have hb:=r.box i T' aq hg
    exact(k.block (β i) hb.lt (dt i (by rw[hg];rfl))).trans hb
  · have hne:c≠b:=fun e'=>by subst e';rw[iw]at hc;cases hc
    rw[k.block c (r.fits.lt (by rw[hc];simp)) hne];exact r.fits c x hc
  · exact r.bel.then k (fun j hj e => by subst e; rcases cU with h | h; · omega
                                         · exact h)
  · rcases key j b' T' aq hj with ⟨rfl,rfl,rfl,rfl⟩ | ⟨hne,ak⟩
    · exact⟨hB.setCells vs off W cs hl,cU,iw,dt⟩
    · obtain⟨h1,h2,h3,h4⟩:=r.own j b' T' aq ak
      have hb:b'≠b:=fun e'=>by subst e';exact hne (r.one j pre.length b' T' T aq cs ak ah)
      exact⟨(k.block b' h1.lt hb).trans h1,h2,h3,h4⟩
  · rcases key j b' T1 c1 hj with ⟨rfl,rfl,rfl,rfl⟩ | ⟨hne,hq⟩
    · rcases key j' b' T2 c2 ak with ⟨rfl,_,_,_⟩ | ⟨AX,lp⟩
      · rfl
      · exact r.one pre.length j' b' T1 T2 cs c2 ah lp
    · rcases key j' b' T2 c2 ak with ⟨rfl,rfl,rfl,rfl⟩ | ⟨AX,lp⟩
      · exact r.one j pre.length b' T1 T2 c1 cs hq ah
      · exact r.one j j' b' T1 T2 c1 c2 hq lp
theorem EVL.storeOwn (hτ:bp P τ) {T:TypeId} {x y:Operand} (ho:o.op=.store T x y) (hg:o.guard=none) (hd:o.dst=none) {te:TE} (ht:τ.get T=some te) {b q:Nat} (hx:env.op x=some (.v (.pointer (some ⟨b,q,none⟩)))) {v:Value} (hy:env.op y=some (.v v))
  (pre post:Ows) {T':TypeId} {cs:List Value} (e:H.ow=pre++((b,T',cs)::post)) {vs:List Value} (aG:nW v=some vs) (hl:Nat.beq vs.length te.size=true) (h1:oneB vs=true) (hle:q+te.size<=cs.length) {aq:List Value} (bC:cs.take q++vs++cs.drop (q+te.size)=aq)
  (h:EVL P n ops rest env bx ⟨H.ro,pre++((b,T',aq)::post),H.base⟩ Q):EVL P n ops (o::rest) env bx H Q:=fun W0 β a W r=>by
 have ah:H.ow[pre.length]?=some (b,T',cs):=by rw[e];simp
 obtain⟨hB,_⟩:=r.own _ b T' cs ah;have ex:a.eval x=.pointer (some ⟨b,q,none⟩):=r.op hx;have ey:a.eval y=v:=r.op hy;have hlen:=qy hl
 have hsc:(storeCells ⟨b,q,none⟩ vs 0).run P W=.ok () (W.setCells b (q+0) vs) :=
  run_storeCells_cells (P:=P) b q vs 0 W (fun j hj=>by rw[qY,cell_of_row W b (q+j) _ T' (0,0) hB];simp;omega) (fun j hj=>by exact hB.free _) (fun u hu=>DY h1 u hu)
 rw[qY]at hsc;refine wpList_plain hg fun K hK=>?_
 have aY:(execOp a.eval o).run P W=.ok .skip (W.setCells b q vs):=by
  unfold execOp;simp only[ho,ex,ey,Instr.storeAt,Instr.sureAddr,storeVar,zY aG,Sem.run_bind,Sem.run_pure,Result.andThen_ok,(hτ.get ht).size];simp[hlen,hsc]
 unfold Oper.wp;rw[aY,Oper.upon_skip,hd];have r':=r.setOwn pre post e q vs (by omega);rw[hlen,bC]at r';exact hK _ _ (h W0 β a _ r')
theorem EVL.set1 (hτ:bp P τ) {T:TypeId} {x y:Operand} (ho:o.op=.store T x y) (hg:o.guard=none) (hd:o.dst=none) {te:TE} (ht:τ.get T=some te) (GU:te.size=1) {b q:Nat} (hx:env.op x=some (.v (.pointer (some ⟨b,q,none⟩)))) {v:Value} (hy:env.op y=some (.v v))
  {post:Ows} {T':TypeId} {cs:List Value} (e:H.ow=(b,T',cs)::post) (aG:nW v=some [v]) (h1:oneB [v]=true) (hle:q<cs.length)
  (h:EVL P n ops rest env bx ⟨H.ro,(b,T',cs.set q v)::post,H.base⟩ Q):EVL P n ops (o::rest) env bx H Q :=
 EVL.storeOwn hτ ho hg hd ht hx hy [] post e aG (by rw[GU];rfl) h1 (by omega) (by rw[GU,List.set_eq_take_append_cons_drop,if_pos hle];simp) h
theorem zgg {P:Program} (w:World) (base:Nat) (t ty e:TypeId) (i:TypeInfo) (z:Value) (size bytes:Nat) (ht:P.underlying t=some (.slice e)) (hi:P.info? e=some i) (hz:i.zero=some z)
  (lf:i.size=size) (lI:i.bytes=bytes) (uy:z.cells.size=size) (cd:0<size) (v:Value) (n:Nat) (xs:List Value) (ah:w.ownsRow base e size v n xs)
  (a:Addr) (m c:Nat) (news:List Value) (hl:news.length=m*size) (jG:∀j u,news[j]?=some u->w.cell? (a.add j)=some u) (h1:∀u∈news,u.oneCell'=true)
  (Dc:n+m<=maxLen) (dL:(n+m)*bytes<=140737488355328) (aI:base<=w.heap.size) :
  ∃v' w',(Builtin.append_ #[t,t] ty #[v,.slice (some a) m c]).run P w=.ok v' w'/\w'.ownsRow base e size v' (n+m) (xs++news)/\w.grownBy w' v.ownBlock /\
   (v'=.slice none 0 0↔v=.slice none 0 0/\m=0)/\∀g,v'.ownBlock=some g->v.ownBlock=some g\/w.heap.size<=g:=by
 obtain⟨v',w',hr,h2,h3,h4⟩:=run_append_own (P:=P) w base t ty e i z size bytes ht hi hz lf lI uy cd v n xs ah a m c news hl jG h1 Dc dL aI;refine⟨v',w',hr,h2,h3,h4,fun g hg=>?_⟩;have fY:n+m<=9223372036854775807:=by simp only[maxLen]at Dc;omega
 rcases ah.2 with ⟨rfl,rfl⟩ | ⟨g0,cap,cur,rfl,WI,nQ,JH,hcm,bC,nD⟩
 ·have hx:xs=[]:=List.eq_nil_of_length_eq_zero (by simpa using ah.1);subst hx;obtain⟨v2,w2,bM,h22,_⟩:=run_append_own (P:=P) w w.heap.size t ty e i z size bytes ht hi hz lf lI uy cd (.slice none 0 0) 0 [] (World.ownsRow_nil w w.heap.size e size) a m c news hl jG h1 Dc dL (qH _);rw[hr]at bM;cases bM;exact .inr ((h22.lt g hg).1)
 ·subst lf;by_cases yU:n+m<=cap
  ·have mY:n*i.size+news.length<=cur.size:=by rw[hl,bC,<-qv];exact qN _ yU
   have bM:=run_append_room (P:=P) w t ty e i ht hi g0 n cap cur nQ a m c news hl jG h1 yU mY;rw[hr]at bM;cases bM;left;exact hg
  ·have holds:∀j u,xs[j]?=some u->w.cell? ((⟨g0,0,none⟩:Addr).add j)=some u:=ah.cells (g:=g0) rfl;have bM:=run_append_grow (P:=P) w t ty e i z ht hi hz ⟨g0,0,none⟩ n cap xs ah.1 holds a m c news hl jG (by omega) (by omega) (growslice_fits (by omega) (by rw[lI];exact dL));rw[hr]at bM;cases bM;right;have:w.heap.size=g:=by simpa[Value.ownBlock] using hg
   omega
def aF (e:TypeId) (size:Nat) (v:Value) (m:Nat) (xs:List Value) (ow:Ows):Prop:=xs.length=m*size /\
 ((v=.slice none 0 0/\m=0/\ow=[])\/∃g cap sp,v=.slice (some ⟨g,0,none⟩) m cap/\ow=[(g,e,xs++sp)]/\(xs++sp).length=cap*size/\m<=cap/\cap<=maxLen)
theorem aF.nil (e:TypeId) (size:Nat):aF e size (.slice none 0 0) 0 [] []:=⟨by simp,.inl ⟨rfl,rfl,rfl⟩⟩
theorem aF.full {e:TypeId} {size m b:Nat} {cs:List Value} (h:cs.length=m*size) (hm:m<=1000000000):aF e size (.slice (some ⟨b,0,none⟩) m m) m cs [(b,e,cs)] :=
 ⟨h,.inr ⟨b,m,[],rfl,by simp,by simpa using h,qH _,by simp only[maxLen];omega⟩⟩
def iJ (H:Hs) (v:Value) (m size:Nat) (ys:List Value):Prop:=ys.length=m*size/\∃b off cap,v=.slice (some ⟨b,off,none⟩) m cap /\
 ((∃(j:Nat) (T:TypeId) (cs:List Value),H.ow[j]?=some (b,T,cs)/\∀q x,ys[q]?=some x->cs[off+q]?=some x)\/∃c,H.ro b=some c/\∀q x,ys[q]?=some x->c[off+q]?=some x)
theorem iJ.own {H:Hs} {m size b cap:Nat} {T:TypeId} {ys:List Value} (j:Nat) (hj:H.ow[j]?=some (b,T,ys)) (hl:ys.length=m*size):iJ H (.slice (some ⟨b,0,none⟩) m cap) m size ys :=
 ⟨hl,b,0,cap,rfl,.inl ⟨j,T,ys,hj,fun q x hq=>by simpa using hq⟩⟩
theorem iJ.ro {H:Hs} {v:Value} {m size:Nat} {ys:List Value} (h:SlC H.ro v m size ys) (hm:0<m):iJ H v m size ys:=by
 refine⟨h.1,?_⟩;rcases h.2 with ⟨h0,_⟩ | ⟨b,off,cap,c,h1,_,h2,h3⟩
 ·omega
 ·exact⟨b,off,cap,h1,.inr ⟨c,h2,h3⟩⟩
theorem EVL.appendN (hτ:bp P τ) {T:TypeId} {x y:Operand} (ho:o.op=.call { callee:=.builtin .append,args:=#[x,y],argTypes:=#[T,T] }) (hg:o.guard=none) (hd:o.dst=some d) (hn:Nat.blt d n=true) {te te':TE} {e:TypeId} (ht:τ.get T=some te) (hk:te.kind=.slice e) (aM:τ.get e=some te')
  (uy:Nat.beq te'.zero.length te'.size=true) (bQ:Nat.ble 1 te'.size=true) (lI:Nat.ble te'.bytes 10000=true) {v:Value} (hx:env.op x=some (.v v)) {u:Value} (hy:env.op y=some (.v u)) (pre ow post:Ows) (he:H.ow=pre++(ow++post)) {m1 m2:Nat} {xs ys:List Value}
  (ah:aF e te'.size v m1 xs ow) (ir:iJ H u m2 te'.size ys) (h1:oneB ys=true) (hm:m1+m2<=1000000000)
  (h:∀v' au,aF e te'.size v' (m1+m2) (xs++ys) au->(∀k,k∈H.base.lent->(∀p,p∈ow->k≠p.1)->∀p,p∈au->k≠p.1)->EVL P n ops rest ((d,.v v')::env) bx ⟨H.ro,pre++(au++post),H.base⟩ Q):EVL P n ops (o::rest) env bx H Q:=fun W0 β a W r=>by
 have aW:=(hτ.get ht).kind;rw[hk]at aW;have aN:P.underlying T=some (.slice e):=aW;obtain⟨zv,cz,mi⟩:=(hτ.get aM).info;obtain⟨i0,hi,eP,fC,iY⟩:=info_parts cz;have ex:a.eval x=v:=r.op hx;have ey:a.eval y=u:=r.op hy;have hl:=qy uy;have hp:=Nat.le_of_ble_eq_true bQ;have hb:=Nat.le_of_ble_eq_true lI
 have cd:W0.heap.size<=W.heap.size:=r.bel.size;obtain⟨fD,sb,so,sc,rfl,fK⟩:=ir
 have jG:∀j w,ys[j]?=some w->W.cell? ((⟨sb,so,none⟩:Addr).add j)=some w:=fun j w hj=>by
  rw[Addr.add_mid];rcases fK with ⟨jj,T',cs,iC,hq⟩ | ⟨c,hc,hq⟩
  ·exact(r.own jj sb T' cs iC).1.at (so+j) (by simpa using hq j w hj)
  ·obtain⟨T',fz,hW⟩:=r.fits sb c hc;rw[cell_of_row W sb (so+j) c T' fz hW];exact hq j w hj
 have je:W.ownsRow 0 e te'.size v m1 xs:=by
  refine⟨ah.1,?_⟩;rcases ah.2 with ⟨h2,h3,_⟩ | ⟨g,cap,sp,h2,h3,h4,h5,h6⟩
  ·exact .inl ⟨h2,h3⟩
  ·have hjg:H.ow[pre.length]?=some (g,e,xs++sp):=by rw[he,h3];simp
   obtain⟨hB,cU,_⟩:=r.own _ _ _ _ hjg;exact .inr ⟨g,cap,(xs++sp).toArray,h2,qQ _,hB,h5,h6,by simpa using h4,by simp only[List.toList_toArray];rw[<-ah.1];exact List.take_left⟩
 refine wpList_plain hg fun K hK=>?_
 have o0:(m1+m2)*te'.bytes<=140737488355328:=by
  have:(m1+m2)*te'.bytes<=1000000000*10000:=Nat.mul_le_mul hm hb;omega
 obtain⟨v',W',wK,se,cK,eG,AQ⟩:=zgg (P:=P) W 0 T o.type e i0 zv te'.size te'.bytes aN hi eP fC iY (by rw[mi];simpa using hl) (by omega) v m1 xs je ⟨sb,so,none⟩ m2 sc ys fD jG (DY h1) (by simp only[maxLen];omega) o0 (qQ _)
 ·have hx':(execOp a.eval o).run P W=.ok (.value v') W':=by
   unfold execOp;simp only[ho,resolve,invoke,builtin,Sem.run_bind,Sem.run_pure,Result.andThen_ok,List.map_toArray,qx,List.map_nil,ex,ey,wK]
  unfold Oper.wp;rw[hx',Oper.upon_value];apply hK;rw[hd];have cI:bK (fun k=>v.ownBlock=some k) W W':=⟨cK.os,cK.tape,cK.output,cK.size,fun k hk hx=>cK.block k hk (fun e=>hx e.symm)⟩
  have vb:∀k,v.ownBlock=some k->∃jS,ow=[(k,e,jS)]:=fun k hk=>by
   rcases ah.2 with ⟨h2,_,_⟩ | ⟨g,cap,sp,h2,h3,_⟩
   ·rw[h2]at hk;cases hk
   ·rw[h2]at hk;cases hk;exact⟨_,h3⟩
  have Ag:∀k,v.ownBlock=some k->∃jS,H.ow[pre.length]?=some (k,e,jS):=fun k hk=>by
   obtain⟨jS,h2⟩:=vb k hk;exact⟨jS,by rw[he,h2];simp⟩
  have rU:∀(j b:Nat) (T':TypeId) (cs:List Value),(pre++post)[j]?=some (b,T',cs)->∃q,H.ow[q]?=some (b,T',cs)/\v.ownBlock≠some b:=fun j b T' cs hj=>by
   have key:∃q,H.ow[q]?=some (b,T',cs)/\(q<pre.length\/pre.length+ow.length<=q):=by
    by_cases h:j<pre.length
    ·exact⟨j,by rw[he,qM h];rwa [qM h]at hj,.inl h⟩
    ·refine⟨j+ow.length,?_,.inr (by omega)⟩;rw[qL (by omega)]at hj;rw[he,qL (by omega),qL (by omega),show j+ow.length-pre.length-ow.length=j-pre.length by omega];exact hj
   obtain⟨q,hq,bQ⟩:=key;refine⟨q,hq,fun fr=>?_⟩;obtain⟨jS,h2⟩:=vb b fr;obtain⟨xs2,h3⟩:=Ag b fr;have:=r.one q pre.length b T' e cs xs2 hq h3;rw[h2]at bQ;simp at bQ;omega
  have cS:Rel n W0 H.base β env bx ⟨H.ro,pre++post,H.base⟩ a W':=by
   refine⟨r.size,r.defers,r.slot,fun i T' aq hg=>?_,r.low,r.inj,r.pin,fun c z hc=>?_,r.le,r.new.kept r.fits cI (fun c hc fr=>?_),?_,r.glob,fun j b T' aq hj=>?_,(r.subOw pre ow post he).one⟩
   ·have dt:=r.box i T' aq hg;refine(cI.block (β i) dt.lt (fun fr=>?_)).trans dt;obtain⟨jS,h2⟩:=Ag _ fr;exact(r.own _ _ _ _ h2).2.2.2 i (by rw[hg];rfl) rfl
   ·rw[cI.block c (r.fits.lt (by rw[hc];simp)) (fun fr=>?_)]
    ·exact r.fits c z hc
    ·obtain⟨jS,h2⟩:=Ag _ fr;rw[(r.own _ _ _ _ h2).2.2.1]at hc;cases hc
   ·obtain⟨jS,h2⟩:=Ag _ fr;exact hc (r.own _ _ _ _ h2).2.2.1
   ·refine r.bel.then cI (fun j hj fr=>?_);obtain⟨jS,h2⟩:=Ag _ fr;rcases (r.own _ _ _ _ h2).2.1 with h | h
    ·omega
    ·exact h
   ·obtain⟨q,hq,hne⟩:=rU j b T' aq hj;obtain⟨h2,h3,h4,h5⟩:=r.own q b T' aq hq;exact⟨(cI.block b h2.lt hne).trans h2,h3,h4,h5⟩
  rcases se.2 with ⟨Jv,rh⟩ | ⟨g,cap,cur,Jv,lF,fI,bZ,hmx,lf,nD⟩
  ·have ao:aF e te'.size v' (m1+m2) (xs++ys) []:=⟨se.1,.inl ⟨Jv,rh,rfl⟩⟩;exact h v' [] ao (fun _ _ _ p hp=>by cases hp) W0 β _ W' (cS.put hn rfl rfl)
  ·have cj:cur.toList=(xs++ys)++cur.toList.drop ((m1+m2)*te'.size):=by
    rw[<-nD];exact(List.take_append_drop _ _).symm
   have ao:aF e te'.size v' (m1+m2) (xs++ys) [(g,e,(xs++ys)++cur.toList.drop ((m1+m2)*te'.size))] :=
    ⟨se.1,.inr ⟨g,cap,_,Jv,rfl,by rw[<-cj];simpa using lf,bZ,hmx⟩⟩
   have hBg:Box W' g ((xs++ys)++cur.toList.drop ((m1+m2)*te'.size)).toArray e:=by
    rw[<-cj];simpa[Box] using fI
   have sW:v.ownBlock=some g\/W.heap.size<=g:=AQ g (by rw[Jv];rfl)
   have hgl:W0.heap.size<=g\/g∈H.base.lent:=by
    rcases sW with fr | hge
    ·obtain⟨jS,h2⟩:=Ag _ fr;exact(r.own _ _ _ _ h2).2.1
    ·exact .inl (by omega)
   have Qu:H.ro g=none/\(∀i,(bx.get i).isSome=true->β i≠g)/\∀(j:Nat) (T':TypeId) (aq:List Value),(pre++post)[j]?≠some (g,T',aq):=by
    rcases sW with fr | hge
    ·obtain⟨jS,h2⟩:=Ag _ fr;obtain⟨_,_,h3,h4⟩:=r.own _ _ _ _ h2;exact⟨h3,h4,fun j T' aq hj=>(rU j g T' aq hj).choose_spec.2 fr⟩
    ·refine⟨?_,fun i hi e=>by have:=r.lt hi;omega,fun j T' aq hj=>?_⟩
     ·cases hc:H.ro g with
      | none=>rfl
      | some c=>exact absurd (r.fits.lt (b:=g) (by rw[hc];simp)) (by omega)
     ·obtain⟨q,hq,_⟩:=rU j g T' aq hj;have:=(r.own q g T' aq hq).1.lt;omega
   have ia:∀k,k∈H.base.lent->(∀p,p∈ow->k≠p.1)->∀p,p∈[(g,e,(xs++ys)++cur.toList.drop ((m1+m2)*te'.size))]->k≠p.1:=fun k hk hold p hp=>by
    obtain rfl:=pK.1 hp;rcases sW with fr | hge
    ·obtain⟨jS,h2⟩:=vb g fr;exact hold (g,e,jS) (by rw[h2];exact pK.2 Z)
    ·have:=(r.glob.2 k hk).2;show k≠g;omega
   refine h v' _ ao ia W0 β _ W' (Rel.put ?_ hn Z Z)
   have key:∀(j b:Nat) (T':TypeId) (aq:List Value),(pre++([(g,e,(xs++ys)++cur.toList.drop ((m1+m2)*te'.size))]++post))[j]?=some (b,T',aq)->(j=pre.length/\b=g/\T'=e/\aq=(xs++ys)++cur.toList.drop ((m1+m2)*te'.size))\/(b≠g/\(pre++post)[if j<pre.length then j else j-1]?=some (b,T',aq)/\j≠pre.length):=by
    intro j b T' aq hj;by_cases ej:j=pre.length
    ·subst ej;simp at hj;obtain⟨rfl,rfl,rfl⟩:=hj;exact .inl ⟨rfl,rfl,rfl,by simp⟩
    ·have hq:(pre++post)[if j<pre.length then j else j-1]?=some (b,T',aq):=by
      by_cases af:j<pre.length
      ·rw[if_pos af,qM af]
       rwa [qM af]at hj
      ·rw[if_neg af,qL (by omega)];rw[qL (by omega),qL (by simp;omega)]at hj;simp only[qR,qg]at hj;rw[show j-1-pre.length=j-pre.length-(0+1) by omega];exact hj
     refine .inr ⟨fun e'=>?_,hq,ej⟩;subst e';exact Qu.2.2 _ _ _ hq
   refine⟨cS.size,cS.defers,cS.slot,cS.box,cS.low,cS.inj,cS.pin,cS.fits,cS.le,cS.new,cS.bel,cS.glob,fun j b T' aq hj=>?_,fun j j' b T1 T2 c1 c2 hj ak=>?_⟩
   ·rcases key j b T' aq hj with ⟨_,rfl,rfl,rfl⟩ | ⟨_,hq,_⟩
    ·exact⟨hBg,hgl,Qu.1,Qu.2.1⟩
    ·exact cS.own _ b T' aq hq
   ·rcases key j b T1 c1 hj with ⟨h2,h2b,_⟩ | ⟨h2,hq,Ba⟩
    ·rcases key j' b T2 c2 ak with ⟨h3,_⟩ | ⟨h3,_⟩
     ·omega
     ·exact absurd h2b h3
    ·rcases key j' b T2 c2 ak with ⟨_,h3,_⟩ | ⟨_,lp,hjn'⟩
     ·exact absurd h3 h2
     ·have:=cS.one _ _ b T1 T2 c1 c2 hq lp;split at this <;> split at this <;> omega
theorem EVL.append (hτ:bp P τ) {T:TypeId} {x y:Operand} (ho:o.op=.call { callee:=.builtin .append,args:=#[x,y],argTypes:=#[T,T] }) (hg:o.guard=none) (hd:o.dst=some d) (hn:Nat.blt d n=true) {te te':TE} {e:TypeId} (ht:τ.get T=some te) (hk:te.kind=.slice e) (aM:τ.get e=some te')
  (uy:Nat.beq te'.zero.length te'.size=true) (bQ:Nat.ble 1 te'.size=true) (lI:Nat.ble te'.bytes 10000=true) {v:Value} (hx:env.op x=some (.v v)) {u:Value} (hy:env.op y=some (.v u)) (pre ow post:Ows) (he:H.ow=pre++(ow++post)) {m1 m2:Nat} {xs ys:List Value}
  (ah:aF e te'.size v m1 xs ow) (ir:iJ H u m2 te'.size ys) (h1:oneB ys=true) (hm:m1+m2<=1000000000)
  (h:∀v' au,aF e te'.size v' (m1+m2) (xs++ys) au->EVL P n ops rest ((d,.v v')::env) bx ⟨H.ro,pre++(au++post),H.base⟩ Q):EVL P n ops (o::rest) env bx H Q :=
 EVL.appendN hτ ho hg hd hn ht hk aM uy bQ lI hx hy pre ow post he ah ir h1 hm fun v' au h2 _=>h v' au h2
end
end
end Go.Proofs.YtkeklikocibiaaaGreatDoor
