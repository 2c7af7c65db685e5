/- Texts of ours in one: Tr7, Tr8, Tr9, Tr10, Tr11, Tr12, Tr13, Wd8, Ev28, Pg1, Tr14, Tr15, Pg2, Od1, Pg3, Tr16, Tr17, Tr18, Tr19, Tr20, Tr21, Tr22, Tr23, Tr24, Tr25, Tr26, Opn, Opn20, Tr27, Tr29, Tr30, Tr31, Pg4, Tg1, Pg5, Pg6, Pg7, Str2, Str3, Bd1, Bd2, Pg9, Bd3, Tg2, Tg3, Kd17, Tg4, Pg8, Tr32, Tr33, Tr34, Tr35, Tr36, PgD, Ot1, Ot2, PgE, PgF, Th1, Th2, Th3, Th4, Opn18, Th5, LaidE. -/
import Derived.Test.YtifcjfodgicngaaGreatDoorG0
import Derived.Test.YtifcjfodgicngaaGreatDoorG1
import Derived.Test.YtifcjfodgicngaaGreatDoorG2
import Derived.Test.YtifcjfodgicngaaGreatDoorG3
import Derived.Test.YtifcjfodgicngaaGreatDoorG4
import Derived.WalkKit
import Derived.ProofKit
import Derived.OpenShut
import Derived.Lib.ItoaMem
import Derived.Lib.AppendIntMem
import Derived.Lib.ItoaWalk
import Derived.BigCall
import Derived.BigGuard
import Derived.Laws.Concat
import Derived.Lib.AppendStr
import Derived.Lib.UnsafeStr
import Derived.LaidMore
import Derived.Lay
import Derived.Stop.Joined
set_option linter.unusedVariables false
set_option linter.unusedSimpArgs false
set_option maxHeartbeats 64000000
namespace Go.Proofs.YtifcjfodgicngaaGreatDoor
section
inductive Sub (T:List Nd) (w:Int):Nat→Nat→Nat→Prop
 | leaf {k h:Nat} {n:Nd}:T[k]?=some n→n.col = -1→n.left=0→n.right=0→n.at'=0→Sub T w k h (k+1)
 | node {k h m e:Nat} {n:Nd}:T[k]?=some n→0≤n.col→n.col<w→n.left=((k+1:Nat):Int)→n.right=(m:Int)→Sub T w (k+1) h m→Sub T w m h e→Sub T w k (h+1) e
theorem Sub.lt {T:List Nd} {w:Int} {k h e:Nat} (h0:Sub T w k h e):k<e∧e≤T.length:=by
 induction h0 with
 | leaf hn _ _ _ _ =>
  have:=(qE.1 hn).1;omega
 | node _ _ _ _ _ _ _ ih1 ih2=>omega
structure OkN (kd cl:Int) (n:Nd):Prop where
 rows:1≤n.rows∧n.rows≤1048576
 cost:0≤n.cost
 len:(n.counts.length:Int)=cl
 pos:∀c,c∈n.counts→0≤c
 sum:kd=1→n.counts.sum=n.rows
 cls:n.cls=(topN n.counts n.counts.length:Int)
 value:kd=1→n.value=0
 small:ht n.at'≤100∧ht n.cost≤2000000∧ht n.value≤4000
structure OkC (n a b:Nd):Prop where
 rows:n.rows=a.rows+b.rows
 counts:∀k:Nat,n.counts.getD k 0=a.counts.getD k 0+b.counts.getD k 0
 cost:a.cost+b.cost≤n.cost
def zlL (kd cl:Int) (T:List Nd) (i:Nat):Prop:=∃n,T[i]?=some n∧OkN kd cl n∧(n.col ≠ -1→0≤n.col∧0≤n.left∧0≤n.right∧∃a b,T[n.left.toNat]?=some a∧T[n.right.toNat]?=some b∧OkC n a b)
structure zp8 (p:GP) (kd cl:Int) (w:Nat):Prop where
 kind:(kd=1∧1≤cl∧cl≤12)∨(kd=2∧cl=0)
 rowsX:p.X.length≤300
 wide:∀x,x∈p.X→x.length=w
 small:∀x,x∈p.X→∀q,q∈x→ht q≤5
 clen:∀l,((p.cnt l).length:Int)=cl
 cadd:∀r l m:List Int,r.Perm (l++m)→∀k:Nat,(p.cnt r).getD k 0=(p.cnt l).getD k 0+(p.cnt m).getD k 0
 cpos:∀l c,c∈p.cnt l→0≤c
 csum:kd=1→∀l,(∀r,r∈l→0≤r∧r<(p.X.length:Int))→(p.cnt l).sum=(l.length:Int)
 zero:kd=1→∀l,p.mean l=0
 cost0:∀l,0≤p.cost l
 csm:∀l:List Int,l.length≤300→(∀r,r∈l→0≤r∧r<(p.X.length:Int))→ht (p.cost l)≤2000000
 msm:∀l:List Int,l.length≤300→(∀r,r∈l→0≤r∧r<(p.X.length:Int))→ht (p.mean l)≤4000
 gain:0≤p.gain
 cols:∀s c,c∈(p.cols s).1→0≤c∧c<(w:Int)
theorem zlc (l:List Int) (f:Int→Bool):l.Perm (l.filter f++l.filter fun x => !f x):=by
 induction l with
 | nil=>exact List.Perm.nil
 | cons x l ih =>
  cases h:f x with
  | true=>rw[List.filter_cons_of_pos h,List.filter_cons_of_neg (by simp[h])];exact List.Perm.cons x ih
  | false=>rw[List.filter_cons_of_neg (by simp[h]),List.filter_cons_of_pos (by simp[h])];exact(List.Perm.cons x ih).trans List.perm_middle.symm
theorem zrw {p:GP} {kd cl:Int} {w:Nat} (hp:zp8 p kd cl w) {rows:List Int} {s c:Int} {t:Rat} (hb:∀r,r∈rows→0≤r∧r<(p.X.length:Int)) (h:p.cut rows (p.cols s).1=some (c,t)) :
  (0≤c∧c<(w:Int))∧ht t≤100∧1≤(zbd p.X c t rows).length∧1≤(zaz p.X c t rows).length∧rows.Perm (zbd p.X c t rows++zaz p.X c t rows)∧p.cost (zbd p.X c t rows)+p.cost (zaz p.X c t rows)≤p.cost rows:=by
 unfold GP.cut at h
 cases hbe:p.best rows (p.cols s).1 with
 | none=>rw[hbe]at h;cases h
 | some q =>
  obtain⟨c',t',g⟩:=q;rw[hbe]at h;dsimp only at h;split at h
  ·cases h
  ·rename_i hg;cases h;have hf:=zcJ (zaD p.X p.cost rows (max 1 p.least) (p.cols s).1);rw[show (zaD p.X p.cost rows (max 1 p.least) (p.cols s).1).foldl zf3 none=some (c,t,g) from hbe]at hf;have hm:=hf.1;unfold zaD zbC at hm;obtain⟨c2,hc2,hm⟩:=List.mem_flatMap.1 hm;obtain⟨t2,ht2,hm⟩:=List.mem_flatMap.1 hm;split at hm
   ·rename_i hL;cases List.mem_singleton.1 hm;have hcw:=hp.cols s c hc2
    have hall:∀r,r∈rows→zcD p.X c r=true:=fun r hr=>by
     obtain⟨R,rfl⟩:=Int.eq_ofNat_of_zero_le (hb r hr).1;have hR:=(hb _ hr).2;unfold zcD;obtain⟨x,hx⟩:∃x,p.X[R]?=some x:=⟨_,qA oM⟩;rw[Int.toNat_natCast,qB,hx,Option.getD_some,hp.wide x (qF hx)];simp;omega
    have hlo:zbd p.X c t rows=rows.filter fun r=>decide (zbB p.X c r≤t):=by
     unfold zbd;exact List.filter_congr fun r hr=>by rw[hall r hr,Bool.true_and]
    have hhi:zaz p.X c t rows=rows.filter fun r => !decide (zbB p.X c r≤t):=by
     unfold zaz;exact List.filter_congr fun r hr=>by rw[hall r hr,Bool.true_and]
    have hpm:rows.Perm (zbd p.X c t rows++zaz p.X c t rows):=by rw[hlo,hhi];exact zlc _ _
    have h0:=hp.gain;refine⟨hcw,zo9 hp.small ht2,by omega,by omega,hpm,?_⟩;have:p.gain<p.cost rows-(p.cost (zbd p.X c t rows)+p.cost (zaz p.X c t rows)):=Rat.not_le.1 hg;grind
   ·cases hm
theorem ztB {p:GP} {kd cl:Int} {w:Nat} (hp:zp8 p kd cl w) {rows:List Int} (h1:1≤rows.length) (h2:rows.length≤300) (hb:∀r,r∈rows→0≤r∧r<(p.X.length:Int)) {c l r:Int} {t:Rat} (ht':ht t≤100):OkN kd cl { p.nd rows with col:=c,left:=l,right:=r,at':=t } :=
 ⟨⟨by show 1≤(rows.length:Int);omega,by show (rows.length:Int)≤1048576;omega⟩,hp.cost0 rows,hp.clen rows,hp.cpos rows,fun e=>hp.csum e rows hb,rfl,fun e=>hp.zero e rows,ht',hp.csm rows h2 hb,hp.msm rows h2 hb⟩
theorem zoD {p:GP} {kd cl:Int} {w:Nat} (hp:zp8 p kd cl w):∀(d k:Nat) (rows:List Int) (s:Int),1≤rows.length→rows.length≤300→(∀r,r∈rows→0≤r∧r<(p.X.length:Int))→∀T:List Nd,(∀(j:Nat) (n:Nd),(p.grow d k rows s).1[j]?=some n→T[k+j]?=some n) →
  Sub T w k d (k+(p.grow d k rows s).1.length)∧(∃n,T[k]?=some n∧n.rows=(rows.length:Int)∧n.counts=p.cnt rows∧n.cost=p.cost rows)∧∀j,j<(p.grow d k rows s).1.length→zlL kd cl T (k+j):=by
 have single:∀(d k:Nat) (rows:List Int),1≤rows.length→rows.length≤300→(∀r,r∈rows→0≤r∧r<(p.X.length:Int))→∀T:List Nd,(∀(j:Nat) (n:Nd),[p.nd rows][j]?=some n→T[k+j]?=some n) →
   Sub T w k d (k+1)∧(∃n,T[k]?=some n∧n.rows=(rows.length:Int)∧n.counts=p.cnt rows∧n.cost=p.cost rows)∧∀j,j<1→zlL kd cl T (k+j):=by
  intro d k rows h1 h2 hb T hT;have h0:=hT 0 _ rfl;rw[Nat.add_zero]at h0;refine⟨.leaf h0 rfl rfl rfl rfl,⟨_,h0,rfl,rfl,rfl⟩,fun j hj=>?_⟩;obtain rfl:j=0:=by omega
  refine⟨_,by rw[Nat.add_zero];exact h0,ztB hp h1 h2 hb (c:=-1) (l:=0) (r:=0) (t:=0) (by rw[zcE];decide),fun e=>absurd rfl e⟩
 intro d
 induction d with
 | zero =>
  intro k rows s h1 h2 hb T hT;rw[GP.grow_zero]at hT ⊢;exact single 0 k rows h1 h2 hb T hT
 | succ d ih =>
  intro k rows s h1 h2 hb T hT
  cases hc:p.cut rows (p.cols s).1 with
  | none =>
   rw[GP.grow_none hc]at hT ⊢;exact single (d+1) k rows h1 h2 hb T hT
  | some ct =>
   obtain⟨c,t⟩:=ct;obtain⟨hcw,htb,hl1,hr1,hpm,hcost⟩:=zrw hp hb hc;have hll:(zbd p.X c t rows).length≤300:=qI (List.length_filter_le _ _) h2;have hhl:(zaz p.X c t rows).length≤300:=qI (List.length_filter_le _ _) h2;have hlm:∀r,r∈zbd p.X c t rows→0≤r∧r<(p.X.length:Int):=fun r hr=>hb r (List.mem_filter.mp hr).1;have hhm:∀r,r∈zaz p.X c t rows→0≤r∧r<(p.X.length:Int):=fun r hr=>hb r (List.mem_filter.mp hr).1;rw[GP.grow_some hc]at hT ⊢;have hLl:=p.grow_len d (k+1) (zbd p.X c t rows) (p.cols s).2;have ihL:=ih (k+1) (zbd p.X c t rows) (p.cols s).2 hl1 hll hlm T;generalize p.grow d (k+1) (zbd p.X c t rows) (p.cols s).2=L at *
   obtain⟨Ls,s2⟩:=L;have hRl:=p.grow_len d (k+1+Ls.length) (zaz p.X c t rows) s2;have ihR:=ih (k+1+Ls.length) (zaz p.X c t rows) s2 hr1 hhl hhm T;dsimp only at hT hLl ihL ⊢;generalize p.grow d (k+1+Ls.length) (zaz p.X c t rows) s2=R at *
   obtain⟨Rs,s3⟩:=R;dsimp only at hT hRl ihR ⊢;have h0:=hT 0 _ rfl;rw[Nat.add_zero]at h0
   obtain⟨sL,⟨a,ha,ha1,ha2,ha3⟩,nL⟩:=ihL (fun j n hj=>by
    have:=hT (j+1) n (by rw[List.getElem?_cons_succ,List.getElem?_append_left (qE.1 hj).1];exact hj);rw[show k+1+j=k+(j+1) by omega];exact this)
   obtain⟨sR,⟨b,hb',hb1,hb2,hb3⟩,nR⟩:=ihR (fun j n hj=>by
    have:=hT (j+Ls.length+1) n (by rw[List.getElem?_cons_succ,List.getElem?_append_right oM,Nat.add_sub_cancel];exact hj);rw[show k+1+Ls.length+j=k+(j+Ls.length+1) by omega];exact this)
   have hlen:rows.length=(zbd p.X c t rows).length+(zaz p.X c t rows).length:=by rw[hpm.length_eq,List.length_append]
   have hroot:zlL kd cl T k:=by
    refine⟨_,h0,ztB hp h1 h2 hb htb,fun _=>⟨hcw.1,Int.natCast_nonneg _,Int.natCast_nonneg _,a,b,by rw[Int.toNat_natCast];exact ha,by rw[Int.toNat_natCast];exact hb',⟨?_,fun q=>?_,?_⟩⟩⟩
    ·rw[ha1,hb1];show (rows.length:Int)=_;omega
    ·rw[ha2,hb2];exact hp.cadd _ _ _ hpm q
    ·rw[ha3,hb3];exact hcost
   refine⟨?_,⟨_,h0,rfl,rfl,rfl⟩,fun j hj=>?_⟩
   ·rw[List.length_cons,List.length_append,show k+(Ls.length+Rs.length+1)=k+1+Ls.length+Rs.length by omega];exact .node h0 hcw.1 hcw.2 rfl rfl sL sR
   ·rw[List.length_cons,List.length_append]at hj
    cases j with
    | zero=>exact hroot
    | succ j =>
     by_cases h:j<Ls.length
     ·rw[show k+(j+1)=k+1+j by omega];exact nL j h
     ·rw[show k+(j+1)=k+1+Ls.length+(j-Ls.length) by omega];exact nR _ oM
structure zet (t:Tr):Prop where
 kind:(t.kd=1∧1≤t.cl∧t.cl≤12)∨(t.kd=2∧t.cl=0)
 wide:1≤t.w∧t.w≤20
 len:t.ns.length≤2000
 sub:∃h,h≤10∧Sub t.ns t.w 0 h t.ns.length
 nodes:∀i,i<t.ns.length→zlL t.kd t.cl t.ns i
theorem zoE {p:GP} {kd cl:Int} {w D:Nat} (hp:zp8 p kd cl w) (hw:1≤w∧w≤20) (hD:D≤9) {rows:List Int} (h1:1≤rows.length) (h2:rows.length≤300) (hb:∀r,r∈rows→0≤r∧r<(p.X.length:Int)) (s:Int):zet ⟨kd,cl,w,(p.grow D 0 rows s).1⟩:=by
 obtain⟨h3,_,h4⟩:=zoD hp D 0 rows s h1 h2 hb (p.grow D 0 rows s).1 (fun j n hj=>by rw[Nat.zero_add];exact hj);have hl:=(p.grow_len D 0 rows s).2;have hpow:2 ^ (D+1)≤2 ^ 10:=Nat.pow_le_pow_right oM oM;rw[Nat.zero_add]at h3;exact⟨hp.kind,⟨by show (1:Int)≤w;omega,by show (w:Int)≤20;omega⟩,by show (p.grow D 0 rows s).1.length≤2000;omega,⟨D,by omega,h3⟩,fun i hi=>by have:=h4 i hi;rwa [Nat.zero_add]at this⟩
end
section
open Go.RowKit _root_.Go.Proofs.Tryz
theorem zb6.get {H:Hp} {css:List (List Value)} {ns:List Nd} (h:zb6 H css ns) {j:Nat} {n:Nd} (hj:ns[j]?=some n):∃c,(css.flatten.drop (j*15)).take 15=c∧zbS H c n:=by
 have hlt:=(qE.1 hj).1;obtain⟨c,hc⟩:∃c,css[j]?=some c:=⟨_,qA (by rw[h.1];exact hlt)⟩;refine⟨c,?_,h.2 j c n hc hj⟩
 have h15:∀x,x∈css→(id x).length=15:=fun x hx=>by
  obtain⟨i,hi⟩:=List.mem_iff_getElem?.1 hx;have hi':=(qE.1 hi).1;exact(h.2 i x _ hi (qA (by rw[←h.1];exact hi'))).len
 have:=zdF id 15 css h15 j c hc
 rwa [List.flatMap_id]at this
abbrev zuf (kd cl w:Int) (vn:Value):Value:=.agg #[.int .i64 kd,.int .i64 cl,.int .i64 w,vn]
theorem zc5 {l:List Int} (h:∀c,c∈l→0≤c) (k:Nat):0≤(l.take k).sum∧(l.take k).sum≤l.sum:=by
 have h0:∀m:List Int,(∀c,c∈m→0≤c)→0≤m.sum:=fun m=>by
  induction m with
  | nil=>exact fun _=>Int.le_refl 0
  | cons c m ih=>intro hm;rw[List.sum_cons];have:=hm c (List.mem_cons_self ..);have:=ih fun c hc=>hm c (List.mem_cons_of_mem _ hc);omega
 have e:l.sum=(l.take k).sum+(l.drop k).sum:=by rw[←List.sum_append,List.take_append_drop]
 have h1:=h0 (l.take k) fun c hc=>h c (List.mem_of_mem_take hc);have h2:=h0 (l.drop k) fun c hc=>h c (List.mem_of_mem_drop hc);omega
theorem zsS {q:Rat} (h:0≤q):¬q.num.sign<0:=by
 have:=Rat.num_nonneg.2 h;intro k;have:=Int.sign_nonneg_iff.2 this;omega
theorem Sub.end0 {T:List Nd} {w:Int} {h e:Nat} (h0:Sub T w 0 h e):0<T.length:=by
 have:=h0.lt;omega
def zhx (z:Int):Prop:=-9223372036854775808≤z∧z<9223372036854775808
structure zjn (kd cl:Int) (n:Nat) (cost mean:List Int→Rat) (cnt:List Int→List Int):Prop where
 kind:(kd=1∧1≤cl∧cl≤12)∨(kd=2∧cl=0)
 clen:∀l,((cnt l).length:Int)=cl
 cadd:∀r l m:List Int,r.Perm (l++m)→∀k:Nat,(cnt r).getD k 0=(cnt l).getD k 0+(cnt m).getD k 0
 cpos:∀l c,c∈cnt l→0≤c
 csum:kd=1→∀l,(∀r,r∈l→0≤r∧r<(n:Int))→(cnt l).sum=(l.length:Int)
 zero:kd=1→∀l,mean l=0
 cost0:∀l,0≤cost l
 csm:∀l:List Int,l.length≤300→(∀r,r∈l→0≤r∧r<(n:Int))→ht (cost l)≤2000000
 msm:∀l:List Int,l.length≤300→(∀r,r∈l→0≤r∧r<(n:Int))→ht (mean l)≤4000
theorem zhj:∀l:List Rat,(∀q,q∈l→0≤q)→0≤zaN l
 | [],_=>by rw[zdP];exact Rat.le_refl
 | x::l,h=>by
  rw[zaH];exact Rat.add_nonneg (h x (.head _)) (zhj l fun q hq=>h q (.tail _ hq))
theorem zk6 (m:Rat) (l:List Rat):0≤zaN (zez m l):=zhj _ fun q hq=>by
 obtain⟨v,_,rfl⟩:=List.mem_map.1 hq;exact zkw _
theorem zjE (L:List Int):0≤zfQ L:=by
 unfold zfQ;have h1:=zii L;by_cases h0:L.length=0
 ·obtain rfl:=List.length_eq_zero_iff.1 h0;decide +kernel
 ·have hp:(0:Rat)<((L.length:Int):Rat):=by
   have:((0:Int):Rat)<((L.length:Int):Rat):=Rat.intCast_lt_intCast.2 oM;exact this
  have h2:((sqL L:Int):Rat)≤((L.length:Int):Rat)*((L.length:Int):Rat):=by
   rw[←Rat.intCast_mul];exact Rat.intCast_le_intCast.2 (by exact_mod_cast h1)
  generalize ((L.length:Int):Rat)=N at *
  generalize ((sqL L:Int):Rat)=S at *
  have h3:0≤N⁻¹:=Rat.le_of_lt (Rat.inv_pos.2 hp);have h4:0≤N*N-S:=by grind
  have h5:=Rat.mul_nonneg h4 h3;have hne:N≠0:=by grind
  have h6:N*N⁻¹=1:=Rat.mul_inv_cancel N hne;have h7:(N*N-S)*N⁻¹=N-S / N:=by rw[Rat.div_def];grind
  rw[h7]at h5;exact h5
theorem zmx {α:Type} (f:α→Nat):∀l:List α,(l.map fun x=>(f x:Int)).sum=(((l.map f).sum:Nat):Int)
 | []=>rfl
 | x::l=>by
  rw[List.map_cons,List.map_cons,List.sum_cons,List.sum_cons,zmx f l];omega
theorem zqo {C:Nat} {L:List Int} (h:∀z,z∈L→0≤z∧z<(C:Int)):(zdg C L).sum=(L.length:Int):=by
 have h1:=(zi9 C L h).2;unfold zdg;rw[zmx (fun k:Nat=>L.count (k:Int)),←h1]
theorem zgr (C:Nat) (L:List Int) (k:Nat):(zdg C L).getD k 0=if k<C then (L.count (k:Int):Int) else 0:=by
 rw[qB];by_cases h:k<C
 ·rw[ze3 _ h,if_pos h];rfl
 ·rw[List.getElem?_eq_none (by rw[zbk];omega),if_neg h];rfl
theorem zqn (C:Nat) {R L M:List Int} (h:R.Perm (L++M)) (k:Nat):(zdg C R).getD k 0=(zdg C L).getD k 0+(zdg C M).getD k 0:=by
 rw[zgr,zgr,zgr,h.count_eq,List.count_append];split <;> omega
theorem zqg {ls:List Int} {rs:List Int} (h:∀r,r∈rs→0≤r∧r<(ls.length:Int)):∀q,q∈atI ls rs→q∈ls:=fun q hq=>by
 obtain⟨r,hr,rfl⟩:=List.mem_map.1 hq;have:=h r hr;have hl:r.toNat<ls.length:=by omega
 rw[qB,qA hl];exact List.getElem_mem hl
theorem znp {w:Nat} (h0:1≤w) (hw:w≤1000) (s:Int) {k:Nat}:∀c,c∈((zat w s).1.take k)→0≤c∧c<(w:Int):=fun c hc=>by
 have hp:=zj6 (w-1) (zgb w) s (by rw[zby];omega) (by rw[zby];omega);have hm:=hp.mem_iff.1 (List.mem_of_mem_take hc);unfold zgb at hm;obtain⟨i,hi,rfl⟩:=List.mem_map.1 hm;have:=List.mem_range.1 hi;show (0:Int)≤(i:Int)∧(i:Int)<w;omega
def zdh (H:Hp) (cs:List Value) (n:Nd):Prop:=∃a c,IL H (.slice a n.counts.length c) n.counts ∧
 cs=[.int .i64 n.col,.int .i64 n.left,.int .i64 n.right,.int .i64 n.rows,.int .i64 n.cls]++(zac (zag n.at')++(zac (zag n.cost)++(zac (zag n.value)++[.slice a n.counts.length c])))
theorem zdh.mono {H G:Hp} {cs:List Value} {n:Nd} (h:zdh H cs n) (k:H.Le G):zdh G cs n:=by
 obtain⟨a,c,h1,e⟩:=h;exact⟨a,c,h1.mono k,e⟩
theorem zdh.len {H:Hp} {cs:List Value} {n:Nd} (h:zdh H cs n):cs.length=21:=by
 obtain⟨a,c,_,rfl⟩:=h;rfl
theorem ztq (cs:List Value):[Value.agg cs.toArray].flatMap zac=cs:=by
 show zac (.agg cs.toArray)++[]=cs;rw[qG];rfl
theorem ztr (c:List Value):[c].flatten=c:=List.flatten_singleton
def zdX (H:Hp) (css:List (List Value)) (ns:List Nd):Prop:=css.length=ns.length∧∀(j:Nat) (c:List Value) (n:Nd),css[j]?=some c→ns[j]?=some n→zdh H c n
theorem zdX.mono {H G:Hp} {css:List (List Value)} {ns:List Nd} (h:zdX H css ns) (k:H.Le G):zdX G css ns:=⟨h.1,fun j c n e1 e2=>(h.2 j c n e1 e2).mono k⟩
theorem zdX.get {H:Hp} {css:List (List Value)} {ns:List Nd} (h:zdX H css ns) {j:Nat} {n:Nd} (hj:ns[j]?=some n):∃c,(css.flatten.drop (j*21)).take 21=c∧zdh H c n:=by
 have hlt:=(qE.1 hj).1;obtain⟨c,hc⟩:∃c,css[j]?=some c:=⟨_,qA (by rw[h.1];exact hlt)⟩;refine⟨c,?_,h.2 j c n hc hj⟩
 have h21:∀x,x∈css→(id x).length=21:=fun x hx=>by
  obtain⟨i,hi⟩:=List.mem_iff_getElem?.1 hx;have hi':=(qE.1 hi).1;exact(h.2 i x _ hi (qA (by rw[←h.1];exact hi'))).len
 have:=zdF id 21 css h21 j c hc
 rwa [List.flatMap_id]at this
def zer (H:Hp) (cs:List Value) (kd cl w:Int) (ns:List Nd):Prop:=∃a c css,cs=[.int .i64 kd,.int .i64 cl,.int .i64 w,.slice a ns.length c]∧zdX H css ns∧SlC H (.slice a ns.length c) ns.length 21 css.flatten
theorem zer.mono {H G:Hp} {cs:List Value} {kd cl w:Int} {ns:List Nd} (h:zer H cs kd cl w ns) (k:H.Le G):zer G cs kd cl w ns:=by
 obtain⟨a,c,css,e,h1,h2⟩:=h;exact⟨a,c,css,e,h1.mono k,h2.mono k⟩
def zft (n:Nd):Prop:=rq n.at'∧rq n.cost∧rq n.value∧n.counts.length≤1000000
theorem OkN.smallN {kd cl:Int} {n:Nd} (h:OkN kd cl n) (hc:cl≤12):zft n:=by
 obtain⟨h1,h2,h3⟩:=h.small;have:=h.len;unfold zft rq;exact⟨by omega,by omega,by omega,by omega⟩
theorem zqM {H:Hp} {v:Value} {cl:Int} {sl sv:Value}:PC prog 20 #[zai 1 cl sl sv,v] H fun r _=>r=zag 0:=by
 refine BD func20 ntmps20 ?_;refine uR ?_;exact zce.symm
section
variable {P:Program} {n:Nat} {ops:Array Oper} {o:Oper} {rest:List Oper} {env:Env} {bx:Bxs} {sb:Bxs} {ow:Ows} {H:Hs} {Q:EQ} {τ:Tab} {d:Nat} {s:SV}
theorem zsR {f:Fn} {x y z:Operand} (ho:o.op=.makeFunc f #[] #[x,y,z]) {u v w:Value} (hx:env.op x=some (.v u)) (hy:env.op y=some (.v v)) (hz:env.op z=some (.v w)) (ev:Operand→Value) (W:World) (he:∀y x,y∈o.op.operands→env.op y=some (.v x)→ev y=x) :
  (execOp ev o).run P W=.ok (.value (.func f #[] #[u,v,w])) W:=by
 have ex:=he x _ (by simp[ho,Op.operands]) hx;have ey:=he y _ (by simp[ho,Op.operands]) hy;have ez:=he z _ (by simp[ho,Op.operands]) hz;unfold execOp;simp[ho,ex,ey,ez,Instr.makeFunc]
theorem EVL.fn3 {f:Fn} {x y z:Operand} (ho:o.op=.makeFunc f #[] #[x,y,z]) (hw:zah ops env o=some true) (hd:o.dst=some d) (hn:Nat.blt d n=true) {u v w:Value} (hx:env.op x=some (.v u)) (hy:env.op y=some (.v v)) (hz:env.op z=some (.v w))
  (h:EVL P n ops rest ((d,.v (.func f #[] #[u,v,w]))::env) bx H Q):EVL P n ops (o::rest) env bx H Q:=EVL.gen hw hd hn (zsR ho hx hy hz) h
theorem EVL.callWC {f:FuncId} {t:Nat} {args:Array Operand} {tys:Array TypeId} (ho:o.op=.call ⟨.value (.tmp t),args,tys⟩) (hw:zah ops env o=some true) (hd:o.dst=some d) (hn:Nat.blt d n=true)
  {cs:List Value} (ht:env.op (.tmp t)=some (.v (.func (.func f) #[] cs.toArray))) {vs:List Value} (ha:zbe env args.toList some=some vs) (L R:Ows) (e:H.ow=L++R) {Φ:Value→Ows→Hp→Prop} (hpc:PW P f (vs++cs).toArray H.ro L Φ)
  (h:∀v ow H',Φ v ow H'→H.ro.Le H'→EVL P n ops rest ((d,.v v)::env) bx ⟨H',ow++R,H.base⟩ Q):EVL P n ops (o::rest) env bx H Q:=fun W0 β a W r=>by
 obtain⟨vs',hk,hm⟩:=zaY env _ _ _ ha;cases hk;have hvs:=hm β H.ro a.eval (fun y s _ hy=>r.op hy);have htv:a.eval (.tmp t)=.func (.func f) #[] cs.toArray:=r.op ht;unfold wpList;rw[if_pos (r.want hw)];refine .inl ?_;unfold Oper.wp;rw[zfK hpc.can ho htv hvs,Oper.upon_enter]
 have up:∀(j b:Nat) (T:TypeId) (cs:List Value),L[j]?=some (b,T,cs)→H.ow[j]?=some (b,T,cs):=fun j b T cs hj=>by
  rw[e,List.getElem?_append_left (qE.1 hj).1];exact hj
 refine(hpc.run W r.fits r.globW (fun j b T cs hj=>?_) (fun j j' b T T' cs cs' hj hj'=>r.one j j' b T T' cs cs' (up _ _ _ _ hj) (up _ _ _ _ hj'))).mono ?_
 ·obtain⟨h1,h2,h3,_⟩:=r.own j b T cs (up _ _ _ _ hj);refine⟨h1,h3,?_⟩;rcases h2 with h2 | h2
  ·cases hg:gH b with
   | none=>rfl
   | some c=>have:=r.glob.1.lt (b:=b) (by rw[hg];simp);omega
  ·exact(r.glob.2 b h2).1
 ·rintro e' W' ⟨v,ow,H',rfl,hΦ,hle,hf,hnw,hkp,hown,hdist⟩;rw[hd];exact h v ow H' hΦ hle W0 β _ W' ((r.callW e hle hf hnw hkp hown hdist).put hn rfl rfl)
end
section
variable {P:Program} {n:Nat} {ops:Array Oper} {o:Oper} {rest:List Oper} {env:Env} {bx:Bxs} {H:Hs} {Q:EQ} {d:Nat}
end
theorem zqV {H:Hp} {kd cl:Int} {sl sv vx vr vc:Value} {p:GP} {S:List Int→List Value} {wo:List Int→Rat} {rows cols:List Int} {least:Int} (hg:GOk H kd cl sl sv p.X.length S wo) (hp:POk wo p.cost) (hX:QLL H vx p.X) (hr:IL H vr rows) (hn:rows.length≤20) (hb:∀r,r∈rows→0≤r∧r<(p.X.length:Int)) (hc:IL H vc cols) (hcn:cols.length≤1000000) (hx:∀x,x∈p.X→∀q,q∈x→ht q≤100) (hpl:p.least=least) :
  PC prog 168 #[zai kd cl sl sv,vx,vr,vc,.int .i64 least] H fun r _=>r=.tuple #[.agg (zrv (p.best rows cols)).toArray,.bool (p.best rows cols).isSome]:=by
 refine(zr2 hg hX hr hn hc hcn hx).mono ?_;rintro r G ⟨ps,h1,h2,h3⟩ _;rw[zdn hb]at h2 h3;have e:=zkW hp h1 h2
 have e2:p.best rows cols=(zb1 ps).map fun t=>(t.1,t.2.1,t.2.2-wo rows):=by
  unfold GP.best;rw[hpl,show max 1 least=max least 1 from Int.max_comm _ _];exact e.symm
 rcases h3 with ⟨h4,rfl⟩ | ⟨c,a,w,h4,rfl⟩
 ·rw[e2,h4];rfl
 ·rw[e2,h4];rfl
structure zis (H:Hp) (kd cl:Int) (sl sv:Value) (p:GP) (S:List Int→List Value) (wo:List Int→Rat):Prop where
 ok:GOk H kd cl sl sv p.X.length S wo
 pok:POk wo p.cost
 counts:∀G,H.Le G→∀u l,IL G u l→l.length≤300→PC prog 23 #[zai kd cl sl sv,u] G fun r H'=>IL H' r (p.cnt (exL l p.X.length))
 cntlen:∀l,(p.cnt l).length≤12
 top:∀G,H.Le G→∀u l,IL G u l→l.length≤300→PC prog 21 #[zai kd cl sl sv,u] G fun r _=>r=.int .i64 (topN (p.cnt (exL l p.X.length)) (p.cnt (exL l p.X.length)).length:Nat)
 mean:∀G,H.Le G→∀u l,IL G u l→l.length≤300→PC prog 20 #[zai kd cl sl sv,u] G fun r _=>r=zag (p.mean (exL l p.X.length))
 small:∀l:List Int,l.length≤300→(∀r,r∈l→0≤r∧r<(p.X.length:Int))→ht (p.cost l)≤2000000
 cost:∀G,H.Le G→∀u l,IL G u l→l.length≤300→PC prog 19 #[zai kd cl sl sv,u] G fun r _=>r=zag (p.cost (exL l p.X.length))
theorem zis.mono {H H':Hp} {kd cl:Int} {sl sv:Value} {p:GP} {S:List Int→List Value} {wo:List Int→Rat} (h:zis H kd cl sl sv p S wo) (k:H.Le H'):zis H' kd cl sl sv p S wo :=
 ⟨h.ok.mono k,h.pok,fun G hG=>h.counts G (k.trans hG),h.cntlen,fun G hG=>h.top G (k.trans hG),fun G hG=>h.mean G (k.trans hG),h.small,fun G hG=>h.cost G (k.trans hG)⟩
theorem zdh.cells {H:Hp} {cs:List Value} {n:Nd} (h:zdh H cs n):∃a c,cs=[.int .i64 n.col,.int .i64 n.left,.int .i64 n.right,.int .i64 n.rows,.int .i64 n.cls,
  .bool (decide (n.at'.num<0)),.int .u64 (lo n.at'.num.natAbs:Int),.string (zan n.at'.num.natAbs),.int .u64 (lo (dk n.at'.den):Int),.string (zan (dk n.at'.den)),
  .bool (decide (n.cost.num<0)),.int .u64 (lo n.cost.num.natAbs:Int),.string (zan n.cost.num.natAbs),.int .u64 (lo (dk n.cost.den):Int),.string (zan (dk n.cost.den)),
  .bool (decide (n.value.num<0)),.int .u64 (lo n.value.num.natAbs:Int),.string (zan n.value.num.natAbs),.int .u64 (lo (dk n.value.den):Int),.string (zan (dk n.value.den)),.slice a n.counts.length c]∧IL H (.slice a n.counts.length c) n.counts:=by
 obtain⟨a,c,h1,rfl⟩:=h;exact⟨a,c,rfl,h1⟩
abbrev zlE (kd cl w:Int) (vn:Value) (far:Int):List Value:=[.int .i64 kd,.int .i64 cl,.int .i64 w,vn,.int .i64 far]
set_option maxRecDepth 100000 in
theorem zsD {kd cl w:Int} {a:Option Addr} {cp:Nat} {ns:List Nd} (hln:ns.length≤1000000) {k h e:Nat} (hsub:Sub ns w k h e):∀{H:Hp} {css:List (List Value)} {b:Nat} {T:TypeId} {deep:Nat} {far:Int},zdX H css ns→SlC H (.slice a ns.length cp) ns.length 21 css.flatten→deep≤k →
  PW prog 68 #[.pointer (some ⟨b,0,none⟩),.int .i64 (k:Int),.int .i64 (deep:Int)] H [(b,T,zlE kd cl w (.slice a ns.length cp) far)] fun v ow _=>v=.tuple #[.int .i64 (e:Int),.bool true]∧∃far',ow=[(b,T,zlE kd cl w (.slice a ns.length cp) far')]∧far'≤max far ((deep+h:Nat):Int):=by
 induction hsub with
 | @leaf k h n hn hc hl hr ha =>
  intro H css b T deep far hns hsl hdk;have hlt:=(qE.1 hn).1;obtain⟨c,hcut,hnd⟩:=hns.get hn;obtain⟨a7,c7,rfl,_⟩:=hnd.cells
  have hsg:PV prog 45 #[zag n.at'] (.int .i64 0):=by
   rw[ha];exact zdz 0 (by show bl 0≤_;rw[zbx];omega)
  refine PW.body tO func68 rfl kR ntmps68 rfl rfl ?_;refine uR ?_;refine RP ?_;refine EVL.loadOwn tO rfl rfl rfl rfl rfl rfl (0) rfl (rfl) rfl rfl ?_;refine uR ?_;rw[qC (show ¬(k:Int)≥(ns.length:Int) by omega)];refine uR ?_;refine RP ?_;refine EVL.loadOwn tO rfl rfl rfl rfl rfl rfl (0) rfl (rfl) rfl rfl ?_;refine uR ?_;refine EVL.idxM tO rfl rfl rfl rfl rfl rfl rfl rfl rfl (hsl) (k) (rfl) (hlt) (hcut) ?_;refine uR ?_;rw[hc];refine uR ?_;refine RP ?_;refine EVL.loadOwn tO rfl rfl rfl rfl rfl rfl (0) rfl (rfl) rfl rfl ?_;refine uR ?_;refine RP ?_;refine EVL.storeOwn tO rfl rfl rfl rfl rfl rfl ([]) ([]) rfl rfl rfl rfl ((by exact qH 5)) (rfl) ?_;refine uR ?_;rw[hl,hr]
  repeat (first|refine RUN ?_|refine CV (hsg) ?_|refine CE (hsg) ?_)
  refine⟨by rw[zab k (by omega)];rfl,_,rfl,?_⟩;split <;> omega
 | @node k h m e n hn hc1 hc2 hl hr s1 s2 ih1 ih2 =>
  intro H css b T deep far hns hsl hdk;have hlt:=(qE.1 hn).1;obtain⟨hm1,hm2⟩:=s1.lt;obtain⟨he1,he2⟩:=s2.lt;obtain⟨c,hcut,hnd⟩:=hns.get hn;obtain⟨a7,c7,rfl,_⟩:=hnd.cells;refine PW.body tO func68 rfl kR ntmps68 rfl rfl ?_;refine uR ?_;refine RP ?_;refine EVL.loadOwn tO rfl rfl rfl rfl rfl rfl (0) rfl (rfl) rfl rfl ?_;refine uR ?_;rw[qC (show ¬(k:Int)≥(ns.length:Int) by omega)];refine uR ?_;refine RP ?_;refine EVL.loadOwn tO rfl rfl rfl rfl rfl rfl (0) rfl (rfl) rfl rfl ?_;refine uR ?_;refine EVL.idxM tO rfl rfl rfl rfl rfl rfl rfl rfl rfl (hsl) (k) (rfl) (hlt) (hcut) ?_;refine uR ?_;rw[show (n.col == -1)=false from beq_eq_false_iff_ne.2 (by omega)];refine uR ?_;apply EV.drawn 20 kR kR;intro xv yw;(repeat refine' DD ?_);rw[qC (show ¬n.col<0 by omega)];(repeat refine' DD ?_);(repeat (first|refine' DD ?_|refine' vN ?_|refine' vF ?_));refine' DJ.ofVal (zaa.loadOwn tO rfl rfl rfl rfl (0) rfl (rfl) rfl rfl) rfl rfl rfl ?_;rotate_left;(repeat refine' DD ?_);rw[qC (show ¬n.col≥w by omega)];(repeat refine' DD ?_);rw[hl,zab k oM,show (((k+1:Nat):Int) != ((k+1:Nat):Int))=false from bne_self_eq_false _];(repeat refine' DD ?_);(refine DJ.nil (fun G1 hG1 hF1=>?_);(case hS|hS2=>rfl));refine uR ?_;rw[zab k oM,zab deep (by omega)];refine EVL.callW rfl rfl rfl rfl rfl ([(b,T,zlE kd cl w (.slice a ns.length cp) far)]) ([]) rfl (ih1 (hns.mono hG1) (hsl.mono hG1) (deep:=deep+1) oM) ?_;rintro _ _ G2 ⟨rfl,far1,rfl,hf1⟩ hG2;refine uR ?_;rw[hr,show ((m:Int) != (m:Int))=false from bne_self_eq_false _];refine uR ?_;rw[zab deep (by omega)];refine EVL.callW rfl rfl rfl rfl rfl ([(b,T,zlE kd cl w (.slice a ns.length cp) far1)]) ([]) rfl (ih2 (hns.mono (hG1.trans hG2)) (hsl.mono (hG1.trans hG2)) (deep:=deep+1) oM) ?_;rintro _ _ G3 ⟨rfl,far2,rfl,hf2⟩ hG3;refine uR ?_;exact⟨rfl,far2,rfl,by omega⟩
set_option maxRecDepth 100000 in
theorem zj8 {H:Hp} {kd cl w:Int} {vn:Value} {n:Nd} {cs:List Value} (hkd:(kd=1∧1≤cl∧cl≤12)∨(kd=2∧cl=0)) (hnd:zdh H cs n) (hN:OkN kd cl n) :
  PC prog 69 #[zuf kd cl w vn,.agg cs.toArray] H fun r _=>r=.bool true:=by
 obtain⟨a7,c7,rfl,k4⟩:=hnd.cells;have hN1:=hN.rows;have hcl:n.counts.length≤12:=by have:=hN.len;omega
 have hsc:PV prog 45 #[zag n.cost] (.int .i64 n.cost.num.sign):=zdz _ (by have:=(zaW hN.small.2.1 oM).num;show bl n.cost.num.natAbs≤_;omega);refine BD func69 ntmps69 ?_;refine uR ?_;rw[qC (show ¬n.rows<1 by omega)];refine uR ?_;rw[qC (show ¬n.rows>1048576 by omega)]
 repeat (first|refine RUN ?_|refine CV (hsc) ?_|refine CE (hsc) ?_)
 rw[qC (zsS hN.cost)];refine uR ?_;rw[show ((n.counts.length:Int) != cl)=false by rw[hN.len];exact bne_self_eq_false _];refine uR ?_;rcases hkd with ⟨rfl,hc1,hc2⟩ | ⟨rfl,rfl⟩
 ·have hsv:PV prog 45 #[zag n.value] (.int .i64 0):=by
   rw[hN.value rfl];exact zdz 0 (by show bl 0≤_;rw[zbx];omega)
  refine uR ?_;refine EV.loopK (ι:=Nat) [2,3,38,39] [2,3] (fun q=>[(5,.v (.int .i64 (n.counts.take q).sum)),(6,.v (.int .i64 (topN n.counts q:Nat))),(40,.v (.int .i64 (q:Int)))]) (fun _=>[]) (fun _=>[]) (fun q _=>q≤n.counts.length) (fun q=>n.counts.length-q) (0) rfl rfl ⟨rfl,rfl,rfl,trivial⟩ trivial rfl (fun _=>rfl) (Nat.zero_le _) ?_;rintro q G2 hG2 hq;have hsum:=hN.sum rfl;refine uR ?_;refine EV.cond rfl (fun hlt=>?_) (fun hlt=>?_)
  ·simp only[nN]at hlt;have ht1:=zc5 hN.pos (q+1);have ht0:=zc5 hN.pos q;have hti:=zjc n.counts q;have htl:topN n.counts q<n.counts.length:=by omega
   have g1:=ze7 hlt;have g2:=ze7 htl;have hz0:=hN.pos _ (qF g1);have hts:(n.counts.take (q+1)).sum=(n.counts.take q).sum+n.counts.getD q 0:=by rw[zap g1,List.sum_append,List.sum_singleton]
   have hst:topN n.counts (q+1)=if n.counts.getD (topN n.counts q) 0<n.counts.getD q 0 then q else topN n.counts q:=rfl
   generalize topN n.counts q=tp at *
   generalize n.counts.getD tp 0=x at *
   generalize n.counts.getD q 0=y at *
   refine uR ?_;refine vI ((k4.mono hG2)) (q) (rfl) (hlt) ((by rw[List.getElem?_map,g1];rfl)) ?_;refine uR ?_;rw[qC (show ¬y<0 by omega)];refine uR ?_;rw[qC (show ¬y>n.rows by omega)];refine uR ?_;rw[show IntKind.i64.wrap ((n.counts.take q).sum+y)=(n.counts.take (q+1)).sum by rw[IntKind.wrap_i64];omega];refine vI ((k4.mono hG2)) (tp) (rfl) (htl) ((by rw[List.getElem?_map,g2];rfl)) ?_;refine uR ?_;by_cases h:y>x
   ·rw[qD h];rw[if_pos h]at hst;refine uR ?_;refine⟨q+1,⟨rfl,by rw[hst];rfl,by rw[zab q (by omega)];rfl,trivial⟩,sB,trivial,sB,rfl,by omega,Hp.Le.refl _,by omega⟩
   ·rw[qC h];rw[if_neg h]at hst;refine uR ?_;refine⟨q+1,⟨rfl,by rw[hst];rfl,by rw[zab q (by omega)];rfl,trivial⟩,sB,trivial,sB,rfl,by omega,Hp.Le.refl _,by omega⟩
  ·simp only[nN]at hlt;obtain rfl:q=n.counts.length:=by omega
   rw[List.take_length,hsum,hN.cls];refine uR ?_;rw[show (n.rows == n.rows)=true from beq_self_eq_true _];refine uR ?_;rw[show ((topN n.counts n.counts.length:Int) == (topN n.counts n.counts.length:Int))=true from beq_self_eq_true _]
   repeat (first|refine RUN ?_|refine CV (hsv) ?_|refine CE (hsv) ?_)
   rfl
 ·have hc0:n.counts=[]:=List.length_eq_zero_iff.1 (by have:=hN.len;omega);have hcls0:n.cls=0:=by rw[hN.cls,hc0];rfl
  rw[hcls0];refine uR ?_;rfl
set_option maxRecDepth 100000 in
theorem zqT {H:Hp} {kd cl:Int} {n na nb:Nd} {cs ca cb:List Value} (hkd:(kd=1∧1≤cl∧cl≤12)∨(kd=2∧cl=0)) (hnd:zdh H cs n) (hnda:zdh H ca na) (hndb:zdh H cb nb) (hN:OkN kd cl n) (hNa:OkN kd cl na) (hNb:OkN kd cl nb) (hCC:OkC n na nb) :
  PC prog 70 #[.agg cs.toArray,.agg ca.toArray,.agg cb.toArray] H fun r _=>r=.bool true:=by
 obtain⟨a7,c7,rfl,k4⟩:=hnd.cells;obtain⟨xa7,xc7,rfl,ka4⟩:=hnda.cells;obtain⟨ya7,yc7,rfl,kb4⟩:=hndb.cells;have hRa:=hNa.rows;have hRb:=hNb.rows;have hRc:=hCC.rows;have hRn:=hN.rows;have hs0:=hN.small;have hsa:=hNa.small;have hsb:=hNb.small;have hlna:(na.counts.length:Int)=cl:=hNa.len;have hlnb:(nb.counts.length:Int)=cl:=hNb.len;have hlnn:(n.counts.length:Int)=cl:=hN.len;have had:=zd0 na.cost nb.cost;have hadd:=zfu na.cost nb.cost (zaW hsa.2.1 oM) (zaW hsb.2.1 oM);have hcmp:=zgq n.cost (na.cost+nb.cost) (zaW hs0.2.1 oM) (by unfold sm;omega);refine BD func70 ntmps70 ?_;refine uR ?_;refine EV.loopK (ι:=Nat) [3,4,5,10,11] [3,4,5] (fun q=>[(12,.v (.int .i64 (q:Int)))]) (fun _=>[]) (fun _=>[]) (fun q _=>q≤n.counts.length) (fun q=>n.counts.length-q) (0) rfl rfl ⟨rfl,trivial⟩ trivial rfl (fun _=>rfl) (Nat.zero_le _) ?_;rintro q G1 hG1 hq;refine uR ?_;refine EV.cond rfl (fun hlt=>?_) (fun hlt=>?_)
 ·simp only[nN]at hlt
  have hk1:kd=1:=by
   rcases hkd with ⟨e,_⟩ | ⟨_,e⟩
   ·exact e
   ·omega
  obtain⟨z,hz⟩:=gE hlt;have hqa:q<na.counts.length:=by omega
  have hqb:q<nb.counts.length:=by omega
  obtain⟨za,hza⟩:=gE hqa;obtain⟨zb,hzb⟩:=gE hqb;have hcc:=hCC.counts q;rw[qB,qB,qB,hz,hza,hzb]at hcc;simp only[Option.getD_some]at hcc;have hz0:=hN.pos z (qF hz)
  have hup:z≤1048576:=by
   have h1:=zc5 hN.pos (q+1);have h2:=zc5 hN.pos q;rw[zap hz,List.sum_append,List.sum_singleton]at h1;have h3:=hN.sum hk1;omega
  have hwz:IntKind.i64.wrap (za+zb)=z:=by rw[IntKind.wrap_i64];omega
  refine uR ?_;refine vI ((k4.mono hG1)) (q) (rfl) (hlt) ((by rw[List.getElem?_map,hz];rfl)) ?_;refine uR ?_;apply EV.drawn 13 kR kR;intro xv yw;(repeat refine' DD ?_);refine' vJ ((ka4.mono hG1)) (q) (rfl) (hqa) ((by rw[List.getElem?_map,hza];rfl)) ?_;rotate_left;(repeat refine' DD ?_);refine' vJ ((kb4.mono hG1)) (q) (rfl) (hqb) ((by rw[List.getElem?_map,hzb];rfl)) ?_;rotate_left;(repeat refine' DD ?_);rw[hwz,show (z != z)=false from bne_self_eq_false _];(repeat refine' DD ?_);(refine DJ.nil (fun G hG hF=>?_);(case hS|hS2=>rfl));refine uR ?_;refine⟨q+1,⟨by rw[zab q (by omega)];rfl,trivial⟩,sB,trivial,sB,rfl,hlt,hG,by omega⟩
 ·simp only[nN]at hlt;refine uR ?_;have hwr:IntKind.i64.wrap (na.rows+nb.rows)=n.rows:=by rw[IntKind.wrap_i64];omega
  apply EV.drawn 20 kR kR;intro xv yw;(repeat refine' DD ?_);rw[hwr,show (n.rows == n.rows)=true from beq_self_eq_true _];(repeat (first|refine' DD ?_|(refine' DC (hadd) (h:=?_);rotate_left)|(refine' DC (hcmp) (h:=?_);rotate_left)));rw[qD (show zct n.cost (na.cost+nb.cost)≥0 from Int.not_lt.1 fun k=>Rat.not_lt.2 hCC.cost ((ziT _ _).1 k))];(repeat refine' DD ?_);(refine DJ.nil (fun G hG hF=>?_);(case hS|hS2=>rfl));refine uR ?_;rfl
abbrev pgC (kd cl:Int) (sl sv vx:Value) (deep least:Int) (gq:Rat) (fv out:Value):List Value:=[.int .i64 kd,.int .i64 cl,sl,sv,vx,.int .i64 deep,.int .i64 least,.bool (decide (gq.num<0)),.int .u64 (lo gq.num.natAbs:Int),.string (zan gq.num.natAbs),.int .u64 (lo (dk gq.den):Int),.string (zan (dk gq.den)),fv,out]
def zgg (H:Hp) (f:FuncId) (ccs:List Value) (dv:Value) (p:GP):Prop:=∀G,H.Le G→∀(D:Ows) (s:Int),zeY dv D s→PW prog f ccs.toArray G D fun v ow G'=>IL G' v (p.cols s).1∧zeY dv ow (p.cols s).2
theorem zgg.mono {H H':Hp} {f:FuncId} {ccs:List Value} {dv:Value} {p:GP} (h:zgg H f ccs dv p) (k:H.Le H'):zgg H' f ccs dv p:=fun G hG=>h G (k.trans hG)
theorem zsK {R:List Value→Nd→Prop} {s:Nat} (hlen:∀c n,R c n→c.length=s) {css:List (List Value)} {A B:List Nd} {n:Nd} (h:css.length=(A++n::B).length∧∀(j:Nat) (c:List Value) (m:Nd),css[j]?=some c→(A++n::B)[j]?=some m→R c m) :
  ∃cA c cB,css=cA++c::cB∧cA.flatten.length=A.length*s∧R c n∧∀(c':List Value) (n':Nd),R c' n'→((cA++c'::cB).length=(A++n'::B).length∧∀(j:Nat) (x:List Value) (m:Nd),(cA++c'::cB)[j]?=some x→(A++n'::B)[j]?=some m→R x m):=by
 have hl:=h.1;rw[List.length_append,List.length_cons]at hl;have hlt:A.length<css.length:=by omega
 have e:css=css.take A.length++css[A.length]::css.drop (A.length+1):=by
  rw[←List.drop_eq_getElem_cons hlt,List.take_append_drop]
 have hla:(css.take A.length).length=A.length:=by rw[List.length_take];omega
 refine⟨_,_,_,e,?_,h.2 A.length _ n (qA hlt) (by rw[List.getElem?_append_right (qH _),Nat.sub_self];rfl),?_⟩
 ·have:∀l:List (List Value),(∀c,c∈l→c.length=s)→l.flatten.length=l.length*s:=by
   intro l
   induction l with
   | nil=>intro _;simp
   | cons c l ih=>intro h;rw[List.flatten_cons,List.length_append,h c (List.mem_cons_self ..),ih (fun c hc=>h c (List.mem_cons_of_mem _ hc)),List.length_cons,Nat.succ_mul];omega
  refine(this _ fun c hc=>?_).trans (by rw[hla]);obtain⟨j,hj⟩:=List.mem_iff_getElem?.1 (List.mem_of_mem_take hc);have hj':=(qE.1 hj).1;obtain⟨m,hm⟩:∃m,(A++n::B)[j]?=some m:=⟨_,qA (by rw[←h.1];exact hj')⟩;exact hlen _ _ (h.2 j c m hj hm)
 ·intro c' n' hc;refine⟨by simp only[List.length_append,List.length_cons,hla,List.length_drop];omega,fun j c1 n1 e1 e2=>?_⟩;rcases Nat.lt_trichotomy j A.length with hj | rfl | hj
  ·rw[List.getElem?_append_left oM,List.getElem?_take_of_lt hj]at e1;rw[List.getElem?_append_left hj]at e2;exact h.2 j c1 n1 e1 (by rw[List.getElem?_append_left hj];exact e2)
  ·rw[List.getElem?_append_right oM,hla,Nat.sub_self]at e1;rw[List.getElem?_append_right (qH _),Nat.sub_self]at e2;cases e1;cases e2;exact hc
  ·obtain⟨k,rfl⟩:∃k,j=A.length+(k+1):=⟨j-A.length-1,by omega⟩;rw[List.getElem?_append_right oM,hla,Nat.add_sub_cancel_left,List.getElem?_cons_succ,List.getElem?_drop]at e1;rw[List.getElem?_append_right oM,Nat.add_sub_cancel_left,List.getElem?_cons_succ]at e2;exact h.2 (A.length+(k+1)) c1 n1 (by rw[←e1];congr 1;omega) (by rw[List.getElem?_append_right oM,Nat.add_sub_cancel_left,List.getElem?_cons_succ];exact e2)
theorem zaJ.midS {s:Nat} (hs:0<s) {e:TypeId} {v:Value} {m:Nat} {cA cB:List (List Value)} {c:List Value} {ow:Ows} (h:zaJ e s v m (cA++c::cB).flatten ow) (hc:c.length=s):∃g cap sp,v=.slice (some ⟨g,0,none⟩) m cap∧ow=[(g,e,cA.flatten++(c++(cB.flatten++sp)))]∧∀c',c'.length=s→zaJ e s v m (cA++c'::cB).flatten [(g,e,cA.flatten++(c'++(cB.flatten++sp)))]:=by
 have hl:=h.1;rcases h.2 with ⟨_,rfl,_⟩ | ⟨g,cap,sp,rfl,rfl,h1,h2,h3⟩
 ·simp[hc]at hl;omega
 ·have e1:∀c':List Value,(cA++c'::cB).flatten=cA.flatten++(c'++cB.flatten):=fun c'=>by simp
  rw[e1]at hl h1;refine⟨g,cap,sp,rfl,by rw[e1];simp,fun c' hc'=>⟨?_,.inr ⟨g,cap,sp,rfl,by rw[e1];simp,?_,h2,h3⟩⟩⟩
  ·rw[e1,←hl];simp[hc,hc']
  ·rw[e1,←h1];simp[hc,hc']
theorem zm0 (o:Option (Int × Rat × Rat)):∃c t g,zrv o=.int .i64 c::(zac (zag t)++zac (zag g))∧∀c' t' g',o=some (c',t',g')→c'=c∧t'=t∧g'=g:=by
 cases o with
 | none=>exact⟨0,0,0,rfl,fun c' t' g' e=>by cases e⟩
 | some q=>obtain⟨c,t,g⟩:=q;exact⟨c,t,g,rfl,fun c' t' g' e=>by cases e;exact⟨rfl,rfl,rfl⟩⟩
theorem zqX {p:GP} {kd cl least deep:Int} {S:List Int→List Value} {wo:List Int→Rat} {la va xa:Option Addr} {ln lc vn vc xc:Nat} {f:FuncId} {ccs:List Value} {dv:Value} (hcl:∀s,(p.cols s).1.length≤1000) (hx0:0<p.X.length) (hX20:p.X.length≤20) (hxq:∀x,x∈p.X→∀q,q∈x→ht q≤5) (hpl:p.least=least) (hgr:sm p.gain):∀(d:Nat) {H:Hp} {b:Nat} {T:TypeId} {dd s:Int} {vr out:Value} {rows:List Int} {ns:List Nd} {css:List (List Value)} {D ow:Ows},
  zis H kd cl (.slice la ln lc) (.slice va vn vc) p S wo→QLL H (.slice xa p.X.length xc) p.X→zgg H f ccs dv p→dd+d=deep→0≤dd→deep≤10 →
  IL H vr rows→rows.length≤20→(∀r,r∈rows→0≤r∧r<(p.X.length:Int))→zeY dv D s→zaJ 69 21 out ns.length css.flatten ow→zdX H css ns→ns.length+2 ^ (d+1)≤1000000 →
  PW prog 118 #[.pointer (some ⟨b,0,none⟩),vr,.int .i64 dd] H ((b,T,pgC kd cl (.slice la ln lc) (.slice va vn vc) (.slice xa p.X.length xc) deep least p.gain (.func (.func f) #[] ccs.toArray) out)::(D++ow)) fun v ow' H'=>v=.tuple #[]∧∃out' D' ow2 css',ow'=(b,T,pgC kd cl (.slice la ln lc) (.slice va vn vc) (.slice xa p.X.length xc) deep least p.gain (.func (.func f) #[] ccs.toArray) out')::(D'++ow2)∧zeY dv D' (p.grow d ns.length rows s).2∧zaJ 69 21 out' (ns++(p.grow d ns.length rows s).1).length css'.flatten ow2∧zdX H' css' (ns++(p.grow d ns.length rows s).1):=by
 intro d
 induction d using Nat.strongRecOn with
 | _ d ih =>
  intro H b T dd s vr out rows ns css D ow hg hX hcf hdd hd0 hd1 hr hn hb hD hown hns hsz;obtain⟨oa,oc,rfl⟩:=hown.val;obtain⟨ra,rc,rfl⟩:=SlC.val hr;have hpw:2≤2 ^ (d+1):=by rw[Nat.pow_succ];have:=Nat.one_le_two_pow (n:=d);omega
  have hex:=zdn hb;have htop:=fun (G:Hp) (hG:H.Le G)=>hg.top G hG _ _ (hr.mono hG) oM;have hcost:=fun (G:Hp) (hG:H.Le G)=>hg.cost G hG _ _ (hr.mono hG) oM;have hmean:=fun (G:Hp) (hG:H.Le G)=>hg.mean G hG _ _ (hr.mono hG) oM;have hcnt:=fun (G:Hp) (hG:H.Le G)=>hg.counts G hG _ _ (hr.mono hG) oM;rw[hex]at htop hcost hmean hcnt;refine PW.body tO func118 rfl kR ntmps118 rfl rfl ?_;refine uR ?_;refine RP ?_;refine EVL.loadOwn tO rfl rfl rfl rfl rfl rfl (0) rfl (rfl) rfl rfl ?_;refine uR ?_;refine EV.meetK (ι:=Value × Ows × List Value) [0,1,2,6] [] (fun _=>[]) (fun _=>[]) (fun q=>(b,T,pgC kd cl (.slice la ln lc) (.slice va vn vc) (.slice xa p.X.length xc) deep least p.gain (.func (.func f) #[] ccs.toArray) q.1)::(D++q.2.1)) (fun q G=>H.Le G∧zaJ 69 21 q.1 (ns.length+1) (css++[q.2.2]).flatten q.2.1∧zdh G q.2.2 (p.nd rows)) rfl rfl (fun _=>rfl) ?_ ?_
  ·refine EVI.start (some 36) (b,T,pgC kd cl (.slice la ln lc) (.slice va vn vc) (.slice xa p.X.length xc) deep least p.gain (.func (.func f) #[] ccs.toArray) (.slice oa ns.length oc)) ?_;refine IV 0 ?_;refine IV 1 ?_;refine IN 2 ?_;refine IF 3 ?_;refine IL0 4 ?_;refine IV 5 ?_;refine IV 6 ?_;refine IV 7 ?_;refine IN 8 ?_;refine IF 9 ?_;refine IL0 10 ?_;refine IV 11 ?_;refine IV 13 ?_;refine IN 14 ?_;refine IF 15 ?_;refine IL0 16 ?_;refine IV 17 ?_;refine IV 19 ?_;refine IN 20 ?_;refine IF 21 ?_;refine IL0 22 ?_;refine IV 23 ?_;refine IV 25 ?_;refine IN 26 ?_;refine IF 27 ?_;refine IL0 28 ?_;refine IV 29 ?_;refine EVI.one 12 0 (.inr rfl) kR rfl ?_;refine vA (htop _ (Hp.Le.refl _)) ?_;rintro _ G1 rfl hG1;refine EVL.nil ⟨rfl,?_⟩;refine EVI.one 18 0 (.inr rfl) kR rfl ?_;refine vA (hcost _ hG1) ?_;rintro _ G2 rfl hG2;refine EVL.nil ⟨rfl,?_⟩;refine EVI.one 24 0 (.inr rfl) kR rfl ?_;refine vA (hmean _ (hG1.trans hG2)) ?_;rintro _ G3 rfl hG3;refine EVL.nil ⟨rfl,?_⟩;refine EVI.one 30 0 (.inr rfl) kR rfl ?_;refine vA (hcnt _ ((hG1.trans hG2).trans hG3)) ?_;intro r4 G4 hr4 hG4;obtain⟨a7,c7,rfl⟩:=SlC.val hr4;refine EVL.nil ⟨rfl,?_⟩;refine EVI.one 31 0 (.inr rfl) kR rfl ?_
   (try refine zcj ?_);refine EVL.nil ⟨rfl,?_⟩;refine EVI.one 32 0 (.inr rfl) kR rfl ?_;refine EVL.lit tO rfl rfl rfl rfl rfl rfl rfl rfl rfl rfl rfl fun bl=>?_;refine EVL.nil ⟨rfl,?_⟩;refine EVI.one 33 1 (.inr rfl) kR rfl ?_;refine EVL.append tO rfl rfl rfl rfl rfl rfl rfl rfl rfl rfl rfl rfl ([(bl,_,_),(b,T,_)]++D) ow [] (by rw[qG];rfl) hown (zcQ.own 0 rfl rfl) rfl oM ?_;intro v2 ow2 hown2;obtain⟨oa2,oc2,rfl⟩:=hown2.val;refine EVL.nil ⟨rfl,?_⟩;refine EVI.one 34 1 (.inr rfl) kR rfl ?_;refine EVL.nilB rfl rfl rfl rfl rfl ?_;refine EVL.nil ⟨rfl,?_⟩;refine EVI.one 35 1 (.inr rfl) kR rfl ?_;refine EVL.fldB tO rfl rfl rfl rfl rfl rfl rfl ?_;refine EVL.nil ⟨rfl,?_⟩;refine EVI.one 36 1 (.inr rfl) kR rfl ?_;refine EVL.storeOwn tO rfl rfl rfl rfl rfl rfl ([(bl,_,_)]) (D++(ow2++[])) rfl rfl rfl rfl ((by exact qH 14)) (rfl) ?_;refine EVL.subOw [] [(bl,_,_)] _ rfl ?_;refine EVL.nil ⟨rfl,?_⟩;refine EVI.nil 0 (.inl kR) kR ?_
   have hpn:zdh G4 (([.int .i64 (-1),.int .i64 0,.int .i64 0,.int .i64 (rows.length:Int),.int .i64 (topN (p.cnt rows) (p.cnt rows).length:Nat),.bool false,.int .u64 0,.string ⟨#[]⟩,.int .u64 0,.string ⟨#[]⟩]:List Value)++(zac (zag (p.cost rows))++(zac (zag (p.mean rows))++[.slice a7 (p.cnt rows).length c7]))) (p.nd rows):=⟨a7,c7,hr4,by
    rw[show zac (zag (p.nd rows).at')=_ from zaL];rfl⟩
   exact⟨(_,ow2++[],_),trivial,sB,trivial,trivial,rfl,((hG1.trans hG2).trans hG3).trans hG4,(by rw[qG,List.flatten_append];exact hown2),hpn⟩
  ·rintro⟨out1,ow1,c1⟩ G1 ⟨hG1,hown1,hnd1⟩;dsimp only at hown1 hnd1;obtain⟨oa1,oc1,rfl⟩:=hown1.val;have hns1:zdX G1 (css++[c1]) (ns++[p.nd rows]):=zi0 (hns.mono hG1) hnd1;refine uR ?_;refine RP ?_;refine EVL.loadOwn tO rfl rfl rfl rfl rfl rfl (0) rfl (rfl) rfl rfl ?_;refine uR ?_;by_cases hd:d=0
   ·subst hd;obtain rfl:dd=deep:=by omega
    rw[qD (show dd≥dd from Int.le_refl _)];refine uR ?_;exact⟨rfl,_,D,ow1,_,rfl,hD,by rw[List.length_append];exact hown1,hns1⟩
   obtain⟨e,rfl⟩:∃e,d=e+1:=⟨d-1,by omega⟩;have ih':=@ih e oM;clear ih;rw[qC (show ¬dd≥deep by omega)];refine uR ?_;have hcolp:=hcf G1 hG1 D s hD
   have hbest:∀(G:Hp) (ca:Option Addr) (cc:Nat),G1.Le G→IL G (.slice ca (p.cols s).1.length cc) (p.cols s).1→PC prog 168 #[zai kd cl (.slice la ln lc) (.slice va vn vc),.slice xa p.X.length xc,.slice ra rows.length rc,.slice ca (p.cols s).1.length cc,.int .i64 least] G fun r _=>r=.tuple #[.agg (zrv (p.best rows (p.cols s).1)).toArray,.bool (p.best rows (p.cols s).1).isSome]:=fun G ca cc hG hc =>
    zqV (hg.ok.mono (hG1.trans hG)) hg.pok (hX.mono (hG1.trans hG)) (hr.mono (hG1.trans hG)) hn hb hc (qI (hcl s) oM) (fun x hx q hq=>qI (hxq x hx q hq) oM) hpl
   obtain⟨c,t,g,hcut,hval⟩:=zm0 (p.best rows (p.cols s).1);rw[hcut]at hbest;refine EV.meetK (ι:=Ows) [0,1,2,6] [] (fun _=>[(7,.p 7 0),(8,.v (.bool (p.best rows (p.cols s).1).isSome))]) (fun _=>[(7,250,.int .i64 c::(zac (zag t)++zac (zag g)))]) (fun q=>(b,T,pgC kd cl (.slice la ln lc) (.slice va vn vc) (.slice xa p.X.length xc) deep least p.gain (.func (.func f) #[] ccs.toArray) (.slice oa1 (ns.length+1) oc1))::(q++ow1)) (fun q G=>G1.Le G∧zeY dv q (p.cols s).2) rfl rfl (fun _=>rfl) ?_ ?_
   ·refine EVI.start none (b,T,pgC kd cl (.slice la ln lc) (.slice va vn vc) (.slice xa p.X.length xc) deep least p.gain (.func (.func f) #[] ccs.toArray) (.slice oa1 (ns.length+1) oc1)) ?_;refine IV 0 ?_;refine IN 1 ?_;refine IF 2 ?_;refine IL0 3 ?_;refine IV 4 ?_;refine IN 5 ?_;refine IF 6 ?_;refine IL0 7 ?_;refine IV 8 ?_;refine IV 9 ?_;refine IN 10 ?_;refine IF 11 ?_;refine IL0 12 ?_;refine IV 14 ?_;refine IN 15 ?_;refine IF 16 ?_;refine IF 17 ?_;refine IL0 18 ?_;refine EVI.two 13 23 0 (.inr rfl) kR rfl rfl ?_ ?_
    ·(first|refine EVL.swapOw ([(b,T,_)]) (D++ow1) (rfl) ?_|refine EV.swapOw ([(b,T,_)]) (D++ow1) (rfl) ?_);refine EVL.callWC rfl rfl rfl rfl (cs:=ccs) rfl (vs:=[]) rfl D (ow1++[(b,T,_)]) (List.append_assoc _ _ _) hcolp ?_;rintro v2 D2 G2 ⟨hil,hD2⟩ hG2;obtain⟨ca,cc,rfl⟩:=SlC.val hil;(first|refine EVL.swapOw (D2++ow1) ([(b,T,_)]) ((List.append_assoc _ _ _).symm) ?_|refine EV.swapOw (D2++ow1) ([(b,T,_)]) ((List.append_assoc _ _ _).symm) ?_);refine EVL.nil ⟨rfl,?_⟩;refine EVI.two 19 23 0 (.inr rfl) kR rfl rfl ?_ ?_
     ·refine vA (hbest _ _ _ hG2 hil) ?_;rintro _ G3 rfl hG3;refine EVL.nil ⟨rfl,?_⟩;refine IV 20 ?_;refine IV 21 ?_;refine IV 22 ?_;refine EVI.one 23 0 (.inr rfl) kR rfl ?_
      (try refine zcj ?_);refine EVL.nil ⟨rfl,?_⟩;refine EVI.one 24 0 (.inr rfl) kR rfl ?_
      (try refine zcj ?_);refine EVL.nil ⟨rfl,?_⟩;refine EVI.one 25 0 (.inr rfl) kR rfl ?_
      (try refine zcj ?_);refine EVL.nil ⟨rfl,?_⟩;refine EVI.nil 0 (.inr rfl) kR ?_;exact⟨D2,⟨rfl,rfl,trivial⟩,sB,⟨rfl,trivial⟩,trivial,rfl,hG2.trans hG3,hD2⟩
     ·(try refine zcj ?_);refine EVL.nil ⟨rfl,?_⟩;refine EVI.one 19 0 (.inr rfl) kR rfl ?_;refine vA (hbest _ _ _ hG2 hil) ?_;rintro _ G3 rfl hG3;refine EVL.nil ⟨rfl,?_⟩;refine IV 20 ?_;refine IV 21 ?_;refine IV 22 ?_;refine EVI.one 24 0 (.inr rfl) kR rfl ?_
      (try refine zcj ?_);refine EVL.nil ⟨rfl,?_⟩;refine EVI.one 25 0 (.inr rfl) kR rfl ?_
      (try refine zcj ?_);refine EVL.nil ⟨rfl,?_⟩;refine EVI.nil 0 (.inr rfl) kR ?_;exact⟨D2,⟨rfl,rfl,trivial⟩,sB,⟨rfl,trivial⟩,trivial,rfl,hG2.trans hG3,hD2⟩
    ·(try refine zcj ?_);refine EVL.nil ⟨rfl,?_⟩;refine EVI.one 13 0 (.inr rfl) kR rfl ?_;(first|refine EVL.swapOw ([(b,T,_)]) (D++ow1) (rfl) ?_|refine EV.swapOw ([(b,T,_)]) (D++ow1) (rfl) ?_);refine EVL.callWC rfl rfl rfl rfl (cs:=ccs) rfl (vs:=[]) rfl D (ow1++[(b,T,_)]) (List.append_assoc _ _ _) hcolp ?_;rintro v2 D2 G2 ⟨hil,hD2⟩ hG2;obtain⟨ca,cc,rfl⟩:=SlC.val hil;(first|refine EVL.swapOw (D2++ow1) ([(b,T,_)]) ((List.append_assoc _ _ _).symm) ?_|refine EV.swapOw (D2++ow1) ([(b,T,_)]) ((List.append_assoc _ _ _).symm) ?_);refine EVL.nil ⟨rfl,?_⟩;refine EVI.one 19 0 (.inr rfl) kR rfl ?_;refine vA (hbest _ _ _ hG2 hil) ?_;rintro _ G3 rfl hG3;refine EVL.nil ⟨rfl,?_⟩;refine IV 20 ?_;refine IV 21 ?_;refine IV 22 ?_;refine EVI.one 24 0 (.inr rfl) kR rfl ?_
     (try refine zcj ?_);refine EVL.nil ⟨rfl,?_⟩;refine EVI.one 25 0 (.inr rfl) kR rfl ?_
     (try refine zcj ?_);refine EVL.nil ⟨rfl,?_⟩;refine EVI.nil 0 (.inr rfl) kR ?_;exact⟨D2,⟨rfl,rfl,trivial⟩,sB,⟨rfl,trivial⟩,trivial,rfl,hG2.trans hG3,hD2⟩
   ·rintro D2 G2 ⟨hG2,hD2⟩;clear hbest hcolp;have hH2:=hG1.trans hG2;refine uR ?_
    cases hbe:p.best rows (p.cols s).1 with
    | none =>
     have hcut0:p.cut rows (p.cols s).1=none:=by unfold GP.cut;rw[hbe]
     rw[GP.grow_none hcut0];rw[show (none:Option (Int × Rat × Rat)).isSome=false from rfl];apply EV.drawn 13 kR kR;intro xv yw;(repeat refine' DD ?_);(refine DJ.nil (fun G hG hF=>?_);(case hS|hS2=>rfl));refine uR ?_;exact⟨rfl,_,D2,ow1,_,rfl,hD2,by rw[List.length_append];exact hown1,hns1.mono (hG2.trans hG)⟩
    | some q =>
     obtain⟨c',t',g'⟩:=q;obtain⟨rfl,rfl,rfl⟩:=hval c' t' g' hbe;rw[show (some (c',t',g')).isSome=true from rfl]
     have htg:sm t'∧sm g':=by
      have hf:=zcJ (zaD p.X p.cost rows (max 1 p.least) (p.cols s).1);rw[show (zaD p.X p.cost rows (max 1 p.least) (p.cols s).1).foldl zf3 none=some (c',t',g') from hbe]at hf;have:=zgk hg.small oM hb hxq hf.1;exact⟨zaW this.1 oM,zaW this.2 oM⟩
     obtain⟨htb,hgb⟩:=htg;have hcmp:=zgq g' p.gain hgb hgr;apply EV.drawn 13 kR kR;intro xv yw;(repeat (first|refine' DD ?_|refine' vN ?_|refine' vF ?_));refine' DJ.ofVal (zaa.loadOwn tO rfl rfl rfl rfl (0) rfl (rfl) rfl rfl) rfl rfl rfl ?_;rotate_left;(repeat (first|refine' DD ?_|(refine' DC (hcmp) (h:=?_);rotate_left)));(refine DJ.nil (fun G4 hG4 hF4=>?_);(case hS|hS2=>rfl));refine uR ?_;by_cases hle:g'≤p.gain
     ·have hcut0:p.cut rows (p.cols s).1=none:=by unfold GP.cut;rw[hbe];exact if_pos hle
      rw[GP.grow_none hcut0];rw[qD (ziQ hle)];refine uR ?_;exact⟨rfl,_,D2,ow1,_,rfl,hD2,by rw[List.length_append];exact hown1,hns1.mono (hG2.trans hG4)⟩
     have hcut0:p.cut rows (p.cols s).1=some (c',t'):=by unfold GP.cut;rw[hbe];exact if_neg hle
     rw[GP.grow_some hcut0];rw[qC (Int.not_le.2 (zeO.2 (Rat.not_le.1 hle)))];have hH4:=hH2.trans hG4;refine uR ?_;apply EV.drawn 14 kR kR;intro xv yw;(repeat (first|refine' DD ?_|refine' vN ?_|refine' vF ?_));refine' DJ.ofVal (zaa.loadOwn tO rfl rfl rfl rfl (0) rfl (rfl) rfl rfl) rfl rfl rfl ?_;rotate_left;(repeat (first|refine' DD ?_|refine' vN ?_|refine' vF ?_));refine' vB (cO func169) (fun G hG hd=>zrb (col:=c') (t:=t') (hX.mono (hH4.trans hG)) (hr.mono (hH4.trans hG)) oM (fun x hx q hq=>zaW (hxq x hx q hq) oM) htb) (fun _ _ _ h k=>(by obtain⟨u,w,e,hu,hw⟩:=h;exact⟨u,w,e,hu.mono k,hw.mono k⟩)) ?_;rotate_left;refine' DJ.copy (9) (by first|exact .inl rfl|exact .inr rfl) rfl rfl rfl id rfl kR ?_;rotate_left;refine' DJ.extract (9) rfl rfl rfl rfl rfl kR (fun G hd=>(by obtain⟨u,w,e,_⟩:=hd.head kR;exact⟨_,e,Nat.zero_lt_succ _⟩)) ?_;rotate_left;refine' DJ.extract (9) rfl rfl rfl rfl rfl kR (fun G hd=>(by obtain⟨u,w,e,_⟩:=hd.head kR;exact⟨_,e,Nat.lt_succ_self _⟩)) ?_;rotate_left;refine' DJ.copy (9) (.inr rfl) rfl rfl rfl (zcr 0) rfl kR ?_;rotate_left;(refine DJ.nil (fun G5 hG5 hF5=>?_);(case hS|hS2=>rfl));obtain⟨⟨u5,w5,e5,hu5,hw5⟩,_⟩:=hF5;rw[e5];rw[zdn hb]at hu5 hw5;obtain⟨ua,uc,rfl⟩:=SlC.val hu5;obtain⟨wa,wc,rfl⟩:=SlC.val hw5;rw[show zcr 0 (Value.tuple #[.slice ua (zbd p.X c' t' rows).length uc,.slice wa (zaz p.X c' t' rows).length wc])=.slice ua (zbd p.X c' t' rows).length uc from rfl,show zcr 1 (Value.tuple #[.slice ua (zbd p.X c' t' rows).length uc,.slice wa (zaz p.X c' t' rows).length wc])=.slice wa (zaz p.X c' t' rows).length wc from rfl];have hH5:=hH4.trans hG5;have hns5:=hns1.mono (hG2.trans (hG4.trans hG5));have wd:IntKind.i64.wrap (dd+1)=dd+1:=by rw[IntKind.wrap_i64];omega
     have hlo3:(zbd p.X c' t' rows).length≤20:=qI (List.length_filter_le _ _) hn;have hhi3:(zaz p.X c' t' rows).length≤20:=qI (List.length_filter_le _ _) hn;have hlom:∀r,r∈zbd p.X c' t' rows→0≤r∧r<(p.X.length:Int):=fun r hr=>hb r (List.mem_filter.mp hr).1;have hhim:∀r,r∈zaz p.X c' t' rows→0≤r∧r<(p.X.length:Int):=fun r hr=>hb r (List.mem_filter.mp hr).1;have hl1:(ns++[p.nd rows]).length=ns.length+1:=by simp
     have hp2:2 ^ (e+1+1)=2 ^ (e+1)+2 ^ (e+1):=by rw[Nat.pow_succ];omega
     have hp3:2≤2 ^ (e+1):=by rw[Nat.pow_succ];have:=Nat.one_le_two_pow (n:=e);omega
     have hL:=ih' (H:=G5) (b:=b) (T:=T) (dd:=dd+1) (s:=(p.cols s).2) (ns:=ns++[p.nd rows]) (hg.mono hH5) (hX.mono hH5) (hcf.mono hH5) oM oM hd1 hu5 hlo3 hlom hD2 (by rw[hl1];exact hown1) hns5 (by rw[hl1];omega);rw[hl1]at hL;have hLl:=(p.grow_len e (ns.length+1) (zbd p.X c' t' rows) (p.cols s).2).2;generalize hLe:p.grow e (ns.length+1) (zbd p.X c' t' rows) (p.cols s).2=Lp at *
     obtain⟨Ls,s2⟩:=Lp;dsimp only at hL hLl;refine uR ?_;refine RP ?_;refine EVL.loadOwn tO rfl rfl rfl rfl rfl rfl (0) rfl (rfl) rfl rfl ?_;refine uR ?_;rw[wd];refine EVL.callW rfl rfl rfl rfl rfl _ [] (qG _).symm hL ?_;rintro _ _ G8 ⟨rfl,out2,D3,ow3,css3,rfl,hD3,hown3,hns3⟩ hG8;rw[qG ((b,T,_)::(D3++ow3))];have hl2:(ns++[p.nd rows]++Ls).length=ns.length+1+Ls.length:=by simp;omega
     rw[hl2]at hown3;obtain⟨oa3,oc3,rfl⟩:=hown3.val;have hH8:=hH5.trans hG8;have hR:=ih' (H:=G8) (b:=b) (T:=T) (dd:=dd+1) (s:=s2) (ns:=ns++[p.nd rows]++Ls) (hg.mono hH8) (hX.mono hH8) (hcf.mono hH8) oM oM hd1 (hw5.mono hG8) hhi3 hhim hD3 (by rw[hl2];exact hown3) hns3 (by rw[hl2];omega);rw[hl2]at hR;generalize hRe:p.grow e (ns.length+1+Ls.length) (zaz p.X c' t' rows) s2=Rp at *
     obtain⟨Rs,s3⟩:=Rp;dsimp only at hR;refine uR ?_;refine RP ?_;refine EVL.loadOwn tO rfl rfl rfl rfl rfl rfl (0) rfl (rfl) rfl rfl ?_;refine uR ?_;rw[wd];refine EVL.callW rfl rfl rfl rfl rfl _ [] (qG _).symm hR ?_;rintro _ _ G10 ⟨rfl,out4,D4,ow4,css4,rfl,hD4,hown4,hns4⟩ hG10;rw[qG ((b,T,_)::(D4++ow4))];rw[show ns++[p.nd rows]++Ls++Rs=ns++p.nd rows::(Ls++Rs) by simp]at hown4 hns4;obtain⟨cA,cc1,cB,ecs,hAl,⟨a7,c7,hil7,rfl⟩,hput⟩:=zsK (fun c n h=>zdh.len h) hns4;rw[ecs]at hown4;clear ecs;obtain⟨go,capo,sp,rfl,rfl,hback⟩:=hown4.midS oM rfl;have hl3:(ns++p.nd rows::(Ls++Rs)).length=ns.length+1+Ls.length+Rs.length:=by simp;omega
     refine uR ?_;refine RP ?_;refine EVL.loadOwn tO rfl rfl rfl rfl rfl rfl (0) rfl (rfl) rfl rfl ?_;refine uR ?_;refine EVL.idxB tO rfl rfl rfl rfl rfl rfl rfl rfl rfl (ns.length) (ns.length*21) (rfl) ((by rw[hl3];omega)) (rfl) ?_;refine uR ?_;(first|refine EVL.unbox (7) rfl fun gc=>?_|refine EV.unbox (7) rfl fun gc=>?_);refine EVI.start (some 21) (gc,250,.int .i64 c'::(zac (zag t')++zac (zag g'))) ?_;refine IV 0 ?_;refine IV 1 ?_;refine IV 2 ?_;refine IV 3 ?_;refine IF 4 ?_;refine IL0 5 ?_;refine IF 6 ?_;refine IL0 7 ?_;refine IV 8 ?_;refine IV 9 ?_;refine IN 10 ?_;refine IF 11 ?_;refine EVI.one 12 0 (.inr rfl) kR rfl ?_;refine EVL.storeOwn tO rfl rfl rfl rfl rfl rfl ((gc,_,_)::(b,T,_)::D4) ([]) rfl rfl rfl rfl ((zcz (f:=0) hAl rfl (by show 0+1≤21;omega))) (zdx (f:=0) hAl rfl rfl (by show 0+1≤21;omega) rfl) ?_;refine EVL.nil ⟨rfl,?_⟩;refine IN 13 ?_;refine IF 14 ?_;refine EVI.one 15 0 (.inr rfl) kR rfl ?_;refine EVL.storeOwn tO rfl rfl rfl rfl rfl rfl ((gc,_,_)::(b,T,_)::D4) ([]) rfl rfl rfl rfl ((zcz (f:=5) hAl rfl (by show 5+5≤21;omega))) (zdx (f:=5) hAl rfl rfl (by show 5+5≤21;omega) rfl) ?_;refine EVL.nil ⟨rfl,?_⟩;refine IN 16 ?_;refine IF 17 ?_;refine EVI.one 18 0 (.inr rfl) kR rfl ?_;refine EVL.storeOwn tO rfl rfl rfl rfl rfl rfl ((gc,_,_)::(b,T,_)::D4) ([]) rfl rfl rfl rfl ((zcz (f:=1) hAl rfl (by show 1+1≤21;omega))) (zdx (f:=1) hAl rfl rfl (by show 1+1≤21;omega) rfl) ?_;refine EVL.nil ⟨rfl,?_⟩;refine IN 19 ?_;refine IF 20 ?_;refine EVI.one 21 0 (.inr rfl) kR rfl ?_;refine EVL.storeOwn tO rfl rfl rfl rfl rfl rfl ((gc,_,_)::(b,T,_)::D4) ([]) rfl rfl rfl rfl ((zcz (f:=2) hAl rfl (by show 2+1≤21;omega))) (zdx (f:=2) hAl rfl rfl (by show 2+1≤21;omega) rfl) ?_;refine EVL.subOw [] [(gc,_,_)] _ rfl ?_;refine EVL.nil ⟨rfl,?_⟩;refine EVI.nil 0 (.inl kR) kR ?_;refine uR ?_;obtain⟨n2,hn2⟩:∃n2:Nd,({ p.nd rows with col:=c',left:=((ns.length+1:Nat):Int),right:=((ns.length+1+Ls.length:Nat):Int),at':=t' }:Nd)=n2:=⟨_,rfl⟩
     have hpn:zdh G10 ([.int .i64 c',.int .i64 ((ns.length+1:Nat):Int),.int .i64 ((ns.length+1+Ls.length:Nat):Int),.int .i64 (p.nd rows).rows,.int .i64 (p.nd rows).cls]++(zac (zag t')++(zac (zag (p.nd rows).cost)++(zac (zag (p.nd rows).value)++[.slice a7 (p.nd rows).counts.length c7])))) n2:=by
      subst hn2;exact⟨a7,c7,hil7,rfl⟩
     rw[hn2];have hl4:(ns++n2::(Ls++Rs)).length=(ns++p.nd rows::(Ls++Rs)).length:=by simp
     refine⟨rfl,_,D4,_,_,rfl,hD4,?_,hput _ _ hpn⟩;rw[hl4];exact hback _ rfl
section
variable {P:Program} {n:Nat} {ops:Array Oper} {fuel:Nat} {L:Array Bool} {env:Env} {bx:Bxs} {H:Hs} {K:Env→Bxs→Hs→Prop} {τ:Tab} {d:Nat} {o:Oper} {v:Value}
theorem EVL.eqnilP {rest:List Oper} {Q:EQ} {T T' e:TypeId} {x:Operand} {p:Addr} (hT:P.underlying T=some (.pointer e)) (ho:o.op=.binOp .eql T x (.const (.pointer none)) T') (hw:zah ops env o=some true) (hd:o.dst=some d) (hn:Nat.blt d n=true)
  (hx:env.op x=some (.v (.pointer (some p)))) (h:EVL P n ops rest ((d,.v (.bool false))::env) bx H Q):EVL P n ops (o::rest) env bx H Q :=
 EVL.gen hw hd hn (fun ev W he=>by
  have ex:=he x _ (by simp[ho,Op.operands]) hx;have ey:=he (.const (.pointer none)) _ (by simp[ho,Op.operands]) rfl
  have hq:(Op.equalIn (9999+1) T (.pointer (some p)) (.pointer none)).run P W=.ok false W:=by
   unfold Op.equalIn;simp[run_underlying hT]
  have hm:Op.maxDepth=9999+1:=rfl;unfold execOp;simp[ho,ex,ey,eqGuard,binOp,Op.equal,hm,hq]) h
end
theorem zr9 {H:Hp} (s:Int):PO prog 31 #[.int .u64 s] H fun v ow=>∃g,v=.pointer (some ⟨g,0,none⟩)∧ow=[(g,164,[.int .u64 s])] :=
 ⟨(cO func31),fun W _ _=>(zqy s W).mono fun e W' ⟨he,hw⟩=>by
  subst hw;refine⟨_,_,he,⟨_,rfl,rfl⟩,⟨by simp,fun b T cs h=>?_⟩,(Below.refl _ _).alloc (qH _) _⟩;rw[List.mem_singleton]at h;cases h;exact⟨qH _,Box.new W _ _⟩⟩
theorem zpa {H:Hp} {b n:Nat} {T:TypeId} {s:Int} (hs:0≤s) (hn:1≤n) (hn2:n≤65536) :
  PW prog 58 #[.pointer (some ⟨b,0,none⟩),.int .i64 (n:Int)] H [(b,T,[.int .u64 s])] fun v ow H'=>(∃T',ow=[(b,T',[.int .u64 (zat n s).2])])∧0≤(zat n s).2∧IL H' v (zat n s).1∧∃a,v=.slice a (zat n s).1.length (zat n s).1.length :=
 PW.of_order (cO func58) hs fun W hd=>by
  have:=zm7 b n s W hd hn hn2;rw[zcf];exact this
theorem zqW {H:Hp} {p:GP} {bd a b c w sm:Nat} (hds:∀s,p.cols s=((zat w s).1.take sm,(zat w s).2)) (hsm:sm≤w) (hw1:1≤w) (hw2:w≤1000) (ha:H a=some ([.pointer (some ⟨bd,0,none⟩)]:List Value).toArray) (hb:H b=some ([.int .i64 (w:Int)]:List Value).toArray) (hc:H c=some ([.int .i64 (sm:Int)]:List Value).toArray) :
  zgg H 89 [.pointer (some ⟨a,0,none⟩),.pointer (some ⟨b,0,none⟩),.pointer (some ⟨c,0,none⟩)] (.pointer (some ⟨bd,0,none⟩)) p:=by
 intro G hG D s hD;rcases hD with ⟨e1,_⟩ | ⟨bd',T,e1,rfl,hs⟩
 ·cases e1
 cases e1;have hcs:(p.cols s).1=(zat w s).1.take sm:=by rw[hds]
 have hcs2:(p.cols s).2=(zat w s).2:=by rw[hds]
 rw[hcs,hcs2];refine PW.body tO func89 rfl kR ntmps89 rfl rfl ?_;refine uR ?_;refine EV.asRo 0 rfl (hG _ _ ha) ?_;refine EV.asRo 1 rfl (hG _ _ hb) ?_;refine EV.asRo 2 rfl (hG _ _ hc) ?_;refine EVG.start (Fits G) none ?_;refine IR 0 ?_ rfl;refine IR 1 ?_ rfl;refine IR 3 ?_ rfl;refine EVG.one 2 (zbl (Hp.Le.refl _)) kR rfl ?_;refine EVL.callW rfl rfl rfl rfl rfl ([(bd,T,[.int .u64 s])]) ([]) rfl (zpa hs hw1 oM) ?_;rintro v2 _ G2 ⟨⟨T2,rfl⟩,hs2,hil,oa2,rfl⟩ hG2;refine EVL.nil ⟨rfl,?_⟩;refine EVG.one 4 (zbl hG2) kR rfl ?_;refine EVL.slc (te':=Tryz.te3) tO rfl rfl rfl rfl rfl rfl rfl rfl 0 sm (.inl ⟨rfl,rfl⟩) (.inr ⟨_,IntKind.i64,rfl,rfl⟩) (Nat.zero_le _) (by rw[zcf];exact hsm) (qH _) ?_;refine EVL.nil ⟨rfl,?_⟩;refine EVG.one 5 (zbl hG2) kR rfl ?_
 (try refine zcj ?_);refine EVL.nil ⟨rfl,?_⟩;refine EVG.nil (zbl hG2) kR ?_;refine uR ?_;exact⟨hil.pre sm (by rw[zcf];exact hsm) 1,.inr ⟨bd,T2,rfl,rfl,hs2⟩⟩
set_option maxRecDepth 100000 in
theorem zfd {H:Hp} {kd cl w:Int} {ns:List Nd} {cs:List Value} (ht:zer H cs kd cl w ns) (hok:zet ⟨kd,cl,w,ns⟩):PC prog 15 #[.agg cs.toArray] H fun r _=>r=.int .i64 0:=by
 obtain⟨a,cp,css,rfl,hns,hsl⟩:=ht;obtain⟨hkd,hw,hln,⟨hh,hh10,hsub⟩,hall⟩:=hok;dsimp only at hkd hw hln hsub hall;have hpos:=hsub.end0;refine BD func15 ntmps15 ?_;refine uR ?_;refine EVL.meetK (ι:=Bool) [1,2] [1] (fun _=>[(17,.v (.bool false))]) (fun _=>[]) (fun _=>[]) (fun _ G=>H.Le G) rfl rfl (fun _=>rfl) ?_ ?_
 ·rcases hkd with ⟨rfl,_⟩ | ⟨rfl,rfl⟩
  ·try refine uR ?_
   exact⟨true,⟨rfl,trivial⟩,sB,trivial,sB,rfl,Hp.Le.refl _⟩
  ·try refine uR ?_
   exact⟨true,⟨rfl,trivial⟩,sB,trivial,sB,rfl,Hp.Le.refl _⟩
 rintro _ G1 hG1;refine uR ?_;rw[qC (show ¬w<1 by omega)];refine uR ?_;rw[qC (show ¬w>20 by omega)];refine uR ?_;rw[qC (show ¬(ns.length:Int)<1 by omega)];refine uR ?_;rw[qC (show ¬(ns.length:Int)>2000 by omega)];refine uR ?_;refine EVL.meetK (ι:=Bool) [1,2] [1] (fun _=>[(60,.v (.bool false))]) (fun _=>[]) (fun _=>[]) (fun _ G=>H.Le G) rfl rfl (fun _=>rfl) ?_ ?_
 ·rcases hkd with ⟨rfl,h1,h2⟩ | ⟨rfl,rfl⟩
  ·try refine uR ?_
   rw[qC (show ¬cl<1 by omega)];refine uR ?_;rw[qC (show ¬cl>12 by omega)];refine uR ?_;exact⟨true,⟨rfl,trivial⟩,sB,trivial,sB,rfl,hG1⟩
  ·try refine uR ?_
   exact⟨true,⟨rfl,trivial⟩,sB,trivial,sB,rfl,hG1⟩
 rintro _ G2 hG2;refine uR ?_;(first|refine EVL.unbox (3) rfl fun g3=>?_|refine EV.unbox (3) rfl fun g3=>?_);refine uR ?_;refine EVL.callW rfl rfl rfl rfl rfl ([(g3,136,zlE kd cl w (.slice a ns.length cp) 0)]) ([]) rfl (zsD oM hsub (hns.mono hG2) (hsl.mono hG2) (deep:=0) (qH _)) ?_;rintro _ _ G3 ⟨rfl,far,rfl,hfar⟩ hG3;refine uR ?_;rw[show ((ns.length:Int) != (ns.length:Int))=false from bne_self_eq_false _];refine uR ?_;refine EVL.fldB tO rfl rfl rfl rfl rfl rfl rfl ?_;refine EVL.loadOwn tO rfl rfl rfl rfl rfl rfl (0) rfl (rfl) rfl rfl ?_;refine uR ?_;rw[qC (show ¬far>10 by omega)];refine uR ?_;refine EV.loopK (ι:=Nat) [1,80,81] [1] (fun q=>[(82,.v (.int .i64 (q:Int)))]) (fun _=>[]) (fun _=>[(g3,_,zlE kd cl w (.slice a ns.length cp) far)]) (fun q _=>q≤ns.length) (fun q=>ns.length-q) (0) rfl rfl ⟨rfl,trivial⟩ trivial rfl (fun _=>rfl) (Nat.zero_le _) ?_;rintro i G4 hG4 hi;have hH4:=hG2.trans (hG3.trans hG4);refine uR ?_;refine EV.cond rfl (fun hlt=>?_) (fun hlt=>?_)
 ·simp only[nN]at hlt;obtain⟨n,hn,hN,hC⟩:=hall i hlt;obtain⟨c,hcut,hnd⟩:=(hns.mono hH4).get hn;obtain⟨a7,c7,rfl,_⟩:=hnd.cells;refine uR ?_;refine EVL.idxM tO rfl rfl rfl rfl rfl rfl rfl rfl rfl ((hsl.mono hH4)) (i) (rfl) (hlt) (hcut) ?_
  repeat (first|refine RUN ?_|refine CV (zj8 hkd hnd hN) ?_|refine CE (zj8 hkd hnd hN) ?_)
  refine⟨i+1,⟨by rw[zab i (by omega)];rfl,trivial⟩,sB,trivial,sB,rfl,hlt,Hp.Le.refl _,by omega⟩
 ·simp only[nN]at hlt;refine uR ?_;refine EV.loopK (ι:=Nat) [1,92,93] [1] (fun q=>[(94,.v (.int .i64 (q:Int)))]) (fun _=>[]) (fun _=>[(g3,_,zlE kd cl w (.slice a ns.length cp) far)]) (fun q _=>q≤ns.length) (fun q=>ns.length-q) (0) rfl rfl ⟨rfl,trivial⟩ trivial rfl (fun _=>rfl) (Nat.zero_le _) ?_;rintro j G5 hG5 hj;have hH5:=hH4.trans hG5;refine uR ?_;refine EV.cond rfl (fun hlj=>?_) (fun hlj=>?_)
  ·simp only[nN]at hlj;obtain⟨n,hn,hN,hC⟩:=hall j hlj;obtain⟨c,hcut,hnd⟩:=(hns.mono hH5).get hn;obtain⟨a7,c7,rfl,_⟩:=hnd.cells;refine uR ?_;refine EVL.idxM tO rfl rfl rfl rfl rfl rfl rfl rfl rfl ((hsl.mono hH5)) (j) (rfl) (hlj) (hcut) ?_;refine uR ?_;by_cases hcol:n.col = -1
   ·apply EV.drawn 20 kR kR;intro xv yw;(repeat refine' DD ?_);rw[show (n.col != -1)=false by rw[hcol];rfl];(repeat refine' DD ?_);(refine DJ.nil (fun G hG hF=>?_);(case hS|hS2=>rfl));refine uR ?_;refine⟨j+1,⟨by rw[zab j (by omega)];rfl,trivial⟩,sB,trivial,sB,rfl,hlj,hG,by omega⟩
   ·obtain⟨hc0,hl0,hr0,na,nb,hna,hnb,hCC⟩:=hC hcol;have hla:=(qE.1 hna).1;have hlb:=(qE.1 hnb).1;obtain⟨na',ena,hNa,_⟩:=hall _ hla;obtain⟨nb',enb,hNb,_⟩:=hall _ hlb;cases hna.symm.trans ena;cases hnb.symm.trans enb;obtain⟨ca,hcuta,hnda⟩:=(hns.mono hH5).get hna;obtain⟨cb,hcutb,hndb⟩:=(hns.mono hH5).get hnb;obtain⟨xa7,xc7,rfl,_⟩:=hnda.cells;obtain⟨ya7,yc7,rfl,_⟩:=hndb.cells;apply EV.drawn 20 kR kR;intro xv yw;(repeat refine' DD ?_);rw[show (n.col != -1)=true from bne_iff_ne.2 hcol];(repeat refine' DD ?_);refine' DJ.idxM tO rfl rfl rfl rfl rfl rfl rfl rfl rfl ((hsl.mono hH5)) (n.left.toNat) ((by rw[Int.toNat_of_nonneg hl0])) (hla) (hcuta) ?_;rotate_left;(repeat refine' DD ?_);refine' DJ.idxM tO rfl rfl rfl rfl rfl rfl rfl rfl rfl ((hsl.mono hH5)) (n.right.toNat) ((by rw[Int.toNat_of_nonneg hr0])) (hlb) (hcutb) ?_;rotate_left;(repeat refine' DD ?_);refine' vC (cO func70) (fun G hG hd=>zqT hkd (hnd.mono hG) (hnda.mono hG) (hndb.mono hG) hN hNa hNb hCC) ?_;rotate_left;(repeat refine' DD ?_);(refine DJ.nil (fun G hG hF=>?_);(case hS|hS2=>rfl));refine uR ?_;refine⟨j+1,⟨by rw[zab j (by omega)];rfl,trivial⟩,sB,trivial,sB,rfl,hlj,hG,by omega⟩
  ·try refine uR ?_
   rfl
end
section
end
section
open Go.RowKit _root_.Go.Proofs.Tryz
end
section
end
section
open Go.RowKit _root_.Go.Proofs.Tryz
end
section
open Go.ChangeShapes Go.WideShapes Go.ChangeAt Go.RowKit
def zte (W:World):Hp:=fun b=>match W.heap[b]? with
 | some (.cells c _ _)=>some c
 | _=>none
theorem fits_hpOf (W:World):Fits (zte W) W:=fun b c h=>by
 unfold zte at h;split at h
 ·rename_i c' T fz hb;cases h;exact⟨T,fz,hb⟩
 ·cases h
section
variable {H:Type} {enc:TypeId × Value→H} {P:Program} {w:World} {base:Nat} {spare:Nat→Bool} {held:Bool}
theorem zgF {t e:TypeId} {k:IntKind} {fuel:Nat} {cs:List Value} {x:DataW H × List MemPlace} (ht:P.underlying t=some (.slice e)) (he:P.underlying e=some (.int k)) (hc:P.cellsOf e=1) (h:DataW.trod enc P w base spare held fuel t cs=some x) :
  ∃a len cap zs,cs=[.slice a len cap]∧SlN (fun z:Int=>Value.int k z) (zte w) (.slice a len cap) zs∧∀n∈zs,(Lit.int k n).wf=true:=by
 rcases open_ints ht he hc h with ⟨rfl,_⟩ | ⟨x,len,cap,zs,rfl,_,hl,hm,hz,_,hcell,hw⟩
 ·exact⟨none,0,0,[],rfl,zrC _ _,fun n hn=>by cases hn⟩
 ·have hzl:len≤zs.length:=by rw[hz];split <;> omega
  refine⟨some x,len,cap,zs.take len,rfl,?_,fun n hn=>hw n (List.mem_of_mem_take hn)⟩;have hlen:(zs.take len).length=len:=by rw[List.length_take];omega
  unfold SlN;rw[hlen];refine⟨by rw[List.length_map,hlen,Nat.mul_one],?_⟩;by_cases h0:len=0
  ·subst h0;exact .inl ⟨rfl,some x,cap,rfl⟩
  ·right;have h1:=hcell 0 oM;obtain⟨b,off,sp⟩:=x
   have hsp:sp=none:=by
    cases sp with
    | none=>rfl
    | some s=>simp only[World.cell?,Addr.add]at h1;split at h1 <;> simp_all
   subst hsp
   have hb:∃c,zte w b=some c∧∀i,i<zs.length→c[off+i]?=some (.int k (zs.getD i 0)):=by
    simp only[Addr.add_mid]at hcell;unfold World.cell? at hcell;unfold zte;simp only at hcell
    cases hw':w.heap[b]? with
    | none=>have:=hcell 0 oM;rw[hw']at this;cases this
    | some o =>
     cases o with
     | cells c T fz=>exact⟨c,rfl,fun i hi=>by have:=hcell i hi;rw[hw']at this;simpa using this⟩
     | _=>have:=hcell 0 oM;rw[hw']at this;cases this
   obtain⟨c,hc1,hc2⟩:=hb;refine⟨b,off,cap,c,rfl,hl,hc1,fun j y hj=>?_⟩;rw[List.getElem?_map,List.getElem?_take]at hj;split at hj
   ·rename_i hjl;rw[hc2 j oM,←hj,qB,qA (by omega)];rfl
   ·cases hj
end
theorem i64_bounds {z:Int} (h:(Lit.int .i64 z).wf=true):-9223372036854775808≤z∧z<9223372036854775808:=by
 have:=bounds_i64 h;omega
end
section
open Go.ChangeShapes Go.WideShapes Go.ChangeAt Go.RowKit
end
section
open Go.RowKit _root_.Go.Proofs.Tryz
section
variable {P:Program} {n:Nat} {ops:Array Oper} {o:Oper} {rest:List Oper} {env:Env} {bx:Bxs} {H:Hs} {Q:EQ} {τ:Tab} {d:Nat}
theorem EVL.appendR (hτ:zau P τ) {T:TypeId} {x y:Operand} (ho:o.op=.call { callee:=.builtin .append,args:=#[x,y],argTypes:=#[T,T] }) (hg:o.guard=none) (hw:zah ops env o=some true) (hd:o.dst=some d) (hn:Nat.blt d n=true) {te te':TE} {e:TypeId} (ht:τ.get T=some te) (hk:te.kind=.slice e) (ht':τ.get e=some te')
  (hzs:Nat.beq te'.zero.length te'.size=true) (hpos:Nat.ble 1 te'.size=true) (hby:Nat.ble te'.bytes 10000=true) {v:Value} (hx:env.op x=some (.v v)) {u:Value} (hy:env.op y=some (.v u)) (pre ow post:Ows) (he:H.ow=pre++(ow++post)) {m1 m2:Nat} {xs ys:List Value}
  (hown:zaJ e te'.size v m1 xs ow) (hsrc:SlC H.ro u m2 te'.size ys) (h1:oneB ys=true) (hm:m1+m2≤1000000000)
  (h:∀v' ow',zaJ e te'.size v' (m1+m2) (xs++ys) ow'→EVL P n ops rest ((d,.v v')::env) bx ⟨H.ro,pre++(ow'++post),H.base⟩ Q):EVL P n ops (o::rest) env bx H Q:=by
 by_cases h0:m2=0
 ·subst h0;obtain⟨a',c',rfl⟩:=SlC.val hsrc;have hys:ys=[]:=List.length_eq_zero_iff.1 (by rw[hsrc.1,Nat.zero_mul]);subst hys
  have hle:∃a c,v=.slice a m1 c∧m1≤c:=by
   rcases hown.2 with ⟨e1,e2,_⟩ | ⟨g,cap,sp,e1,_,_,e2,_⟩
   ·subst e2;exact⟨_,_,e1,qH _⟩
   ·exact⟨_,_,e1,e2⟩
  obtain⟨a,c,rfl,hle⟩:=hle;refine EVL.append0 hτ ho hw hd hn ht hk ht' hx hy hle ?_;have:=h _ ow (by rw[qG];exact hown);rw[←he]at this;exact this
 ·exact EVL.append hτ ho hg hd hn ht hk ht' hzs hpos hby hx hy pre ow post he hown (zcQ.ro hsrc oM) h1 hm h
end
end
section
instance:Nonempty Nd:=⟨⟨0,0,0,0,0,0,0,0,[]⟩⟩
end
section
open Go.RowKit _root_.Go.Proofs.Tryz
theorem zpN {H:Hp} {v:Value} {X:List (List Rat)} {w:Nat} (h:QLL H v X) (h1:1≤X.length) (h2:X.length≤300) (hw:1≤w∧w≤20) (hx:∀x,x∈X→x.length=w):PC prog 117 #[v] H fun r _=>r=.bool true:=by
 obtain⟨vs,hvs,hs⟩:=h;obtain⟨a,c,rfl⟩:=SlC.val hs;obtain⟨x0,hx0⟩:=gE h1;obtain⟨a0,c0,hv0,_⟩:=hvs.at hx0;have hl0:=hx x0 (qF hx0);rw[hl0]at hv0;refine BD func117 ntmps117 ?_;refine uR ?_;rw[qC (show ¬(X.length:Int)<1 by omega)];refine uR ?_;rw[qC (show ¬(X.length:Int)>300 by omega)];refine uR ?_;refine vI (hs) (0) (rfl) (h1) (hv0) ?_;refine uR ?_;rw[qC (show ¬(w:Int)<1 by omega)];refine uR ?_;refine vI (hs) (0) (rfl) (h1) (hv0) ?_;refine uR ?_;rw[qC (show ¬(w:Int)>20 by omega)];refine uR ?_;refine EV.loopK (ι:=Nat) [0,27,28] [] (fun i=>[(29,.v (.int .i64 (i:Int)))]) (fun _=>[]) (fun _=>[]) (fun i _=>i≤X.length) (fun i=>X.length-i) (0) rfl rfl ⟨rfl,trivial⟩ trivial rfl (fun _=>rfl) (Nat.zero_le _) ?_;rintro i G1 hG1 hi;refine uR ?_;refine EV.cond rfl (fun hlt=>?_) (fun hlt=>?_)
 ·simp only[nN]at hlt;obtain⟨x,hxi⟩:=gE hlt;obtain⟨a1,c1,hv1,_⟩:=hvs.at hxi;have hl1:=hx x (qF hxi);rw[hl1]at hv1;refine uR ?_;refine vI ((hs.mono hG1)) (i) (rfl) (hlt) (hv1) ?_;refine uR ?_;refine vI ((hs.mono hG1)) (0) (rfl) (h1) (hv0) ?_;refine uR ?_;rw[bne_self_eq_false];refine uR ?_;refine⟨i+1,⟨by rw[zab i (by omega)];rfl,trivial⟩,sB,trivial,sB,rfl,hlt,Hp.Le.refl _,by omega⟩
 ·simp only[nN]at hlt;refine uR ?_;rfl
abbrev zlw (deep least:Int) (g:Rat):List Value:=.int .i64 deep::.int .i64 least::zac (zag g)
theorem zkz {H:Hp} {deep least:Int} {g:Rat} (hg:sm g):PC prog 35 #[.agg (zlw deep least g).toArray] H fun r _=>r=.bool (decide (zeZ deep least g)):=by
 have hs:=zdz g (qI hg.num oM);refine BD func35 ntmps35 ?_;refine uR ?_;by_cases h1:deep≥0
 case neg =>
  rw[qC h1];refine uR ?_;exact zdt fun k=>h1 k.1
 rw[qD h1];refine uR ?_;by_cases h2:deep≤10
 case neg =>
  rw[qC h2];refine uR ?_;exact zdt fun k=>h2 k.2.1
 rw[qD h2];refine uR ?_;by_cases h3:least≥1
 case neg =>
  rw[qC h3];refine uR ?_;exact zdt fun k=>h3 k.2.2.1
 rw[qD h3];refine uR ?_;by_cases h4:least≤300
 case neg =>
  rw[qC h4];refine uR ?_;exact zdt fun k=>h4 k.2.2.2.1
 rw[qD h4]
 repeat (first|refine RUN ?_|refine CV (hs) ?_|refine CE (hs) ?_)
 exact congrArg Value.bool (decide_eq_decide.2 ((zms g).trans ⟨fun k=>⟨h1,h2,h3,h4,k⟩,fun k=>k.2.2.2.2⟩))
theorem znV {H:Hp} {v:Value} (h:QLL H v []):PC prog 117 #[v] H fun r _=>r=.bool false:=by
 obtain⟨a,c,rfl⟩:=h.val;refine BD func117 ntmps117 ?_;refine uR ?_;rfl
theorem zfr {H:Hp} {kd cl deep least ck:Int} {sl sv vx vr:Value} {X:List (List Rat)} {N:Nat} {rows:List Int} {w:Nat} {g:Rat} (hck:∀G,H.Le G→PC prog 75 #[zai kd cl sl sv] G fun r _=>r=.int .i64 ck) (hlen:PV prog 78 #[zai kd cl sl sv] (.int .i64 (N:Int))) (hX:QLL H vx X) (hN:1≤N) (h2:X.length≤300) (hw:1≤w∧w≤20) (hx:∀x,x∈X→x.length=w)
  (hr:IL H vr rows) (hr0:0<rows.length) (hrn:rows.length≤300) (hgs:sm g) :
  PC prog 64 #[zai kd cl sl sv,vx,vr,.agg (zlw deep least g).toArray] H fun r _=>r=.int .i64 (zrx X.length N ck (decide (zeZ deep least g)) rows):=by
 obtain⟨ra,rc,rfl⟩:=SlC.val hr;by_cases hn0:X.length=0
 ·have hne:X.length≠N:=by omega
  obtain rfl:=List.length_eq_zero_iff.1 hn0;have hv:=znV hX;obtain⟨xa,xc,rfl⟩:=hX.val;refine BD func64 ntmps64 ?_;refine uR ?_;refine vA (hv) ?_;rintro _ G1 rfl hG1;refine uR ?_;rw[zjN hne]
 have hv:=zpN hX oM h2 hw hx;obtain⟨xa,xc,rfl⟩:=hX.val;have hf:=fun (G:Hp)=>zkz (H:=G) (deep:=deep) (least:=least) hgs;generalize decide (zeZ deep least g)=fb at *
 refine BD func64 ntmps64 ?_;refine uR ?_;refine vA (hv) ?_;rintro _ G1 rfl hG1
 repeat (first|refine RUN ?_|refine CV (hlen) ?_|refine CE (hlen) ?_)
 by_cases hne:X.length=N
 case neg =>
  rw[show ((X.length:Int) != (N:Int))=true from bne_iff_ne.2 (by omega)];refine uR ?_;rw[zjN hne]
 subst hne;rw[show ((X.length:Int) != (X.length:Int))=false from bne_self_eq_false _];refine uR ?_;rw[qC (show ¬(rows.length:Int)<1 by omega)];refine uR ?_;rw[qC (show ¬(rows.length:Int)>300 by omega)];refine uR ?_;refine vA (hck G1 hG1) ?_;rintro _ G2 rfl hG2;refine uR ?_;by_cases hc0:ck=0
 case neg =>
  rw[show (ck != 0)=true from bne_iff_ne.2 hc0];refine uR ?_;rw[zeC fun k=>hc0 k.1]
 subst hc0;refine uR ?_;refine vA (hf G2) ?_;rintro _ G3 rfl hG3;have hH3:=hG1.trans (hG2.trans hG3);cases fb
 case false =>
  refine uR ?_;rw[zeC fun k=>by cases k.2.1]
 refine uR ?_;refine EV.loopK (ι:=Nat) [1,39,40] [] (fun q=>[(41,.v (.int .i64 (q:Int)))]) (fun _=>[]) (fun _=>[]) (fun q _=>q≤rows.length∧∀r,r∈rows.take q→0≤r∧r<(X.length:Int)) (fun q=>rows.length-q) (0) rfl rfl ⟨rfl,trivial⟩ trivial rfl (fun _=>rfl) (⟨Nat.zero_le _,fun r hr=>by cases hr⟩) ?_;rintro i G4 hG4 ⟨hi,hall⟩;refine uR ?_;refine EV.cond rfl (fun hlt=>?_) (fun hlt=>?_)
 ·simp only[nN]at hlt;obtain⟨r,hri⟩:=gE hlt;have hmem:=qF hri;refine uR ?_;refine vI ((hr.mono (hH3.trans hG4))) (i) (rfl) (hlt) ((by rw[List.getElem?_map,hri];rfl)) ?_;refine uR ?_;by_cases hr0:r<0
  ·rw[qD hr0];refine uR ?_;rw[zeC fun k=>by have:=k.2.2 r hmem;omega]
  rw[qC hr0];refine uR ?_;by_cases hrx:r≥(X.length:Int)
  ·rw[qD hrx];refine uR ?_;rw[zeC fun k=>by have:=k.2.2 r hmem;omega]
  rw[qC hrx];refine uR ?_;refine⟨i+1,⟨by rw[zab i (by omega)];rfl,trivial⟩,sB,trivial,trivial,rfl,⟨hlt,fun y hy=>?_⟩,Hp.Le.refl _,by omega⟩;rw[zap hri]at hy;rcases List.mem_append.1 hy with h | h
  ·exact hall y h
  ·rw[List.mem_singleton.1 h];omega
 ·simp only[nN]at hlt;obtain rfl:i=rows.length:=by omega
  rw[List.take_length]at hall;refine uR ?_;rw[zhT hall]
theorem znk {x:Nat × TypeId × List Value} {D ow post:Ows} (h:zb7 (x::(D++(ow++post)))):∀k,k∈Ows.bs D→∀q,q∈ow→k≠q.1:=fun k hk q hq e=>by
 have hn:=zdm.1 h;unfold Ows.bs at hn hk;simp only[List.map_cons,List.map_append,List.nodup_cons,List.nodup_append]at hn;exact hn.2.2.2 k hk q.1 (List.mem_append_left _ (List.mem_map.2 ⟨q,hq,rfl⟩)) e
theorem zeY.bs {dv:Value} {D D':Ows} {s s':Int} (h:zeY dv D s) (h':zeY dv D' s'):Ows.bs D=Ows.bs D':=by
 rcases h with ⟨e,rfl⟩ | ⟨b,T,e,rfl,_⟩
 ·rcases h' with ⟨_,rfl⟩ | ⟨b',T',e',rfl,_⟩
  ·rfl
  ·rw[e]at e';cases e'
 ·rcases h' with ⟨e',rfl⟩ | ⟨b',T',e',rfl,_⟩
  ·rw[e]at e';cases e'
  ·rw[e]at e';cases e';rfl
set_option maxRecDepth 100000 in
theorem zmA {p:GP} {H:Hp} {kd cl least:Int} {D0 w:Nat} {S:List Int→List Value} {wo:List Int→Rat} {la va xa:Option Addr} {ln lc vn vc xc:Nat} {f:FuncId} {ccs:List Value} {dv vr:Value} {rows:List Int} {s:Int} {D:Ows}
  (hcl:∀s,(p.cols s).1.length≤1000) (hx0:0<p.X.length) (hX20:p.X.length≤20) (hxw:∀x,x∈p.X→x.length=w) (hxq:∀x,x∈p.X→∀q,q∈x→ht q≤5) (hpl:p.least=least) (hgr:sm p.gain) (hD0:D0≤10)
  (hg:zis H kd cl (.slice la ln lc) (.slice va vn vc) p S wo) (hX:QLL H (.slice xa p.X.length xc) p.X) (hcf:zgg H f ccs dv p) (hr:IL H vr rows) (hn:rows.length≤20) (hb:∀r,r∈rows→0≤r∧r<(p.X.length:Int)) (hD:zeY dv D s) :
  PW prog 65 #[zai kd cl (.slice la ln lc) (.slice va vn vc),.slice xa p.X.length xc,vr,.agg (zlw (D0:Int) least p.gain).toArray,.func (.func f) #[] ccs.toArray] H D fun v ow H'=>∃cs,v=.agg cs.toArray∧zer H' cs kd cl (w:Int) (p.grow D0 0 rows s).1∧zeY dv ow (p.grow D0 0 rows s).2:=by
 obtain⟨ra,rc,rfl⟩:=SlC.val hr;have hpow:2 ^ (D0+1)≤2 ^ 11:=Nat.pow_le_pow_right oM oM;obtain⟨vs,hvs,hvx⟩:=id hX;obtain⟨x0,hxx0⟩:=gE hx0;obtain⟨u0,e0,hu0,_⟩:=hvs.at hxx0;rw[hxw x0 (qF hxx0)]at hu0;refine PW.body tO func65 rfl kR ntmps65 rfl rfl ?_;refine uR ?_;(first|refine EVL.unbox (11) rfl fun gb=>?_|refine EV.unbox (11) rfl fun gb=>?_);refine EVL.callW rfl rfl rfl rfl rfl ((gb,195,_)::(D++[])) [] (by rw[qG,qG]) (zqX (p:=p) (deep:=(D0:Int)) hcl hx0 hX20 hxq hpl hgr D0 (ns:=[]) (css:=[]) hg hX hcf oM (Int.le_refl _) oM hr hn hb hD (zaJ.nil _ _) ⟨rfl,fun j c n e1 e2=>by cases e1⟩ (by rw[List.length_nil];omega)) ?_;rintro _ _ G1 ⟨rfl,out,D',ow2,css,rfl,hD',hown,hns⟩ hG1;rw[List.nil_append]at hown hns;rw[List.length_nil]at hown hns hD';obtain⟨oa,oc,rfl⟩:=hown.val;rw[qG ((gb,_,_)::(D'++ow2))];refine EVL.apart fun hdis=>?_;refine EVL.publishL ((gb,_,_)::D') ow2 [] (by rw[qG,List.cons_append]) hown (fun G2 hG2 hc=>?_) (fun k hk q hq=>znk (post:=[]) (by rw[qG];exact hdis) k (by rw[←hD.bs hD'];exact hk) q hq);rw[qG ((gb,_,_)::D')];have hG12:=hG1.trans hG2;refine uR ?_;apply EV.drawn 11 kR kR;intro xv yw;(repeat refine' DD ?_);refine' vJ (hvx.mono hG12) (0) (rfl) (hx0) (hu0) ?_;rotate_left;(repeat (first|refine' DD ?_|refine' vN ?_|refine' vF ?_));refine' DJ.ofVal (zaa.loadOwn tO rfl rfl rfl rfl (0) rfl (rfl) rfl rfl) rfl rfl rfl ?_;rotate_left;(repeat (first|refine' DD ?_|refine' vN ?_|refine' vF ?_));(refine DJ.nil (fun G hG hF=>?_);(case hS|hS2=>rfl));(first|refine EVL.subOw [] [(gb,_,_)] _ rfl ?_|refine EV.subOw [] [(gb,_,_)] _ rfl ?_);refine uR ?_;exact⟨_,rfl,⟨oa,oc,css,rfl,hns.mono (hG2.trans hG),SlC.mono hc hG⟩,hD'⟩
set_option maxRecDepth 100000 in
theorem zkA {p:GP} {H:Hp} {kd cl least:Int} {D0 sm' w bd:Nat} {Td:TypeId} {s:Int} {S:List Int→List Value} {wo:List Int→Rat} {la va xa:Option Addr} {ln lc vn vc xc:Nat} {vr:Value} {rows:List Int}
  (hds:∀s,p.cols s=((zat w s).1.take sm',(zat w s).2)) (hsm1:1≤sm') (hsm:sm'≤w) (hw2:w≤20) (hx0:0<p.X.length) (hX20:p.X.length≤20) (hxw:∀x,x∈p.X→x.length=w) (hxq:∀x,x∈p.X→∀q,q∈x→ht q≤5) (hpl:p.least=least) (hl:1≤least∧least≤300) (hgr:sm p.gain) (hg0:0≤p.gain) (hD0:D0≤10)
  (hg:zis H kd cl (.slice la ln lc) (.slice va vn vc) p S wo) (hX:QLL H (.slice xa p.X.length xc) p.X) (hr:IL H vr rows) (hr0:0<rows.length) (hn:rows.length≤20) (hb:∀r,r∈rows→0≤r∧r<(p.X.length:Int)) (hs:0≤s) :
  PW prog 32 #[zai kd cl (.slice la ln lc) (.slice va vn vc),.slice xa p.X.length xc,vr,.agg (zlw (D0:Int) least p.gain).toArray,.int .i64 (sm':Int),.pointer (some ⟨bd,0,none⟩)] H [(bd,Td,[.int .u64 s])]
   fun v ow H'=>∃T' cs,v=.tuple #[.agg cs.toArray,.int .i64 0]∧ow=[(bd,T',[.int .u64 (p.grow D0 0 rows s).2])]∧0≤(p.grow D0 0 rows s).2∧zer H' cs kd cl (w:Int) (p.grow D0 0 rows s).1:=by
 obtain⟨ra,rc,rfl⟩:=SlC.val hr;have hrf:=zfr (deep:=(D0:Int)) (least:=least) hg.ok.check hg.ok.leng hX oM oM ⟨by omega,hw2⟩ hxw hr hr0 oM hgr;rw[qD (show zeZ (D0:Int) least p.gain from ⟨by omega,by omega,by omega,by omega,hg0⟩),zhT hb]at hrf;obtain⟨vs,hvs,hvx⟩:=id hX;obtain⟨x0,hxx0⟩:=gE hx0;obtain⟨u0,e0,hu0,_⟩:=hvs.at hxx0;rw[hxw x0 (qF hxx0)]at hu0;refine PW.body tO func32 rfl kR ntmps32 rfl rfl ?_;refine uR ?_;refine vA (hrf) ?_;rintro _ G1 rfl hG1;refine uR ?_;refine vI ((hvx.mono hG1)) (0) (rfl) (hx0) (hu0) ?_;refine uR ?_;rw[qC (show ¬(sm':Int)<1 by omega)];refine uR ?_;rw[qC (show ¬(sm':Int)>(w:Int) by omega)];refine uR ?_;refine EVL.eqnilP (e:=164) kR rfl rfl rfl rfl rfl ?_;refine uR ?_;(first|refine EVL.unbox (11) rfl fun ga=>?_|refine EV.unbox (11) rfl fun ga=>?_);(first|refine EVL.unbox (15) rfl fun gw=>?_|refine EV.unbox (15) rfl fun gw=>?_);(first|refine EVL.unbox (10) rfl fun gs=>?_|refine EV.unbox (10) rfl fun gs=>?_);(first|refine EVL.apart fun hdis=>?_|refine EV.apart fun hdis=>?_)
 have hap:gs≠bd∧gw≠bd∧ga≠bd:=by
  refine⟨fun e=>?_,fun e=>?_,fun e=>?_⟩
  ·have:=hdis 0 3 gs _ _ _ _ rfl (by rw[e];rfl);omega
  ·have:=hdis 1 3 gw _ _ _ _ rfl (by rw[e];rfl);omega
  ·have:=hdis 2 3 ga _ _ _ _ rfl (by rw[e];rfl);omega
 (first|refine EVL.publish [] _ rfl (fun G2 hG2 hs2=>?_) (fun k hk=>by rw[List.mem_singleton.1 hk];exact hap.1.symm)|refine EV.publish [] _ rfl (fun G2 hG2 hs2=>?_) (fun k hk=>by rw[List.mem_singleton.1 hk];exact hap.1.symm));(first|refine EVL.publish [] _ rfl (fun G3 hG3 hs3=>?_) (fun k hk=>by rw[List.mem_singleton.1 hk];exact hap.2.1.symm)|refine EV.publish [] _ rfl (fun G3 hG3 hs3=>?_) (fun k hk=>by rw[List.mem_singleton.1 hk];exact hap.2.1.symm));(first|refine EVL.publish [] _ rfl (fun G4 hG4 hs4=>?_) (fun k hk=>by rw[List.mem_singleton.1 hk];exact hap.2.2.symm)|refine EV.publish [] _ rfl (fun G4 hG4 hs4=>?_) (fun k hk=>by rw[List.mem_singleton.1 hk];exact hap.2.2.symm));refine uR ?_;refine EVL.fn3 rfl rfl rfl rfl rfl rfl rfl ?_;have hH4:=hG1.trans (hG2.trans (hG3.trans hG4));have hcf:=zqW (p:=p) (H:=G4) hds hsm oM oM hs4 (hG4 _ _ hs3) (hG4 _ _ (hG3 _ _ hs2));refine EVL.callW rfl rfl rfl rfl rfl [(bd,Td,[.int .u64 s])] [] rfl (zmA (w:=w) (fun s=>by rw[hds];show ((zat w s).1.take sm').length≤1000;rw[List.length_take];omega) hx0 hX20 hxw hxq hpl hgr hD0 (hg.mono hH4) (hX.mono hH4) hcf (hr.mono hH4) hn hb (.inr ⟨bd,Td,rfl,rfl,hs⟩)) ?_;rintro _ D' G5 ⟨cs,rfl,hpt,hD'⟩ hG5;rcases hD' with ⟨e1,_⟩|⟨bd',T',e1,rfl,hs'⟩
 ·cases e1
 cases e1;obtain⟨ta,tc,css,rfl,_⟩:=id hpt;refine uR ?_;exact⟨T',_,rfl,rfl,hs',hpt⟩
def zd5 (w:Nat):List Int:=(List.range w).map fun i:Nat=>(i:Int)
theorem zcS (w:Nat):(zd5 w).length=w:=by simp[zd5]
theorem zjq (w:Nat):zd5 (w+1)=zd5 w++[(w:Int)]:=by simp[zd5,List.range_succ]
theorem ziE (x:Value):∀w:Nat,(List.replicate w [x]).flatten=List.replicate w x
 | 0=>rfl
 | w+1=>by rw[List.replicate_succ,List.flatten_cons,ziE x w,List.replicate_succ];rfl
theorem zrZ {w i:Nat} (h:i<w) (u:Nat):(zd5 i).map iv++List.replicate (w-i) (Value.int .i64 0)=(zd5 i).map iv++([Value.int .i64 0]++List.replicate (w-(i+1)) (Value.int .i64 0)):=by
 rw[show w-i=(w-(i+1))+1 by omega,List.replicate_succ];rfl
theorem zrY {w i:Nat} (h:i<w):((zd5 i).map iv++List.replicate (w-i) (Value.int .i64 0)).set i (.int .i64 (i:Int))=(zd5 (i+1)).map iv++List.replicate (w-(i+1)) (Value.int .i64 0):=by
 rw[zrZ h 0,List.set_append_right _ _ (by rw[List.length_map,zcS];exact qH _),List.length_map,zcS,Nat.sub_self,zjq,List.map_append,List.append_assoc];rfl
theorem zln {H:Hp} {p:GP} {a w c:Nat} {sa:Option Addr} (hds:∀s,p.cols s=(zd5 w,s)) (ha:H a=some ([.slice sa w c]:List Value).toArray) (hil:IL H (.slice sa w c) (zd5 w)):zgg H 66 [.pointer (some ⟨a,0,none⟩)] (.pointer none) p:=by
 intro G hG D s hD;have hcs:(p.cols s).1=zd5 w:=by rw[hds]
 have hcs2:(p.cols s).2=s:=by rw[hds]
 rw[hcs,hcs2];have hil2:=hil.mono hG;refine PW.body tO func66 rfl kR ntmps66 rfl rfl ?_;refine EV.asRo 0 rfl (hG _ _ ha) ?_;refine uR ?_;exact⟨hil2,hD⟩
set_option maxRecDepth 100000 in
theorem zhk {p:GP} {H:Hp} {kd cl least:Int} {D0 w:Nat} {s:Int} {S:List Int→List Value} {wo:List Int→Rat} {la va xa:Option Addr} {ln lc vn vc xc:Nat} {vr:Value} {rows:List Int}
  (hds:∀s,p.cols s=(zd5 w,s)) (hw1:1≤w) (hw2:w≤20) (hx0:0<p.X.length) (hX20:p.X.length≤20) (hxw:∀x,x∈p.X→x.length=w) (hxq:∀x,x∈p.X→∀q,q∈x→ht q≤5) (hpl:p.least=least) (hl:1≤least∧least≤300) (hgr:sm p.gain) (hg0:0≤p.gain) (hD0:D0≤10)
  (hg:zis H kd cl (.slice la ln lc) (.slice va vn vc) p S wo) (hX:QLL H (.slice xa p.X.length xc) p.X) (hr:IL H vr rows) (hr0:0<rows.length) (hn:rows.length≤20) (hb:∀r,r∈rows→0≤r∧r<(p.X.length:Int)) :
  PC prog 13 #[zai kd cl (.slice la ln lc) (.slice va vn vc),.slice xa p.X.length xc,vr,.agg (zlw (D0:Int) least p.gain).toArray] H
   fun v H'=>∃cs,v=.tuple #[.agg cs.toArray,.int .i64 0]∧zer H' cs kd cl (w:Int) (p.grow D0 0 rows s).1:=by
 obtain⟨ra,rc,rfl⟩:=SlC.val hr;have hrf:=zfr (deep:=(D0:Int)) (least:=least) hg.ok.check hg.ok.leng hX oM oM ⟨by omega,hw2⟩ hxw hr hr0 oM hgr;rw[qD (show zeZ (D0:Int) least p.gain from ⟨by omega,by omega,by omega,by omega,hg0⟩),zhT hb]at hrf;obtain⟨vs,hvs,hvx⟩:=id hX;obtain⟨x0,hxx0⟩:=gE hx0;obtain⟨u0,e0,hu0,_⟩:=hvs.at hxx0;rw[hxw x0 (qF hxx0)]at hu0;refine BD func13 ntmps13 ?_;refine uR ?_;refine vA (hrf) ?_;rintro _ G1 rfl hG1;refine uR ?_;refine vI ((hvx.mono hG1)) (0) (rfl) (hx0) (hu0) ?_;refine uR ?_;refine EVL.make tO rfl rfl rfl rfl rfl rfl rfl rfl rfl (w) (rfl) oM (by rfl) (by rfl) fun b=>?_;refine uR ?_;(first|refine EVL.swapOw ([(b,3,(zd5 0).map iv++List.replicate (w-0) (.int .i64 0))]) ([]) ((by rw[show (Tryz.te3).zero=[Value.int .i64 0] from rfl,ziE];rfl)) ?_|refine EV.swapOw ([(b,3,(zd5 0).map iv++List.replicate (w-0) (.int .i64 0))]) ([]) ((by rw[show (Tryz.te3).zero=[Value.int .i64 0] from rfl,ziE];rfl)) ?_);refine EV.loopK (ι:=Nat) [1,2,4,7,8,11,28] [4,7,8,11] (fun i=>[(29,.v (.int .i64 (i:Int)))]) (fun _=>[]) (fun i=>[(b,3,(zd5 i).map iv++List.replicate (w-i) (.int .i64 0))]) (fun i _=>i≤w) (fun i=>w-i) (0) rfl rfl ⟨rfl,trivial⟩ trivial rfl (fun _=>rfl) (Nat.zero_le _) ?_;rintro i G2 hG2 hi;refine uR ?_;refine EV.cond rfl (fun hlt=>?_) (fun hlt=>?_)
 ·simp only[nN]at hlt;have wn:IntKind.i64.wrap ((i:Int)+1)=((i+1:Nat):Int):=zab i oM;refine uR ?_;refine EVL.idxB tO rfl rfl rfl rfl rfl rfl rfl rfl rfl (i) (i*1) (rfl) (hlt) (rfl) ?_;rw[Nat.mul_one];refine uR ?_;refine EVL.set1 tO rfl rfl rfl rfl rfl rfl rfl rfl rfl rfl ((by rw[List.length_append,List.length_map,zcS,List.length_replicate];omega)) ?_;rw[zrY hlt];refine uR ?_;refine⟨i+1,⟨by rw[wn];rfl,trivial⟩,sB,trivial,sB,rfl,hlt,Hp.Le.refl _,by omega⟩
 ·simp only[nN]at hlt;obtain rfl:i=w:=by omega
  rw[Nat.sub_self,List.replicate_zero];(first|refine EVL.publish [] [] rfl fun G3 hG3 hb3=>?_|refine EV.publish [] [] rfl fun G3 hG3 hb3=>?_);(first|refine EVL.unbox (11) rfl fun ga=>?_|refine EV.unbox (11) rfl fun ga=>?_);(first|refine EVL.publish [] [] rfl fun G4 hG4 hb4=>?_|refine EV.publish [] [] rfl fun G4 hG4 hb4=>?_);refine uR ?_;refine EVL.fn1 rfl rfl rfl rfl rfl ?_;have hH4:=hG1.trans (hG2.trans (hG3.trans hG4));have hcf:=zln (p:=p) (H:=G4) hds hb4 (zoI (hG4 _ _ hb3) (zcS _));refine EVL.callW rfl rfl rfl rfl rfl [] [] rfl (zmA (w:=i) (s:=s) (fun s=>by rw[hds];show (zd5 i).length≤1000;rw[zcS];omega) hx0 hX20 hxw hxq hpl hgr hD0 (hg.mono hH4) (hX.mono hH4) hcf (hr.mono hH4) hn hb (.inl ⟨rfl,rfl⟩)) ?_;rintro _ D' G5 ⟨cs,rfl,hpt,hD'⟩ hG5;rcases hD' with ⟨_,rfl⟩|⟨bd',T',e1,_⟩
  ·obtain⟨ta,tc,css,rfl,_⟩:=id hpt;refine uR ?_;exact⟨_,rfl,hpt⟩
  ·cases e1
theorem zo2 (a:Rat):zct a a=0:=Int.le_antisymm (ziQ Rat.le_refl) (ziR.2 Rat.lt_irrefl)
inductive GD where
 | v (qs:List Rat)
 | c (C:Nat) (ls:List Int)
def GD.kd:GD→Int
 | .v _=>2
 | .c _ _=>1
def GD.cl:GD→Int
 | .v _=>0
 | .c C _=>C
def GD.cost:GD→List Int→Rat
 | .v qs=>zhM qs
 | .c _ ls=>zgw ls
def GD.mean:GD→List Int→Rat
 | .v qs=>fun l=>zdq (atR qs l)
 | .c _ _=>fun _=>0
def GD.cnt:GD→List Int→List Int
 | .v _=>fun _=>[]
 | .c C ls=>fun l=>zdg C (atI ls l)
def GD.Ok (n:Nat):GD→Prop
 | .v qs=>qs.length=n∧∀q,q∈qs→ht q≤5
 | .c C ls=>(1≤C∧C≤12)∧ls.length=n∧∀z,z∈ls→0≤z∧z<(C:Int)
def GD.P (H:Hp) (sl sv:Value):GD→Prop
 | .v qs=>∃la lc va vc,sl=.slice la 0 lc∧sv=.slice va qs.length vc∧QL H sv qs
 | .c _ ls=>∃la lc va vc,sl=.slice la ls.length lc∧sv=.slice va 0 vc∧IL H sl ls
theorem GD.P.mono {H G:Hp} {sl sv:Value} {d:GD} (h:d.P H sl sv) (k:H.Le G):d.P G sl sv:=by
 cases d with
 | v qs=>obtain⟨la,lc,va,vc,e1,e2,h⟩:=h;exact⟨la,lc,va,vc,e1,e2,SlC.mono h k⟩
 | c C ls=>obtain⟨la,lc,va,vc,e1,e2,h⟩:=h;exact⟨la,lc,va,vc,e1,e2,SlC.mono h k⟩
def GD.R (H:Hp) (v:Value):GD→Prop
 | .v qs=>∃s,v=zai 2 0 (.slice none 0 0) s∧RL H s qs
 | .c C ls=>∃s,v=zai 1 C s (.slice none 0 0)∧IL H s ls
theorem zjm.gd {H:Hp} {v:Value} {n:Nat} {qs:List Rat} (h:zjm H v n qs) (hql:qs.length=n) (hq:∀q,q∈qs→ht q≤5):∃d:GD,d.Ok n∧d.R H v∧d.cl≤4:=by
 rcases h with ⟨s,rfl,hs⟩ | ⟨cl,s,ls,rfl,hc1,hc2,hll,hlb,hs⟩
 ·exact⟨.v qs,⟨hql,hq⟩,⟨s,rfl,hs⟩,by show (0:Int)≤4;decide⟩
 ·obtain⟨C,rfl⟩:=Int.eq_ofNat_of_zero_le (show 0≤cl by omega);exact⟨.c C ls,⟨⟨by omega,by omega⟩,hll,hlb⟩,⟨s,rfl,hs⟩,hc2⟩
theorem GD.Ok.sm {n:Nat} {d:GD} (hd:d.Ok n):∀l:List Int,l.length≤300→(∀r,r∈l→0≤r∧r<(n:Int))→ht (d.mean l)≤4000∧ht (d.cost l)≤2000000:=by
 intro l hn hr
 cases d with
 | v qs =>
  obtain⟨rfl,hq⟩:=hd;have hlb:=fun q hq'=>hq q (zd6 hr q hq');have hll:(atR qs l).length≤300:=by rw[zbI];omega
  have h2:=zl8 hll hlb;have h3:=zor hll hlb h2;show ht (zdq (atR qs l))≤4000∧ht (zhM qs l)≤2000000;unfold zhM;omega
 | c C ls =>
  have hsq:=zii (atI ls l);have hll:(atI ls l).length=l.length:=zb0 ls l;rw[hll]at hsq;have hsq2:l.length*l.length≤300*300:=Nat.mul_le_mul hn hn;have hn2:=zbz (l.length:Int);have hn3:bl (l.length:Int).natAbs≤20:=za3 oM;have hs2:=zbz (sqL (atI ls l):Int);have hs3:bl (sqL (atI ls l):Int).natAbs≤20:=za3 oM;have hdv:=zfA ((sqL (atI ls l):Int):Rat) ((l.length:Int):Rat);have hsb:=zjR ((l.length:Int):Rat) (((sqL (atI ls l):Int):Rat) / ((l.length:Int):Rat));refine⟨by show ht (0:Rat)≤4000;rw[zcE];decide,?_⟩;show ht (zgw ls l)≤2000000;unfold zgw zfQ;rw[hll];omega
theorem GD.Ok.plain {n:Nat} {d:GD} (hd:d.Ok n):zjn d.kd d.cl n d.cost d.mean d.cnt:=by
 have hsm:=hd.sm
 cases d with
 | v qs =>
  obtain⟨rfl,hq⟩:=hd;exact⟨.inr ⟨rfl,rfl⟩,fun _=>rfl,fun _ _ _ _ k=>rfl,fun l c hc=>(by cases hc),fun e=>absurd e (by decide:¬(2:Int)=1),fun e=>absurd e (by decide:¬(2:Int)=1),fun l=>zk6 _ _,fun l hn hr=>(hsm l hn hr).2,fun l hn hr=>(hsm l hn hr).1⟩
 | c C ls =>
  obtain⟨hc,rfl,hlb⟩:=hd;refine⟨.inl ⟨rfl,by show (1:Int)≤(C:Int);omega,by show (C:Int)≤12;omega⟩,fun l=>by show ((zdg C (atI ls l)).length:Int)=(C:Int);rw[zbk],fun r l m hp k=>zqn C (by have:=hp.map (fun r:Int=>ls.getD r.toNat 0);rwa [List.map_append]at this) k,fun l c hc=>?_,fun _ l hr=>?_,fun _ l=>rfl,fun l=>zjE _,fun l hn hr=>(hsm l hn hr).2,fun l hn hr=>(hsm l hn hr).1⟩
  ·obtain⟨k,_,rfl⟩:=List.mem_map.1 hc;omega
  ·show (zdg C (atI ls l)).sum=_;rw[zqo (fun z hz=>hlb z (zqg hr z hz)),zb0]
theorem GD.Ok.pgoal {H:Hp} {n:Nat} {d:GD} (hd:d.Ok n) (h0:1≤n) (h1:n≤300) {sl sv:Value} (hP:d.P H sl sv) {p:GP} (e0:p.X.length=n) (e1:p.cost=d.cost) (e2:p.mean=d.mean) (e3:p.cnt=d.cnt):∃S wo,zis H d.kd d.cl sl sv p S wo:=by
 have hsm:=hd.sm
 cases d with
 | v qs =>
  obtain⟨rfl,hq⟩:=hd;obtain⟨la,lc,va,vc,rfl,rfl,hv⟩:=hP;have q100:∀q,q∈qs→ht q≤100:=fun q hq'=>qI (hq q hq') oM;have hcnt:=fun (G:Hp) (u:Value)=>zmZ (H:=G) (v:=u) (va:=va) (vc:=vc) (la:=la) (lc:=lc) h0 h1;refine⟨zkr qs,woV qs,⟨by rw[e0];exact zus hv h0 h1 q100,by rw[e1];exact zuw qs,?_,?_,?_,?_,?_,?_⟩⟩
  ·rw[e0,e3];exact fun G hG u l hl hn=>hcnt G u
  ·rw[e3];exact fun l=>Nat.zero_le _
  ·rw[e0,e3];exact fun G hG u l hl hn=>zmD (w:=u) ⟨_,_,_,_,rfl⟩ (hcnt G u) (by show ([]:List Int).length≤300;decide)
  ·rw[e0,e2];exact fun G hG u l hl hn=>zl7 hl hn (SlC.mono hv hG) h0 h1 q100
  ·rw[e0,e1];exact fun l hn hr=>(hsm l hn hr).2
  ·rw[e0,e1];exact fun G hG u l hl hn=>zqq hl hn (SlC.mono hv hG) h0 h1 q100
 | c C ls =>
  obtain⟨hc,rfl,hlb⟩:=hd;obtain⟨la,lc,va,vc,rfl,rfl,hv⟩:=hP;have hcnt:=fun (G:Hp) (hG:H.Le G) (u:Value) (l:List Int) (hl:IL G u l) (hn:l.length≤300)=>zmY (va:=va) (vc:=vc) hl hn (SlC.mono hv hG) (C:=C) hc h0 h1 hlb;refine⟨zkq ls,woL ls,⟨by rw[e0];exact zur ⟨by show (1:Int)≤(C:Int);omega,by show (C:Int)≤12;omega⟩ hv h0 h1 hlb,by rw[e1];exact zuv (fun z hz=>⟨(hlb z hz).1,by have:=(hlb z hz).2;omega⟩),?_,?_,?_,?_,?_,?_⟩⟩
  ·rw[e0,e3];exact hcnt
  ·rw[e3];exact fun l=>by show (zdg C (atI ls l)).length≤12;rw[zbk];omega
  ·rw[e0,e3];exact fun G hG u l hl hn=>zmD (w:=u) ⟨_,_,_,_,rfl⟩ (hcnt G hG u l hl hn) (by show (zdg C (atI ls (exL l ls.length))).length≤300;rw[zbk];omega)
  ·rw[e0,e2];exact fun G hG u l hl hn=>zqM
  ·rw[e0,e1];exact fun l hn hr=>(hsm l hn hr).2
  ·rw[e0,e1];exact fun G hG u l hl hn=>zqp (va:=va) (vc:=vc) hl hn (SlC.mono hv hG) ⟨by show (1:Int)≤(C:Int);omega,by show (C:Int)≤12;omega⟩ h0 h1 hlb
end
section
open Go.RowKit Go.Sort Go.Lib
abbrev ztV (n:Nat):ByteArray:=⟨(Lib.decDigits n).toArray⟩
end
section
open Go.RowKit _root_.Go.Proofs.Tryz
abbrev sb (l:List UInt8):ByteArray:=⟨l.toArray⟩
section
variable {P:Program} {n:Nat} {ops:Array Oper} {o:Oper} {rest:List Oper} {env:Env} {bx:Bxs} {sb':Bxs} {ow:Ows} {H:Hs} {Q:EQ} {τ:Tab} {d:Nat} {s:SV}
theorem zpu {T T':TypeId} {x y:Operand} (ho:o.op=.binOp .add T x y T') (a b:List UInt8) (hx:env.op x=some (.v (.string (sb a)))) (hy:env.op y=some (.v (.string (sb b)))) (ha:a.length≤8388608) (hb:b.length≤8388608) (ev:Operand→Value) (W:World) (he:∀y x,y∈o.op.operands→env.op y=some (.v x)→ev y=x) :
  (execOp ev o).run P W=.ok (.value (.string (sb (a++b)))) W:=by
 have ex:=he x _ (by simp[ho,Op.operands]) hx;have ey:=he y _ (by simp[ho,Op.operands]) hy;unfold execOp;simp[ho,ex,ey,eqGuard,binOp,run_string_add_lists W a b oM (by omega)]
theorem EVL.cat {T T':TypeId} {x y:Operand} (a b:List UInt8) (ho:o.op=.binOp .add T x y T') (hw:zah ops env o=some true) (hd:o.dst=some d) (hn:Nat.blt d n=true) (hx:env.op x=some (.v (.string (sb a)))) (hy:env.op y=some (.v (.string (sb b)))) (ha:a.length≤8388608) (hb:b.length≤8388608)
  (h:EVL P n ops rest ((d,.v (.string (sb (a++b))))::env) bx H Q):EVL P n ops (o::rest) env bx H Q:=EVL.gen hw hd hn (zpu ho a b hx hy ha hb) h
theorem DJ.cat {tail l:List Oper} {x:Nat→Value} {y:Nat→Ows} {ow':Ows} {kl ks:List DK} {i:Nat} {bx':Bxs} {Γ:zeW} {T T':TypeId} {u w:Operand} (a b:List UInt8) (ho:o.op=.binOp .add T u w T') (hw:zah ops env o=some true) (hd:o.dst=some d) (hn:Nat.blt d n=true) (hx:env.op u=some (.v (.string (sb a)))) (hy:env.op w=some (.v (.string (sb b)))) (ha:a.length≤8388608) (hb:b.length≤8388608)
  (h:DJ P n ops tail sb' bx H Q x y kl (i+1) l ks ((d,.v (.string (sb (a++b))))::env) bx' Γ ow'):DJ P n ops tail sb' bx H Q x y kl i (o::l) (.sv (.v (.string (sb (a++b))))::ks) env bx' Γ ow' :=
 DJ.ofVal (zaa.gen hw (zpu ho a b hx hy ha hb)) hd hn rfl h
end
theorem zqt {n:Nat} (h:n<18446744073709551616):(Lib.decDigits n).length≤20:=by
 rw[Lib.decDigits_length];by_cases h1:1≤n
 ·have:=Lib.numDigits_eq n h1 h;split at this <;> omega
 ·have:n=0:=by omega
  subst this;rw[Lib.nDigits_small (by omega)];omega
theorem zos {n:Nat} (h0:n≠0) (h:n<W64):dig W64 n=[n]:=by
 rw[zcY zaf oM,Nat.mod_eq_of_lt h,Nat.div_eq_of_lt h,zaV]
theorem zfk {P:Program} (w:World) (t u ty e:TypeId) (i:TypeInfo) (ht:P.underlying t=some (.slice e)) (hu:P.underlying u=some .string) (hi:P.info? e=some i) (hz:i.zero=some (.int .u8 0)) (hsize:i.size=1) (hby:i.bytes=1)
  (v:Value) (n:Nat) (xs:List Value) (hown:w.ownsRow 0 e 1 v n xs) (s:ByteArray) (hb:n+s.size≤140737488355328) :
  ∃v' w',(Builtin.append_ #[t,u] ty #[v,.string s]).run P w=.ok v' w'∧w'.ownsRow 0 e 1 v' (n+s.size) (xs++Lib.strCells s)∧w.grownBy w' v.ownBlock∧∀g,v'.ownBlock=some g→v.ownBlock=some g∨w.heap.size≤g:=by
 obtain⟨v',w',hr,h2,h3,h4⟩:=Lib.run_append_own_string (P:=P) w 0 t u ty e i ht hu hi hz hsize hby v n xs hown s (by simp only[maxLen];omega) hb (Nat.zero_le _);refine⟨v',w',hr,h2,h3,fun g hg=>?_⟩;have hxl:xs.length=n:=by simpa using hown.1
 rcases hown.2 with ⟨rfl,rfl⟩ | ⟨g0,cap,cur,rfl,hbg,hgb,hnc,hcm,hcs,htake⟩
 ·have hx:xs=[]:=List.eq_nil_of_length_eq_zero hxl;subst hx;obtain⟨v2,w2,hr2,h22,_⟩:=Lib.run_append_own_string (P:=P) w w.heap.size t u ty e i ht hu hi hz hsize hby (.slice none 0 0) 0 [] (World.ownsRow_nil w w.heap.size e 1) s (by simp only[maxLen];omega) hb (qH _);rw[hr]at hr2;cases hr2;exact .inr ((h22.lt g hg).1)
 ·by_cases hroom:n+s.size≤cap
  ·have hr2:=Lib.run_append_room_string (P:=P) w t u ty e i ht hu hi hsize g0 n cap cur hgb s hroom (by simp at hcs;omega);rw[hr]at hr2;cases hr2;left;exact hg
  ·have holds:∀j u,xs[j]?=some u→w.cell? ((⟨g0,0,none⟩:Addr).add j)=some u:=hown.cells (g:=g0) rfl;have hr2:=Lib.run_append_grow_string (P:=P) w t u ty e i (.int .u8 0) ht hu hi hz ⟨g0,0,none⟩ n cap xs (by rw[hsize];simpa using hxl) holds s oM oM (by rw[hby];exact growslice_fits oM oM);rw[hr]at hr2;cases hr2;right;have:w.heap.size=g:=by simpa[Value.ownBlock] using hg
   omega
theorem zup {P:Program} {w0:World} {ops:Array Oper} {rest:List Oper} {o:Oper} {a:Act} {Q:Exit→Act→World→Prop} (hgd:o.guard=none) (s x:Operand) (t u:TypeId)
  (ho:o.op=.call { callee:=.builtin .append,args:=#[s,x],argTypes:=#[t,u] })
  (e:TypeId) (hinfo:(P.info? e).map (fun i=>(i.zero,i.size,i.bytes))=some (some (.int .u8 0),1,1)) (ht:P.underlying t=some (.slice e)) (hu:P.underlying u=some .string)
  (v:Value) (n:Nat) (xs:List Value) (hs:a.eval s=v) (hown:w0.ownsRow 0 e 1 v n xs) (y:ByteArray) (hx:a.eval x=.string y) (hb:n+y.size≤140737488355328)
  (h:∀v' w',w'.ownsRow 0 e 1 v' (n+y.size) (xs++Lib.strCells y)→zaQ (fun k=>v.ownBlock=some k) w0 w'→(∀g,v'.ownBlock=some g→v.ownBlock=some g∨w0.heap.size≤g)→wpList P ops Q rest (a.put o.dst v') w'):wpList P ops Q (o::rest) a w0:=by
 obtain⟨i0,hi,hz0,hz1,hz2⟩:=info_parts hinfo;refine wpList_plain hgd fun K hK=>?_;obtain⟨v',w',hr,h2,h3,h4⟩:=zfk (P:=P) w0 t u o.type e i0 ht hu hi hz0 hz1 hz2 v n xs hown y hb;unfold Oper.wp execOp;simp only[ho,resolve,invoke,builtin,Sem.run_bind,Sem.run_pure,Result.andThen_ok,List.map_toArray,List.map_cons,List.map_nil,hs,hx,hr];exact hK _ _ (h v' w' h2 ((zaQ.refl _ w0).grown h3 (fun k e _=>e)) h4)
def zrs (b:Nat) (l:List UInt8) (L:Ows):Prop:=∃p v ow,L=(b,172,[p,v])::ow∧(p=.pointer none∨p=.pointer (some ⟨b,0,none⟩))∧zaJ 5 1 v l.length (Lib.byteCells l) ow
theorem zrs.new (b:Nat):zrs b [] [(b,172,[.pointer none,.slice none 0 0])]:=⟨_,_,[],rfl,.inl rfl,zaJ.nil _ _⟩
theorem zjy (b:Nat) (p v:Value) (w:World) (hp:p=.pointer none∨p=.pointer (some ⟨b,0,none⟩)) (hB:Box w b #[p,v] 172) :
  Calls prog 187 #[.pointer (some ⟨b,0,none⟩)] w fun e w'=>e=.returned (.tuple #[])∧Box w' b #[.pointer (some ⟨b,0,none⟩),v] 172∧zaQ (·=b) w w':=by
 have c0:w.cell? ⟨b,0,none⟩=some p:=by rw[Lib.cell_of_heap hB];rfl
 rcases hp with rfl | rfl
 ·refine(zdZ b w c0 (by have h:=hB;unfold Box at h;simp[World.shape?,h]) (Lib.frozen_of_heap hB 0)).mono ?_;rintro e w' ⟨rfl,rfl⟩;refine⟨rfl,?_,zaQ.setCell (X:=(·=b)) (p:=⟨b,0,none⟩) (zaQ.refl _ w) (fun _=>rfl) _⟩;have h:=hB;unfold Box at h ⊢;simp[World.setCell,Array.getElem?_modify,h]
 ·refine(zev b w c0).mono ?_;rintro e w' ⟨rfl,rfl⟩;exact⟨rfl,hB,zaQ.refl _ _⟩
theorem zlv {H:Hp} {W:World} {L pre post:Ows} {e:TypeId} {v:Value} {m:Nat} {xs:List Value} {ow:Ows} (h:zaJ e 1 v m xs ow) (he:L=pre++(ow++post)) (hL:∀(j b:Nat) (T:TypeId) (cs:List Value),L[j]?=some (b,T,cs)→Box W b cs.toArray T∧H b=none∧gH b=none):W.ownsRow 0 e 1 v m xs:=by
 refine⟨h.1,?_⟩;rcases h.2 with ⟨h2,h3,_⟩ | ⟨g,cap,sp,h2,h3,h4,h5,h6⟩
 ·exact .inl ⟨h2,h3⟩
 ·have hjg:L[pre.length]?=some (g,e,xs++sp):=by rw[he,h3];simp
  exact .inr ⟨g,cap,(xs++sp).toArray,h2,Nat.zero_le _,(hL _ _ _ _ hjg).1,h5,h6,by simpa using h4,by simp only[List.toList_toArray];rw[←h.1];exact List.take_left⟩
set_option maxRecDepth 100000 in
theorem zjA {H:Hp} {W:World} {b:Nat} {p v:Value} {l:List UInt8} {ow:Ows} (s:ByteArray) (hp:p=.pointer none∨p=.pointer (some ⟨b,0,none⟩)) (hown:zaJ 5 1 v l.length (Lib.byteCells l) ow) (hlen:l.length+s.size≤100000000000)
  (hL:∀(j k:Nat) (T:TypeId) (cs:List Value),((b,172,[p,v])::ow)[j]?=some (k,T,cs)→Box W k cs.toArray T∧H k=none∧gH k=none) :
  Calls prog 143 #[.pointer (some ⟨b,0,none⟩),.string s] W fun e W'=>e=.returned (.tuple #[.int .i64 s.size,.nilIface])∧∃v',Box W' b #[.pointer (some ⟨b,0,none⟩),v'] 172∧W'.ownsRow 0 5 1 v' (l.length+s.size) (Lib.byteCells l++Lib.strCells s)∧zaQ (fun k=>k=b∨v.ownBlock=some k) W W'∧∀g,v'.ownBlock=some g→v.ownBlock=some g∨W.heap.size≤g:=by
 have hB:=(hL 0 b _ _ rfl).1;have hrow:W.ownsRow 0 5 1 v l.length (Lib.byteCells l):=zlv (pre:=[(b,172,[p,v])]) (post:=[]) hown (by simp) hL
 go_enter func143,ntmps143
 go_wp2_with fail;refine(zjy b p v _ hp hB).mono ?_;rintro e w1 ⟨rfl,hB1,hk1⟩;have hbk:w1.heap[b]?=some (.cells #[.pointer (some ⟨b,0,none⟩),v] 172 (0,0)):=hB1;have c1:w1.cell? ⟨b,1,none⟩=some v:=by rw[Lib.cell_of_heap hbk];rfl
 have hne:v.ownBlock≠some b:=Lib.ownBlock_ne hrow hB (by decide)
 have hrow1:w1.ownsRow 0 5 1 v l.length (Lib.byteCells l):=by
  refine hrow.kept (row:=some b) ⟨hk1.os,hk1.tape,hk1.output,hk1.size,fun k hk hne=>hk1.block k hk (fun e=>hne (by rw[e]))⟩ (.inr hne)
 have hs1:=hk1.size
 go_wp2_with (at_builtin;refine zup rfl _ _ _ _ rfl 5 Tryz.infoU8 Tryz.underlying170 Tryz.underlying9 _ _ _ rfl hrow1 s rfl oM ?_);intro v' w2 hown2 hk2 hpl;have hlt:=hB.lt;have hb2:w2.heap[b]?=some (.cells #[.pointer (some ⟨b,0,none⟩),v] 172 (0,0)):=by rw[hk2.block b oM hne];exact hbk
 have d1:w2.cell? ⟨b,1,none⟩=some v:=by rw[Lib.cell_of_heap hb2];rfl
 have f1:w2.frozen? ⟨b,1,none⟩=false:=Lib.frozen_of_heap hb2 1
 obtain⟨ao,n',cap,rfl⟩:∃ao n' cap,v'=.slice ao n' cap:=by
  rcases hown2.2 with ⟨hv,_⟩ | ⟨g,cap,cur,hv,_⟩
  ·exact⟨_,_,_,hv⟩
  ·exact⟨_,_,_,hv⟩
 go_wp2
 go_ret2;have hne2:(Value.slice ao n' cap).ownBlock≠some b:=Lib.ownBlock_ne hown2 hb2 (by decide);refine⟨rfl,.slice ao n' cap,?_,?_,?_,fun g hg=>(hpl g hg).imp id fun h=>by omega⟩
 ·unfold Box;simp[World.setCell,Array.getElem?_modify,hb2]
 ·exact hown2.kept (row:=some b) ⟨rfl,rfl,rfl,by simp[World.setCell],fun k _ hk=>Below.heap_setCell _ _ _ _ (fun e=>hk (by simp[e]))⟩ (.inr hne2)
 ·exact((hk1.mono fun k _ e=>.inl e).trans (hk2.mono fun k _ e=>.inr e)).setCell (p:=⟨b,1,none⟩) (fun _=>.inl rfl) _
theorem zbK {H:Hp} {b:Nat} {l:List UInt8} {L:Ows} (s:List UInt8) (h:zrs b l L) (hlen:l.length+s.length≤100000000000) :
  PW prog 143 #[.pointer (some ⟨b,0,none⟩),.string (sb s)] H L fun r ow _=>r=.tuple #[.int .i64 s.length,.nilIface]∧zrs b (l++s) ow:=by
 obtain⟨p,v,ow,rfl,hp,hown⟩:=h;refine⟨(cO func143),fun W hf hg hL hd=>?_⟩;have hsz:(sb s).size=s.length:=by simp[sb,ByteArray.size]
 refine(zjA (sb s) hp hown (by rw[hsz];exact hlen) hL).mono ?_;rw[hsz];rintro e W' ⟨rfl,v',hB',hrow',hk,hpl⟩;obtain⟨ow',how',hl1,hnew⟩:=zgU hrow'
 have vb:∀k,v.ownBlock=some k→∃xs,ow=[(k,5,xs)]:=fun k hk=>by
  rcases hown.2 with ⟨h2,_,_⟩ | ⟨g,cap,sp,h2,h3,_⟩
  ·rw[h2]at hk;cases hk
  ·rw[h2]at hk;cases hk;exact⟨_,h3⟩
 have vH:∀k,v.ownBlock=some k→H k=none∧k∈Ows.bs ((b,172,[p,v])::ow):=fun k hk=>by
  obtain⟨xs,h2⟩:=vb k hk;exact⟨(hL 1 k _ xs (by rw[h2];rfl)).2.1,Ows.bs_mem (j:=1) (T:=5) (cs:=xs) (by rw[h2];rfl)⟩
 obtain⟨hB,hHb,_⟩:=hL 0 b _ _ rfl;have hbt:Lib.strCells (sb s)=Lib.byteCells s:=by rw[Lib.strCells_eq]
 rw[hbt,←Lib.byteCells_append,show l.length+s.length=(l++s).length by simp]at how'
 have hob:∀k T cs,(k,T,cs)∈ow'→v'.ownBlock=some k:=fun k T cs hm=>by
  rcases how'.2 with ⟨_,_,h3⟩ | ⟨g,cap,sp,h2,h3,_⟩
  ·rw[h3]at hm;cases hm
  ·rw[h3]at hm;rw[h2];simp at hm;simp[Value.ownBlock,hm.1]
 have hneb:v'.ownBlock≠some b:=Lib.ownBlock_ne hrow' hB' (by decide);refine⟨_,(b,172,[.pointer (some ⟨b,0,none⟩),v'])::ow',H,rfl,⟨rfl,_,v',ow',rfl,.inr rfl,how'⟩,Hp.Le.refl _,fun k c hc=>?_,Nw.refl _ _ _,hk.mono (fun k _ e=>?_),fun j k T1 cs hj=>?_,?_⟩
 ·obtain⟨T3,fz,hW⟩:=hf k c hc;refine⟨T3,fz,?_⟩;rw[hk.block k (hf.lt (by rw[hc];simp)) (fun e=>?_)]
  ·exact hW
  ·rcases e with e | e
   ·subst e;rw[hHb]at hc;cases hc
   ·rw[(vH k e).1]at hc;cases hc
 ·rcases e with e | e
  ·subst e;exact Ows.bs_mem (j:=0) rfl
  ·exact(vH k e).2
 ·cases j with
  | zero =>
   cases (show some (b,172,[Value.pointer (some ⟨b,0,none⟩),v'])=some (k,T1,cs) from hj);exact⟨hB',.inr (Ows.bs_mem (j:=0) rfl),hHb⟩
  | succ j =>
   have hm:(k,T1,cs)∈ow':=qF (by simpa using hj);refine⟨(hnew _ _ _ hm).2,?_,?_⟩
   ·rcases hpl k (hob _ _ _ hm) with e | e
    ·exact .inr (vH k e).2
    ·exact .inl e
   ·rcases hpl k (hob _ _ _ hm) with e | e
    ·exact(vH k e).1
    ·cases hc:H k with
     | none=>rfl
     | some c=>have:=hf.lt (b:=k) (by rw[hc];simp);omega
 ·intro j j' k T1 T2 c1 c2 h1 h2;have nb:∀(j:Nat) (T:TypeId) (cs:List Value),ow'[j]?=some (b,T,cs)→False:=fun j T cs hj=>hneb (hob _ _ _ (qF hj))
  cases j with
  | zero =>
   simp only[List.getElem?_cons_zero,Option.some.injEq,Prod.mk.injEq]at h1
   cases j' with
   | zero=>rfl
   | succ j'=>rw[←h1.1]at h2;exact(nb j' _ _ (by simpa using h2)).elim
  | succ j =>
   cases j' with
   | zero =>
    simp only[List.getElem?_cons_zero,Option.some.injEq,Prod.mk.injEq]at h2;rw[←h2.1]at h1;exact(nb j _ _ (by simpa using h1)).elim
   | succ j' =>
    have e1:=(qE.1 (show ow'[j]?=some (k,T1,c1) by simpa using h1)).1;have e2:=(qE.1 (show ow'[j']?=some (k,T2,c2) by simpa using h2)).1;omega
theorem zaQ.freeze {X:Nat→Prop} {a w:World} (h:zaQ X a w) {p:Addr} (hp:p.block<a.heap.size→X p.block) (n:Nat):zaQ X a (w.freeze p n):=by
 unfold World.freeze;split
 ·exact h
 ·refine⟨h.os,h.tape,h.output,by simpa using h.size,fun k hk hx=>?_⟩;simp only[Array.getElem?_modify];rw[if_neg (fun e=>hx (by rw[←e];exact hp (by rw[e];exact hk)))];exact h.block k hk hx
theorem Tryz.cellsU8:Tryz.prog.cellsOf 5=1:=by kernel_rfl
set_option maxRecDepth 100000 in
theorem ziv {W:World} {b g cap:Nat} {p:Value} {l:List UInt8} {cur:Array Value} (h0:l≠[]) (hB:Box W b #[p,.slice (some ⟨g,0,none⟩) l.length cap] 172) (hg:Box W g cur 5) (hnc:l.length≤cap) (hcm:cap≤maxLen) (hcs:cur.size=cap) (htake:cur.toList.take l.length=Lib.byteCells l) :
  Calls prog 94 #[.pointer (some ⟨b,0,none⟩)] W fun e W'=>e=.returned (.string ⟨l.toArray⟩)∧W'=W.drew.freeze ⟨g,0,none⟩ l.length:=by
 have hl0:l.length≠0:=by simpa using h0
 have hg':W.drew.heap[g]?=some (.cells cur 5 (0,0)):=hg
 have c1:W.drew.cell? ⟨b,1,none⟩=some (.slice (some ⟨g,0,none⟩) l.length cap):=by
  have:W.drew.heap[b]?=some (.cells #[p,.slice (some ⟨g,0,none⟩) l.length cap] 172 (0,0)):=hB;rw[Lib.cell_of_heap this];rfl
 have hSD:(Builtin.unsafeSliceData_ #[170] 226 #[.slice (some ⟨g,0,none⟩) l.length cap]).run prog W.drew=.ok (.pointer (some ⟨g,0,none⟩)) W.drew :=
  Lib.run_unsafeSliceData_row _ _ _ _ _ _ oM
 have hUS:(Builtin.unsafeString_ #[226,3] 9 #[.pointer (some ⟨g,0,none⟩),.int .i64 l.length]).run prog W.drew=.ok (.string ⟨l.toArray⟩) (W.drew.freeze ⟨g,0,none⟩ l.length):=by
  refine Lib.run_unsafeString_row W.drew 226 3 9 5 Tryz.underlying226 Tryz.cellsU8 g cur.size (by simp[World.shape?,hg']) l h0 oM (by simp only[maxLen]at hcm;omega) ?_;intro j x hx;have hj:=(qE.1 hx).1
  have e1:cur.toList[j]?=some (.int .u8 x.toNat):=by
   have:(cur.toList.take l.length)[j]?=some (.int .u8 x.toNat):=by rw[htake];simp[Lib.byteCells,hx]
   rwa [List.getElem?_take_of_lt hj]at this
  rw[Addr.add_mid,Nat.zero_add,Lib.cell_of_heap hg'];simpa using e1
 have mixed:Tryz.prog.follows Departure.mixedOrders=true:=by kernel_rfl
 go_enter func94,ntmps94;go_wp2
 go_region_o
 all_goals (go_wp2;go_ret;exact⟨rfl,rfl⟩)
theorem zjz {H:Hp} {b:Nat} {l:List UInt8} {L:Ows} (h:zrs b l L) (h0:l≠[]):PW prog 94 #[.pointer (some ⟨b,0,none⟩)] H L fun r ow _=>r=.string (sb l)∧ow=[]:=by
 obtain⟨p,v,ow,rfl,hp,hown⟩:=h;have hl:0<l.length:=List.length_pos_iff.2 h0;refine⟨(cO func94),fun W hf hg hL hd=>?_⟩;obtain⟨g,cap,sp,rfl,rfl,hsp,hnc,hcm⟩:=hown.block hl;obtain⟨hB,hHb,_⟩:=hL 0 b _ _ rfl;obtain⟨hG,hHg,_⟩:=hL 1 g _ _ rfl;refine(ziv (cur:=(Lib.byteCells l++sp).toArray) h0 hB hG hnc hcm (by simpa using hsp) (by simp only[List.toList_toArray];rw[show l.length=(Lib.byteCells l).length by rw[Lib.byteCells_length]];exact List.take_left)).mono ?_;rintro e W' ⟨rfl,rfl⟩
 have hk:zaQ (fun k=>k∈Ows.bs [(b,172,[p,.slice (some ⟨g,0,none⟩) l.length cap]),(g,5,Lib.byteCells l++sp)]) W (W.drew.freeze ⟨g,0,none⟩ l.length) :=
  zaQ.freeze (p:=⟨g,0,none⟩) (zaQ.refl _ W).drew (fun _=>Ows.bs_mem (j:=1) rfl) _
 refine⟨_,[],H,rfl,⟨rfl,rfl⟩,Hp.Le.refl _,fun k c hc=>?_,Nw.refl _ _ _,hk,fun j k T1 cs hj=>(by simp at hj),fun j j' k T1 T2 c1 c2 h1 h2=>(by simp at h1)⟩;obtain⟨T3,fz,hW⟩:=hf k c hc;refine⟨T3,fz,?_⟩;rw[hk.block k (hf.lt (by rw[hc];simp)) (fun e=>?_)]
 ·exact hW
 ·simp[Ows.bs]at e;rcases e with e | e
  ·subst e;rw[hHb]at hc;cases hc
  ·subst e;rw[hHg]at hc;cases hc
theorem zrc (u:Nat) (h:u<100):PV prog 251 #[.int .i64 (u:Int)] (.string (ztV u)) :=
 ⟨(cO func251),fun W _=>(Tryz.internal_strconv_small u h W).mono fun e W' ⟨he,hw⟩=>⟨he,by rw[hw];exact Below.refl _ _⟩⟩
theorem zl4 (z:Int) (h0:0≤z) (h:z<100):PV prog 145 #[.int .i64 z] (.string (sb (Lib.decDigits z.toNat))):=by
 obtain⟨u,rfl⟩:=Int.eq_ofNat_of_zero_le h0;exact⟨(cO func145),fun W _=>(Tryz.strconv_Itoa_small u oM W).mono fun e W' ⟨he,hw⟩=>⟨he,by rw[hw];exact Below.refl _ _⟩⟩
theorem zkj (s:List UInt8) (c:Nat) (hc:c≤1000000) (hs:s.length≤1000000):PV prog 144 #[.string (sb s),.int .i64 (c:Int)] (.string (sb (Lib.repeatL s c))) :=
 ⟨(cO func144),fun W _=>Tryz.strings_Repeat (sb s) c W oM (by
  have e:(sb s).size=s.length:=by simp[sb,ByteArray.size]
  rw[e];have:=Nat.mul_le_mul hs hc;omega)⟩
theorem zsd (u:Nat) (hu:u<100):PV prog 234 #[.int .u64 (u:Int),.int .i64 10] (.string (ztV u)):=by
 have h0:=zrc u hu
 have h1:PV prog 255 #[.int .u64 (u:Int),.int .i64 10] (.string (ztV u)):=by
  refine PV.of_pc ?_;refine BD func255 ntmps255 ?_;refine uR ?_;rw[qD (show (u:Int)<100 by omega)];refine uR ?_;rw[show IntKind.i64.wrap (u:Int)=(u:Int) by rw[IntKind.wrap_i64];omega]
  repeat (first|refine RUN ?_|refine CV (h0) ?_|refine CE (h0) ?_)
  rfl
 refine PV.of_pc ?_;refine BD func234 ntmps234 ?_
 repeat (first|refine RUN ?_|refine CV (h1) ?_|refine CE (h1) ?_)
 rfl
theorem zlk (n:Nat) (hn:n<100):PV prog 194 #[zaF n] (.string (ztV n)):=by
 refine PV.of_pc ?_
 have hb:big n:=by
  show bl n≤_;have:=za3 (n:=n) (k:=64) oM;omega
 have hw:=fun H=>zda n hb H
 have hlen:(dig W64 n).length≤1:=by
  by_cases h0:n=0
  ·subst h0;rw[zaV];simp
  ·rw[zos h0 (by simp only[W64];omega)];simp
 have hlo:lo n=n:=zcx (by simp only[W64];omega);have hfmt:=zsd n hn;generalize dig W64 n=L at *
 refine BD func194 ntmps194 ?_;refine uR ?_;refine vA (hw _) ?_;rintro v G hv hG;obtain⟨a,c,rfl⟩:=SlC.val hv;rw[hlo];refine uR ?_;rw[qD (show (L.length:Int)≤1 by omega)]
 repeat (first|refine RUN ?_|refine CV (hfmt) ?_|refine CE (hfmt) ?_)
 rfl
theorem zjh (n:Nat) (hn:n<100):PV prog 193 #[zdT (n:Int)] (.string (sb (Lib.decDigits n))):=by
 have h:=zlk n hn;refine PV.of_pc ?_;refine BD func193 ntmps193 ?_;refine uR ?_;rw[qC (show ¬(n:Int)<0 by omega)]
 repeat (first|refine RUN ?_|refine CV (h) ?_|refine CE (h) ?_)
 rfl
theorem zjO (n:Nat) (hn:n<100):PV prog 146 #[zag (n:Rat)] (.string (sb (Lib.decDigits n))):=by
 have h:PV prog 193 #[zdT ((n:Rat)).num] (.string (sb (Lib.decDigits n))):=zjh n hn;have hd:((n:Rat)).den=1:=rfl;have hw:=zbm (n:Rat) (by rw[hd];show bl 1≤_;have:=za3 (n:=1) (k:=1) oM;omega);generalize (n:Rat)=q at *
 refine PV.of_pc ?_;refine BD func146 ntmps146 ?_
 repeat (first|refine RUN ?_|refine CV (hw) ?_|refine CE (hw) ?_)
 rw[qD hd]
 repeat (first|refine RUN ?_|refine CV (h) ?_|refine CE (h) ?_)
 rfl
abbrev zpx (d:Nat):List UInt8:=Lib.repeatL [32,32] d
inductive Txt (T:List Nd) (kd:Int) (f:Rat→List UInt8):Nat→Nat→List UInt8→Prop
 | cls {k d:Nat} {n:Nd}:T[k]?=some n→n.col = -1→kd=1→Txt T kd f k d (zpx d++(([99,108,97,115,115,32]++Lib.decDigits n.cls.toNat)++[10]))
 | val {k d:Nat} {n:Nd}:T[k]?=some n→n.col = -1→kd≠1→Txt T kd f k d (zpx d++(([118,97,108,117,101,32]++f n.value)++[10]))
 | node {k d:Nat} {n:Nd} {a b:List UInt8}:T[k]?=some n→n.col ≠ -1→Txt T kd f n.left.toNat (d+1) a→Txt T kd f n.right.toNat (d+1) b→Txt T kd f k d (zpx d++(((([120]++Lib.decDigits n.col.toNat)++[32,60,61,32])++f n.at')++[10])++a++b)
theorem zeg (s:List UInt8):∀c,(Lib.repeatL s c).length=c*s.length
 | 0=>by simp[Lib.repeatL]
 | c+1=>by rw[Lib.repeatL,List.length_append,zeg s c,Nat.succ_mul];omega
structure zt1 (H:Hp) (ns:List Nd) (kd w:Int) (f:Rat→List UInt8):Prop where
 wide:w≤100
 cls:∀n,n∈ns→0≤n.cls∧n.cls<100
 atT:∀n,n∈ns→n.col ≠ -1→(f n.at').length≤1000∧∀G,H.Le G→PC prog 146 #[zag n.at'] G fun r _=>r=.string (sb (f n.at'))
 valT:kd≠1→∀n,n∈ns→(f n.value).length≤1000∧∀G,H.Le G→PC prog 146 #[zag n.value] G fun r _=>r=.string (sb (f n.value))
theorem zlW {n:Nat} (h:n<100):(Lib.decDigits n).length≤20:=zqt oM
set_option maxRecDepth 100000 in
theorem zrp {H0:Hp} {ns:List Nd} {kd cl w:Int} {f:Rat→List UInt8} (hF:zt1 H0 ns kd w f):∀{k h e:Nat},Sub ns w k h e→∀(d:Nat),d+h≤1000 →
  ∃l,Txt ns kd f k d l∧0<l.length∧l.length≤(e-k)*5000∧∀{H:Hp} {cs:List Value} {b:Nat} {t:List UInt8} {L:Ows},H0.Le H→zer H cs kd cl w ns→zrs b t L→t.length+(e-k)*5000≤100000000 →
   PW prog 93 #[.pointer (some ⟨b,0,none⟩),.agg cs.toArray,.int .i64 (k:Int),.int .i64 (d:Int)] H L fun r ow _=>r=.tuple #[]∧zrs b (t++l) ow:=by
 intro k h e hs
 induction hs with
 | @leaf k h n q1 q2 q3 q4 q5 =>
  intro d hd;have hk:=(qE.1 q1).1;have hmem:=qF q1;obtain⟨hc0,hc1⟩:=hF.cls n hmem;have hrep:=zkj [32,32] d oM (by simp);have hlr:(zpx d).length=d*2:=zeg _ _;by_cases hkd:kd=1
  ·have hl:=zlW (n:=n.cls.toNat) oM;refine⟨_,.cls q1 q2 hkd,by simp;omega,by simp only[List.length_append,hlr,List.length_cons,List.length_nil];omega,fun {H cs b t L} hH ht hb hsz=>?_⟩;have hit:=zl4 n.cls hc0 hc1;obtain⟨a,cp,css,rfl,hns,hsl⟩:=ht;obtain⟨c,hcut,hnd⟩:=hns.get q1;obtain⟨a7,c7,rfl,_⟩:=hnd.cells;obtain⟨p,v,ow,rfl,hp,hown⟩:=id hb;refine PW.body tO func93 rfl kR ntmps93 rfl rfl ?_;refine uR ?_;refine EVL.idxM tO rfl rfl rfl rfl rfl rfl rfl rfl rfl (hsl) (k) (rfl) (hk) (hcut) ?_
   repeat (first|refine RUN ?_|refine CV (hrep) ?_|refine CE (hrep) ?_)
   refine EVL.callW rfl rfl rfl rfl rfl ((b,172,[p,v])::ow) [] (qG _).symm (zbK (zpx d) hb oM) ?_;rintro _ ow1 H1 ⟨rfl,hb1⟩ hH1;refine uR ?_;rw[show (n.col != -1)=false by rw[q2];rfl];refine uR ?_;rw[show (kd == 1)=true by rw[hkd];rfl]
   repeat (first|refine RUN ?_|refine CV (hit) ?_|refine CE (hit) ?_)
   refine EVL.cat [99,108,97,115,115,32] (Lib.decDigits n.cls.toNat) rfl rfl rfl rfl rfl rfl (by decide) oM ?_;refine EVL.cat ([99,108,97,115,115,32]++Lib.decDigits n.cls.toNat) [10] rfl rfl rfl rfl rfl rfl (by simp only[List.length_append,List.length_cons,List.length_nil];omega) (by decide) ?_;refine EVL.callW rfl rfl rfl rfl rfl ow1 [] rfl (zbK (([99,108,97,115,115,32]++Lib.decDigits n.cls.toNat)++[10]) hb1 (by simp only[List.length_append,hlr,List.length_cons,List.length_nil];omega)) ?_;rintro _ ow2 H2 ⟨rfl,hb2⟩ hH2;refine uR ?_;rw[List.append_assoc]at hb2;exact⟨rfl,by rw[qG];exact hb2⟩
  ·obtain⟨hl,hvt⟩:=hF.valT hkd n hmem;refine⟨_,.val q1 q2 hkd,by simp;omega,by simp only[List.length_append,hlr,List.length_cons,List.length_nil];omega,fun {H cs b t L} hH ht hb hsz=>?_⟩;obtain⟨a,cp,css,rfl,hns,hsl⟩:=ht;obtain⟨c,hcut,hnd⟩:=hns.get q1;obtain⟨a7,c7,rfl,_⟩:=hnd.cells;obtain⟨p,v,ow,rfl,hp,hown⟩:=id hb;refine PW.body tO func93 rfl kR ntmps93 rfl rfl ?_;refine uR ?_;refine EVL.idxM tO rfl rfl rfl rfl rfl rfl rfl rfl rfl (hsl) (k) (rfl) (hk) (hcut) ?_
   repeat (first|refine RUN ?_|refine CV (hrep) ?_|refine CE (hrep) ?_)
   refine EVL.callW rfl rfl rfl rfl rfl ((b,172,[p,v])::ow) [] (qG _).symm (zbK (zpx d) hb oM) ?_;rintro _ ow1 H1 ⟨rfl,hb1⟩ hH1;refine uR ?_;rw[show (n.col != -1)=false by rw[q2];rfl];refine uR ?_;rw[show (kd == 1)=false from beq_false_of_ne hkd];refine uR ?_;refine vA (hvt _ (hH.trans hH1)) ?_;rintro _ G rfl hG;refine EVL.cat [118,97,108,117,101,32] (f n.value) rfl rfl rfl rfl rfl rfl (by decide) oM ?_;refine EVL.cat ([118,97,108,117,101,32]++f n.value) [10] rfl rfl rfl rfl rfl rfl (by simp only[List.length_append,List.length_cons,List.length_nil];omega) (by decide) ?_;refine EVL.callW rfl rfl rfl rfl rfl ow1 [] rfl (zbK (([118,97,108,117,101,32]++f n.value)++[10]) hb1 (by simp only[List.length_append,hlr,List.length_cons,List.length_nil];omega)) ?_;rintro _ ow2 H2 ⟨rfl,hb2⟩ hH2;refine uR ?_;rw[List.append_assoc]at hb2;exact⟨rfl,by rw[qG];exact hb2⟩
 | @node k h m e n q1 q2 q3 q4 q5 s1 s2 ih1 ih2 =>
  intro d hd;have hk:=(qE.1 q1).1;have hmem:=qF q1;have hrep:=zkj [32,32] d oM (by simp);have hlr:(zpx d).length=d*2:=zeg _ _;have hw:=hF.wide;have hl0:=zlW (n:=n.col.toNat) oM;have hit:=zl4 n.col q2 oM;have hcm:n.col ≠ -1:=by omega
  obtain⟨hl,hvt⟩:=hF.atT n hmem hcm;obtain⟨la,hta,ha0,ha1,ha2⟩:=ih1 (d+1) oM;obtain⟨lb,htb,hb0,hb1',hb2'⟩:=ih2 (d+1) oM;have hm1:=s1.lt;have hm2:=s2.lt;refine⟨_,.node q1 hcm (by rw[q4,Int.toNat_natCast];exact hta) (by rw[q5,Int.toNat_natCast];exact htb),by simp;omega,by simp only[List.length_append,hlr,List.length_cons,List.length_nil];omega,fun {H cs b t L} hH ht hb hsz=>?_⟩;have ht0:=ht;obtain⟨a,cp,css,rfl,hns,hsl⟩:=ht;obtain⟨c,hcut,hnd⟩:=hns.get q1;obtain⟨a7,c7,rfl,_⟩:=hnd.cells;obtain⟨p,v,ow,rfl,hp,hown⟩:=id hb;refine PW.body tO func93 rfl kR ntmps93 rfl rfl ?_;refine uR ?_;refine EVL.idxM tO rfl rfl rfl rfl rfl rfl rfl rfl rfl (hsl) (k) (rfl) (hk) (hcut) ?_
  repeat (first|refine RUN ?_|refine CV (hrep) ?_|refine CE (hrep) ?_)
  refine EVL.callW rfl rfl rfl rfl rfl ((b,172,[p,v])::ow) [] (qG _).symm (zbK (zpx d) hb oM) ?_;rintro _ ow1 H1 ⟨rfl,hb1⟩ hH1;refine uR ?_;rw[show (n.col != -1)=true from bne_iff_ne.2 hcm];refine uR ?_;apply EV.drawn 11 kR kR;intro xv yw;(repeat (first|refine' DD ?_|(refine' DC (hit) (h:=?_);rotate_left)));refine' DJ.cat [120] (Lib.decDigits n.col.toNat) rfl rfl rfl rfl rfl rfl (by decide) oM ?_;rotate_left;refine' DJ.cat ([120]++Lib.decDigits n.col.toNat) [32,60,61,32] rfl rfl rfl rfl rfl rfl (by simp only[List.length_append,List.length_cons,List.length_nil];omega) (by decide) ?_;rotate_left;(repeat refine' DD ?_);refine' vC (cO func146) (fun G hG hd=>hvt G ((hH.trans hH1).trans hG)) ?_;rotate_left;refine' DJ.cat (([120]++Lib.decDigits n.col.toNat)++[32,60,61,32]) (f n.at') rfl rfl rfl rfl rfl rfl (by simp only[List.length_append,List.length_cons,List.length_nil];omega) oM ?_;rotate_left;refine' DJ.cat ((([120]++Lib.decDigits n.col.toNat)++[32,60,61,32])++f n.at') [10] rfl rfl rfl rfl rfl rfl (by simp only[List.length_append,List.length_cons,List.length_nil];omega) (by decide) ?_;rotate_left;(refine DJ.nil (fun G2 hG2 hF2=>?_);(case hS|hS2=>rfl));refine EVL.callW rfl rfl rfl rfl rfl ow1 [] rfl (zbK (((([120]++Lib.decDigits n.col.toNat)++[32,60,61,32])++f n.at')++[10]) hb1 (by simp only[List.length_append,hlr,List.length_cons,List.length_nil];omega)) ?_;rintro _ ow2 H2 ⟨rfl,hb2⟩ hH2;refine uR ?_;have ht2:=ht0.mono ((hH1.trans hG2).trans hH2);have hH3:=hH.trans ((hH1.trans hG2).trans hH2);have hX:(zpx d++(((([120]++Lib.decDigits n.col.toNat)++[32,60,61,32])++f n.at')++[10])).length≤5000:=by simp only[List.length_append,hlr,List.length_cons,List.length_nil];omega
  rw[List.append_assoc]at hb2;generalize zpx d++(((([120]++Lib.decDigits n.col.toNat)++[32,60,61,32])++f n.at')++[10])=X at *
  have pa:=ha2 hH3 ht2 hb2 (by rw[List.length_append];omega);rw[←q4]at pa;refine EVL.asI ((((d+1:Nat):Int))) ((by rw[IntKind.wrap_i64];omega)) ?_;refine EVL.callW rfl rfl rfl rfl rfl ow2 [] rfl pa ?_;rintro _ ow3 H3 ⟨rfl,hb3⟩ hH4;refine uR ?_;have pb:=hb2' (hH3.trans hH4) (ht2.mono hH4) hb3 (by simp only[List.length_append];omega);rw[←q5]at pb;refine EVL.asI ((((d+1:Nat):Int))) ((by rw[IntKind.wrap_i64];omega)) ?_;refine EVL.callW rfl rfl rfl rfl rfl ow3 [] rfl pb ?_;rintro _ ow4 H4 ⟨rfl,hb4⟩ hH5;refine uR ?_;exact⟨rfl,by rw[qG];simpa only[List.append_assoc] using hb4⟩
set_option maxRecDepth 100000 in
theorem zrj {H:Hp} {cs:List Value} {kd cl w:Int} {ns:List Nd} {f:Rat→List UInt8} (ht:zer H cs kd cl w ns) (hok:zet ⟨kd,cl,w,ns⟩) (hF:zt1 H ns kd w f) :
  PC prog 43 #[.agg cs.toArray] H fun r _=>∃l,r=.string (sb l)∧Txt ns kd f 0 0 l:=by
 have hck:=zfd ht hok;obtain⟨hkd,hw,hln,⟨hh,hh10,hsub⟩,hall⟩:=hok;dsimp only at hkd hw hln hsub hall;obtain⟨l,htx,hl0,hl1,hpw⟩:=zrp (cl:=cl) hF hsub 0 oM;have ht0:=ht;obtain⟨a,cp,css,rfl,hns,hsl⟩:=ht;refine BD func43 ntmps43 ?_
 repeat (first|refine RUN ?_|refine CV (hck) ?_|refine CE (hck) ?_)
 (first|refine EVL.unbox (3) rfl fun b=>?_|refine EV.unbox (3) rfl fun b=>?_);refine uR ?_;refine EVL.callW rfl rfl rfl rfl rfl [(b,172,[.pointer none,.slice none 0 0])] [] rfl (hpw (Hp.Le.refl _) ht0 (zrs.new b) (by simp only[List.length_nil];omega)) ?_;rintro _ ow1 H1 ⟨rfl,hb1⟩ hH1;refine uR ?_;refine EVL.callW rfl rfl rfl rfl rfl ow1 [] rfl (zjz hb1 (by rw[List.nil_append];exact List.length_pos_iff.1 hl0)) ?_;rintro _ ow2 H2 ⟨rfl,rfl⟩ hH2;refine uR ?_;exact⟨l,by rw[List.nil_append],htx⟩
def ztt:GD:=.c 2 [0,0,1]
def k18:GP:=⟨[[1],[2],[4]],ztt.cost,ztt.mean,ztt.cnt,1,0,fun s=>(zd5 1,s)⟩
theorem zqG:zdW [1,2,4]=[1,2,4]:=by
 unfold zdW;exact List.mergeSort_of_pairwise (by decide)
theorem ztv:plQ k18.X 0 [0,1,2]=[3 / 2,3]:=by
 unfold plQ;rw[if_pos kR,show List.map (zbB k18.X 0) [0,1,2]=[1,2,4] by kernel_rfl,zqG]
 kernel_rfl
theorem zqE:k18.best [0,1,2] (zd5 1)=some (0,3,4 / 3):=by
 unfold GP.best zaD;rw[show zd5 1=[0] by kernel_rfl,List.flatMap_cons,List.flatMap_nil,ztv]
 kernel_rfl
theorem zsl:k18.cut [0,1,2] (zd5 1)=some (0,3):=by
 unfold GP.cut;rw[zqE]
 kernel_rfl
set_option maxRecDepth 100000 in
theorem zqF (s:Int):(k18.grow 1 0 [0,1,2] s).1.map (fun n=>(n.col,n.left,n.right,n.cls,n.at'))=[(0,1,2,0,3),(-1,0,0,0,0),(-1,0,0,1,0)]:=by
 rw[GP.grow];rw[show (k18.cols s).1=zd5 1 from rfl,zsl]
 kernel_rfl
abbrev zs0:List UInt8:=[120,48,32,60,61,32,51,10,32,32,99,108,97,115,115,32,48,10,32,32,99,108,97,115,115,32,49,10]
abbrev f18:Rat→List UInt8:=fun q=>Lib.decDigits q.num.natAbs
def zs8 (ns:List Nd):Prop:=ns.map (fun n=>(n.col,n.left,n.right,n.cls,n.at'))=[(0,1,2,0,3),(-1,0,0,0,0),(-1,0,0,1,0)]
theorem zs8.parts {ns:List Nd} (h:zs8 ns):∃a b c:Nd,ns=[a,b,c]∧(a.col=0∧a.left=1∧a.right=2∧a.cls=0∧a.at'=3)∧(b.col = -1∧b.cls=0)∧(c.col = -1∧c.cls=1):=by
 unfold zs8 at h;have hl:ns.length=3:=by simpa using congrArg List.length h
 match ns,hl with
 | [a,b,c],_ =>
  simp only[List.map_cons,List.map_nil,List.cons.injEq,Prod.mk.injEq,and_true]at h;obtain⟨⟨h1,h2,h3,h4,h5⟩,⟨h6,_,_,h7,_⟩,⟨h8,_,_,h9,_⟩⟩:=h;exact⟨a,b,c,rfl,⟨h1,h2,h3,h4,h5⟩,⟨h6,h7⟩,⟨h8,h9⟩⟩
theorem zij {ns:List Nd} {f:Rat→List UInt8} {k d:Nat} {n:Nd} {l:List UInt8} (hn:ns[k]?=some n) (hc:n.col = -1) (h:Txt ns 1 f k d l):l=zpx d++(([99,108,97,115,115,32]++Lib.decDigits n.cls.toNat)++[10]):=by
 cases h with
 | cls h1 h2 h3=>cases hn.symm.trans h1;rfl
 | val h1 h2 h3=>exact absurd rfl h3
 | node h1 h2 h3 h4=>cases hn.symm.trans h1;exact absurd hc h2
theorem zrk {ns:List Nd} (h:zs8 ns) {l:List UInt8} (ht:Txt ns 1 f18 0 0 l):l=zs0:=by
 obtain⟨a,b,c,rfl,⟨h1,h2,h3,h4,h5⟩,⟨h6,h7⟩,⟨h8,h9⟩⟩:=h.parts
 cases ht with
 | cls k1 k2 k3=>cases k1;omega
 | val k1 k2 k3=>exact absurd rfl k3
 | node k1 k2 k3 k4 =>
  cases k1;rw[h2]at k3;rw[h3]at k4;rw[zij (n:=b) rfl h6 k3,zij (n:=c) rfl h8 k4,h1,h5,h7,h9];decide +kernel
theorem zjn.gpAny {p:GP} {kd cl:Int} {w:Nat} (h:zjn kd cl p.X.length p.cost p.mean p.cnt) (hX:p.X.length≤300) (hx:∀x,x∈p.X→x.length=w∧∀q,q∈x→ht q≤5) (hg:0≤p.gain) (hc:∀s c,c∈(p.cols s).1→0≤c∧c<(w:Int)):zp8 p kd cl w :=
 ⟨h.kind,hX,fun x k=>(hx x k).1,fun x k=>(hx x k).2,h.clen,h.cadd,h.cpos,h.csum,h.zero,h.cost0,h.csm,h.msm,hg,hc⟩
theorem zrz:ztt.Ok 3:=⟨by omega,rfl,by decide⟩
theorem ziL:∀x,x∈k18.X→x.length=1∧∀q,q∈x→ht q≤5:=by decide +kernel
theorem ztu:zp8 k18 1 2 1:=zjn.gpAny (p:=k18) zrz.plain (by decide) ziL (by decide +kernel) (fun s c hc=>by
 have:c∈([0]:List Int):=hc;rw[List.mem_singleton.1 this];omega)
theorem zqH (s:Int):zet ⟨1,2,1,(k18.grow 1 0 [0,1,2] s).1⟩:=zoE ztu ⟨by omega,by omega⟩ oM (by decide) (by decide) (by decide) s
theorem zsm (H:Hp) {ns:List Nd} (h:zs8 ns):zt1 H ns 1 1 f18:=by
 obtain⟨a,b,c,rfl,⟨h1,h2,h3,h4,h5⟩,⟨h6,h7⟩,⟨h8,h9⟩⟩:=h.parts;have hm:∀n,n∈[a,b,c]→n=a∨n=b∨n=c:=fun n hn=>by simpa using hn
 refine⟨by omega,fun n hn=>?_,fun n hn hc=>?_,fun h=>absurd rfl h⟩
 ·rcases hm n hn with rfl | rfl | rfl <;> omega
 ·rcases hm n hn with rfl | rfl | rfl
  ·rw[h5];exact⟨by decide +kernel,fun G _=>((zjO 3 oM).pc G).mono fun _ _ h _=>h.1⟩
  ·exact absurd h6 hc
  ·exact absurd h8 hc
def knX:List (List Rat):=[[1],[2],[4]]
theorem ztw {G:Hp} {a b c v:Value} {p q r:Rat} (h1:RL G a [p]) (h2:RL G b [q]) (h3:RL G c [r]) (hm:v∈[a,b,c]):(zac v).length=1:=by
 obtain⟨_,_,rfl⟩:=h1.val;obtain⟨_,_,rfl⟩:=h2.val;obtain⟨_,_,rfl⟩:=h3.val;rcases List.mem_cons.1 hm with rfl | hm
 ·rfl
 ·rcases List.mem_cons.1 hm with rfl | hm
  ·rfl
  ·rw[List.mem_singleton.1 hm];rfl
theorem ztx {G:Hp} {a b c v:Value} (h1:RL G a [((1:Int):Rat)]) (h2:RL G b [((2:Int):Rat)]) (h3:RL G c [((4:Int):Rat)]) (h:SlC G v 3 1 ([a,b,c].flatMap zac)):RLL G v knX:=by
 obtain⟨_,_,rfl⟩:=h1.val;obtain⟨_,_,rfl⟩:=h2.val;obtain⟨_,_,rfl⟩:=h3.val;exact⟨_,(((RRs.nil G).snoc h1).snoc h2).snoc h3,h⟩
theorem zt3:∀x,x∈knX→∀q,q∈x→ht q≤100:=by decide +kernel
theorem zqI:∀x,x∈knX→x.length≤1000000∧∀q,q∈x→rq q:=fun x hx=>⟨by revert x;decide +kernel,fun q hq=>qI (zt3 x hx q hq) oM⟩
abbrev ztI:Value:=.agg #[.int .i64 1,.int .i64 1,.bool false,.int .u64 0,.string .empty,.int .u64 0,.string .empty]
theorem zq7:ztI=.agg (zlw ((1:Nat):Int) 1 0).toArray:=by
 unfold zlw;rw[zaL];rfl
theorem zoC {G1:Hp} {b:Nat} (hv:IL G1 (.slice (some ⟨b,0,none⟩) 3 3) [0,0,1]) (G:Hp) (hG:G1.Le G) (v8 v9:Value) (h8:QLL G v8 k18.X) (h9:IL G v9 [0,1,2]) :
  PC prog 13 #[zai 1 2 (.slice (some ⟨b,0,none⟩) 3 3) (.slice none 0 0),v8,v9,ztI] G fun v H'=>∃cs ns,v=.tuple #[.agg cs.toArray,.int .i64 0]∧zer H' cs 1 2 1 ns∧zs8 ns∧zet ⟨1,2,1,ns⟩:=by
 have hP:ztt.P G (.slice (some ⟨b,0,none⟩) 3 3) (.slice none 0 0):=⟨_,3,none,0,rfl,rfl,hv.mono hG⟩;obtain⟨S,wo,hg⟩:=zrz.pgoal oM oM hP (p:=k18) rfl rfl rfl rfl;obtain⟨xa,xc,rfl⟩:=SlC.val h8.choose_spec.2;rw[zq7];exact(zhk (p:=k18) (least:=1) (w:=1) (s:=0) (D0:=1) (fun _=>rfl) oM oM (by decide) (by decide) (fun x hx=>(ziL x hx).1) (fun x hx=>(ziL x hx).2) rfl oM (show sm 0 by show ht 0≤100000000;rw[zcE];decide) (by decide +kernel) oM hg h8 h9 (by decide) (by decide) (by decide)).mono fun v H' ⟨cs,e,hp⟩ _=>⟨cs,_,e,hp,zqF 0,zqH 0⟩
set_option maxRecDepth 100000 in
theorem znh:PV prog 14 #[] (.bool true):=by
 refine PV.of_pc ?_;have hof:=fun (z:Int) (h1:-9223372036854775808≤z) (h2:z<9223372036854775808) (G:Hp)=>za5 (H:=G) z h1 h2;refine BD func14 ntmps14 ?_;refine uR ?_;refine EVL.lit tO rfl rfl rfl rfl rfl rfl rfl rfl rfl rfl rfl fun b=>?_;(first|refine EVL.publish [] [] rfl fun G1 hG1 hb=>?_|refine EV.publish [] [] rfl fun G1 hG1 hb=>?_);have hv:IL G1 (.slice (some ⟨b,0,none⟩) 3 3) [0,0,1]:=⟨rfl,.inr ⟨b,0,3,_,rfl,qH _,hb,fun j x hj=>by rw[Nat.zero_add];simpa using hj⟩⟩;refine uR ?_;apply EV.drawn 17 kR kR;intro xv yw;(repeat refine' DD ?_);refine' vB (cO func67) (fun G hG hd=>hof 1 (by decide) (by decide) G) (fun _ _ _ h k=>RQ.mono h k) ?_;rotate_left;(refine' DJ.litD1 (Φ:=fun w G=>RL G w [((1:Int):Rat)]) (fun _ _ _ h k=>h.mono k) tO rfl rfl rfl rfl rfl rfl rfl rfl rfl rfl rfl (fun G hd=>RQ.len3 (hd.head kR)) (fun G G' w hd hG h=>RL.one h ((hd.head kR).mono hG)) ?_;rotate_left);refine' vB (cO func67) (fun G hG hd=>hof 2 (by decide) (by decide) G) (fun _ _ _ h k=>RQ.mono h k) ?_;rotate_left;(refine' DJ.litD1 (Φ:=fun w G=>RL G w [((2:Int):Rat)]) (fun _ _ _ h k=>h.mono k) tO rfl rfl rfl rfl rfl rfl rfl rfl rfl rfl rfl (fun G hd=>RQ.len3 (hd.head kR)) (fun G G' w hd hG h=>RL.one h ((hd.head kR).mono hG)) ?_;rotate_left);refine' vB (cO func67) (fun G hG hd=>hof 4 (by decide) (by decide) G) (fun _ _ _ h k=>RQ.mono h k) ?_;rotate_left;(refine' DJ.litD1 (Φ:=fun w G=>RL G w [((4:Int):Rat)]) (fun _ _ _ h k=>h.mono k) tO rfl rfl rfl rfl rfl rfl rfl rfl rfl rfl rfl (fun G hd=>RQ.len3 (hd.head kR)) (fun G G' w hd hG h=>RL.one h ((hd.head kR).mono hG)) ?_;rotate_left);(refine' DJ.litD3 (Φ:=fun w G=>RLL G w knX) (fun _ _ _ h k=>h.mono k) tO rfl rfl rfl rfl rfl rfl rfl rfl rfl rfl rfl rfl rfl (fun G hd w hm=>ztw (hd.tail.tail.tail.tail.head kR) (hd.tail.tail.head kR) (hd.head kR) hm) (fun G G' w hd hG h=>ztx ((hd.tail.tail.tail.tail.head kR).mono hG) ((hd.tail.tail.head kR).mono hG) ((hd.head kR).mono hG) h) ?_;rotate_left);refine' vB (cO func12) (fun G hG hd=>zjT (X:=knX) (hd.head kR) (by decide) zqI) (fun _ _ _ h k=>QLL.mono h k) ?_;rotate_left;(refine' DJ.lit tO rfl rfl rfl rfl rfl rfl rfl rfl rfl rfl rfl rfl ?_;rotate_left);(repeat refine' DD ?_);refine' vB (cO func13) (fun G hG hd=>zoC hv G hG (xv 8) (xv 9) (hd.tail.head kR) (show IL G (xv 9) [0,1,2] from hd.head kR)) (fun _ _ _ h k=>(by obtain⟨cs,ns,e,hp,h1,h2⟩:=h;exact⟨cs,ns,e,hp.mono k,h1,h2⟩)) ?_;rotate_left;refine' DJ.copy (11) (by first|exact .inl rfl|exact .inr rfl) rfl rfl rfl id rfl kR ?_;rotate_left;refine' DJ.extract (11) rfl rfl rfl rfl rfl kR (fun G hd=>(by obtain⟨cs,ns,e,_⟩:=hd.head kR;exact⟨_,e,Nat.zero_lt_succ _⟩)) ?_;rotate_left;refine' DJ.extract (11) rfl rfl rfl rfl rfl kR (fun G hd=>(by obtain⟨cs,ns,e,_⟩:=hd.head kR;exact⟨_,e,Nat.lt_succ_self _⟩)) ?_;rotate_left;(repeat refine' DD ?_);refine' DJ.storeD tO rfl rfl rfl rfl (11) (zcr 0) rfl rfl (15) rfl rfl kR kR rfl (fun G hd=>(by obtain⟨cs,ns,e,hp,_⟩:=hd.head kR;obtain⟨_,_,_,rfl,_⟩:=hp;rw[e];exact⟨rfl,rfl⟩)) ?_;rotate_left;(refine DJ.nil (fun G2 hG2 hF2=>?_);(case hS|hS2=>rfl));obtain⟨⟨cs,ns,e4,hp4,hi4,ho4⟩,_⟩:=hF2;have htx:=zrj hp4 ho4 (zsm G2 hi4);obtain⟨a4,c4,css,rfl,_,_⟩:=id hp4;rw[e4];rw[show zcr 1 (Value.tuple #[.agg (([.int .i64 1,.int .i64 2,.int .i64 1,.slice a4 ns.length c4]:List Value)).toArray,.int .i64 0])=.int .i64 0 from rfl,show zac (zcr 0 (Value.tuple #[.agg (([.int .i64 1,.int .i64 2,.int .i64 1,.slice a4 ns.length c4]:List Value)).toArray,.int .i64 0]))=[.int .i64 1,.int .i64 2,.int .i64 1,.slice a4 ns.length c4] from rfl];refine uR ?_;refine vA (htx) ?_;rintro _ G3 ⟨l,rfl,hl⟩ hG3;obtain rfl:=zrk hi4 hl;have hck3:=zfd (hp4.mono hG3) ho4;refine uR ?_;rw[show ((sb zs0).toList == (⟨#[120,48,32,60,61,32,51,10,32,32,99,108,97,115,115,32,48,10,32,32,99,108,97,115,115,32,49,10]⟩:ByteArray).toList)=true from beq_self_eq_true (sb zs0).toList]
 repeat (first|refine RUN ?_|refine CV (hck3) ?_|refine CE (hck3) ?_)
 rfl
theorem zng {H:Hp} {deep least:Int} {b1:Bool} {a1 a2:Option Addr} {l1 c1 l2 c2:Nat} {g:Rat} (hq:RQ H (.agg #[.bool b1,.slice a1 l1 c1,.slice a2 l2 c2]) g) (hg:rq g) :
  PC prog 11 #[zdV deep least (.bool b1) (.slice a1 l1 c1) (.slice a2 l2 c2)] H fun r _=>r=.agg (zlw deep least g).toArray:=by
 refine BD func11 ntmps11 ?_;refine uR ?_;apply EV.drawn 8 kR kR;intro xv yw;(repeat refine' DD ?_);refine' vC (cO func63) (fun G hG hd=>zsh (RQ.mono hq hG) hg) ?_;rotate_left;(repeat refine' DD ?_);(refine DJ.nil (fun G hG hF=>?_);(case hS|hS2=>rfl));refine uR ?_;rfl
theorem GD.Ok.rgoal {H:Hp} {n:Nat} {d:GD} (hd:d.Ok n) (h0:1≤n) (h1:n≤300) {v:Value} (hR:d.R H v):(∃ga gn gc va vn vc,v=zai d.kd d.cl (.slice ga gn gc) (.slice va vn vc))∧zjo H v d.kd n d.cost d.mean d.cnt:=by
 have hsm:=hd.sm
 cases d with
 | v qs =>
  obtain⟨rfl,hq⟩:=hd;obtain⟨s,rfl,hs⟩:=hR;obtain⟨sa,sc,rfl⟩:=hs.val;have q50:∀q,q∈qs→ht q≤50:=fun q hq'=>qI (hq q hq') oM;refine⟨⟨_,_,_,_,_,_,rfl⟩,⟨?_,?_,?_,?_,?_,?_,?_,?_,?_,?_⟩⟩
  ·exact fun e=>absurd e (by decide:¬(2:Int)=1)
  ·exact fun _ l=>rfl
  ·exact fun e=>absurd e (by decide:¬(2:Int)=1)
  ·exact fun l=>Nat.zero_le _
  ·exact fun G hG u l hl hn=>zg2 hl hn (hs.mono hG) q50
  ·exact fun l hn hr=>by have:=(hsm l hn hr).1;omega
  ·exact fun G hG u l hl hn=>zls hl hn (hs.mono hG) hq
  ·exact fun l hn hr=>(hsm l hn hr).2
  ·exact fun G hG=>zh8 h0 h1
  ·exact zmn
 | c C ls =>
  obtain⟨hc,rfl,hlb⟩:=hd;obtain⟨s,rfl,hs⟩:=hR;obtain⟨sa,sc,rfl⟩:=SlC.val hs;refine⟨⟨_,_,_,_,_,_,rfl⟩,⟨?_,?_,?_,?_,?_,?_,?_,?_,?_,?_⟩⟩
  ·exact fun _ G hG u l hl hn=>zfF hl hn (SlC.mono hs hG) oM hlb
  ·exact fun e=>absurd rfl e
  ·exact fun _ l=>rfl
  ·exact fun l=>by show (zdg C (atI ls l)).length≤12;rw[zbk];omega
  ·intro G hG u l hl hn;have:=zg2 (kd:=1) (cl:=(C:Int)) (sl:=.slice sa ls.length sc) hl hn (RL.nil G none 0) (by intro q hq;cases hq);rw[show atR [] (exL l ([]:List Rat).length)=[] by rw[show exL l ([]:List Rat).length=[] from List.filter_eq_nil_iff.2 fun r _=>by unfold inR;simp];rfl,zeG]at this;exact this
  ·exact fun l hn hr=>by have:=(hsm l hn hr).1;omega
  ·exact fun G hG u l hl hn=>zlr hl hn (SlC.mono hs hG) oM oM hlb
  ·exact fun l hn hr=>(hsm l hn hr).2
  ·exact fun G hG=>zh7 (SlC.mono hs hG) ⟨by show (1:Int)≤(C:Int);omega,by show (C:Int)≤12;omega⟩ h0 h1 hlb
  ·exact zmm (sv:=.bool true)
theorem zbS.oneB {H:Hp} {cs:List Value} {n:Nd} (h:zbS H cs n):Go.Proofs.YtifcjfodgicngaaGreatDoor.oneB cs=true:=by
 obtain⟨b1,a1,l1,c1,a2,l2,c2,b3,a3,l3,c3,a4,l4,c4,b5,a5,l5,c5,a6,l6,c6,a7,c7,rfl,_⟩:=h.cells;rfl
set_option maxRecDepth 100000 in
theorem zhX {H:Hp} {cs:List Value} {kd cl w:Int} {ns:List Nd} (h:zer H cs kd cl w ns) (hs:∀n,n∈ns→zft n) (hl:ns.length≤1000000) :
  PC prog 30 #[.agg cs.toArray] H fun r H'=>∃cs',r=.agg cs'.toArray∧zgi H' cs' kd cl w ns:=by
 obtain⟨a,c,css,rfl,hns,hsl⟩:=h;refine BD func30 ntmps30 ?_;refine uR ?_;refine EV.loopK (ι:=Nat × Value × List (List Value) × Ows) [1,2,3] [1,2] (fun q=>[(4,.v (.int .i64 (q.1:Int)))]) (fun q=>[(3,82,[.int .i64 kd,.int .i64 cl,.int .i64 w,q.2.1])]) (fun q=>q.2.2.2) (fun q G=>q.1≤ns.length∧zb6 G q.2.2.1 (ns.take q.1)∧zaJ 99 15 q.2.1 q.1 q.2.2.1.flatten q.2.2.2) (fun q=>ns.length-q.1) ((0,.slice none 0 0,[],[])) rfl rfl ⟨rfl,trivial⟩ ⟨rfl,trivial⟩ rfl (fun _=>rfl) (⟨Nat.zero_le _,⟨rfl,fun j c n e1 e2=>by cases e1⟩,zaJ.nil _ _⟩) ?_;rintro⟨i,u,ps,ow⟩ G1 hG1 ⟨hi,hps,hown⟩;dsimp only at hi hps hown;obtain⟨wa,wc,rfl⟩:=hown.val;refine uR ?_;refine EV.cond rfl (fun hlt=>?_) (fun hlt=>?_)
 ·simp only[nN]at hlt;obtain⟨n,hni⟩:=gE hlt;obtain⟨q1,q2,q3,q4⟩:=hs n (qF hni);obtain⟨cc,hcut,hnd⟩:=(hns.mono hG1).get hni;obtain⟨a7,c7,k4,rfl⟩:=hnd;refine uR ?_;refine EVL.idxM tO rfl rfl rfl rfl rfl rfl rfl rfl rfl ((hsl.mono hG1)) (i) (rfl) (hlt) (hcut) ?_;refine uR ?_;by_cases e:n.counts.length=0
  ·have hc0:n.counts=[]:=List.length_eq_zero_iff.1 e;rw[e];apply EV.drawn 27 kR kR;intro xv yw;(repeat refine' DD ?_);refine' vB (cO func88) (fun G hG hd=>zhY n.at' q1) (fun _ _ _ h k=>RQ.mono h k) ?_;rotate_left;(repeat refine' DD ?_);refine' vB (cO func88) (fun G hG hd=>zhY n.cost q2) (fun _ _ _ h k=>RQ.mono h k) ?_;rotate_left;(repeat refine' DD ?_);refine' vB (cO func88) (fun G hG hd=>zhY n.value q3) (fun _ _ _ h k=>RQ.mono h k) ?_;rotate_left;(repeat refine' DD ?_);(refine' DJ.lit0 tO rfl rfl rfl rfl rfl rfl rfl ?_;rotate_left);(repeat refine' DD ?_);refine' DJ.append0E (u0:=xv 21) tO rfl rfl rfl rfl rfl rfl rfl rfl rfl (a7) (c7) rfl (fun G hd=>hd.head kR) ?_;rotate_left
   (refine' DJ.plainE tO (fun v G=>∃cs,v=.agg cs.toArray∧zbS G cs n) (fun v G G' ⟨cs,e,h⟩ k=>⟨cs,e,h.mono k⟩) rfl rfl rfl (fun G hd=>(by
    have r1:RQ G (xv 14) n.at':=hd.tail.tail.tail.tail.head kR;have r2:RQ G (xv 17) n.cost:=hd.tail.tail.tail.head kR;have r3:RQ G (xv 20) n.value:=hd.tail.tail.head kR;obtain⟨u1,u2,u3,u4,u5,u6,e1,_⟩:=id r1;obtain⟨w1,w2,w3,w4,w5,w6,e2,_⟩:=id r2;obtain⟨z1,z2,z3,z4,z5,z6,e3,_⟩:=id r3;obtain⟨g8,e8⟩:∃g,xv 24=.slice (some ⟨g,0,none⟩) 0 0:=hd.head kR;have hA:IL G (.slice (some ⟨g8,0,none⟩) 0 0) n.counts:=by rw[hc0];exact IL.nil _ _ _
    rw[e1]at r1;rw[e2]at r2;rw[e3]at r3;rw[e1,e2,e3,e8];exact⟨_,rfl,_,rfl,_,_,_,_,r1,r2,r3,hA,rfl⟩)) ?_;rotate_left)
   (refine' DJ.litD1 (Φ:=fun v G=>∃cs,SlC G v 1 15 cs∧zbS G cs n) (fun v G G' ⟨cs,e,h⟩ k=>⟨cs,e.mono k,h.mono k⟩) tO rfl rfl rfl rfl rfl rfl rfl rfl rfl rfl rfl (fun G hd=>by obtain⟨cs,e,h⟩:=hd.head kR;rw[e];exact h.len) (fun G G' v hd hG h=>(by
    obtain⟨cs,e,hp⟩:=hd.head kR;rw[e,ztq]at h;exact⟨cs,h,hp.mono hG⟩)) ?_;rotate_left)
   (refine DJ.nil (fun G2 hG2 hF2=>?_);(case hS|hS2=>rfl));obtain⟨cs2,hs2,hp2⟩:=hF2.1;refine EVL.append tO rfl rfl rfl rfl rfl rfl rfl rfl rfl rfl rfl rfl [] ow [] (qG _).symm hown (zcQ.ro hs2 (Nat.succ_pos 0)) (zbS.oneB hp2) oM ?_;intro v1 ow1 hown1;obtain⟨va,vc,rfl⟩:=hown1.val;refine uR ?_;refine⟨(i+1,.slice va (i+1) vc,ps++[cs2],ow1),⟨by dsimp only;rw[zab i (by omega)];rfl,trivial⟩,sB,⟨rfl,trivial⟩,sB,qG _,⟨hlt,by dsimp only;rw[zap hni];exact zi0 (hps.mono hG2) hp2,by dsimp only;rw[List.flatten_append,ztr];exact hown1⟩,hG2,by dsimp only;omega⟩
  ·have hls:SlC G1 (.slice a7 n.counts.length c7) n.counts.length 1 (n.counts.map iv):=k4;apply EV.drawn 27 kR kR;intro xv yw;(repeat refine' DD ?_);refine' vB (cO func88) (fun G hG hd=>zhY n.at' q1) (fun _ _ _ h k=>RQ.mono h k) ?_;rotate_left;(repeat refine' DD ?_);refine' vB (cO func88) (fun G hG hd=>zhY n.cost q2) (fun _ _ _ h k=>RQ.mono h k) ?_;rotate_left;(repeat refine' DD ?_);refine' vB (cO func88) (fun G hG hd=>zhY n.value q3) (fun _ _ _ h k=>RQ.mono h k) ?_;rotate_left;(repeat refine' DD ?_);(refine' DJ.lit0 tO rfl rfl rfl rfl rfl rfl rfl ?_;rotate_left);(repeat refine' DD ?_);refine' DJ.appendE (u0:=xv 21) tO rfl rfl rfl rfl rfl rfl rfl rfl rfl rfl (fun G hd=>hd.head kR) (hls) (Nat.pos_of_ne_zero e) oM ?_;rotate_left
   (refine' DJ.plainE tO (fun v G=>∃cs,v=.agg cs.toArray∧zbS G cs n) (fun v G G' ⟨cs,e,h⟩ k=>⟨cs,e,h.mono k⟩) rfl rfl rfl (fun G hd=>(by
    have r1:RQ G (xv 14) n.at':=hd.tail.tail.tail.tail.head kR;have r2:RQ G (xv 17) n.cost:=hd.tail.tail.tail.head kR;have r3:RQ G (xv 20) n.value:=hd.tail.tail.head kR;obtain⟨u1,u2,u3,u4,u5,u6,e1,_⟩:=id r1;obtain⟨w1,w2,w3,w4,w5,w6,e2,_⟩:=id r2;obtain⟨z1,z2,z3,z4,z5,z6,e3,_⟩:=id r3;have hA:SlC G (xv 24) n.counts.length 1 (n.counts.map iv):=hd.head kR;obtain⟨a8,c8,e8⟩:=SlC.val hA;rw[e8]at hA;rw[e1]at r1;rw[e2]at r2;rw[e3]at r3;rw[e1,e2,e3,e8];exact⟨_,rfl,_,rfl,_,_,_,_,r1,r2,r3,hA,rfl⟩)) ?_;rotate_left)
   (refine' DJ.litD1 (Φ:=fun v G=>∃cs,SlC G v 1 15 cs∧zbS G cs n) (fun v G G' ⟨cs,e,h⟩ k=>⟨cs,e.mono k,h.mono k⟩) tO rfl rfl rfl rfl rfl rfl rfl rfl rfl rfl rfl (fun G hd=>by obtain⟨cs,e,h⟩:=hd.head kR;rw[e];exact h.len) (fun G G' v hd hG h=>(by
    obtain⟨cs,e,hp⟩:=hd.head kR;rw[e,ztq]at h;exact⟨cs,h,hp.mono hG⟩)) ?_;rotate_left)
   (refine DJ.nil (fun G2 hG2 hF2=>?_);(case hS|hS2=>rfl));obtain⟨cs2,hs2,hp2⟩:=hF2.1;refine EVL.append tO rfl rfl rfl rfl rfl rfl rfl rfl rfl rfl rfl rfl [] ow [] (qG _).symm hown (zcQ.ro hs2 (Nat.succ_pos 0)) (zbS.oneB hp2) oM ?_;intro v1 ow1 hown1;obtain⟨va,vc,rfl⟩:=hown1.val;refine uR ?_;refine⟨(i+1,.slice va (i+1) vc,ps++[cs2],ow1),⟨by dsimp only;rw[zab i (by omega)];rfl,trivial⟩,sB,⟨rfl,trivial⟩,sB,qG _,⟨hlt,by dsimp only;rw[zap hni];exact zi0 (hps.mono hG2) hp2,by dsimp only;rw[List.flatten_append,ztr];exact hown1⟩,hG2,by dsimp only;omega⟩
 ·simp only[nN]at hlt;obtain rfl:i=ns.length:=by omega
  rw[List.take_length]at hps;(first|refine EVL.publishL [] ow [] ((qG _).symm) hown fun G2 hG2 hs2=>?_|refine EV.publishL [] ow [] ((qG _).symm) hown fun G2 hG2 hs2=>?_);refine uR ?_;exact⟨_,rfl,_,_,_,rfl,hps.mono hG2,hs2⟩
theorem zps {H:Hp} {u v:Value} {l:List Int} (hu:IL H u l) (hv:IL H v l) (hl:l.length≤1000000):PC prog 137 #[u,v] H fun r _=>r=.bool true:=by
 obtain⟨a,c,rfl⟩:=SlC.val hu;obtain⟨a2,c2,rfl⟩:=SlC.val hv;refine BD func137 ntmps137 ?_;refine uR ?_;rw[bne_self_eq_false];refine uR ?_;refine EV.loopK (ι:=Nat) [0,1] [] (fun i=>[(5,.v (.int .i64 (i:Int)))]) (fun _=>[]) (fun _=>[]) (fun i _=>i≤l.length) (fun i=>l.length-i) (0) rfl rfl ⟨rfl,trivial⟩ trivial rfl (fun _=>rfl) (Nat.zero_le _) ?_;rintro i G1 hG1 hi;refine uR ?_;refine EV.cond rfl (fun hlt=>?_) (fun hlt=>?_)
 ·simp only[nN]at hlt;obtain⟨z,hz⟩:=gE hlt;refine uR ?_;apply EV.drawn 9 kR kR;intro xv yw;(repeat refine' DD ?_);refine' vJ ((hu.mono hG1)) (i) (rfl) (hlt) ((by rw[List.getElem?_map,hz];rfl)) ?_;rotate_left;(repeat refine' DD ?_);refine' vJ ((hv.mono hG1)) (i) (rfl) (hlt) ((by rw[List.getElem?_map,hz];rfl)) ?_;rotate_left;(repeat refine' DD ?_);rw[bne_self_eq_false];(repeat refine' DD ?_);(refine DJ.nil (fun G hG hF=>?_);(case hS|hS2=>rfl));refine uR ?_;refine⟨i+1,⟨by rw[zab i (by omega)];rfl,trivial⟩,sB,trivial,trivial,rfl,hlt,hG,by omega⟩
 ·simp only[nN]at hlt;refine uR ?_;rfl
theorem zpt {H:Hp} {cs ds:List Value} {n:Nd} (hu:zbS H cs n) (hv:zbS H ds n) (h:zft n):PC prog 87 #[.agg cs.toArray,.agg ds.toArray] H fun r _=>r=.bool true:=by
 obtain⟨h1,h2,h3,h4⟩:=h;obtain⟨b1,a1,l1,c1,a2,l2,c2,b3,a3,l3,c3,a4,l4,c4,b5,a5,l5,c5,a6,l6,c6,a7,c7,rfl,k1,k2,k3,k4⟩:=hu.cells;obtain⟨d1,e1,f1,g1,e2,f2,g2,d3,e3,f3,g3,e4,f4,g4,d5,e5,f5,g5,e6,f6,g6,e7,g7,rfl,m1,m2,m3,m4⟩:=hv.cells;have c1:=zbw k1 m1 h1 h1;have c2:=zbw k2 m2 h2 h2;have c3:=zbw k3 m3 h3 h3;rw[zo2]at c1 c2 c3;have c4:=zps k4 m4 h4;obtain⟨nc,nl,nr,nrs,ncl,nat',nco,nva,ncs⟩:=n;dsimp only at *
 refine BD func87 ntmps87 ?_;refine uR ?_;rw[beq_self_eq_true nc];refine uR ?_;rw[beq_self_eq_true nl];refine uR ?_;rw[beq_self_eq_true nr];refine uR ?_;rw[beq_self_eq_true nrs];refine uR ?_;rw[beq_self_eq_true ncl]
 repeat (first|refine RUN ?_|refine CV (c1) ?_|refine CV (c2) ?_|refine CV (c3) ?_|refine CV (c4) ?_|refine CE (c1) ?_|refine CE (c2) ?_|refine CE (c3) ?_|refine CE (c4) ?_)
 rfl
set_option maxRecDepth 100000 in
theorem zhc {H:Hp} {cs ds:List Value} {kd cl w:Int} {ns:List Nd} (hu:zgi H cs kd cl w ns) (hv:zgi H ds kd cl w ns) (hl:ns.length≤1000000) (h:∀n,n∈ns→zft n):PC prog 29 #[.agg cs.toArray,.agg ds.toArray] H fun r _=>r=.bool true:=by
 obtain⟨a,c,css,rfl,hn1,hs1⟩:=hu;obtain⟨a2,c2,css2,rfl,hn2,hs2⟩:=hv;refine BD func29 ntmps29 ?_;refine uR ?_;rw[bne_self_eq_false];refine uR ?_;rw[bne_self_eq_false];refine uR ?_;rw[bne_self_eq_false];refine uR ?_;rw[bne_self_eq_false];refine uR ?_;refine EV.loopK (ι:=Nat) [2,3] [2,3] (fun i=>[(5,.v (.int .i64 (i:Int)))]) (fun _=>[]) (fun _=>[]) (fun i _=>i≤ns.length) (fun i=>ns.length-i) (0) rfl rfl ⟨rfl,trivial⟩ trivial rfl (fun _=>rfl) (Nat.zero_le _) ?_;rintro i G1 hG1 hi;refine uR ?_;refine EV.cond rfl (fun hlt=>?_) (fun hlt=>?_)
 ·simp only[nN]at hlt;obtain⟨n,hni⟩:=gE hlt;obtain⟨cc1,hc1,hd1⟩:=(hn1.mono hG1).get hni;obtain⟨cc2,hc2,hd2⟩:=(hn2.mono hG1).get hni;have hsame:=fun (G:Hp) (hG:G1.Le G)=>zpt (hd1.mono hG) (hd2.mono hG) (h n (qF hni));obtain⟨b1,a1,l1,c1,p2,l2,q2,b3,a3,l3,c3,a4,l4,c4,b5,a5,l5,c5,a6,l6,c6,a7,c7,rfl,_⟩:=hd1.cells;obtain⟨d1,e1,f1,g1,e2,f2,g2,d3,e3,f3,g3,e4,f4,g4,d5,e5,f5,g5,e6,f6,g6,e7,g7,rfl,_⟩:=hd2.cells;refine uR ?_;apply EV.drawn 12 kR kR;intro xv yw;(repeat refine' DD ?_);refine' DJ.idxM tO rfl rfl rfl rfl rfl rfl rfl rfl rfl ((hs1.mono hG1)) (i) (rfl) (hlt) (hc1) ?_;rotate_left;(repeat refine' DD ?_);refine' DJ.idxM tO rfl rfl rfl rfl rfl rfl rfl rfl rfl ((hs2.mono hG1)) (i) (rfl) (hlt) (hc2) ?_;rotate_left;(repeat refine' DD ?_);refine' vC (cO func87) (fun G hG hd=>hsame G hG) ?_;rotate_left;(repeat refine' DD ?_);(refine DJ.nil (fun G hG hF=>?_);(case hS|hS2=>rfl));refine uR ?_;refine⟨i+1,⟨by rw[zab i (by omega)];rfl,trivial⟩,sB,trivial,sB,rfl,hlt,hG,by omega⟩
 ·simp only[nN]at hlt;refine uR ?_;rfl
def GD.fits (d:GD) (cl:Int):Prop:=match d with
 | .v _=>cl=0
 | .c _ ls=>1≤cl∧cl≤12∧∀z,z∈ls→z<cl
def GD.with (d:GD) (cl:Int):GD:=match d with
 | .v qs=>.v qs
 | .c _ ls=>.c cl.toNat ls
theorem GD.Ok.with {n:Nat} {d:GD} (hd:d.Ok n) {cl:Int} (h:d.fits cl):(d.with cl).Ok n∧(d.with cl).cl=cl∧(d.with cl).kd=d.kd:=by
 cases d with
 | v qs=>exact⟨hd,(show cl=0 from h).symm,rfl⟩
 | c C ls =>
  obtain⟨h1,h2,h3⟩:=h;obtain⟨_,hl,hb⟩:=hd;refine⟨⟨by omega,hl,fun z hz=>⟨(hb z hz).1,by rw[Int.toNat_of_nonneg (by omega)];exact h3 z hz⟩⟩,Int.toNat_of_nonneg oM,rfl⟩
def GD.Rc (H:Hp) (v:Value) (cl:Int):GD→Prop
 | .v qs=>∃s,v=zai 2 cl (.slice none 0 0) s∧RL H s qs
 | .c _ ls=>∃s,v=zai 1 cl s (.slice none 0 0)∧IL H s ls
theorem GD.Rc.mono {H G:Hp} {v:Value} {cl:Int} {d:GD} (h:d.Rc H v cl) (k:H.Le G):d.Rc G v cl:=by
 cases d with
 | v qs=>obtain⟨s,e,h⟩:=h;exact⟨s,e,RL.mono h k⟩
 | c C ls=>obtain⟨s,e,h⟩:=h;exact⟨s,e,SlC.mono h k⟩
theorem GD.Rc.at {H:Hp} {v:Value} {cl:Int} {d:GD} (h:d.Rc H v cl) (hf:d.fits cl):(d.with cl).R H v:=by
 cases d with
 | v qs=>obtain⟨s,e,h⟩:=h;have:cl=0:=hf;subst this;exact⟨s,e,h⟩
 | c C ls=>obtain⟨s,e,h⟩:=h;exact⟨s,by rw[Int.toNat_of_nonneg (by have:=hf.1;omega)];exact e,h⟩
theorem zoi {va:Option Addr} {vn vc:Nat} {la:Option Addr} {lc:Nat} {cl:Int} (h0:1≤vn) (h1:vn≤300) (hc:cl≠0):PV prog 75 #[zai 2 cl (.slice la 0 lc) (.slice va vn vc)] (.int .i64 1):=by
 have hlen:=ziM (cl:=cl) (va:=va) (vn:=vn) (vc:=vc) (la:=la) (ln:=0) (lc:=lc);refine PV.of_pc ?_;refine BD func75 ntmps75 ?_
 repeat (first|refine RUN ?_|refine CV (hlen) ?_|refine CE (hlen) ?_)
 rw[qC (show ¬(vn:Int)<1 by omega)];refine uR ?_;rw[qC (show ¬(vn:Int)>300 by omega)];refine uR ?_;rw[show (cl != 0)=true from bne_iff_ne.2 hc];refine uR ?_;rfl
theorem zoh {H:Hp} {va:Option Addr} {vc:Nat} {la:Option Addr} {lc:Nat} {ls:List Int} (hv:IL H (.slice la ls.length lc) ls) {cl:Int} (h0:1≤ls.length) (h1:ls.length≤300) (hc:cl≤12) (hls:∀z,z∈ls→0≤z) (hno:¬(1≤cl∧∀z,z∈ls→z<cl)):PC prog 75 #[zai 1 cl (.slice la ls.length lc) (.slice va 0 vc)] H fun r _=>r=.int .i64 1:=by
 have hlen:=zgI (cl:=cl) (va:=va) (vn:=0) (vc:=vc) (la:=la) (ln:=ls.length) (lc:=lc);refine BD func75 ntmps75 ?_
 repeat (first|refine RUN ?_|refine CV (hlen) ?_|refine CE (hlen) ?_)
 rw[qC (show ¬(ls.length:Int)<1 by omega)];refine uR ?_;rw[qC (show ¬(ls.length:Int)>300 by omega)];refine uR ?_;by_cases hc1:cl<1
 ·rw[qD hc1];refine uR ?_;rfl
 rw[qC hc1];refine uR ?_;rw[qC (show ¬cl>12 by omega)];refine uR ?_;refine EV.loopK (ι:=Nat) [1,49,50] [1] (fun i=>[(51,.v (.int .i64 (i:Int)))]) (fun _=>[]) (fun _=>[]) (fun i _=>i≤ls.length∧∀z,z∈ls.take i→z<cl) (fun i=>ls.length-i) (0) rfl rfl ⟨rfl,trivial⟩ trivial rfl (fun _=>rfl) (⟨Nat.zero_le _,fun z hz=>by cases hz⟩) ?_;rintro i G1 hG1 ⟨hi,hall⟩;refine uR ?_;refine EV.cond rfl (fun hlt=>?_) (fun hlt=>?_)
 ·simp only[nN]at hlt;obtain⟨z,hz⟩:=gE hlt;have hb:=hls z (qF hz);refine uR ?_;refine vI ((hv.mono hG1)) (i) (rfl) (hlt) ((by rw[List.getElem?_map,hz];rfl)) ?_;refine uR ?_;rw[qC (show ¬z<0 by omega)];refine uR ?_;by_cases hzc:z≥cl
  ·rw[qD hzc];refine uR ?_;rfl
  rw[qC hzc];refine uR ?_;refine⟨i+1,⟨?_,trivial⟩,sB,trivial,sB,rfl,⟨hlt,fun y hy=>?_⟩,Hp.Le.refl _,by omega⟩
  ·rw[zab i (by omega)];rfl
  ·rw[zap hz]at hy;rcases List.mem_append.1 hy with h | h
   ·exact hall y h
   ·rw[List.mem_singleton.1 h];omega
 ·simp only[nN]at hlt;obtain rfl:i=ls.length:=by omega
  rw[List.take_length]at hall;exact absurd ⟨by omega,hall⟩ hno
theorem znx {H:Hp} {la:Option Addr} {lc:Nat} {va:Option Addr} {vn vc:Nat} {cl:Int} (h0:1≤vn) (h1:vn≤300) (hc:cl≠0):PC prog 132 #[zai 2 cl (.slice la 0 lc) (.slice va vn vc)] H fun r _=>r=.int .i64 1:=by
 refine BD func132 ntmps132 ?_;refine uR ?_;rw[qC (show ¬(vn:Int)<1 by omega)];refine uR ?_;rw[qC (show ¬(vn:Int)>300 by omega)];refine uR ?_;rw[show (cl != 0)=true from bne_iff_ne.2 hc];refine uR ?_;rfl
theorem znw {H:Hp} {la:Option Addr} {lc:Nat} {ls:List Int} (hv:IL H (.slice la ls.length lc) ls) {va:Option Addr} {vc:Nat} {cl:Int} (h0:1≤ls.length) (h1:ls.length≤300) (hc:cl≤12) (hls:∀z,z∈ls→0≤z) (hno:¬(1≤cl∧∀z,z∈ls→z<cl)):PC prog 132 #[zai 1 cl (.slice la ls.length lc) (.slice va 0 vc)] H fun r _=>r=.int .i64 1:=by
 refine BD func132 ntmps132 ?_;refine uR ?_;rw[qC (show ¬(ls.length:Int)<1 by omega)];refine uR ?_;rw[qC (show ¬(ls.length:Int)>300 by omega)];refine uR ?_;by_cases hc1:cl<1
 ·rw[qD hc1];refine uR ?_;rfl
 rw[qC hc1];refine uR ?_;rw[qC (show ¬cl>12 by omega)];refine uR ?_;refine EV.loopK (ι:=Nat) [1,3] [1] (fun i=>[(4,.v (.int .i64 (i:Int)))]) (fun _=>[]) (fun _=>[]) (fun i _=>i≤ls.length∧∀z,z∈ls.take i→z<cl) (fun i=>ls.length-i) (0) rfl rfl ⟨rfl,trivial⟩ trivial rfl (fun _=>rfl) (⟨Nat.zero_le _,fun z hz=>by cases hz⟩) ?_;rintro i G1 hG1 ⟨hi,hall⟩;refine uR ?_;refine EV.cond rfl (fun hlt=>?_) (fun hlt=>?_)
 ·simp only[nN]at hlt;obtain⟨z,hz⟩:=gE hlt;have hb:=hls z (qF hz);have hv1:=hv.mono hG1;refine uR ?_;apply EV.drawn 15 kR kR;intro xv yw;(repeat refine' DD ?_);refine' vJ (hv1) (i) (rfl) (hlt) ((by rw[List.getElem?_map,hz];rfl)) ?_;rotate_left;(repeat refine' DD ?_);rw[qC (show ¬z<0 by omega)];(repeat refine' DD ?_);refine' vJ (hv1) (i) (rfl) (hlt) ((by rw[List.getElem?_map,hz];rfl)) ?_;rotate_left;(repeat refine' DD ?_);(refine DJ.nil (fun G2 hG2 hF2=>?_);(case hS|hS2=>rfl));refine uR ?_;by_cases hzc:z≥cl
  ·rw[qD hzc];refine uR ?_;rfl
  rw[qC hzc];refine uR ?_;refine⟨i+1,⟨by rw[zab i (by omega)];rfl,trivial⟩,sB,trivial,sB,rfl,⟨hlt,fun y hy=>?_⟩,hG2,by omega⟩;rw[zap hz]at hy;rcases List.mem_append.1 hy with h | h
  ·exact hall y h
  ·rw[List.mem_singleton.1 h];omega
 ·simp only[nN]at hlt;obtain rfl:i=ls.length:=by omega
  rw[List.take_length]at hall;exact absurd ⟨by omega,hall⟩ hno
theorem GD.P.with {H:Hp} {sl sv:Value} {d:GD} (h:d.P H sl sv) (cl:Int):(d.with cl).P H sl sv:=by
 cases d with
 | v qs=>exact h
 | c C ls=>exact h
theorem GD.Ok.inGoalC {H:Hp} {n:Nat} {d:GD} (hd:d.Ok n) (h1:n≤300) {v:Value} {cl:Int} (hR:d.Rc H v cl):PC prog 10 #[v] H fun r H'=>∃la ln lc va vn vc,r=zai d.kd cl (.slice la ln lc) (.slice va vn vc)∧d.P H' (.slice la ln lc) (.slice va vn vc):=by
 cases d with
 | v qs =>
  obtain⟨rfl,hq⟩:=hd;obtain⟨s,rfl,hs⟩:=hR;have hqr:∀q,q∈qs→rq q:=fun q hq'=>zf6 (hq q hq') oM;refine(zjS (kd:=2) (cl:=cl) (IL.nil H none 0) hs (by decide) oM hqr).mono ?_;rintro r H' ⟨la,lc,va,vc,rfl,_,hv⟩ hH;exact⟨_,_,_,_,_,_,rfl,_,_,_,_,rfl,rfl,hv⟩
 | c C ls =>
  obtain⟨hc,rfl,hlb⟩:=hd;obtain⟨s,rfl,hs⟩:=hR;refine(zjS (kd:=1) (cl:=cl) hs (RL.nil H none 0) oM (by decide) (by intro q hq;cases hq)).mono ?_;rintro r H' ⟨la,lc,va,vc,rfl,hv,_⟩ hH;exact⟨_,_,_,_,_,_,rfl,_,_,_,_,rfl,rfl,hv⟩
open Classical in
theorem GD.Ok.pcheck {H:Hp} {n:Nat} {d:GD} (hd:d.Ok n) (h0:1≤n) (h1:n≤300) {sl sv:Value} (hP:d.P H sl sv) {cl:Int} (hc:cl≤12):(∀G,H.Le G→PC prog 75 #[zai d.kd cl sl sv] G fun r _=>r=.int .i64 (if d.fits cl then 0 else 1))∧PV prog 78 #[zai d.kd cl sl sv] (.int .i64 (n:Int)):=by
 cases d with
 | v qs =>
  obtain⟨rfl,hq⟩:=hd;obtain⟨la,lc,va,vc,rfl,rfl,hv⟩:=hP;refine⟨fun G hG=>?_,ziM⟩;by_cases h:cl=0
  ·subst h;rw[if_pos (show GD.fits (.v qs) 0 from rfl)];exact(zdl h0 h1).pc' G
  ·rw[if_neg (show ¬GD.fits (.v qs) cl from h)];exact(zoi h0 h1 h).pc' G
 | c C ls =>
  obtain⟨_,rfl,hb⟩:=hd;obtain⟨la,lc,va,vc,rfl,rfl,hv⟩:=hP;refine⟨fun G hG=>?_,zgI⟩;by_cases h:GD.fits (.c C ls) cl
  ·rw[if_pos h];exact zex (SlC.mono hv hG) ⟨h.1,h.2.1⟩ h0 h1 fun z hz=>⟨(hb z hz).1,h.2.2 z hz⟩
  ·rw[if_neg h];exact zoh (SlC.mono hv hG) h0 h1 hc (fun z hz=>(hb z hz).1) fun k=>h ⟨k.1,hc,k.2⟩
open Classical in
theorem GD.Ok.rcheck {H:Hp} {n:Nat} {d:GD} (hd:d.Ok n) (h0:1≤n) (h1:n≤300) {v:Value} {cl:Int} (hR:d.Rc H v cl) (hc:cl≤12):∃ga gn gc va vn vc,v=zai d.kd cl (.slice ga gn gc) (.slice va vn vc)∧(∀G,H.Le G→PC prog 132 #[v] G fun r _=>r=.int .i64 (if d.fits cl then 0 else 1))∧PV prog 131 #[v] (.int .i64 (n:Int)):=by
 cases d with
 | v qs =>
  obtain⟨rfl,hq⟩:=hd;obtain⟨s,rfl,hs⟩:=hR;obtain⟨sa,sc,rfl⟩:=hs.val;refine⟨_,_,_,_,_,_,rfl,fun G hG=>?_,zmn⟩;by_cases h:cl=0
  ·subst h;rw[if_pos (show GD.fits (.v qs) 0 from rfl)];exact zh8 h0 h1
  ·rw[if_neg (show ¬GD.fits (.v qs) cl from h)];exact znx h0 h1 h
 | c C ls =>
  obtain⟨_,rfl,hb⟩:=hd;obtain⟨s,rfl,hs⟩:=hR;obtain⟨sa,sc,rfl⟩:=SlC.val hs;refine⟨_,_,_,_,_,_,rfl,fun G hG=>?_,zmm (sv:=.bool true)⟩;by_cases h:GD.fits (.c C ls) cl
  ·rw[if_pos h];exact zh7 (SlC.mono hs hG) ⟨h.1,h.2.1⟩ h0 h1 fun z hz=>⟨(hb z hz).1,h.2.2 z hz⟩
  ·rw[if_neg h];exact znw (SlC.mono hs hG) h0 h1 hc (fun z hz=>(hb z hz).1) fun k=>h ⟨k.1,hc,k.2⟩
def zq8 (t:Int):Rat:=if t.tmod 4=1 then (if (zn4 t).num<0 then -zn4 t else zn4 t) else 0
theorem zq9 {H:Hp} (d0 l0 t:Int) (hd:zhx d0) (hl:zhx l0) (ht:zhx t) :
  PC prog 62 #[.int .i64 d0,.int .i64 l0,.int .i64 t] H fun r H'=>∃b1 a1 l1 c1 a2 l2 c2,r=zdV (d0 % 5) (1+l0 % 3) (.bool b1) (.slice a1 l1 c1) (.slice a2 l2 c2)∧RQ H' (.agg #[.bool b1,.slice a1 l1 c1,.slice a2 l2 c2]) (zq8 t):=by
 have hp1:=zcp d0 5 hd oM oM;have hp2:=zcp l0 3 hl oM oM;refine BD func62 ntmps62 ?_
 repeat (first|refine RUN ?_|refine CV (hp1) ?_|refine CV (hp2) ?_|refine CE (hp1) ?_|refine CE (hp2) ?_)
 rw[show IntKind.i64.wrap (1+l0 % 3)=1+l0 % 3 by rw[IntKind.wrap_i64];omega];refine uR ?_;refine EVL.call rfl rfl rfl rfl rfl (za5 0 oM oM) ?_;intro r1 G1 hr1 hG1;obtain⟨a1,l1,c1,a2,l2,c2,rfl,_⟩:=id hr1;refine uR ?_;by_cases h:t.tmod 4=1
 ·rw[show (t.tmod 4 == 1)=true from beq_iff_eq.2 h];refine uR ?_;refine vA (zt8 t ht) ?_;intro r2 G2 hr2 hG2;refine vA (zpe hr2) ?_;intro r3 G3 hr3 hG3;obtain⟨a3,l3,c3,a4,l4,c4,rfl,_⟩:=id hr3;refine uR ?_;exact⟨_,_,_,_,_,_,_,rfl,by unfold zq8;rw[if_pos h];exact hr3⟩
 ·rw[show (t.tmod 4 == 1)=false from beq_false_of_ne h];refine uR ?_;exact⟨_,_,_,_,_,_,_,rfl,by unfold zq8;rw[if_neg h];exact hr1⟩
def zbn (l:List Int) (N:Nat):List Int:=(l.take 14).map fun z=>z % (N:Int)
def zcL (l:List Int) (N:Nat):List Int:=if zbn l N=[] then zd5 N else zbn l N
theorem znN {l:List Int} {N:Nat} (hN:1≤N) (hN10:N≤10):1≤(zcL l N).length∧(zcL l N).length≤14:=by
 unfold zcL;split
 ·rw[zcS];omega
 ·rename_i h;have h1:=List.length_pos_iff.2 h;have h2:(zbn l N).length≤14:=by unfold zbn;rw[List.length_map,List.length_take];omega
  omega
abbrev zrH (kd n w dp ls gn:Int) (vg vl vr:Value):Value:=.agg #[.int .i64 kd,.int .i64 n,.int .i64 w,.int .i64 dp,.int .i64 ls,.int .i64 gn,vg,vl,vr]
theorem zlo {l:List Int} {N i:Nat} {z:Int} (h:l[i]?=some z) (hi:i<14):(l.take (i+1)).map (fun z=>z % (N:Int))=(l.take i).map (fun z=>z % (N:Int))++[z % (N:Int)]:=by
 rw[zap h,List.map_append];rfl
theorem znr {l:List Int} {N i:Nat} (h:min l.length 14≤i) (h14:i≤14):(l.take i).map (fun z=>z % (N:Int))=zbn l N:=by
 unfold zbn;by_cases h1:i=14
 ·rw[h1]
 ·rw[List.take_of_length_le (show l.length≤i by omega),List.take_of_length_le (show l.length≤14 by omega)]
set_option maxRecDepth 100000 in
theorem zqR {H:Hp} {vg vl vr:Value} {lg ll lr:List Int} (kd n w dp ls gn:Int) (hn:zhx n) (hw:zhx w) (hdp:zhx dp) (hls:zhx ls) (hgn:zhx gn) (hg:IL H vg lg) (hgb:∀z,z∈lg→zhx z) (hl:IL H vl ll) (hlb:∀z,z∈ll→zhx z) (hr:IL H vr lr) (hrb:∀z,z∈lr→zhx z) {N W:Nat} (hN:1+n % 10=(N:Int)) (hW:1+w % 3=(W:Int)) :
  PC prog 9 #[zrH kd n w dp ls gn vg vl vr] H fun r H'=>∃kd' cl ga gc' gc va vn vc vx vrows b1 a1 l1 c1 a2 l2 c2,r=.tuple #[zai kd' cl (.slice ga gc' gc) (.slice va vn vc),vx,vrows,zdV (dp % 5) (1+ls % 3) (.bool b1) (.slice a1 l1 c1) (.slice a2 l2 c2)] ∧
   zjm H' (zai kd' cl (.slice ga gc' gc) (.slice va vn vc)) N (zkP lg N)∧RLL H' vx (zha ll N W)∧IL H' vrows (zcL lr N)∧RQ H' (.agg #[.bool b1,.slice a1 l1 c1,.slice a2 l2 c2]) (zq8 gn):=by
 obtain⟨ga0,gc0,rfl⟩:=SlC.val hg;obtain⟨la0,lc0,rfl⟩:=SlC.val hl;obtain⟨ra0,rc0,rfl⟩:=SlC.val hr;have hp1:=zcp n 10 hn oM oM;have hp2:=zcp w 3 hw oM oM;refine BD func9 ntmps9 ?_
 repeat (first|refine RUN ?_|refine CV (hp1) ?_|refine CE (hp1) ?_)
 rw[show IntKind.i64.wrap (1+n % 10)=(N:Int) by rw[IntKind.wrap_i64];omega]
 repeat (first|refine zs9 ?_|refine CV (hp2) ?_|refine CE (hp2) ?_)
 rw[show IntKind.i64.wrap (1+w % 3)=(W:Int) by rw[IntKind.wrap_i64];omega];refine EV.meetK (ι:=Value × Ows) [1,2,5,6,7] [1,2,5] (fun q=>[(8,.v q.1)]) (fun _=>[]) (fun q=>q.2) (fun q G=>H.Le G∧zaJ 3 1 q.1 (zbn lr N).length ((zbn lr N).map iv) q.2) rfl rfl (fun _=>rfl) ?_ ?_
 ·try refine uR ?_
  refine EV.loopK (ι:=Nat × Value × Ows) [1,2,5,6,7] [1,2,5] (fun q=>[(8,.v q.2.1),(9,.v (.int .i64 (q.1:Int)))]) (fun _=>[]) (fun q=>q.2.2) (fun q _=>(q.1≤lr.length∧q.1≤14)∧zaJ 3 1 q.2.1 q.1 (((lr.take q.1).map fun z=>z % (N:Int)).map iv) q.2.2) (fun q=>14-q.1) ((0,.slice none 0 0,[])) rfl rfl ⟨rfl,rfl,trivial⟩ trivial rfl (fun _=>rfl) (⟨⟨Nat.zero_le _,Nat.zero_le _⟩,zaJ.nil _ _⟩) ?_;rintro⟨i,v8,ow⟩ G1 hG1 ⟨⟨hi,hi4⟩,hown⟩;dsimp only at hi hi4 hown;obtain⟨a8,c8,rfl⟩:=hown.val;have wi:IntKind.i64.wrap ((i:Int)+1)=((i+1:Nat):Int):=zab i oM;by_cases hgo:i<lr.length∧i<14
  ·obtain⟨z,hz⟩:∃z,lr[i]?=some z:=⟨_,qA hgo.1⟩;have hp:=zcp z (N:Int) (hrb z (qF hz)) oM oM;have hps:=zlo (N:=N) hz hgo.2;refine uR ?_;rw[qD (show (i:Int)<(lr.length:Int) by omega)];refine uR ?_;rw[qD (show (i:Int)<14 by omega)];refine uR ?_;refine vI ((hr.mono hG1)) (i) (rfl) (hgo.1) ((by rw[List.getElem?_map,hz];rfl)) ?_
   repeat (first|refine RUN ?_|refine CV (hp) ?_|refine CE (hp) ?_)
   refine EVL.app1 tO rfl rfl rfl rfl rfl rfl rfl rfl rfl rfl rfl rfl rfl rfl rfl rfl rfl rfl rfl (fun _=>rfl) (ow) ([]) ((qG _).symm) (hown) oM fun _=>?_;intro v' ow' hown';refine uR ?_;exact⟨(i+1,v',ow'),⟨rfl,by rw[wi];rfl,trivial⟩,sB,trivial,sB,qG _,⟨⟨hgo.1,hgo.2⟩,by dsimp only;rw[hps,List.map_append];exact hown'⟩,Hp.Le.refl _,by dsimp only;omega⟩
  ·have hall:=znr (l:=lr) (N:=N) (i:=i) oM hi4;rw[hall]at hown;have hil0:(zbn lr N).length=i:=by have:=hown.1;rw[List.length_map]at this;omega
   by_cases h1:i<lr.length
   ·try refine uR ?_
    rw[qD (show (i:Int)<(lr.length:Int) by omega)];refine uR ?_;rw[qC (show ¬(i:Int)<14 by omega)];refine uR ?_;exact⟨(_,ow),⟨rfl,trivial⟩,sB,trivial,sB,rfl,hG1,by rw[hil0];exact hown⟩
   ·try refine uR ?_
    rw[qC (show ¬(i:Int)<(lr.length:Int) by omega)];refine uR ?_;exact⟨(_,ow),⟨rfl,trivial⟩,sB,trivial,sB,rfl,hG1,by rw[hil0];exact hown⟩
 ·rintro⟨v8,ow⟩ G1 ⟨hG1,hown⟩;dsimp only at hown;obtain⟨a8,c8,rfl⟩:=hown.val;refine uR ?_;refine EV.meetK (ι:=Value × Ows) [1,2,5,6,7] [1,2,5] (fun q=>[(8,.v q.1)]) (fun _=>[]) (fun q=>q.2) (fun q G=>H.Le G∧zaJ 3 1 q.1 (zcL lr N).length ((zcL lr N).map iv) q.2) rfl rfl (fun _=>rfl) ?_ ?_
  ·by_cases h0:zbn lr N=[]
   ·rw[show zcL lr N=zd5 N from if_pos h0];rw[h0]at hown ⊢;rw[show (((([]:List Int).length:Nat):Int) == 0)=true from rfl];refine uR ?_;refine EV.loopK (ι:=Nat × Value × Ows) [1,2,5,6,7] [1,2,5] (fun q=>[(8,.v q.2.1),(10,.v (.int .i64 (q.1:Int)))]) (fun _=>[]) (fun q=>q.2.2) (fun q _=>q.1≤N∧zaJ 3 1 q.2.1 q.1 ((zd5 q.1).map iv) q.2.2) (fun q=>N-q.1) ((0,.slice a8 0 c8,ow)) rfl rfl ⟨rfl,rfl,trivial⟩ trivial rfl (fun _=>rfl) (⟨Nat.zero_le _,hown⟩) ?_;rintro⟨i,v9,ow9⟩ G2 hG2 ⟨hi,hown9⟩;dsimp only at hi hown9;obtain⟨a9,c9,rfl⟩:=hown9.val;have wi:IntKind.i64.wrap ((i:Int)+1)=((i+1:Nat):Int):=zab i oM;refine uR ?_;refine EV.cond rfl (fun hlt=>?_) (fun hlt=>?_)
    ·simp only[nN]at hlt;refine uR ?_;refine EVL.app1 tO rfl rfl rfl rfl rfl rfl rfl rfl rfl rfl rfl rfl rfl rfl rfl rfl rfl rfl rfl (fun _=>rfl) (ow9) ([]) ((qG _).symm) (hown9) oM fun _=>?_;intro v' ow' hown';refine uR ?_;exact⟨(i+1,v',ow'),⟨rfl,by rw[wi];rfl,trivial⟩,sB,trivial,sB,qG _,⟨hlt,by dsimp only;rw[zjq,List.map_append];exact hown'⟩,Hp.Le.refl _,by dsimp only;omega⟩
    ·simp only[nN]at hlt;obtain rfl:i=N:=by omega
     refine uR ?_;exact⟨(_,ow9),⟨rfl,trivial⟩,sB,trivial,sB,rfl,hG1.trans hG2,by rw[zcS];exact hown9⟩
   ·have hl0:(zbn lr N).length≠0:=fun e=>h0 (List.length_eq_zero_iff.1 e);rw[show zcL lr N=zbn lr N from if_neg h0];rw[show (((zbn lr N).length:Int) == 0)=false from beq_eq_false_iff_ne.2 (by omega)];refine uR ?_;exact⟨(_,ow),⟨rfl,trivial⟩,sB,trivial,sB,rfl,hG1,hown⟩
  ·rintro⟨v9,ow9⟩ G2 ⟨hG2,hown9⟩;dsimp only at hown9;obtain⟨a9,c9,rfl⟩:=hown9.val;(first|refine EVL.publishL [] ow9 [] ((qG _).symm) hown9 fun G3 hG3 hs3=>?_|refine EV.publishL [] ow9 [] ((qG _).symm) hown9 fun G3 hG3 hs3=>?_);have hil:IL G3 (.slice a9 (zcL lr N).length c9) (zcL lr N):=hs3;have hH3:=hG2.trans hG3;generalize hrows:zcL lr N=rows at *
   (first|refine EVL.unbox (1) rfl fun g1=>?_|refine EV.unbox (1) rfl fun g1=>?_);refine EV.seq ?_;refine EVI.start none (g1,24,[.int .i64 kd,.int .i64 n,.int .i64 w,.int .i64 dp,.int .i64 ls,.int .i64 gn,.slice ga0 lg.length gc0,.slice la0 ll.length lc0,.slice ra0 lr.length rc0]) ?_;refine IF 0 ?_;refine IL0 1 ?_;refine IF 2 ?_;refine IL0 3 ?_;refine IV 4 ?_;refine IF 6 ?_;refine IL0 7 ?_;refine IV 8 ?_;refine IV 9 ?_;refine IF 12 ?_;refine IL0 13 ?_;refine IF 14 ?_;refine IL0 15 ?_;refine IF 16 ?_;refine IL0 17 ?_;refine IV 11 ?_;refine EVI.one 5 0 (.inr rfl) kR rfl ?_;refine EVL.call rfl rfl rfl rfl rfl (zsf (hg.mono hH3) hgb kd N oM) ?_;intro r5 G5 hr5 hG5
   obtain⟨kd',cl',ga,gn',gc,va,vn,vc,rfl⟩:∃k c ga gn gc va vn vc,r5=zai k c (.slice ga gn gc) (.slice va vn vc):=by
    rcases hr5 with ⟨s,rfl,h⟩ | ⟨c,s,_,rfl,_,_,_,_,h⟩
    ·obtain⟨a,c,rfl⟩:=h.val;exact⟨_,_,_,_,_,_,_,_,rfl⟩
    ·obtain⟨a,c,rfl⟩:=SlC.val h;exact⟨_,_,_,_,_,_,_,_,rfl⟩
   refine EVL.nil ⟨rfl,?_⟩;refine EVI.one 10 0 (.inr rfl) kR rfl ?_;refine EVL.call rfl rfl rfl rfl rfl (zsM (hl.mono (hH3.trans hG5)) hlb N W oM oM) ?_;intro r6 G6 hr6 hG6;obtain⟨xa,xc,rfl⟩:=hr6.val;refine EVL.nil ⟨rfl,?_⟩;refine EVI.one 18 0 (.inr rfl) kR rfl ?_;refine vA (zq9 dp ls gn hdp hls hgn) ?_;rintro r7 G7 ⟨b1,a1,l1,c1,a2,l2,c2,rfl,hq⟩ hG7;refine EVL.nil ⟨rfl,?_⟩;refine EVI.one 19 0 (.inr rfl) kR rfl ?_
   (try refine zcj ?_);refine EVL.nil ⟨rfl,?_⟩;refine EVI.one 20 0 (.inr rfl) kR rfl ?_
   (try refine zcj ?_);refine EVL.nil ⟨rfl,?_⟩;refine EVI.one 21 0 (.inr rfl) kR rfl ?_
   (try refine zcj ?_);refine EVL.nil ⟨rfl,?_⟩;refine EVI.one 22 0 (.inr rfl) kR rfl ?_
   (try refine zcj ?_);refine EVL.nil ⟨rfl,?_⟩;refine EVI.nil 0 (.inr rfl) kR ?_;refine uR ?_;have hX67:=hG5.trans (hG6.trans hG7);exact⟨kd',cl',ga,gn',gc,va,vn,vc,.slice xa (zha ll N W).length xc,.slice a9 rows.length c9,b1,a1,l1,c1,a2,l2,c2,rfl,hr5.mono (hG6.trans hG7),hr6.mono hG7,hil.mono hX67,hq⟩
theorem zrf {H:Hp} {kd cl deep least e:Int} {sl sv vx vr:Value} {g:Rat} (he:PC prog 64 #[zai kd cl sl sv,vx,vr,.agg (zlw deep least g).toArray] H fun r _=>r=.int .i64 e) (h0:e≠0) :
  PC prog 13 #[zai kd cl sl sv,vx,vr,.agg (zlw deep least g).toArray] H fun r _=>r=noT e:=by
 refine BD func13 ntmps13 ?_;refine uR ?_;refine vA (he) ?_;rintro _ G rfl hG;refine uR ?_;rw[show (e != 0)=true from bne_iff_ne.2 h0];refine uR ?_;rfl
theorem zfO {H:Hp} {kd cl deep least e sm:Int} {sl sv vx vr:Value} {g:Rat} {bd w:Nat} {Td:TypeId} {s:Int} {X:List (List Rat)} (hX:QLL H vx X) (he:PC prog 64 #[zai kd cl sl sv,vx,vr,.agg (zlw deep least g).toArray] H fun r _=>r=.int .i64 e) (h0:e≠0∨1≤X.length∧(∀x,x∈X→x.length=w)∧(sm<1∨(w:Int)<sm)) :
  PW prog 32 #[zai kd cl sl sv,vx,vr,.agg (zlw deep least g).toArray,.int .i64 sm,.pointer (some ⟨bd,0,none⟩)] H [(bd,Td,[.int .u64 s])]
   fun v ow _=>v=noT (if e≠0 then e else 1)∧ow=[(bd,Td,[.int .u64 s])]:=by
 obtain⟨vs,hvs,hvx⟩:=id hX;obtain⟨xa,xc,rfl⟩:=hX.val;refine PW.body tO func32 rfl kR ntmps32 rfl rfl ?_;refine uR ?_;refine vA (he) ?_;rintro _ G1 rfl hG1;refine uR ?_;by_cases h1:e≠0
 ·rw[show (e != 0)=true from bne_iff_ne.2 h1,if_pos h1];refine uR ?_;exact⟨rfl,rfl⟩
 obtain rfl:e=0:=Decidable.not_not.1 h1;rw[if_neg h1];obtain⟨hx0,hxw,hs⟩:=h0.resolve_left h1;obtain⟨x0,hxx0⟩:=gE hx0;obtain⟨u0,e0,hu0,_⟩:=hvs.at hxx0;rw[hxw x0 (qF hxx0)]at hu0;refine uR ?_;refine vI ((hvx.mono hG1)) (0) (rfl) (hx0) (hu0) ?_;refine uR ?_;by_cases h2:sm<1
 ·rw[qD h2];refine uR ?_;exact⟨rfl,rfl⟩
 rw[qC h2];refine uR ?_;rw[qD (show sm>(w:Int) by omega)];refine uR ?_;exact⟨rfl,rfl⟩
def TPp (G:Hp) (r:Value) (t:Tr) (e:Int):Prop:=∃cs,r=.tuple #[.agg cs.toArray,.int .i64 e]∧zer G cs t.kd t.cl t.w t.ns
def TPr (G:Hp) (r:Value) (t:Tr) (e:Int):Prop:=∃cs,r=.tuple #[.agg cs.toArray,.int .i64 e]∧zgi G cs t.kd t.cl t.w t.ns
theorem TPp.mono {G K:Hp} {r:Value} {t:Tr} {e:Int} (h:TPp G r t e) (k:G.Le K):TPp K r t e:=by
 obtain⟨cs,e,h⟩:=h;exact⟨cs,e,h.mono k⟩
abbrev tr0:Tr:=⟨0,0,0,[]⟩
theorem TPp.no (G:Hp) (e:Int):TPp G (noT e) tr0 e:=⟨_,rfl,none,0,[],rfl,⟨rfl,fun j c t e1 e2=>by cases e1⟩,⟨rfl,.inl ⟨rfl,none,0,rfl⟩⟩⟩
theorem TPr.no (G:Hp) (e:Int):TPr G (noT e) tr0 e:=⟨_,rfl,none,0,[],rfl,⟨rfl,fun j c t e1 e2=>by cases e1⟩,⟨rfl,.inl ⟨rfl,none,0,rfl⟩⟩⟩
theorem zgE {p:GP} {kd cl:Int} {w:Nat} (hp:zp8 p kd cl w):∀(d k:Nat) (rows:List Int) (s:Int),1≤rows.length→(∀r,r∈rows→0≤r∧r<(p.X.length:Int))→(p.grow d k rows s).1.length+1≤2*rows.length
 | 0,k,rows,s,h1,hb=>by rw[GP.grow_zero];show 1+1≤_;omega
 | d+1,k,rows,s,h1,hb=>by
  cases h:p.cut rows (p.cols s).1 with
  | none=>rw[GP.grow_none h];show 1+1≤_;omega
  | some ct =>
   obtain⟨c,t⟩:=ct;obtain⟨_,_,hl,hh,hpm,_⟩:=zrw hp hb h;have hpl:=hpm.length_eq;rw[List.length_append]at hpl;have hlb:∀r,r∈zbd p.X c t rows→0≤r∧r<(p.X.length:Int):=fun r hr=>hb r (List.mem_filter.mp hr).1;have hhb:∀r,r∈zaz p.X c t rows→0≤r∧r<(p.X.length:Int):=fun r hr=>hb r (List.mem_filter.mp hr).1;rw[GP.grow_some h];have h2:=zgE hp d (k+1) (zbd p.X c t rows) (p.cols s).2 hl hlb;have h3:=zgE hp d (k+1+(p.grow d (k+1) (zbd p.X c t rows) (p.cols s).2).1.length) (zaz p.X c t rows) (p.grow d (k+1) (zbd p.X c t rows) (p.cols s).2).2 hh hhb;simp only[List.length_cons,List.length_append];omega
theorem zhU {p:GP} {kd cl:Int} {w D:Nat} (hp:zp8 p kd cl w) (hw:1≤w∧w≤20) (hD:D≤10) {rows:List Int} (h1:1≤rows.length) (h2:rows.length≤300) (hb:∀r,r∈rows→0≤r∧r<(p.X.length:Int)) (s:Int):zet ⟨kd,cl,w,(p.grow D 0 rows s).1⟩:=by
 obtain⟨h3,_,h4⟩:=zoD hp D 0 rows s h1 h2 hb (p.grow D 0 rows s).1 (fun j n hj=>by rw[Nat.zero_add];exact hj);have hl:=zgE hp D 0 rows s h1 hb;rw[Nat.zero_add]at h3;exact⟨hp.kind,⟨by show (1:Int)≤w;omega,by show (w:Int)≤20;omega⟩,by show (p.grow D 0 rows s).1.length≤2000;omega,⟨D,by omega,h3⟩,fun i hi=>by have:=h4 i hi;rwa [Nat.zero_add]at this⟩
theorem zet.smallN {t:Tr} (h:zet t):∀n,n∈t.ns→zft n:=fun n hn=>by
 obtain⟨i,hi⟩:=List.mem_iff_getElem?.1 hn;obtain⟨m,hm,ho,_⟩:=h.nodes i (qE.1 hi).1;cases hm.symm.trans hi;exact ho.smallN (by have:=h.kind;omega)
abbrev trP (d:GD) (X:List (List Rat)) (least:Int) (g:Rat) (cols:Int→List Int × Int):GP:=⟨X,d.cost,d.mean,d.cnt,least,g,cols⟩
theorem ztN {d:GD} {N W:Nat} {X:List (List Rat)} {least:Int} {g:Rat} {cols:Int→List Int × Int} (hd:d.Ok N) (hXN:X.length=N) (hN:N≤20) (hXw:∀x,x∈X→x.length=W∧∀q,q∈x→ht q≤5) (hg:0≤g) (hc:∀s c,c∈(cols s).1→0≤c∧c<(W:Int)):zp8 (trP d X least g cols) d.kd d.cl W:=by
 subst hXN;exact zjn.gpAny (p:=trP d X least g cols) hd.plain (by show X.length≤300;omega) hXw hg hc
theorem zqe {w:Nat}:∀c,c∈zd5 w→0≤c∧c<(w:Int):=fun c hc=>by
 obtain⟨i,hi,rfl⟩:=List.mem_map.1 hc;have:=List.mem_range.1 hi;omega
open Classical in
theorem zoe {H:Hp} {d:GD} {N W:Nat} {cl deep least:Int} {vg vx vr:Value} {X:List (List Rat)} {rows:List Int} {g:Rat} {b1:Bool} {a1 a2:Option Addr} {l1 c1 l2 c2:Nat} (hd:d.Ok N) (hR:d.Rc H vg cl) (hc:cl≤12) (hX:RLL H vx X) (hq:RQ H (.agg #[.bool b1,.slice a1 l1 c1,.slice a2 l2 c2]) g) (hg:ht g≤10) (hXw:∀x,x∈X→x.length=W∧∀q,q∈x→ht q≤5) (hXl:X.length≤20)
  (hN:1≤N∧N≤20) (hW:1≤W∧W≤20) (hr:IL H vr rows) (hr0:0<rows.length) (hrn:rows.length≤20) :
  ∃t e,(∀G u v w,(∃la ln lc va vn vc,u=zai d.kd cl (.slice la ln lc) (.slice va vn vc)∧d.P G (.slice la ln lc) (.slice va vn vc))→QLL G v X→IL G w rows→PC prog 13 #[u,v,w,.agg (zlw deep least g).toArray] G fun r G'=>TPp G' r t e) ∧
   (∀G,H.Le G→PC prog 28 #[vg,vx,vr,zdV deep least (.bool b1) (.slice a1 l1 c1) (.slice a2 l2 c2)] G fun r G'=>TPr G' r t e) ∧
   (∀sm s:Int,0≤s→∃t2 e2 s2,(∀G u v w bd Td,(∃la ln lc va vn vc,u=zai d.kd cl (.slice la ln lc) (.slice va vn vc)∧d.P G (.slice la ln lc) (.slice va vn vc))→QLL G v X→IL G w rows→PW prog 32 #[u,v,w,.agg (zlw deep least g).toArray,.int .i64 sm,.pointer (some ⟨bd,0,none⟩)] G [(bd,Td,[.int .u64 s])] fun r ow G'=>TPp G' r t2 e2∧∃T',ow=[(bd,T',[.int .u64 s2])]) ∧
    (∀G,H.Le G→∀bd Td,PW prog 33 #[vg,vx,vr,zdV deep least (.bool b1) (.slice a1 l1 c1) (.slice a2 l2 c2),.int .i64 sm,.pointer (some ⟨bd,0,none⟩)] G [(bd,Td,[.int .u64 s])] fun r ow G'=>TPr G' r t2 e2∧∃T',ow=[(bd,T',[.int .u64 s2])])∧(∀n,n∈t2.ns→zft n)∧t2.ns.length≤2000∧(e2=0→zet t2)) ∧
   (∀n,n∈t.ns→zft n)∧t.ns.length≤2000:=by
 have hxw:=fun x hx=>(hXw x hx).1;have hgr:rq g:=by unfold rq;omega
 have hgs:sm g:=by unfold sm;omega
 obtain⟨ga,gn,gc,va,vn,vc,rfl,hrck,hrln⟩:=hd.rcheck hN.1 oM hR hc;obtain⟨xa,xc,rfl⟩:=hX.val;have herr:=fun (G:Hp) (hG:H.Le G)=>zfi (hrck G hG) hrln (hX.mono hG) hxw hW.1 hW.2 hN.1 oM (SlC.mono hr hG) hr0 oM (zg8 (deep:=deep) (least:=least) (RQ.mono hq hG))
 have hpref:∀G u v w,(∃la ln lc va vn vc,u=zai d.kd cl (.slice la ln lc) (.slice va vn vc)∧d.P G (.slice la ln lc) (.slice va vn vc))→QLL G v X→IL G w rows→PC prog 64 #[u,v,w,.agg (zlw deep least g).toArray] G fun r _=>r=.int .i64 (zrx X.length N (if d.fits cl then 0 else 1) (decide (zeZ deep least g)) rows):=by
  rintro G u v w ⟨la,ln,lc,va',vn',vc',rfl,hP⟩ hv hw;obtain⟨hck,hln⟩:=hd.pcheck (H:=G) hN.1 oM hP hc;exact zfr hck hln hv hN.1 oM hW hxw hw hr0 oM hgs
 by_cases he:zrx X.length N (if d.fits cl then 0 else 1) (decide (zeZ deep least g)) rows=0
 case neg =>
  generalize hee:zrx X.length N (if d.fits cl then 0 else 1) (decide (zeZ deep least g)) rows=e at *
  refine⟨tr0,e,?_,fun G hG=>(zq0 (herr G hG) he).mono fun r G' h _=>by subst h;exact TPr.no _ _,fun sm s hs=>⟨tr0,e,s,?_,?_,fun n hn=>(by cases hn),Nat.zero_le _,fun h=>absurd h he⟩,fun n hn=>(by cases hn),Nat.zero_le _⟩
  ·intro G u v w hu hv hw;have:=hpref G u v w hu hv hw;obtain⟨la,ln,lc,va',vn',vc',rfl,hP⟩:=hu;exact(zrf this he).mono fun r G' h _=>by subst h;exact TPp.no _ _
  ·intro G u v w bd Td hu hv hw;have:=hpref G u v w hu hv hw;obtain⟨la,ln,lc,va',vn',vc',rfl,hP⟩:=hu;refine(zfO (w:=W) (sm:=sm) hv this (.inl he)).mono ?_;rintro r ow G' _ ⟨rfl,rfl⟩;rw[if_pos he];exact⟨TPp.no _ _,_,rfl⟩
  ·intro G hG bd Td;refine(zfJ (w:=W) (sm:=sm) (hX.mono hG) (herr G hG) (.inl he)).mono ?_;rintro r ow G' _ ⟨rfl,rfl⟩;rw[if_pos he];exact⟨TPr.no _ _,_,rfl⟩
 have hXN:X.length=N:=Decidable.byContradiction fun k=>by rw[zjN k]at he;cases he
 have hgood:(if d.fits cl then (0:Int) else 1)=0∧decide (zeZ deep least g)=true∧∀r,r∈rows→0≤r∧r<(X.length:Int):=Decidable.byContradiction fun k=>by rw[←hXN,zeC k]at he;cases he
 simp only[he]at herr hpref;obtain⟨hf0,hfine,hb⟩:=hgood;have hf:d.fits cl:=Decidable.byContradiction fun k=>by rw[if_neg k]at hf0;cases hf0
 obtain⟨hdp0,hdp1,hl0,hl1,hg0⟩:=of_decide_eq_true hfine;obtain⟨D,rfl⟩:=Int.eq_ofNat_of_zero_le hdp0;obtain⟨hd',ecl,ekd⟩:=hd.with hf;have hR':=hR.at hf;obtain⟨_,hrg⟩:=hd'.rgoal hN.1 oM hR';rw[ekd]at hrg
 have hpg:∀(cols:Int→List Int × Int) (G:Hp) (u:Value),(∃la ln lc va vn vc,u=zai d.kd cl (.slice la ln lc) (.slice va vn vc)∧d.P G (.slice la ln lc) (.slice va vn vc))→∃la ln lc va vn vc S wo,u=zai d.kd cl (.slice la ln lc) (.slice va vn vc)∧zis G d.kd cl (.slice la ln lc) (.slice va vn vc) (trP (d.with cl) X least g cols) S wo:=by
  rintro cols G u ⟨la,ln,lc,va',vn',vc',rfl,hP⟩;obtain⟨S,wo,h⟩:=hd'.pgoal (H:=G) hN.1 oM (hP.with cl) (p:=trP (d.with cl) X least g cols) hXN rfl rfl rfl;rw[ekd,ecl]at h;exact⟨la,ln,lc,va',vn',vc',S,wo,rfl,h⟩
 have hX1:0<X.length:=by omega
 have hxq:=fun x hx=>(hXw x hx).2
 have hgp:∀cols:Int→List Int × Int,(∀s c,c∈(cols s).1→0≤c∧c<(W:Int))→zp8 (trP (d.with cl) X least g cols) d.kd cl W:=fun cols hc=>by
  have:=ztN (least:=least) (cols:=cols) hd' hXN hN.2 hXw hg0 hc;rw[ekd,ecl]at this;exact this
 have hokA:=zhU (hgp (fun s=>(zd5 W,s)) fun s c=>zqe c) hW (show D≤10 by omega) (rows:=rows) hr0 oM hb 0;subst hXN;refine⟨⟨d.kd,cl,(W:Int),((trP (d.with cl) X least g (fun s=>(zd5 W,s))).grow D 0 rows 0).1⟩,0,?_,?_,fun sm s hs=>?_,hokA.smallN,hokA.len⟩
 ·intro G u v w hu hv hw;obtain⟨la,ln,lc,va',vn',vc',S,wo,rfl,hP⟩:=hpg (fun s=>(zd5 W,s)) G u hu;obtain⟨xa',xc',rfl⟩:=hv.val;exact zhk (p:=trP (d.with cl) X least g (fun s=>(zd5 W,s))) (s:=0) (fun s=>rfl) hW.1 hW.2 hX1 hXl hxw hxq rfl ⟨hl0,hl1⟩ hgs hg0 oM hP hv hw hr0 hrn hb
 ·intro G hG;exact zlu (p:=trP (d.with cl) X least g (fun s=>(zd5 W,s))) (s:=0) (fun s=>rfl) hW.1 hW.2 hX1 (by show X.length≤300;omega) hxw hxq rfl ⟨hl0,hl1⟩ hgr hg0 oM (hrg.mono hG) (hX.mono hG) (RQ.mono hq hG) (SlC.mono hr hG) hr0 oM hb
 ·by_cases hsm:1≤sm∧sm≤(W:Int)
  ·obtain⟨k,rfl⟩:=Int.eq_ofNat_of_zero_le (show 0≤sm by omega);have hokS:=zhU (hgp (fun s=>((zat W s).1.take k,(zat W s).2)) fun s c=>znp hW.1 oM s c) hW (show D≤10 by omega) (rows:=rows) hr0 oM hb s;refine⟨⟨d.kd,cl,(W:Int),((trP (d.with cl) X least g (fun s=>((zat W s).1.take k,(zat W s).2))).grow D 0 rows s).1⟩,0,((trP (d.with cl) X least g (fun s=>((zat W s).1.take k,(zat W s).2))).grow D 0 rows s).2,?_,?_,hokS.smallN,hokS.len,fun _=>hokS⟩
   ·intro G u v w bd Td hu hv hw;obtain⟨la,ln,lc,va',vn',vc',S,wo,rfl,hP⟩:=hpg (fun s=>((zat W s).1.take k,(zat W s).2)) G u hu;obtain⟨xa',xc',rfl⟩:=hv.val;refine(zkA (p:=trP (d.with cl) X least g (fun s=>((zat W s).1.take k,(zat W s).2))) (sm':=k) (w:=W) (s:=s) (fun s=>rfl) oM oM hW.2 hX1 hXl hxw hxq rfl ⟨hl0,hl1⟩ hgs hg0 oM hP hv hw hr0 hrn hb hs).mono ?_;rintro r ow G' _ ⟨T',cs,e1,rfl,_,h⟩;exact⟨⟨cs,e1,h⟩,T',rfl⟩
   ·intro G hG bd Td;refine(zkk (p:=trP (d.with cl) X least g (fun s=>((zat W s).1.take k,(zat W s).2))) (sm:=k) (w:=W) (s:=s) (fun s=>rfl) oM oM hW.2 hX1 (by show X.length≤300;omega) hxw hxq rfl ⟨hl0,hl1⟩ hgr hg0 oM (hrg.mono hG) (hX.mono hG) (RQ.mono hq hG) (SlC.mono hr hG) hr0 oM hb hs).mono ?_;rintro r ow G' _ ⟨T',cs,e1,rfl,_,h⟩;exact⟨⟨cs,e1,h⟩,T',rfl⟩
  ·have hno:(0:Int)≠0∨1≤X.length∧(∀x,x∈X→x.length=W)∧(sm<1∨(W:Int)<sm):=.inr ⟨hX1,hxw,by omega⟩;refine⟨tr0,1,s,?_,?_,fun n hn=>(by cases hn),Nat.zero_le _,fun h=>by cases h⟩
   ·intro G u v w bd Td hu hv hw;have:=hpref G u v w hu hv hw;obtain⟨la,ln,lc,va',vn',vc',rfl,hP⟩:=hu;refine(zfO (w:=W) (sm:=sm) hv this hno).mono ?_;rintro r ow G' _ ⟨rfl,rfl⟩;exact⟨TPp.no _ _,_,rfl⟩
   ·intro G hG bd Td;refine(zfJ (w:=W) (sm:=sm) (hX.mono hG) (herr G hG) hno).mono ?_;rintro r ow G' _ ⟨rfl,rfl⟩;exact⟨TPr.no _ _,_,rfl⟩
end
section
open Go.ChangeShapes Go.WideShapes Go.ChangeAt Go.RowKit
def zrS (H:Hp) (v:Value):Prop:=∃kd n w dp ls gn vg vl vr lg ll lr,v=zrH kd n w dp ls gn vg vl vr∧(zhx n∧zhx w∧zhx dp∧zhx ls∧zhx gn)∧(IL H vg lg∧∀z,z∈lg→zhx z)∧(IL H vl ll∧∀z,z∈ll→zhx z)∧(IL H vr lr∧∀z,z∈lr→zhx z)
theorem zsA {α:Type}:∀{l:List α},l.length=9→∃a b c d e f g h i,l=[a,b,c,d,e,f,g,h,i]
 | [a,b,c,d,e,f,g,h,i],_=>⟨a,b,c,d,e,f,g,h,i,rfl⟩
theorem raw18_open {H:Type} {enc:TypeId × Value→H} {w:World} {base:Nat} {spare:Nat→Bool} {held:Bool} {v:Value} {d:DataW H} {p:List MemPlace} (hv:∃cs,v=.agg cs) (h:DataW.Trod enc Tryz.prog w base spare held 24 v d p):zrS (zte w) v:=by
 obtain⟨cs,rfl⟩:=hv;obtain⟨fuel,h⟩:=h;obtain⟨xs,n,_,hx,hl,hlen,hf⟩:=DataW.trod_struct Tryz.underlying24 h;rw[show Tryz.prog.cellsOf 24=9 from by kernel_rfl]at hl;have hl4:cs.toList.length=9:=hl;obtain⟨l,rfl⟩:∃l:List Value,cs=l.toArray:=⟨cs.toList,by simp⟩;have hl4':l.length=9:=by simpa using hl4
 obtain⟨c0,c1,c2,c3,c4,c5,c6,c7,c8,rfl⟩:=zsA hl4';have hx4:xs.length=9:=hlen;have f0:DataW.trod enc Tryz.prog w base spare held n 3 (([c0,c1,c2,c3,c4,c5,c6,c7,c8].drop 0).take (Tryz.prog.cellsOf 3))=xs[0]?:=hf 0 _ rfl;have f1:DataW.trod enc Tryz.prog w base spare held n 3 (([c0,c1,c2,c3,c4,c5,c6,c7,c8].drop 1).take (Tryz.prog.cellsOf 3))=xs[1]?:=hf 1 _ rfl;have f2:DataW.trod enc Tryz.prog w base spare held n 3 (([c0,c1,c2,c3,c4,c5,c6,c7,c8].drop 2).take (Tryz.prog.cellsOf 3))=xs[2]?:=hf 2 _ rfl;have f3:DataW.trod enc Tryz.prog w base spare held n 3 (([c0,c1,c2,c3,c4,c5,c6,c7,c8].drop 3).take (Tryz.prog.cellsOf 3))=xs[3]?:=hf 3 _ rfl;have f4:DataW.trod enc Tryz.prog w base spare held n 3 (([c0,c1,c2,c3,c4,c5,c6,c7,c8].drop 4).take (Tryz.prog.cellsOf 3))=xs[4]?:=hf 4 _ rfl;have f5:DataW.trod enc Tryz.prog w base spare held n 3 (([c0,c1,c2,c3,c4,c5,c6,c7,c8].drop 5).take (Tryz.prog.cellsOf 3))=xs[5]?:=hf 5 _ rfl;have f6:DataW.trod enc Tryz.prog w base spare held n 22 (([c0,c1,c2,c3,c4,c5,c6,c7,c8].drop 6).take (Tryz.prog.cellsOf 22))=xs[6]?:=hf 6 _ rfl;have f7:DataW.trod enc Tryz.prog w base spare held n 22 (([c0,c1,c2,c3,c4,c5,c6,c7,c8].drop 7).take (Tryz.prog.cellsOf 22))=xs[7]?:=hf 7 _ rfl;have f8:DataW.trod enc Tryz.prog w base spare held n 22 (([c0,c1,c2,c3,c4,c5,c6,c7,c8].drop 8).take (Tryz.prog.cellsOf 22))=xs[8]?:=hf 8 _ rfl;rw[show Tryz.prog.cellsOf 3=1 from by kernel_rfl]at f0 f1 f2 f3 f4 f5;rw[show Tryz.prog.cellsOf 22=1 from by kernel_rfl]at f6 f7 f8;rw[qA (by omega)]at f0 f1 f2 f3 f4 f5 f6 f7 f8;obtain⟨z0,e0,_,w0⟩:=DataW.trod_int Tryz.underlying3 f0;obtain⟨z1,e1,_,w1⟩:=DataW.trod_int Tryz.underlying3 f1;obtain⟨z2,e2,_,w2⟩:=DataW.trod_int Tryz.underlying3 f2;obtain⟨z3,e3,_,w3⟩:=DataW.trod_int Tryz.underlying3 f3;obtain⟨z4,e4,_,w4⟩:=DataW.trod_int Tryz.underlying3 f4;obtain⟨z5,e5,_,w5⟩:=DataW.trod_int Tryz.underlying3 f5;obtain⟨a6,l6,k6,b6,e6,s6,d6⟩:=zgF Tryz.underlying22 Tryz.underlying3 kR f6;obtain⟨a7,l7,k7,b7,e7,s7,d7⟩:=zgF Tryz.underlying22 Tryz.underlying3 kR f7;obtain⟨a8,l8,k8,b8,e8,s8,d8⟩:=zgF Tryz.underlying22 Tryz.underlying3 kR f8;have g0:[c0]=[.int .i64 z0]:=e0;have g1:[c1]=[.int .i64 z1]:=e1;have g2:[c2]=[.int .i64 z2]:=e2;have g3:[c3]=[.int .i64 z3]:=e3;have g4:[c4]=[.int .i64 z4]:=e4;have g5:[c5]=[.int .i64 z5]:=e5;have g6:[c6]=[.slice a6 l6 k6]:=e6;have g7:[c7]=[.slice a7 l7 k7]:=e7;have g8:[c8]=[.slice a8 l8 k8]:=e8;cases g0;cases g1;cases g2;cases g3;cases g4;cases g5;cases g6;cases g7;cases g8;exact⟨z0,z1,z2,z3,z4,z5,_,_,_,b6,b7,b8,rfl,⟨i64_bounds w1,i64_bounds w2,i64_bounds w3,i64_bounds w4,i64_bounds w5⟩,⟨s6,fun z hz=>i64_bounds (d6 z hz)⟩,⟨s7,fun z hz=>i64_bounds (d7 z hz)⟩,⟨s8,fun z hz=>i64_bounds (d8 z hz)⟩⟩
theorem zoY {H:Hp} {v:Value} (h:zrS H v):PC Tryz.prog 9 #[v] H fun r G=>∃(kd cl least gn:Int) (ga va a1 a2:Option Addr) (gl gc vn vc N W D l1 c1 l2 c2:Nat) (vx vr:Value) (b1:Bool) (lg ll lr:List Int),
  r=.tuple #[zai kd cl (.slice ga gl gc) (.slice va vn vc),vx,vr,zdV (D:Int) least (.bool b1) (.slice a1 l1 c1) (.slice a2 l2 c2)] ∧
  zjm G (zai kd cl (.slice ga gl gc) (.slice va vn vc)) N (zkP lg N)∧RLL G vx (zha ll N W)∧IL G vr (zcL lr N)∧RQ G (.agg #[.bool b1,.slice a1 l1 c1,.slice a2 l2 c2]) (zq8 gn) ∧
  (1≤N∧N≤10)∧(1≤W∧W≤3)∧D≤4∧(1≤least∧least≤3):=by
 obtain⟨kd,n,w,dp,ls,gn,vg,vl,vr,lg,ll,lr,rfl,⟨hn,hw,hdp,hls,hgn⟩,⟨hg,hgb⟩,⟨hl,hlb⟩,hr,hrb⟩:=h;obtain⟨N,hN⟩:∃N:Nat,1+n % 10=(N:Int):=⟨(1+n % 10).toNat,by omega⟩;obtain⟨W,hW⟩:∃W:Nat,1+w % 3=(W:Int):=⟨(1+w % 3).toNat,by omega⟩;obtain⟨D,hD⟩:∃D:Nat,dp % 5=(D:Int):=⟨(dp % 5).toNat,by omega⟩;refine(zqR kd n w dp ls gn hn hw hdp hls hgn hg hgb hl hlb hr hrb hN hW).mono ?_;rintro r G ⟨kd',cl,ga,gl,gc,va,vn,vc,vx,vrows,b1,a1,l1,c1,a2,l2,c2,rfl,r1,r2,r3,r4⟩ hG;rw[hD];exact⟨kd',cl,1+ls % 3,gn,ga,va,a1,a2,gl,gc,vn,vc,N,W,D,l1,c1,l2,c2,vx,vrows,b1,lg,ll,lr,rfl,r1,r2,r3,r4,by omega,by omega,by omega,by omega⟩
theorem zsO (gn:Int):0≤zq8 gn∧ht (zq8 gn)≤5:=by
 have h5:=zle gn;unfold zq8;split
 ·split
  ·rename_i h;refine⟨?_,?_⟩
   ·have:zn4 gn<0:=Rat.not_le.1 fun k=>by have:=Rat.num_nonneg.2 k;omega
    grind
   ·rw[zl3];exact h5
  ·rename_i h;exact⟨Rat.num_nonneg.1 oM,h5⟩
 ·exact⟨Rat.le_refl,by rw[zcE];decide⟩
end
section
open Go.RowKit _root_.Go.Proofs.Tryz
theorem RLL.take1 {H:Hp} {a:Option Addr} {c:Nat} {X:List (List Rat)} (h:RLL H (.slice a X.length c) X) (k:Nat) (hk:k≤X.length):X.length≤c∧RLL H (.slice (if c=0 then a else a.map (·.add (0*1))) (k-0) (c-0)) (X.take k)∨X.length=0:=by
 obtain⟨vs,hv,hs⟩:=h;rcases hs.2 with ⟨h,_⟩ | ⟨b,off,cap,c',e,h,_⟩
 ·exact .inr h
 cases e;refine .inl ⟨h,vs.take k,⟨by rw[List.length_take,List.length_take,hv.1],fun j x y e1 e2=>?_⟩,?_⟩
 ·rw[List.getElem?_take]at e1 e2;split at e1
  ·rename_i hj;rw[if_pos hj]at e2;exact hv.2 _ x y e1 e2
  ·cases e1
 ·have:=hs.sub 0 k (Nat.zero_le _) hk h;rw[show (vs.drop (0*1)).take ((k-0)*1)=vs.take k by rw[Nat.mul_one,Nat.sub_zero,Nat.zero_mul,List.drop_zero]]at this;rw[List.length_take,Nat.min_eq_left hk];exact this
theorem zrd {H:Hp} {b:Nat} {T:TypeId} {s:Int}:PW prog 34 #[.pointer (some ⟨b,0,none⟩)] H [(b,T,[.int .u64 s])] fun v ow _=>v=.int .u64 s∧ow=[(b,T,[.int .u64 s])]:=by
 refine PW.body tO func34 rfl kR ntmps34 rfl rfl ?_;refine uR ?_;refine EVL.eqnilP (e:=164) kR rfl rfl rfl rfl rfl ?_;refine uR ?_;refine RP ?_;refine EVL.loadOwn tO rfl rfl rfl rfl rfl rfl (0) rfl (rfl) rfl rfl ?_;refine uR ?_;exact⟨rfl,rfl⟩
structure GT where
 cl:Int
 deep:Int
 least:Int
 g:Rat
 b1:Bool
 p1:Option Addr
 l1:Nat
 c1:Nat
 q1:Option Addr
 l2:Nat
 c2:Nat
 vx:Value
 X:List (List Rat)
 vr:Value
 rows:List Int
structure GT.Ok (q:GT) (H:Hp) (W:Nat):Prop where
 xs:RLL H q.vx q.X
 wide:∀x,x∈q.X→x.length=W∧∀r,r∈x→ht r≤5
 len:q.X.length≤20
 cls:q.cl≤12
 rows:IL H q.vr q.rows
 rlen:0<q.rows.length∧q.rows.length≤20
 gq:RQ H (.agg #[.bool q.b1,.slice q.p1 q.l1 q.c1,.slice q.q1 q.l2 q.c2]) q.g
 small:ht q.g≤10
set_option maxRecDepth 100000 in
theorem treeGrows_pc {H:Hp} {vx:Value} (seed some' bad at':Int) (hx:zrS H vx) (hsd:0≤seed) (hso:zhx some') (hbd:zhx bad) (hat:zhx at'):PC prog 4 #[vx,.int .u64 seed,.int .i64 some',.int .i64 bad,.int .i64 at'] H fun r _=>r=.bool true:=by
 have ho1:=zoY hx;obtain⟨_,_,_,_,_,_,_,_,_,_,_,_,rfl,_⟩:=hx;refine BD func4 ntmps4 ?_;refine uR ?_;refine vA (ho1) ?_;rintro r1 G1 ⟨kd,cl,least,gn,ga,va,p1,q1,gl,gc,vn,vc,N,W,D,l1,c1,l2,c2,vX,vR,b1,lg,ll,lr,rfl,hg1,hX1,hr1,hq1,hN,hW,hD,hl⟩ hG1;obtain⟨d,hd,hR,hcl4⟩:=hg1.gd (zf5 _ _) (zpo N)
 have hkd:(kd=d.kd∧cl=d.cl)∧∀c,d.Rc G1 (zai d.kd c (.slice ga gl gc) (.slice va vn vc)) c:=by
  cases d with
  | v qs=>obtain⟨s,e,h⟩:=hR;cases e;exact⟨⟨rfl,rfl⟩,fun c=>⟨_,rfl,h⟩⟩
  | c C ls=>obtain⟨s,e,h⟩:=hR;cases e;exact⟨⟨rfl,rfl⟩,fun c=>⟨_,rfl,h⟩⟩
 obtain⟨⟨rfl,rfl⟩,hRc⟩:=hkd;have hlen:=zhb ll N W;have hrows:=fun x hx=>zq6 (l:=ll) (n:=N) (w:=W) x hx;generalize hXe:zha ll N W=X at *
 have hrl:=znN (l:=lr) hN.1 hN.2;generalize zcL lr N=rows at *
 obtain⟨hg0,hg5⟩:=zsO gn;generalize zq8 gn=g at *
 obtain⟨xa,xc,rfl⟩:=hX1.val;obtain⟨ra,rc,rfl⟩:=SlC.val hr1;have hp1:=zcp bad 30 hbd oM oM;have hm0:0≤bad % 30∧bad % 30<30:=by omega
 generalize bad % 30=m at *
 have hp2:=zcp at' 3 hat oM oM;have hq2:0≤at' % 3∧at' % 3<3:=by omega
 generalize at' % 3=pa at *
 have hp3:=zcp some' 5 hso oM oM;generalize some' % 5=sk at *
 refine uR ?_;refine CV hp1 ?_
 (try refine zs9 ?_);refine EV.meetK (ι:=GT) [1,2] [] (fun q=>[(11,.p 11 0),(12,.v q.vx),(13,.v q.vr),(14,.p 14 0)]) (fun q=>[(11,27,[.int .i64 d.kd,.int .i64 q.cl,.slice ga gl gc,.slice va vn vc]),(14,37,[.int .i64 q.deep,.int .i64 q.least,.bool q.b1,.slice q.p1 q.l1 q.c1,.slice q.q1 q.l2 q.c2])]) (fun _=>[]) (fun q G=>G1.Le G∧q.Ok G W) rfl rfl (fun _=>rfl) ?_ ?_
 ·have hk0:GT.Ok ⟨d.cl,(D:Int),least,g,b1,p1,l1,c1,q1,l2,c2,.slice xa X.length xc,X,.slice ra rows.length rc,rows⟩ G1 W:=⟨hX1,hrows,by dsimp only;omega,by dsimp only;omega,hr1,by dsimp only;omega,hq1,by dsimp only;omega⟩;have h6:m=0∨m=1∨m=2∨m=3∨m=4∨m=5∨6≤m:=by omega
  rcases h6 with rfl | rfl | rfl | rfl | rfl | rfl | h5
  ·try refine uR ?_
   refine EVL.lit0 tO rfl rfl rfl rfl rfl rfl rfl fun g2=>?_;refine uR ?_;refine EVL.appendR tO rfl rfl rfl rfl rfl rfl rfl rfl rfl rfl rfl rfl rfl [] [(g2,3,[])] [] rfl (zaJ.full (m:=0) rfl oM) hr1 (zlm rows) oM ?_;intro v2 ow2 hown2;rw[Nat.zero_add,List.nil_append]at hown2;obtain⟨a2',c2',rfl⟩:=hown2.val;refine uR ?_;refine EVL.app1 tO rfl rfl rfl rfl rfl rfl rfl rfl rfl rfl rfl rfl rfl rfl rfl rfl rfl rfl rfl (fun _=>rfl) (ow2) ([]) (rfl) (hown2) oM fun _=>?_;intro v3 ow3 hown3;obtain⟨a3',c3',rfl⟩:=hown3.val;(first|refine EVL.publishL [] ow3 [] (rfl) hown3 fun G5 hG5 hs5=>?_|refine EV.publishL [] ow3 [] (rfl) hown3 fun G5 hG5 hs5=>?_)
   have hil3:IL G5 (.slice a3' (rows.length+1) c3') (rows++[at']):=by
    have:SlC G5 (.slice a3' (rows.length+1) c3') (rows++[at']).length 1 ((rows++[at']).map iv):=by rw[List.length_append,List.map_append];exact hs5
    exact this
   refine uR ?_;exact⟨⟨d.cl,(D:Int),least,g,b1,p1,l1,c1,q1,l2,c2,.slice xa X.length xc,X,.slice a3' (rows.length+1) c3',rows++[at']⟩,⟨rfl,rfl,rfl,rfl,trivial⟩,sB,⟨rfl,rfl,trivial⟩,trivial,rfl,hG5,⟨hX1.mono hG5,hrows,hk0.len,hk0.cls,hil3,by dsimp only;rw[List.length_append,List.length_singleton];omega,RQ.mono hq1 hG5,hk0.small⟩⟩
  ·try refine uR ?_
   exact⟨⟨d.cl,(D:Int),at',g,b1,p1,l1,c1,q1,l2,c2,.slice xa X.length xc,X,.slice ra rows.length rc,rows⟩,⟨rfl,rfl,rfl,rfl,trivial⟩,sB,⟨rfl,rfl,trivial⟩,trivial,rfl,Hp.Le.refl _,⟨hX1,hrows,hk0.len,hk0.cls,hr1,hk0.rlen,hq1,hk0.small⟩⟩
  ·try refine uR ?_
   exact⟨⟨d.cl,at',least,g,b1,p1,l1,c1,q1,l2,c2,.slice xa X.length xc,X,.slice ra rows.length rc,rows⟩,⟨rfl,rfl,rfl,rfl,trivial⟩,sB,⟨rfl,rfl,trivial⟩,trivial,rfl,Hp.Le.refl _,⟨hX1,hrows,hk0.len,hk0.cls,hr1,hk0.rlen,hq1,hk0.small⟩⟩
  ·repeat (first|refine RUN ?_|refine CV (hp2) ?_|refine CE (hp2) ?_)
   exact⟨⟨pa,(D:Int),least,g,b1,p1,l1,c1,q1,l2,c2,.slice xa X.length xc,X,.slice ra rows.length rc,rows⟩,⟨rfl,rfl,rfl,rfl,trivial⟩,sB,⟨rfl,rfl,trivial⟩,trivial,rfl,Hp.Le.refl _,⟨hX1,hrows,hk0.len,by dsimp only;omega,hr1,hk0.rlen,hq1,hk0.small⟩⟩
  ·try refine uR ?_
   rw[show IntKind.i64.wrap ((X.length:Int)-1)=((X.length-1:Nat):Int) by rw[IntKind.wrap_i64];omega];rcases hX1.take1 (X.length-1) oM with ⟨hcap,hXd⟩ | h0
   case inr=>omega
   refine EVL.slc (te':=Tryz.te25) tO rfl rfl rfl rfl rfl rfl rfl rfl 0 (X.length-1) (.inl ⟨rfl,rfl⟩) (.inr ⟨_,IntKind.i64,rfl,rfl⟩) (Nat.zero_le _) oM hcap ?_;refine uR ?_;exact⟨⟨d.cl,(D:Int),least,g,b1,p1,l1,c1,q1,l2,c2,_,X.take (X.length-1),.slice ra rows.length rc,rows⟩,⟨rfl,rfl,rfl,rfl,trivial⟩,sB,⟨rfl,rfl,trivial⟩,trivial,rfl,Hp.Le.refl _,⟨by have:=hXd;exact this,fun x hx=>hrows x (List.mem_of_mem_take hx),by dsimp only;rw[List.length_take];omega,hk0.cls,hr1,hk0.rlen,hq1,hk0.small⟩⟩
  ·try refine uR ?_
   refine vA (zt8 at' hat) ?_;intro r6 G6 hr6 hG6;obtain⟨a6,l6,c6,a7,l7,c7,rfl,_⟩:=id hr6;refine uR ?_;have hn5:=zle at';exact⟨⟨d.cl,(D:Int),least,zn4 at',_,a6,l6,c6,a7,l7,c7,.slice xa X.length xc,X,.slice ra rows.length rc,rows⟩,⟨rfl,rfl,rfl,rfl,trivial⟩,sB,⟨rfl,rfl,trivial⟩,trivial,rfl,hG6,⟨hX1.mono hG6,hrows,hk0.len,hk0.cls,SlC.mono hr1 hG6,hk0.rlen,hr6,by dsimp only;omega⟩⟩
  ·try refine uR ?_
   rw[show (m == 0)=false from beq_eq_false_iff_ne.2 (by omega)];refine uR ?_;rw[show (m == 1)=false from beq_eq_false_iff_ne.2 (by omega)];refine uR ?_;rw[show (m == 2)=false from beq_eq_false_iff_ne.2 (by omega)];refine uR ?_;rw[show (m == 3)=false from beq_eq_false_iff_ne.2 (by omega)];refine uR ?_;rw[show (m == 4)=false from beq_eq_false_iff_ne.2 (by omega)];refine uR ?_;rw[show (m == 5)=false from beq_eq_false_iff_ne.2 (by omega)];refine uR ?_;exact⟨⟨d.cl,(D:Int),least,g,b1,p1,l1,c1,q1,l2,c2,.slice xa X.length xc,X,.slice ra rows.length rc,rows⟩,⟨rfl,rfl,rfl,rfl,trivial⟩,sB,⟨rfl,rfl,trivial⟩,trivial,rfl,Hp.Le.refl _,hk0⟩
 ·rintro⟨cl9,deep9,least9,g9,b9,p9,l9,c9,q9,l8,c8,vx9,X9,vr9,rows9⟩ G3 ⟨hG3,hX9,hw9,hl9,hc9,hr9,hrl9,hq9,hg9⟩;dsimp only at hX9 hw9 hl9 hc9 hr9 hrl9 hq9 hg9;obtain⟨t,e,hPg,hRg,hsome,hsm,htl⟩:=zoe (H:=G3) (deep:=deep9) (least:=least9) hd ((hRc cl9).mono hG3) hc9 hX9 hq9 hg9 hw9 hl9 oM oM hr9 hrl9.1 hrl9.2;have hin:=fun (G:Hp) (hG:G3.Le G)=>hd.inGoalC (H:=G) oM ((hRc cl9).mono (hG3.trans hG));have hrw:=fun (G:Hp) (hG:G3.Le G)=>zjT (hX9.mono hG) oM (fun x hx=>⟨by rw[(hw9 x hx).1];omega,fun q hq=>zf6 ((hw9 x hx).2 q hq) oM⟩);have hgr9:rq g9:=by unfold rq;omega
  have hru:=fun (G:Hp) (hG:G3.Le G)=>zng (deep:=deep9) (least:=least9) (RQ.mono hq9 hG) hgr9;obtain⟨xa9,xc9,rfl⟩:=hX9.val;obtain⟨ra9,rc9,rfl⟩:=SlC.val hr9;refine uR ?_;apply EV.drawn 13 kR kR;intro xv yw;(repeat refine' DD ?_);refine' vB (cO func10) (fun G hG hd=>hin G hG) (fun _ _ _ h k=>(by obtain⟨_,_,_,_,_,_,e,hp⟩:=h;exact⟨_,_,_,_,_,_,e,hp.mono k⟩)) ?_;rotate_left;(repeat refine' DD ?_);refine' vB (cO func12) (fun G hG hd=>hrw G hG) (fun _ _ _ h k=>QLL.mono h k) ?_;rotate_left;(repeat refine' DD ?_);refine' vC (cO func11) (fun G hG hd=>hru G hG) ?_;rotate_left;refine' vB (cO func13) (fun G hG hd=>hPg G _ _ _ (hd.tail.head kR) (hd.head kR) (SlC.mono hr9 hG)) (fun _ _ _ h k=>TPp.mono h k) ?_;rotate_left;refine' DJ.copy (7) (by first|exact .inl rfl|exact .inr rfl) rfl rfl rfl id rfl kR ?_;rotate_left;refine' DJ.extract (7) rfl rfl rfl rfl rfl kR (fun G hd=>(by obtain⟨_,e,_⟩:=hd.head kR;exact⟨_,e,Nat.zero_lt_succ _⟩)) ?_;rotate_left;refine' DJ.extract (7) rfl rfl rfl rfl rfl kR (fun G hd=>(by obtain⟨_,e,_⟩:=hd.head kR;exact⟨_,e,Nat.lt_succ_self _⟩)) ?_;rotate_left;(repeat refine' DD ?_);refine' DJ.storeD tO rfl rfl rfl rfl (7) (zcr 0) rfl rfl (11) rfl rfl kR kR rfl (fun G hd=>(by obtain⟨_,e,_,_,_,rfl,_⟩:=hd.head kR;rw[e];exact⟨rfl,rfl⟩)) ?_;rotate_left;(refine DJ.nil (fun G5 hG5 hF5=>?_);(case hS|hS2=>rfl));obtain⟨⟨_,e5,ta5,tc5,css5,rfl,hns5,hsl5⟩,_⟩:=hF5;have hT5:zer G5 [.int .i64 t.kd,.int .i64 t.cl,.int .i64 t.w,.slice ta5 t.ns.length tc5] t.kd t.cl t.w t.ns:=⟨ta5,tc5,css5,rfl,hns5,hsl5⟩;rw[e5];rw[show zcr 1 (Value.tuple #[.agg ([.int .i64 t.kd,.int .i64 t.cl,.int .i64 t.w,.slice ta5 t.ns.length tc5]:List Value).toArray,.int .i64 e])=.int .i64 e from rfl,show zac (zcr 0 (Value.tuple #[.agg ([.int .i64 t.kd,.int .i64 t.cl,.int .i64 t.w,.slice ta5 t.ns.length tc5]:List Value).toArray,.int .i64 e]))=[.int .i64 t.kd,.int .i64 t.cl,.int .i64 t.w,.slice ta5 t.ns.length tc5] from rfl];refine uR ?_;refine vA (hRg _ hG5) ?_;rintro r6 G6 ⟨_,rfl,ta6,tc6,css6,rfl,hns6,hsl6⟩ hG6;have hT6:zgi G6 [.int .i64 t.kd,.int .i64 t.cl,.int .i64 t.w,.slice ta6 t.ns.length tc6] t.kd t.cl t.w t.ns:=⟨ta6,tc6,css6,rfl,hns6,hsl6⟩;have hout:=fun (G:Hp) (hG:G6.Le G)=>zhX (hT5.mono (hG6.trans hG)) hsm oM;have hH6:=hG5.trans hG6;refine uR ?_;apply EV.drawn 14 kR kR;intro xv yw;(repeat (first|refine' DD ?_|(refine' DC (znh) (h:=?_);rotate_left)));rw[bne_self_eq_false];(repeat refine' DD ?_);refine' vB (cO func30) (fun G hG hd=>hout G hG) (fun _ _ _ h k=>(by obtain⟨_,e,h1⟩:=h;exact⟨_,e,h1.mono k⟩)) ?_;rotate_left;(repeat refine' DD ?_);refine' DJ.callS rfl rfl rfl rfl rfl (cO func29) (fun G hG hd=>(by obtain⟨_,e8,h1⟩:=hd.head kR;rw[e8];exact zhc h1 (hT6.mono hG) oM hsm)) ?_;rotate_left;(repeat refine' DD ?_);(refine DJ.nil (fun G7 hG7 hF7=>?_);(case hS|hS2=>rfl));have hH7:=hH6.trans hG7;refine uR ?_;refine EVL.callO rfl rfl rfl rfl rfl (zr9 seed) ?_;rintro vd owd ⟨bd,rfl,rfl⟩
  repeat (first|refine RUN ?_|refine CV (hp3) ?_|refine CE (hp3) ?_)
  refine EVL.eqnilP (e:=164) kR rfl rfl rfl rfl rfl ?_;refine uR ?_;(first|refine EVL.unbox (105) rfl fun gcc=>?_|refine EV.unbox (105) rfl fun gcc=>?_);(first|refine EVL.swapOw ([(gcc,_,_)]) ([(bd,_,_)]) (rfl) ?_|refine EV.swapOw ([(gcc,_,_)]) ([(bd,_,_)]) (rfl) ?_);(first|refine EVL.unbox (11) rfl fun gg=>?_|refine EV.unbox (11) rfl fun gg=>?_);(first|refine EVL.unbox (14) rfl fun gr=>?_|refine EV.unbox (14) rfl fun gr=>?_);(first|refine EVL.publish [] _ rfl fun G8 hG8 hb8=>?_|refine EV.publish [] _ rfl fun G8 hG8 hb8=>?_);(first|refine EVL.publish [] _ rfl fun G9 hG9 hb9=>?_|refine EV.publish [] _ rfl fun G9 hG9 hb9=>?_);(first|refine EVL.asRo 14 rfl (hG9 _ _ hb8) ?_|refine EV.asRo 14 rfl (hG9 _ _ hb8) ?_);(first|refine EVL.asRo 11 rfl hb9 ?_|refine EV.asRo 11 rfl hb9 ?_);obtain⟨t2,e2,s2,hPS,hRS,hsm2,htl2,hok2⟩:=hsome sk seed hsd;have hK9:G3.Le G9:=hH7.trans (hG8.trans hG9);refine EV.meetK (ι:=Option Addr × Nat × TypeId) [11,12,13,14,19,20,21] [] (fun q=>[(22,.p 22 0),(23,.v (.int .i64 e2))]) (fun q=>[(22,58,[.int .i64 t2.kd,.int .i64 t2.cl,.int .i64 t2.w,.slice q.1 t2.ns.length q.2.1])]) (fun q=>[(bd,q.2.2,[.int .u64 s2]),(gcc,91,[.int .u64 seed])]) (fun q G=>G9.Le G∧zer G [.int .i64 t2.kd,.int .i64 t2.cl,.int .i64 t2.w,.slice q.1 t2.ns.length q.2.1] t2.kd t2.cl t2.w t2.ns) rfl rfl (fun _=>rfl) ?_ ?_
  ·refine EVG.start (Fits G9) none ?_;refine IR 0 ?_ rfl;refine IV 2 ?_;refine IV 4 ?_;refine IR 5 ?_ rfl;refine IV 7 ?_;refine IV 8 ?_;refine EVG.two 1 13 (zbl (Hp.Le.refl _)) kR rfl rfl ?_ ?_
   ·refine vA (hin _ (hK9.trans (Hp.Le.refl _))) ?_;rintro _ Ga ⟨la1,ln1,lc1,va1,vn1,vc1,rfl,hPa⟩ hGa;refine EVL.nil ⟨rfl,?_⟩;refine EVG.two 3 13 (zbl (hGa)) kR rfl rfl ?_ ?_
    ·refine vA (hrw _ (hK9.trans (hGa))) ?_;rintro vb Gb hQb hGb;obtain⟨xb,xcb,rfl⟩:=hQb.val;refine EVL.nil ⟨rfl,?_⟩;refine EVG.two 6 13 (zbl (hGa.trans hGb)) kR rfl rfl ?_ ?_
     ·refine vA (hru _ (hK9.trans (hGa.trans hGb))) ?_;rintro _ Gc rfl hGc;refine EVL.nil ⟨rfl,?_⟩;refine EVG.two 9 13 (zbl (hGa.trans (hGb.trans hGc))) kR rfl rfl ?_ ?_
      ·refine vW ([(bd,164,[.int .u64 seed])]) ([(gcc,_,_)]) (hPS Gc _ _ _ _ _ ⟨la1,ln1,lc1,va1,vn1,vc1,rfl,hPa.mono (hGb.trans hGc)⟩ (hQb.mono hGc) (SlC.mono hr9 (hK9.trans (hGa.trans (hGb.trans hGc))))) ?_;rintro _ _ Gd ⟨⟨_,rfl,ta8,tc8,css8,rfl,hns8,hsl8⟩,T8,rfl⟩ hGd;refine EVL.nil ⟨rfl,?_⟩;refine IV 10 ?_;refine IV 11 ?_;refine IV 12 ?_;refine EVG.one 13 (zbl (hGa.trans (hGb.trans (hGc.trans hGd)))) kR rfl ?_
       (try refine zcj ?_);refine EVL.nil ⟨rfl,?_⟩;refine EVG.one 14 (zbl (hGa.trans (hGb.trans (hGc.trans hGd)))) kR rfl ?_
       (try refine zcj ?_);refine EVL.nil ⟨rfl,?_⟩;refine EVG.one 15 (zbl (hGa.trans (hGb.trans (hGc.trans hGd)))) kR rfl ?_
       (try refine zcj ?_);refine EVL.nil ⟨rfl,?_⟩;refine EVG.nil (zbl (hGa.trans (hGb.trans (hGc.trans hGd)))) kR ?_;exact⟨(ta8,tc8,T8),⟨rfl,rfl,trivial⟩,sB,⟨rfl,trivial⟩,trivial,rfl,hGa.trans (hGb.trans (hGc.trans hGd)),ta8,tc8,css8,rfl,hns8,hsl8⟩
      ·(try refine zcj ?_);refine EVL.nil ⟨rfl,?_⟩;refine EVG.one 9 (zbl (hGa.trans (hGb.trans hGc))) kR rfl ?_;refine vW ([(bd,164,[.int .u64 seed])]) ([(gcc,_,_)]) (hPS Gc _ _ _ _ _ ⟨la1,ln1,lc1,va1,vn1,vc1,rfl,hPa.mono (hGb.trans hGc)⟩ (hQb.mono hGc) (SlC.mono hr9 (hK9.trans (hGa.trans (hGb.trans hGc))))) ?_;rintro _ _ Gd ⟨⟨_,rfl,ta8,tc8,css8,rfl,hns8,hsl8⟩,T8,rfl⟩ hGd;refine EVL.nil ⟨rfl,?_⟩;refine IV 10 ?_;refine IV 11 ?_;refine IV 12 ?_;refine EVG.one 14 (zbl (hGa.trans (hGb.trans (hGc.trans hGd)))) kR rfl ?_
       (try refine zcj ?_);refine EVL.nil ⟨rfl,?_⟩;refine EVG.one 15 (zbl (hGa.trans (hGb.trans (hGc.trans hGd)))) kR rfl ?_
       (try refine zcj ?_);refine EVL.nil ⟨rfl,?_⟩;refine EVG.nil (zbl (hGa.trans (hGb.trans (hGc.trans hGd)))) kR ?_;exact⟨(ta8,tc8,T8),⟨rfl,rfl,trivial⟩,sB,⟨rfl,trivial⟩,trivial,rfl,hGa.trans (hGb.trans (hGc.trans hGd)),ta8,tc8,css8,rfl,hns8,hsl8⟩
     ·(try refine zcj ?_);refine EVL.nil ⟨rfl,?_⟩;refine EVG.one 6 (zbl (hGa.trans hGb)) kR rfl ?_;refine vA (hru _ (hK9.trans (hGa.trans hGb))) ?_;rintro _ Gc rfl hGc;refine EVL.nil ⟨rfl,?_⟩;refine EVG.one 9 (zbl (hGa.trans (hGb.trans hGc))) kR rfl ?_;refine vW ([(bd,164,[.int .u64 seed])]) ([(gcc,_,_)]) (hPS Gc _ _ _ _ _ ⟨la1,ln1,lc1,va1,vn1,vc1,rfl,hPa.mono (hGb.trans hGc)⟩ (hQb.mono hGc) (SlC.mono hr9 (hK9.trans (hGa.trans (hGb.trans hGc))))) ?_;rintro _ _ Gd ⟨⟨_,rfl,ta8,tc8,css8,rfl,hns8,hsl8⟩,T8,rfl⟩ hGd;refine EVL.nil ⟨rfl,?_⟩;refine IV 10 ?_;refine IV 11 ?_;refine IV 12 ?_;refine EVG.one 14 (zbl (hGa.trans (hGb.trans (hGc.trans hGd)))) kR rfl ?_
      (try refine zcj ?_);refine EVL.nil ⟨rfl,?_⟩;refine EVG.one 15 (zbl (hGa.trans (hGb.trans (hGc.trans hGd)))) kR rfl ?_
      (try refine zcj ?_);refine EVL.nil ⟨rfl,?_⟩;refine EVG.nil (zbl (hGa.trans (hGb.trans (hGc.trans hGd)))) kR ?_;exact⟨(ta8,tc8,T8),⟨rfl,rfl,trivial⟩,sB,⟨rfl,trivial⟩,trivial,rfl,hGa.trans (hGb.trans (hGc.trans hGd)),ta8,tc8,css8,rfl,hns8,hsl8⟩
    ·(try refine zcj ?_);refine EVL.nil ⟨rfl,?_⟩;refine EVG.one 3 (zbl (hGa)) kR rfl ?_;refine vA (hrw _ (hK9.trans (hGa))) ?_;rintro vb Gb hQb hGb;obtain⟨xb,xcb,rfl⟩:=hQb.val;refine EVL.nil ⟨rfl,?_⟩;refine EVG.one 6 (zbl (hGa.trans hGb)) kR rfl ?_;refine vA (hru _ (hK9.trans (hGa.trans hGb))) ?_;rintro _ Gc rfl hGc;refine EVL.nil ⟨rfl,?_⟩;refine EVG.one 9 (zbl (hGa.trans (hGb.trans hGc))) kR rfl ?_;refine vW ([(bd,164,[.int .u64 seed])]) ([(gcc,_,_)]) (hPS Gc _ _ _ _ _ ⟨la1,ln1,lc1,va1,vn1,vc1,rfl,hPa.mono (hGb.trans hGc)⟩ (hQb.mono hGc) (SlC.mono hr9 (hK9.trans (hGa.trans (hGb.trans hGc))))) ?_;rintro _ _ Gd ⟨⟨_,rfl,ta8,tc8,css8,rfl,hns8,hsl8⟩,T8,rfl⟩ hGd;refine EVL.nil ⟨rfl,?_⟩;refine IV 10 ?_;refine IV 11 ?_;refine IV 12 ?_;refine EVG.one 14 (zbl (hGa.trans (hGb.trans (hGc.trans hGd)))) kR rfl ?_
     (try refine zcj ?_);refine EVL.nil ⟨rfl,?_⟩;refine EVG.one 15 (zbl (hGa.trans (hGb.trans (hGc.trans hGd)))) kR rfl ?_
     (try refine zcj ?_);refine EVL.nil ⟨rfl,?_⟩;refine EVG.nil (zbl (hGa.trans (hGb.trans (hGc.trans hGd)))) kR ?_;exact⟨(ta8,tc8,T8),⟨rfl,rfl,trivial⟩,sB,⟨rfl,trivial⟩,trivial,rfl,hGa.trans (hGb.trans (hGc.trans hGd)),ta8,tc8,css8,rfl,hns8,hsl8⟩
   ·(try refine zcj ?_);refine EVL.nil ⟨rfl,?_⟩;refine EVG.one 1 (zbl (Hp.Le.refl _)) kR rfl ?_;refine vA (hin _ (hK9.trans (Hp.Le.refl _))) ?_;rintro _ Ga ⟨la1,ln1,lc1,va1,vn1,vc1,rfl,hPa⟩ hGa;refine EVL.nil ⟨rfl,?_⟩;refine EVG.one 3 (zbl (hGa)) kR rfl ?_;refine vA (hrw _ (hK9.trans (hGa))) ?_;rintro vb Gb hQb hGb;obtain⟨xb,xcb,rfl⟩:=hQb.val;refine EVL.nil ⟨rfl,?_⟩;refine EVG.one 6 (zbl (hGa.trans hGb)) kR rfl ?_;refine vA (hru _ (hK9.trans (hGa.trans hGb))) ?_;rintro _ Gc rfl hGc;refine EVL.nil ⟨rfl,?_⟩;refine EVG.one 9 (zbl (hGa.trans (hGb.trans hGc))) kR rfl ?_;refine vW ([(bd,164,[.int .u64 seed])]) ([(gcc,_,_)]) (hPS Gc _ _ _ _ _ ⟨la1,ln1,lc1,va1,vn1,vc1,rfl,hPa.mono (hGb.trans hGc)⟩ (hQb.mono hGc) (SlC.mono hr9 (hK9.trans (hGa.trans (hGb.trans hGc))))) ?_;rintro _ _ Gd ⟨⟨_,rfl,ta8,tc8,css8,rfl,hns8,hsl8⟩,T8,rfl⟩ hGd;refine EVL.nil ⟨rfl,?_⟩;refine IV 10 ?_;refine IV 11 ?_;refine IV 12 ?_;refine EVG.one 14 (zbl (hGa.trans (hGb.trans (hGc.trans hGd)))) kR rfl ?_
    (try refine zcj ?_);refine EVL.nil ⟨rfl,?_⟩;refine EVG.one 15 (zbl (hGa.trans (hGb.trans (hGc.trans hGd)))) kR rfl ?_
    (try refine zcj ?_);refine EVL.nil ⟨rfl,?_⟩;refine EVG.nil (zbl (hGa.trans (hGb.trans (hGc.trans hGd)))) kR ?_;exact⟨(ta8,tc8,T8),⟨rfl,rfl,trivial⟩,sB,⟨rfl,trivial⟩,trivial,rfl,hGa.trans (hGb.trans (hGc.trans hGd)),ta8,tc8,css8,rfl,hns8,hsl8⟩
  ·rintro⟨ta8,tc8,T8⟩ G10 ⟨hG10,hT8⟩;dsimp only at hT8;have hK10:=hK9.trans hG10;refine uR ?_;(first|refine EVL.swapOw ([(bd,_,_)]) ([(gcc,_,_)]) (rfl) ?_|refine EV.swapOw ([(bd,_,_)]) ([(gcc,_,_)]) (rfl) ?_);refine vW ([(gcc,91,[.int .u64 seed])]) ([(bd,_,_)]) (hRS _ hK10 _ _) ?_;rintro _ _ G11 ⟨⟨_,rfl,ta9,tc9,css9,rfl,hns9,hsl9⟩,T9,rfl⟩ hG11;have hT9:zgi G11 [.int .i64 t2.kd,.int .i64 t2.cl,.int .i64 t2.w,.slice ta9 t2.ns.length tc9] t2.kd t2.cl t2.w t2.ns:=⟨ta9,tc9,css9,rfl,hns9,hsl9⟩;have hou:=fun (G:Hp) (hG:G11.Le G)=>zhX (hT8.mono (hG11.trans hG)) hsm2 oM;have hst:=fun (G:Hp)=>zrd (H:=G) (b:=bd) (T:=T8) (s:=s2);have hK11:=hK10.trans hG11;have hfin:=fun (G:Hp)=>zkz (H:=G) (deep:=deep9) (least:=least9) (g:=g9) (by unfold sm;omega);have hrfn:=fun (G:Hp) (hG:G11.Le G)=>zg8 (deep:=deep9) (least:=least9) (RQ.mono hq9 (hK11.trans hG));by_cases he2:e2=0
   ·subst he2;have hpck:=fun (G:Hp) (hG:G11.Le G)=>zfd (hT8.mono (hG11.trans hG)) (hok2 rfl);refine uR ?_;apply EV.drawn 36 kR kR;intro xv yw;(repeat refine' DD ?_);rw[show ((0:Int) == 0)=true from rfl];(repeat refine' DD ?_);refine' vB (cO func30) (fun G hG hd=>hou G hG) (fun _ _ _ h k=>(by obtain⟨_,e,h1⟩:=h;exact⟨_,e,h1.mono k⟩)) ?_;rotate_left;(repeat refine' DD ?_);refine' DJ.callS rfl rfl rfl rfl rfl (cO func29) (fun G hG hd=>(by obtain⟨_,e8,h1⟩:=hd.head kR;rw[e8];exact zhc h1 (hT9.mono hG) oM hsm2)) ?_;rotate_left;(repeat refine' DD ?_);(refine' DJ.callR rfl rfl rfl rfl rfl 1 rfl (by simp) (cO func34) (fun G'=>hst G') ?_;rotate_left);(repeat (first|refine' DD ?_|refine' vN ?_|refine' vF ?_));refine' DJ.ofVal (zaa.loadOwn tO rfl rfl rfl rfl (0) rfl (rfl) rfl rfl) rfl rfl rfl ?_;rotate_left;(repeat refine' DD ?_);rw[beq_self_eq_true s2];(repeat refine' DD ?_);rw[show ((0:Int) != 0)=false from rfl];(repeat refine' DD ?_);refine' vC (cO func15) (fun G hG hd=>hpck G hG) ?_;rotate_left;(repeat refine' DD ?_);rw[show ((0:Int) == 0)=true from rfl];(repeat refine' DD ?_);refine' vC (cO func11) (fun G hG hd=>hru G (hK11.trans hG)) ?_;rotate_left;(repeat refine' DD ?_);refine' vC (cO func35) (fun G hG hd=>hfin G) ?_;rotate_left;(repeat refine' DD ?_);refine' vC (cO func36) (fun G hG hd=>hrfn G hG) ?_;rotate_left;refine' DJ.ofVal (zaa.eqb rfl rfl rfl rfl kR) rfl rfl rfl ?_;rotate_left;rw[beq_self_eq_true (decide (zeZ deep9 least9 g9))];(repeat refine' DD ?_);(refine DJ.nil (fun G hG hF=>?_);(case hS|hS2=>rfl));refine uR ?_;rfl
   ·have he2':(e2 != 0)=true:=bne_iff_ne.2 he2;refine uR ?_;apply EV.drawn 36 kR kR;intro xv yw;(repeat refine' DD ?_);rw[beq_self_eq_true e2];(repeat refine' DD ?_);refine' vB (cO func30) (fun G hG hd=>hou G hG) (fun _ _ _ h k=>(by obtain⟨_,e,h1⟩:=h;exact⟨_,e,h1.mono k⟩)) ?_;rotate_left;(repeat refine' DD ?_);refine' DJ.callS rfl rfl rfl rfl rfl (cO func29) (fun G hG hd=>(by obtain⟨_,e8,h1⟩:=hd.head kR;rw[e8];exact zhc h1 (hT9.mono hG) oM hsm2)) ?_;rotate_left;(repeat refine' DD ?_);(refine' DJ.callR rfl rfl rfl rfl rfl 1 rfl (by simp) (cO func34) (fun G'=>hst G') ?_;rotate_left);(repeat (first|refine' DD ?_|refine' vN ?_|refine' vF ?_));refine' DJ.ofVal (zaa.loadOwn tO rfl rfl rfl rfl (0) rfl (rfl) rfl rfl) rfl rfl rfl ?_;rotate_left;(repeat refine' DD ?_);rw[beq_self_eq_true s2];(repeat refine' DD ?_);rw[he2'];(repeat refine' DD ?_);refine' vC (cO func11) (fun G hG hd=>hru G (hK11.trans hG)) ?_;rotate_left;(repeat refine' DD ?_);refine' vC (cO func35) (fun G hG hd=>hfin G) ?_;rotate_left;(repeat refine' DD ?_);refine' vC (cO func36) (fun G hG hd=>hrfn G hG) ?_;rotate_left;refine' DJ.ofVal (zaa.eqb rfl rfl rfl rfl kR) rfl rfl rfl ?_;rotate_left;rw[beq_self_eq_true (decide (zeZ deep9 least9 g9))];(repeat refine' DD ?_);(refine DJ.nil (fun G hG hF=>?_);(case hS|hS2=>rfl));refine uR ?_;rfl
end
section
open Go Go.RowKit
theorem zhV {P:Program} {W:World} {n:String} {d:DataW Unit}:∀{l:List (String × DataW Unit)} {ps:List MemPlace},DataW.LaidVars P W l ps→(n,d)∈l →
  ∃p,DataW.LaidVars P W [(n,d)] p
 | [],_,_,h=>by cases h
 | (m,x)::r,ps,h,hm=>by
  obtain⟨g,t,cs,fuel,p,q,h1,h2,h3,h4,h5,h6⟩:=h;rcases List.mem_cons.1 hm with hm | hm
  ·cases hm;exact⟨_,g,t,cs,fuel,p,[],h1,h2,h3,h4,rfl,rfl⟩
  ·exact zhV h5 hm
theorem zsn {P:Program} {l:List (String × DataW Unit)} {W:World} (h:laidMet P l W) {n:String} {zs:List Nat} {g:Nat} {T e:TypeId} (hmem:(n,.agg (zs.map fun (z:Nat)=>.lit (.int .u8 z)))∈l) (hg:P.globalNamed n=some g) (ht:(P.globals[g]?).map (·.type)=some T)
  (hT:P.underlying T=some (.array zs.length e)) (he:P.underlying e=some (.int .u8)) (hc:P.cellsOf e=1) (hcT:P.cellsOf T=zs.length) :
  ∃U fz,W.heap[g]?=some (.cells (zs.map fun (z:Nat)=>Value.int .u8 (z:Int)).toArray U fz):=by
 obtain⟨ps,hl,_⟩:=h;obtain⟨p0,g',t,cs,fuel,p,q,hg',ht',hv,hd,_,_⟩:=zhV hl hmem;obtain rfl:=Option.some.inj (hg.symm.trans hg');obtain rfl:=Option.some.inj (ht.symm.trans ht');obtain⟨xs,m,_,ex,hcl,hlen,hel⟩:=DataW.trod_array hT hd
 have hb:∃U fz,W.heap[g]?=some (.cells cs U fz):=by
  simp only[World.var?,hg,Option.bind_some]at hv;split at hv
  ·rename_i c U fz hc';cases hv;exact⟨U,fz,hc'⟩
  ·cases hv
 obtain⟨U,fz,hb⟩:=hb;refine⟨U,fz,?_⟩;rw[hb];congr 2;apply Array.ext';rw[hcT]at hcl;have e3:(xs.map (·.1))=zs.map fun (n:Nat)=>.lit (.int .u8 n):=(DataW.agg.inj (Prod.mk.inj ex).1).symm;apply List.ext_getElem?;intro r;rcases Nat.lt_or_ge r zs.length with hr | hr
 ·have hE:=hel r hr;rw[hc,Nat.mul_one,qA (by omega)]at hE;obtain⟨z,e1,e2,_⟩:=DataW.trod_int he hE;have e4:(xs.map (·.1))[r]?=(zs.map fun (n:Nat)=>(DataW.lit (.int .u8 n):DataW Unit))[r]?:=by rw[e3]
  rw[List.getElem?_map,List.getElem?_map,qA (by omega:r<xs.length),qA hr,e2]at e4;simp only[Option.map_some,Option.some.injEq,DataW.lit.injEq,Lit.int.injEq,true_and]at e4;have h0:((cs.toList.drop r).take 1)[0]?=some (.int .u8 z):=by rw[e1];rfl
  simp only[List.getElem?_take,List.getElem?_drop,Nat.add_zero]at h0;rw[if_pos (by omega)]at h0;rw[h0,e4];simp[hr]
 ·rw[List.getElem?_eq_none oM,List.getElem?_eq_none (by simpa using hr)]
theorem fits_gH {l:List (String × DataW Unit)} {W:World} (h:laidMet Tryz.prog l W) (hmem:("math/bits.deBruijn64tab", .agg (Lib.deBruijn64tab.map fun (z:Nat)=>.lit (.int .u8 z)))∈l):Fits gH W:=fun b c hb=>by
 unfold gH at hb;split at hb
 ·rename_i hbb;cases hb;obtain rfl:=Nat.eq_of_beq_eq_true hbb;exact zsn h hmem kR kR Tryz.underlying321 Tryz.underlying5 kR kR
 ·cases hb
end
end Go.Proofs.YtifcjfodgicngaaGreatDoor
