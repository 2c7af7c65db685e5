/- Texts of ours in one: Tr16, Tr17, Tr18, Tr19, Tr20, Tr21, Tr22, Tr23, Tr24, Tr25, Tr26, Opn, Opn20, Tr27, Tr29, Tr30, Tr31, Pg4, Tg1, Pg5, Pg6, Pg7, Str2, Str3, Bd1, Bd2, Pg9, Bd3, Tg2, Tg3, Kd17, Tg4, Pg8, Tr32, Tr33, Tr34, Tr35, Tr36, PgD, Ot1, Ot2, PgE, PgF, Th1, Th2, Th3, Th4, Tp1, Opn18, GnU, Lw10, Th6, DgP, Tx1, Tx2, Tx3, Tx4, Tx5, Ev29, Ev30, Tx6, Tx7, Tp2, Lc1, Tp3, Lc2, Tx8, Tx9, TxA, Tr3N, ThA, LaidE, LaidP. -/
import Derived.Test.YtifcjfodgicngaaGreatDoorA0
import Derived.Test.YtifcjfodgicngaaGreatDoorA1
import Derived.Test.YtifcjfodgicngaaGreatDoorA2
import Derived.Test.YtifcjfodgicngaaGreatDoorA3
import Derived.Test.YtifcjfodgicngaaGreatDoorA4
import Derived.WalkKit
import Derived.ProofKit
import Derived.OpenShut
import Derived.Lib.ItoaMem
import Derived.Lib.AppendIntMem
import Derived.Lib.ItoaWalk
import Derived.BigCall
import Derived.BigGuard
import Derived.Laws.Concat
import Derived.Lib.AppendStr
import Derived.Lib.UnsafeStr
import Derived.Laws.IdiomStrings
import Derived.LaidMore
import Derived.Lay
import Derived.Stop.Joined
set_option linter.unusedVariables false
set_option linter.unusedSimpArgs false
set_option maxHeartbeats 64000000
namespace Go.Proofs.YtifcjfodgicngaaGreatDoor
section
open Go.RowKit _root_.Go.Proofs.Tryz
set_option maxRecDepth 100000 in
theorem zck {H:Hp} {kd cl w:Int} {ns:List Nd} {cs:List Value} (ht:zcx H cs kd cl w ns) (hok:zaX ⟨kd,cl,w,ns⟩):PC prog 15 #[.agg cs.toArray] H fun r _=>r=.int .i64 0:=by
 obtain⟨a,cp,css,rfl,hns,hsl⟩:=ht;obtain⟨hkd,hw,hln,⟨hh,hh10,hsub⟩,hall⟩:=hok;dsimp only at hkd hw hln hsub hall;have hpos:=hsub.end0;refine BD func15 ntmps15 ?_;refine uR ?_;refine EVL.meetK (ι:=Bool) [1,2] [1] (fun _=>[(17,.v (.bool false))]) (fun _=>[]) (fun _=>[]) (fun _ G=>H.Le G) rfl rfl (fun _=>rfl) ?_ ?_
 ·rcases hkd with ⟨rfl,_⟩ | ⟨rfl,rfl⟩
  ·try refine uR ?_
   exact⟨true,⟨rfl,trivial⟩,sB,trivial,sB,rfl,Hp.Le.refl _⟩
  ·try refine uR ?_
   exact⟨true,⟨rfl,trivial⟩,sB,trivial,sB,rfl,Hp.Le.refl _⟩
 rintro _ G1 hG1;refine uR ?_;rw[qC (show ¬w<1 by omega)];refine uR ?_;rw[qC (show ¬w>20 by omega)];refine uR ?_;rw[qC (show ¬(ns.length:Int)<1 by omega)];refine uR ?_;rw[qC (show ¬(ns.length:Int)>2000 by omega)];refine uR ?_;refine EVL.meetK (ι:=Bool) [1,2] [1] (fun _=>[(60,.v (.bool false))]) (fun _=>[]) (fun _=>[]) (fun _ G=>H.Le G) rfl rfl (fun _=>rfl) ?_ ?_
 ·rcases hkd with ⟨rfl,h1,h2⟩ | ⟨rfl,rfl⟩
  ·try refine uR ?_
   rw[qC (show ¬cl<1 by omega)];refine uR ?_;rw[qC (show ¬cl>12 by omega)];refine uR ?_;exact⟨true,⟨rfl,trivial⟩,sB,trivial,sB,rfl,hG1⟩
  ·try refine uR ?_
   exact⟨true,⟨rfl,trivial⟩,sB,trivial,sB,rfl,hG1⟩
 rintro _ G2 hG2;refine uR ?_;(first|refine EVL.unbox (3) rfl fun g3=>?_|refine EV.unbox (3) rfl fun g3=>?_);refine uR ?_;refine EVL.callW rfl rfl rfl rfl rfl ([(g3,136,zfX kd cl w (.slice a ns.length cp) 0)]) ([]) rfl (zs8 oM hsub (hns.mono hG2) (hsl.mono hG2) (deep:=0) (qH _)) ?_;rintro _ _ G3 ⟨rfl,far,rfl,hfar⟩ hG3;refine uR ?_;rw[show ((ns.length:Int) != (ns.length:Int))=false from pQ _];refine uR ?_;refine EVL.fldB tO rfl rfl rfl rfl rfl rfl rfl ?_;refine EVL.loadOwn tO rfl rfl rfl rfl rfl rfl (0) rfl (rfl) rfl rfl ?_;refine uR ?_;rw[qC (show ¬far>10 by omega)];refine uR ?_;refine EV.loopK (ι:=Nat) [1,80,81] [1] (fun q=>[(82,.v (.int .i64 (q:Int)))]) (fun _=>[]) (fun _=>[(g3,_,zfX kd cl w (.slice a ns.length cp) far)]) (fun q _=>q≤ns.length) (fun q=>ns.length-q) (0) rfl rfl ⟨rfl,trivial⟩ trivial rfl (fun _=>rfl) (qQ _) ?_;rintro i G4 hG4 hi;have hH4:=hG2.trans (hG3.trans hG4);refine uR ?_;refine EV.cond rfl (fun hlt=>?_) (fun hlt=>?_)
 ·simp only[nN]at hlt;obtain⟨n,hn,hN,hC⟩:=hall i hlt;obtain⟨c,hcut,hnd⟩:=(hns.mono hH4).get hn;obtain⟨a7,c7,rfl,_⟩:=hnd.cells;refine uR ?_;refine EVL.idxM tO rfl rfl rfl rfl rfl rfl rfl rfl rfl ((hsl.mono hH4)) (i) (rfl) (hlt) (hcut) ?_
  repeat (first|refine RUN ?_|refine CV (zkc hkd hnd hN) ?_|refine CE (zkc hkd hnd hN) ?_)
  refine⟨i+1,⟨by rw[zac i (by omega)];rfl,trivial⟩,sB,trivial,sB,rfl,hlt,Hp.Le.refl _,by omega⟩
 ·simp only[nN]at hlt;refine uR ?_;refine EV.loopK (ι:=Nat) [1,92,93] [1] (fun q=>[(94,.v (.int .i64 (q:Int)))]) (fun _=>[]) (fun _=>[(g3,_,zfX kd cl w (.slice a ns.length cp) far)]) (fun q _=>q≤ns.length) (fun q=>ns.length-q) (0) rfl rfl ⟨rfl,trivial⟩ trivial rfl (fun _=>rfl) (qQ _) ?_;rintro j G5 hG5 hj;have hH5:=hH4.trans hG5;refine uR ?_;refine EV.cond rfl (fun hlj=>?_) (fun hlj=>?_)
  ·simp only[nN]at hlj;obtain⟨n,hn,hN,hC⟩:=hall j hlj;obtain⟨c,hcut,hnd⟩:=(hns.mono hH5).get hn;obtain⟨a7,c7,rfl,_⟩:=hnd.cells;refine uR ?_;refine EVL.idxM tO rfl rfl rfl rfl rfl rfl rfl rfl rfl ((hsl.mono hH5)) (j) (rfl) (hlj) (hcut) ?_;refine uR ?_;by_cases hcol:n.col = -1
   ·apply EV.drawn 20 kR kR;intro xv yw;(repeat refine' DD ?_);rw[show (n.col != -1)=false by rw[hcol];rfl];(repeat refine' DD ?_);(refine DJ.nil (fun G hG hF=>?_);(case hS|hS2=>rfl));refine uR ?_;refine⟨j+1,⟨by rw[zac j (by omega)];rfl,trivial⟩,sB,trivial,sB,rfl,hlj,hG,by omega⟩
   ·obtain⟨hc0,hl0,hr0,na,nb,hna,hnb,hCC⟩:=hC hcol;have hla:=(qE.1 hna).1;have hlb:=(qE.1 hnb).1;obtain⟨na',ena,hNa,_⟩:=hall _ hla;obtain⟨nb',enb,hNb,_⟩:=hall _ hlb;cases hna.symm.trans ena;cases hnb.symm.trans enb;obtain⟨ca,hcuta,hnda⟩:=(hns.mono hH5).get hna;obtain⟨cb,hcutb,hndb⟩:=(hns.mono hH5).get hnb;obtain⟨xa7,xc7,rfl,_⟩:=hnda.cells;obtain⟨ya7,yc7,rfl,_⟩:=hndb.cells;apply EV.drawn 20 kR kR;intro xv yw;(repeat refine' DD ?_);rw[show (n.col != -1)=true from bne_iff_ne.2 hcol];(repeat refine' DD ?_);refine' DJ.idxM tO rfl rfl rfl rfl rfl rfl rfl rfl rfl ((hsl.mono hH5)) (n.left.toNat) ((by rw[Int.toNat_of_nonneg hl0])) (hla) (hcuta) ?_;rotate_left;(repeat refine' DD ?_);refine' DJ.idxM tO rfl rfl rfl rfl rfl rfl rfl rfl rfl ((hsl.mono hH5)) (n.right.toNat) ((by rw[Int.toNat_of_nonneg hr0])) (hlb) (hcutb) ?_;rotate_left;(repeat refine' DD ?_);refine' vC (cO func70) (fun G hG hd=>zrj hkd (hnd.mono hG) (hnda.mono hG) (hndb.mono hG) hN hNa hNb hCC) ?_;rotate_left;(repeat refine' DD ?_);(refine DJ.nil (fun G hG hF=>?_);(case hS|hS2=>rfl));refine uR ?_;refine⟨j+1,⟨by rw[zac j (by omega)];rfl,trivial⟩,sB,trivial,sB,rfl,hlj,hG,by omega⟩
  ·try refine uR ?_
   rfl
inductive zjn (T:List Nd) (x:List Rat):Nat→Nat→Prop
 | here {i:Nat} {n:Nd}:T[i]?=some n→n.col = -1→zjn T x i i
 | low {i j:Nat} {n:Nd}:T[i]?=some n→n.col ≠ -1→x.getD n.col.toNat 0≤n.at'→zjn T x n.left.toNat j→zjn T x i j
 | high {i j:Nat} {n:Nd}:T[i]?=some n→n.col ≠ -1→¬x.getD n.col.toNat 0≤n.at'→zjn T x n.right.toNat j→zjn T x i j
theorem zjn.det {T:List Nd} {x:List Rat} {i j:Nat} (h:zjn T x i j):∀{k:Nat},zjn T x i k→j=k:=by
 induction h with
 | here h1 h2 =>
  intro k h
  cases h with
  | here _ _=>rfl
  | low e n _ _=>rw[h1]at e;cases e;exact absurd h2 n
  | high e n _ _=>rw[h1]at e;cases e;exact absurd h2 n
 | low h1 h2 h3 _ ih =>
  intro k h
  cases h with
  | here e n=>rw[h1]at e;cases e;exact absurd n h2
  | low e n _ h=>rw[h1]at e;cases e;exact ih h
  | high e n h' _=>rw[h1]at e;cases e;exact absurd h3 h'
 | high h1 h2 h3 _ ih =>
  intro k h
  cases h with
  | here e n=>rw[h1]at e;cases e;exact absurd n h2
  | low e n h' _=>rw[h1]at e;cases e;exact absurd h' h3
  | high e n _ h=>rw[h1]at e;cases e;exact ih h
theorem Sub.at {T:List Nd} {w:Int} {k h e:Nat} (h0:Sub T w k h e):∀i,k≤i→i<e→∃h' e',Sub T w i h' e':=by
 induction h0 with
 | @leaf k h n a b c d e =>
  intro i h1 h2;obtain rfl:i=k:=oM;exact⟨0,_,.leaf a b c d e⟩
 | @node k h m e n a b c d f s1 s2 ih1 ih2 =>
  intro i h1 h2;by_cases h3:i=k
  ·subst h3;exact⟨_,_,.node a b c d f s1 s2⟩
  ·by_cases h4:i<m
   ·exact ih1 i oM h4
   ·exact ih2 i oM h2
end
section
end
section
open Go.RowKit _root_.Go.Proofs.Tryz
end
section
end
section
open Go.RowKit _root_.Go.Proofs.Tryz
end
section
open Go.ChangeShapes Go.WideShapes Go.ChangeAt Go.RowKit
def hpOf (W:World):Hp:=fun b=>match W.heap[b]? with
 | some (.cells c _ _)=>some c
 | _=>none
theorem fits_hpOf (W:World):Fits (hpOf W) W:=fun b c h=>by
 unfold hpOf at h;split at h
 ·rename_i c' T fz hb;cases h;exact⟨T,fz,hb⟩
 ·cases h
section
variable {H:Type} {enc:TypeId × Value→H} {P:Program} {w:World} {base:Nat} {spare:Nat→Bool} {held:Bool}
theorem ints_open {t e:TypeId} {k:IntKind} {fuel:Nat} {cs:List Value} {x:DataW H × List MemPlace} (ht:P.underlying t=some (.slice e)) (he:P.underlying e=some (.int k)) (hc:P.cellsOf e=1) (h:DataW.trod enc P w base spare held fuel t cs=some x) :
  ∃a len cap zs,cs=[.slice a len cap]∧SlN (fun z:Int=>Value.int k z) (hpOf w) (.slice a len cap) zs∧∀n∈zs,(Lit.int k n).wf=true:=by
 rcases open_ints ht he hc h with ⟨rfl,_⟩ | ⟨x,len,cap,zs,rfl,_,hl,hm,hz,_,hcell,hw⟩
 ·exact⟨none,0,0,[],rfl,zsa _ _,fun n hn=>by cases hn⟩
 ·have hzl:len≤zs.length:=by rw[hz];split <;> omega
  refine⟨some x,len,cap,zs.take len,rfl,?_,fun n hn=>hw n (List.mem_of_mem_take hn)⟩;have hlen:(zs.take len).length=len:=by rw[qP];omega
  unfold SlN;rw[hlen];refine⟨by rw[qV,hlen,Nat.mul_one],?_⟩;by_cases h0:len=0
  ·subst h0;exact .inl ⟨rfl,some x,cap,rfl⟩
  ·right;have h1:=hcell 0 oM;obtain⟨b,off,sp⟩:=x
   have hsp:sp=none:=by
    cases sp with
    | none=>rfl
    | some s=>simp only[World.cell?,Addr.add]at h1;split at h1 <;> simp_all
   subst hsp
   have hb:∃c,hpOf w b=some c∧∀i,i<zs.length→c[off+i]?=some (.int k (zs.getD i 0)):=by
    simp only[Addr.add_mid]at hcell;unfold World.cell? at hcell;unfold hpOf;simp only at hcell
    cases hw':w.heap[b]? with
    | none=>have:=hcell 0 oM;rw[hw']at this;cases this
    | some o =>
     cases o with
     | cells c T fz=>exact⟨c,rfl,fun i hi=>by have:=hcell i hi;rw[hw']at this;simpa using this⟩
     | _=>have:=hcell 0 oM;rw[hw']at this;cases this
   obtain⟨c,hc1,hc2⟩:=hb;refine⟨b,off,cap,c,rfl,hl,hc1,fun j y hj=>?_⟩;rw[qK,pP]at hj;split at hj
   ·rename_i hjl;rw[hc2 j oM,←hj,qB,qA (by omega)];rfl
   ·cases hj
end
theorem i64_bounds {z:Int} (h:(Lit.int .i64 z).wf=true):-9223372036854775808≤z∧z<9223372036854775808:=by
 have:=bounds_i64 h;omega
end
section
open Go.ChangeShapes Go.WideShapes Go.ChangeAt Go.RowKit
end
section
open Go.RowKit _root_.Go.Proofs.Tryz
section
variable {P:Program} {n:Nat} {ops:Array Oper} {o:Oper} {rest:List Oper} {env:Env} {bx:Bxs} {H:Hs} {Q:EQ} {τ:Tab} {d:Nat}
end
end
section
instance:Nonempty Nd:=⟨⟨0,0,0,0,0,0,0,0,[]⟩⟩
noncomputable def znv (x:List Rat) (t:Tr):Nd:=Classical.epsilon fun n=>∃i,zjn t.ns x 0 i∧t.ns[i]?=some n
theorem zq8 {x:List Rat} {t:Tr} {i:Nat} {n:Nd} (h1:zjn t.ns x 0 i) (h2:t.ns[i]?=some n):znv x t=n:=by
 have h:∃n,∃i,zjn t.ns x 0 i∧t.ns[i]?=some n:=⟨n,i,h1,h2⟩;obtain⟨j,h3,h4⟩:=Classical.epsilon_spec h;have e:=h1.det h3;subst e;have h5:some (znv x t)=some n:=h4.symm.trans h2;exact Option.some.inj h5
theorem Sub.leafs {T:List Nd} {w:Int} {k h e:Nat} (h0:Sub T w k h e) (x:List Rat):∃(j:Nat) (n:Nd),zjn T x k j∧T[j]?=some n:=by
 induction h0 with
 | @leaf k h n a b _ _ _=>exact⟨k,n,.here a b,a⟩
 | @node k h m e n a b c d f s1 s2 ih1 ih2 =>
  by_cases hle:x.getD n.col.toNat 0≤n.at'
  ·obtain⟨j,q,h1,h2⟩:=ih1;refine⟨j,q,.low a oM hle ?_,h2⟩;rw[d];exact h1
  ·obtain⟨j,q,h1,h2⟩:=ih2;refine⟨j,q,.high a oM hle ?_,h2⟩;rw[f];exact h1
theorem zo4 {t:Tr} (h:zaX t) (x:List Rat):∃i:Nat,zjn t.ns x 0 i∧i<t.ns.length∧t.ns[i]?=some (znv x t)∧OkN t.kd t.cl (znv x t):=by
 obtain⟨_,_,_,⟨hh,_,hsub⟩,hall⟩:=h;obtain⟨i,n,h1,h2⟩:=hsub.leafs x;have hi:=(qE.1 h2).1;rw[zq8 h1 h2];obtain⟨n',e,hN,_⟩:=hall i hi;rw[h2]at e;cases e;exact⟨i,h1,hi,h2,hN⟩
end
section
open Go.RowKit _root_.Go.Proofs.Tryz
theorem RL.slc {H:Hp} {v:Value} {l:List Rat} (h:RL H v l) {j:Nat} {q:Rat} (hj:l[j]?=some q):∃(cs:List Value) (b:Bool) (a1:Option Addr) (l1 c1:Nat) (a2:Option Addr) (l2 c2:Nat),SlC H v l.length 3 cs∧(cs.drop (j*3)).take 3=[.bool b,.slice a1 l1 c1,.slice a2 l2 c2]∧RQ H (.agg #[.bool b,.slice a1 l1 c1,.slice a2 l2 c2]) q:=by
 obtain⟨vs,x,h1,h2,h3⟩:=h.at hj;obtain⟨a1,l1,c1,a2,l2,c2,rfl,_⟩:=id h3;exact⟨_,_,a1,l1,c1,a2,l2,c2,h1,h2,h3⟩
theorem zp9 {H:Hp} {v:Value} {X:List (List Rat)} {w:Nat} (h:QLL H v X) (h1:1≤X.length) (h2:X.length≤300) (hw:1≤w∧w≤20) (hx:∀x,x∈X→x.length=w):PC prog 117 #[v] H fun r _=>r=.bool true:=by
 obtain⟨vs,hvs,hs⟩:=h;obtain⟨a,c,rfl⟩:=SlC.val hs;obtain⟨x0,hx0⟩:=gE h1;obtain⟨a0,c0,hv0,_⟩:=hvs.at hx0;have hl0:=hx x0 (qF hx0);rw[hl0]at hv0;refine BD func117 ntmps117 ?_;refine uR ?_;rw[qC (show ¬(X.length:Int)<1 by omega)];refine uR ?_;rw[qC (show ¬(X.length:Int)>300 by omega)];refine uR ?_;refine vI (hs) (0) (rfl) (h1) (hv0) ?_;refine uR ?_;rw[qC (show ¬(w:Int)<1 by omega)];refine uR ?_;refine vI (hs) (0) (rfl) (h1) (hv0) ?_;refine uR ?_;rw[qC (show ¬(w:Int)>20 by omega)];refine uR ?_;refine EV.loopK (ι:=Nat) [0,27,28] [] (fun i=>[(29,.v (.int .i64 (i:Int)))]) (fun _=>[]) (fun _=>[]) (fun i _=>i≤X.length) (fun i=>X.length-i) (0) rfl rfl ⟨rfl,trivial⟩ trivial rfl (fun _=>rfl) (qQ _) ?_;rintro i G1 hG1 hi;refine uR ?_;refine EV.cond rfl (fun hlt=>?_) (fun hlt=>?_)
 ·simp only[nN]at hlt;obtain⟨x,hxi⟩:=gE hlt;obtain⟨a1,c1,hv1,_⟩:=hvs.at hxi;have hl1:=hx x (qF hxi);rw[hl1]at hv1;refine uR ?_;refine vI ((hs.mono hG1)) (i) (rfl) (hlt) (hv1) ?_;refine uR ?_;refine vI ((hs.mono hG1)) (0) (rfl) (h1) (hv0) ?_;refine uR ?_;rw[pQ];refine uR ?_;refine⟨i+1,⟨by rw[zac i (by omega)];rfl,trivial⟩,sB,trivial,sB,rfl,hlt,Hp.Le.refl _,by omega⟩
 ·simp only[nN]at hlt;refine uR ?_;rfl
abbrev ztN (deep least:Int) (g:Rat):List Value:=.int .i64 deep::.int .i64 least::zad (zaf g)
theorem zp7 {H:Hp} {deep least:Int} {g:Rat} (hg:sm g):PC prog 35 #[.agg (ztN deep least g).toArray] H fun r _=>r=.bool (decide (zmZ deep least g)):=by
 have hs:=zcP g (qI hg.num oM);refine BD func35 ntmps35 ?_;refine uR ?_;by_cases h1:deep≥0
 case neg =>
  rw[qC h1];refine uR ?_;exact zdE fun k=>h1 k.1
 rw[qD h1];refine uR ?_;by_cases h2:deep≤10
 case neg =>
  rw[qC h2];refine uR ?_;exact zdE fun k=>h2 k.2.1
 rw[qD h2];refine uR ?_;by_cases h3:least≥1
 case neg =>
  rw[qC h3];refine uR ?_;exact zdE fun k=>h3 k.2.2.1
 rw[qD h3];refine uR ?_;by_cases h4:least≤300
 case neg =>
  rw[qC h4];refine uR ?_;exact zdE fun k=>h4 k.2.2.2.1
 rw[qD h4]
 repeat (first|refine RUN ?_|refine CV (hs) ?_|refine CE (hs) ?_)
 exact congrArg Value.bool (decide_eq_decide.2 ((zmD g).trans ⟨fun k=>⟨h1,h2,h3,h4,k⟩,fun k=>k.2.2.2.2⟩))
theorem zod {H:Hp} {v:Value} (h:QLL H v []):PC prog 117 #[v] H fun r _=>r=.bool false:=by
 obtain⟨a,c,rfl⟩:=h.val;refine BD func117 ntmps117 ?_;refine uR ?_;rfl
theorem zoa {H:Hp} {kd cl deep least ck:Int} {sl sv vx vr:Value} {X:List (List Rat)} {N:Nat} {rows:List Int} {w:Nat} {g:Rat} (hck:∀G,H.Le G→PC prog 75 #[zas kd cl sl sv] G fun r _=>r=.int .i64 ck) (hlen:PV prog 78 #[zas kd cl sl sv] (.int .i64 (N:Int))) (hX:QLL H vx X) (hN:1≤N) (h2:X.length≤300) (hw:1≤w∧w≤20) (hx:∀x,x∈X→x.length=w)
  (hr:IL H vr rows) (hr0:0<rows.length) (hrn:rows.length≤300) (hgs:sm g) :
  PC prog 64 #[zas kd cl sl sv,vx,vr,.agg (ztN deep least g).toArray] H fun r _=>r=.int .i64 (ztY X.length N ck (decide (zmZ deep least g)) rows):=by
 obtain⟨ra,rc,rfl⟩:=SlC.val hr;by_cases hn0:X.length=0
 ·have hne:X.length≠N:=oM;obtain rfl:=pK.1 hn0;have hv:=zod hX;obtain⟨xa,xc,rfl⟩:=hX.val;refine BD func64 ntmps64 ?_;refine uR ?_;refine vA (hv) ?_;rintro _ G1 rfl hG1;refine uR ?_;rw[zl9 hne]
 have hv:=zp9 hX oM h2 hw hx;obtain⟨xa,xc,rfl⟩:=hX.val;have hf:=fun (G:Hp)=>zp7 (H:=G) (deep:=deep) (least:=least) hgs;generalize decide (zmZ deep least g)=fb at *
 refine BD func64 ntmps64 ?_;refine uR ?_;refine vA (hv) ?_;rintro _ G1 rfl hG1
 repeat (first|refine RUN ?_|refine CV (hlen) ?_|refine CE (hlen) ?_)
 by_cases hne:X.length=N
 case neg =>
  rw[show ((X.length:Int) != (N:Int))=true from bne_iff_ne.2 (by omega)];refine uR ?_;rw[zl9 hne]
 subst hne;rw[show ((X.length:Int) != (X.length:Int))=false from pQ _];refine uR ?_;rw[qC (show ¬(rows.length:Int)<1 by omega)];refine uR ?_;rw[qC (show ¬(rows.length:Int)>300 by omega)];refine uR ?_;refine vA (hck G1 hG1) ?_;rintro _ G2 rfl hG2;refine uR ?_;by_cases hc0:ck=0
 case neg =>
  rw[show (ck != 0)=true from bne_iff_ne.2 hc0];refine uR ?_;rw[zfD fun k=>hc0 k.1]
 subst hc0;refine uR ?_;refine vA (hf G2) ?_;rintro _ G3 rfl hG3;have hH3:=hG1.trans (hG2.trans hG3);cases fb
 case false =>
  refine uR ?_;rw[zfD fun k=>by cases k.2.1]
 refine uR ?_;refine EV.loopK (ι:=Nat) [1,39,40] [] (fun q=>[(41,.v (.int .i64 (q:Int)))]) (fun _=>[]) (fun _=>[]) (fun q _=>q≤rows.length∧∀r,r∈rows.take q→0≤r∧r<(X.length:Int)) (fun q=>rows.length-q) (0) rfl rfl ⟨rfl,trivial⟩ trivial rfl (fun _=>rfl) (⟨qQ _,fun r hr=>by cases hr⟩) ?_;rintro i G4 hG4 ⟨hi,hall⟩;refine uR ?_;refine EV.cond rfl (fun hlt=>?_) (fun hlt=>?_)
 ·simp only[nN]at hlt;obtain⟨r,hri⟩:=gE hlt;have hmem:=qF hri;refine uR ?_;refine vI ((hr.mono (hH3.trans hG4))) (i) (rfl) (hlt) ((by rw[qK,hri];rfl)) ?_;refine uR ?_;by_cases hr0:r<0
  ·rw[qD hr0];refine uR ?_;rw[zfD fun k=>by have:=k.2.2 r hmem;omega]
  rw[qC hr0];refine uR ?_;by_cases hrx:r≥(X.length:Int)
  ·rw[qD hrx];refine uR ?_;rw[zfD fun k=>by have:=k.2.2 r hmem;omega]
  rw[qC hrx];refine uR ?_;refine⟨i+1,⟨by rw[zac i (by omega)];rfl,trivial⟩,sB,trivial,trivial,rfl,⟨hlt,fun y hy=>?_⟩,Hp.Le.refl _,by omega⟩;rw[zam hri]at hy;rcases List.mem_append.1 hy with h | h
  ·exact hall y h
  ·rw[pL.1 h];omega
 ·simp only[nN]at hlt;obtain rfl:i=rows.length:=oM;rw[qb]at hall;refine uR ?_;rw[zl8 hall]
theorem znx {x:Nat × TypeId × List Value} {D ow post:Ows} (h:zc1 (x::(D++(ow++post)))):∀k,k∈Ows.bs D→∀q,q∈ow→k≠q.1:=fun k hk q hq e=>by
 have hn:=zdx.1 h;unfold Ows.bs at hn hk;simp only[qy,qp,List.nodup_cons,List.nodup_append]at hn;exact hn.2.2.2 k hk q.1 (List.mem_append_left _ (List.mem_map.2 ⟨q,hq,rfl⟩)) e
theorem ze5.bs {dv:Value} {D D':Ows} {s s':Int} (h:ze5 dv D s) (h':ze5 dv D' s'):Ows.bs D=Ows.bs D':=by
 rcases h with ⟨e,rfl⟩ | ⟨b,T,e,rfl,_⟩
 ·rcases h' with ⟨_,rfl⟩ | ⟨b',T',e',rfl,_⟩
  ·rfl
  ·rw[e]at e';cases e'
 ·rcases h' with ⟨e',rfl⟩ | ⟨b',T',e',rfl,_⟩
  ·rw[e]at e';cases e'
  ·rw[e]at e';cases e';rfl
set_option maxRecDepth 100000 in
theorem zrO {p:GP} {H:Hp} {kd cl least:Int} {D0 w:Nat} {S:List Int→List Value} {wo:List Int→Rat} {la va xa:Option Addr} {ln lc vn vc xc:Nat} {f:FuncId} {ccs:List Value} {dv vr:Value} {rows:List Int} {s:Int} {D:Ows}
  (hcl:∀s,(p.cols s).1.length≤1000) (hx0:0<p.X.length) (hX20:p.X.length≤20) (hxw:∀x,x∈p.X→x.length=w) (hxq:∀x,x∈p.X→∀q,q∈x→ht q≤60) (hpl:p.least=least) (hgr:sm p.gain) (hD0:D0≤10)
  (hg:zkV H kd cl (.slice la ln lc) (.slice va vn vc) p S wo) (hX:QLL H (.slice xa p.X.length xc) p.X) (hcf:zhI H f ccs dv p) (hr:IL H vr rows) (hn:rows.length≤20) (hb:∀r,r∈rows→0≤r∧r<(p.X.length:Int)) (hD:ze5 dv D s) :
  PW prog 65 #[zas kd cl (.slice la ln lc) (.slice va vn vc),.slice xa p.X.length xc,vr,.agg (ztN (D0:Int) least p.gain).toArray,.func (.func f) #[] ccs.toArray] H D fun v ow H'=>∃cs,v=.agg cs.toArray∧zcx H' cs kd cl (w:Int) (p.grow D0 0 rows s).1∧ze5 dv ow (p.grow D0 0 rows s).2:=by
 obtain⟨ra,rc,rfl⟩:=SlC.val hr;have hpow:2 ^ (D0+1)≤2 ^ 11:=qf oM oM;obtain⟨vs,hvs,hvx⟩:=id hX;obtain⟨x0,hxx0⟩:=gE hx0;obtain⟨u0,e0,hu0,_⟩:=hvs.at hxx0;rw[hxw x0 (qF hxx0)]at hu0;refine PW.body tO func65 rfl kR ntmps65 rfl rfl ?_;refine uR ?_;(first|refine EVL.unbox (11) rfl fun gb=>?_|refine EV.unbox (11) rfl fun gb=>?_);refine EVL.callW rfl rfl rfl rfl rfl ((gb,195,_)::(D++[])) [] (by rw[qG,qG]) (zro (p:=p) (deep:=(D0:Int)) hcl hx0 hX20 hxq hpl hgr D0 (ns:=[]) (css:=[]) hg hX hcf oM (Int.le_refl _) oM hr hn hb hD (zaL.nil _ _) ⟨rfl,fun j c n e1 e2=>by cases e1⟩ (by rw[qi];omega)) ?_;rintro _ _ G1 ⟨rfl,out,D',ow2,css,rfl,hD',hown,hns⟩ hG1;rw[pO]at hown hns;rw[qi]at hown hns hD';obtain⟨oa,oc,rfl⟩:=hown.val;rw[qG ((gb,_,_)::(D'++ow2))];refine EVL.apart fun hdis=>?_;refine EVL.publishL ((gb,_,_)::D') ow2 [] (by rw[qG,List.cons_append]) hown (fun G2 hG2 hc=>?_) (fun k hk q hq=>znx (post:=[]) (by rw[qG];exact hdis) k (by rw[←hD.bs hD'];exact hk) q hq);rw[qG ((gb,_,_)::D')];have hG12:=hG1.trans hG2;refine uR ?_;apply EV.drawn 11 kR kR;intro xv yw;(repeat refine' DD ?_);refine' vJ (hvx.mono hG12) (0) (rfl) (hx0) (hu0) ?_;rotate_left;(repeat (first|refine' DD ?_|refine' vN ?_|refine' vF ?_));refine' DJ.ofVal (zaa.loadOwn tO rfl rfl rfl rfl (0) rfl (rfl) rfl rfl) rfl rfl rfl ?_;rotate_left;(repeat (first|refine' DD ?_|refine' vN ?_|refine' vF ?_));(refine DJ.nil (fun G hG hF=>?_);(case hS|hS2=>rfl));(first|refine EVL.subOw [] [(gb,_,_)] _ rfl ?_|refine EV.subOw [] [(gb,_,_)] _ rfl ?_);refine uR ?_;exact⟨_,rfl,⟨oa,oc,css,rfl,hns.mono (hG2.trans hG),SlC.mono hc hG⟩,hD'⟩
def zd1 (w:Nat):List Int:=(List.range w).map fun i:Nat=>(i:Int)
theorem zc3 (w:Nat):(zd1 w).length=w:=by simp[zd1]
theorem zjt (w:Nat):zd1 (w+1)=zd1 w++[(w:Int)]:=by simp[zd1,List.range_succ]
theorem ziG (x:Value):∀w:Nat,(List.replicate w [x]).flatten=List.replicate w x
 | 0=>rfl
 | w+1=>by rw[List.replicate_succ,List.flatten_cons,ziG x w,List.replicate_succ];rfl
theorem zsw {w i:Nat} (h:i<w) (u:Nat):(zd1 i).map iv++List.replicate (w-i) (Value.int .i64 0)=(zd1 i).map iv++([Value.int .i64 0]++List.replicate (w-(i+1)) (Value.int .i64 0)):=by
 rw[show w-i=(w-(i+1))+1 by omega,List.replicate_succ];rfl
theorem zsv {w i:Nat} (h:i<w):((zd1 i).map iv++List.replicate (w-i) (Value.int .i64 0)).set i (.int .i64 (i:Int))=(zd1 (i+1)).map iv++List.replicate (w-(i+1)) (Value.int .i64 0):=by
 rw[zsw h 0,List.set_append_right _ _ (by rw[qV,zc3];exact qH _),qV,zc3,Nat.sub_self,zjt,qp,qZ];rfl
theorem zls {H:Hp} {p:GP} {a w c:Nat} {sa:Option Addr} (hds:∀s,p.cols s=(zd1 w,s)) (ha:H a=some ([.slice sa w c]:List Value).toArray) (hil:IL H (.slice sa w c) (zd1 w)):zhI H 66 [.pointer (some ⟨a,0,none⟩)] (.pointer none) p:=by
 intro G hG D s hD;have hcs:(p.cols s).1=zd1 w:=by rw[hds]
 have hcs2:(p.cols s).2=s:=by rw[hds]
 rw[hcs,hcs2];have hil2:=hil.mono hG;refine PW.body tO func66 rfl kR ntmps66 rfl rfl ?_;refine EV.asRo 0 rfl (hG _ _ ha) ?_;refine uR ?_;exact⟨hil2,hD⟩
set_option maxRecDepth 100000 in
theorem zlG {p:GP} {H:Hp} {kd cl least:Int} {D0 w:Nat} {s:Int} {S:List Int→List Value} {wo:List Int→Rat} {la va xa:Option Addr} {ln lc vn vc xc:Nat} {vr:Value} {rows:List Int}
  (hds:∀s,p.cols s=(zd1 w,s)) (hw1:1≤w) (hw2:w≤20) (hx0:0<p.X.length) (hX20:p.X.length≤20) (hxw:∀x,x∈p.X→x.length=w) (hxq:∀x,x∈p.X→∀q,q∈x→ht q≤60) (hpl:p.least=least) (hl:1≤least∧least≤300) (hgr:sm p.gain) (hg0:0≤p.gain) (hD0:D0≤10)
  (hg:zkV H kd cl (.slice la ln lc) (.slice va vn vc) p S wo) (hX:QLL H (.slice xa p.X.length xc) p.X) (hr:IL H vr rows) (hr0:0<rows.length) (hn:rows.length≤20) (hb:∀r,r∈rows→0≤r∧r<(p.X.length:Int)) :
  PC prog 13 #[zas kd cl (.slice la ln lc) (.slice va vn vc),.slice xa p.X.length xc,vr,.agg (ztN (D0:Int) least p.gain).toArray] H
   fun v H'=>∃cs,v=.tuple #[.agg cs.toArray,.int .i64 0]∧zcx H' cs kd cl (w:Int) (p.grow D0 0 rows s).1:=by
 obtain⟨ra,rc,rfl⟩:=SlC.val hr;have hrf:=zoa (deep:=(D0:Int)) (least:=least) hg.ok.check hg.ok.leng hX oM oM ⟨by omega,hw2⟩ hxw hr hr0 oM hgr;rw[qD (show zmZ (D0:Int) least p.gain from ⟨by omega,by omega,by omega,by omega,hg0⟩),zl8 hb]at hrf;obtain⟨vs,hvs,hvx⟩:=id hX;obtain⟨x0,hxx0⟩:=gE hx0;obtain⟨u0,e0,hu0,_⟩:=hvs.at hxx0;rw[hxw x0 (qF hxx0)]at hu0;refine BD func13 ntmps13 ?_;refine uR ?_;refine vA (hrf) ?_;rintro _ G1 rfl hG1;refine uR ?_;refine vI ((hvx.mono hG1)) (0) (rfl) (hx0) (hu0) ?_;refine uR ?_;refine EVL.make tO rfl rfl rfl rfl rfl rfl rfl rfl rfl (w) (rfl) oM (by rfl) (by rfl) fun b=>?_;refine uR ?_;(first|refine EVL.swapOw ([(b,3,(zd1 0).map iv++List.replicate (w-0) (.int .i64 0))]) ([]) ((by rw[show (Tryz.te3).zero=[Value.int .i64 0] from rfl,ziG];rfl)) ?_|refine EV.swapOw ([(b,3,(zd1 0).map iv++List.replicate (w-0) (.int .i64 0))]) ([]) ((by rw[show (Tryz.te3).zero=[Value.int .i64 0] from rfl,ziG];rfl)) ?_);refine EV.loopK (ι:=Nat) [1,2,4,7,8,11,28] [4,7,8,11] (fun i=>[(29,.v (.int .i64 (i:Int)))]) (fun _=>[]) (fun i=>[(b,3,(zd1 i).map iv++List.replicate (w-i) (.int .i64 0))]) (fun i _=>i≤w) (fun i=>w-i) (0) rfl rfl ⟨rfl,trivial⟩ trivial rfl (fun _=>rfl) (qQ _) ?_;rintro i G2 hG2 hi;refine uR ?_;refine EV.cond rfl (fun hlt=>?_) (fun hlt=>?_)
 ·simp only[nN]at hlt;have wn:IntKind.i64.wrap ((i:Int)+1)=((i+1:Nat):Int):=zac i oM;refine uR ?_;refine EVL.idxB tO rfl rfl rfl rfl rfl rfl rfl rfl rfl (i) (i*1) (rfl) (hlt) (rfl) ?_;rw[Nat.mul_one];refine uR ?_;refine EVL.set1 tO rfl rfl rfl rfl rfl rfl rfl rfl rfl rfl ((by rw[qJ,qV,zc3,List.length_replicate];omega)) ?_;rw[zsv hlt];refine uR ?_;refine⟨i+1,⟨by rw[wn];rfl,trivial⟩,sB,trivial,sB,rfl,hlt,Hp.Le.refl _,by omega⟩
 ·simp only[nN]at hlt;obtain rfl:i=w:=oM;rw[Nat.sub_self,List.replicate_zero];(first|refine EVL.publish [] [] rfl fun G3 hG3 hb3=>?_|refine EV.publish [] [] rfl fun G3 hG3 hb3=>?_);(first|refine EVL.unbox (11) rfl fun ga=>?_|refine EV.unbox (11) rfl fun ga=>?_);(first|refine EVL.publish [] [] rfl fun G4 hG4 hb4=>?_|refine EV.publish [] [] rfl fun G4 hG4 hb4=>?_);refine uR ?_;refine EVL.fn1 rfl rfl rfl rfl rfl ?_;have hH4:=hG1.trans (hG2.trans (hG3.trans hG4));have hcf:=zls (p:=p) (H:=G4) hds hb4 (zo0 (hG4 _ _ hb3) (zc3 _));refine EVL.callW rfl rfl rfl rfl rfl [] [] rfl (zrO (w:=i) (s:=s) (fun s=>by rw[hds];show (zd1 i).length≤1000;rw[zc3];omega) hx0 hX20 hxw hxq hpl hgr hD0 (hg.mono hH4) (hX.mono hH4) hcf (hr.mono hH4) hn hb (.inl ⟨rfl,rfl⟩)) ?_;rintro _ D' G5 ⟨cs,rfl,hpt,hD'⟩ hG5;rcases hD' with ⟨_,rfl⟩|⟨bd',T',e1,_⟩
  ·obtain⟨ta,tc,css,rfl,_⟩:=id hpt;refine uR ?_;exact⟨_,rfl,hpt⟩
  ·cases e1
theorem zgW (a:Rat):zb4 a a=0:=Int.le_antisymm (ziS Rat.le_refl) (ziT.2 Rat.lt_irrefl)
theorem zoQ {H:Hp} {u v:Value} {l:List Int} (hu:IL H u l) (hv:IL H v l) (hl:l.length≤1000000):PC prog 101 #[u,v] H fun r _=>r=.bool true:=by
 obtain⟨a,c,rfl⟩:=SlC.val hu;obtain⟨a2,c2,rfl⟩:=SlC.val hv;refine BD func101 ntmps101 ?_;refine uR ?_;rw[pQ];refine uR ?_;refine EV.loopK (ι:=Nat) [0,1,12] [] (fun i=>[(13,.v (.int .i64 (i:Int)))]) (fun _=>[]) (fun _=>[]) (fun i _=>i≤l.length) (fun i=>l.length-i) (0) rfl rfl ⟨rfl,trivial⟩ trivial rfl (fun _=>rfl) (qQ _) ?_;rintro i G1 hG1 hi;refine uR ?_;refine EV.cond rfl (fun hlt=>?_) (fun hlt=>?_)
 ·simp only[nN]at hlt;obtain⟨z,hz⟩:=gE hlt;refine uR ?_;apply EV.drawn 9 kR kR;intro xv yw;(repeat refine' DD ?_);refine' vJ ((hu.mono hG1)) (i) (rfl) (hlt) ((by rw[qK,hz];rfl)) ?_;rotate_left;(repeat refine' DD ?_);refine' vJ ((hv.mono hG1)) (i) (rfl) (hlt) ((by rw[qK,hz];rfl)) ?_;rotate_left;(repeat refine' DD ?_);rw[pQ];(repeat refine' DD ?_);(refine DJ.nil (fun G hG hF=>?_);(case hS|hS2=>rfl));refine uR ?_;refine⟨i+1,⟨by rw[zac i (by omega)];rfl,trivial⟩,sB,trivial,trivial,rfl,hlt,hG,by omega⟩
 ·simp only[nN]at hlt;refine uR ?_;rfl
def SmN (n:Nd):Prop:=sm n.at'∧sm n.cost∧sm n.value∧n.counts.length≤1000000
theorem zrI {H:Hp} {cs ds:List Value} {n:Nd} (hu:zbL H cs n) (hv:zbL H ds n) (h:SmN n):PC prog 100 #[.agg cs.toArray,.agg ds.toArray] H fun r _=>r=.bool true:=by
 obtain⟨h1,h2,h3,h4⟩:=h;obtain⟨a,c,hl1,rfl⟩:=hu;obtain⟨a2,c2,hl2,rfl⟩:=hv;have e1:=(zdw n.at' n.at' h1 h1).of_eq (congrArg _ (zgW _));have e2:=(zdw n.cost n.cost h2 h2).of_eq (congrArg _ (zgW _));have e3:=(zdw n.value n.value h3 h3).of_eq (congrArg _ (zgW _));have e4:=fun G (hG:H.Le G)=>zoQ (hl1.mono hG) (hl2.mono hG) h4;obtain⟨nc,nl,nr,nrs,ncl,nat',nco,nva,ncs⟩:=n;dsimp only at *
 refine BD func100 ntmps100 ?_;refine uR ?_;rw[beq_self_eq_true nc];refine uR ?_;rw[beq_self_eq_true nl];refine uR ?_;rw[beq_self_eq_true nr];refine uR ?_;rw[beq_self_eq_true nrs];refine uR ?_;rw[beq_self_eq_true ncl]
 repeat (first|refine RUN ?_|refine CV (e1) ?_|refine CE (e1) ?_)
 repeat (first|refine RUN ?_|refine CV (e2) ?_|refine CE (e2) ?_)
 repeat (first|refine RUN ?_|refine CV (e3) ?_|refine CE (e3) ?_)
 refine uR ?_;refine vA (e4 _ (Hp.Le.refl _)) ?_;rintro _ G rfl hG;refine uR ?_;rfl
theorem znk {H:Hp} {u v:Value} {ns:List Nd} {cx cy:List (List Value)} {f:FuncId} (hx:zcz H cx ns) (hsx:SlC H u ns.length 21 cx.flatten) (hy:zcz H cy ns) (hsy:SlC H v ns.length 21 cy.flatten) (hl:ns.length≤1000000) (hf:∀G,H.Le G→∀c d n,n∈ns→zbL G c n→zbL G d n→PC prog f #[.agg c.toArray,.agg d.toArray] G fun r _=>r=.bool true):PC prog 99 #[u,v,.func (.func f) #[] #[]] H fun r _=>r=.bool true:=by
 obtain⟨a,c,rfl⟩:=SlC.val hsx;obtain⟨a2,c2,rfl⟩:=SlC.val hsy;refine BD func99 ntmps99 ?_;refine uR ?_;rw[pQ];refine uR ?_;refine EV.loopK (ι:=Nat) [1,2,15,16] [] (fun i=>[(17,.v (.int .i64 (i:Int)))]) (fun _=>[]) (fun _=>[]) (fun i _=>i≤ns.length) (fun i=>ns.length-i) (0) rfl rfl ⟨rfl,trivial⟩ trivial rfl (fun _=>rfl) (qQ _) ?_;rintro i G1 hG1 hi;refine uR ?_;refine EV.cond rfl (fun hlt=>?_) (fun hlt=>?_)
 ·simp only[nN]at hlt;obtain⟨t,ht⟩:=gE hlt;obtain⟨c1,hc1,hn1⟩:=(hx.mono hG1).get ht;obtain⟨c2,hc2,hn2⟩:=(hy.mono hG1).get ht;have hff:=hf G1 hG1 c1 c2 t (qF ht) hn1 hn2;obtain⟨b1,d1,hl1,rfl⟩:=hn1;obtain⟨b2,d2,hl2,rfl⟩:=hn2;refine uR ?_;refine EVL.idxM tO rfl rfl rfl rfl rfl rfl rfl rfl rfl ((hsx.mono hG1)) (i) (rfl) (hlt) (hc1) ?_;refine uR ?_;refine EVL.idxM tO rfl rfl rfl rfl rfl rfl rfl rfl rfl ((hsy.mono hG1)) (i) (rfl) (hlt) (hc2) ?_;refine uR ?_;refine EVL.callC (cs:=[]) rfl rfl rfl rfl rfl rfl (hff) ?_;rintro _ G2 rfl hG2;refine uR ?_;refine⟨i+1,⟨by rw[zac i (by omega)];rfl,trivial⟩,sB,trivial,trivial,rfl,hlt,hG2,by omega⟩
 ·simp only[nN]at hlt;refine uR ?_;rfl
theorem zrJ {H:Hp} {cs ds:List Value} {kd cl w:Int} {ns:List Nd} (hu:zcx H cs kd cl w ns) (hv:zcx H ds kd cl w ns) (hl:ns.length≤1000000) (h:∀n,n∈ns→SmN n):PC prog 52 #[.agg cs.toArray,.agg ds.toArray] H fun r _=>r=.bool true:=by
 obtain⟨a,c,css,rfl,hn1,hs1⟩:=hu;obtain⟨a2,c2,css2,rfl,hn2,hs2⟩:=hv;have he:=znk hn1 hs1 hn2 hs2 hl fun G hG c d n hn hc hd=>zrI hc hd (h n hn);refine BD func52 ntmps52 ?_;refine uR ?_;rw[beq_self_eq_true kd];refine uR ?_;rw[beq_self_eq_true cl];refine uR ?_;rw[beq_self_eq_true w];refine uR ?_;refine vA (he) ?_;rintro _ G rfl hG;refine uR ?_;rfl
inductive GD where
 | v (qs:List Rat)
 | c (C:Nat) (ls:List Int)
def GD.kd:GD→Int
 | .v _=>2
 | .c _ _=>1
def GD.cl:GD→Int
 | .v _=>0
 | .c C _=>C
def GD.cost:GD→List Int→Rat
 | .v qs=>zhO qs
 | .c _ ls=>zgA ls
def GD.mean:GD→List Int→Rat
 | .v qs=>fun l=>zdB (atR qs l)
 | .c _ _=>fun _=>0
def GD.cnt:GD→List Int→List Int
 | .v _=>fun _=>[]
 | .c C ls=>fun l=>zdr C (atI ls l)
def GD.Ok (n:Nat):GD→Prop
 | .v qs=>qs.length=n∧∀q,q∈qs→ht q≤5
 | .c C ls=>(1≤C∧C≤12)∧ls.length=n∧∀z,z∈ls→0≤z∧z<(C:Int)
def GD.P (H:Hp) (sl sv:Value):GD→Prop
 | .v qs=>∃la lc va vc,sl=.slice la 0 lc∧sv=.slice va qs.length vc∧QL H sv qs
 | .c _ ls=>∃la lc va vc,sl=.slice la ls.length lc∧sv=.slice va 0 vc∧IL H sl ls
def GD.R (H:Hp) (v:Value):GD→Prop
 | .v qs=>∃s,v=zas 2 0 (.slice none 0 0) s∧RL H s qs
 | .c C ls=>∃s,v=zas 1 C s (.slice none 0 0)∧IL H s ls
theorem zjq.gd {H:Hp} {v:Value} {n:Nat} {qs:List Rat} (h:zjq H v n qs) (hql:qs.length=n) (hq:∀q,q∈qs→ht q≤5):∃d:GD,d.Ok n∧d.R H v∧d.cl≤4:=by
 rcases h with ⟨s,rfl,hs⟩ | ⟨cl,s,ls,rfl,hc1,hc2,hll,hlb,hs⟩
 ·exact⟨.v qs,⟨hql,hq⟩,⟨s,rfl,hs⟩,by show (0:Int)≤4;decide⟩
 ·obtain⟨C,rfl⟩:=qj (show 0≤cl by omega);exact⟨.c C ls,⟨⟨by omega,by omega⟩,hll,hlb⟩,⟨s,rfl,hs⟩,hc2⟩
theorem GD.Ok.sm {n:Nat} {d:GD} (hd:d.Ok n):∀l:List Int,l.length≤300→(∀r,r∈l→0≤r∧r<(n:Int))→ht (d.mean l)≤4000∧ht (d.cost l)≤2000000:=by
 intro l hn hr
 cases d with
 | v qs =>
  obtain⟨rfl,hq⟩:=hd;have hlb:=fun q hq'=>hq q (zd9 hr q hq');have hll:(atR qs l).length≤300:=by rw[zbM];omega
  have h2:=zmj hll hlb;have h3:=zoI hll hlb h2;show ht (zdB (atR qs l))≤4000∧ht (zhO qs l)≤2000000;unfold zhO;omega
 | c C ls =>
  have hsq:=zik (atI ls l);have hll:(atI ls l).length=l.length:=zb5 ls l;rw[hll]at hsq;have hsq2:l.length*l.length≤300*300:=Nat.mul_le_mul hn hn;have hn2:=zby (l.length:Int);have hn3:bl (l.length:Int).natAbs≤20:=za1 oM;have hs2:=zby (sqL (atI ls l):Int);have hs3:bl (sqL (atI ls l):Int).natAbs≤20:=za1 oM;have hdv:=zeM ((sqL (atI ls l):Int):Rat) ((l.length:Int):Rat);have hsb:=zjT ((l.length:Int):Rat) (((sqL (atI ls l):Int):Rat) / ((l.length:Int):Rat));refine⟨by show ht (0:Rat)≤4000;rw[zb9];decide,?_⟩;show ht (zgA ls l)≤2000000;unfold zgA zfS;rw[hll];omega
theorem GD.Ok.plain {n:Nat} {d:GD} (hd:d.Ok n):zjr d.kd d.cl n d.cost d.mean d.cnt:=by
 have hsm:=hd.sm
 cases d with
 | v qs =>
  obtain⟨rfl,hq⟩:=hd;exact⟨.inr ⟨rfl,rfl⟩,fun _=>rfl,fun _ _ _ _ k=>rfl,fun l c hc=>(by cases hc),fun e=>absurd e (by decide:¬(2:Int)=1),fun e=>absurd e (by decide:¬(2:Int)=1),fun l=>zlb _ _,fun l hn hr=>(hsm l hn hr).2,fun l hn hr=>(hsm l hn hr).1⟩
 | c C ls =>
  obtain⟨hc,rfl,hlb⟩:=hd;refine⟨.inl ⟨rfl,by show (1:Int)≤(C:Int);omega,by show (C:Int)≤12;omega⟩,fun l=>by show ((zdr C (atI ls l)).length:Int)=(C:Int);rw[zbo],fun r l m hp k=>zqM C (by have:=hp.map (fun r:Int=>ls.getD r.toNat 0);rwa [qp]at this) k,fun l c hc=>?_,fun _ l hr=>?_,fun _ l=>rfl,fun l=>zjG _,fun l hn hr=>(hsm l hn hr).2,fun l hn hr=>(hsm l hn hr).1⟩
  ·obtain⟨k,_,rfl⟩:=List.mem_map.1 hc;omega
  ·show (zdr C (atI ls l)).sum=_;rw[zqN (fun z hz=>hlb z (zqF hr z hz)),zb5]
theorem GD.Ok.pgoal {H:Hp} {n:Nat} {d:GD} (hd:d.Ok n) (h0:1≤n) (h1:n≤300) {sl sv:Value} (hP:d.P H sl sv) {p:GP} (e0:p.X.length=n) (e1:p.cost=d.cost) (e2:p.mean=d.mean) (e3:p.cnt=d.cnt):∃S wo,zkV H d.kd d.cl sl sv p S wo:=by
 have hsm:=hd.sm
 cases d with
 | v qs =>
  obtain⟨rfl,hq⟩:=hd;obtain⟨la,lc,va,vc,rfl,rfl,hv⟩:=hP;have q100:∀q,q∈qs→ht q≤100:=fun q hq'=>qI (hq q hq') oM;have hcnt:=fun (G:Hp) (u:Value)=>zne (H:=G) (v:=u) (va:=va) (vc:=vc) (la:=la) (lc:=lc) h0 h1;refine⟨zkx qs,woV qs,⟨by rw[e0];exact zu5 hv h0 h1 q100,by rw[e1];exact zvb qs,?_,?_,?_,?_,?_,?_⟩⟩
  ·rw[e0,e3];exact fun G hG u l hl hn=>hcnt G u
  ·rw[e3];exact fun l=>qQ _
  ·rw[e0,e3];exact fun G hG u l hl hn=>zmP (w:=u) ⟨_,_,_,_,rfl⟩ (hcnt G u) (by show ([]:List Int).length≤300;decide)
  ·rw[e0,e2];exact fun G hG u l hl hn=>zmi hl hn (SlC.mono hv hG) h0 h1 q100
  ·rw[e0,e1];exact fun l hn hr=>(hsm l hn hr).2
  ·rw[e0,e1];exact fun G hG u l hl hn=>zqP hl hn (SlC.mono hv hG) h0 h1 q100
 | c C ls =>
  obtain⟨hc,rfl,hlb⟩:=hd;obtain⟨la,lc,va,vc,rfl,rfl,hv⟩:=hP;have hcnt:=fun (G:Hp) (hG:H.Le G) (u:Value) (l:List Int) (hl:IL G u l) (hn:l.length≤300)=>znd (va:=va) (vc:=vc) hl hn (SlC.mono hv hG) (C:=C) hc h0 h1 hlb;refine⟨zkw ls,woL ls,⟨by rw[e0];exact zu4 ⟨by show (1:Int)≤(C:Int);omega,by show (C:Int)≤12;omega⟩ hv h0 h1 hlb,by rw[e1];exact zva (fun z hz=>⟨(hlb z hz).1,by have:=(hlb z hz).2;omega⟩),?_,?_,?_,?_,?_,?_⟩⟩
  ·rw[e0,e3];exact hcnt
  ·rw[e3];exact fun l=>by show (zdr C (atI ls l)).length≤12;rw[zbo];omega
  ·rw[e0,e3];exact fun G hG u l hl hn=>zmP (w:=u) ⟨_,_,_,_,rfl⟩ (hcnt G hG u l hl hn) (by show (zdr C (atI ls (exL l ls.length))).length≤300;rw[zbo];omega)
  ·rw[e0,e2];exact fun G hG u l hl hn=>zrc
  ·rw[e0,e1];exact fun l hn hr=>(hsm l hn hr).2
  ·rw[e0,e1];exact fun G hG u l hl hn=>zqO (va:=va) (vc:=vc) hl hn (SlC.mono hv hG) ⟨by show (1:Int)≤(C:Int);omega,by show (C:Int)≤12;omega⟩ h0 h1 hlb
end
section
open Go.RowKit Go.Sort Go.Lib
set_option maxRecDepth 100000 in
theorem zhC (u:Nat) (hu64:u<18446744073709551616) (w:World) (htab:Lib.TabIs Tryz.prog w "internal/strconv.uint64pow10" .u64 Lib.pow10Tab) :
  Calls Tryz.prog 255 #[.int .u64 (u:Int),.int .i64 10] w fun e w'=>e=.returned (.string ⟨(Lib.decDigits u).toArray⟩)∧∃k os,w'=grow (w.drewN k) os:=by
 by_cases hs:u<100
 ·have hs':(u:Int)<100:=oM
  go_enter Tryz.func255,Tryz.ntmps255
  go_wp2_with fail;refine(Tryz.internal_strconv_small u hs _).mono ?_;rintro e w' ⟨rfl,rfl⟩;go_wp2
  go_ret;exact⟨rfl,0,#[],by simp[World.drewN_zero]⟩
 ·have hs':¬(u:Int)<100:=oM;have hu1:1≤u:=oM;have hnd20:Lib.nDigits u≤20:=by have:=Lib.numDigits_eq u hu1 hu64;split at this <;> omega
  have hal:Tryz.prog.arrayLen 317=24:=by kernel_rfl
  have hund:Tryz.prog.underlying 317=some (.array 24 5):=by kernel_rfl
  have hsl1:∀W,(Instr.sliceAt 317 (.pointer (some ⟨w.heap.size,0,none⟩)) none (some (.int .i64 (Lib.nDigits u:Int))) none).run Tryz.prog W=.ok (.slice (some ⟨w.heap.size,0,none⟩) (Lib.nDigits u) 24) W:=fun W=>by
   rw[run_sliceAt_array_h W 317 ⟨w.heap.size,0,none⟩ (by simp[Program.arrayLen,Program.elem,hund]) .i64 (Lib.nDigits u:Int) oM (by rw[hal];omega)];rw[show Tryz.prog.elem 317=5 by kernel_rfl,hal]
   go_simp
  have hH0:=Lib.holds_zero0 w 317 (Lib.nDigits u) oM;have hfmt:=Tryz.internal_strconv_formatBase10 w.heap.size 0 24 u (Array.replicate (Lib.nDigits u) 0) (w.alloc (.cells Lib.zeros24 317)) hH0 (by rw[Array.size_replicate];exact Lib.lt_pow_nDigits u) hu64 (by rw[Array.size_replicate];omega);rw[Array.size_replicate]at hfmt;have HH0:=Lib.hid hH0;clear hH0 hal hund
  go_enter Tryz.func255,Tryz.ntmps255
  go_wp2_with fail;refine(Tryz.internal_strconv_numDigits u hu1 hu64 _ (Lib.tabIs_alloc htab _)).mono ?_;rintro e w' ⟨rfl,rfl⟩
  go_wp2_with fail;refine hfmt.mono ?_;rintro e w' ⟨rfl,k,v',dk,rfl,hF⟩
  have hcv:(convert 170 9 (.slice (some ⟨w.heap.size,0,none⟩) (Lib.nDigits u) 24)).run Tryz.prog ((putRow (fun (b:UInt8)=>Value.int .u8 (b.toNat:Int)) (w.alloc (.cells Lib.zeros24 317)) w.heap.size 0 dk).drewN k)=.ok (.string ⟨(Lib.decDigits u).toArray⟩) ((putRow (fun (b:UInt8)=>Value.int .u8 (b.toNat:Int)) (w.alloc (.cells Lib.zeros24 317)) w.heap.size 0 dk).drewN k):=by
   have h:=run_convert_bytes_back (P:=Tryz.prog) ((putRow (fun (b:UInt8)=>Value.int .u8 (b.toNat:Int)) (w.alloc (.cells Lib.zeros24 317)) w.heap.size 0 dk).drewN k) 170 9 5 ⟨w.heap.size,0,none⟩ 24 (Lib.decDigits u) kR kR kR (fun j hj=>by
    rw[Lib.row_is_numeral hF j hj,Lib.add_plain,World.cell?_drewN];exact cell?_putRow (fun (b:UInt8)=>Value.int .u8 (b.toNat:Int)) _ w.heap.size 0 _ dk HH0.out (by rw[hF.size,Array.size_replicate]) j (by rw[hF.size];rw[Lib.decDigits_length]at hj;exact hj))
   rw[Lib.decDigits_length]at h;exact h
  go_wp2
  go_ret;obtain⟨os,eo⟩:=Lib.fin_at w (.cells Lib.zeros24 317) dk k 0;exact⟨rfl,k,os,eo⟩
abbrev zr3 (n:Nat):ByteArray:=⟨(Lib.decDigits n).toArray⟩
def zuJ:Array Value:=(Lib.pow10Tab.map fun z=>Value.int .u64 z).toArray
theorem zum {H:Hp} {W:World} (hT:H 4=some zuJ) (hf:Fits H W):Lib.TabIs Tryz.prog W "internal/strconv.uint64pow10" .u64 Lib.pow10Tab:=by
 obtain⟨T,fz,hW⟩:=hf _ _ hT;have hg:Tryz.prog.globalNamed "internal/strconv.uint64pow10" = some 4:=by kernel_rfl
 unfold Lib.TabIs World.var?;simp only[hg,Option.bind_some,hW];rfl
theorem zm1 (w:World) (k:Nat) (os:Array Obj):Below w.heap.size w (grow (w.drewN k) os):=⟨rfl,rfl,rfl,Lib.size_grow w k os,fun j hj=>by
  show (w.heap++os)[j]?=w.heap[j]?;exact Array.getElem?_append_left hj⟩
theorem zr5 {H:Hp} (u:Nat) (hu:u<18446744073709551616) (hT:H 4=some zuJ):PC Tryz.prog 234 #[.int .u64 (u:Int),.int .i64 10] H fun r _=>r=.string (zr3 u):=by
 have h1:PC Tryz.prog 255 #[.int .u64 (u:Int),.int .i64 10] H fun r _=>r=.string (zr3 u) :=
  PC.ofPure (cO Tryz.func255) fun W hf _=>(zhC u hu W (zum hT hf)).mono fun e W' ⟨he,k,os,hw⟩=>⟨he,by rw[hw];exact zm1 W k os⟩
 refine BD Tryz.func234 Tryz.ntmps234 ?_
 repeat (first|refine RUN ?_|refine CV (h1) ?_|refine CE (h1) ?_)
 rfl
end
section
open Go.RowKit _root_.Go.Proofs.Tryz
abbrev sb (l:List UInt8):ByteArray:=⟨l.toArray⟩
section
variable {P:Program} {n:Nat} {ops:Array Oper} {o:Oper} {rest:List Oper} {env:Env} {bx:Bxs} {sb':Bxs} {ow:Ows} {H:Hs} {Q:EQ} {τ:Tab} {d:Nat} {s:SV}
theorem zpR {T T':TypeId} {x y:Operand} (ho:o.op=.binOp .add T x y T') (a b:List UInt8) (hx:env.op x=some (.v (.string (sb a)))) (hy:env.op y=some (.v (.string (sb b)))) (ha:a.length≤8388608) (hb:b.length≤8388608) (ev:Operand→Value) (W:World) (he:∀y x,y∈o.op.operands→env.op y=some (.v x)→ev y=x) :
  (execOp ev o).run P W=.ok (.value (.string (sb (a++b)))) W:=by
 have ex:=he x _ (by simp[ho,Op.operands]) hx;have ey:=he y _ (by simp[ho,Op.operands]) hy;unfold execOp;simp[ho,ex,ey,eqGuard,binOp,run_string_add_lists W a b oM (by omega)]
theorem EVL.cat {T T':TypeId} {x y:Operand} (a b:List UInt8) (ho:o.op=.binOp .add T x y T') (hw:zah ops env o=some true) (hd:o.dst=some d) (hn:Nat.blt d n=true) (hx:env.op x=some (.v (.string (sb a)))) (hy:env.op y=some (.v (.string (sb b)))) (ha:a.length≤8388608) (hb:b.length≤8388608)
  (h:EVL P n ops rest ((d,.v (.string (sb (a++b))))::env) bx H Q):EVL P n ops (o::rest) env bx H Q:=EVL.gen hw hd hn (zpR ho a b hx hy ha hb) h
theorem DJ.cat {tail l:List Oper} {x:Nat→Value} {y:Nat→Ows} {ow':Ows} {kl ks:List DK} {i:Nat} {bx':Bxs} {Γ:zew} {T T':TypeId} {u w:Operand} (a b:List UInt8) (ho:o.op=.binOp .add T u w T') (hw:zah ops env o=some true) (hd:o.dst=some d) (hn:Nat.blt d n=true) (hx:env.op u=some (.v (.string (sb a)))) (hy:env.op w=some (.v (.string (sb b)))) (ha:a.length≤8388608) (hb:b.length≤8388608)
  (h:DJ P n ops tail sb' bx H Q x y kl (i+1) l ks ((d,.v (.string (sb (a++b))))::env) bx' Γ ow'):DJ P n ops tail sb' bx H Q x y kl i (o::l) (.sv (.v (.string (sb (a++b))))::ks) env bx' Γ ow' :=
 DJ.ofVal (zaa.gen hw (zpR ho a b hx hy ha hb)) hd hn rfl h
end
theorem zl3 {n:Nat} (h:n<18446744073709551616):(Lib.decDigits n).length≤20:=by
 rw[Lib.decDigits_length];by_cases h1:1≤n
 ·have:=Lib.numDigits_eq n h1 h;split at this <;> omega
 ·have:n=0:=oM;subst this;rw[Lib.nDigits_small (by omega)];omega
abbrev PowT (H:Hp):Prop:=H 4=some zuJ
theorem PowT.mono {H G:Hp} (h:PowT H) (k:H.Le G):PowT G:=k _ _ h
theorem zjL {n:Nat} (h0:n≠0) (h:n<W64):dig W64 n=[n]:=by
 rw[za8 zae oM,qT h,Nat.div_eq_of_lt h,zaD]
theorem znB {H:Hp} (n:Nat) (hn:n<18446744073709551616) (hT:PowT H):PC prog 194 #[zaI n] H fun r _=>r=.string (zr3 n):=by
 have hb:big n:=by
  show bl n≤_;have:=za1 (n:=n) (k:=64) oM;omega
 have hw:=fun H=>zcI n hb H
 have hlen:(dig W64 n).length≤1:=by
  by_cases h0:n=0
  ·subst h0;rw[zaD];simp
  ·rw[zjL h0 hn];simp
 have hlo:lo n=n:=zcd hn;generalize dig W64 n=L at *
 refine BD func194 ntmps194 ?_;refine uR ?_;refine vA (hw _) ?_;rintro v G hv hG;obtain⟨a,c,rfl⟩:=SlC.val hv;have hfmt:=zr5 n hn (hT.mono hG);rw[hlo];refine uR ?_;rw[qD (show (L.length:Int)≤1 by omega)]
 repeat (first|refine RUN ?_|refine CV (hfmt) ?_|refine CE (hfmt) ?_)
 rfl
def wtL (z:Int):List UInt8:=(if z<0 then [45] else [])++Lib.decDigits z.natAbs
theorem zfp {P:Program} (w:World) (t u ty e:TypeId) (i:TypeInfo) (ht:P.underlying t=some (.slice e)) (hu:P.underlying u=some .string) (hi:P.info? e=some i) (hz:i.zero=some (.int .u8 0)) (hsize:i.size=1) (hby:i.bytes=1)
  (v:Value) (n:Nat) (xs:List Value) (hown:w.ownsRow 0 e 1 v n xs) (s:ByteArray) (hb:n+s.size≤140737488355328) :
  ∃v' w',(Builtin.append_ #[t,u] ty #[v,.string s]).run P w=.ok v' w'∧w'.ownsRow 0 e 1 v' (n+s.size) (xs++Lib.strCells s)∧w.grownBy w' v.ownBlock∧∀g,v'.ownBlock=some g→v.ownBlock=some g∨w.heap.size≤g:=by
 obtain⟨v',w',hr,h2,h3,h4⟩:=Lib.run_append_own_string (P:=P) w 0 t u ty e i ht hu hi hz hsize hby v n xs hown s (by simp only[maxLen];omega) hb (qQ _);refine⟨v',w',hr,h2,h3,fun g hg=>?_⟩;have hxl:xs.length=n:=by simpa using hown.1
 rcases hown.2 with ⟨rfl,rfl⟩ | ⟨g0,cap,cur,rfl,hbg,hgb,hnc,hcm,hcs,htake⟩
 ·have hx:xs=[]:=List.eq_nil_of_length_eq_zero hxl;subst hx;obtain⟨v2,w2,hr2,h22,_⟩:=Lib.run_append_own_string (P:=P) w w.heap.size t u ty e i ht hu hi hz hsize hby (.slice none 0 0) 0 [] (World.ownsRow_nil w w.heap.size e 1) s (by simp only[maxLen];omega) hb (qH _);rw[hr]at hr2;cases hr2;exact .inr ((h22.lt g hg).1)
 ·by_cases hroom:n+s.size≤cap
  ·have hr2:=Lib.run_append_room_string (P:=P) w t u ty e i ht hu hi hsize g0 n cap cur hgb s hroom (by simp at hcs;omega);rw[hr]at hr2;cases hr2;left;exact hg
  ·have holds:∀j u,xs[j]?=some u→w.cell? ((⟨g0,0,none⟩:Addr).add j)=some u:=hown.cells (g:=g0) rfl;have hr2:=Lib.run_append_grow_string (P:=P) w t u ty e i (.int .u8 0) ht hu hi hz ⟨g0,0,none⟩ n cap xs (by rw[hsize];simpa using hxl) holds s oM oM (by rw[hby];exact growslice_fits oM oM);rw[hr]at hr2;cases hr2;right;have:w.heap.size=g:=by simpa[Value.ownBlock] using hg
   omega
theorem zu1 {P:Program} {w0:World} {ops:Array Oper} {rest:List Oper} {o:Oper} {a:Act} {Q:Exit→Act→World→Prop} (hgd:o.guard=none) (s x:Operand) (t u:TypeId)
  (ho:o.op=.call { callee:=.builtin .append,args:=#[s,x],argTypes:=#[t,u] })
  (e:TypeId) (hinfo:(P.info? e).map (fun i=>(i.zero,i.size,i.bytes))=some (some (.int .u8 0),1,1)) (ht:P.underlying t=some (.slice e)) (hu:P.underlying u=some .string)
  (v:Value) (n:Nat) (xs:List Value) (hs:a.eval s=v) (hown:w0.ownsRow 0 e 1 v n xs) (y:ByteArray) (hx:a.eval x=.string y) (hb:n+y.size≤140737488355328)
  (h:∀v' w',w'.ownsRow 0 e 1 v' (n+y.size) (xs++Lib.strCells y)→za5 (fun k=>v.ownBlock=some k) w0 w'→(∀g,v'.ownBlock=some g→v.ownBlock=some g∨w0.heap.size≤g)→wpList P ops Q rest (a.put o.dst v') w'):wpList P ops Q (o::rest) a w0:=by
 obtain⟨i0,hi,hz0,hz1,hz2⟩:=info_parts hinfo;refine wpList_plain hgd fun K hK=>?_;obtain⟨v',w',hr,h2,h3,h4⟩:=zfp (P:=P) w0 t u o.type e i0 ht hu hi hz0 hz1 hz2 v n xs hown y hb;unfold Oper.wp execOp;simp only[ho,resolve,invoke,builtin,Sem.run_bind,Sem.run_pure,Result.andThen_ok,List.map_toArray,qy,List.map_nil,hs,hx,hr];exact hK _ _ (h v' w' h2 ((za5.refl _ w0).grown h3 (fun k e _=>e)) h4)
def zoj (b:Nat) (l:List UInt8) (L:Ows):Prop:=∃p v ow,L=(b,172,[p,v])::ow∧(p=.pointer none∨p=.pointer (some ⟨b,0,none⟩))∧zaL 5 1 v l.length (Lib.byteCells l) ow
theorem zoj.new (b:Nat):zoj b [] [(b,172,[.pointer none,.slice none 0 0])]:=⟨_,_,[],rfl,.inl rfl,zaL.nil _ _⟩
theorem zjB (b:Nat) (p v:Value) (w:World) (hp:p=.pointer none∨p=.pointer (some ⟨b,0,none⟩)) (hB:Box w b #[p,v] 172) :
  Calls prog 187 #[.pointer (some ⟨b,0,none⟩)] w fun e w'=>e=.returned (.tuple #[])∧Box w' b #[.pointer (some ⟨b,0,none⟩),v] 172∧za5 (·=b) w w':=by
 have c0:w.cell? ⟨b,0,none⟩=some p:=by rw[Lib.cell_of_heap hB];rfl
 rcases hp with rfl | rfl
 ·refine(zd2 b w c0 (by have h:=hB;unfold Box at h;simp[World.shape?,h]) (Lib.frozen_of_heap hB 0)).mono ?_;rintro e w' ⟨rfl,rfl⟩;refine⟨rfl,?_,za5.setCell (X:=(·=b)) (p:=⟨b,0,none⟩) (za5.refl _ w) (fun _=>rfl) _⟩;have h:=hB;unfold Box at h ⊢;simp[World.setCell,Array.getElem?_modify,h]
 ·refine(zeB b w c0).mono ?_;rintro e w' ⟨rfl,rfl⟩;exact⟨rfl,hB,za5.refl _ _⟩
theorem zlA {H:Hp} {W:World} {L pre post:Ows} {e:TypeId} {v:Value} {m:Nat} {xs:List Value} {ow:Ows} (h:zaL e 1 v m xs ow) (he:L=pre++(ow++post)) (hL:∀(j b:Nat) (T:TypeId) (cs:List Value),L[j]?=some (b,T,cs)→Box W b cs.toArray T∧H b=none∧gH b=none):W.ownsRow 0 e 1 v m xs:=by
 refine⟨h.1,?_⟩;rcases h.2 with ⟨h2,h3,_⟩ | ⟨g,cap,sp,h2,h3,h4,h5,h6⟩
 ·exact .inl ⟨h2,h3⟩
 ·have hjg:L[pre.length]?=some (g,e,xs++sp):=by rw[he,h3];simp
  exact .inr ⟨g,cap,(xs++sp).toArray,h2,qQ _,(hL _ _ _ _ hjg).1,h5,h6,by simpa using h4,by simp only[List.toList_toArray];rw[←h.1];exact List.take_left⟩
set_option maxRecDepth 100000 in
theorem zjC {H:Hp} {W:World} {b:Nat} {p v:Value} {l:List UInt8} {ow:Ows} (s:ByteArray) (hp:p=.pointer none∨p=.pointer (some ⟨b,0,none⟩)) (hown:zaL 5 1 v l.length (Lib.byteCells l) ow) (hlen:l.length+s.size≤100000000000)
  (hL:∀(j k:Nat) (T:TypeId) (cs:List Value),((b,172,[p,v])::ow)[j]?=some (k,T,cs)→Box W k cs.toArray T∧H k=none∧gH k=none) :
  Calls prog 143 #[.pointer (some ⟨b,0,none⟩),.string s] W fun e W'=>e=.returned (.tuple #[.int .i64 s.size,.nilIface])∧∃v',Box W' b #[.pointer (some ⟨b,0,none⟩),v'] 172∧W'.ownsRow 0 5 1 v' (l.length+s.size) (Lib.byteCells l++Lib.strCells s)∧za5 (fun k=>k=b∨v.ownBlock=some k) W W'∧∀g,v'.ownBlock=some g→v.ownBlock=some g∨W.heap.size≤g:=by
 have hB:=(hL 0 b _ _ rfl).1;have hrow:W.ownsRow 0 5 1 v l.length (Lib.byteCells l):=zlA (pre:=[(b,172,[p,v])]) (post:=[]) hown (by simp) hL
 go_enter func143,ntmps143
 go_wp2_with fail;refine(zjB b p v _ hp hB).mono ?_;rintro e w1 ⟨rfl,hB1,hk1⟩;have hbk:w1.heap[b]?=some (.cells #[.pointer (some ⟨b,0,none⟩),v] 172 (0,0)):=hB1;have c1:w1.cell? ⟨b,1,none⟩=some v:=by rw[Lib.cell_of_heap hbk];rfl
 have hne:v.ownBlock≠some b:=Lib.ownBlock_ne hrow hB (by decide)
 have hrow1:w1.ownsRow 0 5 1 v l.length (Lib.byteCells l):=by
  refine hrow.kept (row:=some b) ⟨hk1.os,hk1.tape,hk1.output,hk1.size,fun k hk hne=>hk1.block k hk (fun e=>hne (by rw[e]))⟩ (.inr hne)
 have hs1:=hk1.size
 go_wp2_with (at_builtin;refine zu1 rfl _ _ _ _ rfl 5 Tryz.infoU8 Tryz.underlying170 Tryz.underlying9 _ _ _ rfl hrow1 s rfl oM ?_);intro v' w2 hown2 hk2 hpl;have hlt:=hB.lt;have hb2:w2.heap[b]?=some (.cells #[.pointer (some ⟨b,0,none⟩),v] 172 (0,0)):=by rw[hk2.block b oM hne];exact hbk
 have d1:w2.cell? ⟨b,1,none⟩=some v:=by rw[Lib.cell_of_heap hb2];rfl
 have f1:w2.frozen? ⟨b,1,none⟩=false:=Lib.frozen_of_heap hb2 1
 obtain⟨ao,n',cap,rfl⟩:∃ao n' cap,v'=.slice ao n' cap:=by
  rcases hown2.2 with ⟨hv,_⟩ | ⟨g,cap,cur,hv,_⟩
  ·exact⟨_,_,_,hv⟩
  ·exact⟨_,_,_,hv⟩
 go_wp2
 go_ret2;have hne2:(Value.slice ao n' cap).ownBlock≠some b:=Lib.ownBlock_ne hown2 hb2 (by decide);refine⟨rfl,.slice ao n' cap,?_,?_,?_,fun g hg=>(hpl g hg).imp id fun h=>by omega⟩
 ·unfold Box;simp[World.setCell,Array.getElem?_modify,hb2]
 ·exact hown2.kept (row:=some b) ⟨rfl,rfl,rfl,by simp[World.setCell],fun k _ hk=>Below.heap_setCell _ _ _ _ (fun e=>hk (by simp[e]))⟩ (.inr hne2)
 ·exact((hk1.mono fun k _ e=>.inl e).trans (hk2.mono fun k _ e=>.inr e)).setCell (p:=⟨b,1,none⟩) (fun _=>.inl rfl) _
theorem zbj {H:Hp} {b:Nat} {l:List UInt8} {L:Ows} (s:List UInt8) (h:zoj b l L) (hlen:l.length+s.length≤100000000000) :
  PW prog 143 #[.pointer (some ⟨b,0,none⟩),.string (sb s)] H L fun r ow _=>r=.tuple #[.int .i64 s.length,.nilIface]∧zoj b (l++s) ow:=by
 obtain⟨p,v,ow,rfl,hp,hown⟩:=h;refine⟨(cO func143),fun W hf hg hL hd=>?_⟩;have hsz:(sb s).size=s.length:=by simp[sb,ByteArray.size]
 refine(zjC (sb s) hp hown (by rw[hsz];exact hlen) hL).mono ?_;rw[hsz];rintro e W' ⟨rfl,v',hB',hrow',hk,hpl⟩;obtain⟨ow',how',hl1,hnew⟩:=zgY hrow'
 have vb:∀k,v.ownBlock=some k→∃xs,ow=[(k,5,xs)]:=fun k hk=>by
  rcases hown.2 with ⟨h2,_,_⟩ | ⟨g,cap,sp,h2,h3,_⟩
  ·rw[h2]at hk;cases hk
  ·rw[h2]at hk;cases hk;exact⟨_,h3⟩
 have vH:∀k,v.ownBlock=some k→H k=none∧k∈Ows.bs ((b,172,[p,v])::ow):=fun k hk=>by
  obtain⟨xs,h2⟩:=vb k hk;exact⟨(hL 1 k _ xs (by rw[h2];rfl)).2.1,Ows.bs_mem (j:=1) (T:=5) (cs:=xs) (by rw[h2];rfl)⟩
 obtain⟨hB,hHb,_⟩:=hL 0 b _ _ rfl;have hbt:Lib.strCells (sb s)=Lib.byteCells s:=by rw[Lib.strCells_eq]
 rw[hbt,←Lib.byteCells_append,show l.length+s.length=(l++s).length by simp]at how'
 have hob:∀k T cs,(k,T,cs)∈ow'→v'.ownBlock=some k:=fun k T cs hm=>by
  rcases how'.2 with ⟨_,_,h3⟩ | ⟨g,cap,sp,h2,h3,_⟩
  ·rw[h3]at hm;cases hm
  ·rw[h3]at hm;rw[h2];simp at hm;simp[Value.ownBlock,hm.1]
 have hneb:v'.ownBlock≠some b:=Lib.ownBlock_ne hrow' hB' (by decide);refine⟨_,(b,172,[.pointer (some ⟨b,0,none⟩),v'])::ow',H,rfl,⟨rfl,_,v',ow',rfl,.inr rfl,how'⟩,Hp.Le.refl _,fun k c hc=>?_,Nw.refl _ _ _,hk.mono (fun k _ e=>?_),fun j k T1 cs hj=>?_,?_⟩
 ·obtain⟨T3,fz,hW⟩:=hf k c hc;refine⟨T3,fz,?_⟩;rw[hk.block k (hf.lt (by rw[hc];simp)) (fun e=>?_)]
  ·exact hW
  ·rcases e with e | e
   ·subst e;rw[hHb]at hc;cases hc
   ·rw[(vH k e).1]at hc;cases hc
 ·rcases e with e | e
  ·subst e;exact Ows.bs_mem (j:=0) rfl
  ·exact(vH k e).2
 ·cases j with
  | zero =>
   cases (show some (b,172,[Value.pointer (some ⟨b,0,none⟩),v'])=some (k,T1,cs) from hj);exact⟨hB',.inr (Ows.bs_mem (j:=0) rfl),hHb⟩
  | succ j =>
   have hm:(k,T1,cs)∈ow':=qF (by simpa using hj);refine⟨(hnew _ _ _ hm).2,?_,?_⟩
   ·rcases hpl k (hob _ _ _ hm) with e | e
    ·exact .inr (vH k e).2
    ·exact .inl e
   ·rcases hpl k (hob _ _ _ hm) with e | e
    ·exact(vH k e).1
    ·cases hc:H k with
     | none=>rfl
     | some c=>have:=hf.lt (b:=k) (by rw[hc];simp);omega
 ·intro j j' k T1 T2 c1 c2 h1 h2;have nb:∀(j:Nat) (T:TypeId) (cs:List Value),ow'[j]?=some (b,T,cs)→False:=fun j T cs hj=>hneb (hob _ _ _ (qF hj))
  cases j with
  | zero =>
   simp only[List.getElem?_cons_zero,Option.some.injEq,Prod.mk.injEq]at h1
   cases j' with
   | zero=>rfl
   | succ j'=>rw[←h1.1]at h2;exact(nb j' _ _ (by simpa using h2)).elim
  | succ j =>
   cases j' with
   | zero =>
    simp only[List.getElem?_cons_zero,Option.some.injEq,Prod.mk.injEq]at h2;rw[←h2.1]at h1;exact(nb j _ _ (by simpa using h1)).elim
   | succ j' =>
    have e1:=(qE.1 (show ow'[j]?=some (k,T1,c1) by simpa using h1)).1;have e2:=(qE.1 (show ow'[j']?=some (k,T2,c2) by simpa using h2)).1;omega
theorem za5.freeze {X:Nat→Prop} {a w:World} (h:za5 X a w) {p:Addr} (hp:p.block<a.heap.size→X p.block) (n:Nat):za5 X a (w.freeze p n):=by
 unfold World.freeze;split
 ·exact h
 ·refine⟨h.os,h.tape,h.output,by simpa using h.size,fun k hk hx=>?_⟩;simp only[Array.getElem?_modify];rw[if_neg (fun e=>hx (by rw[←e];exact hp (by rw[e];exact hk)))];exact h.block k hk hx
theorem Tryz.cellsU8:Tryz.prog.cellsOf 5=1:=by kernel_rfl
set_option maxRecDepth 100000 in
theorem zix {W:World} {b g cap:Nat} {p:Value} {l:List UInt8} {cur:Array Value} (h0:l≠[]) (hB:Box W b #[p,.slice (some ⟨g,0,none⟩) l.length cap] 172) (hg:Box W g cur 5) (hnc:l.length≤cap) (hcm:cap≤maxLen) (hcs:cur.size=cap) (htake:cur.toList.take l.length=Lib.byteCells l) :
  Calls prog 94 #[.pointer (some ⟨b,0,none⟩)] W fun e W'=>e=.returned (.string ⟨l.toArray⟩)∧W'=W.drew.freeze ⟨g,0,none⟩ l.length:=by
 have hl0:l.length≠0:=by simpa using h0
 have hg':W.drew.heap[g]?=some (.cells cur 5 (0,0)):=hg
 have c1:W.drew.cell? ⟨b,1,none⟩=some (.slice (some ⟨g,0,none⟩) l.length cap):=by
  have:W.drew.heap[b]?=some (.cells #[p,.slice (some ⟨g,0,none⟩) l.length cap] 172 (0,0)):=hB;rw[Lib.cell_of_heap this];rfl
 have hSD:(Builtin.unsafeSliceData_ #[170] 226 #[.slice (some ⟨g,0,none⟩) l.length cap]).run prog W.drew=.ok (.pointer (some ⟨g,0,none⟩)) W.drew :=
  Lib.run_unsafeSliceData_row _ _ _ _ _ _ oM
 have hUS:(Builtin.unsafeString_ #[226,3] 9 #[.pointer (some ⟨g,0,none⟩),.int .i64 l.length]).run prog W.drew=.ok (.string ⟨l.toArray⟩) (W.drew.freeze ⟨g,0,none⟩ l.length):=by
  refine Lib.run_unsafeString_row W.drew 226 3 9 5 Tryz.underlying226 Tryz.cellsU8 g cur.size (by simp[World.shape?,hg']) l h0 oM (by simp only[maxLen]at hcm;omega) ?_;intro j x hx;have hj:=(qE.1 hx).1
  have e1:cur.toList[j]?=some (.int .u8 x.toNat):=by
   have:(cur.toList.take l.length)[j]?=some (.int .u8 x.toNat):=by rw[htake];simp[Lib.byteCells,hx]
   rwa [List.getElem?_take_of_lt hj]at this
  rw[Addr.add_mid,qv,Lib.cell_of_heap hg'];simpa using e1
 have mixed:Tryz.prog.follows Departure.mixedOrders=true:=by kernel_rfl
 go_enter func94,ntmps94;go_wp2
 go_region_o
 all_goals (go_wp2;go_ret;exact⟨rfl,rfl⟩)
theorem zfA {H:Hp} {b:Nat} {l:List UInt8} {L:Ows} (h:zoj b l L) (h0:l≠[]):PW prog 94 #[.pointer (some ⟨b,0,none⟩)] H L fun r ow _=>r=.string (sb l)∧ow=[]:=by
 obtain⟨p,v,ow,rfl,hp,hown⟩:=h;have hl:0<l.length:=List.length_pos_iff.2 h0;refine⟨(cO func94),fun W hf hg hL hd=>?_⟩;obtain⟨g,cap,sp,rfl,rfl,hsp,hnc,hcm⟩:=hown.block hl;obtain⟨hB,hHb,_⟩:=hL 0 b _ _ rfl;obtain⟨hG,hHg,_⟩:=hL 1 g _ _ rfl;refine(zix (cur:=(Lib.byteCells l++sp).toArray) h0 hB hG hnc hcm (by simpa using hsp) (by simp only[List.toList_toArray];rw[show l.length=(Lib.byteCells l).length by rw[Lib.byteCells_length]];exact List.take_left)).mono ?_;rintro e W' ⟨rfl,rfl⟩
 have hk:za5 (fun k=>k∈Ows.bs [(b,172,[p,.slice (some ⟨g,0,none⟩) l.length cap]),(g,5,Lib.byteCells l++sp)]) W (W.drew.freeze ⟨g,0,none⟩ l.length) :=
  za5.freeze (p:=⟨g,0,none⟩) (za5.refl _ W).drew (fun _=>Ows.bs_mem (j:=1) rfl) _
 refine⟨_,[],H,rfl,⟨rfl,rfl⟩,Hp.Le.refl _,fun k c hc=>?_,Nw.refl _ _ _,hk,fun j k T1 cs hj=>(by simp at hj),fun j j' k T1 T2 c1 c2 h1 h2=>(by simp at h1)⟩;obtain⟨T3,fz,hW⟩:=hf k c hc;refine⟨T3,fz,?_⟩;rw[hk.block k (hf.lt (by rw[hc];simp)) (fun e=>?_)]
 ·exact hW
 ·simp[Ows.bs]at e;rcases e with e | e
  ·subst e;rw[hHb]at hc;cases hc
  ·subst e;rw[hHg]at hc;cases hc
theorem zrL (u:Nat) (h:u<100):PV prog 251 #[.int .i64 (u:Int)] (.string (zr3 u)) :=
 ⟨(cO func251),fun W _=>(Tryz.internal_strconv_small u h W).mono fun e W' ⟨he,hw⟩=>⟨he,by rw[hw];exact Below.refl _ _⟩⟩
theorem zmf (z:Int) (h0:0≤z) (h:z<100):PV prog 145 #[.int .i64 z] (.string (sb (Lib.decDigits z.toNat))):=by
 obtain⟨u,rfl⟩:=qj h0;exact⟨(cO func145),fun W _=>(Tryz.strconv_Itoa_small u oM W).mono fun e W' ⟨he,hw⟩=>⟨he,by rw[hw];exact Below.refl _ _⟩⟩
theorem zhb (s:List UInt8) (c:Nat) (hc:c≤1000000) (hs:s.length≤1000000):PV prog 144 #[.string (sb s),.int .i64 (c:Int)] (.string (sb (Lib.repeatL s c))) :=
 ⟨(cO func144),fun W _=>Tryz.strings_Repeat (sb s) c W oM (by
  have e:(sb s).size=s.length:=by simp[sb,ByteArray.size]
  rw[e];have:=Nat.mul_le_mul hs hc;omega)⟩
theorem zsL (u:Nat) (hu:u<100):PV prog 234 #[.int .u64 (u:Int),.int .i64 10] (.string (zr3 u)):=by
 have h0:=zrL u hu
 have h1:PV prog 255 #[.int .u64 (u:Int),.int .i64 10] (.string (zr3 u)):=by
  refine PV.of_pc ?_;refine BD func255 ntmps255 ?_;refine uR ?_;rw[qD (show (u:Int)<100 by omega)];refine uR ?_;rw[show IntKind.i64.wrap (u:Int)=(u:Int) by rw[pM];omega]
  repeat (first|refine RUN ?_|refine CV (h0) ?_|refine CE (h0) ?_)
  rfl
 refine PV.of_pc ?_;refine BD func234 ntmps234 ?_
 repeat (first|refine RUN ?_|refine CV (h1) ?_|refine CE (h1) ?_)
 rfl
theorem zlq (n:Nat) (hn:n<100):PV prog 194 #[zaI n] (.string (zr3 n)):=by
 refine PV.of_pc ?_
 have hb:big n:=by
  show bl n≤_;have:=za1 (n:=n) (k:=64) oM;omega
 have hw:=fun H=>zcI n hb H
 have hlen:(dig W64 n).length≤1:=by
  by_cases h0:n=0
  ·subst h0;rw[zaD];simp
  ·rw[zjL h0 (by simp only[W64];omega)];simp
 have hlo:lo n=n:=zcd (by simp only[W64];omega);have hfmt:=zsL n hn;generalize dig W64 n=L at *
 refine BD func194 ntmps194 ?_;refine uR ?_;refine vA (hw _) ?_;rintro v G hv hG;obtain⟨a,c,rfl⟩:=SlC.val hv;rw[hlo];refine uR ?_;rw[qD (show (L.length:Int)≤1 by omega)]
 repeat (first|refine RUN ?_|refine CV (hfmt) ?_|refine CE (hfmt) ?_)
 rfl
theorem zjk (n:Nat) (hn:n<100):PV prog 193 #[zdO (n:Int)] (.string (sb (Lib.decDigits n))):=by
 have h:=zlq n hn;refine PV.of_pc ?_;refine BD func193 ntmps193 ?_;refine uR ?_;rw[qC (show ¬(n:Int)<0 by omega)]
 repeat (first|refine RUN ?_|refine CV (h) ?_|refine CE (h) ?_)
 rfl
theorem zjQ (n:Nat) (hn:n<100):PV prog 146 #[zaf (n:Rat)] (.string (sb (Lib.decDigits n))):=by
 have h:PV prog 193 #[zdO ((n:Rat)).num] (.string (sb (Lib.decDigits n))):=zjk n hn;have hd:((n:Rat)).den=1:=rfl;have hw:=zbc (n:Rat) (by rw[hd];show bl 1≤_;have:=za1 (n:=1) (k:=1) oM;omega);generalize (n:Rat)=q at *
 refine PV.of_pc ?_;refine BD func146 ntmps146 ?_
 repeat (first|refine RUN ?_|refine CV (hw) ?_|refine CE (hw) ?_)
 rw[qD hd]
 repeat (first|refine RUN ?_|refine CV (h) ?_|refine CE (h) ?_)
 rfl
inductive zfR (T:List Nd) (x:List Rat):Nat→List Int→Prop
 | here {i:Nat} {n:Nd}:T[i]?=some n→n.col = -1→zfR T x i [(i:Int)]
 | low {i:Nat} {l:List Int} {n:Nd}:T[i]?=some n→n.col ≠ -1→x.getD n.col.toNat 0≤n.at'→zfR T x n.left.toNat l→zfR T x i ((i:Int)::l)
 | high {i:Nat} {l:List Int} {n:Nd}:T[i]?=some n→n.col ≠ -1→¬x.getD n.col.toNat 0≤n.at'→zfR T x n.right.toNat l→zfR T x i ((i:Int)::l)
theorem zfR.leaf {T:List Nd} {x:List Rat} {i:Nat} {l:List Int} (h:zfR T x i l):∃(j:Nat) (q:List Int),l=q++[(j:Int)]∧zjn T x i j:=by
 induction h with
 | here h1 h2=>exact⟨_,[],rfl,.here h1 h2⟩
 | @low i _ _ h1 h2 h3 _ ih=>obtain⟨j,q,rfl,h⟩:=ih;exact⟨j,(i:Int)::q,rfl,.low h1 h2 h3 h⟩
 | @high i _ _ h1 h2 h3 _ ih=>obtain⟨j,q,rfl,h⟩:=ih;exact⟨j,(i:Int)::q,rfl,.high h1 h2 h3 h⟩
set_option maxRecDepth 100000 in
theorem zsl {H:Hp} {cs:List Value} {vx:Value} {kd cl w:Int} {ns:List Nd} {x:List Rat} (ht:zcx H cs kd cl w ns) (hok:zaX ⟨kd,cl,w,ns⟩) (hx:QL H vx x) (hxl:(x.length:Int)=w) (hxs:∀q,q∈x→sm q) :
  PC prog 17 #[.agg cs.toArray,vx] H fun r G=>∃l v,r=.tuple #[v,.int .i64 0]∧IL G v l∧zfR ns x 0 l∧l.length≤2000:=by
 have hck:=zck ht hok;obtain⟨a,cp,css,rfl,hns,hsl⟩:=ht;obtain⟨hkd,hw,hln,⟨hh,hh10,hsub⟩,hall⟩:=hok;dsimp only at hkd hw hln hsub hall;have hpos:=hsub.end0;obtain⟨xa,xc,rfl⟩:=SlC.val hx;have hxS:SlC H (.slice xa x.length xc) x.length 5 (x.flatMap fun q=>zad (zaf q)):=hx;refine BD func17 ntmps17 ?_
 repeat (first|refine RUN ?_|refine CV (hck) ?_|refine CE (hck) ?_)
 rw[show ((x.length:Int) != w)=false by rw[hxl];exact pQ _];refine uR ?_;refine EVL.lit tO rfl rfl rfl rfl rfl rfl rfl rfl rfl rfl rfl fun bl=>?_;refine uR ?_;refine EV.loopK (ι:=Nat × List Int × Value × Ows) [1,2] [2] (fun q=>[(6,.v q.2.2.1),(7,.v (.int .i64 (q.1:Int)))]) (fun _=>[]) (fun q=>q.2.2.2) (fun q G=>q.1<ns.length∧zaL 3 1 q.2.2.1 (q.2.1++[(q.1:Int)]).length ((q.2.1++[(q.1:Int)]).map iv) q.2.2.2∧q.2.1.length≤q.1∧∀l,zfR ns x q.1 l→zfR ns x 0 (q.2.1++l)) (fun q=>ns.length-q.1) ((0,[],.slice (some ⟨bl,0,none⟩) 1 1,[(bl,_,_)])) rfl rfl ⟨rfl,rfl,trivial⟩ trivial rfl (fun _=>rfl) (⟨hpos,zaL.full (m:=1) rfl oM,qH _,fun l h=>h⟩) ?_;rintro⟨i,q,u,ow⟩ G1 hG1 ⟨hi,hown,hql,hlf⟩;dsimp only at hi hown hql hlf;obtain⟨oa,oc,rfl⟩:=hown.val;obtain⟨n,hn⟩:=gE hi;obtain⟨c,hcut,hnd⟩:=(hns.mono hG1).get hn;obtain⟨a7,c7,rfl,_⟩:=hnd.cells;obtain⟨n',hn',hN,_⟩:=hall i hi;cases hn.symm.trans hn';obtain⟨h',e',hsi⟩:=hsub.at i (qQ _) hi;have hle:=hsi.lt;have hsl1:=hsl.mono hG1;have hll:(q++[(i:Int)]).length≤1000000:=by rw[qJ,qx];omega
 refine uR ?_;refine EVL.idxM tO rfl rfl rfl rfl rfl rfl rfl rfl rfl (hsl1) (i) (rfl) (hi) (hcut) ?_;refine uR ?_
 cases hsi with
 | leaf q1 q2 q3 q4 q5 =>
  rw[hn]at q1;cases q1;rw[show (n.col != -1)=false by rw[q2];rfl];(first|refine EVL.publishL [] ow [] ((qG _).symm) hown fun G2 hG2 hs2=>?_|refine EV.publishL [] ow [] ((qG _).symm) hown fun G2 hG2 hs2=>?_);refine uR ?_;exact⟨_,_,rfl,hs2,hlf _ (.here hn q2),by rw[qJ,qx];omega⟩
 | @node _ h1 m _ _ q1 q2 q3 q4 q5 s1 s2 =>
  rw[hn]at q1;cases q1;have hm1:=s1.lt;have hm2:=s2.lt;have hcl:n.col.toNat<x.length:=oM;obtain⟨y,hy⟩:∃y,x[n.col.toNat]?=some y:=⟨_,qA hcl⟩;have hyg:x.getD n.col.toNat 0=y:=by rw[qB,hy];rfl
  have hcmp:=zdw y n.at' (hxs y (qF hy)) (zaQ hN.small.1 oM);rw[show (n.col != -1)=true from bne_iff_ne.2 (by omega)];refine uR ?_;refine EVL.idxM tO rfl rfl rfl rfl rfl rfl rfl rfl rfl (hsl1) (i) (rfl) (hi) (hcut) ?_;refine uR ?_;apply EV.drawn 9 kR kR;intro xv yw;(repeat refine' DD ?_);refine' DJ.idxM tO rfl rfl rfl rfl rfl rfl rfl rfl rfl ((hxS.mono hG1)) (n.col.toNat) ((by rw[Int.toNat_of_nonneg q2])) (hcl) (QL.at (H:=H) (v:=.bool true) hy) ?_;rotate_left;(repeat (first|refine' DD ?_|(refine' DC (hcmp) (h:=?_);rotate_left)));(refine DJ.nil (fun G2 hG2 hF2=>?_);(case hS|hS2=>rfl));by_cases hle2:y≤n.at'
  ·rw[qD (zpp hle2)];refine uR ?_;refine EVL.app1 tO rfl rfl rfl rfl rfl rfl rfl rfl rfl rfl rfl rfl rfl rfl rfl rfl rfl rfl rfl (fun _=>rfl) (ow) ([]) ((qG _).symm) (hown) (oM) fun _=>?_;intro v' ow' hown';refine uR ?_;refine⟨(n.left.toNat,q++[(i:Int)],v',ow'),⟨rfl,by rw[Int.toNat_of_nonneg (by omega)];rfl,trivial⟩,sB,trivial,sB,qG _,⟨by dsimp only;omega,by dsimp only;rw[Int.toNat_of_nonneg (by omega)];exact hown'.il,by dsimp only;rw[qJ,qx];omega,fun l h=>by dsimp only;rw[qZ];exact hlf _ (.low hn oM (by rw[hyg];exact hle2) h)⟩,hG2,by dsimp only;omega⟩
  ·rw[qC (show ¬zb4 y n.at'≤0 from fun k=>hle2 (Rat.not_lt.1 fun k2=>by have:=(zms y n.at').2 k2;omega))];refine uR ?_;refine EVL.app1 tO rfl rfl rfl rfl rfl rfl rfl rfl rfl rfl rfl rfl rfl rfl rfl rfl rfl rfl rfl (fun _=>rfl) (ow) ([]) ((qG _).symm) (hown) (oM) fun _=>?_;intro v' ow' hown';refine uR ?_;refine⟨(n.right.toNat,q++[(i:Int)],v',ow'),⟨rfl,by rw[Int.toNat_of_nonneg (by omega)];rfl,trivial⟩,sB,trivial,sB,qG _,⟨by dsimp only;omega,by dsimp only;rw[Int.toNat_of_nonneg (by omega)];exact hown'.il,by dsimp only;rw[qJ,qx];omega,fun l h=>by dsimp only;rw[qZ];exact hlf _ (.high hn oM (by rw[hyg];exact hle2) h)⟩,hG2,by dsimp only;omega⟩
theorem zmN {H:Hp} {cs:List Value} {vx:Value} {kd cl w:Int} {ns:List Nd} {x:List Rat} (ht:zcx H cs kd cl w ns) (hok:zaX ⟨kd,cl,w,ns⟩) (hx:QL H vx x) (hxl:(x.length:Int)=w) (hxs:∀q,q∈x→sm q) :
  PC prog 40 #[.agg cs.toArray,vx] H fun r _=>∃j:Nat,r=.tuple #[.int .i64 (j:Int),.int .i64 0]∧zjn ns x 0 j:=by
 have hw:=zsl ht hok hx hxl hxs;obtain⟨a,cp,css,rfl,hns,hsl⟩:=ht;obtain⟨xa,xc,rfl⟩:=SlC.val hx;refine BD func40 ntmps40 ?_;refine uR ?_;refine vA (hw) ?_;rintro r G ⟨l,v,rfl,hil,hp,hlen⟩ hG;obtain⟨j,q,rfl,hlf⟩:=hp.leaf;obtain⟨va,vc,rfl⟩:=SlC.val hil;refine uR ?_
 have e1:IntKind.i64.wrap (((q++[(j:Int)]).length:Int)-1)=(q.length:Int):=by
  rw[qJ,qx]at hlen;rw[qJ,qx,pM];omega
 rw[e1];refine vI (hil) (q.length) (rfl) ((by rw[qJ,qx];omega)) ((by rw[qK,qL (qH _),Nat.sub_self];rfl)) ?_;refine uR ?_;exact⟨j,rfl,hlf⟩
set_option maxRecDepth 100000 in
theorem zn7 {H:Hp} {cs:List Value} {vx:Value} {kd cl w:Int} {ns:List Nd} {x:List Rat} (ht:zcx H cs kd cl w ns) (hok:zaX ⟨kd,cl,w,ns⟩) (hx:QL H vx x) (hxl:(x.length:Int)=w) (hxs:∀q,q∈x→sm q) :
  PC prog 42 #[.agg cs.toArray,vx] H fun r _=>∃(j:Nat) (n:Nd),r=.tuple #[zaf n.value,.int .i64 n.cls,.int .i64 0]∧zjn ns x 0 j∧ns[j]?=some n:=by
 have hl:=zmN ht hok hx hxl hxs;obtain⟨i0,hlf0,hi0,hni0,_⟩:=zo4 hok x;obtain⟨a,cp,css,rfl,hns,hsl⟩:=ht;obtain⟨xa,xc,rfl⟩:=SlC.val hx;refine BD func42 ntmps42 ?_;refine uR ?_;refine vA (hl) ?_;rintro r G ⟨j,rfl,hlf⟩ hG;obtain rfl:i0=j:=hlf0.det hlf;obtain⟨n,hn⟩:∃n,ns[i0]?=some n:=⟨_,hni0⟩;obtain⟨c,hcut,hnd⟩:=(hns.mono hG).get hn;obtain⟨a7,c7,rfl,_⟩:=hnd.cells;have hsl1:=hsl.mono hG;refine uR ?_;apply EV.drawnK [2,4,7] [4] [2] 13 rfl rfl rfl rfl kR kR;intro xv yw;(repeat refine' DD ?_);refine' DJ.idxM tO rfl rfl rfl rfl rfl rfl rfl rfl rfl (hsl1) (i0) (rfl) (hi0) (hcut) ?_;rotate_left;(repeat refine' DD ?_);refine' DJ.idxM tO rfl rfl rfl rfl rfl rfl rfl rfl rfl (hsl1) (i0) (rfl) (hi0) (hcut) ?_;rotate_left;(repeat refine' DD ?_);(refine DJ.nil (fun G hG hF=>?_);(case hS|hS2=>rfl);(case hD=>rfl));refine uR ?_;exact⟨i0,n,rfl,hlf,hn⟩
abbrev zd4 (d:Nat):List UInt8:=Lib.repeatL [32,32] d
inductive Txt (T:List Nd) (kd:Int) (f:Rat→List UInt8):Nat→Nat→List UInt8→Prop
 | cls {k d:Nat} {n:Nd}:T[k]?=some n→n.col = -1→kd=1→Txt T kd f k d (zd4 d++(([99,108,97,115,115,32]++Lib.decDigits n.cls.toNat)++[10]))
 | val {k d:Nat} {n:Nd}:T[k]?=some n→n.col = -1→kd≠1→Txt T kd f k d (zd4 d++(([118,97,108,117,101,32]++f n.value)++[10]))
 | node {k d:Nat} {n:Nd} {a b:List UInt8}:T[k]?=some n→n.col ≠ -1→Txt T kd f n.left.toNat (d+1) a→Txt T kd f n.right.toNat (d+1) b→Txt T kd f k d (zd4 d++(((([120]++Lib.decDigits n.col.toNat)++[32,60,61,32])++f n.at')++[10])++a++b)
theorem zcu (s:List UInt8):∀c,(Lib.repeatL s c).length=c*s.length
 | 0=>by simp[Lib.repeatL]
 | c+1=>by rw[Lib.repeatL,qJ,zcu s c,Nat.succ_mul];omega
structure zuv (H:Hp) (ns:List Nd) (kd w:Int) (f:Rat→List UInt8):Prop where
 wide:w≤100
 cls:∀n,n∈ns→0≤n.cls∧n.cls<100
 atT:∀n,n∈ns→n.col ≠ -1→(f n.at').length≤9000∧∀G,H.Le G→PC prog 146 #[zaf n.at'] G fun r _=>r=.string (sb (f n.at'))
 valT:kd≠1→∀n,n∈ns→(f n.value).length≤9000∧∀G,H.Le G→PC prog 146 #[zaf n.value] G fun r _=>r=.string (sb (f n.value))
theorem zf1 {n:Nat} (h:n<100):(Lib.decDigits n).length≤20:=zl3 oM
set_option maxRecDepth 100000 in
theorem zrX {H0:Hp} {ns:List Nd} {kd cl w:Int} {f:Rat→List UInt8} (hF:zuv H0 ns kd w f):∀{k h e:Nat},Sub ns w k h e→∀(d:Nat),d+h≤1000 →
  ∃l,Txt ns kd f k d l∧0<l.length∧l.length≤(e-k)*20000∧∀{H:Hp} {cs:List Value} {b:Nat} {t:List UInt8} {L:Ows},H0.Le H→zcx H cs kd cl w ns→zoj b t L→t.length+(e-k)*20000≤100000000 →
   PW prog 93 #[.pointer (some ⟨b,0,none⟩),.agg cs.toArray,.int .i64 (k:Int),.int .i64 (d:Int)] H L fun r ow _=>r=.tuple #[]∧zoj b (t++l) ow:=by
 intro k h e hs
 induction hs with
 | @leaf k h n q1 q2 q3 q4 q5 =>
  intro d hd;have hk:=(qE.1 q1).1;have hmem:=qF q1;obtain⟨hc0,hc1⟩:=hF.cls n hmem;have hrep:=zhb [32,32] d oM (by simp);have hlr:(zd4 d).length=d*2:=zcu _ _;by_cases hkd:kd=1
  ·have hl:=zf1 (n:=n.cls.toNat) oM;refine⟨_,.cls q1 q2 hkd,by simp;omega,by simp only[qJ,hlr,qR,qi];omega,fun {H cs b t L} hH ht hb hsz=>?_⟩;have hit:=zmf n.cls hc0 hc1;obtain⟨a,cp,css,rfl,hns,hsl⟩:=ht;obtain⟨c,hcut,hnd⟩:=hns.get q1;obtain⟨a7,c7,rfl,_⟩:=hnd.cells;obtain⟨p,v,ow,rfl,hp,hown⟩:=id hb;refine PW.body tO func93 rfl kR ntmps93 rfl rfl ?_;refine uR ?_;refine EVL.idxM tO rfl rfl rfl rfl rfl rfl rfl rfl rfl (hsl) (k) (rfl) (hk) (hcut) ?_
   repeat (first|refine RUN ?_|refine CV (hrep) ?_|refine CE (hrep) ?_)
   refine EVL.callW rfl rfl rfl rfl rfl ((b,172,[p,v])::ow) [] (qG _).symm (zbj (zd4 d) hb oM) ?_;rintro _ ow1 H1 ⟨rfl,hb1⟩ hH1;refine uR ?_;rw[show (n.col != -1)=false by rw[q2];rfl];refine uR ?_;rw[show (kd == 1)=true by rw[hkd];rfl]
   repeat (first|refine RUN ?_|refine CV (hit) ?_|refine CE (hit) ?_)
   refine EVL.cat [99,108,97,115,115,32] (Lib.decDigits n.cls.toNat) rfl rfl rfl rfl rfl rfl (by decide) oM ?_;refine EVL.cat ([99,108,97,115,115,32]++Lib.decDigits n.cls.toNat) [10] rfl rfl rfl rfl rfl rfl (by simp only[qJ,qR,qi];omega) (by decide) ?_;refine EVL.callW rfl rfl rfl rfl rfl ow1 [] rfl (zbj (([99,108,97,115,115,32]++Lib.decDigits n.cls.toNat)++[10]) hb1 (by simp only[qJ,hlr,qR,qi];omega)) ?_;rintro _ ow2 H2 ⟨rfl,hb2⟩ hH2;refine uR ?_;rw[qZ]at hb2;exact⟨rfl,by rw[qG];exact hb2⟩
  ·obtain⟨hl,hvt⟩:=hF.valT hkd n hmem;refine⟨_,.val q1 q2 hkd,by simp;omega,by simp only[qJ,hlr,qR,qi];omega,fun {H cs b t L} hH ht hb hsz=>?_⟩;obtain⟨a,cp,css,rfl,hns,hsl⟩:=ht;obtain⟨c,hcut,hnd⟩:=hns.get q1;obtain⟨a7,c7,rfl,_⟩:=hnd.cells;obtain⟨p,v,ow,rfl,hp,hown⟩:=id hb;refine PW.body tO func93 rfl kR ntmps93 rfl rfl ?_;refine uR ?_;refine EVL.idxM tO rfl rfl rfl rfl rfl rfl rfl rfl rfl (hsl) (k) (rfl) (hk) (hcut) ?_
   repeat (first|refine RUN ?_|refine CV (hrep) ?_|refine CE (hrep) ?_)
   refine EVL.callW rfl rfl rfl rfl rfl ((b,172,[p,v])::ow) [] (qG _).symm (zbj (zd4 d) hb oM) ?_;rintro _ ow1 H1 ⟨rfl,hb1⟩ hH1;refine uR ?_;rw[show (n.col != -1)=false by rw[q2];rfl];refine uR ?_;rw[show (kd == 1)=false from beq_false_of_ne hkd];refine uR ?_;refine vA (hvt _ (hH.trans hH1)) ?_;rintro _ G rfl hG;refine EVL.cat [118,97,108,117,101,32] (f n.value) rfl rfl rfl rfl rfl rfl (by decide) oM ?_;refine EVL.cat ([118,97,108,117,101,32]++f n.value) [10] rfl rfl rfl rfl rfl rfl (by simp only[qJ,qR,qi];omega) (by decide) ?_;refine EVL.callW rfl rfl rfl rfl rfl ow1 [] rfl (zbj (([118,97,108,117,101,32]++f n.value)++[10]) hb1 (by simp only[qJ,hlr,qR,qi];omega)) ?_;rintro _ ow2 H2 ⟨rfl,hb2⟩ hH2;refine uR ?_;rw[qZ]at hb2;exact⟨rfl,by rw[qG];exact hb2⟩
 | @node k h m e n q1 q2 q3 q4 q5 s1 s2 ih1 ih2 =>
  intro d hd;have hk:=(qE.1 q1).1;have hmem:=qF q1;have hrep:=zhb [32,32] d oM (by simp);have hlr:(zd4 d).length=d*2:=zcu _ _;have hw:=hF.wide;have hl0:=zf1 (n:=n.col.toNat) oM;have hit:=zmf n.col q2 oM;have hcm:n.col ≠ -1:=oM;obtain⟨hl,hvt⟩:=hF.atT n hmem hcm;obtain⟨la,hta,ha0,ha1,ha2⟩:=ih1 (d+1) oM;obtain⟨lb,htb,hb0,hb1',hb2'⟩:=ih2 (d+1) oM;have hm1:=s1.lt;have hm2:=s2.lt;refine⟨_,.node q1 hcm (by rw[q4,qU];exact hta) (by rw[q5,qU];exact htb),by simp;omega,by simp only[qJ,hlr,qR,qi];omega,fun {H cs b t L} hH ht hb hsz=>?_⟩;have ht0:=ht;obtain⟨a,cp,css,rfl,hns,hsl⟩:=ht;obtain⟨c,hcut,hnd⟩:=hns.get q1;obtain⟨a7,c7,rfl,_⟩:=hnd.cells;obtain⟨p,v,ow,rfl,hp,hown⟩:=id hb;refine PW.body tO func93 rfl kR ntmps93 rfl rfl ?_;refine uR ?_;refine EVL.idxM tO rfl rfl rfl rfl rfl rfl rfl rfl rfl (hsl) (k) (rfl) (hk) (hcut) ?_
  repeat (first|refine RUN ?_|refine CV (hrep) ?_|refine CE (hrep) ?_)
  refine EVL.callW rfl rfl rfl rfl rfl ((b,172,[p,v])::ow) [] (qG _).symm (zbj (zd4 d) hb oM) ?_;rintro _ ow1 H1 ⟨rfl,hb1⟩ hH1;refine uR ?_;rw[show (n.col != -1)=true from bne_iff_ne.2 hcm];refine uR ?_;apply EV.drawn 11 kR kR;intro xv yw;(repeat (first|refine' DD ?_|(refine' DC (hit) (h:=?_);rotate_left)));refine' DJ.cat [120] (Lib.decDigits n.col.toNat) rfl rfl rfl rfl rfl rfl (by decide) oM ?_;rotate_left;refine' DJ.cat ([120]++Lib.decDigits n.col.toNat) [32,60,61,32] rfl rfl rfl rfl rfl rfl (by simp only[qJ,qR,qi];omega) (by decide) ?_;rotate_left;(repeat refine' DD ?_);refine' vC (cO func146) (fun G hG hd=>hvt G ((hH.trans hH1).trans hG)) ?_;rotate_left;refine' DJ.cat (([120]++Lib.decDigits n.col.toNat)++[32,60,61,32]) (f n.at') rfl rfl rfl rfl rfl rfl (by simp only[qJ,qR,qi];omega) oM ?_;rotate_left;refine' DJ.cat ((([120]++Lib.decDigits n.col.toNat)++[32,60,61,32])++f n.at') [10] rfl rfl rfl rfl rfl rfl (by simp only[qJ,qR,qi];omega) (by decide) ?_;rotate_left;(refine DJ.nil (fun G2 hG2 hF2=>?_);(case hS|hS2=>rfl));refine EVL.callW rfl rfl rfl rfl rfl ow1 [] rfl (zbj (((([120]++Lib.decDigits n.col.toNat)++[32,60,61,32])++f n.at')++[10]) hb1 (by simp only[qJ,hlr,qR,qi];omega)) ?_;rintro _ ow2 H2 ⟨rfl,hb2⟩ hH2;refine uR ?_;have ht2:=ht0.mono ((hH1.trans hG2).trans hH2);have hH3:=hH.trans ((hH1.trans hG2).trans hH2);have hX:(zd4 d++(((([120]++Lib.decDigits n.col.toNat)++[32,60,61,32])++f n.at')++[10])).length≤20000:=by simp only[qJ,hlr,qR,qi];omega
  rw[qZ]at hb2;generalize zd4 d++(((([120]++Lib.decDigits n.col.toNat)++[32,60,61,32])++f n.at')++[10])=X at *
  have pa:=ha2 hH3 ht2 hb2 (by rw[qJ];omega);rw[←q4]at pa;refine EVL.asI ((((d+1:Nat):Int))) ((by rw[pM];omega)) ?_;refine EVL.callW rfl rfl rfl rfl rfl ow2 [] rfl pa ?_;rintro _ ow3 H3 ⟨rfl,hb3⟩ hH4;refine uR ?_;have pb:=hb2' (hH3.trans hH4) (ht2.mono hH4) hb3 (by simp only[qJ];omega);rw[←q5]at pb;refine EVL.asI ((((d+1:Nat):Int))) ((by rw[pM];omega)) ?_;refine EVL.callW rfl rfl rfl rfl rfl ow3 [] rfl pb ?_;rintro _ ow4 H4 ⟨rfl,hb4⟩ hH5;refine uR ?_;exact⟨rfl,by rw[qG];simpa only[qZ] using hb4⟩
set_option maxRecDepth 100000 in
theorem zmQ {H:Hp} {cs:List Value} {kd cl w:Int} {ns:List Nd} {f:Rat→List UInt8} (ht:zcx H cs kd cl w ns) (hok:zaX ⟨kd,cl,w,ns⟩) (hF:zuv H ns kd w f) :
  PC prog 43 #[.agg cs.toArray] H fun r _=>∃l,r=.string (sb l)∧Txt ns kd f 0 0 l:=by
 have hck:=zck ht hok;obtain⟨hkd,hw,hln,⟨hh,hh10,hsub⟩,hall⟩:=hok;dsimp only at hkd hw hln hsub hall;obtain⟨l,htx,hl0,hl1,hpw⟩:=zrX (cl:=cl) hF hsub 0 oM;have ht0:=ht;obtain⟨a,cp,css,rfl,hns,hsl⟩:=ht;refine BD func43 ntmps43 ?_
 repeat (first|refine RUN ?_|refine CV (hck) ?_|refine CE (hck) ?_)
 (first|refine EVL.unbox (3) rfl fun b=>?_|refine EV.unbox (3) rfl fun b=>?_);refine uR ?_;refine EVL.callW rfl rfl rfl rfl rfl [(b,172,[.pointer none,.slice none 0 0])] [] rfl (hpw (Hp.Le.refl _) ht0 (zoj.new b) (by simp only[qi];omega)) ?_;rintro _ ow1 H1 ⟨rfl,hb1⟩ hH1;refine uR ?_;refine EVL.callW rfl rfl rfl rfl rfl ow1 [] rfl (zfA hb1 (by rw[pO];exact List.length_pos_iff.1 hl0)) ?_;rintro _ ow2 H2 ⟨rfl,rfl⟩ hH2;refine uR ?_;exact⟨l,by rw[pO],htx⟩
def zt2:GD:=.c 2 [0,0,1]
def k18:GP:=⟨[[1],[2],[4]],zt2.cost,zt2.mean,zt2.cnt,1,0,fun s=>(zd1 1,s)⟩
theorem zq3:zdZ [1,2,4]=[1,2,4]:=by
 unfold zdZ;exact List.mergeSort_of_pairwise (by decide)
theorem zt4:plQ k18.X 0 [0,1,2]=[3 / 2,3]:=by
 unfold plQ;rw[if_pos kR,show List.map (zbv k18.X 0) [0,1,2]=[1,2,4] by kernel_rfl,zq3]
 kernel_rfl
theorem zq1:k18.best [0,1,2] (zd1 1)=some (0,3,4 / 3):=by
 unfold GP.best zaE;rw[show zd1 1=[0] by kernel_rfl,List.flatMap_cons,List.flatMap_nil,zt4]
 kernel_rfl
theorem zsS:k18.cut [0,1,2] (zd1 1)=some (0,3):=by
 unfold GP.cut;rw[zq1]
 kernel_rfl
set_option maxRecDepth 100000 in
theorem zq2 (s:Int):(k18.grow 1 0 [0,1,2] s).1.map (fun n=>(n.col,n.left,n.right,n.cls,n.at'))=[(0,1,2,0,3),(-1,0,0,0,0),(-1,0,0,1,0)]:=by
 rw[GP.grow];rw[show (k18.cols s).1=zd1 1 from rfl,zsS]
 kernel_rfl
abbrev ztz:List UInt8:=[120,48,32,60,61,32,51,10,32,32,99,108,97,115,115,32,48,10,32,32,99,108,97,115,115,32,49,10]
abbrev f18:Rat→List UInt8:=fun q=>Lib.decDigits q.num.natAbs
def ztH (ns:List Nd):Prop:=ns.map (fun n=>(n.col,n.left,n.right,n.cls,n.at'))=[(0,1,2,0,3),(-1,0,0,0,0),(-1,0,0,1,0)]
theorem ztH.parts {ns:List Nd} (h:ztH ns):∃a b c:Nd,ns=[a,b,c]∧(a.col=0∧a.left=1∧a.right=2∧a.cls=0∧a.at'=3)∧(b.col = -1∧b.cls=0)∧(c.col = -1∧c.cls=1):=by
 unfold ztH at h;have hl:ns.length=3:=by simpa using congrArg List.length h
 match ns,hl with
 | [a,b,c],_ =>
  simp only[qy,List.map_nil,List.cons.injEq,Prod.mk.injEq,and_true]at h;obtain⟨⟨h1,h2,h3,h4,h5⟩,⟨h6,_,_,h7,_⟩,⟨h8,_,_,h9,_⟩⟩:=h;exact⟨a,b,c,rfl,⟨h1,h2,h3,h4,h5⟩,⟨h6,h7⟩,⟨h8,h9⟩⟩
theorem zil {ns:List Nd} {f:Rat→List UInt8} {k d:Nat} {n:Nd} {l:List UInt8} (hn:ns[k]?=some n) (hc:n.col = -1) (h:Txt ns 1 f k d l):l=zd4 d++(([99,108,97,115,115,32]++Lib.decDigits n.cls.toNat)++[10]):=by
 cases h with
 | cls h1 h2 h3=>cases hn.symm.trans h1;rfl
 | val h1 h2 h3=>exact absurd rfl h3
 | node h1 h2 h3 h4=>cases hn.symm.trans h1;exact absurd hc h2
theorem zrS {ns:List Nd} (h:ztH ns) {l:List UInt8} (ht:Txt ns 1 f18 0 0 l):l=ztz:=by
 obtain⟨a,b,c,rfl,⟨h1,h2,h3,h4,h5⟩,⟨h6,h7⟩,⟨h8,h9⟩⟩:=h.parts
 cases ht with
 | cls k1 k2 k3=>cases k1;omega
 | val k1 k2 k3=>exact absurd rfl k3
 | node k1 k2 k3 k4 =>
  cases k1;rw[h2]at k3;rw[h3]at k4;rw[zil (n:=b) rfl h6 k3,zil (n:=c) rfl h8 k4,h1,h5,h7,h9];decide +kernel
theorem zjr.gpAny {p:GP} {kd cl:Int} {w:Nat} (h:zjr kd cl p.X.length p.cost p.mean p.cnt) (hX:p.X.length≤300) (hx:∀x,x∈p.X→x.length=w∧∀q,q∈x→ht q≤60) (hg:0≤p.gain) (hc:∀s c,c∈(p.cols s).1→0≤c∧c<(w:Int)):zqx p kd cl w :=
 ⟨h.kind,hX,fun x k=>(hx x k).1,fun x k=>(hx x k).2,h.clen,h.cadd,h.cpos,h.csum,h.zero,h.cost0,h.csm,h.msm,hg,hc⟩
theorem zr7:zt2.Ok 3:=⟨by omega,rfl,by decide⟩
theorem ziN:∀x,x∈k18.X→x.length=1∧∀q,q∈x→ht q≤60:=by decide +kernel
theorem zt3:zqx k18 1 2 1:=zjr.gpAny (p:=k18) zr7.plain (by decide) ziN (by decide +kernel) (fun s c hc=>by
 have:c∈([0]:List Int):=hc;rw[pL.1 this];omega)
theorem zq4 (s:Int):zaX ⟨1,2,1,(k18.grow 1 0 [0,1,2] s).1⟩:=zoV zt3 ⟨by omega,by omega⟩ oM (by decide) (by decide) (by decide) s
theorem zsT (H:Hp) {ns:List Nd} (h:ztH ns):zuv H ns 1 1 f18:=by
 obtain⟨a,b,c,rfl,⟨h1,h2,h3,h4,h5⟩,⟨h6,h7⟩,⟨h8,h9⟩⟩:=h.parts;have hm:∀n,n∈[a,b,c]→n=a∨n=b∨n=c:=fun n hn=>by simpa using hn
 refine⟨by omega,fun n hn=>?_,fun n hn hc=>?_,fun h=>absurd rfl h⟩
 ·rcases hm n hn with rfl | rfl | rfl <;> omega
 ·rcases hm n hn with rfl | rfl | rfl
  ·rw[h5];exact⟨by decide +kernel,fun G _=>((zjQ 3 oM).pc G).mono fun _ _ h _=>h.1⟩
  ·exact absurd h6 hc
  ·exact absurd h8 hc
def knX:List (List Rat):=[[1],[2],[4]]
theorem zt5 {G:Hp} {a b c v:Value} {p q r:Rat} (h1:RL G a [p]) (h2:RL G b [q]) (h3:RL G c [r]) (hm:v∈[a,b,c]):(zad v).length=1:=by
 obtain⟨_,_,rfl⟩:=h1.val;obtain⟨_,_,rfl⟩:=h2.val;obtain⟨_,_,rfl⟩:=h3.val;rcases List.mem_cons.1 hm with rfl | hm
 ·rfl
 ·rcases List.mem_cons.1 hm with rfl | hm
  ·rfl
  ·rw[pL.1 hm];rfl
theorem zt6 {G:Hp} {a b c v:Value} (h1:RL G a [((1:Int):Rat)]) (h2:RL G b [((2:Int):Rat)]) (h3:RL G c [((4:Int):Rat)]) (h:SlC G v 3 1 ([a,b,c].flatMap zad)):RLL G v knX:=by
 obtain⟨_,_,rfl⟩:=h1.val;obtain⟨_,_,rfl⟩:=h2.val;obtain⟨_,_,rfl⟩:=h3.val;exact⟨_,(((RRs.nil G).snoc h1).snoc h2).snoc h3,h⟩
theorem zuD:∀x,x∈knX→∀q,q∈x→ht q≤100:=by decide +kernel
theorem zq5:∀x,x∈knX→x.length≤1000000∧∀q,q∈x→rq q:=fun x hx=>⟨by revert x;decide +kernel,fun q hq=>qI (zuD x hx q hq) oM⟩
abbrev zui:Value:=.agg #[.int .i64 1,.int .i64 1,.bool false,.int .u64 0,.string .empty,.int .u64 0,.string .empty]
theorem zrE:zui=.agg (ztN ((1:Nat):Int) 1 0).toArray:=by
 unfold ztN;rw[zaH];rfl
theorem zoT {G1:Hp} {b:Nat} (hv:IL G1 (.slice (some ⟨b,0,none⟩) 3 3) [0,0,1]) (G:Hp) (hG:G1.Le G) (v8 v9:Value) (h8:QLL G v8 k18.X) (h9:IL G v9 [0,1,2]) :
  PC prog 13 #[zas 1 2 (.slice (some ⟨b,0,none⟩) 3 3) (.slice none 0 0),v8,v9,zui] G fun v H'=>∃cs ns,v=.tuple #[.agg cs.toArray,.int .i64 0]∧zcx H' cs 1 2 1 ns∧ztH ns∧zaX ⟨1,2,1,ns⟩:=by
 have hP:zt2.P G (.slice (some ⟨b,0,none⟩) 3 3) (.slice none 0 0):=⟨_,3,none,0,rfl,rfl,hv.mono hG⟩;obtain⟨S,wo,hg⟩:=zr7.pgoal oM oM hP (p:=k18) rfl rfl rfl rfl;obtain⟨xa,xc,rfl⟩:=SlC.val h8.choose_spec.2;rw[zrE];exact(zlG (p:=k18) (least:=1) (w:=1) (s:=0) (D0:=1) (fun _=>rfl) oM oM (by decide) (by decide) (fun x hx=>(ziN x hx).1) (fun x hx=>(ziN x hx).2) rfl oM (show sm 0 by show ht 0≤100000000;rw[zb9];decide) (by decide +kernel) oM hg h8 h9 (by decide) (by decide) (by decide)).mono fun v H' ⟨cs,e,hp⟩ _=>⟨cs,_,e,hp,zq2 0,zq4 0⟩
set_option maxRecDepth 100000 in
theorem znt:PV prog 14 #[] (.bool true):=by
 refine PV.of_pc ?_;have hof:=fun (z:Int) (h1:-9223372036854775808≤z) (h2:z<9223372036854775808) (G:Hp)=>zaZ (H:=G) z h1 h2;refine BD func14 ntmps14 ?_;refine uR ?_;refine EVL.lit tO rfl rfl rfl rfl rfl rfl rfl rfl rfl rfl rfl fun b=>?_;(first|refine EVL.publish [] [] rfl fun G1 hG1 hb=>?_|refine EV.publish [] [] rfl fun G1 hG1 hb=>?_);have hv:IL G1 (.slice (some ⟨b,0,none⟩) 3 3) [0,0,1]:=⟨rfl,.inr ⟨b,0,3,_,rfl,qH _,hb,fun j x hj=>by rw[qv];simpa using hj⟩⟩;refine uR ?_;apply EV.drawn 17 kR kR;intro xv yw;(repeat refine' DD ?_);refine' vB (cO func67) (fun G hG hd=>hof 1 (by decide) (by decide) G) (fun _ _ _ h k=>RQ.mono h k) ?_;rotate_left;(refine' DJ.litD1 (Φ:=fun w G=>RL G w [((1:Int):Rat)]) (fun _ _ _ h k=>h.mono k) tO rfl rfl rfl rfl rfl rfl rfl rfl rfl rfl rfl (fun G hd=>RQ.len3 (hd.head kR)) (fun G G' w hd hG h=>RL.one h ((hd.head kR).mono hG)) ?_;rotate_left);refine' vB (cO func67) (fun G hG hd=>hof 2 (by decide) (by decide) G) (fun _ _ _ h k=>RQ.mono h k) ?_;rotate_left;(refine' DJ.litD1 (Φ:=fun w G=>RL G w [((2:Int):Rat)]) (fun _ _ _ h k=>h.mono k) tO rfl rfl rfl rfl rfl rfl rfl rfl rfl rfl rfl (fun G hd=>RQ.len3 (hd.head kR)) (fun G G' w hd hG h=>RL.one h ((hd.head kR).mono hG)) ?_;rotate_left);refine' vB (cO func67) (fun G hG hd=>hof 4 (by decide) (by decide) G) (fun _ _ _ h k=>RQ.mono h k) ?_;rotate_left;(refine' DJ.litD1 (Φ:=fun w G=>RL G w [((4:Int):Rat)]) (fun _ _ _ h k=>h.mono k) tO rfl rfl rfl rfl rfl rfl rfl rfl rfl rfl rfl (fun G hd=>RQ.len3 (hd.head kR)) (fun G G' w hd hG h=>RL.one h ((hd.head kR).mono hG)) ?_;rotate_left);(refine' DJ.litD3 (Φ:=fun w G=>RLL G w knX) (fun _ _ _ h k=>h.mono k) tO rfl rfl rfl rfl rfl rfl rfl rfl rfl rfl rfl rfl rfl (fun G hd w hm=>zt5 (hd.tail.tail.tail.tail.head kR) (hd.tail.tail.head kR) (hd.head kR) hm) (fun G G' w hd hG h=>zt6 ((hd.tail.tail.tail.tail.head kR).mono hG) ((hd.tail.tail.head kR).mono hG) ((hd.head kR).mono hG) h) ?_;rotate_left);refine' vB (cO func12) (fun G hG hd=>zo1 (X:=knX) (hd.head kR) (by decide) zq5) (fun _ _ _ h k=>QLL.mono h k) ?_;rotate_left;(refine' DJ.lit tO rfl rfl rfl rfl rfl rfl rfl rfl rfl rfl rfl rfl ?_;rotate_left);(repeat refine' DD ?_);refine' vB (cO func13) (fun G hG hd=>zoT hv G hG (xv 8) (xv 9) (hd.tail.head kR) (show IL G (xv 9) [0,1,2] from hd.head kR)) (fun _ _ _ h k=>(by obtain⟨cs,ns,e,hp,h1,h2⟩:=h;exact⟨cs,ns,e,hp.mono k,h1,h2⟩)) ?_;rotate_left;refine' DJ.copy (11) (by first|exact .inl rfl|exact .inr rfl) rfl rfl rfl id rfl kR ?_;rotate_left;refine' DJ.extract (11) rfl rfl rfl rfl rfl kR (fun G hd=>(by obtain⟨cs,ns,e,_⟩:=hd.head kR;exact⟨_,e,Nat.zero_lt_succ _⟩)) ?_;rotate_left;refine' DJ.extract (11) rfl rfl rfl rfl rfl kR (fun G hd=>(by obtain⟨cs,ns,e,_⟩:=hd.head kR;exact⟨_,e,Nat.lt_succ_self _⟩)) ?_;rotate_left;(repeat refine' DD ?_);refine' DJ.storeD tO rfl rfl rfl rfl (11) (zch 0) rfl rfl (15) rfl rfl kR kR rfl (fun G hd=>(by obtain⟨cs,ns,e,hp,_⟩:=hd.head kR;obtain⟨_,_,_,rfl,_⟩:=hp;rw[e];exact⟨rfl,rfl⟩)) ?_;rotate_left;(refine DJ.nil (fun G2 hG2 hF2=>?_);(case hS|hS2=>rfl));obtain⟨⟨cs,ns,e4,hp4,hi4,ho4⟩,_⟩:=hF2;have htx:=zmQ hp4 ho4 (zsT G2 hi4);obtain⟨a4,c4,css,rfl,_,_⟩:=id hp4;rw[e4];rw[show zch 1 (Value.tuple #[.agg (([.int .i64 1,.int .i64 2,.int .i64 1,.slice a4 ns.length c4]:List Value)).toArray,.int .i64 0])=.int .i64 0 from rfl,show zad (zch 0 (Value.tuple #[.agg (([.int .i64 1,.int .i64 2,.int .i64 1,.slice a4 ns.length c4]:List Value)).toArray,.int .i64 0]))=[.int .i64 1,.int .i64 2,.int .i64 1,.slice a4 ns.length c4] from rfl];refine uR ?_;refine vA (htx) ?_;rintro _ G3 ⟨l,rfl,hl⟩ hG3;obtain rfl:=zrS hi4 hl;have hck3:=zck (hp4.mono hG3) ho4;refine uR ?_;rw[show ((sb ztz).toList == (⟨#[120,48,32,60,61,32,51,10,32,32,99,108,97,115,115,32,48,10,32,32,99,108,97,115,115,32,49,10]⟩:ByteArray).toList)=true from beq_self_eq_true (sb ztz).toList]
 repeat (first|refine RUN ?_|refine CV (hck3) ?_|refine CE (hck3) ?_)
 rfl
theorem GD.Ok.rgoal {H:Hp} {n:Nat} {d:GD} (hd:d.Ok n) (h0:1≤n) (h1:n≤300) {v:Value} (hR:d.R H v):(∃ga gn gc va vn vc,v=zas d.kd d.cl (.slice ga gn gc) (.slice va vn vc))∧zkW H v d.kd n d.cost d.mean d.cnt:=by
 have hsm:=hd.sm
 cases d with
 | v qs =>
  obtain⟨rfl,hq⟩:=hd;obtain⟨s,rfl,hs⟩:=hR;obtain⟨sa,sc,rfl⟩:=hs.val;have q50:∀q,q∈qs→ht q≤50:=fun q hq'=>qI (hq q hq') oM;refine⟨⟨_,_,_,_,_,_,rfl⟩,⟨?_,?_,?_,?_,?_,?_,?_,?_,?_,?_⟩⟩
  ·exact fun e=>absurd e (by decide:¬(2:Int)=1)
  ·exact fun _ l=>rfl
  ·exact fun e=>absurd e (by decide:¬(2:Int)=1)
  ·exact fun l=>qQ _
  ·exact fun G hG u l hl hn=>zg6 hl hn (hs.mono hG) q50
  ·exact fun l hn hr=>by have:=(hsm l hn hr).1;omega
  ·exact fun G hG u l hl hn=>zlx hl hn (hs.mono hG) hq
  ·exact fun l hn hr=>(hsm l hn hr).2
  ·exact fun G hG=>znJ h0 h1
  ·exact zry
 | c C ls =>
  obtain⟨hc,rfl,hlb⟩:=hd;obtain⟨s,rfl,hs⟩:=hR;obtain⟨sa,sc,rfl⟩:=SlC.val hs;refine⟨⟨_,_,_,_,_,_,rfl⟩,⟨?_,?_,?_,?_,?_,?_,?_,?_,?_,?_⟩⟩
  ·exact fun _ G hG u l hl hn=>zfJ hl hn (SlC.mono hs hG) oM hlb
  ·exact fun e=>absurd rfl e
  ·exact fun _ l=>rfl
  ·exact fun l=>by show (zdr C (atI ls l)).length≤12;rw[zbo];omega
  ·intro G hG u l hl hn;have:=zg6 (kd:=1) (cl:=(C:Int)) (sl:=.slice sa ls.length sc) hl hn (RL.nil G none 0) (by intro q hq;cases hq);rw[show atR [] (exL l ([]:List Rat).length)=[] by rw[show exL l ([]:List Rat).length=[] from List.filter_eq_nil_iff.2 fun r _=>by unfold inR;simp];rfl,zeP]at this;exact this
  ·exact fun l hn hr=>by have:=(hsm l hn hr).1;omega
  ·exact fun G hG u l hl hn=>zlw hl hn (SlC.mono hs hG) oM oM hlb
  ·exact fun l hn hr=>(hsm l hn hr).2
  ·exact fun G hG=>znI (SlC.mono hs hG) ⟨by show (1:Int)≤(C:Int);omega,by show (C:Int)≤12;omega⟩ h0 h1 hlb
  ·exact zrx (sv:=.bool true)
def zrF (t:Int):Rat:=if t.tmod 4=1 then (if (zpA t).num<0 then -zpA t else zpA t) else 0
theorem zrG {H:Hp} (d0 l0 t:Int) (hd:ziL d0) (hl:ziL l0) (ht:ziL t) :
  PC prog 62 #[.int .i64 d0,.int .i64 l0,.int .i64 t] H fun r H'=>∃b1 a1 l1 c1 a2 l2 c2,r=zi4 (d0 % 5) (1+l0 % 3) (.bool b1) (.slice a1 l1 c1) (.slice a2 l2 c2)∧RQ H' (.agg #[.bool b1,.slice a1 l1 c1,.slice a2 l2 c2]) (zrF t):=by
 have hp1:=zdd d0 5 hd oM oM;have hp2:=zdd l0 3 hl oM oM;refine BD func62 ntmps62 ?_
 repeat (first|refine RUN ?_|refine CV (hp1) ?_|refine CV (hp2) ?_|refine CE (hp1) ?_|refine CE (hp2) ?_)
 rw[show IntKind.i64.wrap (1+l0 % 3)=1+l0 % 3 by rw[pM];omega];refine uR ?_;refine EVL.call rfl rfl rfl rfl rfl (zaZ 0 oM oM) ?_;intro r1 G1 hr1 hG1;obtain⟨a1,l1,c1,a2,l2,c2,rfl,_⟩:=id hr1;refine uR ?_;by_cases h:t.tmod 4=1
 ·rw[show (t.tmod 4 == 1)=true from beq_iff_eq.2 h];refine uR ?_;refine vA (zuY t ht) ?_;intro r2 G2 hr2 hG2;refine vA (zpC hr2) ?_;intro r3 G3 hr3 hG3;obtain⟨a3,l3,c3,a4,l4,c4,rfl,_⟩:=id hr3;refine uR ?_;exact⟨_,_,_,_,_,_,_,rfl,by unfold zrF;rw[if_pos h];exact hr3⟩
 ·rw[show (t.tmod 4 == 1)=false from beq_false_of_ne h];refine uR ?_;exact⟨_,_,_,_,_,_,_,rfl,by unfold zrF;rw[if_neg h];exact hr1⟩
def zbr (l:List Int) (N:Nat):List Int:=(l.take 14).map fun z=>z % (N:Int)
def zcv (l:List Int) (N:Nat):List Int:=if zbr l N=[] then zd1 N else zbr l N
theorem zpP {l:List Int} {N:Nat} (hN:1≤N):∀r,r∈zcv l N→0≤r∧r<(N:Int):=by
 intro r hr;unfold zcv at hr;split at hr
 ·obtain⟨i,hi,rfl⟩:=List.mem_map.1 hr;have:=List.mem_range.1 hi;omega
 ·obtain⟨z,_,rfl⟩:=List.mem_map.1 hr;exact⟨Int.emod_nonneg _ oM,Int.emod_lt_of_pos _ oM⟩
theorem znY {l:List Int} {N:Nat} (hN:1≤N) (hN10:N≤10):1≤(zcv l N).length∧(zcv l N).length≤14:=by
 unfold zcv;split
 ·rw[zc3];omega
 ·rename_i h;have h1:=List.length_pos_iff.2 h;have h2:(zbr l N).length≤14:=by unfold zbr;rw[qV,qP];omega
  omega
abbrev zsf (kd n w dp ls gn:Int) (vg vl vr:Value):Value:=.agg #[.int .i64 kd,.int .i64 n,.int .i64 w,.int .i64 dp,.int .i64 ls,.int .i64 gn,vg,vl,vr]
theorem zlt {l:List Int} {N i:Nat} {z:Int} (h:l[i]?=some z) (hi:i<14):(l.take (i+1)).map (fun z=>z % (N:Int))=(l.take i).map (fun z=>z % (N:Int))++[z % (N:Int)]:=by
 rw[zam h,qp];rfl
theorem znE {l:List Int} {N i:Nat} (h:min l.length 14≤i) (h14:i≤14):(l.take i).map (fun z=>z % (N:Int))=zbr l N:=by
 unfold zbr;by_cases h1:i=14
 ·rw[h1]
 ·rw[qO (show l.length≤i by omega),qO (show l.length≤14 by omega)]
set_option maxRecDepth 100000 in
theorem zrh {H:Hp} {vg vl vr:Value} {lg ll lr:List Int} (kd n w dp ls gn:Int) (hn:ziL n) (hw:ziL w) (hdp:ziL dp) (hls:ziL ls) (hgn:ziL gn) (hg:IL H vg lg) (hgb:∀z,z∈lg→ziL z) (hl:IL H vl ll) (hlb:∀z,z∈ll→ziL z) (hr:IL H vr lr) (hrb:∀z,z∈lr→ziL z) {N W:Nat} (hN:1+n % 10=(N:Int)) (hW:1+w % 3=(W:Int)) :
  PC prog 9 #[zsf kd n w dp ls gn vg vl vr] H fun r H'=>∃kd' cl ga gc' gc va vn vc vx vrows b1 a1 l1 c1 a2 l2 c2,r=.tuple #[zas kd' cl (.slice ga gc' gc) (.slice va vn vc),vx,vrows,zi4 (dp % 5) (1+ls % 3) (.bool b1) (.slice a1 l1 c1) (.slice a2 l2 c2)] ∧
   zjq H' (zas kd' cl (.slice ga gc' gc) (.slice va vn vc)) N (zkq lg N)∧RLL H' vx (zfV ll N W)∧IL H' vrows (zcv lr N)∧RQ H' (.agg #[.bool b1,.slice a1 l1 c1,.slice a2 l2 c2]) (zrF gn):=by
 obtain⟨ga0,gc0,rfl⟩:=SlC.val hg;obtain⟨la0,lc0,rfl⟩:=SlC.val hl;obtain⟨ra0,rc0,rfl⟩:=SlC.val hr;have hp1:=zdd n 10 hn oM oM;have hp2:=zdd w 3 hw oM oM;refine BD func9 ntmps9 ?_
 repeat (first|refine RUN ?_|refine CV (hp1) ?_|refine CE (hp1) ?_)
 rw[show IntKind.i64.wrap (1+n % 10)=(N:Int) by rw[pM];omega]
 repeat (first|refine ztR ?_|refine CV (hp2) ?_|refine CE (hp2) ?_)
 rw[show IntKind.i64.wrap (1+w % 3)=(W:Int) by rw[pM];omega];refine EV.meetK (ι:=Value × Ows) [1,2,5,6,7] [1,2,5] (fun q=>[(8,.v q.1)]) (fun _=>[]) (fun q=>q.2) (fun q G=>H.Le G∧zaL 3 1 q.1 (zbr lr N).length ((zbr lr N).map iv) q.2) rfl rfl (fun _=>rfl) ?_ ?_
 ·try refine uR ?_
  refine EV.loopK (ι:=Nat × Value × Ows) [1,2,5,6,7] [1,2,5] (fun q=>[(8,.v q.2.1),(9,.v (.int .i64 (q.1:Int)))]) (fun _=>[]) (fun q=>q.2.2) (fun q _=>(q.1≤lr.length∧q.1≤14)∧zaL 3 1 q.2.1 q.1 (((lr.take q.1).map fun z=>z % (N:Int)).map iv) q.2.2) (fun q=>14-q.1) ((0,.slice none 0 0,[])) rfl rfl ⟨rfl,rfl,trivial⟩ trivial rfl (fun _=>rfl) (⟨⟨qQ _,qQ _⟩,zaL.nil _ _⟩) ?_;rintro⟨i,v8,ow⟩ G1 hG1 ⟨⟨hi,hi4⟩,hown⟩;dsimp only at hi hi4 hown;obtain⟨a8,c8,rfl⟩:=hown.val;have wi:IntKind.i64.wrap ((i:Int)+1)=((i+1:Nat):Int):=zac i oM;by_cases hgo:i<lr.length∧i<14
  ·obtain⟨z,hz⟩:∃z,lr[i]?=some z:=⟨_,qA hgo.1⟩;have hp:=zdd z (N:Int) (hrb z (qF hz)) oM oM;have hps:=zlt (N:=N) hz hgo.2;refine uR ?_;rw[qD (show (i:Int)<(lr.length:Int) by omega)];refine uR ?_;rw[qD (show (i:Int)<14 by omega)];refine uR ?_;refine vI ((hr.mono hG1)) (i) (rfl) (hgo.1) ((by rw[qK,hz];rfl)) ?_
   repeat (first|refine RUN ?_|refine CV (hp) ?_|refine CE (hp) ?_)
   refine EVL.app1 tO rfl rfl rfl rfl rfl rfl rfl rfl rfl rfl rfl rfl rfl rfl rfl rfl rfl rfl rfl (fun _=>rfl) (ow) ([]) ((qG _).symm) (hown) oM fun _=>?_;intro v' ow' hown';refine uR ?_;exact⟨(i+1,v',ow'),⟨rfl,by rw[wi];rfl,trivial⟩,sB,trivial,sB,qG _,⟨⟨hgo.1,hgo.2⟩,by dsimp only;rw[hps,qp];exact hown'⟩,Hp.Le.refl _,by dsimp only;omega⟩
  ·have hall:=znE (l:=lr) (N:=N) (i:=i) oM hi4;rw[hall]at hown;have hil0:(zbr lr N).length=i:=by have:=hown.1;rw[qV]at this;omega
   by_cases h1:i<lr.length
   ·try refine uR ?_
    rw[qD (show (i:Int)<(lr.length:Int) by omega)];refine uR ?_;rw[qC (show ¬(i:Int)<14 by omega)];refine uR ?_;exact⟨(_,ow),⟨rfl,trivial⟩,sB,trivial,sB,rfl,hG1,by rw[hil0];exact hown⟩
   ·try refine uR ?_
    rw[qC (show ¬(i:Int)<(lr.length:Int) by omega)];refine uR ?_;exact⟨(_,ow),⟨rfl,trivial⟩,sB,trivial,sB,rfl,hG1,by rw[hil0];exact hown⟩
 ·rintro⟨v8,ow⟩ G1 ⟨hG1,hown⟩;dsimp only at hown;obtain⟨a8,c8,rfl⟩:=hown.val;refine uR ?_;refine EV.meetK (ι:=Value × Ows) [1,2,5,6,7] [1,2,5] (fun q=>[(8,.v q.1)]) (fun _=>[]) (fun q=>q.2) (fun q G=>H.Le G∧zaL 3 1 q.1 (zcv lr N).length ((zcv lr N).map iv) q.2) rfl rfl (fun _=>rfl) ?_ ?_
  ·by_cases h0:zbr lr N=[]
   ·rw[show zcv lr N=zd1 N from if_pos h0];rw[h0]at hown ⊢;rw[show (((([]:List Int).length:Nat):Int) == 0)=true from rfl];refine uR ?_;refine EV.loopK (ι:=Nat × Value × Ows) [1,2,5,6,7] [1,2,5] (fun q=>[(8,.v q.2.1),(10,.v (.int .i64 (q.1:Int)))]) (fun _=>[]) (fun q=>q.2.2) (fun q _=>q.1≤N∧zaL 3 1 q.2.1 q.1 ((zd1 q.1).map iv) q.2.2) (fun q=>N-q.1) ((0,.slice a8 0 c8,ow)) rfl rfl ⟨rfl,rfl,trivial⟩ trivial rfl (fun _=>rfl) (⟨qQ _,hown⟩) ?_;rintro⟨i,v9,ow9⟩ G2 hG2 ⟨hi,hown9⟩;dsimp only at hi hown9;obtain⟨a9,c9,rfl⟩:=hown9.val;have wi:IntKind.i64.wrap ((i:Int)+1)=((i+1:Nat):Int):=zac i oM;refine uR ?_;refine EV.cond rfl (fun hlt=>?_) (fun hlt=>?_)
    ·simp only[nN]at hlt;refine uR ?_;refine EVL.app1 tO rfl rfl rfl rfl rfl rfl rfl rfl rfl rfl rfl rfl rfl rfl rfl rfl rfl rfl rfl (fun _=>rfl) (ow9) ([]) ((qG _).symm) (hown9) oM fun _=>?_;intro v' ow' hown';refine uR ?_;exact⟨(i+1,v',ow'),⟨rfl,by rw[wi];rfl,trivial⟩,sB,trivial,sB,qG _,⟨hlt,by dsimp only;rw[zjt,qp];exact hown'⟩,Hp.Le.refl _,by dsimp only;omega⟩
    ·simp only[nN]at hlt;obtain rfl:i=N:=oM;refine uR ?_;exact⟨(_,ow9),⟨rfl,trivial⟩,sB,trivial,sB,rfl,hG1.trans hG2,by rw[zc3];exact hown9⟩
   ·have hl0:(zbr lr N).length≠0:=fun e=>h0 (pK.1 e);rw[show zcv lr N=zbr lr N from if_neg h0];rw[show (((zbr lr N).length:Int) == 0)=false from pR.2 (by omega)];refine uR ?_;exact⟨(_,ow),⟨rfl,trivial⟩,sB,trivial,sB,rfl,hG1,hown⟩
  ·rintro⟨v9,ow9⟩ G2 ⟨hG2,hown9⟩;dsimp only at hown9;obtain⟨a9,c9,rfl⟩:=hown9.val;(first|refine EVL.publishL [] ow9 [] ((qG _).symm) hown9 fun G3 hG3 hs3=>?_|refine EV.publishL [] ow9 [] ((qG _).symm) hown9 fun G3 hG3 hs3=>?_);have hil:IL G3 (.slice a9 (zcv lr N).length c9) (zcv lr N):=hs3;have hH3:=hG2.trans hG3;generalize hrows:zcv lr N=rows at *
   (first|refine EVL.unbox (1) rfl fun g1=>?_|refine EV.unbox (1) rfl fun g1=>?_);refine EV.seq ?_;refine EVI.start none (g1,24,[.int .i64 kd,.int .i64 n,.int .i64 w,.int .i64 dp,.int .i64 ls,.int .i64 gn,.slice ga0 lg.length gc0,.slice la0 ll.length lc0,.slice ra0 lr.length rc0]) ?_;refine IF 0 ?_;refine IL0 1 ?_;refine IF 2 ?_;refine IL0 3 ?_;refine IV 4 ?_;refine IF 6 ?_;refine IL0 7 ?_;refine IV 8 ?_;refine IV 9 ?_;refine IF 12 ?_;refine IL0 13 ?_;refine IF 14 ?_;refine IL0 15 ?_;refine IF 16 ?_;refine IL0 17 ?_;refine IV 11 ?_;refine EVI.one 5 0 (.inr rfl) kR rfl ?_;refine EVL.call rfl rfl rfl rfl rfl (zsN (hg.mono hH3) hgb kd N oM) ?_;intro r5 G5 hr5 hG5
   obtain⟨kd',cl',ga,gn',gc,va,vn,vc,rfl⟩:∃k c ga gn gc va vn vc,r5=zas k c (.slice ga gn gc) (.slice va vn vc):=by
    rcases hr5 with ⟨s,rfl,h⟩ | ⟨c,s,_,rfl,_,_,_,_,h⟩
    ·obtain⟨a,c,rfl⟩:=h.val;exact⟨_,_,_,_,_,_,_,_,rfl⟩
    ·obtain⟨a,c,rfl⟩:=SlC.val h;exact⟨_,_,_,_,_,_,_,_,rfl⟩
   refine EVL.nil ⟨rfl,?_⟩;refine EVI.one 10 0 (.inr rfl) kR rfl ?_;refine EVL.call rfl rfl rfl rfl rfl (zth (hl.mono (hH3.trans hG5)) hlb N W oM oM) ?_;intro r6 G6 hr6 hG6;obtain⟨xa,xc,rfl⟩:=hr6.val;refine EVL.nil ⟨rfl,?_⟩;refine EVI.one 18 0 (.inr rfl) kR rfl ?_;refine vA (zrG dp ls gn hdp hls hgn) ?_;rintro r7 G7 ⟨b1,a1,l1,c1,a2,l2,c2,rfl,hq⟩ hG7;refine EVL.nil ⟨rfl,?_⟩;refine EVI.one 19 0 (.inr rfl) kR rfl ?_
   (try refine zex ?_);refine EVL.nil ⟨rfl,?_⟩;refine EVI.one 20 0 (.inr rfl) kR rfl ?_
   (try refine zex ?_);refine EVL.nil ⟨rfl,?_⟩;refine EVI.one 21 0 (.inr rfl) kR rfl ?_
   (try refine zex ?_);refine EVL.nil ⟨rfl,?_⟩;refine EVI.one 22 0 (.inr rfl) kR rfl ?_
   (try refine zex ?_);refine EVL.nil ⟨rfl,?_⟩;refine EVI.nil 0 (.inr rfl) kR ?_;refine uR ?_;have hX67:=hG5.trans (hG6.trans hG7);exact⟨kd',cl',ga,gn',gc,va,vn,vc,.slice xa (zfV ll N W).length xc,.slice a9 rows.length c9,b1,a1,l1,c1,a2,l2,c2,rfl,hr5.mono (hG6.trans hG7),hr6.mono hG7,hil.mono hX67,hq⟩
def TPr (G:Hp) (r:Value) (t:Tr) (e:Int):Prop:=∃cs,r=.tuple #[.agg cs.toArray,.int .i64 e]∧ze6 G cs t.kd t.cl t.w t.ns
theorem zeL {p:GP} {kd cl:Int} {w:Nat} (hp:zqx p kd cl w):∀(d k:Nat) (rows:List Int) (s:Int),1≤rows.length→(∀r,r∈rows→0≤r∧r<(p.X.length:Int))→(p.grow d k rows s).1.length+1≤2*rows.length
 | 0,k,rows,s,h1,hb=>by rw[GP.grow_zero];show 1+1≤_;omega
 | d+1,k,rows,s,h1,hb=>by
  cases h:p.cut rows (p.cols s).1 with
  | none=>rw[GP.grow_none h];show 1+1≤_;omega
  | some ct =>
   obtain⟨c,t⟩:=ct;obtain⟨_,_,hl,hh,hpm,_⟩:=zr2 hp hb h;have hpl:=hpm.length_eq;rw[qJ]at hpl;have hlb:∀r,r∈zbg p.X c t rows→0≤r∧r<(p.X.length:Int):=fun r hr=>hb r (List.mem_filter.mp hr).1;have hhb:∀r,r∈zaz p.X c t rows→0≤r∧r<(p.X.length:Int):=fun r hr=>hb r (List.mem_filter.mp hr).1;rw[GP.grow_some h];have h2:=zeL hp d (k+1) (zbg p.X c t rows) (p.cols s).2 hl hlb;have h3:=zeL hp d (k+1+(p.grow d (k+1) (zbg p.X c t rows) (p.cols s).2).1.length) (zaz p.X c t rows) (p.grow d (k+1) (zbg p.X c t rows) (p.cols s).2).2 hh hhb;simp only[qR,qJ];omega
theorem zns {p:GP} {kd cl:Int} {w D:Nat} (hp:zqx p kd cl w) (hw:1≤w∧w≤20) (hD:D≤10) {rows:List Int} (h1:1≤rows.length) (h2:rows.length≤300) (hb:∀r,r∈rows→0≤r∧r<(p.X.length:Int)) (s:Int):zaX ⟨kd,cl,w,(p.grow D 0 rows s).1⟩:=by
 obtain⟨h3,_,h4⟩:=zoU hp D 0 rows s h1 h2 hb (p.grow D 0 rows s).1 (fun j n hj=>by rw[qv];exact hj);have hl:=zeL hp D 0 rows s h1 hb;rw[qv]at h3;exact⟨hp.kind,⟨by show (1:Int)≤w;omega,by show (w:Int)≤20;omega⟩,by show (p.grow D 0 rows s).1.length≤2000;omega,⟨D,by omega,h3⟩,fun i hi=>by have:=h4 i hi;rwa [qv]at this⟩
theorem zaX.smallN {t:Tr} (h:zaX t):∀n,n∈t.ns→zlR n:=fun n hn=>by
 obtain⟨i,hi⟩:=List.mem_iff_getElem?.1 hn;obtain⟨m,hm,ho,_⟩:=h.nodes i (qE.1 hi).1;cases hm.symm.trans hi;exact ho.smallN (by have:=h.kind;omega)
abbrev trP (d:GD) (X:List (List Rat)) (least:Int) (g:Rat) (cols:Int→List Int × Int):GP:=⟨X,d.cost,d.mean,d.cnt,least,g,cols⟩
theorem zuo {d:GD} {N W:Nat} {X:List (List Rat)} {least:Int} {g:Rat} {cols:Int→List Int × Int} (hd:d.Ok N) (hXN:X.length=N) (hN:N≤20) (hXw:∀x,x∈X→x.length=W∧∀q,q∈x→ht q≤60) (hg:0≤g) (hc:∀s c,c∈(cols s).1→0≤c∧c<(W:Int)):zqx (trP d X least g cols) d.kd d.cl W:=by
 subst hXN;exact zjr.gpAny (p:=trP d X least g cols) hd.plain (by show X.length≤300;omega) hXw hg hc
theorem zqD {w:Nat}:∀c,c∈zd1 w→0≤c∧c<(w:Int):=fun c hc=>by
 obtain⟨i,hi,rfl⟩:=List.mem_map.1 hc;have:=List.mem_range.1 hi;omega
end
section
end
section
open Go.ChangeShapes Go.WideShapes Go.ChangeAt Go.RowKit
def zsp (H:Hp) (v:Value):Prop:=∃kd n w dp ls gn vg vl vr lg ll lr,v=zsf kd n w dp ls gn vg vl vr∧(ziL n∧ziL w∧ziL dp∧ziL ls∧ziL gn)∧(IL H vg lg∧∀z,z∈lg→ziL z)∧(IL H vl ll∧∀z,z∈ll→ziL z)∧(IL H vr lr∧∀z,z∈lr→ziL z)
theorem zs5 {α:Type}:∀{l:List α},l.length=9→∃a b c d e f g h i,l=[a,b,c,d,e,f,g,h,i]
 | [a,b,c,d,e,f,g,h,i],_=>⟨a,b,c,d,e,f,g,h,i,rfl⟩
theorem raw18_open {H:Type} {enc:TypeId × Value→H} {w:World} {base:Nat} {spare:Nat→Bool} {held:Bool} {v:Value} {d:DataW H} {p:List MemPlace} (hv:∃cs,v=.agg cs) (h:DataW.Trod enc Tryz.prog w base spare held 24 v d p):zsp (hpOf w) v:=by
 obtain⟨cs,rfl⟩:=hv;obtain⟨fuel,h⟩:=h;obtain⟨xs,n,_,hx,hl,hlen,hf⟩:=DataW.trod_struct Tryz.underlying24 h;rw[show Tryz.prog.cellsOf 24=9 from by kernel_rfl]at hl;have hl4:cs.toList.length=9:=hl;obtain⟨l,rfl⟩:∃l:List Value,cs=l.toArray:=⟨cs.toList,by simp⟩;have hl4':l.length=9:=by simpa using hl4
 obtain⟨c0,c1,c2,c3,c4,c5,c6,c7,c8,rfl⟩:=zs5 hl4';have hx4:xs.length=9:=hlen;have f0:DataW.trod enc Tryz.prog w base spare held n 3 (([c0,c1,c2,c3,c4,c5,c6,c7,c8].drop 0).take (Tryz.prog.cellsOf 3))=xs[0]?:=hf 0 _ rfl;have f1:DataW.trod enc Tryz.prog w base spare held n 3 (([c0,c1,c2,c3,c4,c5,c6,c7,c8].drop 1).take (Tryz.prog.cellsOf 3))=xs[1]?:=hf 1 _ rfl;have f2:DataW.trod enc Tryz.prog w base spare held n 3 (([c0,c1,c2,c3,c4,c5,c6,c7,c8].drop 2).take (Tryz.prog.cellsOf 3))=xs[2]?:=hf 2 _ rfl;have f3:DataW.trod enc Tryz.prog w base spare held n 3 (([c0,c1,c2,c3,c4,c5,c6,c7,c8].drop 3).take (Tryz.prog.cellsOf 3))=xs[3]?:=hf 3 _ rfl;have f4:DataW.trod enc Tryz.prog w base spare held n 3 (([c0,c1,c2,c3,c4,c5,c6,c7,c8].drop 4).take (Tryz.prog.cellsOf 3))=xs[4]?:=hf 4 _ rfl;have f5:DataW.trod enc Tryz.prog w base spare held n 3 (([c0,c1,c2,c3,c4,c5,c6,c7,c8].drop 5).take (Tryz.prog.cellsOf 3))=xs[5]?:=hf 5 _ rfl;have f6:DataW.trod enc Tryz.prog w base spare held n 22 (([c0,c1,c2,c3,c4,c5,c6,c7,c8].drop 6).take (Tryz.prog.cellsOf 22))=xs[6]?:=hf 6 _ rfl;have f7:DataW.trod enc Tryz.prog w base spare held n 22 (([c0,c1,c2,c3,c4,c5,c6,c7,c8].drop 7).take (Tryz.prog.cellsOf 22))=xs[7]?:=hf 7 _ rfl;have f8:DataW.trod enc Tryz.prog w base spare held n 22 (([c0,c1,c2,c3,c4,c5,c6,c7,c8].drop 8).take (Tryz.prog.cellsOf 22))=xs[8]?:=hf 8 _ rfl;rw[show Tryz.prog.cellsOf 3=1 from by kernel_rfl]at f0 f1 f2 f3 f4 f5;rw[show Tryz.prog.cellsOf 22=1 from by kernel_rfl]at f6 f7 f8;rw[qA (by omega)]at f0 f1 f2 f3 f4 f5 f6 f7 f8;obtain⟨z0,e0,_,w0⟩:=DataW.trod_int Tryz.underlying3 f0;obtain⟨z1,e1,_,w1⟩:=DataW.trod_int Tryz.underlying3 f1;obtain⟨z2,e2,_,w2⟩:=DataW.trod_int Tryz.underlying3 f2;obtain⟨z3,e3,_,w3⟩:=DataW.trod_int Tryz.underlying3 f3;obtain⟨z4,e4,_,w4⟩:=DataW.trod_int Tryz.underlying3 f4;obtain⟨z5,e5,_,w5⟩:=DataW.trod_int Tryz.underlying3 f5;obtain⟨a6,l6,k6,b6,e6,s6,d6⟩:=ints_open Tryz.underlying22 Tryz.underlying3 kR f6;obtain⟨a7,l7,k7,b7,e7,s7,d7⟩:=ints_open Tryz.underlying22 Tryz.underlying3 kR f7;obtain⟨a8,l8,k8,b8,e8,s8,d8⟩:=ints_open Tryz.underlying22 Tryz.underlying3 kR f8;have g0:[c0]=[.int .i64 z0]:=e0;have g1:[c1]=[.int .i64 z1]:=e1;have g2:[c2]=[.int .i64 z2]:=e2;have g3:[c3]=[.int .i64 z3]:=e3;have g4:[c4]=[.int .i64 z4]:=e4;have g5:[c5]=[.int .i64 z5]:=e5;have g6:[c6]=[.slice a6 l6 k6]:=e6;have g7:[c7]=[.slice a7 l7 k7]:=e7;have g8:[c8]=[.slice a8 l8 k8]:=e8;cases g0;cases g1;cases g2;cases g3;cases g4;cases g5;cases g6;cases g7;cases g8;exact⟨z0,z1,z2,z3,z4,z5,_,_,_,b6,b7,b8,rfl,⟨i64_bounds w1,i64_bounds w2,i64_bounds w3,i64_bounds w4,i64_bounds w5⟩,⟨s6,fun z hz=>i64_bounds (d6 z hz)⟩,⟨s7,fun z hz=>i64_bounds (d7 z hz)⟩,⟨s8,fun z hz=>i64_bounds (d8 z hz)⟩⟩
theorem zpk {H:Hp} {v:Value} (h:zsp H v):PC Tryz.prog 9 #[v] H fun r G=>∃(kd cl least gn:Int) (ga va a1 a2:Option Addr) (gl gc vn vc N W D l1 c1 l2 c2:Nat) (vx vr:Value) (b1:Bool) (lg ll lr:List Int),
  r=.tuple #[zas kd cl (.slice ga gl gc) (.slice va vn vc),vx,vr,zi4 (D:Int) least (.bool b1) (.slice a1 l1 c1) (.slice a2 l2 c2)] ∧
  zjq G (zas kd cl (.slice ga gl gc) (.slice va vn vc)) N (zkq lg N)∧RLL G vx (zfV ll N W)∧IL G vr (zcv lr N)∧RQ G (.agg #[.bool b1,.slice a1 l1 c1,.slice a2 l2 c2]) (zrF gn) ∧
  (1≤N∧N≤10)∧(1≤W∧W≤3)∧D≤4∧(1≤least∧least≤3):=by
 obtain⟨kd,n,w,dp,ls,gn,vg,vl,vr,lg,ll,lr,rfl,⟨hn,hw,hdp,hls,hgn⟩,⟨hg,hgb⟩,⟨hl,hlb⟩,hr,hrb⟩:=h;obtain⟨N,hN⟩:∃N:Nat,1+n % 10=(N:Int):=⟨(1+n % 10).toNat,by omega⟩;obtain⟨W,hW⟩:∃W:Nat,1+w % 3=(W:Int):=⟨(1+w % 3).toNat,by omega⟩;obtain⟨D,hD⟩:∃D:Nat,dp % 5=(D:Int):=⟨(dp % 5).toNat,by omega⟩;refine(zrh kd n w dp ls gn hn hw hdp hls hgn hg hgb hl hlb hr hrb hN hW).mono ?_;rintro r G ⟨kd',cl,ga,gl,gc,va,vn,vc,vx,vrows,b1,a1,l1,c1,a2,l2,c2,rfl,r1,r2,r3,r4⟩ hG;rw[hD];exact⟨kd',cl,1+ls % 3,gn,ga,va,a1,a2,gl,gc,vn,vc,N,W,D,l1,c1,l2,c2,vx,vrows,b1,lg,ll,lr,rfl,r1,r2,r3,r4,by omega,by omega,by omega,by omega⟩
theorem ztj (gn:Int):0≤zrF gn∧ht (zrF gn)≤5:=by
 have h5:=zoY gn;unfold zrF;split
 ·split
  ·rename_i h;refine⟨?_,?_⟩
   ·have:zpA gn<0:=Rat.not_le.1 fun k=>by have:=Rat.num_nonneg.2 k;omega
    grind
   ·rw[zmd];exact h5
  ·rename_i h;exact⟨Rat.num_nonneg.1 oM,h5⟩
 ·exact⟨Rat.le_refl,by rw[zb9];decide⟩
end
section
end
section
open Go.RowKit _root_.Go.Proofs.Tryz
theorem zaX.smN {t:Tr} (h:zaX t):∀n,n∈t.ns→SmN n:=fun n hn=>by
 obtain⟨i,hi⟩:=List.mem_iff_getElem?.1 hn;obtain⟨m,hm,ho,_⟩:=h.nodes i (qE.1 hi).1;cases hm.symm.trans hi;obtain⟨h1,h2,h3⟩:=ho.small;have hk:=h.kind;have hc:=ho.len;exact⟨zaQ h1 oM,zaQ h2 oM,zaQ h3 oM,by omega⟩
end
section
theorem zcT {n:Nat} (h:10≤n):Lib.decDigits n=Lib.decDigits (n / 10)++[UInt8.ofNat (48+n % 10)]:=by
 rw[Lib.decDigits,dif_neg (by omega)]
theorem zcA {n:Nat} (h:n<10):Lib.decDigits n=[UInt8.ofNat (48+n)]:=by
 rw[Lib.decDigits,dif_pos h]
theorem zla (n:Nat):Lib.decDigits n≠[]:=by
 by_cases h:n<10
 ·rw[zcA h];simp
 ·rw[zcT (by omega)];simp
def zdp:Nat→Nat→List UInt8
 | 0,_=>[]
 | k+1,x=>zdp k (x / 10)++[UInt8.ofNat (48+x % 10)]
theorem zf9:∀k x,(zdp k x).length=k
 | 0,_=>rfl
 | k+1,x=>by unfold zdp;rw[qJ,zf9 k];rfl
theorem zkb:∀k,zdp k 0=List.replicate k 48
 | 0=>rfl
 | k+1=>by
  unfold zdp;rw[Nat.zero_div,zkb k,List.replicate_succ'];rfl
theorem ziC:∀(k q r:Nat),0<q→r<10 ^ k→Lib.decDigits (q*10 ^ k+r)=Lib.decDigits q++zdp k r
 | 0,q,r,_,hr=>by
  have:r=0:=by simpa using hr
  subst this;simp[zdp]
 | k+1,q,r,hq,hr=>by
  rw[qX]at hr ⊢;have h1:1≤10 ^ k:=Nat.one_le_pow _ _ oM;have h2:10 ^ k≤q*10 ^ k:=Nat.le_mul_of_pos_left _ hq;have e:q*(10 ^ k*10)+r=q*10 ^ k*10+r:=by rw[Nat.mul_assoc]
  rw[e,zcT oM,show (q*10 ^ k*10+r) / 10=q*10 ^ k+r / 10 by omega,show (q*10 ^ k*10+r) % 10=r % 10 by omega,ziC k q (r / 10) hq oM,qZ];rfl
theorem zfk:∀(k r:Nat),r<10 ^ (k+1)→zdp (k+1) r=List.replicate (k+1-(Lib.decDigits r).length) 48++Lib.decDigits r∧(Lib.decDigits r).length≤k+1
 | 0,r,h=>by
  have h:r<10:=by simpa using h
  rw[zcA h];unfold zdp zdp;rw[qT h];exact⟨rfl,qH _⟩
 | k+1,r,h=>by
  by_cases h10:r<10
  ·rw[zcA h10];unfold zdp;rw[Nat.div_eq_of_lt h10,zkb,qT h10];exact⟨rfl,by simp⟩
  ·rw[qX]at h;obtain⟨e1,e2⟩:=zfk k (r / 10) oM;rw[zcT (by omega)];unfold zdp;rw[e1,qJ,qx,qZ];refine⟨?_,by omega⟩;rw[show k+1+1-((Lib.decDigits (r / 10)).length+1)=k+1-(Lib.decDigits (r / 10)).length by omega]
theorem zka:∀(k x:Nat),zdp (k+1) x=UInt8.ofNat (48+x / 10 ^ k % 10)::zdp k x
 | 0,x=>by unfold zdp zdp;simp
 | k+1,x=>by
  rw[zdp,zka k (x / 10),Nat.div_div_eq_div_mul,show 10*10 ^ k=10 ^ (k+1) by rw[qX,qW],List.cons_append];rfl
theorem zhY:∀(k r:Nat),10 ^ k≤r→r<10 ^ (k+1)→zdp (k+1) r=Lib.decDigits r
 | 0,r,h1,h2=>by
  have h:r<10:=by simpa using h2
  rw[zcA h];unfold zdp zdp;rw[qT h];rfl
 | k+1,r,h1,h2=>by
  rw[qX]at h1 h2;have h0:1≤10 ^ k:=Nat.one_le_pow _ _ oM;have h3:10 ^ (k+1)*10=10 ^ k*10*10:=by rw[qX]
  rw[zcT oM,zdp,zhY k (r / 10) oM (by rw[qX];omega)]
def zcy:Nat:=10000000000000000000
theorem ze7:2≤zcy:=by decide
theorem zoq:zcy=10 ^ 19:=by decide
def zhm:List Nat→List UInt8
 | []=>[]
 | [x]=>Lib.decDigits x
 | x::y::l=>zhm (y::l)++zdp 19 x
theorem zkF:∀n:Nat,n≠0→zhm (dig zcy n)=Lib.decDigits n:=by
 intro n
 induction n using Nat.strongRecOn with
 | _ n ih =>
  intro h0;rw[za8 ze7 h0];by_cases hq:n / zcy=0
  ·have hlt:n<zcy:=by
    rcases Nat.div_eq_zero_iff.1 hq with h | h
    ·exact absurd h (by decide)
    ·exact h
   rw[hq,zaD,qT hlt];rfl
  ·have h2:=ih (n / zcy) (Nat.div_lt_self oM (by decide)) hq;obtain⟨y,l,e⟩:∃y l,dig zcy (n / zcy)=y::l:=⟨_,_,za8 ze7 hq⟩;rw[e]at h2 ⊢;show zhm (y::l)++zdp 19 (n % zcy)=_;rw[h2,←ziC 19 (n / zcy) (n % zcy) (Nat.pos_of_ne_zero hq) (by rw[←zoq];exact qn _ (by decide)),←zoq];congr 1;rw[qW];exact ql n zcy
theorem zn9 {x:Nat} {l:List Nat} (h:l≠[]):zhm (x::l)=zhm l++zdp 19 x:=by
 cases l with
 | nil=>exact absurd rfl h
 | cons y l=>rfl
end
section
open Go.RowKit _root_.Go.Proofs.Tryz
theorem zqT (h l y:Nat) (hhy:h<y) (hl:l<W64) (hy:y<W64):PV prog 237 #[n64 h,n64 l,n64 y] (.tuple #[n64 ((h*W64+l) / y),n64 ((h*W64+l) % y)]) :=
 ⟨(cO func237),fun W _=>zgE h l y W hhy hl hy⟩
theorem zoc {l:List Nat} {m:Nat} (h:l[m]?=some 0):zaw (l.take (m+1))=zaw (l.take m):=by
 rw[zam h,zbJ]
theorem zob {l:List Nat} {m x:Nat} (h:l[m]?=some x) (hx:x≠0):zaw (l.take (m+1))=l.take (m+1):=by
 rw[zam h,zcg _ _ hx]
theorem zty {H:Hp} {b cap:Nat} {T:TypeId} {l junk:List Nat} (hl:l.length≤100000000) (hcap:l.length≤cap) (hc0:0<cap) :
  PW prog 211 #[.slice (some ⟨b,0,none⟩) l.length cap] H [(b,T,(l++junk).map n64)] fun v ow _=>v=.slice (some ⟨b,0,none⟩) (zaw l).length cap∧ow=[(b,T,(l++junk).map n64)]:=by
 refine PW.body tO func211 rfl kR ntmps211 rfl rfl ?_;refine uR ?_;refine EV.loopK (ι:=Nat) [] [] (fun m=>[(0,.v (.slice (some ⟨b,0,none⟩) m cap))]) (fun _=>[]) (fun _=>[(b,T,(l++junk).map n64)]) (fun m _=>m≤l.length∧zaw (l.take m)=zaw l) (fun m=>m) (l.length) rfl rfl ⟨rfl,trivial⟩ trivial rfl (fun _=>rfl) (⟨qH _,by rw[qb]⟩) ?_;rintro m G1 hG1 ⟨hm,ht⟩;by_cases h0:m=0
 ·subst h0;refine uR ?_;rw[List.take_zero]at ht;rw[←ht];exact⟨rfl,rfl⟩
 obtain⟨k,rfl⟩:∃k,m=k+1:=⟨m-1,by omega⟩;obtain⟨x,hx⟩:∃x,l[k]?=some x:=⟨_,qA oM⟩;have hcell:((l++junk).map n64)[k]?=some (n64 x):=by rw[qK,qM oM,hx];rfl
 have wk:IntKind.i64.wrap (((k+1:Nat):Int)-1)=(k:Int):=by rw[pM];omega
 refine uR ?_;rw[qD (show ((k+1:Nat):Int)>0 by omega)];refine uR ?_;rw[wk];refine EVL.idxB tO rfl rfl rfl rfl rfl rfl rfl rfl rfl (k) (k*1) (rfl) (oM) (rfl) ?_;rw[Nat.mul_one];refine EVL.load1 tO rfl rfl rfl rfl rfl rfl rfl rfl (0) rfl (hcell) ?_;refine uR ?_;by_cases hx0:x=0
 ·subst hx0;rw[show (((0:Nat):Int) == 0)=true from rfl];refine uR ?_;rw[wk];refine EVL.slc (te':=Tryz.te44) tO rfl rfl rfl rfl rfl rfl rfl rfl 0 k (.inl ⟨rfl,rfl⟩) (.inr ⟨_,IntKind.i64,rfl,rfl⟩) (qQ _) oM oM ?_;rw[if_neg (by omega)];refine uR ?_;exact⟨k,⟨rfl,trivial⟩,trivial,trivial,trivial,rfl,⟨by omega,by rw[←zoc hx];exact ht⟩,Hp.Le.refl _,by omega⟩
 ·rw[show ((x:Int) == 0)=false from pR.2 (by omega)];refine uR ?_;rw[zob hx hx0]at ht;rw[←ht,qP,qo (by omega)];exact⟨rfl,rfl⟩
theorem zrr {r x d:Nat} (hr:r<d) (hx:x<W64):(r*W64+x) / d<W64:=by
 apply Nat.div_lt_of_lt_mul;have:(r+1)*W64≤d*W64:=qN _ hr;rw[qw]at this;omega
theorem zo7 {q junk:List Nat} {i z:Nat} (h:i<q.length):((q++junk).map n64).set i (n64 z)=(q.set i z++junk).map n64:=by
 rw[←List.map_set,List.set_append_left _ _ h]
theorem zlc {H:Hp} {b cap d:Nat} {T:TypeId} {l junk:List Nat} (hD:Dig W64 l) (hl:l.length≤100000000) (hcap:l.length≤cap) (hc0:0<cap) (hd0:0<d) (hd:d<W64) :
  PW prog 202 #[.slice (some ⟨b,0,none⟩) l.length cap,n64 d] H [(b,T,(l++junk).map n64)] fun v ow _=>∃q,v=.tuple #[.slice (some ⟨b,0,none⟩) (zaw q).length cap,n64 (val W64 l % d)]∧ow=[(b,T,(q++junk).map n64)]∧q.length=l.length∧Dig W64 q∧val W64 q=val W64 l / d:=by
 refine PW.body tO func202 rfl kR ntmps202 rfl rfl ?_;refine uR ?_;refine EV.loopK (ι:=Nat × Nat × List Nat) [0,1] [] (fun s=>[(6,.v (n64 s.2.1)),(7,.v (.int .i64 ((s.1:Int)-1)))]) (fun _=>[]) (fun s=>[(b,T,(s.2.2++junk).map n64)]) (fun s _=>s.1≤l.length∧s.2.1<d∧s.2.2.length=l.length∧Dig W64 s.2.2∧(∀k,k<s.1→s.2.2.getD k 0=l.getD k 0)∧val W64 (l.drop s.1)=d*val W64 (s.2.2.drop s.1)+s.2.1) (fun s=>s.1) ((l.length,0,l)) rfl rfl ⟨rfl,(by dsimp only;rw[show IntKind.i64.wrap ((l.length:Int)-1)=(l.length:Int)-1 by rw[pM];omega];rfl),trivial⟩ trivial rfl (fun _=>rfl) (⟨qH _,hd0,rfl,hD,fun _ _=>rfl,by simp[val]⟩) ?_;rintro⟨g,r,q⟩ G1 hG1 ⟨hg,hr,hql,hqD,hqs,hqv⟩;dsimp only at hg hr hql hqD hqs hqv;by_cases h0:g=0
 ·subst h0;rw[List.drop_zero,List.drop_zero]at hqv;have e1:val W64 l / d=val W64 q:=by rw[hqv,Nat.mul_add_div hd0,Nat.div_eq_of_lt hr,qY]
  have e2:val W64 l % d=r:=by rw[hqv,Nat.mul_add_mod,qT hr]
  have ht:=zty (H:=G1) (b:=b) (cap:=cap) (T:=T) (l:=q) (junk:=junk) oM oM hc0;rw[hql]at ht;refine uR ?_;refine vW ([(b,T,(q++junk).map n64)]) ([]) (ht) ?_;rintro _ _ G2 ⟨rfl,rfl⟩ hG2;refine uR ?_;rw[e2,e1];exact⟨q,rfl,rfl,hql,hqD,rfl⟩
 ·obtain⟨i,rfl⟩:∃i,g=i+1:=⟨g-1,by omega⟩;obtain⟨x,hx⟩:∃x,q[i]?=some x:=⟨_,qA oM⟩;have hxD:x<W64:=hqD x (qF hx);have hgx:q.getD i 0=x:=by rw[qB,hx];rfl
  have hcell:((q++junk).map n64)[i]?=some (n64 x):=by rw[qK,qM oM,hx];rfl
  have hdv:=zqT r x d hr hxD hd;have hqW:=zrr hr hxD;have hlx:l.getD i 0=x:=by rw[←hqs i oM,hgx]
  have hrd:=zhS l q i d r oM hql hd0 hqv (hqs i oM);rw[hlx]at hrd;have hrm:(r*W64+x) % d<d:=qn _ hd0;generalize hqq:(r*W64+x) / d=qq at *
  generalize hrr:(r*W64+x) % d=rr at *
  rw[show ((i+1:Nat):Int)-1=(i:Int) by omega];have wi:IntKind.i64.wrap ((i:Int)-1)=(i:Int)-1:=by rw[pM];omega
  refine uR ?_;rw[qD (show (i:Int)≥0 by omega)];refine uR ?_;refine EVL.idxB tO rfl rfl rfl rfl rfl rfl rfl rfl rfl (i) (i*1) (rfl) ((show i<l.length by omega)) (rfl) ?_;rw[Nat.mul_one];refine EVL.load1 tO rfl rfl rfl rfl rfl rfl rfl rfl (0) rfl (hcell) ?_
  repeat (first|refine RUN ?_|refine CV (hdv) ?_|refine CE (hdv) ?_)
  refine EVL.idxB tO rfl rfl rfl rfl rfl rfl rfl rfl rfl (i) (i*1) (rfl) ((show i<l.length by omega)) (rfl) ?_;rw[Nat.mul_one];refine uR ?_;refine EVL.set1 tO rfl rfl rfl rfl rfl rfl rfl rfl rfl rfl ((show i<((q++junk).map n64).length by rw[qV,qJ];omega)) ?_;rw[zo7 (show i<q.length by omega)];refine uR ?_;refine⟨(i,rr,q.set i qq),⟨rfl,by dsimp only;rw[wi];rfl,trivial⟩,sB,trivial,trivial,rfl,⟨by dsimp only;omega,hrm,by dsimp only;rw[List.length_set];exact hql,hqD.set _ _ hqW,fun k hk=>?_,hrd⟩,Hp.Le.refl _,by dsimp only;omega⟩;dsimp only at hk ⊢;rw[show (q.set i qq).getD k 0=q.getD k 0 by simp[qB,List.getElem?_set_ne (show i≠k by omega)]];exact hqs k oM
theorem zuS:n64 zcy=.int .u64 10000000000000000000:=rfl
theorem zto (l:List UInt8):(sb l).size=l.length:=by simp[sb,ByteArray.size]
theorem zuL (c:Nat):Lib.repeatL [48] c=List.replicate c 48:=by
 induction c with
 | zero=>rfl
 | succ c ih=>rw[Lib.repeatL,ih,List.replicate_succ];rfl
theorem zlH (q junk:List Nat):q++junk=zaw q++(q.drop (zaw q).length++junk):=by
 rw[←qZ];congr 1;exact(List.take_append_drop (zaw q).length q).symm.trans (by rw[zc0])
theorem zhn:∀l:List Nat,(∀x,x∈l→x<zcy)→(zhm l).length≤l.length*19
 | [],_=>qH _
 | [x],h=>by
  have:=(zfk 18 x (h x (pL.2 rfl))).2;show (Lib.decDigits x).length≤1*19;omega
 | x::y::l,h=>by
  have:=zhn (y::l) fun z hz=>h z (qm _ hz);show (zhm (y::l)++zdp 19 x).length≤(l.length+1+1)*19;rw[qJ,zf9];rw[qR]at this;omega
set_option maxRecDepth 100000 in
theorem zgS {H:Hp} (n:Nat) (hn:big n) (hT:PowT H):PC prog 194 #[zaI n] H fun r _=>r=.string (zr3 n):=by
 by_cases h64:n<18446744073709551616
 ·exact znB n h64 hT
 have hn0:n≠0:=oM
 have hdl:2≤(dig W64 n).length:=by
  have h1:n / W64≠0:=Nat.pos_iff_ne_zero.1 (Nat.div_pos (show 18446744073709551616≤n by omega) (by decide));rw[za8 zae hn0,za8 zae h1];simp
 have hlb:=zaM hn;have hDn:=zak zae n;have hvn:val W64 (dig W64 n)=n:=zaj zae n;have hwf:=fun G=>zis n hn0 hn G;have hTl:(dig zcy n).length≤1000000000:=qI (zbp ze7 n (bl n) (Nat.lt_of_lt_of_le (zdA n) (Nat.pow_le_pow_left ze7 _))) hn;generalize hLe:dig W64 n=L at *
 refine BD func194 ntmps194 ?_;refine uR ?_;refine EVL.callO rfl rfl rfl rfl rfl (hwf _) ?_;rintro _ _ ⟨g,rfl,rfl⟩;refine uR ?_;rw[qC (show ¬(L.length:Int)≤1 by omega)];(first|refine EVL.swapOw ([(g,44,(L++[]).map n64)]) ([]) ((by rw[show (L++([]:List Nat))=L from qG L])) ?_|refine EV.swapOw ([(g,44,(L++[]).map n64)]) ([]) ((by rw[show (L++([]:List Nat))=L from qG L])) ?_);refine uR ?_;refine EV.loopK (ι:=List Nat × List Nat × List Nat × Value × Ows) [] [] (fun s=>[(3,.v (.slice (some ⟨g,0,none⟩) s.1.length L.length)),(4,.v s.2.2.2.1)]) (fun _=>[]) (fun s=>(g,44,(s.1++s.2.1).map n64)::s.2.2.2.2) (fun s _=>zds W64 s.1∧s.1.length≤L.length∧zaL 44 1 s.2.2.2.1 s.2.2.1.length (s.2.2.1.map n64) s.2.2.2.2∧s.2.2.1++dig zcy (val W64 s.1)=dig zcy n∧∀x,x∈s.2.2.1→x<zcy) (fun s=>val W64 s.1) ((L,[],[],.slice none 0 0,[])) rfl rfl ⟨rfl,rfl,trivial⟩ trivial rfl (fun _=>rfl) (⟨hDn,qH _,zaL.nil _ _,by rw[pO,hvn],fun x hx=>by cases hx⟩) ?_;rintro⟨w,junk,ps,vp,op⟩ G1 hG1 ⟨hw,hwl,hop,hps,hpb⟩;dsimp only at hw hwl hop hps hpb;obtain⟨pa,pc,rfl⟩:=hop.val;have hD:=hw.1;by_cases h0:w=[]
 ·subst h0
  have hpe:ps=dig zcy n:=by
   rw[←hps];show ps=ps++dig zcy 0;rw[zaD,qG]
  have hpn:ps≠[]:=fun e=>by
   have:=zkF n hn0;rw[←hpe,e]at this;exact zla n this.symm
  have htx:zhm ps=Lib.decDigits n:=by rw[hpe];exact zkF n hn0
  have hdn:(Lib.decDigits n).length≤20000000000:=by
   rw[←htx,hpe];exact qI (zhn _ fun x hx=>by rw[←hpe]at hx;exact hpb x hx) oM
  rw[←hpe]at hTl;have hpl:0<ps.length:=List.length_pos_iff.2 hpn;clear hpe hps;refine uR ?_;(first|refine EVL.subOw [] [(g,_,_)] op rfl ?_|refine EV.subOw [] [(g,_,_)] op rfl ?_);(first|refine EVL.publishL [] op [] ((qG _).symm) hop fun G2 hG2 hs2=>?_|refine EV.publishL [] op [] ((qG _).symm) hop fun G2 hG2 hs2=>?_);refine uR ?_;(first|refine EVL.unbox (6) rfl fun gb=>?_|refine EV.unbox (6) rfl fun gb=>?_);refine uR ?_;refine EV.loopK (ι:=Nat × Ows) [4,6] [] (fun s=>[(7,.v (.int .i64 ((s.1:Int)-1)))]) (fun _=>[]) (fun s=>s.2) (fun s _=>s.1≤ps.length∧zoj gb (zhm (ps.drop s.1)) s.2) (fun s=>s.1) ((ps.length,[(gb,172,[.pointer none,.slice none 0 0])])) rfl rfl ⟨(by dsimp only;rw[show IntKind.i64.wrap ((ps.length:Int)-1)=(ps.length:Int)-1 by rw[pM];omega];rfl),trivial⟩ trivial rfl (fun _=>rfl) (⟨qH _,by dsimp only;rw[List.drop_length];exact zoj.new gb⟩) ?_;rintro⟨j,Lb⟩ G3 hG3 ⟨hj,hb⟩;dsimp only at hj hb;by_cases hj0:j=0
  ·subst hj0;rw[List.drop_zero,htx]at hb;refine uR ?_;refine EVL.callW rfl rfl rfl rfl rfl Lb [] (qG _).symm (zfA hb (zla n)) ?_;rintro _ _ G4 ⟨rfl,rfl⟩ hG4;refine uR ?_;rfl
  ·obtain⟨i,rfl⟩:∃i,j=i+1:=⟨j-1,by omega⟩;obtain⟨x,hx⟩:∃x,ps[i]?=some x:=⟨_,qA oM⟩;have hxb:=hpb x (qF hx);have hxl:x<10 ^ (18+1):=hxb;obtain⟨hp1,hp2⟩:=zfk 18 x hxl
   have hdrop:ps.drop i=x::ps.drop (i+1):=by
    rw[qt (by omega)];congr 1;exact(qE.1 hx).2
   have htl:(zhm (ps.drop (i+1))).length≤20000000000:=qI (zhn _ fun y hy=>hpb y (List.mem_of_mem_drop hy)) (by rw[qu];omega);have hfmt:=zr5 (H:=G3) x (Nat.lt_trans hxb (by decide)) ((hT.mono (hG1.trans hG2)).mono hG3);have hrep:=zhb [48] (19-(Lib.decDigits x).length) oM (by simp);have wi:IntKind.i64.wrap ((i:Int)-1)=(i:Int)-1:=by rw[pM];omega
   have wl:IntKind.i64.wrap ((ps.length:Int)-1)=(ps.length:Int)-1:=by rw[pM];omega
   rw[show ((i+1:Nat):Int)-1=(i:Int) by omega];refine uR ?_;rw[qD (show (i:Int)≥0 by omega)];refine uR ?_;refine vI ((SlC.mono hs2 hG3)) (i) (rfl) (oM) ((by rw[qK,hx];rfl)) ?_
   repeat (first|refine RUN ?_|refine CV (hfmt) ?_|refine CE (hfmt) ?_)
   rw[wl];refine EV.meetK (ι:=Ows) [4,6,7,8] [] (fun _=>[]) (fun _=>[]) (fun L=>L) (fun L G=>G3.Le G∧zoj gb (if i+1<ps.length then zhm (ps.drop (i+1))++List.replicate (19-(Lib.decDigits x).length) 48 else []) L) rfl rfl (fun _=>rfl) ?_ ?_
   ·by_cases hlast:i+1<ps.length
    ·rw[qD (show (i:Int)<(ps.length:Int)-1 by omega)];rw[if_pos hlast];rw[zuL]at hrep;refine uR ?_;rw[zto,show IntKind.i64.wrap (19-((Lib.decDigits x).length:Int))=((19-(Lib.decDigits x).length:Nat):Int) by rw[pM];omega]
     repeat (first|refine RUN ?_|refine CV (hrep) ?_|refine CE (hrep) ?_)
     refine EVL.callW rfl rfl rfl rfl rfl Lb [] (qG _).symm (zbj (List.replicate (19-(Lib.decDigits x).length) 48) hb (by rw[List.length_replicate];omega)) ?_;rintro _ ow1 G4 ⟨rfl,hb1⟩ hG4;refine uR ?_;exact⟨ow1,trivial,sB,trivial,trivial,qG _,hG4,hb1⟩
    ·rw[qC (show ¬(i:Int)<(ps.length:Int)-1 by omega)];rw[if_neg hlast]
     have hbn:zoj gb [] Lb:=by
      rw[qk (by omega)]at hb;exact hb
     refine uR ?_;exact⟨Lb,trivial,sB,trivial,trivial,rfl,Hp.Le.refl _,hbn⟩
   ·rintro Lc G5 ⟨hG5,hbc⟩;refine uR ?_
    refine EVL.callW rfl rfl rfl rfl rfl Lc [] (qG _).symm (zbj (Lib.decDigits x) hbc (by
     split
     ·rw[qJ,List.length_replicate];omega
     ·rw[qi];omega)) ?_
    rintro _ ow1 G6 ⟨rfl,hb1⟩ hG6;refine uR ?_;refine⟨(i,ow1),⟨by dsimp only;rw[wi];rfl,trivial⟩,sB,trivial,trivial,qG _,⟨by dsimp only;omega,?_⟩,hG5.trans hG6,by dsimp only;omega⟩;dsimp only;rw[hdrop];by_cases hlast:i+1<ps.length
    ·rw[if_pos hlast,qZ,←hp1]at hb1;rw[zn9 (fun e=>by have:=congrArg List.length e;rw[qu,qi]at this;omega)];exact hb1
    ·rw[if_neg hlast,pO]at hb1;rw[qk (by omega)];exact hb1
 ·have hwp:=List.length_pos_iff.2 h0;have hdv:=fun (G:Hp)=>zlc (H:=G) (b:=g) (cap:=L.length) (T:=44) (l:=w) (junk:=junk) (d:=zcy) hD oM hwl oM (by decide) (by decide);rw[zuS]at hdv;have hvp:0<val W64 w:=Nat.lt_of_lt_of_le (Nat.pow_pos (by decide)) (zcF (by decide) hw h0);refine uR ?_;rw[qD (show (w.length:Int)>0 by omega)];refine uR ?_;refine vW ([(g,44,(w++junk).map n64)]) (op) (hdv _) ?_;rintro _ _ G2 ⟨q,rfl,rfl,hql,hqD,hqv⟩ hG2;(first|refine EVL.swapOw ([(g,44,(q++junk).map n64)]) (op) (rfl) ?_|refine EV.swapOw ([(g,44,(q++junk).map n64)]) (op) (rfl) ?_);refine uR ?_;refine EVL.app1 tO rfl rfl rfl rfl rfl rfl rfl rfl rfl rfl rfl rfl rfl rfl rfl rfl rfl rfl rfl (fun _=>rfl) (op) ([(g,44,(q++junk).map n64)]) (rfl) (hop) ((by have h1:=congrArg List.length hps;rw[qJ,za8 ze7 (show val W64 w≠0 by omega),qR]at h1;omega)) fun _=>?_;intro v' op' hop';(first|refine EVL.swapOw (op') ([(g,44,(q++junk).map n64)]) (rfl) ?_|refine EV.swapOw (op') ([(g,44,(q++junk).map n64)]) (rfl) ?_);refine uR ?_;have htl:=zaV q;refine⟨(zaw q,q.drop (zaw q).length++junk,ps++[val W64 w % zcy],v',op'),⟨rfl,rfl,trivial⟩,trivial,trivial,trivial,?_,⟨zco hqD,?_,?_,?_,?_⟩,hG2,?_⟩
  ·dsimp only;rw[zlH q junk];rfl
  ·dsimp only;omega
  ·dsimp only;rw[qJ,qp];exact hop'
  ·dsimp only;rw[zb3,hqv,←hps,qZ,za8 ze7 (show val W64 w≠0 by omega)];rfl
  ·intro x hx;rcases List.mem_append.1 hx with h | h
   ·exact hpb x h
   ·rw[pL.1 h];exact qn _ (by decide)
  ·dsimp only;rw[zb3,hqv];exact Nat.div_lt_self hvp (by decide)
theorem zjI:∀(k n:Nat),n<2 ^ k→(Lib.decDigits n).length≤k+1
 | 0,n,h=>by
  have:n=0:=by simpa using h
  rw[this,zcA (by omega)];simp
 | k+1,n,h=>by
  by_cases h10:n<10
  ·rw[zcA h10];simp
  ·rw[zcT oM,qJ,qx];rw[qX]at h;have:=zjI k (n / 10) oM;omega
theorem zed (n:Nat):(Lib.decDigits n).length≤bl n+1:=zjI _ _ (zdA n)
def zc8 (q:Rat):List UInt8:=if q.den=1 then wtL q.num else wtL q.num++[47]++Lib.decDigits q.den
theorem zqt (z:Int):(wtL z).length≤bl z.natAbs+2:=by
 have:=zed z.natAbs;unfold wtL;split
 ·rw[qJ,qx];omega
 ·rw[pO];omega
theorem zeK (q:Rat):(zc8 q).length≤2*ht q+5:=by
 have h1:=zqt q.num;have h2:=zed q.den;have h3:=za2 q;have h4:=zaU q;unfold zc8;split
 ·omega
 ·simp only[qJ,qR,qi];omega
section
variable {P:Program} {n:Nat} {ops:Array Oper} {o:Oper} {rest:List Oper} {env:Env} {bx:Bxs} {H:Hs} {Q:EQ} {d:Nat}
theorem EVL.strOf {src dst e:TypeId} {x:Operand} (ho:o.op=.convert src dst x) (hw:zah ops env o=some true) (hd:o.dst=some d) (hn:Nat.blt d n=true) (hs:P.underlying src=some (.slice e)) (he:P.underlying e=some (.int .u8)) (hdt:P.underlying dst=some .string)
  {b cap:Nat} (l:List UInt8) (hx:env.op x=some (.v (.slice (some ⟨b,0,none⟩) l.length cap))) (jj:Nat) {T':TypeId} {cs:List Value} (hj:H.ow[jj]?=some (b,T',cs)) (hc:∀j (hj:j<l.length),cs[j]?=some (.int .u8 (l[j].toNat:Int)))
  (h:EVL P n ops rest ((d,.v (.string (sb l)))::env) bx H Q):EVL P n ops (o::rest) env bx H Q:=fun W0 β a W r=>by
 obtain⟨hB,_⟩:=r.own jj b T' cs hj;have ex:a.eval x=.slice (some ⟨b,0,none⟩) l.length cap:=r.op hx
 have hrun:=run_convert_bytes_back (P:=P) W src dst e ⟨b,0,none⟩ cap l hs he hdt (fun j hj=>by
  rw[Lib.add_plain];rw[Lib.cell_of_heap hB,qv,List.getElem?_toArray];exact hc j hj)
 unfold wpList;rw[if_pos (r.want hw)];refine .inl ?_
 have hx':(execOp a.eval o).run P W=.ok (.value (.string (sb l))) W:=by
  unfold execOp;simp only[ho,ex,Sem.run_bind,hrun,Result.andThen_ok,Sem.run_pure]
 unfold Oper.wp;rw[hx',Oper.upon_value,hd];exact h W0 β _ W (r.put hn rfl rfl)
end
theorem zjj {H:Hp} (z:Int) (hz:bl z.natAbs≤8000000) (hT:PowT H):PC prog 193 #[zdO z] H fun r _=>r=.string (sb (wtL z)):=by
 have hl:=zed z.natAbs;have hn:=zgS z.natAbs (qI hz (by decide)) hT;refine BD func193 ntmps193 ?_;refine uR ?_;by_cases h:z<0
 ·rw[qD h]
  repeat (first|refine RUN ?_|refine CV (hn) ?_|refine CE (hn) ?_)
  refine EVL.cat [45] (Lib.decDigits z.natAbs) rfl rfl rfl rfl rfl rfl (by decide) oM ?_;refine uR ?_;unfold wtL;rw[if_pos h]
 ·rw[qC h]
  repeat (first|refine RUN ?_|refine CV (hn) ?_|refine CE (hn) ?_)
  unfold wtL;rw[if_neg h];rfl
theorem zfF {H:Hp} (q:Rat) (hq:ht q≤8000) (hT:PowT H):PC prog 146 #[zaf q] H fun r _=>r=.string (sb (zc8 q)):=by
 have h1:=za2 q;have h2:=zaU q;have hl1:=zqt q.num;have hl2:=zed q.den;have hn:=fun G (h:H.Le G)=>zjj (H:=G) q.num oM (hT.mono h);have hdt:=fun G (h:H.Le G)=>zgS (H:=G) (dk q.den) (qI (show bl (dk q.den)≤8000 by have:=zsH q.den;omega) (by decide)) (hT.mono h);have hw:=zbc q (qI (show bl q.den≤8000 by omega) (by decide));refine BD func146 ntmps146 ?_
 repeat (first|refine RUN ?_|refine CV (hw) ?_|refine CE (hw) ?_)
 by_cases h:q.den=1
 ·rw[qD h];refine uR ?_;refine vA (hn _ (Hp.Le.refl _)) ?_;rintro _ G rfl hG;refine uR ?_;unfold zc8;rw[if_pos h]
 ·rw[qC h];refine uR ?_;apply EV.drawn 8 kR kR;intro xv yw;(repeat refine' DD ?_);refine' vC (cO func193) (fun G hG hd=>hn G hG) ?_;rotate_left;refine' DJ.cat (wtL q.num) [47] rfl rfl rfl rfl rfl rfl oM (by decide) ?_;rotate_left;(repeat refine' DD ?_);refine' vC (cO func194) (fun G hG hd=>hdt G hG) ?_;rotate_left;refine' DJ.cat (wtL q.num++[47]) (Lib.decDigits (dk q.den)) rfl rfl rfl rfl rfl rfl (by rw[qJ,qx];omega) (by rw[zqV h];omega) ?_;rotate_left;(refine DJ.nil (fun G2 hG2 hF2=>?_);(case hS|hS2=>rfl));refine uR ?_;unfold zc8;rw[if_neg h,zqV h]
def zl4 (n:Nat):List UInt8:=if n=0 then [] else Lib.decDigits n
theorem zsF (n:Nat):(zl4 n).length≤bl n+1:=by
 unfold zl4;split
 ·exact qQ _
 ·exact zed n
def zbC:Nat:=1000000000
theorem zlS:zbC=10 ^ 9:=rfl
theorem zoH {m:Nat} (hq:m / zbC≠0):zl4 m=zl4 (m / zbC)++zdp 9 (m % zbC):=by
 have hm:m≠0:=fun e=>hq (by rw[e,Nat.zero_div]);unfold zl4;rw[if_neg hm,if_neg hq,←ziC 9 (m / zbC) (m % zbC) (Nat.pos_of_ne_zero hq) (by rw[←zlS];exact qn _ (by decide)),←zlS];congr 1;rw[qW];exact(ql m zbC).symm
theorem zrl {m k:Nat} (hm:m≠0) (hk:k≤9) (hlow:m / zbC=0→0<k→10 ^ (k-1)≤m) (hend:¬(k<9∧(m % zbC / 10 ^ k>0∨m / zbC≠0))):zl4 m=zl4 (m / zbC)++zdp k (m % zbC):=by
 by_cases hq:m / zbC=0
 ·have hlt:m<zbC:=by
   rcases Nat.div_eq_zero_iff.1 hq with h | h
   ·exact absurd h (by decide)
   ·exact h
  have hmm:m % zbC=m:=qT hlt;rw[hmm]at hend ⊢
  have hz:m<10 ^ k:=by
   by_cases h9:k<9
   ·have h0:m / 10 ^ k=0:=by
     apply Nat.eq_zero_of_not_pos;exact fun h=>hend ⟨h9,.inl h⟩
    rcases Nat.div_eq_zero_iff.1 h0 with h | h
    ·have:=Nat.pow_pos (n:=k) (show 0<10 by omega);omega
    ·exact h
   ·have:k=9:=oM;subst this;exact hlt
  have hk0:0<k:=by
   apply Nat.pos_of_ne_zero;intro e;subst e;simp at hz;exact hm hz
  have hl:=hlow hq hk0;obtain⟨j,rfl⟩:∃j,k=j+1:=⟨k-1,by omega⟩;rw[Nat.add_sub_cancel]at hl;rw[hq];unfold zl4;rw[if_neg hm,if_pos rfl,pO,zhY j m hl hz]
 ·have:k=9:=by
   by_cases h9:k<9
   ·exact absurd ⟨h9,.inr hq⟩ hend
   ·omega
  subst this;exact zoH hq
theorem zpU (l:List UInt8):((sb l).toList == (⟨#[]⟩:ByteArray).toList)=decide (l=[]):=by
 rw[Lib.toList_data,Lib.toList_data]
 cases l with
 | nil=>rfl
 | cons a l=>rfl
theorem zr4 (r:Nat):IntKind.u8.wrap (IntKind.u32.wrap (48+((r:Nat):Int).tmod 10))=((UInt8.ofNat (48+r % 10)).toNat:Int):=by
 rw[show (10:Int)=((10:Nat):Int) from rfl,zhv,zmT,zfx,UInt8.toNat_ofNat'];have:=qn r (show 10>0 by omega);omega
theorem q32 (a b:Nat) (h:a<zbC):IntKind.u32.wrap ((a:Int).tdiv (b:Int))=((a / b:Nat):Int):=by
 rw[show (a:Int).tdiv (b:Int)=((a / b:Nat):Int) from rfl,zoi,qT];have:=Nat.div_le_self a b;exact Nat.lt_of_le_of_lt this (Nat.lt_trans h (by decide))
theorem zuR:n32 zbC=.int .u32 1000000000:=rfl
set_option maxRecDepth 100000 in
theorem zeW {H:Hp} {v:Value} (n:Nat) (hn:bl n≤8000000) (hv:RN H v n):PC prog 198 #[v] H fun r _=>r=.string (sb (Lib.decDigits n)):=by
 have hlb:=zsF n;obtain⟨va,vc,rfl⟩:=SlC.val hv;refine BD func198 ntmps198 ?_;refine uR ?_;refine EV.loopK (ι:=Nat × List UInt8 × Option Addr × Nat) [] [] (fun s=>[(0,.v (.slice s.2.2.1 (dig B32 s.1).length s.2.2.2)),(3,.v (.string (sb s.2.1)))]) (fun _=>[]) (fun _=>[]) (fun s G=>RN G (.slice s.2.2.1 (dig B32 s.1).length s.2.2.2) s.1∧zl4 s.1++s.2.1=zl4 n∧s.1≤n) (fun s=>s.1) ((n,[],va,vc)) rfl rfl ⟨rfl,rfl,trivial⟩ trivial rfl (fun _=>rfl) (⟨hv,qG _,qH _⟩) ?_;rintro⟨m,s,a,c⟩ G1 hG1 ⟨hm,hs,hmn⟩;dsimp only at hm hs hmn;by_cases h0:m=0
 ·subst h0;have hs':s=zl4 n:=hs;subst hs';dsimp only;refine uR ?_;rw[qC (show ¬((dig B32 0).length:Int)>0 by rw[zaD];decide)];refine uR ?_;rw[zpU];by_cases hn0:n=0
  ·have e:zl4 n=[]:=if_pos hn0;rw[qD e];refine uR ?_;rw[hn0,zcA (by omega)];rfl
  ·have e:zl4 n=Lib.decDigits n:=if_neg hn0;rw[qC (show ¬zl4 n=[] by rw[e];exact zla n)];refine uR ?_;rw[e]
 ·have hm0:0<(dig B32 m).length:=List.length_pos_iff.2 (by rw[za8 zab h0];simp);have hl32:(dig B32 n).length≤100000000:=qI (zbp zab n (bl n) (Nat.lt_of_lt_of_le (zdA n) (Nat.pow_le_pow_left zab _))) oM;have hlm:(dig B32 m).length≤100000000:=qI (zbp zab m (bl n) (Nat.lt_of_le_of_lt hmn (Nat.lt_of_lt_of_le (zdA n) (Nat.pow_le_pow_left zab _)))) oM;have hone:=zkm hm (zak zab m).1 hlm zbC (by decide) (by decide);rw[zaj zab m,zuR]at hone;refine uR ?_;rw[qD (show ((dig B32 m).length:Int)>0 by omega)];refine uR ?_;refine vA (hone) ?_;rintro _ G2 ⟨q,rfl,hq⟩ hG2;obtain⟨qa,qc,rfl⟩:=SlC.val hq;have hrl:m % zbC<zbC:=qn _ (by decide)
  have hql:(dig B32 (m / zbC)).length>0↔m / zbC≠0:=by
   constructor
   ·intro h e;rw[e,zaD]at h;exact absurd h (by decide)
   ·intro h;exact List.length_pos_iff.2 (by rw[za8 zab h];simp)
  refine uR ?_;refine EV.loopK (ι:=Nat) [3,4] [] (fun k=>[(5,.v (n32 (m % zbC / 10 ^ k))),(6,.v (.string (sb (zdp k (m % zbC))))),(7,.v (.int .i64 (k:Int)))]) (fun _=>[]) (fun _=>[]) (fun k _=>k≤9∧(m / zbC=0→0<k→10 ^ (k-1)≤m)) (fun k=>9-k) (0) rfl rfl ⟨by rw[Nat.pow_zero,Nat.div_one];rfl,rfl,rfl,trivial⟩ trivial rfl (fun _=>rfl) (⟨by omega,fun _ h=>absurd h (by decide)⟩) ?_;rintro k G3 hG3 ⟨hk,hlow⟩;have hr9:m % zbC / 10 ^ k<zbC:=Nat.lt_of_le_of_lt (Nat.div_le_self _ _) hrl;by_cases hend:k<9∧(m % zbC / 10 ^ k>0∨m / zbC≠0)
  ·have hrd:zdp (k+1) (m % zbC)=UInt8.ofNat (48+m % zbC / 10 ^ k % 10)::zdp k (m % zbC):=zka k _;have hdv:m % zbC / 10 ^ k / 10=m % zbC / 10 ^ (k+1):=by rw[Nat.div_div_eq_div_mul,qX]
   have hnx:m / zbC=0→0<k+1→10 ^ (k+1-1)≤m:=by
    intro h1 _;rw[Nat.add_sub_cancel];rcases hend.2 with h | h
    ·have h2:0<10 ^ k:=Nat.pow_pos oM;have h3:1*10 ^ k≤m % zbC:=(Nat.le_div_iff_mul_le h2).1 h;have h4:=Nat.mod_le m zbC;omega
    ·exact absurd h1 h
   have hpl:=zf9 k (m % zbC);by_cases hr0:m % zbC / 10 ^ k>0
   ·generalize hrr:m % zbC / 10 ^ k=r at *
    refine uR ?_;rw[qD (show (k:Int)<9 by omega)];refine uR ?_;rw[qD (show (r:Int)>0 by omega)];refine uR ?_;rw[zr4 r];refine EVL.lit tO rfl rfl rfl rfl rfl rfl rfl rfl rfl rfl rfl fun g=>?_;refine EVL.strOf rfl rfl rfl rfl rfl rfl rfl (b:=g) (cap:=1) [UInt8.ofNat (48+r % 10)] rfl 0 rfl (fun j hj=>?_) ?_
    ·obtain rfl:j=0:=by simpa using hj
     rfl
    (first|refine EVL.subOw [] [(g,_,_)] [] rfl ?_|refine EV.subOw [] [(g,_,_)] [] rfl ?_);refine uR ?_;refine EVL.cat [UInt8.ofNat (48+r % 10)] (zdp k (m % zbC)) rfl rfl rfl rfl rfl rfl (by simp) oM ?_;refine uR ?_;refine⟨k+1,⟨?_,?_,?_,trivial⟩,sB,trivial,trivial,rfl,⟨by omega,hnx⟩,Hp.Le.refl _,by omega⟩
    ·rw[show (10:Int)=((10:Nat):Int) from rfl,q32 r 10 hr9,hdv];rfl
    ·rw[hrd];rfl
    ·rw[show IntKind.i64.wrap ((k:Int)+1)=((k+1:Nat):Int) by rw[pM];omega];rfl
   ·obtain⟨hr00,hqn⟩:m % zbC / 10 ^ k=0∧m / zbC≠0:=⟨Nat.eq_zero_of_not_pos hr0,hend.2.resolve_left hr0⟩;have hqp:=hql.2 hqn;generalize hrr:m % zbC / 10 ^ k=r at *
    refine uR ?_;rw[qD (show (k:Int)<9 by omega)];refine uR ?_;rw[qC (show ¬(r:Int)>0 by omega)];refine uR ?_;rw[qD (show ((dig B32 (m / zbC)).length:Int)>0 by omega)];refine uR ?_;rw[zr4 r];refine EVL.lit tO rfl rfl rfl rfl rfl rfl rfl rfl rfl rfl rfl fun g=>?_;refine EVL.strOf rfl rfl rfl rfl rfl rfl rfl (b:=g) (cap:=1) [UInt8.ofNat (48+r % 10)] rfl 0 rfl (fun j hj=>?_) ?_
    ·obtain rfl:j=0:=by simpa using hj
     rfl
    (first|refine EVL.subOw [] [(g,_,_)] [] rfl ?_|refine EV.subOw [] [(g,_,_)] [] rfl ?_);refine uR ?_;refine EVL.cat [UInt8.ofNat (48+r % 10)] (zdp k (m % zbC)) rfl rfl rfl rfl rfl rfl (by simp) oM ?_;refine uR ?_;refine⟨k+1,⟨?_,?_,?_,trivial⟩,sB,trivial,trivial,rfl,⟨by omega,hnx⟩,Hp.Le.refl _,by omega⟩
    ·rw[show (10:Int)=((10:Nat):Int) from rfl,q32 r 10 hr9,hdv];rfl
    ·rw[hrd];rfl
    ·rw[show IntKind.i64.wrap ((k:Int)+1)=((k+1:Nat):Int) by rw[pM];omega];rfl
  ·have hfin:=zrl h0 hk hlow hend;rw[hfin,qZ]at hs;have hsl:(zdp k (m % zbC)).length≤8388608:=by rw[zf9];omega
   have hsl2:s.length≤8388608:=by
    have:=congrArg List.length hs;rw[qJ,qJ]at this;omega
   have hm9:m / zbC<m:=Nat.div_lt_self oM (by decide);refine uR ?_;by_cases hk9:k<9
   ·have hr0:m % zbC / 10 ^ k=0:=Nat.eq_zero_of_not_pos fun h=>hend ⟨hk9,.inl h⟩
    have hq0:m / zbC=0:=by
     by_cases h:m / zbC=0
     ·exact h
     ·exact absurd ⟨hk9,.inr h⟩ hend
    generalize m % zbC / 10 ^ k=r at *
    rw[qD (show (k:Int)<9 by omega)];refine uR ?_;rw[qC (show ¬(r:Int)>0 by omega)];refine uR ?_;rw[qC (show ¬((dig B32 (m / zbC)).length:Int)>0 by rw[hq0,zaD];decide)];refine uR ?_;refine EVL.cat (zdp k (m % zbC)) s rfl rfl rfl rfl rfl rfl hsl hsl2 ?_;refine uR ?_;exact⟨(m / zbC,zdp k (m % zbC)++s,qa,qc),⟨rfl,rfl,trivial⟩,sB,trivial,trivial,rfl,⟨SlN.mono hq hG3,hs,by dsimp only;omega⟩,hG2.trans hG3,hm9⟩
   ·rw[qC (show ¬(k:Int)<9 by omega)];refine uR ?_;refine EVL.cat (zdp k (m % zbC)) s rfl rfl rfl rfl rfl rfl hsl hsl2 ?_;refine uR ?_;exact⟨(m / zbC,zdp k (m % zbC)++s,qa,qc),⟨rfl,rfl,trivial⟩,sB,trivial,trivial,rfl,⟨SlN.mono hq hG3,hs,by dsimp only;omega⟩,hG2.trans hG3,hm9⟩
theorem zi2 {H:Hp} {v:Value} (z:Int) (hz:bl z.natAbs≤8000000) (hv:RI H v z):PC prog 197 #[v] H fun r _=>r=.string (sb (wtL z)):=by
 obtain⟨a,l,c,rfl,hn⟩:=hv;have hl:=zed z.natAbs;have ht:=zeW z.natAbs hz hn;refine BD func197 ntmps197 ?_;refine uR ?_;by_cases h:z<0
 ·rw[qD h];refine uR ?_;refine vA (ht) ?_;rintro _ G rfl hG;refine EVL.cat [45] (Lib.decDigits z.natAbs) rfl rfl rfl rfl rfl rfl (by decide) oM ?_;refine uR ?_;unfold wtL;rw[if_pos h]
 ·rw[qC h];refine uR ?_;refine vA (ht) ?_;rintro _ G rfl hG;refine uR ?_;unfold wtL;rw[if_neg h];rfl
theorem zoJ {n:Nat} (h:n≠0):((dig B32 n).length=1∧(dig B32 n).getD 0 0=1)↔n=1:=by
 constructor
 ·rintro⟨h1,h2⟩;have e:=zaj zab n;obtain⟨x,hx⟩:=List.length_eq_one_iff.1 h1;rw[hx]at e h2;simp only[List.getD_cons_zero]at h2;rw[h2]at e;simp only[val]at e;omega
 ·rintro rfl
  have e:dig B32 1=[1]:=by
   rw[za8 zab (by decide),qT (by decide),Nat.div_eq_of_lt (by decide),zaD]
  rw[e];exact⟨rfl,rfl⟩
set_option maxRecDepth 100000 in
theorem zie {H:Hp} {v:Value} (q:Rat) (hq:ht q≤8000) (hv:RQ H v q):PC prog 153 #[v] H fun r _=>r=.string (sb (zc8 q)):=by
 have h1:=za2 q;have h2:=zaU q;have hl1:=zqt q.num;have hl2:=zed q.den;obtain⟨a,l,c,a',l',c',rfl,hN,hD⟩:=hv
 have hl':l'=(dig B32 q.den).length:=by
  obtain⟨x,y,e⟩:=SlC.val hD;injection e
 subst hl';have hnt:=fun G (h:H.Le G)=>zi2 (H:=G) q.num oM ⟨a,l,c,rfl,RN.mono hN h⟩;have hdt:=fun G (h:H.Le G)=>zeW (H:=G) q.den oM (RN.mono hD h);have hone:=zoJ q.den_nz;have hpos:0<(dig B32 q.den).length:=List.length_pos_iff.2 (by rw[za8 zab q.den_nz];simp)
 have hget:(dig B32 q.den)[0]?=some ((dig B32 q.den).getD 0 0):=by
  rw[qB,qA hpos];rfl
 have hcell:((dig B32 q.den).map n32)[0]?=some (n32 ((dig B32 q.den).getD 0 0)):=by rw[qK,hget];rfl
 refine BD func153 ntmps153 ?_;refine uR ?_;by_cases hlen:(dig B32 q.den).length=1
 ·rw[show ((((dig B32 q.den).length:Nat):Int) == 1)=true by rw[hlen];rfl];refine uR ?_;refine vI (hD) (0) (rfl) (hpos) (hcell) ?_;refine uR ?_;by_cases h:q.den=1
  ·rw[(hone.2 h).2,show (((1:Nat):Int) == 1)=true from rfl];refine uR ?_;refine vA (hnt _ (Hp.Le.refl _)) ?_;rintro _ G rfl hG;refine uR ?_;unfold zc8;rw[if_pos h]
  ·rw[show (((((dig B32 q.den).getD 0 0:Nat)):Int) == 1)=false from pR.2 (fun e=>h (hone.1 ⟨hlen,by omega⟩))];refine uR ?_;apply EV.drawn 8 kR kR;intro xv yw;(repeat refine' DD ?_);refine' vC (cO func197) (fun G hG hd=>hnt G hG) ?_;rotate_left;refine' DJ.cat (wtL q.num) [47] rfl rfl rfl rfl rfl rfl oM (by decide) ?_;rotate_left;(repeat refine' DD ?_);refine' vC (cO func198) (fun G hG hd=>hdt G hG) ?_;rotate_left;refine' DJ.cat (wtL q.num++[47]) (Lib.decDigits q.den) rfl rfl rfl rfl rfl rfl (by rw[qJ,qx];omega) oM ?_;rotate_left;(refine DJ.nil (fun G2 hG2 hF2=>?_);(case hS|hS2=>rfl));refine uR ?_;unfold zc8;rw[if_neg h]
 ·have h:¬q.den=1:=fun h=>hlen (hone.2 h).1;rw[show ((((dig B32 q.den).length:Nat):Int) == 1)=false from pR.2 (fun e=>hlen oM)];refine uR ?_;apply EV.drawn 8 kR kR;intro xv yw;(repeat refine' DD ?_);refine' vC (cO func197) (fun G hG hd=>hnt G hG) ?_;rotate_left;refine' DJ.cat (wtL q.num) [47] rfl rfl rfl rfl rfl rfl oM (by decide) ?_;rotate_left;(repeat refine' DD ?_);refine' vC (cO func198) (fun G hG hd=>hdt G hG) ?_;rotate_left;refine' DJ.cat (wtL q.num++[47]) (Lib.decDigits q.den) rfl rfl rfl rfl rfl rfl (by rw[qJ,qx];omega) oM ?_;rotate_left;(refine DJ.nil (fun G2 hG2 hF2=>?_);(case hS|hS2=>rfl));refine uR ?_;unfold zc8;rw[if_neg h]
section
variable {n:Nat} {ops:Array Oper} {o:Oper} {env:Env} {bx:Bxs} {H:Hs} {K:Env→Bxs→Hs→Prop} {L:Array Bool} {fuel d:Nat} {v:Value} {I:World→Prop} {z:Option Nat}
end
theorem SlC.expl {H:Hp} {v:Value} {n s:Nat} {xs:List Value} (h:SlC H v n s xs) (h0:0<n):∃b off cap c,v=.slice (some ⟨b,off,none⟩) n cap∧H b=some c∧∀(j:Nat) (x:Value),xs[j]?=some x→c[off+j]?=some x:=by
 rcases h.2 with ⟨e,_⟩ | ⟨b,off,cap,c,e,_,h2,h3⟩
 ·omega
 ·exact⟨b,off,cap,c,e,h2,h3⟩
section
variable {P:Program} {n:Nat} {ops:Array Oper} {o:Oper} {rest:List Oper} {env:Env} {bx:Bxs} {sb':Bxs} {H:Hs} {Q:EQ} {d:Nat}
theorem DJ.strOf {tail l:List Oper} {x:Nat→Value} {y:Nat→Ows} {ow':Ows} {kl ks:List DK} {i:Nat} {bx':Bxs} {Γ:zew} {src dst e:TypeId} {u:Operand} (ho:o.op=.convert src dst u) (hw:zah ops env o=some true) (hd:o.dst=some d) (hn:Nat.blt d n=true) (hs:P.underlying src=some (.slice e)) (he:P.underlying e=some (.int .u8)) (hdt:P.underlying dst=some .string)
  (t:List UInt8) {v:Value} (hx:env.op u=some (.v v)) (h0:0<t.length) (hv:∀G,zcQ ops i Γ G→SlC G v t.length 1 (t.map fun b=>.int .u8 (b.toNat:Int)))
  (h:DJ P n ops tail sb' bx H Q x y kl (i+1) l ks ((d,.v (.string (sb t)))::env) bx' Γ ow'):DJ P n ops tail sb' bx H Q x y kl i (o::l) (.sv (.v (.string (sb t)))::ks) env bx' Γ ow':=by
 refine DJ.ofVal (fun β a W G _ hf _ hb _ hsee hF=>?_) hd hn rfl h;obtain⟨b,off,cap,c,rfl,hHb,hcs⟩:=SlC.expl (hv G hF) h0;obtain⟨T,fr,hB⟩:=hf _ _ hHb;have ex:a.eval u=.slice (some ⟨b,off,none⟩) t.length cap:=hsee.op (by simp[ho,Op.operands]) hx
 have hrun:=run_convert_bytes_back (P:=P) W src dst e ⟨b,off,none⟩ cap t hs he hdt (fun j hj=>by
  rw[Lib.add_plain,Lib.cell_of_heap hB];exact hcs j _ (by rw[qK,qA hj];rfl))
 rw[if_pos (hsee.want hw)]
 have hx':(execOp a.eval o).run P W=.ok (.value (.string (sb t))) W:=by
  unfold execOp;simp only[ho,ex,Sem.run_bind,hrun,Result.andThen_ok,Sem.run_pure]
 unfold Oper.wp;rw[hx',Oper.upon_value];exact⟨_,G,rfl,rfl,Hp.Le.refl G,hf,Below.refl _ _,Nw.refl _ _ _⟩
end
theorem zoK (r:Nat) (h:r<10):IntKind.u8.wrap (IntKind.i64.wrap (48+(r:Int)))=((UInt8.ofNat (48+r)).toNat:Int):=by
 rw[pM,zmT,UInt8.toNat_ofNat'];omega
set_option maxRecDepth 100000 in
theorem zhR {H:Hp} (n:Nat) (hn:n<10):PC prog 152 #[.int .i64 (n:Int)] H fun r _=>r=.string (sb (Lib.decDigits n)):=by
 refine BD func152 ntmps152 ?_;refine uR ?_;rw[qD (show (n:Int)<10 by omega)];refine uR ?_;rw[zoK n hn];refine EVL.lit tO rfl rfl rfl rfl rfl rfl rfl rfl rfl rfl rfl fun g=>?_;refine EVL.strOf rfl rfl rfl rfl rfl rfl rfl (b:=g) (cap:=1) [UInt8.ofNat (48+n)] rfl 0 rfl (fun j hj=>?_) ?_
 ·obtain rfl:j=0:=by simpa using hj
  rfl
 refine uR ?_;rw[zcA hn]
set_option maxRecDepth 100000 in
theorem zjM {H:Hp} (n:Nat) (hn:n<100):PC prog 152 #[.int .i64 (n:Int)] H fun r _=>r=.string (sb (Lib.decDigits n)):=by
 by_cases h:n<10
 ·exact zhR n h
 have hq:=fun G=>zhR (H:=G) (n / 10) oM;have hl:=zl3 (n:=n / 10) oM;have hrem:(n:Int).tmod 10=((n % 10:Nat):Int):=zhv n 10;have hquo:IntKind.i64.wrap ((n:Int).tdiv 10)=((n / 10:Nat):Int):=zd6 n 10 oM;have hd8:=zoK (n % 10) (qn _ (by decide));refine BD func152 ntmps152 ?_;refine uR ?_;rw[qC (show ¬(n:Int)<10 by omega)];refine uR ?_;apply EV.drawn 10 kR kR;intro xv yw;(repeat refine' DD ?_);rw[hquo];refine' vC (cO func152) (fun G hG hd=>hq G) ?_;rotate_left;(repeat refine' DD ?_);rw[hrem,hd8];(refine' DJ.lit tO rfl rfl rfl rfl rfl rfl rfl rfl rfl rfl rfl rfl ?_;rotate_left);refine' DJ.strOf rfl rfl rfl rfl rfl rfl rfl [UInt8.ofNat (48+n % 10)] rfl (Nat.zero_lt_one) (fun G hd=>hd.head kR) ?_;rotate_left;refine' DJ.cat (Lib.decDigits (n / 10)) [UInt8.ofNat (48+n % 10)] rfl rfl rfl rfl rfl rfl oM (by simp) ?_;rotate_left;(refine DJ.nil (fun G2 hG2 hF2=>?_);(case hS|hS2=>rfl));refine uR ?_;rw[show Lib.decDigits n=_ from zcT (by omega)]
theorem zmv (s:List UInt8):∀c,Lib.repeatL s (c+1)=Lib.repeatL s c++s
 | 0=>by simp[Lib.repeatL]
 | c+1=>by
  have h:=zmv s c;rw[Lib.repeatL,h,←qZ];congr 1
theorem Txt.det {T:List Nd} {kd:Int} {f:Rat→List UInt8} {k d:Nat} {l:List UInt8} (h:Txt T kd f k d l):∀{m:List UInt8},Txt T kd f k d m→l=m:=by
 induction h with
 | cls h1 h2 h3 =>
  intro m hm
  cases hm with
  | cls q1 q2 q3=>rw[h1]at q1;cases q1;rfl
  | val q1 q2 q3=>exact absurd h3 q3
  | node q1 q2 q3 q4=>rw[h1]at q1;cases q1;exact absurd h2 q2
 | val h1 h2 h3 =>
  intro m hm
  cases hm with
  | cls q1 q2 q3=>exact absurd q3 h3
  | val q1 q2 q3=>rw[h1]at q1;cases q1;rfl
  | node q1 q2 q3 q4=>rw[h1]at q1;cases q1;exact absurd h2 q2
 | node h1 h2 h3 h4 ih1 ih2 =>
  intro m hm
  cases hm with
  | cls q1 q2 q3=>rw[h1]at q1;cases q1;exact absurd q2 h2
  | val q1 q2 q3=>rw[h1]at q1;cases q1;exact absurd q2 h2
  | node q1 q2 q3 q4=>rw[h1]at q1;cases q1;rw[ih1 q3,ih2 q4]
structure ztS (ns:List Nd) (w:Int):Prop where
 wide:w≤100
 len:ns.length≤40
 cls:∀n,n∈ns→0≤n.cls∧n.cls<100
 atT:∀n,n∈ns→ht n.at'≤4000
 valT:∀n,n∈ns→ht n.value≤4000
set_option maxRecDepth 100000 in
theorem zkp {kd cl w:Int} {a:Option Addr} {cp:Nat} {ns:List Nd} (hF:ztS ns w):∀{k h e:Nat},Sub ns w k h e→∀(d:Nat),d+h≤1000 →
  ∃l,Txt ns kd zc8 k d l∧l.length≤(e-k)*20000∧∀{H:Hp} {css:List (List Value)},zbW H css ns→SlC H (.slice a ns.length cp) ns.length 15 css.flatten →
   PC prog 98 #[ztx kd cl w (.slice a ns.length cp),.int .i64 (k:Int),.string (sb (zd4 d))] H fun r _=>r=.string (sb l):=by
 intro k h e hs
 induction hs with
 | @leaf k h n q1 q2 q3 q4 q5 =>
  intro d hd;have hk:=(qE.1 q1).1;have hmem:=qF q1;obtain⟨hc0,hc1⟩:=hF.cls n hmem;have hlr:(zd4 d).length=d*2:=zcu _ _;by_cases hkd:kd=1
  ·have hl:=zf1 (n:=n.cls.toNat) oM;refine⟨_,.cls q1 q2 hkd,by simp only[qJ,hlr,qR,qi];omega,fun {H css} hns hsl=>?_⟩;obtain⟨c,hcut,hnd⟩:=hns.get q1;obtain⟨b1,a1,l1,c1,a2,l2,c2,b3,a3,l3,c3,a4,l4,c4,b5,a5,l5,c5,a6,l6,c6,a7,c7,rfl,k1,k2,k3,k4⟩:=hnd.cells;have hdg:=fun G:Hp=>zjM (H:=G) n.cls.toNat oM;rw[Int.toNat_of_nonneg hc0]at hdg;refine BD func98 ntmps98 ?_;refine uR ?_;refine EVL.idxM tO rfl rfl rfl rfl rfl rfl rfl rfl rfl (hsl) (k) (rfl) (hk) (hcut) ?_;refine uR ?_;rw[qC (show ¬n.col≥0 by omega)];refine uR ?_;rw[show (kd == 1)=true by rw[hkd];rfl];refine uR ?_;refine EVL.cat (zd4 d) [99,108,97,115,115,32] rfl rfl rfl rfl rfl rfl oM (by decide) ?_;refine uR ?_;refine vA (hdg _) ?_;rintro _ G rfl hG;refine EVL.cat (zd4 d++[99,108,97,115,115,32]) (Lib.decDigits n.cls.toNat) rfl rfl rfl rfl rfl rfl (by simp only[qJ,hlr,qR,qi];omega) oM ?_;refine EVL.cat (zd4 d++[99,108,97,115,115,32]++Lib.decDigits n.cls.toNat) [10] rfl rfl rfl rfl rfl rfl (by simp only[qJ,hlr,qR,qi];omega) (by decide) ?_;refine uR ?_;simp only[qZ]
  ·have hq:=hF.valT n hmem;have hl:=zeK n.value;refine⟨_,.val q1 q2 hkd,by simp only[qJ,hlr,qR,qi];omega,fun {H css} hns hsl=>?_⟩;obtain⟨c,hcut,hnd⟩:=hns.get q1;obtain⟨b1,a1,l1,c1,a2,l2,c2,b3,a3,l3,c3,a4,l4,c4,b5,a5,l5,c5,a6,l6,c6,a7,c7,rfl,k1,k2,k3,k4⟩:=hnd.cells;have htx:=zie n.value oM k3;refine BD func98 ntmps98 ?_;refine uR ?_;refine EVL.idxM tO rfl rfl rfl rfl rfl rfl rfl rfl rfl (hsl) (k) (rfl) (hk) (hcut) ?_;refine uR ?_;rw[qC (show ¬n.col≥0 by omega)];refine uR ?_;rw[show (kd == 1)=false from beq_false_of_ne hkd];refine uR ?_;refine EVL.cat (zd4 d) [118,97,108,117,101,32] rfl rfl rfl rfl rfl rfl oM (by decide) ?_;refine uR ?_;refine vA (htx) ?_;rintro _ G rfl hG;refine EVL.cat (zd4 d++[118,97,108,117,101,32]) (zc8 n.value) rfl rfl rfl rfl rfl rfl (by simp only[qJ,hlr,qR,qi];omega) oM ?_;refine EVL.cat (zd4 d++[118,97,108,117,101,32]++zc8 n.value) [10] rfl rfl rfl rfl rfl rfl (by simp only[qJ,hlr,qR,qi];omega) (by decide) ?_;refine uR ?_;simp only[qZ]
 | @node k h m e n q1 q2 q3 q4 q5 s1 s2 ih1 ih2 =>
  intro d hd;have hk:=(qE.1 q1).1;have hmem:=qF q1;have hlr:(zd4 d).length=d*2:=zcu _ _;have hw:=hF.wide;have hle:=hF.len;have hl0:=zf1 (n:=n.col.toNat) oM;have hcm:n.col ≠ -1:=oM;have hq:=hF.atT n hmem;have hl:=zeK n.at';obtain⟨la,hta,ha1,ha2⟩:=ih1 (d+1) oM;obtain⟨lb,htb,hb1,hb2⟩:=ih2 (d+1) oM;have hm1:=s1.lt;have hm2:=s2.lt;refine⟨_,.node q1 hcm (by rw[q4,qU];exact hta) (by rw[q5,qU];exact htb),by simp only[qJ,hlr,qR,qi];omega,fun {H css} hns hsl=>?_⟩;obtain⟨c,hcut,hnd⟩:=hns.get q1;obtain⟨b1,a1,l1,c1,a2,l2,c2,b3,a3,l3,c3,a4,l4,c4,b5,a5,l5,c5,a6,l6,c6,a7,c7,rfl,k1,k2,k3,k4⟩:=hnd.cells;have hdg:=fun G:Hp=>zjM (H:=G) n.col.toNat oM;rw[Int.toNat_of_nonneg q2]at hdg;have htx:=fun G (hG:H.Le G)=>zie (H:=G) n.at' oM (k1.mono hG);have pa:=fun G (hG:H.Le G)=>ha2 (H:=G) (hns.mono hG) (hsl.mono hG);have pb:=fun G (hG:H.Le G)=>hb2 (H:=G) (hns.mono hG) (hsl.mono hG);rw[←q4]at pa;rw[←q5]at pb;rw[show zd4 (d+1)=zd4 d++[32,32] from zmv _ _]at pa pb;refine BD func98 ntmps98 ?_;refine uR ?_;refine EVL.idxM tO rfl rfl rfl rfl rfl rfl rfl rfl rfl (hsl) (k) (rfl) (hk) (hcut) ?_;refine uR ?_;rw[qD (show n.col≥0 by omega)];refine uR ?_;apply EV.drawn 26 kR kR;intro xv yw;(repeat refine' DD ?_);refine' DJ.cat (zd4 d) [120] rfl rfl rfl rfl rfl rfl oM (by decide) ?_;rotate_left;(repeat refine' DD ?_);refine' vC (cO func152) (fun G hG hd=>hdg G) ?_;rotate_left;refine' DJ.cat (zd4 d++[120]) (Lib.decDigits n.col.toNat) rfl rfl rfl rfl rfl rfl (by simp only[qJ,hlr,qR,qi];omega) oM ?_;rotate_left;refine' DJ.cat (zd4 d++[120]++Lib.decDigits n.col.toNat) [32,60,61,32] rfl rfl rfl rfl rfl rfl (by simp only[qJ,hlr,qR,qi];omega) (by decide) ?_;rotate_left;(repeat refine' DD ?_);refine' vC (cO func153) (fun G hG hd=>htx G hG) ?_;rotate_left;refine' DJ.cat (zd4 d++[120]++Lib.decDigits n.col.toNat++[32,60,61,32]) (zc8 n.at') rfl rfl rfl rfl rfl rfl (by simp only[qJ,hlr,qR,qi];omega) oM ?_;rotate_left;refine' DJ.cat (zd4 d++[120]++Lib.decDigits n.col.toNat++[32,60,61,32]++zc8 n.at') [10] rfl rfl rfl rfl rfl rfl (by simp only[qJ,hlr,qR,qi];omega) (by decide) ?_;rotate_left;have hX:(zd4 d++[120]++Lib.decDigits n.col.toNat++[32,60,61,32]++zc8 n.at'++[10]).length≤20000:=(by simp only[qJ,hlr,qR,qi];omega);(repeat refine' DD ?_);refine' DJ.cat (zd4 d) [32,32] rfl rfl rfl rfl rfl rfl oM (by decide) ?_;rotate_left;refine' vC (cO func98) (fun G hG hd=>pa G hG) ?_;rotate_left;refine' DJ.cat (zd4 d++[120]++Lib.decDigits n.col.toNat++[32,60,61,32]++zc8 n.at'++[10]) la rfl rfl rfl rfl rfl rfl oM oM ?_;rotate_left;(repeat refine' DD ?_);refine' DJ.cat (zd4 d) [32,32] rfl rfl rfl rfl rfl rfl oM (by decide) ?_;rotate_left;refine' vC (cO func98) (fun G hG hd=>pb G hG) ?_;rotate_left;refine' DJ.cat (zd4 d++[120]++Lib.decDigits n.col.toNat++[32,60,61,32]++zc8 n.at'++[10]++la) lb rfl rfl rfl rfl rfl rfl (by rw[qJ];omega) oM ?_;rotate_left;(refine DJ.nil (fun G2 hG2 hF2=>?_);(case hS|hS2=>rfl));refine uR ?_;simp only[qZ]
theorem zrD {H:Hp} {cs:List Value} {kd cl w:Int} {ns:List Nd} (ht:ze6 H cs kd cl w ns) (hok:zaX ⟨kd,cl,w,ns⟩) (hF:ztS ns w) :
  PC prog 51 #[.agg cs.toArray] H fun r _=>∃l,r=.string (sb l)∧Txt ns kd zc8 0 0 l:=by
 obtain⟨a,c,css,rfl,hns,hsl⟩:=ht;obtain⟨hh,hh10,hsub⟩:=hok.sub;obtain⟨l,htx,_,hpc⟩:=zkp (kd:=kd) (cl:=cl) (a:=a) (cp:=c) hF hsub 0 oM;have hp:=fun G (hG:H.Le G)=>hpc (H:=G) (hns.mono hG) (hsl.mono hG);refine BD func51 ntmps51 ?_;refine uR ?_;refine vA (hp _ (Hp.Le.refl _)) ?_;rintro _ G rfl hG;refine uR ?_;exact⟨l,rfl,htx⟩
theorem ztS.txtF {H:Hp} {ns:List Nd} {kd w:Int} (h:ztS ns w) (hT:PowT H):zuv H ns kd w zc8 :=
 ⟨h.wide,h.cls,fun n hn _=>⟨by have:=zeK n.at';have:=h.atT n hn;omega,fun G hG=>zfF n.at' (by have:=h.atT n hn;omega) (hT.mono hG)⟩,fun _ n hn=>⟨by have:=zeK n.value;have:=h.valT n hn;omega,fun G hG=>zfF n.value (by have:=h.valT n hn;omega) (hT.mono hG)⟩⟩
theorem zaX.txtN {kd cl w:Int} {ns:List Nd} (h:zaX ⟨kd,cl,w,ns⟩) (hl:ns.length≤40):ztS ns w:=by
 have hn:∀n,n∈ns→OkN kd cl n:=fun n hm=>by
  obtain⟨i,hi⟩:=List.mem_iff_getElem?.1 hm;obtain⟨n',h1,h2,_⟩:=h.nodes i (qE.1 hi).1;dsimp only at h1;rw[hi]at h1;cases h1;exact h2
 have hk:=h.kind;have hw:=h.wide;dsimp only at hk hw;refine⟨by omega,hl,fun n hm=>?_,fun n hm=>?_,fun n hm=>?_⟩
 ·have h1:=(hn n hm).cls;have h2:=(hn n hm).len;have h3:=zho n.counts n.counts.length;omega
 ·have:=(hn n hm).small;omega
 ·have:=(hn n hm).small;omega
end
section
theorem zfR.one {T:List Nd} {x:List Rat} {i:Nat} {n:Nd} {l:List Int} (h:zfR T x i l) (hn:T[i]?=some n):(n.col = -1∧l=[(i:Int)])∨(n.col ≠ -1∧∃m,l=(i:Int)::m∧m≠[]∧((x.getD n.col.toNat 0≤n.at'∧zfR T x n.left.toNat m)∨(¬x.getD n.col.toNat 0≤n.at'∧zfR T x n.right.toNat m))):=by
 have hne:∀{j:Nat} {m:List Int},zfR T x j m→m≠[]:=fun h=>by cases h <;> simp
 cases h with
 | here h1 h2=>cases h1.symm.trans hn;exact .inl ⟨h2,rfl⟩
 | low h1 h2 h3 h4=>cases h1.symm.trans hn;exact .inr ⟨h2,_,rfl,hne h4,.inl ⟨h3,h4⟩⟩
 | high h1 h2 h3 h4=>cases h1.symm.trans hn;exact .inr ⟨h2,_,rfl,hne h4,.inr ⟨h3,h4⟩⟩
def leafs (ns:List Nd):List Nd:=ns.filter fun n=>decide (n.col = -1)
def zq6 (ns:List Nd):Rat:=zaK ((leafs ns).map Nd.cost)
theorem zjX (A B:List Nd):leafs (A++B)=leafs A++leafs B:=List.filter_append ..
end
section
open Go.RowKit _root_.Go.Proofs.Tryz
def zcM (ns:List Nd):Nat→List Int
 | 0=>[]
 | k+1=>zcM ns k++match ns[k]? with
  | some n=>if n.col = -1 then [(k:Int)] else []
  | none=>[]
theorem zgK {ns:List Nd} {k:Nat} {n:Nd} (h:ns[k]?=some n) (hc:n.col = -1):zcM ns (k+1)=zcM ns k++[(k:Int)]:=by
 show zcM ns k++_=_;rw[h];dsimp only;rw[if_pos hc]
theorem ziO {ns:List Nd} {k:Nat} {n:Nd} (h:ns[k]?=some n) (hc:n.col ≠ -1):zcM ns (k+1)=zcM ns k:=by
 show zcM ns k++_=_;rw[h];dsimp only;rw[if_neg hc,qG]
theorem znw {ns:List Nd} {k:Nat} {n:Nd} (h:ns[k]?=some n):leafs (ns.take (k+1))=leafs (ns.take k)++if n.col = -1 then [n] else []:=by
 rw[zam h,zjX];congr 1;unfold leafs;by_cases hc:n.col = -1
 ·rw[List.filter_cons_of_pos (by simpa using hc),if_pos hc];rfl
 ·rw[List.filter_cons_of_neg (by simpa using hc),if_neg hc];rfl
theorem zcV (ns:List Nd):∀k,(zcM ns k).length≤k
 | 0=>qH _
 | k+1=>by
  have:=zcV ns k;show (zcM ns k++_).length≤_;rw[qJ];split
  ·split
   ·rw[qx];omega
   ·rw[qi];omega
  ·rw[qi];omega
theorem zeh (ns:List Nd):∀k,k≤ns.length→(zcM ns k).length=(leafs (ns.take k)).length∧∀(j:Nat) (i:Int) (n:Nd),(zcM ns k)[j]?=some i→(leafs (ns.take k))[j]?=some n→0≤i∧ns[i.toNat]?=some n
 | 0,_=>⟨rfl,fun j i n h=>by cases h⟩
 | k+1,hk=>by
  obtain⟨n,hn⟩:∃n,ns[k]?=some n:=⟨_,qA oM⟩;obtain⟨h1,h2⟩:=zeh ns k oM;rw[znw hn];by_cases hc:n.col = -1
  ·rw[zgK hn hc,if_pos hc];refine⟨by simp[h1],fun j i m e1 e2=>?_⟩;by_cases hj:j<(zcM ns k).length
   ·rw[qM hj]at e1;rw[qM (by omega)]at e2;exact h2 j i m e1 e2
   ·rw[qL (by omega)]at e1;rw[qL oM,←h1]at e2
    have h0:j-(zcM ns k).length=0:=by
     have:=(qE.1 e1).1;simp at this;omega
    rw[h0]at e1 e2;cases e1;cases e2;exact⟨by omega,by rw[qU];exact hn⟩
  ·rw[ziO hn hc,if_neg hc,qG];exact⟨h1,h2⟩
theorem zjY {H:Hp} {cs:List Value} {kd cl w:Int} {ns:List Nd} (ht:zcx H cs kd cl w ns) (hok:zaX ⟨kd,cl,w,ns⟩):PC prog 44 #[.agg cs.toArray] H fun r G=>IL G r (zcM ns ns.length):=by
 have hck:=zck ht hok;obtain⟨a,cp,css,rfl,hns,hsl⟩:=ht;have hln:=hok.len;dsimp only at hln;refine BD func44 ntmps44 ?_
 repeat (first|refine RUN ?_|refine CV (hck) ?_|refine CE (hck) ?_)
 refine EV.loopK (ι:=Nat × Value × Ows) [10,11] [] (fun q=>[(3,.v q.2.1),(12,.v (.int .i64 (q.1:Int)))]) (fun _=>[]) (fun q=>q.2.2) (fun q _=>q.1≤ns.length∧zaL 3 1 q.2.1 (zcM ns q.1).length ((zcM ns q.1).map iv) q.2.2) (fun q=>ns.length-q.1) ((0,.slice none 0 0,[])) rfl rfl ⟨rfl,rfl,trivial⟩ trivial rfl (fun _=>rfl) (⟨qQ _,zaL.nil _ _⟩) ?_;rintro⟨i,u,ow⟩ G1 hG1 ⟨hi,hown⟩;dsimp only at hi hown;obtain⟨oa,oc,rfl⟩:=hown.val;have hll:=zcV ns i;have wn:IntKind.i64.wrap ((i:Int)+1)=((i+1:Nat):Int):=zac i oM;refine uR ?_;refine EV.cond rfl (fun hlt=>?_) (fun hlt=>?_)
 ·simp only[nN]at hlt;obtain⟨n,hn⟩:=gE hlt;obtain⟨c,hcut,hnd⟩:=(hns.mono hG1).get hn;obtain⟨a7,c7,rfl,_⟩:=hnd.cells;have hsl1:=hsl.mono hG1;refine uR ?_;refine EVL.idxM tO rfl rfl rfl rfl rfl rfl rfl rfl rfl (hsl1) (i) (rfl) (hlt) (hcut) ?_;refine uR ?_;by_cases hc:n.col = -1
  ·rw[show (n.col == -1)=true from beq_iff_eq.2 hc];refine uR ?_;refine EVL.app1 tO rfl rfl rfl rfl rfl rfl rfl rfl rfl rfl rfl rfl rfl rfl rfl rfl rfl rfl rfl (fun _=>rfl) (ow) ([]) ((qG _).symm) (hown) (oM) fun _=>?_;intro v' ow' hown';refine uR ?_;refine⟨(i+1,v',ow'),⟨rfl,by rw[wn];rfl,trivial⟩,sB,trivial,sB,qG _,⟨hlt,?_⟩,Hp.Le.refl _,by dsimp only;omega⟩;dsimp only;rw[zgK hn hc,qp,qJ];exact hown'
  ·rw[show (n.col == -1)=false from pR.2 hc];refine uR ?_;refine⟨(i+1,_,ow),⟨rfl,by rw[wn];rfl,trivial⟩,sB,trivial,sB,rfl,⟨hlt,?_⟩,Hp.Le.refl _,by dsimp only;omega⟩;dsimp only;rw[ziO hn hc];exact hown
 ·simp only[nN]at hlt;obtain rfl:i=ns.length:=oM;(first|refine EVL.publishL [] ow [] ((qG _).symm) hown fun G2 hG2 hs2=>?_|refine EV.publishL [] ow [] ((qG _).symm) hown fun G2 hG2 hs2=>?_);refine uR ?_;exact hs2
theorem zlF {B:Nat}:∀l:List Rat,(∀q,q∈l→ht q≤B)→ht (zaK l)≤1+l.length*(B+2):=by
 intro l
 induction l with
 | nil=>intro _;rw[zcf,zb9];omega
 | cons q l ih =>
  intro h;have h1:=ih fun q hq=>h q (qm _ hq);have h2:=h q (qh ..);have h3:=zdm q (zaK l);rw[zaC,qR,qw];omega
theorem zq7 {t:Tr} (hok:zaX t) (hl:t.ns.length≤40):ht (zq6 t.ns)≤90000000:=by
 have hc:∀n,n∈t.ns→ht n.cost≤2000000:=fun n hn=>by
  obtain⟨i,hi⟩:=List.mem_iff_getElem?.1 hn;obtain⟨m,hm,ho,_⟩:=hok.nodes i (qE.1 hi).1;cases hm.symm.trans hi;exact ho.small.2.1
 have:=zlF (B:=2000000) ((leafs t.ns).map Nd.cost) fun q hq=>by
  obtain⟨n,hn,rfl⟩:=List.mem_map.1 hq;exact hc n (List.mem_filter.1 hn).1
 have h2:(leafs t.ns).length≤t.ns.length:=List.length_filter_le _ _;rw[qV]at this;have:(leafs t.ns).length*(2000000+2)≤40*(2000000+2):=qN _ oM;unfold zq6;omega
set_option maxRecDepth 100000 in
theorem zrN {H:Hp} {cs:List Value} {kd cl w:Int} {ns:List Nd} (ht:zcx H cs kd cl w ns) (hok:zaX ⟨kd,cl,w,ns⟩) (hl:ns.length≤40):PC prog 25 #[.agg cs.toArray] H fun r _=>r=zaf (zq6 ns):=by
 have hlv:=zjY ht hok;have hnodes:=zeh ns ns.length (qH _);rw[qb]at hnodes;obtain⟨hjl,hjn⟩:=hnodes;have hll:=zcV ns ns.length
 have hcost:∀n,n∈ns→Go.Proofs.YtifcjfodgicngaaGreatDoor.ht n.cost≤2000000:=fun n hn=>by
  obtain⟨i,hi⟩:=List.mem_iff_getElem?.1 hn;obtain⟨m,hm,ho,_⟩:=hok.nodes i (qE.1 hi).1;cases hm.symm.trans hi;exact ho.small.2.1
 have hsum:∀k,k≤(leafs ns).length→Go.Proofs.YtifcjfodgicngaaGreatDoor.ht (zaK (((leafs ns).map Nd.cost).take k))≤90000000:=fun k hk=>by
  have:=zlF (B:=2000000) (((leafs ns).map Nd.cost).take k) fun q hq=>by
   obtain⟨n,hn,rfl⟩:=List.mem_map.1 (List.mem_of_mem_take hq);exact hcost n (List.mem_filter.1 hn).1
  rw[qP,qV,qo hk]at this;have:k*(2000000+2)≤40*(2000000+2):=qN _ oM;omega
 obtain⟨a,cp,css,rfl,hns,hsl⟩:=ht;generalize hLe:zcM ns ns.length=L at *
 generalize hme:leafs ns=M at *
 refine BD func25 ntmps25 ?_;refine uR ?_;refine vA (hlv) ?_;intro r7 G1 hr7 hG1;obtain⟨la,lc,rfl⟩:=SlC.val hr7;refine uR ?_;refine EV.loopK (ι:=Nat) [1,2,7,8] [1,2] (fun i=>[(3,.p 3 0),(9,.v (.int .i64 (i:Int)))]) (fun i=>[(3,50,zad (zaf (zaK ((M.map Nd.cost).take i))))]) (fun _=>[]) (fun i _=>i≤L.length) (fun i=>L.length-i) (0) rfl rfl ⟨rfl,rfl,trivial⟩ ⟨by rw[List.take_zero,zcf,zaH];rfl,trivial⟩ rfl (fun _=>rfl) (qQ _) ?_;rintro i G2 hG2 hi;have wn:IntKind.i64.wrap ((i:Int)+1)=((i+1:Nat):Int):=zac i oM;refine uR ?_;refine EV.cond rfl (fun hlt=>?_) (fun hlt=>?_)
 ·simp only[nN]at hlt;obtain⟨j,hj⟩:=gE hlt;obtain⟨n,hn⟩:∃n,M[i]?=some n:=⟨_,qA oM⟩;obtain⟨hj0,hjn'⟩:=hjn i j n hj hn;obtain⟨c,hcut,hnd⟩:=(hns.mono (hG1.trans hG2)).get hjn';obtain⟨a7,c7,rfl,_⟩:=hnd.cells;have hsl2:=hsl.mono (hG1.trans hG2);have hmc:(M.map Nd.cost)[i]?=some n.cost:=by rw[qK,hn];rfl
  have hnm:n∈ns:=qF hjn';have hadd:=zez (zaK ((M.map Nd.cost).take i)) n.cost (qI (hsum i oM) oM) (zaQ (hcost n hnm) oM);have hjl2:=(qE.1 hjn').1;refine uR ?_;refine vI ((hr7.mono hG2)) (i) (rfl) (hlt) ((by rw[qK,hj];rfl)) ?_;refine uR ?_;apply EV.drawn 8 kR kR;intro xv yw;(repeat refine' DD ?_);refine' DJ.idxM tO rfl rfl rfl rfl rfl rfl rfl rfl rfl (hsl2) (j.toNat) ((by rw[Int.toNat_of_nonneg hj0])) (hjl2) (hcut) ?_;rotate_left;(repeat (first|refine' DD ?_|(refine' DC (hadd) (h:=?_);rotate_left)));(refine DJ.nil (fun G3 hG3 hF3=>?_);(case hS|hS2=>rfl));refine uR ?_;refine⟨i+1,⟨rfl,by rw[wn];rfl,trivial⟩,sB,⟨?_,trivial⟩,sB,rfl,hlt,hG3,by omega⟩;rw[zam hmc,zeo,zaC,zcf,Rat.add_zero];rfl
 ·simp only[nN]at hlt;obtain rfl:i=L.length:=oM;rw[qO (by rw[qV];omega)];refine uR ?_;show _=zaf (zaK ((leafs ns).map Nd.cost));rw[hme]
end
section
theorem Sub.path {T:List Nd} {w:Int} (x:List Rat) {k h e:Nat} (hs:Sub T w k h e):∃l,zfR T x k l:=by
 induction hs with
 | leaf h1 h2 _ _ _=>exact⟨_,.here h1 h2⟩
 | @node k h m e n h1 h2 h3 h4 h5 _ _ ih1 ih2 =>
  obtain⟨l1,q1⟩:=ih1;obtain⟨l2,q2⟩:=ih2;by_cases hc:x.getD n.col.toNat 0≤n.at'
  ·exact⟨_,.low h1 oM hc (by rw[h4,qU];exact q1)⟩
  ·exact⟨_,.high h1 oM hc (by rw[h5,qU];exact q2)⟩
theorem zfR.det {T:List Nd} {x:List Rat} {i:Nat} {l:List Int} (h:zfR T x i l):∀{m:List Int},zfR T x i m→l=m:=by
 induction h with
 | here h1 h2 =>
  intro m hm;rcases hm.one h1 with ⟨_,rfl⟩ | ⟨k,_⟩
  ·rfl
  ·exact absurd h2 k
 | low h1 h2 h3 _ ih =>
  intro m hm;rcases hm.one h1 with ⟨k,_⟩ | ⟨_,m',rfl,_,⟨_,k⟩ | ⟨k,_⟩⟩
  ·exact absurd k h2
  ·rw[ih k]
  ·exact absurd h3 k
 | high h1 h2 h3 _ ih =>
  intro m hm;rcases hm.one h1 with ⟨k,_⟩ | ⟨_,m',rfl,_,⟨k,_⟩ | ⟨_,k⟩⟩
  ·exact absurd k h2
  ·exact absurd k h3
  ·rw[ih k]
end
section
open Go.RowKit _root_.Go.Proofs.Tryz
inductive Far (T:List Nd):Nat→Nat→Int→Int→Prop
 | leaf {k d:Nat} {f:Int} {n:Nd}:T[k]?=some n→n.col = -1→Far T k d f (if (d:Int)>f then (d:Int) else f)
 | node {k d:Nat} {f g h:Int} {n:Nd}:T[k]?=some n→n.col ≠ -1→Far T n.left.toNat (d+1) f g→Far T n.right.toNat (d+1) g h→Far T k d f h
theorem Far.det {T:List Nd} {k d:Nat} {f g:Int} (h:Far T k d f g):∀{g':Int},Far T k d f g'→g=g':=by
 induction h with
 | leaf h1 h2 =>
  intro g' h
  cases h with
  | leaf e _=>rfl
  | node e n _ _=>rw[h1]at e;cases e;exact absurd h2 n
 | node h1 h2 _ _ ih1 ih2 =>
  intro g' h
  cases h with
  | leaf e n=>rw[h1]at e;cases e;exact absurd n h2
  | node e n a b =>
   rw[h1]at e;cases e;obtain rfl:=ih1 a;exact ih2 b
set_option maxRecDepth 100000 in
theorem zrt {kd cl w:Int} {a:Option Addr} {cp:Nat} {ns:List Nd} (hln:ns.length≤1000000) {k h e:Nat} (hsub:Sub ns w k h e):∀{H:Hp} {css:List (List Value)} {b:Nat} {T:TypeId} {deep:Nat} {far:Int},zbW H css ns→SlC H (.slice a ns.length cp) ns.length 15 css.flatten→deep≤k →
  PW prog 91 #[ztx kd cl w (.slice a ns.length cp),.int .i64 (k:Int),.int .i64 (deep:Int),.pointer (some ⟨b,0,none⟩)] H [(b,T,[.int .i64 far])] fun v ow _=>v=.int .i64 (e:Int)∧∃far',ow=[(b,T,[.int .i64 far'])]∧Far ns k deep far far':=by
 induction hsub with
 | @leaf k h n hn hc hl hr ha =>
  intro H css b T deep far hns hsl hdk;have hlt:=(qE.1 hn).1;obtain⟨c,hcut,hnd⟩:=hns.get hn;obtain⟨b1,a1,l1,c1,a2,l2,c2,b3,a3,l3,c3,a4,l4,c4,b5,a5,l5,c5,a6,l6,c6,a7,c7,rfl,k1,_⟩:=hnd.cells;have hsg:=zic k1;rw[ha]at hsg;have hsg0:PC prog 90 #[.agg #[.bool b1,.slice a1 l1 c1,.slice a2 l2 c2]] H fun r _=>r=.int .i64 0:=hsg;refine PW.body tO func91 rfl kR ntmps91 rfl rfl ?_;refine uR ?_;rw[qC (show ¬(k:Int)<0 by omega)];refine uR ?_;rw[qC (show ¬(k:Int)≥(ns.length:Int) by omega)];refine uR ?_;rw[qC (show ¬(deep:Int)>(ns.length:Int) by omega)];refine uR ?_;refine EVL.idxM tO rfl rfl rfl rfl rfl rfl rfl rfl rfl (hsl) (k) (rfl) (hlt) (hcut) ?_;refine uR ?_;rw[hc];refine uR ?_;refine EVL.nilB rfl rfl rfl rfl rfl ?_;refine EVL.loadOwn tO rfl rfl rfl rfl rfl rfl (0) rfl (rfl) rfl rfl ?_;refine uR ?_;refine EVL.nilB rfl rfl rfl rfl rfl ?_;refine EVL.storeOwn tO rfl rfl rfl rfl rfl rfl ([]) ([]) rfl rfl rfl rfl ((by exact qH 1)) (rfl) ?_;refine uR ?_;rw[hl,hr]
  repeat (first|refine RUN ?_|refine CV (hsg0) ?_|refine CE (hsg0) ?_)
  exact⟨by rw[zac k (by omega)],_,rfl,.leaf hn hc⟩
 | @node k h m e n hn hc1 hc2 hl hr s1 s2 ih1 ih2 =>
  intro H css b T deep far hns hsl hdk;have hlt:=(qE.1 hn).1;obtain⟨hm1,hm2⟩:=s1.lt;obtain⟨he1,he2⟩:=s2.lt;obtain⟨c,hcut,hnd⟩:=hns.get hn;obtain⟨b1,a1,l1,c1,a2,l2,c2,b3,a3,l3,c3,a4,l4,c4,b5,a5,l5,c5,a6,l6,c6,a7,c7,rfl,k1,_⟩:=hnd.cells;refine PW.body tO func91 rfl kR ntmps91 rfl rfl ?_;refine uR ?_;rw[qC (show ¬(k:Int)<0 by omega)];refine uR ?_;rw[qC (show ¬(k:Int)≥(ns.length:Int) by omega)];refine uR ?_;rw[qC (show ¬(deep:Int)>(ns.length:Int) by omega)];refine uR ?_;refine EVL.idxM tO rfl rfl rfl rfl rfl rfl rfl rfl rfl (hsl) (k) (rfl) (hlt) (hcut) ?_;refine uR ?_;rw[show (n.col == -1)=false from pR.2 (by omega)];refine uR ?_;rw[qC (show ¬n.col<0 by omega)];refine uR ?_;rw[qC (show ¬n.col≥w by omega)];refine uR ?_;rw[hl,hr,zac k oM,show (((k+1:Nat):Int) != ((k+1:Nat):Int))=false from pQ _];refine uR ?_;rw[zac k oM,zac deep (by omega)];refine EVL.callW rfl rfl rfl rfl rfl ([(b,T,[.int .i64 far])]) ([]) rfl (ih1 hns hsl (deep:=deep+1) oM) ?_;rintro _ _ G1 ⟨rfl,far1,rfl,hf1⟩ hG1;refine uR ?_;rw[qC (show ¬(m:Int)<0 by omega)];refine uR ?_;rw[show ((m:Int) != (m:Int))=false from pQ _];refine uR ?_;rw[zac deep (by omega)];refine EVL.callW rfl rfl rfl rfl rfl ([(b,T,[.int .i64 far1])]) ([]) rfl (ih2 (hns.mono hG1) (hsl.mono hG1) (deep:=deep+1) oM) ?_;rintro _ _ G2 ⟨rfl,far2,rfl,hf2⟩ hG2;refine uR ?_;exact⟨rfl,far2,rfl,.node hn oM (by rw[hl,qU];exact hf1) (by rw[hr,qU];exact hf2)⟩
set_option maxRecDepth 100000 in
theorem zrn {kd cl w:Int} {a:Option Addr} {cp:Nat} {ns:List Nd} (hln:ns.length≤1000000) {k h e:Nat} (hsub:Sub ns w k h e):∀{H:Hp} {css:List (List Value)} {b:Nat} {T:TypeId} {deep:Nat} {far:Int},zcz H css ns→SlC H (.slice a ns.length cp) ns.length 21 css.flatten→deep≤k →
  PW prog 68 #[.pointer (some ⟨b,0,none⟩),.int .i64 (k:Int),.int .i64 (deep:Int)] H [(b,T,zfX kd cl w (.slice a ns.length cp) far)] fun v ow _=>v=.tuple #[.int .i64 (e:Int),.bool true]∧∃far',ow=[(b,T,zfX kd cl w (.slice a ns.length cp) far')]∧Far ns k deep far far':=by
 induction hsub with
 | @leaf k h n hn hc hl hr ha =>
  intro H css b T deep far hns hsl hdk;have hlt:=(qE.1 hn).1;obtain⟨c,hcut,hnd⟩:=hns.get hn;obtain⟨a7,c7,rfl,_⟩:=hnd.cells
  have hsg:PV prog 45 #[zaf n.at'] (.int .i64 0):=by
   rw[ha];exact zcP 0 (by show bl 0≤_;rw[zbi];omega)
  refine PW.body tO func68 rfl kR ntmps68 rfl rfl ?_;refine uR ?_;refine RP ?_;refine EVL.loadOwn tO rfl rfl rfl rfl rfl rfl (0) rfl (rfl) rfl rfl ?_;refine uR ?_;rw[qC (show ¬(k:Int)≥(ns.length:Int) by omega)];refine uR ?_;refine RP ?_;refine EVL.loadOwn tO rfl rfl rfl rfl rfl rfl (0) rfl (rfl) rfl rfl ?_;refine uR ?_;refine EVL.idxM tO rfl rfl rfl rfl rfl rfl rfl rfl rfl (hsl) (k) (rfl) (hlt) (hcut) ?_;refine uR ?_;rw[hc];refine uR ?_;refine RP ?_;refine EVL.loadOwn tO rfl rfl rfl rfl rfl rfl (0) rfl (rfl) rfl rfl ?_;refine uR ?_;refine RP ?_;refine EVL.storeOwn tO rfl rfl rfl rfl rfl rfl ([]) ([]) rfl rfl rfl rfl ((by exact qH 5)) (rfl) ?_;refine uR ?_;rw[hl,hr]
  repeat (first|refine RUN ?_|refine CV (hsg) ?_|refine CE (hsg) ?_)
  exact⟨by rw[zac k (by omega)];rfl,_,rfl,.leaf hn hc⟩
 | @node k h m e n hn hc1 hc2 hl hr s1 s2 ih1 ih2 =>
  intro H css b T deep far hns hsl hdk;have hlt:=(qE.1 hn).1;obtain⟨hm1,hm2⟩:=s1.lt;obtain⟨he1,he2⟩:=s2.lt;obtain⟨c,hcut,hnd⟩:=hns.get hn;obtain⟨a7,c7,rfl,_⟩:=hnd.cells;refine PW.body tO func68 rfl kR ntmps68 rfl rfl ?_;refine uR ?_;refine RP ?_;refine EVL.loadOwn tO rfl rfl rfl rfl rfl rfl (0) rfl (rfl) rfl rfl ?_;refine uR ?_;rw[qC (show ¬(k:Int)≥(ns.length:Int) by omega)];refine uR ?_;refine RP ?_;refine EVL.loadOwn tO rfl rfl rfl rfl rfl rfl (0) rfl (rfl) rfl rfl ?_;refine uR ?_;refine EVL.idxM tO rfl rfl rfl rfl rfl rfl rfl rfl rfl (hsl) (k) (rfl) (hlt) (hcut) ?_;refine uR ?_;rw[show (n.col == -1)=false from pR.2 (by omega)];refine uR ?_;apply EV.drawn 20 kR kR;intro xv yw;(repeat refine' DD ?_);rw[qC (show ¬n.col<0 by omega)];(repeat refine' DD ?_);(repeat (first|refine' DD ?_|refine' vN ?_|refine' vF ?_));refine' DJ.ofVal (zaa.loadOwn tO rfl rfl rfl rfl (0) rfl (rfl) rfl rfl) rfl rfl rfl ?_;rotate_left;(repeat refine' DD ?_);rw[qC (show ¬n.col≥w by omega)];(repeat refine' DD ?_);rw[hl,zac k oM,show (((k+1:Nat):Int) != ((k+1:Nat):Int))=false from pQ _];(repeat refine' DD ?_);(refine DJ.nil (fun G1 hG1 hF1=>?_);(case hS|hS2=>rfl));refine uR ?_;rw[zac k oM,zac deep (by omega)];refine EVL.callW rfl rfl rfl rfl rfl ([(b,T,zfX kd cl w (.slice a ns.length cp) far)]) ([]) rfl (ih1 (hns.mono hG1) (hsl.mono hG1) (deep:=deep+1) oM) ?_;rintro _ _ G2 ⟨rfl,far1,rfl,hf1⟩ hG2;refine uR ?_;rw[hr,show ((m:Int) != (m:Int))=false from pQ _];refine uR ?_;rw[zac deep (by omega)];refine EVL.callW rfl rfl rfl rfl rfl ([(b,T,zfX kd cl w (.slice a ns.length cp) far1)]) ([]) rfl (ih2 (hns.mono (hG1.trans hG2)) (hsl.mono (hG1.trans hG2)) (deep:=deep+1) oM) ?_;rintro _ _ G3 ⟨rfl,far2,rfl,hf2⟩ hG3;refine uR ?_;exact⟨rfl,far2,rfl,.node hn oM (by rw[hl,qU];exact hf1) (by rw[hr,qU];exact hf2)⟩
theorem zn8 {H:Hp} {cs:List Value} {kd cl w:Int} {ns:List Nd} (ht:zcx H cs kd cl w ns) (hok:zaX ⟨kd,cl,w,ns⟩):PC prog 16 #[.agg cs.toArray] H fun r _=>∃z,r=.int .i64 z∧Far ns 0 0 0 z:=by
 have hck:=zck ht hok;have hln:=hok.len;obtain⟨hh,hh10,hsub⟩:=hok.sub;dsimp only at hln hsub;obtain⟨a,cp,css,rfl,hns,hsl⟩:=ht;refine BD func16 ntmps16 ?_
 repeat (first|refine RUN ?_|refine CV (hck) ?_|refine CE (hck) ?_)
 (first|refine EVL.unbox (3) rfl fun g3=>?_|refine EV.unbox (3) rfl fun g3=>?_);refine uR ?_;refine EVL.callW rfl rfl rfl rfl rfl ([(g3,136,zfX kd cl w (.slice a ns.length cp) 0)]) ([]) rfl (zrn oM hsub hns hsl (deep:=0) (qH _)) ?_;rintro _ _ G3 ⟨rfl,far,rfl,hfar⟩ hG3;refine uR ?_;refine EVL.fldB tO rfl rfl rfl rfl rfl rfl rfl ?_;refine EVL.loadOwn tO rfl rfl rfl rfl rfl rfl (0) rfl (rfl) rfl rfl ?_;refine uR ?_;exact⟨far,rfl,hfar⟩
theorem zpB {H:Hp} {cs:List Value} {kd cl w:Int} {ns:List Nd} (ht:ze6 H cs kd cl w ns) (hok:zaX ⟨kd,cl,w,ns⟩):PC prog 48 #[.agg cs.toArray] H fun r _=>∃z,r=.int .i64 z∧Far ns 0 0 0 z:=by
 have hln:=hok.len;obtain⟨hh,hh10,hsub⟩:=hok.sub;dsimp only at hln hsub;obtain⟨a,cp,css,rfl,hns,hsl⟩:=ht;refine BD func48 ntmps48 ?_;refine uR ?_;(first|refine EVL.unbox (3) rfl fun g3=>?_|refine EV.unbox (3) rfl fun g3=>?_);refine uR ?_;refine EVL.callW rfl rfl rfl rfl rfl ([(g3,3,[.int .i64 0])]) ([]) rfl (zrt oM hsub hns hsl (deep:=0) (qH _)) ?_;rintro _ _ G3 ⟨rfl,far,rfl,hfar⟩ hG3;refine uR ?_;refine EVL.loadOwn tO rfl rfl rfl rfl rfl rfl (0) rfl (rfl) rfl rfl ?_;refine uR ?_;exact⟨far,rfl,hfar⟩
theorem zii {H:Hp} {cs:List Value} {kd cl w:Int} {ns:List Nd} (ht:ze6 H cs kd cl w ns) (hok:zaX ⟨kd,cl,w,ns⟩):PC prog 47 #[.agg cs.toArray] H fun r G=>IL G r (zcM ns ns.length):=by
 obtain⟨hh,hh10,hsub⟩:=hok.sub;obtain⟨a,cp,css,rfl,hns,hsl⟩:=ht;have hln:=hok.len;dsimp only at hln hsub;refine BD func47 ntmps47 ?_;refine uR ?_;refine EV.loopK (ι:=Nat × Value × Ows) [1] [1] (fun q=>[(3,.v q.2.1),(4,.v (.int .i64 (q.1:Int)))]) (fun _=>[]) (fun q=>q.2.2) (fun q _=>q.1≤ns.length∧zaL 3 1 q.2.1 (zcM ns q.1).length ((zcM ns q.1).map iv) q.2.2) (fun q=>ns.length-q.1) ((0,.slice none 0 0,[])) rfl rfl ⟨rfl,rfl,trivial⟩ trivial rfl (fun _=>rfl) (⟨qQ _,zaL.nil _ _⟩) ?_;rintro⟨i,u,ow⟩ G1 hG1 ⟨hi,hown⟩;dsimp only at hi hown;obtain⟨oa,oc,rfl⟩:=hown.val;have hll:=zcV ns i;have wn:IntKind.i64.wrap ((i:Int)+1)=((i+1:Nat):Int):=zac i oM;refine uR ?_;refine EV.cond rfl (fun hlt=>?_) (fun hlt=>?_)
 ·simp only[nN]at hlt;obtain⟨n,hn⟩:=gE hlt;obtain⟨c,hcut,hnd⟩:=(hns.mono hG1).get hn;obtain⟨b1,a1,l1,c1,a2,l2,c2,b3,a3,l3,c3,a4,l4,c4,b5,a5,l5,c5,a6,l6,c6,a7,c7,rfl,k1,k2,k3,k4⟩:=hnd.cells;have hsl1:=hsl.mono hG1
  have hcol:n.col<0↔n.col = -1:=by
   obtain⟨h',e',hsi⟩:=hsub.at i (qQ _) hlt
   cases hsi with
   | leaf q1 q2 _ _ _=>rw[hn]at q1;cases q1;omega
   | node q1 q2 q3 _ _ _ _=>rw[hn]at q1;cases q1;omega
  refine uR ?_;refine EVL.idxM tO rfl rfl rfl rfl rfl rfl rfl rfl rfl (hsl1) (i) (rfl) (hlt) (hcut) ?_;refine uR ?_;by_cases hc:n.col = -1
  ·rw[qD (hcol.2 hc)];refine uR ?_;refine EVL.app1 tO rfl rfl rfl rfl rfl rfl rfl rfl rfl rfl rfl rfl rfl rfl rfl rfl rfl rfl rfl (fun _=>rfl) (ow) ([]) ((qG _).symm) (hown) (oM) fun _=>?_;intro v' ow' hown';refine uR ?_;refine⟨(i+1,v',ow'),⟨rfl,by rw[wn];rfl,trivial⟩,sB,trivial,sB,qG _,⟨hlt,?_⟩,Hp.Le.refl _,by dsimp only;omega⟩;dsimp only;rw[zgK hn hc,qp,qJ];exact hown'
  ·rw[qC (fun h=>hc (hcol.1 h))];refine uR ?_;refine⟨(i+1,_,ow),⟨rfl,by rw[wn];rfl,trivial⟩,sB,trivial,sB,rfl,⟨hlt,?_⟩,Hp.Le.refl _,by dsimp only;omega⟩;dsimp only;rw[ziO hn hc];exact hown
 ·simp only[nN]at hlt;obtain rfl:i=ns.length:=oM;(first|refine EVL.publishL [] ow [] ((qG _).symm) hown fun G2 hG2 hs2=>?_|refine EV.publishL [] ow [] ((qG _).symm) hown fun G2 hG2 hs2=>?_);refine uR ?_;exact hs2
set_option maxRecDepth 100000 in
theorem zrs {H:Hp} {cs:List Value} {kd cl w:Int} {ns:List Nd} (ht:ze6 H cs kd cl w ns) (hok:zaX ⟨kd,cl,w,ns⟩) (hl:ns.length≤40):PC prog 50 #[.agg cs.toArray] H fun r G=>RQ G r (zq6 ns):=by
 have hlv:=fun G (hG:H.Le G)=>zii (ht.mono hG) hok;have hnodes:=zeh ns ns.length (qH _);rw[qb]at hnodes;obtain⟨hjl,hjn⟩:=hnodes;have hll:=zcV ns ns.length
 have hcost:∀n,n∈ns→Go.Proofs.YtifcjfodgicngaaGreatDoor.ht n.cost≤2000000:=fun n hn=>by
  obtain⟨i,hi⟩:=List.mem_iff_getElem?.1 hn;obtain⟨m,hm,ho,_⟩:=hok.nodes i (qE.1 hi).1;cases hm.symm.trans hi;exact ho.small.2.1
 have hsum:∀k,k≤(leafs ns).length→Go.Proofs.YtifcjfodgicngaaGreatDoor.ht (zaK (((leafs ns).map Nd.cost).take k))≤90000000:=fun k hk=>by
  have:=zlF (B:=2000000) (((leafs ns).map Nd.cost).take k) fun q hq=>by
   obtain⟨n,hn,rfl⟩:=List.mem_map.1 (List.mem_of_mem_take hq);exact hcost n (List.mem_filter.1 hn).1
  rw[qP,qV,qo hk]at this;have:k*(2000000+2)≤40*(2000000+2):=qN _ oM;omega
 have hz0:=fun G:Hp=>zaZ (H:=G) 0 oM oM;rw[show ((0:Int):Rat)=0 from rfl]at hz0;obtain⟨a,cp,css,rfl,hns,hsl⟩:=ht;generalize hLe:zcM ns ns.length=L at *
 generalize hme:leafs ns=M at *
 refine BD func50 ntmps50 ?_;refine uR ?_;refine vA (hz0 _) ?_;rintro r G0 hr hG0;obtain⟨xa,xl,xc,ya,yl,yc,rfl,hx1,hx2⟩:=id hr;refine uR ?_;refine vA (hlv _ hG0) ?_;intro r7 G1 hr7 hG1;obtain⟨la,lc,rfl⟩:=SlC.val hr7;refine uR ?_;refine EV.loopK (ι:=Nat × Value × Value × Value) [1,2,3,4] [1,2] (fun q=>[(5,.v (.int .i64 (q.1:Int)))]) (fun q=>[(3,35,[q.2.1,q.2.2.1,q.2.2.2])]) (fun _=>[]) (fun q G=>q.1≤L.length∧G1.Le G∧RQ G (.agg #[q.2.1,q.2.2.1,q.2.2.2]) (zaK ((M.map Nd.cost).take q.1))) (fun q=>L.length-q.1) ((0,_,_,_)) rfl rfl ⟨rfl,trivial⟩ ⟨rfl,trivial⟩ rfl (fun _=>rfl) (⟨qQ _,Hp.Le.refl _,RQ.mono hr hG1⟩) ?_;rintro⟨i,c1,c2,c3⟩ G2 hG2 ⟨hi,hG12,hs⟩;dsimp only at hi hs hG12;have wn:IntKind.i64.wrap ((i:Int)+1)=((i+1:Nat):Int):=zac i oM;refine uR ?_;refine EV.cond rfl (fun hlt=>?_) (fun hlt=>?_)
 ·simp only[nN]at hlt;obtain⟨j,hj⟩:=gE hlt;obtain⟨n,hn⟩:∃n,M[i]?=some n:=⟨_,qA oM⟩;obtain⟨hj0,hjn'⟩:=hjn i j n hj hn;obtain⟨c,hcut,hnd⟩:=(hns.mono (hG0.trans (hG1.trans hG12))).get hjn';obtain⟨b1,a1,l1,d1,a2,l2,d2,b3,a3,l3,d3,a4,l4,d4,b5,a5,l5,d5,a6,l6,d6,a7,d7,rfl,k1,k2,k3,k4⟩:=hnd.cells;have hsl2:=hsl.mono (hG0.trans (hG1.trans hG12));have hmc:(M.map Nd.cost)[i]?=some n.cost:=by rw[qK,hn];rfl
  have hnm:n∈ns:=qF hjn';have hjl2:=(qE.1 hjn').1;have qs:rq (zaK ((M.map Nd.cost).take i)):=qI (hsum i oM) oM;have qq:rq n.cost:=qI (hcost n hnm) oM;refine uR ?_;apply EV.drawn 11 kR kR;intro xv yw;(repeat refine' DD ?_);refine' vJ ((hr7.mono hG12)) (i) (rfl) (hlt) ((by rw[qK,hj];rfl)) ?_;rotate_left;(repeat refine' DD ?_);refine' DJ.idxM tO rfl rfl rfl rfl rfl rfl rfl rfl rfl (hsl2) (j.toNat) ((by rw[Int.toNat_of_nonneg hj0])) (hjl2) (hcut) ?_;rotate_left;(repeat refine' DD ?_);refine' vB (cO func97) (fun G hG hd=>zcW (hs.mono hG) (k2.mono hG) qs qq) (fun _ _ _ h k=>RQ.mono h k) ?_;rotate_left;(refine DJ.nil (fun G3 hG3 hF3=>?_);(case hS|hS2=>rfl));have hR:=hF3.1;rw[←zbH,←zam hmc]at hR;obtain⟨_,_,_,_,_,_,e,_,_⟩:=id hR;rw[e]at hR ⊢;refine uR ?_;refine⟨(i+1,_,_,_),⟨by rw[wn];rfl,trivial⟩,sB,⟨rfl,trivial⟩,sB,rfl,⟨hlt,hG12.trans hG3,hR⟩,hG3,by dsimp only;omega⟩
 ·simp only[nN]at hlt;obtain rfl:i=L.length:=oM;rw[qO (by rw[qV];omega)]at hs;obtain⟨_,_,_,_,_,_,e,_,_⟩:=id hs;obtain⟨rfl,rfl,rfl⟩:=zuB e;refine uR ?_;show RQ _ _ (zaK ((leafs ns).map Nd.cost));rw[hme];exact hs
set_option maxRecDepth 100000 in
theorem zmy {H:Hp} {cs:List Value} {vx:Value} {kd cl w:Int} {ns:List Nd} {x:List Rat} (ht:ze6 H cs kd cl w ns) (hok:zaX ⟨kd,cl,w,ns⟩) (hx:RL H vx x) (hxl:(x.length:Int)=w) (hxs:∀q,q∈x→rq q) :
  PC prog 53 #[.agg cs.toArray,vx] H fun r G=>∃l:List Int,IL G r l∧zfR ns x 0 l:=by
 obtain⟨a,cp,css,rfl,hns,hsl⟩:=ht;obtain⟨hkd,hw,hln,⟨hh,hh10,hsub⟩,hall⟩:=hok;dsimp only at hkd hw hln hsub hall;have hpos:=hsub.end0;obtain⟨xa,xc,rfl⟩:=hx.val;refine BD func53 ntmps53 ?_;refine uR ?_;refine EVL.lit tO rfl rfl rfl rfl rfl rfl rfl rfl rfl rfl rfl fun bl=>?_;refine uR ?_;refine EV.loopK (ι:=Nat × List Int × Value × Ows) [1,2] [2] (fun q=>[(5,.v q.2.2.1),(6,.v (.int .i64 (q.1:Int)))]) (fun _=>[]) (fun q=>q.2.2.2) (fun q G=>q.1<ns.length∧q.2.1.length≤q.1∧(∀m,zfR ns x q.1 m→zfR ns x 0 (q.2.1++m))∧zaL 3 1 q.2.2.1 (q.2.1.length+1) (q.2.1.map iv++[iv q.1]) q.2.2.2) (fun q=>ns.length-q.1) ((0,[],_,_)) rfl rfl ⟨rfl,rfl,trivial⟩ trivial rfl (fun _=>rfl) (⟨hpos,qH _,fun m h=>h,zaL.full rfl oM⟩) ?_;rintro⟨i,l,vw,ow⟩ G1 hG1 ⟨hi,hll,hlf,hown⟩;dsimp only at hi hll hlf hown;obtain⟨wa,wc,rfl⟩:=hown.val;obtain⟨n,hn,hN,_⟩:=hall i hi;obtain⟨c,hcut,hnd⟩:=(hns.mono hG1).get hn;obtain⟨b1,a1,l1,c1,a2,l2,c2,b3,a3,l3,c3,a4,l4,c4,b5,a5,l5,c5,a6,l6,c6,a7,c7,rfl,hqa,_,_,_⟩:=hnd.cells;obtain⟨h',e',hsi⟩:=hsub.at i (qQ _) hi;have hle:=hsi.lt;refine uR ?_;refine EVL.idxM tO rfl rfl rfl rfl rfl rfl rfl rfl rfl ((hsl.mono hG1)) (i) (rfl) (hi) (hcut) ?_;refine uR ?_
 cases hsi with
 | leaf q1 q2 q3 q4 q5 =>
  rw[hn]at q1;cases q1;rw[qC (show ¬n.col≥0 by omega)];have hil:=hown.il;(first|refine EVL.publishL [] ow [] ((qG _).symm) hil fun G2 hG2 hs2=>?_|refine EV.publishL [] ow [] ((qG _).symm) hil fun G2 hG2 hs2=>?_);refine uR ?_;exact⟨l++[(i:Int)],hs2,hlf _ (.here hn q2)⟩
 | @node _ h1 m _ _ q1 q2 q3 q4 q5 s1 s2 =>
  rw[hn]at q1;cases q1;have hm1:=s1.lt;have hm2:=s2.lt;have hcl:n.col.toNat<x.length:=oM;obtain⟨y,hy⟩:∃y,x[n.col.toNat]?=some y:=⟨_,qA hcl⟩;have hyg:x.getD n.col.toNat 0=y:=by rw[qB,hy];rfl
  obtain⟨xcs,xb,ya1,yl1,yc1,ya2,yl2,yc2,hxS,hxcut,hxq⟩:=hx.slc hy;rw[qD (show n.col≥0 by omega)];refine uR ?_;refine EVL.idxM tO rfl rfl rfl rfl rfl rfl rfl rfl rfl ((hsl.mono hG1)) (i) (rfl) (hi) (hcut) ?_;refine uR ?_;apply EV.drawn 9 kR kR;intro xv yw;(repeat refine' DD ?_);refine' DJ.idxM tO rfl rfl rfl rfl rfl rfl rfl rfl rfl ((hxS.mono hG1)) (n.col.toNat) ((by rw[Int.toNat_of_nonneg q2])) (hcl) (hxcut) ?_;rotate_left;(repeat refine' DD ?_);refine' vC (cO func102) (fun G hG hd=>zb2 ((hxq.mono hG1).mono hG) (hqa.mono hG) (hxs y (qF hy)) (by have:=hN.small.1;unfold rq;omega)) ?_;rotate_left;(repeat refine' DD ?_);(refine DJ.nil (fun G2 hG2 hF2=>?_);(case hS|hS2=>rfl));by_cases hle2:y≤n.at'
  ·rw[qD (zpp hle2)];refine uR ?_;refine EVL.app1 tO rfl rfl rfl rfl rfl rfl rfl rfl rfl rfl rfl rfl rfl rfl rfl rfl rfl rfl rfl (fun _=>rfl) (ow) ([]) ((qG _).symm) (hown) oM fun _=>?_;intro v' ow' hown';obtain⟨va,vc,rfl⟩:=hown'.val;refine uR ?_;refine⟨(n.left.toNat,l++[(i:Int)],_,ow'),⟨rfl,by dsimp only;rw[Int.toNat_of_nonneg (by omega)];rfl,trivial⟩,sB,trivial,sB,qG _,⟨by dsimp only;omega,by dsimp only;rw[qJ,qx];omega,fun m h=>by dsimp only;rw[qZ];exact hlf _ (.low hn oM (by rw[hyg];exact hle2) h),by dsimp only;rw[qJ,qp,Int.toNat_of_nonneg (by omega)];exact hown'⟩,hG2,by dsimp only;omega⟩
  ·rw[qC (show ¬zb4 y n.at'≤0 from fun k=>hle2 (Rat.not_lt.1 fun k2=>by have:=(zms y n.at').2 k2;omega))];refine uR ?_;refine EVL.app1 tO rfl rfl rfl rfl rfl rfl rfl rfl rfl rfl rfl rfl rfl rfl rfl rfl rfl rfl rfl (fun _=>rfl) (ow) ([]) ((qG _).symm) (hown) oM fun _=>?_;intro v' ow' hown';obtain⟨va,vc,rfl⟩:=hown'.val;refine uR ?_;refine⟨(n.right.toNat,l++[(i:Int)],_,ow'),⟨rfl,by dsimp only;rw[Int.toNat_of_nonneg (by omega)];rfl,trivial⟩,sB,trivial,sB,qG _,⟨by dsimp only;omega,by dsimp only;rw[qJ,qx];omega,fun m h=>by dsimp only;rw[qZ];exact hlf _ (.high hn oM (by rw[hyg];exact hle2) h),by dsimp only;rw[qJ,qp,Int.toNat_of_nonneg (by omega)];exact hown'⟩,hG2,by dsimp only;omega⟩
theorem zpL {H:Hp} {cs:List Value} {vx:Value} {kd cl w:Int} {ns:List Nd} {x:List Rat} (ht:ze6 H cs kd cl w ns) (hok:zaX ⟨kd,cl,w,ns⟩) (hx:RL H vx x) (hxl:(x.length:Int)=w) (hxs:∀q,q∈x→rq q) (hpl:∀l,zfR ns x 0 l→l.length≤1000000) :
  PC prog 46 #[.agg cs.toArray,vx] H fun r _=>∃i:Nat,r=.int .i64 (i:Int)∧zjn ns x 0 i:=by
 have hway:=zmy ht hok hx hxl hxs;obtain⟨a,cp,css,rfl,hns,hsl⟩:=ht;obtain⟨xa,xc,rfl⟩:=hx.val;refine BD func46 ntmps46 ?_;refine uR ?_;refine vA (hway) ?_;rintro r G ⟨l0,hil,hp⟩ hG;have hll:=hpl l0 hp;obtain⟨i,l,rfl,hL⟩:=hp.leaf;rw[qJ,qx]at hll;obtain⟨la,lc,rfl⟩:=SlC.val hil
 have hw:IntKind.i64.wrap (((l++[(i:Int)]).length:Int)-1)=((l.length:Nat):Int):=by
  rw[qJ,qx,pM];omega
 refine uR ?_;rw[hw];refine vI (hil) (l.length) (rfl) ((by rw[qJ,qx];omega)) ((by rw[qK,qL (qH _),Nat.sub_self];rfl)) ?_;refine uR ?_;exact⟨i,rfl,hL⟩
theorem zqa {H:Hp} {cs:List Value} {xa:Option Addr} {xl xc:Nat} {kd cl w:Int} {ns:List Nd} (ht:zcx H cs kd cl w ns) (hok:zaX ⟨kd,cl,w,ns⟩) (hxl:(xl:Int)≠w) :
  PC prog 17 #[.agg cs.toArray,.slice xa xl xc] H fun r _=>r=.tuple #[.slice none 0 0,.int .i64 5]:=by
 have hck:=zck ht hok;obtain⟨a,cp,css,rfl,hns,hsl⟩:=ht;refine BD func17 ntmps17 ?_
 repeat (first|refine RUN ?_|refine CV (hck) ?_|refine CE (hck) ?_)
 rw[show ((xl:Int) != w)=true from bne_iff_ne.2 hxl];refine uR ?_;rfl
theorem zmM {H:Hp} {cs:List Value} {xa:Option Addr} {xl xc:Nat} {kd cl w:Int} {ns:List Nd} (ht:zcx H cs kd cl w ns) (hok:zaX ⟨kd,cl,w,ns⟩) (hxl:(xl:Int)≠w) :
  PC prog 40 #[.agg cs.toArray,.slice xa xl xc] H fun r _=>r=.tuple #[.int .i64 0,.int .i64 5]:=by
 have hw:=zqa (xa:=xa) (xc:=xc) ht hok hxl;obtain⟨a,cp,css,rfl,hns,hsl⟩:=ht;refine BD func40 ntmps40 ?_;refine uR ?_;refine vA (hw) ?_;rintro r G rfl hG;refine uR ?_;rfl
theorem zn6 {H:Hp} {cs:List Value} {xa:Option Addr} {xl xc:Nat} {kd cl w:Int} {ns:List Nd} (ht:zcx H cs kd cl w ns) (hok:zaX ⟨kd,cl,w,ns⟩) (hxl:(xl:Int)≠w) :
  PC prog 42 #[.agg cs.toArray,.slice xa xl xc] H fun r _=>r=.tuple #[zaf 0,.int .i64 0,.int .i64 5]:=by
 have hw:=zmM (xa:=xa) (xc:=xc) ht hok hxl;obtain⟨a,cp,css,rfl,hns,hsl⟩:=ht;refine BD func42 ntmps42 ?_;refine uR ?_;refine vA (hw) ?_;rintro r G rfl hG;refine uR ?_;rw[zbQ]
theorem zpJ {p:GP} {kd cl least deep:Int} {sm w:Nat} {la va xa:Option Addr} {ln lc vn vc xc:Nat} {g1 g2 g3:Value} {dq:Option Addr} (hq0:dq=none) (hdn:∀s,p.cols s=(zqe w,s)) (hsm:sm≤w) (hw1:1≤w) (hw2:w≤1000) (hx0:0<p.X.length) (hxw:∀x,x∈p.X→x.length=w) (hxq:∀x,x∈p.X→∀q,q∈x→ht q≤60) (hpl:p.least=least) (hgr:rq p.gain):∀(d:Nat) {H:Hp} {b:Nat} {T:TypeId} {dd s:Int} {vr out:Value} {rows:List Int} {ns:List Nd} {css:List (List Value)} {D ow:Ows},
  zkW H (zas kd cl (.slice la ln lc) (.slice va vn vc)) kd p.X.length p.cost p.mean p.cnt→RLL H (.slice xa p.X.length xc) p.X→RQ H (.agg #[g1,g2,g3]) p.gain→dd+d=deep→0≤dd→deep≤10 →
  IL H vr rows→rows.length≤300→(∀r,r∈rows→0≤r∧r<(p.X.length:Int))→ze5 (.pointer dq) D s→zaL 99 15 out ns.length css.flatten ow→zbW H css ns→ns.length+2 ^ (d+1)≤1000000 →
  PW prog 86 #[.pointer (some ⟨b,0,none⟩),vr,.int .i64 dd] H ((b,T,zdX kd cl (.slice la ln lc) (.slice va vn vc) (.slice xa p.X.length xc) deep least g1 g2 g3 (.pointer dq) (sm:Int) out)::(D++ow)) fun v ow' H'=>v=.tuple #[]∧∃out' D' ow2 css',ow'=(b,T,zdX kd cl (.slice la ln lc) (.slice va vn vc) (.slice xa p.X.length xc) deep least g1 g2 g3 (.pointer dq) (sm:Int) out')::(D'++ow2)∧ze5 (.pointer dq) D' (p.grow d ns.length rows s).2∧zaL 99 15 out' (ns++(p.grow d ns.length rows s).1).length css'.flatten ow2∧zbW H' css' (ns++(p.grow d ns.length rows s).1):=by
 intro d
 induction d using Nat.strongRecOn with
 | _ d ih =>
  intro H b T dd s vr out rows ns css D ow hg hX hgq hdd hd0 hd1 hr hn hb hD hown hns hsz;obtain⟨oa,oc,rfl⟩:=hown.val;obtain⟨ra,rc,rfl⟩:=SlC.val hr;have hpw:2≤2 ^ (d+1):=by rw[qX];have:=Nat.one_le_two_pow (n:=d);omega
  refine PW.body tO func86 rfl kR ntmps86 rfl rfl ?_;refine uR ?_;refine RP ?_;refine EVL.loadOwn tO rfl rfl rfl rfl rfl rfl (0) rfl (rfl) rfl rfl ?_;refine uR ?_;refine EV.meetK (ι:=Value × Ows × List Value) [0,1,2,6] [] (fun _=>[]) (fun _=>[]) (fun q=>(b,T,zdX kd cl (.slice la ln lc) (.slice va vn vc) (.slice xa p.X.length xc) deep least g1 g2 g3 (.pointer dq) (sm:Int) q.1)::(D++q.2.1)) (fun q G=>H.Le G∧zaL 99 15 q.1 (ns.length+1) (css++[q.2.2]).flatten q.2.1∧zdW G q.2.2 (p.nd rows)) rfl rfl (fun _=>rfl) ?_ ?_
  ·refine EVI.start (some 9) (b,T,zdX kd cl (.slice la ln lc) (.slice va vn vc) (.slice xa p.X.length xc) deep least g1 g2 g3 (.pointer dq) (sm:Int) (.slice oa ns.length oc)) ?_;refine IV 0 ?_;refine IV 1 ?_;refine IN 2 ?_;refine IF 3 ?_;refine IL0 4 ?_;refine IV 5 ?_;refine IV 6 ?_;refine EVI.one 7 0 (.inr rfl) kR rfl ?_;refine vW ([(b,T,zdX kd cl (.slice la ln lc) (.slice va vn vc) (.slice xa p.X.length xc) deep least g1 g2 g3 (.pointer dq) (sm:Int) (.slice oa ns.length oc))]) (D++ow) (zrz hg hr hn hb) ?_;rintro _ ow1 G1 ⟨rfl,cs,rfl,hnd⟩ hG1;obtain⟨b1,a1,l1,c1,a2,l2,c2,b3,a3,l3,c3,a4,l4,c4,b5,a5,l5,c5,a6,l6,c6,a7,c7,rfl,_⟩:=hnd.cells;refine EVL.nil ⟨rfl,?_⟩;refine EVI.one 8 0 (.inr rfl) kR rfl ?_;refine EVL.lit tO rfl rfl rfl rfl rfl rfl rfl rfl rfl rfl rfl fun bl=>?_;refine EVL.nil ⟨rfl,?_⟩;refine EVI.one 9 1 (.inr rfl) kR rfl ?_;refine EVL.append tO rfl rfl rfl rfl rfl rfl rfl rfl rfl rfl rfl rfl ([(bl,_,_),(b,T,_)]++D) ow [] (by rw[qG];rfl) hown (zdo.own 0 rfl rfl) rfl oM ?_;intro v2 ow2 hown2;obtain⟨oa2,oc2,rfl⟩:=hown2.val;refine EVL.nil ⟨rfl,?_⟩;refine EVI.one 10 0 (.inl kR) kR rfl ?_;refine EVL.nilB rfl rfl rfl rfl rfl ?_;refine EVL.nil ⟨rfl,?_⟩;refine EVI.one 11 0 (.inl kR) kR rfl ?_;refine EVL.fldB tO rfl rfl rfl rfl rfl rfl rfl ?_;refine EVL.nil ⟨rfl,?_⟩;refine EVI.one 12 0 (.inl kR) kR rfl ?_;refine EVL.storeOwn tO rfl rfl rfl rfl rfl rfl ([(bl,_,_)]) (D++(ow2++[])) rfl rfl rfl rfl ((by exact qH 13)) (rfl) ?_;refine EVL.subOw [] [(bl,_,_)] _ rfl ?_;refine EVL.nil ⟨rfl,?_⟩;refine EVI.nil 0 (.inl kR) kR ?_;exact⟨(_,ow2++[],_),trivial,sB,trivial,trivial,rfl,hG1,(by rw[qG,List.flatten_append];exact hown2),hnd⟩
  ·rintro⟨out1,ow1,c1⟩ G1 ⟨hG1,hown1,hnd1⟩;dsimp only at hown1 hnd1;have hns1:zbW G1 (css++[c1]) (ns++[p.nd rows]):=hns.snoc hG1 hnd1;refine uR ?_;refine RP ?_;refine EVL.loadOwn tO rfl rfl rfl rfl rfl rfl (0) rfl (rfl) rfl rfl ?_;refine uR ?_;by_cases hd:d=0
   ·subst hd;obtain rfl:dd=deep:=oM;rw[show (dd == dd)=true from beq_self_eq_true dd];refine uR ?_;exact⟨rfl,out1,D,ow1,_,rfl,hD,by rw[qJ];exact hown1,hns1⟩
   obtain⟨e,rfl⟩:∃e,d=e+1:=⟨d-1,by omega⟩;have ih':=@ih e oM;clear ih;rw[show (dd == deep)=false from pR.2 (by omega)];refine uR ?_;refine RP ?_;refine EVL.loadOwn tO rfl rfl rfl rfl rfl rfl (0) rfl (rfl) rfl rfl ?_;refine EVL.neqnil Tryz.underlying89 rfl rfl rfl rfl rfl ?_;refine uR ?_;obtain⟨vsx,hvs,hvx⟩:=hX.mono hG1;obtain⟨x0,hxx0⟩:=gE hx0;obtain⟨u0,e0,hu0,_⟩:=hvs.at hxx0;have hx0w:=hxw x0 (qF hxx0);refine EV.meetK (ι:=Value × Ows) [0,1,2,6] [] (fun q=>[(7,.v q.1)]) (fun _=>[]) (fun q=>(b,T,zdX kd cl (.slice la ln lc) (.slice va vn vc) (.slice xa p.X.length xc) deep least g1 g2 g3 (.pointer dq) (sm:Int) out1)::(q.2++ow1)) (fun q G=>G1.Le G∧IL G q.1 (p.cols s).1∧ze5 (.pointer dq) q.2 (p.cols s).2) rfl rfl (fun _=>rfl) ?_ ?_
   ·rcases hD with ⟨e1,rfl⟩ | ⟨bd,Td,e1,rfl,hs⟩
    ·cases e1;have hcols:=hdn s;have hcs:(p.cols s).1=zqe w:=by rw[hcols]
     have hcs2:(p.cols s).2=s:=by rw[hcols]
     have hnl0:∀k,k∈b::Ows.bs ow→∀q,q∈([]:Ows)→k≠q.1:=fun k _ q hq=>by cases hq
     refine uR ?_;refine EV.loopK (ι:=Nat × Value × Ows) [0,1,2,6] [] (fun q=>[(7,.v q.2.1),(8,.v (.int .i64 (q.1:Int)))]) (fun _=>[]) (fun q=>q.2.2++((b,T,zdX kd cl (.slice la ln lc) (.slice va vn vc) (.slice xa p.X.length xc) deep least g1 g2 g3 (.pointer none) (sm:Int) out1)::ow1)) (fun q _=>q.1≤w∧zaL 3 1 q.2.1 q.1 ((zqe q.1).map iv) q.2.2∧∀k,k∈b::Ows.bs ow→∀r,r∈q.2.2→k≠r.1) (fun q=>w-q.1) ((0,.slice none 0 0,[])) rfl rfl ⟨rfl,rfl,trivial⟩ trivial rfl (fun _=>rfl) (⟨qQ _,zaL.nil _ _,hnl0⟩) ?_;rintro⟨i,v7,ow7⟩ G2 hG2 ⟨hi,hown7,hnl⟩;dsimp only at hi hown7 hnl;obtain⟨a7,c7,rfl⟩:=hown7.val;refine uR ?_;(first|refine EVL.swapOw (ow7) ((b,T,zdX kd cl (.slice la ln lc) (.slice va vn vc) (.slice xa p.X.length xc) deep least g1 g2 g3 (.pointer none) (sm:Int) out1)::ow1) (rfl) ?_|refine EV.swapOw (ow7) ((b,T,zdX kd cl (.slice la ln lc) (.slice va vn vc) (.slice xa p.X.length xc) deep least g1 g2 g3 (.pointer none) (sm:Int) out1)::ow1) (rfl) ?_);refine RP ?_;refine EVL.loadOwn tO rfl rfl rfl rfl rfl rfl (0) rfl (rfl) rfl rfl ?_;refine vI (hvx.mono hG2) (0) (rfl) (hx0) (hu0) ?_;refine uR ?_;rw[hx0w];(first|refine EVL.swapOw ((b,T,zdX kd cl (.slice la ln lc) (.slice va vn vc) (.slice xa p.X.length xc) deep least g1 g2 g3 (.pointer none) (sm:Int) out1)::ow1) (ow7) (rfl) ?_|refine EV.swapOw ((b,T,zdX kd cl (.slice la ln lc) (.slice va vn vc) (.slice xa p.X.length xc) deep least g1 g2 g3 (.pointer none) (sm:Int) out1)::ow1) (ow7) (rfl) ?_);refine uR ?_;refine EV.cond rfl (fun hlt=>?_) (fun hlt=>?_)
     ·simp only[nN]at hlt;refine uR ?_;refine EVL.app1N tO rfl rfl rfl rfl rfl rfl rfl rfl rfl rfl rfl rfl rfl rfl rfl rfl rfl rfl rfl (fun _=>rfl) (ow7) ((b,T,zdX kd cl (.slice la ln lc) (.slice va vn vc) (.slice xa p.X.length xc) deep least g1 g2 g3 (.pointer none) (sm:Int) out1)::ow1) (rfl) (hown7) (oM) fun _=>?_;intro v' ow' hown' hnw;refine uR ?_;refine⟨(i+1,v',ow'),⟨rfl,?_,trivial⟩,sB,trivial,trivial,rfl,⟨by dsimp only;omega,by dsimp only;rw[zqf,qp];exact hown',fun k hk=>hnw k hk (hnl k hk)⟩,Hp.Le.refl _,by dsimp only;omega⟩;rw[zac i (by omega)];rfl
     ·simp only[nN]at hlt;obtain rfl:i=w:=oM;have hil:zaL 3 1 (.slice a7 i c7) (zqe i).length ((zqe i).map iv) ow7:=by rw[zhp];exact hown7
      (first|refine EVL.publishL [] ow7 ((b,T,zdX kd cl (.slice la ln lc) (.slice va vn vc) (.slice xa p.X.length xc) deep least g1 g2 g3 (.pointer none) (sm:Int) out1)::ow1) rfl hil (fun G3 hG3 hs7=>?_) (fun k hk=>hnl k hk)|refine EV.publishL [] ow7 ((b,T,zdX kd cl (.slice la ln lc) (.slice va vn vc) (.slice xa p.X.length xc) deep least g1 g2 g3 (.pointer none) (sm:Int) out1)::ow1) rfl hil (fun G3 hG3 hs7=>?_) (fun k hk=>hnl k hk));refine uR ?_;refine⟨(_,[]),⟨rfl,trivial⟩,sB,trivial,trivial,rfl,hG2.trans hG3,?_,?_⟩
      ·rw[hcs];exact hs7
      ·rw[hcs2];exact .inl ⟨rfl,rfl⟩
    ·cases e1;cases hq0
   ·rintro⟨vc7,D2⟩ G2 ⟨hG2,hcol,hD2⟩;dsimp only at hcol hD2;obtain⟨ca,cc,rfl⟩:=SlC.val hcol;have hH2:=hG1.trans hG2
    have hcl:(p.cols s).1.length≤1000:=by
     rw[hdn s,zhp];exact hw2
    have hbest:=fun (G:Hp) (hG:G2.Le G)=>znN (least:=least) (hg.check G (hH2.trans hG)) hg.len (fun G' k=>hg.cost G' ((hH2.trans hG).trans k)) hg.small (hX.mono (hH2.trans hG)) hxq (hr.mono (hH2.trans hG)) hn (hcol.mono hG) hcl;have hpb:(zaE p.X p.cost rows (max 1 least) (p.cols s).1).foldl zga none=p.best rows (p.cols s).1:=by unfold GP.best;rw[hpl]
    have hgb:∀q,p.best rows (p.cols s).1=some q→ht q.2.1≤200∧ht q.2.2≤8000000:=fun q e=>by
     rw[←hpb]at e;have hf:=zcU (zaE p.X p.cost rows (max 1 least) (p.cols s).1);rw[e]at hf;exact zgm hg.small hn hb hxq hf.1
    simp only[zdy hb,hpb]at hbest;refine uR ?_;apply EV.drawn 21 kR kR;intro xv yw;(repeat (first|refine' DD ?_|refine' vN ?_|refine' vF ?_));refine' DJ.ofVal (zaa.loadOwn tO rfl rfl rfl rfl (0) rfl (rfl) rfl rfl) rfl rfl rfl ?_;rotate_left;(repeat (first|refine' DD ?_|refine' vN ?_|refine' vF ?_));refine' DJ.ofVal (zaa.loadOwn tO rfl rfl rfl rfl (0) rfl (rfl) rfl rfl) rfl rfl rfl ?_;rotate_left;(repeat (first|refine' DD ?_|refine' vN ?_|refine' vF ?_));refine' DJ.ofVal (zaa.loadOwn tO rfl rfl rfl rfl (0) rfl (rfl) rfl rfl) rfl rfl rfl ?_;rotate_left;refine' vB (cO func135) (fun G hG hd=>hbest G hG) (fun _ _ _ h k=>(by obtain⟨cs,h1,h2⟩:=h;exact⟨cs,h1.mono k,h2⟩)) ?_;rotate_left;refine' DJ.copy (15) (by first|exact .inl rfl|exact .inr rfl) rfl rfl rfl id rfl kR ?_;rotate_left;refine' DJ.extract (15) rfl rfl rfl rfl rfl kR (fun G hd=>(by obtain⟨cs,_,e⟩:=hd.head kR;exact⟨_,e,Nat.zero_lt_succ _⟩)) ?_;rotate_left;refine' DJ.extract (15) rfl rfl rfl rfl rfl kR (fun G hd=>(by obtain⟨cs,_,e⟩:=hd.head kR;exact⟨_,e,Nat.lt_succ_self _⟩)) ?_;rotate_left;(repeat refine' DD ?_);refine' DJ.storeD tO rfl rfl rfl rfl (15) (zch 0) rfl rfl (19) rfl rfl kR kR rfl (fun G hd=>(by obtain⟨cs,h,e⟩:=hd.head kR;rw[e];obtain⟨c,b1,a1,l1,c1,a2,l2,c2,b3,a3,l3,c3,a4,l4,c4,rfl,_⟩:=h.cells;exact⟨rfl,rfl⟩)) ?_;rotate_left;(refine DJ.nil (fun G3 hG3 hF3=>?_);(case hS|hS2=>rfl));obtain⟨⟨cs,hcs,e33⟩,_⟩:=hF3;obtain⟨c,b1,a1,l1,c1',a2,l2,c2,b3,a3,l3,c3,a4,l4,c4,rfl,hval⟩:=hcs.cells;rw[e33];rw[show zch 1 (Value.tuple #[.agg ([.int .i64 c,.bool b1,.slice a1 l1 c1',.slice a2 l2 c2,.bool b3,.slice a3 l3 c3,.slice a4 l4 c4]:List Value).toArray,.bool (p.best rows (p.cols s).1).isSome])=.bool (p.best rows (p.cols s).1).isSome from rfl,show zad (zch 0 (Value.tuple #[.agg ([.int .i64 c,.bool b1,.slice a1 l1 c1',.slice a2 l2 c2,.bool b3,.slice a3 l3 c3,.slice a4 l4 c4]:List Value).toArray,.bool (p.best rows (p.cols s).1).isSome]))=[.int .i64 c,.bool b1,.slice a1 l1 c1',.slice a2 l2 c2,.bool b3,.slice a3 l3 c3,.slice a4 l4 c4] from rfl];refine uR ?_
    cases hbe:p.best rows (p.cols s).1 with
    | none =>
     have hcut:p.cut rows (p.cols s).1=none:=by unfold GP.cut;rw[hbe]
     rw[GP.grow_none hcut];rw[show (none:Option (Int × Rat × Rat)).isSome=false from rfl];apply EV.drawn 13 kR kR;intro xv yw;(repeat refine' DD ?_);(refine DJ.nil (fun G hG hF=>?_);(case hS|hS2=>rfl));refine uR ?_;exact⟨rfl,out1,D2,ow1,_,rfl,hD2,by rw[qJ];exact hown1,hns1.mono (hG2.trans (hG3.trans hG))⟩
    | some q =>
     obtain⟨c',t,g⟩:=q;obtain⟨rfl,hvt,hvg⟩:=hval c' t g hbe;obtain⟨htb,hgb'⟩:=hgb _ hbe;dsimp only at htb hgb';rw[show (some (c,t,g)).isSome=true from rfl];have hgrq:rq g:=by unfold rq;omega
     apply EV.drawn 13 kR kR;intro xv yw;(repeat (first|refine' DD ?_|refine' vN ?_|refine' vF ?_));refine' DJ.ofVal (zaa.loadOwn tO rfl rfl rfl rfl (0) rfl (rfl) rfl rfl) rfl rfl rfl ?_;rotate_left;refine' vC (cO func102) (fun G hG hd=>zb2 (RQ.mono hvg hG) (RQ.mono hgq (hH2.trans (hG3.trans hG))) hgrq hgr) ?_;rotate_left;(repeat refine' DD ?_);(refine DJ.nil (fun G4 hG4 hF4=>?_);(case hS|hS2=>rfl));refine uR ?_;by_cases hle:g≤p.gain
     ·have hcut:p.cut rows (p.cols s).1=none:=by unfold GP.cut;rw[hbe];exact if_pos hle
      rw[GP.grow_none hcut];rw[qD (Int.not_lt.1 fun k=>Rat.not_lt.2 hle ((zf8 g p.gain).1 k))];refine uR ?_;exact⟨rfl,out1,D2,ow1,_,rfl,hD2,by rw[qJ];exact hown1,hns1.mono (hG2.trans (hG3.trans hG4))⟩
     have hcut:p.cut rows (p.cols s).1=some (c,t):=by unfold GP.cut;rw[hbe];exact if_neg hle
     rw[GP.grow_some hcut];rw[qC (Int.not_le.2 ((zf8 g p.gain).2 (Rat.not_le.1 hle)))];have hH4:=hH2.trans (hG3.trans hG4);refine uR ?_;apply EV.drawn 14 kR kR;intro xv yw;(repeat (first|refine' DD ?_|refine' vN ?_|refine' vF ?_));refine' DJ.ofVal (zaa.loadOwn tO rfl rfl rfl rfl (0) rfl (rfl) rfl rfl) rfl rfl rfl ?_;rotate_left;(repeat (first|refine' DD ?_|refine' vN ?_|refine' vF ?_));refine' vB (cO func136) (fun G hG hd=>zg8 (col:=c) (t:=t) (hX.mono (hH4.trans hG)) (hr.mono (hH4.trans hG)) oM (fun x hx q hq=>zeY (hxq x hx q hq) oM) (RQ.mono hvt (hG4.trans hG)) (zeY htb oM)) (fun _ _ _ h k=>(by obtain⟨u,w,e,hu,hw⟩:=h;exact⟨u,w,e,hu.mono k,hw.mono k⟩)) ?_;rotate_left;refine' DJ.copy (9) (by first|exact .inl rfl|exact .inr rfl) rfl rfl rfl id rfl kR ?_;rotate_left;refine' DJ.extract (9) rfl rfl rfl rfl rfl kR (fun G hd=>(by obtain⟨u,w,e,_⟩:=hd.head kR;exact⟨_,e,Nat.zero_lt_succ _⟩)) ?_;rotate_left;refine' DJ.extract (9) rfl rfl rfl rfl rfl kR (fun G hd=>(by obtain⟨u,w,e,_⟩:=hd.head kR;exact⟨_,e,Nat.lt_succ_self _⟩)) ?_;rotate_left;refine' DJ.copy (9) (.inr rfl) rfl rfl rfl (zch 0) rfl kR ?_;rotate_left;(refine DJ.nil (fun G5 hG5 hF5=>?_);(case hS|hS2=>rfl));obtain⟨⟨u5,w5,e5,hu5,hw5⟩,_⟩:=hF5;rw[e5];rw[zdy hb]at hu5 hw5;obtain⟨ua,uc,rfl⟩:=SlC.val hu5;obtain⟨wa,wc,rfl⟩:=SlC.val hw5;rw[show zch 0 (Value.tuple #[.slice ua (zbg p.X c t rows).length uc,.slice wa (zaz p.X c t rows).length wc])=.slice ua (zbg p.X c t rows).length uc from rfl,show zch 1 (Value.tuple #[.slice ua (zbg p.X c t rows).length uc,.slice wa (zaz p.X c t rows).length wc])=.slice wa (zaz p.X c t rows).length wc from rfl];have hH5:=hH4.trans hG5;have hns5:=hns1.mono (hG2.trans (hG3.trans (hG4.trans hG5)));obtain⟨cA,cc1,cB,ecs,hAl,hnc,hput⟩:=hns5.mid;rw[ecs]at hown1;clear ecs;obtain⟨b9,a9,l9,c9,a10,l10,c10,b11,a11,l11,c11,a12,l12,c12,b13,a13,l13,c13,a14,l14,c14,a15,c15,rfl,k1,k2,k3,k4⟩:=hnc.cells;obtain⟨go,capo,sp,rfl,rfl,hback⟩:=hown1.mid rfl;have wk:IntKind.i64.wrap ((ns.length:Int)+1)=((ns.length+1:Nat):Int):=zac _ oM;have wd:IntKind.i64.wrap (dd+1)=dd+1:=by rw[pM];omega
     refine uR ?_;apply EV.drawn 7 kR kR;intro xv yw;(repeat (first|refine' DD ?_|refine' vN ?_|refine' vF ?_));refine' DJ.ofVal (zaa.loadOwn tO rfl rfl rfl rfl (0) rfl (rfl) rfl rfl) rfl rfl rfl ?_;rotate_left;(repeat (first|refine' DD ?_|refine' vN ?_|refine' vF ?_));(refine DJ.nil (fun G6 hG6 hF6=>?_);(case hS|hS2=>rfl));refine EVL.idxB tO rfl rfl rfl rfl rfl rfl rfl rfl rfl (ns.length) (ns.length*15) (rfl) (oM) (rfl) ?_;refine EVL.fldB tO rfl rfl rfl rfl rfl rfl rfl ?_;refine EVL.storeOwn tO rfl rfl rfl rfl rfl rfl ((b,T,_)::D2) ([]) rfl rfl rfl rfl ((zcG (f:=0) hAl rfl (by show 0+1≤15;omega))) (zdG (f:=0) hAl rfl rfl (by show 0+1≤15;omega) rfl) ?_;refine uR ?_;apply EV.drawn 7 kR kR;intro xv yw;(repeat (first|refine' DD ?_|refine' vN ?_|refine' vF ?_));refine' DJ.ofVal (zaa.loadOwn tO rfl rfl rfl rfl (0) rfl (rfl) rfl rfl) rfl rfl rfl ?_;rotate_left;(repeat (first|refine' DD ?_|refine' vN ?_|refine' vF ?_));(refine DJ.nil (fun G7 hG7 hF7=>?_);(case hS|hS2=>rfl));refine EVL.idxB tO rfl rfl rfl rfl rfl rfl rfl rfl rfl (ns.length) (ns.length*15) (rfl) (oM) (rfl) ?_;refine EVL.fldB tO rfl rfl rfl rfl rfl rfl rfl ?_;refine EVL.storeOwn tO rfl rfl rfl rfl rfl rfl ((b,T,_)::D2) ([]) rfl rfl rfl rfl ((zcG (f:=5) hAl rfl (by show 5+3≤15;omega))) (zdG (f:=5) hAl rfl rfl (by show 5+3≤15;omega) rfl) ?_;refine uR ?_;refine RP ?_;refine EVL.loadOwn tO rfl rfl rfl rfl rfl rfl (0) rfl (rfl) rfl rfl ?_;refine uR ?_;rw[wk];refine EVL.idxB tO rfl rfl rfl rfl rfl rfl rfl rfl rfl (ns.length) (ns.length*15) (rfl) (oM) (rfl) ?_;refine EVL.fldB tO rfl rfl rfl rfl rfl rfl rfl ?_;refine EVL.storeOwn tO rfl rfl rfl rfl rfl rfl ((b,T,_)::D2) ([]) rfl rfl rfl rfl ((zcG (f:=1) hAl rfl (by show 1+1≤15;omega))) (zdG (f:=1) hAl rfl rfl (by show 1+1≤15;omega) rfl) ?_;refine uR ?_;rw[wd];have hH7:=hH5.trans (hG6.trans hG7);have hlo3:(zbg p.X c t rows).length≤300:=qI (List.length_filter_le _ _) hn;have hhi3:(zaz p.X c t rows).length≤300:=qI (List.length_filter_le _ _) hn;have hlom:∀r,r∈zbg p.X c t rows→0≤r∧r<(p.X.length:Int):=fun r hr=>hb r (List.mem_filter.mp hr).1;have hhim:∀r,r∈zaz p.X c t rows→0≤r∧r<(p.X.length:Int):=fun r hr=>hb r (List.mem_filter.mp hr).1;have hvt7:=RQ.mono hvt (hG4.trans (hG5.trans (hG6.trans hG7)));obtain⟨n1,hn1⟩:∃n1:Nd,({ p.nd rows with col:=c,left:=((ns.length+1:Nat):Int),at':=t }:Nd)=n1:=⟨_,rfl⟩
     have hr1:zdW G7 [.int .i64 c,.int .i64 ((ns.length+1:Nat):Int),.int .i64 0,.int .i64 (p.nd rows).rows,.int .i64 (p.nd rows).cls,.bool b1,.slice a1 l1 c1',.slice a2 l2 c2,.bool b11,.slice a11 l11 c11,.slice a12 l12 c12,.bool b13,.slice a13 l13 c13,.slice a14 l14 c14,.slice a15 (p.nd rows).counts.length c15] n1:=by
      subst hn1;exact⟨_,_,_,_,hvt7,k2.mono (hG6.trans hG7),k3.mono (hG6.trans hG7),k4.mono (hG6.trans hG7),rfl⟩
     have hl1:(ns++[n1]).length=ns.length+1:=by simp
     have hp2:2 ^ (e+1+1)=2 ^ (e+1)+2 ^ (e+1):=by rw[qX];omega
     have hp3:2≤2 ^ (e+1):=by rw[qX];have:=Nat.one_le_two_pow (n:=e);omega
     have hL:=ih' (H:=G7) (b:=b) (T:=T) (dd:=dd+1) (s:=(p.cols s).2) (ns:=ns++[n1]) (hg.mono hH7) (hX.mono hH7) (hgq.mono hH7) oM oM hd1 (hu5.mono (hG6.trans hG7)) hlo3 hlom hD2 (by rw[hl1];exact hback _ rfl) (hput G7 _ n1 (hG6.trans hG7) hr1) (by rw[hl1];omega);rw[hl1]at hL;have hLl:=(p.grow_len e (ns.length+1) (zbg p.X c t rows) (p.cols s).2).2;generalize hLe:p.grow e (ns.length+1) (zbg p.X c t rows) (p.cols s).2=Lp at *
     obtain⟨Ls,s2⟩:=Lp;dsimp only at hL hLl;refine EVL.callW rfl rfl rfl rfl rfl _ [] (qG _).symm hL ?_;rintro _ _ G8 ⟨rfl,out2,D3,ow3,css3,rfl,hD3,hown3,hns3⟩ hG8;rw[qG ((b,T,_)::(D3++ow3))];rw[show ns++[n1]++Ls=ns++n1::Ls by simp]at hown3 hns3;obtain⟨cA3,c31,cB3,ecs3,hAl3,hnc3,hput3⟩:=hns3.mid;rw[ecs3]at hown3;clear ecs3;obtain⟨d9,e9,f9,h9,e10,f10,h10,d11,e11,f11,h11,e12,f12,h12,d13,e13,f13,h13,e14,f14,h14,e15,h15,rfl,j1,j2,j3,j4⟩:=hnc3.cells;obtain⟨go3,capo3,sp3,rfl,rfl,hback3⟩:=hown3.mid rfl;have hl2:(ns++n1::Ls).length=ns.length+1+Ls.length:=by simp;omega
     rw[hl2]at hback3;rw[hl2];refine uR ?_;apply EV.drawn 10 kR kR;intro xv yw;(repeat (first|refine' DD ?_|refine' vN ?_|refine' vF ?_));refine' DJ.ofVal (zaa.loadOwn tO rfl rfl rfl rfl (0) rfl (rfl) rfl rfl) rfl rfl rfl ?_;rotate_left;(repeat (first|refine' DD ?_|refine' vN ?_|refine' vF ?_));refine' DJ.ofVal (zaa.loadOwn tO rfl rfl rfl rfl (0) rfl (rfl) rfl rfl) rfl rfl rfl ?_;rotate_left;(repeat (first|refine' DD ?_|refine' vN ?_|refine' vF ?_));(refine DJ.nil (fun G9 hG9 hF9=>?_);(case hS|hS2=>rfl));refine EVL.idxB tO rfl rfl rfl rfl rfl rfl rfl rfl rfl (ns.length) (ns.length*15) (rfl) (oM) (rfl) ?_;refine EVL.fldB tO rfl rfl rfl rfl rfl rfl rfl ?_;refine EVL.storeOwn tO rfl rfl rfl rfl rfl rfl ((b,T,_)::D3) ([]) rfl rfl rfl rfl ((zcG (f:=2) hAl3 rfl (by show 2+1≤15;omega))) (zdG (f:=2) hAl3 rfl rfl (by show 2+1≤15;omega) rfl) ?_;refine uR ?_;rw[wd];obtain⟨n2,hn2⟩:∃n2:Nd,({ n1 with right:=((ns.length+1+Ls.length:Nat):Int) }:Nd)=n2:=⟨_,rfl⟩
     have hr2:zdW G9 [.int .i64 n1.col,.int .i64 n1.left,.int .i64 ((ns.length+1+Ls.length:Nat):Int),.int .i64 n1.rows,.int .i64 n1.cls,.bool d9,.slice e9 f9 h9,.slice e10 f10 h10,.bool d11,.slice e11 f11 h11,.slice e12 f12 h12,.bool d13,.slice e13 f13 h13,.slice e14 f14 h14,.slice e15 n1.counts.length h15] n2:=by
      subst hn2;exact⟨_,_,_,_,j1.mono hG9,j2.mono hG9,j3.mono hG9,j4.mono hG9,rfl⟩
     have hH9:=hH7.trans (hG8.trans hG9);have hl3:(ns++n2::Ls).length=ns.length+1+Ls.length:=by simp;omega
     have hR:=ih' (H:=G9) (b:=b) (T:=T) (dd:=dd+1) (s:=s2) (ns:=ns++n2::Ls) (hg.mono hH9) (hX.mono hH9) (hgq.mono hH9) oM oM hd1 (hw5.mono (hG6.trans (hG7.trans (hG8.trans hG9)))) hhi3 hhim hD3 (by rw[hl3];exact hback3 _ rfl) (hput3 G9 _ n2 hG9 hr2) (by rw[hl3];omega);rw[hl3]at hR;generalize hRe:p.grow e (ns.length+1+Ls.length) (zaz p.X c t rows) s2=Rp at *
     obtain⟨Rs,s3⟩:=Rp;dsimp only at hR;refine EVL.callW rfl rfl rfl rfl rfl _ [] (qG _).symm hR ?_;rintro _ _ G10 ⟨rfl,out4,D4,ow4,css4,rfl,hD4,hown4,hns4⟩ hG10;rw[qG ((b,T,_)::(D4++ow4))];refine uR ?_
     have hfin:ns++n2::Ls++Rs=ns++({ p.nd rows with col:=c,left:=((ns.length+1:Nat):Int),right:=((ns.length+1+Ls.length:Nat):Int),at':=t }::(Ls++Rs)):=by
      subst hn2;subst hn1;simp
     rw[hfin]at hown4 hns4;refine⟨rfl,out4,D4,ow4,css4,rfl,?_,?_,?_⟩
     ·exact hD4
     ·exact hown4
     ·exact hns4
set_option maxRecDepth 100000 in
theorem zko {p:GP} {H:Hp} {kd cl least:Int} {D w:Nat} {s:Int} {la va xa:Option Addr} {ln lc vn vc xc:Nat} {vr:Value} {rows:List Int} {b1:Bool} {a1 a2:Option Addr} {l1 c1 l2 c2:Nat}
  (hdn:∀s,p.cols s=(zqe w,s)) (hw1:1≤w) (hw2:w≤20) (hx0:0<p.X.length) (hxn:p.X.length≤300) (hxw:∀x,x∈p.X→x.length=w) (hxq:∀x,x∈p.X→∀q,q∈x→ht q≤60) (hpl:p.least=least) (hl:1≤least∧least≤300) (hgr:rq p.gain) (hg0:0≤p.gain) (hD:D≤10)
  (hg:zkW H (zas kd cl (.slice la ln lc) (.slice va vn vc)) kd p.X.length p.cost p.mean p.cnt) (hX:RLL H (.slice xa p.X.length xc) p.X) (hgq:RQ H (.agg #[.bool b1,.slice a1 l1 c1,.slice a2 l2 c2]) p.gain)
  (hr:IL H vr rows) (hr0:0<rows.length) (hn:rows.length≤300) (hb:∀r,r∈rows→0≤r∧r<(p.X.length:Int)) :
  PC prog 28 #[zas kd cl (.slice la ln lc) (.slice va vn vc),.slice xa p.X.length xc,vr,zi4 (D:Int) least (.bool b1) (.slice a1 l1 c1) (.slice a2 l2 c2)] H
   fun v H'=>∃cs,v=.tuple #[.agg cs.toArray,.int .i64 0]∧ze6 H' cs kd cl (w:Int) (p.grow D 0 rows s).1:=by
 obtain⟨ra,rc,rfl⟩:=SlC.val hr;have hpow:2 ^ (D+1)≤2 ^ 11:=qf oM oM;have herr:=znW (hg.check H (Hp.Le.refl _)) hg.len hX hxw hw1 hw2 oM hxn hr hr0 hn (zru (deep:=(D:Int)) hgq hg0 oM hl);rw[zl8 hb]at herr;obtain⟨vs,hvs,hvx⟩:=id hX;obtain⟨x0,hxx0⟩:=gE hx0;obtain⟨u0,e0,hu0,_⟩:=hvs.at hxx0;rw[hxw x0 (qF hxx0)]at hu0;refine BD func28 ntmps28 ?_
 repeat (first|refine RUN ?_|refine CV (herr) ?_|refine CE (herr) ?_)
 (first|refine EVL.unbox (25) rfl fun gb=>?_|refine EV.unbox (25) rfl fun gb=>?_);refine EVL.callW rfl rfl rfl rfl rfl ((gb,159,_)::([]++[])) ([]) rfl (zpJ (dq:=none) (deep:=(D:Int)) (sm:=0) (w:=w) rfl hdn (qQ _) hw1 oM hx0 hxw hxq hpl hgr D (s:=s) (ns:=[]) (css:=[]) hg hX hgq oM (Int.le_refl _) oM hr hn hb (.inl ⟨rfl,rfl⟩) (zaL.nil _ _) ⟨rfl,fun j c n e1 e2=>by cases e1⟩ (by rw[qi];omega)) ?_;rintro _ _ G1 ⟨rfl,out,D',ow2,css,rfl,hD',hown,hns⟩ hG1;rw[pO]at hown hns;rw[qi]at hown hns hD';rcases hD' with ⟨_,rfl⟩|⟨bd',T',e1,_⟩
 case inr=>cases e1
 obtain⟨oa,oc,rfl⟩:=hown.val;refine EVL.publishL [(gb,_,_)] ow2 [] rfl hown (fun G2 hG2 hc=>?_);have hG12:=hG1.trans hG2;refine uR ?_;apply EV.drawn 12 kR kR;intro xv yw;(repeat refine' DD ?_);refine' vJ (hvx.mono hG12) (0) (rfl) (hx0) (hu0) ?_;rotate_left;(repeat (first|refine' DD ?_|refine' vN ?_|refine' vF ?_));refine' DJ.ofVal (zaa.loadOwn tO rfl rfl rfl rfl (0) rfl (rfl) rfl rfl) rfl rfl rfl ?_;rotate_left;(refine DJ.nil (fun G hG hF=>?_);(case hS|hS2=>rfl));(first|refine EVL.subOw [] [(gb,_,_)] [] rfl ?_|refine EV.subOw [] [(gb,_,_)] [] rfl ?_);refine uR ?_;exact⟨_,rfl,oa,oc,css,rfl,hns.mono (hG2.trans hG),SlC.mono hc hG⟩
theorem Sub.far {T:List Nd} {w:Int} {k h e:Nat} (h0:Sub T w k h e):∀(d:Nat) (f:Int),∃g,Far T k d f g:=by
 induction h0 with
 | leaf a b _ _ _=>exact fun d f=>⟨_,.leaf a b⟩
 | node a b c d e _ _ ih1 ih2 =>
  intro dp f;obtain⟨g,h1⟩:=ih1 (dp+1) f;obtain⟨g2,h2⟩:=ih2 (dp+1) g;exact⟨g2,.node a oM (by rw[d,qU];exact h1) (by rw[e,qU];exact h2)⟩
theorem Sub.pathLen {T:List Nd} {w:Int} {x:List Rat} {k h e:Nat} (h0:Sub T w k h e):∀l,zfR T x k l→l.length≤e-k:=by
 induction h0 with
 | leaf a b _ _ _ =>
  intro l hp
  cases hp with
  | here _ _=>rw[qx];omega
  | low q n _ _=>rw[a]at q;cases q;exact absurd b n
  | high q n _ _=>rw[a]at q;cases q;exact absurd b n
 | node a b c d e s1 s2 ih1 ih2 =>
  intro l hp;have h1:=s1.lt;have h2:=s2.lt
  cases hp with
  | here q n=>rw[a]at q;cases q;omega
  | low q n _ hp=>rw[a]at q;cases q;rw[d,qU]at hp;have:=ih1 _ hp;rw[qR];omega
  | high q n _ hp=>rw[a]at q;cases q;rw[e,qU]at hp;have:=ih2 _ hp;rw[qR];omega
theorem zrv {H:Hp} {d:GD} {N W D:Nat} {least:Int} {g:Rat} {X:List (List Rat)} {rows:List Int} {u v w:Value} {b1:Bool} {a1 a2:Option Addr} {l1 c1 l2 c2:Nat} (hd:d.Ok N) (hN:1≤N∧N≤20) (hW:1≤W∧W≤20) (hD:D≤10) (hl:1≤least∧least≤300) (hg:0≤g∧ht g≤10) (hR:d.R H u) (hX:RLL H v X) (hq:RQ H (.agg #[.bool b1,.slice a1 l1 c1,.slice a2 l2 c2]) g) (hXN:X.length=N) (hXw:∀x,x∈X→x.length=W∧∀q,q∈x→ht q≤60) (hr:IL H w rows) (hr0:0<rows.length) (hrn:rows.length≤20) (hb:∀r,r∈rows→0≤r∧r<(N:Int)) :
  PC prog 28 #[u,v,w,zi4 (D:Int) least (.bool b1) (.slice a1 l1 c1) (.slice a2 l2 c2)] H (fun r G=>TPr G r ⟨d.kd,d.cl,(W:Int),((trP d X least g fun s=>(zd1 W,s)).grow D 0 rows 0).1⟩ 0)∧zaX ⟨d.kd,d.cl,(W:Int),((trP d X least g fun s=>(zd1 W,s)).grow D 0 rows 0).1⟩∧zqx (trP d X least g fun s=>(zd1 W,s)) d.kd d.cl W:=by
 subst hXN;obtain⟨⟨ga,gn,gc,va,vn,vc,rfl⟩,hrg⟩:=hd.rgoal hN.1 oM hR;obtain⟨xa,xc,rfl⟩:=hX.val;have hgp:=zuo (least:=least) (cols:=fun s=>(zd1 W,s)) hd rfl hN.2 hXw hg.1 fun s c=>zqD c;refine⟨?_,zns hgp hW hD hr0 oM hb 0,hgp⟩;exact zko (p:=trP d X least g (fun s=>(zd1 W,s))) (s:=0) (fun s=>rfl) hW.1 hW.2 (by show 0<X.length;omega) (by show X.length≤300;omega) (fun x hx=>(hXw x hx).1) (fun x hx=>(hXw x hx).2) rfl hl (by have:=hg.2;show rq g;unfold rq;omega) hg.1 hD hrg hX hq hr hr0 oM hb
set_option maxRecDepth 100000 in
theorem treeAnswers_pc {H:Hp} {vx vr0:Value} {row:List Int} (wide:Int) (hT:PowT H) (hx:zsp H vx) (hrw:IL H vr0 row) (hrwb:∀z,z∈row → -9223372036854775808≤z∧z<9223372036854775808) (hwd:-9223372036854775808≤wide∧wide<9223372036854775808):PC prog 6 #[vx,vr0,.int .i64 wide] H fun r _=>r=.bool true:=by
 have ho1:=zpk hx;obtain⟨_,_,_,_,_,_,_,_,_,_,_,_,rfl,_⟩:=hx;obtain⟨wa0,wc0,rfl⟩:=SlC.val hrw;refine BD func6 ntmps6 ?_;refine uR ?_;refine vA (ho1) ?_;rintro r1 G1 ⟨kd,cl,least,gn,ga,va,p1,q1,gl,gc,vn,vc,N,W,D,l1,c1,l2,c2,vX,vR,b1,lg,ll,lr,rfl,hg1,hX1,hr1,hq1,hN,hW,hD,hl⟩ hG1;obtain⟨d,hd,hR,hcl4⟩:=hg1.gd (zeX _ _) (zlz N);have hlen:=zhe ll N W;have hrows60:=fun x hx=>znZ (l:=ll) (n:=N) (w:=W) x hx;generalize zfV ll N W=X at *
 have hrl:=znY (l:=lr) hN.1 hN.2;have hrin:=zpP (l:=lr) hN.1;generalize zcv lr N=rows at *
 obtain⟨hg0,hg5⟩:=ztj gn;generalize zrF gn=g at *
 have g1:=zrv (D:=D) (least:=least) hd ⟨hN.1,by omega⟩ ⟨hW.1,by omega⟩ oM ⟨hl.1,by omega⟩ ⟨hg0,by omega⟩ hR hX1 hq1 hlen hrows60 hr1 oM oM hrin;obtain⟨hgr,ok1,gp1⟩:=g1;subst hlen;have hl1:=zeL gp1 D 0 rows 0 oM hrin;generalize ((trP d X least g fun s=>(zd1 W,s)).grow D 0 rows 0).1=ns at *
 have h1l:ns.length≤40:=oM;obtain⟨ra,rc,rfl⟩:=SlC.val hr1;obtain⟨xa,xc,rfl⟩:=hX1.val;refine uR ?_;refine vA (hgr) ?_;rintro _ G2 ⟨_,rfl,ta,tca,cssa,rfl,hna,hsa⟩ hG2;have hTa:ze6 G2 [.int .i64 d.kd,.int .i64 d.cl,.int .i64 (W:Int),.slice ta ns.length tca] d.kd d.cl (W:Int) ns:=⟨ta,tca,cssa,rfl,hna,hsa⟩;refine uR ?_;refine EVL.call rfl rfl rfl rfl rfl (zjU hTa ok1.smallN oM) ?_;rintro _ G3 ⟨_,rfl,tb,tcb,cssb,rfl,hnb,hsb⟩ hG3;have hTb:zcx G3 [.int .i64 d.kd,.int .i64 d.cl,.int .i64 (W:Int),.slice tb ns.length tcb] d.kd d.cl (W:Int) ns:=⟨tb,tcb,cssb,rfl,hnb,hsb⟩;have hK3:=hG1.trans (hG2.trans hG3)
 obtain⟨k,hk,hk1⟩:∃k:Nat,(wide % 13).tdiv 12=(k:Int)∧k≤1:=by
  have h1:=Int.emod_nonneg wide (show (13:Int)≠0 by decide);have h2:=Int.emod_lt_of_pos wide (show (0:Int)<13 by decide);rw[Int.tdiv_eq_ediv_of_nonneg h1];exact⟨(wide % 13 / 12).toNat,by omega,by omega⟩
 have wk:IntKind.i64.wrap ((wide % 13).tdiv 12)=(k:Int):=by rw[hk,pM];omega
 have wk2:IntKind.i64.wrap ((W:Int)+(k:Int))=((W+k:Nat):Int):=by rw[pM];omega
 have hpk:=zdd wide 13 hwd (by decide) (by decide);have hrow:=fun (G:Hp) (hG:G3.Le G)=>zpO (hrw.mono (hK3.trans hG)) hrwb (W+k) oM;have hzl:=zeX row (W+k);have hz5:=zlz (l:=row) (W+k);generalize zkq row (W+k)=z at *
 refine uR ?_;apply EV.drawn 8 kR kR;intro xv yw;(repeat (first|refine' DD ?_|(refine' DC (hpk) (h:=?_);rotate_left)));rw[wk];(repeat refine' DD ?_);rw[wk2];refine' vB (cO func39) (fun G hG hd=>hrow G hG) (fun _ _ _ h k=>RL.mono h k) ?_;rotate_left;(refine DJ.nil (fun G4 hG4 hF4=>?_);(case hS|hS2=>rfl));have hz7:=hF4.1;obtain⟨za,zc,ez⟩:=hz7.val;rw[ez]at hz7 ⊢;have hsm1:=ok1.smN;obtain⟨hh,hh10,hsub⟩:=ok1.sub;dsimp only at hsm1 hsub
 obtain⟨e,j,lw,q,c,cLeaf,cWay,cAns,hqs,hcase⟩:∃(e j:Int) (lw:List Int) (q:Rat) (c:Int),
   (∀G v,G3.Le G→QL G v z→PC prog 40 #[.agg ([.int .i64 d.kd,.int .i64 d.cl,.int .i64 (W:Int),.slice tb ns.length tcb]:List Value).toArray,v] G fun r _=>r=.tuple #[.int .i64 j,.int .i64 e]) ∧
   (∀G v,G3.Le G→QL G v z→PC prog 17 #[.agg ([.int .i64 d.kd,.int .i64 d.cl,.int .i64 (W:Int),.slice tb ns.length tcb]:List Value).toArray,v] G fun r G'=>∃u,r=.tuple #[u,.int .i64 e]∧IL G' u lw) ∧
   (∀G v,G3.Le G→QL G v z→PC prog 42 #[.agg ([.int .i64 d.kd,.int .i64 d.cl,.int .i64 (W:Int),.slice tb ns.length tcb]:List Value).toArray,v] G fun r _=>r=.tuple #[zaf q,.int .i64 c,.int .i64 e])∧sm q ∧
   ((k=1∧e=5∧j=0∧lw=[]∧q=0∧c=0)∨(k=0∧e=0∧∃(i:Nat) (n:Nd),j=(i:Int)∧zjn ns z 0 i∧ns[i]?=some n∧q=n.value∧c=n.cls∧zfR ns z 0 lw∧lw.length≤2000)):=by
  rcases (show k=1∨k=0 by omega) with rfl | rfl
  ·refine⟨5,0,[],0,0,fun G v hG hv=>?_,fun G v hG hv=>?_,fun G v hG hv=>?_,by show ht 0≤_;rw[zb9];omega,.inl ⟨rfl,rfl,rfl,rfl,rfl,rfl⟩⟩
   ·obtain⟨a,c,rfl⟩:=hv.val;exact zmM (hTb.mono hG) ok1 oM
   ·obtain⟨a,c,rfl⟩:=hv.val;exact(zqa (hTb.mono hG) ok1 oM).mono fun r G' h _=>⟨_,h,IL.nil _ _ _⟩
   ·obtain⟨a,c,rfl⟩:=hv.val;exact zn6 (hTb.mono hG) ok1 oM
  ·obtain⟨i,hlf,hi,hni,_⟩:=zo4 ok1 z;obtain⟨lw,hlw⟩:=hsub.path z;dsimp only at hlf hni;have hzq:∀q,q∈z→sm q:=fun q hq=>zaQ (hz5 q hq) oM;have hcut:=fun (G:Hp) (v:Value) (hG:G3.Le G) (hv:QL G v z)=>zsl (hTb.mono hG) ok1 hv oM hzq;refine⟨0,(i:Int),lw,(znv z ⟨d.kd,d.cl,(W:Int),ns⟩).value,(znv z ⟨d.kd,d.cl,(W:Int),ns⟩).cls,fun G v hG hv=>?_,fun G v hG hv=>?_,fun G v hG hv=>?_,(hsm1 _ (qF hni)).2.2.1,.inr ⟨rfl,rfl,i,_,rfl,hlf,hni,rfl,rfl,hlw,by have:=hsub.pathLen lw hlw;omega⟩⟩
   ·refine(zmN (hTb.mono hG) ok1 hv oM hzq).mono ?_;rintro r G' ⟨j,rfl,h⟩ _;rw[h.det hlf]
   ·refine(hcut G v hG hv).mono ?_;rintro r G' ⟨l,u,rfl,h1,h2,h3⟩ _;rw[h2.det hlw]at h1;exact⟨u,rfl,h1⟩
   ·refine(zn7 (hTb.mono hG) ok1 hv oM hzq).mono ?_;rintro r G' ⟨j,n,rfl,h,h2⟩ _;obtain rfl:=h.det hlf;rw[hni]at h2;cases h2;rfl
 have hin:=fun (G:Hp) (hG:G4.Le G)=>zme (hz7.mono hG) oM (fun q hq=>zeY (hz5 q hq) oM);refine uR ?_;apply EV.drawn 9 kR kR;intro xv yw;(repeat refine' DD ?_);refine' vB (cO func41) (fun G hG hd=>hin G hG) (fun _ _ _ h k=>SlC.mono h k) ?_;rotate_left;refine' vC (cO func40) (fun G hG hd=>cLeaf G _ (hG4.trans hG) (hd.head kR)) ?_;rotate_left;(repeat refine' DD ?_);(refine DJ.nil (fun G5 hG5 hF5=>?_);(case hS|hS2=>rfl));have hin5:=fun (G:Hp) (hG:G5.Le G)=>hin G (hG5.trans hG);have hK45:=hG4.trans hG5;refine uR ?_;apply EV.drawn 9 kR kR;intro xv yw;(repeat refine' DD ?_);refine' vB (cO func41) (fun G hG hd=>hin5 G hG) (fun _ _ _ h k=>SlC.mono h k) ?_;rotate_left;refine' vB (cO func17) (fun G hG hd=>cWay G _ (hK45.trans hG) (hd.head kR)) (fun _ _ _ h k=>(by obtain⟨u,e,h1⟩:=h;exact⟨u,e,SlC.mono h1 k⟩)) ?_;rotate_left;refine' DJ.copy (3) (by first|exact .inl rfl|exact .inr rfl) rfl rfl rfl id rfl kR ?_;rotate_left;refine' DJ.extract (3) rfl rfl rfl rfl rfl kR (fun G hd=>(by obtain⟨u,e,_⟩:=hd.head kR;exact⟨_,e,Nat.zero_lt_succ _⟩)) ?_;rotate_left;refine' DJ.extract (3) rfl rfl rfl rfl rfl kR (fun G hd=>(by obtain⟨u,e,_⟩:=hd.head kR;exact⟨_,e,Nat.lt_succ_self _⟩)) ?_;rotate_left;refine' DJ.copy (3) (.inr rfl) rfl rfl rfl (zch 0) rfl kR ?_;rotate_left;refine' DJ.copy (3) (.inr rfl) rfl rfl rfl (zch 1) rfl kR ?_;rotate_left;(refine DJ.nil (fun G6 hG6 hF6=>?_);(case hS|hS2=>rfl));obtain⟨⟨v8,e8,hw8⟩,_⟩:=hF6;obtain⟨wa8,wc8,rfl⟩:=SlC.val hw8;rw[e8];rw[show zch 1 (Value.tuple #[.slice wa8 lw.length wc8,.int .i64 e])=.int .i64 e from rfl,show zch 0 (Value.tuple #[.slice wa8 lw.length wc8,.int .i64 e])=.slice wa8 lw.length wc8 from rfl];have hin6:=fun (G:Hp) (hG:G6.Le G)=>hin5 G (hG6.trans hG);have hK46:=hK45.trans hG6;refine uR ?_;apply EV.drawn 11 kR kR;intro xv yw;(repeat refine' DD ?_);refine' vB (cO func41) (fun G hG hd=>hin6 G hG) (fun _ _ _ h k=>SlC.mono h k) ?_;rotate_left;refine' vC (cO func42) (fun G hG hd=>cAns G _ (hK46.trans hG) (hd.head kR)) ?_;rotate_left;(repeat refine' DD ?_);(refine DJ.nil (fun G7 hG7 hF7=>?_);(case hS|hS2=>rfl));have hK47:=hK46.trans hG7;have hT7:=hT.mono (hK3.trans hK47);have hTa7:=hTa.mono (hG3.trans hK47);have hTb7:=hTb.mono hK47;have hN40:=ok1.txtN h1l;obtain⟨fz,hfz⟩:=hsub.far 0 0;obtain⟨lt,hlt,_⟩:=zkp (kd:=d.kd) (cl:=d.cl) (a:=none) (cp:=0) hN40 hsub 0 oM;have hll:=zcV ns ns.length;have hb1:=zq7 ok1 h1l;dsimp only at hb1;have cPL:=fun (G:Hp) (hG:G7.Le G)=>zjY (hTb7.mono hG) ok1;have cRL:=fun (G:Hp) (hG:G7.Le G)=>zii (hTa7.mono hG) ok1;have cPD:=fun (G:Hp) (hG:G7.Le G)=>(zn8 (hTb7.mono hG) ok1).mono (fun r _ h _=>(by obtain⟨y,e,h⟩:=h;rw[e,h.det hfz]:r=.int .i64 fz));have cRD:=fun (G:Hp) (hG:G7.Le G)=>(zpB (hTa7.mono hG) ok1).mono (fun r _ h _=>(by obtain⟨y,e,h⟩:=h;rw[e,h.det hfz]:r=.int .i64 fz));have cPC:=fun (G:Hp) (hG:G7.Le G)=>zrN (hTb7.mono hG) ok1 h1l;have cRC:=fun (G:Hp) (hG:G7.Le G)=>zrs (hTa7.mono hG) ok1 h1l;have cPT:=fun (G:Hp) (hG:G7.Le G)=>(zmQ (hTb7.mono hG) ok1 (hN40.txtF (hT7.mono hG))).mono (fun r _ h _=>(by obtain⟨y,e,h⟩:=h;rw[e,h.det hlt]:r=.string (sb lt)));have cRT:=fun (G:Hp) (hG:G7.Le G)=>(zrD (hTa7.mono hG) ok1 hN40).mono (fun r _ h _=>(by obtain⟨y,e,h⟩:=h;rw[e,h.det hlt]:r=.string (sb lt)));have cIn:=fun (G:Hp) (hG:G7.Le G)=>zjU (hTa7.mono hG) ok1.smallN oM;refine uR ?_;apply EV.drawn 38 kR kR;intro xv yw;(repeat (first|refine' DD ?_|(refine' DC (znt) (h:=?_);rotate_left)));refine' vB (cO func44) (fun G hG hd=>cPL G hG) (fun _ _ _ h k=>SlC.mono h k) ?_;rotate_left;(repeat refine' DD ?_);refine' vB (cO func47) (fun G hG hd=>cRL G hG) (fun _ _ _ h k=>SlC.mono h k) ?_;rotate_left;refine' vC (cO func22) (fun G hG hd=>zhg (hd.tail.head kR) (hd.head kR) oM) ?_;rotate_left;(repeat refine' DD ?_);refine' vC (cO func16) (fun G hG hd=>cPD G hG) ?_;rotate_left;(repeat refine' DD ?_);refine' vC (cO func48) (fun G hG hd=>cRD G hG) ?_;rotate_left;(repeat refine' DD ?_);rw[pQ fz];(repeat refine' DD ?_);refine' vC (cO func25) (fun G hG hd=>cPC G hG) ?_;rotate_left;(repeat refine' DD ?_);refine' vB (cO func50) (fun G hG hd=>cRC G hG) (fun _ _ _ h k=>RQ.mono h k) ?_;rotate_left;refine' vC (cO func49) (fun G hG hd=>zkr (hd.head kR) (zeY hb1 oM)) ?_;rotate_left;(repeat refine' DD ?_);refine' vC (cO func43) (fun G hG hd=>cPT G hG) ?_;rotate_left;(repeat refine' DD ?_);refine' vC (cO func51) (fun G hG hd=>cRT G hG) ?_;rotate_left;(repeat refine' DD ?_);rw[beq_self_eq_true (sb lt).toList];(repeat refine' DD ?_);refine' vB (cO func37) (fun G hG hd=>cIn G hG) (fun _ _ _ h k=>(by obtain⟨cs,e,h1⟩:=h;exact⟨cs,e,h1.mono k⟩)) ?_;rotate_left;refine' DJ.callS rfl rfl rfl rfl rfl (cO func52) (fun G hG hd=>(by obtain⟨cs,e,h1⟩:=hd.head kR;rw[e];exact zrJ (hTb7.mono hG) h1 oM hsm1)) ?_;rotate_left;(repeat refine' DD ?_);(refine DJ.nil (fun G8 hG8 hF8=>?_);(case hS|hS2=>rfl));have hK8:G3.Le G8:=hK47.trans hG8;refine uR ?_;rcases hcase with ⟨rfl,rfl,rfl,rfl,rfl,rfl⟩|⟨rfl,rfl,i,n,rfl,hlf,hni,rfl,rfl,hpa,hlwl⟩
 ·rw[show ((z.length:Int) != (W:Int))=true from bne_iff_ne.2 (by omega)];have hsg:PV prog 45 #[zaf 0] (.int .i64 0):=zcP 0 (by show bl 0≤_;rw[zbi];omega);refine uR ?_;rw[show ((5:Int) == 5)=true from rfl]
  repeat (first|refine RUN ?_|refine CV (hsg) ?_|refine CE (hsg) ?_)
  rfl
 ·rw[show ((z.length:Int) != (W:Int))=false from bne_eq_false_iff_eq.2 (by omega)];have hz8:=hz7.mono (hG5.trans (hG6.trans (hG7.trans hG8)));have hTa8:=hTa7.mono hG8;have hna8:=hna.mono (hG3.trans hK8);have hsa8:=hsa.mono (hG3.trans hK8);have hil:=(qE.1 hni).1;have hzr:∀q,q∈z→rq q:=fun q hq=>zeY (hz5 q hq) oM;have cRl:=fun (G:Hp) (hG:G8.Le G)=>(zpL (hTa8.mono hG) ok1 (hz8.mono hG) oM hzr (fun l hl=>by have:=hsub.pathLen l hl;omega)).mono (fun r _ h _=>(by obtain⟨y,e,h⟩:=h;rw[e,h.det hlf]:r=.int .i64 (i:Int)));have cRw:=fun (G:Hp) (hG:G8.Le G)=>(zmy (hTa8.mono hG) ok1 (hz8.mono hG) oM hzr).mono (fun r G' h _=>(by obtain⟨l,h1,h2⟩:=h;rwa [h2.det hpa]at h1:IL G' r lw));obtain⟨c8,hcut8,hnd8⟩:=hna8.get hni;obtain⟨b1,a1,l1,d1,a2,l2,d2,b3,a3,l3,d3,a4,l4,d4,b5,a5,l5,d5,a6,l6,d6,a7,d7,rfl,k1,k2,k3,k4⟩:=hnd8.cells;refine uR ?_;apply EV.drawn 8 kR kR;intro xv yw;(repeat refine' DD ?_);refine' vC (cO func46) (fun G hG hd=>cRl G hG) ?_;rotate_left;refine' DJ.idxM tO rfl rfl rfl rfl rfl rfl rfl rfl rfl (hsa8) (i) (rfl) (hil) (hcut8) ?_;rotate_left;(repeat refine' DD ?_);(refine DJ.nil (fun G9 hG9 hF9=>?_);(case hS|hS2=>rfl));have hA9:=hTa8.mono hG9;refine uR ?_;rw[show ((0:Int) == 0)=true from rfl];refine uR ?_;refine vA (cRl _ hG9) ?_;rintro _ G10 rfl hG10;refine uR ?_;rw[beq_self_eq_true (i:Int)];refine uR ?_;refine vA (cRw _ (hG9.trans hG10)) ?_;rintro _ G11 hrl11 hG11;obtain⟨_,_,rfl⟩:=SlC.val hrl11;refine uR ?_;refine EVL.call rfl rfl rfl rfl rfl (zhg (hw8.mono (hG7.trans (hG8.trans (hG9.trans (hG10.trans hG11))))) hrl11 oM) ?_;rintro _ G12 rfl hG12;refine uR ?_;refine vA (zkr (k3.mono (hG9.trans (hG10.trans (hG11.trans hG12)))) hqs) ?_;rintro _ G13 rfl hG13;refine uR ?_;rw[beq_self_eq_true n.cls]
end
section
open Go Go.RowKit
theorem zhW {P:Program} {W:World} {n:String} {d:DataW Unit}:∀{l:List (String × DataW Unit)} {ps:List MemPlace},DataW.LaidVars P W l ps→(n,d)∈l →
  ∃p,DataW.LaidVars P W [(n,d)] p
 | [],_,_,h=>by cases h
 | (m,x)::r,ps,h,hm=>by
  obtain⟨g,t,cs,fuel,p,q,h1,h2,h3,h4,h5,h6⟩:=h;rcases List.mem_cons.1 hm with hm | hm
  ·cases hm;exact⟨_,g,t,cs,fuel,p,[],h1,h2,h3,h4,rfl,rfl⟩
  ·exact zhW h5 hm
theorem zo3 {P:Program} {l:List (String × DataW Unit)} {W:World} {α:Type} (f:α→Int) (h:laidMet P l W) {n:String} {zs:List α} {kd:IntKind} {g:Nat} {T e:TypeId} (hmem:(n,.agg (zs.map fun z=>.lit (.int kd (f z))))∈l) (hg:P.globalNamed n=some g) (ht:(P.globals[g]?).map (·.type)=some T)
  (hT:P.underlying T=some (.array zs.length e)) (he:P.underlying e=some (.int kd)) (hc:P.cellsOf e=1) (hcT:P.cellsOf T=zs.length) :
  ∃U fz,W.heap[g]?=some (.cells (zs.map fun z=>Value.int kd (f z)).toArray U fz):=by
 obtain⟨ps,hl,_⟩:=h;obtain⟨p0,g',t,cs,fuel,p,q,hg',ht',hv,hd,_,_⟩:=zhW hl hmem;obtain rfl:=Option.some.inj (hg.symm.trans hg');obtain rfl:=Option.some.inj (ht.symm.trans ht');obtain⟨xs,m,_,ex,hcl,hlen,hel⟩:=DataW.trod_array hT hd
 have hb:∃U fz,W.heap[g]?=some (.cells cs U fz):=by
  simp only[World.var?,hg,Option.bind_some]at hv;split at hv
  ·rename_i c U fz hc';cases hv;exact⟨U,fz,hc'⟩
  ·cases hv
 obtain⟨U,fz,hb⟩:=hb;refine⟨U,fz,?_⟩;rw[hb];congr 2;apply Array.ext';rw[hcT]at hcl;have e3:(xs.map (·.1))=zs.map fun n=>.lit (.int kd (f n)):=(DataW.agg.inj (Prod.mk.inj ex).1).symm;apply List.ext_getElem?;intro r;rcases Nat.lt_or_ge r zs.length with hr | hr
 ·have hE:=hel r hr;rw[hc,Nat.mul_one,qA (by omega)]at hE;obtain⟨z,e1,e2,_⟩:=DataW.trod_int he hE;have e4:(xs.map (·.1))[r]?=(zs.map fun n=>(DataW.lit (.int kd (f n)):DataW Unit))[r]?:=by rw[e3]
  rw[qK,qK,qA (by omega:r<xs.length),qA hr,e2]at e4;simp only[Option.map_some,Option.some.injEq,DataW.lit.injEq,Lit.int.injEq,true_and]at e4;have h0:((cs.toList.drop r).take 1)[0]?=some (.int kd z):=by rw[e1];rfl
  simp only[pP,List.getElem?_drop,qY]at h0;rw[if_pos (by omega)]at h0;rw[h0,e4];simp[hr]
 ·rw[qg oM,qg (by simpa using hr)]
theorem fits_gH {l:List (String × DataW Unit)} {W:World} (h:laidMet Tryz.prog l W) (hmem:("math/bits.deBruijn64tab", .agg (Lib.deBruijn64tab.map fun (z:Nat)=>.lit (.int .u8 z)))∈l):Fits gH W:=fun b c hb=>by
 unfold gH at hb;split at hb
 ·rename_i hbb;cases hb;obtain rfl:=qz hbb;exact zo3 (fun z:Nat=>(z:Int)) h hmem kR kR Tryz.underlying321 Tryz.underlying5 kR kR
 ·cases hb
theorem powT_of {l:List (String × DataW Unit)} {W:World} (h:laidMet Tryz.prog l W) (hmem:("internal/strconv.uint64pow10", .agg (Lib.pow10Tab.map fun z=>.lit (.int .u64 z)))∈l):PowT (hpOf W):=by
 obtain⟨U,fz,hb⟩:=zo3 (fun z:Int=>z) (g:=4) h hmem kR kR Tryz.underlying328 Tryz.underlying44 kR kR;unfold PowT hpOf;rw[hb];rfl
end
end Go.Proofs.YtifcjfodgicngaaGreatDoor
