/- Texts of ours in one: Pg2, Od1, Pg3, Tr16, Tr17, Tr18, Tr19, Tr20, Tr21, Tr22, Tr23, Tr24, Tr25, Tr26, Opn, Opn20, Tr27, Tr29, Tr30, Tr31, Pg4, Pg5, Pg6, Pg7, Pg8, Pg9, Tr32, Tr33, Tr34, Tr35, Tr36, Mn1, PgA, PgB, LaidE. -/
import Derived.Test.YtplhljjljnkhpaaGreatDoorB0
import Derived.Test.YtplhljjljnkhpaaGreatDoorB1
import Derived.Test.YtplhljjljnkhpaaGreatDoorB2
import Derived.Test.YtplhljjljnkhpaaGreatDoorB3
import Derived.Test.YtplhljjljnkhpaaGreatDoorB4
import Derived.WalkKit
import Derived.ProofKit
import Derived.OpenShut
import Derived.LaidMore
import Derived.Lay
import Derived.Stop.Joined
set_option linter.unusedVariables false
set_option linter.unusedSimpArgs false

namespace Go.Proofs.YtplhljjljnkhpaaGreatDoor
open Go.RowKit _root_.Go.Proofs.Tryz
abbrev pgC (kd cl:Int) (sl sv vx:Value) (deep least:Int) (gq:Rat) (fv out:Value):List Value:=[.int .i64 kd,.int .i64 cl,sl,sv,vx,.int .i64 deep,.int .i64 least,.bool (decide (gq.num<0)),.int .u64 (lo gq.num.natAbs:Int),.string (moreB gq.num.natAbs),.int .u64 (lo (dk gq.den):Int),.string (moreB (dk gq.den)),fv,out]
def ColsOk (H:Hp) (f:FuncId) (ccs:List Value) (dv:Value) (p:GP):Prop:=∀ G,H.Le G→∀ (D:Ows) (s:Int),DiceO dv D s→PW prog f ccs.toArray G D fun v ow G'=>IL G' v (p.cols s).1∧DiceO dv ow (p.cols s).2
theorem ColsOk.mono {H H':Hp} {f:FuncId} {ccs:List Value} {dv:Value} {p:GP} (h:ColsOk H f ccs dv p) (k:H.Le H'):ColsOk H' f ccs dv p:=fun G hG=>h G (k.trans hG)
theorem rel_mid {R:List Value→Nd→Prop} {s:Nat} (hlen:∀ c n,R c n→c.length=s) {css:List (List Value)} {A B:List Nd} {n:Nd} (h:css.length=(A++n::B).length∧∀ (j:Nat) (c:List Value) (m:Nd),css[j]?=some c→(A++n::B)[j]?=some m→R c m) :
  ∃ cA c cB,css=cA++c::cB∧cA.flatten.length=A.length*s∧R c n∧∀ (c':List Value) (n':Nd),R c' n'→((cA++c'::cB).length=(A++n'::B).length∧∀ (j:Nat) (x:List Value) (m:Nd),(cA++c'::cB)[j]?=some x→(A++n'::B)[j]?=some m→R x m):=by
 have hl:=h.1
 rw [List.length_append,List.length_cons] at hl
 have hlt:A.length<css.length:=by omega
 have e:css=css.take A.length++css[A.length]::css.drop (A.length+1):=by
  rw [← List.drop_eq_getElem_cons hlt,List.take_append_drop]
 have hla:(css.take A.length).length=A.length:=by rw [List.length_take];omega
 refine ⟨_,_,_,e,?_,h.2 A.length _ n (List.getElem?_eq_getElem hlt) (by rw [List.getElem?_append_right (Nat.le_refl _),Nat.sub_self];rfl),?_⟩
 ·have:∀ l:List (List Value),(∀ c,c∈l→c.length=s)→l.flatten.length=l.length*s:=by
   intro l
   induction l with
   | nil=>intro _;simp
   | cons c l ih=>intro h;rw [List.flatten_cons,List.length_append,h c (List.mem_cons_self ..),ih (fun c hc=>h c (List.mem_cons_of_mem _ hc)),List.length_cons,Nat.succ_mul];omega
  refine (this _ fun c hc=>?_).trans (by rw [hla])
  obtain ⟨j,hj⟩:=List.mem_iff_getElem?.1 (List.mem_of_mem_take hc)
  have hj':=(List.getElem?_eq_some_iff.1 hj).1
  obtain ⟨m,hm⟩:∃ m,(A++n::B)[j]?=some m:=⟨_,List.getElem?_eq_getElem (by rw [← h.1];exact hj')⟩
  exact hlen _ _ (h.2 j c m hj hm)
 ·intro c' n' hc
  refine ⟨by simp only [List.length_append,List.length_cons,hla,List.length_drop];omega,fun j c1 n1 e1 e2=>?_⟩
  rcases Nat.lt_trichotomy j A.length with hj | rfl | hj
  ·rw [List.getElem?_append_left oM,List.getElem?_take_of_lt hj] at e1
   rw [List.getElem?_append_left hj] at e2
   exact h.2 j c1 n1 e1 (by rw [List.getElem?_append_left hj];exact e2)
  ·rw [List.getElem?_append_right oM,hla,Nat.sub_self] at e1
   rw [List.getElem?_append_right (Nat.le_refl _),Nat.sub_self] at e2
   cases e1;cases e2
   exact hc
  ·obtain ⟨k,rfl⟩:∃ k,j=A.length+(k+1):=⟨j-A.length-1,by omega⟩
   rw [List.getElem?_append_right oM,hla,Nat.add_sub_cancel_left,List.getElem?_cons_succ,List.getElem?_drop] at e1
   rw [List.getElem?_append_right oM,Nat.add_sub_cancel_left,List.getElem?_cons_succ] at e2
   exact h.2 (A.length+(k+1)) c1 n1 (by rw [← e1];congr 1;omega) (by rw [List.getElem?_append_right oM,Nat.add_sub_cancel_left,List.getElem?_cons_succ];exact e2)
theorem OwnL.midS {s:Nat} (hs:0<s) {e:TypeId} {v:Value} {m:Nat} {cA cB:List (List Value)} {c:List Value} {ow:Ows} (h:OwnL e s v m (cA++c::cB).flatten ow) (hc:c.length=s):∃ g cap sp,v=.slice (some ⟨g,0,none⟩) m cap∧ow=[(g,e,cA.flatten++(c++(cB.flatten++sp)))]∧∀ c',c'.length=s→OwnL e s v m (cA++c'::cB).flatten [(g,e,cA.flatten++(c'++(cB.flatten++sp)))]:=by
 have hl:=h.1
 rcases h.2 with ⟨_,rfl,_⟩ | ⟨g,cap,sp,rfl,rfl,h1,h2,h3⟩
 ·simp [hc] at hl;omega
 ·have e1:∀ c':List Value,(cA++c'::cB).flatten=cA.flatten++(c'++cB.flatten):=fun c'=>by simp
  rw [e1] at hl h1
  refine ⟨g,cap,sp,rfl,by rw [e1];simp,fun c' hc'=>⟨?_,.inr ⟨g,cap,sp,rfl,by rw [e1];simp,?_,h2,h3⟩⟩⟩
  ·rw [e1,← hl];simp [hc,hc']
  ·rw [e1,← h1];simp [hc,hc']
theorem cutC_cells (o:Option (Int × Rat × Rat)):∃ c t g,cutC o=.int .i64 c::(vlist (fracV t)++vlist (fracV g))∧∀ c' t' g',o=some (c',t',g')→c'=c∧t'=t∧g'=g:=by
 cases o with
 | none=>exact ⟨0,0,0,rfl,fun c' t' g' e=>by cases e⟩
 | some q=>obtain ⟨c,t,g⟩:=q;exact ⟨c,t,g,rfl,fun c' t' g' e=>by cases e;exact ⟨rfl,rfl,rfl⟩⟩
set_option maxHeartbeats 64000000 in
theorem pgrow_pw {p:GP} {kd cl least deep:Int} {S:List Int→List Value} {wo:List Int→Rat} {la va xa:Option Addr} {ln lc vn vc xc:Nat} {f:FuncId} {ccs:List Value} {dv:Value} (hcl:∀ s,(p.cols s).1.length≤1000) (hx0:0<p.X.length) (hX20:p.X.length≤20) (hxq:∀ x,x∈p.X→∀ q,q∈x→ht q≤5) (hpl:p.least=least) (hgr:sm p.gain):∀ (d:Nat) {H:Hp} {b:Nat} {T:TypeId} {dd s:Int} {vr out:Value} {rows:List Int} {ns:List Nd} {css:List (List Value)} {D ow:Ows},
  PGoal H kd cl (.slice la ln lc) (.slice va vn vc) p S wo→QLL H (.slice xa p.X.length xc) p.X→ColsOk H f ccs dv p→dd+d=deep→0≤dd→deep≤10 →
  IL H vr rows→rows.length≤20→(∀ r,r∈rows→0≤r∧r<(p.X.length:Int))→DiceO dv D s→OwnL 103 21 out ns.length css.flatten ow→PNodes H css ns→ns.length+2 ^ (d+1)≤1000000 →
  PW prog 140 #[.pointer (some ⟨b,0,none⟩),vr,.int .i64 dd] H ((b,T,pgC kd cl (.slice la ln lc) (.slice va vn vc) (.slice xa p.X.length xc) deep least p.gain (.func (.func f) #[] ccs.toArray) out)::(D++ow)) fun v ow' H'=>v=.tuple #[]∧∃ out' D' ow2 css',ow'=(b,T,pgC kd cl (.slice la ln lc) (.slice va vn vc) (.slice xa p.X.length xc) deep least p.gain (.func (.func f) #[] ccs.toArray) out')::(D'++ow2)∧DiceO dv D' (p.grow d ns.length rows s).2∧OwnL 103 21 out' (ns++(p.grow d ns.length rows s).1).length css'.flatten ow2∧PNodes H' css' (ns++(p.grow d ns.length rows s).1):=by
 intro d
 induction d using Nat.strongRecOn with
 | _ d ih =>
  intro H b T dd s vr out rows ns css D ow hg hX hcf hdd hd0 hd1 hr hn hb hD hown hns hsz
  obtain ⟨oa,oc,rfl⟩:=hown.val
  obtain ⟨ra,rc,rfl⟩:=SlC.val hr
  have hpw:2≤2 ^ (d+1):=by rw [Nat.pow_succ];have:=Nat.one_le_two_pow (n:=d);omega
  have hex:=exL_all hb
  have htop:=fun (G:Hp) (hG:H.Le G)=>hg.top G hG _ _ (hr.mono hG) oM
  have hcost:=fun (G:Hp) (hG:H.Le G)=>hg.cost G hG _ _ (hr.mono hG) oM
  have hmean:=fun (G:Hp) (hG:H.Le G)=>hg.mean G hG _ _ (hr.mono hG) oM
  have hcnt:=fun (G:Hp) (hG:H.Le G)=>hg.counts G hG _ _ (hr.mono hG) oM
  rw [hex] at htop hcost hmean hcnt
  refine PW.body tO func140 rfl kR ntmps140 rfl rfl ?_
  try refine RUN ?_
  (repeat (first | refine EVL.nilB rfl rfl rfl rfl rfl ?_ | refine EVL.fldB tO rfl rfl rfl rfl rfl rfl rfl ?_ | refine EVL.val tO rfl rfl rfl rfl rfl ?_))
  refine EVL.loadOwn tO rfl rfl rfl rfl rfl rfl (0) rfl (rfl) rfl rfl ?_
  try refine RUN ?_
  refine EV.meetK (ι:=Value × Ows × List Value) [0,1,2,6] [] (fun _=>[]) (fun _=>[]) (fun q=>(b,T,pgC kd cl (.slice la ln lc) (.slice va vn vc) (.slice xa p.X.length xc) deep least p.gain (.func (.func f) #[] ccs.toArray) q.1)::(D++q.2.1)) (fun q G=>H.Le G∧OwnL 103 21 q.1 (ns.length+1) (css++[q.2.2]).flatten q.2.1∧PNode G q.2.2 (p.nd rows)) rfl rfl (fun _=>rfl) ?_ ?_
  ·refine EVI.start (some 36) (b,T,pgC kd cl (.slice la ln lc) (.slice va vn vc) (.slice xa p.X.length xc) deep least p.gain (.func (.func f) #[] ccs.toArray) (.slice oa ns.length oc)) ?_
   refine IV 0 ?_
   refine IV 1 ?_
   refine IN 2 ?_
   refine IF 3 ?_
   refine IL0 4 ?_
   refine IV 5 ?_
   refine IV 6 ?_
   refine IV 7 ?_
   refine IN 8 ?_
   refine IF 9 ?_
   refine IL0 10 ?_
   refine IV 11 ?_
   refine IV 13 ?_
   refine IN 14 ?_
   refine IF 15 ?_
   refine IL0 16 ?_
   refine IV 17 ?_
   refine IV 19 ?_
   refine IN 20 ?_
   refine IF 21 ?_
   refine IL0 22 ?_
   refine IV 23 ?_
   refine IV 25 ?_
   refine IN 26 ?_
   refine IF 27 ?_
   refine IL0 28 ?_
   refine IV 29 ?_
   refine EVI.one 12 0 (.inr rfl) kR rfl ?_
   refine EVL.call rfl rfl rfl rfl rfl (htop _ (Hp.Le.refl _)) ?_
   rintro _ G1 rfl hG1
   refine EVL.nil ⟨rfl,?_⟩
   refine EVI.one 18 0 (.inr rfl) kR rfl ?_
   refine EVL.call rfl rfl rfl rfl rfl (hcost _ hG1) ?_
   rintro _ G2 rfl hG2
   refine EVL.nil ⟨rfl,?_⟩
   refine EVI.one 24 0 (.inr rfl) kR rfl ?_
   refine EVL.call rfl rfl rfl rfl rfl (hmean _ (hG1.trans hG2)) ?_
   rintro _ G3 rfl hG3
   refine EVL.nil ⟨rfl,?_⟩
   refine EVI.one 30 0 (.inr rfl) kR rfl ?_
   refine EVL.call rfl rfl rfl rfl rfl (hcnt _ ((hG1.trans hG2).trans hG3)) ?_
   intro r4 G4 hr4 hG4
   obtain ⟨a7,c7,rfl⟩:=SlC.val hr4
   refine EVL.nil ⟨rfl,?_⟩
   refine EVI.one 31 0 (.inr rfl) kR rfl ?_
   (try refine RUNL ?_)
   refine EVL.nil ⟨rfl,?_⟩
   refine EVI.one 32 0 (.inr rfl) kR rfl ?_
   refine EVL.lit tO rfl rfl rfl rfl rfl rfl rfl rfl rfl rfl rfl fun bl=>?_
   refine EVL.nil ⟨rfl,?_⟩
   refine EVI.one 33 1 (.inr rfl) kR rfl ?_
   refine EVL.append tO rfl rfl rfl rfl rfl rfl rfl rfl rfl rfl rfl rfl ([(bl,_,_),(b,T,_)]++D) ow [] (by rw [List.append_nil];rfl) hown (SrcAt.own 0 rfl rfl) rfl oM ?_
   intro v2 ow2 hown2
   obtain ⟨oa2,oc2,rfl⟩:=hown2.val
   refine EVL.nil ⟨rfl,?_⟩
   refine EVI.one 34 1 (.inr rfl) kR rfl ?_
   refine EVL.nilB rfl rfl rfl rfl rfl ?_
   refine EVL.nil ⟨rfl,?_⟩
   refine EVI.one 35 1 (.inr rfl) kR rfl ?_
   refine EVL.fldB tO rfl rfl rfl rfl rfl rfl rfl ?_
   refine EVL.nil ⟨rfl,?_⟩
   refine EVI.one 36 1 (.inr rfl) kR rfl ?_
   refine EVL.storeOwn tO rfl rfl rfl rfl rfl rfl ([(bl,_,_)]) (D++(ow2++[])) rfl rfl rfl rfl ((by exact Nat.le_refl 14)) (rfl) ?_
   refine EVL.subOw [] [(bl,_,_)] _ rfl ?_
   refine EVL.nil ⟨rfl,?_⟩
   refine EVI.nil 0 (.inl kR) kR ?_
   have hpn:PNode G4 (([.int .i64 (-1),.int .i64 0,.int .i64 0,.int .i64 (rows.length:Int),.int .i64 (topN (p.cnt rows) (p.cnt rows).length:Nat),.bool false,.int .u64 0,.string ⟨#[]⟩,.int .u64 0,.string ⟨#[]⟩]:List Value)++(vlist (fracV (p.cost rows))++(vlist (fracV (p.mean rows))++[.slice a7 (p.cnt rows).length c7]))) (p.nd rows):=⟨a7,c7,hr4,by
    rw [show vlist (fracV (p.nd rows).at')=_ from frac_zero_cells];rfl⟩
   exact ⟨(_,ow2++[],_),trivial,sB,trivial,trivial,rfl,((hG1.trans hG2).trans hG3).trans hG4,(by rw [List.append_nil,List.flatten_append];exact hown2),hpn⟩
  ·rintro ⟨out1,ow1,c1⟩ G1 ⟨hG1,hown1,hnd1⟩
   dsimp only at hown1 hnd1
   obtain ⟨oa1,oc1,rfl⟩:=hown1.val
   have hns1:PNodes G1 (css++[c1]) (ns++[p.nd rows]):=rel_snoc (hns.mono hG1) hnd1
   try refine RUN ?_
   (repeat (first | refine EVL.nilB rfl rfl rfl rfl rfl ?_ | refine EVL.fldB tO rfl rfl rfl rfl rfl rfl rfl ?_ | refine EVL.val tO rfl rfl rfl rfl rfl ?_))
   refine EVL.loadOwn tO rfl rfl rfl rfl rfl rfl (0) rfl (rfl) rfl rfl ?_
   try refine RUN ?_
   by_cases hd:d=0
   ·subst hd
    obtain rfl:dd=deep:=by omega
    rw [decide_eq_true (show dd≥dd from Int.le_refl _)]
    try refine RUN ?_
    exact ⟨rfl,_,D,ow1,_,rfl,hD,by rw [List.length_append];exact hown1,hns1⟩
   obtain ⟨e,rfl⟩:∃ e,d=e+1:=⟨d-1,by omega⟩
   have ih':=@ih e oM
   clear ih
   rw [decide_eq_false (show ¬ dd≥deep by omega)]
   try refine RUN ?_
   have hcolp:=hcf G1 hG1 D s hD
   have hbest:∀ (G:Hp) (ca:Option Addr) (cc:Nat),G1.Le G→IL G (.slice ca (p.cols s).1.length cc) (p.cols s).1→PC prog 186 #[goalV kd cl (.slice la ln lc) (.slice va vn vc),.slice xa p.X.length xc,.slice ra rows.length rc,.slice ca (p.cols s).1.length cc,.int .i64 least] G fun r _=>r=.tuple #[.agg (cutC (p.best rows (p.cols s).1)).toArray,.bool (p.best rows (p.cols s).1).isSome]:=fun G ca cc hG hc =>
    pbest_pc (hg.ok.mono (hG1.trans hG)) hg.pok (hX.mono (hG1.trans hG)) (hr.mono (hG1.trans hG)) hn hb hc (Nat.le_trans (hcl s) oM) (fun x hx q hq=>Nat.le_trans (hxq x hx q hq) oM) hpl
   obtain ⟨c,t,g,hcut,hval⟩:=cutC_cells (p.best rows (p.cols s).1)
   rw [hcut] at hbest
   refine EV.meetK (ι:=Ows) [0,1,2,6] [] (fun _=>[(7,.p 7 0),(8,.v (.bool (p.best rows (p.cols s).1).isSome))]) (fun _=>[(7,272,.int .i64 c::(vlist (fracV t)++vlist (fracV g)))]) (fun q=>(b,T,pgC kd cl (.slice la ln lc) (.slice va vn vc) (.slice xa p.X.length xc) deep least p.gain (.func (.func f) #[] ccs.toArray) (.slice oa1 (ns.length+1) oc1))::(q++ow1)) (fun q G=>G1.Le G∧DiceO dv q (p.cols s).2) rfl rfl (fun _=>rfl) ?_ ?_
   ·refine EVI.start none (b,T,pgC kd cl (.slice la ln lc) (.slice va vn vc) (.slice xa p.X.length xc) deep least p.gain (.func (.func f) #[] ccs.toArray) (.slice oa1 (ns.length+1) oc1)) ?_
    refine IV 0 ?_
    refine IN 1 ?_
    refine IF 2 ?_
    refine IL0 3 ?_
    refine IV 4 ?_
    refine IN 5 ?_
    refine IF 6 ?_
    refine IL0 7 ?_
    refine IV 8 ?_
    refine IV 9 ?_
    refine IN 10 ?_
    refine IF 11 ?_
    refine IL0 12 ?_
    refine IV 14 ?_
    refine IN 15 ?_
    refine IF 16 ?_
    refine IF 17 ?_
    refine IL0 18 ?_
    refine EVI.two 13 23 0 (.inr rfl) kR rfl rfl ?_ ?_
    ·(first | refine EVL.swapOw ([(b,T,_)]) (D++ow1) (rfl) ?_ | refine EV.swapOw ([(b,T,_)]) (D++ow1) (rfl) ?_)
     refine EVL.callWC rfl rfl rfl rfl (cs:=ccs) rfl (vs:=[]) rfl D (ow1++[(b,T,_)]) (List.append_assoc _ _ _) hcolp ?_
     rintro v2 D2 G2 ⟨hil,hD2⟩ hG2
     obtain ⟨ca,cc,rfl⟩:=SlC.val hil
     (first | refine EVL.swapOw (D2++ow1) ([(b,T,_)]) ((List.append_assoc _ _ _).symm) ?_ | refine EV.swapOw (D2++ow1) ([(b,T,_)]) ((List.append_assoc _ _ _).symm) ?_)
     refine EVL.nil ⟨rfl,?_⟩
     refine EVI.two 19 23 0 (.inr rfl) kR rfl rfl ?_ ?_
     ·refine EVL.call rfl rfl rfl rfl rfl (hbest _ _ _ hG2 hil) ?_
      rintro _ G3 rfl hG3
      refine EVL.nil ⟨rfl,?_⟩
      refine IV 20 ?_
      refine IV 21 ?_
      refine IV 22 ?_
      refine EVI.one 23 0 (.inr rfl) kR rfl ?_
      (try refine RUNL ?_)
      refine EVL.nil ⟨rfl,?_⟩
      refine EVI.one 24 0 (.inr rfl) kR rfl ?_
      (try refine RUNL ?_)
      refine EVL.nil ⟨rfl,?_⟩
      refine EVI.one 25 0 (.inr rfl) kR rfl ?_
      (try refine RUNL ?_)
      refine EVL.nil ⟨rfl,?_⟩
      refine EVI.nil 0 (.inr rfl) kR ?_
      exact ⟨D2,⟨rfl,rfl,trivial⟩,sB,⟨rfl,trivial⟩,trivial,rfl,hG2.trans hG3,hD2⟩
     ·(try refine RUNL ?_)
      refine EVL.nil ⟨rfl,?_⟩
      refine EVI.one 19 0 (.inr rfl) kR rfl ?_
      refine EVL.call rfl rfl rfl rfl rfl (hbest _ _ _ hG2 hil) ?_
      rintro _ G3 rfl hG3
      refine EVL.nil ⟨rfl,?_⟩
      refine IV 20 ?_
      refine IV 21 ?_
      refine IV 22 ?_
      refine EVI.one 24 0 (.inr rfl) kR rfl ?_
      (try refine RUNL ?_)
      refine EVL.nil ⟨rfl,?_⟩
      refine EVI.one 25 0 (.inr rfl) kR rfl ?_
      (try refine RUNL ?_)
      refine EVL.nil ⟨rfl,?_⟩
      refine EVI.nil 0 (.inr rfl) kR ?_
      exact ⟨D2,⟨rfl,rfl,trivial⟩,sB,⟨rfl,trivial⟩,trivial,rfl,hG2.trans hG3,hD2⟩
    ·(try refine RUNL ?_)
     refine EVL.nil ⟨rfl,?_⟩
     refine EVI.one 13 0 (.inr rfl) kR rfl ?_
     (first | refine EVL.swapOw ([(b,T,_)]) (D++ow1) (rfl) ?_ | refine EV.swapOw ([(b,T,_)]) (D++ow1) (rfl) ?_)
     refine EVL.callWC rfl rfl rfl rfl (cs:=ccs) rfl (vs:=[]) rfl D (ow1++[(b,T,_)]) (List.append_assoc _ _ _) hcolp ?_
     rintro v2 D2 G2 ⟨hil,hD2⟩ hG2
     obtain ⟨ca,cc,rfl⟩:=SlC.val hil
     (first | refine EVL.swapOw (D2++ow1) ([(b,T,_)]) ((List.append_assoc _ _ _).symm) ?_ | refine EV.swapOw (D2++ow1) ([(b,T,_)]) ((List.append_assoc _ _ _).symm) ?_)
     refine EVL.nil ⟨rfl,?_⟩
     refine EVI.one 19 0 (.inr rfl) kR rfl ?_
     refine EVL.call rfl rfl rfl rfl rfl (hbest _ _ _ hG2 hil) ?_
     rintro _ G3 rfl hG3
     refine EVL.nil ⟨rfl,?_⟩
     refine IV 20 ?_
     refine IV 21 ?_
     refine IV 22 ?_
     refine EVI.one 24 0 (.inr rfl) kR rfl ?_
     (try refine RUNL ?_)
     refine EVL.nil ⟨rfl,?_⟩
     refine EVI.one 25 0 (.inr rfl) kR rfl ?_
     (try refine RUNL ?_)
     refine EVL.nil ⟨rfl,?_⟩
     refine EVI.nil 0 (.inr rfl) kR ?_
     exact ⟨D2,⟨rfl,rfl,trivial⟩,sB,⟨rfl,trivial⟩,trivial,rfl,hG2.trans hG3,hD2⟩
   ·rintro D2 G2 ⟨hG2,hD2⟩
    clear hbest hcolp
    have hH2:=hG1.trans hG2
    try refine RUN ?_
    cases hbe:p.best rows (p.cols s).1 with
    | none =>
     have hcut0:p.cut rows (p.cols s).1=none:=by unfold GP.cut;rw [hbe]
     rw [GP.grow_none hcut0]
     rw [show (none:Option (Int × Rat × Rat)).isSome=false from rfl]
     apply EV.drawn 13 kR kR;intro xv yw
     (repeat (first | refine' DV ?_ | refine' DA ?_ | refine' DK0 ?_ | refine' DT ?_ | refine' DS ?_))
     (refine DJ.nil (fun G hG hF=>?_);(case hS|hS2=>rfl))
     try refine RUN ?_
     exact ⟨rfl,_,D2,ow1,_,rfl,hD2,by rw [List.length_append];exact hown1,hns1.mono (hG2.trans hG)⟩
    | some q =>
     obtain ⟨c',t',g'⟩:=q
     obtain ⟨rfl,rfl,rfl⟩:=hval c' t' g' hbe
     rw [show (some (c',t',g')).isSome=true from rfl]
     have htg:sm t'∧sm g':=by
      have hf:=first_fold (allCuts p.X p.cost rows (max 1 p.least) (p.cols s).1)
      rw [show (allCuts p.X p.cost rows (max 1 p.least) (p.cols s).1).foldl refS none=some (c',t',g') from hbe] at hf
      have:=all_small hg.small oM hb hxq hf.1
      exact ⟨sm_of this.1 oM,sm_of this.2 oM⟩
     obtain ⟨htb,hgb⟩:=htg
     have hcmp:=cmp_pv g' p.gain hgb hgr
     apply EV.drawn 13 kR kR;intro xv yw
     (repeat (first | refine' DV ?_ | refine' DA ?_ | refine' DK0 ?_ | refine' DT ?_ | refine' DS ?_ | (refine' DJ.nilB rfl rfl rfl rfl rfl ?_;rotate_left) | (refine' DJ.fldB tO rfl rfl rfl rfl rfl rfl rfl ?_;rotate_left)))
     refine' DJ.ofVal (ValOk.loadOwn tO rfl rfl rfl rfl (0) rfl (rfl) rfl rfl) rfl rfl rfl ?_;rotate_left
     (repeat (first | refine' DV ?_ | refine' DA ?_ | refine' DK0 ?_ | refine' DT ?_ | (refine' DC (hcmp) (h:=?_);rotate_left) | refine' DS ?_))
     (refine DJ.nil (fun G4 hG4 hF4=>?_);(case hS|hS2=>rfl))
     try refine RUN ?_
     by_cases hle:g'≤p.gain
     ·have hcut0:p.cut rows (p.cols s).1=none:=by unfold GP.cut;rw [hbe];exact if_pos hle
      rw [GP.grow_none hcut0]
      rw [decide_eq_true (ordQ_le hle)]
      try refine RUN ?_
      exact ⟨rfl,_,D2,ow1,_,rfl,hD2,by rw [List.length_append];exact hown1,hns1.mono (hG2.trans hG4)⟩
     have hcut0:p.cut rows (p.cols s).1=some (c',t'):=by unfold GP.cut;rw [hbe];exact if_neg hle
     rw [GP.grow_some hcut0]
     rw [decide_eq_false (Int.not_le.2 (ordQ_pos.2 (Rat.not_le.1 hle)))]
     have hH4:=hH2.trans hG4
     try refine RUN ?_
     apply EV.drawn 14 kR kR;intro xv yw
     (repeat (first | refine' DV ?_ | refine' DA ?_ | refine' DK0 ?_ | refine' DT ?_ | refine' DS ?_ | (refine' DJ.nilB rfl rfl rfl rfl rfl ?_;rotate_left) | (refine' DJ.fldB tO rfl rfl rfl rfl rfl rfl rfl ?_;rotate_left)))
     refine' DJ.ofVal (ValOk.loadOwn tO rfl rfl rfl rfl (0) rfl (rfl) rfl rfl) rfl rfl rfl ?_;rotate_left
     (repeat (first | refine' DV ?_ | refine' DA ?_ | refine' DK0 ?_ | refine' DT ?_ | refine' DS ?_ | (refine' DJ.nilB rfl rfl rfl rfl rfl ?_;rotate_left) | (refine' DJ.fldB tO rfl rfl rfl rfl rfl rfl rfl ?_;rotate_left)))
     refine' DJ.call rfl rfl rfl rfl rfl (cO func187) (fun G hG hd=>sides_pc (col:=c') (t:=t') (hX.mono (hH4.trans hG)) (hr.mono (hH4.trans hG)) oM (fun x hx q hq=>sm_of (hxq x hx q hq) oM) htb) (fun _ _ _ h k=>(by obtain ⟨u,w,e,hu,hw⟩:=h;exact ⟨u,w,e,hu.mono k,hw.mono k⟩)) ?_;rotate_left
     refine' DJ.copy (9) (by first | exact .inl rfl | exact .inr rfl) rfl rfl rfl id rfl kR ?_;rotate_left
     refine' DJ.extract (9) rfl rfl rfl rfl rfl kR (fun G hd=>(by obtain ⟨u,w,e,_⟩:=hd.head kR;exact ⟨_,e,Nat.zero_lt_succ _⟩)) ?_;rotate_left
     refine' DJ.extract (9) rfl rfl rfl rfl rfl kR (fun G hd=>(by obtain ⟨u,w,e,_⟩:=hd.head kR;exact ⟨_,e,Nat.lt_succ_self _⟩)) ?_;rotate_left
     refine' DJ.copy (9) (.inr rfl) rfl rfl rfl (tupAt 0) rfl kR ?_;rotate_left
     (refine DJ.nil (fun G5 hG5 hF5=>?_);(case hS|hS2=>rfl))
     obtain ⟨⟨u5,w5,e5,hu5,hw5⟩,_⟩:=hF5
     rw [e5]
     rw [exL_all hb] at hu5 hw5
     obtain ⟨ua,uc,rfl⟩:=SlC.val hu5
     obtain ⟨wa,wc,rfl⟩:=SlC.val hw5
     rw [show tupAt 0 (Value.tuple #[.slice ua (lowL p.X c' t' rows).length uc,.slice wa (highL p.X c' t' rows).length wc])=.slice ua (lowL p.X c' t' rows).length uc from rfl,show tupAt 1 (Value.tuple #[.slice ua (lowL p.X c' t' rows).length uc,.slice wa (highL p.X c' t' rows).length wc])=.slice wa (highL p.X c' t' rows).length wc from rfl]
     have hH5:=hH4.trans hG5
     have hns5:=hns1.mono (hG2.trans (hG4.trans hG5))
     have wd:IntKind.i64.wrap (dd+1)=dd+1:=by rw [IntKind.wrap_i64];omega
     have hlo3:(lowL p.X c' t' rows).length≤20:=Nat.le_trans (List.length_filter_le _ _) hn
     have hhi3:(highL p.X c' t' rows).length≤20:=Nat.le_trans (List.length_filter_le _ _) hn
     have hlom:∀ r,r∈lowL p.X c' t' rows→0≤r∧r<(p.X.length:Int):=fun r hr=>hb r (List.mem_filter.mp hr).1
     have hhim:∀ r,r∈highL p.X c' t' rows→0≤r∧r<(p.X.length:Int):=fun r hr=>hb r (List.mem_filter.mp hr).1
     have hl1:(ns++[p.nd rows]).length=ns.length+1:=by simp
     have hp2:2 ^ (e+1+1)=2 ^ (e+1)+2 ^ (e+1):=by rw [Nat.pow_succ];omega
     have hp3:2≤2 ^ (e+1):=by rw [Nat.pow_succ];have:=Nat.one_le_two_pow (n:=e);omega
     have hL:=ih' (H:=G5) (b:=b) (T:=T) (dd:=dd+1) (s:=(p.cols s).2) (ns:=ns++[p.nd rows]) (hg.mono hH5) (hX.mono hH5) (hcf.mono hH5) oM oM hd1 hu5 hlo3 hlom hD2 (by rw [hl1];exact hown1) hns5 (by rw [hl1];omega)
     rw [hl1] at hL
     have hLl:=(p.grow_len e (ns.length+1) (lowL p.X c' t' rows) (p.cols s).2).2
     generalize hLe:p.grow e (ns.length+1) (lowL p.X c' t' rows) (p.cols s).2=Lp at *
     obtain ⟨Ls,s2⟩:=Lp
     dsimp only at hL hLl
     try refine RUN ?_
     (repeat (first | refine EVL.nilB rfl rfl rfl rfl rfl ?_ | refine EVL.fldB tO rfl rfl rfl rfl rfl rfl rfl ?_ | refine EVL.val tO rfl rfl rfl rfl rfl ?_))
     refine EVL.loadOwn tO rfl rfl rfl rfl rfl rfl (0) rfl (rfl) rfl rfl ?_
     try refine RUN ?_
     rw [wd]
     refine EVL.callW rfl rfl rfl rfl rfl _ [] (List.append_nil _).symm hL ?_
     rintro _ _ G8 ⟨rfl,out2,D3,ow3,css3,rfl,hD3,hown3,hns3⟩ hG8
     rw [List.append_nil ((b,T,_)::(D3++ow3))]
     have hl2:(ns++[p.nd rows]++Ls).length=ns.length+1+Ls.length:=by simp;omega
     rw [hl2] at hown3
     obtain ⟨oa3,oc3,rfl⟩:=hown3.val
     have hH8:=hH5.trans hG8
     have hR:=ih' (H:=G8) (b:=b) (T:=T) (dd:=dd+1) (s:=s2) (ns:=ns++[p.nd rows]++Ls) (hg.mono hH8) (hX.mono hH8) (hcf.mono hH8) oM oM hd1 (hw5.mono hG8) hhi3 hhim hD3 (by rw [hl2];exact hown3) hns3 (by rw [hl2];omega)
     rw [hl2] at hR
     generalize hRe:p.grow e (ns.length+1+Ls.length) (highL p.X c' t' rows) s2=Rp at *
     obtain ⟨Rs,s3⟩:=Rp
     dsimp only at hR
     try refine RUN ?_
     (repeat (first | refine EVL.nilB rfl rfl rfl rfl rfl ?_ | refine EVL.fldB tO rfl rfl rfl rfl rfl rfl rfl ?_ | refine EVL.val tO rfl rfl rfl rfl rfl ?_))
     refine EVL.loadOwn tO rfl rfl rfl rfl rfl rfl (0) rfl (rfl) rfl rfl ?_
     try refine RUN ?_
     rw [wd]
     refine EVL.callW rfl rfl rfl rfl rfl _ [] (List.append_nil _).symm hR ?_
     rintro _ _ G10 ⟨rfl,out4,D4,ow4,css4,rfl,hD4,hown4,hns4⟩ hG10
     rw [List.append_nil ((b,T,_)::(D4++ow4))]
     rw [show ns++[p.nd rows]++Ls++Rs=ns++p.nd rows::(Ls++Rs) by simp] at hown4 hns4
     obtain ⟨cA,cc1,cB,ecs,hAl,⟨a7,c7,hil7,rfl⟩,hput⟩:=rel_mid (fun c n h=>PNode.len h) hns4
     rw [ecs] at hown4
     clear ecs
     obtain ⟨go,capo,sp,rfl,rfl,hback⟩:=hown4.midS oM rfl
     have hl3:(ns++p.nd rows::(Ls++Rs)).length=ns.length+1+Ls.length+Rs.length:=by simp;omega
     try refine RUN ?_
     (repeat (first | refine EVL.nilB rfl rfl rfl rfl rfl ?_ | refine EVL.fldB tO rfl rfl rfl rfl rfl rfl rfl ?_ | refine EVL.val tO rfl rfl rfl rfl rfl ?_))
     refine EVL.loadOwn tO rfl rfl rfl rfl rfl rfl (0) rfl (rfl) rfl rfl ?_
     try refine RUN ?_
     refine EVL.idxB tO rfl rfl rfl rfl rfl rfl rfl rfl rfl (ns.length) (ns.length*21) (rfl) ((by rw [hl3];omega)) (rfl) ?_
     try refine RUN ?_
     (first | refine EVL.unbox (7) rfl fun gc=>?_ | refine EV.unbox (7) rfl fun gc=>?_)
     refine EVI.start (some 21) (gc,272,.int .i64 c'::(vlist (fracV t')++vlist (fracV g'))) ?_
     refine IV 0 ?_
     refine IV 1 ?_
     refine IV 2 ?_
     refine IV 3 ?_
     refine IF 4 ?_
     refine IL0 5 ?_
     refine IF 6 ?_
     refine IL0 7 ?_
     refine IV 8 ?_
     refine IV 9 ?_
     refine IN 10 ?_
     refine IF 11 ?_
     refine EVI.one 12 0 (.inr rfl) kR rfl ?_
     refine EVL.storeOwn tO rfl rfl rfl rfl rfl rfl ((gc,_,_)::(b,T,_)::D4) ([]) rfl rfl rfl rfl ((row_fits (f:=0) hAl rfl (by show 0+1≤21;omega))) (row_set (f:=0) hAl rfl rfl (by show 0+1≤21;omega) rfl) ?_
     refine EVL.nil ⟨rfl,?_⟩
     refine IN 13 ?_
     refine IF 14 ?_
     refine EVI.one 15 0 (.inr rfl) kR rfl ?_
     refine EVL.storeOwn tO rfl rfl rfl rfl rfl rfl ((gc,_,_)::(b,T,_)::D4) ([]) rfl rfl rfl rfl ((row_fits (f:=5) hAl rfl (by show 5+5≤21;omega))) (row_set (f:=5) hAl rfl rfl (by show 5+5≤21;omega) rfl) ?_
     refine EVL.nil ⟨rfl,?_⟩
     refine IN 16 ?_
     refine IF 17 ?_
     refine EVI.one 18 0 (.inr rfl) kR rfl ?_
     refine EVL.storeOwn tO rfl rfl rfl rfl rfl rfl ((gc,_,_)::(b,T,_)::D4) ([]) rfl rfl rfl rfl ((row_fits (f:=1) hAl rfl (by show 1+1≤21;omega))) (row_set (f:=1) hAl rfl rfl (by show 1+1≤21;omega) rfl) ?_
     refine EVL.nil ⟨rfl,?_⟩
     refine IN 19 ?_
     refine IF 20 ?_
     refine EVI.one 21 0 (.inr rfl) kR rfl ?_
     refine EVL.storeOwn tO rfl rfl rfl rfl rfl rfl ((gc,_,_)::(b,T,_)::D4) ([]) rfl rfl rfl rfl ((row_fits (f:=2) hAl rfl (by show 2+1≤21;omega))) (row_set (f:=2) hAl rfl rfl (by show 2+1≤21;omega) rfl) ?_
     refine EVL.subOw [] [(gc,_,_)] _ rfl ?_
     refine EVL.nil ⟨rfl,?_⟩
     refine EVI.nil 0 (.inl kR) kR ?_
     try refine RUN ?_
     obtain ⟨n2,hn2⟩:∃ n2:Nd,({ p.nd rows with col:=c',left:=((ns.length+1:Nat):Int),right:=((ns.length+1+Ls.length:Nat):Int),at':=t' }:Nd)=n2:=⟨_,rfl⟩
     have hpn:PNode G10 ([.int .i64 c',.int .i64 ((ns.length+1:Nat):Int),.int .i64 ((ns.length+1+Ls.length:Nat):Int),.int .i64 (p.nd rows).rows,.int .i64 (p.nd rows).cls]++(vlist (fracV t')++(vlist (fracV (p.nd rows).cost)++(vlist (fracV (p.nd rows).value)++[.slice a7 (p.nd rows).counts.length c7])))) n2:=by
      subst hn2
      exact ⟨a7,c7,hil7,rfl⟩
     rw [hn2]
     have hl4:(ns++n2::(Ls++Rs)).length=(ns++p.nd rows::(Ls++Rs)).length:=by simp
     refine ⟨rfl,_,D4,_,_,rfl,hD4,?_,hput _ _ hpn⟩
     rw [hl4]
     exact hback _ rfl
section
variable {P:Program} {n:Nat} {ops:Array Oper} {fuel:Nat} {L:Array Bool} {env:Env} {bx:Bxs} {H:Hs} {K:Env→Bxs→Hs→Prop} {τ:Tab} {d:Nat} {o:Oper} {v:Value}
theorem EVL.eqnilP {rest:List Oper} {Q:EQ} {T T' e:TypeId} {x:Operand} {p:Addr} (hT:P.underlying T=some (.pointer e)) (ho:o.op=.binOp .eql T x (.const (.pointer none)) T') (hw:wantB ops env o=some true) (hd:o.dst=some d) (hn:Nat.blt d n=true)
  (hx:env.op x=some (.v (.pointer (some p)))) (h:EVL P n ops rest ((d,.v (.bool false))::env) bx H Q):EVL P n ops (o::rest) env bx H Q :=
 EVL.gen hw hd hn (fun ev W he=>by
  have ex:=he x _ (by simp [ho,Op.operands]) hx
  have ey:=he (.const (.pointer none)) _ (by simp [ho,Op.operands]) rfl
  have hq:(Op.equalIn (9999+1) T (.pointer (some p)) (.pointer none)).run P W=.ok false W:=by
   unfold Op.equalIn
   simp [run_underlying hT]
  have hm:Op.maxDepth=9999+1:=rfl
  unfold execOp
  simp [ho,ex,ey,eqGuard,binOp,Op.equal,hm,hq]) h
end
theorem dnew_po {H:Hp} (s:Int):PO prog 38 #[.int .u64 s] H fun v ow=>∃ g,v=.pointer (some ⟨g,0,none⟩)∧ow=[(g,162,[.int .u64 s])] :=
 ⟨(cO func38),fun W _ _=>(dnew_any s W).mono fun e W' ⟨he,hw⟩=>by
  subst hw
  refine ⟨_,_,he,⟨_,rfl,rfl⟩,⟨by simp,fun b T cs h=>?_⟩,(Below.refl _ _).alloc (Nat.le_refl _) _⟩
  rw [List.mem_singleton] at h
  cases h
  exact ⟨Nat.le_refl _,Box.new W _ _⟩⟩
theorem pnext_pw {H:Hp} {b:Nat} {T:TypeId} {s:Int} (hs:0≤s) :
  PW prog 84 #[.pointer (some ⟨b,0,none⟩)] H [(b,T,[.int .u64 s])] fun v ow _=>v=.int .u64 (mix (nxt s))∧(∃ T',ow=[(b,T',[.int .u64 (nxt s)])])∧0≤nxt s:=by
 refine ⟨(cO func84),fun W hf hg hL hd=>?_⟩
 obtain ⟨hB,hHb,_⟩:=hL 0 b T _ rfl
 refine (dnext_die b s W ⟨hs,T,hB⟩).mono ?_
 rintro e W' ⟨rfl,⟨hs',T',hdie⟩,hk,_⟩
 refine ⟨_,[(b,T',[.int .u64 (nxt s)])],H,rfl,⟨rfl,⟨T',rfl⟩,hs'⟩,Hp.Le.refl _,fun k c hc=>?_,Nw.refl _ _ _,hk.mono (fun k _ e=>by subst e;exact Ows.bs_mem (j:=0) rfl),fun j b' T1 cs hj=>?_,?_⟩
 ·obtain ⟨T3,fz,hW⟩:=hf k c hc
  refine ⟨T3,fz,?_⟩
  rw [hk.block k (hf.lt (by rw [hc];simp)) (fun e=>by subst e;rw [hHb] at hc;cases hc)];exact hW
 ·cases j with
  | zero =>
   cases (show some (b,T',[Value.int .u64 (nxt s)])=some (b',T1,cs) from hj)
   exact ⟨hdie,.inr (Ows.bs_mem (j:=0) rfl),hHb⟩
  | succ j=>simp at hj
 ·intro j j' b' T1 T2 c1 c2 h1 h2
  cases j with
  | zero=>cases j' with
   | zero=>rfl
   | succ j'=>simp at h2
  | succ j=>simp at h1
theorem porder_pw {H:Hp} {b n:Nat} {T:TypeId} {s:Int} (hs:0≤s) (hn:1≤n) (hn2:n≤65536) :
  PW prog 92 #[.pointer (some ⟨b,0,none⟩),.int .i64 (n:Int)] H [(b,T,[.int .u64 s])] fun v ow H'=>(∃ T',ow=[(b,T',[.int .u64 (orderL n s).2])])∧0≤(orderL n s).2∧IL H' v (orderL n s).1∧∃ a,v=.slice a (orderL n s).1.length (orderL n s).1.length :=
 PW.of_order (cO func92) hs fun W hd=>by
  have:=dorder_die b n s W hd hn hn2
  rw [orderL_len]
  exact this
theorem pdraw_pw {H:Hp} {b n k:Nat} {T:TypeId} {s:Int} (hs:0≤s) (hn:1≤n) (hn2:n≤1000000) (hk:1≤k) (hk2:k≤65536) :
  PW prog 87 #[.pointer (some ⟨b,0,none⟩),.int .i64 (n:Int),.int .i64 (k:Int)] H [(b,T,[.int .u64 s])] fun v ow H'=>(∃ T',ow=[(b,T',[.int .u64 (drawL n k s).2])])∧0≤(drawL n k s).2∧IL H' v (drawL n k s).1∧∃ a,v=.slice a (drawL n k s).1.length (drawL n k s).1.length :=
 PW.of_order (cO func87) hs fun W hd=>by
  have:=ddraw_die b n k s W hd oM oM hk hk2
  rw [drawL_length]
  exact this
theorem pasc_pc {H:Hp} {v:Value} {l:List Int} (h:IL H v l) (hl:l.length≤100000):PC prog 86 #[v] H fun r H'=>IL H' r (sortI l) :=
 PC.of_po (E:=3) (PO.of_row (cO func86) fun W hf=>by
  obtain ⟨a,cap,rfl,hs,_⟩:=SlN.sl h hf
  rw [sortI_length]
  exact ascending_any _ l oM W hs)
theorem prest_pc {H:Hp} {v:Value} {l:List Int} (h:IL H v l) (n:Nat) (hn1:1≤n) (hn:n≤300) (hl:l.length≤100000):PC prog 88 #[.int .i64 (n:Int),v] H fun r H'=>IL H' r (restL n l) :=
 PC.of_po (E:=3) (PO.of_row (cO func88) fun W hf=>by
  obtain ⟨a,cap,rfl,hs,_⟩:=SlN.sl h hf
  exact rest_any n _ l W hs hn1 hn oM)
set_option maxHeartbeats 4000000 in
theorem psum_pc {H:Hp} {v:Value} {l:List Nat} (h:SlN n8 H v l) (hl:l.length≤1000000):PC prog 85 #[v] H fun r _=>r=.int .u64 (sumN l):=by
 obtain ⟨a,cap,rfl⟩:=SlC.val h
 refine BD func85 ntmps85 ?_
 try refine RUN ?_
 refine EV.loopK (ι:=Nat) [6,7] [] (fun q=>[(3,.v (.int .u64 (sumN (l.take q)))),(8,.v (.int .i64 (q:Int)))]) (fun _=>[]) (fun _=>[]) (fun q _=>q≤l.length) (fun q=>l.length-q) (0) rfl rfl ⟨rfl,rfl,trivial⟩ trivial rfl (fun _=>rfl) (Nat.zero_le _) ?_
 rintro i G1 hG1 hi
 try refine RUN ?_
 refine EV.cond rfl (fun hlt=>?_) (fun hlt=>?_)
 ·simp only [nN] at hlt
  obtain ⟨z,hz⟩:∃ z,l[i]?=some z:=⟨_,List.getElem?_eq_getElem hlt⟩
  try refine RUN ?_
  refine EVL.idxR tO rfl rfl rfl rfl rfl rfl rfl rfl rfl rfl ((h.mono hG1)) (i) (rfl) (hlt) ((by rw [List.getElem?_map,hz];rfl)) ?_
  try refine RUN ?_
  refine EVL.xorI rfl rfl rfl rfl rfl rfl ?_
  try refine RUN ?_
  refine ⟨i+1,⟨by rw [take_snoc hz,sumN_snoc];rfl,by rw [wi_inc i (by omega)];rfl,trivial⟩,sB,trivial,trivial,rfl,hlt,Hp.Le.refl _,by omega⟩
 ·simp only [nN] at hlt
  obtain rfl:i=l.length:=by omega
  rw [List.take_length]
  try refine RUN ?_
  rfl
set_option maxHeartbeats 4000000 in
theorem pfork_pw {H:Hp} {b:Nat} {T:TypeId} {s:Int} {t:ByteArray} (hs:0≤s) (ht:t.size≤1000000) :
  PW prog 39 #[.pointer (some ⟨b,0,none⟩),.string t] H [(b,T,[.int .u64 s])] fun v ow _=>∃ T' g,v=.pointer (some ⟨g,0,none⟩)∧ow=[(g,162,[.int .u64 (forkS s t)]),(b,T',[.int .u64 (nxt s)])]∧0≤nxt s∧0≤forkS s t:=by
 refine PW.body tO func39 rfl kR ntmps39 rfl rfl ?_
 try refine RUN ?_
 refine EVL.callW rfl rfl rfl rfl rfl ([(b,T,[.int .u64 s])]) ([]) rfl (pnext_pw hs) ?_
 rintro _ ow1 G1 ⟨rfl,⟨T1,rfl⟩,hn⟩ hG1
 try refine RUN ?_
 refine EVL.convCall (e:=5) rfl rfl rfl rfl Tryz.underlying9 Tryz.underlying165 Tryz.underlying5 rfl rfl rfl rfl rfl (fun G g cap c hc hG hcell=>psum_pc (l:=t.data.toList.map UInt8.toNat) ⟨by simp,?_⟩ (by simpa using ht)) fun g cap=>?_
 ·rw [List.length_map,Array.length_toList]
  refine .inr ⟨g,0,cap,c,rfl,hc,hG,fun j x hj=>?_⟩
  rw [List.getElem?_map,List.getElem?_map,Array.getElem?_toList] at hj
  cases hb:t.data[j]? with
  | none=>rw [hb] at hj;cases hj
  | some b =>
   rw [hb] at hj
   cases hj
   rw [Nat.zero_add]
   exact hcell j b hb
 refine EVL.xorI rfl rfl rfl rfl rfl rfl ?_
 refine EVL.callO rfl rfl rfl rfl rfl (dnew_po _) ?_
 rintro _ ow2 ⟨g2,rfl,rfl⟩
 try refine RUN ?_
 exact ⟨_,g2,rfl,rfl,hn,(bits_range _ _ _).1⟩
set_option maxHeartbeats 8000000 in
theorem pboot_pw {H:Hp} {b n:Nat} {T:TypeId} {s:Int} (hs:0≤s) (hn:1≤n) (hn2:n≤300) :
  PW prog 40 #[.int .i64 (n:Int),.pointer (some ⟨b,0,none⟩)] H [(b,T,[.int .u64 s])] fun v ow H'=>∃ T' u w,v=.tuple #[u,w]∧ow=[(b,T',[.int .u64 (drawL n n s).2])]∧0≤(drawL n n s).2∧IL H' u (sortI (drawL n n s).1)∧IL H' w (restL n (sortI (drawL n n s).1)):=by
 have hdl:=drawL_length n n s
 refine PW.body tO func40 rfl kR ntmps40 rfl rfl ?_
 try refine RUN ?_
 rw [decide_eq_false (show ¬ (n:Int)<1 by omega)]
 try refine RUN ?_
 rw [decide_eq_false (show ¬ (n:Int)>300 by omega)]
 try refine RUN ?_
 refine EVL.callW rfl rfl rfl rfl rfl ([(b,T,[.int .u64 s])]) ([]) rfl (pdraw_pw hs hn oM hn oM) ?_
 rintro v1 _ G2 ⟨⟨T1,rfl⟩,hs1,hil,a1,rfl⟩ hG1
 try refine RUN ?_
 refine EVL.call rfl rfl rfl rfl rfl (pasc_pc hil oM) ?_
 intro r3 G3 hr3 hG3
 obtain ⟨a3,c3,rfl⟩:=SlC.val hr3
 try refine RUN ?_
 refine EVL.call rfl rfl rfl rfl rfl (prest_pc hr3 n hn hn2 (by rw [sortI_length];omega)) ?_
 intro r4 G4 hr4 hG4
 try refine RUN ?_
 exact ⟨T1,_,_,rfl,rfl,hs1,hr3.mono hG4,hr4⟩
theorem pcols_ok {H:Hp} {p:GP} {bd a b c w sm:Nat} (hds:∀ s,p.cols s=((orderL w s).1.take sm,(orderL w s).2)) (hsm:sm≤w) (hw1:1≤w) (hw2:w≤1000) (ha:H a=some ([.pointer (some ⟨bd,0,none⟩)]:List Value).toArray) (hb:H b=some ([.int .i64 (w:Int)]:List Value).toArray) (hc:H c=some ([.int .i64 (sm:Int)]:List Value).toArray) :
  ColsOk H 91 [.pointer (some ⟨a,0,none⟩),.pointer (some ⟨b,0,none⟩),.pointer (some ⟨c,0,none⟩)] (.pointer (some ⟨bd,0,none⟩)) p:=by
 intro G hG D s hD
 rcases hD with ⟨e1,_⟩ | ⟨bd',T,e1,rfl,hs⟩
 ·cases e1
 cases e1
 have hcs:(p.cols s).1=(orderL w s).1.take sm:=by rw [hds]
 have hcs2:(p.cols s).2=(orderL w s).2:=by rw [hds]
 rw [hcs,hcs2]
 refine PW.body tO func91 rfl kR ntmps91 rfl rfl ?_
 try refine RUN ?_
 refine EV.asRo 0 rfl (hG _ _ ha) ?_
 refine EV.asRo 1 rfl (hG _ _ hb) ?_
 refine EV.asRo 2 rfl (hG _ _ hc) ?_
 refine EVG.start (Fits G) none ?_
 refine IR 0 ?_ rfl
 refine IR 1 ?_ rfl
 refine IR 3 ?_ rfl
 refine EVG.one 2 (fitsI (Hp.Le.refl _)) kR rfl ?_
 refine EVL.callW rfl rfl rfl rfl rfl ([(bd,T,[.int .u64 s])]) ([]) rfl (porder_pw hs hw1 oM) ?_
 rintro v2 _ G2 ⟨⟨T2,rfl⟩,hs2,hil,oa2,rfl⟩ hG2
 refine EVL.nil ⟨rfl,?_⟩
 refine EVG.one 4 (fitsI hG2) kR rfl ?_
 refine EVL.slc (te':=Tryz.te3) tO rfl rfl rfl rfl rfl rfl rfl rfl 0 sm (.inl ⟨rfl,rfl⟩) (.inr ⟨_,IntKind.i64,rfl,rfl⟩) (Nat.zero_le _) (by rw [orderL_len];exact hsm) (Nat.le_refl _) ?_
 refine EVL.nil ⟨rfl,?_⟩
 refine EVG.one 5 (fitsI hG2) kR rfl ?_
 (try refine RUNL ?_)
 refine EVL.nil ⟨rfl,?_⟩
 refine EVG.nil (fitsI hG2) kR ?_
 try refine RUN ?_
 exact ⟨hil.pre sm (by rw [orderL_len];exact hsm) 1,.inr ⟨bd,T2,rfl,rfl,hs2⟩⟩
set_option maxRecDepth 100000 in
set_option maxHeartbeats 32000000 in
theorem pcheckT_pc {H:Hp} {kd cl w:Int} {ns:List Nd} {cs:List Value} (ht:PTree H cs kd cl w ns) (hok:TreeOk ⟨kd,cl,w,ns⟩):PC prog 54 #[.agg cs.toArray] H fun r _=>r=.int .i64 0:=by
 obtain ⟨a,cp,css,rfl,hns,hsl⟩:=ht
 obtain ⟨hkd,hw,hln,⟨hh,hh10,hsub⟩,hall⟩:=hok
 dsimp only at hkd hw hln hsub hall
 have hpos:=hsub.end0
 refine BD func54 ntmps54 ?_
 try refine RUN ?_
 refine EVL.meetK (ι:=Bool) [1,2] [1] (fun _=>[(17,.v (.bool false))]) (fun _=>[]) (fun _=>[]) (fun _ G=>H.Le G) rfl rfl (fun _=>rfl) ?_ ?_
 ·rcases hkd with ⟨rfl,_⟩ | ⟨rfl,rfl⟩
  ·(try refine RUN ?_)
   exact ⟨true,⟨rfl,trivial⟩,sB,trivial,sB,rfl,Hp.Le.refl _⟩
  ·(try refine RUN ?_)
   exact ⟨true,⟨rfl,trivial⟩,sB,trivial,sB,rfl,Hp.Le.refl _⟩
 rintro _ G1 hG1
 try refine RUN ?_
 rw [decide_eq_false (show ¬ w<1 by omega)]
 try refine RUN ?_
 rw [decide_eq_false (show ¬ w>20 by omega)]
 try refine RUN ?_
 rw [decide_eq_false (show ¬ (ns.length:Int)<1 by omega)]
 try refine RUN ?_
 rw [decide_eq_false (show ¬ (ns.length:Int)>2000 by omega)]
 try refine RUN ?_
 refine EVL.meetK (ι:=Bool) [1,2] [1] (fun _=>[(60,.v (.bool false))]) (fun _=>[]) (fun _=>[]) (fun _ G=>H.Le G) rfl rfl (fun _=>rfl) ?_ ?_
 ·rcases hkd with ⟨rfl,h1,h2⟩ | ⟨rfl,rfl⟩
  ·(try refine RUN ?_)
   rw [decide_eq_false (show ¬ cl<1 by omega)]
   try refine RUN ?_
   rw [decide_eq_false (show ¬ cl>12 by omega)]
   try refine RUN ?_
   exact ⟨true,⟨rfl,trivial⟩,sB,trivial,sB,rfl,hG1⟩
  ·(try refine RUN ?_)
   exact ⟨true,⟨rfl,trivial⟩,sB,trivial,sB,rfl,hG1⟩
 rintro _ G2 hG2
 try refine RUN ?_
 (first | refine EVL.unbox (3) rfl fun g3=>?_ | refine EV.unbox (3) rfl fun g3=>?_)
 try refine RUN ?_
 refine EVL.callW rfl rfl rfl rfl rfl ([(g3,183,walkC kd cl w (.slice a ns.length cp) 0)]) ([]) rfl (pend_pw oM hsub (hns.mono hG2) (hsl.mono hG2) (deep:=0) (Nat.le_refl _)) ?_
 rintro _ _ G3 ⟨rfl,far,rfl,hfar⟩ hG3
 try refine RUN ?_
 rw [show ((ns.length:Int) != (ns.length:Int))=false from bne_self_eq_false _]
 try refine RUN ?_
 refine EVL.fldB tO rfl rfl rfl rfl rfl rfl rfl ?_
 refine EVL.loadOwn tO rfl rfl rfl rfl rfl rfl (0) rfl (rfl) rfl rfl ?_
 try refine RUN ?_
 rw [decide_eq_false (show ¬ far>10 by omega)]
 try refine RUN ?_
 refine EV.loopK (ι:=Nat) [1,80,81] [1] (fun q=>[(82,.v (.int .i64 (q:Int)))]) (fun _=>[]) (fun _=>[(g3,_,walkC kd cl w (.slice a ns.length cp) far)]) (fun q _=>q≤ns.length) (fun q=>ns.length-q) (0) rfl rfl ⟨rfl,trivial⟩ trivial rfl (fun _=>rfl) (Nat.zero_le _) ?_
 rintro i G4 hG4 hi
 have hH4:=hG2.trans (hG3.trans hG4)
 try refine RUN ?_
 refine EV.cond rfl (fun hlt=>?_) (fun hlt=>?_)
 ·simp only [nN] at hlt
  obtain ⟨n,hn,hN,hC⟩:=hall i hlt
  obtain ⟨c,hcut,hnd⟩:=(hns.mono hH4).get hn
  obtain ⟨a7,c7,rfl,_⟩:=hnd.cells
  try refine RUN ?_
  refine EVL.idxM tO rfl rfl rfl rfl rfl rfl rfl rfl rfl ((hsl.mono hH4)) (i) (rfl) (hlt) (hcut) ?_
  repeat (first | refine RUN ?_ | refine CV (palone_pc hkd hnd hN) ?_ | refine CE (palone_pc hkd hnd hN) ?_)
  refine ⟨i+1,⟨by rw [wi_inc i (by omega)];rfl,trivial⟩,sB,trivial,sB,rfl,hlt,Hp.Le.refl _,by omega⟩
 ·simp only [nN] at hlt
  try refine RUN ?_
  refine EV.loopK (ι:=Nat) [1,92,93] [1] (fun q=>[(94,.v (.int .i64 (q:Int)))]) (fun _=>[]) (fun _=>[(g3,_,walkC kd cl w (.slice a ns.length cp) far)]) (fun q _=>q≤ns.length) (fun q=>ns.length-q) (0) rfl rfl ⟨rfl,trivial⟩ trivial rfl (fun _=>rfl) (Nat.zero_le _) ?_
  rintro j G5 hG5 hj
  have hH5:=hH4.trans hG5
  try refine RUN ?_
  refine EV.cond rfl (fun hlj=>?_) (fun hlj=>?_)
  ·simp only [nN] at hlj
   obtain ⟨n,hn,hN,hC⟩:=hall j hlj
   obtain ⟨c,hcut,hnd⟩:=(hns.mono hH5).get hn
   obtain ⟨a7,c7,rfl,_⟩:=hnd.cells
   try refine RUN ?_
   refine EVL.idxM tO rfl rfl rfl rfl rfl rfl rfl rfl rfl ((hsl.mono hH5)) (j) (rfl) (hlj) (hcut) ?_
   try refine RUN ?_
   by_cases hcol:n.col = -1
   ·apply EV.drawn 20 kR kR;intro xv yw
    (repeat (first | refine' DV ?_ | refine' DA ?_ | refine' DK0 ?_ | refine' DT ?_ | refine' DS ?_))
    rw [show (n.col != -1)=false by rw [hcol];rfl]
    (repeat (first | refine' DV ?_ | refine' DA ?_ | refine' DK0 ?_ | refine' DT ?_ | refine' DS ?_))
    (refine DJ.nil (fun G hG hF=>?_);(case hS|hS2=>rfl))
    try refine RUN ?_
    refine ⟨j+1,⟨by rw [wi_inc j (by omega)];rfl,trivial⟩,sB,trivial,sB,rfl,hlj,hG,by omega⟩
   ·obtain ⟨hc0,hl0,hr0,na,nb,hna,hnb,hCC⟩:=hC hcol
    have hla:=(List.getElem?_eq_some_iff.1 hna).1
    have hlb:=(List.getElem?_eq_some_iff.1 hnb).1
    obtain ⟨na',ena,hNa,_⟩:=hall _ hla
    obtain ⟨nb',enb,hNb,_⟩:=hall _ hlb
    cases hna.symm.trans ena
    cases hnb.symm.trans enb
    obtain ⟨ca,hcuta,hnda⟩:=(hns.mono hH5).get hna
    obtain ⟨cb,hcutb,hndb⟩:=(hns.mono hH5).get hnb
    obtain ⟨xa7,xc7,rfl,_⟩:=hnda.cells
    obtain ⟨ya7,yc7,rfl,_⟩:=hndb.cells
    apply EV.drawn 20 kR kR;intro xv yw
    (repeat (first | refine' DV ?_ | refine' DA ?_ | refine' DK0 ?_ | refine' DT ?_ | refine' DS ?_))
    rw [show (n.col != -1)=true from bne_iff_ne.2 hcol]
    (repeat (first | refine' DV ?_ | refine' DA ?_ | refine' DK0 ?_ | refine' DT ?_ | refine' DS ?_))
    refine' DJ.idxM tO rfl rfl rfl rfl rfl rfl rfl rfl rfl ((hsl.mono hH5)) (n.left.toNat) ((by rw [Int.toNat_of_nonneg hl0])) (hla) (hcuta) ?_;rotate_left
    (repeat (first | refine' DV ?_ | refine' DA ?_ | refine' DK0 ?_ | refine' DT ?_ | refine' DS ?_))
    refine' DJ.idxM tO rfl rfl rfl rfl rfl rfl rfl rfl rfl ((hsl.mono hH5)) (n.right.toNat) ((by rw [Int.toNat_of_nonneg hr0])) (hlb) (hcutb) ?_;rotate_left
    (repeat (first | refine' DV ?_ | refine' DA ?_ | refine' DK0 ?_ | refine' DT ?_ | refine' DS ?_))
    refine' DJ.callS rfl rfl rfl rfl rfl (cO func106) (fun G hG hd=>padds_pc hkd (hnd.mono hG) (hnda.mono hG) (hndb.mono hG) hN hNa hNb hCC) ?_;rotate_left
    (repeat (first | refine' DV ?_ | refine' DA ?_ | refine' DK0 ?_ | refine' DT ?_ | refine' DS ?_))
    (refine DJ.nil (fun G hG hF=>?_);(case hS|hS2=>rfl))
    try refine RUN ?_
    refine ⟨j+1,⟨by rw [wi_inc j (by omega)];rfl,trivial⟩,sB,trivial,sB,rfl,hlj,hG,by omega⟩
  ·(try refine RUN ?_)
   rfl
def lastL (l:List Int) (q:Nat):Int:=if q=0 then -1 else l.getD (q-1) 0
set_option maxRecDepth 100000 in
set_option maxHeartbeats 32000000 in
theorem pcheckF_pc {H:Hp} {kd cl w:Int} {a1 a2:Option Addr} {c1 c2:Nat} {ts:List Tr} {os:List (List Int)} (ht:PTL H (.slice a1 ts.length c1) ts) (ho:ILL H (.slice a2 os.length c2) os) (hok:∀ t,t∈ts→TreeOk t) (hlo:∀ l,l∈os→l.length≤1000000) (hol:os.length≤1000000) :
  PC prog 16 #[forestV kd cl w (.slice a1 ts.length c1) (.slice a2 os.length c2)] H fun r _=>r=.int .i64 (checkF kd cl w ts os):=by
 obtain ⟨tcs,hts,hst⟩:=ht
 obtain ⟨vos,hos,hso⟩:=ho
 refine BD func16 ntmps16 ?_
 try refine RUN ?_
 by_cases h1:ts.length<1
 ·rw [decide_eq_true (show (ts.length:Int)<1 by omega)]
  try refine RUN ?_
  unfold checkF;rw [if_pos (.inl h1)]
 rw [decide_eq_false (show ¬ (ts.length:Int)<1 by omega)]
 try refine RUN ?_
 by_cases h2:50<ts.length
 ·rw [decide_eq_true (show (ts.length:Int)>50 by omega)]
  try refine RUN ?_
  unfold checkF;rw [if_pos (.inr (.inl h2))]
 rw [decide_eq_false (show ¬ (ts.length:Int)>50 by omega)]
 try refine RUN ?_
 by_cases h3:os.length=ts.length
 case neg =>
  rw [show ((os.length:Int) != (ts.length:Int))=true by rw [bne_iff_ne];omega]
  try refine RUN ?_
  unfold checkF;rw [if_pos (.inr (.inr h3))]
 rw [show ((os.length:Int) != (ts.length:Int))=false by rw [h3];exact bne_self_eq_false _]
 have hc1:checkF kd cl w ts os=if ts.all (fitT kd cl w)=true then (if os.all okL=true then 0 else 1) else 10:=by
  unfold checkF;rw [if_neg (by omega)]
 try refine RUN ?_
 refine EV.loopK (ι:=Nat) [1,31,32] [1] (fun q=>[(33,.v (.int .i64 (q:Int)))]) (fun _=>[]) (fun _=>[]) (fun q _=>q≤ts.length∧(ts.take q).all (fitT kd cl w)=true) (fun q=>ts.length-q) (0) rfl rfl ⟨rfl,trivial⟩ trivial rfl (fun _=>rfl) (⟨Nat.zero_le _,rfl⟩) ?_
 rintro i G1 hG1 ⟨hi,hall⟩
 try refine RUN ?_
 refine EV.cond rfl (fun hlt=>?_) (fun hlt=>?_)
 ·simp only [nN] at hlt
  obtain ⟨t,hti⟩:∃ t,ts[i]?=some t:=⟨_,List.getElem?_eq_getElem hlt⟩
  obtain ⟨c,hcut,htr⟩:=(hts.mono hG1).get hti
  have hck:=pcheckT_pc htr (hok t (List.mem_of_getElem? hti))
  obtain ⟨na,nc,css,rfl,_⟩:=id htr
  try refine RUN ?_
  refine EVL.idxM tO rfl rfl rfl rfl rfl rfl rfl rfl rfl ((hst.mono hG1)) (i) (rfl) (hlt) (hcut) ?_
  repeat (first | refine RUN ?_ | refine CV (hck) ?_ | refine CE (hck) ?_)
  by_cases e1:t.kd=kd
  case neg =>
   rw [show (t.kd != kd)=true from bne_iff_ne.2 e1]
   try refine RUN ?_
   rw [hc1,all_not hti (show fitT kd cl w t=false by unfold fitT;rw [show (t.kd == kd)=false from beq_eq_false_iff_ne.2 e1,Bool.false_and])];rfl
  rw [show (t.kd != kd)=false by rw [e1];exact bne_self_eq_false _]
  try refine RUN ?_
  by_cases e2:t.cl=cl
  case neg =>
   rw [show (t.cl != cl)=true from bne_iff_ne.2 e2]
   try refine RUN ?_
   rw [hc1,all_not hti (show fitT kd cl w t=false by unfold fitT;rw [show (t.cl == cl)=false from beq_eq_false_iff_ne.2 e2,Bool.false_and,Bool.and_false])];rfl
  rw [show (t.cl != cl)=false by rw [e2];exact bne_self_eq_false _]
  try refine RUN ?_
  by_cases e3:t.w=w
  case neg =>
   rw [show (t.w != w)=true from bne_iff_ne.2 e3]
   try refine RUN ?_
   rw [hc1,all_not hti (show fitT kd cl w t=false by unfold fitT;rw [show (t.w == w)=false from beq_eq_false_iff_ne.2 e3,Bool.and_false,Bool.and_false])];rfl
  rw [show (t.w != w)=false by rw [e3];exact bne_self_eq_false _]
  have hfit:fitT kd cl w t=true:=by unfold fitT;rw [e1,e2,e3];simp
  try refine RUN ?_
  refine ⟨i+1,⟨by rw [wi_inc i (by omega)];rfl,trivial⟩,sB,trivial,sB,rfl,⟨hlt,all_take hti hfit hall⟩,Hp.Le.refl _,by omega⟩
 ·simp only [nN] at hlt
  obtain rfl:i=ts.length:=by omega
  rw [List.take_length] at hall
  rw [if_pos hall] at hc1
  try refine RUN ?_
  refine EV.loopK (ι:=Nat) [1,63,64] [1] (fun q=>[(65,.v (.int .i64 (q:Int)))]) (fun _=>[]) (fun _=>[]) (fun q _=>q≤os.length∧(os.take q).all okL=true) (fun q=>os.length-q) (0) rfl rfl ⟨rfl,trivial⟩ trivial rfl (fun _=>rfl) (⟨Nat.zero_le _,rfl⟩) ?_
  rintro i G2 hG2 ⟨hi,hallo⟩
  have hH2:=hG1.trans hG2
  try refine RUN ?_
  refine EV.cond rfl (fun hlo1=>?_) (fun hlo1=>?_)
  ·simp only [nN] at hlo1
   obtain ⟨l,hl⟩:∃ l,os[i]?=some l:=⟨_,List.getElem?_eq_getElem hlo1⟩
   obtain ⟨la,lc,hv,hil⟩:=(hos.mono hH2).get hl
   have hll:=hlo l (List.mem_of_getElem? hl)
   try refine RUN ?_
   refine EVL.idxR tO rfl rfl rfl rfl rfl rfl rfl rfl rfl rfl ((hso.mono hH2)) (i) (rfl) (hlo1) (hv) ?_
   try refine RUN ?_
   refine EV.loopK (ι:=Nat) [1,63,64,65,69,70] [1] (fun q=>[(8,.v (.int .i64 (lastL l q))),(71,.v (.int .i64 (q:Int)))]) (fun _=>[]) (fun _=>[]) (fun q _=>q≤l.length∧∀ j,j<q→okAt l j=true) (fun q=>l.length-q) (0) rfl rfl ⟨rfl,rfl,trivial⟩ trivial rfl (fun _=>rfl) (⟨Nat.zero_le _,fun j hj=>absurd hj (Nat.not_lt_zero _)⟩) ?_
   rintro q G3 hG3 ⟨hq,hok3⟩
   have hH3:=hH2.trans hG3
   try refine RUN ?_
   refine EV.cond rfl (fun hlq=>?_) (fun hlq=>?_)
   ·simp only [nN] at hlq
    obtain ⟨z,hz⟩:∃ z,l[q]?=some z:=⟨_,List.getElem?_eq_getElem hlq⟩
    have hgz:l.getD q 0=z:=by rw [List.getD_eq_getElem?_getD,hz];rfl
    have hbad:okAt l q=false→checkF kd cl w ts os=1:=fun e=>by
     rw [hc1,if_neg (by rw [all_not hl (okL_not hlq e)];decide)]
    have hstep:okAt l q=true→∀ j,j<q+1→okAt l j=true:=fun e j hj=>by
     by_cases h:j<q
     ·exact hok3 j h
     ·obtain rfl:j=q:=by omega
      exact e
    have hprev:0<q→0≤l.getD (q-1) 0:=fun h=>by
     have:=hok3 (q-1) oM
     unfold okAt at this
     simp only [Bool.and_eq_true,decide_eq_true_eq] at this
     exact this.1
    have hlast:lastL l (q+1)=z:=by unfold lastL;rw [if_neg oM,Nat.add_sub_cancel,hgz]
    have hoka:okAt l q=true↔(lastL l q<z∧z<300):=by
     unfold okAt lastL
     rw [hgz]
     by_cases h0:q=0
     ·subst h0;simp;omega
     ·have:=hprev oM
      rw [if_neg h0,show (q == 0)=false from beq_eq_false_iff_ne.2 h0]
      simp only [Bool.and_eq_true,decide_eq_true_eq,Bool.false_or]
      omega
    generalize lastL l q=last at *
    try refine RUN ?_
    refine EVL.idxR tO rfl rfl rfl rfl rfl rfl rfl rfl rfl rfl ((hil.mono hG3)) (q) (rfl) (hlq) ((by rw [List.getElem?_map,hz];rfl)) ?_
    try refine RUN ?_
    by_cases z1:z≤last
    ·rw [decide_eq_true z1]
     try refine RUN ?_
     rw [hbad (by rw [← Bool.not_eq_true,hoka];omega)]
    rw [decide_eq_false z1]
    try refine RUN ?_
    by_cases z2:z≥300
    ·rw [decide_eq_true z2]
     try refine RUN ?_
     rw [hbad (by rw [← Bool.not_eq_true,hoka];omega)]
    rw [decide_eq_false z2]
    try refine RUN ?_
    refine ⟨q+1,⟨by rw [hlast];rfl,by rw [wi_inc q (by omega)];rfl,trivial⟩,sB,trivial,sB,rfl,⟨hlq,hstep (hoka.2 oM)⟩,Hp.Le.refl _,by omega⟩
   ·simp only [nN] at hlq
    obtain rfl:q=l.length:=by omega
    have hokl:okL l=true:=List.all_eq_true.2 fun j hj=>hok3 j (List.mem_range.1 hj)
    try refine RUN ?_
    refine ⟨i+1,⟨by rw [wi_inc i (by omega)];rfl,trivial⟩,sB,trivial,sB,rfl,⟨hlo1,all_take hl hokl hallo⟩,hG3,by omega⟩
  ·simp only [nN] at hlo1
   obtain rfl:i=os.length:=by omega
   rw [List.take_length] at hallo
   try refine RUN ?_
   rw [hc1,if_pos hallo]
inductive Leaf (T:List Nd) (x:List Rat):Nat→Nat→Prop
 | here {i:Nat} {n:Nd}:T[i]?=some n→n.col = -1→Leaf T x i i
 | low {i j:Nat} {n:Nd}:T[i]?=some n→n.col ≠ -1→x.getD n.col.toNat 0≤n.at'→Leaf T x n.left.toNat j→Leaf T x i j
 | high {i j:Nat} {n:Nd}:T[i]?=some n→n.col ≠ -1→¬ x.getD n.col.toNat 0≤n.at'→Leaf T x n.right.toNat j→Leaf T x i j
theorem Leaf.det {T:List Nd} {x:List Rat} {i j:Nat} (h:Leaf T x i j):∀ {k:Nat},Leaf T x i k→j=k:=by
 induction h with
 | here h1 h2 =>
  intro k h
  cases h with
  | here _ _=>rfl
  | low e n _ _=>rw [h1] at e;cases e;exact absurd h2 n
  | high e n _ _=>rw [h1] at e;cases e;exact absurd h2 n
 | low h1 h2 h3 _ ih =>
  intro k h
  cases h with
  | here e n=>rw [h1] at e;cases e;exact absurd n h2
  | low e n _ h=>rw [h1] at e;cases e;exact ih h
  | high e n h' _=>rw [h1] at e;cases e;exact absurd h3 h'
 | high h1 h2 h3 _ ih =>
  intro k h
  cases h with
  | here e n=>rw [h1] at e;cases e;exact absurd n h2
  | low e n h' _=>rw [h1] at e;cases e;exact absurd h' h3
  | high e n _ h=>rw [h1] at e;cases e;exact ih h
theorem Sub.at {T:List Nd} {w:Int} {k h e:Nat} (h0:Sub T w k h e):∀ i,k≤i→i<e→∃ h' e',Sub T w i h' e':=by
 induction h0 with
 | @leaf k h n a b c d e =>
  intro i h1 h2
  obtain rfl:i=k:=by omega
  exact ⟨0,_,.leaf a b c d e⟩
 | @node k h m e n a b c d f s1 s2 ih1 ih2 =>
  intro i h1 h2
  by_cases h3:i=k
  ·subst h3;exact ⟨_,_,.node a b c d f s1 s2⟩
  ·by_cases h4:i<m
   ·exact ih1 i oM h4
   ·exact ih2 i oM h2
set_option maxRecDepth 100000 in
set_option maxHeartbeats 16000000 in
theorem leaf_pc {H:Hp} {cs:List Value} {vx:Value} {kd cl w:Int} {ns:List Nd} {x:List Rat} (ht:PTree H cs kd cl w ns) (hok:TreeOk ⟨kd,cl,w,ns⟩) (hx:QL H vx x) (hxl:(x.length:Int)=w) (hxs:∀ q,q∈x→sm q) :
  PC prog 116 #[.agg cs.toArray,vx] H fun r G=>∃ j n c,Leaf ns x 0 j∧ns[j]?=some n∧OkN kd cl n∧r=.agg c.toArray∧PNode G c n:=by
 obtain ⟨a,cp,css,rfl,hns,hsl⟩:=ht
 obtain ⟨hkd,hw,hln,⟨hh,hh10,hsub⟩,hall⟩:=hok
 dsimp only at hkd hw hln hsub hall
 have hpos:=hsub.end0
 obtain ⟨xa,xc,rfl⟩:=SlC.val hx
 have hxS:SlC H (.slice xa x.length xc) x.length 5 (x.flatMap fun q=>vlist (fracV q)):=hx
 obtain ⟨n0,hn0⟩:∃ n,ns[0]?=some n:=⟨_,List.getElem?_eq_getElem hpos⟩
 obtain ⟨c0,hcut0,hnd0⟩:=hns.get hn0
 have hnd0':=hnd0
 obtain ⟨a07,c07,rfl,_⟩:=hnd0.cells
 refine BD func116 ntmps116 ?_
 try refine RUN ?_
 refine EVL.idxM tO rfl rfl rfl rfl rfl rfl rfl rfl rfl (hsl) (0) (rfl) (hpos) (hcut0) ?_
 try refine RUN ?_
 refine EV.loopK (ι:=Nat × List Value) [1,2,4,5] [2,4] (fun q=>[]) (fun q=>[(5,103,q.2)]) (fun _=>[]) (fun q G=>q.1<ns.length∧(∃ n,ns[q.1]?=some n∧PNode G q.2 n)∧∀ j,Leaf ns x q.1 j→Leaf ns x 0 j) (fun q=>ns.length-q.1) ((0,_)) rfl rfl trivial ⟨rfl,trivial⟩ rfl (fun _=>rfl) (⟨hpos,⟨n0,hn0,hnd0'⟩,fun j h=>h⟩) ?_
 rintro ⟨i,c⟩ G1 hG1 ⟨hi,⟨n,hn,hnd⟩,hlf⟩
 dsimp only at hi hn hnd hlf
 have hnd':=hnd
 obtain ⟨a7,c7,rfl,_⟩:=hnd.cells
 obtain ⟨n',hn',hN,_⟩:=hall i hi
 cases hn.symm.trans hn'
 obtain ⟨h',e',hsi⟩:=hsub.at i (Nat.zero_le _) hi
 have hle:=hsi.lt
 try refine RUN ?_
 cases hsi with
 | leaf q1 q2 q3 q4 q5 =>
  rw [hn] at q1
  cases q1
  rw [show (n.col != -1)=false by rw [q2];rfl]
  try refine RUN ?_
  exact ⟨i,n,_,hlf i (.here hn q2),hn,hN,rfl,hnd'⟩
 | @node _ h1 m _ _ q1 q2 q3 q4 q5 s1 s2 =>
  rw [hn] at q1
  cases q1
  have hm1:=s1.lt
  have hm2:=s2.lt
  have hcl:n.col.toNat<x.length:=by omega
  obtain ⟨y,hy⟩:∃ y,x[n.col.toNat]?=some y:=⟨_,List.getElem?_eq_getElem hcl⟩
  have hyg:x.getD n.col.toNat 0=y:=by rw [List.getD_eq_getElem?_getD,hy];rfl
  have hcmp:=cmp_pv y n.at' (hxs y (List.mem_of_getElem? hy)) (sm_of hN.small.1 oM)
  rw [show (n.col != -1)=true from bne_iff_ne.2 (by omega)]
  try refine RUN ?_
  apply EV.drawn 9 kR kR;intro xv yw
  (repeat (first | refine' DV ?_ | refine' DA ?_ | refine' DK0 ?_ | refine' DT ?_ | refine' DS ?_))
  refine' DJ.idxM tO rfl rfl rfl rfl rfl rfl rfl rfl rfl ((hxS.mono hG1)) (n.col.toNat) ((by rw [Int.toNat_of_nonneg q2])) (hcl) (QL.at (H:=H) (v:=.bool true) hy) ?_;rotate_left
  (repeat (first | refine' DV ?_ | refine' DA ?_ | refine' DK0 ?_ | refine' DT ?_ | (refine' DC (hcmp) (h:=?_);rotate_left) | refine' DS ?_))
  (refine DJ.nil (fun G2 hG2 hF2=>?_);(case hS|hS2=>rfl))
  by_cases hle2:y≤n.at'
  ·rw [decide_eq_true (ordR_le hle2)]
   obtain ⟨n2,hn2⟩:∃ n2,ns[n.left.toNat]?=some n2:=⟨_,List.getElem?_eq_getElem oM⟩
   obtain ⟨c2,hcut2,hnd2⟩:=(hns.mono (hG1.trans hG2)).get hn2
   have hnd2':=hnd2
   obtain ⟨b7,d7,rfl,_⟩:=hnd2.cells
   try refine RUN ?_
   refine EVL.idxM tO rfl rfl rfl rfl rfl rfl rfl rfl rfl ((hsl.mono (hG1.trans hG2))) (n.left.toNat) ((by rw [Int.toNat_of_nonneg (by omega)])) (oM) (hcut2) ?_
   try refine RUN ?_
   refine ⟨(n.left.toNat,_),trivial,sB,⟨rfl,trivial⟩,sB,rfl,⟨by dsimp only;omega,⟨n2,hn2,hnd2'⟩,fun j h=>hlf j (.low hn oM (by rw [hyg];exact hle2) h)⟩,hG2,by dsimp only;omega⟩
  ·rw [decide_eq_false (show ¬ ordR y n.at'≤0 from fun k=>hle2 (Rat.not_lt.1 fun k2=>by have:=(ordR_pos y n.at').2 k2;omega))]
   obtain ⟨n2,hn2⟩:∃ n2,ns[n.right.toNat]?=some n2:=⟨_,List.getElem?_eq_getElem oM⟩
   obtain ⟨c2,hcut2,hnd2⟩:=(hns.mono (hG1.trans hG2)).get hn2
   have hnd2':=hnd2
   obtain ⟨b7,d7,rfl,_⟩:=hnd2.cells
   try refine RUN ?_
   refine EVL.idxM tO rfl rfl rfl rfl rfl rfl rfl rfl rfl ((hsl.mono (hG1.trans hG2))) (n.right.toNat) ((by rw [Int.toNat_of_nonneg (by omega)])) (oM) (hcut2) ?_
   try refine RUN ?_
   refine ⟨(n.right.toNat,_),trivial,sB,⟨rfl,trivial⟩,sB,rfl,⟨by dsimp only;omega,⟨n2,hn2,hnd2'⟩,fun j h=>hlf j (.high hn oM (by rw [hyg];exact hle2) h)⟩,hG2,by dsimp only;omega⟩
set_option maxHeartbeats 4000000 in
theorem refuse_pc {H:Hp} {kd cl:Int} {w:Int} {a1 a2 xa:Option Addr} {c1 c2 xn xc:Nat} {ts:List Tr} {os:List (List Int)} (ht:PTL H (.slice a1 ts.length c1) ts) (ho:ILL H (.slice a2 os.length c2) os) (hok:∀ t,t∈ts→TreeOk t) (hlo:∀ l,l∈os→l.length≤1000000) (hol:os.length≤1000000) :
  PC prog 65 #[forestV kd cl w (.slice a1 ts.length c1) (.slice a2 os.length c2),.slice xa xn xc] H fun r _=>r=.int .i64 (if checkF kd cl w ts os=0 then (if (xn:Int)=w then 0 else 5) else 1):=by
 have hck:=pcheckF_pc (kd:=kd) (cl:=cl) (w:=w) ht ho hok hlo hol
 refine BD func65 ntmps65 ?_
 repeat (first | refine RUN ?_ | refine CV (hck) ?_ | refine CE (hck) ?_)
 by_cases h1:checkF kd cl w ts os=0
 ·rw [if_pos h1,show (checkF kd cl w ts os != 0)=false by rw [h1];rfl]
  try refine RUN ?_
  by_cases h2:(xn:Int)=w
  ·rw [if_pos h2,show ((xn:Int) != w)=false by rw [h2];exact bne_self_eq_false _]
   try refine RUN ?_
   rfl
  ·rw [if_neg h2,show ((xn:Int) != w)=true from bne_iff_ne.2 h2]
   try refine RUN ?_
   rfl
 ·rw [if_neg h1,show (checkF kd cl w ts os != 0)=true from bne_iff_ne.2 h1]
  try refine RUN ?_
  rfl
def Says (x:List Rat) (k:Int) (t:Tr):Prop:=∃ i n,Leaf t.ns x 0 i∧t.ns[i]?=some n∧n.cls=k
def CLs (x:List Rat) (ks:List Int) (ts:List Tr):Prop:=ks.length=ts.length∧∀ (j:Nat) (k:Int) (t:Tr),ks[j]?=some k→ts[j]?=some t→Says x k t
theorem topN_in {l:List Int} (h:0<l.length):topN l l.length<l.length:=by
 rcases topN_lt l l.length with k | k <;> omega
set_option maxRecDepth 100000 in
set_option maxHeartbeats 16000000 in
theorem count_pc {H:Hp} {C:Nat} {w:Int} {vt vo:Value} {a:Option Addr} {cp:Nat} {vx:Value} {ts:List Tr} {x:List Rat} (ht:PTL H (.slice a ts.length cp) ts) (hok:∀ t,t∈ts→TreeOk t∧fitT 1 C w t=true) (hC:1≤C∧C≤12) (hn:ts.length≤1000) (hx:QL H vx x) (hxl:(x.length:Int)=w) (hxs:∀ q,q∈x→sm q) :
  PC prog 66 #[forestV 1 C w vt vo,.slice a ts.length cp,vx] H fun r G=>∃ ks,CLs x ks ts∧IL G r (cntL C ks):=by
 obtain ⟨tcs,hts,hst⟩:=ht
 obtain ⟨xa,xc,rfl⟩:=SlC.val hx
 refine BD func66 ntmps66 ?_
 try refine RUN ?_
 refine EVL.make tO rfl rfl rfl rfl rfl rfl rfl rfl rfl (C) (rfl) oM (by rfl) (by rfl) fun b=>?_
 try refine RUN ?_
 (first | refine EVL.swapOw ([(b,3,(cntL C ([]:List Int)).map iv++[])]) ([]) ((by rw [← cnt_zero];rfl)) ?_ | refine EV.swapOw ([(b,3,(cntL C ([]:List Int)).map iv++[])]) ([]) ((by rw [← cnt_zero];rfl)) ?_)
 refine EV.loopK (ι:=List Int) [2,7,13,14] [] (fun ks=>[(15,.v (.int .i64 (ks.length:Int)))]) (fun _=>[]) (fun ks=>[(b,3,(cntL C ks).map iv++[])]) (fun ks _=>ks.length≤ts.length∧CLs x ks (ts.take ks.length)) (fun ks=>ts.length-ks.length) ([]) rfl rfl ⟨rfl,trivial⟩ trivial rfl (fun _=>rfl) (⟨Nat.zero_le _,⟨rfl,fun j k t e _=>by cases e⟩⟩) ?_
 rintro ks G2 hG2 ⟨hi,hks⟩
 try refine RUN ?_
 refine EV.cond rfl (fun hlt=>?_) (fun hlt=>?_)
 ·simp only [nN] at hlt
  obtain ⟨t,hti⟩:∃ t,ts[ks.length]?=some t:=⟨_,List.getElem?_eq_getElem hlt⟩
  obtain ⟨hto,htf⟩:=hok t (List.mem_of_getElem? hti)
  obtain ⟨cc,hcut,htr⟩:=(hts.mono hG2).get hti
  obtain ⟨a3,c3,css,rfl,_,_⟩:=id htr
  have hf3:t.kd=1∧t.cl=C∧t.w=w:=by
   unfold fitT at htf
   simp only [Bool.and_eq_true,beq_iff_eq] at htf
   exact htf
  have hlf:=leaf_pc htr hto (hx.mono hG2) (by rw [hf3.2.2];exact hxl) hxs
  try refine RUN ?_
  refine EVL.idxM tO rfl rfl rfl rfl rfl rfl rfl rfl rfl ((hst.mono hG2)) (ks.length) (rfl) (hlt) (hcut) ?_
  try refine RUN ?_
  refine EVL.call rfl rfl rfl rfl rfl (hlf) ?_
  rintro _ G3 ⟨i,n,c,hL,hni,hN,rfl,hp⟩ hG3
  obtain ⟨a7,c7,rfl,_⟩:=hp.cells
  have hlen:(n.counts.length:Int)=(C:Int):=by rw [← hf3.2.1];exact hN.len
  have hcls:=hN.cls
  have htop:=topN_in (l:=n.counts) oM
  generalize topN n.counts n.counts.length=k at *
  have hk:k<C:=by omega
  have hcl:ks.count (k:Int)≤1000:=Nat.le_trans List.count_le_length oM
  have hget:=cntL_at (C:=C) ks hk
  have hcn:=cntL_snoc (C:=C) ks hk
  have hlen2:=cntL_len C ks
  have hsay:Says x (k:Int) t:=⟨i,n,hL,hni,hcls⟩
  generalize cntL C ks=cs at *
  generalize ks.count (k:Int)=m at *
  have wm:IntKind.i64.wrap ((m:Int)+1)=((m+1:Nat):Int):=wi_inc m oM
  try refine RUN ?_
  rw [hcls]
  refine EVL.idxB tO rfl rfl rfl rfl rfl rfl rfl rfl rfl (k) (k*1) (rfl) (hk) (rfl) ?_
  refine EVL.loadOwn tO rfl rfl rfl rfl rfl rfl (0) rfl (ci_get [] hget) rfl rfl ?_
  try refine RUN ?_
  rw [wm]
  refine EVL.idxB tO rfl rfl rfl rfl rfl rfl rfl rfl rfl (k) (k*1) (rfl) (hk) (rfl) ?_
  refine EVL.storeOwn tO rfl rfl rfl rfl rfl rfl ([]) ([]) rfl rfl rfl rfl ((by rw [List.length_append,List.length_map,hlen2];show k*1+1≤_;omega)) (ci_set [] _ (show k<cs.length by omega)) ?_
  try refine RUN ?_
  refine ⟨ks++[(k:Int)],⟨by rw [wi_inc ks.length oM,List.length_append];rfl,trivial⟩,sB,trivial,sB,by rw [hcn];rfl,⟨by rw [List.length_append,List.length_singleton];omega,by rw [List.length_append,List.length_singleton,take_snoc hti];exact rel_snoc hks hsay⟩,hG3,by rw [List.length_append,List.length_singleton];omega⟩
 ·simp only [nN] at hlt
  have hi2:ks.length=ts.length:=by omega
  rw [hi2,List.take_length] at hks
  (first | refine EVL.publish [] [] rfl fun G3 hG3 hb3=>?_ | refine EV.publish [] [] rfl fun G3 hG3 hb3=>?_)
  try refine RUN ?_
  exact ⟨ks,hks,il_own hb3 (cntL_len _ _)⟩
set_option maxRecDepth 100000 in
set_option maxHeartbeats 16000000 in
theorem answerC_pc {H:Hp} {C:Nat} {w:Int} {vt vo:Value} {a:Option Addr} {cp:Nat} {vx:Value} {ts:List Tr} {x:List Rat} (ht:PTL H (.slice a ts.length cp) ts) (hok:∀ t,t∈ts→TreeOk t∧fitT 1 C w t=true) (hC:1≤C∧C≤12) (hn:ts.length≤1000) (hx:QL H vx x) (hxl:(x.length:Int)=w) (hxs:∀ q,q∈x→sm q) :
  PC prog 68 #[forestV 1 C w vt vo,.slice a ts.length cp,vx] H fun r _=>∃ ks,CLs x ks ts∧r=.tuple #[fracV 0,.int .i64 (topN (cntL C ks) C:Nat)]:=by
 have hcnt:=count_pc (vt:=vt) (vo:=vo) ht hok hC hn hx hxl hxs
 obtain ⟨xa,xc,rfl⟩:=SlC.val hx
 refine BD func68 ntmps68 ?_
 try refine RUN ?_
 refine EVL.call rfl rfl rfl rfl rfl (hcnt) ?_
 rintro r1 G1 ⟨ks,hks,hil⟩ hG1
 obtain ⟨la,lc,rfl⟩:=SlC.val hil
 have hlen:=cntL_len C ks
 generalize hcs:cntL C ks=l at *
 try refine RUN ?_
 refine EV.loopK (ι:=Nat) [6,8,21,22] [6] (fun q=>[(7,.v (.int .i64 (topN l q:Nat))),(23,.v (.int .i64 (q:Int)))]) (fun _=>[]) (fun _=>[]) (fun q _=>q≤l.length) (fun q=>l.length-q) (0) rfl rfl ⟨rfl,rfl,trivial⟩ trivial rfl (fun _=>rfl) (Nat.zero_le _) ?_
 rintro q G2 hG2 hq
 try refine RUN ?_
 refine EV.cond rfl (fun hlt=>?_) (fun hlt=>?_)
 ·simp only [nN] at hlt
  have hti:=topN_lt l q
  have htl:topN l q<l.length:=by omega
  have g1:=getD_at hlt
  have g2:=getD_at htl
  have hst:topN l (q+1)=if l.getD (topN l q) 0<l.getD q 0 then q else topN l q:=rfl
  generalize topN l q=tp at *
  generalize l.getD tp 0=z at *
  generalize l.getD q 0=y at *
  try refine RUN ?_
  refine EVL.idxR tO rfl rfl rfl rfl rfl rfl rfl rfl rfl rfl ((hil.mono hG2)) (q) (rfl) (hlt) ((by rw [List.getElem?_map,g1];rfl)) ?_
  try refine RUN ?_
  refine EVL.idxR tO rfl rfl rfl rfl rfl rfl rfl rfl rfl rfl ((hil.mono hG2)) (tp) (rfl) (htl) ((by rw [List.getElem?_map,g2];rfl)) ?_
  try refine RUN ?_
  by_cases h:y>z
  ·rw [decide_eq_true h]
   rw [if_pos h] at hst
   try refine RUN ?_
   refine ⟨q+1,⟨by rw [hst];rfl,by rw [wi_inc q (by omega)];rfl,trivial⟩,sB,trivial,sB,rfl,by omega,Hp.Le.refl _,by omega⟩
  ·rw [decide_eq_false h]
   rw [if_neg h] at hst
   try refine RUN ?_
   refine ⟨q+1,⟨by rw [hst];rfl,by rw [wi_inc q (by omega)];rfl,trivial⟩,sB,trivial,sB,rfl,by omega,Hp.Le.refl _,by omega⟩
 ·simp only [nN] at hlt
  obtain rfl:q=l.length:=by omega
  try refine RUN ?_
  refine ⟨ks,hks,?_⟩
  rw [hcs,← hlen,← fracV_zero]
set_option maxHeartbeats 4000000 in
theorem sumB_pc {H:Hp} {v:Value} {l:List Rat} (h:QL H v l) (hl:l.length≤20) (hb:∀ q,q∈l→ht q≤2000000):PC prog 77 #[v] H fun r _=>r=fracV (sumQ l):=by
 obtain ⟨a,cap,rfl⟩:=SlC.val h
 have hz:vlist (fracV (sumQ (l.take 0)))=[.bool false,.int .u64 0,.string ⟨#[]⟩,.int .u64 0,.string ⟨#[]⟩]:=frac_zero_cells
 refine BD func77 ntmps77 ?_
 try refine RUN ?_
 refine EV.loopK (ι:=Nat) [2,3,6,7] [2] (fun i=>[(8,.v (.int .i64 (i:Int)))]) (fun i=>[(3,63,vlist (fracV (sumQ (l.take i))))]) (fun _=>[]) (fun i G=>i≤l.length) (fun i=>l.length-i) (0) rfl rfl ⟨rfl,trivial⟩ ⟨by rw [hz];rfl,trivial⟩ rfl (fun _=>rfl) (Nat.zero_le _) ?_
 intro i G1 hG1 hi
 try refine RUN ?_
 refine EV.cond rfl (fun hlt=>?_) (fun hlt=>?_)
 ·simp only [nN] at hlt
  obtain ⟨q,hqi⟩:∃ q,l[i]?=some q:=⟨_,List.getElem?_eq_getElem hlt⟩
  have hqb:=hb q (List.mem_of_getElem? hqi)
  have hsb:=ht_sum 2000000 (l.take i) (fun q hq=>hb q (List.mem_of_mem_take hq))
  rw [List.length_take,Nat.min_eq_left hi] at hsb
  have hadd:=add_pv (sumQ (l.take i)) q (sm_of hsb oM) (sm_of hqb oM)
  rw [← sumQ_snoc,← take_snoc hqi] at hadd
  try refine RUN ?_
  refine EVL.idxM tO rfl rfl rfl rfl rfl rfl rfl rfl rfl ((SlC.mono (show SlC H (.slice a l.length cap) l.length 5 (l.flatMap fun q=>vlist (fracV q)) from h) hG1)) (i) (rfl) (hlt) ((QL.at (H:=H) (v:=.slice a l.length cap) hqi)) ?_
  repeat (first | refine RUN ?_ | refine CV (hadd) ?_ | refine CE (hadd) ?_)
  refine ⟨i+1,⟨?_,trivial⟩,sB,⟨rfl,trivial⟩,sB,rfl,hlt,Hp.Le.refl _,by omega⟩
  rw [wi_inc i (by omega)];rfl
 ·simp only [nN] at hlt
  obtain rfl:i=l.length:=by omega
  rw [List.take_length]
  try refine RUN ?_
  rfl
theorem meanB_pc {H:Hp} {v:Value} {l:List Rat} (h:QL H v l) (hl:l.length≤20) (h0:l.length≠0) (hb:∀ q,q∈l→ht q≤2000000):PC prog 28 #[v] H fun r _=>r=.tuple #[fracV (meanL l),.bool true]:=by
 obtain ⟨a,cap,rfl⟩:=SlC.val h
 have hs:=ht_sum 2000000 l hb
 have hln:=ht_len (n:=l.length) oM
 have hsum:=sumB_pc h hl hb
 have hof:=of_pv (l.length:Int) oM oM
 have hd:=div_pv (sumQ l) ((l.length:Int):Rat) (sm_of hs oM) (sm_of hln oM) (by intro e;have:((l.length:Int):Rat)=((0:Int):Rat):=e;exact h0 (by have:=Rat.intCast_inj.1 this;omega))
 refine BD func28 ntmps28 ?_
 repeat (first | refine RUN ?_ | refine CV (hsum) ?_ | refine CV (hof) ?_ | refine CV (hd) ?_ | refine CE (hsum) ?_ | refine CE (hof) ?_ | refine CE (hd) ?_)
 rfl
def Gives (x:List Rat) (q:Rat) (t:Tr):Prop:=∃ i n,Leaf t.ns x 0 i∧t.ns[i]?=some n∧n.value=q
def VLs (x:List Rat) (qs:List Rat) (ts:List Tr):Prop:=qs.length=ts.length∧∀ (j:Nat) (q:Rat) (t:Tr),qs[j]?=some q→ts[j]?=some t→Gives x q t
def cqF (q:Rat):List Value:=vlist (fracV q)
theorem cqF_len (l:List Rat):(l.flatMap cqF).length=l.length*5:=flat_len cqF 5 l fun _ _=>rfl
theorem cqF_zero (n:Nat):(List.replicate n ([.bool false,.int .u64 0,.string ⟨#[]⟩,.int .u64 0,.string ⟨#[]⟩]:List Value)).flatten=(([]:List Rat)++List.replicate (n-0) 0).flatMap cqF:=by
 rw [List.nil_append,Nat.sub_zero,List.flatMap_def,List.map_replicate,show cqF 0=_ from frac_zero_cells]
theorem cqF_set (qs:List Rat) (q:Rat) {n:Nat} (h:qs.length<n):((qs++List.replicate (n-qs.length) 0).flatMap cqF).take (qs.length*5)++vlist (fracV q)++((qs++List.replicate (n-qs.length) 0).flatMap cqF).drop (qs.length*5+5)=((qs++[q])++List.replicate (n-(qs++[q]).length) 0).flatMap cqF:=by
 have e:n-qs.length=(n-(qs++[q]).length)+1:=by rw [List.length_append,List.length_singleton];omega
 rw [e,List.replicate_succ,List.flatMap_append,List.flatMap_cons,List.flatMap_append,List.flatMap_append,List.flatMap_singleton,List.append_assoc (qs.flatMap cqF) (cqF q)]
 have:=row_set (A:=qs.flatMap cqF) (c:=cqF 0) (B:=(List.replicate (n-(qs++[q]).length) (0:Rat)).flatMap cqF) (vs:=vlist (fracV q)) (c':=cqF q) (k:=qs.length) (s:=5) (f:=0) (m:=5) (q:=qs.length*5) (cqF_len qs) rfl rfl (Nat.le_refl 5) rfl
 exact this
theorem ql_own {H:Hp} {b m:Nat} {l:List Rat} (h:H b=some (l.flatMap cqF).toArray) (hm:l.length=m):QL H (.slice (some ⟨b,0,none⟩) m m) l:=by
 subst hm
 refine ⟨cqF_len l,.inr ⟨b,0,l.length,_,rfl,Nat.le_refl _,h,fun j x hj=>?_⟩⟩
 rw [Nat.zero_add,List.getElem?_toArray]
 exact hj
set_option maxRecDepth 100000 in
set_option maxHeartbeats 16000000 in
theorem answerV_pc {H:Hp} {w:Int} {vt vo:Value} {a:Option Addr} {cp:Nat} {vx:Value} {ts:List Tr} {x:List Rat} (ht:PTL H (.slice a ts.length cp) ts) (hok:∀ t,t∈ts→TreeOk t∧fitT 2 0 w t=true) (h0:0<ts.length) (hn:ts.length≤20) (hx:QL H vx x) (hxl:(x.length:Int)=w) (hxs:∀ q,q∈x→sm q) :
  PC prog 68 #[forestV 2 0 w vt vo,.slice a ts.length cp,vx] H fun r _=>∃ qs,VLs x qs ts∧r=.tuple #[fracV (meanL qs),.int .i64 0]:=by
 obtain ⟨tcs,hts,hst⟩:=ht
 obtain ⟨xa,xc,rfl⟩:=SlC.val hx
 refine BD func68 ntmps68 ?_
 try refine RUN ?_
 refine EVL.make tO rfl rfl rfl rfl rfl rfl rfl rfl rfl (ts.length) (rfl) oM (by rfl) (by rfl) fun b=>?_
 try refine RUN ?_
 (first | refine EVL.swapOw ([(b,63,(([]:List Rat)++List.replicate (ts.length-0) 0).flatMap cqF)]) ([]) ((by rw [← cqF_zero];rfl)) ?_ | refine EV.swapOw ([(b,63,(([]:List Rat)++List.replicate (ts.length-0) 0).flatMap cqF)]) ([]) ((by rw [← cqF_zero];rfl)) ?_)
 refine EV.loopK (ι:=List Rat) [2,6,7,11,41,42] [6] (fun qs=>[(43,.v (.int .i64 (qs.length:Int)))]) (fun _=>[]) (fun qs=>[(b,63,(qs++List.replicate (ts.length-qs.length) 0).flatMap cqF)]) (fun qs _=>qs.length≤ts.length∧VLs x qs (ts.take qs.length)∧∀ q,q∈qs→ht q≤2000000) (fun qs=>ts.length-qs.length) ([]) rfl rfl ⟨rfl,trivial⟩ trivial rfl (fun _=>rfl) (⟨Nat.zero_le _,⟨rfl,fun j k t e _=>by cases e⟩,fun q hq=>by cases hq⟩) ?_
 rintro qs G2 hG2 ⟨hi,hqs,hqb⟩
 try refine RUN ?_
 refine EV.cond rfl (fun hlt=>?_) (fun hlt=>?_)
 ·simp only [nN] at hlt
  obtain ⟨t,hti⟩:∃ t,ts[qs.length]?=some t:=⟨_,List.getElem?_eq_getElem hlt⟩
  obtain ⟨hto,htf⟩:=hok t (List.mem_of_getElem? hti)
  obtain ⟨cc,hcut,htr⟩:=(hts.mono hG2).get hti
  obtain ⟨a3,c3,css,rfl,_,_⟩:=id htr
  have hf3:t.kd=2∧t.cl=0∧t.w=w:=by
   unfold fitT at htf
   simp only [Bool.and_eq_true,beq_iff_eq] at htf
   exact htf
  have hlf:=leaf_pc htr hto (hx.mono hG2) (by rw [hf3.2.2];exact hxl) hxs
  try refine RUN ?_
  refine EVL.idxM tO rfl rfl rfl rfl rfl rfl rfl rfl rfl ((hst.mono hG2)) (qs.length) (rfl) (hlt) (hcut) ?_
  try refine RUN ?_
  refine EVL.call rfl rfl rfl rfl rfl (hlf) ?_
  rintro _ G3 ⟨i,n,c,hL,hni,hN,rfl,hp⟩ hG3
  obtain ⟨a7,c7,rfl,_⟩:=hp.cells
  have hgv:Gives x n.value t:=⟨i,n,hL,hni,rfl⟩
  have hsm:ht n.value≤2000000:=Nat.le_trans hN.small.2.2 oM
  try refine RUN ?_
  refine EVL.idxB tO rfl rfl rfl rfl rfl rfl rfl rfl rfl (qs.length) (qs.length*5) (rfl) (hlt) (rfl) ?_
  refine EVL.storeOwn tO rfl rfl rfl rfl rfl rfl ([]) ([]) rfl rfl rfl rfl ((by rw [cqF_len,List.length_append,List.length_replicate];show qs.length*5+5≤_;omega)) ((cqF_set qs n.value hlt)) ?_
  try refine RUN ?_
  refine ⟨qs++[n.value],⟨by rw [wi_inc qs.length oM,List.length_append];rfl,trivial⟩,sB,trivial,sB,rfl,⟨by rw [List.length_append,List.length_singleton];omega,by rw [List.length_append,List.length_singleton,take_snoc hti];exact rel_snoc hqs hgv,fun q hq=>?_⟩,hG3,by rw [List.length_append,List.length_singleton];omega⟩
  rcases List.mem_append.1 hq with h | h
  ·exact hqb q h
  ·rw [List.mem_singleton.1 h];exact hsm
 ·simp only [nN] at hlt
  have hi2:qs.length=ts.length:=by omega
  rw [hi2,List.take_length] at hqs
  (first | refine EVL.publish [] [] rfl fun G3 hG3 hb3=>?_ | refine EV.publish [] [] rfl fun G3 hG3 hb3=>?_)
  rw [hi2,Nat.sub_self,List.replicate_zero,List.append_nil] at hb3
  have hql:=ql_own hb3 hi2
  repeat (first | refine RUN ?_ | refine CV (meanB_pc hql oM oM hqb) ?_ | refine CE (meanB_pc hql oM oM hqb) ?_)
  exact ⟨qs,hqs,rfl⟩
set_option maxHeartbeats 8000000 in
theorem panswer_pc {H:Hp} {kd cl w:Int} {a1 a2:Option Addr} {c1 c2:Nat} {vx:Value} {ts:List Tr} {os:List (List Int)} {x:List Rat} (ht:PTL H (.slice a1 ts.length c1) ts) (ho:ILL H (.slice a2 os.length c2) os) (hok:∀ t,t∈ts→TreeOk t) (hlo:∀ l,l∈os→l.length≤1000000) (hol:os.length≤1000000) (hn:ts.length≤20) (hx:QL H vx x) (hxs:∀ q,q∈x→sm q) :
  PC prog 22 #[forestV kd cl w (.slice a1 ts.length c1) (.slice a2 os.length c2),vx] H fun r _ =>
   (checkF kd cl w ts os≠0→r=.tuple #[fracV 0,.int .i64 0,.int .i64 1]) ∧
   (checkF kd cl w ts os=0→(x.length:Int)≠w→r=.tuple #[fracV 0,.int .i64 0,.int .i64 5]) ∧
   (checkF kd cl w ts os=0→(x.length:Int)=w→(kd=1∧∃ ks,CLs x ks ts∧r=.tuple #[fracV 0,.int .i64 (topN (cntL cl.toNat ks) cl.toNat:Nat),.int .i64 0])∨(kd≠1∧∃ qs,VLs x qs ts∧r=.tuple #[fracV (meanL qs),.int .i64 0,.int .i64 0])):=by
 obtain ⟨xa,xc,rfl⟩:=SlC.val hx
 have hrf:=refuse_pc (kd:=kd) (cl:=cl) (w:=w) (xa:=xa) (xn:=x.length) (xc:=xc) ht ho hok hlo hol
 by_cases h1:checkF kd cl w ts os=0
 ·rw [if_pos h1] at hrf
  by_cases h2:(x.length:Int)=w
  ·rw [if_pos h2] at hrf
   have hall:0<ts.length∧ts.all (fitT kd cl w)=true:=by
    unfold checkF at h1
    split at h1
    ·cases h1
    ·split at h1
     ·rename_i h3 h4;exact ⟨by omega,h4⟩
     ·cases h1
   have hfit:∀ t,t∈ts→TreeOk t∧fitT kd cl w t=true:=fun t hm=>⟨hok t hm,List.all_eq_true.1 hall.2 t hm⟩
   obtain ⟨t0,ht0⟩:∃ t,ts[0]?=some t:=⟨_,List.getElem?_eq_getElem hall.1⟩
   obtain ⟨ho0,hf0⟩:=hfit t0 (List.mem_of_getElem? ht0)
   have hk0:=ho0.kind
   have hf3:t0.kd=kd∧t0.cl=cl∧t0.w=w:=by
    unfold fitT at hf0
    simp only [Bool.and_eq_true,beq_iff_eq] at hf0
    exact hf0
   rw [hf3.1,hf3.2.1] at hk0
   rcases hk0 with ⟨rfl,hc1,hc2⟩ | ⟨rfl,rfl⟩
   ·obtain ⟨C,rfl⟩:=Int.eq_ofNat_of_zero_le (show 0≤cl by omega)
    have hans:=answerC_pc (vt:=.slice a1 ts.length c1) (vo:=.slice a2 os.length c2) (C:=C) ht hfit oM oM hx h2 hxs
    refine BD func22 ntmps22 ?_
    repeat (first | refine RUN ?_ | refine CV (hrf) ?_ | refine CE (hrf) ?_)
    refine EVL.call rfl rfl rfl rfl rfl (hans) ?_
    rintro _ G1 ⟨ks,hks,rfl⟩ hG1
    try refine RUN ?_
    exact ⟨fun e=>absurd h1 e,fun _ e=>absurd h2 e,fun _ _=>.inl ⟨rfl,ks,hks,rfl⟩⟩
   ·have hans:=answerV_pc (vt:=.slice a1 ts.length c1) (vo:=.slice a2 os.length c2) ht hfit hall.1 hn hx h2 hxs
    refine BD func22 ntmps22 ?_
    repeat (first | refine RUN ?_ | refine CV (hrf) ?_ | refine CE (hrf) ?_)
    refine EVL.call rfl rfl rfl rfl rfl (hans) ?_
    rintro _ G1 ⟨qs,hqs,rfl⟩ hG1
    try refine RUN ?_
    exact ⟨fun e=>absurd h1 e,fun _ e=>absurd h2 e,fun _ _=>.inr ⟨by decide,qs,hqs,rfl⟩⟩
  ·rw [if_neg h2] at hrf
   refine BD func22 ntmps22 ?_
   repeat (first | refine RUN ?_ | refine CV (hrf) ?_ | refine CE (hrf) ?_)
   exact ⟨fun e=>absurd h1 e,fun _ _=>by rw [fracV_zero],fun _ e=>absurd e h2⟩
 ·rw [if_neg h1] at hrf
  refine BD func22 ntmps22 ?_
  repeat (first | refine RUN ?_ | refine CV (hrf) ?_ | refine CE (hrf) ?_)
  exact ⟨fun _=>by rw [fracV_zero],fun e=>absurd e h1,fun e=>absurd e h1⟩
end Go.Proofs.YtplhljjljnkhpaaGreatDoor
namespace Go.Proofs.YtplhljjljnkhpaaGreatDoor
theorem okL_asc {l:List Int} (h:l.Pairwise (·<·)) (hb:∀ z,z∈l→0≤z∧z<300):okL l=true:=by
 refine List.all_eq_true.2 fun k hk=>?_
 have hk':=List.mem_range.1 hk
 have e1:l.getD k 0=l[k]:=by rw [List.getD_eq_getElem?_getD,List.getElem?_eq_getElem hk'];rfl
 have h1:=hb _ (List.getElem_mem hk')
 unfold okAt
 rw [e1,decide_eq_true h1.1,decide_eq_true h1.2]
 by_cases h0:k=0
 ·subst h0;rfl
 ·have hk2:k-1<l.length:=by omega
  have e2:l.getD (k-1) 0=l[k-1]:=by rw [List.getD_eq_getElem?_getD,List.getElem?_eq_getElem hk2];rfl
  rw [e2,decide_eq_true (List.pairwise_iff_getElem.1 h (k-1) k hk2 hk' oM)]
  simp
theorem upTo_lt (n:Nat):(upTo n).Pairwise (·<·):=by
 unfold upTo
 rw [List.pairwise_map]
 exact List.pairwise_lt_range.imp (by intro a b h;simp;omega)
theorem restL_ok {n:Nat} (hn:n≤300) (l:List Int):okL (restL n l)=true∧(restL n l).length≤300:=by
 refine ⟨okL_asc ((upTo_lt n).sublist List.filter_sublist) fun z hz=>?_,Nat.le_trans (restL_le n l) hn⟩
 have hm:=(List.mem_filter.1 hz).1
 unfold upTo at hm
 obtain ⟨i,hi,rfl⟩:=List.mem_map.1 hm
 have:=List.mem_range.1 hi
 show (0:Int)≤(i:Int)∧(i:Int)<300
 omega
theorem wood_lists {p:GP} {n D:Nat} (hn:n≤300) (kd cl w:Int):∀ (k:Nat) (s:Int) (l:List Int),l∈(p.wood D n kd cl w k s).2.1→okL l=true∧l.length≤300
 | 0,s,l,h=>by cases h
 | k+1,s,l,h=>by
  rw [GP.wood_succ] at h
  rcases List.mem_append.1 h with h | h
  ·exact wood_lists hn kd cl w k s l h
  ·rw [List.mem_singleton.1 h]
   exact restL_ok hn _
theorem checkF_ok {kd cl w:Int} {ts:List Tr} {os:List (List Int)} (h1:1≤ts.length) (h2:ts.length≤50) (h3:os.length=ts.length) (ht:∀ t,t∈ts→fitT kd cl w t=true) (ho:∀ l,l∈os→okL l=true):checkF kd cl w ts os=0:=by
 unfold checkF
 rw [if_neg oM,if_pos (List.all_eq_true.2 ht),if_pos (List.all_eq_true.2 ho)]
theorem wood_check {p:GP} {kd cl:Int} {w D:Nat} (hp:GPok p kd cl w) (hw:1≤w∧w≤20) (hD:D≤9) (h0:1≤p.X.length) {k:Nat} (hk:1≤k∧k≤50) (s:Int):checkF kd cl w (p.wood D p.X.length kd cl w k s).1 (p.wood D p.X.length kd cl w k s).2.1=0:=by
 obtain ⟨e1,e2,_⟩:=p.wood_len D p.X.length kd cl w k s
 exact checkF_ok oM oM oM (fun t ht=>(wood_ok hp hw hD h0 k s t ht).2) (fun l hl=>(wood_lists hp.rowsX kd cl w k s l hl).1)
end Go.Proofs.YtplhljjljnkhpaaGreatDoor
namespace Go.Proofs.YtplhljjljnkhpaaGreatDoor
open Go.RowKit _root_.Go.Proofs.Tryz
theorem overI_pv (a b:Int) (ha:0≤a∧a≤1000) (hb:1≤b∧b≤1000):PV prog 67 #[.int .i64 a,.int .i64 b] (.tuple #[fracV (mkRat a b.natAbs),.bool true]):=by
 have h1:=wholeOf_pv a oM oM
 have h2:=wholeOf_pv b oM oM
 have b1:bl a.natAbs≤20:=bl_le oM
 have b2:bl b.natAbs≤20:=bl_le oM
 have h3:=make_pv a b (by show bl a.natAbs≤_;omega) (by show bl b.natAbs≤_;omega) oM
 rw [if_neg (show ¬ b<0 by omega)] at h3
 refine PV.of_pc ?_
 refine BD func67 ntmps67 ?_
 repeat (first | refine RUN ?_ | refine CV (h1) ?_ | refine CV (h2) ?_ | refine CV (h3) ?_ | refine CE (h1) ?_ | refine CE (h2) ?_ | refine CE (h3) ?_)
 rfl
def votesQ (C n:Nat) (ks:List Int):List Rat:=(cntL C ks).map fun c=>mkRat c n
theorem votesQ_len (C n:Nat) (ks:List Int):(votesQ C n ks).length=C:=by unfold votesQ;rw [List.length_map,cntL_len]
set_option maxRecDepth 100000 in
set_option maxHeartbeats 16000000 in
theorem votes_pc {H:Hp} {C:Nat} {w:Int} {a1 a2:Option Addr} {c1 c2:Nat} {vx:Value} {ts:List Tr} {os:List (List Int)} {x:List Rat} (ht:PTL H (.slice a1 ts.length c1) ts) (ho:ILL H (.slice a2 os.length c2) os) (hok:∀ t,t∈ts→TreeOk t) (hlo:∀ l,l∈os→l.length≤1000000) (hol:os.length≤1000000) (hC:1≤C∧C≤12) (hck:checkF 1 C w ts os=0) (hx:QL H vx x) (hxl:(x.length:Int)=w) (hxs:∀ q,q∈x→sm q) :
  PC prog 21 #[forestV 1 C w (.slice a1 ts.length c1) (.slice a2 os.length c2),vx] H fun r G=>∃ ks v,CLs x ks ts∧r=.tuple #[v,.int .i64 0]∧QL G v (votesQ C ts.length ks):=by
 obtain ⟨xa,xc,rfl⟩:=SlC.val hx
 have hrf:=refuse_pc (kd:=1) (cl:=(C:Int)) (w:=w) (xa:=xa) (xn:=x.length) (xc:=xc) ht ho hok hlo hol
 rw [if_pos hck,if_pos hxl] at hrf
 have hall:1≤ts.length∧ts.length≤50∧ts.all (fitT 1 C w)=true:=by
  unfold checkF at hck
  split at hck
  ·cases hck
  ·split at hck
   ·rename_i h3 h4;exact ⟨by omega,by omega,h4⟩
   ·cases hck
 have hfit:∀ t,t∈ts→TreeOk t∧fitT 1 C w t=true:=fun t hm=>⟨hok t hm,List.all_eq_true.1 hall.2.2 t hm⟩
 have hcnt:=count_pc (vt:=.slice a1 ts.length c1) (vo:=.slice a2 os.length c2) ht hfit hC oM hx hxl hxs
 refine BD func21 ntmps21 ?_
 repeat (first | refine RUN ?_ | refine CV (hrf) ?_ | refine CE (hrf) ?_)
 refine EVL.make tO rfl rfl rfl rfl rfl rfl rfl rfl rfl (C) (rfl) oM (by rfl) (by rfl) fun b=>?_
 try refine RUN ?_
 refine EVL.call rfl rfl rfl rfl rfl (hcnt) ?_
 rintro r1 G1 ⟨ks,hks,hil⟩ hG1
 obtain ⟨la,lc,rfl⟩:=SlC.val hil
 have hlen:=cntL_len C ks
 have hkl:=hks.1
 have hilS:SlC G1 (.slice la (cntL C ks).length lc) (cntL C ks).length 1 ((cntL C ks).map iv):=hil
 rw [hlen] at hilS
 try refine RUN ?_
 (first | refine EVL.swapOw ([(b,63,(([]:List Rat)++List.replicate (C-0) 0).flatMap cqF)]) ([]) ((by rw [← cqF_zero];rfl)) ?_ | refine EV.swapOw ([(b,63,(([]:List Rat)++List.replicate (C-0) 0).flatMap cqF)]) ([]) ((by rw [← cqF_zero];rfl)) ?_)
 refine EV.loopK (ι:=List Rat) [2,7,26,27] [2] (fun qs=>[(28,.v (.int .i64 (qs.length:Int)))]) (fun _=>[]) (fun qs=>[(b,63,(qs++List.replicate (C-qs.length) 0).flatMap cqF)]) (fun qs _=>qs.length≤C∧qs=(votesQ C ts.length ks).take qs.length) (fun qs=>C-qs.length) ([]) rfl rfl ⟨rfl,trivial⟩ trivial rfl (fun _=>rfl) (⟨Nat.zero_le _,rfl⟩) ?_
 rintro qs G2 hG2 ⟨hi,hqs⟩
 rw [hlen]
 try refine RUN ?_
 refine EV.cond rfl (fun hlt=>?_) (fun hlt=>?_)
 ·simp only [nN] at hlt
  have hcl:qs.length<(cntL C ks).length:=by omega
  have g1:=cntL_at (C:=C) ks hlt
  have hm:ks.count ((qs.length:Nat):Int)≤50:=Nat.le_trans List.count_le_length oM
  have hv1:(votesQ C ts.length ks)[qs.length]?=some (mkRat ((ks.count ((qs.length:Nat):Int):Nat):Int) ts.length):=by
   unfold votesQ;rw [List.getElem?_map,g1];rfl
  generalize ks.count ((qs.length:Nat):Int)=m at *
  have hov:=overI_pv ((m:Nat):Int) ((ts.length:Nat):Int) oM oM
  rw [Int.natAbs_natCast] at hov
  try refine RUN ?_
  refine EVL.idxR tO rfl rfl rfl rfl rfl rfl rfl rfl rfl rfl ((hilS.mono hG2)) (qs.length) (rfl) (hlt) ((by rw [List.getElem?_map,g1];rfl)) ?_
  repeat (first | refine RUN ?_ | refine CV (hov) ?_ | refine CE (hov) ?_)
  refine EVL.idxB tO rfl rfl rfl rfl rfl rfl rfl rfl rfl (qs.length) (qs.length*5) (rfl) (hlt) (rfl) ?_
  refine EVL.storeOwn tO rfl rfl rfl rfl rfl rfl ([]) ([]) rfl rfl rfl rfl ((by rw [cqF_len,List.length_append,List.length_replicate];show qs.length*5+5≤_;omega)) ((cqF_set qs (mkRat (m:Int) ts.length) hlt)) ?_
  try refine RUN ?_
  refine ⟨qs++[mkRat (m:Int) ts.length],⟨by rw [wi_inc qs.length oM,List.length_append];rfl,trivial⟩,sB,trivial,sB,rfl,⟨by rw [List.length_append,List.length_singleton];omega,by rw [List.length_append,List.length_singleton,take_snoc hv1,← hqs]⟩,Hp.Le.refl _,by rw [List.length_append,List.length_singleton];omega⟩
 ·simp only [nN] at hlt
  have hi2:qs.length=C:=by omega
  rw [hi2,List.take_of_length_le (by rw [votesQ_len];omega)] at hqs
  (first | refine EVL.publish [] [] rfl fun G3 hG3 hb3=>?_ | refine EV.publish [] [] rfl fun G3 hG3 hb3=>?_)
  rw [hi2,Nat.sub_self,List.replicate_zero,List.append_nil] at hb3
  have hql:=ql_own hb3 hi2
  try refine RUN ?_
  exact ⟨ks,_,hks,rfl,by rw [← hqs];exact hql⟩
end Go.Proofs.YtplhljjljnkhpaaGreatDoor
namespace Go.Proofs.YtplhljjljnkhpaaGreatDoor
def knN (c:Nat):Nd:=⟨-1,0,0,1,(c:Int),0,0,0,[1-(c:Int),(c:Int)]⟩
def knT (c:Nat):Tr:=⟨1,2,1,[knN c]⟩
def knTs:List Tr:=[knT 0,knT 1,knT 1]
theorem knN_ok {c:Nat} (h:c≤1):OkN 1 2 (knN c) where
 rows:=⟨by show (1:Int)≤1;omega,by show (1:Int)≤1048576;omega⟩
 cost:=Rat.le_refl
 len:=rfl
 pos:=fun z hz=>by
  rcases List.mem_cons.1 hz with e | hz
  ·omega
  ·rw [List.mem_singleton.1 hz];omega
 sum:=fun _=>by
  show (1-(c:Int))+((c:Int)+0)=1
  omega
 cls:=by
  rcases Nat.lt_or_ge c 1 with k | k
  ·obtain rfl:c=0:=by omega
   rfl
  ·obtain rfl:c=1:=by omega
   rfl
 value:=fun _=>rfl
 small:=by
  show ht 0≤100∧ht 0≤2000000∧ht 0≤4000
  rw [ht_zero];decide
theorem knT_ok {c:Nat} (h:c≤1):TreeOk (knT c) where
 kind:=.inl ⟨rfl,by show (1:Int)≤2;omega,by show (2:Int)≤12;omega⟩
 wide:=⟨by show (1:Int)≤1;omega,by show (1:Int)≤20;omega⟩
 len:=by show 1≤2000;omega
 sub:=⟨0,by omega,.leaf (n:=knN c) rfl rfl rfl rfl rfl⟩
 nodes:=fun i hi=>by
  have hi':i<1:=hi
  obtain rfl:i=0:=by omega
  exact ⟨knN c,rfl,knN_ok h,fun e=>absurd rfl e⟩
theorem knTs_ok:∀ t,t∈knTs→TreeOk t:=fun t ht=>by
 rcases List.mem_cons.1 ht with rfl | ht
 ·exact knT_ok oM
 ·rcases List.mem_cons.1 ht with rfl | ht
  ·exact knT_ok oM
  ·rw [List.mem_singleton.1 ht];exact knT_ok oM
theorem knTs_check:checkF 1 2 1 knTs [[],[],[]]=0:=by decide
theorem knT_says {x:List Rat} {k:Int} {c:Nat} (h:Says x k (knT c)):k=(c:Int):=by
 obtain ⟨i,n,hL,hn,rfl⟩:=h
 have h0:Leaf (knT c).ns x 0 0:=.here (n:=knN c) rfl rfl
 rw [← h0.det hL] at hn
 cases hn
 rfl
theorem knTs_votes {x:List Rat} {ks:List Int} (h:CLs x ks knTs):ks=[0,1,1]:=by
 obtain ⟨hl,h⟩:=h
 match ks,hl with
 | [a,b,c],_ =>
  rw [knT_says (h 0 a (knT 0) rfl rfl),knT_says (h 1 b (knT 1) rfl rfl),knT_says (h 2 c (knT 1) rfl rfl)]
  rfl
theorem kn_votesQ:votesQ 2 3 [0,1,1]=[mkRat 1 3,mkRat 2 3]:=by decide +kernel
end Go.Proofs.YtplhljjljnkhpaaGreatDoor
namespace Go.Proofs.YtplhljjljnkhpaaGreatDoor
open Go.RowKit _root_.Go.Proofs.Tryz
theorem kn_tree {H:Hp} {b:Nat} {cs:List Value} {n:Nd} {kd cl w:Int} (h:PNode H cs n) (hb:H b=some cs.toArray):PTree H [.int .i64 kd,.int .i64 cl,.int .i64 w,.slice (some ⟨b,0,none⟩) 1 1] kd cl w [n] :=
 ⟨some ⟨b,0,none⟩,1,[cs],rfl,⟨rfl,fun j c m e1 e2=>by
  have hj:=(List.getElem?_eq_some_iff.1 e1).1
  simp at hj
  subst hj
  cases e1;cases e2;exact h⟩,by
  rw [flatS]
  exact ⟨h.len,.inr ⟨b,0,1,_,rfl,Nat.le_refl _,hb,fun j x hj=>by rw [Nat.zero_add,List.getElem?_toArray];exact hj⟩⟩⟩
theorem kn_lists:∀ l,l∈([[],[],[]]:List (List Int))→l.length≤1000000:=by decide
theorem kn_row:∀ q,q∈([((0:Int):Rat)]:List Rat)→sm q:=fun q hq=>by
 rw [List.mem_singleton.1 hq]
 show ht 0≤100000000
 rw [ht_zero];decide
set_option maxRecDepth 100000 in
set_option maxHeartbeats 16000000 in
theorem known20_pc {H:Hp}:PC prog 8 #[] H fun r _=>r=.bool true:=by
 refine BD func8 ntmps8 ?_
 try refine RUN ?_
 refine EVL.make tO rfl rfl rfl rfl rfl rfl rfl rfl rfl (3) (rfl) oM (by rfl) (by rfl) fun b=>?_
 (first | refine EVL.publish [] [] rfl fun G0 hG0 hb0=>?_ | refine EV.publish [] [] rfl fun G0 hG0 hb0=>?_)
 have hout:ILL G0 (.slice (some ⟨b,0,none⟩) 3 3) [[],[],[]]:=⟨[.slice none 0 0,.slice none 0 0,.slice none 0 0],⟨rfl,fun j v l e1 e2=>by
  match j,e1,e2 with
  | 0,e1,e2=>cases e1;cases e2;exact IL.nil _ _ _
  | 1,e1,e2=>cases e1;cases e2;exact IL.nil _ _ _
  | 2,e1,e2=>cases e1;cases e2;exact IL.nil _ _ _⟩,⟨rfl,.inr ⟨b,0,3,_,rfl,Nat.le_refl _,hb0,fun j x hj=>by rw [Nat.zero_add,List.getElem?_toArray];exact hj⟩⟩⟩
 try refine RUN ?_
 refine EV.loopK (ι:=Nat × Value × List (List Value) × Ows) [0,1] [] (fun q=>[(2,.v (.int .i64 (q.1:Int)))]) (fun q=>[(1,48,[.int .i64 1,.int .i64 2,.int .i64 1,q.2.1,.slice (some ⟨b,0,none⟩) 3 3])]) (fun q=>q.2.2.2) (fun q G=>q.1≤3∧PTs G q.2.2.1 (knTs.take q.1)∧OwnL 94 4 q.2.1 q.1 q.2.2.1.flatten q.2.2.2) (fun q=>3-q.1) ((0,.slice none 0 0,[],[])) rfl rfl ⟨rfl,trivial⟩ ⟨rfl,trivial⟩ rfl (fun _=>rfl) (⟨Nat.zero_le _,⟨rfl,fun j c n e1 e2=>by cases e1⟩,OwnL.nil _ _⟩) ?_
 rintro ⟨i,u,ps,ow⟩ G1 hG1 ⟨hi,hps,hown⟩
 dsimp only at hi hps hown
 obtain ⟨wa,wc,rfl⟩:=hown.val
 try refine RUN ?_
 refine EV.cond rfl (fun hlt=>?_) (fun hlt=>?_)
 ·simp only [nN] at hlt
  have h012:i=0∨i=1∨i=2:=by omega
  rcases h012 with hi0 | hi1 | hi2
  ·subst hi0
   try refine RUN ?_
   refine EVL.lit tO rfl rfl rfl rfl rfl rfl rfl rfl rfl rfl rfl fun bl=>?_
   (first | refine EVL.publish [] ow rfl fun G2 hG2 hb2=>?_ | refine EV.publish [] ow rfl fun G2 hG2 hb2=>?_)
   have hil:IL G2 (.slice (some ⟨bl,0,none⟩) 2 2) (knN 0).counts:=il_own (sp:=[]) hb2 rfl
   try refine RUN ?_
   refine EVL.lit tO rfl rfl rfl rfl rfl rfl rfl rfl rfl rfl rfl fun bn=>?_
   (first | refine EVL.publish [] ow rfl fun G3 hG3 hb3=>?_ | refine EV.publish [] ow rfl fun G3 hG3 hb3=>?_)
   have hnd:PNode G3 _ (knN 0):=⟨some ⟨bl,0,none⟩,2,hil.mono hG3,rfl⟩
   have htr:PTree G3 [.int .i64 1,.int .i64 2,.int .i64 1,.slice (some ⟨bn,0,none⟩) 1 1] 1 2 1 [knN 0]:=kn_tree hnd (by rw [hb3];exact congrArg some (congrArg List.toArray (by show _=_++(vlist (fracV 0)++(vlist (fracV 0)++(vlist (fracV 0)++_)));rw [frac_zero_cells];rfl)))
   try refine RUN ?_
   refine EVL.app1 tO rfl rfl rfl rfl rfl rfl rfl rfl rfl rfl rfl rfl rfl rfl rfl rfl rfl rfl rfl (fun _=>rfl) (ow) ([]) ((List.append_nil _).symm) (hown) oM fun _=>?_
   intro v' ow' hown'
   obtain ⟨va,vc,rfl⟩:=hown'.val
   try refine RUN ?_
   refine ⟨(0+1,_,ps++[_],ow'),⟨rfl,trivial⟩,sB,⟨rfl,trivial⟩,sB,List.append_nil _,⟨by dsimp only;omega,by dsimp only;exact rel_snoc (xs:=ps) (ys:=knTs.take 0) (hps.mono (hG2.trans hG3)) htr,by dsimp only;rw [List.flatten_append,flatS];exact hown'⟩,hG2.trans hG3,by dsimp only;omega⟩
  ·subst hi1
   try refine RUN ?_
   refine EVL.lit tO rfl rfl rfl rfl rfl rfl rfl rfl rfl rfl rfl fun bl=>?_
   (first | refine EVL.publish [] ow rfl fun G2 hG2 hb2=>?_ | refine EV.publish [] ow rfl fun G2 hG2 hb2=>?_)
   have hil:IL G2 (.slice (some ⟨bl,0,none⟩) 2 2) (knN 1).counts:=il_own (sp:=[]) hb2 rfl
   try refine RUN ?_
   refine EVL.lit tO rfl rfl rfl rfl rfl rfl rfl rfl rfl rfl rfl fun bn=>?_
   (first | refine EVL.publish [] ow rfl fun G3 hG3 hb3=>?_ | refine EV.publish [] ow rfl fun G3 hG3 hb3=>?_)
   have hnd:PNode G3 _ (knN 1):=⟨some ⟨bl,0,none⟩,2,hil.mono hG3,rfl⟩
   have htr:PTree G3 [.int .i64 1,.int .i64 2,.int .i64 1,.slice (some ⟨bn,0,none⟩) 1 1] 1 2 1 [knN 1]:=kn_tree hnd (by rw [hb3];exact congrArg some (congrArg List.toArray (by show _=_++(vlist (fracV 0)++(vlist (fracV 0)++(vlist (fracV 0)++_)));rw [frac_zero_cells];rfl)))
   try refine RUN ?_
   refine EVL.app1 tO rfl rfl rfl rfl rfl rfl rfl rfl rfl rfl rfl rfl rfl rfl rfl rfl rfl rfl rfl (fun _=>rfl) (ow) ([]) ((List.append_nil _).symm) (hown) oM fun _=>?_
   intro v' ow' hown'
   obtain ⟨va,vc,rfl⟩:=hown'.val
   try refine RUN ?_
   refine ⟨(1+1,_,ps++[_],ow'),⟨rfl,trivial⟩,sB,⟨rfl,trivial⟩,sB,List.append_nil _,⟨by dsimp only;omega,by dsimp only;exact rel_snoc (xs:=ps) (ys:=knTs.take 1) (hps.mono (hG2.trans hG3)) htr,by dsimp only;rw [List.flatten_append,flatS];exact hown'⟩,hG2.trans hG3,by dsimp only;omega⟩
  ·subst hi2
   try refine RUN ?_
   refine EVL.lit tO rfl rfl rfl rfl rfl rfl rfl rfl rfl rfl rfl fun bl=>?_
   (first | refine EVL.publish [] ow rfl fun G2 hG2 hb2=>?_ | refine EV.publish [] ow rfl fun G2 hG2 hb2=>?_)
   have hil:IL G2 (.slice (some ⟨bl,0,none⟩) 2 2) (knN 1).counts:=il_own (sp:=[]) hb2 rfl
   try refine RUN ?_
   refine EVL.lit tO rfl rfl rfl rfl rfl rfl rfl rfl rfl rfl rfl fun bn=>?_
   (first | refine EVL.publish [] ow rfl fun G3 hG3 hb3=>?_ | refine EV.publish [] ow rfl fun G3 hG3 hb3=>?_)
   have hnd:PNode G3 _ (knN 1):=⟨some ⟨bl,0,none⟩,2,hil.mono hG3,rfl⟩
   have htr:PTree G3 [.int .i64 1,.int .i64 2,.int .i64 1,.slice (some ⟨bn,0,none⟩) 1 1] 1 2 1 [knN 1]:=kn_tree hnd (by rw [hb3];exact congrArg some (congrArg List.toArray (by show _=_++(vlist (fracV 0)++(vlist (fracV 0)++(vlist (fracV 0)++_)));rw [frac_zero_cells];rfl)))
   try refine RUN ?_
   refine EVL.app1 tO rfl rfl rfl rfl rfl rfl rfl rfl rfl rfl rfl rfl rfl rfl rfl rfl rfl rfl rfl (fun _=>rfl) (ow) ([]) ((List.append_nil _).symm) (hown) oM fun _=>?_
   intro v' ow' hown'
   obtain ⟨va,vc,rfl⟩:=hown'.val
   try refine RUN ?_
   refine ⟨(2+1,_,ps++[_],ow'),⟨rfl,trivial⟩,sB,⟨rfl,trivial⟩,sB,List.append_nil _,⟨by dsimp only;omega,by dsimp only;exact rel_snoc (xs:=ps) (ys:=knTs.take 2) (hps.mono (hG2.trans hG3)) htr,by dsimp only;rw [List.flatten_append,flatS];exact hown'⟩,hG2.trans hG3,by dsimp only;omega⟩
 ·simp only [nN] at hlt
  obtain rfl:i=3:=by omega
  (first | refine EVL.publishL [] ow [] ((List.append_nil _).symm) hown fun G4 hG4 hs4=>?_ | refine EV.publishL [] ow [] ((List.append_nil _).symm) hown fun G4 hG4 hs4=>?_)
  have hT:PTL G4 (.slice wa knTs.length wc) knTs:=⟨ps,hps.mono hG4,hs4⟩
  have hO:ILL G4 (.slice (some ⟨b,0,none⟩) ([[],[],[]]:List (List Int)).length 3) [[],[],[]]:=(hout.mono hG1).mono hG4
  have hof:=of_pv 0 oM oM
  try refine RUN ?_
  apply EV.drawn 9 kR kR;intro xv yw
  (repeat (first | refine' DV ?_ | refine' DA ?_ | refine' DK0 ?_ | refine' DT ?_ | (refine' DC (hof) (h:=?_);rotate_left) | refine' DS ?_))
  (refine' DJ.litD1 (Φ:=fun v G=>QL G v [((0:Int):Rat)]) (fun _ _ _ h k=>QL.mono h k) tO rfl rfl rfl rfl rfl rfl rfl rfl rfl rfl rfl (fun G hd=>rfl) (fun G G' v hd hG h=>h) ?_;rotate_left)
  (refine' DJ.call rfl rfl rfl rfl rfl (cO func21) (fun G hG hd=>votes_pc (C:=2) (w:=1) (hT.mono hG) (hO.mono hG) knTs_ok kn_lists (by decide) oM knTs_check (hd.head kR) rfl kn_row) (fun v G G' ⟨ks,u,h1,e,h⟩ k=>⟨ks,u,h1,e,QL.mono h k⟩) ?_;rotate_left)
  refine' DJ.copy (3) (by first | exact .inl rfl | exact .inr rfl) rfl rfl rfl id rfl kR ?_;rotate_left
  refine' DJ.extract (3) rfl rfl rfl rfl rfl kR (fun G hd=>(by obtain ⟨ks,v,_,e,_⟩:=hd.head kR;exact ⟨_,e,Nat.zero_lt_succ _⟩)) ?_;rotate_left
  refine' DJ.extract (3) rfl rfl rfl rfl rfl kR (fun G hd=>(by obtain ⟨ks,v,_,e,_⟩:=hd.head kR;exact ⟨_,e,Nat.lt_succ_self _⟩)) ?_;rotate_left
  (refine' DJ.copy 3 (by first | exact .inl rfl | exact .inr rfl) rfl rfl rfl (tupAt 0) rfl kR ?_;rotate_left)
  (refine' DJ.copy 3 (by first | exact .inl rfl | exact .inr rfl) rfl rfl rfl (tupAt 1) rfl kR ?_;rotate_left)
  (refine DJ.nil (fun G5 hG5 hF5=>?_);(case hS|hS2=>rfl))
  obtain ⟨⟨ks,v6,hks,e,hql⟩,_⟩:=hF5
  rw [e]
  obtain rfl:=knTs_votes hks
  rw [show knTs.length=3 from rfl,kn_votesQ] at hql
  obtain ⟨ya,yc,rfl⟩:=SlC.val hql
  have hq0:((([mkRat 1 3,mkRat 2 3]:List Rat).flatMap fun q=>vlist (fracV q)).drop (0*5)).take 5=vlist (fracV (mkRat 1 3)):=QL.at (H:=H) (v:=.bool true) (j:=0) rfl
  have hq1:((([mkRat 1 3,mkRat 2 3]:List Rat).flatMap fun q=>vlist (fracV q)).drop (1*5)).take 5=vlist (fracV (mkRat 2 3)):=QL.at (H:=H) (v:=.bool true) (j:=1) rfl
  have hi1:=fun G:Hp=>is_pc (H:=G) (mkRat 1 3) (by show ht (mkRat 1 3)≤100000000;decide +kernel) 1 3 oM oM oM oM oM (by decide +kernel)
  have hi2:=fun G:Hp=>is_pc (H:=G) (mkRat 2 3) (by show ht (mkRat 2 3)≤100000000;decide +kernel) 2 3 oM oM oM oM oM (by decide +kernel)
  have hqS:SlC G5 (.slice ya 2 yc) 2 5 (([mkRat 1 3,mkRat 2 3]:List Rat).flatMap fun q=>vlist (fracV q)):=hql
  try refine RUN ?_
  refine EVL.idxM tO rfl rfl rfl rfl rfl rfl rfl rfl rfl (hqS) (0) (rfl) ((show (0:Nat)<2 from Nat.zero_lt_succ _)) (hq0) ?_
  repeat (first | refine RUN ?_ | refine CV (hi1 _) ?_ | refine CE (hi1 _) ?_)
  refine EVL.idxM tO rfl rfl rfl rfl rfl rfl rfl rfl rfl (hqS) (1) (rfl) ((show (1:Nat)<2 from Nat.lt_succ_self _)) (hq1) ?_
  repeat (first | refine RUN ?_ | refine CV (hi2 _) ?_ | refine CE (hi2 _) ?_)
  rfl
end Go.Proofs.YtplhljjljnkhpaaGreatDoor
namespace Go.Proofs.YtplhljjljnkhpaaGreatDoor
open Go.ChangeShapes Go.WideShapes Go.ChangeAt Go.RowKit
def hpOf (W:World):Hp:=fun b=>match W.heap[b]? with
 | some (.cells c _ _)=>some c
 | _=>none
theorem fits_hpOf (W:World):Fits (hpOf W) W:=fun b c h=>by
 unfold hpOf at h
 split at h
 ·rename_i c' T fz hb;cases h;exact ⟨T,fz,hb⟩
 ·cases h
section
variable {H:Type} {enc:TypeId × Value→H} {P:Program} {w:World} {base:Nat} {spare:Nat→Bool} {held:Bool}
theorem ints_open {t e:TypeId} {k:IntKind} {fuel:Nat} {cs:List Value} {x:DataW H × List MemPlace} (ht:P.underlying t=some (.slice e)) (he:P.underlying e=some (.int k)) (hc:P.cellsOf e=1) (h:DataW.trod enc P w base spare held fuel t cs=some x) :
  ∃ a len cap zs,cs=[.slice a len cap]∧SlN (fun z:Int=>Value.int k z) (hpOf w) (.slice a len cap) zs∧∀ n∈zs,(Lit.int k n).wf=true:=by
 rcases open_ints ht he hc h with ⟨rfl,_⟩ | ⟨x,len,cap,zs,rfl,_,hl,hm,hz,_,hcell,hw⟩
 ·exact ⟨none,0,0,[],rfl,nil_sl _ _,fun n hn=>by cases hn⟩
 ·have hzl:len≤zs.length:=by rw [hz];split <;> omega
  refine ⟨some x,len,cap,zs.take len,rfl,?_,fun n hn=>hw n (List.mem_of_mem_take hn)⟩
  have hlen:(zs.take len).length=len:=by rw [List.length_take];omega
  unfold SlN
  rw [hlen]
  refine ⟨by rw [List.length_map,hlen,Nat.mul_one],?_⟩
  by_cases h0:len=0
  ·subst h0;exact .inl ⟨rfl,some x,cap,rfl⟩
  ·right
   have h1:=hcell 0 oM
   obtain ⟨b,off,sp⟩:=x
   have hsp:sp=none:=by
    cases sp with
    | none=>rfl
    | some s=>simp only [World.cell?,Addr.add] at h1;split at h1 <;> simp_all
   subst hsp
   have hb:∃ c,hpOf w b=some c∧∀ i,i<zs.length→c[off+i]?=some (.int k (zs.getD i 0)):=by
    simp only [Addr.add_mid] at hcell
    unfold World.cell? at hcell
    unfold hpOf
    simp only at hcell
    cases hw':w.heap[b]? with
    | none=>have:=hcell 0 oM;rw [hw'] at this;cases this
    | some o =>
     cases o with
     | cells c T fz=>exact ⟨c,rfl,fun i hi=>by have:=hcell i hi;rw [hw'] at this;simpa using this⟩
     | _=>have:=hcell 0 oM;rw [hw'] at this;cases this
   obtain ⟨c,hc1,hc2⟩:=hb
   refine ⟨b,off,cap,c,rfl,hl,hc1,fun j y hj=>?_⟩
   rw [List.getElem?_map,List.getElem?_take] at hj
   split at hj
   ·rename_i hjl
    rw [hc2 j oM,← hj,List.getD_eq_getElem?_getD,List.getElem?_eq_getElem (by omega)];rfl
   ·cases hj
end
theorem i64_bounds {z:Int} (h:(Lit.int .i64 z).wf=true):-9223372036854775808≤z∧z<9223372036854775808:=by
 have:=bounds_i64 h;omega
end Go.Proofs.YtplhljjljnkhpaaGreatDoor
namespace Go.Proofs.YtplhljjljnkhpaaGreatDoor
open Go.ChangeShapes Go.WideShapes Go.ChangeAt Go.RowKit
def Raw20 (H:Hp) (v:Value):Prop:=∃ kd n w dp ls tr sm seed vg vl lg ll,v=rawV kd n w dp ls tr sm seed vg vl∧(i64B n∧i64B w∧i64B dp∧i64B ls∧i64B tr∧i64B sm)∧0≤seed∧IL H vg lg∧(∀ z,z∈lg→i64B z)∧IL H vl ll∧∀ z,z∈ll→i64B z
theorem ten_of {α:Type}:∀ {l:List α},l.length=10→∃ a b c d e f g h i j,l=[a,b,c,d,e,f,g,h,i,j]
 | [a,b,c,d,e,f,g,h,i,j],_=>⟨a,b,c,d,e,f,g,h,i,j,rfl⟩
theorem raw20_open {H:Type} {enc:TypeId × Value→H} {w:World} {base:Nat} {spare:Nat→Bool} {held:Bool} {v:Value} {d:DataW H} {p:List MemPlace} (hv:∃ cs,v=.agg cs) (h:DataW.Trod enc Tryz.prog w base spare held 25 v d p):Raw20 (hpOf w) v:=by
 obtain ⟨cs,rfl⟩:=hv
 obtain ⟨fuel,h⟩:=h
 obtain ⟨xs,n,_,hx,hl,hlen,hf⟩:=DataW.trod_struct Tryz.underlying25 h
 rw [show Tryz.prog.cellsOf 25=10 from by kernel_rfl] at hl
 have hl4:cs.toList.length=10:=hl
 obtain ⟨l,rfl⟩:∃ l:List Value,cs=l.toArray:=⟨cs.toList,by simp⟩
 have hl4':l.length=10:=by simpa using hl4
 obtain ⟨c0,c1,c2,c3,c4,c5,c6,c7,c8,c9,rfl⟩:=ten_of hl4'
 have hx4:xs.length=10:=hlen
 have f0:DataW.trod enc Tryz.prog w base spare held n 3 (([c0,c1,c2,c3,c4,c5,c6,c7,c8,c9].drop 0).take (Tryz.prog.cellsOf 3))=xs[0]?:=hf 0 _ rfl
 have f1:DataW.trod enc Tryz.prog w base spare held n 3 (([c0,c1,c2,c3,c4,c5,c6,c7,c8,c9].drop 1).take (Tryz.prog.cellsOf 3))=xs[1]?:=hf 1 _ rfl
 have f2:DataW.trod enc Tryz.prog w base spare held n 3 (([c0,c1,c2,c3,c4,c5,c6,c7,c8,c9].drop 2).take (Tryz.prog.cellsOf 3))=xs[2]?:=hf 2 _ rfl
 have f3:DataW.trod enc Tryz.prog w base spare held n 3 (([c0,c1,c2,c3,c4,c5,c6,c7,c8,c9].drop 3).take (Tryz.prog.cellsOf 3))=xs[3]?:=hf 3 _ rfl
 have f4:DataW.trod enc Tryz.prog w base spare held n 3 (([c0,c1,c2,c3,c4,c5,c6,c7,c8,c9].drop 4).take (Tryz.prog.cellsOf 3))=xs[4]?:=hf 4 _ rfl
 have f5:DataW.trod enc Tryz.prog w base spare held n 3 (([c0,c1,c2,c3,c4,c5,c6,c7,c8,c9].drop 5).take (Tryz.prog.cellsOf 3))=xs[5]?:=hf 5 _ rfl
 have f6:DataW.trod enc Tryz.prog w base spare held n 3 (([c0,c1,c2,c3,c4,c5,c6,c7,c8,c9].drop 6).take (Tryz.prog.cellsOf 3))=xs[6]?:=hf 6 _ rfl
 have f7:DataW.trod enc Tryz.prog w base spare held n 22 (([c0,c1,c2,c3,c4,c5,c6,c7,c8,c9].drop 7).take (Tryz.prog.cellsOf 22))=xs[7]?:=hf 7 _ rfl
 have f8:DataW.trod enc Tryz.prog w base spare held n 23 (([c0,c1,c2,c3,c4,c5,c6,c7,c8,c9].drop 8).take (Tryz.prog.cellsOf 23))=xs[8]?:=hf 8 _ rfl
 have f9:DataW.trod enc Tryz.prog w base spare held n 23 (([c0,c1,c2,c3,c4,c5,c6,c7,c8,c9].drop 9).take (Tryz.prog.cellsOf 23))=xs[9]?:=hf 9 _ rfl
 rw [show Tryz.prog.cellsOf 3=1 from by kernel_rfl] at f0 f1 f2 f3 f4 f5 f6
 rw [show Tryz.prog.cellsOf 22=1 from by kernel_rfl] at f7
 rw [show Tryz.prog.cellsOf 23=1 from by kernel_rfl] at f8 f9
 rw [List.getElem?_eq_getElem (by omega)] at f0 f1 f2 f3 f4 f5 f6 f7 f8 f9
 obtain ⟨z0,e0,_,w0⟩:=DataW.trod_int Tryz.underlying3 f0
 obtain ⟨z1,e1,_,w1⟩:=DataW.trod_int Tryz.underlying3 f1
 obtain ⟨z2,e2,_,w2⟩:=DataW.trod_int Tryz.underlying3 f2
 obtain ⟨z3,e3,_,w3⟩:=DataW.trod_int Tryz.underlying3 f3
 obtain ⟨z4,e4,_,w4⟩:=DataW.trod_int Tryz.underlying3 f4
 obtain ⟨z5,e5,_,w5⟩:=DataW.trod_int Tryz.underlying3 f5
 obtain ⟨z6,e6,_,w6⟩:=DataW.trod_int Tryz.underlying3 f6
 obtain ⟨z7,e7,_,w7⟩:=DataW.trod_int Tryz.underlying22 f7
 obtain ⟨a8,l8,k8,b8,e8,s8,d8⟩:=ints_open Tryz.underlying23 Tryz.underlying3 kR f8
 obtain ⟨a9,l9,k9,b9,e9,s9,d9⟩:=ints_open Tryz.underlying23 Tryz.underlying3 kR f9
 have g0:[c0]=[.int .i64 z0]:=e0
 have g1:[c1]=[.int .i64 z1]:=e1
 have g2:[c2]=[.int .i64 z2]:=e2
 have g3:[c3]=[.int .i64 z3]:=e3
 have g4:[c4]=[.int .i64 z4]:=e4
 have g5:[c5]=[.int .i64 z5]:=e5
 have g6:[c6]=[.int .i64 z6]:=e6
 have g7:[c7]=[.int .u64 z7]:=e7
 have g8:[c8]=[.slice a8 l8 k8]:=e8
 have g9:[c9]=[.slice a9 l9 k9]:=e9
 cases g0;cases g1;cases g2;cases g3;cases g4;cases g5;cases g6;cases g7;cases g8;cases g9
 have hs:=bounds_u64 w7
 exact ⟨z0,z1,z2,z3,z4,z5,z6,z7,_,_,b8,b9,rfl,⟨i64_bounds w1,i64_bounds w2,i64_bounds w3,i64_bounds w4,i64_bounds w5,i64_bounds w6⟩,by omega,s8,fun z hz=>i64_bounds (d8 z hz),s9,fun z hz=>i64_bounds (d9 z hz)⟩
end Go.Proofs.YtplhljjljnkhpaaGreatDoor
namespace Go.Proofs.YtplhljjljnkhpaaGreatDoor
open Go.RowKit _root_.Go.Proofs.Tryz
section
variable {P:Program} {n:Nat} {ops:Array Oper} {o:Oper} {rest:List Oper} {env:Env} {bx:Bxs} {H:Hs} {Q:EQ} {τ:Tab} {d:Nat}
end
theorem one20N_pc {H:Hp} {v:Value} (h:Raw20 H v):PC prog 6 #[v] H fun r G=>∃ (kd cl least seed:Int) (ga va a1 a2:Option Addr) (gn gc vn vc N W D sm nt l1 c1 l2 c2:Nat) (vx:Value) (b1:Bool) (lg ll:List Int),
  r=.tuple #[goalV kd cl (.slice ga gn gc) (.slice va vn vc),vx,woodV nt sm seed (D:Int) least (.bool b1) (.slice a1 l1 c1) (.slice a2 l2 c2)] ∧
  GoalR G (goalV kd cl (.slice ga gn gc) (.slice va vn vc)) N (rowQ lg N)∧RLL G vx (rowsQ ll N W)∧RQ G (.agg #[.bool b1,.slice a1 l1 c1,.slice a2 l2 c2]) 0 ∧
  (1≤N∧N≤8)∧(1≤W∧W≤3)∧D≤2∧(1≤sm∧sm≤W)∧(1≤nt∧nt≤4)∧(1≤least∧least≤3)∧0≤seed:=by
 obtain ⟨kd,n,w,dp,ls,tr,sm,seed,vg,vl,lg,ll,rfl,⟨hn,hw,hdp,hls,htr,hsm⟩,hsd,hg,hgb,hl,hlb⟩:=h
 obtain ⟨N,hN⟩:∃ N:Nat,1+n % 8=(N:Int):=⟨(1+n % 8).toNat,by omega⟩
 obtain ⟨W,hW⟩:∃ W:Nat,1+w % 3=(W:Int):=⟨(1+w % 3).toNat,by omega⟩
 obtain ⟨D,hD⟩:∃ D:Nat,dp % 3=(D:Int):=⟨(dp % 3).toNat,by omega⟩
 obtain ⟨NT,hNT⟩:∃ D:Nat,1+tr % 4=(D:Int):=⟨(1+tr % 4).toNat,by omega⟩
 have h1:=Int.emod_nonneg sm (show (W:Int)≠0 by omega)
 have h2:=Int.emod_lt_of_pos sm (show 0<(W:Int) by omega)
 obtain ⟨SM,hSM⟩:∃ D:Nat,1+sm % (W:Int)=(D:Int):=⟨(1+sm % (W:Int)).toNat,by omega⟩
 refine (one20_pc kd n w dp ls tr sm seed hn hw hdp hls htr hsm hg hgb hl hlb hN hW).mono ?_
 rintro r G ⟨kd',cl,ga,gn,gc,va,vn,vc,vx,b1,a1,l1,c1,a2,l2,c2,rfl,r1,r2,r3⟩ hG
 rw [hNT,hSM,hD]
 exact ⟨kd',cl,1+ls % 3,seed,ga,va,a1,a2,gn,gc,vn,vc,N,W,D,SM,NT,l1,c1,l2,c2,vx,b1,lg,ll,rfl,r1,r2,r3,by omega,by omega,by omega,by omega,by omega,by omega,hsd⟩
end Go.Proofs.YtplhljjljnkhpaaGreatDoor
namespace Go.Proofs.YtplhljjljnkhpaaGreatDoor
instance:Nonempty Nd:=⟨⟨0,0,0,0,0,0,0,0,[]⟩⟩
noncomputable def leafN (x:List Rat) (t:Tr):Nd:=Classical.epsilon fun n=>∃ i,Leaf t.ns x 0 i∧t.ns[i]?=some n
theorem leafN_eq {x:List Rat} {t:Tr} {i:Nat} {n:Nd} (h1:Leaf t.ns x 0 i) (h2:t.ns[i]?=some n):leafN x t=n:=by
 have h:∃ n,∃ i,Leaf t.ns x 0 i∧t.ns[i]?=some n:=⟨n,i,h1,h2⟩
 obtain ⟨j,h3,h4⟩:=Classical.epsilon_spec h
 have e:=h1.det h3
 subst e
 have h5:some (leafN x t)=some n:=h4.symm.trans h2
 exact Option.some.inj h5
noncomputable def kL (x:List Rat) (ts:List Tr):List Int:=ts.map fun t=>(leafN x t).cls
noncomputable def vL (x:List Rat) (ts:List Tr):List Rat:=ts.map fun t=>(leafN x t).value
theorem CLs.eq {x:List Rat} {ks:List Int} {ts:List Tr} (h:CLs x ks ts):ks=kL x ts:=by
 refine List.ext_getElem (by unfold kL;rw [List.length_map];exact h.1) fun j h1 h2=>?_
 have ht:j<ts.length:=by rw [← h.1];exact h1
 obtain ⟨i,n,hl,hn,e⟩:=h.2 j _ _ (List.getElem?_eq_getElem h1) (List.getElem?_eq_getElem ht)
 show ks[j]=(ts.map fun t=>(leafN x t).cls)[j]'(by rw [List.length_map];exact ht)
 rw [List.getElem_map,leafN_eq hl hn,e]
theorem VLs.eq {x:List Rat} {qs:List Rat} {ts:List Tr} (h:VLs x qs ts):qs=vL x ts:=by
 refine List.ext_getElem (by unfold vL;rw [List.length_map];exact h.1) fun j h1 h2=>?_
 have ht:j<ts.length:=by rw [← h.1];exact h1
 obtain ⟨i,n,hl,hn,e⟩:=h.2 j _ _ (List.getElem?_eq_getElem h1) (List.getElem?_eq_getElem ht)
 show qs[j]=(ts.map fun t=>(leafN x t).value)[j]'(by rw [List.length_map];exact ht)
 rw [List.getElem_map,leafN_eq hl hn,e]
theorem Sub.leafs {T:List Nd} {w:Int} {k h e:Nat} (h0:Sub T w k h e) (x:List Rat):∃ (j:Nat) (n:Nd),Leaf T x k j∧T[j]?=some n:=by
 induction h0 with
 | @leaf k h n a b _ _ _=>exact ⟨k,n,.here a b,a⟩
 | @node k h m e n a b c d f s1 s2 ih1 ih2 =>
  by_cases hle:x.getD n.col.toNat 0≤n.at'
  ·obtain ⟨j,q,h1,h2⟩:=ih1
   refine ⟨j,q,.low a oM hle ?_,h2⟩
   rw [d];exact h1
  ·obtain ⟨j,q,h1,h2⟩:=ih2
   refine ⟨j,q,.high a oM hle ?_,h2⟩
   rw [f];exact h1
theorem leaf_ex {t:Tr} (h:TreeOk t) (x:List Rat):∃ i:Nat,Leaf t.ns x 0 i∧i<t.ns.length∧t.ns[i]?=some (leafN x t)∧OkN t.kd t.cl (leafN x t):=by
 obtain ⟨_,_,_,⟨hh,_,hsub⟩,hall⟩:=h
 obtain ⟨i,n,h1,h2⟩:=hsub.leafs x
 have hi:=(List.getElem?_eq_some_iff.1 h2).1
 rw [leafN_eq h1 h2]
 obtain ⟨n',e,hN,_⟩:=hall i hi
 rw [h2] at e
 cases e
 exact ⟨i,h1,hi,h2,hN⟩
end Go.Proofs.YtplhljjljnkhpaaGreatDoor
namespace Go.Proofs.YtplhljjljnkhpaaGreatDoor
open Go.RowKit _root_.Go.Proofs.Tryz
theorem valid_pc {H:Hp} {v:Value} {X:List (List Rat)} {w:Nat} (h:QLL H v X) (h1:1≤X.length) (h2:X.length≤300) (hw:1≤w∧w≤20) (hx:∀ x,x∈X→x.length=w):PC prog 34 #[v] H fun r _=>r=.bool true:=by
 obtain ⟨vs,hvs,hs⟩:=h
 obtain ⟨a,c,rfl⟩:=SlC.val hs
 obtain ⟨x0,hx0⟩:∃ x,X[0]?=some x:=⟨_,List.getElem?_eq_getElem h1⟩
 obtain ⟨a0,c0,hv0,_⟩:=hvs.at hx0
 have hl0:=hx x0 (List.mem_of_getElem? hx0)
 rw [hl0] at hv0
 refine BD func34 ntmps34 ?_
 try refine RUN ?_
 rw [decide_eq_false (show ¬ (X.length:Int)<1 by omega)]
 try refine RUN ?_
 rw [decide_eq_false (show ¬ (X.length:Int)>300 by omega)]
 try refine RUN ?_
 refine EVL.idxR tO rfl rfl rfl rfl rfl rfl rfl rfl rfl rfl (hs) (0) (rfl) (h1) (hv0) ?_
 try refine RUN ?_
 rw [decide_eq_false (show ¬ (w:Int)<1 by omega)]
 try refine RUN ?_
 refine EVL.idxR tO rfl rfl rfl rfl rfl rfl rfl rfl rfl rfl (hs) (0) (rfl) (h1) (hv0) ?_
 try refine RUN ?_
 rw [decide_eq_false (show ¬ (w:Int)>20 by omega)]
 try refine RUN ?_
 refine EV.loopK (ι:=Nat) [0,27,28] [] (fun i=>[(29,.v (.int .i64 (i:Int)))]) (fun _=>[]) (fun _=>[]) (fun i _=>i≤X.length) (fun i=>X.length-i) (0) rfl rfl ⟨rfl,trivial⟩ trivial rfl (fun _=>rfl) (Nat.zero_le _) ?_
 rintro i G1 hG1 hi
 try refine RUN ?_
 refine EV.cond rfl (fun hlt=>?_) (fun hlt=>?_)
 ·simp only [nN] at hlt
  obtain ⟨x,hxi⟩:∃ x,X[i]?=some x:=⟨_,List.getElem?_eq_getElem hlt⟩
  obtain ⟨a1,c1,hv1,_⟩:=hvs.at hxi
  have hl1:=hx x (List.mem_of_getElem? hxi)
  rw [hl1] at hv1
  try refine RUN ?_
  refine EVL.idxR tO rfl rfl rfl rfl rfl rfl rfl rfl rfl rfl ((hs.mono hG1)) (i) (rfl) (hlt) (hv1) ?_
  try refine RUN ?_
  refine EVL.idxR tO rfl rfl rfl rfl rfl rfl rfl rfl rfl rfl ((hs.mono hG1)) (0) (rfl) (h1) (hv0) ?_
  try refine RUN ?_
  rw [bne_self_eq_false]
  try refine RUN ?_
  refine ⟨i+1,⟨by rw [wi_inc i (by omega)];rfl,trivial⟩,sB,trivial,sB,rfl,hlt,Hp.Le.refl _,by omega⟩
 ·simp only [nN] at hlt
  try refine RUN ?_
  rfl
set_option maxHeartbeats 4000000 in
theorem tvalid_pc {H:Hp} {v:Value} {X:List (List Rat)} {w:Nat} (h:QLL H v X) (h1:1≤X.length) (h2:X.length≤300) (hw:1≤w∧w≤20) (hx:∀ x,x∈X→x.length=w):PC prog 139 #[v] H fun r _=>r=.bool true:=by
 obtain ⟨vs,hvs,hs⟩:=h
 obtain ⟨a,c,rfl⟩:=SlC.val hs
 obtain ⟨x0,hx0⟩:∃ x,X[0]?=some x:=⟨_,List.getElem?_eq_getElem h1⟩
 obtain ⟨a0,c0,hv0,_⟩:=hvs.at hx0
 have hl0:=hx x0 (List.mem_of_getElem? hx0)
 rw [hl0] at hv0
 refine BD func139 ntmps139 ?_
 try refine RUN ?_
 rw [decide_eq_false (show ¬ (X.length:Int)<1 by omega)]
 try refine RUN ?_
 rw [decide_eq_false (show ¬ (X.length:Int)>300 by omega)]
 try refine RUN ?_
 refine EVL.idxR tO rfl rfl rfl rfl rfl rfl rfl rfl rfl rfl (hs) (0) (rfl) (h1) (hv0) ?_
 try refine RUN ?_
 rw [decide_eq_false (show ¬ (w:Int)<1 by omega)]
 try refine RUN ?_
 refine EVL.idxR tO rfl rfl rfl rfl rfl rfl rfl rfl rfl rfl (hs) (0) (rfl) (h1) (hv0) ?_
 try refine RUN ?_
 rw [decide_eq_false (show ¬ (w:Int)>20 by omega)]
 try refine RUN ?_
 refine EV.loopK (ι:=Nat) [0,27,28] [] (fun i=>[(29,.v (.int .i64 (i:Int)))]) (fun _=>[]) (fun _=>[]) (fun i _=>i≤X.length) (fun i=>X.length-i) (0) rfl rfl ⟨rfl,trivial⟩ trivial rfl (fun _=>rfl) (Nat.zero_le _) ?_
 rintro i G1 hG1 hi
 try refine RUN ?_
 refine EV.cond rfl (fun hlt=>?_) (fun hlt=>?_)
 ·simp only [nN] at hlt
  obtain ⟨x,hxi⟩:∃ x,X[i]?=some x:=⟨_,List.getElem?_eq_getElem hlt⟩
  obtain ⟨a1,c1,hv1,_⟩:=hvs.at hxi
  have hl1:=hx x (List.mem_of_getElem? hxi)
  rw [hl1] at hv1
  try refine RUN ?_
  refine EVL.idxR tO rfl rfl rfl rfl rfl rfl rfl rfl rfl rfl ((hs.mono hG1)) (i) (rfl) (hlt) (hv1) ?_
  try refine RUN ?_
  refine EVL.idxR tO rfl rfl rfl rfl rfl rfl rfl rfl rfl rfl ((hs.mono hG1)) (0) (rfl) (h1) (hv0) ?_
  try refine RUN ?_
  rw [bne_self_eq_false]
  try refine RUN ?_
  refine ⟨i+1,⟨by rw [wi_inc i (by omega)];rfl,trivial⟩,sB,trivial,sB,rfl,hlt,Hp.Le.refl _,by omega⟩
 ·simp only [nN] at hlt
  try refine RUN ?_
  rfl
abbrev rulC (deep least:Int) (g:Rat):List Value:=.int .i64 deep::.int .i64 least::vlist (fracV g)
set_option maxHeartbeats 4000000 in
theorem tfine_pc {H:Hp} {deep least:Int} {g:Rat} (hd:0≤deep∧deep≤10) (hl:1≤least∧least≤300) (h0:0≤g) (hg:sm g):PC prog 37 #[.agg (rulC deep least g).toArray] H fun r _=>r=.bool true:=by
 have hs:=sign_pv g (Nat.le_trans hg.num oM)
 refine BD func37 ntmps37 ?_
 try refine RUN ?_
 rw [decide_eq_true (show deep≥0 by omega)]
 try refine RUN ?_
 rw [decide_eq_true (show deep≤10 by omega)]
 try refine RUN ?_
 rw [decide_eq_true (show least≥1 by omega)]
 try refine RUN ?_
 rw [decide_eq_true (show least≤300 by omega)]
 repeat (first | refine RUN ?_ | refine CV (hs) ?_ | refine CE (hs) ?_)
 rw [decide_eq_true (show g.num.sign≥0 from Int.sign_nonneg_iff.2 (Rat.num_nonneg.2 h0))]
 try refine RUN ?_
set_option maxHeartbeats 8000000 in
theorem trefuse_pc {H:Hp} {kd cl deep least:Int} {sl sv vx vr:Value} {X:List (List Rat)} {S:List Int→List Value} {wo:List Int→Rat} {rows:List Int} {w:Nat} {g:Rat} (hg:GOk H kd cl sl sv X.length S wo) (hX:QLL H vx X) (h1:1≤X.length) (h2:X.length≤300) (hw:1≤w∧w≤20) (hx:∀ x,x∈X→x.length=w)
  (hr:IL H vr rows) (hr0:0<rows.length) (hrn:rows.length≤300) (hb:∀ r,r∈rows→0≤r∧r<(X.length:Int)) (hd:0≤deep∧deep≤10) (hl:1≤least∧least≤300) (h0:0≤g) (hgs:sm g) :
  PC prog 89 #[goalV kd cl sl sv,vx,vr,.agg (rulC deep least g).toArray] H fun r _=>r=.int .i64 0:=by
 obtain ⟨xa,xc,rfl⟩:=hX.val
 obtain ⟨ra,rc,rfl⟩:=SlC.val hr
 have hv:=tvalid_pc hX h1 h2 hw hx
 have hf:=fun (G:Hp)=>tfine_pc (H:=G) hd hl h0 hgs
 refine BD func89 ntmps89 ?_
 try refine RUN ?_
 refine EVL.call rfl rfl rfl rfl rfl (hv) ?_
 rintro _ G1 rfl hG1
 have hlen:=hg.leng
 repeat (first | refine RUN ?_ | refine CV (hlen) ?_ | refine CE (hlen) ?_)
 rw [show ((X.length:Int) != (X.length:Int))=false from bne_self_eq_false _]
 try refine RUN ?_
 rw [decide_eq_false (show ¬ (rows.length:Int)<1 by omega)]
 try refine RUN ?_
 rw [decide_eq_false (show ¬ (rows.length:Int)>300 by omega)]
 try refine RUN ?_
 refine EVL.call rfl rfl rfl rfl rfl (hg.check G1 hG1) ?_
 rintro _ G2 rfl hG2
 try refine RUN ?_
 refine EVL.call rfl rfl rfl rfl rfl (hf G2) ?_
 rintro _ G3 rfl hG3
 have hH3:=hG1.trans (hG2.trans hG3)
 try refine RUN ?_
 refine EV.loopK (ι:=Nat) [1,39,40] [] (fun q=>[(41,.v (.int .i64 (q:Int)))]) (fun _=>[]) (fun _=>[]) (fun q _=>q≤rows.length) (fun q=>rows.length-q) (0) rfl rfl ⟨rfl,trivial⟩ trivial rfl (fun _=>rfl) (Nat.zero_le _) ?_
 rintro i G4 hG4 hi
 try refine RUN ?_
 refine EV.cond rfl (fun hlt=>?_) (fun hlt=>?_)
 ·simp only [nN] at hlt
  obtain ⟨r,hri⟩:∃ r,rows[i]?=some r:=⟨_,List.getElem?_eq_getElem hlt⟩
  have hrb:=hb r (List.mem_of_getElem? hri)
  try refine RUN ?_
  refine EVL.idxR tO rfl rfl rfl rfl rfl rfl rfl rfl rfl rfl ((hr.mono (hH3.trans hG4))) (i) (rfl) (hlt) ((by rw [List.getElem?_map,hri];rfl)) ?_
  try refine RUN ?_
  rw [decide_eq_false (show ¬ r<0 by omega)]
  try refine RUN ?_
  rw [decide_eq_false (show ¬ r≥(X.length:Int) by omega)]
  try refine RUN ?_
  refine ⟨i+1,⟨by rw [wi_inc i (by omega)];rfl,trivial⟩,sB,trivial,trivial,rfl,hlt,Hp.Le.refl _,by omega⟩
 ·(try refine RUN ?_)
  rfl
theorem lent_apart {x:Nat × TypeId × List Value} {D ow post:Ows} (h:Distinct (x::(D++(ow++post)))):∀ k,k∈Ows.bs D→∀ q,q∈ow→k≠q.1:=fun k hk q hq e=>by
 have hn:=distinct_iff.1 h
 unfold Ows.bs at hn hk
 simp only [List.map_cons,List.map_append,List.nodup_cons,List.nodup_append] at hn
 exact hn.2.2.2 k hk q.1 (List.mem_append_left _ (List.mem_map.2 ⟨q,hq,rfl⟩)) e
theorem DiceO.bs {dv:Value} {D D':Ows} {s s':Int} (h:DiceO dv D s) (h':DiceO dv D' s'):Ows.bs D=Ows.bs D':=by
 rcases h with ⟨e,rfl⟩ | ⟨b,T,e,rfl,_⟩
 ·rcases h' with ⟨_,rfl⟩ | ⟨b',T',e',rfl,_⟩
  ·rfl
  ·rw [e] at e';cases e'
 ·rcases h' with ⟨e',rfl⟩ | ⟨b',T',e',rfl,_⟩
  ·rw [e] at e';cases e'
  ·rw [e] at e';cases e';rfl
set_option maxRecDepth 100000 in
set_option maxHeartbeats 16000000 in
theorem tgrow_pw {p:GP} {H:Hp} {kd cl least:Int} {D0 w:Nat} {S:List Int→List Value} {wo:List Int→Rat} {la va xa:Option Addr} {ln lc vn vc xc:Nat} {f:FuncId} {ccs:List Value} {dv vr:Value} {rows:List Int} {s:Int} {D:Ows}
  (hcl:∀ s,(p.cols s).1.length≤1000) (hx0:0<p.X.length) (hX20:p.X.length≤20) (hxw:∀ x,x∈p.X→x.length=w) (hxq:∀ x,x∈p.X→∀ q,q∈x→ht q≤5) (hpl:p.least=least) (hgr:sm p.gain) (hD0:D0≤10)
  (hg:PGoal H kd cl (.slice la ln lc) (.slice va vn vc) p S wo) (hX:QLL H (.slice xa p.X.length xc) p.X) (hcf:ColsOk H f ccs dv p) (hr:IL H vr rows) (hn:rows.length≤20) (hb:∀ r,r∈rows→0≤r∧r<(p.X.length:Int)) (hD:DiceO dv D s) :
  PW prog 90 #[goalV kd cl (.slice la ln lc) (.slice va vn vc),.slice xa p.X.length xc,vr,.agg (rulC (D0:Int) least p.gain).toArray,.func (.func f) #[] ccs.toArray] H D fun v ow H'=>∃ cs,v=.agg cs.toArray∧PTree H' cs kd cl (w:Int) (p.grow D0 0 rows s).1∧DiceO dv ow (p.grow D0 0 rows s).2:=by
 obtain ⟨ra,rc,rfl⟩:=SlC.val hr
 have hpow:2 ^ (D0+1)≤2 ^ 11:=Nat.pow_le_pow_right oM oM
 obtain ⟨vs,hvs,hvx⟩:=id hX
 obtain ⟨x0,hxx0⟩:∃ x,p.X[0]?=some x:=⟨_,List.getElem?_eq_getElem hx0⟩
 obtain ⟨u0,e0,hu0,_⟩:=hvs.at hxx0
 rw [hxw x0 (List.mem_of_getElem? hxx0)] at hu0
 refine PW.body tO func90 rfl kR ntmps90 rfl rfl ?_
 try refine RUN ?_
 (first | refine EVL.unbox (11) rfl fun gb=>?_ | refine EV.unbox (11) rfl fun gb=>?_)
 refine EVL.callW rfl rfl rfl rfl rfl ((gb,222,_)::(D++[])) [] (by rw [List.append_nil,List.append_nil]) (pgrow_pw (p:=p) (deep:=(D0:Int)) hcl hx0 hX20 hxq hpl hgr D0 (ns:=[]) (css:=[]) hg hX hcf oM (Int.le_refl _) oM hr hn hb hD (OwnL.nil _ _) ⟨rfl,fun j c n e1 e2=>by cases e1⟩ (by rw [List.length_nil];omega)) ?_
 rintro _ _ G1 ⟨rfl,out,D',ow2,css,rfl,hD',hown,hns⟩ hG1
 rw [List.nil_append] at hown hns
 rw [List.length_nil] at hown hns hD'
 obtain ⟨oa,oc,rfl⟩:=hown.val
 rw [List.append_nil ((gb,_,_)::(D'++ow2))]
 refine EVL.apart fun hdis=>?_
 refine EVL.publishL ((gb,_,_)::D') ow2 [] (by rw [List.append_nil,List.cons_append]) hown (fun G2 hG2 hc=>?_) (fun k hk q hq=>lent_apart (post:=[]) (by rw [List.append_nil];exact hdis) k (by rw [← hD.bs hD'];exact hk) q hq)
 rw [List.append_nil ((gb,_,_)::D')]
 have hG12:=hG1.trans hG2
 try refine RUN ?_
 apply EV.drawn 11 kR kR;intro xv yw
 (repeat (first | refine' DV ?_ | refine' DA ?_ | refine' DK0 ?_ | refine' DT ?_ | refine' DS ?_))
 refine' DJ.ofVal (ValOk.idx1 tO rfl rfl rfl rfl rfl rfl rfl rfl (hvx.mono hG12) (0) (rfl) (hx0) (hu0)) rfl rfl rfl ?_;rotate_left
 (repeat (first | refine' DV ?_ | refine' DA ?_ | refine' DK0 ?_ | refine' DT ?_ | refine' DS ?_ | (refine' DJ.nilB rfl rfl rfl rfl rfl ?_;rotate_left) | (refine' DJ.fldB tO rfl rfl rfl rfl rfl rfl rfl ?_;rotate_left)))
 refine' DJ.ofVal (ValOk.loadOwn tO rfl rfl rfl rfl (0) rfl (rfl) rfl rfl) rfl rfl rfl ?_;rotate_left
 (repeat (first | refine' DV ?_ | refine' DA ?_ | refine' DK0 ?_ | refine' DT ?_ | refine' DS ?_ | (refine' DJ.nilB rfl rfl rfl rfl rfl ?_;rotate_left) | (refine' DJ.fldB tO rfl rfl rfl rfl rfl rfl rfl ?_;rotate_left)))
 (refine DJ.nil (fun G hG hF=>?_);(case hS|hS2=>rfl))
 (first | refine EVL.subOw [] [(gb,_,_)] _ rfl ?_ | refine EV.subOw [] [(gb,_,_)] _ rfl ?_)
 try refine RUN ?_
 exact ⟨_,rfl,⟨oa,oc,css,rfl,hns.mono (hG2.trans hG),SlC.mono hc hG⟩,hD'⟩
set_option maxRecDepth 100000 in
set_option maxHeartbeats 16000000 in
theorem tgrowSome_pw {p:GP} {H:Hp} {kd cl least:Int} {D0 sm' w bd:Nat} {Td:TypeId} {s:Int} {S:List Int→List Value} {wo:List Int→Rat} {la va xa:Option Addr} {ln lc vn vc xc:Nat} {vr:Value} {rows:List Int}
  (hds:∀ s,p.cols s=((orderL w s).1.take sm',(orderL w s).2)) (hsm1:1≤sm') (hsm:sm'≤w) (hw2:w≤20) (hx0:0<p.X.length) (hX20:p.X.length≤20) (hxw:∀ x,x∈p.X→x.length=w) (hxq:∀ x,x∈p.X→∀ q,q∈x→ht q≤5) (hpl:p.least=least) (hl:1≤least∧least≤300) (hgr:sm p.gain) (hg0:0≤p.gain) (hD0:D0≤10)
  (hg:PGoal H kd cl (.slice la ln lc) (.slice va vn vc) p S wo) (hX:QLL H (.slice xa p.X.length xc) p.X) (hr:IL H vr rows) (hr0:0<rows.length) (hn:rows.length≤20) (hb:∀ r,r∈rows→0≤r∧r<(p.X.length:Int)) (hs:0≤s) :
  PW prog 41 #[goalV kd cl (.slice la ln lc) (.slice va vn vc),.slice xa p.X.length xc,vr,.agg (rulC (D0:Int) least p.gain).toArray,.int .i64 (sm':Int),.pointer (some ⟨bd,0,none⟩)] H [(bd,Td,[.int .u64 s])]
   fun v ow H'=>∃ T' cs,v=.tuple #[.agg cs.toArray,.int .i64 0]∧ow=[(bd,T',[.int .u64 (p.grow D0 0 rows s).2])]∧0≤(p.grow D0 0 rows s).2∧PTree H' cs kd cl (w:Int) (p.grow D0 0 rows s).1:=by
 obtain ⟨ra,rc,rfl⟩:=SlC.val hr
 have hrf:=trefuse_pc (deep:=(D0:Int)) hg.ok hX hx0 oM ⟨by omega,hw2⟩ hxw hr hr0 oM hb oM hl hg0 hgr
 obtain ⟨vs,hvs,hvx⟩:=id hX
 obtain ⟨x0,hxx0⟩:∃ x,p.X[0]?=some x:=⟨_,List.getElem?_eq_getElem hx0⟩
 obtain ⟨u0,e0,hu0,_⟩:=hvs.at hxx0
 rw [hxw x0 (List.mem_of_getElem? hxx0)] at hu0
 refine PW.body tO func41 rfl kR ntmps41 rfl rfl ?_
 try refine RUN ?_
 refine EVL.call rfl rfl rfl rfl rfl (hrf) ?_
 rintro _ G1 rfl hG1
 try refine RUN ?_
 refine EVL.idxR tO rfl rfl rfl rfl rfl rfl rfl rfl rfl rfl ((hvx.mono hG1)) (0) (rfl) (hx0) (hu0) ?_
 try refine RUN ?_
 rw [decide_eq_false (show ¬ (sm':Int)<1 by omega)]
 try refine RUN ?_
 rw [decide_eq_false (show ¬ (sm':Int)>(w:Int) by omega)]
 try refine RUN ?_
 refine EVL.eqnilP (e:=162) kR rfl rfl rfl rfl rfl ?_
 try refine RUN ?_
 (first | refine EVL.unbox (11) rfl fun ga=>?_ | refine EV.unbox (11) rfl fun ga=>?_)
 (first | refine EVL.unbox (15) rfl fun gw=>?_ | refine EV.unbox (15) rfl fun gw=>?_)
 (first | refine EVL.unbox (10) rfl fun gs=>?_ | refine EV.unbox (10) rfl fun gs=>?_)
 (first | refine EVL.apart fun hdis=>?_ | refine EV.apart fun hdis=>?_)
 have hap:gs≠bd∧gw≠bd∧ga≠bd:=by
  refine ⟨fun e=>?_,fun e=>?_,fun e=>?_⟩
  ·have:=hdis 0 3 gs _ _ _ _ rfl (by rw [e];rfl);omega
  ·have:=hdis 1 3 gw _ _ _ _ rfl (by rw [e];rfl);omega
  ·have:=hdis 2 3 ga _ _ _ _ rfl (by rw [e];rfl);omega
 (first | refine EVL.publish [] _ rfl (fun G2 hG2 hs2=>?_) (fun k hk=>by rw [List.mem_singleton.1 hk];exact hap.1.symm) | refine EV.publish [] _ rfl (fun G2 hG2 hs2=>?_) (fun k hk=>by rw [List.mem_singleton.1 hk];exact hap.1.symm))
 (first | refine EVL.publish [] _ rfl (fun G3 hG3 hs3=>?_) (fun k hk=>by rw [List.mem_singleton.1 hk];exact hap.2.1.symm) | refine EV.publish [] _ rfl (fun G3 hG3 hs3=>?_) (fun k hk=>by rw [List.mem_singleton.1 hk];exact hap.2.1.symm))
 (first | refine EVL.publish [] _ rfl (fun G4 hG4 hs4=>?_) (fun k hk=>by rw [List.mem_singleton.1 hk];exact hap.2.2.symm) | refine EV.publish [] _ rfl (fun G4 hG4 hs4=>?_) (fun k hk=>by rw [List.mem_singleton.1 hk];exact hap.2.2.symm))
 try refine RUN ?_
 refine EVL.fn3 rfl rfl rfl rfl rfl rfl rfl ?_
 have hH4:=hG1.trans (hG2.trans (hG3.trans hG4))
 have hcf:=pcols_ok (p:=p) (H:=G4) hds hsm oM oM hs4 (hG4 _ _ hs3) (hG4 _ _ (hG3 _ _ hs2))
 refine EVL.callW rfl rfl rfl rfl rfl [(bd,Td,[.int .u64 s])] [] rfl (tgrow_pw (w:=w) (fun s=>by rw [hds];show ((orderL w s).1.take sm').length≤1000;rw [List.length_take];omega) hx0 hX20 hxw hxq hpl hgr hD0 (hg.mono hH4) (hX.mono hH4) hcf (hr.mono hH4) hn hb (.inr ⟨bd,Td,rfl,rfl,hs⟩)) ?_
 rintro _ D' G5 ⟨cs,rfl,hpt,hD'⟩ hG5
 rcases hD' with ⟨e1,_⟩ | ⟨bd',T',e1,rfl,hs'⟩
 ·cases e1
 cases e1
 obtain ⟨ta,tc,css,rfl,_⟩:=id hpt
 try refine RUN ?_
 exact ⟨T',_,rfl,rfl,hs',hpt⟩
abbrev fruleC (nt sm:Nat) (seed deep least:Int) (g:Rat):List Value:=.int .i64 (nt:Int)::.int .i64 (sm:Int)::.int .u64 seed::rulC deep least g
set_option maxRecDepth 100000 in
set_option maxHeartbeats 32000000 in
theorem fgrow_pc {p:GP} {H:Hp} {kd cl least:Int} {D0 sm' w nt:Nat} {seed:Int} {S:List Int→List Value} {wo:List Int→Rat} {la va xa:Option Addr} {ln lc vn vc xc:Nat}
  (hds:∀ s,p.cols s=((orderL w s).1.take sm',(orderL w s).2)) (hsm1:1≤sm') (hsm:sm'≤w) (hw2:w≤20) (hx0:0<p.X.length) (hX20:p.X.length≤20) (hxw:∀ x,x∈p.X→x.length=w) (hxq:∀ x,x∈p.X→∀ q,q∈x→ht q≤5) (hpl:p.least=least) (hl:1≤least∧least≤300) (hgr:sm p.gain) (hg0:0≤p.gain) (hD0:D0≤10)
  (hg:PGoal H kd cl (.slice la ln lc) (.slice va vn vc) p S wo) (hX:QLL H (.slice xa p.X.length xc) p.X) (hn1:1≤nt) (hn2:nt≤50) (hs:0≤seed) :
  PC prog 9 #[goalV kd cl (.slice la ln lc) (.slice va vn vc),.slice xa p.X.length xc,.agg (fruleC nt sm' seed (D0:Int) least p.gain).toArray] H fun r H'=>∃ at' ct ao co,r=.tuple #[forestV kd cl (w:Int) (.slice at' nt ct) (.slice ao nt co),.int .i64 0]∧PTL H' (.slice at' nt ct) (p.wood D0 p.X.length kd cl (w:Int) nt seed).1∧ILL H' (.slice ao nt co) (p.wood D0 p.X.length kd cl (w:Int) nt seed).2.1:=by
 have hvalid:=valid_pc hX hx0 oM ⟨by omega,hw2⟩ hxw
 have hlen:=hg.ok.leng
 have hfine:=fun (G:Hp)=>tfine_pc (H:=G) (deep:=(D0:Int)) oM hl hg0 hgr
 obtain ⟨vs,hvs,hvx⟩:=id hX
 obtain ⟨x0,hxx0⟩:∃ x,p.X[0]?=some x:=⟨_,List.getElem?_eq_getElem hx0⟩
 obtain ⟨u0,e0,hu0,_⟩:=hvs.at hxx0
 rw [hxw x0 (List.mem_of_getElem? hxx0)] at hu0
 refine BD func9 ntmps9 ?_
 try refine RUN ?_
 refine EVL.call rfl rfl rfl rfl rfl (hvalid) ?_
 rintro _ G0 rfl hG0
 repeat (first | refine RUN ?_ | refine CV (hlen) ?_ | refine CE (hlen) ?_)
 rw [show ((p.X.length:Int) != (p.X.length:Int))=false from bne_self_eq_false _]
 try refine RUN ?_
 refine EVL.idxR tO rfl rfl rfl rfl rfl rfl rfl rfl rfl rfl ((hvx.mono hG0)) (0) (rfl) (hx0) (hu0) ?_
 try refine RUN ?_
 refine EVL.call rfl rfl rfl rfl rfl (hg.ok.check G0 hG0) ?_
 rintro _ G1 rfl hG1
 try refine RUN ?_
 rw [decide_eq_false (show ¬ (nt:Int)<1 by omega)]
 try refine RUN ?_
 rw [decide_eq_false (show ¬ (nt:Int)>50 by omega)]
 try refine RUN ?_
 rw [decide_eq_false (show ¬ (sm':Int)<1 by omega)]
 try refine RUN ?_
 rw [decide_eq_false (show ¬ (sm':Int)>(w:Int) by omega)]
 try refine RUN ?_
 refine EVL.call rfl rfl rfl rfl rfl (hfine G1) ?_
 rintro _ G2 rfl hG2
 try refine RUN ?_
 refine EVL.callO rfl rfl rfl rfl rfl (dnew_po _) ?_
 rintro _ ow2 ⟨d0,rfl,rfl⟩
 try refine RUN ?_
 have hH2:=hG0.trans (hG1.trans hG2)
 refine EV.loopK (ι:=Nat × Value × List (List Value) × Ows × Value × List Value × Ows × TypeId) [1,3,5,6,9,10,72] [3,5,6] (fun q=>[(73,.v (.int .i64 (q.1:Int)))]) (fun q=>[(9,48,[.int .i64 kd,.int .i64 cl,.int .i64 (w:Int),q.2.1,q.2.2.2.2.1])]) (fun q=>(d0,q.2.2.2.2.2.2.2,[.int .u64 (p.wood D0 p.X.length kd cl (w:Int) q.1 seed).2.2])::(q.2.2.2.1++q.2.2.2.2.2.2.1)) (fun q G=>q.1≤nt∧PTs G q.2.2.1 (p.wood D0 p.X.length kd cl (w:Int) q.1 seed).1∧ILs G q.2.2.2.2.2.1 (p.wood D0 p.X.length kd cl (w:Int) q.1 seed).2.1∧OwnL 94 4 q.2.1 q.1 q.2.2.1.flatten q.2.2.2.1∧OwnL 23 1 q.2.2.2.2.1 q.1 q.2.2.2.2.2.1 q.2.2.2.2.2.2.1) (fun q=>nt-q.1) ((0,.slice none 0 0,[],[],.slice none 0 0,[],[],162)) rfl rfl ⟨rfl,trivial⟩ ⟨rfl,trivial⟩ rfl (fun _=>rfl) (⟨Nat.zero_le _,⟨rfl,fun j c t e1 e2=>by cases e1⟩,⟨rfl,fun j c t e1 e2=>by cases e1⟩,OwnL.nil _ _,OwnL.nil _ _⟩) ?_
 rintro ⟨i,vt,tcs,owT,vo,vos,owO,Td⟩ G3 hG3 ⟨hi,hts,hos,hownT,hownO⟩
 dsimp only at hi hts hos hownT hownO
 obtain ⟨ta,tc,rfl⟩:=hownT.val
 obtain ⟨oa,oc,rfl⟩:=hownO.val
 have hH3:=hH2.trans hG3
 obtain ⟨hwl1,hwl2,hwl3⟩:=p.wood_len D0 p.X.length kd cl (w:Int) i seed
 have hws:=p.wood_succ D0 p.X.length kd cl (w:Int) i seed
 try refine RUN ?_
 refine EV.cond rfl (fun hlt=>?_) (fun hlt=>?_)
 ·simp only [nN] at hlt
  try refine RUN ?_
  refine EVL.callW rfl rfl rfl rfl rfl ([(d0,Td,_)]) (owT++owO) rfl (pfork_pw (t:=treeB) (hwl3 hs) (by decide)) ?_
  rintro _ _ G4 ⟨T4,g4,rfl,rfl,hs4,hf4⟩ hG4
  try refine RUN ?_
  refine EVL.callW rfl rfl rfl rfl rfl ([(g4,_,_)]) ((d0,T4,_)::(owT++owO)) rfl (pboot_pw hf4 oM oM) ?_
  rintro _ _ G5 ⟨T5,u5,w5,rfl,rfl,hs5,hu5,hw5⟩ hG5
  have hbe:((sortI (drawL p.X.length p.X.length (forkS (p.wood D0 p.X.length kd cl (w:Int) i seed).2.2 treeB)).1,(drawL p.X.length p.X.length (forkS (p.wood D0 p.X.length kd cl (w:Int) i seed).2.2 treeB)).2):List Int × Int)=bagS p.X.length (p.wood D0 p.X.length kd cl (w:Int) i seed).2.2:=rfl
  generalize hre:restL p.X.length (sortI (drawL p.X.length p.X.length (forkS (p.wood D0 p.X.length kd cl (w:Int) i seed).2.2 treeB)).1)=rs5 at *
  obtain ⟨ua5,uc5,rfl⟩:=SlC.val hu5
  obtain ⟨wa5,wc5,rfl⟩:=SlC.val hw5
  try refine RUN ?_
  have hH5:=hH3.trans (hG4.trans hG5)
  have hbl:(sortI (drawL p.X.length p.X.length (forkS (p.wood D0 p.X.length kd cl (w:Int) i seed).2.2 treeB)).1).length=p.X.length:=by rw [sortI_length,drawL_length]
  have hbm:∀ r,r∈sortI (drawL p.X.length p.X.length (forkS (p.wood D0 p.X.length kd cl (w:Int) i seed).2.2 treeB)).1→0≤r∧r<(p.X.length:Int):=fun r hr=>drawL_range _ _ _ oM oM r ((sortI_perm _).mem_iff.1 hr)
  refine EVL.callW rfl rfl rfl rfl rfl ([(g4,T5,_)]) ((d0,T4,_)::(owT++owO)) rfl (tgrowSome_pw hds hsm1 hsm hw2 hx0 hX20 hxw hxq hpl hl hgr hg0 hD0 (hg.mono hH5) (hX.mono hH5) hu5 (by rw [hbl];omega) (by rw [hbl];omega) hbm hs5) ?_
  rintro _ _ G6 ⟨T6,cs6,rfl,rfl,hs6,ht6⟩ hG6
  have hge:(p.grow D0 0 (bagS p.X.length (p.wood D0 p.X.length kd cl (w:Int) i seed).2.2).1 (bagS p.X.length (p.wood D0 p.X.length kd cl (w:Int) i seed).2.2).2)=p.grow D0 0 (sortI (drawL p.X.length p.X.length (forkS (p.wood D0 p.X.length kd cl (w:Int) i seed).2.2 treeB)).1) (drawL p.X.length p.X.length (forkS (p.wood D0 p.X.length kd cl (w:Int) i seed).2.2 treeB)).2:=rfl
  generalize p.grow D0 0 (sortI (drawL p.X.length p.X.length (forkS (p.wood D0 p.X.length kd cl (w:Int) i seed).2.2 treeB)).1) (drawL p.X.length p.X.length (forkS (p.wood D0 p.X.length kd cl (w:Int) i seed).2.2 treeB)).2=gr6 at *
  have hre':restL p.X.length (bagS p.X.length (p.wood D0 p.X.length kd cl (w:Int) i seed).2.2).1=rs5:=hre
  rw [hge,hre'] at hws
  obtain ⟨na,nc,css6,rfl,hns6,hsl6⟩:=id ht6
  refine EVL.subOw [] [(g4,_,_)] ((d0,T4,_)::(owT++owO)) rfl ?_
  try refine RUN ?_
  (first | refine EVL.swapOw ([(d0,T4,_)]) (owT++owO) (rfl) ?_ | refine EV.swapOw ([(d0,T4,_)]) (owT++owO) (rfl) ?_)
  refine EVL.app1 tO rfl rfl rfl rfl rfl rfl rfl rfl rfl rfl rfl rfl rfl rfl rfl rfl rfl rfl rfl (fun _=>rfl) (owT) (owO++[(d0,T4,_)]) (List.append_assoc _ _ _) (hownT) (oM) fun _=>?_
  intro vt' owT' hownT'
  obtain ⟨ta',tc',rfl⟩:=hownT'.val
  try refine RUN ?_
  (first | refine EVL.swapOw (owT') (owO++[(d0,T4,_)]) (rfl) ?_ | refine EV.swapOw (owT') (owO++[(d0,T4,_)]) (rfl) ?_)
  refine EVL.app1 tO rfl rfl rfl rfl rfl rfl rfl rfl rfl rfl rfl rfl rfl rfl rfl rfl rfl rfl rfl (fun _=>rfl) (owO) ([(d0,T4,_)]++owT') (List.append_assoc _ _ _) (hownO) (oM) fun _=>?_
  intro vo' owO' hownO'
  obtain ⟨oa',oc',rfl⟩:=hownO'.val
  (first | refine EVL.swapOw (owO') ([(d0,T4,_)]++owT') (rfl) ?_ | refine EV.swapOw (owO') ([(d0,T4,_)]++owT') (rfl) ?_)
  try refine RUN ?_
  have hG36:=hG4.trans (hG5.trans hG6)
  refine ⟨(i+1,.slice ta' (i+1) tc',tcs++[[.int .i64 kd,.int .i64 cl,.int .i64 (w:Int),.slice na gr6.1.length nc]],owT',.slice oa' (i+1) oc',vos++[.slice wa5 rs5.length wc5],owO',T4),⟨by dsimp only;rw [wi_inc i (by omega)];rfl,trivial⟩,sB,⟨rfl,trivial⟩,sB,?_,⟨hlt,?_,?_,?_,?_⟩,hG36,by dsimp only;omega⟩
  ·dsimp only;rw [hws];rfl
  ·dsimp only;rw [hws];exact rel_snoc (hts.mono hG36) ht6
  ·dsimp only;rw [hws];exact rel_snoc (hos.mono hG36) (hw5.mono hG6)
  ·dsimp only;rw [List.flatten_append];exact hownT'
  ·exact hownO'
 ·simp only [nN] at hlt
  obtain rfl:i=nt:=by omega
  (first | refine EVL.publishL [(d0,Td,_)] owT owO (rfl) hownT fun G4 hG4 hsT=>?_ | refine EV.publishL [(d0,Td,_)] owT owO (rfl) hownT fun G4 hG4 hsT=>?_)
  (first | refine EVL.publishL [(d0,Td,_)] owO [] ((by rw [List.append_nil owO])) hownO fun G5 hG5 hsO=>?_ | refine EV.publishL [(d0,Td,_)] owO [] ((by rw [List.append_nil owO])) hownO fun G5 hG5 hsO=>?_)
  try refine RUN ?_
  exact ⟨ta,tc,oa,oc,rfl,⟨tcs,by rw [hwl1];exact ⟨hts.mono (hG4.trans hG5),hsT.mono hG5⟩⟩,⟨vos,by rw [hwl2];exact ⟨hos.mono (hG4.trans hG5),hsO⟩⟩⟩
theorem ordR_refl (a:Rat):ordR a a=0:=Int.le_antisymm (ordQ_le Rat.le_refl) (ordQ_neg.2 Rat.lt_irrefl)
inductive GD where
 | v (qs:List Rat)
 | c (C:Nat) (ls:List Int)
def GD.kd:GD→Int
 | .v _=>2
 | .c _ _=>1
def GD.cl:GD→Int
 | .v _=>0
 | .c C _=>C
def GD.cost:GD→List Int→Rat
 | .v qs=>costVf qs
 | .c _ ls=>costLf ls
def GD.mean:GD→List Int→Rat
 | .v qs=>fun l=>meanL (atR qs l)
 | .c _ _=>fun _=>0
def GD.cnt:GD→List Int→List Int
 | .v _=>fun _=>[]
 | .c C ls=>fun l=>cntL C (atI ls l)
def GD.Ok (n:Nat):GD→Prop
 | .v qs=>qs.length=n∧∀ q,q∈qs→ht q≤5
 | .c C ls=>(1≤C∧C≤12)∧ls.length=n∧∀ z,z∈ls→0≤z∧z<(C:Int)
def GD.P (H:Hp) (sl sv:Value):GD→Prop
 | .v qs=>∃ la lc va vc,sl=.slice la 0 lc∧sv=.slice va qs.length vc∧QL H sv qs
 | .c _ ls=>∃ la lc va vc,sl=.slice la ls.length lc∧sv=.slice va 0 vc∧IL H sl ls
theorem GD.P.mono {H G:Hp} {sl sv:Value} {d:GD} (h:d.P H sl sv) (k:H.Le G):d.P G sl sv:=by
 cases d with
 | v qs=>obtain ⟨la,lc,va,vc,e1,e2,h⟩:=h;exact ⟨la,lc,va,vc,e1,e2,SlC.mono h k⟩
 | c C ls=>obtain ⟨la,lc,va,vc,e1,e2,h⟩:=h;exact ⟨la,lc,va,vc,e1,e2,SlC.mono h k⟩
def GD.R (H:Hp) (v:Value):GD→Prop
 | .v qs=>∃ s,v=goalV 2 0 (.slice none 0 0) s∧RL H s qs
 | .c C ls=>∃ s,v=goalV 1 C s (.slice none 0 0)∧IL H s ls
theorem GoalR.gd {H:Hp} {v:Value} {n:Nat} {qs:List Rat} (h:GoalR H v n qs) (hql:qs.length=n) (hq:∀ q,q∈qs→ht q≤5):∃ d:GD,d.Ok n∧d.R H v∧d.cl≤4:=by
 rcases h with ⟨s,rfl,hs⟩ | ⟨cl,s,ls,rfl,hc1,hc2,hll,hlb,hs⟩
 ·exact ⟨.v qs,⟨hql,hq⟩,⟨s,rfl,hs⟩,by show (0:Int)≤4;decide⟩
 ·obtain ⟨C,rfl⟩:=Int.eq_ofNat_of_zero_le (show 0≤cl by omega)
  exact ⟨.c C ls,⟨⟨by omega,by omega⟩,hll,hlb⟩,⟨s,rfl,hs⟩,hc2⟩
theorem GD.Ok.sm {n:Nat} {d:GD} (hd:d.Ok n):∀ l:List Int,l.length≤300→(∀ r,r∈l→0≤r∧r<(n:Int))→ht (d.mean l)≤4000∧ht (d.cost l)≤2000000:=by
 intro l hn hr
 cases d with
 | v qs =>
  obtain ⟨rfl,hq⟩:=hd
  have hlb:=fun q hq'=>hq q (atR_mem hr q hq')
  have hll:(atR qs l).length≤300:=by rw [atR_len];omega
  have h2:=meanL_ht hll hlb
  have h3:=devS_ht hll hlb h2
  show ht (meanL (atR qs l))≤4000∧ht (costVf qs l)≤2000000
  unfold costVf
  omega
 | c C ls =>
  have hsq:=sqL_le (atI ls l)
  have hll:(atI ls l).length=l.length:=atI_len ls l
  rw [hll] at hsq
  have hsq2:l.length*l.length≤300*300:=Nat.mul_le_mul hn hn
  have hn2:=ht_int (l.length:Int)
  have hn3:bl (l.length:Int).natAbs≤20:=bl_le oM
  have hs2:=ht_int (sqL (atI ls l):Int)
  have hs3:bl (sqL (atI ls l):Int).natAbs≤20:=bl_le oM
  have hdv:=ht_div ((sqL (atI ls l):Int):Rat) ((l.length:Int):Rat)
  have hsb:=ht_sub ((l.length:Int):Rat) (((sqL (atI ls l):Int):Rat) / ((l.length:Int):Rat))
  refine ⟨by show ht (0:Rat)≤4000;rw [ht_zero];decide,?_⟩
  show ht (costLf ls l)≤2000000
  unfold costLf costL
  rw [hll]
  omega
theorem GD.Ok.plain {n:Nat} {d:GD} (hd:d.Ok n):PlainG d.kd d.cl n d.cost d.mean d.cnt:=by
 have hsm:=hd.sm
 cases d with
 | v qs =>
  obtain ⟨rfl,hq⟩:=hd
  exact ⟨.inr ⟨rfl,rfl⟩,fun _=>rfl,fun _ _ _ _ k=>rfl,fun l c hc=>(by cases hc),fun e=>absurd e (by decide:¬ (2:Int)=1),fun e=>absurd e (by decide:¬ (2:Int)=1),fun l=>devL_nonneg _ _,fun l hn hr=>(hsm l hn hr).2,fun l hn hr=>(hsm l hn hr).1⟩
 | c C ls =>
  obtain ⟨hc,rfl,hlb⟩:=hd
  refine ⟨.inl ⟨rfl,by show (1:Int)≤(C:Int);omega,by show (C:Int)≤12;omega⟩,fun l=>by show ((cntL C (atI ls l)).length:Int)=(C:Int);rw [cntL_len],fun r l m hp k=>cntL_add C (by have:=hp.map (fun r:Int=>ls.getD r.toNat 0);rwa [List.map_append] at this) k,fun l c hc=>?_,fun _ l hr=>?_,fun _ l=>rfl,fun l=>costL_nonneg _,fun l hn hr=>(hsm l hn hr).2,fun l hn hr=>(hsm l hn hr).1⟩
  ·obtain ⟨k,_,rfl⟩:=List.mem_map.1 hc
   omega
  ·show (cntL C (atI ls l)).sum=_
   rw [cntL_sum (fun z hz=>hlb z (atI_memB hr z hz)),atI_len]
theorem GD.Ok.pgoal {H:Hp} {n:Nat} {d:GD} (hd:d.Ok n) (h0:1≤n) (h1:n≤300) {sl sv:Value} (hP:d.P H sl sv) {p:GP} (e0:p.X.length=n) (e1:p.cost=d.cost) (e2:p.mean=d.mean) (e3:p.cnt=d.cnt):∃ S wo,PGoal H d.kd d.cl sl sv p S wo:=by
 have hsm:=hd.sm
 cases d with
 | v qs =>
  obtain ⟨rfl,hq⟩:=hd
  obtain ⟨la,lc,va,vc,rfl,rfl,hv⟩:=hP
  have q100:∀ q,q∈qs→ht q≤100:=fun q hq'=>Nat.le_trans (hq q hq') oM
  have hcnt:=fun (G:Hp) (u:Value)=>countsV_pc (H:=G) (v:=u) (va:=va) (vc:=vc) (la:=la) (lc:=lc) h0 h1
  refine ⟨sideV qs,woV qs,⟨by rw [e0];exact gokV hv h0 h1 q100,by rw [e1];exact pokV qs,?_,?_,?_,?_,?_,?_⟩⟩
  ·rw [e0,e3];exact fun G hG u l hl hn=>hcnt G u
  ·rw [e3];exact fun l=>Nat.zero_le _
  ·rw [e0,e3];exact fun G hG u l hl hn=>topOf_pc (w:=u) ⟨_,_,_,_,rfl⟩ (hcnt G u) (by show ([]:List Int).length≤300;decide)
  ·rw [e0,e2];exact fun G hG u l hl hn=>meanG_pc hl hn (SlC.mono hv hG) h0 h1 q100
  ·rw [e0,e1];exact fun l hn hr=>(hsm l hn hr).2
  ·rw [e0,e1];exact fun G hG u l hl hn=>costV_pc hl hn (SlC.mono hv hG) h0 h1 q100
 | c C ls =>
  obtain ⟨hc,rfl,hlb⟩:=hd
  obtain ⟨la,lc,va,vc,rfl,rfl,hv⟩:=hP
  have hcnt:=fun (G:Hp) (hG:H.Le G) (u:Value) (l:List Int) (hl:IL G u l) (hn:l.length≤300)=>countsC_pc (va:=va) (vc:=vc) hl hn (SlC.mono hv hG) (C:=C) hc h0 h1 hlb
  refine ⟨sideL ls,woL ls,⟨by rw [e0];exact gokL ⟨by show (1:Int)≤(C:Int);omega,by show (C:Int)≤12;omega⟩ hv h0 h1 hlb,by rw [e1];exact pokL (fun z hz=>⟨(hlb z hz).1,by have:=(hlb z hz).2;omega⟩),?_,?_,?_,?_,?_,?_⟩⟩
  ·rw [e0,e3];exact hcnt
  ·rw [e3];exact fun l=>by show (cntL C (atI ls l)).length≤12;rw [cntL_len];omega
  ·rw [e0,e3];exact fun G hG u l hl hn=>topOf_pc (w:=u) ⟨_,_,_,_,rfl⟩ (hcnt G hG u l hl hn) (by show (cntL C (atI ls (exL l ls.length))).length≤300;rw [cntL_len];omega)
  ·rw [e0,e2];exact fun G hG u l hl hn=>meanC_pc
  ·rw [e0,e1];exact fun l hn hr=>(hsm l hn hr).2
  ·rw [e0,e1];exact fun G hG u l hl hn=>costC_pc (va:=va) (vc:=vc) hl hn (SlC.mono hv hG) ⟨by show (1:Int)≤(C:Int);omega,by show (C:Int)≤12;omega⟩ h0 h1 hlb
theorem GD.Ok.inGoal {H:Hp} {n:Nat} {d:GD} (hd:d.Ok n) (h1:n≤300) {v:Value} (hR:d.R H v):PC prog 10 #[v] H fun r H'=>∃ la ln lc va vn vc,r=goalV d.kd d.cl (.slice la ln lc) (.slice va vn vc)∧d.P H' (.slice la ln lc) (.slice va vn vc):=by
 cases d with
 | v qs =>
  obtain ⟨rfl,hq⟩:=hd
  obtain ⟨s,rfl,hs⟩:=hR
  have hqr:∀ q,q∈qs→rq q:=fun q hq'=>rq_small (hq q hq') oM
  refine (inGoal_pc (kd:=2) (cl:=0) (IL.nil H none 0) hs (by decide) oM hqr).mono ?_
  rintro r H' ⟨la,lc,va,vc,rfl,_,hv⟩ hH
  exact ⟨_,_,_,_,_,_,rfl,_,_,_,_,rfl,rfl,hv⟩
 | c C ls =>
  obtain ⟨hc,rfl,hlb⟩:=hd
  obtain ⟨s,rfl,hs⟩:=hR
  refine (inGoal_pc (kd:=1) (cl:=(C:Int)) hs (RL.nil H none 0) oM (by decide) (by intro q hq;cases hq)).mono ?_
  rintro r H' ⟨la,lc,va,vc,rfl,hv,_⟩ hH
  exact ⟨_,_,_,_,_,_,rfl,_,_,_,_,rfl,rfl,hv⟩
theorem inRules_pc {H:Hp} {deep least:Int} {b1:Bool} {a1 a2:Option Addr} {l1 c1 l2 c2:Nat} {g:Rat} (hq:RQ H (.agg #[.bool b1,.slice a1 l1 c1,.slice a2 l2 c2]) g) (hg:rq g) :
  PC prog 42 #[ruleV deep least (.bool b1) (.slice a1 l1 c1) (.slice a2 l2 c2)] H fun r _=>r=.agg (rulC deep least g).toArray:=by
 refine BD func42 ntmps42 ?_
 try refine RUN ?_
 apply EV.drawn 8 kR kR;intro xv yw
 (repeat (first | refine' DV ?_ | refine' DA ?_ | refine' DK0 ?_ | refine' DT ?_ | refine' DS ?_))
 refine' DJ.callS rfl rfl rfl rfl rfl (cO func62) (fun G hG hd=>in_pc (RQ.mono hq hG) hg) ?_;rotate_left
 (repeat (first | refine' DV ?_ | refine' DA ?_ | refine' DK0 ?_ | refine' DT ?_ | refine' DS ?_))
 (refine DJ.nil (fun G hG hF=>?_);(case hS|hS2=>rfl))
 try refine RUN ?_
 rfl
theorem rules20_pc {H:Hp} {nt sm':Nat} {seed deep least:Int} {b1:Bool} {a1 a2:Option Addr} {l1 c1 l2 c2:Nat} {g:Rat} (hq:RQ H (.agg #[.bool b1,.slice a1 l1 c1,.slice a2 l2 c2]) g) (hg:rq g) :
  PC prog 12 #[woodV nt sm' seed deep least (.bool b1) (.slice a1 l1 c1) (.slice a2 l2 c2)] H fun r _=>r=.agg (fruleC nt sm' seed deep least g).toArray:=by
 refine BD func12 ntmps12 ?_
 try refine RUN ?_
 apply EV.drawn 10 kR kR;intro xv yw
 (repeat (first | refine' DV ?_ | refine' DA ?_ | refine' DK0 ?_ | refine' DT ?_ | refine' DS ?_))
 refine' DJ.callS rfl rfl rfl rfl rfl (cO func42) (fun G hG hd=>inRules_pc (RQ.mono hq hG) hg) ?_;rotate_left
 (repeat (first | refine' DV ?_ | refine' DA ?_ | refine' DK0 ?_ | refine' DT ?_ | refine' DS ?_))
 (refine DJ.nil (fun G hG hF=>?_);(case hS|hS2=>rfl))
 try refine RUN ?_
 rfl
structure PForest (G:Hp) (v:Value) (kd cl w:Int) (ts:List Tr) (os:List (List Int)):Prop where
 val:∃ a1 c1 a2 c2,v=forestV kd cl w (.slice a1 ts.length c1) (.slice a2 os.length c2)∧PTL G (.slice a1 ts.length c1) ts∧ILL G (.slice a2 os.length c2) os
theorem PForest.mono {G K:Hp} {v:Value} {kd cl w:Int} {ts:List Tr} {os:List (List Int)} (h:PForest G v kd cl w ts os) (k:G.Le K):PForest K v kd cl w ts os:=by
 obtain ⟨a1,c1,a2,c2,e,h1,h2⟩:=h.val
 exact ⟨a1,c1,a2,c2,e,h1.mono k,h2.mono k⟩
def gdP (d:GD) (X:List (List Rat)) (least:Int) (W sm':Nat):GP:=woodP X d.cost d.mean d.cnt least W sm'
theorem pgrow20_pc {H:Hp} {d:GD} {N W D sm' nt:Nat} {least seed:Int} {sl sv vx:Value} {X:List (List Rat)} (hd:d.Ok N) (hP:d.P H sl sv) (hX:QLL H vx X) (hXl:X.length=N) (hXw:∀ x,x∈X→x.length=W∧∀ q,q∈x→ht q≤5)
  (hN:1≤N∧N≤20) (hW:1≤W∧W≤20) (hD:D≤9) (hsm:1≤sm'∧sm'≤W) (hnt:1≤nt∧nt≤50) (hl:1≤least∧least≤300) (hs:0≤seed) :
  PC prog 9 #[goalV d.kd d.cl sl sv,vx,.agg (fruleC nt sm' seed (D:Int) least 0).toArray] H fun r G=>∃ v,r=.tuple #[v,.int .i64 0]∧PForest G v d.kd d.cl (W:Int) ((gdP d X least W sm').wood D N d.kd d.cl (W:Int) nt seed).1 ((gdP d X least W sm').wood D N d.kd d.cl (W:Int) nt seed).2.1:=by
 subst hXl
 obtain ⟨xa,xc,rfl⟩:=hX.val
 obtain ⟨S,wo,hg⟩:=hd.pgoal (p:=gdP d X least W sm') hN.1 oM hP rfl rfl rfl rfl
 have hval:∃ la ln lc va vn vc,sl=.slice la ln lc∧sv=.slice va vn vc:=by
  cases d with
  | v qs=>obtain ⟨la,lc,va,vc,rfl,rfl,_⟩:=hP;exact ⟨_,_,_,_,_,_,rfl,rfl⟩
  | c C ls=>obtain ⟨la,lc,va,vc,rfl,rfl,_⟩:=hP;exact ⟨_,_,_,_,_,_,rfl,rfl⟩
 obtain ⟨la,ln,lc,va,vn,vc,rfl,rfl⟩:=hval
 have h0:sm (0:Rat):=by show ht (0:Rat)≤_;rw [ht_zero];decide
 refine (fgrow_pc (p:=gdP d X least W sm') (D0:=D) (sm':=sm') (w:=W) (fun s=>rfl) hsm.1 hsm.2 hW.2 (by show 0<X.length;omega) hN.2 (fun x hx=>(hXw x hx).1) (fun x hx=>(hXw x hx).2) rfl hl h0 Rat.le_refl oM hg hX hnt.1 hnt.2 hs).mono ?_
 rintro r G ⟨at',ct,ao,co,rfl,hT,hO⟩ hG
 obtain ⟨e1,e2,_⟩:=(gdP d X least W sm').wood_len D X.length d.kd d.cl (W:Int) nt seed
 exact ⟨_,rfl,at',ct,ao,co,by rw [e1,e2],by rw [e1];exact hT,by rw [e2];exact hO⟩
inductive Path (T:List Nd) (x:List Rat):Nat→List Int→Prop
 | here {i:Nat} {n:Nd}:T[i]?=some n→n.col = -1→Path T x i [(i:Int)]
 | low {i:Nat} {l:List Int} {n:Nd}:T[i]?=some n→n.col ≠ -1→x.getD n.col.toNat 0≤n.at'→Path T x n.left.toNat l→Path T x i ((i:Int)::l)
 | high {i:Nat} {l:List Int} {n:Nd}:T[i]?=some n→n.col ≠ -1→¬ x.getD n.col.toNat 0≤n.at'→Path T x n.right.toNat l→Path T x i ((i:Int)::l)
theorem Path.leaf {T:List Nd} {x:List Rat} {i:Nat} {l:List Int} (h:Path T x i l):∃ (j:Nat) (q:List Int),l=q++[(j:Int)]∧Leaf T x i j:=by
 induction h with
 | here h1 h2=>exact ⟨_,[],rfl,.here h1 h2⟩
 | @low i _ _ h1 h2 h3 _ ih=>obtain ⟨j,q,rfl,h⟩:=ih;exact ⟨j,(i:Int)::q,rfl,.low h1 h2 h3 h⟩
 | @high i _ _ h1 h2 h3 _ ih=>obtain ⟨j,q,rfl,h⟩:=ih;exact ⟨j,(i:Int)::q,rfl,.high h1 h2 h3 h⟩
set_option maxRecDepth 100000 in
set_option maxHeartbeats 16000000 in
theorem way_pc {H:Hp} {cs:List Value} {vx:Value} {kd cl w:Int} {ns:List Nd} {x:List Rat} (ht:PTree H cs kd cl w ns) (hok:TreeOk ⟨kd,cl,w,ns⟩) (hx:QL H vx x) (hxl:(x.length:Int)=w) (hxs:∀ q,q∈x→sm q) :
  PC prog 127 #[.agg cs.toArray,vx] H fun r G=>∃ l v,r=.tuple #[v,.int .i64 0]∧IL G v l∧Path ns x 0 l∧l.length≤2000:=by
 have hck:=pcheckT_pc ht hok
 obtain ⟨a,cp,css,rfl,hns,hsl⟩:=ht
 obtain ⟨hkd,hw,hln,⟨hh,hh10,hsub⟩,hall⟩:=hok
 dsimp only at hkd hw hln hsub hall
 have hpos:=hsub.end0
 obtain ⟨xa,xc,rfl⟩:=SlC.val hx
 have hxS:SlC H (.slice xa x.length xc) x.length 5 (x.flatMap fun q=>vlist (fracV q)):=hx
 refine BD func127 ntmps127 ?_
 repeat (first | refine RUN ?_ | refine CV (hck) ?_ | refine CE (hck) ?_)
 rw [show ((x.length:Int) != w)=false by rw [hxl];exact bne_self_eq_false _]
 try refine RUN ?_
 refine EVL.lit tO rfl rfl rfl rfl rfl rfl rfl rfl rfl rfl rfl fun bl=>?_
 try refine RUN ?_
 refine EV.loopK (ι:=Nat × List Int × Value × Ows) [1,2] [2] (fun q=>[(6,.v q.2.2.1),(7,.v (.int .i64 (q.1:Int)))]) (fun _=>[]) (fun q=>q.2.2.2) (fun q G=>q.1<ns.length∧OwnL 3 1 q.2.2.1 (q.2.1++[(q.1:Int)]).length ((q.2.1++[(q.1:Int)]).map iv) q.2.2.2∧q.2.1.length≤q.1∧∀ l,Path ns x q.1 l→Path ns x 0 (q.2.1++l)) (fun q=>ns.length-q.1) ((0,[],.slice (some ⟨bl,0,none⟩) 1 1,[(bl,_,_)])) rfl rfl ⟨rfl,rfl,trivial⟩ trivial rfl (fun _=>rfl) (⟨hpos,OwnL.full (m:=1) rfl oM,Nat.le_refl _,fun l h=>h⟩) ?_
 rintro ⟨i,q,u,ow⟩ G1 hG1 ⟨hi,hown,hql,hlf⟩
 dsimp only at hi hown hql hlf
 obtain ⟨oa,oc,rfl⟩:=hown.val
 obtain ⟨n,hn⟩:∃ n,ns[i]?=some n:=⟨_,List.getElem?_eq_getElem hi⟩
 obtain ⟨c,hcut,hnd⟩:=(hns.mono hG1).get hn
 obtain ⟨a7,c7,rfl,_⟩:=hnd.cells
 obtain ⟨n',hn',hN,_⟩:=hall i hi
 cases hn.symm.trans hn'
 obtain ⟨h',e',hsi⟩:=hsub.at i (Nat.zero_le _) hi
 have hle:=hsi.lt
 have hsl1:=hsl.mono hG1
 have hll:(q++[(i:Int)]).length≤1000000:=by rw [List.length_append,List.length_singleton];omega
 try refine RUN ?_
 refine EVL.idxM tO rfl rfl rfl rfl rfl rfl rfl rfl rfl (hsl1) (i) (rfl) (hi) (hcut) ?_
 try refine RUN ?_
 cases hsi with
 | leaf q1 q2 q3 q4 q5 =>
  rw [hn] at q1
  cases q1
  rw [show (n.col != -1)=false by rw [q2];rfl]
  (first | refine EVL.publishL [] ow [] ((List.append_nil _).symm) hown fun G2 hG2 hs2=>?_ | refine EV.publishL [] ow [] ((List.append_nil _).symm) hown fun G2 hG2 hs2=>?_)
  try refine RUN ?_
  exact ⟨_,_,rfl,hs2,hlf _ (.here hn q2),by rw [List.length_append,List.length_singleton];omega⟩
 | @node _ h1 m _ _ q1 q2 q3 q4 q5 s1 s2 =>
  rw [hn] at q1
  cases q1
  have hm1:=s1.lt
  have hm2:=s2.lt
  have hcl:n.col.toNat<x.length:=by omega
  obtain ⟨y,hy⟩:∃ y,x[n.col.toNat]?=some y:=⟨_,List.getElem?_eq_getElem hcl⟩
  have hyg:x.getD n.col.toNat 0=y:=by rw [List.getD_eq_getElem?_getD,hy];rfl
  have hcmp:=cmp_pv y n.at' (hxs y (List.mem_of_getElem? hy)) (sm_of hN.small.1 oM)
  rw [show (n.col != -1)=true from bne_iff_ne.2 (by omega)]
  try refine RUN ?_
  refine EVL.idxM tO rfl rfl rfl rfl rfl rfl rfl rfl rfl (hsl1) (i) (rfl) (hi) (hcut) ?_
  try refine RUN ?_
  apply EV.drawn 9 kR kR;intro xv yw
  (repeat (first | refine' DV ?_ | refine' DA ?_ | refine' DK0 ?_ | refine' DT ?_ | refine' DS ?_))
  refine' DJ.idxM tO rfl rfl rfl rfl rfl rfl rfl rfl rfl ((hxS.mono hG1)) (n.col.toNat) ((by rw [Int.toNat_of_nonneg q2])) (hcl) (QL.at (H:=H) (v:=.bool true) hy) ?_;rotate_left
  (repeat (first | refine' DV ?_ | refine' DA ?_ | refine' DK0 ?_ | refine' DT ?_ | (refine' DC (hcmp) (h:=?_);rotate_left) | refine' DS ?_))
  (refine DJ.nil (fun G2 hG2 hF2=>?_);(case hS|hS2=>rfl))
  by_cases hle2:y≤n.at'
  ·rw [decide_eq_true (ordR_le hle2)]
   try refine RUN ?_
   refine EVL.app1 tO rfl rfl rfl rfl rfl rfl rfl rfl rfl rfl rfl rfl rfl rfl rfl rfl rfl rfl rfl (fun _=>rfl) (ow) ([]) ((List.append_nil _).symm) (hown) (oM) fun _=>?_
   intro v' ow' hown'
   try refine RUN ?_
   refine ⟨(n.left.toNat,q++[(i:Int)],v',ow'),⟨rfl,by rw [Int.toNat_of_nonneg (by omega)];rfl,trivial⟩,sB,trivial,sB,List.append_nil _,⟨by dsimp only;omega,by dsimp only;rw [Int.toNat_of_nonneg (by omega)];exact hown'.il,by dsimp only;rw [List.length_append,List.length_singleton];omega,fun l h=>by dsimp only;rw [List.append_assoc];exact hlf _ (.low hn oM (by rw [hyg];exact hle2) h)⟩,hG2,by dsimp only;omega⟩
  ·rw [decide_eq_false (show ¬ ordR y n.at'≤0 from fun k=>hle2 (Rat.not_lt.1 fun k2=>by have:=(ordR_pos y n.at').2 k2;omega))]
   try refine RUN ?_
   refine EVL.app1 tO rfl rfl rfl rfl rfl rfl rfl rfl rfl rfl rfl rfl rfl rfl rfl rfl rfl rfl rfl (fun _=>rfl) (ow) ([]) ((List.append_nil _).symm) (hown) (oM) fun _=>?_
   intro v' ow' hown'
   try refine RUN ?_
   refine ⟨(n.right.toNat,q++[(i:Int)],v',ow'),⟨rfl,by rw [Int.toNat_of_nonneg (by omega)];rfl,trivial⟩,sB,trivial,sB,List.append_nil _,⟨by dsimp only;omega,by dsimp only;rw [Int.toNat_of_nonneg (by omega)];exact hown'.il,by dsimp only;rw [List.length_append,List.length_singleton];omega,fun l h=>by dsimp only;rw [List.append_assoc];exact hlf _ (.high hn oM (by rw [hyg];exact hle2) h)⟩,hG2,by dsimp only;omega⟩
theorem tleaf_pc {H:Hp} {cs:List Value} {vx:Value} {kd cl w:Int} {ns:List Nd} {x:List Rat} (ht:PTree H cs kd cl w ns) (hok:TreeOk ⟨kd,cl,w,ns⟩) (hx:QL H vx x) (hxl:(x.length:Int)=w) (hxs:∀ q,q∈x→sm q) :
  PC prog 76 #[.agg cs.toArray,vx] H fun r _=>∃ j:Nat,r=.tuple #[.int .i64 (j:Int),.int .i64 0]∧Leaf ns x 0 j:=by
 have hw:=way_pc ht hok hx hxl hxs
 obtain ⟨a,cp,css,rfl,hns,hsl⟩:=ht
 obtain ⟨xa,xc,rfl⟩:=SlC.val hx
 refine BD func76 ntmps76 ?_
 try refine RUN ?_
 refine EVL.call rfl rfl rfl rfl rfl (hw) ?_
 rintro r G ⟨l,v,rfl,hil,hp,hlen⟩ hG
 obtain ⟨j,q,rfl,hlf⟩:=hp.leaf
 obtain ⟨va,vc,rfl⟩:=SlC.val hil
 try refine RUN ?_
 have e1:IntKind.i64.wrap (((q++[(j:Int)]).length:Int)-1)=(q.length:Int):=by
  rw [List.length_append,List.length_singleton] at hlen
  rw [List.length_append,List.length_singleton,IntKind.wrap_i64];omega
 rw [e1]
 refine EVL.idxR tO rfl rfl rfl rfl rfl rfl rfl rfl rfl rfl (hil) (q.length) (rfl) ((by rw [List.length_append,List.length_singleton];omega)) ((by rw [List.getElem?_map,List.getElem?_append_right (Nat.le_refl _),Nat.sub_self];rfl)) ?_
 try refine RUN ?_
 exact ⟨j,rfl,hlf⟩
set_option maxRecDepth 100000 in
set_option maxHeartbeats 8000000 in
theorem tanswer_pc {H:Hp} {cs:List Value} {vx:Value} {kd cl w:Int} {ns:List Nd} {x:List Rat} (ht:PTree H cs kd cl w ns) (hok:TreeOk ⟨kd,cl,w,ns⟩) (hx:QL H vx x) (hxl:(x.length:Int)=w) (hxs:∀ q,q∈x→sm q) :
  PC prog 27 #[.agg cs.toArray,vx] H fun r _=>∃ (j:Nat) (n:Nd),r=.tuple #[fracV n.value,.int .i64 n.cls,.int .i64 0]∧Leaf ns x 0 j∧ns[j]?=some n:=by
 have hl:=tleaf_pc ht hok hx hxl hxs
 obtain ⟨i0,hlf0,hi0,hni0,_⟩:=leaf_ex hok x
 obtain ⟨a,cp,css,rfl,hns,hsl⟩:=ht
 obtain ⟨xa,xc,rfl⟩:=SlC.val hx
 refine BD func27 ntmps27 ?_
 try refine RUN ?_
 refine EVL.call rfl rfl rfl rfl rfl (hl) ?_
 rintro r G ⟨j,rfl,hlf⟩ hG
 obtain rfl:i0=j:=hlf0.det hlf
 obtain ⟨n,hn⟩:∃ n,ns[i0]?=some n:=⟨_,hni0⟩
 obtain ⟨c,hcut,hnd⟩:=(hns.mono hG).get hn
 obtain ⟨a7,c7,rfl,_⟩:=hnd.cells
 have hsl1:=hsl.mono hG
 try refine RUN ?_
 apply EV.drawnK [2,4,7] [4] [2] 13 rfl rfl rfl rfl kR kR;intro xv yw
 (repeat (first | refine' DV ?_ | refine' DA ?_ | refine' DK0 ?_ | refine' DT ?_ | refine' DS ?_))
 refine' DJ.idxM tO rfl rfl rfl rfl rfl rfl rfl rfl rfl (hsl1) (i0) (rfl) (hi0) (hcut) ?_;rotate_left
 (repeat (first | refine' DV ?_ | refine' DA ?_ | refine' DK0 ?_ | refine' DT ?_ | refine' DS ?_))
 refine' DJ.idxM tO rfl rfl rfl rfl rfl rfl rfl rfl rfl (hsl1) (i0) (rfl) (hi0) (hcut) ?_;rotate_left
 (repeat (first | refine' DV ?_ | refine' DA ?_ | refine' DK0 ?_ | refine' DT ?_ | refine' DS ?_))
 (refine DJ.nil (fun G hG hF=>?_);(case hS|hS2=>rfl);(case hD=>rfl))
 try refine RUN ?_
 exact ⟨i0,n,rfl,hlf,hn⟩
theorem fit3 {kd cl w:Int} {t:Tr} (h:fitT kd cl w t=true):t.kd=kd∧t.cl=cl∧t.w=w:=by
 unfold fitT at h
 simp only [Bool.and_eq_true,beq_iff_eq] at h
 exact h
theorem kL_len (x:List Rat) (ts:List Tr):(kL x ts).length=ts.length:=by unfold kL;rw [List.length_map]
theorem fit_kind {kd cl w:Int} {ts:List Tr} (h0:0<ts.length) (hok:∀ t,t∈ts→TreeOk t∧fitT kd cl w t=true):(kd=1∧1≤cl∧cl≤12)∨(kd=2∧cl=0):=by
 obtain ⟨t,ht⟩:∃ t,ts[0]?=some t:=⟨_,List.getElem?_eq_getElem h0⟩
 obtain ⟨h1,h2⟩:=hok t (List.mem_of_getElem? ht)
 obtain ⟨e1,e2,_⟩:=fit3 h2
 have:=h1.kind
 rwa [e1,e2] at this
noncomputable def ansL (kd cl:Int) (x:List Rat) (ts:List Tr):List Int:=if kd=1 then cntL cl.toNat (kL x ts) else []
noncomputable def ansQ (kd:Int) (x:List Rat) (ts:List Tr):Rat:=if kd=1 then 0 else meanL (vL x ts)
theorem ansL_small {kd cl:Int} {x:List Rat} {ts:List Tr}:∀ c,c∈ansL kd cl x ts→0≤c∧c≤(ts.length:Int):=fun c hc=>by
 unfold ansL at hc
 split at hc
 ·unfold cntL at hc
  obtain ⟨k,_,rfl⟩:=List.mem_map.1 hc
  have:=List.count_le_length (a:=(k:Int)) (l:=kL x ts)
  rw [kL_len] at this
  omega
 ·cases hc
noncomputable def voteQ (kd cl:Int) (x:List Rat) (ts:List Tr):List Rat:=(ansL kd cl x ts).map fun c=>mkRat c ts.length
theorem CLs.ans {C:Nat} {x:List Rat} {ks:List Int} {ts:List Tr} (h:CLs x ks ts):cntL C ks=ansL 1 (C:Int) x ts:=by
 unfold ansL;rw [if_pos rfl,← h.eq,Int.toNat_natCast]
theorem VLs.ans {x:List Rat} {qs:List Rat} {ts:List Tr} (h:VLs x qs ts):meanL qs=ansQ 2 x ts:=by
 unfold ansQ;rw [if_neg (by decide),← h.eq]
theorem voteQ_ht {kd cl:Int} {x:List Rat} {ts:List Tr} (hn:ts.length≤20):∀ q,q∈voteQ kd cl x ts→ht q≤100:=fun q hq=>by
 unfold voteQ at hq
 obtain ⟨c,hc,rfl⟩:=List.mem_map.1 hq
 have hs:=ansL_small c hc
 have e:mkRat c ts.length=((c:Int):Rat) / ((ts.length:Int):Rat):=Rat.mkRat_eq_div c ts.length
 have h1:=ht_div ((c:Int):Rat) ((ts.length:Int):Rat)
 have h2:=ht_len (n:=ts.length) oM
 have h3:=ht_int c
 have h4:bl c.natAbs≤20:=bl_le oM
 rw [e]
 omega
theorem pvotes_pc {H:Hp} {kd cl w:Int} {a1 a2:Option Addr} {c1 c2:Nat} {vx:Value} {ts:List Tr} {os:List (List Int)} {x:List Rat} (ht:PTL H (.slice a1 ts.length c1) ts) (ho:ILL H (.slice a2 os.length c2) os) (hok:∀ t,t∈ts→TreeOk t∧fitT kd cl w t=true) (h0:0<ts.length) (hlo:∀ l,l∈os→l.length≤1000000) (hol:os.length≤1000000) (hck:checkF kd cl w ts os=0) (hx:QL H vx x) (hxs:∀ q,q∈x→sm q) :
  PC prog 21 #[forestV kd cl w (.slice a1 ts.length c1) (.slice a2 os.length c2),vx] H fun r G=>∃ v,r=.tuple #[v,.int .i64 (if (x.length:Int)=w then 0 else 5)]∧QL G v (if (x.length:Int)=w then voteQ kd cl x ts else []):=by
 have hok':=fun t ht=>(hok t ht).1
 by_cases hxl:(x.length:Int)=w
 ·rw [if_pos hxl,if_pos hxl]
  rcases fit_kind h0 hok with ⟨rfl,h1,h2⟩ | ⟨rfl,rfl⟩
  ·obtain ⟨C,rfl⟩:=Int.eq_ofNat_of_zero_le (show 0≤cl by omega)
   refine (votes_pc ht ho hok' hlo hol oM hck hx hxl hxs).mono ?_
   rintro r G ⟨ks,v,hks,rfl,hq⟩ _
   refine ⟨v,rfl,?_⟩
   unfold voteQ
   rw [← hks.ans]
   exact hq
  ·obtain ⟨xa,xc,rfl⟩:=SlC.val hx
   have hrf:=refuse_pc (kd:=2) (cl:=0) (w:=w) (xa:=xa) (xn:=x.length) (xc:=xc) ht ho hok' hlo hol
   rw [if_pos hck,if_pos hxl] at hrf
   refine BD func21 ntmps21 ?_
   repeat (first | refine RUN ?_ | refine CV (hrf) ?_ | refine CE (hrf) ?_)
   exact ⟨_,rfl,by unfold voteQ ansL;rw [if_neg (by decide)];exact ⟨rfl,.inl ⟨rfl,_,_,rfl⟩⟩⟩
 ·rw [if_neg hxl,if_neg hxl]
  obtain ⟨xa,xc,rfl⟩:=SlC.val hx
  have hrf:=refuse_pc (kd:=kd) (cl:=cl) (w:=w) (xa:=xa) (xn:=x.length) (xc:=xc) ht ho hok' hlo hol
  rw [if_pos hck,if_neg hxl] at hrf
  refine BD func21 ntmps21 ?_
  repeat (first | refine RUN ?_ | refine CV (hrf) ?_ | refine CE (hrf) ?_)
  exact ⟨_,rfl,⟨rfl,.inl ⟨rfl,_,_,rfl⟩⟩⟩
theorem panswerF_pc {H:Hp} {kd cl w:Int} {a1 a2:Option Addr} {c1 c2:Nat} {vx:Value} {ts:List Tr} {os:List (List Int)} {x:List Rat} (ht:PTL H (.slice a1 ts.length c1) ts) (ho:ILL H (.slice a2 os.length c2) os) (hok:∀ t,t∈ts→TreeOk t∧fitT kd cl w t=true) (h0:0<ts.length) (hn:ts.length≤20) (hlo:∀ l,l∈os→l.length≤1000000) (hol:os.length≤1000000) (hck:checkF kd cl w ts os=0) (hx:QL H vx x) (hxs:∀ q,q∈x→sm q) :
  PC prog 22 #[forestV kd cl w (.slice a1 ts.length c1) (.slice a2 os.length c2),vx] H fun r _=>r=.tuple #[fracV (if (x.length:Int)=w then ansQ kd x ts else 0),.int .i64 (if (x.length:Int)=w then (topN (ansL kd cl x ts) (ansL kd cl x ts).length:Nat) else 0),.int .i64 (if (x.length:Int)=w then 0 else 5)]:=by
 refine (panswer_pc ht ho (fun t ht=>(hok t ht).1) hlo hol hn hx hxs).mono ?_
 rintro r G ⟨_,h2,h3⟩ _
 by_cases hxl:(x.length:Int)=w
 ·rw [if_pos hxl,if_pos hxl,if_pos hxl]
  rcases h3 hck hxl with ⟨rfl,ks,hks,rfl⟩ | ⟨hk1,qs,hqs,rfl⟩
  ·rcases fit_kind h0 hok with ⟨_,h1,h2⟩ | ⟨h,_⟩
   ·obtain ⟨C,rfl⟩:=Int.eq_ofNat_of_zero_le (show 0≤cl by omega)
    have e:ansQ 1 x ts=0:=by unfold ansQ;rw [if_pos rfl]
    rw [e,← hks.ans,cntL_len]
    rfl
   ·exact absurd h (by decide)
  ·rcases fit_kind h0 hok with ⟨h,_⟩ | ⟨rfl,rfl⟩
   ·exact absurd h hk1
   ·rw [hqs.ans]
    rfl
 ·rw [if_neg hxl,if_neg hxl,if_neg hxl]
  exact h2 hck hxl
end Go.Proofs.YtplhljjljnkhpaaGreatDoor
namespace Go.Proofs.YtplhljjljnkhpaaGreatDoor
theorem sumQ_ge {a:Rat}:∀ l:List Rat,(∀ q,q∈l→a≤q)→a*((l.length:Int):Rat)≤sumQ l
 | [],_=>by
  rw [sumQ_nil]
  show a*((0:Int):Rat)≤0
  rw [show ((0:Int):Rat)=0 from rfl,Rat.mul_zero]
  exact Rat.le_refl
 | x::l,h=>by
  rw [sumQ_cons]
  have h1:=sumQ_ge l fun q hq=>h q (.tail _ hq)
  have h2:=h x (.head _)
  have e:(((x::l).length:Int):Rat)=((l.length:Int):Rat)+1:=by
   rw [List.length_cons,Int.natCast_add,Rat.intCast_add];rfl
  rw [e]
  grind
theorem sumQ_le {b:Rat}:∀ l:List Rat,(∀ q,q∈l→q≤b)→sumQ l≤b*((l.length:Int):Rat)
 | [],_=>by
  rw [sumQ_nil]
  show 0≤b*((0:Int):Rat)
  rw [show ((0:Int):Rat)=0 from rfl,Rat.mul_zero]
  exact Rat.le_refl
 | x::l,h=>by
  rw [sumQ_cons]
  have h1:=sumQ_le l fun q hq=>h q (.tail _ hq)
  have h2:=h x (.head _)
  have e:(((x::l).length:Int):Rat)=((l.length:Int):Rat)+1:=by
   rw [List.length_cons,Int.natCast_add,Rat.intCast_add];rfl
  rw [e]
  grind
theorem len_pos {l:List Rat} (h0:0<l.length):(0:Rat)<((l.length:Int):Rat):=by
 have:((0:Int):Rat)<((l.length:Int):Rat):=Rat.intCast_lt_intCast.2 oM
 exact this
theorem mean_in {a b:Rat} {l:List Rat} (h0:0<l.length) (h:∀ q,q∈l→a≤q∧q≤b):a≤meanL l∧meanL l≤b:=by
 have hp:=len_pos h0
 have h1:=sumQ_ge l fun q hq=>(h q hq).1
 have h2:=sumQ_le l fun q hq=>(h q hq).2
 unfold meanL
 generalize ((l.length:Int):Rat)=N at *
 generalize sumQ l=S at *
 have hi:0≤N⁻¹:=Rat.le_of_lt (Rat.inv_pos.2 hp)
 have hne:N≠0:=by grind
 have h6:N*N⁻¹=1:=Rat.mul_inv_cancel N hne
 rw [Rat.div_def]
 have g1:=Rat.mul_nonneg (show 0≤S-a*N by grind) hi
 have g2:=Rat.mul_nonneg (show 0≤b*N-S by grind) hi
 have e1:(S-a*N)*N⁻¹=S*N⁻¹-a:=by grind
 have e2:(b*N-S)*N⁻¹=b-S*N⁻¹:=by grind
 rw [e1] at g1
 rw [e2] at g2
 generalize S*N⁻¹=y at *
 constructor
 ·grind
 ·grind
theorem topN_most (l:List Int):∀ n k,k<n→l.getD k 0≤l.getD (topN l n) 0
 | n+1,k,h=>by
  unfold topN
  by_cases e:k=n
  ·subst e
   split
   ·exact Int.le_refl _
   ·omega
  ·have:=topN_most l n k oM
   split
   ·omega
   ·exact this
theorem topN_first (l:List Int):∀ n k,k<topN l n→l.getD k 0<l.getD (topN l n) 0
 | 0,k,h=>by unfold topN at h;omega
 | n+1,k,h=>by
  unfold topN at h ⊢
  split
  ·rename_i h1
   rw [if_pos h1] at h
   rcases Nat.lt_or_ge k n with hk | hk
   ·have:=topN_most l n k hk;omega
   ·omega
  ·rename_i h1
   rw [if_neg h1] at h
   exact topN_first l n k h
theorem sum_mkRat (n:Nat):∀ L:List Int,sumQ (L.map fun c=>mkRat c n)=((L.sum:Int):Rat) / ((n:Int):Rat)
 | []=>by rw [List.map_nil,sumQ_nil,List.sum_nil,show ((0:Int):Rat)=0 from rfl,Rat.div_def,Rat.zero_mul]
 | c::L=>by
  have e:mkRat c n=((c:Int):Rat) / ((n:Int):Rat):=Rat.mkRat_eq_div c n
  rw [List.map_cons,sumQ_cons,sum_mkRat n L,e,List.sum_cons,Rat.intCast_add,Rat.div_def,Rat.div_def,Rat.div_def,Rat.add_mul]
theorem kL_range {C:Nat} {w:Int} {ts:List Tr} (x:List Rat) (hC:1≤C) (hok:∀ t,t∈ts→TreeOk t∧fitT 1 C w t=true):∀ z,z∈kL x ts→0≤z∧z<(C:Int):=fun z hz=>by
 unfold kL at hz
 obtain ⟨t,ht,rfl⟩:=List.mem_map.1 hz
 obtain ⟨h1,h2⟩:=hok t ht
 obtain ⟨_,e2,_⟩:=fit3 h2
 obtain ⟨_,_,_,_,hN⟩:=leaf_ex h1 x
 have hl:=hN.len
 rw [hN.cls]
 rw [e2] at hl
 have:=topN_in (l:=(leafN x t).counts) oM
 omega
theorem votes_one {C:Nat} {w:Int} {ts:List Tr} (x:List Rat) (hC:1≤C) (h0:0<ts.length) (hok:∀ t,t∈ts→TreeOk t∧fitT 1 C w t=true):sumQ (voteQ 1 C x ts)=1:=by
 have e:=cntL_sum (kL_range x hC hok)
 have hp:(0:Rat)<((ts.length:Int):Rat):=by
  have:((0:Int):Rat)<((ts.length:Int):Rat):=Rat.intCast_lt_intCast.2 oM
  exact this
 unfold voteQ ansL
 rw [if_pos rfl,Int.toNat_natCast,sum_mkRat,e,kL_len,Rat.div_def]
 exact Rat.mul_inv_cancel _ (by grind)
theorem grow_vals {p:GP} {kd cl:Int} {w:Nat} (hp:GPok p kd cl w):∀ (d k:Nat) (rows:List Int) (s:Int),1≤rows.length→(∀ r,r∈rows→0≤r∧r<(p.X.length:Int)) →
  ∀ n,n∈(p.grow d k rows s).1→∃ rs:List Int,1≤rs.length∧(∀ r,r∈rs→r∈rows)∧n.value=p.mean rs
 | 0,k,rows,s,h1,hb,n,hn=>by
  rw [GP.grow_zero] at hn
  rw [List.mem_singleton.1 hn]
  exact ⟨rows,h1,fun r h=>h,rfl⟩
 | d+1,k,rows,s,h1,hb,n,hn=>by
  cases h:p.cut rows (p.cols s).1 with
  | none =>
   rw [GP.grow_none h] at hn
   rw [List.mem_singleton.1 hn]
   exact ⟨rows,h1,fun r h=>h,rfl⟩
  | some ct =>
   obtain ⟨c,t⟩:=ct
   obtain ⟨_,_,hl,hh,hperm,_⟩:=cut_ok hp hb h
   have hsl:∀ r,r∈lowL p.X c t rows→r∈rows:=fun r hr=>hperm.mem_iff.2 (List.mem_append.2 (.inl hr))
   have hsh:∀ r,r∈highL p.X c t rows→r∈rows:=fun r hr=>hperm.mem_iff.2 (List.mem_append.2 (.inr hr))
   rw [GP.grow_some h] at hn
   rcases List.mem_cons.1 hn with rfl | hn
   ·exact ⟨rows,h1,fun r h=>h,rfl⟩
   ·rcases List.mem_append.1 hn with hn | hn
    ·obtain ⟨rs,a1,a2,a3⟩:=grow_vals hp d _ _ _ hl (fun r hr=>hb r (hsl r hr)) n hn
     exact ⟨rs,a1,fun r hr=>hsl r (a2 r hr),a3⟩
    ·obtain ⟨rs,a1,a2,a3⟩:=grow_vals hp d _ _ _ hh (fun r hr=>hb r (hsh r hr)) n hn
     exact ⟨rs,a1,fun r hr=>hsh r (a2 r hr),a3⟩
end Go.Proofs.YtplhljjljnkhpaaGreatDoor
namespace Go.Proofs.YtplhljjljnkhpaaGreatDoor
open Go.RowKit _root_.Go.Proofs.Tryz
theorem mkRat_mono {a b:Int} {n:Nat} (hn:0<n):(a≤b→mkRat a n≤mkRat b n)∧(a<b→mkRat a n<mkRat b n):=by
 have ea:mkRat a n=((a:Int):Rat) / ((n:Int):Rat):=Rat.mkRat_eq_div a n
 have eb:mkRat b n=((b:Int):Rat) / ((n:Int):Rat):=Rat.mkRat_eq_div b n
 have hp:(0:Rat)<((n:Int):Rat):=by
  have:((0:Int):Rat)<((n:Int):Rat):=Rat.intCast_lt_intCast.2 oM
  exact this
 have hi:=Rat.inv_pos.2 hp
 have hl:=@Rat.intCast_le_intCast a b
 have ht:=@Rat.intCast_lt_intCast a b
 rw [ea,eb,Rat.div_def,Rat.div_def]
 generalize ((n:Int):Rat)⁻¹=y at *
 have e:((b:Rat)-(a:Rat))*y=(b:Rat)*y-(a:Rat)*y:=by grind
 refine ⟨fun h=>?_,fun h=>?_⟩
 ·have:=Rat.mul_nonneg (show 0≤(b:Rat)-(a:Rat) by have:=hl.2 h;grind) (Rat.le_of_lt hi)
  grind
 ·have:=Rat.mul_pos (show 0<(b:Rat)-(a:Rat) by have:=ht.2 h;grind) hi
  grind
theorem voteQ_top {kd cl:Int} {x:List Rat} {ts:List Tr} (h0:0<ts.length) {i:Nat} {q qc:Rat} (hi:(voteQ kd cl x ts)[i]?=some q) (hc:(voteQ kd cl x ts)[topN (ansL kd cl x ts) (ansL kd cl x ts).length]?=some qc):q≤qc∧(i<topN (ansL kd cl x ts) (ansL kd cl x ts).length→q<qc):=by
 unfold voteQ at hi hc
 rw [List.getElem?_map] at hi hc
 generalize ansL kd cl x ts=L at *
 have hil:i<L.length:=by
  rcases Nat.lt_or_ge i L.length with h | h
  ·exact h
  ·rw [List.getElem?_eq_none h] at hi;cases hi
 have hm:=topN_most L L.length i hil
 have hf:=topN_first L L.length i
 generalize topN L L.length=c at *
 cases h1:L[i]? with
 | none=>rw [h1] at hi;cases hi
 | some a =>
  cases h2:L[c]? with
  | none=>rw [h2] at hc;cases hc
  | some b =>
   rw [h1] at hi
   rw [h2] at hc
   cases hi;cases hc
   rw [List.getD_eq_getElem?_getD,List.getD_eq_getElem?_getD,h1,h2] at hm
   rw [List.getD_eq_getElem?_getD,List.getD_eq_getElem?_getD,h1,h2] at hf
   exact ⟨(mkRat_mono h0).1 hm,fun h=>(mkRat_mono h0).2 (hf h)⟩
theorem wood_vals {p:GP} {kd cl:Int} {w D:Nat} (hp:GPok p kd cl w) (h0:1≤p.X.length):∀ (k:Nat) (s:Int) (t:Tr),t∈(p.wood D p.X.length kd cl w k s).1→∀ n,n∈t.ns→∃ rs:List Int,1≤rs.length∧(∀ r,r∈rs→0≤r∧r<(p.X.length:Int))∧n.value=p.mean rs
 | 0,s,t,ht=>by cases ht
 | k+1,s,t,ht=>by
  rw [GP.wood_succ] at ht
  rcases List.mem_append.1 ht with ht | ht
  ·exact wood_vals hp h0 k s t ht
  ·rw [List.mem_singleton.1 ht]
   have hx:=hp.rowsX
   have hl:(bagS p.X.length (p.wood D p.X.length kd cl w k s).2.2).1.length=p.X.length:=by unfold bagS;rw [sortI_length,drawL_length]
   have hb:∀ r,r∈(bagS p.X.length (p.wood D p.X.length kd cl w k s).2.2).1→0≤r∧r<(p.X.length:Int):=fun r hr=>by
    unfold bagS at hr
    exact drawL_range _ _ _ oM oM r ((sortI_perm _).mem_iff.1 hr)
   intro n hn
   obtain ⟨rs,a1,a2,a3⟩:=grow_vals hp D 0 _ _ (by rw [hl];exact h0) hb n hn
   exact ⟨rs,a1,fun r hr=>hb r (a2 r hr),a3⟩
set_option maxHeartbeats 4000000 in
theorem handSum_pc {H:Hp} {v:Value} {l:List Rat} (h:QL H v l) (hl:l.length≤20) (hb:∀ q,q∈l→ht q≤1000):PC prog 23 #[v] H fun r _=>r=fracV (sumQ l):=by
 obtain ⟨a,cap,rfl⟩:=SlC.val h
 have hz:vlist (fracV (sumQ (l.take 0)))=[.bool false,.int .u64 0,.string ⟨#[]⟩,.int .u64 0,.string ⟨#[]⟩]:=frac_zero_cells
 refine BD func23 ntmps23 ?_
 try refine RUN ?_
 refine EV.loopK (ι:=Nat) [0,2,3] [2] (fun i=>[(4,.v (.int .i64 (i:Int)))]) (fun i=>[(3,63,vlist (fracV (sumQ (l.take i))))]) (fun _=>[]) (fun i G=>i≤l.length) (fun i=>l.length-i) (0) rfl rfl ⟨rfl,trivial⟩ ⟨by rw [hz];rfl,trivial⟩ rfl (fun _=>rfl) (Nat.zero_le _) ?_
 intro i G1 hG1 hi
 try refine RUN ?_
 refine EV.cond rfl (fun hlt=>?_) (fun hlt=>?_)
 ·simp only [nN] at hlt
  obtain ⟨q,hqi⟩:∃ q,l[i]?=some q:=⟨_,List.getElem?_eq_getElem hlt⟩
  have hqb:=hb q (List.mem_of_getElem? hqi)
  have hsb:=ht_sum 1000 (l.take i) (fun q hq=>hb q (List.mem_of_mem_take hq))
  rw [List.length_take,Nat.min_eq_left hi] at hsb
  have hadd:=add_pv (sumQ (l.take i)) q (sm_of hsb oM) (sm_of hqb oM)
  rw [← sumQ_snoc,← take_snoc hqi] at hadd
  try refine RUN ?_
  apply EV.drawn 6 kR kR;intro xv yw
  (repeat (first | refine' DV ?_ | refine' DA ?_ | refine' DK0 ?_ | refine' DT ?_ | refine' DS ?_))
  refine' DJ.idxM tO rfl rfl rfl rfl rfl rfl rfl rfl rfl ((SlC.mono (show SlC H (.slice a l.length cap) l.length 5 (l.flatMap fun q=>vlist (fracV q)) from h) hG1)) (i) (rfl) (hlt) ((QL.at (H:=H) (v:=.slice a l.length cap) hqi)) ?_;rotate_left
  (repeat (first | refine' DV ?_ | refine' DA ?_ | refine' DK0 ?_ | refine' DT ?_ | (refine' DC (hadd) (h:=?_);rotate_left) | refine' DS ?_))
  (refine DJ.nil (fun G hG hF=>?_);(case hS|hS2=>rfl))
  try refine RUN ?_
  refine ⟨i+1,⟨?_,trivial⟩,sB,⟨rfl,trivial⟩,sB,rfl,hlt,hG,by omega⟩
  rw [wi_inc i (by omega)];rfl
 ·simp only [nN] at hlt
  obtain rfl:i=l.length:=by omega
  rw [List.take_length]
  try refine RUN ?_
  rfl
theorem leaf_mem {t:Tr} {x:List Rat} (h:TreeOk t):leafN x t∈t.ns:=by
 obtain ⟨i,_,_,e,_⟩:=leaf_ex h x
 exact List.mem_of_getElem? e
theorem rising_ends {m:List Rat} (h:Rising m) {a b:Rat} (ha:m[0]?=some a) (hb:m[m.length-1]?=some b):∀ q,q∈m→a≤q∧q≤b:=fun q hq=>by
 obtain ⟨j,hj⟩:=List.mem_iff_getElem?.1 hq
 obtain ⟨hj',rfl⟩:=List.getElem?_eq_some_iff.1 hj
 obtain ⟨h0,rfl⟩:=List.getElem?_eq_some_iff.1 ha
 obtain ⟨h1,rfl⟩:=List.getElem?_eq_some_iff.1 hb
 have hp:=List.pairwise_iff_getElem.1 h
 refine ⟨?_,?_⟩
 ·rcases Nat.eq_zero_or_pos j with e | e
  ·subst e;exact Rat.le_refl
  ·exact hp 0 j h0 hj' e
 ·rcases Nat.lt_or_ge j (m.length-1) with e | e
  ·exact hp j _ hj' h1 e
  ·obtain rfl:j=m.length-1:=by omega
   exact Rat.le_refl
set_option maxRecDepth 100000 in
set_option maxHeartbeats 64000000 in
theorem means20_pc {H:Hp} {vx vr:Value} {lr:List Int} (hx:Raw20 H vx) (hlr:IL H vr lr) (hrb:∀ z,z∈lr → -9223372036854775808≤z∧z<9223372036854775808):PC prog 5 #[vx,vr] H fun r _=>r=.bool true:=by
 have ho1:=one20N_pc hx
 obtain ⟨_,_,_,_,_,_,_,_,_,_,_,_,rfl,_⟩:=hx
 obtain ⟨ra,rc,rfl⟩:=SlC.val hlr
 refine BD func5 ntmps5 ?_
 try refine RUN ?_
 refine EVL.call rfl rfl rfl rfl rfl (ho1) ?_
 rintro r1 G1 ⟨kd,cl,least,seed,ga,va,p1,q1,gn,gc,vn,vc,N,W,D,sm',nt,l1,c1,l2,c2,vX,b1,lg,ll,rfl,hg1,hX1,hq1,hN,hW,hD,hsm,hnt,hl,hs⟩ hG1
 obtain ⟨d,hd,hR,_⟩:=hg1.gd (rowQ_len _ _) (rowQ_ht N)
 have hkd:kd=d.kd∧cl=d.cl:=by
  cases d with
  | v qs=>obtain ⟨s,e,_⟩:=hR;cases e;exact ⟨rfl,rfl⟩
  | c C ls=>obtain ⟨s,e,_⟩:=hR;cases e;exact ⟨rfl,rfl⟩
 obtain ⟨rfl,rfl⟩:=hkd
 have hlen:=rowsQ_len ll N W
 have hrows:=fun x hx=>rowsQ_ht (l:=ll) (n:=N) (w:=W) x hx
 generalize hXe:rowsQ ll N W=X at *
 have h0:rq (0:Rat):=by show ht (0:Rat)≤_;rw [ht_zero];decide
 have hrw:=fun (G:Hp) (hG:G1.Le G)=>inRows_pc (hX1.mono hG) oM (fun x hx=>⟨by rw [(hrows x hx).1];omega,fun q hq=>rq_small ((hrows x hx).2 q hq) oM⟩)
 have hru:=fun (G:Hp) (hG:G1.Le G)=>rules20_pc (nt:=nt) (sm':=sm') (seed:=seed) (deep:=(D:Int)) (least:=least) (RQ.mono hq1 hG) h0
 have hgp:=hd.plain
 rw [← hlen] at hgp
 have hgp:=hgp.gp (sm:=sm') (least:=least) oM hW.1 oM hrows
 have hwok:=fun t ht=>wood_ok hgp oM (show D≤9 by omega) (show 1≤X.length by omega) nt seed t ht
 have hwl:=fun l hl=>wood_lists (p:=gdP d X least W sm') (n:=N) (D:=D) oM d.kd d.cl (W:Int) nt seed l hl
 have hwc:=wood_check hgp oM (show D≤9 by omega) (show 1≤X.length by omega) (k:=nt) oM seed
 have hwn:=(gdP d X least W sm').wood_len D N d.kd d.cl (W:Int) nt seed
 have hwv:=wood_vals hgp (D:=D) (show 1≤X.length by omega) nt seed
 rw [show (woodP X d.cost d.mean d.cnt least W sm').X.length=N from hlen] at hwok hwc hwv
 change ∀ t,t∈((gdP d X least W sm').wood D N d.kd d.cl (W:Int) nt seed).1→TreeOk t∧fitT d.kd d.cl (W:Int) t=true at hwok
 change checkF d.kd d.cl (W:Int) ((gdP d X least W sm').wood D N d.kd d.cl (W:Int) nt seed).1 ((gdP d X least W sm').wood D N d.kd d.cl (W:Int) nt seed).2.1=0 at hwc
 change ∀ t,t∈((gdP d X least W sm').wood D N d.kd d.cl (W:Int) nt seed).1→∀ n,n∈t.ns→∃ rs:List Int,1≤rs.length∧(∀ r,r∈rs→0≤r∧r<(N:Int))∧n.value=d.mean rs at hwv
 have hgr:∀ (G:Hp) (u v:Value),(∃ la ln lc va vn vc,u=goalV d.kd d.cl (.slice la ln lc) (.slice va vn vc)∧d.P G (.slice la ln lc) (.slice va vn vc))→QLL G v X→PC prog 9 #[u,v,.agg (fruleC nt sm' seed (D:Int) least 0).toArray] G fun r G=>∃ v,r=.tuple #[v,.int .i64 0]∧PForest G v d.kd d.cl (W:Int) ((gdP d X least W sm').wood D N d.kd d.cl (W:Int) nt seed).1 ((gdP d X least W sm').wood D N d.kd d.cl (W:Int) nt seed).2.1:=by
  rintro G u v ⟨la,ln,lc,va,vn,vc,rfl,hP⟩ hv
  exact pgrow20_pc hd hP hv hlen hrows oM oM oM hsm oM oM hs
 generalize (gdP d X least W sm').wood D N d.kd d.cl (W:Int) nt seed=R at *
 obtain ⟨ts,os,s9⟩:=R
 dsimp only at hwok hwl hwc hwn hwv hgr
 obtain ⟨e1,e2,_⟩:=hwn
 obtain ⟨xs,hxs,hxl⟩:=id hX1
 obtain ⟨x0,hx0⟩:∃ x,X[0]?=some x:=⟨_,List.getElem?_eq_getElem oM⟩
 obtain ⟨u0,c0,hu0,_⟩:=hxs.at hx0
 rw [(hrows x0 (List.mem_of_getElem? hx0)).1] at hu0
 obtain ⟨xa,xc,rfl⟩:=hX1.val
 try refine RUN ?_
 refine EVL.call rfl rfl rfl rfl rfl (hd.inGoal oM hR) ?_
 rintro r2 G2 ⟨la,ln,lc,va2,vn2,vc2,rfl,hP⟩ hG2
 try refine RUN ?_
 apply EV.drawn 11 kR kR;intro xv yw
 (repeat (first | refine' DV ?_ | refine' DA ?_ | refine' DK0 ?_ | refine' DT ?_ | refine' DS ?_))
 refine' DJ.call rfl rfl rfl rfl rfl (cO func11) (fun G hG hd=>hrw G (hG2.trans hG)) (fun _ _ _ h k=>QLL.mono h k) ?_;rotate_left
 (repeat (first | refine' DV ?_ | refine' DA ?_ | refine' DK0 ?_ | refine' DT ?_ | refine' DS ?_))
 refine' DJ.callS rfl rfl rfl rfl rfl (cO func12) (fun G hG hd=>hru G (hG2.trans hG)) ?_;rotate_left
 (repeat (first | refine' DV ?_ | refine' DA ?_ | refine' DK0 ?_ | refine' DT ?_ | refine' DS ?_))
 refine' DJ.call rfl rfl rfl rfl rfl (cO func9) (fun G hG hd=>hgr G _ _ ⟨_,_,_,_,_,_,rfl,hP.mono hG⟩ (hd.head kR)) (fun _ _ _ h k=>(by obtain ⟨w,e,hp⟩:=h;exact ⟨w,e,hp.mono k⟩)) ?_;rotate_left
 refine' DJ.copy (5) (by first | exact .inl rfl | exact .inr rfl) rfl rfl rfl id rfl kR ?_;rotate_left
 refine' DJ.extract (5) rfl rfl rfl rfl rfl kR (fun G hd=>(by obtain ⟨w,e,_⟩:=hd.head kR;exact ⟨_,e,Nat.zero_lt_succ _⟩)) ?_;rotate_left
 refine' DJ.extract (5) rfl rfl rfl rfl rfl kR (fun G hd=>(by obtain ⟨w,e,_⟩:=hd.head kR;exact ⟨_,e,Nat.lt_succ_self _⟩)) ?_;rotate_left
 (repeat (first | refine' DV ?_ | refine' DA ?_ | refine' DK0 ?_ | refine' DT ?_ | refine' DS ?_))
 refine' DJ.storeD tO rfl rfl rfl rfl (5) (tupAt 0) rfl rfl (9) rfl rfl kR kR rfl (fun G hd=>(by obtain ⟨w,e,hp⟩:=hd.head kR;obtain ⟨_,_,_,_,e2,_⟩:=hp.val;rw [e,e2];exact ⟨rfl,rfl⟩)) ?_;rotate_left
 (refine DJ.nil (fun G3 hG3 hF3=>?_);(case hS|hS2=>rfl))
 obtain ⟨⟨w3,e3,hp3⟩,_⟩:=hF3
 obtain ⟨a3,c3,b3,d3,rfl,hT3,hO3⟩:=hp3.val
 rw [e3]
 rw [show tupAt 1 (Value.tuple #[forestV d.kd d.cl (W:Int) (.slice a3 ts.length c3) (.slice b3 os.length d3),.int .i64 0])=.int .i64 0 from rfl,show vlist (tupAt 0 (Value.tuple #[forestV d.kd d.cl (W:Int) (.slice a3 ts.length c3) (.slice b3 os.length d3),.int .i64 0]))=[.int .i64 d.kd,.int .i64 d.cl,.int .i64 (W:Int),.slice a3 ts.length c3,.slice b3 os.length d3] from rfl]
 have hH3:=hG1.trans (hG2.trans hG3)
 have hrow:=fun (G:Hp) (hG:H.Le G)=>row_pc (hlr.mono hG) hrb W oM
 have hxb:=rowQ_ht (l:=lr) W
 have hxlen:=rowQ_len lr W
 generalize hxe:rowQ lr W=x at *
 try refine RUN ?_
 refine EVL.idxR tO rfl rfl rfl rfl rfl rfl rfl rfl rfl rfl ((hxl.mono (hG2.trans hG3))) (0) (rfl) (oM) (hu0) ?_
 try refine RUN ?_
 refine EVL.call rfl rfl rfl rfl rfl (hrow _ hH3) ?_
 rintro r4 G4 hr4 hG4
 obtain ⟨a4,c4,rfl⟩:=hr4.val
 try refine RUN ?_
 refine EVL.call rfl rfl rfl rfl rfl (inRow_pc hr4 oM (fun q hq=>rq_small (hxb q hq) oM)) ?_
 rintro r5 G5 hr5 hG5
 obtain ⟨a5,c5,rfl⟩:=SlC.val hr5
 have hxs5:∀ q,q∈x→sm q:=fun q hq=>sm_of (hxb q hq) oM
 have hlo:∀ l,l∈os→l.length≤1000000:=fun l hl=>by have:=(hwl l hl).2;omega
 have hT5:=hT3.mono (hG4.trans hG5)
 have hO5:=hO3.mono (hG4.trans hG5)
 have ht0:0<ts.length:=by omega
 try refine RUN ?_
 refine EVL.call rfl rfl rfl rfl rfl (pvotes_pc hT5 hO5 hwok ht0 hlo oM hwc hr5 hxs5) ?_
 rintro r6 G6 ⟨v6,rfl,hv6⟩ hG6
 rw [if_pos (by omega)] at hv6
 rw [if_pos (show (x.length:Int)=(W:Int) by omega)]
 obtain ⟨a6,c6,rfl⟩:=SlC.val hv6
 try refine RUN ?_
 refine EVL.call rfl rfl rfl rfl rfl (panswerF_pc (hT5.mono hG6) (hO5.mono hG6) hwok ht0 oM hlo oM hwc (SlC.mono hr5 hG6) hxs5) ?_
 rintro _ G7 rfl hG7
 rw [if_pos (show (x.length:Int)=(W:Int) by omega),if_pos (show (x.length:Int)=(W:Int) by omega),if_pos (show (x.length:Int)=(W:Int) by omega)]
 have hv7:=SlC.mono hv6 hG7
 have hH57:=hG6.trans hG7
 try refine RUN ?_
 refine EVL.call rfl rfl rfl rfl rfl (known20_pc) ?_
 rintro _ G8 rfl hG8
 have hv8:=SlC.mono hv7 hG8
 have hqs:=voteQ_ht (kd:=d.kd) (cl:=d.cl) (x:=x) (ts:=ts) oM
 cases d with
 | c C ls =>
  obtain ⟨⟨hC1,hC2⟩,hll,hlb⟩:=hd
  have hone:=votes_one (C:=C) (w:=(W:Int)) x hC1 ht0 hwok
  have htop:=fun (i:Nat) (q qc:Rat)=>voteQ_top (kd:=1) (cl:=(C:Int)) (x:=x) (ts:=ts) ht0 (i:=i) (q:=q) (qc:=qc)
  have hvl:(voteQ 1 (C:Int) x ts).length=C:=by unfold voteQ ansL;rw [if_pos rfl,List.length_map,cntL_len];rfl
  have hal:(ansL 1 (C:Int) x ts).length=C:=by unfold ansL;rw [if_pos rfl,cntL_len];rfl
  have hq0:ansQ 1 x ts=0:=by unfold ansQ;rw [if_pos rfl]
  have hc:=topN_in (l:=ansL 1 (C:Int) x ts) oM
  change QL G8 (.slice a6 (voteQ 1 (C:Int) x ts).length c6) (voteQ 1 (C:Int) x ts) at hv8
  change ∀ q,q∈voteQ 1 (C:Int) x ts→ht q≤100 at hqs
  have hsum:=fun (G:Hp) (hG:G8.Le G)=>handSum_pc (SlC.mono hv8 hG) oM (fun q hq=>Nat.le_trans (hqs q hq) oM)
  rw [show GD.kd (.c C ls)=1 from rfl,show GD.cl (.c C ls)=(C:Int) from rfl]
  rw [hq0]
  rw [hone] at hsum
  generalize voteQ 1 (C:Int) x ts=V at *
  generalize topN (ansL 1 (C:Int) x ts) (ansL 1 (C:Int) x ts).length=tc at *
  have hof:=of_pv 1 oM oM
  have hc1:=(cmp_pv 1 1 (by show ht 1≤_;decide +kernel) (by show ht 1≤_;decide +kernel)).of_eq (congrArg _ (ordR_refl _))
  have hsg:=(sign_pv 0 (by show bl 0≤_;rw [bl_zero];omega))
  try refine RUN ?_
  rw [show ((V.length:Int) != (C:Int))=false by rw [hvl];exact bne_self_eq_false _]
  try refine RUN ?_
  rw [decide_eq_false (show ¬ (tc:Int)<0 by omega)]
  try refine RUN ?_
  rw [decide_eq_false (show ¬ (tc:Int)≥(V.length:Int) by omega)]
  try refine RUN ?_
  refine EVL.call rfl rfl rfl rfl rfl (hsum _ (Hp.Le.refl _)) ?_
  rintro _ G9 rfl hG9
  have hof':PV prog 25 #[.int .i64 1] (fracV 1):=hof.of_eq (congrArg fracV (show ((1:Int):Rat)=1 from rfl))
  repeat (first | refine RUN ?_ | refine CV (hof') ?_ | refine CE (hof') ?_)
  repeat (first | refine RUN ?_ | refine CV (hc1) ?_ | refine CE (hc1) ?_)
  try refine RUN ?_
  refine EV.loopK (ι:=Nat) [12,14,15] [14] (fun i=>[(17,.v (.int .i64 (i:Int)))]) (fun _=>[]) (fun _=>[]) (fun i _=>i≤V.length) (fun i=>V.length-i) (0) rfl rfl ⟨rfl,trivial⟩ trivial rfl (fun _=>rfl) (Nat.zero_le _) ?_
  rintro i G10 hG10 hi
  have hvA:=SlC.mono hv8 (hG9.trans hG10)
  try refine RUN ?_
  refine EV.cond rfl (fun hlt=>?_) (fun hlt=>?_)
  ·simp only [nN] at hlt
   obtain ⟨q,hqi⟩:∃ q,V[i]?=some q:=⟨_,List.getElem?_eq_getElem hlt⟩
   obtain ⟨qc,hqc⟩:∃ q,V[tc]?=some q:=⟨_,List.getElem?_eq_getElem oM⟩
   obtain ⟨ho1,ho2⟩:=htop i q qc hqi hqc
   have hcmp:=cmp_pv q qc (sm_of (hqs q (List.mem_of_getElem? hqi)) oM) (sm_of (hqs qc (List.mem_of_getElem? hqc)) oM)
   have hng:decide (ordR q qc>0)=false:=decide_eq_false fun k=>Rat.not_lt.2 ho1 (ordQ_pos.1 k)
   have hvS:SlC G10 (.slice a6 V.length c6) V.length 5 (V.flatMap fun q=>vlist (fracV q)):=hvA
   try refine RUN ?_
   by_cases hic:i<tc
   ·have hne:(ordR q qc == 0)=false:=beq_eq_false_iff_ne.2 fun k=>by have:=ordQ_lt.2 (ho2 hic);omega
    apply EV.drawn 27 kR kR;intro xv yw
    (repeat (first | refine' DV ?_ | refine' DA ?_ | refine' DK0 ?_ | refine' DT ?_ | refine' DS ?_))
    refine' DJ.idxM tO rfl rfl rfl rfl rfl rfl rfl rfl rfl (hvS) (i) (rfl) (hlt) ((QL.at (H:=H) (v:=.bool true) hqi)) ?_;rotate_left
    (repeat (first | refine' DV ?_ | refine' DA ?_ | refine' DK0 ?_ | refine' DT ?_ | refine' DS ?_))
    refine' DJ.idxM tO rfl rfl rfl rfl rfl rfl rfl rfl rfl (hvS) (tc) (rfl) (oM) ((QL.at (H:=H) (v:=.bool true) hqc)) ?_;rotate_left
    (repeat (first | refine' DV ?_ | refine' DA ?_ | refine' DK0 ?_ | refine' DT ?_ | (refine' DC (hcmp) (h:=?_);rotate_left) | refine' DS ?_))
    rw [hng]
    (repeat (first | refine' DV ?_ | refine' DA ?_ | refine' DK0 ?_ | refine' DT ?_ | refine' DS ?_))
    rw [decide_eq_true (show (i:Int)<(tc:Int) by omega)]
    (repeat (first | refine' DV ?_ | refine' DA ?_ | refine' DK0 ?_ | refine' DT ?_ | refine' DS ?_))
    refine' DJ.idxM tO rfl rfl rfl rfl rfl rfl rfl rfl rfl (hvS) (i) (rfl) (hlt) ((QL.at (H:=H) (v:=.bool true) hqi)) ?_;rotate_left
    (repeat (first | refine' DV ?_ | refine' DA ?_ | refine' DK0 ?_ | refine' DT ?_ | refine' DS ?_))
    refine' DJ.idxM tO rfl rfl rfl rfl rfl rfl rfl rfl rfl (hvS) (tc) (rfl) (oM) ((QL.at (H:=H) (v:=.bool true) hqc)) ?_;rotate_left
    (repeat (first | refine' DV ?_ | refine' DA ?_ | refine' DK0 ?_ | refine' DT ?_ | (refine' DC (hcmp) (h:=?_);rotate_left) | refine' DS ?_))
    rw [hne]
    (repeat (first | refine' DV ?_ | refine' DA ?_ | refine' DK0 ?_ | refine' DT ?_ | refine' DS ?_))
    (refine DJ.nil (fun G hG hF=>?_);(case hS|hS2=>rfl))
    try refine RUN ?_
    refine ⟨i+1,⟨by rw [wi_inc i (by omega)];rfl,trivial⟩,sB,trivial,sB,rfl,hlt,hG,by omega⟩
   ·apply EV.drawn 27 kR kR;intro xv yw
    (repeat (first | refine' DV ?_ | refine' DA ?_ | refine' DK0 ?_ | refine' DT ?_ | refine' DS ?_))
    refine' DJ.idxM tO rfl rfl rfl rfl rfl rfl rfl rfl rfl (hvS) (i) (rfl) (hlt) ((QL.at (H:=H) (v:=.bool true) hqi)) ?_;rotate_left
    (repeat (first | refine' DV ?_ | refine' DA ?_ | refine' DK0 ?_ | refine' DT ?_ | refine' DS ?_))
    refine' DJ.idxM tO rfl rfl rfl rfl rfl rfl rfl rfl rfl (hvS) (tc) (rfl) (oM) ((QL.at (H:=H) (v:=.bool true) hqc)) ?_;rotate_left
    (repeat (first | refine' DV ?_ | refine' DA ?_ | refine' DK0 ?_ | refine' DT ?_ | (refine' DC (hcmp) (h:=?_);rotate_left) | refine' DS ?_))
    rw [hng]
    (repeat (first | refine' DV ?_ | refine' DA ?_ | refine' DK0 ?_ | refine' DT ?_ | refine' DS ?_))
    rw [decide_eq_false (show ¬ (i:Int)<(tc:Int) by omega)]
    (repeat (first | refine' DV ?_ | refine' DA ?_ | refine' DK0 ?_ | refine' DT ?_ | refine' DS ?_))
    (refine DJ.nil (fun G hG hF=>?_);(case hS|hS2=>rfl))
    try refine RUN ?_
    refine ⟨i+1,⟨by rw [wi_inc i (by omega)];rfl,trivial⟩,sB,trivial,sB,rfl,hlt,hG,by omega⟩
  ·repeat (first | refine RUN ?_ | refine CV (hsg) ?_ | refine CE (hsg) ?_)
   try refine RUN ?_
   rfl
 | v qs =>
  obtain ⟨hql,hqb⟩:=hd
  obtain ⟨la0,lc0,va0,vc0,ea,eb,hPv⟩:=hP
  cases ea
  cases eb
  have hal:ansL 2 0 x ts=[]:=by unfold ansL;rw [if_neg (by decide)]
  have hvq:voteQ 2 0 x ts=[]:=by unfold voteQ;rw [hal];rfl
  have hans:ansQ 2 x ts=meanL (vL x ts):=by unfold ansQ;rw [if_neg (by decide)]
  have hvl:(vL x ts).length=ts.length:=by unfold vL;rw [List.length_map]
  have hleaf:∀ t,t∈ts→ht (leafN x t).value≤4000∧∃ rs:List Int,1≤rs.length∧(∀ r,r∈rs→0≤r∧r<(N:Int))∧(leafN x t).value=meanL (atR qs rs):=fun t ht=>by
   obtain ⟨_,_,_,_,hN⟩:=leaf_ex (hwok t ht).1 x
   exact ⟨hN.small.2.2,hwv t ht _ (leaf_mem (hwok t ht).1)⟩
  have hvb:∀ q,q∈vL x ts→ht q≤4000:=fun q hq=>by
   unfold vL at hq
   obtain ⟨t,ht,rfl⟩:=List.mem_map.1 hq
   exact (hleaf t ht).1
  change QL G8 (.slice a6 (voteQ 2 0 x ts).length c6) (voteQ 2 0 x ts) at hv8
  rw [show GD.kd (.v qs)=2 from rfl,show GD.cl (.v qs)=0 from rfl,hal,hvq,hans]
  obtain ⟨tcs,hts,hst⟩:=hT5.mono (hG6.trans (hG7.trans hG8))
  have hr8:=SlC.mono hr5 (hG6.trans (hG7.trans hG8))
  try refine RUN ?_
  refine EV.loopK (ι:=Nat × Value × Ows) [8,9,11,12,14,15] [8,9,14] (fun q=>[(18,.v q.2.1),(19,.v (.int .i64 (q.1:Int)))]) (fun _=>[]) (fun q=>q.2.2) (fun q G=>q.1≤ts.length∧OwnL 63 5 q.2.1 q.1 (((vL x ts).take q.1).flatMap fun q=>vlist (fracV q)) q.2.2) (fun q=>ts.length-q.1) ((0,.slice none 0 0,[])) rfl rfl ⟨rfl,rfl,trivial⟩ trivial rfl (fun _=>rfl) (⟨Nat.zero_le _,OwnL.nil _ _⟩) ?_
  rintro ⟨i,u,ow⟩ G9 hG9 ⟨hi,hown⟩
  dsimp only at hi hown
  obtain ⟨ua,uc,rfl⟩:=hown.val
  try refine RUN ?_
  refine EV.cond rfl (fun hlt=>?_) (fun hlt=>?_)
  ·simp only [nN] at hlt
   obtain ⟨t,hti⟩:∃ t,ts[i]?=some t:=⟨_,List.getElem?_eq_getElem hlt⟩
   have htm:=List.mem_of_getElem? hti
   obtain ⟨htok,htf⟩:=hwok t htm
   obtain ⟨ef1,ef2,ef3⟩:=fit3 htf
   obtain ⟨cc,hcut,htr⟩:=(PTs.mono hts hG9).get hti
   have han:=tanswer_pc (kd:=t.kd) (cl:=t.cl) (w:=t.w) htr htok (SlC.mono hr8 hG9) (by rw [ef3];omega) hxs5
   obtain ⟨ta,tcc,tcss,rfl,_⟩:=id htr
   try refine RUN ?_
   refine EVL.idxM tO rfl rfl rfl rfl rfl rfl rfl rfl rfl ((hst.mono hG9)) (i) (rfl) (hlt) (hcut) ?_
   try refine RUN ?_
   refine EVL.call rfl rfl rfl rfl rfl (han) ?_
   rintro _ G10 ⟨j,n,rfl,hlf,hn⟩ hG10
   obtain rfl:=leafN_eq hlf hn
   try refine RUN ?_
   refine EVL.app1 tO rfl rfl rfl rfl rfl rfl rfl rfl rfl rfl rfl rfl rfl rfl rfl rfl rfl rfl rfl (fun _=>rfl) (ow) ([]) ((List.append_nil _).symm) (hown) oM fun _=>?_
   intro v' ow' hown'
   obtain ⟨ua',uc',rfl⟩:=hown'.val
   try refine RUN ?_
   have hti':(vL x ts)[i]?=some (leafN x t).value:=by unfold vL;rw [List.getElem?_map,hti];rfl
   refine ⟨(i+1,.slice ua' (i+1) uc',ow'),⟨rfl,by rw [wi_inc i (by omega)];rfl,trivial⟩,sB,trivial,sB,List.append_nil _,⟨hlt,by dsimp only;rw [take_snoc hti',List.flatMap_append];exact hown'⟩,hG10,by dsimp only;omega⟩
  ·simp only [nN] at hlt
   obtain rfl:i=ts.length:=by omega
   rw [← hvl,List.take_length] at hown
   (first | refine EVL.publishL [] ow [] ((List.append_nil _).symm) hown fun G10 hG10 hs10=>?_ | refine EV.publishL [] ow [] ((List.append_nil _).symm) hown fun G10 hG10 hs10=>?_)
   have hs10':QL G10 (.slice ua ts.length uc) (vL x ts):=by
    rw [← hvl]
    exact hs10
   have hmean:=meanB_pc hs10' oM oM (fun q hq=>Nat.le_trans (hvb q hq) oM)
   have hqs2:=SlC.mono hPv (hG3.trans (hG4.trans (hG5.trans (hG6.trans (hG7.trans (hG8.trans (hG9.trans hG10)))))))
   have hsort:=fun (G:Hp) (hG:G10.Le G)=>sort_pc (SlC.mono hqs2 hG) oM (fun q hq=>sm_of (hqb q hq) oM)
   try refine RUN ?_
   refine EVL.call rfl rfl rfl rfl rfl (hmean) ?_
   rintro _ G11 rfl hG11
   try refine RUN ?_
   refine EVL.call rfl rfl rfl rfl rfl (hsort _ hG11) ?_
   rintro r12 G12 ⟨m,hm,hperm,hris⟩ hG12
   obtain ⟨ma,mc,rfl⟩:=SlC.val hm
   have hml:m.length=N:=by rw [hperm.length_eq];exact hql
   obtain ⟨x1,hx1⟩:∃ q,m[0]?=some q:=⟨_,List.getElem?_eq_getElem oM⟩
   obtain ⟨x2,hx2⟩:∃ q,m[m.length-1]?=some q:=⟨_,List.getElem?_eq_getElem oM⟩
   have hends:=rising_ends hris hx1 hx2
   have hval:∀ q,q∈vL x ts→x1≤q∧q≤x2:=fun q hq=>by
    unfold vL at hq
    obtain ⟨t,ht,rfl⟩:=List.mem_map.1 hq
    obtain ⟨_,rs,h1,h2,h3⟩:=hleaf t ht
    rw [h3]
    refine mean_in (by rw [atR_len];omega) fun q hq=>hends q (hperm.mem_iff.2 (atR_mem (by rw [hql];exact h2) q hq))
   obtain ⟨hb1,hb2⟩:=mean_in oM hval
   have hx1b:=hqb x1 (hperm.mem_iff.1 (List.mem_of_getElem? hx1))
   have hx2b:=hqb x2 (hperm.mem_iff.1 (List.mem_of_getElem? hx2))
   have hMb:sm (meanL (vL x ts)):=by
    have h1:=ht_sum 4000 (vL x ts) hvb
    have h2:=ht_div (sumQ (vL x ts)) (((vL x ts).length:Int):Rat)
    have h3:=ht_int ((vL x ts).length:Int)
    have h4:bl (((vL x ts).length:Int)).natAbs≤20:=bl_le oM
    show ht (sumQ (vL x ts) / (((vL x ts).length:Int):Rat))≤100000000
    rw [hvl] at h1
    omega
   generalize meanL (vL x ts)=M at *
   have hc0:=(cmp_pv M M hMb hMb).of_eq (congrArg _ (ordR_refl _))
   have hc1:=cmp_pv M x1 hMb (sm_of hx1b oM)
   have hc2:=cmp_pv M x2 hMb (sm_of hx2b oM)
   have hmS:SlC G12 (.slice ma m.length mc) m.length 5 (m.flatMap fun q=>vlist (fracV q)):=hm
   try refine RUN ?_
   apply EV.drawn 32 kR kR;intro xv yw
   (repeat (first | refine' DV ?_ | refine' DA ?_ | refine' DK0 ?_ | refine' DT ?_ | refine' DS ?_))
   rw [show ((([]:List Rat).length:Int) == 0)=true from rfl]
   (repeat (first | refine' DV ?_ | refine' DA ?_ | refine' DK0 ?_ | refine' DT ?_ | refine' DS ?_))
   rw [show (((topN [] ([]:List Int).length:Nat):Int) == 0)=true from rfl]
   (repeat (first | refine' DV ?_ | refine' DA ?_ | refine' DK0 ?_ | refine' DT ?_ | (refine' DC (hc0) (h:=?_);rotate_left) | refine' DS ?_))
   refine' DJ.idxM tO rfl rfl rfl rfl rfl rfl rfl rfl rfl (hmS) (0) (rfl) (oM) ((QL.at (H:=H) (v:=.bool true) hx1)) ?_;rotate_left
   (repeat (first | refine' DV ?_ | refine' DA ?_ | refine' DK0 ?_ | refine' DT ?_ | (refine' DC (hc1) (h:=?_);rotate_left) | refine' DS ?_))
   rw [decide_eq_true (ordQ_neg.2 (Rat.not_lt.2 hb1))]
   (repeat (first | refine' DV ?_ | refine' DA ?_ | refine' DK0 ?_ | refine' DT ?_ | refine' DS ?_))
   rw [show IntKind.i64.wrap ((m.length:Int)-1)=((m.length-1:Nat):Int) by rw [IntKind.wrap_i64];omega]
   refine' DJ.idxM tO rfl rfl rfl rfl rfl rfl rfl rfl rfl (hmS) (m.length-1) (rfl) (oM) ((QL.at (H:=H) (v:=.bool true) hx2)) ?_;rotate_left
   (repeat (first | refine' DV ?_ | refine' DA ?_ | refine' DK0 ?_ | refine' DT ?_ | (refine' DC (hc2) (h:=?_);rotate_left) | refine' DS ?_))
   rw [decide_eq_true (ordQ_le hb2)]
   (repeat (first | refine' DV ?_ | refine' DA ?_ | refine' DK0 ?_ | refine' DT ?_ | refine' DS ?_))
   (refine DJ.nil (fun G hG hF=>?_);(case hS|hS2=>rfl))
   try refine RUN ?_
   rfl
end Go.Proofs.YtplhljjljnkhpaaGreatDoor
namespace Go.Proofs.YtplhljjljnkhpaaGreatDoor
open Go Go.RowKit
theorem laidE_find {P:Program} {W:World} {n:String} {d:DataW Unit}:∀ {l:List (String × DataW Unit)} {ps:List MemPlace},DataW.LaidVars P W l ps→(n,d)∈l →
  ∃ p,DataW.LaidVars P W [(n,d)] p
 | [],_,_,h=>by cases h
 | (m,x)::r,ps,h,hm=>by
  obtain ⟨g,t,cs,fuel,p,q,h1,h2,h3,h4,h5,h6⟩:=h
  rcases List.mem_cons.1 hm with hm | hm
  ·cases hm
   exact ⟨_,g,t,cs,fuel,p,[],h1,h2,h3,h4,rfl,rfl⟩
  ·exact laidE_find h5 hm
theorem laid_gH {P:Program} {l:List (String × DataW Unit)} {W:World} (h:laidMet P l W) {n:String} {zs:List Nat} {g:Nat} {T e:TypeId} (hmem:(n,.agg (zs.map fun (z:Nat)=>.lit (.int .u8 z)))∈l) (hg:P.globalNamed n=some g) (ht:(P.globals[g]?).map (·.type)=some T)
  (hT:P.underlying T=some (.array zs.length e)) (he:P.underlying e=some (.int .u8)) (hc:P.cellsOf e=1) (hcT:P.cellsOf T=zs.length) :
  ∃ U fz,W.heap[g]?=some (.cells (zs.map fun (z:Nat)=>Value.int .u8 (z:Int)).toArray U fz):=by
 obtain ⟨ps,hl,_⟩:=h
 obtain ⟨p0,g',t,cs,fuel,p,q,hg',ht',hv,hd,_,_⟩:=laidE_find hl hmem
 obtain rfl:=Option.some.inj (hg.symm.trans hg')
 obtain rfl:=Option.some.inj (ht.symm.trans ht')
 obtain ⟨xs,m,_,ex,hcl,hlen,hel⟩:=DataW.trod_array hT hd
 have hb:∃ U fz,W.heap[g]?=some (.cells cs U fz):=by
  simp only [World.var?,hg,Option.bind_some] at hv
  split at hv
  ·rename_i c U fz hc';cases hv;exact ⟨U,fz,hc'⟩
  ·cases hv
 obtain ⟨U,fz,hb⟩:=hb
 refine ⟨U,fz,?_⟩
 rw [hb]
 congr 2
 apply Array.ext'
 rw [hcT] at hcl
 have e3:(xs.map (·.1))=zs.map fun (n:Nat)=>.lit (.int .u8 n):=(DataW.agg.inj (Prod.mk.inj ex).1).symm
 apply List.ext_getElem?
 intro r
 rcases Nat.lt_or_ge r zs.length with hr | hr
 ·have hE:=hel r hr
  rw [hc,Nat.mul_one,List.getElem?_eq_getElem (by omega)] at hE
  obtain ⟨z,e1,e2,_⟩:=DataW.trod_int he hE
  have e4:(xs.map (·.1))[r]?=(zs.map fun (n:Nat)=>(DataW.lit (.int .u8 n):DataW Unit))[r]?:=by rw [e3]
  rw [List.getElem?_map,List.getElem?_map,List.getElem?_eq_getElem (by omega:r<xs.length),List.getElem?_eq_getElem hr,e2] at e4
  simp only [Option.map_some,Option.some.injEq,DataW.lit.injEq,Lit.int.injEq,true_and] at e4
  have h0:((cs.toList.drop r).take 1)[0]?=some (.int .u8 z):=by rw [e1];rfl
  simp only [List.getElem?_take,List.getElem?_drop,Nat.add_zero] at h0
  rw [if_pos (by omega)] at h0
  rw [h0,e4]
  simp [hr]
 ·rw [List.getElem?_eq_none oM,List.getElem?_eq_none (by simpa using hr)]
theorem fits_gH {l:List (String × DataW Unit)} {W:World} (h:laidMet Tryz.prog l W) (hmem:("math/bits.deBruijn64tab", .agg (Lib.deBruijn64tab.map fun (z:Nat)=>.lit (.int .u8 z)))∈l):Fits gH W:=fun b c hb=>by
 unfold gH at hb
 split at hb
 ·rename_i hbb
  cases hb
  obtain rfl:=Nat.eq_of_beq_eq_true hbb
  exact laid_gH h hmem kR kR Tryz.underlying352 Tryz.underlying5 kR kR
 ·cases hb
end Go.Proofs.YtplhljjljnkhpaaGreatDoor
