/- Texts of ours in one: Tr16, Tr17, Tr18, Tr19, Tr20, Tr21, Tr22, Tr23, Tr24, Tr25, Tr26, Opn, Opn20, Tr27, Tr29, Tr30, Tr31, Tr32, Tr33, Tr34, Tr35, Tr36, Tr28, Tr37, LaidE. -/
import Derived.Test.YtgjepkeeeemppaaGreatDoorT0
import Derived.Test.YtgjepkeeeemppaaGreatDoorT1
import Derived.Test.YtgjepkeeeemppaaGreatDoorT3
import Derived.Test.YtgjepkeeeemppaaGreatDoorT4
import Derived.WalkKit
import Derived.ProofKit
import Derived.OpenShut
import Derived.LaidMore
import Derived.Lay
import Derived.Stop.Joined
set_option linter.unusedVariables false
set_option linter.unusedSimpArgs false

namespace Go.Proofs.YtgjepkeeeemppaaGreatDoor
open Go.RowKit _root_.Go.Proofs.Tryz
set_option maxRecDepth 100000 in
set_option maxHeartbeats 32000000 in
theorem pcheckT_pc {H:Hp} {kd cl w:Int} {ns:List Nd} {cs:List Value} (ht:PTree H cs kd cl w ns) (hok:TreeOk ⟨kd,cl,w,ns⟩):PC prog 48 #[.agg cs.toArray] H fun r _=>r=.int .i64 0:=by
 obtain ⟨a,cp,css,rfl,hns,hsl⟩:=ht
 obtain ⟨hkd,hw,hln,⟨hh,hh10,hsub⟩,hall⟩:=hok
 dsimp only at hkd hw hln hsub hall
 have hpos:=hsub.end0
 refine BD func48 ntmps48 ?_
 try refine RUN ?_
 refine EVL.meetK (ι:=Bool) [1,2] [1] (fun _=>[(17,.v (.bool false))]) (fun _=>[]) (fun _=>[]) (fun _ G=>H.Le G) rfl rfl (fun _=>rfl) ?_ ?_
 ·rcases hkd with ⟨rfl,_⟩ | ⟨rfl,rfl⟩
  ·(try refine RUN ?_)
   exact ⟨true,⟨rfl,trivial⟩,sB,trivial,sB,rfl,Hp.Le.refl _⟩
  ·(try refine RUN ?_)
   exact ⟨true,⟨rfl,trivial⟩,sB,trivial,sB,rfl,Hp.Le.refl _⟩
 rintro _ G1 hG1
 try refine RUN ?_
 rw [decide_eq_false (show ¬ w<1 by omega)]
 try refine RUN ?_
 rw [decide_eq_false (show ¬ w>20 by omega)]
 try refine RUN ?_
 rw [decide_eq_false (show ¬ (ns.length:Int)<1 by omega)]
 try refine RUN ?_
 rw [decide_eq_false (show ¬ (ns.length:Int)>2000 by omega)]
 try refine RUN ?_
 refine EVL.meetK (ι:=Bool) [1,2] [1] (fun _=>[(60,.v (.bool false))]) (fun _=>[]) (fun _=>[]) (fun _ G=>H.Le G) rfl rfl (fun _=>rfl) ?_ ?_
 ·rcases hkd with ⟨rfl,h1,h2⟩ | ⟨rfl,rfl⟩
  ·(try refine RUN ?_)
   rw [decide_eq_false (show ¬ cl<1 by omega)]
   try refine RUN ?_
   rw [decide_eq_false (show ¬ cl>12 by omega)]
   try refine RUN ?_
   exact ⟨true,⟨rfl,trivial⟩,sB,trivial,sB,rfl,hG1⟩
  ·(try refine RUN ?_)
   exact ⟨true,⟨rfl,trivial⟩,sB,trivial,sB,rfl,hG1⟩
 rintro _ G2 hG2
 try refine RUN ?_
 (first | refine EVL.unbox (3) rfl fun g3=>?_ | refine EV.unbox (3) rfl fun g3=>?_)
 try refine RUN ?_
 refine EVL.callW rfl rfl rfl rfl rfl ([(g3,169,walkC kd cl w (.slice a ns.length cp) 0)]) ([]) rfl (pend_pw oM hsub (hns.mono hG2) (hsl.mono hG2) (deep:=0) (Nat.le_refl _)) ?_
 rintro _ _ G3 ⟨rfl,far,rfl,hfar⟩ hG3
 try refine RUN ?_
 rw [show ((ns.length:Int) != (ns.length:Int))=false from bne_self_eq_false _]
 try refine RUN ?_
 refine EVL.fldB tO rfl rfl rfl rfl rfl rfl rfl ?_
 refine EVL.loadOwn tO rfl rfl rfl rfl rfl rfl (0) rfl (rfl) rfl rfl ?_
 try refine RUN ?_
 rw [decide_eq_false (show ¬ far>10 by omega)]
 try refine RUN ?_
 refine EV.loopK (ι:=Nat) [1,80,81] [1] (fun q=>[(82,.v (.int .i64 (q:Int)))]) (fun _=>[]) (fun _=>[(g3,_,walkC kd cl w (.slice a ns.length cp) far)]) (fun q _=>q≤ns.length) (fun q=>ns.length-q) (0) rfl rfl ⟨rfl,trivial⟩ trivial rfl (fun _=>rfl) (Nat.zero_le _) ?_
 rintro i G4 hG4 hi
 have hH4:=hG2.trans (hG3.trans hG4)
 try refine RUN ?_
 refine EV.cond rfl (fun hlt=>?_) (fun hlt=>?_)
 ·simp only [nN] at hlt
  obtain ⟨n,hn,hN,hC⟩:=hall i hlt
  obtain ⟨c,hcut,hnd⟩:=(hns.mono hH4).get hn
  obtain ⟨a7,c7,rfl,_⟩:=hnd.cells
  try refine RUN ?_
  refine EVL.idxM tO rfl rfl rfl rfl rfl rfl rfl rfl rfl ((hsl.mono hH4)) (i) (rfl) (hlt) (hcut) ?_
  repeat (first | refine RUN ?_ | refine CV (palone_pc hkd hnd hN) ?_ | refine CE (palone_pc hkd hnd hN) ?_)
  refine ⟨i+1,⟨by rw [wi_inc i (by omega)];rfl,trivial⟩,sB,trivial,sB,rfl,hlt,Hp.Le.refl _,by omega⟩
 ·simp only [nN] at hlt
  try refine RUN ?_
  refine EV.loopK (ι:=Nat) [1,92,93] [1] (fun q=>[(94,.v (.int .i64 (q:Int)))]) (fun _=>[]) (fun _=>[(g3,_,walkC kd cl w (.slice a ns.length cp) far)]) (fun q _=>q≤ns.length) (fun q=>ns.length-q) (0) rfl rfl ⟨rfl,trivial⟩ trivial rfl (fun _=>rfl) (Nat.zero_le _) ?_
  rintro j G5 hG5 hj
  have hH5:=hH4.trans hG5
  try refine RUN ?_
  refine EV.cond rfl (fun hlj=>?_) (fun hlj=>?_)
  ·simp only [nN] at hlj
   obtain ⟨n,hn,hN,hC⟩:=hall j hlj
   obtain ⟨c,hcut,hnd⟩:=(hns.mono hH5).get hn
   obtain ⟨a7,c7,rfl,_⟩:=hnd.cells
   try refine RUN ?_
   refine EVL.idxM tO rfl rfl rfl rfl rfl rfl rfl rfl rfl ((hsl.mono hH5)) (j) (rfl) (hlj) (hcut) ?_
   try refine RUN ?_
   by_cases hcol:n.col = -1
   ·apply EV.drawn 20 kR kR;intro xv yw
    (repeat (first | refine' DV ?_ | refine' DA ?_ | refine' DK0 ?_ | refine' DT ?_ | refine' DS ?_))
    rw [show (n.col != -1)=false by rw [hcol];rfl]
    (repeat (first | refine' DV ?_ | refine' DA ?_ | refine' DK0 ?_ | refine' DT ?_ | refine' DS ?_))
    (refine DJ.nil (fun G hG hF=>?_);(case hS|hS2=>rfl))
    try refine RUN ?_
    refine ⟨j+1,⟨by rw [wi_inc j (by omega)];rfl,trivial⟩,sB,trivial,sB,rfl,hlj,hG,by omega⟩
   ·obtain ⟨hc0,hl0,hr0,na,nb,hna,hnb,hCC⟩:=hC hcol
    have hla:=(List.getElem?_eq_some_iff.1 hna).1
    have hlb:=(List.getElem?_eq_some_iff.1 hnb).1
    obtain ⟨na',ena,hNa,_⟩:=hall _ hla
    obtain ⟨nb',enb,hNb,_⟩:=hall _ hlb
    cases hna.symm.trans ena
    cases hnb.symm.trans enb
    obtain ⟨ca,hcuta,hnda⟩:=(hns.mono hH5).get hna
    obtain ⟨cb,hcutb,hndb⟩:=(hns.mono hH5).get hnb
    obtain ⟨xa7,xc7,rfl,_⟩:=hnda.cells
    obtain ⟨ya7,yc7,rfl,_⟩:=hndb.cells
    apply EV.drawn 20 kR kR;intro xv yw
    (repeat (first | refine' DV ?_ | refine' DA ?_ | refine' DK0 ?_ | refine' DT ?_ | refine' DS ?_))
    rw [show (n.col != -1)=true from bne_iff_ne.2 hcol]
    (repeat (first | refine' DV ?_ | refine' DA ?_ | refine' DK0 ?_ | refine' DT ?_ | refine' DS ?_))
    refine' DJ.idxM tO rfl rfl rfl rfl rfl rfl rfl rfl rfl ((hsl.mono hH5)) (n.left.toNat) ((by rw [Int.toNat_of_nonneg hl0])) (hla) (hcuta) ?_;rotate_left
    (repeat (first | refine' DV ?_ | refine' DA ?_ | refine' DK0 ?_ | refine' DT ?_ | refine' DS ?_))
    refine' DJ.idxM tO rfl rfl rfl rfl rfl rfl rfl rfl rfl ((hsl.mono hH5)) (n.right.toNat) ((by rw [Int.toNat_of_nonneg hr0])) (hlb) (hcutb) ?_;rotate_left
    (repeat (first | refine' DV ?_ | refine' DA ?_ | refine' DK0 ?_ | refine' DT ?_ | refine' DS ?_))
    refine' DJ.callS rfl rfl rfl rfl rfl (cO func92) (fun G hG hd=>padds_pc hkd (hnd.mono hG) (hnda.mono hG) (hndb.mono hG) hN hNa hNb hCC) ?_;rotate_left
    (repeat (first | refine' DV ?_ | refine' DA ?_ | refine' DK0 ?_ | refine' DT ?_ | refine' DS ?_))
    (refine DJ.nil (fun G hG hF=>?_);(case hS|hS2=>rfl))
    try refine RUN ?_
    refine ⟨j+1,⟨by rw [wi_inc j (by omega)];rfl,trivial⟩,sB,trivial,sB,rfl,hlj,hG,by omega⟩
  ·(try refine RUN ?_)
   rfl
def lastL (l:List Int) (q:Nat):Int:=if q=0 then -1 else l.getD (q-1) 0
set_option maxRecDepth 100000 in
set_option maxHeartbeats 32000000 in
theorem pcheckF_pc {H:Hp} {kd cl w:Int} {a1 a2:Option Addr} {c1 c2:Nat} {ts:List Tr} {os:List (List Int)} (ht:PTL H (.slice a1 ts.length c1) ts) (ho:ILL H (.slice a2 os.length c2) os) (hok:∀ t,t∈ts→TreeOk t) (hlo:∀ l,l∈os→l.length≤1000000) (hol:os.length≤1000000) :
  PC prog 15 #[forestV kd cl w (.slice a1 ts.length c1) (.slice a2 os.length c2)] H fun r _=>r=.int .i64 (checkF kd cl w ts os):=by
 obtain ⟨tcs,hts,hst⟩:=ht
 obtain ⟨vos,hos,hso⟩:=ho
 refine BD func15 ntmps15 ?_
 try refine RUN ?_
 by_cases h1:ts.length<1
 ·rw [decide_eq_true (show (ts.length:Int)<1 by omega)]
  try refine RUN ?_
  unfold checkF;rw [if_pos (.inl h1)]
 rw [decide_eq_false (show ¬ (ts.length:Int)<1 by omega)]
 try refine RUN ?_
 by_cases h2:50<ts.length
 ·rw [decide_eq_true (show (ts.length:Int)>50 by omega)]
  try refine RUN ?_
  unfold checkF;rw [if_pos (.inr (.inl h2))]
 rw [decide_eq_false (show ¬ (ts.length:Int)>50 by omega)]
 try refine RUN ?_
 by_cases h3:os.length=ts.length
 case neg =>
  rw [show ((os.length:Int) != (ts.length:Int))=true by rw [bne_iff_ne];omega]
  try refine RUN ?_
  unfold checkF;rw [if_pos (.inr (.inr h3))]
 rw [show ((os.length:Int) != (ts.length:Int))=false by rw [h3];exact bne_self_eq_false _]
 have hc1:checkF kd cl w ts os=if ts.all (fitT kd cl w)=true then (if os.all okL=true then 0 else 1) else 10:=by
  unfold checkF;rw [if_neg (by omega)]
 try refine RUN ?_
 refine EV.loopK (ι:=Nat) [1,31,32] [1] (fun q=>[(33,.v (.int .i64 (q:Int)))]) (fun _=>[]) (fun _=>[]) (fun q _=>q≤ts.length∧(ts.take q).all (fitT kd cl w)=true) (fun q=>ts.length-q) (0) rfl rfl ⟨rfl,trivial⟩ trivial rfl (fun _=>rfl) (⟨Nat.zero_le _,rfl⟩) ?_
 rintro i G1 hG1 ⟨hi,hall⟩
 try refine RUN ?_
 refine EV.cond rfl (fun hlt=>?_) (fun hlt=>?_)
 ·simp only [nN] at hlt
  obtain ⟨t,hti⟩:∃ t,ts[i]?=some t:=⟨_,List.getElem?_eq_getElem hlt⟩
  obtain ⟨c,hcut,htr⟩:=(hts.mono hG1).get hti
  have hck:=pcheckT_pc htr (hok t (List.mem_of_getElem? hti))
  obtain ⟨na,nc,css,rfl,_⟩:=id htr
  try refine RUN ?_
  refine EVL.idxM tO rfl rfl rfl rfl rfl rfl rfl rfl rfl ((hst.mono hG1)) (i) (rfl) (hlt) (hcut) ?_
  repeat (first | refine RUN ?_ | refine CV (hck) ?_ | refine CE (hck) ?_)
  by_cases e1:t.kd=kd
  case neg =>
   rw [show (t.kd != kd)=true from bne_iff_ne.2 e1]
   try refine RUN ?_
   rw [hc1,all_not hti (show fitT kd cl w t=false by unfold fitT;rw [show (t.kd == kd)=false from beq_eq_false_iff_ne.2 e1,Bool.false_and])];rfl
  rw [show (t.kd != kd)=false by rw [e1];exact bne_self_eq_false _]
  try refine RUN ?_
  by_cases e2:t.cl=cl
  case neg =>
   rw [show (t.cl != cl)=true from bne_iff_ne.2 e2]
   try refine RUN ?_
   rw [hc1,all_not hti (show fitT kd cl w t=false by unfold fitT;rw [show (t.cl == cl)=false from beq_eq_false_iff_ne.2 e2,Bool.false_and,Bool.and_false])];rfl
  rw [show (t.cl != cl)=false by rw [e2];exact bne_self_eq_false _]
  try refine RUN ?_
  by_cases e3:t.w=w
  case neg =>
   rw [show (t.w != w)=true from bne_iff_ne.2 e3]
   try refine RUN ?_
   rw [hc1,all_not hti (show fitT kd cl w t=false by unfold fitT;rw [show (t.w == w)=false from beq_eq_false_iff_ne.2 e3,Bool.and_false,Bool.and_false])];rfl
  rw [show (t.w != w)=false by rw [e3];exact bne_self_eq_false _]
  have hfit:fitT kd cl w t=true:=by unfold fitT;rw [e1,e2,e3];simp
  try refine RUN ?_
  refine ⟨i+1,⟨by rw [wi_inc i (by omega)];rfl,trivial⟩,sB,trivial,sB,rfl,⟨hlt,all_take hti hfit hall⟩,Hp.Le.refl _,by omega⟩
 ·simp only [nN] at hlt
  obtain rfl:i=ts.length:=by omega
  rw [List.take_length] at hall
  rw [if_pos hall] at hc1
  try refine RUN ?_
  refine EV.loopK (ι:=Nat) [1,63,64] [1] (fun q=>[(65,.v (.int .i64 (q:Int)))]) (fun _=>[]) (fun _=>[]) (fun q _=>q≤os.length∧(os.take q).all okL=true) (fun q=>os.length-q) (0) rfl rfl ⟨rfl,trivial⟩ trivial rfl (fun _=>rfl) (⟨Nat.zero_le _,rfl⟩) ?_
  rintro i G2 hG2 ⟨hi,hallo⟩
  have hH2:=hG1.trans hG2
  try refine RUN ?_
  refine EV.cond rfl (fun hlo1=>?_) (fun hlo1=>?_)
  ·simp only [nN] at hlo1
   obtain ⟨l,hl⟩:∃ l,os[i]?=some l:=⟨_,List.getElem?_eq_getElem hlo1⟩
   obtain ⟨la,lc,hv,hil⟩:=(hos.mono hH2).get hl
   have hll:=hlo l (List.mem_of_getElem? hl)
   try refine RUN ?_
   refine EVL.idxR tO rfl rfl rfl rfl rfl rfl rfl rfl rfl rfl ((hso.mono hH2)) (i) (rfl) (hlo1) (hv) ?_
   try refine RUN ?_
   refine EV.loopK (ι:=Nat) [1,63,64,65,69,70] [1] (fun q=>[(8,.v (.int .i64 (lastL l q))),(71,.v (.int .i64 (q:Int)))]) (fun _=>[]) (fun _=>[]) (fun q _=>q≤l.length∧∀ j,j<q→okAt l j=true) (fun q=>l.length-q) (0) rfl rfl ⟨rfl,rfl,trivial⟩ trivial rfl (fun _=>rfl) (⟨Nat.zero_le _,fun j hj=>absurd hj (Nat.not_lt_zero _)⟩) ?_
   rintro q G3 hG3 ⟨hq,hok3⟩
   have hH3:=hH2.trans hG3
   try refine RUN ?_
   refine EV.cond rfl (fun hlq=>?_) (fun hlq=>?_)
   ·simp only [nN] at hlq
    obtain ⟨z,hz⟩:∃ z,l[q]?=some z:=⟨_,List.getElem?_eq_getElem hlq⟩
    have hgz:l.getD q 0=z:=by rw [List.getD_eq_getElem?_getD,hz];rfl
    have hbad:okAt l q=false→checkF kd cl w ts os=1:=fun e=>by
     rw [hc1,if_neg (by rw [all_not hl (okL_not hlq e)];decide)]
    have hstep:okAt l q=true→∀ j,j<q+1→okAt l j=true:=fun e j hj=>by
     by_cases h:j<q
     ·exact hok3 j h
     ·obtain rfl:j=q:=by omega
      exact e
    have hprev:0<q→0≤l.getD (q-1) 0:=fun h=>by
     have:=hok3 (q-1) oM
     unfold okAt at this
     simp only [Bool.and_eq_true,decide_eq_true_eq] at this
     exact this.1
    have hlast:lastL l (q+1)=z:=by unfold lastL;rw [if_neg oM,Nat.add_sub_cancel,hgz]
    have hoka:okAt l q=true↔(lastL l q<z∧z<300):=by
     unfold okAt lastL
     rw [hgz]
     by_cases h0:q=0
     ·subst h0;simp;omega
     ·have:=hprev oM
      rw [if_neg h0,show (q == 0)=false from beq_eq_false_iff_ne.2 h0]
      simp only [Bool.and_eq_true,decide_eq_true_eq,Bool.false_or]
      omega
    generalize lastL l q=last at *
    try refine RUN ?_
    refine EVL.idxR tO rfl rfl rfl rfl rfl rfl rfl rfl rfl rfl ((hil.mono hG3)) (q) (rfl) (hlq) ((by rw [List.getElem?_map,hz];rfl)) ?_
    try refine RUN ?_
    by_cases z1:z≤last
    ·rw [decide_eq_true z1]
     try refine RUN ?_
     rw [hbad (by rw [← Bool.not_eq_true,hoka];omega)]
    rw [decide_eq_false z1]
    try refine RUN ?_
    by_cases z2:z≥300
    ·rw [decide_eq_true z2]
     try refine RUN ?_
     rw [hbad (by rw [← Bool.not_eq_true,hoka];omega)]
    rw [decide_eq_false z2]
    try refine RUN ?_
    refine ⟨q+1,⟨by rw [hlast];rfl,by rw [wi_inc q (by omega)];rfl,trivial⟩,sB,trivial,sB,rfl,⟨hlq,hstep (hoka.2 oM)⟩,Hp.Le.refl _,by omega⟩
   ·simp only [nN] at hlq
    obtain rfl:q=l.length:=by omega
    have hokl:okL l=true:=List.all_eq_true.2 fun j hj=>hok3 j (List.mem_range.1 hj)
    try refine RUN ?_
    refine ⟨i+1,⟨by rw [wi_inc i (by omega)];rfl,trivial⟩,sB,trivial,sB,rfl,⟨hlo1,all_take hl hokl hallo⟩,hG3,by omega⟩
  ·simp only [nN] at hlo1
   obtain rfl:i=os.length:=by omega
   rw [List.take_length] at hallo
   try refine RUN ?_
   rw [hc1,if_pos hallo]
inductive Leaf (T:List Nd) (x:List Rat):Nat→Nat→Prop
 | here {i:Nat} {n:Nd}:T[i]?=some n→n.col = -1→Leaf T x i i
 | low {i j:Nat} {n:Nd}:T[i]?=some n→n.col ≠ -1→x.getD n.col.toNat 0≤n.at'→Leaf T x n.left.toNat j→Leaf T x i j
 | high {i j:Nat} {n:Nd}:T[i]?=some n→n.col ≠ -1→¬ x.getD n.col.toNat 0≤n.at'→Leaf T x n.right.toNat j→Leaf T x i j
theorem Leaf.det {T:List Nd} {x:List Rat} {i j:Nat} (h:Leaf T x i j):∀ {k:Nat},Leaf T x i k→j=k:=by
 induction h with
 | here h1 h2 =>
  intro k h
  cases h with
  | here _ _=>rfl
  | low e n _ _=>rw [h1] at e;cases e;exact absurd h2 n
  | high e n _ _=>rw [h1] at e;cases e;exact absurd h2 n
 | low h1 h2 h3 _ ih =>
  intro k h
  cases h with
  | here e n=>rw [h1] at e;cases e;exact absurd n h2
  | low e n _ h=>rw [h1] at e;cases e;exact ih h
  | high e n h' _=>rw [h1] at e;cases e;exact absurd h3 h'
 | high h1 h2 h3 _ ih =>
  intro k h
  cases h with
  | here e n=>rw [h1] at e;cases e;exact absurd n h2
  | low e n h' _=>rw [h1] at e;cases e;exact absurd h' h3
  | high e n _ h=>rw [h1] at e;cases e;exact ih h
theorem Sub.at {T:List Nd} {w:Int} {k h e:Nat} (h0:Sub T w k h e):∀ i,k≤i→i<e→∃ h' e',Sub T w i h' e':=by
 induction h0 with
 | @leaf k h n a b c d e =>
  intro i h1 h2
  obtain rfl:i=k:=by omega
  exact ⟨0,_,.leaf a b c d e⟩
 | @node k h m e n a b c d f s1 s2 ih1 ih2 =>
  intro i h1 h2
  by_cases h3:i=k
  ·subst h3;exact ⟨_,_,.node a b c d f s1 s2⟩
  ·by_cases h4:i<m
   ·exact ih1 i oM h4
   ·exact ih2 i oM h2
set_option maxRecDepth 100000 in
set_option maxHeartbeats 16000000 in
theorem leaf_pc {H:Hp} {cs:List Value} {vx:Value} {kd cl w:Int} {ns:List Nd} {x:List Rat} (ht:PTree H cs kd cl w ns) (hok:TreeOk ⟨kd,cl,w,ns⟩) (hx:QL H vx x) (hxl:(x.length:Int)=w) (hxs:∀ q,q∈x→sm q) :
  PC prog 88 #[.agg cs.toArray,vx] H fun r G=>∃ j n c,Leaf ns x 0 j∧ns[j]?=some n∧OkN kd cl n∧r=.agg c.toArray∧PNode G c n:=by
 obtain ⟨a,cp,css,rfl,hns,hsl⟩:=ht
 obtain ⟨hkd,hw,hln,⟨hh,hh10,hsub⟩,hall⟩:=hok
 dsimp only at hkd hw hln hsub hall
 have hpos:=hsub.end0
 obtain ⟨xa,xc,rfl⟩:=SlC.val hx
 have hxS:SlC H (.slice xa x.length xc) x.length 5 (x.flatMap fun q=>vlist (fracV q)):=hx
 obtain ⟨n0,hn0⟩:∃ n,ns[0]?=some n:=⟨_,List.getElem?_eq_getElem hpos⟩
 obtain ⟨c0,hcut0,hnd0⟩:=hns.get hn0
 have hnd0':=hnd0
 obtain ⟨a07,c07,rfl,_⟩:=hnd0.cells
 refine BD func88 ntmps88 ?_
 try refine RUN ?_
 refine EVL.idxM tO rfl rfl rfl rfl rfl rfl rfl rfl rfl (hsl) (0) (rfl) (hpos) (hcut0) ?_
 try refine RUN ?_
 refine EV.loopK (ι:=Nat × List Value) [1,2,4,5] [2,4] (fun q=>[]) (fun q=>[(5,107,q.2)]) (fun _=>[]) (fun q G=>q.1<ns.length∧(∃ n,ns[q.1]?=some n∧PNode G q.2 n)∧∀ j,Leaf ns x q.1 j→Leaf ns x 0 j) (fun q=>ns.length-q.1) ((0,_)) rfl rfl trivial ⟨rfl,trivial⟩ rfl (fun _=>rfl) (⟨hpos,⟨n0,hn0,hnd0'⟩,fun j h=>h⟩) ?_
 rintro ⟨i,c⟩ G1 hG1 ⟨hi,⟨n,hn,hnd⟩,hlf⟩
 dsimp only at hi hn hnd hlf
 have hnd':=hnd
 obtain ⟨a7,c7,rfl,_⟩:=hnd.cells
 obtain ⟨n',hn',hN,_⟩:=hall i hi
 cases hn.symm.trans hn'
 obtain ⟨h',e',hsi⟩:=hsub.at i (Nat.zero_le _) hi
 have hle:=hsi.lt
 try refine RUN ?_
 cases hsi with
 | leaf q1 q2 q3 q4 q5 =>
  rw [hn] at q1
  cases q1
  rw [show (n.col != -1)=false by rw [q2];rfl]
  try refine RUN ?_
  exact ⟨i,n,_,hlf i (.here hn q2),hn,hN,rfl,hnd'⟩
 | @node _ h1 m _ _ q1 q2 q3 q4 q5 s1 s2 =>
  rw [hn] at q1
  cases q1
  have hm1:=s1.lt
  have hm2:=s2.lt
  have hcl:n.col.toNat<x.length:=by omega
  obtain ⟨y,hy⟩:∃ y,x[n.col.toNat]?=some y:=⟨_,List.getElem?_eq_getElem hcl⟩
  have hyg:x.getD n.col.toNat 0=y:=by rw [List.getD_eq_getElem?_getD,hy];rfl
  have hcmp:=cmp_pv y n.at' (hxs y (List.mem_of_getElem? hy)) (sm_of hN.small.1 oM)
  rw [show (n.col != -1)=true from bne_iff_ne.2 (by omega)]
  try refine RUN ?_
  apply EV.drawn 9 kR kR;intro xv yw
  (repeat (first | refine' DV ?_ | refine' DA ?_ | refine' DK0 ?_ | refine' DT ?_ | refine' DS ?_))
  refine' DJ.idxM tO rfl rfl rfl rfl rfl rfl rfl rfl rfl ((hxS.mono hG1)) (n.col.toNat) ((by rw [Int.toNat_of_nonneg q2])) (hcl) (QL.at (H:=H) (v:=.bool true) hy) ?_;rotate_left
  (repeat (first | refine' DV ?_ | refine' DA ?_ | refine' DK0 ?_ | refine' DT ?_ | (refine' DC (hcmp) (h:=?_);rotate_left) | refine' DS ?_))
  (refine DJ.nil (fun G2 hG2 hF2=>?_);(case hS|hS2=>rfl))
  by_cases hle2:y≤n.at'
  ·rw [decide_eq_true (ordR_le hle2)]
   obtain ⟨n2,hn2⟩:∃ n2,ns[n.left.toNat]?=some n2:=⟨_,List.getElem?_eq_getElem oM⟩
   obtain ⟨c2,hcut2,hnd2⟩:=(hns.mono (hG1.trans hG2)).get hn2
   have hnd2':=hnd2
   obtain ⟨b7,d7,rfl,_⟩:=hnd2.cells
   try refine RUN ?_
   refine EVL.idxM tO rfl rfl rfl rfl rfl rfl rfl rfl rfl ((hsl.mono (hG1.trans hG2))) (n.left.toNat) ((by rw [Int.toNat_of_nonneg (by omega)])) (oM) (hcut2) ?_
   try refine RUN ?_
   refine ⟨(n.left.toNat,_),trivial,sB,⟨rfl,trivial⟩,sB,rfl,⟨by dsimp only;omega,⟨n2,hn2,hnd2'⟩,fun j h=>hlf j (.low hn oM (by rw [hyg];exact hle2) h)⟩,hG2,by dsimp only;omega⟩
  ·rw [decide_eq_false (show ¬ ordR y n.at'≤0 from fun k=>hle2 (Rat.not_lt.1 fun k2=>by have:=(ordR_pos y n.at').2 k2;omega))]
   obtain ⟨n2,hn2⟩:∃ n2,ns[n.right.toNat]?=some n2:=⟨_,List.getElem?_eq_getElem oM⟩
   obtain ⟨c2,hcut2,hnd2⟩:=(hns.mono (hG1.trans hG2)).get hn2
   have hnd2':=hnd2
   obtain ⟨b7,d7,rfl,_⟩:=hnd2.cells
   try refine RUN ?_
   refine EVL.idxM tO rfl rfl rfl rfl rfl rfl rfl rfl rfl ((hsl.mono (hG1.trans hG2))) (n.right.toNat) ((by rw [Int.toNat_of_nonneg (by omega)])) (oM) (hcut2) ?_
   try refine RUN ?_
   refine ⟨(n.right.toNat,_),trivial,sB,⟨rfl,trivial⟩,sB,rfl,⟨by dsimp only;omega,⟨n2,hn2,hnd2'⟩,fun j h=>hlf j (.high hn oM (by rw [hyg];exact hle2) h)⟩,hG2,by dsimp only;omega⟩
set_option maxHeartbeats 4000000 in
theorem refuse_pc {H:Hp} {kd cl:Int} {w:Int} {a1 a2 xa:Option Addr} {c1 c2 xn xc:Nat} {ts:List Tr} {os:List (List Int)} (ht:PTL H (.slice a1 ts.length c1) ts) (ho:ILL H (.slice a2 os.length c2) os) (hok:∀ t,t∈ts→TreeOk t) (hlo:∀ l,l∈os→l.length≤1000000) (hol:os.length≤1000000) :
  PC prog 44 #[forestV kd cl w (.slice a1 ts.length c1) (.slice a2 os.length c2),.slice xa xn xc] H fun r _=>r=.int .i64 (if checkF kd cl w ts os=0 then (if (xn:Int)=w then 0 else 5) else 1):=by
 have hck:=pcheckF_pc (kd:=kd) (cl:=cl) (w:=w) ht ho hok hlo hol
 refine BD func44 ntmps44 ?_
 repeat (first | refine RUN ?_ | refine CV (hck) ?_ | refine CE (hck) ?_)
 by_cases h1:checkF kd cl w ts os=0
 ·rw [if_pos h1,show (checkF kd cl w ts os != 0)=false by rw [h1];rfl]
  try refine RUN ?_
  by_cases h2:(xn:Int)=w
  ·rw [if_pos h2,show ((xn:Int) != w)=false by rw [h2];exact bne_self_eq_false _]
   try refine RUN ?_
   rfl
  ·rw [if_neg h2,show ((xn:Int) != w)=true from bne_iff_ne.2 h2]
   try refine RUN ?_
   rfl
 ·rw [if_neg h1,show (checkF kd cl w ts os != 0)=true from bne_iff_ne.2 h1]
  try refine RUN ?_
  rfl
def Says (x:List Rat) (k:Int) (t:Tr):Prop:=∃ i n,Leaf t.ns x 0 i∧t.ns[i]?=some n∧n.cls=k
def CLs (x:List Rat) (ks:List Int) (ts:List Tr):Prop:=ks.length=ts.length∧∀ (j:Nat) (k:Int) (t:Tr),ks[j]?=some k→ts[j]?=some t→Says x k t
theorem topN_in {l:List Int} (h:0<l.length):topN l l.length<l.length:=by
 rcases topN_lt l l.length with k | k <;> omega
set_option maxRecDepth 100000 in
set_option maxHeartbeats 16000000 in
theorem count_pc {H:Hp} {C:Nat} {w:Int} {vt vo:Value} {a:Option Addr} {cp:Nat} {vx:Value} {ts:List Tr} {x:List Rat} (ht:PTL H (.slice a ts.length cp) ts) (hok:∀ t,t∈ts→TreeOk t∧fitT 1 C w t=true) (hC:1≤C∧C≤12) (hn:ts.length≤1000) (hx:QL H vx x) (hxl:(x.length:Int)=w) (hxs:∀ q,q∈x→sm q) :
  PC prog 49 #[forestV 1 C w vt vo,.slice a ts.length cp,vx] H fun r G=>∃ ks,CLs x ks ts∧IL G r (cntL C ks):=by
 obtain ⟨tcs,hts,hst⟩:=ht
 obtain ⟨xa,xc,rfl⟩:=SlC.val hx
 refine BD func49 ntmps49 ?_
 try refine RUN ?_
 refine EVL.make tO rfl rfl rfl rfl rfl rfl rfl rfl rfl (C) (rfl) oM (by rfl) (by rfl) fun b=>?_
 try refine RUN ?_
 (first | refine EVL.swapOw ([(b,3,(cntL C ([]:List Int)).map iv++[])]) ([]) ((by rw [← cnt_zero];rfl)) ?_ | refine EV.swapOw ([(b,3,(cntL C ([]:List Int)).map iv++[])]) ([]) ((by rw [← cnt_zero];rfl)) ?_)
 refine EV.loopK (ι:=List Int) [2,7,13,14] [] (fun ks=>[(15,.v (.int .i64 (ks.length:Int)))]) (fun _=>[]) (fun ks=>[(b,3,(cntL C ks).map iv++[])]) (fun ks _=>ks.length≤ts.length∧CLs x ks (ts.take ks.length)) (fun ks=>ts.length-ks.length) ([]) rfl rfl ⟨rfl,trivial⟩ trivial rfl (fun _=>rfl) (⟨Nat.zero_le _,⟨rfl,fun j k t e _=>by cases e⟩⟩) ?_
 rintro ks G2 hG2 ⟨hi,hks⟩
 try refine RUN ?_
 refine EV.cond rfl (fun hlt=>?_) (fun hlt=>?_)
 ·simp only [nN] at hlt
  obtain ⟨t,hti⟩:∃ t,ts[ks.length]?=some t:=⟨_,List.getElem?_eq_getElem hlt⟩
  obtain ⟨hto,htf⟩:=hok t (List.mem_of_getElem? hti)
  obtain ⟨cc,hcut,htr⟩:=(hts.mono hG2).get hti
  obtain ⟨a3,c3,css,rfl,_,_⟩:=id htr
  have hf3:t.kd=1∧t.cl=C∧t.w=w:=by
   unfold fitT at htf
   simp only [Bool.and_eq_true,beq_iff_eq] at htf
   exact htf
  have hlf:=leaf_pc htr hto (hx.mono hG2) (by rw [hf3.2.2];exact hxl) hxs
  try refine RUN ?_
  refine EVL.idxM tO rfl rfl rfl rfl rfl rfl rfl rfl rfl ((hst.mono hG2)) (ks.length) (rfl) (hlt) (hcut) ?_
  try refine RUN ?_
  refine EVL.call rfl rfl rfl rfl rfl (hlf) ?_
  rintro _ G3 ⟨i,n,c,hL,hni,hN,rfl,hp⟩ hG3
  obtain ⟨a7,c7,rfl,_⟩:=hp.cells
  have hlen:(n.counts.length:Int)=(C:Int):=by rw [← hf3.2.1];exact hN.len
  have hcls:=hN.cls
  have htop:=topN_in (l:=n.counts) oM
  generalize topN n.counts n.counts.length=k at *
  have hk:k<C:=by omega
  have hcl:ks.count (k:Int)≤1000:=Nat.le_trans List.count_le_length oM
  have hget:=cntL_at (C:=C) ks hk
  have hcn:=cntL_snoc (C:=C) ks hk
  have hlen2:=cntL_len C ks
  have hsay:Says x (k:Int) t:=⟨i,n,hL,hni,hcls⟩
  generalize cntL C ks=cs at *
  generalize ks.count (k:Int)=m at *
  have wm:IntKind.i64.wrap ((m:Int)+1)=((m+1:Nat):Int):=wi_inc m oM
  try refine RUN ?_
  rw [hcls]
  refine EVL.idxB tO rfl rfl rfl rfl rfl rfl rfl rfl rfl (k) (k*1) (rfl) (hk) (rfl) ?_
  refine EVL.loadOwn tO rfl rfl rfl rfl rfl rfl (0) rfl (ci_get [] hget) rfl rfl ?_
  try refine RUN ?_
  rw [wm]
  refine EVL.idxB tO rfl rfl rfl rfl rfl rfl rfl rfl rfl (k) (k*1) (rfl) (hk) (rfl) ?_
  refine EVL.storeOwn tO rfl rfl rfl rfl rfl rfl ([]) ([]) rfl rfl rfl rfl ((by rw [List.length_append,List.length_map,hlen2];show k*1+1≤_;omega)) (ci_set [] _ (show k<cs.length by omega)) ?_
  try refine RUN ?_
  refine ⟨ks++[(k:Int)],⟨by rw [wi_inc ks.length oM,List.length_append];rfl,trivial⟩,sB,trivial,sB,by rw [hcn];rfl,⟨by rw [List.length_append,List.length_singleton];omega,by rw [List.length_append,List.length_singleton,take_snoc hti];exact rel_snoc hks hsay⟩,hG3,by rw [List.length_append,List.length_singleton];omega⟩
 ·simp only [nN] at hlt
  have hi2:ks.length=ts.length:=by omega
  rw [hi2,List.take_length] at hks
  (first | refine EVL.publish [] [] rfl fun G3 hG3 hb3=>?_ | refine EV.publish [] [] rfl fun G3 hG3 hb3=>?_)
  try refine RUN ?_
  exact ⟨ks,hks,il_own hb3 (cntL_len _ _)⟩
set_option maxRecDepth 100000 in
set_option maxHeartbeats 16000000 in
theorem answerC_pc {H:Hp} {C:Nat} {w:Int} {vt vo:Value} {a:Option Addr} {cp:Nat} {vx:Value} {ts:List Tr} {x:List Rat} (ht:PTL H (.slice a ts.length cp) ts) (hok:∀ t,t∈ts→TreeOk t∧fitT 1 C w t=true) (hC:1≤C∧C≤12) (hn:ts.length≤1000) (hx:QL H vx x) (hxl:(x.length:Int)=w) (hxs:∀ q,q∈x→sm q) :
  PC prog 45 #[forestV 1 C w vt vo,.slice a ts.length cp,vx] H fun r _=>∃ ks,CLs x ks ts∧r=.tuple #[fracV 0,.int .i64 (topN (cntL C ks) C:Nat)]:=by
 have hcnt:=count_pc (vt:=vt) (vo:=vo) ht hok hC hn hx hxl hxs
 obtain ⟨xa,xc,rfl⟩:=SlC.val hx
 refine BD func45 ntmps45 ?_
 try refine RUN ?_
 refine EVL.call rfl rfl rfl rfl rfl (hcnt) ?_
 rintro r1 G1 ⟨ks,hks,hil⟩ hG1
 obtain ⟨la,lc,rfl⟩:=SlC.val hil
 have hlen:=cntL_len C ks
 generalize hcs:cntL C ks=l at *
 try refine RUN ?_
 refine EV.loopK (ι:=Nat) [6,8,21,22] [6] (fun q=>[(7,.v (.int .i64 (topN l q:Nat))),(23,.v (.int .i64 (q:Int)))]) (fun _=>[]) (fun _=>[]) (fun q _=>q≤l.length) (fun q=>l.length-q) (0) rfl rfl ⟨rfl,rfl,trivial⟩ trivial rfl (fun _=>rfl) (Nat.zero_le _) ?_
 rintro q G2 hG2 hq
 try refine RUN ?_
 refine EV.cond rfl (fun hlt=>?_) (fun hlt=>?_)
 ·simp only [nN] at hlt
  have hti:=topN_lt l q
  have htl:topN l q<l.length:=by omega
  have g1:=getD_at hlt
  have g2:=getD_at htl
  have hst:topN l (q+1)=if l.getD (topN l q) 0<l.getD q 0 then q else topN l q:=rfl
  generalize topN l q=tp at *
  generalize l.getD tp 0=z at *
  generalize l.getD q 0=y at *
  try refine RUN ?_
  refine EVL.idxR tO rfl rfl rfl rfl rfl rfl rfl rfl rfl rfl ((hil.mono hG2)) (q) (rfl) (hlt) ((by rw [List.getElem?_map,g1];rfl)) ?_
  try refine RUN ?_
  refine EVL.idxR tO rfl rfl rfl rfl rfl rfl rfl rfl rfl rfl ((hil.mono hG2)) (tp) (rfl) (htl) ((by rw [List.getElem?_map,g2];rfl)) ?_
  try refine RUN ?_
  by_cases h:y>z
  ·rw [decide_eq_true h]
   rw [if_pos h] at hst
   try refine RUN ?_
   refine ⟨q+1,⟨by rw [hst];rfl,by rw [wi_inc q (by omega)];rfl,trivial⟩,sB,trivial,sB,rfl,by omega,Hp.Le.refl _,by omega⟩
  ·rw [decide_eq_false h]
   rw [if_neg h] at hst
   try refine RUN ?_
   refine ⟨q+1,⟨by rw [hst];rfl,by rw [wi_inc q (by omega)];rfl,trivial⟩,sB,trivial,sB,rfl,by omega,Hp.Le.refl _,by omega⟩
 ·simp only [nN] at hlt
  obtain rfl:q=l.length:=by omega
  try refine RUN ?_
  refine ⟨ks,hks,?_⟩
  rw [hcs,← hlen,← fracV_zero]
set_option maxHeartbeats 4000000 in
theorem sumB_pc {H:Hp} {v:Value} {l:List Rat} (h:QL H v l) (hl:l.length≤20) (hb:∀ q,q∈l→ht q≤2000000):PC prog 105 #[v] H fun r _=>r=fracV (sumQ l):=by
 obtain ⟨a,cap,rfl⟩:=SlC.val h
 have hz:vlist (fracV (sumQ (l.take 0)))=[.bool false,.int .u64 0,.string ⟨#[]⟩,.int .u64 0,.string ⟨#[]⟩]:=frac_zero_cells
 refine BD func105 ntmps105 ?_
 try refine RUN ?_
 refine EV.loopK (ι:=Nat) [2,3,6,7] [2] (fun i=>[(8,.v (.int .i64 (i:Int)))]) (fun i=>[(3,67,vlist (fracV (sumQ (l.take i))))]) (fun _=>[]) (fun i G=>i≤l.length) (fun i=>l.length-i) (0) rfl rfl ⟨rfl,trivial⟩ ⟨by rw [hz];rfl,trivial⟩ rfl (fun _=>rfl) (Nat.zero_le _) ?_
 intro i G1 hG1 hi
 try refine RUN ?_
 refine EV.cond rfl (fun hlt=>?_) (fun hlt=>?_)
 ·simp only [nN] at hlt
  obtain ⟨q,hqi⟩:∃ q,l[i]?=some q:=⟨_,List.getElem?_eq_getElem hlt⟩
  have hqb:=hb q (List.mem_of_getElem? hqi)
  have hsb:=ht_sum 2000000 (l.take i) (fun q hq=>hb q (List.mem_of_mem_take hq))
  rw [List.length_take,Nat.min_eq_left hi] at hsb
  have hadd:=add_pv (sumQ (l.take i)) q (sm_of hsb oM) (sm_of hqb oM)
  rw [← sumQ_snoc,← take_snoc hqi] at hadd
  try refine RUN ?_
  refine EVL.idxM tO rfl rfl rfl rfl rfl rfl rfl rfl rfl ((SlC.mono (show SlC H (.slice a l.length cap) l.length 5 (l.flatMap fun q=>vlist (fracV q)) from h) hG1)) (i) (rfl) (hlt) ((QL.at (H:=H) (v:=.slice a l.length cap) hqi)) ?_
  repeat (first | refine RUN ?_ | refine CV (hadd) ?_ | refine CE (hadd) ?_)
  refine ⟨i+1,⟨?_,trivial⟩,sB,⟨rfl,trivial⟩,sB,rfl,hlt,Hp.Le.refl _,by omega⟩
  rw [wi_inc i (by omega)];rfl
 ·simp only [nN] at hlt
  obtain rfl:i=l.length:=by omega
  rw [List.take_length]
  try refine RUN ?_
  rfl
theorem meanB_pc {H:Hp} {v:Value} {l:List Rat} (h:QL H v l) (hl:l.length≤20) (h0:l.length≠0) (hb:∀ q,q∈l→ht q≤2000000):PC prog 57 #[v] H fun r _=>r=.tuple #[fracV (meanL l),.bool true]:=by
 obtain ⟨a,cap,rfl⟩:=SlC.val h
 have hs:=ht_sum 2000000 l hb
 have hln:=ht_len (n:=l.length) oM
 have hsum:=sumB_pc h hl hb
 have hof:=of_pv (l.length:Int) oM oM
 have hd:=div_pv (sumQ l) ((l.length:Int):Rat) (sm_of hs oM) (sm_of hln oM) (by intro e;have:((l.length:Int):Rat)=((0:Int):Rat):=e;exact h0 (by have:=Rat.intCast_inj.1 this;omega))
 refine BD func57 ntmps57 ?_
 repeat (first | refine RUN ?_ | refine CV (hsum) ?_ | refine CV (hof) ?_ | refine CV (hd) ?_ | refine CE (hsum) ?_ | refine CE (hof) ?_ | refine CE (hd) ?_)
 rfl
def Gives (x:List Rat) (q:Rat) (t:Tr):Prop:=∃ i n,Leaf t.ns x 0 i∧t.ns[i]?=some n∧n.value=q
def VLs (x:List Rat) (qs:List Rat) (ts:List Tr):Prop:=qs.length=ts.length∧∀ (j:Nat) (q:Rat) (t:Tr),qs[j]?=some q→ts[j]?=some t→Gives x q t
def cqF (q:Rat):List Value:=vlist (fracV q)
theorem cqF_len (l:List Rat):(l.flatMap cqF).length=l.length*5:=flat_len cqF 5 l fun _ _=>rfl
theorem cqF_zero (n:Nat):(List.replicate n ([.bool false,.int .u64 0,.string ⟨#[]⟩,.int .u64 0,.string ⟨#[]⟩]:List Value)).flatten=(([]:List Rat)++List.replicate (n-0) 0).flatMap cqF:=by
 rw [List.nil_append,Nat.sub_zero,List.flatMap_def,List.map_replicate,show cqF 0=_ from frac_zero_cells]
theorem cqF_set (qs:List Rat) (q:Rat) {n:Nat} (h:qs.length<n):((qs++List.replicate (n-qs.length) 0).flatMap cqF).take (qs.length*5)++vlist (fracV q)++((qs++List.replicate (n-qs.length) 0).flatMap cqF).drop (qs.length*5+5)=((qs++[q])++List.replicate (n-(qs++[q]).length) 0).flatMap cqF:=by
 have e:n-qs.length=(n-(qs++[q]).length)+1:=by rw [List.length_append,List.length_singleton];omega
 rw [e,List.replicate_succ,List.flatMap_append,List.flatMap_cons,List.flatMap_append,List.flatMap_append,List.flatMap_singleton,List.append_assoc (qs.flatMap cqF) (cqF q)]
 have:=row_set (A:=qs.flatMap cqF) (c:=cqF 0) (B:=(List.replicate (n-(qs++[q]).length) (0:Rat)).flatMap cqF) (vs:=vlist (fracV q)) (c':=cqF q) (k:=qs.length) (s:=5) (f:=0) (m:=5) (q:=qs.length*5) (cqF_len qs) rfl rfl (Nat.le_refl 5) rfl
 exact this
theorem ql_own {H:Hp} {b m:Nat} {l:List Rat} (h:H b=some (l.flatMap cqF).toArray) (hm:l.length=m):QL H (.slice (some ⟨b,0,none⟩) m m) l:=by
 subst hm
 refine ⟨cqF_len l,.inr ⟨b,0,l.length,_,rfl,Nat.le_refl _,h,fun j x hj=>?_⟩⟩
 rw [Nat.zero_add,List.getElem?_toArray]
 exact hj
set_option maxRecDepth 100000 in
set_option maxHeartbeats 16000000 in
theorem answerV_pc {H:Hp} {w:Int} {vt vo:Value} {a:Option Addr} {cp:Nat} {vx:Value} {ts:List Tr} {x:List Rat} (ht:PTL H (.slice a ts.length cp) ts) (hok:∀ t,t∈ts→TreeOk t∧fitT 2 0 w t=true) (h0:0<ts.length) (hn:ts.length≤20) (hx:QL H vx x) (hxl:(x.length:Int)=w) (hxs:∀ q,q∈x→sm q) :
  PC prog 45 #[forestV 2 0 w vt vo,.slice a ts.length cp,vx] H fun r _=>∃ qs,VLs x qs ts∧r=.tuple #[fracV (meanL qs),.int .i64 0]:=by
 obtain ⟨tcs,hts,hst⟩:=ht
 obtain ⟨xa,xc,rfl⟩:=SlC.val hx
 refine BD func45 ntmps45 ?_
 try refine RUN ?_
 refine EVL.make tO rfl rfl rfl rfl rfl rfl rfl rfl rfl (ts.length) (rfl) oM (by rfl) (by rfl) fun b=>?_
 try refine RUN ?_
 (first | refine EVL.swapOw ([(b,67,(([]:List Rat)++List.replicate (ts.length-0) 0).flatMap cqF)]) ([]) ((by rw [← cqF_zero];rfl)) ?_ | refine EV.swapOw ([(b,67,(([]:List Rat)++List.replicate (ts.length-0) 0).flatMap cqF)]) ([]) ((by rw [← cqF_zero];rfl)) ?_)
 refine EV.loopK (ι:=List Rat) [2,6,7,11,41,42] [6] (fun qs=>[(43,.v (.int .i64 (qs.length:Int)))]) (fun _=>[]) (fun qs=>[(b,67,(qs++List.replicate (ts.length-qs.length) 0).flatMap cqF)]) (fun qs _=>qs.length≤ts.length∧VLs x qs (ts.take qs.length)∧∀ q,q∈qs→ht q≤2000000) (fun qs=>ts.length-qs.length) ([]) rfl rfl ⟨rfl,trivial⟩ trivial rfl (fun _=>rfl) (⟨Nat.zero_le _,⟨rfl,fun j k t e _=>by cases e⟩,fun q hq=>by cases hq⟩) ?_
 rintro qs G2 hG2 ⟨hi,hqs,hqb⟩
 try refine RUN ?_
 refine EV.cond rfl (fun hlt=>?_) (fun hlt=>?_)
 ·simp only [nN] at hlt
  obtain ⟨t,hti⟩:∃ t,ts[qs.length]?=some t:=⟨_,List.getElem?_eq_getElem hlt⟩
  obtain ⟨hto,htf⟩:=hok t (List.mem_of_getElem? hti)
  obtain ⟨cc,hcut,htr⟩:=(hts.mono hG2).get hti
  obtain ⟨a3,c3,css,rfl,_,_⟩:=id htr
  have hf3:t.kd=2∧t.cl=0∧t.w=w:=by
   unfold fitT at htf
   simp only [Bool.and_eq_true,beq_iff_eq] at htf
   exact htf
  have hlf:=leaf_pc htr hto (hx.mono hG2) (by rw [hf3.2.2];exact hxl) hxs
  try refine RUN ?_
  refine EVL.idxM tO rfl rfl rfl rfl rfl rfl rfl rfl rfl ((hst.mono hG2)) (qs.length) (rfl) (hlt) (hcut) ?_
  try refine RUN ?_
  refine EVL.call rfl rfl rfl rfl rfl (hlf) ?_
  rintro _ G3 ⟨i,n,c,hL,hni,hN,rfl,hp⟩ hG3
  obtain ⟨a7,c7,rfl,_⟩:=hp.cells
  have hgv:Gives x n.value t:=⟨i,n,hL,hni,rfl⟩
  have hsm:ht n.value≤2000000:=Nat.le_trans hN.small.2.2 oM
  try refine RUN ?_
  refine EVL.idxB tO rfl rfl rfl rfl rfl rfl rfl rfl rfl (qs.length) (qs.length*5) (rfl) (hlt) (rfl) ?_
  refine EVL.storeOwn tO rfl rfl rfl rfl rfl rfl ([]) ([]) rfl rfl rfl rfl ((by rw [cqF_len,List.length_append,List.length_replicate];show qs.length*5+5≤_;omega)) ((cqF_set qs n.value hlt)) ?_
  try refine RUN ?_
  refine ⟨qs++[n.value],⟨by rw [wi_inc qs.length oM,List.length_append];rfl,trivial⟩,sB,trivial,sB,rfl,⟨by rw [List.length_append,List.length_singleton];omega,by rw [List.length_append,List.length_singleton,take_snoc hti];exact rel_snoc hqs hgv,fun q hq=>?_⟩,hG3,by rw [List.length_append,List.length_singleton];omega⟩
  rcases List.mem_append.1 hq with h | h
  ·exact hqb q h
  ·rw [List.mem_singleton.1 h];exact hsm
 ·simp only [nN] at hlt
  have hi2:qs.length=ts.length:=by omega
  rw [hi2,List.take_length] at hqs
  (first | refine EVL.publish [] [] rfl fun G3 hG3 hb3=>?_ | refine EV.publish [] [] rfl fun G3 hG3 hb3=>?_)
  rw [hi2,Nat.sub_self,List.replicate_zero,List.append_nil] at hb3
  have hql:=ql_own hb3 hi2
  repeat (first | refine RUN ?_ | refine CV (meanB_pc hql oM oM hqb) ?_ | refine CE (meanB_pc hql oM oM hqb) ?_)
  exact ⟨qs,hqs,rfl⟩
set_option maxHeartbeats 8000000 in
theorem panswer_pc {H:Hp} {kd cl w:Int} {a1 a2:Option Addr} {c1 c2:Nat} {vx:Value} {ts:List Tr} {os:List (List Int)} {x:List Rat} (ht:PTL H (.slice a1 ts.length c1) ts) (ho:ILL H (.slice a2 os.length c2) os) (hok:∀ t,t∈ts→TreeOk t) (hlo:∀ l,l∈os→l.length≤1000000) (hol:os.length≤1000000) (hn:ts.length≤20) (hx:QL H vx x) (hxs:∀ q,q∈x→sm q) :
  PC prog 13 #[forestV kd cl w (.slice a1 ts.length c1) (.slice a2 os.length c2),vx] H fun r _ =>
   (checkF kd cl w ts os≠0→r=.tuple #[fracV 0,.int .i64 0,.int .i64 1]) ∧
   (checkF kd cl w ts os=0→(x.length:Int)≠w→r=.tuple #[fracV 0,.int .i64 0,.int .i64 5]) ∧
   (checkF kd cl w ts os=0→(x.length:Int)=w→(kd=1∧∃ ks,CLs x ks ts∧r=.tuple #[fracV 0,.int .i64 (topN (cntL cl.toNat ks) cl.toNat:Nat),.int .i64 0])∨(kd≠1∧∃ qs,VLs x qs ts∧r=.tuple #[fracV (meanL qs),.int .i64 0,.int .i64 0])):=by
 obtain ⟨xa,xc,rfl⟩:=SlC.val hx
 have hrf:=refuse_pc (kd:=kd) (cl:=cl) (w:=w) (xa:=xa) (xn:=x.length) (xc:=xc) ht ho hok hlo hol
 by_cases h1:checkF kd cl w ts os=0
 ·rw [if_pos h1] at hrf
  by_cases h2:(x.length:Int)=w
  ·rw [if_pos h2] at hrf
   have hall:0<ts.length∧ts.all (fitT kd cl w)=true:=by
    unfold checkF at h1
    split at h1
    ·cases h1
    ·split at h1
     ·rename_i h3 h4;exact ⟨by omega,h4⟩
     ·cases h1
   have hfit:∀ t,t∈ts→TreeOk t∧fitT kd cl w t=true:=fun t hm=>⟨hok t hm,List.all_eq_true.1 hall.2 t hm⟩
   obtain ⟨t0,ht0⟩:∃ t,ts[0]?=some t:=⟨_,List.getElem?_eq_getElem hall.1⟩
   obtain ⟨ho0,hf0⟩:=hfit t0 (List.mem_of_getElem? ht0)
   have hk0:=ho0.kind
   have hf3:t0.kd=kd∧t0.cl=cl∧t0.w=w:=by
    unfold fitT at hf0
    simp only [Bool.and_eq_true,beq_iff_eq] at hf0
    exact hf0
   rw [hf3.1,hf3.2.1] at hk0
   rcases hk0 with ⟨rfl,hc1,hc2⟩ | ⟨rfl,rfl⟩
   ·obtain ⟨C,rfl⟩:=Int.eq_ofNat_of_zero_le (show 0≤cl by omega)
    have hans:=answerC_pc (vt:=.slice a1 ts.length c1) (vo:=.slice a2 os.length c2) (C:=C) ht hfit oM oM hx h2 hxs
    refine BD func13 ntmps13 ?_
    repeat (first | refine RUN ?_ | refine CV (hrf) ?_ | refine CE (hrf) ?_)
    refine EVL.call rfl rfl rfl rfl rfl (hans) ?_
    rintro _ G1 ⟨ks,hks,rfl⟩ hG1
    try refine RUN ?_
    exact ⟨fun e=>absurd h1 e,fun _ e=>absurd h2 e,fun _ _=>.inl ⟨rfl,ks,hks,rfl⟩⟩
   ·have hans:=answerV_pc (vt:=.slice a1 ts.length c1) (vo:=.slice a2 os.length c2) ht hfit hall.1 hn hx h2 hxs
    refine BD func13 ntmps13 ?_
    repeat (first | refine RUN ?_ | refine CV (hrf) ?_ | refine CE (hrf) ?_)
    refine EVL.call rfl rfl rfl rfl rfl (hans) ?_
    rintro _ G1 ⟨qs,hqs,rfl⟩ hG1
    try refine RUN ?_
    exact ⟨fun e=>absurd h1 e,fun _ e=>absurd h2 e,fun _ _=>.inr ⟨by decide,qs,hqs,rfl⟩⟩
  ·rw [if_neg h2] at hrf
   refine BD func13 ntmps13 ?_
   repeat (first | refine RUN ?_ | refine CV (hrf) ?_ | refine CE (hrf) ?_)
   exact ⟨fun e=>absurd h1 e,fun _ _=>by rw [fracV_zero],fun _ e=>absurd e h2⟩
 ·rw [if_neg h1] at hrf
  refine BD func13 ntmps13 ?_
  repeat (first | refine RUN ?_ | refine CV (hrf) ?_ | refine CE (hrf) ?_)
  exact ⟨fun _=>by rw [fracV_zero],fun e=>absurd e h1,fun e=>absurd e h1⟩
theorem TreeOk.copies {t:Tr} (h:TreeOk t):0<t.ns.length∧t.ns.length≤1000000∧∀ n,n∈t.ns→n.counts.length≤1000000:=by
 obtain ⟨hkd,hw,hln,⟨hh,hh10,hsub⟩,hall⟩:=h
 refine ⟨hsub.end0,by omega,fun n hn=>?_⟩
 obtain ⟨i,hi⟩:=List.mem_iff_getElem?.1 hn
 obtain ⟨n',e,hN,_⟩:=hall i (List.getElem?_eq_some_iff.1 hi).1
 cases hi.symm.trans e
 have:=hN.len
 omega
end Go.Proofs.YtgjepkeeeemppaaGreatDoor
namespace Go.Proofs.YtgjepkeeeemppaaGreatDoor
theorem okL_asc {l:List Int} (h:l.Pairwise (·<·)) (hb:∀ z,z∈l→0≤z∧z<300):okL l=true:=by
 refine List.all_eq_true.2 fun k hk=>?_
 have hk':=List.mem_range.1 hk
 have e1:l.getD k 0=l[k]:=by rw [List.getD_eq_getElem?_getD,List.getElem?_eq_getElem hk'];rfl
 have h1:=hb _ (List.getElem_mem hk')
 unfold okAt
 rw [e1,decide_eq_true h1.1,decide_eq_true h1.2]
 by_cases h0:k=0
 ·subst h0;rfl
 ·have hk2:k-1<l.length:=by omega
  have e2:l.getD (k-1) 0=l[k-1]:=by rw [List.getD_eq_getElem?_getD,List.getElem?_eq_getElem hk2];rfl
  rw [e2,decide_eq_true (List.pairwise_iff_getElem.1 h (k-1) k hk2 hk' oM)]
  simp
theorem upTo_lt (n:Nat):(upTo n).Pairwise (·<·):=by
 unfold upTo
 rw [List.pairwise_map]
 exact List.pairwise_lt_range.imp (by intro a b h;simp;omega)
theorem restL_ok {n:Nat} (hn:n≤300) (l:List Int):okL (restL n l)=true∧(restL n l).length≤300:=by
 refine ⟨okL_asc ((upTo_lt n).sublist List.filter_sublist) fun z hz=>?_,Nat.le_trans (restL_le n l) hn⟩
 have hm:=(List.mem_filter.1 hz).1
 unfold upTo at hm
 obtain ⟨i,hi,rfl⟩:=List.mem_map.1 hm
 have:=List.mem_range.1 hi
 show (0:Int)≤(i:Int)∧(i:Int)<300
 omega
theorem wood_lists {p:GP} {n D:Nat} (hn:n≤300) (kd cl w:Int):∀ (k:Nat) (s:Int) (l:List Int),l∈(p.wood D n kd cl w k s).2.1→okL l=true∧l.length≤300
 | 0,s,l,h=>by cases h
 | k+1,s,l,h=>by
  rw [GP.wood_succ] at h
  rcases List.mem_append.1 h with h | h
  ·exact wood_lists hn kd cl w k s l h
  ·rw [List.mem_singleton.1 h]
   exact restL_ok hn _
theorem checkF_ok {kd cl w:Int} {ts:List Tr} {os:List (List Int)} (h1:1≤ts.length) (h2:ts.length≤50) (h3:os.length=ts.length) (ht:∀ t,t∈ts→fitT kd cl w t=true) (ho:∀ l,l∈os→okL l=true):checkF kd cl w ts os=0:=by
 unfold checkF
 rw [if_neg oM,if_pos (List.all_eq_true.2 ht),if_pos (List.all_eq_true.2 ho)]
end Go.Proofs.YtgjepkeeeemppaaGreatDoor
namespace Go.Proofs.YtgjepkeeeemppaaGreatDoor
open Go.RowKit _root_.Go.Proofs.Tryz
structure Wooden (H:Hp) (v:Value) (kd cl w:Int) (ts:List Tr) (os:List (List Int)):Prop where
 val:∃ a1 c1 a2 c2,v=forestV kd cl w (.slice a1 ts.length c1) (.slice a2 os.length c2)∧RTL H (.slice a1 ts.length c1) ts∧ILL H (.slice a2 os.length c2) os
 trees:∀ t,t∈ts→TreeOk t∧fitT kd cl w t=true
 lists:∀ l,l∈os→okL l=true∧l.length≤300
 len:os.length=ts.length
set_option maxHeartbeats 4000000 in
theorem wood20_pc {H:Hp} {kd cl least seed:Int} {ga va:Option Addr} {gn gc vn vc N W D sm nt:Nat} {vx:Value} {b1:Bool} {a1 a2:Option Addr} {l1 c1 l2 c2:Nat} {lg ll:List Int} (hg:GoalR H (goalV kd cl (.slice ga gn gc) (.slice va vn vc)) N (rowQ lg N)) (hX:RLL H vx (rowsQ ll N W)) (hq:RQ H (.agg #[.bool b1,.slice a1 l1 c1,.slice a2 l2 c2]) 0)
  (hN:1≤N∧N≤300) (hW:1≤W∧W≤20) (hD:D≤9) (hsm:1≤sm∧sm≤W) (hnt:1≤nt∧nt≤50) (hl:1≤least∧least≤300) (hs:0≤seed) :
  PC prog 6 #[goalV kd cl (.slice ga gn gc) (.slice va vn vc),vx,woodV nt sm seed (D:Int) least (.bool b1) (.slice a1 l1 c1) (.slice a2 l2 c2)] H fun r G=>∃ v ts os,r=.tuple #[v,.int .i64 0]∧Wooden G v kd cl (W:Int) ts os∧ts.length=nt:=by
 obtain ⟨cost,mean,cnt,hR,hP⟩:=goal_gp hg (rowQ_len _ _) hN.1 hN.2 (rowQ_ht N)
 have hlen:=rowsQ_len ll N W
 have hrows:=fun x hx=>rowsQ_ht (l:=ll) (n:=N) (w:=W) x hx
 generalize hXe:rowsQ ll N W=X at *
 subst hlen
 have hgp:=hP.gp (sm:=sm) (least:=least) hN.2 hW.1 oM hrows
 obtain ⟨xa,xc,rfl⟩:=hX.val
 have h0:ht (0:Rat)≤100000000:=by rw [ht_zero];decide
 refine (growForest_pc (p:=woodP X cost mean cnt least W sm) (D:=D) (sm:=sm) (w:=W) (fun s=>rfl) hsm.1 hsm.2 hW.2 (by show 0<X.length;omega) hN.2 (fun x hx=>(hrows x hx).1) (fun x hx=>(hrows x hx).2) rfl hl h0 Rat.le_refl oM hR hX hq hnt.1 hnt.2 hs).mono ?_
 rintro r G ⟨at',ct,ao,co,rfl,hT,hO⟩ hG
 obtain ⟨e1,e2,_⟩:=(woodP X cost mean cnt least W sm).wood_len D (woodP X cost mean cnt least W sm).X.length kd cl (W:Int) nt seed
 have hT1:=fun t ht=>wood_ok hgp hW hD hN.1 nt seed t ht
 have hL1:=fun l hl=>wood_lists (p:=woodP X cost mean cnt least W sm) (D:=D) hgp.rowsX kd cl (W:Int) nt seed l hl
 generalize ((woodP X cost mean cnt least W sm).wood D (woodP X cost mean cnt least W sm).X.length kd cl (W:Int) nt seed)=R at *
 have e1':R.1.length=nt:=e1
 have e2':R.2.1.length=nt:=e2
 refine ⟨_,R.1,R.2.1,rfl,⟨⟨at',ct,ao,co,by rw [e1',e2'],by rw [e1'];exact hT,by rw [e2'];exact hO⟩,hT1,hL1,by rw [e1',e2']⟩,e1'⟩
theorem overI_pv (a b:Int) (ha:0≤a∧a≤1000) (hb:1≤b∧b≤1000):PV prog 50 #[.int .i64 a,.int .i64 b] (.tuple #[fracV (mkRat a b.natAbs),.bool true]):=by
 have h1:=wholeOf_pv a oM oM
 have h2:=wholeOf_pv b oM oM
 have b1:bl a.natAbs≤20:=bl_le oM
 have b2:bl b.natAbs≤20:=bl_le oM
 have h3:=make_pv a b (by show bl a.natAbs≤_;omega) (by show bl b.natAbs≤_;omega) oM
 rw [if_neg (show ¬ b<0 by omega)] at h3
 refine PV.of_pc ?_
 refine BD func50 ntmps50 ?_
 repeat (first | refine RUN ?_ | refine CV (h1) ?_ | refine CV (h2) ?_ | refine CV (h3) ?_ | refine CE (h1) ?_ | refine CE (h2) ?_ | refine CE (h3) ?_)
 rfl
def votesQ (C n:Nat) (ks:List Int):List Rat:=(cntL C ks).map fun c=>mkRat c n
theorem votesQ_len (C n:Nat) (ks:List Int):(votesQ C n ks).length=C:=by unfold votesQ;rw [List.length_map,cntL_len]
set_option maxRecDepth 100000 in
set_option maxHeartbeats 16000000 in
theorem votes_pc {H:Hp} {C:Nat} {w:Int} {a1 a2:Option Addr} {c1 c2:Nat} {vx:Value} {ts:List Tr} {os:List (List Int)} {x:List Rat} (ht:PTL H (.slice a1 ts.length c1) ts) (ho:ILL H (.slice a2 os.length c2) os) (hok:∀ t,t∈ts→TreeOk t) (hlo:∀ l,l∈os→l.length≤1000000) (hol:os.length≤1000000) (hC:1≤C∧C≤12) (hck:checkF 1 C w ts os=0) (hx:QL H vx x) (hxl:(x.length:Int)=w) (hxs:∀ q,q∈x→sm q) :
  PC prog 16 #[forestV 1 C w (.slice a1 ts.length c1) (.slice a2 os.length c2),vx] H fun r G=>∃ ks v,CLs x ks ts∧r=.tuple #[v,.int .i64 0]∧QL G v (votesQ C ts.length ks):=by
 obtain ⟨xa,xc,rfl⟩:=SlC.val hx
 have hrf:=refuse_pc (kd:=1) (cl:=(C:Int)) (w:=w) (xa:=xa) (xn:=x.length) (xc:=xc) ht ho hok hlo hol
 rw [if_pos hck,if_pos hxl] at hrf
 have hall:1≤ts.length∧ts.length≤50∧ts.all (fitT 1 C w)=true:=by
  unfold checkF at hck
  split at hck
  ·cases hck
  ·split at hck
   ·rename_i h3 h4;exact ⟨by omega,by omega,h4⟩
   ·cases hck
 have hfit:∀ t,t∈ts→TreeOk t∧fitT 1 C w t=true:=fun t hm=>⟨hok t hm,List.all_eq_true.1 hall.2.2 t hm⟩
 have hcnt:=count_pc (vt:=.slice a1 ts.length c1) (vo:=.slice a2 os.length c2) ht hfit hC oM hx hxl hxs
 refine BD func16 ntmps16 ?_
 repeat (first | refine RUN ?_ | refine CV (hrf) ?_ | refine CE (hrf) ?_)
 refine EVL.make tO rfl rfl rfl rfl rfl rfl rfl rfl rfl (C) (rfl) oM (by rfl) (by rfl) fun b=>?_
 try refine RUN ?_
 refine EVL.call rfl rfl rfl rfl rfl (hcnt) ?_
 rintro r1 G1 ⟨ks,hks,hil⟩ hG1
 obtain ⟨la,lc,rfl⟩:=SlC.val hil
 have hlen:=cntL_len C ks
 have hkl:=hks.1
 have hilS:SlC G1 (.slice la (cntL C ks).length lc) (cntL C ks).length 1 ((cntL C ks).map iv):=hil
 rw [hlen] at hilS
 try refine RUN ?_
 (first | refine EVL.swapOw ([(b,67,(([]:List Rat)++List.replicate (C-0) 0).flatMap cqF)]) ([]) ((by rw [← cqF_zero];rfl)) ?_ | refine EV.swapOw ([(b,67,(([]:List Rat)++List.replicate (C-0) 0).flatMap cqF)]) ([]) ((by rw [← cqF_zero];rfl)) ?_)
 refine EV.loopK (ι:=List Rat) [2,7,26,27] [2] (fun qs=>[(28,.v (.int .i64 (qs.length:Int)))]) (fun _=>[]) (fun qs=>[(b,67,(qs++List.replicate (C-qs.length) 0).flatMap cqF)]) (fun qs _=>qs.length≤C∧qs=(votesQ C ts.length ks).take qs.length) (fun qs=>C-qs.length) ([]) rfl rfl ⟨rfl,trivial⟩ trivial rfl (fun _=>rfl) (⟨Nat.zero_le _,rfl⟩) ?_
 rintro qs G2 hG2 ⟨hi,hqs⟩
 rw [hlen]
 try refine RUN ?_
 refine EV.cond rfl (fun hlt=>?_) (fun hlt=>?_)
 ·simp only [nN] at hlt
  have hcl:qs.length<(cntL C ks).length:=by omega
  have g1:=cntL_at (C:=C) ks hlt
  have hm:ks.count ((qs.length:Nat):Int)≤50:=Nat.le_trans List.count_le_length oM
  have hv1:(votesQ C ts.length ks)[qs.length]?=some (mkRat ((ks.count ((qs.length:Nat):Int):Nat):Int) ts.length):=by
   unfold votesQ;rw [List.getElem?_map,g1];rfl
  generalize ks.count ((qs.length:Nat):Int)=m at *
  have hov:=overI_pv ((m:Nat):Int) ((ts.length:Nat):Int) oM oM
  rw [Int.natAbs_natCast] at hov
  try refine RUN ?_
  refine EVL.idxR tO rfl rfl rfl rfl rfl rfl rfl rfl rfl rfl ((hilS.mono hG2)) (qs.length) (rfl) (hlt) ((by rw [List.getElem?_map,g1];rfl)) ?_
  repeat (first | refine RUN ?_ | refine CV (hov) ?_ | refine CE (hov) ?_)
  refine EVL.idxB tO rfl rfl rfl rfl rfl rfl rfl rfl rfl (qs.length) (qs.length*5) (rfl) (hlt) (rfl) ?_
  refine EVL.storeOwn tO rfl rfl rfl rfl rfl rfl ([]) ([]) rfl rfl rfl rfl ((by rw [cqF_len,List.length_append,List.length_replicate];show qs.length*5+5≤_;omega)) ((cqF_set qs (mkRat (m:Int) ts.length) hlt)) ?_
  try refine RUN ?_
  refine ⟨qs++[mkRat (m:Int) ts.length],⟨by rw [wi_inc qs.length oM,List.length_append];rfl,trivial⟩,sB,trivial,sB,rfl,⟨by rw [List.length_append,List.length_singleton];omega,by rw [List.length_append,List.length_singleton,take_snoc hv1,← hqs]⟩,Hp.Le.refl _,by rw [List.length_append,List.length_singleton];omega⟩
 ·simp only [nN] at hlt
  have hi2:qs.length=C:=by omega
  rw [hi2,List.take_of_length_le (by rw [votesQ_len];omega)] at hqs
  (first | refine EVL.publish [] [] rfl fun G3 hG3 hb3=>?_ | refine EV.publish [] [] rfl fun G3 hG3 hb3=>?_)
  rw [hi2,Nat.sub_self,List.replicate_zero,List.append_nil] at hb3
  have hql:=ql_own hb3 hi2
  try refine RUN ?_
  exact ⟨ks,_,hks,rfl,by rw [← hqs];exact hql⟩
end Go.Proofs.YtgjepkeeeemppaaGreatDoor
namespace Go.Proofs.YtgjepkeeeemppaaGreatDoor
def knN (c:Nat):Nd:=⟨-1,0,0,1,(c:Int),0,0,0,[1-(c:Int),(c:Int)]⟩
def knT (c:Nat):Tr:=⟨1,2,1,[knN c]⟩
def knTs:List Tr:=[knT 0,knT 1,knT 1]
theorem knN_ok {c:Nat} (h:c≤1):OkN 1 2 (knN c) where
 rows:=⟨by show (1:Int)≤1;omega,by show (1:Int)≤1048576;omega⟩
 cost:=Rat.le_refl
 len:=rfl
 pos:=fun z hz=>by
  rcases List.mem_cons.1 hz with e | hz
  ·omega
  ·rw [List.mem_singleton.1 hz];omega
 sum:=fun _=>by
  show (1-(c:Int))+((c:Int)+0)=1
  omega
 cls:=by
  rcases Nat.lt_or_ge c 1 with k | k
  ·obtain rfl:c=0:=by omega
   rfl
  ·obtain rfl:c=1:=by omega
   rfl
 value:=fun _=>rfl
 small:=by
  show ht 0≤100∧ht 0≤2000000∧ht 0≤4000
  rw [ht_zero];decide
theorem knT_ok {c:Nat} (h:c≤1):TreeOk (knT c) where
 kind:=.inl ⟨rfl,by show (1:Int)≤2;omega,by show (2:Int)≤12;omega⟩
 wide:=⟨by show (1:Int)≤1;omega,by show (1:Int)≤20;omega⟩
 len:=by show 1≤2000;omega
 sub:=⟨0,by omega,.leaf (n:=knN c) rfl rfl rfl rfl rfl⟩
 nodes:=fun i hi=>by
  have hi':i<1:=hi
  obtain rfl:i=0:=by omega
  exact ⟨knN c,rfl,knN_ok h,fun e=>absurd rfl e⟩
theorem knTs_ok:∀ t,t∈knTs→TreeOk t:=fun t ht=>by
 rcases List.mem_cons.1 ht with rfl | ht
 ·exact knT_ok oM
 ·rcases List.mem_cons.1 ht with rfl | ht
  ·exact knT_ok oM
  ·rw [List.mem_singleton.1 ht];exact knT_ok oM
theorem knTs_check:checkF 1 2 1 knTs [[],[],[]]=0:=by decide
theorem knT_says {x:List Rat} {k:Int} {c:Nat} (h:Says x k (knT c)):k=(c:Int):=by
 obtain ⟨i,n,hL,hn,rfl⟩:=h
 have h0:Leaf (knT c).ns x 0 0:=.here (n:=knN c) rfl rfl
 rw [← h0.det hL] at hn
 cases hn
 rfl
theorem knTs_votes {x:List Rat} {ks:List Int} (h:CLs x ks knTs):ks=[0,1,1]:=by
 obtain ⟨hl,h⟩:=h
 match ks,hl with
 | [a,b,c],_ =>
  rw [knT_says (h 0 a (knT 0) rfl rfl),knT_says (h 1 b (knT 1) rfl rfl),knT_says (h 2 c (knT 1) rfl rfl)]
  rfl
theorem kn_votesQ:votesQ 2 3 [0,1,1]=[mkRat 1 3,mkRat 2 3]:=by decide +kernel
end Go.Proofs.YtgjepkeeeemppaaGreatDoor
namespace Go.Proofs.YtgjepkeeeemppaaGreatDoor
open Go.RowKit _root_.Go.Proofs.Tryz
theorem kn_tree {H:Hp} {b:Nat} {cs:List Value} {n:Nd} {kd cl w:Int} (h:PNode H cs n) (hb:H b=some cs.toArray):PTree H [.int .i64 kd,.int .i64 cl,.int .i64 w,.slice (some ⟨b,0,none⟩) 1 1] kd cl w [n] :=
 ⟨some ⟨b,0,none⟩,1,[cs],rfl,⟨rfl,fun j c m e1 e2=>by
  have hj:=(List.getElem?_eq_some_iff.1 e1).1
  simp at hj
  subst hj
  cases e1;cases e2;exact h⟩,by
  rw [flatS]
  exact ⟨h.len,.inr ⟨b,0,1,_,rfl,Nat.le_refl _,hb,fun j x hj=>by rw [Nat.zero_add,List.getElem?_toArray];exact hj⟩⟩⟩
theorem kn_lists:∀ l,l∈([[],[],[]]:List (List Int))→l.length≤1000000:=by decide
theorem kn_row:∀ q,q∈([((0:Int):Rat)]:List Rat)→sm q:=fun q hq=>by
 rw [List.mem_singleton.1 hq]
 show ht 0≤100000000
 rw [ht_zero];decide
set_option maxRecDepth 100000 in
set_option maxHeartbeats 16000000 in
theorem known20_pc {H:Hp}:PC prog 7 #[] H fun r _=>r=.bool true:=by
 refine BD func7 ntmps7 ?_
 try refine RUN ?_
 refine EVL.make tO rfl rfl rfl rfl rfl rfl rfl rfl rfl (3) (rfl) oM (by rfl) (by rfl) fun b=>?_
 (first | refine EVL.publish [] [] rfl fun G0 hG0 hb0=>?_ | refine EV.publish [] [] rfl fun G0 hG0 hb0=>?_)
 have hout:ILL G0 (.slice (some ⟨b,0,none⟩) 3 3) [[],[],[]]:=⟨[.slice none 0 0,.slice none 0 0,.slice none 0 0],⟨rfl,fun j v l e1 e2=>by
  match j,e1,e2 with
  | 0,e1,e2=>cases e1;cases e2;exact IL.nil _ _ _
  | 1,e1,e2=>cases e1;cases e2;exact IL.nil _ _ _
  | 2,e1,e2=>cases e1;cases e2;exact IL.nil _ _ _⟩,⟨rfl,.inr ⟨b,0,3,_,rfl,Nat.le_refl _,hb0,fun j x hj=>by rw [Nat.zero_add,List.getElem?_toArray];exact hj⟩⟩⟩
 try refine RUN ?_
 refine EV.loopK (ι:=Nat × Value × List (List Value) × Ows) [0,1] [] (fun q=>[(2,.v (.int .i64 (q.1:Int)))]) (fun q=>[(1,56,[.int .i64 1,.int .i64 2,.int .i64 1,q.2.1,.slice (some ⟨b,0,none⟩) 3 3])]) (fun q=>q.2.2.2) (fun q G=>q.1≤3∧PTs G q.2.2.1 (knTs.take q.1)∧OwnL 110 4 q.2.1 q.1 q.2.2.1.flatten q.2.2.2) (fun q=>3-q.1) ((0,.slice none 0 0,[],[])) rfl rfl ⟨rfl,trivial⟩ ⟨rfl,trivial⟩ rfl (fun _=>rfl) (⟨Nat.zero_le _,⟨rfl,fun j c n e1 e2=>by cases e1⟩,OwnL.nil _ _⟩) ?_
 rintro ⟨i,u,ps,ow⟩ G1 hG1 ⟨hi,hps,hown⟩
 dsimp only at hi hps hown
 obtain ⟨wa,wc,rfl⟩:=hown.val
 try refine RUN ?_
 refine EV.cond rfl (fun hlt=>?_) (fun hlt=>?_)
 ·simp only [nN] at hlt
  have h012:i=0∨i=1∨i=2:=by omega
  rcases h012 with hi0 | hi1 | hi2
  ·subst hi0
   try refine RUN ?_
   refine EVL.lit tO rfl rfl rfl rfl rfl rfl rfl rfl rfl rfl rfl fun bl=>?_
   (first | refine EVL.publish [] ow rfl fun G2 hG2 hb2=>?_ | refine EV.publish [] ow rfl fun G2 hG2 hb2=>?_)
   have hil:IL G2 (.slice (some ⟨bl,0,none⟩) 2 2) (knN 0).counts:=il_own (sp:=[]) hb2 rfl
   try refine RUN ?_
   refine EVL.lit tO rfl rfl rfl rfl rfl rfl rfl rfl rfl rfl rfl fun bn=>?_
   (first | refine EVL.publish [] ow rfl fun G3 hG3 hb3=>?_ | refine EV.publish [] ow rfl fun G3 hG3 hb3=>?_)
   have hnd:PNode G3 _ (knN 0):=⟨some ⟨bl,0,none⟩,2,hil.mono hG3,rfl⟩
   have htr:PTree G3 [.int .i64 1,.int .i64 2,.int .i64 1,.slice (some ⟨bn,0,none⟩) 1 1] 1 2 1 [knN 0]:=kn_tree hnd (by rw [hb3];exact congrArg some (congrArg List.toArray (by show _=_++(vlist (fracV 0)++(vlist (fracV 0)++(vlist (fracV 0)++_)));rw [frac_zero_cells];rfl)))
   try refine RUN ?_
   refine EVL.app1 tO rfl rfl rfl rfl rfl rfl rfl rfl rfl rfl rfl rfl rfl rfl rfl rfl rfl rfl rfl (fun _=>rfl) (ow) ([]) ((List.append_nil _).symm) (hown) oM fun _=>?_
   intro v' ow' hown'
   obtain ⟨va,vc,rfl⟩:=hown'.val
   try refine RUN ?_
   refine ⟨(0+1,_,ps++[_],ow'),⟨rfl,trivial⟩,sB,⟨rfl,trivial⟩,sB,List.append_nil _,⟨by dsimp only;omega,by dsimp only;exact rel_snoc (xs:=ps) (ys:=knTs.take 0) (hps.mono (hG2.trans hG3)) htr,by dsimp only;rw [List.flatten_append,flatS];exact hown'⟩,hG2.trans hG3,by dsimp only;omega⟩
  ·subst hi1
   try refine RUN ?_
   refine EVL.lit tO rfl rfl rfl rfl rfl rfl rfl rfl rfl rfl rfl fun bl=>?_
   (first | refine EVL.publish [] ow rfl fun G2 hG2 hb2=>?_ | refine EV.publish [] ow rfl fun G2 hG2 hb2=>?_)
   have hil:IL G2 (.slice (some ⟨bl,0,none⟩) 2 2) (knN 1).counts:=il_own (sp:=[]) hb2 rfl
   try refine RUN ?_
   refine EVL.lit tO rfl rfl rfl rfl rfl rfl rfl rfl rfl rfl rfl fun bn=>?_
   (first | refine EVL.publish [] ow rfl fun G3 hG3 hb3=>?_ | refine EV.publish [] ow rfl fun G3 hG3 hb3=>?_)
   have hnd:PNode G3 _ (knN 1):=⟨some ⟨bl,0,none⟩,2,hil.mono hG3,rfl⟩
   have htr:PTree G3 [.int .i64 1,.int .i64 2,.int .i64 1,.slice (some ⟨bn,0,none⟩) 1 1] 1 2 1 [knN 1]:=kn_tree hnd (by rw [hb3];exact congrArg some (congrArg List.toArray (by show _=_++(vlist (fracV 0)++(vlist (fracV 0)++(vlist (fracV 0)++_)));rw [frac_zero_cells];rfl)))
   try refine RUN ?_
   refine EVL.app1 tO rfl rfl rfl rfl rfl rfl rfl rfl rfl rfl rfl rfl rfl rfl rfl rfl rfl rfl rfl (fun _=>rfl) (ow) ([]) ((List.append_nil _).symm) (hown) oM fun _=>?_
   intro v' ow' hown'
   obtain ⟨va,vc,rfl⟩:=hown'.val
   try refine RUN ?_
   refine ⟨(1+1,_,ps++[_],ow'),⟨rfl,trivial⟩,sB,⟨rfl,trivial⟩,sB,List.append_nil _,⟨by dsimp only;omega,by dsimp only;exact rel_snoc (xs:=ps) (ys:=knTs.take 1) (hps.mono (hG2.trans hG3)) htr,by dsimp only;rw [List.flatten_append,flatS];exact hown'⟩,hG2.trans hG3,by dsimp only;omega⟩
  ·subst hi2
   try refine RUN ?_
   refine EVL.lit tO rfl rfl rfl rfl rfl rfl rfl rfl rfl rfl rfl fun bl=>?_
   (first | refine EVL.publish [] ow rfl fun G2 hG2 hb2=>?_ | refine EV.publish [] ow rfl fun G2 hG2 hb2=>?_)
   have hil:IL G2 (.slice (some ⟨bl,0,none⟩) 2 2) (knN 1).counts:=il_own (sp:=[]) hb2 rfl
   try refine RUN ?_
   refine EVL.lit tO rfl rfl rfl rfl rfl rfl rfl rfl rfl rfl rfl fun bn=>?_
   (first | refine EVL.publish [] ow rfl fun G3 hG3 hb3=>?_ | refine EV.publish [] ow rfl fun G3 hG3 hb3=>?_)
   have hnd:PNode G3 _ (knN 1):=⟨some ⟨bl,0,none⟩,2,hil.mono hG3,rfl⟩
   have htr:PTree G3 [.int .i64 1,.int .i64 2,.int .i64 1,.slice (some ⟨bn,0,none⟩) 1 1] 1 2 1 [knN 1]:=kn_tree hnd (by rw [hb3];exact congrArg some (congrArg List.toArray (by show _=_++(vlist (fracV 0)++(vlist (fracV 0)++(vlist (fracV 0)++_)));rw [frac_zero_cells];rfl)))
   try refine RUN ?_
   refine EVL.app1 tO rfl rfl rfl rfl rfl rfl rfl rfl rfl rfl rfl rfl rfl rfl rfl rfl rfl rfl rfl (fun _=>rfl) (ow) ([]) ((List.append_nil _).symm) (hown) oM fun _=>?_
   intro v' ow' hown'
   obtain ⟨va,vc,rfl⟩:=hown'.val
   try refine RUN ?_
   refine ⟨(2+1,_,ps++[_],ow'),⟨rfl,trivial⟩,sB,⟨rfl,trivial⟩,sB,List.append_nil _,⟨by dsimp only;omega,by dsimp only;exact rel_snoc (xs:=ps) (ys:=knTs.take 2) (hps.mono (hG2.trans hG3)) htr,by dsimp only;rw [List.flatten_append,flatS];exact hown'⟩,hG2.trans hG3,by dsimp only;omega⟩
 ·simp only [nN] at hlt
  obtain rfl:i=3:=by omega
  (first | refine EVL.publishL [] ow [] ((List.append_nil _).symm) hown fun G4 hG4 hs4=>?_ | refine EV.publishL [] ow [] ((List.append_nil _).symm) hown fun G4 hG4 hs4=>?_)
  have hT:PTL G4 (.slice wa knTs.length wc) knTs:=⟨ps,hps.mono hG4,hs4⟩
  have hO:ILL G4 (.slice (some ⟨b,0,none⟩) ([[],[],[]]:List (List Int)).length 3) [[],[],[]]:=(hout.mono hG1).mono hG4
  have hof:=of_pv 0 oM oM
  try refine RUN ?_
  apply EV.drawn 9 kR kR;intro xv yw
  (repeat (first | refine' DV ?_ | refine' DA ?_ | refine' DK0 ?_ | refine' DT ?_ | (refine' DC (hof) (h:=?_);rotate_left) | refine' DS ?_))
  (refine' DJ.litD1 (Φ:=fun v G=>QL G v [((0:Int):Rat)]) (fun _ _ _ h k=>QL.mono h k) tO rfl rfl rfl rfl rfl rfl rfl rfl rfl rfl rfl (fun G hd=>rfl) (fun G G' v hd hG h=>h) ?_;rotate_left)
  (refine' DJ.call rfl rfl rfl rfl rfl (cO func16) (fun G hG hd=>votes_pc (C:=2) (w:=1) (hT.mono hG) (hO.mono hG) knTs_ok kn_lists (by decide) oM knTs_check (hd.head kR) rfl kn_row) (fun v G G' ⟨ks,u,h1,e,h⟩ k=>⟨ks,u,h1,e,QL.mono h k⟩) ?_;rotate_left)
  refine' DJ.copy (3) (by first | exact .inl rfl | exact .inr rfl) rfl rfl rfl id rfl kR ?_;rotate_left
  refine' DJ.extract (3) rfl rfl rfl rfl rfl kR (fun G hd=>(by obtain ⟨ks,v,_,e,_⟩:=hd.head kR;exact ⟨_,e,Nat.zero_lt_succ _⟩)) ?_;rotate_left
  refine' DJ.extract (3) rfl rfl rfl rfl rfl kR (fun G hd=>(by obtain ⟨ks,v,_,e,_⟩:=hd.head kR;exact ⟨_,e,Nat.lt_succ_self _⟩)) ?_;rotate_left
  (refine' DJ.copy 3 (by first | exact .inl rfl | exact .inr rfl) rfl rfl rfl (tupAt 0) rfl kR ?_;rotate_left)
  (refine' DJ.copy 3 (by first | exact .inl rfl | exact .inr rfl) rfl rfl rfl (tupAt 1) rfl kR ?_;rotate_left)
  (refine DJ.nil (fun G5 hG5 hF5=>?_);(case hS|hS2=>rfl))
  obtain ⟨⟨ks,v6,hks,e,hql⟩,_⟩:=hF5
  rw [e]
  obtain rfl:=knTs_votes hks
  rw [show knTs.length=3 from rfl,kn_votesQ] at hql
  obtain ⟨ya,yc,rfl⟩:=SlC.val hql
  have hq0:((([mkRat 1 3,mkRat 2 3]:List Rat).flatMap fun q=>vlist (fracV q)).drop (0*5)).take 5=vlist (fracV (mkRat 1 3)):=QL.at (H:=H) (v:=.bool true) (j:=0) rfl
  have hq1:((([mkRat 1 3,mkRat 2 3]:List Rat).flatMap fun q=>vlist (fracV q)).drop (1*5)).take 5=vlist (fracV (mkRat 2 3)):=QL.at (H:=H) (v:=.bool true) (j:=1) rfl
  have hi1:=fun G:Hp=>is_pc (H:=G) (mkRat 1 3) (by show ht (mkRat 1 3)≤100000000;decide +kernel) 1 3 oM oM oM oM oM (by decide +kernel)
  have hi2:=fun G:Hp=>is_pc (H:=G) (mkRat 2 3) (by show ht (mkRat 2 3)≤100000000;decide +kernel) 2 3 oM oM oM oM oM (by decide +kernel)
  have hqS:SlC G5 (.slice ya 2 yc) 2 5 (([mkRat 1 3,mkRat 2 3]:List Rat).flatMap fun q=>vlist (fracV q)):=hql
  try refine RUN ?_
  refine EVL.idxM tO rfl rfl rfl rfl rfl rfl rfl rfl rfl (hqS) (0) (rfl) ((show (0:Nat)<2 from Nat.zero_lt_succ _)) (hq0) ?_
  repeat (first | refine RUN ?_ | refine CV (hi1 _) ?_ | refine CE (hi1 _) ?_)
  refine EVL.idxM tO rfl rfl rfl rfl rfl rfl rfl rfl rfl (hqS) (1) (rfl) ((show (1:Nat)<2 from Nat.lt_succ_self _)) (hq1) ?_
  repeat (first | refine RUN ?_ | refine CV (hi2 _) ?_ | refine CE (hi2 _) ?_)
  rfl
end Go.Proofs.YtgjepkeeeemppaaGreatDoor
namespace Go.Proofs.YtgjepkeeeemppaaGreatDoor
open Go.ChangeShapes Go.WideShapes Go.ChangeAt Go.RowKit
def hpOf (W:World):Hp:=fun b=>match W.heap[b]? with
 | some (.cells c _ _)=>some c
 | _=>none
theorem fits_hpOf (W:World):Fits (hpOf W) W:=fun b c h=>by
 unfold hpOf at h
 split at h
 ·rename_i c' T fz hb;cases h;exact ⟨T,fz,hb⟩
 ·cases h
section
variable {H:Type} {enc:TypeId × Value→H} {P:Program} {w:World} {base:Nat} {spare:Nat→Bool} {held:Bool}
theorem ints_open {t e:TypeId} {k:IntKind} {fuel:Nat} {cs:List Value} {x:DataW H × List MemPlace} (ht:P.underlying t=some (.slice e)) (he:P.underlying e=some (.int k)) (hc:P.cellsOf e=1) (h:DataW.trod enc P w base spare held fuel t cs=some x) :
  ∃ a len cap zs,cs=[.slice a len cap]∧SlN (fun z:Int=>Value.int k z) (hpOf w) (.slice a len cap) zs∧∀ n∈zs,(Lit.int k n).wf=true:=by
 rcases open_ints ht he hc h with ⟨rfl,_⟩ | ⟨x,len,cap,zs,rfl,_,hl,hm,hz,_,hcell,hw⟩
 ·exact ⟨none,0,0,[],rfl,nil_sl _ _,fun n hn=>by cases hn⟩
 ·have hzl:len≤zs.length:=by rw [hz];split <;> omega
  refine ⟨some x,len,cap,zs.take len,rfl,?_,fun n hn=>hw n (List.mem_of_mem_take hn)⟩
  have hlen:(zs.take len).length=len:=by rw [List.length_take];omega
  unfold SlN
  rw [hlen]
  refine ⟨by rw [List.length_map,hlen,Nat.mul_one],?_⟩
  by_cases h0:len=0
  ·subst h0;exact .inl ⟨rfl,some x,cap,rfl⟩
  ·right
   have h1:=hcell 0 oM
   obtain ⟨b,off,sp⟩:=x
   have hsp:sp=none:=by
    cases sp with
    | none=>rfl
    | some s=>simp only [World.cell?,Addr.add] at h1;split at h1 <;> simp_all
   subst hsp
   have hb:∃ c,hpOf w b=some c∧∀ i,i<zs.length→c[off+i]?=some (.int k (zs.getD i 0)):=by
    simp only [Addr.add_mid] at hcell
    unfold World.cell? at hcell
    unfold hpOf
    simp only at hcell
    cases hw':w.heap[b]? with
    | none=>have:=hcell 0 oM;rw [hw'] at this;cases this
    | some o =>
     cases o with
     | cells c T fz=>exact ⟨c,rfl,fun i hi=>by have:=hcell i hi;rw [hw'] at this;simpa using this⟩
     | _=>have:=hcell 0 oM;rw [hw'] at this;cases this
   obtain ⟨c,hc1,hc2⟩:=hb
   refine ⟨b,off,cap,c,rfl,hl,hc1,fun j y hj=>?_⟩
   rw [List.getElem?_map,List.getElem?_take] at hj
   split at hj
   ·rename_i hjl
    rw [hc2 j oM,← hj,List.getD_eq_getElem?_getD,List.getElem?_eq_getElem (by omega)];rfl
   ·cases hj
end
theorem i64_bounds {z:Int} (h:(Lit.int .i64 z).wf=true):-9223372036854775808≤z∧z<9223372036854775808:=by
 have:=bounds_i64 h;omega
end Go.Proofs.YtgjepkeeeemppaaGreatDoor
namespace Go.Proofs.YtgjepkeeeemppaaGreatDoor
open Go.ChangeShapes Go.WideShapes Go.ChangeAt Go.RowKit
def Raw20 (H:Hp) (v:Value):Prop:=∃ kd n w dp ls tr sm seed vg vl lg ll,v=rawV kd n w dp ls tr sm seed vg vl∧(i64B n∧i64B w∧i64B dp∧i64B ls∧i64B tr∧i64B sm)∧0≤seed∧IL H vg lg∧(∀ z,z∈lg→i64B z)∧IL H vl ll∧∀ z,z∈ll→i64B z
theorem Raw20.mono {H G:Hp} {v:Value} (h:Raw20 H v) (k:H.Le G):Raw20 G v:=by
 obtain ⟨kd,n,w,dp,ls,tr,sm,seed,vg,vl,lg,ll,e,h1,h2,h3,h4,h5,h6⟩:=h
 exact ⟨kd,n,w,dp,ls,tr,sm,seed,vg,vl,lg,ll,e,h1,h2,SlC.mono h3 k,h4,SlC.mono h5 k,h6⟩
theorem ten_of {α:Type}:∀ {l:List α},l.length=10→∃ a b c d e f g h i j,l=[a,b,c,d,e,f,g,h,i,j]
 | [a,b,c,d,e,f,g,h,i,j],_=>⟨a,b,c,d,e,f,g,h,i,j,rfl⟩
theorem raw20_open {H:Type} {enc:TypeId × Value→H} {w:World} {base:Nat} {spare:Nat→Bool} {held:Bool} {v:Value} {d:DataW H} {p:List MemPlace} (hv:∃ cs,v=.agg cs) (h:DataW.Trod enc Tryz.prog w base spare held 25 v d p):Raw20 (hpOf w) v:=by
 obtain ⟨cs,rfl⟩:=hv
 obtain ⟨fuel,h⟩:=h
 obtain ⟨xs,n,_,hx,hl,hlen,hf⟩:=DataW.trod_struct Tryz.underlying25 h
 rw [show Tryz.prog.cellsOf 25=10 from by kernel_rfl] at hl
 have hl4:cs.toList.length=10:=hl
 obtain ⟨l,rfl⟩:∃ l:List Value,cs=l.toArray:=⟨cs.toList,by simp⟩
 have hl4':l.length=10:=by simpa using hl4
 obtain ⟨c0,c1,c2,c3,c4,c5,c6,c7,c8,c9,rfl⟩:=ten_of hl4'
 have hx4:xs.length=10:=hlen
 have f0:DataW.trod enc Tryz.prog w base spare held n 3 (([c0,c1,c2,c3,c4,c5,c6,c7,c8,c9].drop 0).take (Tryz.prog.cellsOf 3))=xs[0]?:=hf 0 _ rfl
 have f1:DataW.trod enc Tryz.prog w base spare held n 3 (([c0,c1,c2,c3,c4,c5,c6,c7,c8,c9].drop 1).take (Tryz.prog.cellsOf 3))=xs[1]?:=hf 1 _ rfl
 have f2:DataW.trod enc Tryz.prog w base spare held n 3 (([c0,c1,c2,c3,c4,c5,c6,c7,c8,c9].drop 2).take (Tryz.prog.cellsOf 3))=xs[2]?:=hf 2 _ rfl
 have f3:DataW.trod enc Tryz.prog w base spare held n 3 (([c0,c1,c2,c3,c4,c5,c6,c7,c8,c9].drop 3).take (Tryz.prog.cellsOf 3))=xs[3]?:=hf 3 _ rfl
 have f4:DataW.trod enc Tryz.prog w base spare held n 3 (([c0,c1,c2,c3,c4,c5,c6,c7,c8,c9].drop 4).take (Tryz.prog.cellsOf 3))=xs[4]?:=hf 4 _ rfl
 have f5:DataW.trod enc Tryz.prog w base spare held n 3 (([c0,c1,c2,c3,c4,c5,c6,c7,c8,c9].drop 5).take (Tryz.prog.cellsOf 3))=xs[5]?:=hf 5 _ rfl
 have f6:DataW.trod enc Tryz.prog w base spare held n 3 (([c0,c1,c2,c3,c4,c5,c6,c7,c8,c9].drop 6).take (Tryz.prog.cellsOf 3))=xs[6]?:=hf 6 _ rfl
 have f7:DataW.trod enc Tryz.prog w base spare held n 22 (([c0,c1,c2,c3,c4,c5,c6,c7,c8,c9].drop 7).take (Tryz.prog.cellsOf 22))=xs[7]?:=hf 7 _ rfl
 have f8:DataW.trod enc Tryz.prog w base spare held n 23 (([c0,c1,c2,c3,c4,c5,c6,c7,c8,c9].drop 8).take (Tryz.prog.cellsOf 23))=xs[8]?:=hf 8 _ rfl
 have f9:DataW.trod enc Tryz.prog w base spare held n 23 (([c0,c1,c2,c3,c4,c5,c6,c7,c8,c9].drop 9).take (Tryz.prog.cellsOf 23))=xs[9]?:=hf 9 _ rfl
 rw [show Tryz.prog.cellsOf 3=1 from by kernel_rfl] at f0 f1 f2 f3 f4 f5 f6
 rw [show Tryz.prog.cellsOf 22=1 from by kernel_rfl] at f7
 rw [show Tryz.prog.cellsOf 23=1 from by kernel_rfl] at f8 f9
 rw [List.getElem?_eq_getElem (by omega)] at f0 f1 f2 f3 f4 f5 f6 f7 f8 f9
 obtain ⟨z0,e0,_,w0⟩:=DataW.trod_int Tryz.underlying3 f0
 obtain ⟨z1,e1,_,w1⟩:=DataW.trod_int Tryz.underlying3 f1
 obtain ⟨z2,e2,_,w2⟩:=DataW.trod_int Tryz.underlying3 f2
 obtain ⟨z3,e3,_,w3⟩:=DataW.trod_int Tryz.underlying3 f3
 obtain ⟨z4,e4,_,w4⟩:=DataW.trod_int Tryz.underlying3 f4
 obtain ⟨z5,e5,_,w5⟩:=DataW.trod_int Tryz.underlying3 f5
 obtain ⟨z6,e6,_,w6⟩:=DataW.trod_int Tryz.underlying3 f6
 obtain ⟨z7,e7,_,w7⟩:=DataW.trod_int Tryz.underlying22 f7
 obtain ⟨a8,l8,k8,b8,e8,s8,d8⟩:=ints_open Tryz.underlying23 Tryz.underlying3 kR f8
 obtain ⟨a9,l9,k9,b9,e9,s9,d9⟩:=ints_open Tryz.underlying23 Tryz.underlying3 kR f9
 have g0:[c0]=[.int .i64 z0]:=e0
 have g1:[c1]=[.int .i64 z1]:=e1
 have g2:[c2]=[.int .i64 z2]:=e2
 have g3:[c3]=[.int .i64 z3]:=e3
 have g4:[c4]=[.int .i64 z4]:=e4
 have g5:[c5]=[.int .i64 z5]:=e5
 have g6:[c6]=[.int .i64 z6]:=e6
 have g7:[c7]=[.int .u64 z7]:=e7
 have g8:[c8]=[.slice a8 l8 k8]:=e8
 have g9:[c9]=[.slice a9 l9 k9]:=e9
 cases g0;cases g1;cases g2;cases g3;cases g4;cases g5;cases g6;cases g7;cases g8;cases g9
 have hs:=bounds_u64 w7
 exact ⟨z0,z1,z2,z3,z4,z5,z6,z7,_,_,b8,b9,rfl,⟨i64_bounds w1,i64_bounds w2,i64_bounds w3,i64_bounds w4,i64_bounds w5,i64_bounds w6⟩,by omega,s8,fun z hz=>i64_bounds (d8 z hz),s9,fun z hz=>i64_bounds (d9 z hz)⟩
end Go.Proofs.YtgjepkeeeemppaaGreatDoor
namespace Go.Proofs.YtgjepkeeeemppaaGreatDoor
open Go.RowKit _root_.Go.Proofs.Tryz
structure Turned (ts:List Tr) (os:List (List Int)):Prop where
 trees:∀ t,t∈ts→TreeOk t
 lists:∀ l,l∈os→l.length≤1000000
 small:ts.length≤4∧os.length≤4
theorem Turned.smallF {ts:List Tr} {os:List (List Int)} (h:Turned ts os):SmallF ts os:=by
 obtain ⟨h1,h2,h3,h4⟩:=h
 refine ⟨⟨by omega,fun t ht=>?_⟩,by omega,h2⟩
 have hok:=h1 t ht
 refine ⟨hok.copies.2.1,fun n hn=>?_⟩
 obtain ⟨i,hi⟩:=List.mem_iff_getElem?.1 hn
 obtain ⟨n',e,hN,_⟩:=hok.nodes i (List.getElem?_eq_some_iff.1 hi).1
 cases hi.symm.trans e
 exact hN.smallN (by rcases hok.kind with ⟨_,_,h⟩ | ⟨_,h⟩ <;> omega)
section
variable {P:Program} {n:Nat} {ops:Array Oper} {o:Oper} {rest:List Oper} {env:Env} {bx:Bxs} {H:Hs} {Q:EQ} {τ:Tab} {d:Nat}
end
theorem one20N_pc {H:Hp} {v:Value} (h:Raw20 H v):PC prog 5 #[v] H fun r G=>∃ (kd cl least seed:Int) (ga va a1 a2:Option Addr) (gn gc vn vc N W D sm nt l1 c1 l2 c2:Nat) (vx:Value) (b1:Bool) (lg ll:List Int),
  r=.tuple #[goalV kd cl (.slice ga gn gc) (.slice va vn vc),vx,woodV nt sm seed (D:Int) least (.bool b1) (.slice a1 l1 c1) (.slice a2 l2 c2)] ∧
  GoalR G (goalV kd cl (.slice ga gn gc) (.slice va vn vc)) N (rowQ lg N)∧RLL G vx (rowsQ ll N W)∧RQ G (.agg #[.bool b1,.slice a1 l1 c1,.slice a2 l2 c2]) 0 ∧
  (1≤N∧N≤8)∧(1≤W∧W≤3)∧D≤2∧(1≤sm∧sm≤W)∧(1≤nt∧nt≤4)∧(1≤least∧least≤3)∧0≤seed:=by
 obtain ⟨kd,n,w,dp,ls,tr,sm,seed,vg,vl,lg,ll,rfl,⟨hn,hw,hdp,hls,htr,hsm⟩,hsd,hg,hgb,hl,hlb⟩:=h
 obtain ⟨N,hN⟩:∃ N:Nat,1+n % 8=(N:Int):=⟨(1+n % 8).toNat,by omega⟩
 obtain ⟨W,hW⟩:∃ W:Nat,1+w % 3=(W:Int):=⟨(1+w % 3).toNat,by omega⟩
 obtain ⟨D,hD⟩:∃ D:Nat,dp % 3=(D:Int):=⟨(dp % 3).toNat,by omega⟩
 obtain ⟨NT,hNT⟩:∃ D:Nat,1+tr % 4=(D:Int):=⟨(1+tr % 4).toNat,by omega⟩
 have h1:=Int.emod_nonneg sm (show (W:Int)≠0 by omega)
 have h2:=Int.emod_lt_of_pos sm (show 0<(W:Int) by omega)
 obtain ⟨SM,hSM⟩:∃ D:Nat,1+sm % (W:Int)=(D:Int):=⟨(1+sm % (W:Int)).toNat,by omega⟩
 refine (one20_pc kd n w dp ls tr sm seed hn hw hdp hls htr hsm hg hgb hl hlb hN hW).mono ?_
 rintro r G ⟨kd',cl,ga,gn,gc,va,vn,vc,vx,b1,a1,l1,c1,a2,l2,c2,rfl,r1,r2,r3⟩ hG
 rw [hNT,hSM,hD]
 exact ⟨kd',cl,1+ls % 3,seed,ga,va,a1,a2,gn,gc,vn,vc,N,W,D,SM,NT,l1,c1,l2,c2,vx,b1,lg,ll,rfl,r1,r2,r3,by omega,by omega,by omega,by omega,by omega,by omega,hsd⟩
end Go.Proofs.YtgjepkeeeemppaaGreatDoor
namespace Go.Proofs.YtgjepkeeeemppaaGreatDoor
instance:Nonempty Nd:=⟨⟨0,0,0,0,0,0,0,0,[]⟩⟩
noncomputable def leafN (x:List Rat) (t:Tr):Nd:=Classical.epsilon fun n=>∃ i,Leaf t.ns x 0 i∧t.ns[i]?=some n
theorem leafN_eq {x:List Rat} {t:Tr} {i:Nat} {n:Nd} (h1:Leaf t.ns x 0 i) (h2:t.ns[i]?=some n):leafN x t=n:=by
 have h:∃ n,∃ i,Leaf t.ns x 0 i∧t.ns[i]?=some n:=⟨n,i,h1,h2⟩
 obtain ⟨j,h3,h4⟩:=Classical.epsilon_spec h
 have e:=h1.det h3
 subst e
 have h5:some (leafN x t)=some n:=h4.symm.trans h2
 exact Option.some.inj h5
noncomputable def kL (x:List Rat) (ts:List Tr):List Int:=ts.map fun t=>(leafN x t).cls
noncomputable def vL (x:List Rat) (ts:List Tr):List Rat:=ts.map fun t=>(leafN x t).value
theorem CLs.eq {x:List Rat} {ks:List Int} {ts:List Tr} (h:CLs x ks ts):ks=kL x ts:=by
 refine List.ext_getElem (by unfold kL;rw [List.length_map];exact h.1) fun j h1 h2=>?_
 have ht:j<ts.length:=by rw [← h.1];exact h1
 obtain ⟨i,n,hl,hn,e⟩:=h.2 j _ _ (List.getElem?_eq_getElem h1) (List.getElem?_eq_getElem ht)
 show ks[j]=(ts.map fun t=>(leafN x t).cls)[j]'(by rw [List.length_map];exact ht)
 rw [List.getElem_map,leafN_eq hl hn,e]
theorem VLs.eq {x:List Rat} {qs:List Rat} {ts:List Tr} (h:VLs x qs ts):qs=vL x ts:=by
 refine List.ext_getElem (by unfold vL;rw [List.length_map];exact h.1) fun j h1 h2=>?_
 have ht:j<ts.length:=by rw [← h.1];exact h1
 obtain ⟨i,n,hl,hn,e⟩:=h.2 j _ _ (List.getElem?_eq_getElem h1) (List.getElem?_eq_getElem ht)
 show qs[j]=(ts.map fun t=>(leafN x t).value)[j]'(by rw [List.length_map];exact ht)
 rw [List.getElem_map,leafN_eq hl hn,e]
theorem Sub.leafs {T:List Nd} {w:Int} {k h e:Nat} (h0:Sub T w k h e) (x:List Rat):∃ (j:Nat) (n:Nd),Leaf T x k j∧T[j]?=some n:=by
 induction h0 with
 | @leaf k h n a b _ _ _=>exact ⟨k,n,.here a b,a⟩
 | @node k h m e n a b c d f s1 s2 ih1 ih2 =>
  by_cases hle:x.getD n.col.toNat 0≤n.at'
  ·obtain ⟨j,q,h1,h2⟩:=ih1
   refine ⟨j,q,.low a oM hle ?_,h2⟩
   rw [d];exact h1
  ·obtain ⟨j,q,h1,h2⟩:=ih2
   refine ⟨j,q,.high a oM hle ?_,h2⟩
   rw [f];exact h1
theorem leaf_ex {t:Tr} (h:TreeOk t) (x:List Rat):∃ i:Nat,Leaf t.ns x 0 i∧i<t.ns.length∧t.ns[i]?=some (leafN x t)∧OkN t.kd t.cl (leafN x t):=by
 obtain ⟨_,_,_,⟨hh,_,hsub⟩,hall⟩:=h
 obtain ⟨i,n,h1,h2⟩:=hsub.leafs x
 have hi:=(List.getElem?_eq_some_iff.1 h2).1
 rw [leafN_eq h1 h2]
 obtain ⟨n',e,hN,_⟩:=hall i hi
 rw [h2] at e
 cases e
 exact ⟨i,h1,hi,h2,hN⟩
def seenT (L:List (Tr × List Int)) (r:Int):List Tr:=(L.filter fun p=>p.2.contains r).map Prod.fst
theorem seenT_snoc (L:List (Tr × List Int)) (p:Tr × List Int) (r:Int):seenT (L++[p]) r=seenT L r++(if p.2.contains r then [p.1] else []):=by
 unfold seenT
 rw [List.filter_append,List.map_append]
 have e:[p].filter (fun p=>p.2.contains r)=if p.2.contains r then [p] else []:=by
  rw [List.filter_cons];rfl
 rw [e]
 cases p.2.contains r <;> rfl
theorem seenT_mem {L:List (Tr × List Int)} {r:Int} {t:Tr} (h:t∈seenT L r):∃ l,(t,l)∈L:=by
 obtain ⟨⟨t',l⟩,h1,rfl⟩:=List.mem_map.1 h
 exact ⟨l,(List.mem_filter.1 h1).1⟩
theorem seenT_len (L:List (Tr × List Int)) (r:Int):(seenT L r).length≤L.length:=by
 unfold seenT;rw [List.length_map];exact List.length_filter_le _ _
def allM (f:Nat→List Rat) (n:Nat):List Rat:=(List.range n).flatMap f
theorem allM_succ (f:Nat→List Rat) (n:Nat):allM f (n+1)=allM f n++f n:=by
 unfold allM;rw [List.range_succ,List.flatMap_append,List.flatMap_singleton]
theorem allM_len {f:Nat→List Rat} (h:∀ i,(f i).length≤1):∀ n,(allM f n).length≤n
 | 0=>Nat.le_refl _
 | n+1=>by rw [allM_succ,List.length_append];have:=allM_len h n;have:=h n;omega
theorem okL_up {l:List Int} (h:okL l=true):l.Pairwise (·<·):=by
 have step:∀ (k:Nat) (h1:k+1<l.length),l[k]<l[k+1]:=fun k h1=>by
  have h2:=List.all_eq_true.1 h (k+1) (List.mem_range.2 h1)
  unfold okAt at h2
  rw [List.getD_eq_getElem?_getD,List.getElem?_eq_getElem h1,List.getD_eq_getElem?_getD,Nat.add_sub_cancel,List.getElem?_eq_getElem (show k<l.length by omega)] at h2
  simp only [Option.getD_some,Bool.and_eq_true,decide_eq_true_eq,Bool.or_eq_true,beq_iff_eq] at h2
  rcases h2.2.2 with h3 | h3
  ·omega
  ·exact h3
 rw [List.pairwise_iff_getElem]
 intro i j hi hj hij
 obtain ⟨d,rfl⟩:∃ d,j=i+1+d:=⟨j-i-1,by omega⟩
 clear hij
 induction d with
 | zero=>exact step i hj
 | succ d ih=>exact Int.lt_trans (ih oM) (step (i+1+d) hj)
theorem up_mem {l:List Int} (h:l.Pairwise (·<·)) {q:Nat} {z:Int} (hq:l[q]?=some z):(l.take q).contains z=false∧(l.take (q+1)).contains z=true:=by
 have hql:=(List.getElem?_eq_some_iff.1 hq).1
 have hqe:=(List.getElem?_eq_some_iff.1 hq).2
 refine ⟨?_,?_⟩
 ·rw [← Bool.not_eq_true,List.contains_iff_mem]
  intro hm
  obtain ⟨j,hj,e⟩:=List.getElem_of_mem hm
  rw [List.length_take] at hj
  rw [List.getElem_take] at e
  have:=List.pairwise_iff_getElem.1 h j q oM hql oM
  omega
 ·rw [List.contains_iff_mem,take_snoc hq]
  exact List.mem_append.2 (.inr (List.mem_singleton.2 rfl))
theorem take_contains {l:List Int} {q:Nat} {y z:Int} (hq:l[q]?=some y) (hn:y≠z):(l.take (q+1)).contains z=(l.take q).contains z:=by
 rw [take_snoc hq,Bool.eq_iff_iff,List.contains_iff_mem,List.contains_iff_mem,List.mem_append,List.mem_singleton]
 exact ⟨fun h=>h.elim id fun e=>absurd e.symm hn,.inl⟩
theorem zip_at {α β:Type} {xs:List α} {ys:List β} {i:Nat} {x:α} {y:β} (h1:xs[i]?=some x) (h2:ys[i]?=some y):(xs.zip ys)[i]?=some (x,y):=by
 rw [List.getElem?_zip_eq_some];exact ⟨h1,h2⟩
def missOf (kd cl w kd' cl' w':Int) (M:List Rat):Rat × Int:=if kd'=kd∧cl'=cl then (if w'=w then (if M.length=0 then (0,7) else (meanL M,0)) else (0,5)) else (0,10)
end Go.Proofs.YtgjepkeeeemppaaGreatDoor
namespace Go.Proofs.YtgjepkeeeemppaaGreatDoor
open Go.RowKit _root_.Go.Proofs.Tryz
theorem RL.slc {H:Hp} {v:Value} {l:List Rat} (h:RL H v l) {j:Nat} {q:Rat} (hj:l[j]?=some q):∃ (cs:List Value) (b:Bool) (a1:Option Addr) (l1 c1:Nat) (a2:Option Addr) (l2 c2:Nat),SlC H v l.length 3 cs∧(cs.drop (j*3)).take 3=[.bool b,.slice a1 l1 c1,.slice a2 l2 c2]∧RQ H (.agg #[.bool b,.slice a1 l1 c1,.slice a2 l2 c2]) q:=by
 obtain ⟨vs,x,h1,h2,h3⟩:=h.at hj
 obtain ⟨a1,l1,c1,a2,l2,c2,rfl,_⟩:=id h3
 exact ⟨_,_,a1,l1,c1,a2,l2,c2,h1,h2,h3⟩
set_option maxRecDepth 100000 in
set_option maxHeartbeats 16000000 in
theorem rway_pc {H:Hp} {cs:List Value} {vx:Value} {kd cl w:Int} {ns:List Nd} {x:List Rat} (ht:RTree H cs kd cl w ns) (hok:TreeOk ⟨kd,cl,w,ns⟩) (hx:RL H vx x) (hxl:(x.length:Int)=w) (hxs:∀ q,q∈x→rq q) :
  PC prog 145 #[.agg cs.toArray,vx] H fun r G=>∃ (l:List Int) (i:Nat) (n:Nd),IL G r (l++[(i:Int)])∧l.length<ns.length∧Leaf ns x 0 i∧ns[i]?=some n∧OkN kd cl n:=by
 obtain ⟨a,cp,css,rfl,hns,hsl⟩:=ht
 obtain ⟨hkd,hw,hln,⟨hh,hh10,hsub⟩,hall⟩:=hok
 dsimp only at hkd hw hln hsub hall
 have hpos:=hsub.end0
 obtain ⟨xa,xc,rfl⟩:=hx.val
 refine BD func145 ntmps145 ?_
 try refine RUN ?_
 refine EVL.lit tO rfl rfl rfl rfl rfl rfl rfl rfl rfl rfl rfl fun bl=>?_
 try refine RUN ?_
 refine EV.loopK (ι:=Nat × List Int × Value × Ows) [1,2] [2] (fun q=>[(5,.v q.2.2.1),(6,.v (.int .i64 (q.1:Int)))]) (fun _=>[]) (fun q=>q.2.2.2) (fun q G=>q.1<ns.length∧q.2.1.length≤q.1∧(∀ j,Leaf ns x q.1 j→Leaf ns x 0 j)∧OwnL 3 1 q.2.2.1 (q.2.1.length+1) (q.2.1.map iv++[iv q.1]) q.2.2.2) (fun q=>ns.length-q.1) ((0,[],_,_)) rfl rfl ⟨rfl,rfl,trivial⟩ trivial rfl (fun _=>rfl) (⟨hpos,Nat.le_refl _,fun j h=>h,OwnL.full rfl oM⟩) ?_
 rintro ⟨i,l,vw,ow⟩ G1 hG1 ⟨hi,hll,hlf,hown⟩
 dsimp only at hi hll hlf hown
 obtain ⟨wa,wc,rfl⟩:=hown.val
 obtain ⟨n,hn,hN,_⟩:=hall i hi
 obtain ⟨c,hcut,hnd⟩:=(hns.mono hG1).get hn
 obtain ⟨b1,a1,l1,c1,a2,l2,c2,b3,a3,l3,c3,a4,l4,c4,b5,a5,l5,c5,a6,l6,c6,a7,c7,rfl,hqa,_,_,_⟩:=hnd.cells
 obtain ⟨h',e',hsi⟩:=hsub.at i (Nat.zero_le _) hi
 have hle:=hsi.lt
 try refine RUN ?_
 refine EVL.idxM tO rfl rfl rfl rfl rfl rfl rfl rfl rfl ((hsl.mono hG1)) (i) (rfl) (hi) (hcut) ?_
 try refine RUN ?_
 cases hsi with
 | leaf q1 q2 q3 q4 q5 =>
  rw [hn] at q1
  cases q1
  rw [decide_eq_false (show ¬ n.col≥0 by omega)]
  have hil:=hown.il
  (first | refine EVL.publishL [] ow [] ((List.append_nil _).symm) hil fun G2 hG2 hs2=>?_ | refine EV.publishL [] ow [] ((List.append_nil _).symm) hil fun G2 hG2 hs2=>?_)
  try refine RUN ?_
  exact ⟨l,i,n,hs2,by omega,hlf i (.here hn q2),hn,hN⟩
 | @node _ h1 m _ _ q1 q2 q3 q4 q5 s1 s2 =>
  rw [hn] at q1
  cases q1
  have hm1:=s1.lt
  have hm2:=s2.lt
  have hcl:n.col.toNat<x.length:=by omega
  obtain ⟨y,hy⟩:∃ y,x[n.col.toNat]?=some y:=⟨_,List.getElem?_eq_getElem hcl⟩
  have hyg:x.getD n.col.toNat 0=y:=by rw [List.getD_eq_getElem?_getD,hy];rfl
  obtain ⟨xcs,xb,ya1,yl1,yc1,ya2,yl2,yc2,hxS,hxcut,hxq⟩:=hx.slc hy
  rw [decide_eq_true (show n.col≥0 by omega)]
  try refine RUN ?_
  refine EVL.idxM tO rfl rfl rfl rfl rfl rfl rfl rfl rfl ((hsl.mono hG1)) (i) (rfl) (hi) (hcut) ?_
  try refine RUN ?_
  apply EV.drawn 9 kR kR;intro xv yw
  (repeat (first | refine' DV ?_ | refine' DA ?_ | refine' DK0 ?_ | refine' DT ?_ | refine' DS ?_))
  refine' DJ.idxM tO rfl rfl rfl rfl rfl rfl rfl rfl rfl ((hxS.mono hG1)) (n.col.toNat) ((by rw [Int.toNat_of_nonneg q2])) (hcl) (hxcut) ?_;rotate_left
  (repeat (first | refine' DV ?_ | refine' DA ?_ | refine' DK0 ?_ | refine' DT ?_ | refine' DS ?_))
  refine' DJ.callS rfl rfl rfl rfl rfl (cO func124) (fun G hG hd=>refCmp_pc ((hxq.mono hG1).mono hG) (hqa.mono hG) (hxs y (List.mem_of_getElem? hy)) (by have:=hN.small.1;unfold rq;omega)) ?_;rotate_left
  (repeat (first | refine' DV ?_ | refine' DA ?_ | refine' DK0 ?_ | refine' DT ?_ | refine' DS ?_))
  (refine DJ.nil (fun G2 hG2 hF2=>?_);(case hS|hS2=>rfl))
  by_cases hle2:y≤n.at'
  ·rw [decide_eq_true (ordR_le hle2)]
   try refine RUN ?_
   refine EVL.app1 tO rfl rfl rfl rfl rfl rfl rfl rfl rfl rfl rfl rfl rfl rfl rfl rfl rfl rfl rfl (fun _=>rfl) (ow) ([]) ((List.append_nil _).symm) (hown) oM fun _=>?_
   intro v' ow' hown'
   obtain ⟨va,vc,rfl⟩:=hown'.val
   try refine RUN ?_
   refine ⟨(n.left.toNat,l++[(i:Int)],_,ow'),⟨rfl,by dsimp only;rw [Int.toNat_of_nonneg (by omega)];rfl,trivial⟩,sB,trivial,sB,List.append_nil _,⟨by dsimp only;omega,by dsimp only;rw [List.length_append,List.length_singleton];omega,fun j h=>hlf j (.low hn oM (by rw [hyg];exact hle2) h),by dsimp only;rw [List.length_append,List.map_append,Int.toNat_of_nonneg (by omega)];exact hown'⟩,hG2,by dsimp only;omega⟩
  ·rw [decide_eq_false (show ¬ ordR y n.at'≤0 from fun k=>hle2 (Rat.not_lt.1 fun k2=>by have:=(ordR_pos y n.at').2 k2;omega))]
   try refine RUN ?_
   refine EVL.app1 tO rfl rfl rfl rfl rfl rfl rfl rfl rfl rfl rfl rfl rfl rfl rfl rfl rfl rfl rfl (fun _=>rfl) (ow) ([]) ((List.append_nil _).symm) (hown) oM fun _=>?_
   intro v' ow' hown'
   obtain ⟨va,vc,rfl⟩:=hown'.val
   try refine RUN ?_
   refine ⟨(n.right.toNat,l++[(i:Int)],_,ow'),⟨rfl,by dsimp only;rw [Int.toNat_of_nonneg (by omega)];rfl,trivial⟩,sB,trivial,sB,List.append_nil _,⟨by dsimp only;omega,by dsimp only;rw [List.length_append,List.length_singleton];omega,fun j h=>hlf j (.high hn oM (by rw [hyg];exact hle2) h),by dsimp only;rw [List.length_append,List.map_append,Int.toNat_of_nonneg (by omega)];exact hown'⟩,hG2,by dsimp only;omega⟩
set_option maxHeartbeats 4000000 in
theorem rleaf_pc {H:Hp} {cs:List Value} {vx:Value} {kd cl w:Int} {ns:List Nd} {x:List Rat} (ht:RTree H cs kd cl w ns) (hok:TreeOk ⟨kd,cl,w,ns⟩) (hx:RL H vx x) (hxl:(x.length:Int)=w) (hxs:∀ q,q∈x→rq q) :
  PC prog 107 #[.agg cs.toArray,vx] H fun r G=>∃ (i:Nat) (n:Nd),r=.int .i64 (i:Int)∧Leaf ns x 0 i∧ns[i]?=some n∧OkN kd cl n:=by
 have hway:=rway_pc ht hok hx hxl hxs
 have hln:=hok.len
 dsimp only at hln
 obtain ⟨a,cp,css,rfl,hns,hsl⟩:=ht
 obtain ⟨xa,xc,rfl⟩:=hx.val
 refine BD func107 ntmps107 ?_
 try refine RUN ?_
 refine EVL.call rfl rfl rfl rfl rfl (hway) ?_
 rintro r G ⟨l,i,n,hil,hll,hL,hn,hN⟩ hG
 obtain ⟨la,lc,rfl⟩:=SlC.val hil
 have hw:IntKind.i64.wrap (((l++[(i:Int)]).length:Int)-1)=((l.length:Nat):Int):=by
  rw [List.length_append,List.length_singleton,IntKind.wrap_i64];omega
 try refine RUN ?_
 rw [hw]
 refine EVL.idxR tO rfl rfl rfl rfl rfl rfl rfl rfl rfl rfl (hil) (l.length) (rfl) ((by rw [List.length_append,List.length_singleton];omega)) ((by rw [List.getElem?_map,List.getElem?_append_right (Nat.le_refl _),Nat.sub_self];rfl)) ?_
 try refine RUN ?_
 exact ⟨i,n,rfl,hL,hn,hN⟩
theorem isNaNs_pv (z:Int):PV prog 94 #[.int .i64 z] (.bool false):=by
 refine PV.of_pc ?_
 refine BD func94 ntmps94 ?_
 try refine RUN ?_
 rw [bne_self_eq_false]
theorem isNaNc_pv (z:Int):PV prog 134 #[.int .i64 z] (.bool false):=by
 refine PV.of_pc ?_
 refine BD func134 ntmps134 ?_
 try refine RUN ?_
 rw [bne_self_eq_false]
theorem cmpLess_pv (z y:Int):PV prog 93 #[.int .i64 z,.int .i64 y] (.bool (decide (z<y))):=by
 have h1:=isNaNc_pv z
 have h2:=isNaNc_pv y
 refine PV.of_pc ?_
 refine BD func93 ntmps93 ?_
 repeat (first | refine RUN ?_ | refine CV (h1) ?_ | refine CV (h2) ?_ | refine CE (h1) ?_ | refine CE (h2) ?_)
 rfl
set_option maxHeartbeats 8000000 in
theorem bsearch_pc {H:Hp} {v:Value} {l:List Int} (h:IL H v l) (hs:l.Pairwise (·<·)) (hl:l.length≤1000000) (z:Int):PC prog 54 #[v,.int .i64 z] H fun r _=>∃ p:Int,r=.tuple #[.int .i64 p,.bool (l.contains z)]:=by
 obtain ⟨a,c,rfl⟩:=SlC.val h
 refine BD func54 ntmps54 ?_
 try refine RUN ?_
 refine EV.loopK (ι:=Nat × Nat) [0,1,6] [] (fun q=>[(7,.v (.int .i64 (q.1:Int))),(8,.v (.int .i64 (q.2:Int)))]) (fun _=>[]) (fun _=>[]) (fun q _=>q.1≤q.2∧q.2≤l.length∧(∀ (j:Nat) (y:Int),j<q.1→l[j]?=some y→y<z)∧(∀ (j:Nat) (y:Int),q.2≤j→l[j]?=some y→z≤y)) (fun q=>q.2-q.1) ((0,l.length)) rfl rfl ⟨rfl,rfl,trivial⟩ trivial rfl (fun _=>rfl) (⟨Nat.zero_le _,Nat.le_refl _,fun j y hj=>absurd hj (Nat.not_lt_zero _),fun j y hj e=>by rw [List.getElem?_eq_none hj] at e;cases e⟩) ?_
 rintro ⟨i,j⟩ G1 hG1 ⟨hij,hjl,hlo,hhi⟩
 dsimp only at hij hjl hlo hhi
 try refine RUN ?_
 refine EV.cond rfl (fun hlt=>?_) (fun hlt=>?_)
 ·simp only [nN] at hlt
  obtain ⟨m,hm⟩:∃ m:Nat,m=(i+j) / 2:=⟨_,rfl⟩
  have hml:m<l.length:=by omega
  obtain ⟨y,hy⟩:∃ y,l[m]?=some y:=⟨_,List.getElem?_eq_getElem hml⟩
  have hw1:IntKind.i64.wrap ((i:Int)+(j:Int))=((i+j:Nat):Int):=by rw [IntKind.wrap_i64];omega
  have hw2:IntKind.u64.wrap ((i+j:Nat):Int)=((i+j:Nat):Int):=by rw [IntKind.wrap_u64];omega
  have hcl:=cmpLess_pv y z
  have hw3:IntKind.i64.wrap ((IntKind.u64.wrap ((i+j:Nat):Int)).fdiv (2 ^ min 1 IntKind.u64.bits))=(m:Int):=by
   rw [hw2,show (2:Int) ^ min 1 IntKind.u64.bits=2 from rfl,Int.fdiv_eq_ediv_of_nonneg _ oM,IntKind.wrap_i64];omega
  try refine RUN ?_
  rw [hw1]
  try refine RUN ?_
  rw [hw3]
  refine EVL.idxR tO rfl rfl rfl rfl rfl rfl rfl rfl rfl rfl ((h.mono hG1)) (m) (rfl) (hml) ((by rw [List.getElem?_map,hy];rfl)) ?_
  repeat (first | refine RUN ?_ | refine CV (hcl) ?_ | refine CE (hcl) ?_)
  by_cases hyz:y<z
  ·rw [decide_eq_true hyz]
   try refine RUN ?_
   refine ⟨(m+1,j),⟨by dsimp only;rw [wi_inc m (by omega)];rfl,rfl,trivial⟩,sB,trivial,sB,rfl,⟨by dsimp only;omega,hjl,fun q x hq e=>?_,hhi⟩,Hp.Le.refl _,by dsimp only;omega⟩
   dsimp only at hq
   rcases Nat.lt_or_ge q m with k | k
   ·obtain ⟨h1a,h1b⟩:=List.getElem?_eq_some_iff.1 e
    obtain ⟨h2a,h2b⟩:=List.getElem?_eq_some_iff.1 hy
    have:=List.pairwise_iff_getElem.1 hs q m h1a h2a k
    omega
   ·obtain rfl:q=m:=by omega
    rw [hy] at e
    cases e
    exact hyz
  ·rw [decide_eq_false hyz]
   try refine RUN ?_
   refine ⟨(i,m),⟨rfl,rfl,trivial⟩,sB,trivial,sB,rfl,⟨by dsimp only;omega,by dsimp only;omega,hlo,fun q x hq e=>?_⟩,Hp.Le.refl _,by dsimp only;omega⟩
   dsimp only at hq
   rcases Nat.lt_or_ge m q with k | k
   ·obtain ⟨h1a,h1b⟩:=List.getElem?_eq_some_iff.1 e
    obtain ⟨h2a,h2b⟩:=List.getElem?_eq_some_iff.1 hy
    have:=List.pairwise_iff_getElem.1 hs m q h2a h1a k
    omega
   ·obtain rfl:q=m:=by omega
    rw [hy] at e
    cases e
    omega
 ·simp only [nN] at hlt
  obtain rfl:i=j:=by omega
  have hfin:∀ y,l[i]?=some y→l.contains z=(y == z):=fun y hy=>by
   rw [Bool.eq_iff_iff,List.contains_iff_mem,beq_iff_eq]
   constructor
   ·intro hm
    obtain ⟨q,hq⟩:=List.mem_iff_getElem?.1 hm
    have hqi:i≤q:=by
     rcases Nat.lt_or_ge q i with h | h
     ·have:=hlo q z h hq;omega
     ·exact h
    rcases Nat.lt_or_ge i q with h | h
    ·have h1:=(List.getElem?_eq_some_iff.1 hy)
     have h2:=(List.getElem?_eq_some_iff.1 hq)
     obtain ⟨h1a,h1b⟩:=h1
     obtain ⟨h2a,h2b⟩:=h2
     have:=List.pairwise_iff_getElem.1 hs i q h1a h2a h
     have h3:=hhi i y (Nat.le_refl _) hy
     omega
    ·obtain rfl:q=i:=by omega
     rw [hy] at hq
     exact Option.some.inj hq
   ·rintro rfl
    exact List.mem_of_getElem? hy
  have hno:i=l.length→l.contains z=false:=fun e=>by
   rw [← Bool.not_eq_true,List.contains_iff_mem]
   intro hm
   obtain ⟨q,hq⟩:=List.mem_iff_getElem?.1 hm
   have hql:=(List.getElem?_eq_some_iff.1 hq).1
   have:=hlo q z oM hq
   omega
  have hn1:=isNaNs_pv z
  try refine RUN ?_
  by_cases hil:i<l.length
  ·obtain ⟨y,hy⟩:∃ y,l[i]?=some y:=⟨_,List.getElem?_eq_getElem hil⟩
   have hn2:=isNaNs_pv y
   rw [decide_eq_true (show (i:Int)<(l.length:Int) by omega),hfin y hy]
   try refine RUN ?_
   refine EVL.idxR tO rfl rfl rfl rfl rfl rfl rfl rfl rfl rfl ((h.mono hG1)) (i) (rfl) (hil) ((by rw [List.getElem?_map,hy];rfl)) ?_
   try refine RUN ?_
   by_cases hyz:y=z
   ·rw [show (y == z)=true from beq_iff_eq.2 hyz]
    try refine RUN ?_
    exact ⟨_,rfl⟩
   ·rw [show (y == z)=false from beq_eq_false_iff_ne.2 hyz]
    try refine RUN ?_
    refine EVL.idxR tO rfl rfl rfl rfl rfl rfl rfl rfl rfl rfl ((h.mono hG1)) (i) (rfl) (hil) ((by rw [List.getElem?_map,hy];rfl)) ?_
    repeat (first | refine RUN ?_ | refine CV (hn2) ?_ | refine CV (hn1) ?_ | refine CE (hn2) ?_ | refine CE (hn1) ?_)
    exact ⟨_,rfl⟩
  ·rw [decide_eq_false (show ¬ (i:Int)<(l.length:Int) by omega),hno (by omega)]
   try refine RUN ?_
   exact ⟨_,rfl⟩
theorem valid_pc {H:Hp} {v:Value} {X:List (List Rat)} {w:Nat} (h:QLL H v X) (h1:1≤X.length) (h2:X.length≤300) (hw:1≤w∧w≤20) (hx:∀ x,x∈X→x.length=w):PC prog 52 #[v] H fun r _=>r=.bool true:=by
 obtain ⟨vs,hvs,hs⟩:=h
 obtain ⟨a,c,rfl⟩:=SlC.val hs
 obtain ⟨x0,hx0⟩:∃ x,X[0]?=some x:=⟨_,List.getElem?_eq_getElem h1⟩
 obtain ⟨a0,c0,hv0,_⟩:=hvs.at hx0
 have hl0:=hx x0 (List.mem_of_getElem? hx0)
 rw [hl0] at hv0
 refine BD func52 ntmps52 ?_
 try refine RUN ?_
 rw [decide_eq_false (show ¬ (X.length:Int)<1 by omega)]
 try refine RUN ?_
 rw [decide_eq_false (show ¬ (X.length:Int)>300 by omega)]
 try refine RUN ?_
 refine EVL.idxR tO rfl rfl rfl rfl rfl rfl rfl rfl rfl rfl (hs) (0) (rfl) (h1) (hv0) ?_
 try refine RUN ?_
 rw [decide_eq_false (show ¬ (w:Int)<1 by omega)]
 try refine RUN ?_
 refine EVL.idxR tO rfl rfl rfl rfl rfl rfl rfl rfl rfl rfl (hs) (0) (rfl) (h1) (hv0) ?_
 try refine RUN ?_
 rw [decide_eq_false (show ¬ (w:Int)>20 by omega)]
 try refine RUN ?_
 refine EV.loopK (ι:=Nat) [0,27,28] [] (fun i=>[(29,.v (.int .i64 (i:Int)))]) (fun _=>[]) (fun _=>[]) (fun i _=>i≤X.length) (fun i=>X.length-i) (0) rfl rfl ⟨rfl,trivial⟩ trivial rfl (fun _=>rfl) (Nat.zero_le _) ?_
 rintro i G1 hG1 hi
 try refine RUN ?_
 refine EV.cond rfl (fun hlt=>?_) (fun hlt=>?_)
 ·simp only [nN] at hlt
  obtain ⟨x,hxi⟩:∃ x,X[i]?=some x:=⟨_,List.getElem?_eq_getElem hlt⟩
  obtain ⟨a1,c1,hv1,_⟩:=hvs.at hxi
  have hl1:=hx x (List.mem_of_getElem? hxi)
  rw [hl1] at hv1
  try refine RUN ?_
  refine EVL.idxR tO rfl rfl rfl rfl rfl rfl rfl rfl rfl rfl ((hs.mono hG1)) (i) (rfl) (hlt) (hv1) ?_
  try refine RUN ?_
  refine EVL.idxR tO rfl rfl rfl rfl rfl rfl rfl rfl rfl rfl ((hs.mono hG1)) (0) (rfl) (h1) (hv0) ?_
  try refine RUN ?_
  rw [bne_self_eq_false]
  try refine RUN ?_
  refine ⟨i+1,⟨by rw [wi_inc i (by omega)];rfl,trivial⟩,sB,trivial,sB,rfl,hlt,Hp.Le.refl _,by omega⟩
 ·simp only [nN] at hlt
  try refine RUN ?_
  rfl
theorem fit3 {kd cl w:Int} {t:Tr} (h:fitT kd cl w t=true):t.kd=kd∧t.cl=cl∧t.w=w:=by
 unfold fitT at h
 simp only [Bool.and_eq_true,beq_iff_eq] at h
 exact h
theorem kL_snoc {x:List Rat} {ts:List Tr} {i:Nat} {t:Tr} (h:ts[i]?=some t):kL x (ts.take (i+1))=kL x (ts.take i)++[(leafN x t).cls]:=by
 unfold kL;rw [take_snoc h,List.map_append];rfl
theorem vL_snoc {x:List Rat} {ts:List Tr} {i:Nat} {t:Tr} (h:ts[i]?=some t):vL x (ts.take (i+1))=vL x (ts.take i)++[(leafN x t).value]:=by
 unfold vL;rw [take_snoc h,List.map_append];rfl
theorem kL_len (x:List Rat) (ts:List Tr):(kL x ts).length=ts.length:=by unfold kL;rw [List.length_map]
theorem vL_len (x:List Rat) (ts:List Tr):(vL x ts).length=ts.length:=by unfold vL;rw [List.length_map]
def RQc (H:Hp) (cs:List Value) (q:Rat):Prop:=∃ (b:Bool) (a1:Option Addr) (l1 c1:Nat) (a2:Option Addr) (l2 c2:Nat),cs=[.bool b,.slice a1 l1 c1,.slice a2 l2 c2]∧RQ H (.agg #[.bool b,.slice a1 l1 c1,.slice a2 l2 c2]) q
theorem rleafI_pc {H:Hp} {cs:List Value} {vx:Value} {kd cl w:Int} {ns:List Nd} {x:List Rat} {i:Nat} (ht:RTree H cs kd cl w ns) (hok:TreeOk ⟨kd,cl,w,ns⟩) (hx:RL H vx x) (hxl:(x.length:Int)=w) (hxs:∀ q,q∈x→rq q) (hi:Leaf ns x 0 i) :
  PC prog 107 #[.agg cs.toArray,vx] H fun r _=>r=.int .i64 (i:Int) :=
 (rleaf_pc ht hok hx hxl hxs).mono fun r G ⟨j,n,e,h1,_⟩ _=>by rw [e,hi.det h1]
set_option maxRecDepth 100000 in
set_option maxHeartbeats 16000000 in
theorem ranswersC_pc {H:Hp} {C:Nat} {w:Int} {a:Option Addr} {cp:Nat} {vx:Value} {ts:List Tr} {x:List Rat} (ht:RTL H (.slice a ts.length cp) ts) (hok:∀ t,t∈ts→TreeOk t∧fitT 1 C w t=true) (hC:1≤C∧C≤12) (hn:ts.length≤1000) (hx:RL H vx x) (hxl:(x.length:Int)=w) (hxs:∀ q,q∈x→rq q) :
  PC prog 58 #[.slice a ts.length cp,.int .i64 (C:Int),vx] H fun r G=>∃ v s,r=.tuple #[v,s]∧IL G v (cntL C (kL x ts))∧RQ G s 0:=by
 obtain ⟨tcs,hts,hst⟩:=ht
 obtain ⟨xa,xc,rfl⟩:=hx.val
 have hz0:=fun G:Hp=>refOf_pc (H:=G) 0 oM oM
 rw [show ((0:Int):Rat)=0 from rfl] at hz0
 refine BD func58 ntmps58 ?_
 try refine RUN ?_
 refine EVL.make tO rfl rfl rfl rfl rfl rfl rfl rfl rfl (C) (rfl) oM (by rfl) (by rfl) fun b=>?_
 try refine RUN ?_
 refine EVL.call rfl rfl rfl rfl rfl (hz0 _) ?_
 intro s0 G1 hs0 hG1
 obtain ⟨za,zl,zc,ya,yl,yc,rfl,_⟩:=id hs0
 try refine RUN ?_
 (first | refine EVL.swapOw ([(b,3,(cntL C (kL x (ts.take 0))).map iv++[])]) ([]) ((by rw [show kL x (ts.take 0)=[] from rfl,← cnt_zero];rfl)) ?_ | refine EV.swapOw ([(b,3,(cntL C (kL x (ts.take 0))).map iv++[])]) ([]) ((by rw [show kL x (ts.take 0)=[] from rfl,← cnt_zero];rfl)) ?_)
 refine EV.loopK (ι:=Nat) [0,1,2,7,8,9] [7,9] (fun i=>[(10,.v (.int .i64 (i:Int)))]) (fun _=>[]) (fun i=>[(b,3,(cntL C (kL x (ts.take i))).map iv++[])]) (fun i _=>i≤ts.length) (fun i=>ts.length-i) (0) rfl rfl ⟨rfl,trivial⟩ trivial rfl (fun _=>rfl) (Nat.zero_le _) ?_
 rintro i G2 hG2 hi
 have hH2:=hG1.trans hG2
 try refine RUN ?_
 refine EV.cond rfl (fun hlt=>?_) (fun hlt=>?_)
 ·simp only [nN] at hlt
  obtain ⟨t,hti⟩:∃ t,ts[i]?=some t:=⟨_,List.getElem?_eq_getElem hlt⟩
  obtain ⟨hto,htf⟩:=hok t (List.mem_of_getElem? hti)
  obtain ⟨cc,hcut,htr⟩:=(hts.mono hH2).get hti
  have hf3:=fit3 htf
  obtain ⟨j,hL,hjl,hnj,hN⟩:=leaf_ex hto x
  have hlf:=fun (G:Hp) (hG:G2.Le G)=>rleafI_pc (htr.mono hG) hto ((hx.mono hH2).mono hG) (by rw [hf3.2.2];exact hxl) hxs hL
  have htr':=htr
  obtain ⟨a3,c3,css,rfl,hns,hsl⟩:=id htr
  obtain ⟨ncs,hncut,hnd⟩:=hns.get hnj
  obtain ⟨b1,a1,l1,c1,a2,l2,c2,b3,a3',l3,c3',a4,l4,c4,b5,a5,l5,c5,a6,l6,c6,a7,c7,rfl,_,_,_,_⟩:=hnd.cells
  have hlen:((leafN x t).counts.length:Int)=(C:Int):=by rw [← hf3.2.1];exact hN.len
  have hcls:=hN.cls
  have htop:=topN_in (l:=(leafN x t).counts) oM
  have hks:=kL_snoc (x:=x) hti
  have hkl:=kL_len x (ts.take i)
  rw [List.length_take] at hkl
  rw [hcls] at hks
  generalize hnn:leafN x t=n at *
  generalize topN n.counts n.counts.length=k at *
  have hk:k<C:=by omega
  generalize kL x (ts.take i)=ks at *
  have hcl:ks.count (k:Int)≤1000:=Nat.le_trans List.count_le_length oM
  have hget:=cntL_at (C:=C) ks hk
  have hcn:=cntL_snoc (C:=C) ks hk
  rw [← hks] at hcn
  have hlen2:=cntL_len C ks
  generalize cntL C ks=cs at *
  generalize ks.count (k:Int)=m at *
  have wm:IntKind.i64.wrap ((m:Int)+1)=((m+1:Nat):Int):=wi_inc m oM
  try refine RUN ?_
  apply EV.drawn 15 kR kR;intro xv yw
  (repeat (first | refine' DV ?_ | refine' DA ?_ | refine' DK0 ?_ | refine' DT ?_ | refine' DS ?_))
  refine' DJ.idxM tO rfl rfl rfl rfl rfl rfl rfl rfl rfl ((hst.mono hH2)) (i) (rfl) (hlt) (hcut) ?_;rotate_left
  (repeat (first | refine' DV ?_ | refine' DA ?_ | refine' DK0 ?_ | refine' DT ?_ | refine' DS ?_))
  refine' DJ.idxM tO rfl rfl rfl rfl rfl rfl rfl rfl rfl ((hst.mono hH2)) (i) (rfl) (hlt) (hcut) ?_;rotate_left
  (repeat (first | refine' DV ?_ | refine' DA ?_ | refine' DK0 ?_ | refine' DT ?_ | refine' DS ?_))
  refine' DJ.callS rfl rfl rfl rfl rfl (cO func107) (fun G hG hd=>hlf _ hG) ?_;rotate_left
  refine' DJ.idxM tO rfl rfl rfl rfl rfl rfl rfl rfl rfl (hsl) (j) (rfl) (hjl) (hncut) ?_;rotate_left
  (repeat (first | refine' DV ?_ | refine' DA ?_ | refine' DK0 ?_ | refine' DT ?_ | refine' DS ?_))
  (refine DJ.nil (fun G3 hG3 hF3=>?_);(case hS|hS2=>rfl))
  try refine RUN ?_
  rw [decide_eq_true (show (C:Int)>0 by omega)]
  try refine RUN ?_
  rw [hcls]
  refine EVL.idxB tO rfl rfl rfl rfl rfl rfl rfl rfl rfl (k) (k*1) (rfl) (hk) (rfl) ?_
  refine EVL.loadOwn tO rfl rfl rfl rfl rfl rfl (0) rfl (ci_get [] hget) rfl rfl ?_
  try refine RUN ?_
  rw [wm]
  refine EVL.idxB tO rfl rfl rfl rfl rfl rfl rfl rfl rfl (k) (k*1) (rfl) (hk) (rfl) ?_
  refine EVL.storeOwn tO rfl rfl rfl rfl rfl rfl ([]) ([]) rfl rfl rfl rfl ((by rw [List.length_append,List.length_map,hlen2];show k*1+1≤_;omega)) (ci_set [] _ (show k<cs.length by omega)) ?_
  try refine RUN ?_
  refine ⟨i+1,⟨by rw [wi_inc i (by omega)];rfl,trivial⟩,sB,trivial,sB,by rw [hcn];rfl,hlt,hG3,by omega⟩
 ·simp only [nN] at hlt
  obtain rfl:i=ts.length:=by omega
  rw [List.take_length]
  (first | refine EVL.publish [] [] rfl fun G3 hG3 hb3=>?_ | refine EV.publish [] [] rfl fun G3 hG3 hb3=>?_)
  try refine RUN ?_
  rw [decide_eq_true (show (C:Int)>0 by omega)]
  try refine RUN ?_
  (apply EV.drawn 3 kR kR;intro xv yw;(repeat (first | refine' DV ?_ | refine' DA ?_ | refine' DK0 ?_ | refine' DS ?_));refine DJ.nil (fun G hG hF=>?_);(case hS|hS2=>rfl))
  try refine RUN ?_
  exact ⟨_,_,rfl,(il_own hb3 (cntL_len _ _)).mono hG,hs0.mono (hG2.trans (hG3.trans hG))⟩
set_option maxRecDepth 100000 in
set_option maxHeartbeats 16000000 in
theorem ranswersV_pc {H:Hp} {w:Int} {a:Option Addr} {cp:Nat} {vx:Value} {ts:List Tr} {x:List Rat} (ht:RTL H (.slice a ts.length cp) ts) (hok:∀ t,t∈ts→TreeOk t∧fitT 2 0 w t=true) (h0:0<ts.length) (hn:ts.length≤1000) (hx:RL H vx x) (hxl:(x.length:Int)=w) (hxs:∀ q,q∈x→rq q) :
  PC prog 58 #[.slice a ts.length cp,.int .i64 0,vx] H fun r G=>∃ v s,r=.tuple #[v,s]∧IL G v []∧RQ G s (meanL (vL x ts)):=by
 obtain ⟨tcs,hts,hst⟩:=ht
 obtain ⟨xa,xc,rfl⟩:=hx.val
 have hz0:=fun G:Hp=>refOf_pc (H:=G) 0 oM oM
 rw [show ((0:Int):Rat)=0 from rfl] at hz0
 refine BD func58 ntmps58 ?_
 try refine RUN ?_
 refine EVL.make tO rfl rfl rfl rfl rfl rfl rfl rfl rfl (0) (rfl) oM (by rfl) (by rfl) fun b=>?_
 try refine RUN ?_
 refine EVL.call rfl rfl rfl rfl rfl (hz0 _) ?_
 intro s0 G1 hs0 hG1
 obtain ⟨za,zl,zc,ya,yl,yc,rfl,_⟩:=id hs0
 try refine RUN ?_
 refine EV.loopK (ι:=Nat × List Value) [0,1,2,7,8,9] [7] (fun q=>[(10,.v (.int .i64 (q.1:Int)))]) (fun q=>[(9,36,q.2)]) (fun _=>[(b,3,[])]) (fun q G=>q.1≤ts.length∧RQc G q.2 (sumQ (vL x (ts.take q.1)))) (fun q=>ts.length-q.1) ((0,_)) rfl rfl ⟨rfl,trivial⟩ ⟨rfl,trivial⟩ rfl (fun _=>rfl) (⟨Nat.zero_le _,⟨_,_,_,_,_,_,_,rfl,hs0⟩⟩) ?_
 rintro ⟨i,sc⟩ G2 hG2 ⟨hi,hs⟩
 dsimp only at hi hs
 obtain ⟨zb,zb1,zb2,zb3,zb4,zb5,zb6,rfl,hs⟩:=hs
 have hH2:=hG1.trans hG2
 have hvb:∀ q,q∈vL x ts→ht q≤4000:=fun q hq=>by
  unfold vL at hq
  obtain ⟨t,ht,rfl⟩:=List.mem_map.1 hq
  obtain ⟨_,_,_,_,hN⟩:=leaf_ex (hok t ht).1 x
  exact hN.small.2.2
 try refine RUN ?_
 refine EV.cond rfl (fun hlt=>?_) (fun hlt=>?_)
 ·simp only [nN] at hlt
  obtain ⟨t,hti⟩:∃ t,ts[i]?=some t:=⟨_,List.getElem?_eq_getElem hlt⟩
  obtain ⟨hto,htf⟩:=hok t (List.mem_of_getElem? hti)
  obtain ⟨cc,hcut,htr⟩:=(hts.mono hH2).get hti
  have hf3:=fit3 htf
  obtain ⟨j,hL,hjl,hnj,hN⟩:=leaf_ex hto x
  have hlf:=fun (G:Hp) (hG:G2.Le G)=>rleafI_pc (htr.mono hG) hto ((hx.mono hH2).mono hG) (by rw [hf3.2.2];exact hxl) hxs hL
  obtain ⟨a3,c3,css,rfl,hns,hsl⟩:=id htr
  obtain ⟨ncs,hncut,hnd⟩:=hns.get hnj
  obtain ⟨b1,a1,l1,c1,a2,l2,c2,b3,a3',l3,c3',a4,l4,c4,b5,a5,l5,c5,a6,l6,c6,a7,c7,rfl,_,_,hqv,_⟩:=hnd.cells
  have hsn:=vL_snoc (x:=x) hti
  have hs1:=ht_sum 4000 (vL x (ts.take i)) (fun q hq=>hvb q (by unfold vL at hq ⊢;obtain ⟨t',h1,h2⟩:=List.mem_map.1 hq;exact List.mem_map.2 ⟨t',List.mem_of_mem_take h1,h2⟩))
  rw [vL_len,List.length_take,Nat.min_eq_left hi] at hs1
  have hv1:=hN.small.2.2
  generalize hnn:leafN x t=n at *
  try refine RUN ?_
  apply EV.drawn 15 kR kR;intro xv yw
  (repeat (first | refine' DV ?_ | refine' DA ?_ | refine' DK0 ?_ | refine' DT ?_ | refine' DS ?_))
  refine' DJ.idxM tO rfl rfl rfl rfl rfl rfl rfl rfl rfl ((hst.mono hH2)) (i) (rfl) (hlt) (hcut) ?_;rotate_left
  (repeat (first | refine' DV ?_ | refine' DA ?_ | refine' DK0 ?_ | refine' DT ?_ | refine' DS ?_))
  refine' DJ.idxM tO rfl rfl rfl rfl rfl rfl rfl rfl rfl ((hst.mono hH2)) (i) (rfl) (hlt) (hcut) ?_;rotate_left
  (repeat (first | refine' DV ?_ | refine' DA ?_ | refine' DK0 ?_ | refine' DT ?_ | refine' DS ?_))
  refine' DJ.callS rfl rfl rfl rfl rfl (cO func107) (fun G hG hd=>hlf _ hG) ?_;rotate_left
  refine' DJ.idxM tO rfl rfl rfl rfl rfl rfl rfl rfl rfl (hsl) (j) (rfl) (hjl) (hncut) ?_;rotate_left
  (repeat (first | refine' DV ?_ | refine' DA ?_ | refine' DK0 ?_ | refine' DT ?_ | refine' DS ?_))
  (refine DJ.nil (fun G3 hG3 hF3=>?_);(case hS|hS2=>rfl))
  try refine RUN ?_
  rw [show decide ((0:Int)>0)=false from rfl]
  try refine RUN ?_
  refine EVL.call rfl rfl rfl rfl rfl (refAdd_pc (hs.mono hG3) (hqv.mono hG3) (by unfold rq;omega) (by unfold rq;omega)) ?_
  intro s' G4 hs' hG4
  obtain ⟨zb',zl',zc',ya',yl',yc',rfl,_⟩:=id hs'
  try refine RUN ?_
  refine ⟨(i+1,_),⟨by dsimp only;rw [wi_inc i (by omega)];rfl,trivial⟩,sB,⟨rfl,trivial⟩,sB,rfl,⟨hlt,⟨_,_,_,_,_,_,_,rfl,by dsimp only;rw [hsn,sumQ_snoc];exact hs'⟩⟩,hG3.trans hG4,by dsimp only;omega⟩
 ·simp only [nN] at hlt
  obtain rfl:i=ts.length:=by omega
  rw [List.take_length] at hs
  have hs1:=ht_sum 4000 (vL x ts) hvb
  rw [vL_len] at hs1
  have hln:=ht_len (n:=ts.length) oM
  (first | refine EVL.publish [] [] rfl fun G3 hG3 hb3=>?_ | refine EV.publish [] [] rfl fun G3 hG3 hb3=>?_)
  try refine RUN ?_
  rw [show decide ((0:Int)>0)=false from rfl]
  try refine RUN ?_
  apply EV.drawn 6 kR kR;intro xv yw
  (repeat (first | refine' DV ?_ | refine' DA ?_ | refine' DK0 ?_ | refine' DT ?_ | refine' DS ?_))
  refine' DJ.call rfl rfl rfl rfl rfl (cO func43) (fun G hG hd=>refOf_pc (ts.length:Int) oM oM) (fun _ _ _ h k=>RQ.mono h k) ?_;rotate_left
  refine' DJ.call rfl rfl rfl rfl rfl (cO func63) (fun G hG hd=>refDivQ_pc ((hs.mono hG3).mono hG) (hd.head kR) (by unfold rq;omega) (by unfold rq;omega) (by show (ts.length:Int)≠0;omega)) (fun _ _ _ h k=>RQ.mono h k) ?_;rotate_left
  (refine DJ.nil (fun G4 hG4 hF4=>?_);(case hS|hS2=>rfl))
  obtain ⟨hq,_⟩:=hF4
  obtain ⟨zb',zl',zc',ya',yl',yc',e,_⟩:=id hq
  rw [e] at hq
  rw [e]
  try refine RUN ?_
  refine ⟨_,_,rfl,IL.nil _ _ _,?_⟩
  unfold meanL
  rw [vL_len]
  exact hq
theorem fit_kind {kd cl w:Int} {ts:List Tr} (h0:0<ts.length) (hok:∀ t,t∈ts→TreeOk t∧fitT kd cl w t=true):(kd=1∧1≤cl∧cl≤12)∨(kd=2∧cl=0):=by
 obtain ⟨t,ht⟩:∃ t,ts[0]?=some t:=⟨_,List.getElem?_eq_getElem h0⟩
 obtain ⟨h1,h2⟩:=hok t (List.mem_of_getElem? ht)
 obtain ⟨e1,e2,_⟩:=fit3 h2
 have:=h1.kind
 rwa [e1,e2] at this
noncomputable def ansL (kd cl:Int) (x:List Rat) (ts:List Tr):List Int:=if kd=1 then cntL cl.toNat (kL x ts) else []
noncomputable def ansQ (kd:Int) (x:List Rat) (ts:List Tr):Rat:=if kd=1 then 0 else meanL (vL x ts)
theorem ansL_len {kd cl:Int} {x:List Rat} {ts:List Tr} (h:(kd=1∧1≤cl∧cl≤12)∨(kd=2∧cl=0)):((ansL kd cl x ts).length:Int)=cl:=by
 unfold ansL
 rcases h with ⟨rfl,h1,h2⟩ | ⟨rfl,rfl⟩
 ·rw [if_pos rfl,cntL_len];omega
 ·rfl
theorem ansL_small {kd cl:Int} {x:List Rat} {ts:List Tr}:∀ c,c∈ansL kd cl x ts→0≤c∧c≤(ts.length:Int):=fun c hc=>by
 unfold ansL at hc
 split at hc
 ·unfold cntL at hc
  obtain ⟨k,_,rfl⟩:=List.mem_map.1 hc
  have:=List.count_le_length (a:=(k:Int)) (l:=kL x ts)
  rw [kL_len] at this
  omega
 ·cases hc
theorem ranswers_pc {H:Hp} {kd cl w:Int} {a:Option Addr} {cp:Nat} {vx:Value} {ts:List Tr} {x:List Rat} (ht:RTL H (.slice a ts.length cp) ts) (hok:∀ t,t∈ts→TreeOk t∧fitT kd cl w t=true) (h0:0<ts.length) (hn:ts.length≤1000) (hx:RL H vx x) (hxl:(x.length:Int)=w) (hxs:∀ q,q∈x→rq q) :
  PC prog 58 #[.slice a ts.length cp,.int .i64 cl,vx] H fun r G=>∃ v s,r=.tuple #[v,s]∧IL G v (ansL kd cl x ts)∧RQ G s (ansQ kd x ts):=by
 rcases fit_kind h0 hok with ⟨rfl,h1,h2⟩ | ⟨rfl,rfl⟩
 ·obtain ⟨C,rfl⟩:=Int.eq_ofNat_of_zero_le (show 0≤cl by omega)
  exact ranswersC_pc ht hok oM hn hx hxl hxs
 ·exact ranswersV_pc ht hok h0 hn hx hxl hxs
noncomputable def voteQ (kd cl:Int) (x:List Rat) (ts:List Tr):List Rat:=(ansL kd cl x ts).map fun c=>mkRat c ts.length
set_option maxRecDepth 100000 in
set_option maxHeartbeats 16000000 in
theorem rvotes_pc {H:Hp} {kd cl w:Int} {a1:Option Addr} {c1:Nat} {vo vx:Value} {ts:List Tr} {x:List Rat} (ht:RTL H (.slice a1 ts.length c1) ts) (hok:∀ t,t∈ts→TreeOk t∧fitT kd cl w t=true) (h0:0<ts.length) (hn:ts.length≤1000) (hx:RL H vx x) (hxl:(x.length:Int)=w) (hxs:∀ q,q∈x→rq q) :
  PC prog 25 #[forestV kd cl w (.slice a1 ts.length c1) vo,vx] H fun r G=>RL G r (voteQ kd cl x ts):=by
 have hans:=ranswers_pc ht hok h0 hn hx hxl hxs
 have hlen:=ansL_len (x:=x) (ts:=ts) (fit_kind h0 hok)
 have hsml:=ansL_small (kd:=kd) (cl:=cl) (x:=x) (ts:=ts)
 have hkd:=fit_kind h0 hok
 obtain ⟨xa,xc,rfl⟩:=hx.val
 unfold voteQ
 generalize ansL kd cl x ts=L at *
 generalize ansQ kd x ts=q0 at *
 refine BD func25 ntmps25 ?_
 try refine RUN ?_
 refine EVL.call rfl rfl rfl rfl rfl (hans) ?_
 rintro r1 G1 ⟨v,s,rfl,hv,hs⟩ hG1
 obtain ⟨va,vc,rfl⟩:=SlC.val hv
 obtain ⟨zb1,zb2,zb3,zb4,zb5,zb6,rfl,_⟩:=id hs
 try refine RUN ?_
 refine EV.loopK (ι:=Nat × List Value × Value × Ows) [2,5] [2] (fun q=>[(7,.v q.2.2.1),(8,.v (.int .i64 (q.1:Int)))]) (fun _=>[]) (fun q=>q.2.2.2) (fun q G=>q.1≤L.length∧RVs G q.2.1 ((L.take q.1).map fun c=>mkRat c ts.length)∧OwnL 36 3 q.2.2.1 q.1 (q.2.1.flatMap vlist) q.2.2.2) (fun q=>L.length-q.1) ((0,[],.slice none 0 0,[])) rfl rfl ⟨rfl,rfl,trivial⟩ trivial rfl (fun _=>rfl) (⟨Nat.zero_le _,RVs.nil _,OwnL.nil _ _⟩) ?_
 rintro ⟨i,vs,w',ow⟩ G2 hG2 ⟨hi,hvs,hown⟩
 dsimp only at hi hvs hown
 obtain ⟨wa,wc,rfl⟩:=hown.val
 try refine RUN ?_
 refine EV.cond rfl (fun hlt=>?_) (fun hlt=>?_)
 ·simp only [nN] at hlt
  obtain ⟨z,hz⟩:∃ z,L[i]?=some z:=⟨_,List.getElem?_eq_getElem hlt⟩
  have hzb:=hsml z (List.mem_of_getElem? hz)
  have hdv:Rat.divInt z (ts.length:Int)=mkRat z ts.length:=rfl
  try refine RUN ?_
  apply EV.drawn 10 kR kR;intro xv yw
  (repeat (first | refine' DV ?_ | refine' DA ?_ | refine' DK0 ?_ | refine' DT ?_ | refine' DS ?_))
  refine' DJ.ofVal (ValOk.idx1 tO rfl rfl rfl rfl rfl rfl rfl rfl ((hv.mono hG2)) (i) (rfl) (hlt) ((by rw [List.getElem?_map,hz];rfl))) rfl rfl rfl ?_;rotate_left
  (repeat (first | refine' DV ?_ | refine' DA ?_ | refine' DK0 ?_ | refine' DT ?_ | refine' DS ?_))
  refine' DJ.call rfl rfl rfl rfl rfl (cO func67) (fun G hG hd=>refOver_pc z (ts.length:Int) oM oM oM oM oM) (fun _ _ _ h k=>RQ.mono h k) ?_;rotate_left
  (refine' DJ.litD1 (Φ:=fun v G=>∃ y,SlC G v 1 3 (vlist y)∧RQ G y (Rat.divInt z (ts.length:Int))) (fun v G G' ⟨y,e,h⟩ k=>⟨y,e.mono k,h.mono k⟩) tO rfl rfl rfl rfl rfl rfl rfl rfl rfl rfl rfl (fun G hd=>RQ.cells (hd.head kR) |>.1) (fun G G' v hd hG h=>⟨_,(by rw [List.flatMap_singleton] at h;exact h),RQ.mono (hd.head kR) hG⟩) ?_;rotate_left)
  (refine DJ.nil (fun G3 hG3 hF3=>?_);(case hS|hS2=>rfl))
  obtain ⟨y,hs3,hy⟩:=hF3.1
  rw [hdv] at hy
  refine EVL.append tO rfl rfl rfl rfl rfl rfl rfl rfl rfl rfl rfl rfl [] ow [] (List.append_nil _).symm hown (SrcAt.ro hs3 (Nat.succ_pos 0)) hy.cells.2 oM ?_
  intro v' ow' hown'
  obtain ⟨wa',wc',rfl⟩:=hown'.val
  try refine RUN ?_
  refine ⟨(i+1,vs++[y],.slice wa' (i+1) wc',ow'),⟨rfl,by dsimp only;rw [wi_inc i (by omega)];rfl,trivial⟩,sB,trivial,sB,by dsimp only;rw [List.append_nil];rfl,⟨hlt,by dsimp only;rw [take_snoc hz,List.map_append];exact (hvs.mono hG3).snoc hy,by dsimp only;rw [List.flatMap_append,List.flatMap_singleton];exact hown'⟩,hG3,by dsimp only;omega⟩
 ·simp only [nN] at hlt
  obtain rfl:i=L.length:=by omega
  rw [List.take_length] at hvs
  (first | refine EVL.publishL [] ow [] ((List.append_nil _).symm) hown fun G3 hG3 hs3=>?_ | refine EV.publishL [] ow [] ((List.append_nil _).symm) hown fun G3 hG3 hs3=>?_)
  try refine RUN ?_
  exact (hvs.mono hG3).rl (by rw [List.length_map];exact hs3)
set_option maxHeartbeats 4000000 in
theorem ranswer_pc {H:Hp} {kd cl w:Int} {a1:Option Addr} {c1:Nat} {vo vx:Value} {ts:List Tr} {x:List Rat} (ht:RTL H (.slice a1 ts.length c1) ts) (hok:∀ t,t∈ts→TreeOk t∧fitT kd cl w t=true) (h0:0<ts.length) (hn:ts.length≤1000) (hx:RL H vx x) (hxl:(x.length:Int)=w) (hxs:∀ q,q∈x→rq q) :
  PC prog 23 #[forestV kd cl w (.slice a1 ts.length c1) vo,vx] H fun r G=>∃ s,r=.tuple #[s,.int .i64 (topN (ansL kd cl x ts) (ansL kd cl x ts).length:Nat)]∧RQ G s (ansQ kd x ts):=by
 have hans:=ranswers_pc ht hok h0 hn hx hxl hxs
 have hlen:=ansL_len (x:=x) (ts:=ts) (fit_kind h0 hok)
 have hkd:=fit_kind h0 hok
 obtain ⟨xa,xc,rfl⟩:=hx.val
 generalize ansL kd cl x ts=L at *
 generalize ansQ kd x ts=q0 at *
 refine BD func23 ntmps23 ?_
 try refine RUN ?_
 refine EVL.call rfl rfl rfl rfl rfl (hans) ?_
 rintro r1 G1 ⟨v,s,rfl,hv,hs⟩ hG1
 obtain ⟨va,vc,rfl⟩:=SlC.val hv
 obtain ⟨zb1,zb2,zb3,zb4,zb5,zb6,rfl,_⟩:=id hs
 try refine RUN ?_
 apply EV.drawn 3 kR kR;intro xv yw
 (repeat (first | refine' DV ?_ | refine' DA ?_ | refine' DK0 ?_ | refine' DT ?_ | refine' DS ?_))
 refine' DJ.callS rfl rfl rfl rfl rfl (cO func62) (fun G hG hd=>refTop_pc (hv.mono hG) oM) ?_;rotate_left
 (refine DJ.nil (fun G2 hG2 hF2=>?_);(case hS|hS2=>rfl))
 try refine RUN ?_
 exact ⟨_,rfl,hs.mono hG2⟩
noncomputable def missM (kd cl:Int) (L:List (Tr × List Int)) (X:List (List Rat)) (ls:List Int) (vs:List Rat) (i:Nat):List Rat :=
 if (seenT L (i:Int)).length=0 then [] else
 if kd=2 then [(ansQ kd (X.getD i []) (seenT L (i:Int))-vs.getD i 0)*(ansQ kd (X.getD i []) (seenT L (i:Int))-vs.getD i 0)]
 else [if ((topN (ansL kd cl (X.getD i []) (seenT L (i:Int))) (ansL kd cl (X.getD i []) (seenT L (i:Int))).length:Nat):Int)=ls.getD i 0 then 0 else 1]
theorem missM_len (kd cl:Int) (L:List (Tr × List Int)) (X:List (List Rat)) (ls:List Int) (vs:List Rat) (i:Nat):(missM kd cl L X ls vs i).length≤1:=by
 unfold missM
 split
 ·simp
 ·split <;> simp
theorem ansQ_ht {kd cl w:Int} {ts:List Tr} (x:List Rat) (hok:∀ t,t∈ts→TreeOk t∧fitT kd cl w t=true) (hn:ts.length≤20):ht (ansQ kd x ts)≤80041:=by
 unfold ansQ
 split
 ·rw [ht_zero];decide
 ·have hvb:∀ q,q∈vL x ts→ht q≤4000:=fun q hq=>by
   unfold vL at hq
   obtain ⟨t,ht,rfl⟩:=List.mem_map.1 hq
   obtain ⟨_,_,_,_,hN⟩:=leaf_ex (hok t ht).1 x
   exact hN.small.2.2
  have h1:=ht_sum 4000 (vL x ts) hvb
  have h2:=ht_div (sumQ (vL x ts)) (((vL x ts).length:Int):Rat)
  have h3:=ht_len (n:=(vL x ts).length) (by rw [vL_len];omega)
  rw [vL_len] at h1
  unfold meanL
  omega
theorem ansQ_sq {kd cl w:Int} {ts:List Tr} (x:List Rat) (hok:∀ t,t∈ts→TreeOk t∧fitT kd cl w t=true) (hn:ts.length≤20) {v:Rat} (hv:ht v≤5):ht (ansQ kd x ts-v)≤80047∧ht ((ansQ kd x ts-v)*(ansQ kd x ts-v))≤160094:=by
 have h1:=ansQ_ht x hok hn
 have h2:=ht_sub (ansQ kd x ts) v
 have h3:=ht_mul (ansQ kd x ts-v) (ansQ kd x ts-v)
 omega
theorem seenT_ok {kd cl w:Int} {ts:List Tr} {os:List (List Int)} (hok:∀ t,t∈ts→TreeOk t∧fitT kd cl w t=true) (r:Int):∀ t,t∈seenT (ts.zip os) r→TreeOk t∧fitT kd cl w t=true:=fun t ht=>by
 obtain ⟨l,h⟩:=seenT_mem ht
 exact hok t (List.of_mem_zip h).1
theorem seenT_le (ts:List Tr) (os:List (List Int)) (r:Int):(seenT (ts.zip os) r).length≤ts.length :=
 Nat.le_trans (seenT_len _ _) (by rw [List.length_zip];exact Nat.min_le_left _ _)
theorem missM_ht {kd cl w:Int} {ts:List Tr} {os:List (List Int)} {X:List (List Rat)} {ls:List Int} {vs:List Rat} (hok:∀ t,t∈ts→TreeOk t∧fitT kd cl w t=true) (hn:ts.length≤20) (hv:∀ v,v∈vs→ht v≤5) (i:Nat):∀ q,q∈missM kd cl (ts.zip os) X ls vs i→ht q≤160094:=fun q hq=>by
 unfold missM at hq
 split at hq
 ·cases hq
 ·split at hq
  ·rw [List.mem_singleton.1 hq]
   refine (ansQ_sq _ (seenT_ok hok _) (Nat.le_trans (seenT_le ts os _) hn) ?_).2
   rw [List.getD_eq_getElem?_getD]
   cases e:vs[i]? with
   | none=>show ht 0≤5;rw [ht_zero];decide
   | some v=>exact hv v (List.mem_of_getElem? e)
  ·rw [List.mem_singleton.1 hq]
   split
   ·rw [ht_zero];decide
   ·show ht 1≤160094;decide +kernel
theorem allM_ht {f:Nat→List Rat} {B:Nat} (h:∀ i q,q∈f i→ht q≤B) (n:Nat):∀ q,q∈allM f n→ht q≤B:=fun q hq=>by
 unfold allM at hq
 obtain ⟨i,_,hi⟩:=List.mem_flatMap.1 hq
 exact h i q hi
set_option maxRecDepth 100000 in
set_option maxHeartbeats 64000000 in
theorem rmiss_pc {H:Hp} {kd cl w:Int} {a1 a2:Option Addr} {c1 c2:Nat} {ts:List Tr} {os:List (List Int)} (hT:RTL H (.slice a1 ts.length c1) ts) (hO:ILL H (.slice a2 os.length c2) os) (hok:∀ t,t∈ts→TreeOk t∧fitT kd cl w t=true) (hlo:∀ l,l∈os→okL l=true∧l.length≤300) (hol:os.length=ts.length) (h0:1≤ts.length∧ts.length≤20)
  {kd' cl':Int} {ga va:Option Addr} {gn gc vn vc W:Nat} {ls:List Int} {vs:List Rat} {vx:Value} {X:List (List Rat)} (hgl:(kd'=1∧IL H (.slice ga gn gc) ls∧ls.length=X.length)∨(kd'=2∧RL H (.slice va vn vc) vs∧vs.length=X.length)) (hvs:∀ v,v∈vs→ht v≤5)
  (hck:∀ G,H.Le G→PC prog 31 #[goalV kd' cl' (.slice ga gn gc) (.slice va vn vc)] G fun r _=>r=.int .i64 0) (hln:PV prog 30 #[goalV kd' cl' (.slice ga gn gc) (.slice va vn vc)] (.int .i64 (X.length:Int)))
  (hX:RLL H vx X) (hXw:∀ x,x∈X→x.length=W∧∀ q,q∈x→ht q≤5) (hW:1≤W∧W≤20) (hN:1≤X.length∧X.length≤20) :
  PC prog 20 #[forestV kd cl w (.slice a1 ts.length c1) (.slice a2 os.length c2),goalV kd' cl' (.slice ga gn gc) (.slice va vn vc),vx] H fun r G=>∃ s,r=.tuple #[s,.int .i64 (missOf kd cl w kd' cl' (W:Int) (allM (missM kd cl (ts.zip os) X ls vs) X.length)).2]∧RQ G s (missOf kd cl w kd' cl' (W:Int) (allM (missM kd cl (ts.zip os) X ls vs) X.length)).1:=by
 have hz0:=fun G:Hp=>refOf_pc (H:=G) 0 oM oM
 rw [show ((0:Int):Rat)=0 from rfl] at hz0
 have hz1:=fun G:Hp=>refOf_pc (H:=G) 1 oM oM
 rw [show ((1:Int):Rat)=1 from rfl] at hz1
 have hcf:checkF kd cl w ts os=0:=checkF_ok oM oM hol (fun t ht=>(hok t ht).2) (fun l hl=>(hlo l hl).1)
 have hrc:=fun (G:Hp) (hG:H.Le G)=>rcheckF_pc (kd:=kd) (cl:=cl) (w:=w) (hT.mono hG) (hO.mono hG) (fun t ht=>(hok t ht).1) (fun l hl=>by have:=(hlo l hl).2;omega) oM
 rw [hcf] at hrc
 have hlearn:=fun (G:Hp) (hG:H.Le G)=>learn_pc (hX.mono hG) (fun x hx=>(hXw x hx).1) hW.1 hW.2 oM oM
 obtain ⟨tcs,hts,hst⟩:=id hT
 obtain ⟨vos,hos,hso⟩:=id hO
 obtain ⟨xa,xc,rfl⟩:=hX.val
 obtain ⟨xvs,hxv,hxs⟩:=id hX
 obtain ⟨x0,hx0⟩:∃ x,X[0]?=some x:=⟨_,List.getElem?_eq_getElem oM⟩
 obtain ⟨u0,e0,hu0,_⟩:=hxv.at hx0
 rw [(hXw x0 (List.mem_of_getElem? hx0)).1] at hu0
 refine BD func20 ntmps20 ?_
 repeat (first | refine RUN ?_ | refine CV (hrc _ (Hp.Le.refl _)) ?_ | refine CV (hck _ (Hp.Le.refl _)) ?_ | refine CE (hrc _ (Hp.Le.refl _)) ?_ | refine CE (hck _ (Hp.Le.refl _)) ?_)
 by_cases hk:kd'=kd∧cl'=cl
 case neg =>
  have hmo:missOf kd cl w kd' cl' (W:Int) (allM (missM kd cl (ts.zip os) X ls vs) X.length)=(0,10):=by unfold missOf;rw [if_neg hk]
  rw [hmo]
  by_cases e1:kd'=kd
  ·have e2:¬ cl'=cl:=fun e=>hk ⟨e1,e⟩
   rw [show (kd' != kd)=false by rw [e1];exact bne_self_eq_false _]
   try refine RUN ?_
   rw [show (cl' != cl)=true from bne_iff_ne.2 e2]
   try refine RUN ?_
   refine EVL.call rfl rfl rfl rfl rfl (hz0 _) ?_
   intro s1 G1 hs1 hG1
   obtain ⟨zb1,zb2,zb3,zb4,zb5,zb6,rfl,_⟩:=id hs1
   try refine RUN ?_
   exact ⟨_,rfl,hs1⟩
  ·rw [show (kd' != kd)=true from bne_iff_ne.2 e1]
   try refine RUN ?_
   refine EVL.call rfl rfl rfl rfl rfl (hz0 _) ?_
   intro s1 G1 hs1 hG1
   obtain ⟨zb1,zb2,zb3,zb4,zb5,zb6,rfl,_⟩:=id hs1
   try refine RUN ?_
   exact ⟨_,rfl,hs1⟩
 obtain ⟨rfl,rfl⟩:=hk
 rw [bne_self_eq_false]
 try refine RUN ?_
 rw [bne_self_eq_false]
 try refine RUN ?_
 by_cases hw:(W:Int)=w
 case neg =>
  have hmo:missOf kd' cl' w kd' cl' (W:Int) (allM (missM kd' cl' (ts.zip os) X ls vs) X.length)=(0,5):=by unfold missOf;rw [if_pos ⟨rfl,rfl⟩,if_neg hw]
  rw [hmo]
  apply EV.drawn 19 kR kR;intro xv yw
  (repeat (first | refine' DV ?_ | refine' DA ?_ | refine' DK0 ?_ | refine' DT ?_ | refine' DS ?_))
  refine' DJ.callS rfl rfl rfl rfl rfl (cO func29) (fun G hG hd=>hlearn _ hG) ?_;rotate_left
  (repeat (first | refine' DV ?_ | refine' DA ?_ | refine' DK0 ?_ | refine' DT ?_ | refine' DS ?_))
  refine' DJ.ofVal (ValOk.idx1 tO rfl rfl rfl rfl rfl rfl rfl rfl (hxs) (0) (rfl) (oM) (hu0)) rfl rfl rfl ?_;rotate_left
  (repeat (first | refine' DV ?_ | refine' DA ?_ | refine' DK0 ?_ | refine' DT ?_ | refine' DS ?_))
  rw [show ((W:Int) != w)=true from bne_iff_ne.2 hw]
  (repeat (first | refine' DV ?_ | refine' DA ?_ | refine' DK0 ?_ | refine' DT ?_ | refine' DS ?_))
  (refine DJ.nil (fun G1 hG1 hF1=>?_);(case hS|hS2=>rfl))
  try refine RUN ?_
  refine EVL.call rfl rfl rfl rfl rfl (hz0 _) ?_
  intro s1 G2 hs1 hG2
  obtain ⟨zb1,zb2,zb3,zb4,zb5,zb6,rfl,_⟩:=id hs1
  try refine RUN ?_
  exact ⟨_,rfl,hs1⟩
 apply EV.drawn 19 kR kR;intro xv yw
 (repeat (first | refine' DV ?_ | refine' DA ?_ | refine' DK0 ?_ | refine' DT ?_ | refine' DS ?_))
 refine' DJ.callS rfl rfl rfl rfl rfl (cO func29) (fun G hG hd=>hlearn _ hG) ?_;rotate_left
 (repeat (first | refine' DV ?_ | refine' DA ?_ | refine' DK0 ?_ | refine' DT ?_ | refine' DS ?_))
 refine' DJ.ofVal (ValOk.idx1 tO rfl rfl rfl rfl rfl rfl rfl rfl (hxs) (0) (rfl) (oM) (hu0)) rfl rfl rfl ?_;rotate_left
 (repeat (first | refine' DV ?_ | refine' DA ?_ | refine' DK0 ?_ | refine' DT ?_ | refine' DS ?_))
 rw [show ((W:Int) != w)=false by rw [hw];exact bne_self_eq_false _]
 (repeat (first | refine' DV ?_ | refine' DA ?_ | refine' DK0 ?_ | refine' DT ?_ | (refine' DC (hln) (h:=?_);rotate_left) | refine' DS ?_))
 rw [bne_self_eq_false]
 (repeat (first | refine' DV ?_ | refine' DA ?_ | refine' DK0 ?_ | refine' DT ?_ | refine' DS ?_))
 (refine DJ.nil (fun G1 hG1 hF1=>?_);(case hS|hS2=>rfl))
 have hmo:missOf kd' cl' w kd' cl' (W:Int) (allM (missM kd' cl' (ts.zip os) X ls vs) X.length)=if (allM (missM kd' cl' (ts.zip os) X ls vs) X.length).length=0 then (0,7) else (meanL (allM (missM kd' cl' (ts.zip os) X ls vs) X.length),0):=by unfold missOf;rw [if_pos ⟨rfl,rfl⟩,if_pos hw]
 have hmh:=fun n=>allM_ht (f:=missM kd' cl' (ts.zip os) X ls vs) (missM_ht hok h0.2 hvs) n
 have hml:=fun n=>allM_len (f:=missM kd' cl' (ts.zip os) X ls vs) (missM_len kd' cl' (ts.zip os) X ls vs) n
 generalize hM:missM kd' cl' (ts.zip os) X ls vs=mm at *
 rw [hmo]
 try refine RUN ?_
 refine EVL.call rfl rfl rfl rfl rfl (hz0 _) ?_
 intro s1 G2 hs1 hG2
 obtain ⟨zb1,zb2,zb3,zb4,zb5,zb6,rfl,_⟩:=id hs1
 try refine RUN ?_
 refine EV.loopK (ι:=Nat × List Value) [2,3,4,6,9] [3,4,6] (fun q=>[(8,.v (.int .i64 ((allM mm q.1).length:Int))),(10,.v (.int .i64 (q.1:Int)))]) (fun q=>[(9,36,q.2)]) (fun _=>[]) (fun q G=>q.1≤X.length∧RQc G q.2 (sumQ (allM mm q.1))) (fun q=>X.length-q.1) ((0,_)) rfl rfl ⟨rfl,rfl,trivial⟩ ⟨rfl,trivial⟩ rfl (fun _=>rfl) (⟨Nat.zero_le _,⟨_,_,_,_,_,_,_,rfl,hs1⟩⟩) ?_
 rintro ⟨r,sc⟩ G3 hG3 ⟨hr,hs⟩
 dsimp only at hr hs
 obtain ⟨zb,zb1,zb2,zb3,zb4,zb5,zb6,rfl,hs⟩:=hs
 have hH3:=(hG1.trans hG2).trans hG3
 have hsh:=ht_sum 160094 (allM mm r) (hmh r)
 have hmr:=hml r
 try refine RUN ?_
 refine EV.cond rfl (fun hlt=>?_) (fun hlt=>?_)
 ·simp only [nN] at hlt
  obtain ⟨x,hxr⟩:∃ x,X[r]?=some x:=⟨_,List.getElem?_eq_getElem hlt⟩
  obtain ⟨xu,xe,hxu,hxq⟩:=hxv.at hxr
  obtain ⟨hxl,hx5⟩:=hXw x (List.mem_of_getElem? hxr)
  have hxD:X.getD r []=x:=by rw [List.getD_eq_getElem?_getD,hxr];rfl
  try refine RUN ?_
  refine EV.loopK (ι:=Nat × Value × List (List Value) × Ows) [2,3,4,6,8,9,10] [3,4,6,9] (fun q=>[(11,.v q.2.1),(12,.v (.int .i64 (q.1:Int)))]) (fun _=>[]) (fun q=>q.2.2.2) (fun q G=>q.1≤ts.length∧RTs G q.2.2.1 (seenT ((ts.zip os).take q.1) (r:Int))∧OwnL 53 4 q.2.1 (seenT ((ts.zip os).take q.1) (r:Int)).length q.2.2.1.flatten q.2.2.2) (fun q=>ts.length-q.1) ((0,.slice none 0 0,[],[])) rfl rfl ⟨rfl,rfl,trivial⟩ trivial rfl (fun _=>rfl) (⟨Nat.zero_le _,⟨rfl,fun j c n e1 e2=>by cases e1⟩,OwnL.nil _ _⟩) ?_
  rintro ⟨i,vT,ps,ow⟩ G4 hG4 ⟨hi,hps,hown⟩
  dsimp only at hi hps hown
  have hH4:=hH3.trans hG4
  try refine RUN ?_
  refine EV.cond rfl (fun hli=>?_) (fun hli=>?_)
  ·simp only [nN] at hli
   have hio:i<os.length:=by omega
   obtain ⟨t,hti⟩:∃ t,ts[i]?=some t:=⟨_,List.getElem?_eq_getElem hli⟩
   obtain ⟨l,hl⟩:∃ l,os[i]?=some l:=⟨_,List.getElem?_eq_getElem hio⟩
   obtain ⟨la,lc,hv,hil⟩:=(hos.mono hH4).get hl
   obtain ⟨hlk,hll⟩:=hlo l (List.mem_of_getElem? hl)
   have hup:=okL_up hlk
   have hzs:=seenT_snoc ((ts.zip os).take i) (t,l) (r:Int)
   rw [← take_snoc (zip_at hti hl)] at hzs
   dsimp only at hzs
   have hBl:(seenT ((ts.zip os).take i) (r:Int)).length≤i:=Nat.le_trans (seenT_len _ _) (by rw [List.length_take];exact Nat.min_le_left _ _)
   generalize seenT ((ts.zip os).take i) (r:Int)=B at *
   try refine RUN ?_
   refine EV.loopK (ι:=Nat × Value × List (List Value) × Ows) [2,3,4,6,8,9,10,12] [3,4,6,9] (fun q=>[(11,.v q.2.1),(13,.v (.int .i64 (q.1:Int)))]) (fun _=>[]) (fun q=>q.2.2.2) (fun q G=>q.1≤l.length∧RTs G q.2.2.1 (B++if (l.take q.1).contains (r:Int) then [t] else [])∧OwnL 53 4 q.2.1 (B++if (l.take q.1).contains (r:Int) then [t] else []).length q.2.2.1.flatten q.2.2.2) (fun q=>l.length-q.1) ((0,vT,ps,ow)) rfl rfl ⟨rfl,rfl,trivial⟩ trivial rfl (fun _=>rfl) (⟨Nat.zero_le _,by rw [show (B++if (l.take 0).contains (r:Int) then [t] else [])=B from List.append_nil B];exact hps,by rw [show (B++if (l.take 0).contains (r:Int) then [t] else [])=B from List.append_nil B];exact hown⟩) ?_
   clear hps hown
   rintro ⟨k,vT,ps,ow⟩ G5 hG5 ⟨hk,hps,hown⟩
   dsimp only at hk hps hown
   have hH5:=hH4.trans hG5
   try refine RUN ?_
   refine EVL.idxR tO rfl rfl rfl rfl rfl rfl rfl rfl rfl rfl ((hso.mono hH5)) (i) (rfl) (hio) (hv) ?_
   try refine RUN ?_
   refine EV.cond rfl (fun hlk2=>?_) (fun hlk2=>?_)
   ·simp only [nN] at hlk2
    obtain ⟨z,hz⟩:∃ z,l[k]?=some z:=⟨_,List.getElem?_eq_getElem hlk2⟩
    try refine RUN ?_
    refine EVL.idxR tO rfl rfl rfl rfl rfl rfl rfl rfl rfl rfl ((hso.mono hH5)) (i) (rfl) (hio) (hv) ?_
    try refine RUN ?_
    refine EVL.idxR tO rfl rfl rfl rfl rfl rfl rfl rfl rfl rfl ((hil.mono hG5)) (k) (rfl) (hlk2) ((by rw [List.getElem?_map,hz];rfl)) ?_
    try refine RUN ?_
    by_cases hzr:z=(r:Int)
    ·subst hzr
     obtain ⟨m1,m2⟩:=up_mem hup hz
     rw [m1,if_neg (by decide),List.append_nil] at hps hown
     obtain ⟨c,hcut,htr⟩:=(hts.mono hH5).get hti
     have htr':=htr
     obtain ⟨a3,c3,css,rfl,_,_⟩:=id htr
     rw [beq_self_eq_true]
     try refine RUN ?_
     refine EVL.idxM tO rfl rfl rfl rfl rfl rfl rfl rfl rfl ((hst.mono hH5)) (i) (rfl) (hli) (hcut) ?_
     try refine RUN ?_
     refine EVL.app1 tO rfl rfl rfl rfl rfl rfl rfl rfl rfl rfl rfl rfl rfl rfl rfl rfl rfl rfl rfl (fun _=>rfl) (ow) ([]) ((List.append_nil _).symm) (hown) (oM) fun _=>?_
     intro v' ow' hown'
     try refine RUN ?_
     refine ⟨(k+1,v',ps++[_],ow'),⟨rfl,by dsimp only;rw [wi_inc k (by omega)];rfl,trivial⟩,sB,trivial,sB,by dsimp only;rw [List.append_nil],⟨hlk2,by dsimp only;rw [m2,if_pos rfl];exact rel_snoc hps htr',by dsimp only;rw [m2,if_pos rfl,List.length_append,List.flatten_append,flatS];exact hown'⟩,Hp.Le.refl _,by dsimp only;omega⟩
    ·rw [beq_eq_false_iff_ne.2 hzr]
     have m3:=take_contains hz hzr
     try refine RUN ?_
     refine ⟨(k+1,vT,ps,ow),⟨rfl,by dsimp only;rw [wi_inc k (by omega)];rfl,trivial⟩,sB,trivial,sB,rfl,⟨hlk2,by dsimp only;rw [m3];exact hps,by dsimp only;rw [m3];exact hown⟩,Hp.Le.refl _,by dsimp only;omega⟩
   ·simp only [nN] at hlk2
    obtain rfl:k=l.length:=by omega
    rw [List.take_length,← hzs] at hps hown
    try refine RUN ?_
    refine ⟨(i+1,vT,ps,ow),⟨rfl,by dsimp only;rw [wi_inc i (by omega)];rfl,trivial⟩,sB,trivial,sB,rfl,⟨hli,hps,hown⟩,hG5,by dsimp only;omega⟩
  ·simp only [nN] at hli
   obtain rfl:i=ts.length:=by omega
   have hzl:(ts.zip os).length=ts.length:=by rw [List.length_zip];omega
   rw [show (ts.zip os).take ts.length=ts.zip os from List.take_of_length_le (by omega)] at hps hown
   have hsok:=seenT_ok (os:=os) hok (r:Int)
   have hsle:=seenT_le ts os (r:Int)
   have hmm:mm r=missM kd' cl' (ts.zip os) X ls vs r:=by rw [hM]
   unfold missM at hmm
   rw [hxD] at hmm
   have hms:=allM_succ mm r
   generalize seenT (ts.zip os) (r:Int)=T at *
   obtain ⟨ta,tc,rfl⟩:=hown.val
   by_cases hT0:T.length=0
   ·rw [if_pos hT0] at hmm
    rw [hmm,List.append_nil] at hms
    rw [hT0]
    refine EV.subOw [] ow [] (List.append_nil _).symm ?_
    try refine RUN ?_
    refine ⟨(r+1,_),⟨by dsimp only;rw [hms];rfl,by dsimp only;rw [wi_inc r (by omega)];rfl,trivial⟩,sB,⟨rfl,trivial⟩,sB,rfl,⟨hlt,⟨_,_,_,_,_,_,_,rfl,by dsimp only;rw [hms];exact hs.mono hG4⟩⟩,hG4,by dsimp only;omega⟩
   ·rw [if_neg hT0] at hmm
    have hT1:0<T.length:=by omega
    (first | refine EVL.publishL [] ow [] ((List.append_nil _).symm) hown fun G5 hG5 hsT=>?_ | refine EV.publishL [] ow [] ((List.append_nil _).symm) hown fun G5 hG5 hsT=>?_)
    have hTL:RTL G5 (.slice ta T.length tc) T:=⟨ps,hps.mono hG5,hsT⟩
    have hH5:=(hH3.trans hG4).trans hG5
    have hans:=fun G (hG:G5.Le G)=>ranswers_pc (hTL.mono hG) hsok hT1 oM ((hxq.mono hH5).mono hG) (by rw [hxl];exact hw) (fun q hq=>by have:=hx5 q hq;unfold rq;omega)
    have hAL:=ansL_len (x:=x) (ts:=T) (fit_kind hT1 hsok)
    have hkd:=fit_kind hT1 hsok
    have hsq:=fun {v:Rat} (hv:ht v≤5)=>ansQ_sq x hsok oM hv
    have hAQ:=ansQ_ht x hsok oM
    generalize ansL kd' cl' x T=AL at *
    generalize ansQ kd' x T=AQ at *
    have hs5:=hs.mono (hG4.trans hG5)
    try refine RUN ?_
    rw [show ((T.length:Int) == 0)=false from beq_eq_false_iff_ne.2 (by omega)]
    try refine RUN ?_
    rw [wi_inc (allM mm r).length (by omega)]
    apply EV.drawn 13 kR kR;intro xv yw
    (repeat (first | refine' DV ?_ | refine' DA ?_ | refine' DK0 ?_ | refine' DT ?_ | refine' DS ?_))
    refine' DJ.ofVal (ValOk.idx1 tO rfl rfl rfl rfl rfl rfl rfl rfl ((hxs.mono hH5)) (r) (rfl) (hlt) (hxu)) rfl rfl rfl ?_;rotate_left
    (repeat (first | refine' DV ?_ | refine' DA ?_ | refine' DK0 ?_ | refine' DT ?_ | refine' DS ?_))
    (refine' DJ.call rfl rfl rfl rfl rfl (cO func58) (fun G hG hd=>hans _ hG) (fun v G G' ⟨v',s,e,h1,h2⟩ k=>⟨v',s,e,SlC.mono h1 k,h2.mono k⟩) ?_;rotate_left)
    refine' DJ.copy (7) (by first | exact .inl rfl | exact .inr rfl) rfl rfl rfl id rfl kR ?_;rotate_left
    refine' DJ.extract (7) rfl rfl rfl rfl rfl kR (fun G hd=>(by obtain ⟨v',s,e,_⟩:=hd.head kR;exact ⟨_,e,Nat.zero_lt_succ _⟩)) ?_;rotate_left
    refine' DJ.extract (7) rfl rfl rfl rfl rfl kR (fun G hd=>(by obtain ⟨v',s,e,_⟩:=hd.head kR;exact ⟨_,e,Nat.lt_succ_self _⟩)) ?_;rotate_left
    (repeat (first | refine' DV ?_ | refine' DA ?_ | refine' DK0 ?_ | refine' DT ?_ | refine' DS ?_))
    (refine' DJ.copy 7 (by first | exact .inl rfl | exact .inr rfl) rfl rfl rfl (tupAt 0) rfl kR ?_;rotate_left)
    (refine DJ.nil (fun G6 hG6 hF6=>?_);(case hS|hS2=>rfl))
    obtain ⟨⟨v6,s6,e6,hv6,hs6⟩,_⟩:=hF6
    obtain ⟨va6,vc6,rfl⟩:=SlC.val hv6
    obtain ⟨yb1,yb2,yb3,yb4,yb5,yb6,rfl,_⟩:=id hs6
    rw [e6]
    try refine RUN ?_
    have hH6:=hH5.trans hG6
    rcases hgl with ⟨rfl,hls,hlN⟩ | ⟨rfl,hvq,hvN⟩
    ·obtain ⟨z,hz⟩:∃ z,ls[r]?=some z:=⟨_,List.getElem?_eq_getElem oM⟩
     have hzD:ls.getD r 0=z:=by rw [List.getD_eq_getElem?_getD,hz];rfl
     rw [if_neg (by decide),hzD] at hmm
     rw [hmm] at hms
     try refine RUN ?_
     apply EV.drawn 8 kR kR;intro xv yw
     (repeat (first | refine' DV ?_ | refine' DA ?_ | refine' DK0 ?_ | refine' DT ?_ | refine' DS ?_))
     refine' DJ.callS rfl rfl rfl rfl rfl (cO func62) (fun G hG hd=>refTop_pc (SlC.mono hv6 hG) oM) ?_;rotate_left
     (repeat (first | refine' DV ?_ | refine' DA ?_ | refine' DK0 ?_ | refine' DT ?_ | refine' DS ?_))
     refine' DJ.ofVal (ValOk.idx1 tO rfl rfl rfl rfl rfl rfl rfl rfl ((SlC.mono hls hH6)) (r) (rfl) (oM) ((by rw [List.getElem?_map,hz];rfl))) rfl rfl rfl ?_;rotate_left
     (repeat (first | refine' DV ?_ | refine' DA ?_ | refine' DK0 ?_ | refine' DT ?_ | refine' DS ?_))
     (refine DJ.nil (fun G7 hG7 hF7=>?_);(case hS|hS2=>rfl))
     by_cases htz:((topN AL AL.length:Nat):Int)=z
     ·rw [show (((topN AL AL.length:Nat):Int) != z)=false by rw [htz];exact bne_self_eq_false _]
      rw [if_pos htz] at hms
      try refine RUN ?_
      refine ⟨(r+1,_),⟨by dsimp only;rw [hms,List.length_append];rfl,by dsimp only;rw [wi_inc r (by omega)];rfl,trivial⟩,sB,⟨rfl,trivial⟩,sB,rfl,⟨hlt,⟨_,_,_,_,_,_,_,rfl,by dsimp only;rw [hms,sumQ_snoc,Rat.add_zero];exact hs5.mono (hG6.trans hG7)⟩⟩,(hG4.trans hG5).trans (hG6.trans hG7),by dsimp only;omega⟩
     ·rw [show (((topN AL AL.length:Nat):Int) != z)=true from bne_iff_ne.2 htz]
      rw [if_neg htz] at hms
      try refine RUN ?_
      apply EV.drawn 3 kR kR;intro xv yw
      (repeat (first | refine' DV ?_ | refine' DA ?_ | refine' DK0 ?_ | refine' DT ?_ | refine' DS ?_))
      refine' DJ.call rfl rfl rfl rfl rfl (cO func43) (fun G hG hd=>hz1 _) (fun _ _ _ h k=>RQ.mono h k) ?_;rotate_left
      refine' DJ.call rfl rfl rfl rfl rfl (cO func60) (fun G hG hd=>refAdd_pc ((hs5.mono (hG6.trans hG7)).mono hG) (hd.head kR) (by unfold rq;omega) (by show ht 1≤100000000;decide +kernel)) (fun _ _ _ h k=>RQ.mono h k) ?_;rotate_left
      (refine DJ.nil (fun G8 hG8 hF8=>?_);(case hS|hS2=>rfl))
      obtain ⟨hq,_⟩:=hF8
      obtain ⟨zz1,zz2,zz3,zz4,zz5,zz6,e,_⟩:=id hq
      rw [e] at hq
      rw [e]
      try refine RUN ?_
      refine ⟨(r+1,_),⟨by dsimp only;rw [hms,List.length_append];rfl,by dsimp only;rw [wi_inc r (by omega)];rfl,trivial⟩,sB,⟨rfl,trivial⟩,sB,rfl,⟨hlt,⟨_,_,_,_,_,_,_,rfl,by dsimp only;rw [hms,sumQ_snoc];exact hq⟩⟩,(hG4.trans hG5).trans ((hG6.trans hG7).trans hG8),by dsimp only;omega⟩
    ·obtain ⟨z,hz⟩:∃ z,vs[r]?=some z:=⟨_,List.getElem?_eq_getElem oM⟩
     have hzD:vs.getD r 0=z:=by rw [List.getD_eq_getElem?_getD,hz];rfl
     have hz5:=hvs z (List.mem_of_getElem? hz)
     obtain ⟨hq1,hq2⟩:=hsq hz5
     rw [if_pos rfl,hzD] at hmm
     rw [hmm] at hms
     obtain ⟨xcs,xb,ya1,yl1,yc1,ya2,yl2,yc2,hxS,hxcut,hxq'⟩:=hvq.slc hz
     try refine RUN ?_
     apply EV.drawn 8 kR kR;intro xv yw
     (repeat (first | refine' DV ?_ | refine' DA ?_ | refine' DK0 ?_ | refine' DT ?_ | refine' DS ?_))
     refine' DJ.idxM tO rfl rfl rfl rfl rfl rfl rfl rfl rfl ((SlC.mono hxS hH6)) (r) (rfl) (oM) (hxcut) ?_;rotate_left
     (repeat (first | refine' DV ?_ | refine' DA ?_ | refine' DK0 ?_ | refine' DT ?_ | refine' DS ?_))
     refine' DJ.call rfl rfl rfl rfl rfl (cO func59) (fun G hG hd=>refSub_pc (hs6.mono hG) ((hxq'.mono hH6).mono hG) (by unfold rq;omega) (by unfold rq;omega)) (fun _ _ _ h k=>RQ.mono h k) ?_;rotate_left
     (repeat (first | refine' DV ?_ | refine' DA ?_ | refine' DK0 ?_ | refine' DT ?_ | refine' DS ?_))
     (refine DJ.nil (fun G7 hG7 hF7=>?_);(case hS|hS2=>rfl))
     obtain ⟨hd7,_⟩:=hF7
     obtain ⟨zz1,zz2,zz3,zz4,zz5,zz6,e,_⟩:=id hd7
     rw [e] at hd7
     rw [e]
     try refine RUN ?_
     apply EV.drawn 5 kR kR;intro xv yw
     (repeat (first | refine' DV ?_ | refine' DA ?_ | refine' DK0 ?_ | refine' DT ?_ | refine' DS ?_))
     refine' DJ.call rfl rfl rfl rfl rfl (cO func61) (fun G hG hd=>refMulQ_pc (hd7.mono hG) (hd7.mono hG) (by unfold rq;omega) (by unfold rq;omega)) (fun _ _ _ h k=>RQ.mono h k) ?_;rotate_left
     refine' DJ.call rfl rfl rfl rfl rfl (cO func60) (fun G hG hd=>refAdd_pc ((hs5.mono (hG6.trans hG7)).mono hG) (hd.head kR) (by unfold rq;omega) (by unfold rq;omega)) (fun _ _ _ h k=>RQ.mono h k) ?_;rotate_left
     (refine DJ.nil (fun G8 hG8 hF8=>?_);(case hS|hS2=>rfl))
     obtain ⟨hq,_⟩:=hF8
     obtain ⟨zy1,zy2,zy3,zy4,zy5,zy6,e2,_⟩:=id hq
     rw [e2] at hq
     rw [e2]
     try refine RUN ?_
     refine ⟨(r+1,_),⟨by dsimp only;rw [hms,List.length_append];rfl,by dsimp only;rw [wi_inc r (by omega)];rfl,trivial⟩,sB,⟨rfl,trivial⟩,sB,rfl,⟨hlt,⟨_,_,_,_,_,_,_,rfl,by dsimp only;rw [hms,sumQ_snoc];exact hq⟩⟩,(hG4.trans hG5).trans ((hG6.trans hG7).trans hG8),by dsimp only;omega⟩
 ·simp only [nN] at hlt
  obtain rfl:r=X.length:=by omega
  by_cases hm0:(allM mm X.length).length=0
  ·rw [if_pos hm0,hm0]
   try refine RUN ?_
   refine EVL.call rfl rfl rfl rfl rfl (hz0 _) ?_
   intro s9 G9 hs9 hG9
   obtain ⟨yb1,yb2,yb3,yb4,yb5,yb6,rfl,_⟩:=id hs9
   try refine RUN ?_
   exact ⟨_,rfl,hs9⟩
  ·rw [if_neg hm0]
   have hln9:=ht_len (n:=(allM mm X.length).length) oM
   have hsl:=hml X.length
   try refine RUN ?_
   rw [show ((((allM mm X.length).length:Nat):Int) == 0)=false from beq_eq_false_iff_ne.2 (by omega)]
   try refine RUN ?_
   apply EV.drawn 4 kR kR;intro xv yw
   (repeat (first | refine' DV ?_ | refine' DA ?_ | refine' DK0 ?_ | refine' DT ?_ | refine' DS ?_))
   refine' DJ.call rfl rfl rfl rfl rfl (cO func43) (fun G hG hd=>refOf_pc (((allM mm X.length).length:Nat):Int) oM oM) (fun _ _ _ h k=>RQ.mono h k) ?_;rotate_left
   refine' DJ.call rfl rfl rfl rfl rfl (cO func63) (fun G hG hd=>refDivQ_pc (hs.mono hG) (hd.head kR) (by unfold rq;omega) (by unfold rq;omega) (by show (((allM mm X.length).length:Nat):Int)≠0;omega)) (fun _ _ _ h k=>RQ.mono h k) ?_;rotate_left
   (refine DJ.nil (fun G4 hG4 hF4=>?_);(case hS|hS2=>rfl))
   obtain ⟨hq,_⟩:=hF4
   obtain ⟨yb1,yb2,yb3,yb4,yb5,yb6,e,_⟩:=id hq
   rw [e] at hq
   rw [e]
   try refine RUN ?_
   exact ⟨_,rfl,hq⟩
theorem CLs.ans {C:Nat} {x:List Rat} {ks:List Int} {ts:List Tr} (h:CLs x ks ts):cntL C ks=ansL 1 (C:Int) x ts:=by
 unfold ansL;rw [if_pos rfl,← h.eq,Int.toNat_natCast]
theorem VLs.ans {x:List Rat} {qs:List Rat} {ts:List Tr} (h:VLs x qs ts):meanL qs=ansQ 2 x ts:=by
 unfold ansQ;rw [if_neg (by decide),← h.eq]
theorem panswers_pc {H:Hp} {kd cl w:Int} {vt vo:Value} {a:Option Addr} {cp:Nat} {vx:Value} {ts:List Tr} {x:List Rat} (ht:PTL H (.slice a ts.length cp) ts) (hok:∀ t,t∈ts→TreeOk t∧fitT kd cl w t=true) (h0:0<ts.length) (hn:ts.length≤20) (hx:QL H vx x) (hxl:(x.length:Int)=w) (hxs:∀ q,q∈x→sm q) :
  PC prog 45 #[forestV kd cl w vt vo,.slice a ts.length cp,vx] H fun r _=>r=.tuple #[fracV (ansQ kd x ts),.int .i64 (topN (ansL kd cl x ts) (ansL kd cl x ts).length:Nat)]:=by
 rcases fit_kind h0 hok with ⟨rfl,h1,h2⟩ | ⟨rfl,rfl⟩
 ·obtain ⟨C,rfl⟩:=Int.eq_ofNat_of_zero_le (show 0≤cl by omega)
  refine (answerC_pc ht hok oM oM hx hxl hxs).mono ?_
  rintro r G ⟨ks,hks,rfl⟩ _
  have e:ansQ 1 x ts=0:=by unfold ansQ;rw [if_pos rfl]
  rw [e,← hks.ans,cntL_len]
 ·refine (answerV_pc ht hok h0 hn hx hxl hxs).mono ?_
  rintro r G ⟨qs,hqs,rfl⟩ _
  rw [hqs.ans]
  rfl
set_option maxRecDepth 100000 in
set_option maxHeartbeats 64000000 in
theorem pmiss_pc {H:Hp} {kd cl w:Int} {a1 a2:Option Addr} {c1 c2:Nat} {ts:List Tr} {os:List (List Int)} (hT:PTL H (.slice a1 ts.length c1) ts) (hO:ILL H (.slice a2 os.length c2) os) (hok:∀ t,t∈ts→TreeOk t∧fitT kd cl w t=true) (hlo:∀ l,l∈os→okL l=true∧l.length≤300) (hol:os.length=ts.length) (h0:1≤ts.length∧ts.length≤20)
  {kd' cl':Int} {ga va:Option Addr} {gn gc vn vc W:Nat} {ls:List Int} {vs:List Rat} {vx:Value} {X:List (List Rat)} (hgl:(kd'=1∧IL H (.slice ga gn gc) ls∧ls.length=X.length)∨(kd'=2∧QL H (.slice va vn vc) vs∧vs.length=X.length)) (hvs:∀ v,v∈vs→ht v≤5)
  (hck:∀ G,H.Le G→PC prog 51 #[goalV kd' cl' (.slice ga gn gc) (.slice va vn vc)] G fun r _=>r=.int .i64 0) (hln:PV prog 53 #[goalV kd' cl' (.slice ga gn gc) (.slice va vn vc)] (.int .i64 (X.length:Int)))
  (hX:QLL H vx X) (hXw:∀ x,x∈X→x.length=W∧∀ q,q∈x→ht q≤5) (hW:1≤W∧W≤20) (hN:1≤X.length∧X.length≤20) :
  PC prog 17 #[forestV kd cl w (.slice a1 ts.length c1) (.slice a2 os.length c2),goalV kd' cl' (.slice ga gn gc) (.slice va vn vc),vx] H fun r _=>r=.tuple #[fracV (missOf kd cl w kd' cl' (W:Int) (allM (missM kd cl (ts.zip os) X ls vs) X.length)).1,.int .i64 (missOf kd cl w kd' cl' (W:Int) (allM (missM kd cl (ts.zip os) X ls vs) X.length)).2]:=by
 have hcf:checkF kd cl w ts os=0:=checkF_ok oM oM hol (fun t ht=>(hok t ht).2) (fun l hl=>(hlo l hl).1)
 have hrc:=fun (G:Hp) (hG:H.Le G)=>pcheckF_pc (kd:=kd) (cl:=cl) (w:=w) (hT.mono hG) (hO.mono hG) (fun t ht=>(hok t ht).1) (fun l hl=>by have:=(hlo l hl).2;omega) oM
 rw [hcf] at hrc
 have hvalid:=fun (G:Hp) (hG:H.Le G)=>valid_pc (hX.mono hG) hN.1 oM hW (fun x hx=>(hXw x hx).1)
 have hf0:=fracV_zero
 have hof0:=of_pv 0 oM oM
 have hof1:=of_pv 1 oM oM
 rw [show ((0:Int):Rat)=0 from rfl] at hof0
 rw [show ((1:Int):Rat)=1 from rfl] at hof1
 obtain ⟨tcs,hts,hst⟩:=id hT
 obtain ⟨vos,hos,hso⟩:=id hO
 obtain ⟨xa,xc,rfl⟩:=hX.val
 obtain ⟨xvs,hxv,hxs⟩:=id hX
 obtain ⟨x0,hx0⟩:∃ x,X[0]?=some x:=⟨_,List.getElem?_eq_getElem oM⟩
 obtain ⟨u0,e0,hu0,_⟩:=hxv.at hx0
 rw [(hXw x0 (List.mem_of_getElem? hx0)).1] at hu0
 refine BD func17 ntmps17 ?_
 repeat (first | refine RUN ?_ | refine CV (hrc _ (Hp.Le.refl _)) ?_ | refine CV (hck _ (Hp.Le.refl _)) ?_ | refine CE (hrc _ (Hp.Le.refl _)) ?_ | refine CE (hck _ (Hp.Le.refl _)) ?_)
 by_cases hk:kd'=kd∧cl'=cl
 case neg =>
  have hmo:missOf kd cl w kd' cl' (W:Int) (allM (missM kd cl (ts.zip os) X ls vs) X.length)=(0,10):=by unfold missOf;rw [if_neg hk]
  rw [hmo]
  dsimp only
  rw [hf0]
  by_cases e1:kd'=kd
  ·have e2:¬ cl'=cl:=fun e=>hk ⟨e1,e⟩
   rw [show (kd' != kd)=false by rw [e1];exact bne_self_eq_false _]
   try refine RUN ?_
   rw [show (cl' != cl)=true from bne_iff_ne.2 e2]
   try refine RUN ?_
   rfl
  ·rw [show (kd' != kd)=true from bne_iff_ne.2 e1]
   try refine RUN ?_
   rfl
 obtain ⟨rfl,rfl⟩:=hk
 rw [bne_self_eq_false]
 try refine RUN ?_
 rw [bne_self_eq_false]
 try refine RUN ?_
 by_cases hw:(W:Int)=w
 case neg =>
  have hmo:missOf kd' cl' w kd' cl' (W:Int) (allM (missM kd' cl' (ts.zip os) X ls vs) X.length)=(0,5):=by unfold missOf;rw [if_pos ⟨rfl,rfl⟩,if_neg hw]
  rw [hmo]
  dsimp only
  rw [hf0]
  apply EV.drawn 19 kR kR;intro xv yw
  (repeat (first | refine' DV ?_ | refine' DA ?_ | refine' DK0 ?_ | refine' DT ?_ | refine' DS ?_))
  refine' DJ.callS rfl rfl rfl rfl rfl (cO func52) (fun G hG hd=>hvalid _ hG) ?_;rotate_left
  (repeat (first | refine' DV ?_ | refine' DA ?_ | refine' DK0 ?_ | refine' DT ?_ | refine' DS ?_))
  refine' DJ.ofVal (ValOk.idx1 tO rfl rfl rfl rfl rfl rfl rfl rfl (hxs) (0) (rfl) (oM) (hu0)) rfl rfl rfl ?_;rotate_left
  (repeat (first | refine' DV ?_ | refine' DA ?_ | refine' DK0 ?_ | refine' DT ?_ | refine' DS ?_))
  rw [show ((W:Int) != w)=true from bne_iff_ne.2 hw]
  (repeat (first | refine' DV ?_ | refine' DA ?_ | refine' DK0 ?_ | refine' DT ?_ | refine' DS ?_))
  (refine DJ.nil (fun G1 hG1 hF1=>?_);(case hS|hS2=>rfl))
  try refine RUN ?_
  rfl
 apply EV.drawn 19 kR kR;intro xv yw
 (repeat (first | refine' DV ?_ | refine' DA ?_ | refine' DK0 ?_ | refine' DT ?_ | refine' DS ?_))
 refine' DJ.callS rfl rfl rfl rfl rfl (cO func52) (fun G hG hd=>hvalid _ hG) ?_;rotate_left
 (repeat (first | refine' DV ?_ | refine' DA ?_ | refine' DK0 ?_ | refine' DT ?_ | refine' DS ?_))
 refine' DJ.ofVal (ValOk.idx1 tO rfl rfl rfl rfl rfl rfl rfl rfl (hxs) (0) (rfl) (oM) (hu0)) rfl rfl rfl ?_;rotate_left
 (repeat (first | refine' DV ?_ | refine' DA ?_ | refine' DK0 ?_ | refine' DT ?_ | refine' DS ?_))
 rw [show ((W:Int) != w)=false by rw [hw];exact bne_self_eq_false _]
 (repeat (first | refine' DV ?_ | refine' DA ?_ | refine' DK0 ?_ | refine' DT ?_ | (refine' DC (hln) (h:=?_);rotate_left) | refine' DS ?_))
 rw [bne_self_eq_false]
 (repeat (first | refine' DV ?_ | refine' DA ?_ | refine' DK0 ?_ | refine' DT ?_ | refine' DS ?_))
 (refine DJ.nil (fun G1 hG1 hF1=>?_);(case hS|hS2=>rfl))
 have hmo:missOf kd' cl' w kd' cl' (W:Int) (allM (missM kd' cl' (ts.zip os) X ls vs) X.length)=if (allM (missM kd' cl' (ts.zip os) X ls vs) X.length).length=0 then (0,7) else (meanL (allM (missM kd' cl' (ts.zip os) X ls vs) X.length),0):=by unfold missOf;rw [if_pos ⟨rfl,rfl⟩,if_pos hw]
 have hmh:=fun n=>allM_ht (f:=missM kd' cl' (ts.zip os) X ls vs) (missM_ht hok h0.2 hvs) n
 have hml:=fun n=>allM_len (f:=missM kd' cl' (ts.zip os) X ls vs) (missM_len kd' cl' (ts.zip os) X ls vs) n
 generalize hM:missM kd' cl' (ts.zip os) X ls vs=mm at *
 rw [hmo]
 try refine RUN ?_
 refine EV.loopK (ι:=Nat × Value × Ows) [3,4,6,63,64] [3,4,6] (fun q=>[(8,.v q.2.1),(65,.v (.int .i64 (q.1:Int)))]) (fun _=>[]) (fun q=>q.2.2) (fun q G=>q.1≤X.length∧OwnL 67 5 q.2.1 (allM mm q.1).length ((allM mm q.1).flatMap cqF) q.2.2) (fun q=>X.length-q.1) ((0,.slice none 0 0,[])) rfl rfl ⟨rfl,rfl,trivial⟩ trivial rfl (fun _=>rfl) (⟨Nat.zero_le _,OwnL.nil _ _⟩) ?_
 rintro ⟨r,vQ,owQ⟩ G3 hG3 ⟨hr,hownQ⟩
 dsimp only at hr hownQ
 obtain ⟨qa,qc,rfl⟩:=hownQ.val
 have hH3:=hG1.trans hG3
 have hmr:=hml r
 try refine RUN ?_
 refine EV.cond rfl (fun hlt=>?_) (fun hlt=>?_)
 ·simp only [nN] at hlt
  obtain ⟨x,hxr⟩:∃ x,X[r]?=some x:=⟨_,List.getElem?_eq_getElem hlt⟩
  obtain ⟨xu,xe,hxu,hxq⟩:=hxv.at hxr
  obtain ⟨hxl,hx5⟩:=hXw x (List.mem_of_getElem? hxr)
  have hxD:X.getD r []=x:=by rw [List.getD_eq_getElem?_getD,hxr];rfl
  try refine RUN ?_
  refine EVL.idxR tO rfl rfl rfl rfl rfl rfl rfl rfl rfl rfl ((hxs.mono hH3)) (r) (rfl) (hlt) (hxu) ?_
  try refine RUN ?_
  refine EV.loopK (ι:=Nat × Value × List (List Value) × Ows) [3,4,6,8,9,10,63,64,65,71,72] [3,4,6] (fun q=>[(11,.v q.2.1),(73,.v (.int .i64 (q.1:Int)))]) (fun _=>[]) (fun q=>q.2.2.2++owQ) (fun q G=>q.1≤os.length∧PTs G q.2.2.1 (seenT ((ts.zip os).take q.1) (r:Int))∧OwnL 110 4 q.2.1 (seenT ((ts.zip os).take q.1) (r:Int)).length q.2.2.1.flatten q.2.2.2) (fun q=>os.length-q.1) ((0,.slice none 0 0,[],[])) rfl rfl ⟨rfl,rfl,trivial⟩ trivial rfl (fun _=>rfl) (⟨Nat.zero_le _,⟨rfl,fun j c n e1 e2=>by cases e1⟩,OwnL.nil _ _⟩) ?_
  rintro ⟨i,vT,ps,ow⟩ G4 hG4 ⟨hi,hps,hown⟩
  dsimp only at hi hps hown
  obtain ⟨ta,tc,rfl⟩:=hown.val
  have hH4:=hH3.trans hG4
  try refine RUN ?_
  refine EV.cond rfl (fun hli=>?_) (fun hli=>?_)
  ·simp only [nN] at hli
   have hit:i<ts.length:=by omega
   obtain ⟨t,hti⟩:∃ t,ts[i]?=some t:=⟨_,List.getElem?_eq_getElem hit⟩
   obtain ⟨l,hl⟩:∃ l,os[i]?=some l:=⟨_,List.getElem?_eq_getElem hli⟩
   obtain ⟨la,lc,hv,hil⟩:=(hos.mono hH4).get hl
   obtain ⟨hlk,hll⟩:=hlo l (List.mem_of_getElem? hl)
   have hup:=okL_up hlk
   have hzs:=seenT_snoc ((ts.zip os).take i) (t,l) (r:Int)
   rw [← take_snoc (zip_at hti hl)] at hzs
   dsimp only at hzs
   have hBl:(seenT ((ts.zip os).take i) (r:Int)).length≤i:=Nat.le_trans (seenT_len _ _) (by rw [List.length_take];exact Nat.min_le_left _ _)
   generalize seenT ((ts.zip os).take i) (r:Int)=B at *
   try refine RUN ?_
   refine EVL.idxR tO rfl rfl rfl rfl rfl rfl rfl rfl rfl rfl ((hso.mono hH4)) (i) (rfl) (hli) (hv) ?_
   try refine RUN ?_
   refine EVL.call rfl rfl rfl rfl rfl (bsearch_pc hil hup oM (r:Int)) ?_
   rintro _ G5 ⟨p,rfl⟩ hG5
   have hH5:=hH4.trans hG5
   cases hcon:l.contains (r:Int)
   ·rw [hcon,if_neg (by decide),List.append_nil] at hzs
    try refine RUN ?_
    refine ⟨(i+1,_,ps,ow),⟨rfl,by dsimp only;rw [wi_inc i (by omega)];rfl,trivial⟩,sB,trivial,sB,rfl,⟨hli,by dsimp only;rw [hzs];exact hps.mono hG5,by dsimp only;rw [hzs];exact hown⟩,hG5,by dsimp only;omega⟩
   ·rw [hcon,if_pos rfl] at hzs
    obtain ⟨c,hcut,htr⟩:=(hts.mono hH5).get hti
    have htr':=htr
    obtain ⟨a3,c3,css,rfl,_,_⟩:=id htr
    try refine RUN ?_
    refine EVL.idxM tO rfl rfl rfl rfl rfl rfl rfl rfl rfl ((hst.mono hH5)) (i) (rfl) (hit) (hcut) ?_
    try refine RUN ?_
    refine EVL.app1 tO rfl rfl rfl rfl rfl rfl rfl rfl rfl rfl rfl rfl rfl rfl rfl rfl rfl rfl rfl (fun _=>rfl) (ow) (owQ) (rfl) (hown) (oM) fun _=>?_
    intro v' ow' hown'
    try refine RUN ?_
    refine ⟨(i+1,v',ps++[_],ow'),⟨rfl,by dsimp only;rw [wi_inc i (by omega)];rfl,trivial⟩,sB,trivial,sB,rfl,⟨hli,by dsimp only;rw [hzs];exact rel_snoc (hps.mono hG5) htr',by dsimp only;rw [hzs,List.length_append,List.flatten_append,flatS];exact hown'⟩,hG5,by dsimp only;omega⟩
  ·simp only [nN] at hli
   obtain rfl:i=os.length:=by omega
   have hzl:(ts.zip os).length=ts.length:=by rw [List.length_zip];omega
   rw [show (ts.zip os).take os.length=ts.zip os from List.take_of_length_le (by omega)] at hps hown
   have hsok:=seenT_ok (os:=os) hok (r:Int)
   have hsle:=seenT_le ts os (r:Int)
   have hmm:mm r=missM kd' cl' (ts.zip os) X ls vs r:=by rw [hM]
   unfold missM at hmm
   rw [hxD] at hmm
   have hms:=allM_succ mm r
   rw [show (ts.zip os).take os.length=ts.zip os from List.take_of_length_le (by omega)]
   generalize seenT (ts.zip os) (r:Int)=T at *
   by_cases hT0:T.length=0
   ·rw [if_pos hT0] at hmm
    rw [hmm,List.append_nil] at hms
    rw [hT0]
    refine EV.subOw [] ow owQ rfl ?_
    try refine RUN ?_
    refine ⟨(r+1,_,owQ),⟨rfl,by dsimp only;rw [wi_inc r (by omega)];rfl,trivial⟩,sB,trivial,sB,rfl,⟨hlt,by dsimp only;rw [hms];exact hownQ⟩,hG4,by dsimp only;omega⟩
   ·rw [if_neg hT0] at hmm
    have hT1:0<T.length:=by omega
    (first | refine EVL.publishL [] ow owQ (rfl) hown fun G5 hG5 hsT=>?_ | refine EV.publishL [] ow owQ (rfl) hown fun G5 hG5 hsT=>?_)
    have hTL:PTL G5 (.slice ta T.length tc) T:=⟨ps,hps.mono hG5,hsT⟩
    have hH5:=hH4.trans hG5
    have hans:=fun vt vo=>panswers_pc (vt:=vt) (vo:=vo) hTL hsok hT1 oM (hxq.mono hH5) (by rw [hxl];exact hw) (fun q hq=>by have:=hx5 q hq;show ht q≤100000000;omega)
    have hsq:=fun {v:Rat} (hv:ht v≤5)=>ansQ_sq x hsok oM hv
    have hAQ:=ansQ_ht x hsok oM
    generalize ansL kd' cl' x T=AL at *
    generalize ansQ kd' x T=AQ at *
    try refine RUN ?_
    rw [show ((T.length:Int) == 0)=false from beq_eq_false_iff_ne.2 (by omega)]
    repeat (first | refine RUN ?_ | refine CV (hans _ _) ?_ | refine CE (hans _ _) ?_)
    rcases hgl with ⟨rfl,hls,hlN⟩ | ⟨rfl,hvq,hvN⟩
    ·obtain ⟨z,hz⟩:∃ z,ls[r]?=some z:=⟨_,List.getElem?_eq_getElem oM⟩
     have hzD:ls.getD r 0=z:=by rw [List.getD_eq_getElem?_getD,hz];rfl
     rw [if_neg (by decide),hzD] at hmm
     rw [hmm] at hms
     try refine RUN ?_
     refine EVL.idxR tO rfl rfl rfl rfl rfl rfl rfl rfl rfl rfl ((SlC.mono hls hH5)) (r) (rfl) (oM) ((by rw [List.getElem?_map,hz];rfl)) ?_
     try refine RUN ?_
     by_cases htz:((topN AL AL.length:Nat):Int)=z
     ·rw [show (((topN AL AL.length:Nat):Int) != z)=false by rw [htz];exact bne_self_eq_false _]
      rw [if_pos htz] at hms
      repeat (first | refine RUN ?_ | refine CV (hof0) ?_ | refine CE (hof0) ?_)
      refine EVL.app1 tO rfl rfl rfl rfl rfl rfl rfl rfl rfl rfl rfl rfl rfl rfl rfl rfl rfl rfl rfl (fun _=>rfl) (owQ) ([]) ((List.append_nil _).symm) (hownQ) oM fun _=>?_
      intro v' ow' hown'
      try refine RUN ?_
      refine ⟨(r+1,v',ow'),⟨rfl,by dsimp only;rw [wi_inc r (by omega)];rfl,trivial⟩,sB,trivial,sB,by dsimp only;rw [List.append_nil],⟨hlt,by dsimp only;rw [hms,List.length_append,List.flatMap_append];exact hown'⟩,hG4.trans hG5,by dsimp only;omega⟩
     ·rw [show (((topN AL AL.length:Nat):Int) != z)=true from bne_iff_ne.2 htz]
      rw [if_neg htz] at hms
      repeat (first | refine RUN ?_ | refine CV (hof1) ?_ | refine CE (hof1) ?_)
      refine EVL.app1 tO rfl rfl rfl rfl rfl rfl rfl rfl rfl rfl rfl rfl rfl rfl rfl rfl rfl rfl rfl (fun _=>rfl) (owQ) ([]) ((List.append_nil _).symm) (hownQ) oM fun _=>?_
      intro v' ow' hown'
      try refine RUN ?_
      refine ⟨(r+1,v',ow'),⟨rfl,by dsimp only;rw [wi_inc r (by omega)];rfl,trivial⟩,sB,trivial,sB,by dsimp only;rw [List.append_nil],⟨hlt,by dsimp only;rw [hms,List.length_append,List.flatMap_append];exact hown'⟩,hG4.trans hG5,by dsimp only;omega⟩
    ·obtain ⟨z,hz⟩:∃ z,vs[r]?=some z:=⟨_,List.getElem?_eq_getElem oM⟩
     have hzD:vs.getD r 0=z:=by rw [List.getD_eq_getElem?_getD,hz];rfl
     have hz5:=hvs z (List.mem_of_getElem? hz)
     obtain ⟨hq1,hq2⟩:=hsq hz5
     rw [if_pos rfl,hzD] at hmm
     rw [hmm] at hms
     have hsub:=sub_pv AQ z (sm_of hAQ oM) (sm_of hz5 oM)
     have hmul:=mul_pv (AQ-z) (AQ-z) (sm_of hq1 oM) (sm_of hq1 oM)
     have hvS:SlC H (.slice va vn vc) vs.length 5 (vs.flatMap fun q=>vlist (fracV q)):=hvq
     try refine RUN ?_
     apply EV.drawn 9 kR kR;intro xv yw
     (repeat (first | refine' DV ?_ | refine' DA ?_ | refine' DK0 ?_ | refine' DT ?_ | refine' DS ?_))
     refine' DJ.idxM tO rfl rfl rfl rfl rfl rfl rfl rfl rfl ((hvS.mono hH5)) (r) (rfl) (oM) (QL.at (H:=H) (v:=.bool true) hz) ?_;rotate_left
     (repeat (first | refine' DV ?_ | refine' DA ?_ | refine' DK0 ?_ | refine' DT ?_ | (refine' DC (hsub) (h:=?_);rotate_left) | refine' DS ?_))
     (refine DJ.nil (fun G7 hG7 hF7=>?_);(case hS|hS2=>rfl))
     repeat (first | refine RUN ?_ | refine CV (hmul) ?_ | refine CE (hmul) ?_)
     refine EVL.app1 tO rfl rfl rfl rfl rfl rfl rfl rfl rfl rfl rfl rfl rfl rfl rfl rfl rfl rfl rfl (fun _=>rfl) (owQ) ([]) ((List.append_nil _).symm) (hownQ) oM fun _=>?_
     intro v' ow' hown'
     try refine RUN ?_
     refine ⟨(r+1,v',ow'),⟨rfl,by dsimp only;rw [wi_inc r (by omega)];rfl,trivial⟩,sB,trivial,sB,by dsimp only;rw [List.append_nil],⟨hlt,by dsimp only;rw [hms,List.length_append,List.flatMap_append];exact hown'⟩,(hG4.trans hG5).trans hG7,by dsimp only;omega⟩
 ·simp only [nN] at hlt
  obtain rfl:r=X.length:=by omega
  have hmL:=hmh X.length
  (first | refine EVL.publishL [] owQ [] ((List.append_nil _).symm) hownQ fun G4 hG4 hsQ=>?_ | refine EV.publishL [] owQ [] ((List.append_nil _).symm) hownQ fun G4 hG4 hsQ=>?_)
  have hql:QL G4 (.slice qa (allM mm X.length).length qc) (allM mm X.length):=hsQ
  generalize allM mm X.length=L at *
  by_cases hm0:L.length=0
  ·rw [if_pos hm0]
   have hnil:=List.length_eq_zero_iff.1 hm0
   subst hnil
   repeat (first | refine RUN ?_ | refine CV (meanL_any hql (Nat.zero_le _) (fun q hq=>by cases hq)) ?_ | refine CE (meanL_any hql (Nat.zero_le _) (fun q hq=>by cases hq)) ?_)
   dsimp only
   rw [hf0]
  ·rw [if_neg hm0]
   repeat (first | refine RUN ?_ | refine CV (meanB_pc hql oM hm0 (fun q hq=>Nat.le_trans (hmL q hq) oM)) ?_ | refine CE (meanB_pc hql oM hm0 (fun q hq=>Nat.le_trans (hmL q hq) oM)) ?_)
   rfl
theorem voteQ_ht {kd cl:Int} {x:List Rat} {ts:List Tr} (hn:ts.length≤20):∀ q,q∈voteQ kd cl x ts→ht q≤100:=fun q hq=>by
 unfold voteQ at hq
 obtain ⟨c,hc,rfl⟩:=List.mem_map.1 hq
 have hs:=ansL_small c hc
 have e:mkRat c ts.length=((c:Int):Rat) / ((ts.length:Int):Rat):=Rat.mkRat_eq_div c ts.length
 have h1:=ht_div ((c:Int):Rat) ((ts.length:Int):Rat)
 have h2:=ht_len (n:=ts.length) oM
 have h3:=ht_int c
 have h4:bl c.natAbs≤20:=bl_le oM
 rw [e]
 omega
theorem voteQ_len {kd cl:Int} {x:List Rat} {ts:List Tr} (h:(kd=1∧1≤cl∧cl≤12)∨(kd=2∧cl=0)):(voteQ kd cl x ts).length≤12:=by
 unfold voteQ
 have:=ansL_len (x:=x) (ts:=ts) h
 rw [List.length_map]
 omega
theorem pvotes_pc {H:Hp} {kd cl w:Int} {a1 a2:Option Addr} {c1 c2:Nat} {vx:Value} {ts:List Tr} {os:List (List Int)} {x:List Rat} (ht:PTL H (.slice a1 ts.length c1) ts) (ho:ILL H (.slice a2 os.length c2) os) (hok:∀ t,t∈ts→TreeOk t∧fitT kd cl w t=true) (h0:0<ts.length) (hlo:∀ l,l∈os→l.length≤1000000) (hol:os.length≤1000000) (hck:checkF kd cl w ts os=0) (hx:QL H vx x) (hxs:∀ q,q∈x→sm q) :
  PC prog 16 #[forestV kd cl w (.slice a1 ts.length c1) (.slice a2 os.length c2),vx] H fun r G=>∃ v,r=.tuple #[v,.int .i64 (if (x.length:Int)=w then 0 else 5)]∧QL G v (if (x.length:Int)=w then voteQ kd cl x ts else []):=by
 have hok':=fun t ht=>(hok t ht).1
 by_cases hxl:(x.length:Int)=w
 ·rw [if_pos hxl,if_pos hxl]
  rcases fit_kind h0 hok with ⟨rfl,h1,h2⟩ | ⟨rfl,rfl⟩
  ·obtain ⟨C,rfl⟩:=Int.eq_ofNat_of_zero_le (show 0≤cl by omega)
   refine (votes_pc ht ho hok' hlo hol oM hck hx hxl hxs).mono ?_
   rintro r G ⟨ks,v,hks,rfl,hq⟩ _
   refine ⟨v,rfl,?_⟩
   unfold voteQ
   rw [← hks.ans]
   exact hq
  ·obtain ⟨xa,xc,rfl⟩:=SlC.val hx
   have hrf:=refuse_pc (kd:=2) (cl:=0) (w:=w) (xa:=xa) (xn:=x.length) (xc:=xc) ht ho hok' hlo hol
   rw [if_pos hck,if_pos hxl] at hrf
   refine BD func16 ntmps16 ?_
   repeat (first | refine RUN ?_ | refine CV (hrf) ?_ | refine CE (hrf) ?_)
   exact ⟨_,rfl,by unfold voteQ ansL;rw [if_neg (by decide)];exact ⟨rfl,.inl ⟨rfl,_,_,rfl⟩⟩⟩
 ·rw [if_neg hxl,if_neg hxl]
  obtain ⟨xa,xc,rfl⟩:=SlC.val hx
  have hrf:=refuse_pc (kd:=kd) (cl:=cl) (w:=w) (xa:=xa) (xn:=x.length) (xc:=xc) ht ho hok' hlo hol
  rw [if_pos hck,if_neg hxl] at hrf
  refine BD func16 ntmps16 ?_
  repeat (first | refine RUN ?_ | refine CV (hrf) ?_ | refine CE (hrf) ?_)
  exact ⟨_,rfl,⟨rfl,.inl ⟨rfl,_,_,rfl⟩⟩⟩
theorem panswerF_pc {H:Hp} {kd cl w:Int} {a1 a2:Option Addr} {c1 c2:Nat} {vx:Value} {ts:List Tr} {os:List (List Int)} {x:List Rat} (ht:PTL H (.slice a1 ts.length c1) ts) (ho:ILL H (.slice a2 os.length c2) os) (hok:∀ t,t∈ts→TreeOk t∧fitT kd cl w t=true) (h0:0<ts.length) (hn:ts.length≤20) (hlo:∀ l,l∈os→l.length≤1000000) (hol:os.length≤1000000) (hck:checkF kd cl w ts os=0) (hx:QL H vx x) (hxs:∀ q,q∈x→sm q) :
  PC prog 13 #[forestV kd cl w (.slice a1 ts.length c1) (.slice a2 os.length c2),vx] H fun r _=>r=.tuple #[fracV (if (x.length:Int)=w then ansQ kd x ts else 0),.int .i64 (if (x.length:Int)=w then (topN (ansL kd cl x ts) (ansL kd cl x ts).length:Nat) else 0),.int .i64 (if (x.length:Int)=w then 0 else 5)]:=by
 refine (panswer_pc ht ho (fun t ht=>(hok t ht).1) hlo hol hn hx hxs).mono ?_
 rintro r G ⟨_,h2,h3⟩ _
 by_cases hxl:(x.length:Int)=w
 ·rw [if_pos hxl,if_pos hxl,if_pos hxl]
  rcases h3 hck hxl with ⟨rfl,ks,hks,rfl⟩ | ⟨hk1,qs,hqs,rfl⟩
  ·rcases fit_kind h0 hok with ⟨_,h1,h2⟩ | ⟨h,_⟩
   ·obtain ⟨C,rfl⟩:=Int.eq_ofNat_of_zero_le (show 0≤cl by omega)
    have e:ansQ 1 x ts=0:=by unfold ansQ;rw [if_pos rfl]
    rw [e,← hks.ans,cntL_len]
    rfl
   ·exact absurd h (by decide)
  ·rcases fit_kind h0 hok with ⟨h,_⟩ | ⟨rfl,rfl⟩
   ·exact absurd h hk1
   ·rw [hqs.ans]
    rfl
 ·rw [if_neg hxl,if_neg hxl,if_neg hxl]
  exact h2 hck hxl
theorem ansQ_rq {kd cl w:Int} {ts:List Tr} (x:List Rat) (hok:∀ t,t∈ts→TreeOk t∧fitT kd cl w t=true) (hn:ts.length≤20):rq (ansQ kd x ts):=by
 have:=ansQ_ht x hok hn
 unfold rq;omega
theorem missOf_rq {kd cl w kd' cl' w':Int} {M:List Rat} (h:∀ q,q∈M→ht q≤160094) (hl:M.length≤20):rq (missOf kd cl w kd' cl' w' M).1:=by
 have h0:rq (0:Rat):=by unfold rq;rw [ht_zero];decide
 unfold missOf
 split
 ·split
  ·split
   ·exact h0
   ·have h1:=ht_sum 160094 M h
    have h2:=ht_div (sumQ M) ((M.length:Int):Rat)
    have h3:=ht_len (n:=M.length) oM
    show ht (meanL M)≤100000000
    unfold meanL
    omega
  ·exact h0
 ·exact h0
theorem goal_parts {H:Hp} {kd cl:Int} {ga va:Option Addr} {gn gc vn vc N:Nat} {qs:List Rat} (h:GoalR H (goalV kd cl (.slice ga gn gc) (.slice va vn vc)) N qs) (hql:qs.length=N) (h0:1≤N) (h1:N≤300) (hq:∀ q,q∈qs→ht q≤5) :
  ∃ ls:List Int,((kd=1∧IL H (.slice ga gn gc) ls∧ls.length=N)∨(kd=2∧RL H (.slice va vn vc) qs∧qs.length=N)) ∧
   (∀ G,H.Le G→PC prog 31 #[goalV kd cl (.slice ga gn gc) (.slice va vn vc)] G fun r _=>r=.int .i64 0)∧PV prog 30 #[goalV kd cl (.slice ga gn gc) (.slice va vn vc)] (.int .i64 (N:Int)) ∧
   ∀ G,H.Le G→PC prog 18 #[goalV kd cl (.slice ga gn gc) (.slice va vn vc)] G fun r G'=>∃ (la:Option Addr) (ln lc:Nat) (vb:Option Addr) (vn' vc':Nat),r=goalV kd cl (.slice la ln lc) (.slice vb vn' vc') ∧
    ((kd=1∧IL G' (.slice la ln lc) ls∧ls.length=N)∨(kd=2∧QL G' (.slice vb vn' vc') qs∧qs.length=N)) ∧
    (∀ K,G'.Le K→PC prog 51 #[goalV kd cl (.slice la ln lc) (.slice vb vn' vc')] K fun r _=>r=.int .i64 0)∧PV prog 53 #[goalV kd cl (.slice la ln lc) (.slice vb vn' vc')] (.int .i64 (N:Int)):=by
 rcases h with ⟨s,e,hs⟩ | ⟨cl',s,ls,e,hc1,hc2,hll,hlb,hs⟩
 ·cases e
  obtain ⟨sa,sc,e2⟩:=hs.val
  cases e2
  subst hql
  have hqr:∀ q,q∈qs→rq q:=fun q hq'=>rq_small (hq q hq') oM
  refine ⟨[],.inr ⟨rfl,hs,rfl⟩,fun G _=>rcheckV_pc h0 h1,rlenV_pv,fun G hG=>(inGoal_pc (kd:=2) (cl:=0) (IL.nil G none 0) (hs.mono hG) (by decide) oM hqr).mono ?_⟩
  rintro r G' ⟨la,lc,va,vc,rfl,_,hv⟩ _
  exact ⟨la,_,lc,va,_,vc,rfl,.inr ⟨rfl,hv,rfl⟩,fun K _=>(checkV_pv h0 h1).pc' K,lenV_pv⟩
 ·cases e
  obtain ⟨sa,sc,e2⟩:=SlC.val hs
  cases e2
  subst hll
  refine ⟨ls,.inl ⟨rfl,hs,rfl⟩,fun G hG=>rcheckC_pc (hs.mono hG) ⟨hc1,by omega⟩ h0 h1 hlb,rlenC_pv (sv:=.bool true),fun G hG=>(inGoal_pc (kd:=1) (cl:=cl) (SlC.mono hs hG) (RL.nil G none 0) oM (by decide) (by intro q hq;cases hq)).mono ?_⟩
  rintro r G' ⟨la,lc,va,vc,rfl,hv,_⟩ _
  exact ⟨la,_,lc,va,_,vc,rfl,.inl ⟨rfl,hv,rfl⟩,fun K hK=>checkC_pc (SlC.mono hv hK) ⟨hc1,by omega⟩ h0 h1 hlb,lenC_pv⟩
structure GS where
 kd:Int
 cl:Int
 ga:Option Addr
 gn:Nat
 gc:Nat
 va:Option Addr
 vn:Nat
 vc:Nat
 N:Nat
 W:Nat
 lg:List Int
 ll:List Int
 vx:Value
structure GS.Ok (q:GS) (G:Hp):Prop where
 goal:GoalR G (goalV q.kd q.cl (.slice q.ga q.gn q.gc) (.slice q.va q.vn q.vc)) q.N (rowQ q.lg q.N)
 rows:RLL G q.vx (rowsQ q.ll q.N q.W)
 sizes:(1≤q.N∧q.N≤8)∧1≤q.W∧q.W≤3
theorem pmissG_pc {H:Hp} {kd cl w:Int} {a1 a2:Option Addr} {c1 c2:Nat} {ts:List Tr} {os:List (List Int)} (hT:PTL H (.slice a1 ts.length c1) ts) (hO:ILL H (.slice a2 os.length c2) os) (hok:∀ t,t∈ts→TreeOk t∧fitT kd cl w t=true) (hlo:∀ l,l∈os→okL l=true∧l.length≤300) (hol:os.length=ts.length) (h0:1≤ts.length∧ts.length≤20)
  {kd' cl':Int} {W:Nat} {ls:List Int} {vs:List Rat} {u vx:Value} {X:List (List Rat)} (hvs:∀ v,v∈vs→ht v≤5)
  (hu:∃ (la:Option Addr) (ln lc:Nat) (vb:Option Addr) (vn' vc':Nat),u=goalV kd' cl' (.slice la ln lc) (.slice vb vn' vc') ∧
    ((kd'=1∧IL H (.slice la ln lc) ls∧ls.length=X.length)∨(kd'=2∧QL H (.slice vb vn' vc') vs∧vs.length=X.length)) ∧
    (∀ K,H.Le K→PC prog 51 #[goalV kd' cl' (.slice la ln lc) (.slice vb vn' vc')] K fun r _=>r=.int .i64 0)∧PV prog 53 #[goalV kd' cl' (.slice la ln lc) (.slice vb vn' vc')] (.int .i64 (X.length:Int)))
  (hX:QLL H vx X) (hXw:∀ x,x∈X→x.length=W∧∀ q,q∈x→ht q≤5) (hW:1≤W∧W≤20) (hN:1≤X.length∧X.length≤20) :
  PC prog 17 #[forestV kd cl w (.slice a1 ts.length c1) (.slice a2 os.length c2),u,vx] H fun r _=>r=.tuple #[fracV (missOf kd cl w kd' cl' (W:Int) (allM (missM kd cl (ts.zip os) X ls vs) X.length)).1,.int .i64 (missOf kd cl w kd' cl' (W:Int) (allM (missM kd cl (ts.zip os) X ls vs) X.length)).2]:=by
 obtain ⟨la,ln,lc,vb,vn',vc',rfl,hgl,hck,hln⟩:=hu
 exact pmiss_pc hT hO hok hlo hol h0 hgl hvs hck hln hX hXw hW hN
set_option maxRecDepth 100000 in
set_option maxHeartbeats 64000000 in
theorem tells20_pc {H:Hp} {vx vy vr:Value} {lr:List Int} (wide:Int) (own:Bool) (hx:Raw20 H vx) (hy:Raw20 H vy) (hr:IL H vr lr) (hrb:∀ z,z∈lr→i64B z) (hwd:i64B wide):PC prog 4 #[vx,vy,vr,.int .i64 wide,.bool own] H fun r _=>r=.bool true:=by
 have ho1:=one20N_pc hx
 have ho2:=fun G (hG:H.Le G)=>one20N_pc (hy.mono hG)
 obtain ⟨_,_,_,_,_,_,_,_,_,_,_,_,rfl,_⟩:=hx
 obtain ⟨_,_,_,_,_,_,_,_,_,_,_,_,rfl,_⟩:=hy
 obtain ⟨ra,rc,rfl⟩:=SlC.val hr
 refine BD func4 ntmps4 ?_
 try refine RUN ?_
 refine EVL.call rfl rfl rfl rfl rfl (ho1) ?_
 rintro r1 G1 ⟨kd1,cl1,least1,seed1,ga1,va1,p1,q1,gn1,gc1,vn1,vc1,N1,W1,D1,sm1,nt1,l1,c1,l2,c2,vX1,b1,lg1,ll1,rfl,hg1,hX1,hq1,hN1,hW1,hD1,hsm1,hnt1,hl1,hs1⟩ hG1
 obtain ⟨xa1,xc1,rfl⟩:=hX1.val
 try refine RUN ?_
 refine EVL.call rfl rfl rfl rfl rfl (wood20_pc hg1 hX1 hq1 oM oM oM hsm1 oM oM hs1) ?_
 rintro r2 G2 ⟨v1,ts,os,rfl,hw1,hlen1⟩ hG2
 obtain ⟨⟨ta,tc,oa,oc,rfl,hT,hO⟩,hok,hlo,hll⟩:=hw1
 have hok':=fun t ht=>(hok t ht).1
 have hlo':∀ l,l∈os→l.length≤1000000:=fun l hl=>by have:=(hlo l hl).2;omega
 have hTd:Turned ts os:=⟨hok',hlo',by omega⟩
 have hcf:checkF kd1 cl1 (W1:Int) ts os=0:=checkF_ok oM oM hll (fun t ht=>(hok t ht).2) (fun l hl=>(hlo l hl).1)
 try refine RUN ?_
 refine EVL.call rfl rfl rfl rfl rfl (inForest_pc hT hO hTd.smallF) ?_
 rintro r5 G5 ⟨pa1,pc1,pa2,pc2,rfl,hPT,hPO⟩ hG5
 have hH5:=(hG1.trans hG2).trans hG5
 obtain ⟨M,hM,hMb⟩:∃ M:Nat,IntKind.i64.wrap ((W1:Int)+IntKind.i64.wrap ((wide % 11).tdiv 10))=(M:Int)∧M≤20:=by
  have h1:0≤wide % 11∧wide % 11<11:=by omega
  rw [Int.tdiv_eq_ediv_of_nonneg h1.1,IntKind.wrap_i64,IntKind.wrap_i64]
  exact ⟨((W1:Int)+wide % 11 / 10).toNat,by omega,by omega⟩
 have hpk:=pick_pv wide 11 hwd oM oM
 generalize wide % 11=wd at *
 try refine RUN ?_
 apply EV.drawn 7 kR kR;intro xv yw
 (repeat (first | refine' DV ?_ | refine' DA ?_ | refine' DK0 ?_ | refine' DT ?_ | (refine' DC (hpk) (h:=?_);rotate_left) | refine' DS ?_))
 (refine DJ.nil (fun G6 hG6 hF6=>?_);(case hS|hS2=>rfl))
 rw [hM]
 refine EVL.call rfl rfl rfl rfl rfl (row_pc ((SlC.mono hr hH5).mono hG6) hrb M oM) ?_
 intro r7 G7 hz hG7
 obtain ⟨za,zc,rfl⟩:=hz.val
 have hz5:=rowQ_ht (l:=lr) M
 have hzl:=rowQ_len lr M
 have hzr:∀ q,q∈rowQ lr M→rq q:=fun q hq=>by have:=hz5 q hq;unfold rq;omega
 have hzs:∀ q,q∈rowQ lr M→sm q:=fun q hq=>by have:=hz5 q hq;show ht q≤100000000;omega
 generalize rowQ lr M=z at *
 subst hzl
 have hP7:=hPT.mono (hG6.trans hG7)
 have hO7:=hPO.mono (hG6.trans hG7)
 have h20:z.length≤100000000:=by omega
 have hvt:=fun (G:Hp) (hG:G7.Le G) (v:Value) (hv:QL G v z)=>pvotes_pc (hP7.mono hG) (hO7.mono hG) hok oM hlo' oM hcf hv hzs
 have han:=fun (G:Hp) (hG:G7.Le G) (v:Value) (hv:QL G v z)=>panswerF_pc (hP7.mono hG) (hO7.mono hG) hok oM oM hlo' oM hcf hv hzs
 have hvq:=voteQ_ht (kd:=kd1) (cl:=cl1) (x:=z) (ts:=ts) oM
 have hvl:=voteQ_len (x:=z) (ts:=ts) (fit_kind oM hok)
 have haq:=ansQ_rq z hok oM
 have hrvt:=fun (G:Hp) (hG:G7.Le G)=>rvotes_pc (vo:=.slice oa os.length oc) ((hT.mono (hG5.trans (hG6.trans hG7))).mono hG) hok oM oM (hz.mono hG)
 have hran:=fun (G:Hp) (hG:G7.Le G)=>ranswer_pc (vo:=.slice oa os.length oc) ((hT.mono (hG5.trans (hG6.trans hG7))).mono hG) hok oM oM (hz.mono hG)
 generalize voteQ kd1 cl1 z ts=vq at *
 generalize ansQ kd1 z ts=aq at *
 generalize (topN (ansL kd1 cl1 z ts) (ansL kd1 cl1 z ts).length:Nat)=tp at *
 generalize hee:(if (z.length:Int)=(W1:Int) then (0:Int) else 5)=ee at *
 generalize hqq:(if (z.length:Int)=(W1:Int) then aq else 0)=qq at *
 generalize hii:(if (z.length:Int)=(W1:Int) then ((tp:Nat):Int) else 0)=ii at *
 generalize hvv:(if (z.length:Int)=(W1:Int) then vq else [])=vv at *
 try refine RUN ?_
 apply EV.drawn 9 kR kR;intro xv yw
 (repeat (first | refine' DV ?_ | refine' DA ?_ | refine' DK0 ?_ | refine' DT ?_ | refine' DS ?_))
 (refine' DJ.call rfl rfl rfl rfl rfl (cO func11) (fun G hG hd=>inRow_pc (hz.mono hG) h20 hzr) (fun v G G' h k=>QL.mono h k) ?_;rotate_left)
 (refine' DJ.call rfl rfl rfl rfl rfl (cO func16) (fun G hG hd=>hvt _ hG _ (hd.head kR)) (fun v G G' ⟨u,e,h⟩ k=>⟨u,e,QL.mono h k⟩) ?_;rotate_left)
 refine' DJ.copy (3) (by first | exact .inl rfl | exact .inr rfl) rfl rfl rfl id rfl kR ?_;rotate_left
 refine' DJ.extract (3) rfl rfl rfl rfl rfl kR (fun G hd=>(by obtain ⟨v,e,_⟩:=hd.head kR;exact ⟨_,e,Nat.zero_lt_succ _⟩)) ?_;rotate_left
 refine' DJ.extract (3) rfl rfl rfl rfl rfl kR (fun G hd=>(by obtain ⟨v,e,_⟩:=hd.head kR;exact ⟨_,e,Nat.lt_succ_self _⟩)) ?_;rotate_left
 (refine' DJ.copy 3 (by first | exact .inl rfl | exact .inr rfl) rfl rfl rfl (tupAt 0) rfl kR ?_;rotate_left)
 (refine' DJ.copy 3 (by first | exact .inl rfl | exact .inr rfl) rfl rfl rfl (tupAt 1) rfl kR ?_;rotate_left)
 (refine DJ.nil (fun G8 hG8 hF8=>?_);(case hS|hS2=>rfl))
 obtain ⟨⟨v8,e8,hq8⟩,_⟩:=hF8
 obtain ⟨wa8,wc8,rfl⟩:=SlC.val hq8
 rw [e8]
 try refine RUN ?_
 apply EV.drawn 12 kR kR;intro xv yw
 (repeat (first | refine' DV ?_ | refine' DA ?_ | refine' DK0 ?_ | refine' DT ?_ | refine' DS ?_))
 (refine' DJ.call rfl rfl rfl rfl rfl (cO func11) (fun G hG hd=>inRow_pc (hz.mono (hG8.trans hG)) h20 hzr) (fun v G G' h k=>QL.mono h k) ?_;rotate_left)
 refine' DJ.callS rfl rfl rfl rfl rfl (cO func13) (fun G hG hd=>han _ (hG8.trans hG) _ (hd.head kR)) ?_;rotate_left
 (repeat (first | refine' DV ?_ | refine' DA ?_ | refine' DK0 ?_ | refine' DT ?_ | refine' DS ?_))
 (refine DJ.nil (fun G9 hG9 hF9=>?_);(case hS|hS2=>rfl))
 have hG79:=hG8.trans hG9
 have hH9:=hH5.trans ((hG6.trans hG7).trans hG79)
 try refine RUN ?_
 refine EV.meetK (ι:=GS) [14,16,17,18,19,20,21,22,23] [14,16,20] (fun q=>[(24,.v q.vx)]) (fun q=>[(23,28,[.int .i64 q.kd,.int .i64 q.cl,.slice q.ga q.gn q.gc,.slice q.va q.vn q.vc])]) (fun _=>[]) (fun q G=>G9.Le G∧q.Ok G) rfl rfl (fun _=>rfl) ?_ ?_
 ·cases own
  ·(try refine RUN ?_)
   refine EVL.call rfl rfl rfl rfl rfl (ho2 _ hH9) ?_
   rintro r3 G3 ⟨kd2,cl2,least2,seed2,ga2,va2,p2,q2,gn2,gc2,vn2,vc2,N2,W2,D2,sm2,nt2,l3,c3,l4,c4,vX2,b2,lg2,ll2,rfl,hg2,hX2,hq2,hN2,hW2,hD2,hsm2,hnt2,hl2,hs2⟩ hG3
   obtain ⟨xa2,xc2,rfl⟩:=hX2.val
   try refine RUN ?_
   exact ⟨⟨kd2,cl2,ga2,gn2,gc2,va2,vn2,vc2,N2,W2,lg2,ll2,.slice xa2 (rowsQ ll2 N2 W2).length xc2⟩,⟨rfl,trivial⟩,sB,⟨rfl,trivial⟩,sB,rfl,hG3,⟨hg2,hX2,hN2,hW2⟩⟩
  ·(try refine RUN ?_)
   exact ⟨⟨kd1,cl1,ga1,gn1,gc1,va1,vn1,vc1,N1,W1,lg1,ll1,.slice xa1 (rowsQ ll1 N1 W1).length xc1⟩,⟨rfl,trivial⟩,sB,⟨rfl,trivial⟩,sB,rfl,Hp.Le.refl _,⟨hg1.mono ((hG2.trans hG5).trans ((hG6.trans hG7).trans hG79)),hX1.mono ((hG2.trans hG5).trans ((hG6.trans hG7).trans hG79)),hN1,hW1⟩⟩
 rintro ⟨kd',cl',ga,gn,gc,va,vn,vc,N,W,lg,ll,vX⟩ G10 ⟨hG10,hg,hX,hNN,hWW⟩
 dsimp only at hg hX hNN hWW
 obtain ⟨xa,xc,rfl⟩:=hX.val
 obtain ⟨ls,hgl,hck,hln,hin⟩:=goal_parts hg (rowQ_len _ _) oM oM (rowQ_ht N)
 have hrows:=fun x hx=>rowsQ_ht (l:=ll) (n:=N) (w:=W) x hx
 have hXlen:=rowsQ_len ll N W
 have hg5:=rowQ_ht (l:=lg) N
 generalize rowQ lg N=gs at *
 generalize rowsQ ll N W=X at *
 subst hXlen
 have hG710:=hG79.trans hG10
 have hP10:=hP7.mono hG710
 have hO10:=hO7.mono hG710
 have hXr:∀ x,x∈X→x.length≤1000000∧∀ q,q∈x→rq q:=fun x hx=>by
  obtain ⟨h1,h2⟩:=hrows x hx
  exact ⟨by omega,fun q hq=>by have:=h2 q hq;unfold rq;omega⟩
 have hMl:=allM_len (f:=missM kd1 cl1 (ts.zip os) X ls gs) (missM_len kd1 cl1 (ts.zip os) X ls gs) X.length
 have hMh:=allM_ht (f:=missM kd1 cl1 (ts.zip os) X ls gs) (missM_ht hok oM hg5) X.length
 have hmrq:=missOf_rq (kd:=kd1) (cl:=cl1) (w:=(W1:Int)) (kd':=kd') (cl':=cl') (w':=(W:Int)) hMh oM
 have hpm:=fun (G:Hp) (hG:G10.Le G) (u v:Value) hu hv=>pmissG_pc (u:=u) (vx:=v) (ls:=ls) (vs:=gs) (X:=X) (W:=W) (kd':=kd') (cl':=cl') (hP10.mono hG) (hO10.mono hG) hok hlo hll oM hg5 hu hv hrows oM oM
 have hrm:=fun (G:Hp) (hG:G10.Le G)=>rmiss_pc (ls:=ls) (vs:=gs) (X:=X) (W:=W) ((hT.mono (hG5.trans (hG6.trans (hG7.trans hG710)))).mono hG) ((hO.mono (hG5.trans (hG6.trans (hG7.trans hG710)))).mono hG) hok hlo hll oM (hgl.imp (fun ⟨a,b,c⟩=>⟨a,SlC.mono b hG,c⟩) (fun ⟨a,b,c⟩=>⟨a,b.mono hG,c⟩)) hg5 (fun K hK=>hck K (hG.trans hK)) hln (hX.mono hG) hrows oM oM
 generalize missOf kd1 cl1 (W1:Int) kd' cl' (W:Int) (allM (missM kd1 cl1 (ts.zip os) X ls gs) X.length)=mo at *
 obtain ⟨mq,me⟩:=mo
 dsimp only at hpm hrm hmrq
 try refine RUN ?_
 apply EV.drawn 12 kR kR;intro xv yw
 (repeat (first | refine' DV ?_ | refine' DA ?_ | refine' DK0 ?_ | refine' DT ?_ | refine' DS ?_))
 (refine' DJ.call rfl rfl rfl rfl rfl (cO func18) (fun G hG hd=>hin _ hG) (fun v G G' ⟨la,ln,lc,vb,vn',vc',e,h,hc,hl⟩ k=>⟨la,ln,lc,vb,vn',vc',e,h.imp (fun ⟨a,b,c⟩=>⟨a,SlC.mono b k,c⟩) (fun ⟨a,b,c⟩=>⟨a,QL.mono b k,c⟩),fun K hK=>hc K (k.trans hK),hl⟩) ?_;rotate_left)
 (repeat (first | refine' DV ?_ | refine' DA ?_ | refine' DK0 ?_ | refine' DT ?_ | refine' DS ?_))
 (refine' DJ.call rfl rfl rfl rfl rfl (cO func19) (fun G hG hd=>inRows_pc (hX.mono hG) oM hXr) (fun v G G' h k=>QLL.mono h k) ?_;rotate_left)
 refine' DJ.callS rfl rfl rfl rfl rfl (cO func17) (fun G hG hd=>hpm _ hG _ _ (hd.tail.head kR) (hd.head kR)) ?_;rotate_left
 (repeat (first | refine' DV ?_ | refine' DA ?_ | refine' DK0 ?_ | refine' DT ?_ | refine' DS ?_))
 (refine DJ.nil (fun G4 hG4 hF4=>?_);(case hS|hS2=>rfl))
 try refine RUN ?_
 refine EVL.call rfl rfl rfl rfl rfl (hrm _ hG4) ?_
 rintro r14 G14 ⟨s14,rfl,hs14⟩ hG14
 obtain ⟨y1,y2,y3,y4,y5,y6,rfl,_⟩:=id hs14
 have hGl:=hG710.trans (hG4.trans hG14)
 repeat (first | refine RUN ?_ | refine CV (known20_pc) ?_ | refine CE (known20_pc) ?_)
 rw [bne_self_eq_false]
 repeat (first | refine RUN ?_ | refine CV (same_yes hs14 hmrq) ?_ | refine CE (same_yes hs14 hmrq) ?_)
 by_cases hzw:(z.length:Int)=(W1:Int)
 ·rw [if_pos hzw] at hee hqq hii hvv
  subst hee hqq hii hvv
  rw [show ((z.length:Int) != (W1:Int))=false by rw [hzw];exact bne_self_eq_false _]
  try refine RUN ?_
  refine EVL.call rfl rfl rfl rfl rfl (hran _ hGl hzw hzr) ?_
  rintro r19 G19 ⟨s19,rfl,hs19⟩ hG19
  obtain ⟨y1',y2',y3',y4',y5',y6',rfl,_⟩:=id hs19
  try refine RUN ?_
  refine EVL.call rfl rfl rfl rfl rfl (hrvt _ (hGl.trans hG19) hzw hzr) ?_
  intro r20 G20 hr20 hG20
  obtain ⟨va20,vc20,rfl⟩:=hr20.val
  have hvr:∀ q,q∈vq→rq q:=fun q hq=>by
   have:=hvq q hq
   unfold rq
   omega
  have hsr:=sameRow_pc (hq8.mono (hG9.trans (hG10.trans (hG4.trans (hG14.trans (hG19.trans hG20)))))) hr20 oM hvr
  have hss:=same_yes (hs19.mono hG20) haq
  repeat (first | refine RUN ?_ | refine CV (hsr) ?_ | refine CV (hss) ?_ | refine CE (hsr) ?_ | refine CE (hss) ?_)
  rw [beq_self_eq_true]
  try refine RUN ?_
 ·rw [if_neg hzw] at hee hqq hii hvv
  subst hee hqq hii hvv
  have hsg:=sign_pv 0 (by have h:bl (0:Int).natAbs≤20:=bl_le (by decide);unfold bigI big;exact Nat.le_trans h oM)
  rw [show ((z.length:Int) != (W1:Int))=true from bne_iff_ne.2 hzw]
  repeat (first | refine RUN ?_ | refine CV (hsg) ?_ | refine CE (hsg) ?_)
  rfl
end Go.Proofs.YtgjepkeeeemppaaGreatDoor
namespace Go.Proofs.YtgjepkeeeemppaaGreatDoor
open Go Go.RowKit
theorem laidE_find {P:Program} {W:World} {n:String} {d:DataW Unit}:∀ {l:List (String × DataW Unit)} {ps:List MemPlace},DataW.LaidVars P W l ps→(n,d)∈l →
  ∃ p,DataW.LaidVars P W [(n,d)] p
 | [],_,_,h=>by cases h
 | (m,x)::r,ps,h,hm=>by
  obtain ⟨g,t,cs,fuel,p,q,h1,h2,h3,h4,h5,h6⟩:=h
  rcases List.mem_cons.1 hm with hm | hm
  ·cases hm
   exact ⟨_,g,t,cs,fuel,p,[],h1,h2,h3,h4,rfl,rfl⟩
  ·exact laidE_find h5 hm
theorem laid_gH {P:Program} {l:List (String × DataW Unit)} {W:World} (h:laidMet P l W) {n:String} {zs:List Nat} {g:Nat} {T e:TypeId} (hmem:(n,.agg (zs.map fun (z:Nat)=>.lit (.int .u8 z)))∈l) (hg:P.globalNamed n=some g) (ht:(P.globals[g]?).map (·.type)=some T)
  (hT:P.underlying T=some (.array zs.length e)) (he:P.underlying e=some (.int .u8)) (hc:P.cellsOf e=1) (hcT:P.cellsOf T=zs.length) :
  ∃ U fz,W.heap[g]?=some (.cells (zs.map fun (z:Nat)=>Value.int .u8 (z:Int)).toArray U fz):=by
 obtain ⟨ps,hl,_⟩:=h
 obtain ⟨p0,g',t,cs,fuel,p,q,hg',ht',hv,hd,_,_⟩:=laidE_find hl hmem
 obtain rfl:=Option.some.inj (hg.symm.trans hg')
 obtain rfl:=Option.some.inj (ht.symm.trans ht')
 obtain ⟨xs,m,_,ex,hcl,hlen,hel⟩:=DataW.trod_array hT hd
 have hb:∃ U fz,W.heap[g]?=some (.cells cs U fz):=by
  simp only [World.var?,hg,Option.bind_some] at hv
  split at hv
  ·rename_i c U fz hc';cases hv;exact ⟨U,fz,hc'⟩
  ·cases hv
 obtain ⟨U,fz,hb⟩:=hb
 refine ⟨U,fz,?_⟩
 rw [hb]
 congr 2
 apply Array.ext'
 rw [hcT] at hcl
 have e3:(xs.map (·.1))=zs.map fun (n:Nat)=>.lit (.int .u8 n):=(DataW.agg.inj (Prod.mk.inj ex).1).symm
 apply List.ext_getElem?
 intro r
 rcases Nat.lt_or_ge r zs.length with hr | hr
 ·have hE:=hel r hr
  rw [hc,Nat.mul_one,List.getElem?_eq_getElem (by omega)] at hE
  obtain ⟨z,e1,e2,_⟩:=DataW.trod_int he hE
  have e4:(xs.map (·.1))[r]?=(zs.map fun (n:Nat)=>(DataW.lit (.int .u8 n):DataW Unit))[r]?:=by rw [e3]
  rw [List.getElem?_map,List.getElem?_map,List.getElem?_eq_getElem (by omega:r<xs.length),List.getElem?_eq_getElem hr,e2] at e4
  simp only [Option.map_some,Option.some.injEq,DataW.lit.injEq,Lit.int.injEq,true_and] at e4
  have h0:((cs.toList.drop r).take 1)[0]?=some (.int .u8 z):=by rw [e1];rfl
  simp only [List.getElem?_take,List.getElem?_drop,Nat.add_zero] at h0
  rw [if_pos (by omega)] at h0
  rw [h0,e4]
  simp [hr]
 ·rw [List.getElem?_eq_none oM,List.getElem?_eq_none (by simpa using hr)]
theorem fits_gH {l:List (String × DataW Unit)} {W:World} (h:laidMet Tryz.prog l W) (hmem:("math/bits.deBruijn64tab", .agg (Lib.deBruijn64tab.map fun (z:Nat)=>.lit (.int .u8 z)))∈l):Fits gH W:=fun b c hb=>by
 unfold gH at hb
 split at hb
 ·rename_i hbb
  cases hb
  obtain rfl:=Nat.eq_of_beq_eq_true hbb
  exact laid_gH h hmem kR kR Tryz.underlying272 Tryz.underlying5 kR kR
 ·cases hb
end Go.Proofs.YtgjepkeeeemppaaGreatDoor
