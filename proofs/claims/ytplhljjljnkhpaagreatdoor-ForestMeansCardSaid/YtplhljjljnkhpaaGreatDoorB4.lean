/- Texts of ours in one: Gn11, Seq, Sorted, DicePlain, Lists, SortPlain, Asc, GnC, Gn12, Gn13, Gn14, GnQ, GnR, GnS, GnT, GnV, Wd1, Ls7, LsR, Ls8, Wd2, Ha3, Lw8, Lw9, Wd3, Wd4, Ev24, RqL, Wd5, GnX, Tr1, Ev25, Wd6, Tr2, Dice, Draw, RefDice, Dg1, Wd7, Ev26, Tr3, Ev27, Stable, Swaps, RestPlain, Rest, Same, Rising, Tr4, Tr5, TrT, Tr6, Tr7, Tr8, Tr9, Tr10, Tr11, Tr12, Tr13, Wd8, Ev28, Pg1, Tr14, Tr15. -/
import Derived.Test.YtplhljjljnkhpaaGreatDoorB0
import Derived.Test.YtplhljjljnkhpaaGreatDoorB1
import Derived.Test.YtplhljjljnkhpaaGreatDoorB2
import Derived.Test.YtplhljjljnkhpaaGreatDoorB3
import Derived.Test.YtplhljjljnkhpaaGreatDoorProg
import Derived.RangeFuncBox
import Derived.RangeFuncLeaves
import Derived.Shelf.Abstract
import Derived.OwnWalkIn
import Derived.TacticsInMore
import Derived.LoopNIn
import Derived.LoopIn
import Derived.Maps.AppendAt
import Derived.Test.YtplhljjljnkhpaaGreatDoorRows
import Derived.WalkKit
import Derived.Sort.OwnSortedInts
import Derived.Lib.SlicesCompact
import Derived.WalkLawsBesides
import Derived.Deep.LoopGhost
import Derived.Lib.ConvBytes
import Derived.Deep.QuietTactic
import Derived.BigQuiet
set_option linter.unusedVariables false
set_option linter.unusedSimpArgs false

namespace Go.Proofs.YtplhljjljnkhpaaGreatDoor
open Go.RowKit _root_.Go.Proofs.Tryz
def candC (key:Int→Rat) (least:Int) (m:List Int) (j:Nat):Bool:=decide (least≤((j+1:Nat):Int)) && decide (least≤((m.length-(j+1):Nat):Int)) && decide (key (m.getD j 0)<key (m.getD (j+1) 0))
def sumW (wo:List Int→Rat) (m:List Int) (j:Nat):Rat:=wo (m.take (j+1))+wo (m.drop (j+1))
def midC (key:Int→Rat) (m:List Int) (j:Nat):Rat:=(key (m.getD j 0)+key (m.getD (j+1) 0)) / 2
def colN (key:Int→Rat) (wo:List Int→Rat) (least:Int) (m:List Int):Nat→Option (Rat × Rat)
 | 0=>none
 | j+1=>if candC key least m j=true then (match colN key wo least m j with
  | none=>some (midC key m j,sumW wo m j)
  | some (a,w)=>if w<sumW wo m j then some (midC key m j,sumW wo m j) else some (a,w)) else colN key wo least m j
def stA:Option (Rat × Rat)→Rat
 | none=>0
 | some (a,_)=>a
def stW:Option (Rat × Rat)→Rat
 | none=>0
 | some (_,w)=>w
theorem colN_no {key:Int→Rat} {wo:List Int→Rat} {least:Int} {m:List Int} {j:Nat} (h:candC key least m j=false):colN key wo least m (j+1)=colN key wo least m j:=by
 rw [colN,h,if_neg (by decide)]
theorem colN_first {key:Int→Rat} {wo:List Int→Rat} {least:Int} {m:List Int} {j:Nat} (h:candC key least m j=true) (h0:colN key wo least m j=none):colN key wo least m (j+1)=some (midC key m j,sumW wo m j):=by
 rw [colN,h,if_pos rfl,h0]
theorem colN_more {key:Int→Rat} {wo:List Int→Rat} {least:Int} {m:List Int} {j:Nat} {a w:Rat} (h:candC key least m j=true) (h0:colN key wo least m j=some (a,w)) (hw:w<sumW wo m j):colN key wo least m (j+1)=some (midC key m j,sumW wo m j):=by
 rw [colN,h,if_pos rfl,h0];exact if_pos hw
theorem colN_less {key:Int→Rat} {wo:List Int→Rat} {least:Int} {m:List Int} {j:Nat} {a w:Rat} (h:candC key least m j=true) (h0:colN key wo least m j=some (a,w)) (hw:¬ w<sumW wo m j):colN key wo least m (j+1)=colN key wo least m j:=by
 rw [colN,h,if_pos rfl,h0];exact if_neg hw
theorem sw_low {S S':List Value} {n:Int} (hl:S.length=19) (h:(S.drop 0).take 1=[.int .i64 n]):((S++S').drop (0+0+0)).take 1=[.int .i64 n]:=by
 rw [List.drop_append_of_le_length oM,List.take_append_of_le_length (by rw [List.length_drop];omega)];exact h
theorem sw_high {S S':List Value} {n:Int} (hl:S.length=19) (h:(S'.drop 0).take 1=[.int .i64 n]):((S++S').drop (0+19+0)).take 1=[.int .i64 n]:=by
 rw [show 0+19+0=19 from rfl,List.drop_left' hl];exact h
def ColR (X:List (List Rat)) (wo:List Int→Rat) (rs:List Int) (least col:Int) (o:Option (Rat × Rat)):Prop:=∃ m,SortC X col rs m∧o=colN (colK X col) wo least m (m.length-1)∧ht (stW o)≤200001
theorem stW_ht {key:Int→Rat} {wo:List Int→Rat} {least:Int} {m:List Int} {B:Nat} (h:∀ j,j<m.length→ht (sumW wo m j)≤B) (hB:1≤B):∀ j,j≤m.length→ht (stW (colN key wo least m j))≤B
 | 0,_=>by show ht 0≤B;rw [ht_zero];exact hB
 | j+1,hj=>by
  have ih:=stW_ht (key:=key) (least:=least) h hB j oM
  have h1:=h j oM
  unfold colN
  split
  ·split
   ·exact h1
   ·split
    ·exact h1
    ·rename_i h2 _
     rw [h2] at ih;exact ih
  ·exact ih
theorem ordQ_neg {a b:Rat}:ordR a b≥0↔¬ a<b:=by
 unfold ordR
 split
 ·rename_i h;constructor
  ·intro k;omega
  ·intro k;exact absurd h k
 ·rename_i h;constructor
  ·intro _;exact h
  ·intro _;split <;> omega
theorem ordQ_pos {a b:Rat}:ordR a b>0↔b<a:=by
 unfold ordR
 split
 ·rename_i h;constructor
  ·intro k;omega
  ·intro k;exact absurd (Rat.le_of_lt h) (Rat.not_le.2 k)
 ·split
  ·rename_i h;exact ⟨fun _=>h,fun _=>by omega⟩
  ·rename_i h;exact ⟨fun k=>by omega,fun k=>absurd k h⟩
theorem len12:∀ {l:List Int},l.length=12→∃ c0 c1 c2 c3 c4 c5 c6 c7 c8 c9 c10 c11,l=[c0,c1,c2,c3,c4,c5,c6,c7,c8,c9,c10,c11]
 | [c0,c1,c2,c3,c4,c5,c6,c7,c8,c9,c10,c11],_=>⟨_,_,_,_,_,_,_,_,_,_,_,_,rfl⟩
set_option maxHeartbeats 16000000 in
theorem column_pc {H:Hp} {kd cl:Int} {sl sv vx vr:Value} {X:List (List Rat)} {S:List Int→List Value} {wo:List Int→Rat} {rs:List Int} {col least:Int} (hg:GOk H kd cl sl sv X.length S wo) (hX:QLL H vx X) (hr:IL H vr rs) (hn:rs.length≤20) (hrs:∀ r,r∈rs→0≤r∧r<(X.length:Int)) (hb:∀ x,x∈X→∀ q,q∈x→ht q≤100) :
  PC prog 233 #[goalV kd cl sl sv,vx,vr,.int .i64 col,.int .i64 least] H fun r _=>∃ o,ColR X wo rs least col o∧r=.tuple #[fracV (stA o),fracV (stW o),.bool o.isSome]:=by
 have hsorted:=sorted_pc (col:=col) hX hr hn hrs (fun x hx q hq=>sm_of (hb x hx q hq) oM)
 obtain ⟨xa,xc,rfl⟩:=hX.val
 obtain ⟨ra,rc,rfl⟩:=SlC.val hr
 refine BD func233 ntmps233 ?_
 try refine RUN ?_
 refine EVL.call rfl rfl rfl rfl rfl (hsorted) ?_
 rintro r1 G1 ⟨m,hm,hsc⟩ hG1
 have hmr:∀ r,r∈m→0≤r∧r<(X.length:Int):=by
  rcases hsc with ⟨_,hp,_⟩ | ⟨_,rfl⟩
  ·exact fun r hr=>hrs r (hp.mem_iff.1 hr)
  ·intro r hr;cases hr
 have hmn:m.length≤20:=by
  rcases hsc with ⟨_,hp,_⟩ | ⟨_,rfl⟩
  ·rw [hp.length_eq];exact hn
  ·decide
 have hmh:∀ r,r∈m→hasC X col r=true:=by
  rcases hsc with ⟨ha,hp,_⟩ | ⟨_,rfl⟩
  ·exact fun r hr=>List.all_eq_true.1 ha r (hp.mem_iff.1 hr)
  ·intro r hr;cases hr
 obtain ⟨ma,mc,rfl⟩:=SlC.val hm
 have hwh:=hg.whole G1 hG1 _ m hm oM hmr
 have hlS:=hg.len m
 try refine RUN ?_
 refine EVL.call rfl rfl rfl rfl rfl (hwh) ?_
 rintro r2 G2 rfl hG2
 obtain ⟨sn,scs,ssq,sq,hs12,hS⟩:=hg.form m
 obtain ⟨c0,c1,c2,c3,c4,c5,c6,c7,c8,c9,c10,c11,rfl⟩:=len12 hs12
 rw [hS]
 try refine RUN ?_
 (first | refine EVL.unbox (14) rfl fun b=>?_ | refine EV.unbox (14) rfl fun b=>?_)
 (first | refine EVL.swapOw ([(b,349,S (m.take 0)++S (m.drop 0))]) ([]) ((by rw [List.take_zero,List.drop_zero,hg.zero,hS];rfl)) ?_ | refine EV.swapOw ([(b,349,S (m.take 0)++S (m.drop 0))]) ([]) ((by rw [List.take_zero,List.drop_zero,hg.zero,hS];rfl)) ?_)
 have hX2:=hX.mono (hG1.trans hG2)
 have hm2:=hm.mono hG2
 have hg2:=hg.mono (hG1.trans hG2)
 clear hS hwh hsorted
 have hsw:∀ j,j<m.length→ht (sumW wo m j)≤200001:=fun j hj=>by
  have h1:=hg.small (m.take (j+1)) (by rw [List.length_take];omega) (fun r hr=>hmr r (List.mem_of_mem_take hr))
  have h2:=hg.small (m.drop (j+1)) (by rw [List.length_drop];omega) (fun r hr=>hmr r (List.mem_of_mem_drop hr))
  have h3:=ht_add (wo (m.take (j+1))) (wo (m.drop (j+1)))
  unfold sumW;omega
 have hst:=fun j (hj:j≤m.length)=>stW_ht (key:=colK X col) (least:=least) hsw oM j hj
 generalize hkey:colK X col=key at *
 refine EV.loopK (ι:=Nat) [1,3,4,5,10,11,13,14] [5] (fun j=>[(12,.v (.bool (colN key wo least m j).isSome)),(15,.v (.int .i64 ((j+1:Nat):Int)))]) (fun j=>[(10,63,vlist (fracV (stA (colN key wo least m j)))),(11,63,vlist (fracV (stW (colN key wo least m j))))]) (fun j=>[(b,349,S (m.take j)++S (m.drop j))]) (fun j _=>j≤m.length-1) (fun j=>m.length-j) (0) rfl rfl ⟨rfl,rfl,trivial⟩ ⟨by rw [show stA (colN key wo least m 0)=0 from rfl,frac_zero_cells];rfl,by rw [show stW (colN key wo least m 0)=0 from rfl,frac_zero_cells];rfl,trivial⟩ rfl (fun _=>rfl) (Nat.zero_le _) ?_
 rintro j G3 hG3 hj
 try refine RUN ?_
 refine EV.cond rfl (fun hlt=>?_) (fun hlt=>?_)
 ·simp only [nN] at hlt
  obtain ⟨r1,hr1⟩:∃ r,m[j]?=some r:=⟨_,List.getElem?_eq_getElem oM⟩
  obtain ⟨r2,hr2⟩:∃ r,m[j+1]?=some r:=⟨_,List.getElem?_eq_getElem hlt⟩
  have hb1:=hmr r1 (List.mem_of_getElem? hr1)
  have hb2:=hmr r2 (List.mem_of_getElem? hr2)
  obtain ⟨R1,C,x1,q1,rfl,hCC,hx1,hq1⟩:=hasC_at hb1.1 hb1.2 (hmh r1 (List.mem_of_getElem? hr1))
  subst hCC
  obtain ⟨R2,C',x2,q2,rfl,hCC,hx2,hq2⟩:=hasC_at hb2.1 hb2.2 (hmh r2 (List.mem_of_getElem? hr2))
  obtain rfl:C=C':=by omega
  obtain ⟨vs,hvs,hs⟩:=hX2.mono hG3
  obtain ⟨a1,e1,hu1,hQ1⟩:=hvs.at hx1
  obtain ⟨a2,e2,hu2,hQ2⟩:=hvs.at hx2
  have hs1:SlC G3 (.slice a1 x1.length e1) x1.length 5 (x1.flatMap fun q=>vlist (fracV q)):=hQ1
  have hs2:SlC G3 (.slice a2 x2.length e2) x2.length 5 (x2.flatMap fun q=>vlist (fracV q)):=hQ2
  have hm3:=hm2.mono hG3
  have hl1:=(List.getElem?_eq_some_iff.1 hq1).1
  have hl2:=(List.getElem?_eq_some_iff.1 hq2).1
  have hXl1:R1<X.length:=by omega
  have hXl2:R2<X.length:=by omega
  have hjl:j<m.length:=by omega
  have hk1:key (m.getD j 0)=q1:=by rw [List.getD_eq_getElem?_getD,hr1,← hkey];exact colK_at rfl rfl hx1 hq1
  have hk2:key (m.getD (j+1) 0)=q2:=by rw [List.getD_eq_getElem?_getD,hr2,← hkey];exact colK_at rfl rfl hx2 hq2
  have hqb1:=hb x1 (List.mem_of_getElem? hx1) q1 (List.mem_of_getElem? hq1)
  have hqb2:=hb x2 (List.mem_of_getElem? hx2) q2 (List.mem_of_getElem? hq2)
  have wj:IntKind.i64.wrap (((j+1:Nat):Int)-1)=(j:Int):=by rw [IntKind.wrap_i64];omega
  have wn:IntKind.i64.wrap (((j+1:Nat):Int)+1)=((j+1+1:Nat):Int):=wi_inc (j+1) oM
  have hdrop:m.drop j=(R1:Int)::m.drop (j+1):=dropA_at hr1
  have htake:m.take (j+1)=m.take j++[(R1:Int)]:=take_snoc hr1
  have hmove:=fun (G':Hp) (hG':G3.Le G')=>hg2.move G' (hG3.trans hG') b (m.take j) (m.drop (j+1)) (R1:Int) (by rw [List.length_take,List.length_drop];omega) (by rw [← hdrop,List.take_append_drop];exact hmr)
  rw [← hdrop,← htake] at hmove
  have htl:(m.take (j+1)).length=j+1:=by rw [List.length_take];omega
  have hdl:(m.drop (j+1)).length=m.length-(j+1):=List.length_drop
  have hf1:=hg.first (m.take (j+1))
  have hf2:=hg.first (m.drop (j+1))
  rw [htl] at hf1
  rw [hdl] at hf2
  have hS1:=hg.len (m.take (j+1))
  have hS2:=hg.len (m.drop (j+1))
  have hcmp:=cmp_pv q1 q2 (sm_of hqb1 oM) (sm_of hqb2 oM)
  try refine RUN ?_
  apply EV.drawn 6 kR kR;intro xv yw
  (repeat (first | refine' DV ?_ | refine' DA ?_ | refine' DK0 ?_ | refine' DT ?_ | refine' DS ?_))
  refine' DJ.ofVal (ValOk.idx1 tO rfl rfl rfl rfl rfl rfl rfl rfl (hm3) (j) (wj) (hjl) ((by rw [List.getElem?_map,hr1];rfl))) rfl rfl rfl ?_;rotate_left
  (repeat (first | refine' DV ?_ | refine' DA ?_ | refine' DK0 ?_ | refine' DT ?_ | refine' DS ?_))
  (refine DJ.nil (fun G4 hG4 hF4=>?_);(case hS|hS2=>rfl))
  refine EVL.callW rfl rfl rfl rfl rfl ([(b,349,S (m.take j)++S (m.drop j))]) ([]) rfl (hmove G4 hG4) ?_
  rintro v ow G5 ⟨rfl,rfl⟩ hG5
  have hm5:=hm3.mono (hG4.trans hG5)
  have hs5:=hs.mono (hG4.trans hG5)
  have hs15:=hs1.mono (hG4.trans hG5)
  have hs25:=hs2.mono (hG4.trans hG5)
  try refine RUN ?_
  apply EV.drawn 24 kR kR;intro xv yw
  (repeat (first | refine' DV ?_ | refine' DA ?_ | refine' DK0 ?_ | refine' DT ?_ | refine' DS ?_))
  refine' DJ.ofVal (ValOk.idx1 tO rfl rfl rfl rfl rfl rfl rfl rfl (hm5) (j) (wj) (hjl) ((by rw [List.getElem?_map,hr1];rfl))) rfl rfl rfl ?_;rotate_left
  (repeat (first | refine' DV ?_ | refine' DA ?_ | refine' DK0 ?_ | refine' DT ?_ | refine' DS ?_))
  refine' DJ.ofVal (ValOk.idx1 tO rfl rfl rfl rfl rfl rfl rfl rfl (hs5) (R1) (rfl) (hXl1) (hu1)) rfl rfl rfl ?_;rotate_left
  (repeat (first | refine' DV ?_ | refine' DA ?_ | refine' DK0 ?_ | refine' DT ?_ | refine' DS ?_))
  refine' DJ.idxM tO rfl rfl rfl rfl rfl rfl rfl rfl rfl (hs15) (C) (rfl) (hl1) (QL.at (H:=H) (v:=.bool true) hq1) ?_;rotate_left
  (repeat (first | refine' DV ?_ | refine' DA ?_ | refine' DK0 ?_ | refine' DT ?_ | refine' DS ?_))
  refine' DJ.ofVal (ValOk.idx1 tO rfl rfl rfl rfl rfl rfl rfl rfl (hm5) (j+1) (rfl) (hlt) ((by rw [List.getElem?_map,hr2];rfl))) rfl rfl rfl ?_;rotate_left
  (repeat (first | refine' DV ?_ | refine' DA ?_ | refine' DK0 ?_ | refine' DT ?_ | refine' DS ?_))
  refine' DJ.ofVal (ValOk.idx1 tO rfl rfl rfl rfl rfl rfl rfl rfl (hs5) (R2) (rfl) (hXl2) (hu2)) rfl rfl rfl ?_;rotate_left
  (repeat (first | refine' DV ?_ | refine' DA ?_ | refine' DK0 ?_ | refine' DT ?_ | refine' DS ?_))
  refine' DJ.idxM tO rfl rfl rfl rfl rfl rfl rfl rfl rfl (hs25) (C) (rfl) (hl2) (QL.at (H:=H) (v:=.bool true) hq2) ?_;rotate_left
  (repeat (first | refine' DV ?_ | refine' DA ?_ | refine' DK0 ?_ | refine' DT ?_ | refine' DS ?_))
  (refine DJ.nil (fun G6 hG6 hF6=>?_);(case hS|hS2=>rfl))
  try refine RUN ?_
  (repeat (first | refine EVL.nilB rfl rfl rfl rfl rfl ?_ | refine EVL.fldB tO rfl rfl rfl rfl rfl rfl rfl ?_ | refine EVL.val tO rfl rfl rfl rfl rfl ?_))
  refine EVL.loadOwn tO rfl rfl rfl rfl rfl rfl (0) rfl (sw_low hS1 hf1) rfl rfl ?_
  try refine RUN ?_
  have hcand:candC key least m j=(decide (least≤((j+1:Nat):Int)) && decide (least≤((m.length-(j+1):Nat):Int)) && decide (q1<q2)):=by unfold candC;rw [hk1,hk2]
  by_cases h1:((j+1:Nat):Int)<least
  ·have hno:colN key wo least m (j+1)=colN key wo least m j:=colN_no (by rw [hcand,decide_eq_false (show ¬ least≤((j+1:Nat):Int) by omega)];rfl)
   rw [decide_eq_true h1]
   try refine RUN ?_
   refine ⟨j+1,⟨by rw [hno];rfl,by rw [wn];rfl,trivial⟩,sB,⟨by rw [hno];rfl,by rw [hno];rfl,trivial⟩,sB,rfl,by omega,hG4.trans (hG5.trans hG6),by omega⟩
  ·rw [decide_eq_false h1]
   try refine RUN ?_
   (repeat (first | refine EVL.nilB rfl rfl rfl rfl rfl ?_ | refine EVL.fldB tO rfl rfl rfl rfl rfl rfl rfl ?_ | refine EVL.val tO rfl rfl rfl rfl rfl ?_))
   refine EVL.loadOwn tO rfl rfl rfl rfl rfl rfl (0) rfl (sw_high hS1 hf2) rfl rfl ?_
   try refine RUN ?_
   by_cases h2:((m.length-(j+1):Nat):Int)<least
   ·have hno:colN key wo least m (j+1)=colN key wo least m j:=colN_no (by rw [hcand,decide_eq_false (show ¬ least≤((m.length-(j+1):Nat):Int) by omega),Bool.and_false];rfl)
    rw [decide_eq_true h2]
    try refine RUN ?_
    refine ⟨j+1,⟨by rw [hno];rfl,by rw [wn];rfl,trivial⟩,sB,⟨by rw [hno];rfl,by rw [hno];rfl,trivial⟩,sB,rfl,by omega,hG4.trans (hG5.trans hG6),by omega⟩
   ·rw [decide_eq_false h2]
    repeat (first | refine RUN ?_ | refine CV (hcmp) ?_ | refine CE (hcmp) ?_)
    by_cases h3:q1<q2
    ·have hc:candC key least m j=true:=by rw [hcand,decide_eq_true (show least≤((j+1:Nat):Int) by omega),decide_eq_true (show least≤((m.length-(j+1):Nat):Int) by omega),decide_eq_true h3];rfl
     have hmid:midC key m j=(q1+q2) / 2:=by unfold midC;rw [hk1,hk2]
     have hr1':=fun r hr=>hmr r (List.mem_of_mem_take (i:=j+1) hr)
     have hr2':=fun r hr=>hmr r (List.mem_of_mem_drop (i:=j+1) hr)
     have hw1:=fun G':Hp=>hg2.worth G' b 0 349 [] (S (m.drop (j+1))) (m.take (j+1)) rfl oM hr1'
     have hw2:=fun G':Hp=>hg2.worth G' b 19 349 (S (m.take (j+1))) [] (m.drop (j+1)) hS1 oM hr2'
     simp only [List.append_nil] at hw2
     have hsm1:=hg.small (m.take (j+1)) oM hr1'
     have hsm2:=hg.small (m.drop (j+1)) oM hr2'
     have hadd:=add_pv (wo (m.take (j+1))) (wo (m.drop (j+1))) (sm_of hsm1 oM) (sm_of hsm2 oM)
     have hmv:=middle_pv q1 q2 oM oM
     have hws:=hsw j oM
     have hwst:=hst j oM
     rw [show wo (m.take (j+1))+wo (m.drop (j+1))=sumW wo m j from rfl] at hadd
     rw [← hmid] at hmv
     rw [decide_eq_false (fun h=>absurd h3 (ordQ_neg.1 h))]
     try refine RUN ?_
     apply EV.drawn 10 kR kR;intro xv yw
     (repeat (first | refine' DV ?_ | refine' DA ?_ | refine' DK0 ?_ | refine' DT ?_ | refine' DS ?_ | (refine' DJ.nilB rfl rfl rfl rfl rfl ?_;rotate_left) | (refine' DJ.fldB tO rfl rfl rfl rfl rfl rfl rfl ?_;rotate_left)))
     (refine' DJ.callR rfl rfl rfl rfl rfl 0 rfl (by simp [hS1,hS2]) (cO func230) (fun G'=>hw1 G') ?_;rotate_left)
     (repeat (first | refine' DV ?_ | refine' DA ?_ | refine' DK0 ?_ | refine' DT ?_ | refine' DS ?_ | (refine' DJ.nilB rfl rfl rfl rfl rfl ?_;rotate_left) | (refine' DJ.fldB tO rfl rfl rfl rfl rfl rfl rfl ?_;rotate_left)))
     (refine' DJ.callR rfl rfl rfl rfl rfl 0 rfl (by simp [hS1,hS2]) (cO func230) (fun G'=>hw2 G') ?_;rotate_left)
     (repeat (first | refine' DV ?_ | refine' DA ?_ | refine' DK0 ?_ | refine' DT ?_ | (refine' DC (hadd) (h:=?_);rotate_left) | refine' DS ?_))
     (refine DJ.nil (fun G7 hG7 hF7=>?_);(case hS|hS2=>rfl))
     try refine RUN ?_
     have hcmp2:=cmp_pv (sumW wo m j) (stW (colN key wo least m j)) (sm_of hws oM) (sm_of hwst oM)
     cases hst0:colN key wo least m j with
     | none =>
      have hyes:=colN_first (wo:=wo) hc hst0
      rw [hst0] at hcmp2
      try refine RUN ?_
      apply EV.drawnK [1,3,4,5,10,11,13,14,15,16,17,18] [10,11] [5,16,17,18] 5 rfl rfl rfl rfl kR kR;intro xv yw
      (repeat (first | refine' DV ?_ | refine' DA ?_ | refine' DK0 ?_ | refine' DT ?_ | (refine' DC (hmv) (h:=?_);rotate_left) | refine' DS ?_))
      (refine DJ.nil (fun G8 hG8 hF8=>?_);(case hS|hS2=>rfl);(case hD=>rfl))
      try refine RUN ?_
      refine ⟨j+1,⟨by rw [hyes];rfl,by rw [wn];rfl,trivial⟩,sB,⟨by rw [hyes];rfl,by rw [hyes];rfl,trivial⟩,sB,rfl,by omega,hG4.trans (hG5.trans (hG6.trans (hG7.trans hG8))),by omega⟩
     | some p =>
      obtain ⟨pa,pw⟩:=p
      rw [hst0] at hcmp2
      repeat (first | refine RUN ?_ | refine CV (hcmp2) ?_ | refine CE (hcmp2) ?_)
      by_cases h4:pw<sumW wo m j
      ·have hyes:=colN_more (wo:=wo) hc hst0 h4
       rw [decide_eq_true (show ordR (sumW wo m j) (stW (some (pa,pw)))>0 from ordQ_pos.2 h4)]
       try refine RUN ?_
       apply EV.drawnK [1,3,4,5,10,11,13,14,15,16,17,18] [10,11] [5,16,17,18] 5 rfl rfl rfl rfl kR kR;intro xv yw
       (repeat (first | refine' DV ?_ | refine' DA ?_ | refine' DK0 ?_ | refine' DT ?_ | (refine' DC (hmv) (h:=?_);rotate_left) | refine' DS ?_))
       (refine DJ.nil (fun G8 hG8 hF8=>?_);(case hS|hS2=>rfl);(case hD=>rfl))
       try refine RUN ?_
       refine ⟨j+1,⟨by rw [hyes];rfl,by rw [wn];rfl,trivial⟩,sB,⟨by rw [hyes];rfl,by rw [hyes];rfl,trivial⟩,sB,rfl,by omega,hG4.trans (hG5.trans (hG6.trans (hG7.trans hG8))),by omega⟩
      ·have hno:=(colN_less (wo:=wo) hc hst0 h4).trans hst0
       rw [decide_eq_false (show ¬ ordR (sumW wo m j) (stW (some (pa,pw)))>0 from fun h=>h4 (ordQ_pos.1 h))]
       try refine RUN ?_
       refine ⟨j+1,⟨by rw [hno];rfl,by rw [wn];rfl,trivial⟩,sB,⟨by rw [hno];rfl,by rw [hno];rfl,trivial⟩,sB,rfl,by omega,hG4.trans (hG5.trans (hG6.trans hG7)),by omega⟩
    ·have hno:colN key wo least m (j+1)=colN key wo least m j:=colN_no (by rw [hcand,decide_eq_false h3,Bool.and_false])
     rw [decide_eq_true (ordQ_neg.2 h3)]
     try refine RUN ?_
     refine ⟨j+1,⟨by rw [hno];rfl,by rw [wn];rfl,trivial⟩,sB,⟨by rw [hno];rfl,by rw [hno];rfl,trivial⟩,sB,rfl,by omega,hG4.trans (hG5.trans hG6),by omega⟩
 ·simp only [nN] at hlt
  obtain rfl:j=m.length-1:=by omega
  have hfh:=hst (m.length-1) oM
  generalize hfin:colN key wo least m (m.length-1)=fin at *
  try refine RUN ?_
  refine EVA.start kR ?_
  refine EVA.val tO (2) rfl kR kR kR rfl rfl rfl rfl rfl ?_
  refine EVA.two 0 1 kR rfl rfl ?_ ?_
  ·(try refine RUNL ?_)
   refine EVL.nil ⟨rfl,?_⟩
   refine EVA.two 1 3 kR rfl rfl ?_ ?_
   ·(try refine RUNL ?_)
    refine EVL.nil ⟨rfl,?_⟩
    refine EVA.one 3 kR rfl ?_
    (try refine RUNL ?_)
    refine EVL.nil ⟨rfl,?_⟩
    refine EVA.one 4 kR rfl ?_
    (try refine RUNL ?_)
    refine EVL.nil ⟨rfl,?_⟩
    refine EVA.one 5 kR rfl ?_
    (try refine RUNL ?_)
    refine EVL.nil ⟨rfl,?_⟩
    refine EVA.nil kR ?_
    try refine RUN ?_
    exact ⟨fin,⟨m,hsc,by rw [hkey];exact hfin.symm,hfh⟩,rfl⟩
   ·(try refine RUNL ?_)
    refine EVL.nil ⟨rfl,?_⟩
    refine EVA.one 1 kR rfl ?_
    (try refine RUNL ?_)
    refine EVL.nil ⟨rfl,?_⟩
    refine EVA.one 4 kR rfl ?_
    (try refine RUNL ?_)
    refine EVL.nil ⟨rfl,?_⟩
    refine EVA.one 5 kR rfl ?_
    (try refine RUNL ?_)
    refine EVL.nil ⟨rfl,?_⟩
    refine EVA.nil kR ?_
    try refine RUN ?_
    exact ⟨fin,⟨m,hsc,by rw [hkey];exact hfin.symm,hfh⟩,rfl⟩
  ·(try refine RUNL ?_)
   refine EVL.nil ⟨rfl,?_⟩
   refine EVA.one 0 kR rfl ?_
   (try refine RUNL ?_)
   refine EVL.nil ⟨rfl,?_⟩
   refine EVA.one 3 kR rfl ?_
   (try refine RUNL ?_)
   refine EVL.nil ⟨rfl,?_⟩
   refine EVA.one 4 kR rfl ?_
   (try refine RUNL ?_)
   refine EVL.nil ⟨rfl,?_⟩
   refine EVA.one 5 kR rfl ?_
   (try refine RUNL ?_)
   refine EVL.nil ⟨rfl,?_⟩
   refine EVA.nil kR ?_
   try refine RUN ?_
   exact ⟨fin,⟨m,hsc,by rw [hkey];exact hfin.symm,hfh⟩,rfl⟩
end Go.Proofs.YtplhljjljnkhpaaGreatDoor
namespace Go.Proofs.YtplhljjljnkhpaaGreatDoor
open Go.RowKit Go.Shelf
attribute [local go_sem] Oper.semAt_some
def uptoF {α:Type} (f:Nat→α) (k:Nat):List α:=(List.range k).map f
theorem uptoF_succ {α:Type} (f:Nat→α) (k:Nat):uptoF f (k+1)=uptoF f k++[f k]:=by simp [uptoF,List.range_succ]
theorem uptoF_length {α:Type} (f:Nat→α) (k:Nat):(uptoF f k).length=k:=by simp [uptoF]
theorem uptoF_all (zs:List Int):uptoF (fun j=>zs[j]?.getD 0) zs.length=zs:=by
 apply List.ext_getElem
 ·simp [uptoF]
 ·intro i h1 h2
  simp [uptoF,h2]
theorem uptoF_take (zs:List Int) {k:Nat} (hk:k≤zs.length):uptoF (fun j=>zs[j]?.getD 0) k=zs.take k:=by
 apply List.ext_getElem
 ·simp [uptoF,hk]
 ·intro i h1 h2
  have:i<zs.length:=by simp [uptoF] at h1;omega
  simp [uptoF,this]
set_option maxRecDepth 100000 in
set_option maxHeartbeats 2000000 in
theorem values1_in (F:Fence) (n:Nat) (h7:F.fn 181) (hro:F.round=none) (hn:1≤n) (l Bs n₀ b off len cap:Nat) (zs:List Int) (hreach:len*8≤140737488351232) (hb:b<n₀) (J Jx:List Int→World→Prop)
  (hY:∀ pre x W,J pre W→pre.length<len→YieldAt F (n-1) Tryz.prog l #[.int .i64 x] W fun e W' =>
   (e=.returned (.bool true)∧J (pre++[x]) W'∧Below n₀ W W')∨(e=.returned (.bool false)∧Jx (pre++[x]) W'))
  (W:World) (hBs:W.cell? ⟨Bs,0,none⟩=some (.slice (some ⟨b,off,none⟩) len cap)) (hc:∀ j,j<len→W.cell? ⟨b,off+j,none⟩=some (.int .i64 (zs[j]?.getD 0))) (h0:J [] W) :
  CallsIn F n Tryz.prog 181 #[.func (.yield l) #[] #[],.pointer (some ⟨Bs,0,none⟩)] W fun e W'=>(∃ v,e=.returned v) ∧
   ((∃ ys,ys=uptoF (fun j=>zs[j]?.getD 0) len∧J ys W')∨(∃ pre,(∃ k,k≤len∧pre=uptoF (fun j=>zs[j]?.getD 0) k)∧Jx pre W')):=by
 refine callsIn_of_wp Tryz.func181 rfl h7 ?_ hro
 simp only [Tryz.ntmps181,List.size_toArray,List.length_cons,List.length_nil,Nat.reduceAdd,Nat.reduceSub,Array.replicate_succ,Array.replicate_zero,List.push_toArray,List.append_toArray,List.nil_append,List.cons_append]
 gi_wp2
 gi_loopw [7] (fun i wr=>∃ k:Nat,k≤len∧i=.int .i64 k∧J (uptoF (fun j=>zs[j]?.getD 0) k) wr∧Below n₀ W wr)
  (fun i _=>len-(intOf i).toNat)
 case atStart=>exact ⟨0,Nat.zero_le _,rfl,h0,Below.refl _ _⟩
 case round =>
  obtain ⟨k,hk,rfl,hJs,hnx⟩:=hrel
  have hcx:k<len→wr.cell? ⟨b,off+k,none⟩=some (.int .i64 (zs[k]?.getD 0)):=fun h=>(hnx.cell (p:=⟨b,off+k,none⟩) hb).trans (hc k h)
  by_cases hlt:k<len
  ·obtain ⟨fn,tmps,assign,body,hy,hR⟩:=hY _ (zs[k]?.getD 0) wr hJs (by rw [uptoF_length];exact hlt)
   have hcx':=hcx hlt
   gi_wp2
   refine hR.mono ?_
   rintro e W3 (⟨rfl,hJ3,hk3⟩ | ⟨rfl,hJx3⟩)
   ·gi_wp2
    go_roundw
    case rel=>exact ⟨k+1,by omega,by simp,by rw [uptoF_succ];exact hJ3,hnx.trans hk3⟩
    case measure=>simp [intOf];omega
   ·gi_wp2
    refine bodyPost_ret (results_none rfl _ _ _) rfl ?_
    exact ⟨⟨_,rfl⟩,.inr ⟨_,⟨k+1,by omega,(uptoF_succ _ _).symm⟩,hJx3⟩⟩
  ·obtain rfl:k=len:=by omega
   gi_wp2
   go_end0
   exact ⟨⟨_,rfl⟩,.inl ⟨_,rfl,hJs⟩⟩
set_option maxRecDepth 100000 in
set_option maxHeartbeats 1000000 in
theorem values1_nil_in (F:Fence) (n:Nat) (h7:F.fn 181) (hro:F.round=none) (l Bs:Nat) (a:Option Addr) (cap:Nat) (J:List Int→World→Prop) (W:World) (hBs:W.cell? ⟨Bs,0,none⟩=some (.slice a 0 cap)) (h0:J [] W) :
  CallsIn F n Tryz.prog 181 #[.func (.yield l) #[] #[],.pointer (some ⟨Bs,0,none⟩)] W fun e W'=>(∃ v,e=.returned v)∧J [] W':=by
 refine callsIn_of_wp Tryz.func181 rfl h7 ?_ hro
 simp only [Tryz.ntmps181,List.size_toArray,List.length_cons,List.length_nil,Nat.reduceAdd,Nat.reduceSub,Array.replicate_succ,Array.replicate_zero,List.push_toArray,List.append_toArray,List.nil_append,List.cons_append]
 gi_wp2
 gi_loopw [7] (fun i wr=>i=.int .i64 0∧J [] wr) (fun _ _=>0)
 case atStart=>exact ⟨rfl,h0⟩
 case round =>
  obtain ⟨rfl,hJs⟩:=hrel
  gi_wp2
  go_end0
  exact ⟨⟨_,rfl⟩,hJs⟩
theorem values_stops (F:Fence) (n:Nat) (h7:F.fn 181) (hro:F.round=none) (hn:1≤n) (Bs n₀:Nat) (sv:Value) (zs:List Int) (hreach:zs.length*8≤140737488351232) (w:World) (hBs:Bs<w.heap.size) (hn₀:n₀≤w.heap.size)
  (hc:w.cell? ⟨Bs,0,none⟩=some sv) (hI:Sl i64 w sv zs) (hlow:∀ b off len cap,sv=.slice (some ⟨b,off,none⟩) len cap→zs≠[]→b<n₀) :
  SeqStopsK F n Tryz.prog 181 #[.pointer (some ⟨Bs,0,none⟩)] (fun x:Int=>#[Value.int .i64 x]) (Below n₀) (fun ys=>ys=zs) (fun pre=>pre <+: zs) zs.length w:=fun l J Jx W hW _ _ hY h0=>by
 have hc':=(hW.cell (p:=⟨Bs,0,none⟩) hBs).trans hc
 rcases hI.below hW with ⟨rfl,a,cap,rfl⟩ | ⟨b,off,cap,rfl,hb,hcs⟩
 ·exact (values1_nil_in F n h7 hro l Bs a cap J W hc' h0).mono fun e W' ⟨he,hj⟩=>⟨he,.inl ⟨_,rfl,hj⟩⟩
 ·by_cases hz:zs=[]
  ·subst hz
   exact (values1_nil_in F n h7 hro l Bs _ cap J W hc' h0).mono fun e W' ⟨he,hj⟩=>⟨he,.inl ⟨_,rfl,hj⟩⟩
  ·refine (values1_in F n h7 hro hn l Bs n₀ b off zs.length cap zs hreach (hlow _ _ _ _ rfl hz) J Jx hY W hc' (fun j hj=>by rw [hcs j hj];simp [hj]) h0).mono ?_
   rintro e W' ⟨he,⟨ys,rfl,hj⟩ | ⟨pre,⟨k,hk,rfl⟩,hj⟩⟩
   ·exact ⟨he,.inl ⟨_,uptoF_all zs,hj⟩⟩
   ·exact ⟨he,.inr ⟨_,by rw [uptoF_take zs hk];exact List.take_prefix _ _,hj⟩⟩
theorem Tryz.infoInt':(Tryz.prog.info? 3).map (fun i=>(i.zero,i.size,i.bytes))=some (some (.int .i64 0),1,8):=by kernel_rfl
set_option maxRecDepth 100000 in
set_option maxHeartbeats 2000000 in
theorem appendSeq_in (F:Fence) (n:Nat) (h3:F.fn 225) (h5:F.fn 181) (hro:F.round=none) (hn:3≤n) (Bs:Nat) (sv:Value) (xs:List Int) (hbytes:xs.length*8≤140737488351232) (w:World)
  (hBs:Bs<w.heap.size) (hc0:w.cell? ⟨Bs,0,none⟩=some sv) (hI:Sl i64 w sv xs) :
  CallsIn F n Tryz.prog 225 #[.slice none 0 0,.func (.func 181) #[] #[.pointer (some ⟨Bs,0,none⟩)]] w fun e W'=>∃ v,e=.returned v∧W'.ownsRow w.heap.size 3 1 v xs.length (xs.map (Value.int .i64))∧(v=.slice none 0 0↔xs=[])∧Below w.heap.size w W':=by
 have h1:1≤n:=by omega
 obtain ⟨i0,hi,hz0,hz1,hz2⟩:=info_parts Tryz.infoInt'
 refine callsIn_of_wp_marks Tryz.func225 rfl h3 ?_ hro
 simp only [Tryz.ntmps225,List.size_toArray,List.length_cons,List.length_nil,Nat.reduceAdd,Nat.reduceSub,Array.replicate_succ,Array.replicate_zero,List.push_toArray,List.append_toArray,List.nil_append,List.cons_append]
 gi_wp2
 have bO:=Boxed.new w 23 (.slice none 0 0)
 have hB0:Below w.heap.size w (w.alloc (.cells #[.slice none 0 0] 23)):=(Below.refl _ w).alloc (Nat.le_refl _) _
 have hmax:xs.length≤maxLen:=by unfold maxLen;omega
 refine wpIn_rangeFunc_ownG hro h1 (gf:=181) (lb:=#[.pointer (some ⟨Bs,0,none⟩)]) rfl h5 (enters_of Tryz.func181 kR rfl)
  (values_stops F (n-1) h5 hro oM Bs w.heap.size sv xs hbytes _ (by simp;omega) (by simp) ((hB0.cell (p:=⟨Bs,0,none⟩) hBs).trans hc0) (hI.below hB0) (fun b off len cap e hne=>by
   rcases hI with ⟨hx,_⟩ | ⟨b',off',cap',e',hb',_⟩
   ·exact absurd hx hne
   ·rw [e'] at e;cases e;exact hb')) belowK_t (belowK_b (by simp)) (Below.refl _ _) (fun _=>rfl)
  (fun pre W=>(∃ v,Boxed W w.heap.size 23 v∧W.ownsRow w.heap.size 3 1 v pre.length (pre.map (Value.int .i64))∧(v=.slice none 0 0↔pre=[]))∧Below w.heap.size w W)
  (fun _ _ _=>False)
  (OwnFrom.and (Own.from (holdsRow_own w.heap.size w.heap.size 23 3 1 (fun pre=>pre.length) (fun pre=>pre.map (Value.int .i64)) (fun pre v=>v=.slice none 0 0↔pre=[])) _) (ownFrom_below (Nat.le_refl _) (by simp)))
  (fun _ _ _ _ _ hs _ _=>hs)
  ⟨⟨_,bO,World.ownsRow_nil _ _ _ _,by simp⟩,hB0⟩
  (fun x=>{ tmps:=#[.slice none 0 0,.func (.func 181) #[] #[.pointer (some ⟨Bs,0,none⟩)],.pointer (some ⟨w.heap.size,0,none⟩),undef,.slice none 0 0,.int .i64 x,.func (.func 181) #[] #[.pointer (some ⟨Bs,0,none⟩)],.int .i64 x,undef,undef,undef,undef,undef],defers:=[] }) ?assign ?body ?done ?stop
 case assign =>
  intro l x W K hK
  gi_wp2
  exact hK
 case body =>
  rintro l pre x W ⟨⟨v,hv,hrow,hnil⟩,hB⟩ hlt
  have hc:=hv.cell
  gi_wp2_with (gi_at_builtin;refine wpListIn_append_own _ rfl _ _ 23 rfl w.heap.size 3 i0 (.int .i64 0) 1 8 Tryz.underlying23 hi hz0 hz1 hz2 rfl (by decide) _ _ _ rfl (hrow.alloc _) ⟨W.heap.size,0,none⟩ 1 1 [.int .i64 x] rfl rfl (cell_one_new _ _ _) (by simp [Value.oneCell']) oM oM (by have:=hB.size;simp;omega) ?_;intro v' w1 hown' hgrow _;obtain ⟨g',cap',rfl⟩:=ownsRow_succ hown';obtain ⟨hv1,hv2,hr2,hk2,hb2⟩:=hv.appended (by decide) hrow hB.size (Nat.le_refl _) hown' hgrow;have hc1:=hv1.cell;have hf1:=hv1.frozen)
  exact ⟨hk2.from _,hb2,⟨_,hv2,by simpa using hr2,by simp⟩,hB.trans hb2⟩
 case done =>
  rintro D ys W hD rfl ⟨⟨v,hv,hrow,hnil⟩,hB⟩ hK
  have hc:=hv.cell
  gi_wp2
  refine ⟨by simp,.inl ⟨_,_,rfl,run_takeDeferred hK,?_⟩⟩
  exact ⟨_,results_tmp rfl _ _ _,v,rfl,ownsRow_putObj hrow _ hK rfl,hnil,hB.trans (belowK_b (w:=w) (Nat.le_refl _) W D _ _ (by simp at hD;omega) hK rfl rfl)⟩
 case stop =>
  rintro D c pre W _ _ h _
  exact h.elim
end Go.Proofs.YtplhljjljnkhpaaGreatDoor
namespace Go.Proofs.YtplhljjljnkhpaaGreatDoor
open Go.RowKit Go.Shelf
attribute [local go_sem] Oper.semAt_some
set_option maxHeartbeats 1000000 in
theorem values_in (F:Fence) (n:Nat) (h5:F.fn 137) (hro:F.round=none) (a:Option Addr) (len cap:Nat) (w:World) :
  CallsIn F n Tryz.prog 137 #[.slice a len cap] w fun e w'=>e=.returned (.func (.func 181) #[] #[.pointer (some ⟨w.heap.size,0,none⟩)])∧w'=w.alloc (.cells #[.slice a len cap] 23):=by
 refine callsIn_of_wp Tryz.func137 rfl h5 ?_ hro
 simp only [Tryz.ntmps137,List.size_toArray,List.length_cons,List.length_nil,Nat.reduceAdd,Nat.reduceSub,Array.replicate_succ,Array.replicate_zero,List.push_toArray,List.append_toArray,List.nil_append,List.cons_append]
 gi_wp2
 go_ret
 exact ⟨rfl,rfl⟩
end Go.Proofs.YtplhljjljnkhpaaGreatDoor
namespace Go.Proofs.YtplhljjljnkhpaaGreatDoor
open Go.RowKit _root_.Go.Proofs.Tryz
def nxt (s:Int):Int:=IntKind.u64.wrap (s+11400714819323198485)
def mixA (z:Int):Int:=IntKind.u64.wrap (bits .xor .u64 z (z / 1073741824)*13787848793156543929)
def mixB (z:Int):Int:=IntKind.u64.wrap (bits .xor .u64 z (z / 134217728)*10723151780598845931)
def mixC (z:Int):Int:=bits .xor .u64 z (z / 2147483648)
def mix (z:Int):Int:=mixC (mixB (mixA z))
def last (n:Int):Int:=18446744073709551615-18446744073709551616 % n
def two64:Int:=18446744073709551616
def dist (s:Int):Int:=(-s*17428512612931826493) % 18446744073709551616
def left (s:Int):Nat:=(dist (nxt s)).toNat
def belowGo (n:Int):Nat→Int→Int × Int
 | 0,s=>(0,s)
 | k+1,s=>if mix (nxt s)≤last n then (mix (nxt s) % n,nxt s) else belowGo n k (nxt s)
def below (n s:Int):Int × Int:=belowGo n (left s+1) s
theorem wrap_u64 (n:Int):IntKind.u64.wrap n=n % 18446744073709551616:=by simp [IntKind.wrap,IntKind.bits,IntKind.signed]
theorem nxt_range (s:Int):0≤nxt s∧nxt s<two64:=by unfold nxt two64;rw [wrap_u64];omega
theorem mix_zero:mix 0=0:=by decide +kernel
theorem last_nonneg (n:Int) (h:1≤n) (h2:n≤9223372036854775807):0≤last n:=by
 unfold last
 have:=Int.emod_lt_of_pos 18446744073709551616 (show 0<n by omega)
 omega
theorem wrap_u64_range (x:Int):0≤IntKind.u64.wrap x∧IntKind.u64.wrap x<two64:=by rw [wrap_u64];unfold two64;omega
theorem bits_range (op:BinOp) (x y:Int):0≤bits op .u64 x y∧bits op .u64 x y<two64:=by
 unfold bits;split <;> exact wrap_u64_range _
theorem mix_range (z:Int):0≤mix z∧mix z<two64:=by unfold mix mixC;exact bits_range _ _ _
theorem dist_gen (M g i q s:Int) (e:g*i=1+M*q):(-((s+g) % M)*i) % M=((-s*i) % M-1) % M:=by
 have h1:(s+g) % M=s+g-M*((s+g)/M):=Int.emod_def _ _
 rw [h1]
 generalize (s+g)/M=r
 have:-(s+g-M*r)*i=(-s*i-1)+M*(r*i-q):=by grind
 rw [this,Int.add_mul_emod_self_left,Int.emod_sub_emod]
theorem dist_nxt (s:Int):dist (nxt s)=(dist s-1) % 18446744073709551616:=by
 unfold dist nxt
 rw [wrap_u64]
 exact dist_gen 18446744073709551616 11400714819323198485 17428512612931826493 10771413168148108919 s (by decide +kernel)
theorem zero_gen (M g i q s:Int) (e:g*i=1+M*q) (h0:0≤s) (h1:s<M) (h:(-s*i) % M=0):s=0:=by
 obtain ⟨k,hk⟩:=Int.dvd_of_emod_eq_zero h
 have h2:s=M*(-(k*g)-s*q):=by
  have h3:s*(g*i) = -(M*k)*g:=by rw [← hk];grind
  rw [e] at h3;grind
 generalize -(k*g)-s*q=t at h2
 by_cases ht:t=0
 ·rw [h2,ht,Int.mul_zero]
 ·exfalso
  by_cases hp:1≤t
  ·have:M*1≤M*t:=Int.mul_le_mul_of_nonneg_left hp oM
   omega
  ·have:M*t≤M*(-1):=Int.mul_le_mul_of_nonneg_left oM oM
   omega
theorem dist_zero (s:Int) (h0:0≤s) (h1:s<two64) (h:dist s=0):s=0:=by
 unfold dist at h
 exact zero_gen 18446744073709551616 11400714819323198485 17428512612931826493 10771413168148108919 s (by decide +kernel) h0 h1 h
theorem dist_range (s:Int):0≤dist s∧dist s<18446744073709551616:=by unfold dist;omega
theorem left_lt (s:Int) (h:nxt s≠0):left (nxt s)<left s:=by
 unfold left
 have r:=nxt_range s
 have d:=dist_nxt (nxt s)
 have z:=dist_range (nxt s)
 have:dist (nxt s)≠0:=fun e=>h (dist_zero _ r.1 r.2 e)
 omega
theorem belowGo_enough (n:Int) (h:1≤n) (h2:n≤9223372036854775807):∀ (k k':Nat) (s:Int),left s<k→left s<k'→belowGo n k s=belowGo n k' s:=by
 intro k
 induction k with
 | zero=>intro k' s hs;omega
 | succ k ih =>
  intro k' s hs hs'
  cases k' with
  | zero=>omega
  | succ k' =>
   simp only [belowGo]
   by_cases hc:mix (nxt s)≤last n
   ·rw [if_pos hc,if_pos hc]
   ·rw [if_neg hc,if_neg hc]
    have hz:nxt s≠0:=fun e=>hc (by rw [e,mix_zero];exact last_nonneg n h h2)
    have hl:=left_lt s hz
    exact ih _ _ oM oM
theorem left_of_not (n s:Int) (h:1≤n) (h2:n≤9223372036854775807) (hc:¬ mix (nxt s)≤last n):left (nxt s)<left s :=
 left_lt s fun e=>hc (by rw [e,mix_zero];exact last_nonneg n h h2)
theorem below_step (n s:Int) (h:1≤n) (h2:n≤9223372036854775807) (hc:¬ mix (nxt s)≤last n):below n s=below n (nxt s):=by
 have hl:=left_of_not n s h h2 hc
 unfold below
 rw [show belowGo n (left s+1) s=belowGo n (left s) (nxt s) by simp only [belowGo];rw [if_neg hc]]
 exact belowGo_enough n h h2 _ _ _ hl oM
theorem below_take (n s:Int) (h:mix (nxt s)≤last n):below n s=(mix (nxt s) % n,nxt s):=by
 unfold below;simp only [belowGo];rw [if_pos h]
theorem below_range (n s:Int) (h:1≤n) (h2:n≤9223372036854775807):0≤(below n s).1∧(below n s).1<n∧0≤(below n s).2∧(below n s).2<two64:=by
 suffices H:∀ k s,left s<k→0≤(below n s).1∧(below n s).1<n∧0≤(below n s).2∧(below n s).2<two64 from H _ s (Nat.lt_succ_self _)
 intro k
 induction k with
 | zero=>intro s hs;omega
 | succ k ih =>
  intro s hs
  by_cases hc:mix (nxt s)≤last n
  ·rw [below_take n s hc]
   have:=nxt_range s
   exact ⟨Int.emod_nonneg _ oM,Int.emod_lt_of_pos _ oM,this.1,this.2⟩
  ·rw [below_step n s h h2 hc]
   exact ih _ (by have:=left_of_not n s h h2 hc;omega)
def drawL (n:Int):Nat→Int→List Int × Int
 | 0,s=>([],s)
 | k+1,s=>((drawL n k s).1++[(below n (drawL n k s).2).1],(below n (drawL n k s).2).2)
theorem drawL_length (n:Int) (k:Nat) (s:Int):(drawL n k s).1.length=k:=by
 induction k with
 | zero=>rfl
 | succ k ih=>simp [drawL,ih]
theorem drawL_range (n:Int) (k:Nat) (s:Int) (h:1≤n) (h2:n≤9223372036854775807):∀ x∈(drawL n k s).1,0≤x∧x<n:=by
 induction k with
 | zero=>simp [drawL]
 | succ k ih =>
  intro x hx
  simp only [drawL,List.mem_append,List.mem_singleton] at hx
  rcases hx with hx | rfl
  ·exact ih x hx
  ·have:=below_range n (drawL n k s).2 h h2
   exact ⟨this.1,this.2.1⟩
def swapL (l:List Int) (i j:Nat):List Int:=(l.set i (l.getD j 0)).set j (l.getD i 0)
theorem swapL_length (l:List Int) (i j:Nat):(swapL l i j).length=l.length:=by simp [swapL]
def upTo (n:Nat):List Int:=(List.range n).map Int.ofNat
theorem upTo_length (n:Nat):(upTo n).length=n:=by simp [upTo]
theorem upTo_succ (n:Nat):upTo (n+1)=upTo n++[(n:Int)]:=by simp [upTo,List.range_succ]
def orderGo:Nat→List Int→Int→List Int × Int
 | 0,l,s=>(l,s)
 | i+1,l,s=>orderGo i (swapL l (i+1) (below (i+2) s).1.toNat) (below (i+2) s).2
def orderL (n:Nat) (s:Int):List Int × Int:=orderGo (n-1) (upTo n) s
theorem swapL_perm (l:List Int) (i j:Nat) (hi:i<l.length) (hj:j<l.length):(swapL l i j).Perm l:=by
 unfold swapL
 rw [List.getD_eq_getElem?_getD,List.getD_eq_getElem?_getD]
 simp only [hi,hj,List.getElem?_eq_getElem,Option.getD_some]
 have:=Array.swap_perm (xs:=l.toArray) (i:=i) (j:=j) (by simpa) (by simpa)
 rw [Array.perm_iff_toList_perm] at this
 simpa [Array.swap] using this
theorem orderGo_length (i:Nat) (l:List Int) (s:Int):(orderGo i l s).1.length=l.length:=by
 induction i generalizing l s with
 | zero=>rfl
 | succ i ih=>simp [orderGo,ih,swapL_length]
theorem orderGo_perm (i:Nat) (l:List Int) (s:Int) (h:i<l.length) (hl:l.length≤1000000):(orderGo i l s).1.Perm l:=by
 induction i generalizing l s with
 | zero=>exact List.Perm.refl _
 | succ i ih =>
  simp only [orderGo]
  have r:=below_range (i+2) s oM oM
  exact (ih _ _ (by rw [swapL_length];omega) (by rw [swapL_length];omega)).trans (swapL_perm _ _ _ h oM)
end Go.Proofs.YtplhljjljnkhpaaGreatDoor
namespace Go.Proofs.YtplhljjljnkhpaaGreatDoor
theorem rev_ind {α:Type} {p:List α→Prop} (nil:p []) (snoc:∀ l x,p l→p (l++[x])):∀ l,p l:=by
 intro l
 suffices H:∀ m:List α,p m.reverse by have:=H l.reverse;rwa [List.reverse_reverse] at this
 intro m
 induction m with
 | nil=>exact nil
 | cons x m ih=>rw [List.reverse_cons];exact snoc _ _ ih
end Go.Proofs.YtplhljjljnkhpaaGreatDoor
namespace Go.Proofs.YtplhljjljnkhpaaGreatDoor
def sortI (l:List Int):List Int:=l.mergeSort fun x y=>decide (x≤y)
theorem sortI_length (l:List Int):(sortI l).length=l.length:=by simp [sortI]
theorem sortI_perm (l:List Int):(sortI l).Perm l:=List.mergeSort_perm _ _
theorem sortI_sorted (l:List Int):(sortI l).Pairwise (·≤·):=by
 have:=List.pairwise_mergeSort (le:=fun x y:Int=>decide (x≤y)) (by intro a b c;simp;omega) (by intro a b;simp;omega) l
 unfold sortI
 exact this.imp (by intro a b h;simpa using h)
end Go.Proofs.YtplhljjljnkhpaaGreatDoor
namespace Go.Proofs.YtplhljjljnkhpaaGreatDoor
open Go.RowKit Go.Shelf
set_option maxHeartbeats 400000 in
theorem collect_any (Bs:Nat) (sv:Value) (xs:List Int) (hbytes:xs.length*8≤140737488351232) (w:World)
  (hBs:Bs<w.heap.size) (hc0:w.cell? ⟨Bs,0,none⟩=some sv) (hI:Sl i64 w sv xs) :
  Calls Tryz.prog 179 #[.func (.func 181) #[] #[.pointer (some ⟨Bs,0,none⟩)]] w fun e W'=>∃ v,e=.returned v∧W'.ownsRow w.heap.size 3 1 v xs.length (xs.map (Value.int .i64))∧(v=.slice none 0 0↔xs=[])∧Below w.heap.size w W':=by
 go_enter Tryz.func179,Tryz.ntmps179
 go_wp2_with fail
 refine ((callsIn_wide (n:=3)).1 (appendSeq_in Fence.wide 3 trivial trivial rfl oM Bs sv xs hbytes w hBs hc0 hI)).mono ?_
 rintro e w1 ⟨v,rfl,hown,hnil,hb⟩
 go_wp2
 go_ret
 exact ⟨v,rfl,hown,hnil,hb⟩
set_option maxHeartbeats 400000 in
theorem sorted_any (Bs:Nat) (sv:Value) (xs:List Int) (hbytes:xs.length*8≤140737488351232) (w:World)
  (hBs:Bs<w.heap.size) (hc0:w.cell? ⟨Bs,0,none⟩=some sv) (hI:Sl i64 w sv xs) :
  Calls Tryz.prog 136 #[.func (.func 181) #[] #[.pointer (some ⟨Bs,0,none⟩)]] w fun e W'=>∃ v,e=.returned v∧W'.ownsRow w.heap.size 3 1 v xs.length ((sortI xs).map (Value.int .i64))∧Below w.heap.size w W':=by
 go_enter Tryz.func136,Tryz.ntmps136
 go_wp2_with fail
 refine (collect_any Bs sv xs hbytes w hBs hc0 hI).mono ?_
 rintro e w1 ⟨v,rfl,hown,hnil,hb⟩
 have HN:=hid hnil
 clear hnil
 rcases hown.2 with ⟨rfl,h0⟩ | ⟨g,cap,cur,rfl,hbase,hh,h1,h2,h3,h4⟩
 ·have hx:xs=[]:=HN.out.1 rfl
  subst hx
  go_wp2_with fail
  refine (Tryz.slices_Sort_int_none _ _ _).mono ?_
  rintro e w2 ⟨rfl,rfl⟩
  go_wp2
  go_ret
  exact ⟨.slice none 0 0,rfl,by simpa [sortI] using hown,hb⟩
 ·have hH:=hid (holds_of_blockI hh (by simpa using h4))
  have H3:=hid h3
  have H4:=hid h4
  have HH:=hid hh
  clear h3 h4 hh
  go_wp2_with fail
  refine (Tryz.slices_Sort_int g 0 cap xs w1 hH.out (lt_of_block HH.out) oM).mono ?_
  rintro e w2 ⟨rfl,nn,os,rfl⟩
  have ho:=ownsRow_sortedI (n:=nn) (os:=os) (ss:=xs) (ts:=sortI xs) (sortI_length xs) hbase HH.out h1 h2 H3.out
  have hg:=grownBy_sortedI (w:=w1) (g:=g) (n:=nn) (os:=os) (sortI xs).toArray
  have hbb:=hb.grown hg hb.size (fun k e=>by cases e;exact hbase)
  have HO:=hid ho
  clear ho
  go_wp2
  go_ret
  exact ⟨_,rfl,HO.out,hbb⟩
set_option maxHeartbeats 400000 in
theorem ascending_any (sv:Value) (xs:List Int) (hbytes:xs.length*8≤140737488351232) (w:World) (hI:Sl i64 w sv xs) :
  Calls Tryz.prog 86 #[sv] w fun e W'=>∃ v,e=.returned v∧W'.ownsRow w.heap.size 3 1 v xs.length ((sortI xs).map (Value.int .i64))∧Below w.heap.size w W':=by
 obtain ⟨a,cap,rfl⟩:=hI.len
 go_enter Tryz.func86,Tryz.ntmps86
 go_wp2_with fail
 refine ((callsIn_wide (n:=3)).1 (values_in Fence.wide 3 trivial rfl a xs.length cap w)).mono ?_
 rintro e w1 ⟨rfl,rfl⟩
 have hB0:Below w.heap.size w (w.alloc (.cells #[.slice a xs.length cap] 23)):=(Below.refl _ w).alloc (Nat.le_refl _) _
 go_wp2_with fail
 refine (sorted_any w.heap.size _ xs hbytes _ (by simp) (World.cell?_alloc_new _ _ _ _) (hI.below hB0)).mono ?_
 rintro e w2 ⟨v,rfl,hown,hb⟩
 go_wp2
 go_ret
 exact ⟨v,rfl,owns_lower hown (by simp),hB0.trans (hb.mono (by simp))⟩
end Go.Proofs.YtplhljjljnkhpaaGreatDoor
namespace Go.Proofs.YtplhljjljnkhpaaGreatDoor
def Cols (cols cs:List Int):Prop:=cs.Pairwise (·<·)∧∀ c,c∈cs↔c∈cols
theorem compact_asc (zs:List Int) (h:zs.Pairwise (·≤·)):∀ m,m≤zs.length→(Lib.compactUpTo zs.toArray m).Pairwise (·<·)∧∀ c,c∈Lib.compactUpTo zs.toArray m↔c∈zs.take m
 | 0,_=>⟨List.Pairwise.nil,fun c=>by simp [Lib.compactUpTo]⟩
 | m+1,hm=>by
  obtain ⟨h1,h2⟩:=compact_asc zs h m oM
  have hlt:m<zs.length:=by omega
  have hg:zs.toArray[m]! = zs[m]:=by simp [hlt]
  have ht:zs.take (m+1)=zs.take m++[zs[m]]:=List.take_succ_eq_append_getElem hlt
  have hpw:=h
  rw [← List.take_append_drop (m+1) zs,ht] at hpw
  have hle:∀ x,x∈zs.take m→x≤zs[m]:=fun x hx=>(List.pairwise_append.1 (List.pairwise_append.1 hpw).1).2.2 x hx _ (List.mem_singleton.2 rfl)
  rw [Lib.compactUpTo_succ]
  by_cases hk:Lib.keeps zs.toArray m=true
  ·rw [if_pos hk,hg,ht]
   refine ⟨List.pairwise_append.2 ⟨h1,List.pairwise_singleton _ _,fun x hx y hy=>?_⟩,fun c=>?_⟩
   ·rw [List.mem_singleton.1 hy]
    have hx':=(h2 x).1 hx
    have hle':=hle x hx'
    unfold Lib.keeps at hk
    rw [decide_eq_true_eq] at hk
    rcases hk with rfl | hne
    ·rw [List.take_zero] at hx';cases hx'
    ·have hm0:0<m:=by
      rcases Nat.eq_zero_or_pos m with rfl | h0
      ·rw [List.take_zero] at hx';cases hx'
      ·exact h0
     have hp:zs.toArray[m-1]! = zs[m-1]:=by simp [show m-1<zs.length by omega]
     rw [hg,hp] at hne
     have htm:zs.take m=zs.take (m-1)++[zs[m-1]]:=by
      have:=List.take_succ_eq_append_getElem (show m-1<zs.length by omega)
      rwa [Nat.sub_add_cancel hm0] at this
     have hpw2:=(List.pairwise_append.1 (List.pairwise_append.1 hpw).1).1
     rw [htm] at hpw2 hx'
     have hxp:x≤zs[m-1]:=by
      rcases List.mem_append.1 hx' with hx' | hx'
      ·exact (List.pairwise_append.1 hpw2).2.2 x hx' _ (List.mem_singleton.2 rfl)
      ·rw [List.mem_singleton.1 hx'];exact Int.le_refl _
     have hpm:zs[m-1]≤zs[m]:=hle _ (by rw [htm];exact List.mem_append_right _ (List.mem_singleton.2 rfl))
     omega
   ·rw [List.mem_append,List.mem_append,h2 c]
  ·rw [if_neg hk,List.append_nil,ht]
   refine ⟨h1,fun c=>?_⟩
   unfold Lib.keeps at hk
   rw [decide_eq_true_eq,not_or] at hk
   have hm0:0<m:=by omega
   have hp:zs.toArray[m-1]! = zs[m-1]:=by simp [show m-1<zs.length by omega]
   rw [hg,hp] at hk
   have he:zs[m]=zs[m-1]:=by have:=hk.2;omega
   have htm:zs.take m=zs.take (m-1)++[zs[m-1]]:=by
    have:=List.take_succ_eq_append_getElem (show m-1<zs.length by omega)
    rwa [Nat.sub_add_cancel hm0] at this
   rw [h2 c,List.mem_append,List.mem_singleton,he]
   constructor
   ·exact .inl
   ·rintro (h | rfl)
    ·exact h
    ·rw [htm];exact List.mem_append_right _ (List.mem_singleton.2 rfl)
theorem cols_of (cols:List Int):Cols cols (Lib.compact (sortI cols)):=by
 have h:=compact_asc (sortI cols) (sortI_sorted cols) (sortI cols).length (Nat.le_refl _)
 refine ⟨h.1,fun c=>?_⟩
 have:=h.2 c
 rw [List.take_length] at this
 exact this.trans (sortI_perm cols).mem_iff
end Go.Proofs.YtplhljjljnkhpaaGreatDoor
namespace Go.Proofs.YtplhljjljnkhpaaGreatDoor
open Go.RowKit _root_.Go.Proofs.Tryz
theorem seqValues_pc {H:Hp} (a:Option Addr) (len cap:Nat):PC prog 137 #[.slice a len cap] H fun r H'=>∃ b,r=.func (.func 181) #[] #[.pointer (some ⟨b,0,none⟩)]∧H' b=some [Value.slice a len cap].toArray:=by
 refine BD func137 ntmps137 ?_
 try refine RUN ?_
 (first | refine EVL.unbox (1) rfl fun b=>?_ | refine EV.unbox (1) rfl fun b=>?_)
 (first | refine EVL.publish [] [] rfl fun G1 hG1 hb=>?_ | refine EV.publish [] [] rfl fun G1 hG1 hb=>?_)
 refine EVL.fn1 rfl rfl rfl rfl rfl ?_
 try refine RUN ?_
 exact ⟨b,rfl,hb⟩
theorem ownL_of_row {W:World} {base:Nat} {e:TypeId} {size:Nat} {v:Value} {n:Nat} {xs:List Value} (h:W.ownsRow base e size v n xs):∃ ow,OwnL e size v n xs ow∧OwNew base W ow:=by
 obtain ⟨h1,⟨rfl,rfl⟩ | ⟨g,cap,cur,rfl,hb,hh,hc,hm,hs,ht⟩⟩:=h
 ·exact ⟨[],⟨h1,.inl ⟨rfl,rfl,rfl⟩⟩,by simp,fun b T cs h=>by cases h⟩
 ·have hcur:cur.toList=xs++cur.toList.drop (n*size):=by rw [← ht,List.take_append_drop]
  refine ⟨[(g,e,xs++cur.toList.drop (n*size))],⟨h1,.inr ⟨g,cap,_,rfl,rfl,by rw [← hcur];simpa using hs,hc,hm⟩⟩,by simp,fun b T cs h=>?_⟩
  rw [List.mem_singleton] at h
  cases h
  refine ⟨hb,?_⟩
  rw [← hcur]
  exact hh
theorem sorted_po {H:Hp} {b:Nat} {sv:Value} {xs:List Int} (hB:H b=some [sv].toArray) (hs:IL H sv xs) (hl:xs.length≤1000000) :
  PO prog 136 #[.func (.func 181) #[] #[.pointer (some ⟨b,0,none⟩)]] H fun v ow=>OwnL 3 1 v xs.length ((sortI xs).map iv) ow:=by
 refine ⟨(cO func136),fun W hf hg=>?_⟩
 obtain ⟨T,fz,hW⟩:=hf b _ hB
 obtain ⟨a,cap,rfl,hsl,_⟩:=hs.sl hf
 have hlt:b<W.heap.size:=(Array.getElem?_eq_some_iff.1 hW).1
 refine (sorted_any b _ xs oM W hlt (by rw [cell_of_row W b 0 _ T fz hW];rfl) hsl).mono ?_
 rintro e W' ⟨v,rfl,hown,hb⟩
 obtain ⟨ow,h1,h2⟩:=ownL_of_row hown
 exact ⟨v,ow,rfl,h1,h2,hb⟩
theorem compact_len (zs:List Int):(Lib.compact zs).length≤zs.length:=by
 unfold Lib.compact Lib.compactUpTo
 rw [List.length_map]
 exact Nat.le_trans (List.length_filter_le _ _) (by simp)
theorem compact_pw {H:Hp} {v:Value} {zs:List Int} {ow:Ows} (h:OwnL 3 1 v zs.length (zs.map iv) ow) (hl:zs.length≤1000000) :
  PW prog 232 #[v] H ow fun r ow' _=>OwnL 3 1 r (Lib.compact zs).length ((Lib.compact zs).map iv) ow':=by
 refine ⟨(cO func232),fun W hf hg hL hd=>?_⟩
 by_cases h0:zs.length=0
 ·obtain rfl:=List.length_eq_zero_iff.1 h0
  obtain ⟨a,cap,rfl⟩:=h.val
  refine (Tryz.slices_Compact_int_empty a cap W).mono ?_
  rintro e W' ⟨rfl,rfl⟩
  exact ⟨_,ow,H,rfl,h,Hp.Le.refl _,hf,Nw.refl _ _ _,Kept.refl _ _,fun j b T cs hj=>⟨(hL j b T cs hj).1,.inr (Ows.bs_mem hj),(hL j b T cs hj).2.1⟩,hd⟩
 ·obtain ⟨g,cap,sp,rfl,rfl,hlen,hle,hmax⟩:=h.block oM
  obtain ⟨hB,hHg,hgg⟩:=hL 0 g _ _ rfl
  refine (Tryz.slices_Compact_int_cells g 0 zs.length cap zs W (Nat.le_refl _) oM hle (fun j hj=>?_) (fun j hj=>hB.free _)).mono ?_
  ·rw [hB.at (0+j)]
   rw [Nat.zero_add]
   simp [hj,List.getElem?_append]
  rintro e W' ⟨rfl,q,rfl⟩
  rw [List.take_length]
  have hcl:=compact_len zs
  generalize Lib.compact zs=cs at *
  have hB2:Box (W.drewN q) g (zs.map iv++sp).toArray 3:=hB
  have hvl:((cs++List.replicate (zs.length-cs.length) 0).map (Value.int .i64)).length=zs.length:=by simp;omega
  have hB3:=Box.setCells ((cs++List.replicate (zs.length-cs.length) 0).map (Value.int .i64)) 0 (W.drewN q) _ hB2 (by rw [hvl];simp)
  have hk:=kept_setCells g ((cs++List.replicate (zs.length-cs.length) 0).map (Value.int .i64)) 0 (W.drewN q)
  have hk2:Kept (fun k=>k=g) W ((W.drewN q).setCells g 0 ((cs++List.replicate (zs.length-cs.length) 0).map (Value.int .i64))):=⟨hk.os,hk.tape,hk.output,hk.size,hk.block⟩
  have hcells:(zs.map iv++sp).take 0++(cs++List.replicate (zs.length-cs.length) 0).map (Value.int .i64)++(zs.map iv++sp).drop (0+((cs++List.replicate (zs.length-cs.length) 0).map (Value.int .i64)).length)=cs.map iv++((List.replicate (zs.length-cs.length) 0).map iv++sp):=by
   rw [hvl,List.take_zero,List.nil_append,Nat.zero_add,List.drop_left' (by simp),List.map_append]
   simp
  rw [hcells] at hB3
  refine ⟨_,[(g,3,cs.map iv++((List.replicate (zs.length-cs.length) 0).map iv++sp))],H,rfl,⟨by simp,.inr ⟨g,cap,_,rfl,rfl,?_,by omega,hmax⟩⟩,Hp.Le.refl _,fun b c hb=>?_,Nw.refl _ _ _,hk2.mono (fun k _ e=>by subst e;exact Ows.bs_mem (j:=0) rfl),fun j b T cs' hj=>?_,?_⟩
  ·rw [← hlen];simp;omega
  ·obtain ⟨T,fz,hW⟩:=hf b c hb
   refine ⟨T,fz,?_⟩
   rw [hk2.block b (hf.lt (by rw [hb];simp)) (fun e=>by subst e;rw [hHg] at hb;cases hb)];exact hW
  ·cases j with
   | zero=>cases (show some (g,3,cs.map iv++((List.replicate (zs.length-cs.length) 0).map iv++sp))=some (b,T,cs') from hj);exact ⟨hB3,.inr (Ows.bs_mem (j:=0) rfl),hHg⟩
   | succ j=>simp at hj
  ·intro j j' b' T1 T2 c1 c2 h1 h2
   cases j with
   | zero=>cases j' with
    | zero=>rfl
    | succ j'=>simp at h2
   | succ j=>simp at h1
def bestS (st:Option (Int × Rat × Rat)) (p:Int × Option (Rat × Rat)):Option (Int × Rat × Rat):=match p.2 with
 | none=>st
 | some (a,w)=>match st with
  | none=>some (p.1,a,w)
  | some (c0,a0,w0)=>if w0<w then some (p.1,a,w) else some (c0,a0,w0)
def bestF (ps:List (Int × Option (Rat × Rat))):Option (Int × Rat × Rat):=ps.foldl bestS none
theorem bestF_snoc (ps:List (Int × Option (Rat × Rat))) (p:Int × Option (Rat × Rat)):bestF (ps++[p])=bestS (bestF ps) p:=by unfold bestF;rw [List.foldl_append];rfl
theorem bestF_ht {ps:List (Int × Option (Rat × Rat))} {B:Nat} (h:∀ p,p∈ps→ht (stW p.2)≤B):∀ c a w,bestF ps=some (c,a,w)→ht w≤B:=by
 have key:∀ (qs:List (Int × Option (Rat × Rat))) (st:Option (Int × Rat × Rat)),(∀ p,p∈qs→ht (stW p.2)≤B)→(∀ c a w,st=some (c,a,w)→ht w≤B)→∀ c a w,qs.foldl bestS st=some (c,a,w)→ht w≤B:=by
  intro qs
  induction qs with
  | nil=>intro st _ h2 c a w h3;exact h2 c a w h3
  | cons p qs ih =>
   intro st h1 h2 c a w h3
   refine ih (bestS st p) (fun q hq=>h1 q (List.mem_cons_of_mem _ hq)) ?_ c a w h3
   intro c a w h4
   have hp:=h1 p (List.mem_cons_self ..)
   unfold bestS at h4
   cases ho:p.2 with
   | none=>rw [ho] at h4;exact h2 c a w h4
   | some q =>
    obtain ⟨a1,w1⟩:=q
    rw [ho] at h4 hp
    cases st with
    | none=>cases h4;exact hp
    | some t =>
     obtain ⟨c0,a0,w0⟩:=t
     dsimp only at h4
     split at h4
     ·cases h4;exact hp
     ·cases h4;exact h2 _ _ _ rfl
 exact key ps none h (fun c a w h=>by cases h)
def cutC:Option (Int × Rat × Rat)→List Value
 | none=>.int .i64 0::(vlist (fracV 0)++vlist (fracV 0))
 | some (c,a,w)=>.int .i64 c::(vlist (fracV a)++vlist (fracV w))
theorem cut_zero:Tryz.te272.zero=cutC none:=by
 unfold cutC;rw [frac_zero_cells];rfl
abbrev cutV (c:Int) (a w:Rat):Value:=.agg (cutC (some (c,a,w))).toArray
def BestR (X:List (List Rat)) (wo:List Int→Rat) (rs cols:List Int) (least:Int) (r:Value):Prop :=
 ∃ ps:List (Int × Option (Rat × Rat)),Cols cols (ps.map (·.1))∧(∀ p,p∈ps→ColR X wo rs (max least 1) p.1 p.2) ∧
  ((bestF ps=none∧r=.tuple #[.agg (cutC none).toArray,.bool false])∨∃ c a w,bestF ps=some (c,a,w)∧r=.tuple #[cutV c a (w-wo rs),.bool true])
set_option maxHeartbeats 16000000 in
theorem best_pc {H:Hp} {kd cl:Int} {sl sv vx vr vc:Value} {X:List (List Rat)} {S:List Int→List Value} {wo:List Int→Rat} {rs cols:List Int} {least:Int} (hg:GOk H kd cl sl sv X.length S wo) (hX:QLL H vx X) (hr:IL H vr rs) (hn:rs.length≤20) (hc:IL H vc cols) (hcn:cols.length≤1000000) (hb:∀ x,x∈X→∀ q,q∈x→ht q≤100) :
  PC prog 186 #[goalV kd cl sl sv,vx,vr,vc,.int .i64 least] H fun r _=>BestR X wo (exL rs X.length) cols least r:=by
 have hlen:=hg.leng
 have hex:=fun (G:Hp) (hG:H.Le G)=>existing_pc (hr.mono hG) oM X.length
 have hel:=exL_len rs X.length
 have heb:=exL_mem (rs:=rs) (n:=X.length)
 generalize exL rs X.length=es at *
 obtain ⟨xa,xc,rfl⟩:=hX.val
 obtain ⟨ra,rc,rfl⟩:=SlC.val hr
 obtain ⟨ca,cc,rfl⟩:=SlC.val hc
 refine BD func186 ntmps186 ?_
 try refine RUN ?_
 refine EVL.call rfl rfl rfl rfl rfl (hg.check _ (Hp.Le.refl _)) ?_
 rintro r0 G1 rfl hG1
 repeat (first | refine RUN ?_ | refine CV (hlen) ?_ | refine CE (hlen) ?_)
 rw [show ((X.length:Int) != (X.length:Int))=false from bne_self_eq_false _]
 try refine RUN ?_
 refine EVL.call rfl rfl rfl rfl rfl (hex _ hG1) ?_
 intro r1 G2 he hG2
 obtain ⟨ea,ec,rfl⟩:=SlC.val he
 try refine RUN ?_
 refine EVL.call rfl rfl rfl rfl rfl (seqValues_pc ca cols.length cc) ?_
 rintro r2 G3 ⟨b,rfl,hb3⟩ hG3
 have hc3:=hc.mono (hG1.trans (hG2.trans hG3))
 refine EVL.callO rfl rfl rfl rfl rfl (sorted_po hb3 hc3 hcn) ?_
 rintro r4 ow4 how4
 have hcl:=sortI_length cols
 rw [← hcl] at how4
 refine EVL.callW rfl rfl rfl rfl rfl (ow4) ([]) rfl (compact_pw how4 oM) ?_
 rintro r5 ow5 G5 how5 hG5
 have hcols:=cols_of cols
 have hcl2:=compact_len (sortI cols)
 generalize Lib.compact (sortI cols)=cs at *
 obtain ⟨ka,kc,rfl⟩:=how5.val
 (first | refine EVL.publishL [] ow5 [] (rfl) how5 fun G6 hG6 hk6=>?_ | refine EV.publishL [] ow5 [] (rfl) how5 fun G6 hG6 hk6=>?_)
 have hk6':IL G6 (.slice ka cs.length kc) cs:=hk6
 clear hb3 hc3 how4 how5 hk6
 have hall:=hG1.trans (hG2.trans (hG3.trans (hG5.trans hG6)))
 have hg6:=hg.mono hall
 have hX6:=hX.mono hall
 have he6:=he.mono (hG3.trans (hG5.trans hG6))
 try refine RUN ?_
 refine EV.loopK (ι:=List (Int × Option (Rat × Rat))) [1,2,4,5,10,12,38,39] [5,10] (fun ps=>[(13,.v (.bool (bestF ps).isSome)),(40,.v (.int .i64 (ps.length:Int)))]) (fun ps=>[(12,272,cutC (bestF ps))]) (fun _=>[]) (fun ps _=>ps.map (·.1)=cs.take ps.length∧ps.length≤cs.length∧∀ p,p∈ps→ColR X wo es (max least 1) p.1 p.2) (fun ps=>cs.length-ps.length) ([]) rfl rfl ⟨rfl,rfl,trivial⟩ ⟨by rw [show bestF []=none from rfl,← cut_zero];rfl,trivial⟩ rfl (fun _=>rfl) (⟨rfl,Nat.zero_le _,by simp⟩) ?_
 rintro ps G7 hG7 ⟨hps,hpl,hpr⟩
 try refine RUN ?_
 refine EV.cond rfl (fun hlt=>?_) (fun hlt=>?_)
 ·simp only [nN] at hlt
  obtain ⟨c,hci⟩:∃ c,cs[ps.length]?=some c:=⟨_,List.getElem?_eq_getElem hlt⟩
  have hcol:=column_pc (col:=c) (least:=max least 1) (hg6.mono hG7) (hX6.mono hG7) (he6.mono hG7) oM heb hb
  try refine RUN ?_
  refine EVL.idxR tO rfl rfl rfl rfl rfl rfl rfl rfl rfl rfl ((hk6'.mono hG7)) (ps.length) (rfl) (hlt) ((by rw [List.getElem?_map,hci];rfl)) ?_
  try refine RUN ?_
  refine EVL.asI (max least 1) ((by split <;> omega)) ?_
  refine EVL.call rfl rfl rfl rfl rfl (hcol) ?_
  rintro r6 G8 ⟨o,hR,rfl⟩ hG8
  have hln:∀ o,(ps++[(c,o)]).length=ps.length+1:=fun o=>by simp
  have wn:IntKind.i64.wrap ((ps.length:Int)+1)=((ps.length+1:Nat):Int):=wi_inc _ oM
  have hmap:∀ o,(ps++[(c,o)]).map (·.1)=cs.take (ps++[(c,o)]).length:=fun o=>by
   rw [hln,take_snoc hci,← hps,List.map_append];rfl
  have hmem:∀ o,ColR X wo es (max least 1) c o→∀ p,p∈ps++[(c,o)]→ColR X wo es (max least 1) p.1 p.2:=fun o h p hp=>by
   rcases List.mem_append.1 hp with hp | hp
   ·exact hpr p hp
   ·rw [List.mem_singleton.1 hp];exact h
  have hsn:=bestF_snoc ps (c,o)
  have hwb:ht (stW o)≤200001:=by obtain ⟨_,_,_,h⟩:=hR;exact h
  have hwo:∀ c a w,bestF ps=some (c,a,w)→ht w≤200001:=bestF_ht fun p hp=>by obtain ⟨_,_,_,h⟩:=hpr p hp;exact h
  cases o with
  | none =>
   have hsame:bestF (ps++[(c,none)])=bestF ps:=hsn
   try refine RUN ?_
   refine ⟨ps++[(c,none)],⟨by rw [hsame];rfl,by rw [hln,wn];rfl,trivial⟩,sB,⟨by rw [hsame];rfl,trivial⟩,sB,rfl,⟨hmap _,by rw [hln];omega,hmem _ hR⟩,by assumption,by rw [hln];omega⟩
  | some q =>
   obtain ⟨a,w⟩:=q
   cases hst:bestF ps with
   | none =>
    have hnew:bestF (ps++[(c,some (a,w))])=some (c,a,w):=by rw [hsn,hst];rfl
    try refine RUN ?_
    refine ⟨ps++[(c,some (a,w))],⟨by rw [hnew];rfl,by rw [hln,wn];rfl,trivial⟩,sB,⟨by rw [hnew];rfl,trivial⟩,sB,rfl,⟨hmap _,by rw [hln];omega,hmem _ hR⟩,by assumption,by rw [hln];omega⟩
   | some t =>
    obtain ⟨c0,a0,w0⟩:=t
    have hcmp:=cmp_pv w w0 (sm_of (show ht w≤200001 from hwb) oM) (sm_of (hwo _ _ _ hst) oM)
    repeat (first | refine RUN ?_ | refine CV (hcmp) ?_ | refine CE (hcmp) ?_)
    by_cases hlt2:w0<w
    ·have hnew:bestF (ps++[(c,some (a,w))])=some (c,a,w):=by rw [hsn,hst];exact if_pos hlt2
     rw [decide_eq_true (ordQ_pos.2 hlt2)]
     try refine RUN ?_
     refine ⟨ps++[(c,some (a,w))],⟨by rw [hnew];rfl,by rw [hln,wn];rfl,trivial⟩,sB,⟨by rw [hnew];rfl,trivial⟩,sB,rfl,⟨hmap _,by rw [hln];omega,hmem _ hR⟩,by assumption,by rw [hln];omega⟩
    ·have hnew:bestF (ps++[(c,some (a,w))])=some (c0,a0,w0):=by rw [hsn,hst];exact if_neg hlt2
     rw [decide_eq_false (fun h=>hlt2 (ordQ_pos.1 h))]
     try refine RUN ?_
     refine ⟨ps++[(c,some (a,w))],⟨by rw [hnew];rfl,by rw [hln,wn];rfl,trivial⟩,sB,⟨by rw [hnew];rfl,trivial⟩,sB,rfl,⟨hmap _,by rw [hln];omega,hmem _ hR⟩,by assumption,by rw [hln];omega⟩
 ·simp only [nN] at hlt
  have hpe:ps.length=cs.length:=by omega
  have hcs:ps.map (·.1)=cs:=by rw [hps,hpe,List.take_length]
  rw [← hcs] at hcols
  have hwo:∀ c a w,bestF ps=some (c,a,w)→ht w≤200001:=bestF_ht fun p hp=>by obtain ⟨_,_,_,h⟩:=hpr p hp;exact h
  cases hst:bestF ps with
  | none =>
   try refine RUN ?_
   exact ⟨ps,hcols,hpr,.inl ⟨hst,by rw [← cut_zero];rfl⟩⟩
  | some t =>
   obtain ⟨c,a,w⟩:=t
   have hsub:=sub_pv w (wo es) (sm_of (hwo _ _ _ hst) oM) (sm_of (hg.small es oM heb) oM)
   have hlS:=hg.len es
   try refine RUN ?_
   refine EVL.call rfl rfl rfl rfl rfl (hg6.whole _ hG7 _ es (he6.mono hG7) oM heb) ?_
   rintro r6 G8 rfl hG8
   obtain ⟨sn,scs,ssq,sq,hs12,hS⟩:=hg.form es
   obtain ⟨c0,c1,c2,c3,c4,c5,c6,c7,c8,c9,c10,c11,rfl⟩:=len12 hs12
   rw [hS]
   try refine RUN ?_
   (first | refine EVL.unbox (19) rfl fun b=>?_ | refine EV.unbox (19) rfl fun b=>?_)
   (first | refine EVL.swapOw ([(b,320,S es)]) ([]) ((by rw [hS];rfl)) ?_ | refine EV.swapOw ([(b,320,S es)]) ([]) ((by rw [hS];rfl)) ?_)
   have hw1:=fun G':Hp=>hg.worth G' b 0 320 [] [] es rfl oM heb
   simp only [List.append_nil] at hw1
   clear hS
   try refine RUN ?_
   apply EV.drawn 7 kR kR;intro xv yw
   (repeat (first | refine' DV ?_ | refine' DA ?_ | refine' DK0 ?_ | refine' DT ?_ | refine' DS ?_ | (refine' DJ.nilB rfl rfl rfl rfl rfl ?_;rotate_left) | (refine' DJ.fldB tO rfl rfl rfl rfl rfl rfl rfl ?_;rotate_left)))
   (refine' DJ.callR rfl rfl rfl rfl rfl 0 rfl (by simp [hlS]) (cO func230) (fun G'=>hw1 G') ?_;rotate_left)
   (repeat (first | refine' DV ?_ | refine' DA ?_ | refine' DK0 ?_ | refine' DT ?_ | (refine' DC (hsub) (h:=?_);rotate_left) | refine' DS ?_))
   (refine DJ.nil (fun G9 hG9 hF9=>?_);(case hS|hS2=>rfl))
   try refine RUN ?_
   exact ⟨ps,hcols,hpr,.inr ⟨c,a,w,hst,rfl⟩⟩
def RRs (H:Hp) (vs:List Value) (X:List (List Rat)):Prop:=vs.length=X.length∧∀ (j:Nat) (u:Value) (x:List Rat),vs[j]?=some u→X[j]?=some x→RL H u x
theorem RRs.mono {H G:Hp} {vs:List Value} {X:List (List Rat)} (h:RRs H vs X) (k:H.Le G):RRs G vs X:=⟨h.1,fun j u x e1 e2=>(h.2 j u x e1 e2).mono k⟩
theorem RRs.nil (H:Hp):RRs H [] []:=⟨rfl,fun j u x h=>by simp at h⟩
theorem RRs.snoc {H:Hp} {vs:List Value} {X:List (List Rat)} {u:Value} {x:List Rat} (h:RRs H vs X) (k:RL H u x):RRs H (vs++[u]) (X++[x]):=vs_snoc h k
def RLL (H:Hp) (v:Value) (X:List (List Rat)):Prop:=∃ vs:List Value,RRs H vs X∧SlC H v X.length 1 vs
theorem RLL.mono {H G:Hp} {v:Value} {X:List (List Rat)} (h:RLL H v X) (k:H.Le G):RLL G v X:=by
 obtain ⟨vs,h1,h2⟩:=h
 exact ⟨vs,h1.mono k,h2.mono k⟩
theorem RLL.val {H:Hp} {v:Value} {X:List (List Rat)} (h:RLL H v X):∃ a c,v=.slice a X.length c:=by
 obtain ⟨vs,_,h2⟩:=h
 exact SlC.val h2
theorem RRs.at {H:Hp} {vs:List Value} {X:List (List Rat)} (h:RRs H vs X) {j:Nat} {x:List Rat} (hj:X[j]?=some x):∃ a c,vs[j]?=some (.slice a x.length c)∧RL H (.slice a x.length c) x:=by
 obtain ⟨hl,_⟩:=List.getElem?_eq_some_iff.1 hj
 obtain ⟨u,hu⟩:∃ u,vs[j]?=some u:=⟨_,List.getElem?_eq_getElem (by rw [h.1];exact hl)⟩
 have hq:=h.2 j u x hu hj
 obtain ⟨a,c,rfl⟩:=hq.val
 exact ⟨a,c,hu,hq⟩
def rowsQ (l:List Int) (n w:Nat):List (List Rat):=(List.range n).map fun i=>rowQ (l.drop (min l.length (i*w))) w
theorem rowsQ_len (l:List Int) (n w:Nat):(rowsQ l n w).length=n:=by simp [rowsQ]
theorem rowsQ_at (l:List Int) {n w i:Nat} (h:i<n):(rowsQ l n w)[i]?=some (rowQ (l.drop (min l.length (i*w))) w):=by
 unfold rowsQ;rw [List.getElem?_map,List.getElem?_range h];rfl
theorem IL.drop {H:Hp} {a:Option Addr} {cap:Nat} {l:List Int} (h:IL H (.slice a l.length cap) l) (k:Nat) (hk:k≤l.length):IL H (.slice (if cap=k then a else a.map (·.add (k*1))) (l.length-k) (cap-k)) (l.drop k):=by
 have hs:SlC H (.slice a l.length cap) l.length 1 (l.map iv):=h
 have:=hs.sub k l.length hk (Nat.le_refl _) (SlN.le h)
 unfold IL SlN
 rw [List.length_drop,List.map_drop]
 rw [Nat.mul_one,Nat.mul_one,List.take_of_length_le (by simp)] at this
 rw [Nat.mul_one]
 exact this
set_option maxHeartbeats 4000000 in
theorem rows_pc {H:Hp} {v:Value} {l:List Int} (h:IL H v l) (hb:∀ z,z∈l → -9223372036854775808≤z∧z<9223372036854775808) (n w:Nat) (hn:n≤1000) (hw:w≤1000):PC prog 31 #[v,.int .i64 (n:Int),.int .i64 (w:Int)] H fun r H'=>RLL H' r (rowsQ l n w):=by
 obtain ⟨a,cap,rfl⟩:=SlC.val h
 have hcap:l.length≤cap:=SlN.le h
 refine BD func31 ntmps31 ?_
 try refine RUN ?_
 refine EV.loopK (ι:=Nat × List Value × Value × Ows) [0,1,2] [] (fun q=>[(7,.v q.2.2.1),(8,.v (.int .i64 (q.1:Int)))]) (fun _=>[]) (fun q=>q.2.2.2) (fun q G=>q.1≤n∧RRs G q.2.1 ((rowsQ l n w).take q.1)∧OwnL 26 1 q.2.2.1 q.1 q.2.1 q.2.2.2) (fun q=>n-q.1) ((0,[],.slice none 0 0,[])) rfl rfl ⟨rfl,rfl,trivial⟩ trivial rfl (fun _=>rfl) (⟨Nat.zero_le _,RRs.nil _,OwnL.nil _ _⟩) ?_
 rintro ⟨i,vs,u,ow⟩ G1 hG1 ⟨hi,hvs,hown⟩
 dsimp only at hi hvs hown
 obtain ⟨wa,wc,rfl⟩:=hown.val
 try refine RUN ?_
 refine EV.cond rfl (fun hlt=>?_) (fun hlt=>?_)
 ·simp only [nN] at hlt
  have hk:i*w≤1000*1000:=Nat.mul_le_mul oM hw
  have hwr:IntKind.i64.wrap ((i:Int)*(w:Int))=((i*w:Nat):Int):=by
   rw [← Int.natCast_mul];generalize i*w=k at *;rw [IntKind.wrap_i64];omega
  have hrow:=rowsQ_at l (w:=w) hlt
  generalize i*w=k at *
  have hd:=IL.drop (h.mono hG1) (min l.length k) (Nat.min_le_left _ _)
  have hrp:=row_pc hd (fun z hz=>hb z (List.mem_of_mem_drop hz)) w oM
  try refine RUN ?_
  rw [hwr]
  refine EVL.asI ((min l.length k:Nat)) ((by split <;> omega)) ?_
  refine EVL.slc tO rfl rfl rfl rfl rfl rfl rfl rfl (min l.length k) l.length (.inr ⟨_,IntKind.i64,rfl,rfl⟩) (.inl ⟨rfl,rfl⟩) (Nat.min_le_left _ _) hcap hcap ?_
  try refine RUN ?_
  refine EVL.call rfl rfl rfl rfl rfl (hrp) ?_
  rintro r G2 hr hG2
  obtain ⟨ra,rc,rfl⟩:=hr.val
  try refine RUN ?_
  refine EVL.app1 tO rfl rfl rfl rfl rfl rfl rfl rfl rfl rfl rfl rfl rfl rfl rfl rfl rfl rfl rfl (fun _=>rfl) (ow) ([]) ((List.append_nil _).symm) (hown) oM fun _=>?_
  intro v' ow' hown'
  try refine RUN ?_
  refine ⟨(i+1,vs++[_],v',ow'),⟨rfl,?_,trivial⟩,sB,trivial,trivial,List.append_nil _,⟨hlt,by rw [take_snoc hrow];exact (hvs.mono hG2).snoc hr,hown'⟩,hG2,by dsimp only;omega⟩
  rw [wi_inc i (by omega)];rfl
 ·simp only [nN] at hlt
  obtain rfl:i=n:=by omega
  rw [List.take_of_length_le (by rw [rowsQ_len];omega)] at hvs
  (first | refine EVL.publishL [] ow [] ((List.append_nil _).symm) hown fun G2 hG2 hs=>?_ | refine EV.publishL [] ow [] ((List.append_nil _).symm) hown fun G2 hG2 hs=>?_)
  try refine RUN ?_
  exact ⟨vs,hvs.mono hG2,by rw [rowsQ_len];exact hs⟩
set_option maxHeartbeats 4000000 in
theorem inRows_pc {H:Hp} {v:Value} {X:List (List Rat)} (h:RLL H v X) (hn:X.length≤1000000) (hx:∀ x,x∈X→x.length≤1000000∧∀ q,q∈x→rq q):PC prog 11 #[v] H fun r H'=>QLL H' r X:=by
 obtain ⟨a,cap,rfl⟩:=h.val
 refine BD func11 ntmps11 ?_
 try refine RUN ?_
 refine EV.loopK (ι:=Nat × List Value × Value × Ows) [0] [] (fun q=>[(3,.v q.2.2.1),(4,.v (.int .i64 (q.1:Int)))]) (fun _=>[]) (fun q=>q.2.2.2) (fun q G=>q.1≤X.length∧QVs G q.2.1 (X.take q.1)∧OwnL 52 1 q.2.2.1 q.1 q.2.1 q.2.2.2) (fun q=>X.length-q.1) ((0,[],.slice none 0 0,[])) rfl rfl ⟨rfl,rfl,trivial⟩ trivial rfl (fun _=>rfl) (⟨Nat.zero_le _,QVs.nil _,OwnL.nil _ _⟩) ?_
 rintro ⟨i,vs,u,ow⟩ G1 hG1 ⟨hi,hvs,hown⟩
 dsimp only at hi hvs hown
 obtain ⟨wa,wc,rfl⟩:=hown.val
 try refine RUN ?_
 refine EV.cond rfl (fun hlt=>?_) (fun hlt=>?_)
 ·simp only [nN] at hlt
  obtain ⟨x,hxi⟩:∃ x,X[i]?=some x:=⟨_,List.getElem?_eq_getElem hlt⟩
  have hxb:=hx x (List.mem_of_getElem? hxi)
  obtain ⟨us,hus,hs⟩:=h.mono hG1
  obtain ⟨a1,c1,hu1,hR⟩:=hus.at hxi
  have hin:=inRow_pc hR oM hxb.2
  try refine RUN ?_
  refine EVL.idxR tO rfl rfl rfl rfl rfl rfl rfl rfl rfl rfl (hs) (i) (rfl) (hlt) (hu1) ?_
  try refine RUN ?_
  refine EVL.call rfl rfl rfl rfl rfl (hin) ?_
  rintro r G2 hr hG2
  obtain ⟨ra,rc,rfl⟩:=SlC.val hr
  try refine RUN ?_
  refine EVL.app1 tO rfl rfl rfl rfl rfl rfl rfl rfl rfl rfl rfl rfl rfl rfl rfl rfl rfl rfl rfl (fun _=>rfl) (ow) ([]) ((List.append_nil _).symm) (hown) oM fun _=>?_
  intro v' ow' hown'
  try refine RUN ?_
  refine ⟨(i+1,vs++[_],v',ow'),⟨rfl,?_,trivial⟩,sB,trivial,trivial,List.append_nil _,⟨hlt,by rw [take_snoc hxi];exact (hvs.mono hG2).snoc hr,hown'⟩,hG2,by dsimp only;omega⟩
  rw [wi_inc i (by omega)];rfl
 ·simp only [nN] at hlt
  obtain rfl:i=X.length:=by omega
  rw [List.take_length] at hvs
  (first | refine EVL.publishL [] ow [] ((List.append_nil _).symm) hown fun G2 hG2 hs=>?_ | refine EV.publishL [] ow [] ((List.append_nil _).symm) hown fun G2 hG2 hs=>?_)
  try refine RUN ?_
  exact ⟨vs,hvs.mono hG2,hs⟩
def gapsN (key:Int→Rat) (m:List Int):Nat→List Rat
 | 0=>[]
 | j+1=>gapsN key m j++if key (m.getD j 0)<key (m.getD (j+1) 0) then [midC key m j] else []
theorem ordQ_lt {a b:Rat}:ordR a b<0↔a<b:=by
 unfold ordR
 split
 ·rename_i h;exact ⟨fun _=>h,fun _=>by omega⟩
 ·rename_i h;split
  ·exact ⟨fun k=>by omega,fun k=>absurd k h⟩
  ·exact ⟨fun k=>by omega,fun k=>absurd k h⟩
end Go.Proofs.YtplhljjljnkhpaaGreatDoor
namespace Go.Proofs.YtplhljjljnkhpaaGreatDoor
theorem dev_shift (m o:Rat):∀ l:List Rat,sumQ (devL o l.reverse)=sumQ (devL m l.reverse)+2*(m-o)*(sumQ l.reverse-((l.length:Int):Rat)*m)+((l.length:Int):Rat)*((m-o)*(m-o))
 | []=>by
  rw [show sumQ (devL o ([]:List Rat).reverse)=0 from rfl,show sumQ (devL m ([]:List Rat).reverse)=0 from rfl,show sumQ ([]:List Rat).reverse=0 from rfl,show (((([]:List Rat).length:Int)):Rat)=0 from rfl]
  grind
 | x::l=>by
  have ih:=dev_shift m o l
  have e:(((x::l).length:Int):Rat)=((l.length:Int):Rat)+1:=by
   rw [List.length_cons,Int.natCast_add,Rat.intCast_add];rfl
  rw [List.reverse_cons,devL_snoc,devL_snoc,sumQ_snoc,ih,e]
  generalize sumQ (devL m l.reverse)=A
  generalize sumQ l.reverse=B
  generalize ((l.length:Int):Rat)=N
  grind
theorem sq_nonneg (a:Rat):0≤a*a:=by
 rcases (Rat.le_total:0≤a∨a≤0) with h | h
 ·exact Rat.mul_nonneg h h
 ·have:0 ≤ -a:=by grind
  have:=Rat.mul_nonneg this this
  grind
end Go.Proofs.YtplhljjljnkhpaaGreatDoor
namespace Go.Proofs.YtplhljjljnkhpaaGreatDoor
structure POk (wo cost:List Int→Rat):Prop where
 wperm:∀ l m:List Int,l.Perm m→wo l=wo m
 cperm:∀ l m:List Int,l.Perm m→cost l=cost m
 split:∀ l m:List Int,cost (l++m)+wo (l++m)=cost l+wo l+(cost m+wo m)
 conv:∀ l m:List Int,wo (l++m)≤wo l+wo m
theorem POk.gain {wo cost:List Int→Rat} (h:POk wo cost) {rs l m:List Int} (hp:(l++m).Perm rs):cost rs-cost l-cost m=wo l+wo m-wo rs:=by
 have h1:=h.split l m
 have h2:=h.wperm _ _ hp
 have h3:=h.cperm _ _ hp
 rw [h2,h3] at h1
 grind
theorem filter_take {p:Int→Bool} {m:List Int} {k:Nat} (h1:∀ x,x∈m.take k→p x=true) (h2:∀ x,x∈m.drop k→p x=false):m.filter p=m.take k:=by
 rw [← List.take_append_drop k m,List.filter_append,List.filter_eq_self.2 h1,List.filter_eq_nil_iff.2 (fun x hx=>by rw [h2 x hx];decide),List.append_nil,List.take_append_drop]
theorem filter_drop {p:Int→Bool} {m:List Int} {k:Nat} (h1:∀ x,x∈m.take k→p x=false) (h2:∀ x,x∈m.drop k→p x=true):m.filter p=m.drop k:=by
 conv=>lhs;rw [← List.take_append_drop k m]
 rw [List.filter_append,List.filter_eq_nil_iff.2 (fun x hx=>by rw [h1 x hx];decide),List.filter_eq_self.2 h2,List.nil_append]
theorem mid_lt {a b:Rat} (h:a<b):a<(a+b) / 2∧(a+b) / 2<b:=by
 constructor <;> grind
theorem getD_mem_take {m:List Int} {j:Nat} {x:Int} (h:x∈m.take (j+1)):∃ i,i≤j∧i<m.length∧m.getD i 0=x:=by
 obtain ⟨i,hi,rfl⟩:=List.mem_iff_getElem.1 h
 rw [List.length_take] at hi
 exact ⟨i,by omega,by omega,by simp [show i<m.length by omega]⟩
theorem getD_mem_drop {m:List Int} {j:Nat} {x:Int} (h:x∈m.drop (j+1)):∃ i,j+1≤i∧i<m.length∧m.getD i 0=x:=by
 obtain ⟨i,hi,rfl⟩:=List.mem_iff_getElem.1 h
 rw [List.length_drop] at hi
 exact ⟨j+1+i,by omega,by omega,by simp [show j+1+i<m.length by omega]⟩
theorem risK_get {key:Int→Rat} {m:List Int} (h:RisK key m) {i j:Nat} (hij:i≤j) (hj:j<m.length):key (m.getD i 0)≤key (m.getD j 0):=by
 rcases Nat.lt_or_eq_of_le hij with hlt | rfl
 ·have:=(List.pairwise_iff_getElem.1 h) i j (by simp;omega) (by simp;omega) hlt
  simpa [show i<m.length by omega,hj] using this
 ·exact Rat.le_refl
theorem sides_at {X:List (List Rat)} {col:Int} {rs m:List Int} (hp:m.Perm rs) (hr:RisK (colK X col) m) (ha:∀ r,r∈rs→hasC X col r=true) {j:Nat} (hj:j+1<m.length) (hlt:colK X col (m.getD j 0)<colK X col (m.getD (j+1) 0)) :
  (lowL X col (midC (colK X col) m j) rs).Perm (m.take (j+1))∧(highL X col (midC (colK X col) m j) rs).Perm (m.drop (j+1)):=by
 obtain ⟨h1,h2⟩:=mid_lt hlt
 have hm:∀ r,r∈m→hasC X col r=true:=fun r hr=>ha r (hp.mem_iff.1 hr)
 have hlo:∀ x,x∈m.take (j+1)→colK X col x≤midC (colK X col) m j:=fun x hx=>by
  obtain ⟨i,hi,_,rfl⟩:=getD_mem_take hx
  exact Rat.le_trans (risK_get hr hi oM) (Rat.le_of_lt h1)
 have hhi:∀ x,x∈m.drop (j+1)→¬ colK X col x≤midC (colK X col) m j:=fun x hx=>by
  obtain ⟨i,hi,hil,rfl⟩:=getD_mem_drop hx
  have:=risK_get hr hi hil
  intro k
  generalize colK X col (m.getD i 0)=x at *
  unfold midC at k
  grind
 constructor
 ·refine (hp.symm.filter _).trans ?_
  rw [filter_take (k:=j+1)]
  ·intro x hx;rw [hm x (List.mem_of_mem_take hx),decide_eq_true (hlo x hx)];rfl
  ·intro x hx;rw [hm x (List.mem_of_mem_drop hx),decide_eq_false (hhi x hx)];rfl
 ·refine (hp.symm.filter _).trans ?_
  rw [filter_drop (k:=j+1)]
  ·intro x hx;rw [hm x (List.mem_of_mem_take hx),decide_eq_true (hlo x hx)];rfl
  ·intro x hx;rw [hm x (List.mem_of_mem_drop hx),decide_eq_false (hhi x hx)];rfl
theorem candC_iff {key:Int→Rat} {least:Int} {m:List Int} {j:Nat}:candC key least m j=true↔least≤((j+1:Nat):Int)∧least≤((m.length-(j+1):Nat):Int)∧key (m.getD j 0)<key (m.getD (j+1) 0):=by
 unfold candC
 simp only [Bool.and_eq_true,decide_eq_true_eq]
 exact and_assoc
theorem colN_mem {key:Int→Rat} {wo:List Int→Rat} {least:Int} {m:List Int}:∀ {n:Nat} {a w:Rat},colN key wo least m n=some (a,w)→∃ j,j<n∧candC key least m j=true∧a=midC key m j∧w=sumW wo m j
 | 0,a,w,h=>by cases h
 | n+1,a,w,h=>by
  unfold colN at h
  split at h
  ·rename_i hc
   split at h
   ·cases h;exact ⟨n,Nat.lt_succ_self _,hc,rfl,rfl⟩
   ·rename_i a0 w0 h0
    split at h
    ·cases h;exact ⟨n,Nat.lt_succ_self _,hc,rfl,rfl⟩
    ·cases h
     obtain ⟨j,h1,h2⟩:=colN_mem h0
     exact ⟨j,by omega,h2⟩
  ·obtain ⟨j,h1,h2⟩:=colN_mem h
   exact ⟨j,by omega,h2⟩
theorem colN_max {key:Int→Rat} {wo:List Int→Rat} {least:Int} {m:List Int}:∀ {n j:Nat},j<n→candC key least m j=true→∃ a w,colN key wo least m n=some (a,w)∧sumW wo m j≤w
 | 0,j,h,_=>by omega
 | n+1,j,h,hc=>by
  unfold colN
  by_cases hjn:j=n
  ·subst hjn
   rw [if_pos hc]
   split
   ·exact ⟨_,_,rfl,Rat.le_refl⟩
   ·rename_i a0 w0 _
    by_cases hw:w0<sumW wo m j
    ·rw [if_pos hw];exact ⟨_,_,rfl,Rat.le_refl⟩
    ·rw [if_neg hw];exact ⟨_,_,rfl,Rat.not_lt.1 hw⟩
  ·obtain ⟨a,w,h1,h2⟩:=colN_max (wo:=wo) (show j<n by omega) hc
   split
   ·rw [h1]
    dsimp only
    split
    ·rename_i hw;exact ⟨_,_,rfl,Rat.le_trans h2 (Rat.le_of_lt hw)⟩
    ·exact ⟨_,_,rfl,h2⟩
   ·exact ⟨a,w,h1,h2⟩
theorem bestF_mem {ps:List (Int × Option (Rat × Rat))} {c:Int} {a w:Rat} (h:bestF ps=some (c,a,w)):(c,some (a,w))∈ps:=by
 have key:∀ (qs pre:List (Int × Option (Rat × Rat))) (st:Option (Int × Rat × Rat)),(∀ c a w,st=some (c,a,w)→(c,some (a,w))∈pre)→∀ c a w,qs.foldl bestS st=some (c,a,w)→(c,some (a,w))∈pre++qs:=by
  intro qs
  induction qs with
  | nil=>intro pre st h2 c a w h3;rw [List.append_nil];exact h2 c a w h3
  | cons p qs ih =>
   intro pre st h2 c a w h3
   have:=ih (pre++[p]) (bestS st p) (fun c a w h4=>by
    obtain ⟨pc,po⟩:=p
    unfold bestS at h4
    cases po with
    | none=>exact List.mem_append_left _ (h2 c a w h4)
    | some q =>
     obtain ⟨a1,w1⟩:=q
     cases st with
     | none=>cases h4;simp
     | some t =>
      obtain ⟨c0,a0,w0⟩:=t
      dsimp only at h4
      split at h4
      ·cases h4;simp
      ·cases h4;exact List.mem_append_left _ (h2 _ _ _ rfl)) c a w h3
   simpa using this
 have:=key ps [] none (fun c a w h=>by cases h) c a w h
 simpa using this
theorem bestF_max {ps:List (Int × Option (Rat × Rat))} {c:Int} {a w:Rat} (h:(c,some (a,w))∈ps):∃ c' a' w',bestF ps=some (c',a',w')∧w≤w':=by
 have key:∀ (qs:List (Int × Option (Rat × Rat))) (st:Option (Int × Rat × Rat)),((c,some (a,w))∈qs∨∃ c' a' w',st=some (c',a',w')∧w≤w')→∃ c' a' w',qs.foldl bestS st=some (c',a',w')∧w≤w':=by
  intro qs
  induction qs with
  | nil =>
   rintro st (h | h)
   ·cases h
   ·exact h
  | cons p qs ih =>
   intro st h
   refine ih (bestS st p) ?_
   have step:(p=(c,some (a,w))∨∃ c' a' w',st=some (c',a',w')∧w≤w')→∃ c' a' w',bestS st p=some (c',a',w')∧w≤w':=by
    rintro (rfl | ⟨c',a',w',rfl,hw⟩)
    ·unfold bestS
     cases st with
     | none=>exact ⟨_,_,_,rfl,Rat.le_refl⟩
     | some t =>
      obtain ⟨c0,a0,w0⟩:=t
      dsimp only
      split
      ·exact ⟨_,_,_,rfl,Rat.le_refl⟩
      ·rename_i hn;exact ⟨_,_,_,rfl,Rat.not_lt.1 hn⟩
    ·obtain ⟨pc,po⟩:=p
     unfold bestS
     cases po with
     | none=>exact ⟨_,_,_,rfl,hw⟩
     | some q =>
      obtain ⟨a1,w1⟩:=q
      dsimp only
      split
      ·rename_i hn;exact ⟨_,_,_,rfl,Rat.le_trans hw (Rat.le_of_lt hn)⟩
      ·exact ⟨_,_,_,rfl,hw⟩
   rcases h with h | h
   ·rcases List.mem_cons.1 h with h | h
    ·exact .inr (step (.inl h.symm))
    ·exact .inl h
   ·exact .inr (step (.inr h))
 exact key ps none (.inl h)
theorem gapsN_mem {key:Int→Rat} {m:List Int}:∀ {n:Nat} {t:Rat},t∈gapsN key m n→∃ j,j<n∧key (m.getD j 0)<key (m.getD (j+1) 0)∧t=midC key m j
 | 0,t,h=>by cases h
 | n+1,t,h=>by
  unfold gapsN at h
  rcases List.mem_append.1 h with h | h
  ·obtain ⟨j,h1,h2⟩:=gapsN_mem h
   exact ⟨j,by omega,h2⟩
  ·split at h
   ·rename_i hlt;exact ⟨n,Nat.lt_succ_self _,hlt,List.mem_singleton.1 h⟩
   ·cases h
section
variable {X:List (List Rat)} {wo cost:List Int→Rat} {rs cols:List Int} {L:Int} {ps:List (Int × Option (Rat × Rat))} (hp:POk wo cost) (hcol:Cols cols (ps.map (·.1))) (hps:∀ p,p∈ps→ColR X wo rs L p.1 p.2)
include hp hcol hps
end
end Go.Proofs.YtplhljjljnkhpaaGreatDoor
namespace Go.Proofs.YtplhljjljnkhpaaGreatDoor
theorem sumQ_perm {l m:List Rat} (h:l.Perm m):sumQ l=sumQ m:=by
 induction h with
 | nil=>rfl
 | cons x _ ih=>rw [sumQ_cons,sumQ_cons,ih]
 | swap x y l=>rw [sumQ_cons,sumQ_cons,sumQ_cons,sumQ_cons];grind
 | trans _ _ h1 h2=>rw [h1,h2]
theorem sumQ_append (l m:List Rat):sumQ (l++m)=sumQ l+sumQ m:=by
 induction l with
 | nil=>rw [List.nil_append,sumQ_nil];grind
 | cons x l ih=>rw [List.cons_append,sumQ_cons,sumQ_cons,ih];grind
theorem ratN_ne {n:Nat} (h0:n≠0):((n:Int):Rat)≠0:=nat_rat_ne h0
theorem ratN_pos {n:Nat} (h0:n≠0):0<((n:Int):Rat):=by
 have h1:((0:Int):Rat)≤((n:Int):Rat):=Rat.intCast_le_intCast.2 oM
 have h2:=ratN_ne h0
 have h3:((0:Int):Rat)=0:=rfl
 rw [h3] at h1
 rcases Rat.le_iff_lt_or_eq.1 h1 with h | h
 ·exact h
 ·exact absurd h.symm h2
theorem titu (a b:Rat) (x y:Nat) (hx:x=0→a=0) (hy:y=0→b=0):(a+b)*(a+b) / (((x+y:Nat):Int):Rat)≤a*a / ((x:Int):Rat)+b*b / ((y:Int):Rat):=by
 by_cases hx0:x=0
 ·subst hx0
  rw [hx rfl,Nat.zero_add,show ((((0:Nat):Int)):Rat)=0 from rfl,rat_div_zero,Rat.zero_add,Rat.zero_add]
  exact Rat.le_refl
 by_cases hy0:y=0
 ·subst hy0
  rw [hy rfl,Nat.add_zero,show ((((0:Nat):Int)):Rat)=0 from rfl,rat_div_zero,Rat.add_zero,Rat.add_zero]
  exact Rat.le_refl
 have h1:=ratN_ne hx0
 have h2:=ratN_ne hy0
 have h3:=ratN_ne (n:=x+y) oM
 have p1:=ratN_pos hx0
 have p2:=ratN_pos hy0
 have p3:=ratN_pos (n:=x+y) oM
 have e:(((x+y:Nat):Int):Rat)=((x:Int):Rat)+((y:Int):Rat):=by rw [Int.natCast_add,Rat.intCast_add]
 rw [e] at h3 p3 ⊢
 generalize ((x:Int):Rat)=u at *
 generalize ((y:Int):Rat)=v at *
 have key:a*a / u+b*b / v-(a+b)*(a+b) / (u+v)=(a*v-b*u)*(a*v-b*u) / (u*v*(u+v)):=by grind
 have hn:0≤(a*v-b*u)*(a*v-b*u) / (u*v*(u+v)):=by
  have h5:=sq_nonneg (a*v-b*u)
  have h6:0<u*v*(u+v):=Rat.mul_pos (Rat.mul_pos p1 p2) p3
  rw [Rat.div_def]
  exact Rat.mul_nonneg h5 (Rat.le_of_lt (Rat.inv_pos.2 h6))
 grind
def costVf (vals:List Rat) (l:List Int):Rat:=sumQ (devL (meanL (atR vals l)) (atR vals l))
def costLf (ls:List Int) (l:List Int):Rat:=costL (atI ls l)
theorem devV (L:List Rat):sumQ (devL (meanL L) L)+sumQ L*sumQ L / ((L.length:Int):Rat)=sumQ (devL 0 L):=by
 by_cases h0:L.length=0
 ·obtain rfl:=List.length_eq_zero_iff.1 h0
  show sumQ []+sumQ []*sumQ [] / ((((([]:List Rat).length:Nat):Int)):Rat)=sumQ []
  rw [sumQ_nil,show ((((([]:List Rat).length:Nat):Int)):Rat)=0 from rfl,rat_div_zero,Rat.add_zero]
 ·have h:=dev_shift (meanL L) 0 L.reverse
  rw [List.reverse_reverse,List.length_reverse] at h
  have hn:=ratN_ne h0
  have hm:meanL L=sumQ L / ((L.length:Int):Rat):=rfl
  rw [h]
  generalize sumQ (devL (meanL L) L)=A
  rw [hm]
  generalize ((L.length:Int):Rat)=N at *
  generalize sumQ L=S at *
  grind
theorem pokV (vals:List Rat):POk (woV vals) (costVf vals):=by
 have hpm:∀ l m:List Int,l.Perm m→(atR vals l).Perm (atR vals m):=fun l m h=>h.map _
 have hw:∀ l m:List Int,l.Perm m→woV vals l=woV vals m:=fun l m h=>by
  unfold woV;rw [sumQ_perm (hpm l m h),h.length_eq]
 have hf:∀ l:List Int,costVf vals l+woV vals l=sumQ (devL 0 (atR vals l)):=fun l=>by
  have:=devV (atR vals l)
  rw [atR_len] at this
  exact this
 refine ⟨hw,fun l m h=>?_,fun l m=>?_,fun l m=>?_⟩
 ·have h1:=hf l
  have h2:=hf m
  have h3:sumQ (devL 0 (atR vals l))=sumQ (devL 0 (atR vals m)):=sumQ_perm ((hpm l m h).map _)
  have h4:=hw l m h
  grind
 ·rw [hf,hf,hf,atR_app]
  show sumQ ((atR vals l++atR vals m).map _)=_
  rw [List.map_append,sumQ_append];rfl
 ·unfold woV
  rw [atR_app,sumQ_append,List.length_append]
  exact titu _ _ _ _ (fun h=>by rw [List.length_eq_zero_iff.1 h];rfl) (fun h=>by rw [List.length_eq_zero_iff.1 h];rfl)
theorem sum_one (f g:Nat→Nat) (j:Nat):∀ n,((List.range n).map fun k=>f k+if k=j then g k else 0).sum=((List.range n).map f).sum+if j<n then g j else 0
 | 0=>by simp
 | n+1=>by
  rw [List.range_succ,List.map_append,List.sum_append,List.map_append,List.sum_append,sum_one f g j n]
  simp only [List.map_cons,List.map_nil,List.sum_cons,List.sum_nil]
  by_cases h:n=j
  ·subst h;rw [if_pos rfl,if_neg oM,if_pos (by omega)];omega
  ·rw [if_neg h]
   by_cases h2:j<n
   ·rw [if_pos h2,if_pos (by omega)];omega
   ·rw [if_neg h2,if_neg (by omega)];omega
theorem sqL_sum:∀ l:List Int,(∀ z,z∈l→0≤z∧z<12)→sqL l=((List.range 12).map fun (k:Nat)=>l.count (k:Int)*l.count (k:Int)).sum
 | [],_=>by decide
 | x::l,h=>by
  have hx:=h x (List.mem_cons_self ..)
  obtain ⟨j,rfl⟩:=Int.eq_ofNat_of_zero_le hx.1
  have ih:=sqL_sum l (fun z hz=>h z (List.mem_cons_of_mem _ hz))
  have hs:=sum_one (fun k=>l.count (k:Int)*l.count (k:Int)) (fun k=>2*l.count (k:Int)+1) j 12
  rw [if_pos (by omega)] at hs
  rw [sqL_cons,ih,Nat.add_assoc,← hs]
  congr 1
  refine List.map_congr_left fun k _=>?_
  rw [List.count_cons]
  by_cases e:k=j
  ·subst e;rw [if_pos rfl];simp;grind
  ·have e2:¬ ((j:Int) == (k:Int))=true:=by simp;omega
   rw [if_neg e,if_neg e2];simp
def sumK (ks:List Nat) (f:Nat→Rat):Rat:=sumQ (ks.map f)
theorem sumK_nat (f:Nat→Nat):∀ ks:List Nat,((((ks.map f).sum:Nat):Int):Rat)=sumK ks fun k=>(((f k:Nat):Int):Rat)
 | []=>rfl
 | k::ks=>by
  unfold sumK
  rw [List.map_cons,List.sum_cons,List.map_cons,sumQ_cons,Int.natCast_add,Rat.intCast_add,sumK_nat f ks];rfl
theorem sumK_le {f g:Nat→Rat} (h:∀ k,f k≤g k):∀ ks:List Nat,sumK ks f≤sumK ks g
 | []=>Rat.le_refl
 | k::ks=>by
  have ih:=sumK_le h ks
  unfold sumK at *
  rw [List.map_cons,sumQ_cons,List.map_cons,sumQ_cons]
  have:=h k
  grind
theorem sumK_add (f g:Nat→Rat):∀ ks:List Nat,sumK ks (fun k=>f k+g k)=sumK ks f+sumK ks g
 | []=>by unfold sumK;rw [List.map_nil,List.map_nil,List.map_nil,sumQ_nil,Rat.add_zero]
 | k::ks=>by
  have ih:=sumK_add f g ks
  unfold sumK at *
  rw [List.map_cons,sumQ_cons,List.map_cons,sumQ_cons,List.map_cons,sumQ_cons,ih];grind
theorem sumK_div (f:Nat→Rat) (c:Rat):∀ ks:List Nat,sumK ks (fun k=>f k / c)=sumK ks f / c
 | []=>by unfold sumK;rw [List.map_nil,List.map_nil,sumQ_nil,Rat.div_def,Rat.zero_mul]
 | k::ks=>by
  have ih:=sumK_div f c ks
  unfold sumK at *
  rw [List.map_cons,sumQ_cons,List.map_cons,sumQ_cons,ih,Rat.div_def,Rat.div_def,Rat.div_def,Rat.add_mul]
theorem sqL_rat {l:List Int} (h:∀ z,z∈l→0≤z∧z<12):((sqL l:Int):Rat)=sumK (List.range 12) fun k=>((l.count (k:Int):Int):Rat)*((l.count (k:Int):Int):Rat):=by
 rw [sqL_sum l h,sumK_nat]
 unfold sumK
 congr 1
 refine List.map_congr_left fun k _=>?_
 rw [Int.natCast_mul,Rat.intCast_mul]
theorem pokL {ls:List Int} (hls:∀ z,z∈ls→0≤z∧z<12):POk (woL ls) (costLf ls):=by
 have hpm:∀ l m:List Int,l.Perm m→(atI ls l).Perm (atI ls m):=fun l m h=>h.map _
 have hb:∀ l:List Int,∀ z,z∈atI ls l→0≤z∧z<12:=fun l z hz=>by
  unfold atI at hz
  obtain ⟨r,_,rfl⟩:=List.mem_map.1 hz
  rw [List.getD_eq_getElem?_getD]
  cases e:ls[r.toNat]? with
  | none=>exact ⟨by decide,by decide⟩
  | some x=>exact hls x (List.mem_of_getElem? e)
 have hw:∀ l m:List Int,l.Perm m→woL ls l=woL ls m:=fun l m h=>by
  unfold woL;rw [sqL_perm (hpm l m h),h.length_eq]
 have hf:∀ l:List Int,costLf ls l+woL ls l=((l.length:Int):Rat):=fun l=>by
  unfold costLf costL woL
  rw [atI_len];grind
 refine ⟨hw,fun l m h=>?_,fun l m=>?_,fun l m=>?_⟩
 ·have h1:=hf l
  have h2:=hf m
  have h4:=hw l m h
  rw [h.length_eq] at h1
  grind
 ·rw [hf,hf,hf,List.length_append,Int.natCast_add,Rat.intCast_add]
 ·unfold woL
  rw [sqL_rat (hb (l++m)),sqL_rat (hb l),sqL_rat (hb m),← sumK_div,← sumK_div,← sumK_div,← sumK_add]
  refine sumK_le (fun k=>?_) _
  rw [atI_app,List.count_append,Int.natCast_add,Rat.intCast_add,List.length_append]
  exact titu _ _ _ _ (fun h=>by rw [List.length_eq_zero_iff.1 h];rfl) (fun h=>by rw [List.length_eq_zero_iff.1 h];rfl)
end Go.Proofs.YtplhljjljnkhpaaGreatDoor
namespace Go.Proofs.YtplhljjljnkhpaaGreatDoor
def preC (a b:Int × Rat × Rat):Prop:=b.2.2<a.2.2∨(a.2.2=b.2.2∧(a.1<b.1∨(a.1=b.1∧a.2.1<b.2.1)))
instance (a b:Int × Rat × Rat):Decidable (preC a b):=by unfold preC;exact inferInstance
theorem preC_trans {a b c:Int × Rat × Rat} (h:preC a b) (k:preC b c):preC a c:=by
 unfold preC at *
 rcases h with h | ⟨h1,h2⟩ <;> rcases k with k | ⟨k1,k2⟩
 ·left;grind
 ·left;grind
 ·left;grind
 ·right
  refine ⟨h1.trans k1,?_⟩
  rcases h2 with h2 | ⟨h2,h3⟩ <;> rcases k2 with k2 | ⟨k2,k3⟩
  ·left;omega
  ·left;omega
  ·left;omega
  ·right;exact ⟨by omega,by grind⟩
theorem preC_total {a b:Int × Rat × Rat} (h:¬ preC a b) (k:¬ preC b a):a=b:=by
 unfold preC at *
 obtain ⟨a1,a2,a3⟩:=a
 obtain ⟨b1,b2,b3⟩:=b
 dsimp only at *
 have e3:a3=b3:=by
  have h1:¬ b3<a3:=fun x=>h (.inl x)
  have h2:¬ a3<b3:=fun x=>k (.inl x)
  grind
 subst e3
 have e1:a1=b1:=by
  have h1:¬ a1<b1:=fun x=>h (.inr ⟨rfl,.inl x⟩)
  have h2:¬ b1<a1:=fun x=>k (.inr ⟨rfl,.inl x⟩)
  omega
 subst e1
 have e2:a2=b2:=by
  have h1:¬ a2<b2:=fun x=>h (.inr ⟨rfl,.inr ⟨rfl,x⟩⟩)
  have h2:¬ b2<a2:=fun x=>k (.inr ⟨rfl,.inr ⟨rfl,x⟩⟩)
  grind
 subst e2
 rfl
theorem preC_asymm {a b:Int × Rat × Rat} (h:preC a b) (k:preC b a):False:=by
 have:=preC_trans h k
 unfold preC at this
 rcases this with h | ⟨_,h | ⟨_,h⟩⟩
 ·exact absurd h Rat.lt_irrefl
 ·omega
 ·exact absurd h Rat.lt_irrefl
def refS (st:Option (Int × Rat × Rat)) (p:Int × Rat × Rat):Option (Int × Rat × Rat):=match st with
 | none=>some p
 | some q=>if preC p q then some p else some q
def FirstC (l:List (Int × Rat × Rat)) (r:Option (Int × Rat × Rat)):Prop:=match r with
 | none=>l=[]
 | some p=>p∈l∧∀ q,q∈l→¬ preC q p
theorem first_snoc {l:List (Int × Rat × Rat)} {r:Option (Int × Rat × Rat)} (h:FirstC l r) (p:Int × Rat × Rat):FirstC (l++[p]) (refS r p):=by
 unfold refS
 cases r with
 | none =>
  obtain rfl:l=[]:=h
  exact ⟨by simp,fun q hq=>by
   rw [List.nil_append,List.mem_singleton] at hq
   subst hq
   exact fun k=>preC_asymm k k⟩
 | some q =>
  obtain ⟨h1,h2⟩:=h
  dsimp only
  split
  ·rename_i hp
   refine ⟨by simp,fun z hz=>?_⟩
   rcases List.mem_append.1 hz with hz | hz
   ·exact fun k=>h2 z hz (preC_trans k hp)
   ·rw [List.mem_singleton.1 hz];exact fun k=>preC_asymm k k
  ·rename_i hp
   refine ⟨List.mem_append_left _ h1,fun z hz=>?_⟩
   rcases List.mem_append.1 hz with hz | hz
   ·exact h2 z hz
   ·rw [List.mem_singleton.1 hz];exact hp
def FirstP (P:Int × Rat × Rat→Prop) (r:Option (Int × Rat × Rat)):Prop:=match r with
 | none=>∀ p,¬ P p
 | some p=>P p∧∀ q,P q→¬ preC q p
theorem FirstC.p {l:List (Int × Rat × Rat)} {r:Option (Int × Rat × Rat)} (h:FirstC l r):FirstP (·∈l) r:=by
 cases r with
 | none =>
  obtain rfl:l=[]:=h
  intro p hp;cases hp
 | some p=>exact h
theorem firstP_one {P Q:Int × Rat × Rat→Prop} {r s:Option (Int × Rat × Rat)} (h:FirstP P r) (k:FirstP Q s) (e:∀ p,P p↔Q p):r=s:=by
 cases r with
 | none=>cases s with
  | none=>rfl
  | some q=>exact absurd ((e q).2 k.1) (h q)
 | some p=>cases s with
  | none=>exact absurd ((e p).1 h.1) (k p)
  | some q=>rw [preC_total (a:=p) (b:=q) (k.2 p ((e p).1 h.1)) (h.2 q ((e q).2 k.1))]
theorem colN_first' {key:Int→Rat} {wo:List Int→Rat} {L:Int} {m:List Int}:∀ {n:Nat} {a w:Rat},colN key wo L m n=some (a,w) →
  ∃ j,j<n∧candC key L m j=true∧a=midC key m j∧w=sumW wo m j∧∀ j',j'<n→candC key L m j'=true→sumW wo m j'<w∨(sumW wo m j'=w∧j≤j')
 | 0,a,w,h=>by cases h
 | n+1,a,w,h=>by
  unfold colN at h
  split at h
  ·rename_i hc
   split at h
   ·rename_i h0
    cases h
    refine ⟨n,Nat.lt_succ_self _,hc,rfl,rfl,fun j' hj' hc'=>?_⟩
    by_cases e:j'=n
    ·subst e;exact .inr ⟨rfl,Nat.le_refl _⟩
    ·obtain ⟨a1,w1,h1,_⟩:=colN_max (wo:=wo) (show j'<n by omega) hc'
     rw [h0] at h1;cases h1
   ·rename_i a0 w0 h0
    obtain ⟨j,hj,h1,h2,h3,h4⟩:=colN_first' h0
    split at h
    ·rename_i hw
     cases h
     refine ⟨n,Nat.lt_succ_self _,hc,rfl,rfl,fun j' hj' hc'=>?_⟩
     by_cases e:j'=n
     ·subst e;exact .inr ⟨rfl,Nat.le_refl _⟩
     ·rcases h4 j' oM hc' with h5 | ⟨h5,_⟩
      ·left;grind
      ·left;rw [h5];exact hw
    ·rename_i hw
     cases h
     refine ⟨j,by omega,h1,h2,h3,fun j' hj' hc'=>?_⟩
     by_cases e:j'=n
     ·subst e
      rcases Rat.le_iff_lt_or_eq.1 (Rat.not_lt.1 hw) with h5 | h5
      ·exact .inl h5
      ·exact .inr ⟨h5,by omega⟩
     ·exact h4 j' oM hc'
  ·rename_i hc
   obtain ⟨j,hj,h1,h2,h3,h4⟩:=colN_first' h
   refine ⟨j,by omega,h1,h2,h3,fun j' hj' hc'=>?_⟩
   by_cases e:j'=n
   ·subst e;exact absurd hc' hc
   ·exact h4 j' oM hc'
theorem bestF_first {ps:List (Int × Option (Rat × Rat))} (hs:(ps.map (·.1)).Pairwise (·<·)) {c:Int} {a w:Rat} (h:bestF ps=some (c,a,w)):∀ c' a' w',(c',some (a',w'))∈ps→w'<w∨(w'=w∧c≤c'):=by
 have key:∀ (qs pre:List (Int × Option (Rat × Rat))) (st:Option (Int × Rat × Rat)),((pre++qs).map (·.1)).Pairwise (·<·) →
   (∀ c a w,st=some (c,a,w)→(c,some (a,w))∈pre∧∀ c' a' w',(c',some (a',w'))∈pre→w'<w∨(w'=w∧c≤c'))→(st=none→∀ c' a' w',(c',some (a',w')) ∉ pre) →
   ∀ c a w,qs.foldl bestS st=some (c,a,w)→∀ c' a' w',(c',some (a',w'))∈pre++qs→w'<w∨(w'=w∧c≤c'):=by
  intro qs
  induction qs with
  | nil=>intro pre st _ h2 _ c a w h3 c' a' w' hm;rw [List.append_nil] at hm;exact (h2 c a w h3).2 c' a' w' hm
  | cons p qs ih =>
   intro pre st hpw h2 h0 c a w h3 c' a' w' hm
   have e:pre++p::qs=(pre++[p])++qs:=by simp
   rw [e] at hpw hm
   have hlt:∀ z,z∈pre→z.1<p.1:=fun z hz=>by
    rw [List.map_append,List.map_append] at hpw
    exact (List.pairwise_append.1 (List.pairwise_append.1 hpw).1).2.2 z.1 (List.mem_map.2 ⟨z,hz,rfl⟩) p.1 (by simp)
   refine ih (pre++[p]) (bestS st p) hpw (fun c a w h4=>?_) (fun h4=>?_) c a w h3 c' a' w' hm
   ·obtain ⟨pc,po⟩:=p
    unfold bestS at h4
    cases po with
    | none =>
     obtain ⟨h5,h6⟩:=h2 c a w h4
     refine ⟨List.mem_append_left _ h5,fun c' a' w' hz=>?_⟩
     rcases List.mem_append.1 hz with hz | hz
     ·exact h6 c' a' w' hz
     ·cases List.mem_singleton.1 hz
    | some q =>
     obtain ⟨a1,w1⟩:=q
     cases st with
     | none =>
      cases h4
      refine ⟨by simp,fun c' a' w' hz=>?_⟩
      rcases List.mem_append.1 hz with hz | hz
      ·exact absurd hz (h0 rfl c' a' w')
      ·cases List.mem_singleton.1 hz;exact .inr ⟨rfl,by omega⟩
     | some t =>
      obtain ⟨c0,a0,w0⟩:=t
      obtain ⟨h5,h6⟩:=h2 c0 a0 w0 rfl
      dsimp only at h4
      split at h4
      ·rename_i hw
       cases h4
       refine ⟨by simp,fun c' a' w' hz=>?_⟩
       rcases List.mem_append.1 hz with hz | hz
       ·rcases h6 c' a' w' hz with h7 | ⟨h7,_⟩
        ·left;grind
        ·left;rw [h7];exact hw
       ·cases List.mem_singleton.1 hz;exact .inr ⟨rfl,by omega⟩
      ·rename_i hw
       cases h4
       refine ⟨List.mem_append_left _ h5,fun c' a' w' hz=>?_⟩
       rcases List.mem_append.1 hz with hz | hz
       ·exact h6 c' a' w' hz
       ·cases List.mem_singleton.1 hz
        have hl:=hlt _ h5
        dsimp only at hl
        rcases Rat.le_iff_lt_or_eq.1 (Rat.not_lt.1 hw) with h8 | h8
        ·exact .inl h8
        ·exact .inr ⟨h8,by omega⟩
   ·obtain ⟨pc,po⟩:=p
    unfold bestS at h4
    cases po with
    | none =>
     intro c' a' w' hz
     rcases List.mem_append.1 hz with hz | hz
     ·exact h0 h4 c' a' w' hz
     ·cases List.mem_singleton.1 hz
    | some q =>
     obtain ⟨a1,w1⟩:=q
     cases st with
     | none=>cases h4
     | some t =>
      obtain ⟨c0,a0,w0⟩:=t
      dsimp only at h4
      split at h4 <;> cases h4
 exact key ps [] none hs (fun c a w h=>by cases h) (fun _ c' a' w' h=>by cases h) c a w h
end Go.Proofs.YtplhljjljnkhpaaGreatDoor
namespace Go.Proofs.YtplhljjljnkhpaaGreatDoor
theorem same_sort {key:Int→Rat} {es m m2:List Int} (h1:m.Perm es) (r1:RisK key m) (h2:m2.Perm es) (r2:RisK key m2):m2.length=m.length∧∀ i,i<m.length→key (m2.getD i 0)=key (m.getD i 0):=by
 have hml:m2.length=m.length:=by rw [h1.length_eq,h2.length_eq]
 have hkk:m2.map key=m.map key:=rising_one r2 r1 ((h2.trans h1.symm).map _)
 refine ⟨hml,fun i hi=>?_⟩
 have:=congrArg (fun l:List Rat=>l[i]?) hkk
 simp only [List.getElem?_map] at this
 rw [List.getElem?_eq_getElem (show i<m2.length by omega),List.getElem?_eq_getElem hi] at this
 simpa [hi,hml] using this
theorem cand_same {X:List (List Rat)} {wo cost:List Int→Rat} {c L:Int} {es m m2:List Int} (hp:POk wo cost) (ha:∀ r,r∈es→hasC X c r=true) (h1:m.Perm es) (r1:RisK (colK X c) m) (h2:m2.Perm es) (r2:RisK (colK X c) m2) {j:Nat} (hj:j+1<m.length) (hc:candC (colK X c) L m j=true) :
  candC (colK X c) L m2 j=true∧midC (colK X c) m2 j=midC (colK X c) m j∧sumW wo m2 j=sumW wo m j:=by
 obtain ⟨hml,hget⟩:=same_sort h1 r1 h2 r2
 obtain ⟨c1,c2,hlt⟩:=candC_iff.1 hc
 have hlt2:colK X c (m2.getD j 0)<colK X c (m2.getD (j+1) 0):=by rw [hget j oM,hget (j+1) hj];exact hlt
 have hmid:midC (colK X c) m2 j=midC (colK X c) m j:=by unfold midC;rw [hget j oM,hget (j+1) hj]
 obtain ⟨hl,hh⟩:=sides_at h1 r1 ha hj hlt
 obtain ⟨hl2,hh2⟩:=sides_at h2 r2 ha (show j+1<m2.length by omega) hlt2
 rw [hmid] at hl2 hh2
 refine ⟨candC_iff.2 ⟨c1,by rw [hml];exact c2,hlt2⟩,hmid,?_⟩
 unfold sumW
 rw [hp.wperm _ _ (hl2.symm.trans hl),hp.wperm _ _ (hh2.symm.trans hh)]
def CutP (X:List (List Rat)) (wo:List Int→Rat) (es cols:List Int) (L:Int) (p:Int × Rat × Rat):Prop :=
 p.1∈cols∧es.all (hasC X p.1)=true∧∃ m j,m.Perm es∧RisK (colK X p.1) m∧j+1<m.length∧candC (colK X p.1) L m j=true∧p.2.1=midC (colK X p.1) m j∧p.2.2=sumW wo m j-wo es
theorem mid_mono {key:Int→Rat} {m:List Int} (h:RisK key m) {i j:Nat} (hij:i≤j) (hj:j+1<m.length):midC key m i≤midC key m j:=by
 have h1:=risK_get h hij oM
 have h2:=risK_get h (show i+1≤j+1 by omega) hj
 unfold midC
 grind
theorem pair_one {ps:List (Int × Option (Rat × Rat))} (hs:(ps.map (·.1)).Pairwise (·<·)):∀ {c:Int} {o o':Option (Rat × Rat)},(c,o)∈ps→(c,o')∈ps→o=o':=by
 induction ps with
 | nil=>intro c o o' h;cases h
 | cons p ps ih =>
  intro c o o' h h'
  rw [List.map_cons] at hs
  obtain ⟨h1,h2⟩:=List.pairwise_cons.1 hs
  rcases List.mem_cons.1 h with h | h <;> rcases List.mem_cons.1 h' with h' | h'
  ·rw [← h] at h';cases h';rfl
  ·have:=h1 c (List.mem_map.2 ⟨_,h',rfl⟩)
   rw [← h] at this
   exact absurd this (by dsimp only;omega)
  ·have:=h1 c (List.mem_map.2 ⟨_,h,rfl⟩)
   rw [← h'] at this
   exact absurd this (by dsimp only;omega)
  ·exact ih h2 h h'
theorem best_firstP {X:List (List Rat)} {wo cost:List Int→Rat} {es cols:List Int} {L:Int} {ps:List (Int × Option (Rat × Rat))} (hp:POk wo cost) (hcol:Cols cols (ps.map (·.1))) (hps:∀ p,p∈ps→ColR X wo es L p.1 p.2) :
  FirstP (CutP X wo es cols L) ((bestF ps).map fun t=>(t.1,t.2.1,t.2.2-wo es)):=by
 have own:∀ c a g,CutP X wo es cols L (c,a,g)→∃ a2 w2,(c,some (a2,w2))∈ps∧g+wo es≤w2∧(g+wo es=w2→a2≤a):=by
  rintro c a g ⟨hc,ha,m,j,hm,hr,hj,hcand,he,hg⟩
  dsimp only at hc ha hr hcand he hg
  obtain ⟨⟨pk,po⟩,hpm,hpk⟩:=List.mem_map.1 ((hcol.2 c).2 hc)
  dsimp only at hpk
  subst hpk
  obtain ⟨m2,hs2,ho2,_⟩:=hps _ hpm
  dsimp only at hs2 ho2
  rcases hs2 with ⟨_,hm2,hr2⟩ | ⟨hno,_⟩
  ·obtain ⟨h1,h2,h3⟩:=cand_same hp (List.all_eq_true.1 ha) hm hr hm2 hr2 hj hcand
   have hml:=(same_sort hm hr hm2 hr2).1
   obtain ⟨a2,w2,hcn,hw⟩:=colN_max (wo:=wo) (show j<m2.length-1 by omega) h1
   rw [← ho2] at hcn
   subst hcn
   obtain ⟨j2,hj2,_,e1,e2,e3⟩:=colN_first' ho2.symm
   refine ⟨a2,w2,hpm,by grind,fun heq=>?_⟩
   rcases e3 j oM h1 with h4 | ⟨_,h4⟩
   ·grind
   ·rw [e1,he,← h2]
    exact mid_mono hr2 h4 oM
  ·rw [ha] at hno;cases hno
 cases hb:bestF ps with
 | none =>
  rintro ⟨c,a,g⟩ hq
  obtain ⟨a2,w2,h1,_⟩:=own c a g hq
  obtain ⟨_,_,_,h2,_⟩:=bestF_max h1
  rw [hb] at h2;cases h2
 | some t =>
  obtain ⟨c,a,w⟩:=t
  have hm:=bestF_mem hb
  refine ⟨?_,?_⟩
  ·obtain ⟨m,hs,ho,_⟩:=hps _ hm
   dsimp only at hs ho
   obtain ⟨j,hj,hcand,e1,e2⟩:=colN_mem ho.symm
   rcases hs with ⟨ha,hpm,hr⟩ | ⟨_,rfl⟩
   ·exact ⟨(hcol.2 c).1 (List.mem_map.2 ⟨_,hm,rfl⟩),ha,m,j,hpm,hr,by omega,hcand,e1,by show w-wo es=_;rw [e2]⟩
   ·simp at hj
  ·rintro ⟨c',a',g'⟩ hq hpre
   obtain ⟨a2,w2,h1,h2,h3⟩:=own c' a' g' hq
   have h4:=bestF_first hcol.1 hb c' a2 w2 h1
   rcases hpre with h5 | ⟨h5,h6⟩
   ·have h5':w-wo es<g':=h5
    rcases h4 with h4 | ⟨h4,_⟩ <;> grind
   ·have h5':g'=w-wo es:=h5
    have hw:w2=w:=by rcases h4 with h4 | ⟨h4,_⟩ <;> grind
    have hle:c≤c':=by
     rcases h4 with h4 | ⟨_,h4⟩
     ·grind
     ·exact h4
    rcases h6 with h6 | ⟨h6,h7⟩
    ·have:c'<c:=h6
     omega
    ·have h6':c'=c:=h6
     subst h6'
     have:=pair_one hcol.1 h1 hm
     cases this
     have h8:=h3 (by grind)
     have h9:a'<a:=h7
     grind
end Go.Proofs.YtplhljjljnkhpaaGreatDoor
namespace Go.Proofs.YtplhljjljnkhpaaGreatDoor
open Go.RowKit _root_.Go.Proofs.Tryz
def cntL (C:Nat) (l:List Int):List Int:=(List.range C).map fun (k:Nat)=>(l.count (k:Int):Int)
theorem cntL_len (C:Nat) (l:List Int):(cntL C l).length=C:=by simp [cntL]
theorem cntL_at {C:Nat} (l:List Int) {k:Nat} (hk:k<C):(cntL C l)[k]?=some (l.count (k:Int):Int):=by
 unfold cntL;rw [List.getElem?_map,List.getElem?_range hk];rfl
theorem cntL_snoc {C:Nat} (l:List Int) {k:Nat} (hk:k<C):cntL C (l++[(k:Int)])=(cntL C l).set k ((l.count (k:Int)+1:Nat):Int):=by
 apply List.ext_getElem?
 intro j
 rw [List.getElem?_set]
 by_cases hj:j<C
 ·rw [cntL_at _ hj,cntL_at _ hj,count_snoc,cntL_len]
  by_cases e:k=j
  ·subst e;rw [if_pos rfl,if_pos rfl,if_pos hk]
  ·rw [if_neg e,if_neg oM,Nat.add_zero]
 ·rw [List.getElem?_eq_none (by rw [cntL_len];omega),List.getElem?_eq_none (by rw [cntL_len];omega),if_neg (by omega)]
theorem cnt_zero (C:Nat):(List.replicate C [iv 0]).flatten=(cntL C []).map iv++[]:=by
 have:cntL C []=List.replicate C 0:=by
  unfold cntL
  apply List.ext_getElem?
  intro j
  by_cases hj:j<C
  ·rw [List.getElem?_map,List.getElem?_range hj,List.getElem?_replicate,if_pos hj];simp
  ·rw [List.getElem?_eq_none (by simp;omega),List.getElem?_eq_none (by simp;omega)]
 rw [this,List.append_nil]
 induction C with
 | zero=>rfl
 | succ n ih =>
  rw [List.replicate_succ,List.flatten_cons,List.replicate_succ,List.map_cons,List.singleton_append]
  congr 1
  apply ih
  unfold cntL
  apply List.ext_getElem?
  intro j
  by_cases hj:j<n
  ·rw [List.getElem?_map,List.getElem?_range hj,List.getElem?_replicate,if_pos hj];simp
  ·rw [List.getElem?_eq_none (by simp;omega),List.getElem?_eq_none (by simp;omega)]
theorem il_own {H:Hp} {b m:Nat} {l:List Int} {sp:List Value} (h:H b=some (l.map iv++sp).toArray) (hm:l.length=m):IL H (.slice (some ⟨b,0,none⟩) m m) l:=by
 subst hm
 refine ⟨by simp,.inr ⟨b,0,l.length,_,rfl,Nat.le_refl _,h,fun j x hj=>?_⟩⟩
 rw [Nat.zero_add]
 have hl:=(List.getElem?_eq_some_iff.1 hj).1
 rw [List.getElem?_toArray,List.getElem?_append_left hl];exact hj
set_option maxHeartbeats 4000000 in
theorem countsC_pc {H:Hp} {v:Value} {rs:List Int} (hr:IL H v rs) (hn:rs.length≤300) {va:Option Addr} {vc:Nat} {la:Option Addr} {lc:Nat} {ls:List Int} (hv:IL H (.slice la ls.length lc) ls) {C:Nat} (hc:1≤C∧C≤12) (h0:1≤ls.length) (h1:ls.length≤300) (hls:∀ z,z∈ls→0≤z∧z<(C:Int)) :
  PC prog 185 #[goalV 1 C (.slice la ls.length lc) (.slice va 0 vc),v] H fun r H'=>IL H' r (cntL C (atI ls (exL rs ls.length))):=by
 have hchk:=checkC_pc (va:=va) (vc:=vc) hv (cl:=(C:Int)) oM h0 h1 hls
 have hel:=exL_len rs ls.length
 have heb:=exL_mem (rs:=rs) (n:=ls.length)
 have hex:=existing_pc hr oM ls.length
 generalize exL rs ls.length=es at *
 obtain ⟨a,cap,rfl⟩:=SlC.val hr
 refine BD func185 ntmps185 ?_
 repeat (first | refine RUN ?_ | refine CV (hchk) ?_ | refine CE (hchk) ?_)
 refine EVL.make tO rfl rfl rfl rfl rfl rfl rfl rfl rfl (C) (rfl) oM (by rfl) (by rfl) fun b=>?_
 try refine RUN ?_
 refine EVL.call rfl rfl rfl rfl rfl (hex) ?_
 intro r1 G1 he hG1
 obtain ⟨ea,ec,rfl⟩:=SlC.val he
 (first | refine EVL.swapOw ([(b,3,(cntL C (atI ls (es.take 0))).map iv++[])]) ([]) ((by rw [show atI ls (es.take 0)=[] from rfl,← cnt_zero];rfl)) ?_ | refine EV.swapOw ([(b,3,(cntL C (atI ls (es.take 0))).map iv++[])]) ([]) ((by rw [show atI ls (es.take 0)=[] from rfl,← cnt_zero];rfl)) ?_)
 try refine RUN ?_
 refine EV.loopK (ι:=Nat) [2,5,23,24] [2] (fun i=>[(25,.v (.int .i64 (i:Int)))]) (fun _=>[]) (fun i=>[(b,3,(cntL C (atI ls (es.take i))).map iv++[])]) (fun i _=>i≤es.length) (fun i=>es.length-i) (0) rfl rfl ⟨rfl,trivial⟩ trivial rfl (fun _=>rfl) (Nat.zero_le _) ?_
 rintro i G2 hG2 hi
 try refine RUN ?_
 refine EV.cond rfl (fun hlt=>?_) (fun hlt=>?_)
 ·simp only [nN] at hlt
  obtain ⟨r,hri⟩:∃ r,es[i]?=some r:=⟨_,List.getElem?_eq_getElem hlt⟩
  have hb:=heb r (List.mem_of_getElem? hri)
  obtain ⟨R,rfl⟩:=Int.eq_ofNat_of_zero_le hb.1
  obtain ⟨x,hx⟩:∃ x,ls[R]?=some x:=⟨_,List.getElem?_eq_getElem oM⟩
  have hRl:R<ls.length:=by omega
  have hxb:=hls x (List.mem_of_getElem? hx)
  obtain ⟨k,rfl⟩:=Int.eq_ofNat_of_zero_le hxb.1
  have hk:k<C:=by omega
  have hsn:atI ls (es.take (i+1))=atI ls (es.take i)++[(k:Int)]:=by
   rw [take_snoc hri]
   unfold atI
   rw [List.map_append,List.map_cons,Int.toNat_natCast,List.getD_eq_getElem?_getD,hx];rfl
  have hcl:(atI ls (es.take i)).count (k:Int)≤300:=Nat.le_trans List.count_le_length (by rw [atI_len,List.length_take];omega)
  have hget:=cntL_at (C:=C) (atI ls (es.take i)) hk
  have hcn:=cntL_snoc (C:=C) (atI ls (es.take i)) hk
  rw [← hsn] at hcn
  have hlen:=cntL_len C (atI ls (es.take i))
  generalize cntL C (atI ls (es.take i))=cs at *
  generalize (atI ls (es.take i)).count (k:Int)=m at *
  have wm:IntKind.i64.wrap ((m:Int)+1)=((m+1:Nat):Int):=wi_inc m oM
  try refine RUN ?_
  refine EVL.idxR tO rfl rfl rfl rfl rfl rfl rfl rfl rfl rfl ((he.mono hG2)) (i) (rfl) (hlt) ((by rw [List.getElem?_map,hri];rfl)) ?_
  try refine RUN ?_
  refine EVL.idxR tO rfl rfl rfl rfl rfl rfl rfl rfl rfl rfl ((hv.mono (hG1.trans hG2))) (R) (rfl) (hRl) ((by rw [List.getElem?_map,hx];rfl)) ?_
  try refine RUN ?_
  refine EVL.idxB tO rfl rfl rfl rfl rfl rfl rfl rfl rfl (k) (k*1) (rfl) (hk) (rfl) ?_
  refine EVL.loadOwn tO rfl rfl rfl rfl rfl rfl (0) rfl (ci_get [] hget) rfl rfl ?_
  try refine RUN ?_
  rw [wm]
  refine EVL.idxB tO rfl rfl rfl rfl rfl rfl rfl rfl rfl (k) (k*1) (rfl) (hk) (rfl) ?_
  refine EVL.storeOwn tO rfl rfl rfl rfl rfl rfl ([]) ([]) rfl rfl rfl rfl ((by rw [List.length_append,List.length_map,hlen];show k*1+1≤_;omega)) (ci_set [] _ (show k<cs.length by omega)) ?_
  try refine RUN ?_
  refine ⟨i+1,⟨by rw [wi_inc i (by omega)];rfl,trivial⟩,sB,trivial,sB,by rw [hcn];rfl,hlt,Hp.Le.refl _,by omega⟩
 ·simp only [nN] at hlt
  obtain rfl:i=es.length:=by omega
  rw [List.take_length]
  (first | refine EVL.publish [] [] rfl fun G3 hG3 hb3=>?_ | refine EV.publish [] [] rfl fun G3 hG3 hb3=>?_)
  try refine RUN ?_
  exact il_own hb3 (cntL_len _ _)
def topN (l:List Int):Nat→Nat
 | 0=>0
 | i+1=>if l.getD (topN l i) 0<l.getD i 0 then i else topN l i
theorem topN_lt (l:List Int):∀ i,topN l i<i∨topN l i=0
 | 0=>.inr rfl
 | i+1=>by
  unfold topN
  split
  ·exact .inl (Nat.lt_succ_self _)
  ·rcases topN_lt l i with h | h
   ·exact .inl oM
   ·exact .inr h
theorem getD_at {l:List Int} {i:Nat} (h:i<l.length):l[i]?=some (l.getD i 0):=by
 rw [List.getD_eq_getElem?_getD,List.getElem?_eq_getElem h];rfl
set_option maxHeartbeats 4000000 in
theorem topOf_pc {H:Hp} {g v w:Value} {l:List Int} (hg:∃ kd cl sl sv,g=goalV kd cl sl sv) (hc:PC prog 185 #[g,v] H fun r H'=>IL H' r l) (hn:l.length≤300):PC prog 182 #[g,v] H fun r _=>r=.int .i64 (topN l l.length:Nat):=by
 obtain ⟨kd,cl,sl,sv,rfl⟩:=hg
 refine BD func182 ntmps182 ?_
 try refine RUN ?_
 refine EVL.call rfl rfl rfl rfl rfl (hc) ?_
 intro r1 G1 hr hG1
 obtain ⟨a,cap,rfl⟩:=SlC.val hr
 try refine RUN ?_
 refine EV.loopK (ι:=Nat) [6,12,13] [] (fun i=>[(5,.v (.int .i64 (topN l i:Nat))),(14,.v (.int .i64 (i:Int)))]) (fun _=>[]) (fun _=>[]) (fun i _=>i≤l.length) (fun i=>l.length-i) (0) rfl rfl ⟨rfl,rfl,trivial⟩ trivial rfl (fun _=>rfl) (Nat.zero_le _) ?_
 rintro i G2 hG2 hi
 try refine RUN ?_
 refine EV.cond rfl (fun hlt=>?_) (fun hlt=>?_)
 ·simp only [nN] at hlt
  have hr2:=hr.mono hG2
  have ht:=topN_lt l i
  have htl:topN l i<l.length:=by omega
  have g1:=getD_at hlt
  have g2:=getD_at htl
  have hst:topN l (i+1)=if l.getD (topN l i) 0<l.getD i 0 then i else topN l i:=rfl
  have wn:IntKind.i64.wrap ((i:Int)+1)=((i+1:Nat):Int):=wi_inc i oM
  generalize topN l i=tp at *
  generalize l.getD tp 0=x at *
  generalize l.getD i 0=y at *
  try refine RUN ?_
  refine EVL.idxR tO rfl rfl rfl rfl rfl rfl rfl rfl rfl rfl (hr2) (i) (rfl) (hlt) ((by rw [List.getElem?_map,g1];rfl)) ?_
  try refine RUN ?_
  refine EVL.idxR tO rfl rfl rfl rfl rfl rfl rfl rfl rfl rfl (hr2) (tp) (rfl) (htl) ((by rw [List.getElem?_map,g2];rfl)) ?_
  try refine RUN ?_
  by_cases h:y>x
  ·rw [decide_eq_true h]
   rw [if_pos h] at hst
   try refine RUN ?_
   refine ⟨i+1,⟨by rw [hst];rfl,by rw [wn];rfl,trivial⟩,sB,trivial,sB,rfl,by omega,Hp.Le.refl _,by omega⟩
  ·rw [decide_eq_false h]
   rw [if_neg h] at hst
   try refine RUN ?_
   refine ⟨i+1,⟨by rw [hst];rfl,by rw [wn];rfl,trivial⟩,sB,trivial,sB,rfl,by omega,Hp.Le.refl _,by omega⟩
 ·simp only [nN] at hlt
  obtain rfl:i=l.length:=by omega
  try refine RUN ?_
  rfl
theorem countsV_pc {H:Hp} {v:Value} {va:Option Addr} {vn vc:Nat} {la:Option Addr} {lc:Nat} (h0:1≤vn) (h1:vn≤300):PC prog 185 #[goalV 2 0 (.slice la 0 lc) (.slice va vn vc),v] H fun r H'=>IL H' r []:=by
 have hchk:=checkV_pv (va:=va) (vc:=vc) (la:=la) (lc:=lc) h0 h1
 refine BD func185 ntmps185 ?_
 try refine RUN ?_
 exact ⟨rfl,.inl ⟨rfl,_,_,rfl⟩⟩
end Go.Proofs.YtplhljjljnkhpaaGreatDoor
namespace Go.Proofs.YtplhljjljnkhpaaGreatDoor
end Go.Proofs.YtplhljjljnkhpaaGreatDoor
namespace Go.Proofs.YtplhljjljnkhpaaGreatDoor
open Go.RowKit _root_.Go.Proofs.Tryz
theorem is_pc {H:Hp} (q:Rat) (hq:rq q) (a b:Int) (h1:-9223372036854775808≤a) (h2:a<9223372036854775808) (h3:-9223372036854775808≤b) (h4:b<9223372036854775808) (h0:b≠0) (he:q=Rat.divInt a b):PC prog 33 #[fracV q,.int .i64 a,.int .i64 b] H fun r _=>r=.bool true:=by
 have hov:=fun G:Hp=>refOver_pc (H:=G) a b h1 h2 h3 h4 h0
 rw [← he] at hov
 refine BD func33 ntmps33 ?_
 try refine RUN ?_
 apply EV.drawn 4 kR kR;intro xv yw
 (repeat (first | refine' DV ?_ | refine' DA ?_ | refine' DK0 ?_ | refine' DT ?_ | refine' DS ?_))
 refine' DJ.call rfl rfl rfl rfl rfl (cO func83) (fun G hG hd=>hov G) (fun _ _ _ h k=>RQ.mono h k) ?_;rotate_left
 (refine DJ.nil (fun G1 hG1 hF1=>?_);(case hS|hS2=>rfl))
 have hs:=same_self hF1.1 hq
 repeat (first | refine RUN ?_ | refine CV (hs) ?_ | refine CE (hs) ?_)
 rfl
theorem ordR_le {a b:Rat} (h:a≤b):ordR a b≤0:=by
 unfold ordR
 split
 ·omega
 ·split
  ·rename_i k;exact absurd k (Rat.not_lt.2 h)
  ·omega
theorem rowQ_ht {l:List Int} (n:Nat):∀ q,q∈rowQ l n→ht q≤5:=fun q hq=>by
 obtain ⟨i,hi,rfl⟩:=List.mem_map.1 hq
 split
 ·exact ht_rNum _
 ·rw [ht_zero];omega
theorem rowsQ_ht {l:List Int} {n w:Nat}:∀ x,x∈rowsQ l n w→x.length=w∧∀ q,q∈x→ht q≤5:=fun x hx=>by
 obtain ⟨i,_,rfl⟩:=List.mem_map.1 hx
 exact ⟨rowQ_len _ _,rowQ_ht w⟩
theorem colK_ht {X:List (List Rat)} (h:∀ x,x∈X→∀ q,q∈x→ht q≤5) (c r:Int):ht (colK X c r)≤5:=by
 unfold colK
 rw [List.getD_eq_getElem?_getD,List.getD_eq_getElem?_getD]
 cases e:X[r.toNat]? with
 | none=>simp;rw [ht_zero];omega
 | some x =>
  rw [Option.getD_some]
  cases e2:x[c.toNat]? with
  | none=>rw [Option.getD_none,ht_zero];omega
  | some q=>exact h x (List.mem_of_getElem? e) q (List.mem_of_getElem? e2)
theorem midC_ht {X:List (List Rat)} (h:∀ x,x∈X→∀ q,q∈x→ht q≤5) (c:Int) (m:List Int) (j:Nat):ht (midC (colK X c) m j)≤100:=by
 have h1:=colK_ht h c (m.getD j 0)
 have h2:=colK_ht h c (m.getD (j+1) 0)
 have h3:=ht_add (colK X c (m.getD j 0)) (colK X c (m.getD (j+1) 0))
 have h4:ht ((2:Int):Rat)≤10:=by
  have:=ht_int 2
  have h2:bl (2:Int).natAbs≤5:=bl_le (by decide)
  omega
 have h5:=ht_div (colK X c (m.getD j 0)+colK X c (m.getD (j+1) 0)) ((2:Int):Rat)
 rw [show ((2:Int):Rat)=2 from rfl] at h4 h5
 unfold midC
 omega
theorem sqL_sumC (C:Nat):∀ l:List Int,(∀ z,z∈l→0≤z∧z<(C:Int))→sqL l=((List.range C).map fun (k:Nat)=>l.count (k:Int)*l.count (k:Int)).sum∧l.length=((List.range C).map fun (k:Nat)=>l.count (k:Int)).sum
 | [],_=>by
  constructor
  ·show 0=_
   induction C with
   | zero=>rfl
   | succ n ih=>rw [List.range_succ,List.map_append,List.sum_append,← ih (by simp)];simp
  ·show 0=_
   induction C with
   | zero=>rfl
   | succ n ih=>rw [List.range_succ,List.map_append,List.sum_append,← ih (by simp)];simp
 | x::l,h=>by
  have hx:=h x (List.mem_cons_self ..)
  obtain ⟨j,rfl⟩:=Int.eq_ofNat_of_zero_le hx.1
  obtain ⟨ih1,ih2⟩:=sqL_sumC C l (fun z hz=>h z (List.mem_cons_of_mem _ hz))
  constructor
  ·have hs:=sum_one (fun k=>l.count (k:Int)*l.count (k:Int)) (fun k=>2*l.count (k:Int)+1) j C
   rw [if_pos (by omega)] at hs
   rw [sqL_cons,ih1,Nat.add_assoc,← hs]
   congr 1
   refine List.map_congr_left fun k _=>?_
   rw [List.count_cons]
   by_cases e:k=j
   ·subst e;rw [if_pos rfl];simp;grind
   ·have e2:¬ ((j:Int) == (k:Int))=true:=by simp;omega
    rw [if_neg e,if_neg e2];simp
  ·have hs:=sum_one (fun k=>l.count (k:Int)) (fun k=>1) j C
   rw [if_pos (by omega)] at hs
   rw [List.length_cons,ih2,← hs]
   congr 1
   refine List.map_congr_left fun k _=>?_
   rw [List.count_cons]
   by_cases e:k=j
   ·subst e;rw [if_pos rfl];simp
   ·have e2:¬ ((j:Int) == (k:Int))=true:=by simp;omega
    rw [if_neg e,if_neg e2]
theorem fill_all (size:Nat):∀ (vs:List Value) (k:Nat) (pre zs:List Value),(∀ v,v∈vs→(vlist v).length=size)→pre.length=k*size→zs.length=vs.length*size →
  Instr.fill (fun i=>some (i*size,size)) (pre++zs).toArray ((List.range' k vs.length).zip vs)=some (pre++vs.flatMap vlist).toArray
 | [],k,pre,zs,_,_,hz=>by
  obtain rfl:zs=[]:=List.eq_nil_of_length_eq_zero (by simpa using hz)
  rfl
 | v::vs,k,pre,zs,hv,hp,hz=>by
  have hlen:=hv v (List.mem_cons_self ..)
  rw [List.length_cons,Nat.succ_mul] at hz
  rw [List.length_cons,List.range'_succ,List.zip_cons_cons]
  unfold Instr.fill
  simp only [vlist_cells]
  rw [if_neg (by simp [hlen];omega)]
  have:=fold_set (vlist v) (pre++zs) (k*size) 0 (by rw [List.length_append,hlen];omega)
  rw [Nat.add_zero] at this
  have e:((vlist v).toArray.zipIdx.foldl (fun (cs:Array Value) (x:Value × Nat)=>match x with | (c,j)=>cs.setIfInBounds (k*size+j) c) (pre++zs).toArray)=((vlist v).zipIdx.foldl (fun (c:Array Value) (p:Value × Nat)=>c.setIfInBounds (k*size+p.2) p.1) (pre++zs).toArray):=by
   simp
  rw [e,this,List.take_left' hp,hlen,← hp,← List.drop_drop,List.drop_left,List.flatMap_cons,← List.append_assoc]
  have ih:=fill_all size vs (k+1) (pre++vlist v) (zs.drop size) (fun u hu=>hv u (List.mem_cons_of_mem _ hu)) (by rw [List.length_append,hp,hlen,Nat.succ_mul]) (by rw [List.length_drop];omega)
  exact ih
def ixB:List (Nat × Operand)→Nat→Nat→Bool
 | [],_,0=>true
 | p::ps,k,n+1=>match Nat.beq p.1 k with
  | true=>ixB ps (k+1) n
  | false=>false
 | _,_,_=>false
theorem ixB_spec:∀ (ps:List (Nat × Operand)) (k n:Nat),ixB ps k n=true→ps.map (·.1)=List.range' k n
 | [],k,0,_=>rfl
 | p::ps,k,n+1,h=>by
  unfold ixB at h
  split at h
  ·rename_i e
   rw [List.map_cons,List.range'_succ,ixB_spec ps (k+1) n h,Nat.eq_of_beq_eq_true e]
  ·cases h
 | [],k,n+1,h=>by cases h
 | p::ps,k,0,h=>by cases h
section
variable {P:Program} {n:Nat} {ops:Array Oper} {o:Oper} {rest:List Oper} {env:Env} {bx:Bxs} {sb:Bxs} {ow:Ows} {H:Hs} {Q:EQ} {τ:Tab} {d:Nat} {s:SV}
theorem DJ.litD {tail l:List Oper} {x:Nat→Value} {y:Nat→Ows} {ow':Ows} {kl ks:List DK} {i:Nat} {bx':Bxs} {Γ:Fcts} (hτ:TabOk P τ) {T:TypeId} {len:Nat} {parts:Array (Nat × Operand)} (ho:o.op=.buildSlice T len parts) (hw:wantB ops env o=some true) (hd:o.dst=some d) (hn:Nat.blt d n=true) {te te':TE} {e:TypeId} (ht:τ.get T=some te) (hk:te.kind=.slice e) (ht':τ.get e=some te')
  (hsz:Nat.beq te'.zero.length te'.size=true) (hpos:Nat.ble 1 (len*te'.size)=true) (hsm:Nat.ble (len*te'.size) 10000=true) {vs:List Value} (ha:argsK env (parts.toList.map (·.2)) some=some vs) (hix':ixB parts.toList 0 len=true) (hv:∀ G,DepF ops i Γ G→∀ v,v∈vs→(vlist v).length=te'.size)
  {Φ:Value→Hp→Prop} (hm:∀ v G G',Φ v G→G.Le G'→Φ v G') (hΦ:∀ G G' v,DepF ops i Γ G→G.Le G'→SlC G' v len te'.size (vs.flatMap vlist)→Φ v G')
  (h:DJ P n ops tail sb bx H Q x y kl (i+1) l ks ((d,.v (x i))::env) bx' ((i,Φ (x i))::Γ) ow'):DJ P n ops tail sb bx H Q x y kl i (o::l) (.call Φ::ks) env bx' Γ ow':=by
 have hix:parts.toList.map (·.1)=List.range' 0 len:=ixB_spec _ _ _ hix'
 have hkd:=(hτ.get ht).kind
 rw [hk] at hkd
 have hkd':P.underlying T=some (.slice e):=hkd
 obtain ⟨zv,hinfo,hzc⟩:=(hτ.get ht').info
 obtain ⟨i0,hi,hz0,hz1,hz2⟩:=info_parts hinfo
 have hl:=Nat.eq_of_beq_eq_true hsz
 have hp:=Nat.le_of_ble_eq_true hpos
 have hm':=Nat.le_of_ble_eq_true hsm
 refine DJ.ofCall (fun β a W G hle hf _ hb _ hs hF=>?_) hd hn hm h
 rw [if_pos (hs.want hw)]
 have hvv:=hv G hF
 obtain ⟨vs',e1,h2⟩:=argsK_vals ha
 cases e1
 have h3:=h2 a.eval fun y u hy he=>hs.op (s:=.v u) (by rw [ho];simpa [Op.operands] using hy) he
 have hvl:vs.length=len:=by
  have e1:=congrArg List.length h3
  have e2:=congrArg List.length hix
  simp at e1 e2
  omega
 have hfl:(vs.flatMap vlist).length=len*te'.size:=by rw [flat_len vlist te'.size vs hvv,hvl]
 have h4:((parts.map fun (i,x)=>(i,a.eval x)):Array (Nat × Value)).toList=(List.range' 0 vs.length).zip vs:=by
  rw [hvl,← hix,← h3,Array.toList_map]
  generalize parts.toList=l
  induction l with
  | nil=>rfl
  | cons p l ih=>simp only [List.map_cons,List.zip_cons_cons,ih]
 have hfill:=fill_all te'.size vs 0 [] ((List.replicate len te'.zero).flatten) hvv (by simp) (by rw [List.length_flatten];simp [hl,hvl])
 rw [List.nil_append,List.nil_append,← h4] at hfill
 have hrun:=run_buildSlice (P:=P) W T e len (parts.map fun (i,x)=>(i,a.eval x)) (vs.flatMap vlist).toArray i0 zv hkd' hi hz0 (by rw [hz1];omega) (by rw [hz1];omega) (by
  rw [hz1,hzc,made_flat te'.zero te'.size len hl,← hfill])
 have hB:Below W.heap.size W (W.alloc (.cells (vs.flatMap vlist).toArray e)):=(Below.refl _ _).alloc (Nat.le_refl _) _
 obtain ⟨k1,k2,k3⟩:=newBlk hf hB (Box.new W (vs.flatMap vlist).toArray e)
 have hr:(execOp a.eval o).run P W=.ok (.value (.slice (some ⟨W.heap.size,0,none⟩) len len)) (W.alloc (.cells (vs.flatMap vlist).toArray e)):=by
  unfold execOp
  simp only [ho,Sem.run_bind,hrun,Result.andThen_ok,Sem.run_pure]
 unfold Oper.wp
 rw [hr,Oper.upon_value]
 exact ⟨_,_,rfl,hΦ G _ _ hF k1 ⟨hfl,.inr ⟨W.heap.size,0,len,(vs.flatMap vlist).toArray,rfl,Nat.le_refl _,by simp [Hp.put],fun j x hj=>by rw [Nat.zero_add];simpa using hj⟩⟩,k1,k2,hB,k3⟩
theorem DJ.litD1 {tail l:List Oper} {x:Nat→Value} {y:Nat→Ows} {ow':Ows} {kl ks:List DK} {i:Nat} {bx':Bxs} {Γ:Fcts} {Φ:Value→Hp→Prop} (hm:∀ v G G',Φ v G→G.Le G'→Φ v G') (hτ:TabOk P τ) {T:TypeId} {u:Operand} (ho:o.op=.buildSlice T 1 #[(0,u)]) (hw:wantB ops env o=some true) (hd:o.dst=some d) (hn:Nat.blt d n=true) {te te':TE} {e:TypeId} (ht:τ.get T=some te) (hk:te.kind=.slice e) (ht':τ.get e=some te')
  (hsz:Nat.beq te'.zero.length te'.size=true) (hpos:Nat.ble 1 (1*te'.size)=true) (hsm:Nat.ble (1*te'.size) 10000=true) {v:Value} (hx:env.op u=some (.v v)) (hv:∀ G,DepF ops i Γ G→(vlist v).length=te'.size)
  (hΦ:∀ G G' w,DepF ops i Γ G→G.Le G'→SlC G' w 1 te'.size ([v].flatMap vlist)→Φ w G')
  (h:DJ P n ops tail sb bx H Q x y kl (i+1) l ks ((d,.v (x i))::env) bx' ((i,Φ (x i))::Γ) ow'):DJ P n ops tail sb bx H Q x y kl i (o::l) (.call Φ::ks) env bx' Γ ow' :=
 DJ.litD hτ ho hw hd hn ht hk ht' hsz hpos hsm (vs:=[v]) (by show argsK env [u] some=_;simp [argsK,hx]) rfl (fun G hd w hm=>by rw [List.mem_singleton.1 hm];exact hv G hd) hm hΦ h
end
def gapsV (V:List Rat):Nat→List Rat
 | 0=>[]
 | j+1=>gapsV V j++if V.getD j 0<V.getD (j+1) 0 then [(V.getD j 0+V.getD (j+1) 0) / 2] else []
theorem gapsN_V (key:Int→Rat) (m:List Int):∀ j,j≤m.length-1→gapsN key m j=gapsV (m.map key) j
 | 0,_=>rfl
 | j+1,h=>by
  have g:∀ i,i<m.length→(m.map key).getD i 0=key (m.getD i 0):=fun i hi=>by simp [List.getD_eq_getElem?_getD,hi]
  unfold gapsN gapsV midC
  rw [gapsN_V key m j oM,g j oM,g (j+1) (by omega)]
def plQ (X:List (List Rat)) (col:Int) (es:List Int):List Rat:=if es.all (hasC X col)=true then gapsV (sortQ (es.map (colK X col))) (es.length-1) else []
theorem plQ_sort {X:List (List Rat)} {col:Int} {es m:List Int} (h:SortC X col es m):gapsN (colK X col) m (m.length-1)=plQ X col es:=by
 unfold plQ
 rcases h with ⟨ha,hp,hr⟩ | ⟨ha,rfl⟩
 ·rw [if_pos ha,gapsN_V _ _ _ (Nat.le_refl _),hp.length_eq,sortQ_one (hp.map _) hr]
 ·rw [if_neg (by rw [ha];decide)];rfl
end Go.Proofs.YtplhljjljnkhpaaGreatDoor
namespace Go.Proofs.YtplhljjljnkhpaaGreatDoor
def cutsOf (X:List (List Rat)) (cost:List Int→Rat) (es:List Int) (L c:Int) (ts:List Rat):List (Int × Rat × Rat) :=
 ts.flatMap fun t=>if L≤((lowL X c t es).length:Int)∧L≤((highL X c t es).length:Int) then [(c,t,cost es-(cost (lowL X c t es)+cost (highL X c t es)))] else []
def allCuts (X:List (List Rat)) (cost:List Int→Rat) (es:List Int) (L:Int) (cols:List Int):List (Int × Rat × Rat):=cols.flatMap fun c=>cutsOf X cost es L c (plQ X c es)
theorem gapsN_of {key:Int→Rat} {m:List Int}:∀ {n j:Nat},j<n→key (m.getD j 0)<key (m.getD (j+1) 0)→midC key m j∈gapsN key m n
 | 0,j,h,_=>by omega
 | n+1,j,h,hlt=>by
  unfold gapsN
  by_cases e:j=n
  ·subst e
   rw [if_pos hlt]
   exact List.mem_append_right _ (List.mem_singleton.2 rfl)
  ·exact List.mem_append_left _ (gapsN_of (show j<n by omega) hlt)
theorem sorted_is (key:Int→Rat) (es:List Int):∃ m,m.Perm es∧RisK key m:=by
 refine ⟨es.mergeSort fun a b=>decide (key a≤key b),List.mergeSort_perm _ _,?_⟩
 have:=List.pairwise_mergeSort (le:=fun a b:Int=>decide (key a≤key b)) (fun a b c h1 h2=>by simp at h1 h2 ⊢;exact Rat.le_trans h1 h2) (fun a b=>by simp;exact Rat.le_total) es
 exact List.pairwise_map.2 (this.imp fun h=>by simpa using h)
theorem cost_gain {wo cost:List Int→Rat} (hp:POk wo cost) {es a b m:List Int} {j:Nat} (hm:m.Perm es) (hl:a.Perm (m.take (j+1))) (hh:b.Perm (m.drop (j+1))):cost es-(cost a+cost b)=sumW wo m j-wo es:=by
 have hab:(a++b).Perm es:=by
  refine (hl.append hh).trans ?_
  rw [List.take_append_drop];exact hm
 have h1:=hp.gain hab
 have h2:=hp.wperm _ _ hl
 have h3:=hp.wperm _ _ hh
 have h4:sumW wo m j=wo (m.take (j+1))+wo (m.drop (j+1)):=rfl
 rw [h4,← h2,← h3]
 grind
theorem mem_cuts {X:List (List Rat)} {wo cost:List Int→Rat} {es cols:List Int} {L:Int} (hp:POk wo cost) (p:Int × Rat × Rat):p∈allCuts X cost es L cols↔CutP X wo es cols L p:=by
 obtain ⟨c,t,g⟩:=p
 unfold allCuts cutsOf
 rw [List.mem_flatMap]
 constructor
 ·rintro ⟨c',hc,h⟩
  obtain ⟨t',ht,h⟩:=List.mem_flatMap.1 h
  split at h
  ·rename_i hcond
   rw [List.mem_singleton] at h
   cases h
   by_cases ha:es.all (hasC X c)=true
   ·obtain ⟨m,hm,hr⟩:=sorted_is (colK X c) es
    rw [← plQ_sort (.inl ⟨ha,hm,hr⟩:SortC X c es m)] at ht
    obtain ⟨j,hj,hlt,rfl⟩:=gapsN_mem ht
    have hj1:j+1<m.length:=by omega
    obtain ⟨hl,hh⟩:=sides_at hm hr (List.all_eq_true.1 ha) hj1 hlt
    have e1:=hl.length_eq
    have e2:=hh.length_eq
    rw [List.length_take] at e1
    rw [List.length_drop] at e2
    exact ⟨hc,ha,m,j,hm,hr,hj1,candC_iff.2 ⟨by omega,by omega,hlt⟩,rfl,cost_gain hp hm hl hh⟩
   ·unfold plQ at ht
    rw [if_neg ha] at ht
    cases ht
  ·cases h
 ·rintro ⟨hc,ha,m,j,hm,hr,hj,hcand,he,hg⟩
  dsimp only at hc ha hr hcand he hg
  obtain ⟨h1,h2,hlt⟩:=candC_iff.1 hcand
  obtain ⟨hl,hh⟩:=sides_at hm hr (List.all_eq_true.1 ha) hj hlt
  have e1:=hl.length_eq
  have e2:=hh.length_eq
  rw [List.length_take] at e1
  rw [List.length_drop] at e2
  refine ⟨c,hc,List.mem_flatMap.2 ⟨t,?_,?_⟩⟩
  ·rw [← plQ_sort (.inl ⟨ha,hm,hr⟩:SortC X c es m),he]
   exact gapsN_of oM hlt
  ·rw [he,if_pos ⟨by omega,by omega⟩,cost_gain hp hm hl hh,hg]
   exact List.mem_singleton.2 rfl
theorem first_fold (l:List (Int × Rat × Rat)):FirstC l (l.foldl refS none):=by
 have key:∀ (qs pre:List (Int × Rat × Rat)) (st:Option (Int × Rat × Rat)),FirstC pre st→FirstC (pre++qs) (qs.foldl refS st):=by
  intro qs
  induction qs with
  | nil=>intro pre st h;rw [List.append_nil];exact h
  | cons p qs ih =>
   intro pre st h
   rw [show pre++p::qs=(pre++[p])++qs by simp]
   exact ih _ _ (first_snoc h p)
 have:=key l [] none rfl
 simpa using this
theorem best_is_ref {X:List (List Rat)} {wo cost:List Int→Rat} {es cols:List Int} {L:Int} {ps:List (Int × Option (Rat × Rat))} (hp:POk wo cost) (hcol:Cols cols (ps.map (·.1))) (hps:∀ p,p∈ps→ColR X wo es L p.1 p.2) :
  ((bestF ps).map fun t=>(t.1,t.2.1,t.2.2-wo es))=(allCuts X cost es L cols).foldl refS none :=
 firstP_one (best_firstP hp hcol hps) (first_fold _).p fun p=>(mem_cuts hp p).symm
end Go.Proofs.YtplhljjljnkhpaaGreatDoor
namespace Go.Proofs.YtplhljjljnkhpaaGreatDoor
structure Nd where
 col:Int
 left:Int
 right:Int
 rows:Int
 cls:Int
 at':Rat
 cost:Rat
 value:Rat
 counts:List Int
structure GP where
 X:List (List Rat)
 cost:List Int→Rat
 mean:List Int→Rat
 cnt:List Int→List Int
 least:Int
 gain:Rat
 cols:Int→List Int × Int
def GP.nd (p:GP) (rows:List Int):Nd:=⟨-1,0,0,(rows.length:Int),(topN (p.cnt rows) (p.cnt rows).length:Int),0,p.cost rows,p.mean rows,p.cnt rows⟩
def GP.best (p:GP) (rows cols:List Int):Option (Int × Rat × Rat):=(allCuts p.X p.cost rows (max 1 p.least) cols).foldl refS none
def GP.cut (p:GP) (rows cols:List Int):Option (Int × Rat):=match p.best rows cols with
 | some (c,t,g)=>if g≤p.gain then none else some (c,t)
 | none=>none
def GP.grow (p:GP):Nat→Nat→List Int→Int→List Nd × Int
 | 0,_,rows,s=>([p.nd rows],s)
 | d+1,k,rows,s=>match p.cut rows (p.cols s).1 with
  | none=>([p.nd rows],(p.cols s).2)
  | some (c,t) =>
   let L:=p.grow d (k+1) (lowL p.X c t rows) (p.cols s).2
   let R:=p.grow d (k+1+L.1.length) (highL p.X c t rows) L.2
   ({p.nd rows with col:=c,left:=((k+1:Nat):Int),right:=((k+1+L.1.length:Nat):Int),at':=t}::(L.1++R.1),R.2)
theorem GP.grow_zero (p:GP) (k:Nat) (rows:List Int) (s:Int):p.grow 0 k rows s=([p.nd rows],s):=rfl
theorem GP.grow_none {p:GP} {d k:Nat} {rows:List Int} {s:Int} (h:p.cut rows (p.cols s).1=none):p.grow (d+1) k rows s=([p.nd rows],(p.cols s).2):=by
 rw [GP.grow,h]
theorem GP.grow_some {p:GP} {d k:Nat} {rows:List Int} {s:Int} {c:Int} {t:Rat} (h:p.cut rows (p.cols s).1=some (c,t)):p.grow (d+1) k rows s =
  ({p.nd rows with col:=c,left:=((k+1:Nat):Int),right:=((k+1+(p.grow d (k+1) (lowL p.X c t rows) (p.cols s).2).1.length:Nat):Int),at':=t}::((p.grow d (k+1) (lowL p.X c t rows) (p.cols s).2).1++(p.grow d (k+1+(p.grow d (k+1) (lowL p.X c t rows) (p.cols s).2).1.length) (highL p.X c t rows) (p.grow d (k+1) (lowL p.X c t rows) (p.cols s).2).2).1),(p.grow d (k+1+(p.grow d (k+1) (lowL p.X c t rows) (p.cols s).2).1.length) (highL p.X c t rows) (p.grow d (k+1) (lowL p.X c t rows) (p.cols s).2).2).2):=by
 rw [GP.grow,h]
theorem GP.grow_len (p:GP):∀ (d k:Nat) (rows:List Int) (s:Int),1≤(p.grow d k rows s).1.length∧(p.grow d k rows s).1.length<2 ^ (d+1)
 | 0,k,rows,s=>by rw [GP.grow_zero];simp
 | d+1,k,rows,s=>by
  have hp:1<2 ^ (d+2):=Nat.one_lt_two_pow oM
  cases h:p.cut rows (p.cols s).1 with
  | none=>rw [GP.grow_none h];exact ⟨Nat.le_refl _,hp⟩
  | some ct =>
   obtain ⟨c,t⟩:=ct
   rw [GP.grow_some h]
   have h1:=p.grow_len d (k+1) (lowL p.X c t rows) (p.cols s).2
   have h2:=p.grow_len d (k+1+(p.grow d (k+1) (lowL p.X c t rows) (p.cols s).2).1.length) (highL p.X c t rows) (p.grow d (k+1) (lowL p.X c t rows) (p.cols s).2).2
   simp only [List.length_cons,List.length_append]
   have h3:2 ^ (d+1+1)=2 ^ (d+1)+2 ^ (d+1):=by rw [Nat.pow_succ];omega
   omega
end Go.Proofs.YtplhljjljnkhpaaGreatDoor
namespace Go.Proofs.YtplhljjljnkhpaaGreatDoor
open Go.RowKit _root_.Go.Proofs.Tryz
section
variable {P:Program} {n:Nat} {ops:Array Oper} {tail:List Oper} {sb bx:Bxs} {H:Hs} {Q:EQ} {x:Nat→Value} {y:Nat→Ows} {ow':Ows} {kl:List DK} {i:Nat} {o:Oper} {l:List Oper} {ks:List DK} {env:Env} {bx':Bxs} {Γ:Fcts} {τ:Tab} {d:Nat}
end
section
variable {n:Nat} {ops:Array Oper} {fuel:Nat} {L:Array Bool} {env:Env} {bx:Bxs} {H:Hs} {K:Env→Bxs→Hs→Prop} {d:Nat} {o:Oper} {v:Value}
end
section
variable {P:Program} {n:Nat} {ops:Array Oper} {o:Oper} {rest:List Oper} {env:Env} {bx:Bxs} {H:Hs} {Q:EQ} {d:Nat}
end
theorem row_take {A c B:List Value} {k s f:Nat} (hA:A.length=k*s) (hf:f≤c.length):(A++(c++B)).take (k*s+f)=A++c.take f:=by
 rw [List.take_append,List.take_of_length_le oM,hA,Nat.add_sub_cancel_left,List.take_append_of_le_length hf]
theorem row_drop {A c B:List Value} {k s f:Nat} (hA:A.length=k*s) (hf:f≤c.length):(A++(c++B)).drop (k*s+f)=c.drop f++B:=by
 rw [List.drop_append,List.drop_eq_nil_of_le oM,hA,Nat.add_sub_cancel_left,List.drop_append_of_le_length hf,List.nil_append]
theorem row_set {A c B vs c':List Value} {k s f m q:Nat} (hA:A.length=k*s) (hq:q=k*s+f) (hm:vs.length=m) (hf:f+m≤c.length) (hc:c.take f++vs++c.drop (f+m)=c'):(A++(c++B)).take q++vs++(A++(c++B)).drop (q+m)=A++(c'++B):=by
 subst hq
 rw [row_take hA oM,Nat.add_assoc,row_drop hA hf,← hc]
 simp only [List.append_assoc]
theorem tmod_pick (n m:Int) (hm:1≤m):(if n.tmod m<0 then n.tmod m+m else n.tmod m)=n % m:=by
 by_cases h:0≤n
 ·have e:n.tmod m=n % m:=Int.tmod_eq_emod_of_nonneg h
  have:=Int.emod_nonneg n (show m≠0 by omega)
  rw [e,if_neg (by omega)]
 ·have e:n.tmod m = -((-n) % m):=by
   rw [show n = -(-n) by omega,Int.neg_tmod,Int.tmod_eq_emod_of_nonneg (by omega)];simp
  have h1:=Int.emod_nonneg (-n) (show m≠0 by omega)
  have h2:=Int.emod_lt_of_pos (-n) (show 0<m by omega)
  have h4:=Int.emod_nonneg n (show m≠0 by omega)
  have h5:=Int.emod_lt_of_pos n (show 0<m by omega)
  have h6:=Int.mul_ediv_add_emod n m
  have h7:=Int.mul_ediv_add_emod (-n) m
  have h8:m*(n / m + -n / m) = -(n % m + -n % m):=by rw [Int.mul_add];omega
  generalize n / m + -n / m=t at h8
  have h9:t=0∨t = -1:=by
   by_cases a:t ≤ -2
   ·have:m*t≤m*(-2):=Int.mul_le_mul_of_nonneg_left a oM
    omega
   ·by_cases b:1≤t
    ·have:m*1≤m*t:=Int.mul_le_mul_of_nonneg_left b oM
     omega
    ·omega
  rcases h9 with rfl | rfl
  ·rw [e,if_neg (by omega)];omega
  ·rw [e,if_pos (by omega)];omega
set_option maxHeartbeats 400000 in
theorem pick_any (n m:Int) (w:World) (hm:1≤m) (hm2:m≤1000000) :
  Calls prog 7 #[.int .i64 n,.int .i64 m] w fun e w'=>e=.returned (.int .i64 (n % m))∧w=w':=by
 have hp:=hid (tmod_pick n m hm)
 have hr:n.tmod m<m:=Int.tmod_lt_of_pos _ oM
 have hr2:-m<n.tmod m:=by have:=Int.lt_tmod_of_pos n (show 0<m by omega);omega
 by_cases hn:n.tmod m<0
 ·go_enter func7,ntmps7
  go_wp2
  go_ret
  have:=hp.out
  rw [if_pos hn] at this
  exact ⟨ret_int this,rfl⟩
 ·go_enter func7,ntmps7
  go_wp2
  go_ret
  have:=hp.out
  rw [if_neg (by omega)] at this
  exact ⟨ret_int this,rfl⟩
set_option maxHeartbeats 400000 in
theorem dnew_any (s:Int) (w:World) :
  Calls prog 38 #[.int .u64 s] w fun e w'=>e=.returned (.pointer (some ⟨w.heap.size,0,none⟩))∧w'=w.alloc (.cells #[.int .u64 s] 162):=by
 go_enter func38,ntmps38
 go_wp2
 go_ret
 exact ⟨rfl,rfl⟩
set_option maxHeartbeats 400000 in
theorem dnext_any (b:Nat) (s:Int) (w:World) (hc:w.cell? ⟨b,0,none⟩=some (.int .u64 s)) (hf:w.frozen? ⟨b,0,none⟩=false) :
  Calls prog 84 #[.pointer (some ⟨b,0,none⟩)] w fun e w'=>e=.returned (.int .u64 (mix (nxt s)))∧w'=w.setCell ⟨b,0,none⟩ (.int .u64 (nxt s)):=by
 go_enter func84,ntmps84
 go_wp2
 go_ret
 exact ⟨rfl,rfl⟩
theorem dnext_die (b:Nat) (s:Int) (w:World) (h:Die w b s) :
  Calls prog 84 #[.pointer (some ⟨b,0,none⟩)] w fun e w'=>e=.returned (.int .u64 (mix (nxt s)))∧Die w' b (nxt s)∧Kept (·=b) w w'∧w'.heap.size=w.heap.size:=by
 refine (dnext_any b s w h.cell h.free).mono ?_
 rintro e w' ⟨rfl,rfl⟩
 exact ⟨rfl,h.set (nxt_range s).1,(Kept.refl (fun x=>x=b) w).setCell (p:=⟨b,0,none⟩) (fun _=>rfl) _,by simp⟩
theorem last_walk (n:Int) (h:1≤n) (h2:n≤1000000):IntKind.u64.wrap (18446744073709551615-(IntKind.u64.wrap (18446744073709551615 % n+1)).tmod n)=last n:=by
 have h1:=Int.emod_nonneg 18446744073709551615 (show n≠0 by omega)
 have h3:=Int.emod_lt_of_pos 18446744073709551615 (show 0<n by omega)
 rw [wrap_u64 (18446744073709551615 % n+1),Int.emod_eq_of_lt oM oM,Int.tmod_eq_emod_of_nonneg oM,Int.emod_add_emod]
 have h4:=Int.emod_nonneg (18446744073709551615+1) (show n≠0 by omega)
 have h5:=Int.emod_lt_of_pos (18446744073709551615+1) (show 0<n by omega)
 rw [wrap_u64,Int.emod_eq_of_lt oM (by omega)]
 rfl
set_option maxHeartbeats 400000 in
theorem dbelow_die (b:Nat) (n s:Int) (w:World) (h:Die w b s) (hn:1≤n) (hn2:n≤1000000) :
  Calls prog 138 #[.pointer (some ⟨b,0,none⟩),.int .i64 n] w fun e w'=>e=.returned (.int .i64 (below n s).1)∧Die w' b (below n s).2∧Kept (·=b) w w'∧w'.heap.size=w.heap.size:=by
 go_enter func138,ntmps138
 go_wp2
 rw [last_walk n hn hn2]
 go_loopg [7] (left s) (fun k _ wr=>∃ t,left t=k∧Die wr b t∧below n s=below n t∧Kept (·=b) w wr∧wr.heap.size=w.heap.size)
 case atStart=>exact ⟨s,rfl,h,rfl,Kept.refl _ _,rfl⟩
 case round =>
  obtain ⟨t,hl,hd,hb,hk,hz⟩:=hrel
  have HB:=hid hb
  have HZ:=hid hz
  have HL:=hid hl
  clear hb hz hl
  by_cases hc:mix (nxt t)≤last n
  ·have HT:=hid (below_take n t hc)
   have hm:=(mix_range (nxt t)).1
   go_wp2_with fail
   refine (dnext_die b t wr hd).mono ?_
   rintro e w1 ⟨rfl,hd1,hk1,hz1⟩
   have HZ1:=hid hz1
   clear hz1
   go_wp2
   go_ret
   rw [HB.out,HT.out]
   have:=Int.emod_lt_of_pos (mix (nxt t)) (show 0<n by omega)
   have:=Int.emod_nonneg (mix (nxt t)) (show n≠0 by omega)
   exact ⟨ret_int (IntWalk.wrap64_in _ ⟨by omega,by omega⟩),hd1,hk.trans hk1,by rw [HZ1.out,HZ.out]⟩
  ·have HT:=hid (below_step n t hn oM hc)
   have HW:=hid (left_of_not n t hn oM hc)
   have hc':decide (mix (nxt t)≤last n)=false:=by simpa using hc
   go_wp2_with fail
   refine (dnext_die b t wr hd).mono ?_
   rintro e w1 ⟨rfl,hd1,hk1,hz1⟩
   have HZ1:=hid hz1
   clear hz1
   go_wp2
   go_roundg (left (nxt t))
   case measure=>rw [← HL.out];exact HW.out
   case rel=>exact ⟨_,rfl,hd1,by rw [HB.out,HT.out],hk.trans hk1,by rw [HZ1.out,HZ.out]⟩
theorem Tryz.infoInt:(Tryz.prog.info? 3).map (fun i=>(i.zero,i.size,i.bytes))=some (some (.int .i64 0),1,8):=by kernel_rfl
theorem make_ints (n:Nat) (w:World) (h:n≤1000000):(Instr.makeSlice 23 (.int .i64 n) (.int .i64 n)).run prog w=.ok (.slice (some ⟨w.heap.size,0,none⟩) n n) (w.alloc (.cells (cellsOf i64 (List.replicate n 0)) 3)):=by
 obtain ⟨i0,hi,hz0,hz1,hz2⟩:=info_parts Tryz.infoInt
 have:=run_make (P:=prog) w 23 3 i0 (.int .i64 0) Tryz.underlying23 hi hz0 .i64 .i64 n n oM oM (by rw [hz2];omega) oM
 rw [this,hz1]
 simp only [Int.toNat_natCast,Nat.mul_one,Value.cells]
 rw [show (#[Value.int .i64 0])=#[i64 0] from rfl,madeCells_of]
set_option maxHeartbeats 400000 in
theorem ddraw_die (b:Nat) (n:Int) (k:Nat) (s:Int) (w:World) (h:Die w b s) (hn:1≤n) (hn2:n≤1000000) (hk:1≤k) (hk2:k≤65536) :
  Calls prog 87 #[.pointer (some ⟨b,0,none⟩),.int .i64 n,.int .i64 k] w fun e w' =>
   ∃ B,w.heap.size≤B∧e=.returned (.slice (some ⟨B,0,none⟩) k k)∧Blk i64 w' B (drawL n k s).1∧Die w' b (drawL n k s).2∧Kept (·=b) w w':=by
 have hmk:=fun w=>make_ints k w oM
 go_enter func87,ntmps87
 go_wp2
 go_loopg [26] k (fun g i wr=>∃ j:Nat,j+g=k∧i=.int .i64 j∧Blk i64 wr w.heap.size ((drawL n j s).1++List.replicate g 0)∧Die wr b (drawL n j s).2∧Kept (·=b) w wr)
 case atStart=>exact ⟨0,by omega,rfl,Blk.new _ _ _ _,h.below ((Below.refl _ _).alloc (Nat.le_refl _) _),(Kept.refl _ _).alloc _⟩
 case round =>
  obtain ⟨j,hj,rfl,hB,hd,hK⟩:=hrel
  have hlen:=drawL_length n j s
  by_cases hlt:j<k
  ·have hjk:=hid hj
   clear hj
   have hl:=hid hlen
   clear hlen
   go_wp2_with fail
   refine (dbelow_die b n _ wr hd hn hn2).mono ?_
   rintro e w1 ⟨rfl,hd1,hk1,hz1⟩
   have hB1:=hB.kept hk1 (by have:=h.lt;omega)
   have hZ:=hid hz1
   clear hz1 hB
   have hll:((drawL n j s).1++List.replicate gk 0).length=k:=by have:=hl.out;have:=hjk.out;simp;omega
   obtain ⟨v0,hc⟩:∃ v,w1.cell? ⟨w.heap.size,j,none⟩=some v:=⟨_,hB1.cell j oM⟩
   have hf:=hB1.free j
   have HL:=hid hll
   clear hll
   go_wp2
   go_roundg (gk-1)
   case measure=>have:=hjk.out;omega
   case rel =>
    refine ⟨j+1,by have:=hjk.out;omega,by go_num,?_,?_,?_⟩
    ·have:=hB1.set j (below n (drawL n j s).2).1
     have e:((drawL n j s).1++List.replicate gk 0).set j (below n (drawL n j s).2).1=(drawL n (j+1) s).1++List.replicate (gk-1) 0:=by
      have:=hjk.out
      obtain ⟨g,rfl⟩:∃ g,gk=g+1:=⟨gk-1,by omega⟩
      rw [List.set_append_right _ _ (by rw [hl.out];omega),hl.out]
      simp [drawL,List.replicate_succ]
     rw [e] at this
     exact this
    ·exact hd1.other ⟨w.heap.size,j,none⟩ _ (by have:=h.lt;simp;omega)
    ·exact (hK.trans hk1).setCell (p:=⟨w.heap.size,j,none⟩) (fun x=>absurd x (Nat.lt_irrefl _)) _
  ·obtain rfl:j=k:=by omega
   obtain rfl:gk=0:=by omega
   go_wp2
   go_ret
   exact ⟨w.heap.size,Nat.le_refl _,rfl,by simpa using hB,hd,hK⟩
set_option maxHeartbeats 400000 in
theorem dorder_die (b:Nat) (n:Nat) (s:Int) (w:World) (h:Die w b s) (hn:1≤n) (hn2:n≤65536) :
  Calls prog 92 #[.pointer (some ⟨b,0,none⟩),.int .i64 n] w fun e w' =>
   ∃ B,w.heap.size≤B∧e=.returned (.slice (some ⟨B,0,none⟩) n n)∧Blk i64 w' B (orderL n s).1∧Die w' b (orderL n s).2∧Kept (·=b) w w':=by
 have hmk:=fun w=>make_ints n w oM
 go_enter func92,ntmps92
 go_wp2
 go_loopg [20] n (fun g i wr=>∃ j:Nat,j+g=n∧i=.int .i64 j∧Blk i64 wr w.heap.size (upTo j++List.replicate g 0)∧Die wr b s∧Kept (·=b) w wr)
 case atStart=>exact ⟨0,by omega,rfl,Blk.new _ _ _ _,h.below ((Below.refl _ _).alloc (Nat.le_refl _) _),(Kept.refl _ _).alloc _⟩
 case round =>
  obtain ⟨j,hj,rfl,hB,hd,hK⟩:=hrel
  have hlen:=upTo_length j
  by_cases hlt:j<n
  ·have hjk:=hid hj
   clear hj
   have hl:=hid hlen
   clear hlen
   have hll:(upTo j++List.replicate gk 0).length=n:=by have:=hl.out;have:=hjk.out;simp;omega
   obtain ⟨v0,hc⟩:=hB.has j oM
   have hf:=hB.free j
   have HL:=hid hll
   clear hll
   go_wp2
   go_roundg (gk-1)
   case measure=>have:=hjk.out;omega
   case rel =>
    refine ⟨j+1,by have:=hjk.out;omega,by go_num,?_,?_,?_⟩
    ·have:=hB.set j (j:Int)
     have e:(upTo j++List.replicate gk 0).set j (j:Int)=upTo (j+1)++List.replicate (gk-1) 0:=by
      have:=hjk.out
      obtain ⟨g,rfl⟩:∃ g,gk=g+1:=⟨gk-1,by omega⟩
      rw [List.set_append_right _ _ (by rw [hl.out];omega),hl.out,upTo_succ]
      simp [List.replicate_succ]
     rw [e] at this
     exact this
    ·exact hd.other ⟨w.heap.size,j,none⟩ _ (by have:=h.lt;simp;omega)
    ·exact hK.setCell (p:=⟨w.heap.size,j,none⟩) (fun x=>absurd x (Nat.lt_irrefl _)) _
  ·obtain rfl:j=n:=by omega
   obtain rfl:gk=0:=by omega
   rw [List.replicate_zero,List.append_nil] at hB
   obtain ⟨wo,hwo⟩:∃ wo:World,wo=wr:=⟨_,rfl⟩
   rw [← hwo] at hB hd hK
   subst hwo
   go_wp2
   go_loopg [8] (j-1) (fun g i wr=>∃ (l:List Int) (t:Int),g<j∧i=.int .i64 g∧Blk i64 wr w.heap.size l∧l.length=j∧Die wr b t∧orderGo g l t=orderL j s∧Kept (·=b) w wr)
   case atStart=>exact ⟨upTo j,s,by omega,by congr 1;omega,hB,hlen,hd,rfl,hK⟩
   case round =>
    obtain ⟨l,t,hg,rfl,hB,hlen,hd,ho,hK⟩:=hrel
    have HO:=hid ho
    have HN:=hid hlen
    clear ho hlen
    by_cases hlt:1≤gk
    ·go_wp2_with fail
     refine (dbelow_die b _ _ wr hd oM oM).mono ?_
     have hr:=below_range (gk+1) t oM oM
     generalize hbe:below (gk+1) t=be at *
     obtain ⟨x,t'⟩:=be
     obtain ⟨r1,r2,r3,r4⟩:=hr
     simp only at r1 r2
     clear r3 r4
     obtain ⟨x,rfl⟩:=Int.eq_ofNat_of_zero_le r1
     rintro e w1 ⟨rfl,hd1,hk1,hz1⟩
     have HZ:=hid hz1
     have HBE:=hid hbe
     clear hz1 hbe
     have hB1:=hB.kept hk1 (by have:=h.lt;omega)
     have hx:x<l.length:=by have:=HN.out;omega
     have hgl:gk<l.length:=by have:=HN.out;omega
     obtain ⟨v,hv⟩:∃ v,v=l.getD x 0:=⟨_,rfl⟩
     obtain ⟨u,hu⟩:∃ v,v=l.getD gk 0:=⟨_,rfl⟩
     have c1:w1.cell? ⟨w.heap.size,x,none⟩=some (.int .i64 v):=by rw [hv,hB1.cell x hx];simp [hx]
     have c2:w1.cell? ⟨w.heap.size,gk,none⟩=some (.int .i64 u):=by rw [hu,hB1.cell gk hgl];simp [hgl]
     have f1:=hB1.free x
     have f2:=hB1.free gk
     have hx':x<j:=by omega
     have HV:=hid hv
     have HU:=hid hu
     clear hv hu hx hgl
     obtain ⟨v',hy'⟩:=cell?_setCell_some (w:=w1) (p:=⟨w.heap.size,gk,none⟩) (x:=.int .i64 v) (q:=⟨w.heap.size,x,none⟩) (v:=.int .i64 v) c1
     go_wp2
     go_region
     all_goals go_wp2
     all_goals go_roundg (gk-1)
     case measure=>omega
     case rel =>
      refine ⟨swapL l gk x,t',by omega,by congr 1;omega,?_,by rw [swapL_length];exact HN.out,?_,?_,?_⟩
      ·have:=((hB1.set gk v).set x u).drew
       rw [HV.out,HU.out] at this
       rw [HV.out,HU.out]
       exact this
      ·exact ((hd1.other ⟨w.heap.size,gk,none⟩ _ (by have:=h.lt;simp;omega)).other ⟨w.heap.size,x,none⟩ _ (by have:=h.lt;simp;omega)).drew
      ·rw [← HO.out]
       obtain ⟨g,rfl⟩:∃ g,gk=g+1:=⟨gk-1,by omega⟩
       have hh:=HBE.out
       rw [show ((g+1:Nat):Int)+1=(g:Int)+2 by omega] at hh
       simp [orderGo,hh]
      ·exact (((hK.trans hk1).setCell (p:=⟨w.heap.size,gk,none⟩) (fun x=>absurd x (Nat.lt_irrefl _)) _).setCell (p:=⟨w.heap.size,x,none⟩) (fun x=>absurd x (Nat.lt_irrefl _)) _).drew
    ·obtain rfl:gk=0:=by omega
     go_wp2
     go_ret
     have:=HO.out
     simp only [orderGo] at this
     rw [← this]
     exact ⟨w.heap.size,Nat.le_refl _,rfl,hB,hd,hK⟩
theorem PW.of_order {P:Program} {f:FuncId} {args:Array Value} {H:Hp} {b:Nat} {T:TypeId} {s s':Int} {l:List Int} (can:Callable P f) (hs:0≤s)
  (h:∀ W,Die W b s→Calls P f args W fun e w'=>∃ B,W.heap.size≤B∧e=.returned (.slice (some ⟨B,0,none⟩) l.length l.length)∧Blk i64 w' B l∧Die w' b s'∧Kept (·=b) W w') :
  PW P f args H [(b,T,[.int .u64 s])] fun v ow H'=>(∃ T',ow=[(b,T',[.int .u64 s'])])∧0≤s'∧IL H' v l∧∃ a,v=.slice a l.length l.length:=by
 refine ⟨can,fun W hf hg hL hd=>?_⟩
 obtain ⟨hB,hHb,_⟩:=hL 0 b T _ rfl
 refine (h W ⟨hs,T,hB⟩).mono ?_
 rintro e W' ⟨B,hBs,rfl,⟨T2,hblk⟩,⟨hs',T',hdie⟩,hk⟩
 have hBn:H B=none:=by
  cases hc:H B with
  | none=>rfl
  | some c=>have:=hf.lt (b:=B) (by rw [hc];simp);omega
 have hbB:b≠B:=by
  have:=hB.lt
  omega
 refine ⟨_,[(b,T',[.int .u64 s'])],H.put B (cellsOf i64 l),rfl,⟨⟨T',rfl⟩,hs',?_,_,rfl⟩,fun k c hc=>?_,fun k c hc=>?_,fun k c hc=>?_,hk.mono (fun k _ e=>by subst e;exact Ows.bs_mem (j:=0) rfl),fun j b' T1 cs hj=>?_,?_⟩
 ·exact ⟨by simp,.inr ⟨B,0,l.length,cellsOf i64 l,rfl,Nat.le_refl _,by simp [Hp.put],fun q x hq=>by rw [Nat.zero_add];simpa [cellsOf] using hq⟩⟩
 ·have:k≠B:=fun e=>by subst e;rw [hBn] at hc;cases hc
  simp only [Hp.put,if_neg this];exact hc
 ·by_cases e:k=B
  ·subst e;simp only [Hp.put,if_true] at hc;cases hc;exact ⟨T2,(0,0),hblk⟩
  ·simp only [Hp.put,if_neg e] at hc
   obtain ⟨T3,fz,hW⟩:=hf k c hc
   refine ⟨T3,fz,?_⟩
   rw [hk.block k (hf.lt (by rw [hc];simp)) (fun e=>by subst e;rw [hHb] at hc;cases hc)];exact hW
 ·by_cases e:k=B
  ·subst e;simp only [Hp.put,if_true] at hc;cases hc;exact .inr ⟨hBs,T2,hblk⟩
  ·simp only [Hp.put,if_neg e] at hc;exact .inl hc
 ·cases j with
  | zero =>
   cases (show some (b,T',[Value.int .u64 s'])=some (b',T1,cs) from hj)
   exact ⟨hdie,.inr (Ows.bs_mem (j:=0) rfl),by simp only [Hp.put,if_neg hbB];exact hHb⟩
  | succ j=>simp at hj
 ·intro j j' b' T1 T2 c1 c2 h1 h2
  cases j with
  | zero=>cases j' with
   | zero=>rfl
   | succ j'=>simp at h2
  | succ j=>simp at h1
theorem orderL_len (n:Nat) (s:Int):(orderL n s).1.length=n:=by
 unfold orderL
 rw [orderGo_length,upTo_length]
theorem plQ_ht {X:List (List Rat)} (h:∀ x,x∈X→∀ q,q∈x→ht q≤5) {c:Int} {es:List Int} {t:Rat} (ht':t∈plQ X c es):ht t≤100:=by
 by_cases ha:es.all (hasC X c)=true
 ·obtain ⟨m,hm,hr⟩:=sorted_is (colK X c) es
  rw [← plQ_sort (.inl ⟨ha,hm,hr⟩:SortC X c es m)] at ht'
  obtain ⟨j,_,_,rfl⟩:=gapsN_mem ht'
  exact midC_ht h c m j
 ·unfold plQ at ht'
  rw [if_neg ha] at ht'
  cases ht'
theorem ordR_lt0 (a b:Rat):ordR a b<0↔a<b:=by
 unfold ordR
 split
 ·rename_i h;exact ⟨fun _=>h,fun _=>by decide⟩
 ·rename_i h
  split
  ·exact ⟨fun k=>absurd k (by decide),fun k=>absurd k h⟩
  ·exact ⟨fun k=>absurd k (by decide),fun k=>absurd k h⟩
theorem cuts_small {X:List (List Rat)} {cost:List Int→Rat} {es:List Int} {n:Nat} {L c:Int} {ts:List Rat} (hs:∀ l:List Int,l.length≤300→(∀ r,r∈l→0≤r∧r<(n:Int))→ht (cost l)≤2000000) (he:es.length≤300) (hb:∀ r,r∈es→0≤r∧r<(n:Int)) (hts:∀ t,t∈ts→ht t≤100) {p:Int × Rat × Rat} (h:p∈cutsOf X cost es L c ts):ht p.2.1≤100∧ht p.2.2≤8000000:=by
 unfold cutsOf at h
 obtain ⟨t,ht',hp⟩:=List.mem_flatMap.1 h
 split at hp
 ·obtain rfl:=List.mem_singleton.1 hp
  have h1:=hs _ (Nat.le_trans (List.length_filter_le _ _) he:(lowL X c t es).length≤300) (fun r hr=>hb r (List.mem_filter.mp hr).1)
  have h2:=hs _ (Nat.le_trans (List.length_filter_le _ _) he:(highL X c t es).length≤300) (fun r hr=>hb r (List.mem_filter.mp hr).1)
  have h3:=hs es he hb
  have h4:=ht_add (cost (lowL X c t es)) (cost (highL X c t es))
  have h5:=ht_sub (cost es) (cost (lowL X c t es)+cost (highL X c t es))
  exact ⟨hts t ht',by dsimp only;omega⟩
 ·cases hp
theorem all_small {X:List (List Rat)} {cost:List Int→Rat} {es:List Int} {n:Nat} {L:Int} {cols:List Int} (hs:∀ l:List Int,l.length≤300→(∀ r,r∈l→0≤r∧r<(n:Int))→ht (cost l)≤2000000) (he:es.length≤300) (hb:∀ r,r∈es→0≤r∧r<(n:Int)) (hq:∀ x,x∈X→∀ q,q∈x→ht q≤5) {p:Int × Rat × Rat} (h:p∈allCuts X cost es L cols):ht p.2.1≤100∧ht p.2.2≤8000000:=by
 unfold allCuts at h
 obtain ⟨c,_,hp⟩:=List.mem_flatMap.1 h
 exact cuts_small hs he hb (fun t ht'=>plQ_ht hq ht') hp
section
variable {P:Program} {ops:Array Oper} {md:Region.Mode} {Q:Exit→Act→World→Prop} {I:World→Prop} {z:Option Nat}
def yetB (md:Region.Mode) (ops:Array Oper) (L:Array Bool) (i:Nat):Bool:=(List.range ops.size).all fun k => !L.getD k false || match ops[k]? with
 | some o => !o.after.any fun e=>Region.binds md e && e.on == i
 | none=>true
theorem yetB_iff {L:Array Bool} {i:Nat}:yetB md ops L i=true↔∀ k o,ops[k]?=some o→L.getD k false=true→∀ e∈o.after,Region.binds md e=true→e.on≠i:=by
 unfold yetB
 rw [List.all_eq_true]
 constructor
 ·intro h k o ho hk e he hb heq
  have h1:=h k (List.mem_range.2 (Array.getElem?_eq_some_iff.1 ho).1)
  rw [hk,ho] at h1
  simp only [Bool.not_true,Bool.false_or,Bool.not_eq_true',Array.any_eq_false'] at h1
  have:=h1 e he
  simp [hb,heq] at this
 ·intro h k hk
  cases hL:L.getD k false with
  | false=>rfl
  | true =>
   obtain ⟨o,ho⟩:∃ o,ops[k]?=some o:=⟨_,Array.getElem?_eq_getElem (List.mem_range.1 hk)⟩
   rw [ho]
   simp only [Bool.not_true,Bool.false_or,Bool.not_eq_true',Array.any_eq_false']
   intro e he
   cases hb:Region.binds md e with
   | false=>simp
   | true=>have:=h k o ho hL e he hb;simpa using this
def needB (z:Option Nat) (L:Array Bool):Bool:=match z with
 | none=>true
 | some k => !L.getD k false
def zokB (md:Region.Mode) (ops:Array Oper) (z:Option Nat) (i:Nat):Bool:=match z with
 | none=>true
 | some k => !(k == i) && match ops[k]? with
  | some o=>o.after.any fun e=>Region.binds md e && e.on == i
  | none=>false
def wpAnyI (P:Program) (md:Region.Mode) (ops:Array Oper) (Q:Exit→Act→World→Prop) (I:World→Prop) (z:Option Nat):Nat→Array Bool→Act→World→Prop
 | 0,L,a,w=>(needB z L=true→I w)∧Region.ready md ops L=[]∧Q .normal a w
 | f+1,L,a,w=>(needB z L=true→I w)∧(Region.ready md ops L=[]→Q .normal a w)∧∀ i,i∈Region.ready md ops L→wpOp P ops Q i (wpAnyI P md ops Q I z f (L.setIfInBounds i true)) a w
theorem wpAnyI.now:∀ {f:Nat} {L:Array Bool} {a:Act} {w:World},wpAnyI P md ops Q I z f L a w→needB z L=true→I w
 | 0,_,_,_,h=>h.1
 | _+1,_,_,_,h=>h.1
theorem wpAnyI.any:∀ (f:Nat) (L:Array Bool) (a:Act) (w:World),wpAnyI P md ops Q I z f L a w→wpAny P md ops Q f L a w
 | 0,_,_,_,h=>h.2
 | f+1,_,_,_,h=>⟨h.2.1,fun i hi=>wpOp_mono (fun a w k=>wpAnyI.any f _ a w k) (h.2.2 i hi)⟩
def YieldsI (P:Program) (ops:Array Oper) (I:World→Prop) (o:Oper) (v:Value) (a:Act):Prop :=
 Region.wanted o (yielded ops a.tmps)=true∧∀ w,I w→(execOp a.eval o).run P w=.ok (.value v) w
theorem YieldsI.op {i:Nat} {o:Oper} {v:Value} {a:Act} (hi:ops[i]?=some o) (hy:YieldsI P ops I o v a) {K:Act→World→Prop} {w:World} (hw:I w) (h:K (a.put o.dst v) w):wpOp P ops Q i K a w:=by
 unfold wpOp
 simp only [hi,hy.1,if_true,Oper.wp,hy.2 w hw,Oper.upon]
 exact .inl h
theorem wpOp_keep {j:Nat} {oj:Oper} (hj:ops[j]?=some oj) {Y:Act→Prop} (k1:∀ a u,Y a→Y (a.put oj.dst u)) (k2:∀ (a:Act) d,Y a→Y { a with defers:=d::a.defers }) {K:Act→World→Prop} {a:Act} {w:World} (hy:Y a) (h:wpOp P ops Q j K a w):wpOp P ops Q j (fun a' w'=>Y a'∧K a' w') a w:=by
 unfold wpOp at *
 simp only [hj] at *
 split
 ·rename_i hw
  rw [if_pos hw] at h
  refine h.imp (fun h=>?_) id
  unfold Oper.wp at *
  generalize (execOp a.eval oj).run P w=r at *
  cases r with
  | ok n w' =>
   cases n <;> simp only [Oper.upon] at h ⊢
   case value u=>exact ⟨k1 _ _ hy,h⟩
   case skip=>exact ⟨k1 _ _ hy,h⟩
   case defer d=>exact ⟨k1 _ _ (k2 _ _ hy),h⟩
   case enter f args =>
    refine Calls.mono h fun e w'' he=>?_
    cases e with
    | returned u=>exact ⟨k1 _ _ hy,he⟩
    | _=>exact he
   case row row args=>exact Rows.mono h fun u w'' he=>⟨k1 _ _ hy,he⟩
  | halt x w'=>cases x <;> simp only [Oper.upon] at h ⊢ <;> exact h
 ·rename_i hw
  rw [if_neg hw] at h
  exact ⟨k1 _ _ hy,h⟩
theorem fake_apart {oi oj:Oper} {v:Value} (h:oi.apart ops oj=true):Oper.apart ops { oi with op:=.move (.const v),guard:=none } oj=true:=by
 unfold Oper.apart at *
 rw [Bool.and_eq_true] at *
 refine ⟨h.1,?_⟩
 cases oj.dst with
 | none=>rfl
 | some d=>rfl
theorem wpAnyI_take {J:World→Prop} {i:Nat} {oi:Oper} {v:Value} (hi:ops[i]?=some oi) (hsel:Region.noSelect ops=true) (hQ:∀ c a w,Q (.panic c) (a.put oi.dst v) w→Q (.panic c) a w) (hts:(zokB md ops z i=true∧∀ w,I w→J w)∨((∀ w,J w)∧z≠some i)) :
  ∀ (f:Nat) (L:Array Bool) (a:Act) (w:World),(∀ j oj,ops[j]?=some oj→j≠i→L.getD j true=false→(∀ e∈oj.after,Region.binds md e=true→e.on≠i)→oi.apart ops oj=true)→yetB md ops L i=true →
   i∈Region.ready md ops L→YieldsI P ops J oi v a→wpAnyI P md ops Q I z f (L.setIfInBounds i true) (a.put oi.dst v) w→wpAnyI P md ops Q I z (f+1) L a w:=by
 have now:∀ {f:Nat} {L:Array Bool} {a:Act} {w:World},yetB md ops L i=true→wpAnyI P md ops Q I z f (L.setIfInBounds i true) (a.put oi.dst v) w→(needB z L=true→I w)∧J w:=fun {f L a w} hy H=>by
  rcases hts with ⟨hz,hJ⟩ | ⟨hJ,hz⟩
  ·have hI:I w:=H.now (by
    cases z with
    | none=>rfl
    | some k =>
     simp only [zokB,Bool.and_eq_true,Bool.not_eq_true',beq_eq_false_iff_ne] at hz
     obtain ⟨hki,hk⟩:=hz
     show (!(L.setIfInBounds i true).getD k false)=true
     rw [Go.getD_set_ne false (Ne.symm hki)]
     cases hL:L.getD k false with
     | false=>rfl
     | true =>
      cases ho:ops[k]? with
      | none=>rw [ho] at hk;cases hk
      | some o =>
       rw [ho] at hk
       obtain ⟨e,he,hb⟩:=Array.any_eq_true'.1 hk
       simp only [Bool.and_eq_true,beq_iff_eq] at hb
       exact absurd hb.2 (yetB_iff.1 hy k o ho hL e he hb.1))
   exact ⟨fun _=>hI,hJ _ hI⟩
  ·refine ⟨fun h=>H.now ?_,hJ w⟩
   cases z with
   | none=>rfl
   | some k =>
    have hki:i≠k:=fun e=>hz (by rw [e])
    show (!(L.setIfInBounds i true).getD k false)=true
    rw [Go.getD_set_ne false hki]
    exact h
 intro f
 induction f with
 | zero =>
  intro L a w _ hy hr hY H
  refine ⟨(now hy H).1,fun h=>(by rw [h] at hr;cases hr),fun j hj=>?_⟩
  by_cases hji:j=i
  ·subst hji;exact hY.op hi (now hy H).2 H
  ·have:=ready_mono hj hji
   rw [H.2.1] at this
   cases this
 | succ f ih =>
  intro L a w hfree hyt hr hy H
  refine ⟨(now hyt H).1,fun h=>(by rw [h] at hr;cases hr),fun j hj=>?_⟩
  by_cases hji:j=i
  ·subst hji;exact hy.op hi (now hyt H).2 H
  ·have h1:=H.2.2 j (ready_mono hj hji)
   obtain ⟨hjun,oj,hoj,hall⟩:=mem_ready.1 hj
   have hnot:∀ e∈oj.after,Region.binds md e=true→e.on≠i:=fun e he hb heq=>by
    have h1:=hall e he hb
    have h0:=(mem_ready.1 hr).1
    rw [heq] at h1
    rcases Nat.lt_or_ge i L.size with h' | h'
    ·simp [h'] at h0 h1;rw [h0] at h1;cases h1
    ·simp [Array.getElem?_eq_none h'] at h1
   have hap:=hfree j oj hoj hji hjun hnot
   obtain ⟨_,_,hap3⟩:=Oper.apart_spec hap
   have hsi:=fun cs b=>Region.noSelect_spec hsel i oi cs b hi
   have h2:=wpOp_put (oi:={ oi with op:=.move (.const v),guard:=none }) hoj (fake_apart hap) (fun cs b e=>by cases e) (fun cs b=>Region.noSelect_spec hsel j oj cs b hoj) hQ
    (.inl ⟨rfl,fun w=>rfl⟩) h1
   have h3:=wpOp_keep (Y:=YieldsI P ops J oi v) hoj (fun a u hy=>⟨by rw [wanted_put oi a oj.dst u hap3];exact hy.1,fun w hw=>by rw [execOp_put oi hsi a oj.dst u hap3];exact hy.2 w hw⟩) (fun a d hy=>hy) hy h2
   have hfree':∀ k ok,ops[k]?=some ok→k≠i→(L.setIfInBounds j true).getD k true=false→(∀ e∈ok.after,Region.binds md e=true→e.on≠i)→oi.apart ops ok=true:=fun k ok hk hki hun hno=>by
    refine hfree k ok hk hki ?_ hno
    by_cases hjk:j=k
    ·subst hjk;exact hjun
    ·rw [Go.getD_set_ne true hjk] at hun;exact hun
   have hyt':yetB md ops (L.setIfInBounds j true) i=true:=yetB_iff.2 fun k o ho hk=>by
    by_cases hjk:j=k
    ·subst hjk
     cases hoj.symm.trans ho
     exact hnot
    ·rw [Go.getD_set_ne false hjk] at hk
     exact yetB_iff.1 hyt k o ho hk
   refine wpOp_mono (fun a' w' h4=>ih (L.setIfInBounds j true) a' w' hfree' hyt' (ready_mono hr (Ne.symm hji)) h4.1 ?_) h3
   rw [Array.setIfInBounds_comm _ _ hji]
   exact h4.2.2
end
def EVG (I:World→Prop) (z:Option Nat) (P:Program) (n:Nat) (ops:Array Oper) (fuel:Nat) (L:Array Bool) (env:Env) (bx:Bxs) (H:Hs) (K:Env→Bxs→Hs→Prop):Prop :=
 ∀ W0 β a W,Rel n W0 H.base β env bx H a W→wpAnyI P .any ops (fun e a W=>e=.normal∧lift n W0 H.base (fun _ env bx H=>K env bx H) .normal a W) I z fuel L a W
abbrev EVI (z:Option Nat) (p:Nat × TypeId × List Value) (P:Program) (n:Nat) (ops:Array Oper) (fuel:Nat) (L:Array Bool) (env:Env) (bx:Bxs) (H:Hs) (K:Env→Bxs→Hs→Prop):Prop :=
 EVG (fun W=>Box W p.1 p.2.2.toArray p.2.1) z P n ops fuel L env bx H K
section
variable {I:World→Prop} {z:Option Nat} {p:Nat × TypeId × List Value} {n:Nat} {ops:Array Oper} {fuel:Nat} {L:Array Bool} {env:Env} {bx:Bxs} {H:Hs} {K:Env→Bxs→Hs→Prop} {d:Nat} {o:Oper} {v:Value}
theorem EVG.start (I:World→Prop) (z:Option Nat) {id:Nat} {l:List Oper} {Q:EQ} (h:EVG I z prog n l.toArray l.length (Array.replicate l.length false) env bx H (fun env bx H=>Q .normal env bx H)) (hm:Tryz.prog.follows .mixedOrders=true:=by kernel_rfl):EV prog n (.region id l.toArray true) env bx H Q :=
 EVA.start hm fun W0 β a W r=>(h W0 β a W r).any _ _ _ _
theorem EVI.start (z:Option Nat) (p:Nat × TypeId × List Value) {id:Nat} {l:List Oper} {Q:EQ} (h:EVI z p prog n l.toArray l.length (Array.replicate l.length false) env bx H (fun env bx H=>Q .normal env bx H)) (hm:Tryz.prog.follows .mixedOrders=true:=by kernel_rfl):EV prog n (.region id l.toArray true) env bx H Q:=EVG.start _ z h hm
theorem EVG.take {J:World→Prop} (i:Nat) (hts:(zokB .any ops z i=true∧∀ w,I w→J w)∨((∀ w,J w)∧z≠some i)) (hi:ops[i]?=some o) (hs:Region.noSelect ops=true) (hf:Region.free .any ops L i=true) (hr:(Region.ready .any ops L).contains i=true) (hy:yetB .any ops L i=true) (hw:wantB ops env o=some true) (hd:o.dst=some d) (hn:Nat.blt d n=true)
  (hx:∀ (β:Nat→Nat) (a:Act) (W:World),(∀ y s,env.op y=some s→s.rep β H.ro (a.eval y))→J W→(execOp a.eval o).run prog W=.ok (.value v) W)
  (h:EVG I z prog n ops fuel (L.setIfInBounds i true) ((d,.v v)::env) bx H K):EVG I z prog n ops (fuel+1) L env bx H K:=fun W0 β a W r=>by
 refine wpAnyI_take (v:=v) hi hs (fun c a w e=>by cases e.1) hts fuel L a W (Region.free_spec hi hf) hy (by simpa using hr) ⟨r.want hw,fun w hI=>hx β a w (fun y s hy=>r.op hy) hI⟩ ?_
 rw [hd]
 exact h W0 β _ W (r.put hn rfl rfl)
theorem IV (i:Nat) (h:EVG I z prog n ops fuel (L.setIfInBounds i true) ((d,.v v)::env) bx H K) (hi:ops[i]?=some o:=by exact rfl) (hs:Region.noSelect ops=true:=by kernel_rfl) (hf:Region.free .any ops L i=true:=by kernel_rfl) (hr:(Region.ready .any ops L).contains i=true:=by kernel_rfl) (hy:yetB .any ops L i=true:=by kernel_rfl) (hts:(z == some i)=false:=by kernel_rfl) (hw:wantB ops env o=some true:=by exact rfl) (hd:o.dst=some d:=by exact rfl) (hn:Nat.blt d n=true:=by exact rfl)
  (hv:pval Tryz.tab env [] o.op=some (.v v):=by exact rfl) (hpl:plainL env o.op.operands.toList=true:=by exact rfl):EVG I z prog n ops (fuel+1) L env bx H K :=
 EVG.take (J:=fun _=>True) i (.inr ⟨fun _=>trivial,fun e=>by rw [e] at hts;simp at hts⟩) hi hs hf hr hy hw hd hn (fun β a W he _=>by
  obtain ⟨x,hx,hr⟩:=pval_sound (β:=β) (H:=fun _=>none) (W:=W) (a:=a) tO hv (fun y s hm hy=>plain_rep (plainL_mem hpl y (by simpa using hm)) hy (he y s hy)) (fun i T cs e=>by cases e) (fun b c e=>by cases e)
  have e:x=v:=hr
  rw [← e];exact hx) h
theorem IN (i:Nat) {x:Operand} {c:Addr} (h:EVG I z prog n ops fuel (L.setIfInBounds i true) ((d,.v (.pointer (some c)))::env) bx H K) (hi:ops[i]?=some o:=by exact rfl) (hs:Region.noSelect ops=true:=by kernel_rfl) (hf:Region.free .any ops L i=true:=by kernel_rfl) (hr:(Region.ready .any ops L).contains i=true:=by kernel_rfl) (hy:yetB .any ops L i=true:=by kernel_rfl) (hts:(z == some i)=false:=by kernel_rfl) (hw:wantB ops env o=some true:=by exact rfl) (hd:o.dst=some d:=by exact rfl) (hn:Nat.blt d n=true:=by exact rfl)
  (ho:o.op=.nilCheck x:=by exact rfl) (hx:env.op x=some (.v (.pointer (some c))):=by exact rfl):EVG I z prog n ops (fuel+1) L env bx H K :=
 EVG.take (J:=fun _=>True) i (.inr ⟨fun _=>trivial,fun e=>by rw [e] at hts;simp at hts⟩) hi hs hf hr hy hw hd hn (fun β a W he _=>run_nilP ho hx _ W fun y x _ hy=>he y _ hy) h
theorem IF (i:Nat) {x:Operand} {T:TypeId} {te:TE} {f b q fo sz:Nat} {ag:Bool} (h:EVG I z prog n ops fuel (L.setIfInBounds i true) ((d,.v (.pointer (some ⟨b,q+fo,none⟩)))::env) bx H K) (hi:ops[i]?=some o:=by exact rfl) (hs:Region.noSelect ops=true:=by kernel_rfl) (hf:Region.free .any ops L i=true:=by kernel_rfl) (hr:(Region.ready .any ops L).contains i=true:=by kernel_rfl) (hy:yetB .any ops L i=true:=by kernel_rfl) (hts:(z == some i)=false:=by kernel_rfl) (hw:wantB ops env o=some true:=by exact rfl) (hd:o.dst=some d:=by exact rfl) (hn:Nat.blt d n=true:=by exact rfl)
  (ho:o.op=.fieldAddr T x f:=by exact rfl) (hx:env.op x=some (.v (.pointer (some ⟨b,q,none⟩))):=by exact rfl) (ht:Tryz.tab.get T=some te:=by exact rfl) (hfd:te.fields[f]?=some (fo,ag,sz):=by exact rfl):EVG I z prog n ops (fuel+1) L env bx H K :=
 EVG.take (J:=fun _=>True) i (.inr ⟨fun _=>trivial,fun e=>by rw [e] at hts;simp at hts⟩) hi hs hf hr hy hw hd hn (fun β a W he _=>run_fldP tO ho ht hfd hx _ W fun y x _ hy=>he y _ hy) h
theorem IL0 (i:Nat) {x:Operand} {T:TypeId} {te:TE} {q:Nat} {l:List Value} (h:EVI z p prog n ops fuel (L.setIfInBounds i true) ((d,.v v)::env) bx H K) (hi:ops[i]?=some o:=by exact rfl) (hs:Region.noSelect ops=true:=by kernel_rfl) (hf:Region.free .any ops L i=true:=by kernel_rfl) (hr:(Region.ready .any ops L).contains i=true:=by kernel_rfl) (hy:yetB .any ops L i=true:=by kernel_rfl) (hts:zokB .any ops z i=true:=by kernel_rfl) (hw:wantB ops env o=some true:=by exact rfl) (hd:o.dst=some d:=by exact rfl) (hn:Nat.blt d n=true:=by exact rfl)
  (ho:o.op=.load T x:=by exact rfl) (hx:env.op x=some (.v (.pointer (some ⟨p.1,q,none⟩))):=by exact rfl) (ht:Tryz.tab.get T=some te:=by exact rfl) (hl:(p.2.2.drop q).take te.size=l:=by exact rfl) (hlen:l.length=te.size:=by exact rfl) (hv:asVar te.agg l=some v:=by exact rfl):EVI z p prog n ops (fuel+1) L env bx H K :=
 EVG.take (J:=fun w=>Box w p.1 p.2.2.toArray p.2.1) i (.inl ⟨hts,fun _ h=>h⟩) hi hs hf hr hy hw hd hn (fun β a W he hB=>by
  have ex:a.eval x=.pointer (some ⟨p.1,q,none⟩):=he x _ hx
  have hrg:=hB.range q te.size
  rw [hl] at hrg
  have hrun:=run_load_cells (tO.get ht) hrg hlen hv
  unfold execOp
  simp only [ho,ex,Sem.run_bind,hrun,Result.andThen_ok,Sem.run_pure]) h
theorem IR (i:Nat) {H0:Hp} {x:Operand} {T:TypeId} {te:TE} {cs l:List Value} (h:EVG (Fits H0) z prog n ops fuel (L.setIfInBounds i true) ((d,.v v)::env) bx H K) (e0:H.ro=H0) (hi:ops[i]?=some o:=by exact rfl) (hs:Region.noSelect ops=true:=by kernel_rfl) (hf:Region.free .any ops L i=true:=by kernel_rfl) (hr:(Region.ready .any ops L).contains i=true:=by kernel_rfl) (hy:yetB .any ops L i=true:=by kernel_rfl) (hts:zokB .any ops z i=true:=by kernel_rfl) (hw:wantB ops env o=some true:=by exact rfl) (hd:o.dst=some d:=by exact rfl) (hn:Nat.blt d n=true:=by exact rfl)
  (ho:o.op=.load T x:=by exact rfl) (hx:env.op x=some (.ro cs):=by exact rfl) (ht:Tryz.tab.get T=some te:=by exact rfl) (hl:cs.take te.size=l:=by exact rfl) (hlen:l.length=te.size:=by exact rfl) (hv:asVar te.agg l=some v:=by exact rfl):EVG (Fits H0) z prog n ops (fuel+1) L env bx H K :=
 EVG.take (J:=Fits H0) i (.inl ⟨hts,fun _ h=>h⟩) hi hs hf hr hy hw hd hn (fun β a W he hB=>by
  obtain ⟨b,off,c,ex,hc,hcs⟩:=he x _ hx
  rw [e0] at hc
  obtain ⟨T',fz,hW⟩:=hB b c hc
  have hrg:W.rangeAt b off l:=fun j v hj=>by
   rw [cell_of_row W b (off+j) c T' fz hW]
   refine hcs j v ?_
   have hj':l[j]?=some v:=hj
   rw [← hl,List.getElem?_take] at hj'
   split at hj'
   ·exact hj'
   ·cases hj'
  have hrun:=run_load_cells (tO.get ht) hrg hlen hv
  unfold execOp
  simp only [ho,ex,Sem.run_bind,hrun,Result.andThen_ok,Sem.run_pure]) h
theorem EVG.step (hI:needB z L=true→∀ W0 β a W,Rel n W0 H.base β env bx H a W→I W) (hne:(Region.ready .any ops L).isEmpty=false) (hk:∀ q,q∈Region.ready .any ops L→∃ o,ops[q]?=some o∧EVL prog n ops [o] env bx H (fun e env bx H'=>e=.normal∧EVG I z prog n ops fuel (L.setIfInBounds q true) env bx H' K)):EVG I z prog n ops (fuel+1) L env bx H K:=fun W0 β a W r=>by
 refine ⟨fun hn=>hI hn W0 β a W r,fun e=>(by rw [e] at hne;cases hne),fun q hq=>?_⟩
 obtain ⟨o,ho,h⟩:=hk q hq
 have h1:=h W0 β a W r
 have hkk:∀ a W,lift n W0 H.base (fun e env bx H'=>e=.normal∧EVG I z prog n ops fuel (L.setIfInBounds q true) env bx H' K) .normal a W→wpAnyI prog .any ops (fun e a W=>e=.normal∧lift n W0 H.base (fun _ env bx H=>K env bx H) .normal a W) I z fuel (L.setIfInBounds q true) a W:=by
  rintro a W ⟨β',env',bx',H',hbase,⟨_,hE⟩,rel⟩
  have:=hE W0 β' a W (by rw [hbase];exact rel)
  rwa [hbase] at this
 unfold wpOp
 simp only [ho]
 unfold wpList at h1
 split
 ·rename_i hw
  rw [if_pos hw] at h1
  rcases h1 with h1 | ⟨h1,h2⟩
  ·refine .inl (Oper.wp_exits (fun c a W hq=>?_) (fun hq=>?_) (Oper.wp_mono (fun a W h=>hkk a W h) h1))
   ·obtain ⟨_,_,_,_,_,⟨e,_⟩,_⟩:=hq
    cases e
   ·obtain ⟨a0,w0,_,_,_,_,_,⟨e,_⟩,_⟩:=hq
    cases e
  ·obtain ⟨a0,w0,_,_,_,_,_,⟨e,_⟩,_⟩:=h2
   cases e
 ·rename_i hw
  rw [if_neg hw] at h1
  exact hkk _ _ h1
theorem EVG.nil (hI:needB z L=true→∀ W0 β a W,Rel n W0 H.base β env bx H a W→I W) (hr:(Region.ready .any ops L).isEmpty=true) (h:K env bx H):EVG I z prog n ops fuel L env bx H K:=fun W0 β a W r=>by
 have hr':=List.isEmpty_iff.1 hr
 have hI:=fun hn=>hI hn W0 β a W r
 cases fuel with
 | zero=>exact ⟨hI,hr',rfl,β,env,bx,H,rfl,h,r⟩
 | succ f=>exact ⟨hI,fun _=>⟨rfl,β,env,bx,H,rfl,h,r⟩,fun i hi=>by rw [hr'] at hi;cases hi⟩
theorem EVG.one (k:Nat) (hI:needB z L=true→∀ W0 β a W,Rel n W0 H.base β env bx H a W→I W) (hr:(Region.ready .any ops L == [k])=true) (ho:ops[k]?=some o) (h:EVL prog n ops [o] env bx H (fun e env bx H'=>e=.normal∧EVG I z prog n ops fuel (L.setIfInBounds k true) env bx H' K)):EVG I z prog n ops (fuel+1) L env bx H K:=by
 have hr':=eq_of_beq hr
 refine EVG.step hI (by rw [hr'];rfl) fun q hq=>?_
 rw [hr',List.mem_singleton] at hq
 subst hq
 exact ⟨o,ho,h⟩
theorem EVG.two {o':Oper} (k k':Nat) (hI:needB z L=true→∀ W0 β a W,Rel n W0 H.base β env bx H a W→I W) (hr:(Region.ready .any ops L == [k,k'])=true) (ho:ops[k]?=some o) (ho':ops[k']?=some o') (h:EVL prog n ops [o] env bx H (fun e env bx H'=>e=.normal∧EVG I z prog n ops fuel (L.setIfInBounds k true) env bx H' K))
  (h':EVL prog n ops [o'] env bx H (fun e env bx H'=>e=.normal∧EVG I z prog n ops fuel (L.setIfInBounds k' true) env bx H' K)):EVG I z prog n ops (fuel+1) L env bx H K:=by
 have hr':=eq_of_beq hr
 refine EVG.step hI (by rw [hr'];rfl) fun q hq=>?_
 rw [hr'] at hq
 rcases List.mem_cons.1 hq with rfl | hq
 ·exact ⟨o,ho,h⟩
 ·obtain rfl:q=k':=by simpa using hq
  exact ⟨o',ho',h'⟩
theorem ownI {jj:Nat} (hj:needB z L=false∨H.ow[jj]?=some p):needB z L=true→∀ W0 β a W,Rel n W0 H.base β env bx H a W→Box W p.1 p.2.2.toArray p.2.1:=fun hn W0 β a W r=>by
 rcases hj with hj | hj
 ·rw [hj] at hn;cases hn
 ·exact (r.own jj p.1 p.2.1 p.2.2 hj).1
theorem fitsI {H0:Hp} (h:H0.Le H.ro):needB z L=true→∀ W0 β a W,Rel n W0 H.base β env bx H a W→Fits H0 W:=fun _ _ _ _ _ r=>r.fits.mono h
theorem EVI.one (k jj:Nat) (hj:needB z L=false∨H.ow[jj]?=some p) (hr:(Region.ready .any ops L == [k])=true) (ho:ops[k]?=some o) (h:EVL prog n ops [o] env bx H (fun e env bx H'=>e=.normal∧EVI z p prog n ops fuel (L.setIfInBounds k true) env bx H' K)):EVI z p prog n ops (fuel+1) L env bx H K:=EVG.one k (ownI hj) hr ho h
theorem EVI.two {o':Oper} (k k' jj:Nat) (hj:needB z L=false∨H.ow[jj]?=some p) (hr:(Region.ready .any ops L == [k,k'])=true) (ho:ops[k]?=some o) (ho':ops[k']?=some o') (h:EVL prog n ops [o] env bx H (fun e env bx H'=>e=.normal∧EVI z p prog n ops fuel (L.setIfInBounds k true) env bx H' K))
  (h':EVL prog n ops [o'] env bx H (fun e env bx H'=>e=.normal∧EVI z p prog n ops fuel (L.setIfInBounds k' true) env bx H' K)):EVI z p prog n ops (fuel+1) L env bx H K:=EVG.two k k' (ownI hj) hr ho ho' h h'
theorem EVI.nil (jj:Nat) (hj:needB z L=false∨H.ow[jj]?=some p) (hr:(Region.ready .any ops L).isEmpty=true) (h:K env bx H):EVI z p prog n ops fuel L env bx H K:=EVG.nil (ownI hj) hr h
end
def DiceO (dv:Value) (D:Ows) (s:Int):Prop:=(dv=.pointer none∧D=[])∨∃ bd T,dv=.pointer (some ⟨bd,0,none⟩)∧D=[(bd,T,[.int .u64 s])]∧0≤s
theorem row_fits {A c B:List Value} {k s f m q:Nat} (hA:A.length=k*s) (hq:q=k*s+f) (hf:f+m≤c.length):q+m≤(A++(c++B)).length:=by
 rw [List.length_append,List.length_append,hA,hq];omega
section
variable {P:Program} {n:Nat} {ops:Array Oper} {o1 o2:Oper} {rest:List Oper} {env:Env} {bx:Bxs} {H:Hs} {Q:EQ} {d d1:Nat}
theorem EVL.convCall {src dst e:TypeId} {u:TypeDesc} {x:Operand} (ho1:o1.op=.convert src dst x) (hg1:o1.guard=none) (hd1:o1.dst=some d1) (hn1:Nat.blt d1 n=true) (hs:P.underlying src=some u) (hdt:P.underlying dst=some (.slice e)) (he:P.underlying e=some (.int .u8)) {s:ByteArray} (hx:env.op x=some (.v (.string s)))
  {f:FuncId} {tys:Array TypeId} (ho2:o2.op=.call ⟨.value (.func f),#[.tmp d1],tys⟩) (hg2:o2.guard=none) (hd2:o2.dst=some d) (hn2:Nat.blt d n=true) {v:Value}
  (hpc:∀ (G:Hp) (g cap:Nat) (c:Array Value),s.size≤cap→G g=some c→(∀ (j:Nat) (b:UInt8),s.data[j]?=some b→c[j]?=some (Value.int .u8 (b.toNat:Int)))→PC P f #[.slice (some ⟨g,0,none⟩) s.size cap] G fun r _=>r=v)
  (h:∀ g cap,EVL P n ops rest ((d,.v v)::(d1,.v (.slice (some ⟨g,0,none⟩) s.size cap))::env) bx H Q):EVL P n ops (o1::o2::rest) env bx H Q:=fun W0 β a W r=>by
 have ex:a.eval x=.string s:=r.op hx
 refine wpList_plain hg1 fun K hK=>?_
 have hrun:(execOp a.eval o1).run P W=.ok (.value (.slice (some ⟨W.heap.size,0,none⟩) s.size (grownCap W s.size 0 e))) (Lib.bytesWorld W e s):=by
  unfold execOp
  simp only [ho1,ex,Sem.run_bind,Lib.run_convert_string_bytes W src dst e s hs hdt he,Result.andThen_ok,Sem.run_pure]
 unfold Oper.wp
 rw [hrun,Oper.upon_value]
 apply hK
 rw [hd1]
 have hB1:Below W.heap.size W (Lib.bytesWorld W e s):=⟨rfl,rfl,rfl,by rw [Lib.bytesWorld_size];omega,fun k hk=>Lib.bytesWorld_at_old W e s k hk⟩
 have hnw:=Lib.bytesWorld_at_new W e s
 have hcell:∀ (j:Nat) (b:UInt8),s.data[j]?=some b→(Lib.bytesCells W e s)[j]?=some (Value.int .u8 (b.toNat:Int)):=fun j b hj=>by
  have hjl:=(Array.getElem?_eq_some_iff.1 hj).1
  unfold Lib.bytesCells
  rw [Array.getElem?_append_left (by simpa using hjl),Array.getElem?_map,hj];rfl
 generalize Lib.bytesWorld W e s=W1 at *
 generalize Lib.bytesCells W e s=cs at *
 have hcap:=grownCap_ge W s.size 0 e
 generalize grownCap W s.size 0 e=cap at *
 have hgn:H.ro W.heap.size=none:=by
  cases hc:H.ro W.heap.size with
  | none=>rfl
  | some c=>have:=r.fits.lt (b:=W.heap.size) (by rw [hc];simp);omega
 have r1:=r.grow (Hp.Le.refl H.ro) (r.fits.below hB1) hB1 (Nw.refl _ _ _)
 have r2:Rel n W0 H.base β ((d1,.v (.slice (some ⟨W.heap.size,0,none⟩) s.size cap))::env) bx ⟨H.ro,H.ow,H.base⟩ (a.put (some d1) (.slice (some ⟨W.heap.size,0,none⟩) s.size cap)) W1:=r1.put hn1 rfl rfl
 have hfG:Fits (H.ro.put W.heap.size cs) W1:=fun b c hb=>by
  unfold Hp.put at hb
  split at hb
  ·rename_i e1
   subst e1
   cases hb
   exact ⟨_,_,hnw⟩
  ·exact r1.fits b c hb
 have hpc1:=hpc (H.ro.put W.heap.size cs) W.heap.size cap cs hcap (by simp [Hp.put]) hcell
 refine wpList_plain hg2 fun K2 hK2=>?_
 unfold Oper.wp
 have hev:(a.put (some d1) (.slice (some ⟨W.heap.size,0,none⟩) s.size cap)).eval (.tmp d1)=(.slice (some ⟨W.heap.size,0,none⟩) s.size cap):=by
  have h3:Env.op ((d1,.v (.slice (some ⟨W.heap.size,0,none⟩) s.size cap))::env) (.tmp d1)=some (.v (.slice (some ⟨W.heap.size,0,none⟩) s.size cap)):=by simp [Env.op,Env.get_cons]
  exact r2.op h3
 have hvs:List.map (a.put (some d1) (.slice (some ⟨W.heap.size,0,none⟩) s.size cap)).eval (#[Operand.tmp d1]:Array Operand).toList=[(.slice (some ⟨W.heap.size,0,none⟩) s.size cap)]:=by simp [hev]
 rw [run_call_enter hpc1.can ho2 hvs,Oper.upon_enter]
 refine (hpc1.run W1 hfG r1.globW).mono ?_
 rintro e2 W2 ⟨v',H',rfl,rfl,hle,hf,hb,_⟩
 apply hK2
 rw [hd2]
 have hf2:Fits H.ro W2:=(hf.mono hle).mono fun k c hk=>by
  have:k≠W.heap.size:=fun e3=>by subst e3;rw [hgn] at hk;cases hk
  simp only [Hp.put,if_neg this];exact hk
 exact h W.heap.size cap W0 β _ W2 ((r2.grow (Hp.Le.refl H.ro) hf2 hb (Nw.refl _ _ _)).put hn2 rfl rfl)
theorem EVL.xorI {o:Oper} {T T':TypeId} {x y:Operand} {k:IntKind} {a b:Int} (ho:o.op=.binOp .xor T x y T') (hw:wantB ops env o=some true) (hd:o.dst=some d) (hn:Nat.blt d n=true) (hx:env.op x=some (.v (.int k a))) (hy:env.op y=some (.v (.int k b)))
  (h:EVL P n ops rest ((d,.v (.int k (bits .xor k a b)))::env) bx H Q):EVL P n ops (o::rest) env bx H Q :=
 EVL.gen hw hd hn (fun ev W he=>by
  have h1:=he x _ (by simp [ho,Op.operands]) hx
  have h2:=he y _ (by simp [ho,Op.operands]) hy
  unfold execOp
  simp [ho,h1,h2,eqGuard,binOp,Op.intBits,bits]) h
end
end Go.Proofs.YtplhljjljnkhpaaGreatDoor
namespace Go.Proofs.YtplhljjljnkhpaaGreatDoor
section
variable {α:Type}
variable {lt:α→α→Bool}
end
end Go.Proofs.YtplhljjljnkhpaaGreatDoor
namespace Go.Proofs.YtplhljjljnkhpaaGreatDoor
open Go.RowKit _root_.Go.Proofs.Tryz
section
variable {α:Type} {enc:α→Value} {w w':World} {B:Nat} {T:TypeId} {cap:Nat} {l:List α}
end
def mark (n:Nat) (m:List Bool) (x:Int):List Bool:=if 0≤x∧x<n then m.set x.toNat true else m
def marks (n:Nat) (l:List Int):List Bool:=l.foldl (mark n) (List.replicate n false)
theorem marks_snoc (n:Nat) (l:List Int) (x:Int):marks n (l++[x])=mark n (marks n l) x:=by simp [marks]
theorem marks_length (n:Nat) (l:List Int):(marks n l).length=n:=by
 unfold marks
 suffices H:∀ m:List Bool,(l.foldl (mark n) m).length=m.length by rw [H];simp
 induction l with
 | nil=>intro m;rfl
 | cons x l ih =>
  intro m
  rw [List.foldl_cons,ih]
  unfold mark;split <;> simp
theorem marks_get (n:Nat) (l:List Int) (x:Nat) (hx:x<n):(marks n l)[x]?=some (decide ((x:Int)∈l)):=by
 induction l using rev_ind with
 | nil=>simp [marks,hx]
 | snoc l y ih =>
  rw [marks_snoc]
  unfold mark
  split
  ·rename_i h
   rw [List.getElem?_set]
   have hl:=marks_length n l
   by_cases e:y.toNat=x
   ·rw [if_pos e,if_pos (by omega)]
    simp;right;omega
   ·rw [if_neg e,ih]
    congr 1
    simp
    intro hy;omega
  ·rename_i h
   rw [ih]
   congr 1
   simp
   intro hy
   omega
def restL (n:Nat) (l:List Int):List Int:=(upTo n).filter fun x=>decide (x ∉ l)
theorem restL_succ (n:Nat) (l:List Int):restL (n+1) l=restL n l++(if (n:Int)∈l then [] else [(n:Int)]):=by
 unfold restL
 rw [upTo_succ,List.filter_append]
 congr 1
 by_cases h:(n:Int)∈l <;> simp [h]
theorem restL_le (n:Nat) (l:List Int):(restL n l).length≤n:=by
 unfold restL
 have:=List.length_filter_le (fun x=>decide (x ∉ l)) (upTo n)
 rw [upTo_length] at this
 exact this
theorem Tryz.infoBool:(Tryz.prog.info? 4).map (fun i=>(i.zero,i.size,i.bytes))=some (some (.bool false),1,1):=by kernel_rfl
theorem make_bools (n:Nat) (w:World) (h:n≤1000000):(Instr.makeSlice 220 (.int .i64 n) (.int .i64 n)).run prog w=.ok (.slice (some ⟨w.heap.size,0,none⟩) n n) (w.alloc (.cells (cellsOf Value.bool (List.replicate n false)) 4)):=by
 obtain ⟨i0,hi,hz0,hz1,hz2⟩:=info_parts Tryz.infoBool
 have:=run_make (P:=prog) w 220 4 i0 (.bool false) Tryz.underlying220 hi hz0 .i64 .i64 n n oM oM (by rw [hz2];omega) oM
 rw [this,hz1]
 simp only [Int.toNat_natCast,Nat.mul_one,Value.cells]
 rw [madeCells_of Value.bool]
set_option maxRecDepth 100000 in
set_option maxHeartbeats 800000 in
theorem rest_any (n:Nat) (v:Value) (l:List Int) (w:World) (hS:Sl i64 w v l) (hn:1≤n) (hn2:n≤300) (hl:l.length≤1000000) :
  Calls prog 88 #[.int .i64 n,v] w fun e w'=>∃ v',e=.returned v'∧w'.ownsRow w.heap.size 3 1 v' (restL n l).length ((restL n l).map i64)∧Below w.heap.size w w':=by
 obtain ⟨i0,hi,hz0,hz1,hz2⟩:=info_parts Tryz.infoInt
 obtain ⟨a,cap,rfl⟩:=hS.len
 have hmk:=fun w=>make_bools n w oM
 go_enter func88,ntmps88
 go_wp2
 go_loopg [20] l.length (fun g i wr=>∃ j:Nat,j+g=l.length∧i=.int .i64 j∧Blk Value.bool wr w.heap.size (marks n (l.take j))∧Below w.heap.size w wr)
 case atStart=>exact ⟨0,by omega,rfl,Blk.new _ _ _ _,(Below.refl _ _).alloc (Nat.le_refl _) _⟩
 case round =>
  obtain ⟨j,hj,rfl,hB,hK⟩:=hrel
  by_cases hlt:j<l.length
  ·obtain ⟨b,off,rfl,hb,hc⟩:=hS.at j hlt
   have hts:l.take (j+1)=l.take j++[l[j]]:=List.take_succ_eq_append_getElem hlt
   have hms:=marks_snoc n (l.take j) l[j]
   rw [← hts] at hms
   have hcr:=(hK.cell (p:=⟨b,off+j,none⟩) hb).trans hc
   generalize l[j]=x at *
   have HM:=hid hms
   have HJ:=hid hj
   clear hms hts hj hc
   have hml:=marks_length n (l.take j)
   by_cases hx:0≤x∧x<n
   ·obtain ⟨hx1,hx2⟩:=hx
    obtain ⟨y,rfl⟩:=Int.eq_ofNat_of_zero_le hx1
    obtain ⟨v0,hcc⟩:=hB.has y oM
    have hf:=hB.free y
    have hy:y<n:=by omega
    have HL:=hid hml
    clear hml
    go_wp2
    go_roundg (gk-1)
    case measure=>have:=HJ.out;omega
    case rel =>
     refine ⟨j+1,by have:=HJ.out;omega,by go_num,?_,hK.setCell (p:=⟨w.heap.size,y,none⟩) (Nat.le_refl _) _⟩
     rw [HM.out]
     have:=hB.set y true
     unfold mark
     rw [if_pos ⟨hx1,hx2⟩]
     exact this
   ·have HX:=hid hx
    by_cases h1:0≤x
    ·have h2:(n:Int)≤x:=by omega
     clear hx hml
     go_wp2
     go_roundg (gk-1)
     case measure=>have:=HJ.out;omega
     case rel =>
      refine ⟨j+1,by have:=HJ.out;omega,by go_num,?_,hK⟩
      rw [HM.out]
      unfold mark
      rw [if_neg HX.out]
      exact hB
    ·clear hx hml
     go_wp2
     go_roundg (gk-1)
     case measure=>have:=HJ.out;omega
     case rel =>
      refine ⟨j+1,by have:=HJ.out;omega,by go_num,?_,hK⟩
      rw [HM.out]
      unfold mark
      rw [if_neg HX.out]
      exact hB
  ·obtain rfl:j=l.length:=by omega
   rw [List.take_length] at hB
   obtain ⟨wo,hwo⟩:∃ wo:World,wo=wr:=⟨_,rfl⟩
   rw [← hwo] at hB hK
   subst hwo
   go_wp2
   go_loopg [8,36] n (fun g v i wr=>∃ j:Nat,j+g=n∧i=.int .i64 j∧wr.ownsRow (w.heap.size+1) 3 1 v (restL j l).length ((restL j l).map i64)∧Blk Value.bool wr w.heap.size (marks n l)∧Below w.heap.size w wr)
   case atStart=>exact ⟨0,by omega,rfl,World.ownsRow_nil _ _ _ _,hB,hK⟩
   case round =>
    obtain ⟨j,hj,rfl,hown,hB,hK⟩:=hrel
    by_cases hlt:j<n
    ·have hrs:=restL_succ j l
     have hgt:=marks_get n l j hlt
     have hrl:=restL_le j l
     have hcell:wr.cell? ⟨w.heap.size,j,none⟩=some (.bool (decide ((j:Int)∈l))):=by
      rw [hB.cell j (by rw [marks_length];exact hlt)]
      have:=marks_length n l
      rw [List.getElem?_eq_getElem (by omega)] at hgt
      simp only [Option.some.injEq] at hgt
      rw [hgt]
     have HR:=hid hrs
     have HJ:=hid hj
     clear hrs hgt hj
     have hsz:w.heap.size+1≤wr.heap.size:=by have:=hB.lt;omega
     by_cases hm:(j:Int)∈l
     ·have hd:decide ((j:Int)∈l)=true:=by simpa using hm
      rw [hd] at hcell
      clear hd
      have HM:=hid hm
      clear hm
      go_wp2
      go_roundg (gk-1)
      case measure=>have:=HJ.out;omega
      case rel =>
       refine ⟨j+1,by have:=HJ.out;omega,by go_num,?_,hB,hK⟩
       rw [HR.out,if_pos HM.out,List.append_nil]
       exact hown
     ·have hd:decide ((j:Int)∈l)=false:=by simpa using hm
      rw [hd] at hcell
      clear hd
      have HM:=hid hm
      clear hm
      go_wp2_with (at_builtin;refine app1 rfl _ _ 23 rfl (w.heap.size+1) 3 (.int .i64 0) 8 Tryz.infoInt Tryz.underlying23 rfl _ _ _ rfl hown _ rfl rfl oM oM hsz ?_;intro g' cap' w1 hown1 hk1)
      have hne:∀ k,u8.ownBlock=some k→w.heap.size+1≤k:=fun k e=>(hown.lt k e).1
      go_roundg (gk-1)
      case measure=>have:=HJ.out;omega
      case rel =>
       refine ⟨j+1,by have:=HJ.out;omega,by go_num,?_,hB.kept hk1 (fun e=>by have:=hne _ e;omega),?_⟩
       ·rw [HR.out,if_neg HM.out]
        simpa using hown1
       ·exact hK.trans (hk1.below _ oM (fun k hk e=>by have:=hne _ e;omega))
    ·obtain rfl:j=n:=by omega
     go_wp2
     go_ret
     exact ⟨_,rfl,owns_lower hown oM,hK⟩
def sumN (l:List Nat):Int:=l.foldl (fun (h:Int) (b:Nat)=>IntKind.u64.wrap (bits .xor .u64 h (IntKind.u64.wrap (b:Int))*1099511628211)) 14695981039346656037
theorem sumN_snoc (l:List Nat) (b:Nat):sumN (l++[b])=IntKind.u64.wrap (bits .xor .u64 (sumN l) (IntKind.u64.wrap (b:Int))*1099511628211):=by unfold sumN;rw [List.foldl_append];rfl
def forkS (s:Int) (t:ByteArray):Int:=bits .xor .u64 (mix (nxt s)) (sumN (t.data.toList.map UInt8.toNat))
theorem PO.of_row {P:Program} {f:FuncId} {args:Array Value} {H:Hp} {n:Nat} {E:TypeId} {xs:List Value} (can:Callable P f) (h:∀ W,Fits H W→Calls P f args W fun e w'=>∃ v',e=.returned v'∧w'.ownsRow W.heap.size E 1 v' n xs∧Below W.heap.size W w'):PO P f args H fun v ow=>OwnL E 1 v n xs ow :=
 ⟨can,fun W hf _=>(h W hf).mono fun e W' ⟨v,he,hrow,hb⟩=>by
  obtain ⟨ow,h1,h2⟩:=ownL_of_row hrow
  exact ⟨v,ow,he,h1,h2,hb⟩⟩
theorem PC.of_po {P:Program} {f:FuncId} {args:Array Value} {H:Hp} {E:TypeId} {l:List Int} (h:PO P f args H fun v ow=>OwnL E 1 v l.length (l.map i64) ow):PC P f args H fun v H'=>IL H' v l :=
 ⟨h.can,fun W hf hg=>(h.run W hf hg).mono fun e W' ⟨v,ow,he,hown,⟨hlen,hnew⟩,hb⟩=>by
  rcases hown.2 with ⟨rfl,h0,rfl⟩ | ⟨g,cap,sp,rfl,rfl,h1,h2,h3⟩
  ·exact ⟨_,H,he,⟨by simp,.inl ⟨h0,none,0,rfl⟩⟩,Hp.Le.refl _,hf.below hb,hb,Nw.refl _ _ _⟩
  ·obtain ⟨hg1,hB⟩:=hnew g E _ (List.mem_singleton.2 rfl)
   have hn:H g=none:=by
    cases hc:H g with
    | none=>rfl
    | some c=>have:=hf.lt (b:=g) (by rw [hc];simp);omega
   refine ⟨_,H.put g (l.map i64++sp).toArray,he,⟨by simp,.inr ⟨g,0,cap,(l.map i64++sp).toArray,rfl,h2,by simp [Hp.put],fun j x hj=>?_⟩⟩,fun k c hc=>?_,fun k c hc=>?_,hb,fun k c hc=>?_⟩
   ·rw [Nat.zero_add]
    have hj':=(List.getElem?_eq_some_iff.1 hj).1
    simp only [List.getElem?_toArray]
    rw [List.getElem?_append_left hj']
    exact hj
   ·have:k≠g:=fun e=>by subst e;rw [hn] at hc;cases hc
    simp only [Hp.put,if_neg this];exact hc
   ·by_cases e:k=g
    ·subst e;simp only [Hp.put,if_true] at hc;cases hc;exact ⟨E,(0,0),hB⟩
    ·simp only [Hp.put,if_neg e] at hc;exact hf.below hb k c hc
   ·by_cases e:k=g
    ·subst e;simp only [Hp.put,if_true] at hc;cases hc;exact .inr ⟨hg1,E,hB⟩
    ·simp only [Hp.put,if_neg e] at hc;exact .inl hc⟩
abbrev ruleV (deep least:Int) (g1 g2 g3:Value):Value:=.agg #[.int .i64 deep,.int .i64 least,g1,g2,g3]
end Go.Proofs.YtplhljjljnkhpaaGreatDoor
namespace Go.Proofs.YtplhljjljnkhpaaGreatDoor
structure Tr where
 kd:Int
 cl:Int
 w:Int
 ns:List Nd
end Go.Proofs.YtplhljjljnkhpaaGreatDoor
namespace Go.Proofs.YtplhljjljnkhpaaGreatDoor
open Go.RowKit _root_.Go.Proofs.Tryz
def ILs (H:Hp) (vs:List Value) (ls:List (List Int)):Prop:=vs.length=ls.length∧∀ (j:Nat) (v:Value) (l:List Int),vs[j]?=some v→ls[j]?=some l→IL H v l
theorem ILs.mono {H G:Hp} {vs:List Value} {ls:List (List Int)} (h:ILs H vs ls) (k:H.Le G):ILs G vs ls:=⟨h.1,fun j v l e1 e2=>(h.2 j v l e1 e2).mono k⟩
theorem rel_snoc {α β:Type} {R:α→β→Prop} {xs:List α} {ys:List β} (h:xs.length=ys.length∧∀ (j:Nat) (x:α) (y:β),xs[j]?=some x→ys[j]?=some y→R x y) {x:α} {y:β} (k:R x y):(xs++[x]).length=(ys++[y]).length∧∀ (j:Nat) (x':α) (y':β),(xs++[x])[j]?=some x'→(ys++[y])[j]?=some y'→R x' y':=by
 refine ⟨by simp [h.1],fun j x' y' e1 e2=>?_⟩
 by_cases hj:j<xs.length
 ·rw [List.getElem?_append_left hj] at e1
  rw [List.getElem?_append_left (by rw [← h.1];exact hj)] at e2
  exact h.2 j x' y' e1 e2
 ·rw [List.getElem?_append_right (by omega)] at e1
  rw [List.getElem?_append_right (by rw [← h.1];omega),← h.1] at e2
  have h0:j-xs.length=0:=by
   have:=(List.getElem?_eq_some_iff.1 e1).1
   simp at this;omega
  rw [h0] at e1 e2
  cases e1;cases e2
  exact k
def ILL (H:Hp) (v:Value) (ls:List (List Int)):Prop:=∃ vs,ILs H vs ls∧SlC H v ls.length 1 vs
theorem ILL.mono {H G:Hp} {v:Value} {ls:List (List Int)} (h:ILL H v ls) (k:H.Le G):ILL G v ls:=by
 obtain ⟨vs,h1,h2⟩:=h
 exact ⟨vs,h1.mono k,h2.mono k⟩
def treeB:ByteArray:=⟨#[116,114,101,101]⟩
def bagS (n:Nat) (s:Int):List Int × Int:=(sortI (drawL n n (forkS s treeB)).1,(drawL n n (forkS s treeB)).2)
def GP.wood (p:GP) (D n:Nat) (kd cl w:Int):Nat→Int→List Tr × List (List Int) × Int
 | 0,s=>([],[],s)
 | k+1,s=>let r:=p.wood D n kd cl w k s
  (r.1++[⟨kd,cl,w,(p.grow D 0 (bagS n r.2.2).1 (bagS n r.2.2).2).1⟩],r.2.1++[restL n (bagS n r.2.2).1],nxt r.2.2)
theorem GP.wood_succ (p:GP) (D n:Nat) (kd cl w:Int) (k:Nat) (s:Int):p.wood D n kd cl w (k+1) s=((p.wood D n kd cl w k s).1++[⟨kd,cl,w,(p.grow D 0 (bagS n (p.wood D n kd cl w k s).2.2).1 (bagS n (p.wood D n kd cl w k s).2.2).2).1⟩],(p.wood D n kd cl w k s).2.1++[restL n (bagS n (p.wood D n kd cl w k s).2.2).1],nxt (p.wood D n kd cl w k s).2.2):=rfl
theorem GP.wood_len (p:GP) (D n:Nat) (kd cl w:Int):∀ (k:Nat) (s:Int),(p.wood D n kd cl w k s).1.length=k∧(p.wood D n kd cl w k s).2.1.length=k∧(0≤s→0≤(p.wood D n kd cl w k s).2.2)
 | 0,s=>⟨rfl,rfl,fun h=>h⟩
 | k+1,s=>by
  obtain ⟨h1,h2,_⟩:=p.wood_len D n kd cl w k s
  rw [GP.wood_succ]
  exact ⟨by simp [h1],by simp [h2],fun _=>(nxt_range _).1⟩
abbrev woodV (n sm:Nat) (seed:Int) (deep least:Int) (g1 g2 g3:Value):Value:=.agg #[.int .i64 (n:Int),.int .i64 (sm:Int),.int .u64 seed,.int .i64 deep,.int .i64 least,g1,g2,g3]
abbrev forestV (kd cl w:Int) (vt vo:Value):Value:=.agg #[.int .i64 kd,.int .i64 cl,.int .i64 w,vt,vo]
end Go.Proofs.YtplhljjljnkhpaaGreatDoor
namespace Go.Proofs.YtplhljjljnkhpaaGreatDoor
inductive Sub (T:List Nd) (w:Int):Nat→Nat→Nat→Prop
 | leaf {k h:Nat} {n:Nd}:T[k]?=some n→n.col = -1→n.left=0→n.right=0→n.at'=0→Sub T w k h (k+1)
 | node {k h m e:Nat} {n:Nd}:T[k]?=some n→0≤n.col→n.col<w→n.left=((k+1:Nat):Int)→n.right=(m:Int)→Sub T w (k+1) h m→Sub T w m h e→Sub T w k (h+1) e
theorem Sub.lt {T:List Nd} {w:Int} {k h e:Nat} (h0:Sub T w k h e):k<e∧e≤T.length:=by
 induction h0 with
 | leaf hn _ _ _ _ =>
  have:=(List.getElem?_eq_some_iff.1 hn).1
  omega
 | node _ _ _ _ _ _ _ ih1 ih2=>omega
structure OkN (kd cl:Int) (n:Nd):Prop where
 rows:1≤n.rows∧n.rows≤1048576
 cost:0≤n.cost
 len:(n.counts.length:Int)=cl
 pos:∀ c,c∈n.counts→0≤c
 sum:kd=1→n.counts.sum=n.rows
 cls:n.cls=(topN n.counts n.counts.length:Int)
 value:kd=1→n.value=0
 small:ht n.at'≤100∧ht n.cost≤2000000∧ht n.value≤4000
structure OkC (n a b:Nd):Prop where
 rows:n.rows=a.rows+b.rows
 counts:∀ k:Nat,n.counts.getD k 0=a.counts.getD k 0+b.counts.getD k 0
 cost:a.cost+b.cost≤n.cost
def NodeOk (kd cl:Int) (T:List Nd) (i:Nat):Prop:=∃ n,T[i]?=some n∧OkN kd cl n∧(n.col ≠ -1→0≤n.col∧0≤n.left∧0≤n.right∧∃ a b,T[n.left.toNat]?=some a∧T[n.right.toNat]?=some b∧OkC n a b)
structure GPok (p:GP) (kd cl:Int) (w:Nat):Prop where
 kind:(kd=1∧1≤cl∧cl≤12)∨(kd=2∧cl=0)
 rowsX:p.X.length≤300
 wide:∀ x,x∈p.X→x.length=w
 small:∀ x,x∈p.X→∀ q,q∈x→ht q≤5
 clen:∀ l,((p.cnt l).length:Int)=cl
 cadd:∀ r l m:List Int,r.Perm (l++m)→∀ k:Nat,(p.cnt r).getD k 0=(p.cnt l).getD k 0+(p.cnt m).getD k 0
 cpos:∀ l c,c∈p.cnt l→0≤c
 csum:kd=1→∀ l,(∀ r,r∈l→0≤r∧r<(p.X.length:Int))→(p.cnt l).sum=(l.length:Int)
 zero:kd=1→∀ l,p.mean l=0
 cost0:∀ l,0≤p.cost l
 csm:∀ l:List Int,l.length≤300→(∀ r,r∈l→0≤r∧r<(p.X.length:Int))→ht (p.cost l)≤2000000
 msm:∀ l:List Int,l.length≤300→(∀ r,r∈l→0≤r∧r<(p.X.length:Int))→ht (p.mean l)≤4000
 gain:0≤p.gain
 cols:∀ s c,c∈(p.cols s).1→0≤c∧c<(w:Int)
theorem filter_perm (l:List Int) (f:Int→Bool):l.Perm (l.filter f++l.filter fun x => !f x):=by
 induction l with
 | nil=>exact List.Perm.nil
 | cons x l ih =>
  cases h:f x with
  | true=>rw [List.filter_cons_of_pos h,List.filter_cons_of_neg (by simp [h])];exact List.Perm.cons x ih
  | false=>rw [List.filter_cons_of_neg (by simp [h]),List.filter_cons_of_pos (by simp [h])];exact (List.Perm.cons x ih).trans List.perm_middle.symm
theorem cut_ok {p:GP} {kd cl:Int} {w:Nat} (hp:GPok p kd cl w) {rows:List Int} {s c:Int} {t:Rat} (hb:∀ r,r∈rows→0≤r∧r<(p.X.length:Int)) (h:p.cut rows (p.cols s).1=some (c,t)) :
  (0≤c∧c<(w:Int))∧ht t≤100∧1≤(lowL p.X c t rows).length∧1≤(highL p.X c t rows).length∧rows.Perm (lowL p.X c t rows++highL p.X c t rows)∧p.cost (lowL p.X c t rows)+p.cost (highL p.X c t rows)≤p.cost rows:=by
 unfold GP.cut at h
 cases hbe:p.best rows (p.cols s).1 with
 | none=>rw [hbe] at h;cases h
 | some q =>
  obtain ⟨c',t',g⟩:=q
  rw [hbe] at h
  dsimp only at h
  split at h
  ·cases h
  ·rename_i hg
   cases h
   have hf:=first_fold (allCuts p.X p.cost rows (max 1 p.least) (p.cols s).1)
   rw [show (allCuts p.X p.cost rows (max 1 p.least) (p.cols s).1).foldl refS none=some (c,t,g) from hbe] at hf
   have hm:=hf.1
   unfold allCuts cutsOf at hm
   obtain ⟨c2,hc2,hm⟩:=List.mem_flatMap.1 hm
   obtain ⟨t2,ht2,hm⟩:=List.mem_flatMap.1 hm
   split at hm
   ·rename_i hL
    cases List.mem_singleton.1 hm
    have hcw:=hp.cols s c hc2
    have hall:∀ r,r∈rows→hasC p.X c r=true:=fun r hr=>by
     obtain ⟨R,rfl⟩:=Int.eq_ofNat_of_zero_le (hb r hr).1
     have hR:=(hb _ hr).2
     unfold hasC
     obtain ⟨x,hx⟩:∃ x,p.X[R]?=some x:=⟨_,List.getElem?_eq_getElem oM⟩
     rw [Int.toNat_natCast,List.getD_eq_getElem?_getD,hx,Option.getD_some,hp.wide x (List.mem_of_getElem? hx)]
     simp;omega
    have hlo:lowL p.X c t rows=rows.filter fun r=>decide (colK p.X c r≤t):=by
     unfold lowL
     exact List.filter_congr fun r hr=>by rw [hall r hr,Bool.true_and]
    have hhi:highL p.X c t rows=rows.filter fun r => !decide (colK p.X c r≤t):=by
     unfold highL
     exact List.filter_congr fun r hr=>by rw [hall r hr,Bool.true_and]
    have hpm:rows.Perm (lowL p.X c t rows++highL p.X c t rows):=by rw [hlo,hhi];exact filter_perm _ _
    have h0:=hp.gain
    refine ⟨hcw,plQ_ht hp.small ht2,by omega,by omega,hpm,?_⟩
    have:p.gain<p.cost rows-(p.cost (lowL p.X c t rows)+p.cost (highL p.X c t rows)):=Rat.not_le.1 hg
    grind
   ·cases hm
theorem nd_ok {p:GP} {kd cl:Int} {w:Nat} (hp:GPok p kd cl w) {rows:List Int} (h1:1≤rows.length) (h2:rows.length≤300) (hb:∀ r,r∈rows→0≤r∧r<(p.X.length:Int)) {c l r:Int} {t:Rat} (ht':ht t≤100):OkN kd cl { p.nd rows with col:=c,left:=l,right:=r,at':=t } :=
 ⟨⟨by show 1≤(rows.length:Int);omega,by show (rows.length:Int)≤1048576;omega⟩,hp.cost0 rows,hp.clen rows,hp.cpos rows,fun e=>hp.csum e rows hb,rfl,fun e=>hp.zero e rows,ht',hp.csm rows h2 hb,hp.msm rows h2 hb⟩
theorem grow_ok {p:GP} {kd cl:Int} {w:Nat} (hp:GPok p kd cl w):∀ (d k:Nat) (rows:List Int) (s:Int),1≤rows.length→rows.length≤300→(∀ r,r∈rows→0≤r∧r<(p.X.length:Int))→∀ T:List Nd,(∀ (j:Nat) (n:Nd),(p.grow d k rows s).1[j]?=some n→T[k+j]?=some n) →
  Sub T w k d (k+(p.grow d k rows s).1.length)∧(∃ n,T[k]?=some n∧n.rows=(rows.length:Int)∧n.counts=p.cnt rows∧n.cost=p.cost rows)∧∀ j,j<(p.grow d k rows s).1.length→NodeOk kd cl T (k+j):=by
 have single:∀ (d k:Nat) (rows:List Int),1≤rows.length→rows.length≤300→(∀ r,r∈rows→0≤r∧r<(p.X.length:Int))→∀ T:List Nd,(∀ (j:Nat) (n:Nd),[p.nd rows][j]?=some n→T[k+j]?=some n) →
   Sub T w k d (k+1)∧(∃ n,T[k]?=some n∧n.rows=(rows.length:Int)∧n.counts=p.cnt rows∧n.cost=p.cost rows)∧∀ j,j<1→NodeOk kd cl T (k+j):=by
  intro d k rows h1 h2 hb T hT
  have h0:=hT 0 _ rfl
  rw [Nat.add_zero] at h0
  refine ⟨.leaf h0 rfl rfl rfl rfl,⟨_,h0,rfl,rfl,rfl⟩,fun j hj=>?_⟩
  obtain rfl:j=0:=by omega
  refine ⟨_,by rw [Nat.add_zero];exact h0,nd_ok hp h1 h2 hb (c:=-1) (l:=0) (r:=0) (t:=0) (by rw [ht_zero];decide),fun e=>absurd rfl e⟩
 intro d
 induction d with
 | zero =>
  intro k rows s h1 h2 hb T hT
  rw [GP.grow_zero] at hT ⊢
  exact single 0 k rows h1 h2 hb T hT
 | succ d ih =>
  intro k rows s h1 h2 hb T hT
  cases hc:p.cut rows (p.cols s).1 with
  | none =>
   rw [GP.grow_none hc] at hT ⊢
   exact single (d+1) k rows h1 h2 hb T hT
  | some ct =>
   obtain ⟨c,t⟩:=ct
   obtain ⟨hcw,htb,hl1,hr1,hpm,hcost⟩:=cut_ok hp hb hc
   have hll:(lowL p.X c t rows).length≤300:=Nat.le_trans (List.length_filter_le _ _) h2
   have hhl:(highL p.X c t rows).length≤300:=Nat.le_trans (List.length_filter_le _ _) h2
   have hlm:∀ r,r∈lowL p.X c t rows→0≤r∧r<(p.X.length:Int):=fun r hr=>hb r (List.mem_filter.mp hr).1
   have hhm:∀ r,r∈highL p.X c t rows→0≤r∧r<(p.X.length:Int):=fun r hr=>hb r (List.mem_filter.mp hr).1
   rw [GP.grow_some hc] at hT ⊢
   have hLl:=p.grow_len d (k+1) (lowL p.X c t rows) (p.cols s).2
   have ihL:=ih (k+1) (lowL p.X c t rows) (p.cols s).2 hl1 hll hlm T
   generalize p.grow d (k+1) (lowL p.X c t rows) (p.cols s).2=L at *
   obtain ⟨Ls,s2⟩:=L
   have hRl:=p.grow_len d (k+1+Ls.length) (highL p.X c t rows) s2
   have ihR:=ih (k+1+Ls.length) (highL p.X c t rows) s2 hr1 hhl hhm T
   dsimp only at hT hLl ihL ⊢
   generalize p.grow d (k+1+Ls.length) (highL p.X c t rows) s2=R at *
   obtain ⟨Rs,s3⟩:=R
   dsimp only at hT hRl ihR ⊢
   have h0:=hT 0 _ rfl
   rw [Nat.add_zero] at h0
   obtain ⟨sL,⟨a,ha,ha1,ha2,ha3⟩,nL⟩:=ihL (fun j n hj=>by
    have:=hT (j+1) n (by rw [List.getElem?_cons_succ,List.getElem?_append_left (List.getElem?_eq_some_iff.1 hj).1];exact hj)
    rw [show k+1+j=k+(j+1) by omega];exact this)
   obtain ⟨sR,⟨b,hb',hb1,hb2,hb3⟩,nR⟩:=ihR (fun j n hj=>by
    have:=hT (j+Ls.length+1) n (by rw [List.getElem?_cons_succ,List.getElem?_append_right oM,Nat.add_sub_cancel];exact hj)
    rw [show k+1+Ls.length+j=k+(j+Ls.length+1) by omega];exact this)
   have hlen:rows.length=(lowL p.X c t rows).length+(highL p.X c t rows).length:=by rw [hpm.length_eq,List.length_append]
   have hroot:NodeOk kd cl T k:=by
    refine ⟨_,h0,nd_ok hp h1 h2 hb htb,fun _=>⟨hcw.1,Int.natCast_nonneg _,Int.natCast_nonneg _,a,b,by rw [Int.toNat_natCast];exact ha,by rw [Int.toNat_natCast];exact hb',⟨?_,fun q=>?_,?_⟩⟩⟩
    ·rw [ha1,hb1];show (rows.length:Int)=_;omega
    ·rw [ha2,hb2];exact hp.cadd _ _ _ hpm q
    ·rw [ha3,hb3];exact hcost
   refine ⟨?_,⟨_,h0,rfl,rfl,rfl⟩,fun j hj=>?_⟩
   ·rw [List.length_cons,List.length_append,show k+(Ls.length+Rs.length+1)=k+1+Ls.length+Rs.length by omega]
    exact .node h0 hcw.1 hcw.2 rfl rfl sL sR
   ·rw [List.length_cons,List.length_append] at hj
    cases j with
    | zero=>exact hroot
    | succ j =>
     by_cases h:j<Ls.length
     ·rw [show k+(j+1)=k+1+j by omega];exact nL j h
     ·rw [show k+(j+1)=k+1+Ls.length+(j-Ls.length) by omega];exact nR _ oM
structure TreeOk (t:Tr):Prop where
 kind:(t.kd=1∧1≤t.cl∧t.cl≤12)∨(t.kd=2∧t.cl=0)
 wide:1≤t.w∧t.w≤20
 len:t.ns.length≤2000
 sub:∃ h,h≤10∧Sub t.ns t.w 0 h t.ns.length
 nodes:∀ i,i<t.ns.length→NodeOk t.kd t.cl t.ns i
theorem grow_tree {p:GP} {kd cl:Int} {w D:Nat} (hp:GPok p kd cl w) (hw:1≤w∧w≤20) (hD:D≤9) {rows:List Int} (h1:1≤rows.length) (h2:rows.length≤300) (hb:∀ r,r∈rows→0≤r∧r<(p.X.length:Int)) (s:Int):TreeOk ⟨kd,cl,w,(p.grow D 0 rows s).1⟩:=by
 obtain ⟨h3,_,h4⟩:=grow_ok hp D 0 rows s h1 h2 hb (p.grow D 0 rows s).1 (fun j n hj=>by rw [Nat.zero_add];exact hj)
 have hl:=(p.grow_len D 0 rows s).2
 have hpow:2 ^ (D+1)≤2 ^ 10:=Nat.pow_le_pow_right oM oM
 rw [Nat.zero_add] at h3
 exact ⟨hp.kind,⟨by show (1:Int)≤w;omega,by show (w:Int)≤20;omega⟩,by show (p.grow D 0 rows s).1.length≤2000;omega,⟨D,by omega,h3⟩,fun i hi=>by have:=h4 i hi;rwa [Nat.zero_add] at this⟩
end Go.Proofs.YtplhljjljnkhpaaGreatDoor
namespace Go.Proofs.YtplhljjljnkhpaaGreatDoor
open Go.RowKit _root_.Go.Proofs.Tryz
abbrev treeV (kd cl w:Int) (vn:Value):Value:=.agg #[.int .i64 kd,.int .i64 cl,.int .i64 w,vn]
theorem sum_take_le {l:List Int} (h:∀ c,c∈l→0≤c) (k:Nat):0≤(l.take k).sum∧(l.take k).sum≤l.sum:=by
 have h0:∀ m:List Int,(∀ c,c∈m→0≤c)→0≤m.sum:=fun m=>by
  induction m with
  | nil=>exact fun _=>Int.le_refl 0
  | cons c m ih=>intro hm;rw [List.sum_cons];have:=hm c (List.mem_cons_self ..);have:=ih fun c hc=>hm c (List.mem_cons_of_mem _ hc);omega
 have e:l.sum=(l.take k).sum+(l.drop k).sum:=by rw [← List.sum_append,List.take_append_drop]
 have h1:=h0 (l.take k) fun c hc=>h c (List.mem_of_mem_take hc)
 have h2:=h0 (l.drop k) fun c hc=>h c (List.mem_of_mem_drop hc)
 omega
theorem sign_no {q:Rat} (h:0≤q):¬ q.num.sign<0:=by
 have:=Rat.num_nonneg.2 h
 intro k
 have:=Int.sign_nonneg_iff.2 this
 omega
theorem Sub.end0 {T:List Nd} {w:Int} {h e:Nat} (h0:Sub T w 0 h e):0<T.length:=by
 have:=h0.lt
 omega
def fitT (kd cl w:Int) (t:Tr):Bool:=t.kd == kd && (t.cl == cl && t.w == w)
def okAt (l:List Int) (k:Nat):Bool:=decide (0≤l.getD k 0) && (decide (l.getD k 0<300) && (k == 0 || decide (l.getD (k-1) 0<l.getD k 0)))
def okL (l:List Int):Bool:=(List.range l.length).all (okAt l)
def checkF (kd cl w:Int) (ts:List Tr) (os:List (List Int)):Int :=
 if ts.length<1∨50<ts.length∨os.length≠ts.length then 5 else if ts.all (fitT kd cl w)=true then (if os.all okL=true then 0 else 1) else 10
theorem all_not {α:Type} {f:α→Bool} {l:List α} {i:Nat} {x:α} (h:l[i]?=some x) (hx:f x=false):l.all f=false:=by
 cases e:l.all f with
 | false=>rfl
 | true =>
  have:=List.all_eq_true.1 e x (List.mem_of_getElem? h)
  rw [hx] at this;cases this
theorem all_take {α:Type} {f:α→Bool} {l:List α} {i:Nat} {x:α} (h:l[i]?=some x) (hx:f x=true) (ht:(l.take i).all f=true):(l.take (i+1)).all f=true:=by
 rw [take_snoc h,List.all_append,ht];simp [hx]
theorem okL_not {l:List Int} {k:Nat} (hk:k<l.length) (h:okAt l k=false):okL l=false:=by
 cases e:okL l with
 | false=>rfl
 | true =>
  have:=List.all_eq_true.1 e k (List.mem_range.2 hk)
  rw [h] at this;cases this
theorem ILs.get {H:Hp} {vs:List Value} {ls:List (List Int)} (h:ILs H vs ls) {j:Nat} {l:List Int} (hj:ls[j]?=some l):∃ a c,vs[j]?=some (.slice a l.length c)∧IL H (.slice a l.length c) l:=by
 have hlt:=(List.getElem?_eq_some_iff.1 hj).1
 obtain ⟨v,hv⟩:∃ v,vs[j]?=some v:=⟨_,List.getElem?_eq_getElem (by rw [h.1];exact hlt)⟩
 have hil:=h.2 j v l hv hj
 obtain ⟨a,c,rfl⟩:=SlC.val hil
 exact ⟨a,c,hv,hil⟩
set_option maxHeartbeats 4000000 in
theorem rules0_pc {H:Hp} (d0 l0:Int) (hd:-9223372036854775808≤d0∧d0<9223372036854775808) (hl:-9223372036854775808≤l0∧l0<9223372036854775808) :
  PC prog 32 #[.int .i64 d0,.int .i64 l0,.int .i64 0] H fun r H'=>∃ b1 a1 l1 c1 a2 l2 c2,r=ruleV (d0 % 5) (1+l0 % 3) (.bool b1) (.slice a1 l1 c1) (.slice a2 l2 c2)∧RQ H' (.agg #[.bool b1,.slice a1 l1 c1,.slice a2 l2 c2]) 0:=by
 have hp1:=pick_pv d0 5 hd oM oM
 have hp2:=pick_pv l0 3 hl oM oM
 refine BD func32 ntmps32 ?_
 repeat (first | refine RUN ?_ | refine CV (hp1) ?_ | refine CV (hp2) ?_ | refine CE (hp1) ?_ | refine CE (hp2) ?_)
 rw [show IntKind.i64.wrap (1+l0 % 3)=1+l0 % 3 by rw [IntKind.wrap_i64];omega]
 try refine RUN ?_
 refine EVL.call rfl rfl rfl rfl rfl (refOf_pc 0 oM oM) ?_
 intro r1 G1 hr1 hG1
 obtain ⟨a1,l1,c1,a2,l2,c2,rfl,_⟩:=id hr1
 try refine RUN ?_
 exact ⟨_,_,_,_,_,_,_,rfl,hr1⟩
abbrev rawV (kd n w dp ls tr sm seed:Int) (vg vl:Value):Value:=.agg #[.int .i64 kd,.int .i64 n,.int .i64 w,.int .i64 dp,.int .i64 ls,.int .i64 tr,.int .i64 sm,.int .u64 seed,vg,vl]
def i64B (z:Int):Prop:=-9223372036854775808≤z∧z<9223372036854775808
set_option maxRecDepth 100000 in
set_option maxHeartbeats 16000000 in
theorem one20_pc {H:Hp} {vg vl:Value} {lg ll:List Int} (kd n w dp ls tr sm seed:Int) (hn:i64B n) (hw:i64B w) (hdp:i64B dp) (hls:i64B ls) (htr:i64B tr) (hsm:i64B sm) (hg:IL H vg lg) (hgb:∀ z,z∈lg→i64B z) (hl:IL H vl ll) (hlb:∀ z,z∈ll→i64B z) {N W:Nat} (hN:1+n % 8=(N:Int)) (hW:1+w % 3=(W:Int)) :
  PC prog 6 #[rawV kd n w dp ls tr sm seed vg vl] H fun r H'=>∃ kd' cl ga gn gc va vn vc vx b1 a1 l1 c1 a2 l2 c2,r=.tuple #[goalV kd' cl (.slice ga gn gc) (.slice va vn vc),vx,.agg #[.int .i64 (1+tr % 4),.int .i64 (1+sm % (W:Int)),.int .u64 seed,.int .i64 (dp % 3),.int .i64 (1+ls % 3),.bool b1,.slice a1 l1 c1,.slice a2 l2 c2]] ∧
   GoalR H' (goalV kd' cl (.slice ga gn gc) (.slice va vn vc)) N (rowQ lg N)∧RLL H' vx (rowsQ ll N W)∧RQ H' (.agg #[.bool b1,.slice a1 l1 c1,.slice a2 l2 c2]) 0:=by
 obtain ⟨ga0,gc0,rfl⟩:=SlC.val hg
 obtain ⟨la0,lc0,rfl⟩:=SlC.val hl
 have hp1:=pick_pv n 8 hn oM oM
 have hp2:=pick_pv w 3 hw oM oM
 have hp3:=pick_pv tr 4 htr oM oM
 have hp4:=pick_pv sm (W:Int) hsm oM oM
 have hp5:=pick_pv dp 3 hdp oM oM
 have hp4b:0≤sm % (W:Int)∧sm % (W:Int)<(W:Int):=⟨Int.emod_nonneg _ oM,Int.emod_lt_of_pos _ oM⟩
 refine BD func6 ntmps6 ?_
 repeat (first | refine RUN ?_ | refine CV (hp1) ?_ | refine CE (hp1) ?_)
 rw [show IntKind.i64.wrap (1+n % 8)=(N:Int) by rw [IntKind.wrap_i64];omega]
 repeat (first | refine RUN ?_ | refine CV (hp2) ?_ | refine CE (hp2) ?_)
 rw [show IntKind.i64.wrap (1+w % 3)=(W:Int) by rw [IntKind.wrap_i64];omega]
 try refine RUN ?_
 (first | refine EVL.unbox (1) rfl fun g1=>?_ | refine EV.unbox (1) rfl fun g1=>?_)
 refine EVI.start none (g1,25,[.int .i64 kd,.int .i64 n,.int .i64 w,.int .i64 dp,.int .i64 ls,.int .i64 tr,.int .i64 sm,.int .u64 seed,.slice ga0 lg.length gc0,.slice la0 ll.length lc0]) ?_
 refine IF 0 ?_
 refine IL0 1 ?_
 refine IF 2 ?_
 refine IL0 3 ?_
 refine IV 4 ?_
 refine IF 6 ?_
 refine IL0 7 ?_
 refine IV 8 ?_
 refine IV 9 ?_
 refine IF 11 ?_
 refine IL0 12 ?_
 refine IF 15 ?_
 refine IL0 16 ?_
 refine IV 17 ?_
 refine IF 20 ?_
 refine IL0 21 ?_
 refine IF 22 ?_
 refine IL0 23 ?_
 refine IF 25 ?_
 refine IL0 26 ?_
 refine EVI.one 5 0 (.inr rfl) kR rfl ?_
 refine EVL.call rfl rfl rfl rfl rfl (goal_pc hg hgb kd N oM) ?_
 intro r5 G5 hr5 hG5
 obtain ⟨kd',cl',ga,gn,gc,va,vn,vc,rfl⟩:∃ k c ga gn gc va vn vc,r5=goalV k c (.slice ga gn gc) (.slice va vn vc):=by
  rcases hr5 with ⟨s,rfl,h⟩ | ⟨c,s,_,rfl,_,_,_,_,h⟩
  ·obtain ⟨a,c,rfl⟩:=h.val
   exact ⟨_,_,_,_,_,_,_,_,rfl⟩
  ·obtain ⟨a,c,rfl⟩:=SlC.val h
   exact ⟨_,_,_,_,_,_,_,_,rfl⟩
 refine EVL.nil ⟨rfl,?_⟩
 refine EVI.one 10 0 (.inr rfl) kR rfl ?_
 refine EVL.call rfl rfl rfl rfl rfl (rows_pc (hl.mono hG5) hlb N W oM oM) ?_
 intro r6 G6 hr6 hG6
 obtain ⟨xa,xc,rfl⟩:=hr6.val
 refine EVL.nil ⟨rfl,?_⟩
 refine EVI.one 13 0 (.inr rfl) kR rfl ?_
 refine CV hp3 ?_
 refine EVL.nil ⟨rfl,?_⟩
 refine IV 14 ?_
 refine EVI.one 18 0 (.inr rfl) kR rfl ?_
 refine CV hp4 ?_
 refine EVL.nil ⟨rfl,?_⟩
 refine IV 19 ?_
 refine EVI.one 24 0 (.inr rfl) kR rfl ?_
 refine CV hp5 ?_
 refine EVL.nil ⟨rfl,?_⟩
 refine EVI.one 27 0 (.inr rfl) kR rfl ?_
 refine EVL.call rfl rfl rfl rfl rfl (rules0_pc (dp % 3) ls oM hls) ?_
 rintro r7 G7 ⟨b1,a1,l1,c1,a2,l2,c2,rfl,hq⟩ hG7
 rw [show dp % 3 % 5=dp % 3 by omega]
 refine EVL.nil ⟨rfl,?_⟩
 refine IV 28 ?_
 refine EVI.one 29 0 (.inr rfl) kR rfl ?_
 (try refine RUNL ?_)
 refine EVL.nil ⟨rfl,?_⟩
 refine EVI.one 30 0 (.inr rfl) kR rfl ?_
 (try refine RUNL ?_)
 refine EVL.nil ⟨rfl,?_⟩
 refine EVI.one 31 0 (.inr rfl) kR rfl ?_
 (try refine RUNL ?_)
 refine EVL.nil ⟨rfl,?_⟩
 refine EVI.nil 0 (.inr rfl) kR ?_
 try refine RUN ?_
 have w1:IntKind.i64.wrap (1+tr % 4)=1+tr % 4:=by rw [IntKind.wrap_i64];omega
 have w2:IntKind.i64.wrap (1+sm % (W:Int))=1+sm % (W:Int):=by rw [IntKind.wrap_i64];omega
 exact ⟨kd',cl',ga,gn,gc,va,vn,vc,.slice xa (rowsQ ll N W).length xc,b1,a1,l1,c1,a2,l2,c2,by rw [w1,w2],hr5.mono (hG6.trans hG7),hr6.mono hG7,hq⟩
structure PlainG (kd cl:Int) (n:Nat) (cost mean:List Int→Rat) (cnt:List Int→List Int):Prop where
 kind:(kd=1∧1≤cl∧cl≤12)∨(kd=2∧cl=0)
 clen:∀ l,((cnt l).length:Int)=cl
 cadd:∀ r l m:List Int,r.Perm (l++m)→∀ k:Nat,(cnt r).getD k 0=(cnt l).getD k 0+(cnt m).getD k 0
 cpos:∀ l c,c∈cnt l→0≤c
 csum:kd=1→∀ l,(∀ r,r∈l→0≤r∧r<(n:Int))→(cnt l).sum=(l.length:Int)
 zero:kd=1→∀ l,mean l=0
 cost0:∀ l,0≤cost l
 csm:∀ l:List Int,l.length≤300→(∀ r,r∈l→0≤r∧r<(n:Int))→ht (cost l)≤2000000
 msm:∀ l:List Int,l.length≤300→(∀ r,r∈l→0≤r∧r<(n:Int))→ht (mean l)≤4000
theorem sumQ_nonneg:∀ l:List Rat,(∀ q,q∈l→0≤q)→0≤sumQ l
 | [],_=>by rw [sumQ_nil];exact Rat.le_refl
 | x::l,h=>by
  rw [sumQ_cons]
  exact Rat.add_nonneg (h x (.head _)) (sumQ_nonneg l fun q hq=>h q (.tail _ hq))
theorem devL_nonneg (m:Rat) (l:List Rat):0≤sumQ (devL m l):=sumQ_nonneg _ fun q hq=>by
 obtain ⟨v,_,rfl⟩:=List.mem_map.1 hq
 exact sq_nonneg _
theorem costL_nonneg (L:List Int):0≤costL L:=by
 unfold costL
 have h1:=sqL_le L
 by_cases h0:L.length=0
 ·obtain rfl:=List.length_eq_zero_iff.1 h0
  decide +kernel
 ·have hp:(0:Rat)<((L.length:Int):Rat):=by
   have:((0:Int):Rat)<((L.length:Int):Rat):=Rat.intCast_lt_intCast.2 oM
   exact this
  have h2:((sqL L:Int):Rat)≤((L.length:Int):Rat)*((L.length:Int):Rat):=by
   rw [← Rat.intCast_mul]
   exact Rat.intCast_le_intCast.2 (by exact_mod_cast h1)
  generalize ((L.length:Int):Rat)=N at *
  generalize ((sqL L:Int):Rat)=S at *
  have h3:0≤N⁻¹:=Rat.le_of_lt (Rat.inv_pos.2 hp)
  have h4:0≤N*N-S:=by grind
  have h5:=Rat.mul_nonneg h4 h3
  have hne:N≠0:=by grind
  have h6:N*N⁻¹=1:=Rat.mul_inv_cancel N hne
  have h7:(N*N-S)*N⁻¹=N-S / N:=by rw [Rat.div_def];grind
  rw [h7] at h5
  exact h5
theorem sumI_nat {α:Type} (f:α→Nat):∀ l:List α,(l.map fun x=>(f x:Int)).sum=(((l.map f).sum:Nat):Int)
 | []=>rfl
 | x::l=>by
  rw [List.map_cons,List.map_cons,List.sum_cons,List.sum_cons,sumI_nat f l]
  omega
theorem cntL_sum {C:Nat} {L:List Int} (h:∀ z,z∈L→0≤z∧z<(C:Int)):(cntL C L).sum=(L.length:Int):=by
 have h1:=(sqL_sumC C L h).2
 unfold cntL
 rw [sumI_nat (fun k:Nat=>L.count (k:Int)),← h1]
theorem cntL_getD (C:Nat) (L:List Int) (k:Nat):(cntL C L).getD k 0=if k<C then (L.count (k:Int):Int) else 0:=by
 rw [List.getD_eq_getElem?_getD]
 by_cases h:k<C
 ·rw [cntL_at _ h,if_pos h];rfl
 ·rw [List.getElem?_eq_none (by rw [cntL_len];omega),if_neg h];rfl
theorem cntL_add (C:Nat) {R L M:List Int} (h:R.Perm (L++M)) (k:Nat):(cntL C R).getD k 0=(cntL C L).getD k 0+(cntL C M).getD k 0:=by
 rw [cntL_getD,cntL_getD,cntL_getD,h.count_eq,List.count_append]
 split <;> omega
theorem atI_memB {ls:List Int} {rs:List Int} (h:∀ r,r∈rs→0≤r∧r<(ls.length:Int)):∀ q,q∈atI ls rs→q∈ls:=fun q hq=>by
 obtain ⟨r,hr,rfl⟩:=List.mem_map.1 hq
 have:=h r hr
 have hl:r.toNat<ls.length:=by omega
 rw [List.getD_eq_getElem?_getD,List.getElem?_eq_getElem hl]
 exact List.getElem_mem hl
theorem orderL_mem {w:Nat} (h0:1≤w) (hw:w≤1000) (s:Int) {k:Nat}:∀ c,c∈((orderL w s).1.take k)→0≤c∧c<(w:Int):=fun c hc=>by
 have hp:=orderGo_perm (w-1) (upTo w) s (by rw [upTo_length];omega) (by rw [upTo_length];omega)
 have hm:=hp.mem_iff.1 (List.mem_of_mem_take hc)
 unfold upTo at hm
 obtain ⟨i,hi,rfl⟩:=List.mem_map.1 hm
 have:=List.mem_range.1 hi
 show (0:Int)≤(i:Int)∧(i:Int)<w
 omega
def woodP (X:List (List Rat)) (cost mean:List Int→Rat) (cnt:List Int→List Int) (least:Int) (w sm:Nat):GP:=⟨X,cost,mean,cnt,least,0,fun s=>((orderL w s).1.take sm,(orderL w s).2)⟩
theorem PlainG.gp {kd cl:Int} {cost mean:List Int→Rat} {cnt:List Int→List Int} {X:List (List Rat)} {w sm:Nat} {least:Int} (h:PlainG kd cl X.length cost mean cnt) (hX:X.length≤300) (hw0:1≤w) (hw:w≤1000) (hx:∀ x,x∈X→x.length=w∧∀ q,q∈x→ht q≤5):GPok (woodP X cost mean cnt least w sm) kd cl w :=
 ⟨h.kind,hX,fun x hm=>(hx x hm).1,fun x hm=>(hx x hm).2,h.clen,h.cadd,h.cpos,h.csum,h.zero,h.cost0,h.csm,h.msm,Rat.le_refl,fun s=>orderL_mem hw0 hw s⟩
theorem wood_ok {p:GP} {kd cl:Int} {w D:Nat} (hp:GPok p kd cl w) (hw:1≤w∧w≤20) (hD:D≤9) (h0:1≤p.X.length):∀ (k:Nat) (s:Int),(∀ t,t∈(p.wood D p.X.length kd cl w k s).1→TreeOk t∧fitT kd cl w t=true)
 | 0,s=>fun t ht=>by cases ht
 | k+1,s=>fun t ht=>by
  rw [GP.wood_succ] at ht
  rcases List.mem_append.1 ht with ht | ht
  ·exact wood_ok hp hw hD h0 k s t ht
  ·rw [List.mem_singleton.1 ht]
   refine ⟨?_,?_⟩
   ·have hx:=hp.rowsX
    have hl:(bagS p.X.length (p.wood D p.X.length kd cl w k s).2.2).1.length=p.X.length:=by unfold bagS;rw [sortI_length,drawL_length]
    refine grow_tree hp hw hD (by rw [hl];exact h0) (by rw [hl];exact hx) (fun r hr=>?_) _
    unfold bagS at hr
    exact drawL_range _ _ _ oM oM r ((sortI_perm _).mem_iff.1 hr)
   ·unfold fitT;simp
def PNode (H:Hp) (cs:List Value) (n:Nd):Prop:=∃ a c,IL H (.slice a n.counts.length c) n.counts ∧
 cs=[.int .i64 n.col,.int .i64 n.left,.int .i64 n.right,.int .i64 n.rows,.int .i64 n.cls]++(vlist (fracV n.at')++(vlist (fracV n.cost)++(vlist (fracV n.value)++[.slice a n.counts.length c])))
theorem PNode.mono {H G:Hp} {cs:List Value} {n:Nd} (h:PNode H cs n) (k:H.Le G):PNode G cs n:=by
 obtain ⟨a,c,h1,e⟩:=h
 exact ⟨a,c,h1.mono k,e⟩
theorem PNode.len {H:Hp} {cs:List Value} {n:Nd} (h:PNode H cs n):cs.length=21:=by
 obtain ⟨a,c,_,rfl⟩:=h
 rfl
theorem flatS (c:List Value):[c].flatten=c:=List.flatten_singleton
def PNodes (H:Hp) (css:List (List Value)) (ns:List Nd):Prop:=css.length=ns.length∧∀ (j:Nat) (c:List Value) (n:Nd),css[j]?=some c→ns[j]?=some n→PNode H c n
theorem PNodes.mono {H G:Hp} {css:List (List Value)} {ns:List Nd} (h:PNodes H css ns) (k:H.Le G):PNodes G css ns:=⟨h.1,fun j c n e1 e2=>(h.2 j c n e1 e2).mono k⟩
theorem PNodes.get {H:Hp} {css:List (List Value)} {ns:List Nd} (h:PNodes H css ns) {j:Nat} {n:Nd} (hj:ns[j]?=some n):∃ c,(css.flatten.drop (j*21)).take 21=c∧PNode H c n:=by
 have hlt:=(List.getElem?_eq_some_iff.1 hj).1
 obtain ⟨c,hc⟩:∃ c,css[j]?=some c:=⟨_,List.getElem?_eq_getElem (by rw [h.1];exact hlt)⟩
 refine ⟨c,?_,h.2 j c n hc hj⟩
 have h21:∀ x,x∈css→(id x).length=21:=fun x hx=>by
  obtain ⟨i,hi⟩:=List.mem_iff_getElem?.1 hx
  have hi':=(List.getElem?_eq_some_iff.1 hi).1
  exact (h.2 i x _ hi (List.getElem?_eq_getElem (by rw [← h.1];exact hi'))).len
 have:=flat_cut id 21 css h21 j c hc
 rwa [List.flatMap_id] at this
def PTree (H:Hp) (cs:List Value) (kd cl w:Int) (ns:List Nd):Prop:=∃ a c css,cs=[.int .i64 kd,.int .i64 cl,.int .i64 w,.slice a ns.length c]∧PNodes H css ns∧SlC H (.slice a ns.length c) ns.length 21 css.flatten
theorem PTree.mono {H G:Hp} {cs:List Value} {kd cl w:Int} {ns:List Nd} (h:PTree H cs kd cl w ns) (k:H.Le G):PTree G cs kd cl w ns:=by
 obtain ⟨a,c,css,e,h1,h2⟩:=h
 exact ⟨a,c,css,e,h1.mono k,h2.mono k⟩
theorem meanC_pc {H:Hp} {v:Value} {cl:Int} {sl sv:Value}:PC prog 184 #[goalV 1 cl sl sv,v] H fun r _=>r=fracV 0:=by
 refine BD func184 ntmps184 ?_
 try refine RUN ?_
 exact fracV_zero.symm
section
variable {P:Program} {n:Nat} {ops:Array Oper} {o:Oper} {rest:List Oper} {env:Env} {bx:Bxs} {sb:Bxs} {ow:Ows} {H:Hs} {Q:EQ} {τ:Tab} {d:Nat} {s:SV}
theorem run_fn3 {f:Fn} {x y z:Operand} (ho:o.op=.makeFunc f #[] #[x,y,z]) {u v w:Value} (hx:env.op x=some (.v u)) (hy:env.op y=some (.v v)) (hz:env.op z=some (.v w)) (ev:Operand→Value) (W:World) (he:∀ y x,y∈o.op.operands→env.op y=some (.v x)→ev y=x) :
  (execOp ev o).run P W=.ok (.value (.func f #[] #[u,v,w])) W:=by
 have ex:=he x _ (by simp [ho,Op.operands]) hx
 have ey:=he y _ (by simp [ho,Op.operands]) hy
 have ez:=he z _ (by simp [ho,Op.operands]) hz
 unfold execOp
 simp [ho,ex,ey,ez,Instr.makeFunc]
theorem EVL.fn3 {f:Fn} {x y z:Operand} (ho:o.op=.makeFunc f #[] #[x,y,z]) (hw:wantB ops env o=some true) (hd:o.dst=some d) (hn:Nat.blt d n=true) {u v w:Value} (hx:env.op x=some (.v u)) (hy:env.op y=some (.v v)) (hz:env.op z=some (.v w))
  (h:EVL P n ops rest ((d,.v (.func f #[] #[u,v,w]))::env) bx H Q):EVL P n ops (o::rest) env bx H Q:=EVL.gen hw hd hn (run_fn3 ho hx hy hz) h
theorem EVL.callWC {f:FuncId} {t:Nat} {args:Array Operand} {tys:Array TypeId} (ho:o.op=.call ⟨.value (.tmp t),args,tys⟩) (hw:wantB ops env o=some true) (hd:o.dst=some d) (hn:Nat.blt d n=true)
  {cs:List Value} (ht:env.op (.tmp t)=some (.v (.func (.func f) #[] cs.toArray))) {vs:List Value} (ha:argsK env args.toList some=some vs) (L R:Ows) (e:H.ow=L++R) {Φ:Value→Ows→Hp→Prop} (hpc:PW P f (vs++cs).toArray H.ro L Φ)
  (h:∀ v ow H',Φ v ow H'→H.ro.Le H'→EVL P n ops rest ((d,.v v)::env) bx ⟨H',ow++R,H.base⟩ Q):EVL P n ops (o::rest) env bx H Q:=fun W0 β a W r=>by
 obtain ⟨vs',hk,hm⟩:=argsK_spec env _ _ _ ha
 cases hk
 have hvs:=hm β H.ro a.eval (fun y s _ hy=>r.op hy)
 have htv:a.eval (.tmp t)=.func (.func f) #[] cs.toArray:=r.op ht
 unfold wpList
 rw [if_pos (r.want hw)]
 refine .inl ?_
 unfold Oper.wp
 rw [run_call_clo hpc.can ho htv hvs,Oper.upon_enter]
 have up:∀ (j b:Nat) (T:TypeId) (cs:List Value),L[j]?=some (b,T,cs)→H.ow[j]?=some (b,T,cs):=fun j b T cs hj=>by
  rw [e,List.getElem?_append_left (List.getElem?_eq_some_iff.1 hj).1];exact hj
 refine (hpc.run W r.fits r.globW (fun j b T cs hj=>?_) (fun j j' b T T' cs cs' hj hj'=>r.one j j' b T T' cs cs' (up _ _ _ _ hj) (up _ _ _ _ hj'))).mono ?_
 ·obtain ⟨h1,h2,h3,_⟩:=r.own j b T cs (up _ _ _ _ hj)
  refine ⟨h1,h3,?_⟩
  rcases h2 with h2 | h2
  ·cases hg:gH b with
   | none=>rfl
   | some c=>have:=r.glob.1.lt (b:=b) (by rw [hg];simp);omega
  ·exact (r.glob.2 b h2).1
 ·rintro e' W' ⟨v,ow,H',rfl,hΦ,hle,hf,hnw,hkp,hown,hdist⟩
  rw [hd]
  exact h v ow H' hΦ hle W0 β _ W' ((r.callW e hle hf hnw hkp hown hdist).put hn rfl rfl)
end
section
variable {P:Program} {n:Nat} {ops:Array Oper} {o:Oper} {rest:List Oper} {env:Env} {bx:Bxs} {H:Hs} {Q:EQ} {d:Nat}
end
theorem pbest_pc {H:Hp} {kd cl:Int} {sl sv vx vr vc:Value} {p:GP} {S:List Int→List Value} {wo:List Int→Rat} {rows cols:List Int} {least:Int} (hg:GOk H kd cl sl sv p.X.length S wo) (hp:POk wo p.cost) (hX:QLL H vx p.X) (hr:IL H vr rows) (hn:rows.length≤20) (hb:∀ r,r∈rows→0≤r∧r<(p.X.length:Int)) (hc:IL H vc cols) (hcn:cols.length≤1000000) (hx:∀ x,x∈p.X→∀ q,q∈x→ht q≤100) (hpl:p.least=least) :
  PC prog 186 #[goalV kd cl sl sv,vx,vr,vc,.int .i64 least] H fun r _=>r=.tuple #[.agg (cutC (p.best rows cols)).toArray,.bool (p.best rows cols).isSome]:=by
 refine (best_pc hg hX hr hn hc hcn hx).mono ?_
 rintro r G ⟨ps,h1,h2,h3⟩ _
 rw [exL_all hb] at h2 h3
 have e:=best_is_ref hp h1 h2
 have e2:p.best rows cols=(bestF ps).map fun t=>(t.1,t.2.1,t.2.2-wo rows):=by
  unfold GP.best
  rw [hpl,show max 1 least=max least 1 from Int.max_comm _ _]
  exact e.symm
 rcases h3 with ⟨h4,rfl⟩ | ⟨c,a,w,h4,rfl⟩
 ·rw [e2,h4];rfl
 ·rw [e2,h4];rfl
structure PGoal (H:Hp) (kd cl:Int) (sl sv:Value) (p:GP) (S:List Int→List Value) (wo:List Int→Rat):Prop where
 ok:GOk H kd cl sl sv p.X.length S wo
 pok:POk wo p.cost
 counts:∀ G,H.Le G→∀ u l,IL G u l→l.length≤300→PC prog 185 #[goalV kd cl sl sv,u] G fun r H'=>IL H' r (p.cnt (exL l p.X.length))
 cntlen:∀ l,(p.cnt l).length≤12
 top:∀ G,H.Le G→∀ u l,IL G u l→l.length≤300→PC prog 182 #[goalV kd cl sl sv,u] G fun r _=>r=.int .i64 (topN (p.cnt (exL l p.X.length)) (p.cnt (exL l p.X.length)).length:Nat)
 mean:∀ G,H.Le G→∀ u l,IL G u l→l.length≤300→PC prog 184 #[goalV kd cl sl sv,u] G fun r _=>r=fracV (p.mean (exL l p.X.length))
 small:∀ l:List Int,l.length≤300→(∀ r,r∈l→0≤r∧r<(p.X.length:Int))→ht (p.cost l)≤2000000
 cost:∀ G,H.Le G→∀ u l,IL G u l→l.length≤300→PC prog 183 #[goalV kd cl sl sv,u] G fun r _=>r=fracV (p.cost (exL l p.X.length))
theorem PGoal.mono {H H':Hp} {kd cl:Int} {sl sv:Value} {p:GP} {S:List Int→List Value} {wo:List Int→Rat} (h:PGoal H kd cl sl sv p S wo) (k:H.Le H'):PGoal H' kd cl sl sv p S wo :=
 ⟨h.ok.mono k,h.pok,fun G hG=>h.counts G (k.trans hG),h.cntlen,fun G hG=>h.top G (k.trans hG),fun G hG=>h.mean G (k.trans hG),h.small,fun G hG=>h.cost G (k.trans hG)⟩
def PTs (H:Hp) (tcs:List (List Value)) (ts:List Tr):Prop:=tcs.length=ts.length∧∀ (j:Nat) (c:List Value) (t:Tr),tcs[j]?=some c→ts[j]?=some t→PTree H c t.kd t.cl t.w t.ns
theorem PTs.mono {H G:Hp} {tcs:List (List Value)} {ts:List Tr} (h:PTs H tcs ts) (k:H.Le G):PTs G tcs ts:=⟨h.1,fun j c t e1 e2=>(h.2 j c t e1 e2).mono k⟩
theorem PTs.get {H:Hp} {tcs:List (List Value)} {ts:List Tr} (h:PTs H tcs ts) {j:Nat} {t:Tr} (hj:ts[j]?=some t):∃ c,(tcs.flatten.drop (j*4)).take 4=c∧PTree H c t.kd t.cl t.w t.ns:=by
 have hlt:=(List.getElem?_eq_some_iff.1 hj).1
 obtain ⟨c,hc⟩:∃ c,tcs[j]?=some c:=⟨_,List.getElem?_eq_getElem (by rw [h.1];exact hlt)⟩
 refine ⟨c,?_,h.2 j c t hc hj⟩
 have h4:∀ x,x∈tcs→(id x).length=4:=fun x hx=>by
  obtain ⟨i,hi⟩:=List.mem_iff_getElem?.1 hx
  have hi':=(List.getElem?_eq_some_iff.1 hi).1
  obtain ⟨_,_,_,e,_⟩:=h.2 i x _ hi (List.getElem?_eq_getElem (by rw [← h.1];exact hi'))
  subst e;rfl
 have:=flat_cut id 4 tcs h4 j c hc
 rwa [List.flatMap_id] at this
def PTL (H:Hp) (v:Value) (ts:List Tr):Prop:=∃ tcs,PTs H tcs ts∧SlC H v ts.length 4 tcs.flatten
theorem PTL.mono {H G:Hp} {v:Value} {ts:List Tr} (h:PTL H v ts) (k:H.Le G):PTL G v ts:=by
 obtain ⟨tcs,h1,h2⟩:=h
 exact ⟨tcs,h1.mono k,h2.mono k⟩
theorem PNode.cells {H:Hp} {cs:List Value} {n:Nd} (h:PNode H cs n):∃ a c,cs=[.int .i64 n.col,.int .i64 n.left,.int .i64 n.right,.int .i64 n.rows,.int .i64 n.cls,
  .bool (decide (n.at'.num<0)),.int .u64 (lo n.at'.num.natAbs:Int),.string (moreB n.at'.num.natAbs),.int .u64 (lo (dk n.at'.den):Int),.string (moreB (dk n.at'.den)),
  .bool (decide (n.cost.num<0)),.int .u64 (lo n.cost.num.natAbs:Int),.string (moreB n.cost.num.natAbs),.int .u64 (lo (dk n.cost.den):Int),.string (moreB (dk n.cost.den)),
  .bool (decide (n.value.num<0)),.int .u64 (lo n.value.num.natAbs:Int),.string (moreB n.value.num.natAbs),.int .u64 (lo (dk n.value.den):Int),.string (moreB (dk n.value.den)),.slice a n.counts.length c]∧IL H (.slice a n.counts.length c) n.counts:=by
 obtain ⟨a,c,h1,rfl⟩:=h
 exact ⟨a,c,rfl,h1⟩
abbrev walkC (kd cl w:Int) (vn:Value) (far:Int):List Value:=[.int .i64 kd,.int .i64 cl,.int .i64 w,vn,.int .i64 far]
set_option maxRecDepth 100000 in
set_option maxHeartbeats 16000000 in
theorem pend_pw {kd cl w:Int} {a:Option Addr} {cp:Nat} {ns:List Nd} (hln:ns.length≤1000000) {k h e:Nat} (hsub:Sub ns w k h e):∀ {H:Hp} {css:List (List Value)} {b:Nat} {T:TypeId} {deep:Nat} {far:Int},PNodes H css ns→SlC H (.slice a ns.length cp) ns.length 21 css.flatten→deep≤k →
  PW prog 104 #[.pointer (some ⟨b,0,none⟩),.int .i64 (k:Int),.int .i64 (deep:Int)] H [(b,T,walkC kd cl w (.slice a ns.length cp) far)] fun v ow _=>v=.tuple #[.int .i64 (e:Int),.bool true]∧∃ far',ow=[(b,T,walkC kd cl w (.slice a ns.length cp) far')]∧far'≤max far ((deep+h:Nat):Int):=by
 induction hsub with
 | @leaf k h n hn hc hl hr ha =>
  intro H css b T deep far hns hsl hdk
  have hlt:=(List.getElem?_eq_some_iff.1 hn).1
  obtain ⟨c,hcut,hnd⟩:=hns.get hn
  obtain ⟨a7,c7,rfl,_⟩:=hnd.cells
  have hsg:PV prog 26 #[fracV n.at'] (.int .i64 0):=by
   rw [ha];exact sign_pv 0 (by show bl 0≤_;rw [bl_zero];omega)
  refine PW.body tO func104 rfl kR ntmps104 rfl rfl ?_
  try refine RUN ?_
  (repeat (first | refine EVL.nilB rfl rfl rfl rfl rfl ?_ | refine EVL.fldB tO rfl rfl rfl rfl rfl rfl rfl ?_ | refine EVL.val tO rfl rfl rfl rfl rfl ?_))
  refine EVL.loadOwn tO rfl rfl rfl rfl rfl rfl (0) rfl (rfl) rfl rfl ?_
  try refine RUN ?_
  rw [decide_eq_false (show ¬ (k:Int)≥(ns.length:Int) by omega)]
  try refine RUN ?_
  (repeat (first | refine EVL.nilB rfl rfl rfl rfl rfl ?_ | refine EVL.fldB tO rfl rfl rfl rfl rfl rfl rfl ?_ | refine EVL.val tO rfl rfl rfl rfl rfl ?_))
  refine EVL.loadOwn tO rfl rfl rfl rfl rfl rfl (0) rfl (rfl) rfl rfl ?_
  try refine RUN ?_
  refine EVL.idxM tO rfl rfl rfl rfl rfl rfl rfl rfl rfl (hsl) (k) (rfl) (hlt) (hcut) ?_
  try refine RUN ?_
  rw [hc]
  try refine RUN ?_
  (repeat (first | refine EVL.nilB rfl rfl rfl rfl rfl ?_ | refine EVL.fldB tO rfl rfl rfl rfl rfl rfl rfl ?_ | refine EVL.val tO rfl rfl rfl rfl rfl ?_))
  refine EVL.loadOwn tO rfl rfl rfl rfl rfl rfl (0) rfl (rfl) rfl rfl ?_
  try refine RUN ?_
  (repeat (first | refine EVL.nilB rfl rfl rfl rfl rfl ?_ | refine EVL.fldB tO rfl rfl rfl rfl rfl rfl rfl ?_ | refine EVL.val tO rfl rfl rfl rfl rfl ?_))
  refine EVL.storeOwn tO rfl rfl rfl rfl rfl rfl ([]) ([]) rfl rfl rfl rfl ((by exact Nat.le_refl 5)) (rfl) ?_
  try refine RUN ?_
  rw [hl,hr]
  repeat (first | refine RUN ?_ | refine CV (hsg) ?_ | refine CE (hsg) ?_)
  refine ⟨by rw [wi_inc k (by omega)];rfl,_,rfl,?_⟩
  split <;> omega
 | @node k h m e n hn hc1 hc2 hl hr s1 s2 ih1 ih2 =>
  intro H css b T deep far hns hsl hdk
  have hlt:=(List.getElem?_eq_some_iff.1 hn).1
  obtain ⟨hm1,hm2⟩:=s1.lt
  obtain ⟨he1,he2⟩:=s2.lt
  obtain ⟨c,hcut,hnd⟩:=hns.get hn
  obtain ⟨a7,c7,rfl,_⟩:=hnd.cells
  refine PW.body tO func104 rfl kR ntmps104 rfl rfl ?_
  try refine RUN ?_
  (repeat (first | refine EVL.nilB rfl rfl rfl rfl rfl ?_ | refine EVL.fldB tO rfl rfl rfl rfl rfl rfl rfl ?_ | refine EVL.val tO rfl rfl rfl rfl rfl ?_))
  refine EVL.loadOwn tO rfl rfl rfl rfl rfl rfl (0) rfl (rfl) rfl rfl ?_
  try refine RUN ?_
  rw [decide_eq_false (show ¬ (k:Int)≥(ns.length:Int) by omega)]
  try refine RUN ?_
  (repeat (first | refine EVL.nilB rfl rfl rfl rfl rfl ?_ | refine EVL.fldB tO rfl rfl rfl rfl rfl rfl rfl ?_ | refine EVL.val tO rfl rfl rfl rfl rfl ?_))
  refine EVL.loadOwn tO rfl rfl rfl rfl rfl rfl (0) rfl (rfl) rfl rfl ?_
  try refine RUN ?_
  refine EVL.idxM tO rfl rfl rfl rfl rfl rfl rfl rfl rfl (hsl) (k) (rfl) (hlt) (hcut) ?_
  try refine RUN ?_
  rw [show (n.col == -1)=false from beq_eq_false_iff_ne.2 (by omega)]
  try refine RUN ?_
  apply EV.drawn 20 kR kR;intro xv yw
  (repeat (first | refine' DV ?_ | refine' DA ?_ | refine' DK0 ?_ | refine' DT ?_ | refine' DS ?_))
  rw [decide_eq_false (show ¬ n.col<0 by omega)]
  (repeat (first | refine' DV ?_ | refine' DA ?_ | refine' DK0 ?_ | refine' DT ?_ | refine' DS ?_))
  (repeat (first | refine' DV ?_ | refine' DA ?_ | refine' DK0 ?_ | refine' DT ?_ | refine' DS ?_ | (refine' DJ.nilB rfl rfl rfl rfl rfl ?_;rotate_left) | (refine' DJ.fldB tO rfl rfl rfl rfl rfl rfl rfl ?_;rotate_left)))
  refine' DJ.ofVal (ValOk.loadOwn tO rfl rfl rfl rfl (0) rfl (rfl) rfl rfl) rfl rfl rfl ?_;rotate_left
  (repeat (first | refine' DV ?_ | refine' DA ?_ | refine' DK0 ?_ | refine' DT ?_ | refine' DS ?_))
  rw [decide_eq_false (show ¬ n.col≥w by omega)]
  (repeat (first | refine' DV ?_ | refine' DA ?_ | refine' DK0 ?_ | refine' DT ?_ | refine' DS ?_))
  rw [hl,wi_inc k oM,show (((k+1:Nat):Int) != ((k+1:Nat):Int))=false from bne_self_eq_false _]
  (repeat (first | refine' DV ?_ | refine' DA ?_ | refine' DK0 ?_ | refine' DT ?_ | refine' DS ?_))
  (refine DJ.nil (fun G1 hG1 hF1=>?_);(case hS|hS2=>rfl))
  try refine RUN ?_
  rw [wi_inc k oM,wi_inc deep (by omega)]
  refine EVL.callW rfl rfl rfl rfl rfl ([(b,T,walkC kd cl w (.slice a ns.length cp) far)]) ([]) rfl (ih1 (hns.mono hG1) (hsl.mono hG1) (deep:=deep+1) oM) ?_
  rintro _ _ G2 ⟨rfl,far1,rfl,hf1⟩ hG2
  try refine RUN ?_
  rw [hr,show ((m:Int) != (m:Int))=false from bne_self_eq_false _]
  try refine RUN ?_
  rw [wi_inc deep (by omega)]
  refine EVL.callW rfl rfl rfl rfl rfl ([(b,T,walkC kd cl w (.slice a ns.length cp) far1)]) ([]) rfl (ih2 (hns.mono (hG1.trans hG2)) (hsl.mono (hG1.trans hG2)) (deep:=deep+1) oM) ?_
  rintro _ _ G3 ⟨rfl,far2,rfl,hf2⟩ hG3
  try refine RUN ?_
  exact ⟨rfl,far2,rfl,by omega⟩
set_option maxRecDepth 100000 in
set_option maxHeartbeats 16000000 in
theorem palone_pc {H:Hp} {kd cl w:Int} {vn:Value} {n:Nd} {cs:List Value} (hkd:(kd=1∧1≤cl∧cl≤12)∨(kd=2∧cl=0)) (hnd:PNode H cs n) (hN:OkN kd cl n) :
  PC prog 105 #[treeV kd cl w vn,.agg cs.toArray] H fun r _=>r=.bool true:=by
 obtain ⟨a7,c7,rfl,k4⟩:=hnd.cells
 have hN1:=hN.rows
 have hcl:n.counts.length≤12:=by have:=hN.len;omega
 have hsc:PV prog 26 #[fracV n.cost] (.int .i64 n.cost.num.sign):=sign_pv _ (by have:=(sm_of hN.small.2.1 oM).num;show bl n.cost.num.natAbs≤_;omega)
 refine BD func105 ntmps105 ?_
 try refine RUN ?_
 rw [decide_eq_false (show ¬ n.rows<1 by omega)]
 try refine RUN ?_
 rw [decide_eq_false (show ¬ n.rows>1048576 by omega)]
 repeat (first | refine RUN ?_ | refine CV (hsc) ?_ | refine CE (hsc) ?_)
 rw [decide_eq_false (sign_no hN.cost)]
 try refine RUN ?_
 rw [show ((n.counts.length:Int) != cl)=false by rw [hN.len];exact bne_self_eq_false _]
 try refine RUN ?_
 rcases hkd with ⟨rfl,hc1,hc2⟩ | ⟨rfl,rfl⟩
 ·have hsv:PV prog 26 #[fracV n.value] (.int .i64 0):=by
   rw [hN.value rfl];exact sign_pv 0 (by show bl 0≤_;rw [bl_zero];omega)
  try refine RUN ?_
  refine EV.loopK (ι:=Nat) [2,3,38,39] [2,3] (fun q=>[(5,.v (.int .i64 (n.counts.take q).sum)),(6,.v (.int .i64 (topN n.counts q:Nat))),(40,.v (.int .i64 (q:Int)))]) (fun _=>[]) (fun _=>[]) (fun q _=>q≤n.counts.length) (fun q=>n.counts.length-q) (0) rfl rfl ⟨rfl,rfl,rfl,trivial⟩ trivial rfl (fun _=>rfl) (Nat.zero_le _) ?_
  rintro q G2 hG2 hq
  have hsum:=hN.sum rfl
  try refine RUN ?_
  refine EV.cond rfl (fun hlt=>?_) (fun hlt=>?_)
  ·simp only [nN] at hlt
   have ht1:=sum_take_le hN.pos (q+1)
   have ht0:=sum_take_le hN.pos q
   have hti:=topN_lt n.counts q
   have htl:topN n.counts q<n.counts.length:=by omega
   have g1:=getD_at hlt
   have g2:=getD_at htl
   have hz0:=hN.pos _ (List.mem_of_getElem? g1)
   have hts:(n.counts.take (q+1)).sum=(n.counts.take q).sum+n.counts.getD q 0:=by rw [take_snoc g1,List.sum_append,List.sum_singleton]
   have hst:topN n.counts (q+1)=if n.counts.getD (topN n.counts q) 0<n.counts.getD q 0 then q else topN n.counts q:=rfl
   generalize topN n.counts q=tp at *
   generalize n.counts.getD tp 0=x at *
   generalize n.counts.getD q 0=y at *
   try refine RUN ?_
   refine EVL.idxR tO rfl rfl rfl rfl rfl rfl rfl rfl rfl rfl ((k4.mono hG2)) (q) (rfl) (hlt) ((by rw [List.getElem?_map,g1];rfl)) ?_
   try refine RUN ?_
   rw [decide_eq_false (show ¬ y<0 by omega)]
   try refine RUN ?_
   rw [decide_eq_false (show ¬ y>n.rows by omega)]
   try refine RUN ?_
   rw [show IntKind.i64.wrap ((n.counts.take q).sum+y)=(n.counts.take (q+1)).sum by rw [IntKind.wrap_i64];omega]
   refine EVL.idxR tO rfl rfl rfl rfl rfl rfl rfl rfl rfl rfl ((k4.mono hG2)) (tp) (rfl) (htl) ((by rw [List.getElem?_map,g2];rfl)) ?_
   try refine RUN ?_
   by_cases h:y>x
   ·rw [decide_eq_true h]
    rw [if_pos h] at hst
    try refine RUN ?_
    refine ⟨q+1,⟨rfl,by rw [hst];rfl,by rw [wi_inc q (by omega)];rfl,trivial⟩,sB,trivial,sB,rfl,by omega,Hp.Le.refl _,by omega⟩
   ·rw [decide_eq_false h]
    rw [if_neg h] at hst
    try refine RUN ?_
    refine ⟨q+1,⟨rfl,by rw [hst];rfl,by rw [wi_inc q (by omega)];rfl,trivial⟩,sB,trivial,sB,rfl,by omega,Hp.Le.refl _,by omega⟩
  ·simp only [nN] at hlt
   obtain rfl:q=n.counts.length:=by omega
   rw [List.take_length,hsum,hN.cls]
   try refine RUN ?_
   rw [show (n.rows == n.rows)=true from beq_self_eq_true _]
   try refine RUN ?_
   rw [show ((topN n.counts n.counts.length:Int) == (topN n.counts n.counts.length:Int))=true from beq_self_eq_true _]
   repeat (first | refine RUN ?_ | refine CV (hsv) ?_ | refine CE (hsv) ?_)
   rfl
 ·have hc0:n.counts=[]:=List.length_eq_zero_iff.1 (by have:=hN.len;omega)
  have hcls0:n.cls=0:=by rw [hN.cls,hc0];rfl
  rw [hcls0]
  try refine RUN ?_
  rfl
set_option maxRecDepth 100000 in
set_option maxHeartbeats 16000000 in
theorem padds_pc {H:Hp} {kd cl:Int} {n na nb:Nd} {cs ca cb:List Value} (hkd:(kd=1∧1≤cl∧cl≤12)∨(kd=2∧cl=0)) (hnd:PNode H cs n) (hnda:PNode H ca na) (hndb:PNode H cb nb) (hN:OkN kd cl n) (hNa:OkN kd cl na) (hNb:OkN kd cl nb) (hCC:OkC n na nb) :
  PC prog 106 #[.agg cs.toArray,.agg ca.toArray,.agg cb.toArray] H fun r _=>r=.bool true:=by
 obtain ⟨a7,c7,rfl,k4⟩:=hnd.cells
 obtain ⟨xa7,xc7,rfl,ka4⟩:=hnda.cells
 obtain ⟨ya7,yc7,rfl,kb4⟩:=hndb.cells
 have hRa:=hNa.rows
 have hRb:=hNb.rows
 have hRc:=hCC.rows
 have hRn:=hN.rows
 have hs0:=hN.small
 have hsa:=hNa.small
 have hsb:=hNb.small
 have hlna:(na.counts.length:Int)=cl:=hNa.len
 have hlnb:(nb.counts.length:Int)=cl:=hNb.len
 have hlnn:(n.counts.length:Int)=cl:=hN.len
 have had:=ht_add na.cost nb.cost
 have hadd:=add_pv na.cost nb.cost (sm_of hsa.2.1 oM) (sm_of hsb.2.1 oM)
 have hcmp:=cmp_pv n.cost (na.cost+nb.cost) (sm_of hs0.2.1 oM) (by unfold sm;omega)
 refine BD func106 ntmps106 ?_
 try refine RUN ?_
 refine EV.loopK (ι:=Nat) [3,4,5,10,11] [3,4,5] (fun q=>[(12,.v (.int .i64 (q:Int)))]) (fun _=>[]) (fun _=>[]) (fun q _=>q≤n.counts.length) (fun q=>n.counts.length-q) (0) rfl rfl ⟨rfl,trivial⟩ trivial rfl (fun _=>rfl) (Nat.zero_le _) ?_
 rintro q G1 hG1 hq
 try refine RUN ?_
 refine EV.cond rfl (fun hlt=>?_) (fun hlt=>?_)
 ·simp only [nN] at hlt
  have hk1:kd=1:=by
   rcases hkd with ⟨e,_⟩ | ⟨_,e⟩
   ·exact e
   ·omega
  obtain ⟨z,hz⟩:∃ z,n.counts[q]?=some z:=⟨_,List.getElem?_eq_getElem hlt⟩
  have hqa:q<na.counts.length:=by omega
  have hqb:q<nb.counts.length:=by omega
  obtain ⟨za,hza⟩:∃ z,na.counts[q]?=some z:=⟨_,List.getElem?_eq_getElem hqa⟩
  obtain ⟨zb,hzb⟩:∃ z,nb.counts[q]?=some z:=⟨_,List.getElem?_eq_getElem hqb⟩
  have hcc:=hCC.counts q
  rw [List.getD_eq_getElem?_getD,List.getD_eq_getElem?_getD,List.getD_eq_getElem?_getD,hz,hza,hzb] at hcc
  simp only [Option.getD_some] at hcc
  have hz0:=hN.pos z (List.mem_of_getElem? hz)
  have hup:z≤1048576:=by
   have h1:=sum_take_le hN.pos (q+1)
   have h2:=sum_take_le hN.pos q
   rw [take_snoc hz,List.sum_append,List.sum_singleton] at h1
   have h3:=hN.sum hk1
   omega
  have hwz:IntKind.i64.wrap (za+zb)=z:=by rw [IntKind.wrap_i64];omega
  try refine RUN ?_
  refine EVL.idxR tO rfl rfl rfl rfl rfl rfl rfl rfl rfl rfl ((k4.mono hG1)) (q) (rfl) (hlt) ((by rw [List.getElem?_map,hz];rfl)) ?_
  try refine RUN ?_
  apply EV.drawn 13 kR kR;intro xv yw
  (repeat (first | refine' DV ?_ | refine' DA ?_ | refine' DK0 ?_ | refine' DT ?_ | refine' DS ?_))
  refine' DJ.ofVal (ValOk.idx1 tO rfl rfl rfl rfl rfl rfl rfl rfl ((ka4.mono hG1)) (q) (rfl) (hqa) ((by rw [List.getElem?_map,hza];rfl))) rfl rfl rfl ?_;rotate_left
  (repeat (first | refine' DV ?_ | refine' DA ?_ | refine' DK0 ?_ | refine' DT ?_ | refine' DS ?_))
  refine' DJ.ofVal (ValOk.idx1 tO rfl rfl rfl rfl rfl rfl rfl rfl ((kb4.mono hG1)) (q) (rfl) (hqb) ((by rw [List.getElem?_map,hzb];rfl))) rfl rfl rfl ?_;rotate_left
  (repeat (first | refine' DV ?_ | refine' DA ?_ | refine' DK0 ?_ | refine' DT ?_ | refine' DS ?_))
  rw [hwz,show (z != z)=false from bne_self_eq_false _]
  (repeat (first | refine' DV ?_ | refine' DA ?_ | refine' DK0 ?_ | refine' DT ?_ | refine' DS ?_))
  (refine DJ.nil (fun G hG hF=>?_);(case hS|hS2=>rfl))
  try refine RUN ?_
  refine ⟨q+1,⟨by rw [wi_inc q (by omega)];rfl,trivial⟩,sB,trivial,sB,rfl,hlt,hG,by omega⟩
 ·simp only [nN] at hlt
  try refine RUN ?_
  have hwr:IntKind.i64.wrap (na.rows+nb.rows)=n.rows:=by rw [IntKind.wrap_i64];omega
  apply EV.drawn 20 kR kR;intro xv yw
  (repeat (first | refine' DV ?_ | refine' DA ?_ | refine' DK0 ?_ | refine' DT ?_ | refine' DS ?_))
  rw [hwr,show (n.rows == n.rows)=true from beq_self_eq_true _]
  (repeat (first | refine' DV ?_ | refine' DA ?_ | refine' DK0 ?_ | refine' DT ?_ | (refine' DC (hadd) (h:=?_);rotate_left) | (refine' DC (hcmp) (h:=?_);rotate_left) | refine' DS ?_))
  rw [decide_eq_true (show ordR n.cost (na.cost+nb.cost)≥0 from Int.not_lt.1 fun k=>Rat.not_lt.2 hCC.cost ((ordR_lt0 _ _).1 k))]
  (repeat (first | refine' DV ?_ | refine' DA ?_ | refine' DK0 ?_ | refine' DT ?_ | refine' DS ?_))
  (refine DJ.nil (fun G hG hF=>?_);(case hS|hS2=>rfl))
  try refine RUN ?_
  rfl
end Go.Proofs.YtplhljjljnkhpaaGreatDoor
