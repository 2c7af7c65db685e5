/- Texts of ours in one: SjA, SjP, SjB, ThJ, ShK, ShM, ShN, ShI, ShW, ShU, ShJ, Opn6, ThM, LaidE. -/
import Derived.Test.YtbcfidllfimehaaGreatDoorJ0
import Derived.Test.YtbcfidllfimehaaGreatDoorJ1
import Derived.Test.YtbcfidllfimehaaGreatDoorJ2
import Derived.Test.YtbcfidllfimehaaGreatDoorJ3
import Derived.Lib.ConvBytes
import Derived.Laws.StructEq
import Derived.ProofKit
import Derived.OpenShut
import Derived.LaidMore
import Derived.Lay
import Derived.Stop.Joined
set_option linter.unusedVariables false
set_option linter.unusedSimpArgs false

namespace Go.Proofs.YtbcfidllfimehaaGreatDoor
open Go.RowKit _root_.Go.Proofs.Tryz
theorem flat_lenK {k:Nat}:∀ {css:List (List Value)},(∀ x,x∈css→x.length=k)→css.flatten.length=css.length*k
 | [],_=>by simp
 | x::css,h=>by
  rw [List.flatten_cons,List.length_append,h x (List.mem_cons_self ..),flat_lenK (fun y hy=>h y (List.mem_cons_of_mem _ hy)),List.length_cons,Nat.succ_mul];omega
theorem LsR.put {α:Type} {R:Hp→List Value→α→Prop} {H:Hp} {A B:List (List Value)} {c c':List Value} {l:List α} {x:α} (h:LsR R H (A++c::B) l) (hn:l[A.length]?=some x) (h':R H c' x):LsR R H (A++c'::B) l:=by
 refine ⟨by have:=h.1;simpa using this,fun j y m e1 e2=>?_⟩
 rcases Nat.lt_trichotomy j A.length with k | k | k
 ·exact h.2 j y m (by rw [List.getElem?_append_left k] at e1 ⊢;exact e1) e2
 ·subst k
  rw [List.getElem?_append_right (Nat.le_refl _),Nat.sub_self] at e1
  cases e1
  rw [hn] at e2
  cases e2
  exact h'
 ·obtain ⟨q,hq⟩:∃ q,j-A.length=q+1:=⟨j-A.length-1,by omega⟩
  exact h.2 j y m (by rw [List.getElem?_append_right oM,hq,List.getElem?_cons_succ] at e1 ⊢;exact e1) e2
set_option maxRecDepth 100000 in
set_option maxHeartbeats 16000000 in
theorem copyCols_pc {H:Hp} {v:Value} {l:List ColT} (hv:ColL H v l) (h0:0<l.length) (hl:l.length≤1000000) (hw:∀ c,c∈l→c.words.length≤1000000):PC prog 52 #[v] H fun r G=>ColL G r l:=by
 obtain ⟨css,hcs,hsl⟩:=hv
 have hfl:=flat_lenK (hcs.all SCol.ok)
 have hcl:=hcs.1
 have hcw:=cloneCols_pw hcs hsl h0 hl
 obtain ⟨a,cp,rfl⟩:=SlC.val hsl
 refine BD func52 ntmps52 ?_
 try refine RUN ?_
 refine EVL.callW rfl rfl rfl rfl rfl ([]) ([]) rfl (hcw) ?_
 intro r0 ow0 G0 hown0 hG0
 obtain ⟨g,cap,sp,rfl,rfl,hsame⟩:=hown0.same h0
 try refine RUN ?_
 refine EV.loopK (ι:=Nat × List (List Value)) [3,8] [] (fun q=>[(9,.v (.int .i64 (q.1:Int)))]) (fun _=>[]) (fun q=>[(g,83,q.2.flatten++sp)]) (fun q G=>q.1≤l.length∧LsR SCol G q.2 l) (fun q=>l.length-q.1) ((0,css)) rfl rfl ⟨rfl,trivial⟩ trivial rfl (fun _=>rfl) (⟨Nat.zero_le _,hcs.mono SCol.ok hG0⟩) ?_
 rintro ⟨i,ds⟩ G1 hG1 ⟨hi,hds⟩
 dsimp only at hi hds
 try refine RUN ?_
 refine EV.cond rfl (fun hlt=>?_) (fun hlt=>?_)
 ·simp only [nN] at hlt
  obtain ⟨n,hni⟩:∃ n,l[i]?=some n:=⟨_,List.getElem?_eq_getElem hlt⟩
  have hdl:=hds.1
  have hda:=hds.all SCol.ok
  obtain ⟨A,c,B,rfl,hAl⟩:∃ A c B,ds=A++c::B∧A.length=i:=⟨ds.take i,ds[i]'(by omega),ds.drop (i+1),by rw [List.getElem_cons_drop,List.take_append_drop],by rw [List.length_take];omega⟩
  subst hAl
  obtain ⟨a7,c7,hws,rfl⟩:=hds.2 A.length c n (by rw [List.getElem?_append_right (Nat.le_refl _),Nat.sub_self];rfl) hni
  have hAf:=flat_lenK (fun x hx=>hda x (List.mem_append_left _ hx))
  rw [flat_mid]
  try refine RUN ?_
  refine EVL.idxB tO rfl rfl rfl rfl rfl rfl rfl rfl rfl (A.length) (A.length*3) (rfl) (hlt) (rfl) ?_
  refine EVL.fldB tO rfl rfl rfl rfl rfl rfl rfl ?_
  refine EVL.loadOwn tO rfl rfl rfl rfl rfl rfl (0) rfl ((by rw [row_drop hAf (Nat.le_of_ble_eq_true rfl)])) rfl rfl ?_
  try refine RUN ?_
  refine EVL.call rfl rfl rfl rfl rfl (cloneStr_pc hws (hw n (List.mem_of_getElem? hni))) ?_
  rintro r2 G2 hR hG2
  obtain ⟨a8,c8,rfl⟩:=SlC.val hR
  try refine RUN ?_
  refine EVL.idxB tO rfl rfl rfl rfl rfl rfl rfl rfl rfl (A.length) (A.length*3) (rfl) (hlt) (rfl) ?_
  refine EVL.fldB tO rfl rfl rfl rfl rfl rfl rfl ?_
  refine EVL.storeOwn tO rfl rfl rfl rfl rfl rfl ([]) ([]) rfl rfl rfl rfl ((by rw [List.length_append,hAf,List.length_append];show A.length*3+2+1≤_;simp;omega)) ((row_set hAf rfl rfl (Nat.le_of_ble_eq_true rfl) rfl)) ?_
  try refine RUN ?_
  refine ⟨(A.length+1,A++_::B),⟨by rw [wi_inc A.length (by omega)];rfl,trivial⟩,sB,trivial,sB,by dsimp only;rw [flat_mid];rfl,⟨hlt,(hds.mono SCol.ok hG2).put hni ⟨a8,c8,hR,rfl⟩⟩,hG2,by dsimp only;omega⟩
 ·simp only [nN] at hlt
  have hown:=hsame ds.flatten (by rw [flat_lenK (hds.all SCol.ok),hfl,hds.1,hcl])
  (first | refine EVL.publishL [] [(g,83,ds.flatten++sp)] [] (rfl) hown fun G2 hG2 hs2=>?_ | refine EV.publishL [] [(g,83,ds.flatten++sp)] [] (rfl) hown fun G2 hG2 hs2=>?_)
  try refine RUN ?_
  exact ⟨ds,hds.mono SCol.ok hG2,hs2⟩
theorem flatRep1 (n:Nat) (x:Value):(List.replicate n [x]).flatten=List.replicate n x:=by
 induction n with
 | zero=>rfl
 | succ n ih=>rw [List.replicate_succ,List.flatten_cons,ih];rfl
theorem vals_put (done:List Value) (k:Nat) (z x:Value):(done++List.replicate (k+1) z).set done.length x=(done++[x])++List.replicate k z:=by
 rw [List.set_append_right _ _ (Nat.le_refl _),Nat.sub_self,List.replicate_succ,List.set_cons_zero,List.append_assoc];rfl
set_option maxRecDepth 100000 in
set_option maxHeartbeats 16000000 in
theorem copies_pw {H:Hp} {v:Value} {rows:List (List CellT)} (hv:PRows H v rows) (hl:rows.length≤1000000) (hc:∀ r,r∈rows→r.length≤1000000):PW prog 55 #[v] H [] fun r ow G=>∃ css,LsR (Cel PRow) G css rows∧OwnL 82 1 r rows.length css.flatten ow∧∃ b,r=.slice (some ⟨b,0,none⟩) rows.length rows.length:=by
 obtain ⟨dcs,hcs,hsl⟩:=hv
 obtain ⟨a,cp,rfl⟩:=SlC.val hsl
 refine PW.body tO func55 rfl kR ntmps55 rfl rfl ?_
 try refine RUN ?_
 refine EVL.make tO rfl rfl rfl rfl rfl rfl rfl rfl rfl (rows.length) (rfl) oM (by rfl) (by rfl) fun b=>?_
 try refine RUN ?_
 (first | refine EVL.swapOw ([(b,82,[]++List.replicate (rows.length-0) (.slice none 0 0))]) ([]) ((by rw [show (Tryz.te82).zero=[Value.slice none 0 0] from rfl,flatRep1];rfl)) ?_ | refine EV.swapOw ([(b,82,[]++List.replicate (rows.length-0) (.slice none 0 0))]) ([]) ((by rw [show (Tryz.te82).zero=[Value.slice none 0 0] from rfl,flatRep1];rfl)) ?_)
 refine EV.loopK (ι:=Nat × List (List Value)) [3,9,10] [] (fun q=>[(11,.v (.int .i64 (q.1:Int)))]) (fun _=>[]) (fun q=>[(b,82,q.2.flatten++List.replicate (rows.length-q.1) (.slice none 0 0))]) (fun q G=>q.1≤rows.length∧LsR (Cel PRow) G q.2 (rows.take q.1)) (fun q=>rows.length-q.1) ((0,[])) rfl rfl ⟨rfl,trivial⟩ trivial rfl (fun _=>rfl) (⟨Nat.zero_le _,LsR.nil⟩) ?_
 rintro ⟨i,css⟩ G1 hG1 ⟨hi,hds⟩
 dsimp only at hi hds
 have hfl:css.flatten.length=i:=by rw [flat_lenK (hds.all PRows.ok),hds.1,List.length_take,Nat.mul_one,Nat.min_eq_left hi]
 try refine RUN ?_
 refine EV.cond rfl (fun hlt=>?_) (fun hlt=>?_)
 ·simp only [nN] at hlt
  obtain ⟨row,hrow⟩:∃ x,rows[i]?=some x:=⟨_,List.getElem?_eq_getElem hlt⟩
  obtain ⟨cc,hcut,rv,rfl,hrr⟩:=(hcs.mono PRows.ok hG1).get PRows.ok hrow
  obtain ⟨ra,rn,rfl⟩:=LR.val hrr
  try refine RUN ?_
  refine EVL.idxM tO rfl rfl rfl rfl rfl rfl rfl rfl rfl ((hsl.mono hG1)) (i) (rfl) (hlt) (hcut) ?_
  try refine RUN ?_
  refine EVL.call rfl rfl rfl rfl rfl (cloneCells_pc hrr (hc row (List.mem_of_getElem? hrow))) ?_
  rintro r2 G2 hR hG2
  obtain ⟨a8,c8,rfl⟩:=LR.val hR
  try refine RUN ?_
  refine EVL.idxB tO rfl rfl rfl rfl rfl rfl rfl rfl rfl (i) (i*1) (rfl) (hlt) (rfl) ?_
  rw [Nat.mul_one]
  refine EVL.set1 tO rfl rfl rfl rfl rfl rfl rfl rfl rfl rfl ((by rw [List.length_append,hfl,List.length_replicate];omega)) ?_
  have hput:=vals_put css.flatten (rows.length-(i+1)) (.slice none 0 0) (.slice a8 row.length c8)
  rw [hfl,show rows.length-(i+1)+1=rows.length-i by omega] at hput
  try refine RUN ?_
  refine ⟨(i+1,css++[_]),⟨by rw [wi_inc i (by omega)];rfl,trivial⟩,sB,trivial,sB,by dsimp only;rw [flatSn];exact congrArg (fun z=>[(b,82,z)]) hput,⟨hlt,by dsimp only;rw [take_snoc hrow];exact (hds.mono PRows.ok hG2).snoc ⟨_,rfl,hR⟩⟩,hG2,by dsimp only;omega⟩
 ·simp only [nN] at hlt
  obtain rfl:i=rows.length:=by omega
  rw [List.take_length] at hds
  rw [Nat.sub_self,List.replicate_zero]
  try refine RUN ?_
  exact ⟨css,hds,⟨by rw [hfl,Nat.mul_one],.inr ⟨b,rows.length,[],rfl,rfl,by rw [List.append_nil,hfl,Nat.mul_one],Nat.le_refl _,by simp only [maxLen];omega⟩⟩,b,rfl⟩
set_option maxHeartbeats 8000000 in
theorem equalStr_pc {H:Hp} {u v:Value} {l m:List (List UInt8)} (hu:SL H u l) (hv:SL H v m) (hl:l.length≤1000000):PC prog 152 #[u,v] H fun r _=>r=.bool (decide (l=m)):=by
 obtain ⟨a,c,rfl⟩:=SlC.val hu
 obtain ⟨a2,c2,rfl⟩:=SlC.val hv
 refine BD func152 ntmps152 ?_
 try refine RUN ?_
 by_cases el:l.length=m.length
 case neg =>
  rw [show ((l.length:Int) != (m.length:Int))=true from bne_iff_ne.2 (by omega)]
  try refine RUN ?_
  rw [decide_eq_false fun e=>el (by rw [e])]
 rw [show ((l.length:Int) != (m.length:Int))=false from bne_eq_false_iff_eq.2 (by omega)]
 try refine RUN ?_
 refine EV.loopK (ι:=Nat) [0,1,12] [] (fun i=>[(13,.v (.int .i64 (i:Int)))]) (fun _=>[]) (fun _=>[]) (fun i _=>i≤l.length∧l.take i=m.take i) (fun i=>l.length-i) (0) rfl rfl ⟨rfl,trivial⟩ trivial rfl (fun _=>rfl) (⟨Nat.zero_le _,rfl⟩) ?_
 rintro i G1 hG1 ⟨hi,htk⟩
 try refine RUN ?_
 refine EV.cond rfl (fun hlt=>?_) (fun hlt=>?_)
 ·simp only [nN] at hlt
  obtain ⟨x,hx⟩:∃ z,l[i]?=some z:=⟨_,List.getElem?_eq_getElem hlt⟩
  obtain ⟨y,hy⟩:∃ z,m[i]?=some z:=⟨_,List.getElem?_eq_getElem oM⟩
  try refine RUN ?_
  apply EV.drawn 9 kR kR;intro xv yw
  (repeat refine' DD ?_)
  refine' DJ.ofVal (ValOk.idx1 tO rfl rfl rfl rfl rfl rfl rfl rfl ((hu.mono hG1)) (i) (rfl) (hlt) ((by rw [List.getElem?_map,hx];rfl))) rfl rfl rfl ?_;rotate_left
  (repeat refine' DD ?_)
  refine' DJ.ofVal (ValOk.idx1 tO rfl rfl rfl rfl rfl rfl rfl rfl ((hv.mono hG1)) (i) (rfl) (oM) ((by rw [List.getElem?_map,hy];rfl))) rfl rfl rfl ?_;rotate_left
  (repeat refine' DD ?_)
  (refine DJ.nil (fun G2 hG2 hF2=>?_);(case hS|hS2=>rfl))
  rw [sb_neq]
  by_cases e:x=y
  ·rw [decide_eq_false (show ¬ (x≠y) from fun k=>k e)]
   try refine RUN ?_
   rw [wi_inc i (by omega)]
   exact ⟨i+1,⟨rfl,trivial⟩,sB,trivial,sB,rfl,⟨hlt,by rw [take_snoc hx,take_snoc hy,htk,e]⟩,hG2,by omega⟩
  ·rw [decide_eq_true (show x≠y from e)]
   try refine RUN ?_
   rw [decide_eq_false (ne_at hx hy e)]
 ·simp only [nN] at hlt
  obtain rfl:i=l.length:=by omega
  rw [List.take_length,el,List.take_length] at htk
  try refine RUN ?_
  rw [decide_eq_true htk]
theorem sameCol_pc {H:Hp} {cu cv:List Value} {x y:ColT} (hu:SCol H cu x) (hv:SCol H cv y) (hl:x.words.length≤1000000):PC prog 104 #[.agg cu.toArray,.agg cv.toArray] H fun r _=>r=.bool (decide (x=y)):=by
 obtain ⟨a,n,hw,rfl⟩:=hu
 obtain ⟨a2,n2,hw2,rfl⟩:=hv
 have heq:=equalStr_pc hw hw2 hl
 obtain ⟨nm,kd,ws⟩:=x
 obtain ⟨nm2,kd2,ws2⟩:=y
 dsimp only at *
 have hd:decide (ColT.mk nm kd ws=ColT.mk nm2 kd2 ws2)=(decide (nm=nm2) && (decide (kd=kd2) && decide (ws=ws2))):=by
  by_cases h1:nm=nm2
  ·by_cases h2:kd=kd2
   ·by_cases h3:ws=ws2
    ·rw [decide_eq_true h1,decide_eq_true h2,decide_eq_true h3,decide_eq_true (by rw [h1,h2,h3])];rfl
    ·rw [decide_eq_true h1,decide_eq_true h2,decide_eq_false h3,decide_eq_false fun k=>h3 (by cases k;rfl)];rfl
   ·rw [decide_eq_true h1,decide_eq_false h2,decide_eq_false fun k=>h2 (by cases k;rfl)];rfl
  ·rw [decide_eq_false h1,decide_eq_false fun k=>h1 (by cases k;rfl)];rfl
 rw [hd]
 refine BD func104 ntmps104 ?_
 try refine RUN ?_
 rw [sb_eqb]
 by_cases h1:nm=nm2
 case neg =>
  rw [decide_eq_false h1]
  try refine RUN ?_
  rfl
 rw [decide_eq_true h1]
 try refine RUN ?_
 by_cases h2:kd=kd2
 case neg =>
  rw [show ((kd:Int) == (kd2:Int))=false from beq_eq_false_iff_ne.2 oM,decide_eq_false h2]
  try refine RUN ?_
  rfl
 rw [show ((kd:Int) == (kd2:Int))=true from beq_iff_eq.2 oM,decide_eq_true h2]
 try refine RUN ?_
 refine EVL.call rfl rfl rfl rfl rfl (heq) ?_
 rintro _ G rfl hG
 try refine RUN ?_
 rfl
theorem eqCols_pc {H:Hp} {u v:Value} {l m:List ColT} (hu:ColL H u l) (hv:ColL H v m) (hl:l.length≤1000000) (hw:∀ c,c∈l→c.words.length≤1000000):PC prog 103 #[u,v,.func (.func 104) #[] #[]] H fun r _=>r=.bool (decide (l=m)):=by
 obtain ⟨ucs,hus,hul⟩:=hu
 obtain ⟨vcs,hvs,hvl⟩:=hv
 obtain ⟨a,c,rfl⟩:=SlC.val hul
 obtain ⟨a2,c2,rfl⟩:=SlC.val hvl
 refine BD func103 ntmps103 ?_
 try refine RUN ?_
 by_cases el:l.length=m.length
 case neg =>
  rw [show ((l.length:Int) != (m.length:Int))=true from bne_iff_ne.2 (by omega)]
  try refine RUN ?_
  rw [decide_eq_false fun e=>el (by rw [e])]
 rw [show ((l.length:Int) != (m.length:Int))=false from bne_eq_false_iff_eq.2 (by omega)]
 try refine RUN ?_
 refine EV.loopK (ι:=Nat) [1,2,15,16] [] (fun i=>[(17,.v (.int .i64 (i:Int)))]) (fun _=>[]) (fun _=>[]) (fun i _=>i≤l.length∧l.take i=m.take i) (fun i=>l.length-i) (0) rfl rfl ⟨rfl,trivial⟩ trivial rfl (fun _=>rfl) (⟨Nat.zero_le _,rfl⟩) ?_
 rintro i G1 hG1 ⟨hi,htk⟩
 try refine RUN ?_
 refine EV.cond rfl (fun hlt=>?_) (fun hlt=>?_)
 ·simp only [nN] at hlt
  obtain ⟨x,hx⟩:∃ z,l[i]?=some z:=⟨_,List.getElem?_eq_getElem hlt⟩
  obtain ⟨y,hy⟩:∃ z,m[i]?=some z:=⟨_,List.getElem?_eq_getElem oM⟩
  obtain ⟨xc,hxcut,hxc⟩:=(hus.mono SCol.ok hG1).get SCol.ok hx
  obtain ⟨yc,hycut,hyc⟩:=(hvs.mono SCol.ok hG1).get SCol.ok hy
  have hff:=sameCol_pc hxc hyc (hw x (List.mem_of_getElem? hx))
  obtain ⟨_,_,_,rfl⟩:=hxc
  obtain ⟨_,_,_,rfl⟩:=hyc
  try refine RUN ?_
  refine EVL.idxM tO rfl rfl rfl rfl rfl rfl rfl rfl rfl ((hul.mono hG1)) (i) (rfl) (hlt) (hxcut) ?_
  try refine RUN ?_
  refine EVL.idxM tO rfl rfl rfl rfl rfl rfl rfl rfl rfl ((hvl.mono hG1)) (i) (rfl) (oM) (hycut) ?_
  try refine RUN ?_
  refine EVL.callC (cs:=[]) rfl rfl rfl rfl rfl rfl (hff) ?_
  rintro _ G2 rfl hG2
  by_cases e:x=y
  ·rw [decide_eq_true e]
   try refine RUN ?_
   rw [wi_inc i (by omega)]
   exact ⟨i+1,⟨rfl,trivial⟩,sB,trivial,sB,rfl,⟨hlt,by rw [take_snoc hx,take_snoc hy,htk,e]⟩,hG2,by omega⟩
  ·rw [decide_eq_false e]
   try refine RUN ?_
   rw [decide_eq_false (ne_at hx hy e)]
 ·simp only [nN] at hlt
  obtain rfl:i=l.length:=by omega
  rw [List.take_length,el,List.take_length] at htk
  try refine RUN ?_
  rw [decide_eq_true htk]
theorem sameCols_pc {H:Hp} {u v:Value} {l m:List ColT} (hu:ColL H u l) (hv:ColL H v m) (hl:l.length≤1000000) (hw:∀ c,c∈l→c.words.length≤1000000):PC prog 54 #[u,v] H fun r _=>r=.bool (decide (l=m)):=by
 have he:=eqCols_pc hu hv hl hw
 obtain ⟨_,_,rfl⟩:=hu.val
 obtain ⟨_,_,rfl⟩:=hv.val
 refine BD func54 ntmps54 ?_
 try refine RUN ?_
 refine EVL.call rfl rfl rfl rfl rfl (he) ?_
 rintro _ G rfl hG
 try refine RUN ?_
 rfl
theorem sameCell_pc {H:Hp} {x:CellT} (hq:ht x.q≤100000):PC prog 59 #[.agg (cellC x).toArray,.agg (cellC x).toArray] H fun r _=>r=.bool true:=by
 have hc:=cmp_pv x.q x.q (Nat.le_trans hq (by decide)) (Nat.le_trans hq (by decide))
 rw [show ordR x.q x.q=0 from Int.le_antisymm (ordQ_le Rat.le_refl) (ordQ_neg.2 Rat.lt_irrefl)] at hc
 refine BD func59 ntmps59 ?_
 try refine RUN ?_
 refine EVL.eqb rfl rfl rfl rfl rfl rfl kR ?_
 rw [beq_self_eq_true]
 try refine RUN ?_
 rw [beq_self_eq_true]
 repeat (first | refine RUN ?_ | refine CV (hc) ?_ | refine CE (hc) ?_)
 rfl
theorem eqCells_pc {H:Hp} {u v:Value} {l:List CellT} (hu:PRow H u l) (hv:PRow H v l) (hl:l.length≤1000000) (hq:∀ x,x∈l→ht x.q≤100000):PC prog 58 #[u,v,.func (.func 59) #[] #[]] H fun r _=>r=.bool true:=by
 obtain ⟨ucs,hus,hul⟩:=hu
 obtain ⟨vcs,hvs,hvl⟩:=hv
 obtain ⟨a,c,rfl⟩:=SlC.val hul
 obtain ⟨a2,c2,rfl⟩:=SlC.val hvl
 refine BD func58 ntmps58 ?_
 try refine RUN ?_
 rw [bne_self_eq_false]
 try refine RUN ?_
 refine EV.loopK (ι:=Nat) [1,2,15,16] [] (fun i=>[(17,.v (.int .i64 (i:Int)))]) (fun _=>[]) (fun _=>[]) (fun i _=>i≤l.length) (fun i=>l.length-i) (0) rfl rfl ⟨rfl,trivial⟩ trivial rfl (fun _=>rfl) (Nat.zero_le _) ?_
 rintro i G1 hG1 hi
 try refine RUN ?_
 refine EV.cond rfl (fun hlt=>?_) (fun hlt=>?_)
 ·simp only [nN] at hlt
  obtain ⟨x,hx⟩:∃ z,l[i]?=some z:=⟨_,List.getElem?_eq_getElem hlt⟩
  obtain ⟨xc,hxcut,rfl⟩:=(hus.mono PCell.ok hG1).get PCell.ok hx
  obtain ⟨yc,hycut,rfl⟩:=(hvs.mono PCell.ok hG1).get PCell.ok hx
  have hff:=sameCell_pc (H:=G1) (hq x (List.mem_of_getElem? hx))
  try refine RUN ?_
  refine EVL.idxM tO rfl rfl rfl rfl rfl rfl rfl rfl rfl ((hul.mono hG1)) (i) (rfl) (hlt) (hxcut) ?_
  try refine RUN ?_
  refine EVL.idxM tO rfl rfl rfl rfl rfl rfl rfl rfl rfl ((hvl.mono hG1)) (i) (rfl) (hlt) (hycut) ?_
  try refine RUN ?_
  refine EVL.callC (cs:=[]) rfl rfl rfl rfl rfl rfl (hff) ?_
  rintro _ G2 rfl hG2
  try refine RUN ?_
  rw [wi_inc i (by omega)]
  exact ⟨i+1,⟨rfl,trivial⟩,sB,trivial,sB,rfl,hlt,hG2,by omega⟩
 ·simp only [nN] at hlt
  try refine RUN ?_
  rfl
theorem same1_pc {H:Hp} {u v:Value} {l:List CellT} (hu:PRow H u l) (hv:PRow H v l) (hl:l.length≤1000000) (hq:∀ x,x∈l→ht x.q≤100000):PC prog 57 #[u,v] H fun r _=>r=.bool true:=by
 have he:=eqCells_pc hu hv hl hq
 obtain ⟨_,_,rfl⟩:=LR.val hu
 obtain ⟨_,_,rfl⟩:=LR.val hv
 refine BD func57 ntmps57 ?_
 try refine RUN ?_
 refine EVL.call rfl rfl rfl rfl rfl (he) ?_
 rintro _ G rfl hG
 try refine RUN ?_
 rfl
theorem eqRows_pc {H:Hp} {u v:Value} {l:List (List CellT)} (hu:PRows H u l) (hv:PRows H v l) (hl:l.length≤1000000) (hq:∀ r,r∈l→r.length≤1000000∧∀ x,x∈r→ht x.q≤100000):PC prog 56 #[u,v,.func (.func 57) #[] #[]] H fun r _=>r=.bool true:=by
 obtain ⟨ucs,hus,hul⟩:=hu
 obtain ⟨vcs,hvs,hvl⟩:=hv
 obtain ⟨a,c,rfl⟩:=SlC.val hul
 obtain ⟨a2,c2,rfl⟩:=SlC.val hvl
 refine BD func56 ntmps56 ?_
 try refine RUN ?_
 rw [bne_self_eq_false]
 try refine RUN ?_
 refine EV.loopK (ι:=Nat) [1,2,15,16] [] (fun i=>[(17,.v (.int .i64 (i:Int)))]) (fun _=>[]) (fun _=>[]) (fun i _=>i≤l.length) (fun i=>l.length-i) (0) rfl rfl ⟨rfl,trivial⟩ trivial rfl (fun _=>rfl) (Nat.zero_le _) ?_
 rintro i G1 hG1 hi
 try refine RUN ?_
 refine EV.cond rfl (fun hlt=>?_) (fun hlt=>?_)
 ·simp only [nN] at hlt
  obtain ⟨x,hx⟩:∃ z,l[i]?=some z:=⟨_,List.getElem?_eq_getElem hlt⟩
  obtain ⟨xc,hxcut,xv',rfl,hxr⟩:=(hus.mono PRows.ok hG1).get PRows.ok hx
  obtain ⟨yc,hycut,yv',rfl,hyr⟩:=(hvs.mono PRows.ok hG1).get PRows.ok hx
  obtain ⟨k1,k2⟩:=hq x (List.mem_of_getElem? hx)
  have hff:=same1_pc hxr hyr k1 k2
  obtain ⟨_,_,rfl⟩:=LR.val hxr
  obtain ⟨_,_,rfl⟩:=LR.val hyr
  try refine RUN ?_
  refine EVL.idxM tO rfl rfl rfl rfl rfl rfl rfl rfl rfl ((hul.mono hG1)) (i) (rfl) (hlt) (hxcut) ?_
  try refine RUN ?_
  refine EVL.idxM tO rfl rfl rfl rfl rfl rfl rfl rfl rfl ((hvl.mono hG1)) (i) (rfl) (hlt) (hycut) ?_
  try refine RUN ?_
  refine EVL.callC (cs:=[]) rfl rfl rfl rfl rfl rfl (hff) ?_
  rintro _ G2 rfl hG2
  try refine RUN ?_
  rw [wi_inc i (by omega)]
  exact ⟨i+1,⟨rfl,trivial⟩,sB,trivial,sB,rfl,hlt,hG2,by omega⟩
 ·simp only [nN] at hlt
  try refine RUN ?_
  rfl
theorem psame_pc {H:Hp} {u v u' v':Value} {cs:List ColT} {rows:List (List CellT)} (hu:ColL H u cs) (hv:PRows H v rows) (hu':ColL H u' cs) (hv':PRows H v' rows) (hl:cs.length≤1000000) (hw:∀ c,c∈cs→c.words.length≤1000000) (hr:rows.length≤1000000) (hq:∀ r,r∈rows→r.length≤1000000∧∀ x,x∈r→ht x.q≤100000):PC prog 21 #[.agg #[u,v],.agg #[u',v']] H fun r _=>r=.bool true:=by
 have hc:=fun G (hG:H.Le G)=>sameCols_pc (hu.mono SCol.ok hG) (hu'.mono SCol.ok hG) hl hw
 have hrr:=fun G (hG:H.Le G)=>eqRows_pc (LR.mono PRows.ok hv hG) (LR.mono PRows.ok hv' hG) hr hq
 obtain ⟨_,_,rfl⟩:=hu.val
 obtain ⟨_,_,rfl⟩:=hu'.val
 obtain ⟨_,_,rfl⟩:=LR.val hv
 obtain ⟨_,_,rfl⟩:=LR.val hv'
 refine BD func21 ntmps21 ?_
 try refine RUN ?_
 refine EVL.call rfl rfl rfl rfl rfl (hc _ (Hp.Le.refl _)) ?_
 rintro _ G rfl hG
 rw [decide_eq_true rfl]
 try refine RUN ?_
 refine EVL.call rfl rfl rfl rfl rfl (hrr _ hG) ?_
 rintro _ G2 rfl hG2
 try refine RUN ?_
 rfl
end Go.Proofs.YtbcfidllfimehaaGreatDoor
namespace Go.Proofs.YtbcfidllfimehaaGreatDoor
theorem ColT.Ok.colE {c:ColT} (h:c.Ok) {acc:List ColT} (hn:∀ d,d∈acc→d.name≠c.name):colE acc c=0:=by
 unfold Go.Proofs.YtbcfidllfimehaaGreatDoor.colE
 have h1:c.words.all isNm=true:=List.all_eq_true.2 h.words
 have h2:(acc.any fun d=>decide (d.name=c.name))=false:=by
  rw [← Bool.not_eq_true,List.any_eq_true]
  rintro ⟨d,hd,e⟩
  exact hn d hd (of_decide_eq_true e)
 have h3:hasTwice c.words=false:=by unfold hasTwice;rw [decide_eq_true h.nodup];rfl
 rw [h.name,h1,if_neg (by decide),if_pos h.kind,h2,h3]
 rfl
theorem colsE_ok:∀ {cs acc:List ColT},(∀ c,c∈cs→c.Ok)→((acc++cs).map ColT.name).Nodup→colsE acc cs=0
 | [],_,_,_=>rfl
 | c::r,acc,h1,h2=>by
  have hn:∀ d,d∈acc→d.name≠c.name:=fun d hd e=>by
   rw [List.map_append,List.nodup_append] at h2
   exact h2.2.2 d.name (List.mem_map_of_mem hd) c.name (by rw [List.map_cons];exact List.mem_cons_self ..) e
  rw [colsE_step ((h1 c (List.mem_cons_self ..)).colE hn)]
  exact colsE_ok (fun d hd=>h1 d (List.mem_cons_of_mem _ hd)) (by rw [List.append_assoc];exact h2)
theorem CellT.Ok.right {c:ColT} {x:CellT} (hc:c.Ok) (h:x.Ok c):rightC c x=true:=by
 unfold rightC
 cases hl:x.lacks with
 | true =>
  obtain ⟨h1,h2⟩:=h.lacks hl
  rw [if_pos rfl,decide_eq_true h1,decide_eq_true h2];rfl
 | false =>
  rw [if_neg (by decide)]
  by_cases k1:c.kind=1
  ·rw [if_pos k1,decide_eq_true (h.num hl k1).1]
  ·rw [if_neg k1]
   obtain ⟨h1,h2⟩:=h.word hl k1
   have k2:c.kind=2:=by
    rcases hc.kind with ⟨q,_⟩ | ⟨q,_⟩
    ·exact absurd q k1
    ·exact q
   rw [if_pos k2,decide_eq_true h1,decide_eq_true h2];rfl
theorem rowsE_ok {cs:List ColT}:∀ {rows:List (List CellT)},(∀ row,row∈rows→cs.length=row.length)→(∀ row,row∈rows→∀ c x,(c,x)∈cs.zip row→c.Ok∧x.Ok c)→rowsE cs rows=0
 | [],_,_=>rfl
 | r::l,h1,h2=>by
  have hr:rightR cs r=true:=List.all_eq_true.2 fun p hp=>by
   obtain ⟨c,x⟩:=p
   obtain ⟨k1,k2⟩:=h2 r (List.mem_cons_self ..) c x hp
   exact k2.right k1
  rw [rowsE,if_pos (h1 r (List.mem_cons_self ..)).symm,hr,if_pos rfl]
  exact rowsE_ok (fun row hrow=>h1 row (List.mem_cons_of_mem _ hrow)) (fun row hrow=>h2 row (List.mem_cons_of_mem _ hrow))
theorem ShOk.check {cs:List ColT} {rows:List (List CellT)} (h:ShOk cs rows):checkS cs rows=0:=by
 have h1:=h.some1
 have h2:=h.few
 have h3:=h.nrows
 unfold checkS
 rw [if_neg oM,if_pos (colsE_ok h.cols (by rw [List.nil_append];exact h.names)),if_neg (by omega)]
 exact rowsE_ok h.wide h.cells
theorem CellT.Ok.ht {c:ColT} {x:CellT} (h:x.Ok c):ht x.q≤500:=by
 cases hl:x.lacks with
 | true=>rw [(h.lacks hl).1,ht_zero];decide
 | false =>
  by_cases k1:c.kind=1
  ·exact (h.num hl k1).2
  ·rw [(h.word hl k1).1,ht_zero];decide
theorem zip_mem {α β:Type}:∀ {l:List α} {m:List β} {y:β},l.length=m.length→y∈m→∃ x,(x,y)∈l.zip m
 | [],m,y,h,k=>by
  have:m=[]:=List.length_eq_zero_iff.1 h.symm
  subst this;cases k
 | x::l,[],y,h,k=>by cases k
 | x::l,z::m,y,h,k=>by
  rcases List.mem_cons.1 k with rfl | k
  ·exact ⟨x,List.mem_cons_self ..⟩
  ·obtain ⟨w,hw⟩:=zip_mem (l:=l) (by simpa using h) k
   exact ⟨w,List.mem_cons_of_mem _ hw⟩
theorem ShOk.small {cs:List ColT} {rows:List (List CellT)} (h:ShOk cs rows):∀ r,r∈rows→r.length≤20∧∀ x,x∈r→Go.Proofs.YtbcfidllfimehaaGreatDoor.ht x.q≤500:=fun r hr=>by
 have h1:=h.wide r hr
 refine ⟨by have:=h.few;omega,fun x hx=>?_⟩
 obtain ⟨c,hc⟩:=zip_mem h1 hx
 exact (h.cells r hr c x hc).2.ht
theorem isNm_len {l:List UInt8} (h:isNm l=true):l.length≤20:=((isNm_iff l).1 h).2.1
theorem ShOk.ck {cs:List ColT} {rows:List (List CellT)} (h:ShOk cs rows):SmCk cs rows where
 ncols:=Nat.le_trans h.few (by decide)
 name:=fun c hc=>Nat.le_trans (isNm_len (h.cols c hc).name) (by decide)
 nwords:=fun c hc=>by
  rcases (h.cols c hc).kind with ⟨_,e⟩ | ⟨_,_,q⟩
  ·rw [e];exact Nat.zero_le _
  ·exact Nat.le_trans q (by decide)
 words:=fun c hc w hw=>Nat.le_trans (isNm_len ((h.cols c hc).words w hw)) (by decide)
 nrows:=Nat.le_trans h.nrows (by decide)
 cells:=fun r hr=>⟨Nat.le_trans (h.small r hr).1 (by decide),fun x hx=>Nat.le_trans ((h.small r hr).2 x hx) (by decide)⟩
def takeR (rows:List (List CellT)) (rs:List Int):List (List CellT):=rs.map fun r=>rows.getD r.toNat []
def inRw (rows:List (List CellT)) (rs:List Int):Bool:=rs.all fun r=>decide (0≤r∧r<(rows.length:Int))
theorem takeR_mem {rows:List (List CellT)} {rs:List Int} (h:inRw rows rs=true):∀ row,row∈takeR rows rs→row∈rows:=fun row hr=>by
 obtain ⟨r,hr2,rfl⟩:=List.mem_map.1 hr
 have:=of_decide_eq_true (List.all_eq_true.1 h r hr2)
 rw [List.getD_eq_getElem?_getD,List.getElem?_eq_getElem (by omega)]
 exact List.getElem_mem _
theorem ShOk.rows {cs:List ColT} {rows rows':List (List CellT)} (h:ShOk cs rows) (hm:∀ r,r∈rows'→r∈rows) (hl:rows'.length≤300):ShOk cs rows' :=
 ⟨h.some1,h.few,h.cols,h.names,hl,fun r hr=>h.wide r (hm r hr),fun r hr=>h.cells r (hm r hr)⟩
theorem ShOk.take {cs:List ColT} {rows:List (List CellT)} (h:ShOk cs rows) {rs:List Int} (hr:inRw rows rs=true) (hl:rs.length≤300):ShOk cs (takeR rows rs) :=
 h.rows (takeR_mem hr) (by unfold takeR;rw [List.length_map];exact hl)
theorem inRw_range {rows:List (List CellT)} {rs:List Int} (h:∀ r,r∈rs→0≤r∧r<(rows.length:Int)):inRw rows rs=true:=List.all_eq_true.2 fun r hr=>decide_eq_true (h r hr)
end Go.Proofs.YtbcfidllfimehaaGreatDoor
namespace Go.Proofs.YtbcfidllfimehaaGreatDoor
open Go.RowKit _root_.Go.Proofs.Tryz
def TakeAns (H:Hp) (r:Value) (cs:List ColT) (rows:List (List CellT)) (rs:List Int):Prop :=
 (inRw rows rs=true∧∃ a b,r=.tuple #[.agg #[a,b],.int .i64 0]∧ColL H a cs∧PRows H b (takeR rows rs))∨(inRw rows rs=false∧r=.tuple #[.agg #[.slice none 0 0,.slice none 0 0],.int .i64 1])
set_option maxRecDepth 100000 in
set_option maxHeartbeats 32000000 in
theorem take_pc {H:Hp} {u v w:Value} {cs:List ColT} {rows:List (List CellT)} {rs:List Int} (hu:ColL H u cs) (hv:PRows H v rows) (hw:IL H w rs) (ok:ShOk cs rows) (hrs:rs.length≤300):PC prog 19 #[.agg #[u,v],w] H fun r G=>TakeAns G r cs rows rs:=by
 have hck:=check_pc hu hv ok.ck
 rw [ok.check] at hck
 have hwd:=ok.ck.nwords
 have hc1:=ok.some1
 have hcn:=ok.ck.ncols
 obtain ⟨ua,uc,rfl⟩:=hu.val
 obtain ⟨dcs,hcs,hsl⟩:=hv
 obtain ⟨va,vc,rfl⟩:=SlC.val hsl
 obtain ⟨wa,wc,rfl⟩:=SlC.val hw
 refine BD func19 ntmps19 ?_
 try refine RUN ?_
 refine EVL.call rfl rfl rfl rfl rfl (hck) ?_
 rintro _ G0 rfl hG0
 try refine RUN ?_
 refine EV.loopK (ι:=Nat) [1,2,4,18,19] [2,4] (fun i=>[(20,.v (.int .i64 (i:Int)))]) (fun _=>[]) (fun _=>[]) (fun i _=>i≤rs.length∧inRw rows (rs.take i)=true) (fun i=>rs.length-i) (0) rfl rfl ⟨rfl,trivial⟩ trivial rfl (fun _=>rfl) (⟨Nat.zero_le _,rfl⟩) ?_
 rintro i G1 hG1 ⟨hi,hin⟩
 try refine RUN ?_
 refine EV.cond rfl (fun hlt=>?_) (fun hlt=>?_)
 ·simp only [nN] at hlt
  obtain ⟨z,hz⟩:∃ z,rs[i]?=some z:=⟨_,List.getElem?_eq_getElem hlt⟩
  have bad:¬ (0≤z∧z<(rows.length:Int))→∀ G:Hp,TakeAns G (.tuple #[.agg #[.slice none 0 0,.slice none 0 0],.int .i64 1]) cs rows rs:=fun k G=>.inr ⟨by
   rw [← Bool.not_eq_true]
   intro q
   exact k (of_decide_eq_true (List.all_eq_true.1 q z (List.mem_of_getElem? hz))),rfl⟩
  try refine RUN ?_
  refine EVL.idxR tO rfl rfl rfl rfl rfl rfl rfl rfl rfl rfl ((hw.mono (hG0.trans hG1))) (i) (rfl) (hlt) ((by rw [List.getElem?_map,hz];rfl)) ?_
  try refine RUN ?_
  by_cases c1:z<0
  ·rw [decide_eq_true c1]
   try refine RUN ?_
   exact bad oM _
  rw [decide_eq_false c1]
  try refine RUN ?_
  by_cases c2:z≥(rows.length:Int)
  ·rw [decide_eq_true c2]
   try refine RUN ?_
   exact bad oM _
  rw [decide_eq_false c2]
  try refine RUN ?_
  rw [wi_inc i (by omega)]
  exact ⟨i+1,⟨rfl,trivial⟩,sB,trivial,sB,rfl,⟨hlt,by rw [take_snoc hz];unfold inRw at hin ⊢;rw [List.all_append,hin,List.all_cons,decide_eq_true (by omega)];rfl⟩,Hp.Le.refl _,by omega⟩
 simp only [nN] at hlt
 obtain rfl:i=rs.length:=by omega
 rw [List.take_length] at hin
 try refine RUN ?_
 rw [decide_eq_false (show ¬ (rs.length:Int)>300 by omega)]
 try refine RUN ?_
 refine EVL.call rfl rfl rfl rfl rfl (copyCols_pc (hu.mono SCol.ok (hG0.trans hG1)) hc1 hcn hwd) ?_
 rintro _ G2 hcol hG2
 obtain ⟨xa,xc,rfl⟩:=hcol.val
 have hG02:=hG0.trans (hG1.trans hG2)
 try refine RUN ?_
 refine EV.loopK (ι:=Nat × Value × List (List Value) × Ows) [2,4,9,43,44] [2,4] (fun q=>[(45,.v (.int .i64 (q.1:Int)))]) (fun q=>[(9,37,[.slice xa cs.length xc,q.2.1])]) (fun q=>q.2.2.2) (fun q G=>q.1≤rs.length∧LsR (Cel PRow) G q.2.2.1 (takeR rows (rs.take q.1))∧OwnL 82 1 q.2.1 q.1 q.2.2.1.flatten q.2.2.2) (fun q=>rs.length-q.1) ((0,.slice none 0 0,[],[])) rfl rfl ⟨rfl,trivial⟩ ⟨rfl,trivial⟩ rfl (fun _=>rfl) (⟨Nat.zero_le _,LsR.nil,OwnL.nil _ _⟩) ?_
 rintro ⟨i,p,ps,ow⟩ G3 hG3 ⟨hi,hps,hown⟩
 dsimp only at hi hps hown
 obtain ⟨ba,bc,rfl⟩:=hown.val
 have hG03:=hG02.trans hG3
 try refine RUN ?_
 refine EV.cond rfl (fun hlt2=>?_) (fun hlt2=>?_)
 ·simp only [nN] at hlt2
  obtain ⟨z,hz⟩:∃ z,rs[i]?=some z:=⟨_,List.getElem?_eq_getElem hlt2⟩
  obtain ⟨z0,z1⟩:0≤z∧z<(rows.length:Int):=of_decide_eq_true (List.all_eq_true.1 hin z (List.mem_of_getElem? hz))
  obtain ⟨k,rfl⟩:=Int.eq_ofNat_of_zero_le z0
  have hk:k<rows.length:=by omega
  obtain ⟨row,hrow⟩:∃ x,rows[k]?=some x:=⟨_,List.getElem?_eq_getElem hk⟩
  have hget:rows.getD (k:Int).toNat []=row:=by rw [Int.toNat_natCast,List.getD_eq_getElem?_getD,hrow];rfl
  obtain ⟨cc,hcut,rv,rfl,hrr⟩:=(hcs.mono PRows.ok hG03).get PRows.ok hrow
  obtain ⟨r5,r6,rfl⟩:=LR.val hrr
  have hoc:=fun G (hG:G3.Le G)=>cloneCells_pc (PRow.mono hrr hG) (Nat.le_trans (ok.small row (List.mem_of_getElem? hrow)).1 (by decide))
  try refine RUN ?_
  refine EVL.idxR tO rfl rfl rfl rfl rfl rfl rfl rfl rfl rfl ((hw.mono hG03)) (i) (rfl) (hlt2) ((by rw [List.getElem?_map,hz];rfl)) ?_
  try refine RUN ?_
  apply EV.drawn 9 kR kR;intro xv yw
  (repeat refine' DD ?_)
  refine' DJ.idxM tO rfl rfl rfl rfl rfl rfl rfl rfl rfl ((hsl.mono hG03)) (k) (rfl) (hk) (hcut) ?_;rotate_left
  (repeat refine' DD ?_)
  refine' DJ.call rfl rfl rfl rfl rfl (cO func53) (fun G hG hd=>hoc G hG) (fun _ _ _ h k=>PRow.mono h k) ?_;rotate_left
  (refine' DJ.litD1 (Φ:=fun v G=>∃ x,SlC G v 1 1 [x]∧PRow G x row) (fun v G G' ⟨x,e,h⟩ k=>⟨x,e.mono k,PRow.mono h k⟩) tO rfl rfl rfl rfl rfl rfl rfl rfl rfl rfl rfl (fun G hd=>by obtain ⟨p,q,e⟩:=LR.val (hd.head kR);rw [e];rfl) (fun G G' v hd hG h=>(by
   have hp:PRow G (xv 7) row:=hd.head kR
   obtain ⟨p,q,e⟩:=LR.val hp
   rw [flatV ⟨p,_,q,e⟩] at h
   exact ⟨_,h,PRow.mono hp hG⟩)) ?_;rotate_left)
  (refine DJ.nil (fun G4 hG4 hF4=>?_);(case hS|hS2=>rfl))
  obtain ⟨x,hs2,hp2⟩:=hF4.1
  obtain ⟨p,q,rfl⟩:=LR.val hp2
  refine EVL.append tO rfl rfl rfl rfl rfl rfl rfl rfl rfl rfl rfl rfl [] ow [] (List.append_nil _).symm hown (SrcAt.ro hs2 (Nat.succ_pos 0)) rfl oM ?_
  intro v1 ow1 hown1
  obtain ⟨va2,vc2,rfl⟩:=hown1.val
  try refine RUN ?_
  rw [wi_inc i (by omega)]
  exact ⟨(i+1,.slice va2 (i+1) vc2,ps++[_],ow1),⟨rfl,trivial⟩,sB,⟨rfl,trivial⟩,sB,List.append_nil _,⟨hlt2,by dsimp only;rw [take_snoc hz];unfold takeR;rw [List.map_append,List.map_singleton,hget];exact (hps.mono PRows.ok hG4).snoc ⟨_,rfl,hp2⟩,by dsimp only;rw [flatSn];exact hown1⟩,hG4,by dsimp only;omega⟩
 simp only [nN] at hlt2
 obtain rfl:i=rs.length:=by omega
 rw [List.take_length] at hps
 (first | refine EVL.publishL [] ow [] ((List.append_nil _).symm) hown fun G4 hG4 hs4=>?_ | refine EV.publishL [] ow [] ((List.append_nil _).symm) hown fun G4 hG4 hs4=>?_)
 try refine RUN ?_
 exact .inl ⟨hin,_,_,rfl,hcol.mono SCol.ok (hG3.trans hG4),ps,hps.mono PRows.ok hG4,by show SlC _ _ (takeR rows rs).length _ _;unfold takeR;rw [List.length_map];exact hs4⟩
theorem slices_one:∀ {H:Hp} {css:List (List Value)} {l:List (List CellT)},LsR (Cel PRow) H css l→oneB css.flatten=true
 | H,[],_,_=>rfl
 | H,c::css,[],h=>by have:=h.1;simp at this
 | H,c::css,x::l,h=>by
  rw [List.flatten_cons]
  have hc:oneB c=true:=by
   obtain ⟨v,rfl,hv⟩:=h.2 0 c x rfl rfl
   obtain ⟨_,_,rfl⟩:=LR.val hv
   rfl
  refine oneB_app hc (slices_one (H:=H) (l:=l) ⟨?_,fun j c' n' e1 e2=>h.2 (j+1) c' n' (by rw [List.getElem?_cons_succ];exact e1) (by rw [List.getElem?_cons_succ];exact e2)⟩)
  have:=h.1
  simpa using this
theorem LsR.app {α:Type} {R:Hp→List Value→α→Prop} {H:Hp} {a b:List (List Value)} {l m:List α} (h:LsR R H a l) (k:LsR R H b m):LsR R H (a++b) (l++m):=by
 refine ⟨by rw [List.length_append,List.length_append,h.1,k.1],fun j c x e1 e2=>?_⟩
 by_cases hj:j<a.length
 ·rw [List.getElem?_append_left hj] at e1
  rw [List.getElem?_append_left (by rw [← h.1];exact hj)] at e2
  exact h.2 j c x e1 e2
 ·rw [List.getElem?_append_right (by omega)] at e1
  rw [List.getElem?_append_right (by rw [← h.1];omega),← h.1] at e2
  exact k.2 _ c x e1 e2
def AddAns (H:Hp) (r:Value) (cs ds:List ColT) (rows rows2:List (List CellT)):Prop :=
 (cs=ds∧∃ a b,r=.tuple #[.agg #[a,b],.int .i64 0]∧ColL H a cs∧PRows H b (rows++rows2))∨(cs≠ds∧r=.tuple #[.agg #[.slice none 0 0,.slice none 0 0],.int .i64 10])
set_option maxRecDepth 100000 in
set_option maxHeartbeats 32000000 in
theorem add_pc {H:Hp} {u v u2 v2:Value} {cs ds:List ColT} {rows rows2:List (List CellT)} (hu:ColL H u cs) (hv:PRows H v rows) (hu2:ColL H u2 ds) (hv2:PRows H v2 rows2) (ok:ShOk cs rows) (ok2:ShOk ds rows2) (hrs:rows.length+rows2.length≤300):PC prog 20 #[.agg #[u,v],.agg #[u2,v2]] H fun r G=>AddAns G r cs ds rows rows2:=by
 have hck:=check_pc hu hv ok.ck
 rw [ok.check] at hck
 have hck2:=fun G (hG:H.Le G)=>check_pc (hu2.mono SCol.ok hG) (LR.mono PRows.ok hv2 hG) ok2.ck
 rw [ok2.check] at hck2
 have hsc:=fun G (hG:H.Le G)=>sameCols_pc (hu.mono SCol.ok hG) (hu2.mono SCol.ok hG) ok.ck.ncols ok.ck.nwords
 have hcc:=fun G (hG:H.Le G)=>copyCols_pc (hu.mono SCol.ok hG) ok.some1 ok.ck.ncols ok.ck.nwords
 have hc1:=fun G (hG:H.Le G)=>copies_pw (LR.mono PRows.ok hv hG) ok.ck.nrows (fun r hr=>Nat.le_trans (ok.small r hr).1 (by decide))
 have hc2:=fun G (hG:H.Le G)=>copies_pw (LR.mono PRows.ok hv2 hG) ok2.ck.nrows (fun r hr=>Nat.le_trans (ok2.small r hr).1 (by decide))
 obtain ⟨ua,uc,rfl⟩:=hu.val
 obtain ⟨va,vc,rfl⟩:=LR.val hv
 obtain ⟨ua2,uc2,rfl⟩:=hu2.val
 obtain ⟨va2,vc2,rfl⟩:=LR.val hv2
 refine BD func20 ntmps20 ?_
 try refine RUN ?_
 refine EVL.call rfl rfl rfl rfl rfl (hck) ?_
 rintro _ G0 rfl hG0
 try refine RUN ?_
 refine EVL.call rfl rfl rfl rfl rfl (hck2 _ hG0) ?_
 rintro _ G1 rfl hG1
 try refine RUN ?_
 refine EVL.call rfl rfl rfl rfl rfl (hsc _ (hG0.trans hG1)) ?_
 rintro _ G2 rfl hG2
 have hG02:=hG0.trans (hG1.trans hG2)
 by_cases e:cs=ds
 case neg =>
  rw [decide_eq_false e]
  try refine RUN ?_
  exact .inr ⟨e,rfl⟩
 rw [decide_eq_true e]
 try refine RUN ?_
 rw [decide_eq_false (show ¬ IntKind.i64.wrap ((rows.length:Int)+(rows2.length:Int))>300 by rw [IntKind.wrap_i64];omega)]
 try refine RUN ?_
 (first | refine EVL.unbox (2) rfl fun bA=>?_ | refine EV.unbox (2) rfl fun bA=>?_)
 (first | refine EVL.publish [] [] rfl fun Ga hGa hbA=>?_ | refine EV.publish [] [] rfl fun Ga hGa hbA=>?_)
 (first | refine EVL.unbox (3) rfl fun bB=>?_ | refine EV.unbox (3) rfl fun bB=>?_)
 (first | refine EVL.publish [] [] rfl fun Gb hGb hbB=>?_ | refine EV.publish [] [] rfl fun Gb hGb hbB=>?_)
 have hG0b:=hG02.trans (hGa.trans hGb)
 refine EVG.start (Fits Gb) none ?_
 refine IF 0 ?_
 refine IRP 1 (b:=bA) (off:=0+1) (l:=[.slice va rows.length vc]) ?_ (hGb _ _ hbA) (fun j u hj=>by cases j with | zero=>exact hj | succ j=>simp at hj) rfl rfl
 refine IF 3 ?_
 refine IRP 4 (b:=bB) (off:=0+1) (l:=[.slice va2 rows2.length vc2]) ?_ hbB (fun j u hj=>by cases j with | zero=>exact hj | succ j=>simp at hj) rfl rfl
 refine EVG.one 2 (fitsI (Hp.Le.refl _)) kR rfl ?_
 refine EVL.callW rfl rfl rfl rfl rfl ([]) ([]) rfl (hc1 _ hG0b) ?_
 rintro _ ow1 G3 ⟨css,hcss,hown1,b1,rfl⟩ hG3
 refine EVL.nil ⟨rfl,?_⟩
 refine EVG.one 5 (fitsI hG3) kR rfl ?_
 refine EVL.callW rfl rfl rfl rfl rfl [] (ow1++[]) rfl (hc2 _ (hG0b.trans hG3)) ?_
 rintro _ ow2 G4 ⟨css2,hcss2,hown2,b2,rfl⟩ hG4
 (first | refine EVL.publishL [] ow2 (ow1++[]) (rfl) hown2 fun G5 hG5 hs5=>?_ | refine EV.publishL [] ow2 (ow1++[]) (rfl) hown2 fun G5 hG5 hs5=>?_)
 refine EVL.nil ⟨rfl,?_⟩
 refine EVG.one 6 (fitsI (hG3.trans (hG4.trans hG5))) kR rfl ?_
 refine EVL.appendR tO rfl rfl rfl rfl rfl rfl rfl rfl rfl rfl rfl rfl rfl [] ow1 [] rfl hown1 hs5 (slices_one hcss2) oM ?_
 intro v' ow' hown'
 obtain ⟨xa,xc,rfl⟩:=hown'.val
 refine EVL.nil ⟨rfl,?_⟩
 refine EVG.one 7 (fitsI (hG3.trans (hG4.trans hG5))) kR rfl ?_
 (try refine RUNL ?_)
 refine EVL.nil ⟨rfl,?_⟩
 refine EVG.nil (fitsI (hG3.trans (hG4.trans hG5))) kR ?_
 (first | refine EVL.publishL [] ow' [] (rfl) hown' fun G6 hG6 hs6=>?_ | refine EV.publishL [] ow' [] (rfl) hown' fun G6 hG6 hs6=>?_)
 have hG36:=hG3.trans (hG4.trans (hG5.trans hG6))
 refine EV.asRo 2 rfl (hG36 _ _ (hGb _ _ hbA)) ?_
 refine EV.asRo 3 rfl (hG36 _ _ hbB) ?_
 try refine RUN ?_
 refine EVL.call rfl rfl rfl rfl rfl (hcc _ (hG0b.trans (hG3.trans (hG4.trans (hG5.trans hG6))))) ?_
 rintro _ G7 hcol hG7
 obtain ⟨za,zc,rfl⟩:=hcol.val
 try refine RUN ?_
 refine .inl ⟨e,_,_,rfl,hcol,css++css2,(hcss.mono PRows.ok (hG4.trans (hG5.trans (hG6.trans hG7)))).app (hcss2.mono PRows.ok (hG5.trans (hG6.trans hG7))),?_⟩
 rw [List.length_append,List.flatten_append]
 exact hs6.mono hG7
section
variable {P:Program} {n:Nat} {ops:Array Oper} {o:Oper} {rest:List Oper} {env:Env} {bx:Bxs} {sb':Bxs} {H:Hs} {Q:EQ} {d:Nat}
end
section
variable {P:Program} {n:Nat} {ops:Array Oper} {o:Oper} {rest:List Oper} {env:Env} {bx:Bxs} {H:Hs} {Q:EQ} {d:Nat}
end
end Go.Proofs.YtbcfidllfimehaaGreatDoor
namespace Go.Proofs.YtbcfidllfimehaaGreatDoor
def mWords:List (List UInt8):=[[114,101,100],[103,114,101,101,110],[98,108,117,101],[119,95,49],[88,57]]
def mName (i:Nat) (n:Int):List UInt8:=[UInt8.ofNat (97+i),95]++([120,121,122]:List UInt8).drop (n % 3).toNat
def mCol (i:Nat) (n:Int):ColT:=if (n.tdiv 3) % 3=2 then ⟨mName i n,2,mWords.take (1+((n.tdiv 9) % 5).toNat)⟩ else ⟨mName i n,1,[]⟩
def mColsFrom:Nat→List Int→List ColT
 | _,[]=>[]
 | i,n::l=>mCol i n::mColsFrom (i+1) l
def mCols (l:List Int):List ColT:=if l=[] then [⟨[97],1,[]⟩] else mColsFrom 0 (l.take 6)
def mCell (c:ColT) (n:Int):CellT:=if n % 9=8 then ⟨true,0,0⟩ else if c.kind=1 then ⟨false,rNum (n.tdiv 9),0⟩ else ⟨false,0,((n.tdiv 9) % (c.words.length:Int)).toNat⟩
theorem mName_ok {i:Nat} (hi:i<6) (n:Int):isNm (mName i n)=true:=by
 have h:∀ (j:Fin 6) (k:Fin 3),isNm ([UInt8.ofNat (97+j.val),95]++([120,121,122]:List UInt8).drop k.val)=true:=by decide
 exact h ⟨i,hi⟩ ⟨(n % 3).toNat,by have:=Int.emod_lt_of_pos n (show (0:Int)<3 by decide);have:=Int.emod_nonneg n (show (3:Int)≠0 by decide);omega⟩
theorem mWords_ok (n:Int):(mWords.take (1+((n.tdiv 9) % 5).toNat)).all isNm=true∧(mWords.take (1+((n.tdiv 9) % 5).toNat)).Nodup∧1≤(mWords.take (1+((n.tdiv 9) % 5).toNat)).length∧(mWords.take (1+((n.tdiv 9) % 5).toNat)).length≤12:=by
 have h:∀ k:Fin 5,(mWords.take (1+k.val)).all isNm=true∧(mWords.take (1+k.val)).Nodup∧1≤(mWords.take (1+k.val)).length∧(mWords.take (1+k.val)).length≤12:=by decide
 exact h ⟨((n.tdiv 9) % 5).toNat,by have:=Int.emod_lt_of_pos (n.tdiv 9) (show (0:Int)<5 by decide);have:=Int.emod_nonneg (n.tdiv 9) (show (5:Int)≠0 by decide);omega⟩
theorem mCol_name (i:Nat) (n:Int):(mCol i n).name=mName i n:=by unfold mCol;split <;> rfl
theorem mCol_ok {i:Nat} (hi:i<6) (n:Int):(mCol i n).Ok:=by
 have hn:=mName_ok hi n
 obtain ⟨w1,w2,w3,w4⟩:=mWords_ok n
 refine ⟨by rw [mCol_name];exact hn,?_,?_,?_⟩
 ·unfold mCol
  split
  ·exact .inr ⟨rfl,w3,w4⟩
  ·exact .inl ⟨rfl,rfl⟩
 ·unfold mCol
  split
  ·exact fun w hw=>List.all_eq_true.1 w1 w hw
  ·intro w hw;cases hw
 ·unfold mCol
  split
  ·exact w2
  ·exact List.nodup_nil
theorem mFrom_mem:∀ (l:List Int) (i:Nat) (d:ColT),d∈mColsFrom i l→∃ (j:Nat) (n:Int),i≤j∧j<i+l.length∧d=mCol j n
 | [],_,d,h=>by cases h
 | n::l,i,d,h=>by
  rw [mColsFrom] at h
  rcases List.mem_cons.1 h with k | k
  ·exact ⟨i,n,Nat.le_refl _,by rw [List.length_cons];omega,k⟩
  ·obtain ⟨j,m,h1,h2,h3⟩:=mFrom_mem l (i+1) d k
   exact ⟨j,m,by omega,by rw [List.length_cons];omega,h3⟩
theorem mName_ne {i j:Nat} (h:i<j) (hj:j<6) (n m:Int):mName i n≠mName j m:=fun e=>by
 have h1:UInt8.ofNat (97+i)=UInt8.ofNat (97+j):=(List.cons.inj e).1
 have h2:=congrArg UInt8.toNat h1
 rw [UInt8.toNat_ofNat',UInt8.toNat_ofNat'] at h2
 omega
theorem mFrom_nodup:∀ (l:List Int) (i:Nat),i+l.length≤6→((mColsFrom i l).map ColT.name).Nodup
 | [],_,_=>List.nodup_nil
 | n::l,i,h=>by
  rw [List.length_cons] at h
  rw [mColsFrom,List.map_cons,List.nodup_cons]
  refine ⟨fun k=>?_,mFrom_nodup l (i+1) oM⟩
  obtain ⟨d,hd,e⟩:=List.mem_map.1 k
  obtain ⟨j,m,h1,h2,rfl⟩:=mFrom_mem l (i+1) d hd
  rw [mCol_name,mCol_name] at e
  exact mName_ne oM oM n m e.symm
theorem mFrom_len:∀ (l:List Int) (i:Nat),(mColsFrom i l).length=l.length
 | [],_=>rfl
 | n::l,i=>by rw [mColsFrom,List.length_cons,List.length_cons,mFrom_len l (i+1)]
theorem mCols_ok (l:List Int):(1≤(mCols l).length∧(mCols l).length≤6)∧(∀ c,c∈mCols l→c.Ok)∧((mCols l).map ColT.name).Nodup:=by
 unfold mCols
 by_cases h:l=[]
 ·rw [if_pos h]
  refine ⟨⟨by decide,by decide⟩,fun c hc=>?_,by decide⟩
  rw [List.mem_singleton.1 hc]
  exact ⟨by decide,.inl ⟨rfl,rfl⟩,fun w hw=>(by cases hw),List.nodup_nil⟩
 ·rw [if_neg h]
  have hl:(l.take 6).length≤6:=by rw [List.length_take];omega
  have h1:1≤(l.take 6).length:=by
   rw [List.length_take]
   have:=List.length_pos_iff.2 h
   omega
  refine ⟨by rw [mFrom_len];exact ⟨h1,hl⟩,fun c hc=>?_,mFrom_nodup _ 0 oM⟩
  obtain ⟨j,n,_,h2,rfl⟩:=mFrom_mem _ _ _ hc
  exact mCol_ok oM n
theorem mCell_ok {c:ColT} (hc:c.Ok) (n:Int):(mCell c n).Ok c:=by
 unfold mCell
 by_cases h:n % 9=8
 ·rw [if_pos h]
  exact ⟨fun _=>⟨rfl,rfl⟩,fun k=>(by cases k),fun k=>(by cases k)⟩
 ·rw [if_neg h]
  by_cases hk:c.kind=1
  ·rw [if_pos hk]
   exact ⟨fun k=>(by cases k),fun _ _=>⟨rfl,Nat.le_trans (ht_rNum _) oM⟩,fun _ k=>absurd hk k⟩
  ·rw [if_neg hk]
   have hl:1≤c.words.length:=by
    rcases hc.kind with ⟨q,_⟩ | ⟨_,q,_⟩
    ·exact absurd q hk
    ·exact q
   refine ⟨fun k=>(by cases k),fun _ k=>absurd k hk,fun _ _=>⟨rfl,?_⟩⟩
   have h1:=Int.emod_lt_of_pos (n.tdiv 9) (show (0:Int)<(c.words.length:Int) by omega)
   have h2:=Int.emod_nonneg (n.tdiv 9) (show (c.words.length:Int)≠0 by omega)
   show ((n.tdiv 9) % (c.words.length:Int)).toNat<c.words.length
   omega
end Go.Proofs.YtbcfidllfimehaaGreatDoor
namespace Go.Proofs.YtbcfidllfimehaaGreatDoor
theorem joinL_len {c:UInt8} {B:Nat}:∀ {l:List (List UInt8)},(∀ w,w∈l→w.length≤B)→(joinL c l).length≤l.length*(B+1)
 | [],_=>Nat.zero_le _
 | [w],h=>by
  have:=h w (List.mem_cons_self ..)
  show w.length≤1*(B+1)
  omega
 | w::v::r,h=>by
  have h1:=h w (List.mem_cons_self ..)
  have h2:=joinL_len (c:=c) (l:=v::r) fun u hu=>h u (List.mem_cons_of_mem _ hu)
  rw [joinL,List.length_append,List.length_cons,List.length_cons,Nat.add_mul]
  rw [List.length_cons] at h2
  rw [List.length_cons]
  omega
theorem fracT_len5 {q:Rat} (h:ht q≤5):(fracT q).length≤9:=by
 have b1:bl q.num.natAbs≤5:=Nat.le_trans (Nat.le_max_left _ _) h
 have b2:bl q.den≤5:=Nat.le_trans (Nat.le_max_right _ _) h
 have d1:=decD_len10 2 q.num.natAbs (Nat.lt_of_lt_of_le (Nat.lt_of_lt_of_le (lt_bl _) (Nat.pow_le_pow_right oM b1)) (by decide))
 have d2:=decD_len10 2 q.den (Nat.lt_of_lt_of_le (Nat.lt_of_lt_of_le (lt_bl _) (Nat.pow_le_pow_right oM b2)) (by decide))
 have hw:(wtL q.num).length≤4:=by
  unfold wtL
  rw [List.length_append]
  split
  ·rw [List.length_singleton];omega
  ·rw [List.length_nil];omega
 unfold fracT
 split
 ·omega
 ·rw [List.length_append,List.length_append,List.length_singleton];omega
structure ColS (c:ColT):Prop where
 name:c.name.length≤5
 num:c.words.length≤5
 words:∀ w,w∈c.words→w.length≤5
theorem mWords_len:∀ w,w∈mWords→w.length≤5:=by decide
theorem mCol_s (i:Nat) (n:Int):ColS (mCol i n):=by
 have hn:(mName i n).length≤5:=by
  unfold mName
  rw [List.length_append,List.length_drop]
  show 2+(3-_)≤5
  omega
 unfold mCol
 split
 ·refine ⟨hn,?_,fun w hw=>mWords_len w (List.mem_of_mem_take hw)⟩
  show (mWords.take _).length≤5
  rw [List.length_take]
  exact Nat.min_le_right _ _
 ·exact ⟨hn,Nat.zero_le _,fun w hw=>(by cases hw)⟩
theorem mCols_s (l:List Int):∀ c,c∈mCols l→ColS c:=fun c hc=>by
 unfold mCols at hc
 split at hc
 ·rw [List.mem_singleton.1 hc]
  exact ⟨by decide,by decide,fun w hw=>(by cases hw)⟩
 ·obtain ⟨j,n,_,_,rfl⟩:=mFrom_mem _ _ _ hc
  exact mCol_s j n
theorem tCol_len {c:ColT} (h:ColS c):(tCol c).length≤50:=by
 have h1:=joinL_len (c:=124) (B:=5) h.words
 have h2:=h.num
 have h3:=h.name
 unfold tCol
 rw [List.length_append,List.length_cons]
 split
 ·show c.name.length+(6+1)≤50
  omega
 ·rw [List.length_append,List.length_append,List.length_singleton]
  show c.name.length+(7+((joinL 124 c.words).length+1)+1)≤50
  omega
theorem mCell_len {c:ColT} (hc:c.Ok) (hs:ColS c) (n:Int):(tCell c (mCell c n)).length≤9:=by
 have hk:=mCell_ok hc n
 generalize hx:mCell c n=x at *
 have hq:x.lacks=false→c.kind=1→ht x.q≤5:=fun q1 q2=>by
  rw [← hx] at q1 ⊢
  unfold mCell at q1 ⊢
  split at q1
  ·cases q1
  ·rename_i h8
   rw [if_neg h8,if_pos q2]
   exact ht_rNum _
 unfold tCell
 split
 ·show 1≤9;decide
 ·rename_i hl
  have hl':x.lacks=false:=by simpa using hl
  split
  ·rename_i h1
   exact fracT_len5 (hq hl' h1)
  ·rename_i h1
   obtain ⟨_,h2⟩:=hk.word hl' h1
   rw [List.getD_eq_getElem?_getD,List.getElem?_eq_getElem h2]
   exact Nat.le_trans (hs.words _ (List.getElem_mem h2)) (by decide)
theorem tSheet_len {cs:List ColT} {rows:List (List CellT)} (h1:cs.length≤6) (h2:rows.length≤12) (h3:∀ c,c∈cs→ColS c) (h4:∀ row,row∈rows→∀ w,w∈List.zipWith tCell cs row→w.length≤9):(tSheet cs rows).length≤5000:=by
 have a1:(joinL 44 (cs.map tCol)).length≤306:=by
  have:=joinL_len (c:=44) (B:=50) (l:=cs.map tCol) fun w hw=>by
   obtain ⟨c,hc,e⟩:=List.mem_map.1 hw
   rw [← e];exact tCol_len (h3 c hc)
  rw [List.length_map] at this
  omega
 have a2:∀ row,row∈rows→(tRow cs row).length≤306:=fun row hr=>by
  have:=joinL_len (c:=44) (B:=9) (l:=List.zipWith tCell cs row) (h4 row hr)
  have hz:(List.zipWith tCell cs row).length≤cs.length:=by rw [List.length_zipWith];exact Nat.min_le_left _ _
  unfold tRow
  omega
 have a3:=joinL_len (c:=10) (B:=306) (l:=joinL 44 (cs.map tCol)::rows.map (tRow cs)) fun w hw=>by
  rcases List.mem_cons.1 hw with q | q
  ·rw [q];exact a1
  ·obtain ⟨row,hr,e⟩:=List.mem_map.1 q
   rw [← e];exact a2 row hr
 rw [List.length_cons,List.length_map] at a3
 unfold tSheet
 rw [List.length_append,List.length_singleton]
 omega
end Go.Proofs.YtbcfidllfimehaaGreatDoor
namespace Go.Proofs.YtbcfidllfimehaaGreatDoor
open Go.RowKit _root_.Go.Proofs.Tryz
abbrev i64b (z:Int):Prop:=-9223372036854775808≤z∧z<9223372036854775808
theorem tdiv_in {z k:Int} (hz:i64b z) (hk:1≤k):i64b (z.tdiv k):=by
 by_cases h:0≤z
 ·rw [Int.tdiv_eq_ediv_of_nonneg h]
  have h1:=Int.ediv_le_self k h
  have h2:=Int.ediv_nonneg h (show 0≤k by omega)
  exact ⟨by omega,by omega⟩
 ·have e:z.tdiv k = -((-z) / k):=by rw [← Int.tdiv_eq_ediv_of_nonneg oM,Int.neg_tdiv,Int.neg_neg]
  have h1:=Int.ediv_le_self k (show 0 ≤ -z by omega)
  have h2:=Int.ediv_nonneg (show 0 ≤ -z by omega) (show 0≤k by omega)
  rw [e]
  exact ⟨by omega,by omega⟩
theorem wtdiv {z k:Int} (hz:i64b z) (hk:1≤k):IntKind.i64.wrap (z.tdiv k)=z.tdiv k:=by
 have:=tdiv_in hz hk
 rw [IntKind.wrap_i64];omega
theorem mFrom_snoc (n:Int):∀ (l:List Int) (i:Nat),mColsFrom i (l++[n])=mColsFrom i l++[mCol (i+l.length) n]
 | [],i=>rfl
 | m::l,i=>by
  rw [List.cons_append,mColsFrom,mFrom_snoc n l (i+1),mColsFrom,List.length_cons,List.cons_append,show i+1+l.length=i+(l.length+1) by omega]
def abcB:List UInt8:=[97,98,99,100,101,102]
theorem abc_at {i:Nat} (h:i<6):(abcB.drop i).take (i+1-i)=[UInt8.ofNat (97+i)]:=by
 have:∀ j:Fin 6,(abcB.drop j.val).take (j.val+1-j.val)=[UInt8.ofNat (97+j.val)]:=by decide
 exact this ⟨i,h⟩
theorem words_sl {G:Hp} {b:Nat} (h:G b=some (mWords.map strV).toArray):SL G (.slice (some ⟨b,0,none⟩) 5 5) mWords :=
 ⟨rfl,.inr ⟨b,0,5,_,rfl,Nat.le_refl _,h,fun j x hj=>by rw [Nat.zero_add];simpa using hj⟩⟩
set_option maxRecDepth 100000 in
set_option maxHeartbeats 32000000 in
theorem mCols_pc {H:Hp} {v:Value} {l:List Int} (hv:IL H v l) (hb:∀ z,z∈l→i64b z):PC prog 38 #[v] H fun r H'=>ColL H' r (mCols l):=by
 obtain ⟨a,c,rfl⟩:=SlC.val hv
 refine BD func38 ntmps38 ?_
 try refine RUN ?_
 refine EVL.lit tO rfl rfl rfl rfl rfl rfl rfl rfl rfl rfl rfl fun b1=>?_
 (first | refine EVL.publish [] [] rfl fun G0 hG0 hb1=>?_ | refine EV.publish [] [] rfl fun G0 hG0 hb1=>?_)
 have hw:=words_sl hb1
 try refine RUN ?_
 refine EV.loopK (ι:=Nat × Value × List (List Value) × Ows) [0,4] [] (fun q=>[(3,.v q.2.1),(5,.v (.int .i64 (q.1:Int)))]) (fun _=>[]) (fun q=>q.2.2.2) (fun q G=>q.1≤l.length∧q.1≤6∧LsR SCol G q.2.2.1 (mColsFrom 0 (l.take q.1))∧OwnL 64 3 q.2.1 q.1 q.2.2.1.flatten q.2.2.2) (fun q=>l.length-q.1) ((0,.slice none 0 0,[],[])) rfl rfl ⟨rfl,rfl,trivial⟩ trivial rfl (fun _=>rfl) (⟨Nat.zero_le _,Nat.zero_le _,LsR.nil,OwnL.nil _ _⟩) ?_
 rintro ⟨i,u,css,ow⟩ G1 hG1 ⟨hi,hi6,hcs,hown⟩
 dsimp only at hi hi6 hcs hown
 obtain ⟨ua,uc,rfl⟩:=hown.val
 try refine RUN ?_
 generalize hB:decide (i<l.length∧i<6)=B
 refine EVL.meetK (ι:=Unit) [0,3,4,5] [] (fun _=>[(15,.v (.bool B))]) (fun _=>[]) (fun _=>ow) (fun _ G=>G1.Le G) rfl rfl (fun _=>rfl) ?_ ?_
 ·by_cases d1:i<l.length
  ·rw [decide_eq_true (show (i:Int)<(l.length:Int) by omega)]
   try refine RUN ?_
   by_cases d2:i<6
   ·rw [decide_eq_true (show (i:Int)<6 by omega)]
    rw [decide_eq_true ⟨d1,d2⟩] at hB
    subst hB
    try refine RUN ?_
    exact ⟨(),⟨rfl,trivial⟩,sB,trivial,sB,rfl,Hp.Le.refl _⟩
   ·rw [decide_eq_false (show ¬ (i:Int)<6 by omega)]
    rw [decide_eq_false (fun k=>d2 k.2)] at hB
    subst hB
    try refine RUN ?_
    exact ⟨(),⟨rfl,trivial⟩,sB,trivial,sB,rfl,Hp.Le.refl _⟩
  ·rw [decide_eq_false (show ¬ (i:Int)<(l.length:Int) by omega)]
   rw [decide_eq_false (fun k=>d1 k.1)] at hB
   subst hB
   try refine RUN ?_
   exact ⟨(),⟨rfl,trivial⟩,sB,trivial,sB,rfl,Hp.Le.refl _⟩
 rintro _ G2 hG2
 cases B with
 | true =>
  obtain ⟨hil,h6⟩:=of_decide_eq_true hB
  obtain ⟨z,hz⟩:∃ z,l[i]?=some z:=⟨_,List.getElem?_eq_getElem hil⟩
  have hzb:=hb z (List.mem_of_getElem? hz)
  have hv2:=hv.mono (hG0.trans (hG1.trans hG2))
  have hat:(l.map iv)[i]?=some (iv z):=by rw [List.getElem?_map,hz];rfl
  obtain ⟨j3,hj3⟩:=Int.eq_ofNat_of_zero_le (Int.emod_nonneg z (show (3:Int)≠0 by decide))
  have hj3l:=Int.emod_lt_of_pos z (show (0:Int)<3 by decide)
  have p3:=pick_pv z 3 hzb (by decide) (by decide)
  have q3:=pick_pv (z.tdiv 3) 3 (tdiv_in hzb (by decide)) (by decide) (by decide)
  have q9:=pick_pv (z.tdiv 9) 5 (tdiv_in hzb (by decide)) (by decide) (by decide)
  have w3:=wtdiv (k:=3) hzb (by decide)
  have w9:=wtdiv (k:=9) hzb (by decide)
  rw [hj3] at p3 hj3l
  have wn:IntKind.i64.wrap ((i:Int)+1)=((i+1:Nat):Int):=wi_inc i oM
  have hnm:[UInt8.ofNat (97+i)]++[95]++([120,121,122]:List UInt8).drop j3=mName i z:=by
   unfold mName
   rw [hj3];rfl
  try refine RUN ?_
  apply EV.drawn 15 kR kR;intro xv yw
  (repeat refine' DD ?_)
  rw [wn]
  refine' DJ.strSlc (s:=⟨#[97,98,99,100,101,102]⟩) rfl rfl rfl rfl kR rfl i (i+1) (.inr ⟨_,IntKind.i64,rfl,rfl⟩) (.inr ⟨_,IntKind.i64,rfl,rfl⟩) oM (show i+1≤6 by omega) ?_;rotate_left
  rw [show (⟨#[97,98,99,100,101,102]⟩:ByteArray)=sb abcB from rfl,sb_cut,abc_at h6]
  refine' DJ.cat [UInt8.ofNat (97+i)] [95] rfl rfl rfl rfl rfl rfl (Nat.le_of_ble_eq_true rfl) (Nat.le_of_ble_eq_true rfl) ?_;rotate_left
  (repeat refine' DD ?_)
  refine' DJ.ofVal (ValOk.idx1 tO rfl rfl rfl rfl rfl rfl rfl rfl (hv2) (i) (rfl) (hil) (hat)) rfl rfl rfl ?_;rotate_left
  (repeat (first | refine' DD ?_ | (refine' DC (p3) (h:=?_);rotate_left)))
  refine' DJ.strSlc (s:=⟨#[120,121,122]⟩) rfl rfl rfl rfl kR rfl j3 3 (.inr ⟨_,IntKind.i64,rfl,rfl⟩) (.inl ⟨rfl,rfl⟩) oM (Nat.le_refl 3) ?_;rotate_left
  rw [show (⟨#[120,121,122]⟩:ByteArray)=sb [120,121,122] from rfl,sb_cut,List.take_of_length_le (l:=([120,121,122]:List UInt8).drop j3) (by rw [List.length_drop];exact Nat.le_refl _)]
  refine' DJ.cat ([UInt8.ofNat (97+i)]++[95]) (([120,121,122]:List UInt8).drop j3) rfl rfl rfl rfl rfl rfl (Nat.le_of_ble_eq_true rfl) (by rw [List.length_drop];show 3-j3≤_;omega) ?_;rotate_left
  rw [hnm]
  (repeat refine' DD ?_)
  (refine DJ.nil (fun G3 hG3 hF3=>?_);(case hS|hS2=>rfl))
  have hG13:=hG2.trans hG3
  have hsn:mColsFrom 0 (l.take (i+1))=mColsFrom 0 (l.take i)++[mCol i z]:=by
   rw [take_snoc hz,mFrom_snoc,List.length_take,Nat.min_eq_left hi,Nat.zero_add]
  try refine RUN ?_
  refine EVL.idxR tO rfl rfl rfl rfl rfl rfl rfl rfl rfl rfl ((hv2.mono hG3)) (i) (rfl) (hil) (hat) ?_
  try refine RUN ?_
  rw [w3]
  repeat (first | refine RUN ?_ | refine CV (q3) ?_ | refine CE (q3) ?_)
  by_cases h2:z.tdiv 3 % 3=2
  ·rw [show (z.tdiv 3 % 3 == 2)=true from beq_iff_eq.2 h2]
   obtain ⟨j9,hj9⟩:=Int.eq_ofNat_of_zero_le (Int.emod_nonneg (z.tdiv 9) (show (5:Int)≠0 by decide))
   have hj9l:=Int.emod_lt_of_pos (z.tdiv 9) (show (0:Int)<5 by decide)
   rw [hj9] at q9 hj9l
   have wk:IntKind.i64.wrap (1+(j9:Int))=((1+j9:Nat):Int):=by rw [IntKind.wrap_i64];omega
   have hc:mCol i z=⟨mName i z,2,mWords.take (1+j9)⟩:=by
    unfold mCol
    rw [if_pos h2,hj9];rfl
   have hkl:(mWords.take (1+j9)).length=1+j9:=by rw [List.length_take];show min (1+j9) 5=_;omega
   try refine RUN ?_
   refine EVL.idxR tO rfl rfl rfl rfl rfl rfl rfl rfl rfl rfl ((hv2.mono hG3)) (i) (rfl) (hil) (hat) ?_
   try refine RUN ?_
   rw [w9]
   repeat (first | refine RUN ?_ | refine CV (q9) ?_ | refine CE (q9) ?_)
   rw [wk]
   refine EVL.slc (te':=Tryz.te9) tO rfl rfl rfl rfl rfl rfl rfl rfl 0 (1+j9) (.inl ⟨rfl,rfl⟩) (.inr ⟨_,IntKind.i64,rfl,rfl⟩) (Nat.zero_le _) oM (Nat.le_refl 5) ?_
   rw [show 1+j9-0=(mWords.take (1+j9)).length by rw [hkl];rfl]
   try refine RUN ?_
   refine EVL.app1 tO rfl rfl rfl rfl rfl rfl rfl rfl rfl rfl rfl rfl rfl rfl rfl rfl rfl rfl rfl (fun _=>rfl) (ow) ([]) ((List.append_nil _).symm) (hown) oM fun _=>?_
   intro v' ow' hown'
   try refine RUN ?_
   rw [wn]
   have hpre:=(hw.mono (hG1.trans hG13)).pre (1+j9) (by show 1+j9≤5;omega) 1
   rw [show 1+j9-0=(mWords.take (1+j9)).length by rw [hkl];rfl] at hpre
   exact ⟨(i+1,v',css++[_],ow'),⟨rfl,rfl,trivial⟩,sB,trivial,sB,List.append_nil _,⟨hil,by dsimp only;omega,by dsimp only;rw [hsn,hc];exact (hcs.mono SCol.ok hG13).snoc ⟨_,_,hpre,rfl⟩,by dsimp only;rw [flatSn];exact hown'⟩,hG13,by dsimp only;omega⟩
  ·rw [show (z.tdiv 3 % 3 == 2)=false from beq_eq_false_iff_ne.2 h2]
   have hc:mCol i z=⟨mName i z,1,[]⟩:=by unfold mCol;rw [if_neg h2]
   try refine RUN ?_
   refine EVL.app1 tO rfl rfl rfl rfl rfl rfl rfl rfl rfl rfl rfl rfl rfl rfl rfl rfl rfl rfl rfl (fun _=>rfl) (ow) ([]) ((List.append_nil _).symm) (hown) oM fun _=>?_
   intro v' ow' hown'
   try refine RUN ?_
   rw [wn]
   exact ⟨(i+1,v',css++[_],ow'),⟨rfl,rfl,trivial⟩,sB,trivial,sB,List.append_nil _,⟨hil,by dsimp only;omega,by dsimp only;rw [hsn,hc];exact (hcs.mono SCol.ok hG13).snoc ⟨none,0,nil_sl _ _,rfl⟩,by dsimp only;rw [flatSn];exact hown'⟩,hG13,by dsimp only;omega⟩
 | false =>
  have hno:=of_decide_eq_false hB
  have htake:l.take 6=l.take i:=by
   by_cases q:i=6
   ·rw [q]
   ·have:i=l.length:=by
     by_cases q2:i<l.length
     ·exact absurd ⟨q2,by omega⟩ hno
     ·omega
    rw [this,List.take_length,List.take_of_length_le (by omega)]
  try refine RUN ?_
  by_cases h0:i=0
  ·subst h0
   rw [show (((0:Nat):Int) == 0)=true from rfl]
   have hl0:l=[]:=by
    rw [List.take_zero] at htake
    rcases l with _ | ⟨y,l⟩
    ·rfl
    ·cases htake
   try refine RUN ?_
   refine EVL.lit tO rfl rfl rfl rfl rfl rfl rfl rfl rfl rfl rfl fun b2=>?_
   (first | refine EVL.publish [] (ow) rfl fun G3 hG3 hb2=>?_ | refine EV.publish [] (ow) rfl fun G3 hG3 hb2=>?_)
   try refine RUN ?_
   have e:mCols l=[⟨[97],1,[]⟩]:=by unfold mCols;rw [if_pos hl0]
   rw [e]
   refine ⟨[[strV [97],.int .i64 1,.slice none 0 0]],LsR.nil.snoc ⟨none,0,nil_sl _ _,rfl⟩,rfl,.inr ⟨b2,0,1,_,rfl,Nat.le_refl _,hb2,fun j x hj=>?_⟩⟩
   rw [Nat.zero_add];simpa using hj
  ·rw [show ((i:Int) == 0)=false from beq_eq_false_iff_ne.2 (by omega)]
   (first | refine EVL.publishL [] ow [] ((List.append_nil _).symm) hown fun G3 hG3 hs3=>?_ | refine EV.publishL [] ow [] ((List.append_nil _).symm) hown fun G3 hG3 hs3=>?_)
   try refine RUN ?_
   have hlen:i=(mColsFrom 0 (l.take i)).length:=by rw [mFrom_len,List.length_take];omega
   have e:mCols l=mColsFrom 0 (l.take i):=by
    unfold mCols
    rw [if_neg,htake]
    rintro rfl
    rw [List.length_nil] at hi
    omega
   rw [e]
   exact ⟨css,hcs.mono SCol.ok (hG2.trans hG3),by rw [← hlen];exact hs3⟩
set_option maxRecDepth 100000 in
set_option maxHeartbeats 8000000 in
theorem mCell_pc {H:Hp} {cs:List Value} {c:ColT} (hc:SCol H cs c) (n:Int) (hn:i64b n) (hk:c.kind≠1→1≤c.words.length) (hw:c.words.length≤1000000):PC prog 39 #[.agg cs.toArray,.int .i64 n] H fun r H'=>∃ cs',r=.agg cs'.toArray∧RCell H' cs' (mCell c n):=by
 have hof:=fun G:Hp=>refOf_pc (H:=G) 0 oM oM
 have p9:=pick_pv n 9 hn (by decide) (by decide)
 have w9:=wtdiv (k:=9) hn (by decide)
 have hm:mCell c n=if n % 9=8 then ⟨true,0,0⟩ else if c.kind=1 then ⟨false,rNum (n.tdiv 9),0⟩ else ⟨false,0,((n.tdiv 9) % (c.words.length:Int)).toNat⟩:=rfl
 obtain ⟨a,m,hws,rfl⟩:=hc
 refine BD func39 ntmps39 ?_
 repeat (first | refine RUN ?_ | refine CV (p9) ?_ | refine CE (p9) ?_)
 by_cases h8:n % 9=8
 ·rw [show (n % 9 == 8)=true from beq_iff_eq.2 h8]
  rw [if_pos h8] at hm
  try refine RUN ?_
  refine EVL.call rfl rfl rfl rfl rfl (hof _) ?_
  rintro w G1 hw1 hG1
  obtain ⟨ra,rl,rc,xa,xl,xc,rfl⟩:=rq_form hw1
  try refine RUN ?_
  rw [hm]
  exact ⟨_,rfl,rcell_of hw1 true 0⟩
 rw [show (n % 9 == 8)=false from beq_eq_false_iff_ne.2 h8]
 rw [if_neg h8] at hm
 try refine RUN ?_
 by_cases k1:c.kind=1
 ·rw [show ((c.kind:Int) == 1)=true by rw [k1];rfl]
  rw [if_pos k1] at hm
  try refine RUN ?_
  rw [w9]
  refine EVL.call rfl rfl rfl rfl rfl (r_pc (n.tdiv 9) (tdiv_in hn (by decide))) ?_
  rintro w G1 hw1 hG1
  obtain ⟨ra,rl,rc,xa,xl,xc,rfl⟩:=rq_form hw1
  try refine RUN ?_
  rw [hm]
  exact ⟨_,rfl,rcell_of hw1 false 0⟩
 rw [show ((c.kind:Int) == 1)=false from beq_eq_false_iff_ne.2 (by omega)]
 rw [if_neg k1] at hm
 have hk1:=hk k1
 have pk:=pick_pv (n.tdiv 9) (c.words.length:Int) (tdiv_in hn (by decide)) oM oM
 obtain ⟨j,hj⟩:=Int.eq_ofNat_of_zero_le (Int.emod_nonneg (n.tdiv 9) (show (c.words.length:Int)≠0 by omega))
 rw [hj] at pk hm
 try refine RUN ?_
 apply EV.drawn 7 kR kR;intro xv yw
 refine' DJ.call rfl rfl rfl rfl rfl (cO func86) (fun G hG hd=>hof G) (fun _ _ _ h k=>RQ.mono h k) ?_;rotate_left
 (repeat refine' DD ?_)
 rw [w9]
 (repeat (first | refine' DD ?_ | (refine' DC (pk) (h:=?_);rotate_left)))
 (refine DJ.nil (fun G2 hG2 hF2=>?_);(case hS|hS2=>rfl))
 have hw1:RQ G2 (xv 0) ((0:Int):Rat):=hF2.1
 obtain ⟨ra,rl,rc,xa,xl,xc,e⟩:=rq_form hw1
 rw [e] at hw1
 rw [e]
 try refine RUN ?_
 rw [hm]
 exact ⟨_,rfl,rcell_of hw1 false j⟩
def rawAt (cells:List Int) (w i k:Nat):Int:=cells.getD (i*w+k) ((i:Int)*7+(k:Int)*3)
def mRow (cells:List Int) (cols:List ColT) (i:Nat):List CellT:=cols.mapIdx fun k c=>mCell c (rawAt cells cols.length i k)
def mRows (cells:List Int) (cols:List ColT) (n:Nat):List (List CellT):=(List.range n).map (mRow cells cols)
theorem rawAt_b {cells:List Int} (hb:∀ z,z∈cells→i64b z) {w i k:Nat} (hi:i≤1000) (hk:k≤1000):i64b (rawAt cells w i k):=by
 unfold rawAt
 rw [List.getD_eq_getElem?_getD]
 cases h:cells[i*w+k]? with
 | none=>exact ⟨by show _≤(i:Int)*7+(k:Int)*3;omega,by show (i:Int)*7+(k:Int)*3<_;omega⟩
 | some z=>exact hb z (List.mem_of_getElem? h)
set_option maxRecDepth 100000 in
set_option maxHeartbeats 32000000 in
theorem mSheet_pc {H:Hp} {u v:Value} {cols cells:List Int} {rows:Int} (hu:IL H u cols) (hv:IL H v cells) (hbu:∀ z,z∈cols→i64b z) (hbv:∀ z,z∈cells→i64b z) (hr:i64b rows):PC prog 10 #[.agg #[u,v,.int .i64 rows]] H fun r H'=>∃ x y,r=.agg #[x,y]∧ColL H' x (mCols cols)∧RRows H' y (mRows cells (mCols cols) (rows % 13).toNat):=by
 have hC:=fun G (hG:H.Le G)=>mCols_pc (hu.mono hG) hbu
 have p13:=pick_pv rows 13 hr (by decide) (by decide)
 obtain ⟨R,hR⟩:=Int.eq_ofNat_of_zero_le (Int.emod_nonneg rows (show (13:Int)≠0 by decide))
 have hRl:=Int.emod_lt_of_pos rows (show (0:Int)<13 by decide)
 rw [hR] at p13 hRl
 rw [hR,Int.toNat_natCast]
 obtain ⟨⟨hc1,hc6⟩,hcok,_⟩:=mCols_ok cols
 have hcs:=mCols_s cols
 obtain ⟨a1,c1,rfl⟩:=SlC.val hu
 obtain ⟨a2,c2,rfl⟩:=SlC.val hv
 generalize mCols cols=C at *
 refine BD func10 ntmps10 ?_
 try refine RUN ?_
 refine EVL.call rfl rfl rfl rfl rfl (hC _ (Hp.Le.refl _)) ?_
 rintro _ G1 hcol hG1
 obtain ⟨xa,xc,rfl⟩:=hcol.val
 try refine RUN ?_
 refine EV.loopK (ι:=Nat × Value × List (List Value) × Ows) [1,2,3] [1,2] (fun q=>[(4,.v (.int .i64 ((q.1*C.length:Nat):Int))),(5,.v (.int .i64 (q.1:Int)))]) (fun q=>[(3,30,[.slice xa C.length xc,q.2.1])]) (fun q=>q.2.2.2) (fun q G=>q.1≤R∧LsR (Cel RRow) G q.2.2.1 (mRows cells C q.1)∧OwnL 58 1 q.2.1 q.1 q.2.2.1.flatten q.2.2.2) (fun q=>R-q.1) ((0,.slice none 0 0,[],[])) rfl rfl ⟨by dsimp only;rw [Nat.zero_mul];rfl,rfl,trivial⟩ ⟨rfl,trivial⟩ rfl (fun _=>rfl) (⟨Nat.zero_le _,LsR.nil,OwnL.nil _ _⟩) ?_
 rintro ⟨i,w,css,ow⟩ G2 hG2 ⟨hi,hrs,hown⟩
 dsimp only at hi hrs hown
 obtain ⟨wa,wc,rfl⟩:=hown.val
 repeat (first | refine RUN ?_ | refine CV (p13) ?_ | refine CE (p13) ?_)
 refine EV.cond rfl (fun hlt=>?_) (fun hlt=>?_)
 ·simp only [nN] at hlt
  have hiw:i*C.length≤72:=Nat.le_trans (Nat.mul_le_mul (show i≤12 by omega) hc6) (by decide)
  try refine RUN ?_
  refine EV.loopK (ι:=Nat × Value × List (List Value) × Ows) [1,2,3,5] [1,2,3] (fun q=>[(4,.v (.int .i64 ((i*C.length+q.1:Nat):Int))),(6,.v q.2.1),(7,.v (.int .i64 (q.1:Int)))]) (fun _=>[]) (fun q=>q.2.2.2++ow) (fun q G=>q.1≤C.length∧LsR RCell G q.2.2.1 ((mRow cells C i).take q.1)∧OwnL 98 5 q.2.1 q.1 q.2.2.1.flatten q.2.2.2) (fun q=>C.length-q.1) ((0,.slice none 0 0,[],[])) rfl rfl ⟨rfl,rfl,rfl,trivial⟩ trivial rfl (fun _=>rfl) (⟨Nat.zero_le _,LsR.nil,OwnL.nil _ _⟩) ?_
  rintro ⟨k,ru,css2,ow2⟩ G3 hG3 ⟨hk,hrs2,hown2⟩
  dsimp only at hk hrs2 hown2
  obtain ⟨za,zc,rfl⟩:=hown2.val
  try refine RUN ?_
  refine EV.cond rfl (fun hlt2=>?_) (fun hlt2=>?_)
  ·simp only [nN] at hlt2
   obtain ⟨c,hc⟩:∃ c,C[k]?=some c:=⟨_,List.getElem?_eq_getElem hlt2⟩
   have hH:=hG1.trans (hG2.trans hG3)
   have e7:IntKind.i64.wrap (IntKind.i64.wrap ((i:Int)*7)+IntKind.i64.wrap ((k:Int)*3))=(i:Int)*7+(k:Int)*3:=by rw [IntKind.wrap_i64,IntKind.wrap_i64,IntKind.wrap_i64];omega
   have wn:IntKind.i64.wrap (((i*C.length+k:Nat):Int)+1)=((i*C.length+(k+1):Nat):Int):=by rw [IntKind.wrap_i64];omega
   have wk:IntKind.i64.wrap ((k:Int)+1)=((k+1:Nat):Int):=wi_inc k oM
   try refine RUN ?_
   rw [e7]
   refine EV.meetK (ι:=Unit) [1,2,3,4,5,6,7] [1,2,3] (fun _=>[(8,.v (.int .i64 (rawAt cells C.length i k)))]) (fun _=>[]) (fun _=>ow2++ow) (fun _ G=>G3.Le G) rfl rfl (fun _=>rfl) ?_ ?_
   ·by_cases d1:i*C.length+k<cells.length
    ·rw [decide_eq_true (show ((i*C.length+k:Nat):Int)<(cells.length:Int) by omega)]
     obtain ⟨z,hz⟩:∃ z,cells[i*C.length+k]?=some z:=⟨_,List.getElem?_eq_getElem d1⟩
     have hraw:rawAt cells C.length i k=z:=by unfold rawAt;rw [List.getD_eq_getElem?_getD,hz];rfl
     rw [hraw]
     try refine RUN ?_
     refine EVL.idxR tO rfl rfl rfl rfl rfl rfl rfl rfl rfl rfl ((hv.mono hH)) ((i*C.length+k)) (rfl) (d1) ((by rw [List.getElem?_map,hz];rfl)) ?_
     try refine RUN ?_
     exact ⟨(),⟨rfl,trivial⟩,sB,trivial,sB,rfl,Hp.Le.refl _⟩
    ·rw [decide_eq_false (show ¬ ((i*C.length+k:Nat):Int)<(cells.length:Int) by omega)]
     have hraw:rawAt cells C.length i k=(i:Int)*7+(k:Int)*3:=by unfold rawAt;rw [List.getD_eq_getElem?_getD,List.getElem?_eq_none (by omega)];rfl
     rw [hraw]
     try refine RUN ?_
     exact ⟨(),⟨rfl,trivial⟩,sB,trivial,sB,rfl,Hp.Le.refl _⟩
   rintro _ G4 hG4
   have hraw:=rawAt_b hbv (w:=C.length) (i:=i) (k:=k) oM oM
   have hrow:(mRow cells C i)[k]?=some (mCell c (rawAt cells C.length i k)):=by unfold mRow;rw [List.getElem?_mapIdx,hc];rfl
   obtain ⟨dcs,hdcs,hdsl⟩:=hcol.mono SCol.ok (hG2.trans (hG3.trans hG4))
   obtain ⟨cc,hcut,hcc⟩:=hdcs.get SCol.ok hc
   have hcell:=mCell_pc hcc (rawAt cells C.length i k) hraw (fun q=>by
    rcases (hcok c (List.mem_of_getElem? hc)).kind with ⟨q1,_⟩ | ⟨_,q1,_⟩
    ·exact absurd q1 q
    ·exact q1) (Nat.le_trans (hcs c (List.mem_of_getElem? hc)).num (by decide))
   generalize rawAt cells C.length i k=z at *
   obtain ⟨a9,n9,_,rfl⟩:=hcc
   try refine RUN ?_
   rw [wn]
   refine EVL.idxM tO rfl rfl rfl rfl rfl rfl rfl rfl rfl (hdsl) (k) (rfl) (hlt2) (hcut) ?_
   try refine RUN ?_
   refine EVL.call rfl rfl rfl rfl rfl (hcell) ?_
   rintro _ G5 ⟨cs5,rfl,hcr⟩ hG5
   obtain ⟨yw,hyw,rfl⟩:=id hcr
   obtain ⟨ra,rl,rc,ya,yl,yc,rfl⟩:=rq_form hyw
   try refine RUN ?_
   refine EVL.app1 tO rfl rfl rfl rfl rfl rfl rfl rfl rfl rfl rfl rfl rfl rfl rfl rfl rfl rfl rfl (fun _=>rfl) (ow2) (ow) (rfl) (hown2) oM fun _=>?_
   intro v' ow' hown'
   try refine RUN ?_
   rw [wk]
   exact ⟨(k+1,v',css2++[_],ow'),⟨rfl,rfl,rfl,trivial⟩,sB,trivial,sB,rfl,⟨hlt2,by dsimp only;rw [take_snoc hrow];exact (hrs2.mono RCell.ok (hG4.trans hG5)).snoc hcr,by dsimp only;rw [flatSn];exact hown'⟩,hG4.trans hG5,by dsimp only;omega⟩
  simp only [nN] at hlt2
  obtain rfl:k=C.length:=by omega
  have hrl:(mRow cells C i).length=C.length:=by unfold mRow;rw [List.length_mapIdx]
  rw [← hrl,List.take_length] at hrs2
  (first | refine EVL.publishL [] ow2 ow (rfl) hown2 fun G4 hG4 hs4=>?_ | refine EV.publishL [] ow2 ow (rfl) hown2 fun G4 hG4 hs4=>?_)
  have hrow:RRow G4 (.slice za C.length zc) (mRow cells C i):=⟨css2,hrs2.mono RCell.ok hG4,by rw [hrl];exact hs4⟩
  try refine RUN ?_
  refine EVL.app1 tO rfl rfl rfl rfl rfl rfl rfl rfl rfl rfl rfl rfl rfl rfl rfl rfl rfl rfl rfl (fun _=>rfl) (ow) ([]) ((List.append_nil _).symm) (hown) oM fun _=>?_
  intro v' ow' hown'
  obtain ⟨va,vc,rfl⟩:=hown'.val
  try refine RUN ?_
  rw [wi_inc i (by omega)]
  exact ⟨(i+1,.slice va (i+1) vc,css++[_],ow'),⟨by dsimp only;rw [Nat.succ_mul];rfl,rfl,trivial⟩,sB,⟨rfl,trivial⟩,sB,List.append_nil _,⟨hlt,by dsimp only;unfold mRows;rw [List.range_succ,List.map_append];exact (hrs.mono RRows.ok (hG3.trans hG4)).snoc ⟨_,rfl,hrow⟩,by dsimp only;rw [flatSn];exact hown'⟩,hG3.trans hG4,by dsimp only;omega⟩
 ·simp only [nN] at hlt
  obtain rfl:i=R:=by omega
  (first | refine EVL.publishL [] ow [] ((List.append_nil _).symm) hown fun G3 hG3 hs3=>?_ | refine EV.publishL [] ow [] ((List.append_nil _).symm) hown fun G3 hG3 hs3=>?_)
  try refine RUN ?_
  refine ⟨_,_,rfl,hcol.mono SCol.ok (hG2.trans hG3),css,hrs.mono RRows.ok hG3,?_⟩
  show SlC _ _ (mRows cells C i).length _ _
  rw [show (mRows cells C i).length=i by unfold mRows;rw [List.length_map,List.length_range]]
  exact hs3
section
variable {P:Program} {n:Nat} {ops:Array Oper} {o1 o2:Oper} {rest:List Oper} {env:Env} {bx:Bxs} {H:Hs} {Q:EQ} {d d1:Nat}
end
theorem mRows_ok (cells:List Int) (cols:List Int) (n:Nat) (hn:n≤12):ShOk (mCols cols) (mRows cells (mCols cols) n)∧(tSheet (mCols cols) (mRows cells (mCols cols) n)).length≤5000:=by
 obtain ⟨⟨h1,h2⟩,h3,h4⟩:=mCols_ok cols
 have h5:=mCols_s cols
 generalize mCols cols=C at *
 have hat:∀ i,∀ c x,(c,x)∈C.zip (mRow cells C i)→c∈C∧∃ z,x=mCell c z:=fun i c x h=>by
  obtain ⟨k,hk⟩:=List.mem_iff_getElem?.1 h
  have hk2:(C.zip (mRow cells C i))[k]?=some (c,x):=hk
  rw [List.zip,List.getElem?_zipWith] at hk2
  cases hc:C[k]? with
  | none=>rw [hc] at hk2;cases hk2
  | some c' =>
   have hm:(mRow cells C i)[k]?=some (mCell c' (rawAt cells C.length i k)):=by unfold mRow;rw [List.getElem?_mapIdx,hc];rfl
   rw [hc,hm] at hk2
   cases hk2
   exact ⟨List.mem_of_getElem? hc,_,rfl⟩
 have hrow:∀ row,row∈mRows cells C n→∃ i,row=mRow cells C i:=fun row h=>by
  obtain ⟨i,_,e⟩:=List.mem_map.1 h
  exact ⟨i,e.symm⟩
 have hok:ShOk C (mRows cells C n):=by
  refine ⟨h1,Nat.le_trans h2 (by decide),h3,h4,?_,fun row hr=>?_,fun row hr c x hz=>?_⟩
  ·unfold mRows;rw [List.length_map,List.length_range];omega
  ·obtain ⟨i,rfl⟩:=hrow row hr
   unfold mRow;rw [List.length_mapIdx]
  ·obtain ⟨i,rfl⟩:=hrow row hr
   obtain ⟨q1,z,rfl⟩:=hat i c x hz
   exact ⟨h3 c q1,mCell_ok (h3 c q1) z⟩
 refine ⟨hok,tSheet_len h2 (by unfold mRows;rw [List.length_map,List.length_range];exact hn) h5 fun row hr w hw=>?_⟩
 obtain ⟨i,rfl⟩:=hrow row hr
 obtain ⟨k,hk⟩:=List.mem_iff_getElem?.1 hw
 rw [List.getElem?_zipWith] at hk
 cases hc:C[k]? with
 | none=>rw [hc] at hk;cases hk
 | some c =>
  have hm:(mRow cells C i)[k]?=some (mCell c (rawAt cells C.length i k)):=by unfold mRow;rw [List.getElem?_mapIdx,hc];rfl
  rw [hc,hm] at hk
  cases hk
  exact mCell_len (h3 c (List.mem_of_getElem? hc)) (h5 c (List.mem_of_getElem? hc)) _
end Go.Proofs.YtbcfidllfimehaaGreatDoor
namespace Go.Proofs.YtbcfidllfimehaaGreatDoor
def ex6:List UInt8:=[120,58,110,117,109,98,101,114,44,107,58,99,104,111,105,99,101,40,97,124,98,41,10,49,47,50,44,98,10,63,44,63,10]
theorem ex6_eq:pSheet ex6=.ok ([⟨[120],1,[]⟩,⟨[107],2,[[97],[98]]⟩],[[⟨false,mkRat 1 2,0⟩,⟨false,0,1⟩],[⟨true,0,0⟩,⟨true,0,0⟩]]):=by kernel_rfl
def no6:List UInt8:=[120,58,110,117,109,98,101,114,10,49,44,50,10]
theorem no6_eq:pSheet no6=.error (5,2,0):=by kernel_rfl
end Go.Proofs.YtbcfidllfimehaaGreatDoor
namespace Go.Proofs.YtbcfidllfimehaaGreatDoor
open Go.RowKit _root_.Go.Proofs.Tryz
def FldsI (P:Program):Nat→List Field→Prop
 | _,[]=>True
 | j,f::r=>f.name ≠ "_" ∧ f.offset=j∧P.underlying f.type=some (.int .i64)∧FldsI P (j+1) r
theorem eqFields_i {P:Program} (d:Nat) (xs ys:List Int) (hl:xs.length=ys.length) (W:World):∀ (fs:List Field) (j:Nat),FldsI P j fs→j+fs.length=xs.length →
  (Op.eqFields (d+1) (xs.map (Value.int .i64)).toArray (ys.map (Value.int .i64)).toArray fs).run P W=.ok (decide (xs.drop j=ys.drop j)) W
 | [],j,_,hj=>by
  have h1:xs.drop j=[]:=List.drop_eq_nil_of_le (by simp at hj;omega)
  have h2:ys.drop j=[]:=List.drop_eq_nil_of_le (by simp at hj;omega)
  simp [Op.eqFields,h1,h2]
 | f::r,j,⟨h1,h2,h3,h4⟩,hj=>by
  have hx:j<xs.length:=by simp at hj;omega
  have hy:j<ys.length:=by omega
  have p1:(part f.type (xs.map (Value.int .i64)).toArray f.offset).run P W=.ok (.int .i64 xs[j]) W:=by
   simp [part,isAgg,run_underlying h3,h2,hx]
  have p2:(part f.type (ys.map (Value.int .i64)).toArray f.offset).run P W=.ok (.int .i64 ys[j]) W:=by
   simp [part,isAgg,run_underlying h3,h2,hy]
  unfold Op.eqFields
  rw [if_pos h1]
  simp only [Sem.run_bind,p1,p2,Result.andThen_ok,run_equalIn_int W d f.type .i64 .i64 _ _ h3]
  rw [List.drop_eq_getElem_cons hx,List.drop_eq_getElem_cons hy]
  by_cases e:xs[j]=ys[j]
  ·have e':(xs[j] == ys[j])=true:=by simpa using e
   simp only [e',Bool.not_true,Bool.false_eq_true,if_false]
   rw [eqFields_i d xs ys hl W r (j+1) h4 (by simp at hj;omega)]
   simp only [List.cons.injEq,e,true_and]
  ·have e':(xs[j] == ys[j])=false:=by simpa using e
   simp only [e',Bool.not_false,if_true,Sem.run_pure,List.cons.injEq,e,false_and,decide_false]
section
variable {P:Program} {n:Nat} {ops:Array Oper} {o:Oper} {rest:List Oper} {env:Env} {bx:Bxs} {H:Hs} {Q:EQ} {d:Nat}
theorem EVL.eqS {T T':TypeId} {x y:Operand} (xs ys:List Int) (ho:o.op=.binOp .eql T x y T') (hw:wantB ops env o=some true) (hd:o.dst=some d) (hn:Nat.blt d n=true) (hx:env.op x=some (.v (.agg (xs.map (Value.int .i64)).toArray))) (hy:env.op y=some (.v (.agg (ys.map (Value.int .i64)).toArray)))
  (hm:P.eqGuardType P.depth T=false) (hp:P.stoodInHeld T=false) (ht:P.underlying T=some (.struct (P.fieldsOf T))) (hf:FldsI P 0 (P.fieldsOf T).toList) (hq:(P.fieldsOf T).toList.length=xs.length) (hl:xs.length=ys.length)
  (h:EVL P n ops rest ((d,.v (.bool (decide (xs=ys))))::env) bx H Q):EVL P n ops (o::rest) env bx H Q :=
 EVL.gen hw hd hn (fun ev W he=>by
  have h1:=he x _ (by simp [ho,Op.operands]) hx
  have h2:=he y _ (by simp [ho,Op.operands]) hy
  have h3:=eqFields_i (P:=P) 9998 xs ys hl W (P.fieldsOf T).toList 0 hf oM
  rw [List.drop_zero,List.drop_zero] at h3
  have h4:(eqGuard .eql T x y (.agg (xs.map (Value.int .i64)).toArray) (.agg (ys.map (Value.int .i64)).toArray)).run P W=.ok () W:=run_eqGuard_agg W .eql T x y _ _ hm
  have h5:(binOp .eql T (.agg (xs.map (Value.int .i64)).toArray) (.agg (ys.map (Value.int .i64)).toArray)).run P W=.ok (.bool (decide (xs=ys))) W:=by
   rw [run_eql_struct,run_equalIn_struct W 9999 T _ _ ht hp,h3];rfl
  unfold execOp
  simp [ho,h1,h2,h4,h5]) h
end
set_option maxRecDepth 100000 in
theorem fault_flds:FldsI prog 0 (Tryz.prog.fieldsOf 40).toList:=⟨by decide +kernel,by kernel_rfl,by kernel_rfl,by decide +kernel,by kernel_rfl,by kernel_rfl,by decide +kernel,by kernel_rfl,by kernel_rfl,trivial⟩
set_option maxRecDepth 100000 in
theorem known6_pc {H:Hp}:PC prog 14 #[] H fun r _=>r=.bool true:=by
 have hp:=fun G:Hp=>sheetParse_pc (H:=G) ex6 (by decide)
 have hq:=fun G:Hp=>sheetParse_pc (H:=G) no6 (by decide)
 rw [ex6_eq] at hp
 rw [no6_eq] at hq
 refine BD func14 ntmps14 ?_
 try refine RUN ?_
 refine EVL.call rfl rfl rfl rfl rfl (hp _) ?_
 rintro _ G1 ⟨v,w,rfl,hc,hr⟩ hG1
 obtain ⟨a1,c1,rfl⟩:∃ a c,v=.slice a 2 c:=hc.val
 obtain ⟨a2,c2,rfl⟩:∃ a c,w=.slice a 2 c:=LR.val hr
 try refine RUN ?_
 refine EVL.call rfl rfl rfl rfl rfl (hq _) ?_
 rintro _ G2 ⟨rfl,_⟩ hG2
 obtain ⟨css,hcs,hsl⟩:=LR.mono PRows.ok hr hG2
 obtain ⟨q0,hcut0,v0,rfl,hr0⟩:=hcs.get PRows.ok (j:=0) rfl
 obtain ⟨q1,hcut1,v1,rfl,hr1⟩:=hcs.get PRows.ok (j:=1) rfl
 obtain ⟨b0,d0,rfl⟩:∃ a c,v0=.slice a 2 c:=LR.val hr0
 obtain ⟨b1,d1,rfl⟩:∃ a c,v1=.slice a 2 c:=LR.val hr1
 obtain ⟨cs0,hcs0,hsl0⟩:=hr0
 obtain ⟨cs1,hcs1,hsl1⟩:=hr1
 obtain ⟨_,hc01,rfl⟩:=hcs0.get PCell.ok (j:=1) rfl
 obtain ⟨_,hc10,rfl⟩:=hcs1.get PCell.ok (j:=0) rfl
 try refine RUN ?_
 refine EVL.eqS [0,0,0] [0,0,0] rfl rfl rfl rfl rfl rfl kR kR kR fault_flds kR rfl ?_
 rw [decide_eq_true rfl]
 try refine RUN ?_
 refine EVL.idxM tO rfl rfl rfl rfl rfl rfl rfl rfl rfl (hsl) (0) (rfl) ((by decide)) (hcut0) ?_
 try refine RUN ?_
 refine EVL.idxM tO rfl rfl rfl rfl rfl rfl rfl rfl rfl (hsl0) (1) (rfl) ((by decide)) (hc01) ?_
 try refine RUN ?_
 refine EVL.idxM tO rfl rfl rfl rfl rfl rfl rfl rfl rfl (hsl) (1) (rfl) ((by decide)) (hcut1) ?_
 try refine RUN ?_
 refine EVL.idxM tO rfl rfl rfl rfl rfl rfl rfl rfl rfl (hsl1) (0) (rfl) ((by decide)) (hc10) ?_
 try refine RUN ?_
 rfl
end Go.Proofs.YtbcfidllfimehaaGreatDoor
namespace Go.Proofs.YtbcfidllfimehaaGreatDoor
open Go.ChangeShapes Go.WideShapes Go.ChangeAt Go.RowKit
def Raw6 (H:Hp) (v:Value):Prop:=∃ u w cols cells rows,v=.agg #[u,w,.int .i64 rows]∧(IL H u cols∧∀ z,z∈cols→i64b z)∧(IL H w cells∧∀ z,z∈cells→i64b z)∧i64b rows
theorem three_of {α:Type}:∀ {l:List α},l.length=3→∃ a b c,l=[a,b,c]
 | [a,b,c],_=>⟨a,b,c,rfl⟩
theorem raw6_open {H:Type} {enc:TypeId × Value→H} {w:World} {base:Nat} {spare:Nat→Bool} {held:Bool} {v:Value} {d:DataW H} {p:List MemPlace} (hv:∃ cs,v=.agg cs) (h:DataW.Trod enc Tryz.prog w base spare held 24 v d p):Raw6 (hpOf w) v:=by
 obtain ⟨cs,rfl⟩:=hv
 obtain ⟨fuel,h⟩:=h
 obtain ⟨xs,n,_,hx,hl,hlen,hf⟩:=DataW.trod_struct Tryz.underlying24 h
 rw [show Tryz.prog.cellsOf 24=3 from by kernel_rfl] at hl
 have hl4:cs.toList.length=3:=hl
 obtain ⟨l,rfl⟩:∃ l:List Value,cs=l.toArray:=⟨cs.toList,by simp⟩
 have hl4':l.length=3:=by simpa using hl4
 obtain ⟨c0,c1,c2,rfl⟩:=three_of hl4'
 have hx4:xs.length=3:=hlen
 have f0:DataW.trod enc Tryz.prog w base spare held n 22 (([c0,c1,c2].drop 0).take (Tryz.prog.cellsOf 22))=xs[0]?:=hf 0 _ rfl
 have f1:DataW.trod enc Tryz.prog w base spare held n 22 (([c0,c1,c2].drop 1).take (Tryz.prog.cellsOf 22))=xs[1]?:=hf 1 _ rfl
 have f2:DataW.trod enc Tryz.prog w base spare held n 3 (([c0,c1,c2].drop 2).take (Tryz.prog.cellsOf 3))=xs[2]?:=hf 2 _ rfl
 rw [show Tryz.prog.cellsOf 3=1 from by kernel_rfl] at f2
 rw [show Tryz.prog.cellsOf 22=1 from by kernel_rfl] at f0 f1
 rw [List.getElem?_eq_getElem (by omega)] at f0 f1 f2
 obtain ⟨a0,l0,k0,b0,e0,s0,d0⟩:=ints_open Tryz.underlying22 Tryz.underlying3 kR f0
 obtain ⟨a1,l1,k1,b1,e1,s1,d1⟩:=ints_open Tryz.underlying22 Tryz.underlying3 kR f1
 obtain ⟨z2,e2,_,w2⟩:=DataW.trod_int Tryz.underlying3 f2
 have g0:[c0]=[.slice a0 l0 k0]:=e0
 have g1:[c1]=[.slice a1 l1 k1]:=e1
 have g2:[c2]=[.int .i64 z2]:=e2
 cases g0;cases g1;cases g2
 exact ⟨_,_,b0,b1,z2,rfl,⟨s0,fun z hz=>i64_bounds (d0 z hz)⟩,⟨s1,fun z hz=>i64_bounds (d1 z hz)⟩,i64_bounds w2⟩
end Go.Proofs.YtbcfidllfimehaaGreatDoor
namespace Go.Proofs.YtbcfidllfimehaaGreatDoor
open Go.RowKit _root_.Go.Proofs.Tryz
theorem ShOk.sm {cs:List ColT} {rows:List (List CellT)} (h:ShOk cs rows):SmSh cs rows where
 ncols:=h.ck.ncols
 words:=h.ck.nwords
 nrows:=h.ck.nrows
 cells:=fun r hr=>⟨Nat.le_trans (h.small r hr).1 (by decide),fun x hx=>Nat.le_trans ((h.small r hr).2 x hx) (by decide)⟩
theorem ShOk.qs {cs:List ColT} {rows:List (List CellT)} (h:ShOk cs rows):∀ r,r∈rows→r.length≤1000000∧∀ x,x∈r→ht x.q≤100000:=fun r hr=>⟨Nat.le_trans (h.small r hr).1 (by decide),fun x hx=>Nat.le_trans ((h.small r hr).2 x hx) (by decide)⟩
theorem ShOk.same {H:Hp} {u v u' v':Value} {cs:List ColT} {rows:List (List CellT)} (h:ShOk cs rows) (hu:ColL H u cs) (hv:PRows H v rows) (hu':ColL H u' cs) (hv':PRows H v' rows):PC prog 21 #[.agg #[u,v],.agg #[u',v']] H fun r _=>r=.bool true:=psame_pc hu hv hu' hv' h.ck.ncols h.ck.nwords h.ck.nrows h.qs
def upto (i n:Nat):List Int:=(List.range' i n).map fun (k:Nat)=>(k:Int)
theorem upto_snoc (i n:Nat):upto i (n+1)=upto i n++[((i+n:Nat):Int)]:=by
 unfold upto
 rw [List.range'_concat,List.map_append,Nat.one_mul];rfl
theorem upto_len (i n:Nat):(upto i n).length=n:=by unfold upto;rw [List.length_map,List.length_range']
theorem upto_mem {i n:Nat} {z:Int} (h:z∈upto i n):(i:Int)≤z∧z<((i+n:Nat):Int):=by
 obtain ⟨k,hk,rfl⟩:=List.mem_map.1 h
 have:=List.mem_range'.1 hk
 omega
def downN (n i:Nat):List Int:=(List.range i).map fun (k:Nat)=>((n-1-k:Nat):Int)
theorem downN_snoc (n i:Nat):downN n (i+1)=downN n i++[((n-1-i:Nat):Int)]:=by
 unfold downN;rw [List.range_succ,List.map_append];rfl
theorem downN_len (n i:Nat):(downN n i).length=i:=by unfold downN;rw [List.length_map,List.length_range]
theorem downN_mem {n i:Nat} (hi:i≤n) {z:Int} (h:z∈downN n i):0≤z∧z<(n:Int):=by
 obtain ⟨k,hk,rfl⟩:=List.mem_map.1 h
 have:=List.mem_range.1 hk
 omega
theorem take_up (rows:List (List CellT)) (i n:Nat) (h:i+n≤rows.length):takeR rows (upto i n)=(rows.drop i).take n:=by
 apply List.ext_getElem?
 intro j
 unfold takeR upto
 rw [List.map_map]
 by_cases hj:j<n
 ·rw [List.getElem?_take_of_lt hj,List.getElem?_drop,List.getElem?_map,List.getElem?_range' hj]
  show some (rows.getD (((i+1*j:Nat):Int)).toNat [])=_
  rw [Int.toNat_natCast,List.getD_eq_getElem?_getD,Nat.one_mul,List.getElem?_eq_getElem (by omega)];rfl
 ·rw [List.getElem?_eq_none (by rw [List.length_map,List.length_range'];omega),List.getElem?_eq_none (by rw [List.length_take];omega)]
theorem rot3 (a b c:Ows):(a++(b++c)).Perm (b++(c++a)):=by rw [← List.append_assoc b];exact List.perm_append_comm
theorem take_down (rows:List (List CellT)):takeR rows (downN rows.length rows.length)=rows.reverse:=by
 apply List.ext_getElem?
 intro j
 unfold takeR downN
 rw [List.map_map,List.getElem?_map]
 by_cases hj:j<rows.length
 ·rw [List.getElem?_range hj,List.getElem?_reverse hj]
  show some (rows.getD (((rows.length-1-j:Nat):Int)).toNat [])=_
  rw [Int.toNat_natCast,List.getD_eq_getElem?_getD,List.getElem?_eq_getElem (by omega)];rfl
 ·rw [List.getElem?_eq_none (by rw [List.length_range];omega),List.getElem?_eq_none (by rw [List.length_reverse];omega)];rfl
set_option maxRecDepth 100000 in
set_option maxHeartbeats 32000000 in
theorem sheetJoins_pc {H:Hp} {v:Value} {cut:Int} (hx:Raw6 H v) (hcut:i64b cut):PC prog 4 #[v,.int .i64 cut] H fun r _=>r=.bool true:=by
 obtain ⟨u,y,cols,cells,rows,rfl,⟨hc,hcb⟩,⟨hy,hyb⟩,hr⟩:=hx
 have hn:(rows % 13).toNat≤12:=by have:=Int.emod_lt_of_pos rows (show (0:Int)<13 by decide);omega
 have hok:=(mRows_ok cells cols (rows % 13).toNat hn).1
 have hl12:(mRows cells (mCols cols) (rows % 13).toNat).length≤12:=by unfold mRows;rw [List.length_map,List.length_range];exact hn
 have hM:=fun G (hG:H.Le G)=>mSheet_pc (hc.mono hG) (hy.mono hG) hcb hyb hr
 generalize mRows cells (mCols cols) (rows % 13).toNat=R at *
 generalize mCols cols=C at *
 have pk:=pick_pv cut ((R.length+1:Nat):Int) hcut oM oM
 obtain ⟨k,hk⟩:=Int.eq_ofNat_of_zero_le (Int.emod_nonneg cut (show (((R.length+1:Nat):Int))≠0 by omega))
 have hkl:=Int.emod_lt_of_pos cut (show (0:Int)<((R.length+1:Nat):Int) by omega)
 rw [hk] at pk hkl
 have hkn:k≤R.length:=by omega
 refine BD func4 ntmps4 ?_
 try refine RUN ?_
 refine EVL.call rfl rfl rfl rfl rfl (hM _ (Hp.Le.refl _)) ?_
 rintro _ G1 ⟨x1,x2,rfl,h1,h2⟩ hG1
 obtain ⟨_,_,rfl⟩:=h1.val
 obtain ⟨_,_,rfl⟩:=LR.val h2
 try refine RUN ?_
 refine EVL.call rfl rfl rfl rfl rfl (inSheet_pc h1 h2 hok.sm) ?_
 rintro _ G2 ⟨x1,x2,rfl,h1,h2⟩ hG2
 obtain ⟨ta,tc,rfl⟩:=h1.val
 obtain ⟨sa,sc,rfl⟩:=LR.val h2
 try refine RUN ?_
 rw [wi_inc R.length (by omega)]
 repeat (first | refine RUN ?_ | refine CV (pk) ?_ | refine CE (pk) ?_)
 refine EV.loopK (ι:=Nat × Value × Value × Value × Ows × Ows × Ows) [5,6,7] [5] (fun q=>[(8,.v q.2.1),(9,.v q.2.2.1),(10,.v q.2.2.2.1),(11,.v (.int .i64 (q.1:Int)))]) (fun _=>[]) (fun q=>q.2.2.2.2.1++(q.2.2.2.2.2.1++q.2.2.2.2.2.2)) (fun q _=>q.1≤R.length∧OwnL 3 1 q.2.1 (upto 0 (min q.1 k)).length ((upto 0 (min q.1 k)).map iv) q.2.2.2.2.1∧OwnL 3 1 q.2.2.1 (upto k (q.1-k)).length ((upto k (q.1-k)).map iv) q.2.2.2.2.2.1∧OwnL 3 1 q.2.2.2.1 (downN R.length q.1).length ((downN R.length q.1).map iv) q.2.2.2.2.2.2) (fun q=>R.length-q.1) ((0,.slice none 0 0,.slice none 0 0,.slice none 0 0,[],[],[])) rfl rfl ⟨rfl,rfl,rfl,rfl,trivial⟩ trivial rfl (fun _=>rfl) (⟨Nat.zero_le _,by dsimp only;rw [Nat.zero_min];exact OwnL.nil _ _,by dsimp only;rw [Nat.zero_sub];exact OwnL.nil _ _,OwnL.nil _ _⟩) ?_
 rintro ⟨i,va,vb,vd,oa,ob,od⟩ G3 hG3 ⟨hi,hoa,hob,hod⟩
 dsimp only at hi hoa hob hod
 obtain ⟨a1,c1,rfl⟩:=hoa.val
 obtain ⟨a2,c2,rfl⟩:=hob.val
 obtain ⟨a3,c3,rfl⟩:=hod.val
 try refine RUN ?_
 refine EV.cond rfl (fun hlt=>?_) (fun hlt=>?_)
 ·simp only [nN] at hlt
  have wn:IntKind.i64.wrap ((i:Int)+1)=((i+1:Nat):Int):=wi_inc i oM
  have wd:IntKind.i64.wrap (IntKind.i64.wrap ((R.length:Int)-1)-(i:Int))=((R.length-1-i:Nat):Int):=by rw [IntKind.wrap_i64,IntKind.wrap_i64];omega
  have hl1:=upto_len 0 (min i k)
  have hl2:=upto_len k (i-k)
  have hl3:=downN_len R.length i
  try refine RUN ?_
  have hrd:downN R.length (i+1)=downN R.length i++[((R.length-1-i:Nat):Int)]:=downN_snoc _ _
  by_cases e:i<k
  ·rw [decide_eq_true (show (i:Int)<(k:Int) by omega)]
   have m4:i+1-k=i-k:=by omega
   have hup:upto 0 (min (i+1) k)=upto 0 (min i k)++[(i:Int)]:=by
    have:=upto_snoc 0 (min i k)
    rw [Nat.zero_add,show min i k+1=min (i+1) k by omega,show ((min i k:Nat):Int)=(i:Int) by omega] at this
    exact this
   try refine RUN ?_
   refine EVL.app1 tO rfl rfl rfl rfl rfl rfl rfl rfl rfl rfl rfl rfl rfl rfl rfl rfl rfl rfl rfl (fun _=>rfl) (oa) ((ob++od)) (rfl) (hoa) oM fun _=>?_
   intro v1 o1 h1o
   obtain ⟨b1,d1,rfl⟩:=h1o.val
   try refine RUN ?_
   rw [wd]
   refine EVL.permOw _ (rot3 o1 ob od) ?_
   refine EVL.permOw _ (rot3 ob od o1) ?_
   refine EVL.app1 tO rfl rfl rfl rfl rfl rfl rfl rfl rfl rfl rfl rfl rfl rfl rfl rfl rfl rfl rfl (fun _=>rfl) (od) ((o1++ob)) (rfl) (hod) oM fun _=>?_
   intro v3 o3 h3o
   obtain ⟨b3,d3,rfl⟩:=h3o.val
   refine EVL.permOw _ (rot3 o3 o1 ob) ?_
   try refine RUN ?_
   rw [wn]
   exact ⟨(i+1,(.slice b1 ((upto 0 (min i k)).length+1) d1),(.slice a2 (upto k (i-k)).length c2),.slice b3 ((downN R.length i).length+1) d3,o1,ob,o3),⟨rfl,rfl,rfl,rfl,trivial⟩,sB,trivial,sB,rfl,⟨hlt,by dsimp only;rw [hup,List.length_append,List.map_append];exact h1o,by dsimp only;rw [m4];exact hob,by dsimp only;rw [hrd,List.length_append,List.map_append];exact h3o⟩,Hp.Le.refl _,by dsimp only;omega⟩
  ·rw [decide_eq_false (show ¬ (i:Int)<(k:Int) by omega)]
   have m1:min (i+1) k=min i k:=by omega
   have m4:i+1-k=i-k+1:=by omega
   have hup:=upto_snoc k (i-k)
   rw [show k+(i-k)=i by omega] at hup
   (first | refine EVL.permOw _ (rot3 oa ob od) ?_ | refine EV.permOw _ (rot3 oa ob od) ?_)
   try refine RUN ?_
   refine EVL.app1 tO rfl rfl rfl rfl rfl rfl rfl rfl rfl rfl rfl rfl rfl rfl rfl rfl rfl rfl rfl (fun _=>rfl) (ob) ((od++oa)) (rfl) (hob) oM fun _=>?_
   intro v1 o2 h1o
   obtain ⟨b1,d1,rfl⟩:=h1o.val
   try refine RUN ?_
   rw [wd]
   refine EVL.permOw _ (rot3 o2 od oa) ?_
   refine EVL.app1 tO rfl rfl rfl rfl rfl rfl rfl rfl rfl rfl rfl rfl rfl rfl rfl rfl rfl rfl rfl (fun _=>rfl) (od) ((oa++o2)) (rfl) (hod) oM fun _=>?_
   intro v3 o3 h3o
   obtain ⟨b3,d3,rfl⟩:=h3o.val
   refine EVL.permOw _ (rot3 o3 oa o2) ?_
   try refine RUN ?_
   rw [wn]
   exact ⟨(i+1,.slice a1 (upto 0 (min i k)).length c1,.slice b1 ((upto k (i-k)).length+1) d1,.slice b3 ((downN R.length i).length+1) d3,oa,o2,o3),⟨rfl,rfl,rfl,rfl,trivial⟩,sB,trivial,sB,rfl,⟨hlt,by dsimp only;rw [m1];exact hoa,by dsimp only;rw [m4,hup,List.length_append,List.map_append];exact h1o,by dsimp only;rw [hrd,List.length_append,List.map_append];exact h3o⟩,Hp.Le.refl _,by dsimp only;omega⟩
 simp only [nN] at hlt
 obtain rfl:i=R.length:=by omega
 have hm:min R.length k=k:=by omega
 have hA:inRw R (upto 0 (min R.length k))=true:=inRw_range fun r hr=>by have:=upto_mem hr;omega
 have hB:inRw R (upto k (R.length-k))=true:=inRw_range fun r hr=>by have:=upto_mem hr;omega
 have hD:inRw R (downN R.length R.length)=true:=inRw_range fun r hr=>downN_mem (Nat.le_refl _) hr
 have eA:takeR R (upto 0 (min R.length k))=R.take k:=by rw [hm,take_up R 0 k oM,List.drop_zero]
 have eB:takeR R (upto k (R.length-k))=R.drop k:=by rw [take_up R k (R.length-k) oM,List.take_of_length_le (by rw [List.length_drop];omega)]
 have eD:=take_down R
 have hD2:inRw R.reverse (downN R.length R.length)=true:=inRw_range fun r hr=>by rw [List.length_reverse];exact downN_mem (Nat.le_refl _) hr
 have eD2:takeR R.reverse (downN R.length R.length)=R:=by
  have:=take_down R.reverse
  rwa [List.length_reverse,List.reverse_reverse] at this
 have okA:=hok.take hA (by rw [upto_len];omega)
 have okB:=hok.take hB (by rw [upto_len];omega)
 have okD:=hok.take hD (by rw [downN_len];omega)
 rw [eA] at okA
 rw [eB] at okB
 rw [eD] at okD
 (first | refine EVL.publishL [] oa (ob++od) (rfl) hoa fun G4 hG4 hsa=>?_ | refine EV.publishL [] oa (ob++od) (rfl) hoa fun G4 hG4 hsa=>?_)
 (first | refine EVL.publishL [] ob od (rfl) hob fun G5 hG5 hsb=>?_ | refine EV.publishL [] ob od (rfl) hob fun G5 hG5 hsb=>?_)
 (first | refine EVL.publishL [] od [] ((List.append_nil _).symm) hod fun G6 hG6 hsd=>?_ | refine EV.publishL [] od [] ((List.append_nil _).symm) hod fun G6 hG6 hsd=>?_)
 have hiA:IL G6 _ (upto 0 (min R.length k)):=SlC.mono hsa (hG5.trans hG6)
 have hiB:IL G6 _ (upto k (R.length-k)):=SlC.mono hsb hG6
 have hiD:IL G6 _ (downN R.length R.length):=hsd
 have hG26:=hG3.trans (hG4.trans (hG5.trans hG6))
 have hC6:=h1.mono SCol.ok hG26
 have hR6:=LR.mono PRows.ok h2 hG26
 try refine RUN ?_
 refine EVL.call rfl rfl rfl rfl rfl (take_pc hC6 hR6 hiA hok (by rw [upto_len];omega)) ?_
 rintro _ G7 (⟨_,p1,p2,rfl,hp1,hp2⟩ | ⟨hno,_⟩) hG7
 case inr=>rw [hA] at hno;cases hno
 rw [eA] at hp2
 obtain ⟨_,_,rfl⟩:=hp1.val
 obtain ⟨_,_,rfl⟩:=LR.val hp2
 try refine RUN ?_
 refine EVL.call rfl rfl rfl rfl rfl (take_pc (hC6.mono SCol.ok hG7) (LR.mono PRows.ok hR6 hG7) (SlC.mono hiB hG7) hok (by rw [upto_len];omega)) ?_
 rintro _ G8 (⟨_,q1,q2,rfl,hq1,hq2⟩ | ⟨hno,_⟩) hG8
 case inr=>rw [hB] at hno;cases hno
 rw [eB] at hq2
 obtain ⟨_,_,rfl⟩:=hq1.val
 obtain ⟨_,_,rfl⟩:=LR.val hq2
 try refine RUN ?_
 refine EVL.call rfl rfl rfl rfl rfl (add_pc (hp1.mono SCol.ok hG8) (LR.mono PRows.ok hp2 hG8) hq1 hq2 okA okB (by rw [List.length_take,List.length_drop];omega)) ?_
 rintro _ G9 (⟨_,u1,u2,rfl,hu1,hu2⟩ | ⟨hno,_⟩) hG9
 case inr=>exact absurd rfl hno
 rw [List.take_append_drop] at hu2
 obtain ⟨_,_,rfl⟩:=hu1.val
 obtain ⟨_,_,rfl⟩:=LR.val hu2
 have hG69:=hG7.trans (hG8.trans hG9)
 try refine RUN ?_
 refine EVL.call rfl rfl rfl rfl rfl (take_pc (hC6.mono SCol.ok hG69) (LR.mono PRows.ok hR6 hG69) (SlC.mono hiD hG69) hok (by rw [downN_len];omega)) ?_
 rintro _ G10 (⟨_,v1,v2,rfl,hv1,hv2⟩ | ⟨hno,_⟩) hG10
 case inr=>rw [hD] at hno;cases hno
 rw [eD] at hv2
 obtain ⟨_,_,rfl⟩:=hv1.val
 obtain ⟨_,_,rfl⟩:=LR.val hv2
 try refine RUN ?_
 refine EVL.call rfl rfl rfl rfl rfl (take_pc hv1 hv2 (SlC.mono hiD (hG69.trans hG10)) okD (by rw [downN_len];omega)) ?_
 rintro _ G11 (⟨_,w1,w2,rfl,hw1,hw2⟩ | ⟨hno,_⟩) hG11
 case inr=>rw [hD2] at hno;cases hno
 rw [eD2] at hw2
 obtain ⟨_,_,rfl⟩:=hw1.val
 obtain ⟨_,_,rfl⟩:=LR.val hw2
 have hG611:=hG69.trans (hG10.trans hG11)
 try refine RUN ?_
 refine EVL.call rfl rfl rfl rfl rfl (add_pc (hC6.mono SCol.ok hG611) (LR.mono PRows.ok hR6 hG611) (hC6.mono SCol.ok hG611) (LR.mono PRows.ok hR6 hG611) hok hok oM) ?_
 rintro _ G12 (⟨_,d1,d2,rfl,hd1,hd2⟩ | ⟨hno,_⟩) hG12
 case inr=>exact absurd rfl hno
 obtain ⟨_,_,rfl⟩:=hd1.val
 obtain ⟨_,_,rfl⟩:=LR.val hd2
 have hG912:=hG10.trans (hG11.trans hG12)
 have hG612:=hG611.trans hG12
 try refine RUN ?_
 refine EVL.call rfl rfl rfl rfl rfl (known6_pc) ?_
 rintro _ G13 rfl hG13
 try refine RUN ?_
 refine EVL.call rfl rfl rfl rfl rfl (hok.same (hu1.mono SCol.ok (hG912.trans hG13)) (LR.mono PRows.ok hu2 (hG912.trans hG13)) (hC6.mono SCol.ok (hG612.trans hG13)) (LR.mono PRows.ok hR6 (hG612.trans hG13))) ?_
 rintro _ G14 rfl hG14
 have hG1314:=hG13.trans hG14
 try refine RUN ?_
 refine EVL.call rfl rfl rfl rfl rfl (hok.same (hw1.mono SCol.ok (hG12.trans hG1314)) (LR.mono PRows.ok hw2 (hG12.trans hG1314)) (hC6.mono SCol.ok (hG612.trans hG1314)) (LR.mono PRows.ok hR6 (hG612.trans hG1314))) ?_
 rintro _ G15 rfl hG15
 try refine RUN ?_
 rw [show (((R++R).length:Int) == IntKind.i64.wrap (2*(R.length:Int)))=true from beq_iff_eq.2 (by rw [List.length_append,IntKind.wrap_i64];omega)]
end Go.Proofs.YtbcfidllfimehaaGreatDoor
namespace Go.Proofs.YtbcfidllfimehaaGreatDoor
open Go Go.RowKit
theorem laidE_find {P:Program} {W:World} {n:String} {d:DataW Unit}:∀ {l:List (String × DataW Unit)} {ps:List MemPlace},DataW.LaidVars P W l ps→(n,d)∈l →
  ∃ p,DataW.LaidVars P W [(n,d)] p
 | [],_,_,h=>by cases h
 | (m,x)::r,ps,h,hm=>by
  obtain ⟨g,t,cs,fuel,p,q,h1,h2,h3,h4,h5,h6⟩:=h
  rcases List.mem_cons.1 hm with hm | hm
  ·cases hm
   exact ⟨_,g,t,cs,fuel,p,[],h1,h2,h3,h4,rfl,rfl⟩
  ·exact laidE_find h5 hm
theorem laid_gH {P:Program} {l:List (String × DataW Unit)} {W:World} {α:Type} (f:α→Int) (h:laidMet P l W) {n:String} {zs:List α} {kd:IntKind} {g:Nat} {T e:TypeId} (hmem:(n,.agg (zs.map fun z=>.lit (.int kd (f z))))∈l) (hg:P.globalNamed n=some g) (ht:(P.globals[g]?).map (·.type)=some T)
  (hT:P.underlying T=some (.array zs.length e)) (he:P.underlying e=some (.int kd)) (hc:P.cellsOf e=1) (hcT:P.cellsOf T=zs.length) :
  ∃ U fz,W.heap[g]?=some (.cells (zs.map fun z=>Value.int kd (f z)).toArray U fz):=by
 obtain ⟨ps,hl,_⟩:=h
 obtain ⟨p0,g',t,cs,fuel,p,q,hg',ht',hv,hd,_,_⟩:=laidE_find hl hmem
 obtain rfl:=Option.some.inj (hg.symm.trans hg')
 obtain rfl:=Option.some.inj (ht.symm.trans ht')
 obtain ⟨xs,m,_,ex,hcl,hlen,hel⟩:=DataW.trod_array hT hd
 have hb:∃ U fz,W.heap[g]?=some (.cells cs U fz):=by
  simp only [World.var?,hg,Option.bind_some] at hv
  split at hv
  ·rename_i c U fz hc';cases hv;exact ⟨U,fz,hc'⟩
  ·cases hv
 obtain ⟨U,fz,hb⟩:=hb
 refine ⟨U,fz,?_⟩
 rw [hb]
 congr 2
 apply Array.ext'
 rw [hcT] at hcl
 have e3:(xs.map (·.1))=zs.map fun n=>.lit (.int kd (f n)):=(DataW.agg.inj (Prod.mk.inj ex).1).symm
 apply List.ext_getElem?
 intro r
 rcases Nat.lt_or_ge r zs.length with hr | hr
 ·have hE:=hel r hr
  rw [hc,Nat.mul_one,List.getElem?_eq_getElem (by omega)] at hE
  obtain ⟨z,e1,e2,_⟩:=DataW.trod_int he hE
  have e4:(xs.map (·.1))[r]?=(zs.map fun n=>(DataW.lit (.int kd (f n)):DataW Unit))[r]?:=by rw [e3]
  rw [List.getElem?_map,List.getElem?_map,List.getElem?_eq_getElem (by omega:r<xs.length),List.getElem?_eq_getElem hr,e2] at e4
  simp only [Option.map_some,Option.some.injEq,DataW.lit.injEq,Lit.int.injEq,true_and] at e4
  have h0:((cs.toList.drop r).take 1)[0]?=some (.int kd z):=by rw [e1];rfl
  simp only [List.getElem?_take,List.getElem?_drop,Nat.add_zero] at h0
  rw [if_pos (by omega)] at h0
  rw [h0,e4]
  simp [hr]
 ·rw [List.getElem?_eq_none oM,List.getElem?_eq_none (by simpa using hr)]
theorem fits_gH {l:List (String × DataW Unit)} {W:World} (h:laidMet Tryz.prog l W) (hmem:("math/bits.deBruijn64tab", .agg (Lib.deBruijn64tab.map fun (z:Nat)=>.lit (.int .u8 z)))∈l):Fits gH W:=fun b c hb=>by
 unfold gH at hb
 split at hb
 ·rename_i hbb
  cases hb
  obtain rfl:=Nat.eq_of_beq_eq_true hbb
  exact laid_gH (fun z:Nat=>(z:Int)) h hmem kR kR Tryz.underlying302 Tryz.underlying5 kR kR
 ·cases hb
end Go.Proofs.YtbcfidllfimehaaGreatDoor
