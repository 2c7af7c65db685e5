/- Texts of ours in one: ShC, ShE, ShF, ShG, ShH, Tr7, Tr8, Tr9, Tr10, Tr11, Tr12, Tr13, ShL, ShX, Tr14, Tr15, Tr16, Tr17, Tr18, Tr19, Tr20, ShZ, Tr21, Tr22, Tr23, Tr24, Tr25, Tr26, Opn, Opn20, Tr27, ShO, SjA, SjP, SjB, Ev34, SkA, SkB, Ev33, SkC, SkD, Ev35, Ev31, ThJ, ShK, ShM, ShN, ShI, ShW, ShU, ShJ, Opn6, ThM, SkE. -/
import Derived.Test.YtbcfidllfimehaaGreatDoorP2
import Derived.Test.YtbcfidllfimehaaGreatDoorP3
import Derived.WalkKit
import Derived.ProofKit
import Derived.OpenShut
import Derived.Lib.ConvBytes
import Derived.Laws.StructEq
set_option linter.unusedVariables false
set_option linter.unusedSimpArgs false

namespace Go.Proofs.YtbcfidllfimehaaGreatDoor
open Go.RowKit _root_.Go.Proofs.Tryz
theorem cellC_z (b:Bool) (w:Nat):cellC ⟨b,0,w⟩=[.bool b,.bool false,.int .u64 0,.string ⟨#[]⟩,.int .u64 0,.string ⟨#[]⟩,.int .i64 (w:Int)]:=by
 unfold cellC
 dsimp only
 rw [fracV_z];rfl
def CellAns (r:Value):Except Nat CellT→Prop
 | .error e=>r=.tuple #[.agg (cellC ⟨false,0,0⟩).toArray,.int .i64 (e:Int)]∧e≠0
 | .ok x=>r=.tuple #[.agg (cellC x).toArray,.int .i64 0]
set_option maxRecDepth 100000 in
set_option maxHeartbeats 8000000 in
theorem parseCell_pc {H:Hp} {cs:List Value} {c:ColT} (hc:SCol H cs c) (s:List UInt8) (hw:c.words.length≤1000000) (hl:s.length≤1000000):PC prog 94 #[.agg cs.toArray,strV s] H fun r _=>CellAns r (pCell c s):=by
 have hq:=fun G:Hp=>fracParse_pc (H:=G) s oM
 have hp:pCell c s=if s=[63] then .ok ⟨true,0,0⟩
  else if c.kind=1 then match pQ s with
   | none=>.error 2
   | some q=>.ok ⟨false,q,0⟩
  else match posL s c.words with
   | none=>.error 11
   | some k=>.ok ⟨false,0,k⟩:=rfl
 have bad:∀ e:Nat,e≠0→pCell c s=.error e→CellAns (.tuple #[.agg #[.bool false,.bool false,.int .u64 0,.string ⟨#[]⟩,.int .u64 0,.string ⟨#[]⟩,.int .i64 0],.int .i64 (e:Int)]) (pCell c s):=fun e h0 h=>by
  rw [h]
  refine ⟨?_,h0⟩
  rw [cellC_z];rfl
 obtain ⟨a,n,hws,rfl⟩:=hc
 refine BD func94 ntmps94 ?_
 try refine RUN ?_
 rw [show (⟨#[63]⟩:ByteArray)=sb [63] from rfl,sb_eqb]
 by_cases e:s=[63]
 ·rw [decide_eq_true e]
  rw [if_pos e] at hp
  try refine RUN ?_
  rw [hp]
  show _=_
  rw [cellC_z];rfl
 rw [decide_eq_false e]
 rw [if_neg e] at hp
 try refine RUN ?_
 by_cases k1:c.kind=1
 ·rw [show ((c.kind:Int) == 1)=true by rw [k1];rfl]
  rw [if_pos k1] at hp
  try refine RUN ?_
  refine EVL.call rfl rfl rfl rfl rfl (hq _) ?_
  rintro _ G1 rfl hG1
  cases hz:pQ s with
  | none =>
   rw [hz] at hp
   show EVL _ _ _ _ ((_,.v (.tuple #[fracV 0,.bool false]))::_) _ _ _
   rw [fracV_z]
   try refine RUN ?_
   exact bad 2 (by decide) hp
  | some q =>
   rw [hz] at hp
   show EVL _ _ _ _ ((_,.v (.tuple #[fracV q,.bool true]))::_) _ _ _
   try refine RUN ?_
   rw [hp]
   rfl
 rw [show ((c.kind:Int) == 1)=false from beq_eq_false_iff_ne.2 (by omega)]
 rw [if_neg k1] at hp
 try refine RUN ?_
 refine EVL.call rfl rfl rfl rfl rfl (index_pc hws s oM) ?_
 rintro _ G1 rfl hG1
 unfold posZ
 cases hz:posL s c.words with
 | none =>
  rw [hz] at hp
  try refine RUN ?_
  exact bad 11 (by decide) hp
 | some k =>
  rw [hz] at hp
  try refine RUN ?_
  rw [hp]
  show _=_
  rw [cellC_z]
theorem pCells_none (acc:List CellT):pCells acc []=.ok acc:=rfl
theorem zip_at2 {α β:Type} {l:List α} {m:List β} {i:Nat} {x:α} {y:β} (h:l[i]?=some x) (k:m[i]?=some y):(l.drop i).zip (m.drop i)=(x,y)::(l.drop (i+1)).zip (m.drop (i+1)):=by
 obtain ⟨h1,rfl⟩:=List.getElem?_eq_some_iff.1 h
 obtain ⟨k1,rfl⟩:=List.getElem?_eq_some_iff.1 k
 rw [List.drop_eq_getElem_cons h1,List.drop_eq_getElem_cons k1];rfl
def RowAns (H:Hp) (r:Value):Except (Nat × Nat) (List CellT)→Prop
 | .error e=>r=.tuple #[.slice none 0 0,.int .i64 (e.2:Int),.int .i64 (e.1:Int)]∧e.1≠0
 | .ok row=>∃ v,r=.tuple #[v,.int .i64 0,.int .i64 0]∧PRow H v row
theorem cellC_len (x:CellT):(cellC x).length=7:=rfl
theorem cells_flat (l:List CellT):(l.flatMap cellC).length=l.length*7:=by
 induction l with
 | nil=>rfl
 | cons x l ih=>rw [List.flatMap_cons,List.length_append,ih,cellC_len,List.length_cons];omega
def zeroC:List Value:=[.bool false,.bool false,.int .u64 0,.string ⟨#[]⟩,.int .u64 0,.string ⟨#[]⟩,.int .i64 0]
theorem cells_len (done:List CellT) (k:Nat):(done.flatMap cellC++(List.replicate k zeroC).flatten).length=(done.length+k)*7:=by
 rw [List.length_append,cells_flat]
 have:∀ k:Nat,((List.replicate k zeroC).flatten).length=k*7:=by
  intro k
  induction k with
  | zero=>rfl
  | succ k ih=>rw [List.replicate_succ,List.flatten_cons,List.length_append,ih];show 7+_=_;omega
 rw [this];omega
theorem cells_put (done:List CellT) (x:CellT) (k n:Nat) (hn:done.length=n):(done.flatMap cellC++(List.replicate (k+1) zeroC).flatten).take (n*7)++cellC x++(done.flatMap cellC++(List.replicate (k+1) zeroC).flatten).drop (n*7+7)=(done++[x]).flatMap cellC++(List.replicate k zeroC).flatten:=by
 subst hn
 have:=row_set (A:=done.flatMap cellC) (c:=zeroC) (B:=(List.replicate k zeroC).flatten) (vs:=cellC x) (c':=cellC x) (k:=done.length) (s:=7) (f:=0) (m:=7) (q:=done.length*7) (cells_flat done) rfl rfl (by decide) (by show []++cellC x++[]=_;rw [List.nil_append,List.append_nil])
 rw [List.replicate_succ,List.flatten_cons,this,List.flatMap_append]
 simp
theorem prow_of {G:Hp} {b:Nat} {l:List CellT} (h:G b=some (l.flatMap cellC).toArray):PRow G (.slice (some ⟨b,0,none⟩) l.length l.length) l:=by
 refine ⟨l.map cellC,⟨List.length_map ..,fun j c x e1 e2=>?_⟩,?_,.inr ⟨b,0,l.length,_,rfl,Nat.le_refl _,h,fun j x hj=>?_⟩⟩
 ·rw [List.getElem?_map,e2] at e1;cases e1;rfl
 ·rw [← List.flatMap_def,cells_flat]
 ·rw [Nat.zero_add,List.getElem?_toArray,List.flatMap_def];exact hj
set_option maxRecDepth 100000 in
set_option maxHeartbeats 16000000 in
theorem parseRow_pc {H:Hp} {v:Value} {l:List ColT} (hv:ColL H v l) (s:List UInt8) (hw:∀ c,c∈l→c.words.length≤1000000) (hll:l.length≤1000000) (hl:s.length≤1000000):PC prog 43 #[v,strV s] H fun r H'=>RowAns H' r (pRow l s):=by
 have hS:=fun G:Hp=>split_pc (H:=G) s 44 oM
 have hcl:=cutL_len 44 s
 have hcp:=fun w (h:w∈cutL 44 s)=>cutL_part h
 have hne:1≤(cutL 44 s).length:=List.length_pos_iff.2 (cutL_ne 44 s)
 have hr:pRow l s=if (cutL 44 s).length≠l.length then .error (5,0) else pCells [] (l.zip (cutL 44 s)):=rfl
 obtain ⟨css,hcs,hsl⟩:=hv
 obtain ⟨va,vc,rfl⟩:=SlC.val hsl
 generalize cutL 44 s=ts at *
 refine BD func43 ntmps43 ?_
 try refine RUN ?_
 refine EVL.call rfl rfl rfl rfl rfl (hS _) ?_
 rintro _ G1 ht hG1
 obtain ⟨ta,tc,rfl⟩:=SlC.val ht
 try refine RUN ?_
 by_cases e:ts.length=l.length
 case neg =>
  rw [show ((ts.length:Int) != (l.length:Int))=true from bne_iff_ne.2 (by omega)]
  rw [if_pos e] at hr
  try refine RUN ?_
  rw [hr]
  exact ⟨rfl,by decide⟩
 rw [show ((ts.length:Int) != (l.length:Int))=false from bne_eq_false_iff_eq.2 (by omega)]
 rw [if_neg (fun k=>k e)] at hr
 try refine RUN ?_
 refine EVL.make tO rfl rfl rfl rfl rfl rfl rfl rfl rfl (l.length) (rfl) oM (by rfl) (by rfl) fun b=>?_
 try refine RUN ?_
 (first | refine EVL.swapOw ([(b,81,([]:List CellT).flatMap cellC++(List.replicate (l.length-0) zeroC).flatten)]) ([]) (rfl) ?_ | refine EV.swapOw ([(b,81,([]:List CellT).flatMap cellC++(List.replicate (l.length-0) zeroC).flatten)]) ([]) (rfl) ?_)
 refine EV.loopK (ι:=Nat × List CellT) [0,8,23,24] [] (fun q=>[(25,.v (.int .i64 (q.1:Int)))]) (fun _=>[]) (fun q=>[(b,81,q.2.flatMap cellC++(List.replicate (l.length-q.1) zeroC).flatten)]) (fun q _=>q.1≤l.length∧q.2.length=q.1∧pRow l s=pCells q.2 ((l.drop q.1).zip (ts.drop q.1))) (fun q=>l.length-q.1) ((0,[])) rfl rfl ⟨rfl,trivial⟩ trivial rfl (fun _=>rfl) (⟨Nat.zero_le _,rfl,by rw [hr];rfl⟩) ?_
 rintro ⟨i,done⟩ G2 hG2 ⟨hi,hdl,hpc⟩
 dsimp only at hi hdl hpc
 try refine RUN ?_
 refine EV.cond rfl (fun hlt=>?_) (fun hlt=>?_)
 ·simp only [nN] at hlt
  have hlt2:i<l.length:=by omega
  obtain ⟨c,hc⟩:∃ c,l[i]?=some c:=⟨_,List.getElem?_eq_getElem hlt2⟩
  obtain ⟨t,htx⟩:∃ t,ts[i]?=some t:=⟨_,List.getElem?_eq_getElem hlt⟩
  have hH2:=hG1.trans hG2
  obtain ⟨cc,hcut,hcol⟩:=(hcs.mono SCol.ok hH2).get SCol.ok hc
  have hcell:=fun G (hG:G2.Le G)=>parseCell_pc (SCol.ok.mono hcol hG) t (hw c (List.mem_of_getElem? hc)) (by have:=hcp t (List.mem_of_getElem? htx);omega)
  rw [zip_at2 hc htx] at hpc
  obtain ⟨a1,n1,_,rfl⟩:=hcol
  try refine RUN ?_
  refine EVL.idxR tO rfl rfl rfl rfl rfl rfl rfl rfl rfl rfl ((ht.mono hG2)) (i) (rfl) (hlt) ((by rw [List.getElem?_map,htx];rfl)) ?_
  try refine RUN ?_
  refine EVL.idxM tO rfl rfl rfl rfl rfl rfl rfl rfl rfl ((hsl.mono hH2)) (i) (rfl) (hlt2) (hcut) ?_
  try refine RUN ?_
  refine EVL.call rfl rfl rfl rfl rfl (hcell _ (Hp.Le.refl _)) ?_
  rintro _ G3 hans hG3
  cases hx:pCell c t with
  | error e1 =>
   rw [hx] at hans
   obtain ⟨rfl,he1⟩:=hans
   rw [cellC_z]
   try refine RUN ?_
   rw [show ((e1:Int) != 0)=true from bne_iff_ne.2 (by omega)]
   try refine RUN ?_
   rw [hpc,pCells_stop hx,hdl]
   exact ⟨rfl,he1⟩
  | ok x =>
   rw [hx] at hans
   obtain rfl:_=_:=hans
   rw [pCells_step hx] at hpc
   try refine RUN ?_
   have hput:=cells_put done x (l.length-(i+1)) i hdl
   rw [show l.length-(i+1)+1=l.length-i by omega] at hput
   refine EVL.idxB tO rfl rfl rfl rfl rfl rfl rfl rfl rfl (i) (i*7) (rfl) (hlt2) (rfl) ?_
   refine EVL.storeOwn tO rfl rfl rfl rfl rfl rfl ([]) ([]) rfl rfl rfl rfl ((by rw [cells_len,hdl];show i*7+7≤_;omega)) (hput) ?_
   try refine RUN ?_
   exact ⟨(i+1,done++[x]),⟨by dsimp only;rw [wi_inc i (by omega)];rfl,trivial⟩,sB,trivial,sB,rfl,⟨hlt2,by dsimp only;rw [List.length_append,hdl];rfl,hpc⟩,hG3,by dsimp only;omega⟩
 ·simp only [nN] at hlt
  obtain rfl:i=l.length:=by omega
  rw [Nat.sub_self,List.replicate_zero,List.flatten_nil]
  rw [List.drop_length,List.zip_nil_left,pCells_none] at hpc
  (first | refine EVL.publish [] [] rfl fun G3 hG3 hb=>?_ | refine EV.publish [] [] rfl fun G3 hG3 hb=>?_)
  try refine RUN ?_
  rw [hpc]
  refine ⟨_,rfl,?_⟩
  have hb2:G3 b=some (done.flatMap cellC).toArray:=by
   rw [hb]
   show some (done.flatMap cellC++[]).toArray=_
   rw [List.append_nil]
  have:=prow_of hb2
  rw [hdl] at this
  exact this
theorem PW.lends {P:Program} {f:FuncId} {args:Array Value} {H:Hp} {T:TypeId} {k:Nat} {v:Value} {m:Nat} {xs:List Value} {ow:Ows} (hown:OwnL T k v m xs ow) {Φ:Value→Ows→Prop} (hcan:Callable P f) (h:∀ G,H.Le G→SlC G v m k xs→PW P f args G [] fun r ow' _=>Φ r ow'):PW P f args H ow fun r ow' _=>∃ ow2,ow'=ow++ow2∧Φ r ow2:=by
 rcases hown.2 with ⟨rfl,rfl,rfl⟩ | ⟨g,cap,sp,rfl,rfl,h1,h2,h3⟩
 ·exact (h H (Hp.Le.refl _) ⟨hown.1,.inl ⟨rfl,none,0,rfl⟩⟩).mono fun r ow' H' _ k=>⟨ow',rfl,k⟩
 ·refine (PW.reads (L:=[]) (Φ:=Φ) hcan fun G hG hb=>h G hG ⟨hown.1,.inr ⟨g,0,cap,_,rfl,h2,hb,fun j x hj=>?_⟩⟩).mono fun r ow' H' _ ⟨o,e,hr⟩=>⟨o,by rw [e];rfl,hr⟩
  simp only [Nat.zero_add,List.getElem?_toArray]
  have hl:j<xs.length:=(List.getElem?_eq_some_iff.1 hj).1
  rw [List.getElem?_append_left hl];exact hj
theorem SlN.tail {α:Type} {enc:α→Value} {H:Hp} {a:Option Addr} {cap:Nat} {x:α} {l:List α} (h:SlN enc H (.slice a (x::l).length cap) (x::l)):SlN enc H (.slice (if cap=1 then a else a.map (·.add (1*1))) ((x::l).length-1) (cap-1)) l:=by
 have:=SlC.sub h 1 (x::l).length (by simp) (Nat.le_refl _) h.le
 rw [Nat.mul_one,List.map_cons,List.drop_one,List.tail_cons] at this
 show SlC _ _ _ _ _
 have e:(l.map enc).take (((x::l).length-1)*1)=l.map enc:=List.take_of_length_le (by simp)
 rw [e] at this
 exact this
theorem pRows_none (cs:List ColT) (acc:List (List CellT)):pRows cs acc []=.ok acc:=rfl
theorem pCols_none (acc:List ColT):pCols acc []=.ok acc:=rfl
theorem pCol_len {l:List ColT} {s:List UInt8} {c:ColT} (h:pCol l s=.ok c):l.length<20∧c.words.length≤12:=by
 unfold pCol at h
 cases hs:scanC s with
 | none=>rw [hs] at h;cases h
 | some d =>
  rw [hs] at h
  dsimp only at h
  split at h
  ·cases h
  ·split at h
   ·cases h
   ·rename_i k
    split at h
    ·cases h
    ·cases h
     refine ⟨?_,?_⟩
     ·by_cases q:l.length<20
      ·exact q
      ·exact absurd (.inl oM) k
     ·by_cases q:12<c.words.length
      ·exact absurd (.inr q) k
      ·omega
abbrev SheetT:=List ColT × List (List CellT)
def ParseAns (H:Hp) (r:Value):Except (Nat × Nat × Nat) SheetT→Prop
 | .error e=>r=.tuple #[.agg #[.slice none 0 0,.slice none 0 0],.agg #[.int .i64 (e.1:Int),.int .i64 (e.2.1:Int),.int .i64 (e.2.2:Int)]]∧e.1≠0
 | .ok t=>∃ v w,r=.tuple #[.agg #[v,w],.agg #[.int .i64 0,.int .i64 0,.int .i64 0]]∧ColL H v t.1∧PRows H w t.2
set_option maxRecDepth 100000 in
set_option maxHeartbeats 32000000 in
theorem sheetParse_pc {H:Hp} (s:List UInt8) (hl:s.length≤1000000000000):PC prog 12 #[strV s] H fun r H'=>ParseAns H' r (pSheet s):=by
 have hsz:=sb_size s
 have hps:pSheet s=if 65536<s.length then .error (4,0,0)
  else match cutL 10 (noEnd s) with
   | []=>.error (2,1,0)
   | h::r=>match pCols [] (cutL 44 h) with
    | .error e=>.error e
    | .ok cs=>match pRows cs [] r with
     | .error e=>.error e
     | .ok rows=>.ok (cs,rows):=rfl
 have bad:∀ (G:Hp) (e l a:Nat),e≠0→pSheet s=.error (e,l,a)→ParseAns G (.tuple #[.agg #[.slice none 0 0,.slice none 0 0],.agg #[.int .i64 (e:Int),.int .i64 (l:Int),.int .i64 (a:Int)]]) (pSheet s):=fun G e l a h0 h=>by rw [h];exact ⟨rfl,h0⟩
 refine BD func12 ntmps12 ?_
 try refine RUN ?_
 rw [hsz]
 by_cases c1:s.length>65536
 ·rw [decide_eq_true (show (s.length:Int)>65536 by omega)]
  rw [if_pos c1] at hps
  try refine RUN ?_
  exact bad _ 4 0 0 (by decide) hps
 rw [decide_eq_false (show ¬ (s.length:Int)>65536 by omega)]
 rw [if_neg c1] at hps
 have hts:=trimEnd_pv s oM
 have hnl:(noEnd s).length≤s.length:=by
  unfold noEnd
  split
  ·rw [List.length_dropLast];omega
  ·exact Nat.le_refl _
 repeat (first | refine RUN ?_ | refine CV (hts) ?_ | refine CE (hts) ?_)
 refine EVL.call rfl rfl rfl rfl rfl (split_pc (noEnd s) 10 oM) ?_
 rintro _ G1 ht hG1
 have hcl:=cutL_len 10 (noEnd s)
 have hcp:=fun w (h:w∈cutL 10 (noEnd s))=>cutL_part h
 obtain ⟨h,rs,hcut⟩:=List.exists_cons_of_ne_nil (cutL_ne 10 (noEnd s))
 rw [hcut] at hps ht hcl hcp
 clear hcut
 dsimp only at hps
 obtain ⟨ta,tc,rfl⟩:=SlC.val ht
 have hh:=hcp h (List.mem_cons_self ..)
 try refine RUN ?_
 refine EVL.idxR tO rfl rfl rfl rfl rfl rfl rfl rfl rfl rfl (ht) (0) (rfl) ((by simp)) (rfl) ?_
 try refine RUN ?_
 refine EVL.call rfl rfl rfl rfl rfl (split_pc h 44 oM) ?_
 rintro _ G2 hht hG2
 have hcl2:=cutL_len 44 h
 have hcp2:=fun w (q:w∈cutL 44 h)=>cutL_part q
 generalize cutL 44 h=hs at *
 obtain ⟨ha,hc,rfl⟩:=SlC.val hht
 try refine RUN ?_
 refine EV.loopK (ι:=Nat × Value × List ColT × List (List Value) × Ows) [2,3,4,5,26,27] [2,3] (fun q=>[(28,.v (.int .i64 (q.1:Int)))]) (fun q=>[(5,37,[q.2.1,.slice none 0 0])]) (fun q=>q.2.2.2.2) (fun q G=>q.1≤hs.length∧q.2.2.1.length=q.1∧LsR SCol G q.2.2.2.1 q.2.2.1∧(∀ c,c∈q.2.2.1→c.words.length≤12)∧pCols [] hs=pCols q.2.2.1 (hs.drop q.1)∧OwnL 83 3 q.2.1 q.1 q.2.2.2.1.flatten q.2.2.2.2) (fun q=>hs.length-q.1) ((0,.slice none 0 0,[],[],[])) rfl rfl ⟨rfl,trivial⟩ ⟨rfl,trivial⟩ rfl (fun _=>rfl) (⟨Nat.zero_le _,rfl,LsR.nil,(fun c hc=>by cases hc),rfl,OwnL.nil _ _⟩) ?_
 rintro ⟨i,u,done,css,ow⟩ G3 hG3 ⟨hi,hdl,hcs,hws,hpc,hown⟩
 dsimp only at hi hdl hcs hws hpc hown
 obtain ⟨ua,uc,rfl⟩:=hown.val
 try refine RUN ?_
 refine EV.cond rfl (fun hlt=>?_) (fun hlt=>?_)
 ·simp only [nN] at hlt
  obtain ⟨t,htx⟩:∃ t,hs[i]?=some t:=⟨_,List.getElem?_eq_getElem hlt⟩
  rw [dropA_at htx] at hpc
  have htl:=hcp2 t (List.mem_of_getElem? htx)
  have hpw:=PW.lends (H:=G3) hown (cO func42) fun G hG hsl=>parseCol_pw (l:=done) ⟨css,hcs.mono SCol.ok hG,by rw [hdl];exact hsl⟩ t oM oM
  try refine RUN ?_
  refine EVL.idxR tO rfl rfl rfl rfl rfl rfl rfl rfl rfl rfl ((hht.mono hG3)) (i) (rfl) (hlt) ((by rw [List.getElem?_map,htx];rfl)) ?_
  try refine RUN ?_
  refine EVL.callW rfl rfl rfl rfl rfl ow [] (List.append_nil _).symm hpw ?_
  rintro r ow' G4 ⟨ow2,rfl,hans⟩ hG4
  cases hx:pCol done t with
  | error e =>
   rw [hx] at hans
   obtain ⟨rfl,he⟩:=hans
   rw [pCols_stop hx,hdl] at hpc
   rw [hpc] at hps
   try refine RUN ?_
   rw [show ((e:Int) != 0)=true from bne_iff_ne.2 (by omega)]
   try refine RUN ?_
   exact bad _ _ _ _ he hps
  | ok c =>
   rw [hx] at hans
   obtain ⟨wv,rfl,hown2⟩:=hans
   obtain ⟨wa,wc,rfl⟩:=hown2.val
   rw [pCols_step hx] at hpc
   (first | refine EVL.publishL ow ow2 [] ((List.append_assoc ..)) hown2 fun G5 hG5 hw5=>?_ | refine EV.publishL ow ow2 [] ((List.append_assoc ..)) hown2 fun G5 hG5 hw5=>?_)
   try refine RUN ?_
   refine EVL.app1 tO rfl rfl rfl rfl rfl rfl rfl rfl rfl rfl rfl rfl rfl rfl rfl rfl rfl rfl rfl (fun _=>rfl) (ow) ([]) (rfl) (hown) oM fun _=>?_
   intro v' ow' hown'
   obtain ⟨va,vc,rfl⟩:=hown'.val
   try refine RUN ?_
   refine ⟨(i+1,.slice va (i+1) vc,done++[c],css++[_],ow'),⟨by dsimp only;rw [wi_inc i (by omega)];rfl,trivial⟩,sB,⟨rfl,trivial⟩,sB,List.append_nil _,⟨hlt,by dsimp only;rw [List.length_append,hdl];rfl,(hcs.mono SCol.ok (hG4.trans hG5)).snoc ⟨wa,wc,hw5,rfl⟩,fun d hd=>?_,hpc,by dsimp only;rw [flatSn];exact hown'⟩,hG4.trans hG5,by dsimp only;omega⟩
   rcases List.mem_append.1 hd with q | q
   ·exact hws d q
   ·rw [List.mem_singleton.1 q];exact (pCol_len hx).2
 simp only [nN] at hlt
 obtain rfl:i=hs.length:=by omega
 rw [List.drop_length,pCols_none] at hpc
 rw [hpc] at hps
 dsimp only at hps
 have hcap:=ht.le
 (first | refine EVL.publishL [] ow [] ((List.append_nil _).symm) hown fun G4 hG4 hs4=>?_ | refine EV.publishL [] ow [] ((List.append_nil _).symm) hown fun G4 hG4 hs4=>?_)
 have hcol:ColL G4 (.slice ua hs.length uc) done:=⟨css,hcs.mono SCol.ok hG4,by rw [hdl];exact hs4⟩
 try refine RUN ?_
 refine EVL.slc (te':=Tryz.te9) tO rfl rfl rfl rfl rfl rfl rfl rfl 1 (h::rs).length (.inr ⟨_,IntKind.i64,rfl,rfl⟩) (.inl ⟨rfl,rfl⟩) (by simp) hcap hcap ?_
 have htt:=SlN.tail ht
 rw [show (h::rs).length-1=rs.length by simp] at htt
 rw [show (h::rs).length-1=rs.length by simp,show (Tryz.te9).size=1 from rfl]
 generalize (if tc=1 then ta else ta.map (·.add (1*1)))=ta2 at htt
 try refine RUN ?_
 refine EV.loopK (ι:=Nat × Value × List (List CellT) × List (List Value) × Ows) [2,3,5,54,55] [2,3] (fun q=>[(56,.v (.int .i64 (q.1:Int)))]) (fun q=>[(5,37,[.slice ua hs.length uc,q.2.1])]) (fun q=>q.2.2.2.2) (fun q G=>q.1≤rs.length∧q.2.2.1.length=q.1∧LsR (Cel PRow) G q.2.2.2.1 q.2.2.1∧pRows done [] rs=pRows done q.2.2.1 (rs.drop q.1)∧OwnL 82 1 q.2.1 q.1 q.2.2.2.1.flatten q.2.2.2.2) (fun q=>rs.length-q.1) ((0,.slice none 0 0,[],[],[])) rfl rfl ⟨rfl,trivial⟩ ⟨rfl,trivial⟩ rfl (fun _=>rfl) (⟨Nat.zero_le _,rfl,LsR.nil,rfl,OwnL.nil _ _⟩) ?_
 rintro ⟨i,u,rdone,css2,ow3⟩ G5 hG5 ⟨hi,hrl,hcs2,hpr,hown3⟩
 dsimp only at hi hrl hcs2 hpr hown3
 obtain ⟨wa,wc,rfl⟩:=hown3.val
 try refine RUN ?_
 refine EV.cond rfl (fun hlt2=>?_) (fun hlt2=>?_)
 ·simp only [nN] at hlt2
  obtain ⟨t,htx⟩:∃ t,rs[i]?=some t:=⟨_,List.getElem?_eq_getElem hlt2⟩
  rw [dropA_at htx] at hpr
  have hstep:pRows done rdone (t::rs.drop (i+1))=if 300≤rdone.length then .error (4,rdone.length+2,0) else match pRow done t with
   | .error (e,at')=>.error (e,rdone.length+2,at')
   | .ok row=>pRows done (rdone++[row]) (rs.drop (i+1)):=rfl
  rw [← hpr,hrl] at hstep
  have htl:=hcp t (List.mem_cons_of_mem _ (List.mem_of_getElem? htx))
  have w2:IntKind.i64.wrap ((i:Int)+2)=((i+2:Nat):Int):=by rw [IntKind.wrap_i64];simp only [List.length_cons] at hcl;omega
  have hH:=(((hG2.trans hG3).trans hG4).trans hG5)
  try refine RUN ?_
  refine EVL.idxR tO rfl rfl rfl rfl rfl rfl rfl rfl rfl rfl ((htt.mono hH)) (i) (rfl) (hlt2) ((by rw [List.getElem?_map,htx];rfl)) ?_
  try refine RUN ?_
  by_cases c3:i≥300
  ·rw [decide_eq_true (show (i:Int)≥300 by omega)]
   rw [if_pos c3] at hstep
   rw [hstep] at hps
   try refine RUN ?_
   rw [w2]
   exact bad _ _ _ _ (by decide) hps
  rw [decide_eq_false (show ¬ (i:Int)≥300 by omega)]
  rw [if_neg c3] at hstep
  try refine RUN ?_
  refine EVL.call rfl rfl rfl rfl rfl (parseRow_pc (hcol.mono SCol.ok hG5) t (fun c hc=>Nat.le_trans (hws c hc) (by decide)) oM oM) ?_
  rintro _ G6 hans hG6
  cases hx:pRow done t with
  | error e =>
   obtain ⟨e,a⟩:=e
   rw [hx] at hans
   obtain ⟨rfl,he⟩:=hans
   rw [hx] at hstep
   dsimp only at hstep he
   rw [hstep] at hps
   try refine RUN ?_
   rw [show ((e:Int) != 0)=true from bne_iff_ne.2 (by omega)]
   try refine RUN ?_
   rw [w2]
   exact bad _ _ _ _ he hps
  | ok row =>
   rw [hx] at hans
   obtain ⟨rv,rfl,hrow⟩:=hans
   rw [hx] at hstep
   dsimp only at hstep
   obtain ⟨ra,rc,rfl⟩:=LR.val hrow
   try refine RUN ?_
   refine EVL.app1 tO rfl rfl rfl rfl rfl rfl rfl rfl rfl rfl rfl rfl rfl rfl rfl rfl rfl rfl rfl (fun _=>rfl) (ow3) ([]) ((List.append_nil _).symm) (hown3) oM fun _=>?_
   intro v' ow' hown'
   obtain ⟨va,vc,rfl⟩:=hown'.val
   try refine RUN ?_
   refine ⟨(i+1,.slice va (i+1) vc,rdone++[row],css2++[_],ow'),⟨by dsimp only;rw [wi_inc i (by omega)];rfl,trivial⟩,sB,⟨rfl,trivial⟩,sB,List.append_nil _,⟨hlt2,by dsimp only;rw [List.length_append,hrl];rfl,(hcs2.mono PRows.ok hG6).snoc ⟨_,rfl,hrow⟩,by rw [← hstep],by dsimp only;rw [flatSn];exact hown'⟩,hG6,by dsimp only;omega⟩
 simp only [nN] at hlt2
 obtain rfl:i=rs.length:=by omega
 rw [List.drop_length,pRows_none] at hpr
 rw [hpr] at hps
 (first | refine EVL.publishL [] ow3 [] ((List.append_nil _).symm) hown3 fun G6 hG6 hs6=>?_ | refine EV.publishL [] ow3 [] ((List.append_nil _).symm) hown3 fun G6 hG6 hs6=>?_)
 try refine RUN ?_
 rw [hps]
 exact ⟨_,_,rfl,hcol.mono SCol.ok (hG5.trans hG6),⟨css2,hcs2.mono PRows.ok hG6,by rw [hrl];exact hs6⟩⟩
theorem sb_neq (l m:List UInt8):(!((sb l).toList == (sb m).toList))=decide (l≠m):=by
 rw [sb_eqb]
 by_cases h:l=m
 ·rw [decide_eq_true h,decide_eq_false (fun k=>k h)];rfl
 ·rw [decide_eq_false h,decide_eq_true h];rfl
theorem rcell_of {G:Hp} {w:Value} {q:Rat} (h:RQ G w q) (b:Bool) (k:Nat):RCell G (.bool b::(vlist w++[.int .i64 (k:Int)])) ⟨b,q,k⟩:=⟨w,h,rfl⟩
theorem LsR.all {α:Type} {R:Hp→List Value→α→Prop} {k:Nat} (ok:RelOk R k) {H:Hp} {css:List (List Value)} {l:List α} (h:LsR R H css l):∀ x,x∈css→x.length=k:=fun x hx=>by
 obtain ⟨i,hi⟩:=List.mem_iff_getElem?.1 hx
 have hi':=(List.getElem?_eq_some_iff.1 hi).1
 exact ok.len (h.2 i x _ hi (List.getElem?_eq_getElem (by rw [← h.1];exact hi')))
end Go.Proofs.YtbcfidllfimehaaGreatDoor
namespace Go.Proofs.YtbcfidllfimehaaGreatDoor
end Go.Proofs.YtbcfidllfimehaaGreatDoor
namespace Go.Proofs.YtbcfidllfimehaaGreatDoor
open Go.RowKit _root_.Go.Proofs.Tryz
theorem flat1 (cs:List Value):[Value.agg cs.toArray].flatMap vlist=cs:=by
 show vlist (.agg cs.toArray)++[]=cs
 rw [List.append_nil];rfl
theorem oneB_str:∀ l:List (List UInt8),oneB (l.map strV)=true
 | []=>rfl
 | _::l=>by rw [List.map_cons];unfold oneB;rw [oneB_str l];rfl
theorem sl_str_nil (G:Hp) (a:Option Addr) (c:Nat):SL G (.slice a 0 c) []:=⟨rfl,.inl ⟨rfl,a,c,rfl⟩⟩
set_option maxRecDepth 100000 in
set_option maxHeartbeats 32000000 in
theorem outCols_pc {H:Hp} {v:Value} {l:List ColT} (hv:ColL H v l) (hw:∀ c,c∈l→c.words.length≤1000000) (hl:l.length≤1000000):PC prog 48 #[v] H fun r H'=>ColL H' r l:=by
 obtain ⟨dcs,hcs,hsl⟩:=hv
 obtain ⟨a,c,rfl⟩:=SlC.val hsl
 refine BD func48 ntmps48 ?_
 try refine RUN ?_
 refine EV.loopK (ι:=Nat × Value × List (List Value) × Ows) [0] [] (fun q=>[(3,.v q.2.1),(4,.v (.int .i64 (q.1:Int)))]) (fun _=>[]) (fun q=>q.2.2.2) (fun q G=>q.1≤l.length∧LsR SCol G q.2.2.1 (l.take q.1)∧OwnL 64 3 q.2.1 q.1 q.2.2.1.flatten q.2.2.2) (fun q=>l.length-q.1) ((0,.slice none 0 0,[],[])) rfl rfl ⟨rfl,rfl,trivial⟩ trivial rfl (fun _=>rfl) (⟨Nat.zero_le _,LsR.nil,OwnL.nil _ _⟩) ?_
 rintro ⟨i,u,ps,ow⟩ G1 hG1 ⟨hi,hps,hown⟩
 dsimp only at hi hps hown
 obtain ⟨wa,wc,rfl⟩:=hown.val
 try refine RUN ?_
 refine EV.cond rfl (fun hlt=>?_) (fun hlt=>?_)
 ·simp only [nN] at hlt
  obtain ⟨x,hx⟩:∃ x,l[i]?=some x:=⟨_,List.getElem?_eq_getElem hlt⟩
  have hxw:=hw x (List.mem_of_getElem? hx)
  obtain ⟨cc,hcut,a7,c7,hws,rfl⟩:=(hcs.mono SCol.ok hG1).get SCol.ok hx
  have hs1:=hsl.mono hG1
  have wn:IntKind.i64.wrap ((i:Int)+1)=((i+1:Nat):Int):=wi_inc i oM
  by_cases e:x.words.length=0
  ·have hc0:x.words=[]:=List.length_eq_zero_iff.1 e
   rw [e] at hcut
   try refine RUN ?_
   apply EV.drawn 20 kR kR;intro xv yw
   (repeat refine' DD ?_)
   refine' DJ.idxM tO rfl rfl rfl rfl rfl rfl rfl rfl rfl (hs1) (i) (rfl) (hlt) (hcut) ?_;rotate_left
   (repeat refine' DD ?_)
   refine' DJ.idxM tO rfl rfl rfl rfl rfl rfl rfl rfl rfl (hs1) (i) (rfl) (hlt) (hcut) ?_;rotate_left
   (repeat refine' DD ?_)
   (refine' DJ.lit0 tO rfl rfl rfl rfl rfl rfl rfl ?_;rotate_left)
   (repeat refine' DD ?_)
   refine' DJ.idxM tO rfl rfl rfl rfl rfl rfl rfl rfl rfl (hs1) (i) (rfl) (hlt) (hcut) ?_;rotate_left
   (repeat refine' DD ?_)
   refine' DJ.append0E (u0:=xv 11) tO rfl rfl rfl rfl rfl rfl rfl rfl rfl (a7) (c7) rfl (fun G hd=>hd.head kR) ?_;rotate_left
   (refine' DJ.plainE tO (fun v G=>∃ cs,v=.agg cs.toArray∧SCol G cs x) (fun v G G' ⟨cs,e,h⟩ k=>⟨cs,e,SCol.ok.mono h k⟩) rfl rfl rfl (fun G hd=>(by
    obtain ⟨g8,e8⟩:∃ g,xv 17=.slice (some ⟨g,0,none⟩) 0 0:=hd.head kR
    rw [e8]
    exact ⟨_,rfl,_,rfl,some ⟨g8,0,none⟩,0,(by rw [hc0];exact sl_str_nil _ _ _),by rw [hc0];rfl⟩)) ?_;rotate_left)
   (refine' DJ.litD1 (Φ:=fun v G=>∃ cs,SlC G v 1 3 cs∧SCol G cs x) (fun v G G' ⟨cs,e,h⟩ k=>⟨cs,e.mono k,SCol.ok.mono h k⟩) tO rfl rfl rfl rfl rfl rfl rfl rfl rfl rfl rfl (fun G hd=>by obtain ⟨cs,e,h⟩:=hd.head kR;rw [e];exact SCol.ok.len h) (fun G G' v hd hG h=>(by
    obtain ⟨cs,e,hp⟩:=hd.head kR
    rw [e,flat1] at h
    exact ⟨cs,h,SCol.ok.mono hp hG⟩)) ?_;rotate_left)
   (refine DJ.nil (fun G2 hG2 hF2=>?_);(case hS|hS2=>rfl))
   obtain ⟨cs2,hs2,hp2⟩:=hF2.1
   have hone:oneB cs2=true:=by obtain ⟨_,_,_,rfl⟩:=id hp2;rfl
   refine EVL.append tO rfl rfl rfl rfl rfl rfl rfl rfl rfl rfl rfl rfl [] ow [] (List.append_nil _).symm hown (SrcAt.ro hs2 (Nat.succ_pos 0)) hone oM ?_
   intro v1 ow1 hown1
   obtain ⟨va,vc,rfl⟩:=hown1.val
   try refine RUN ?_
   exact ⟨(i+1,.slice va (i+1) vc,ps++[cs2],ow1),⟨rfl,by dsimp only;rw [wn];rfl,trivial⟩,sB,trivial,sB,List.append_nil _,⟨hlt,by dsimp only;rw [take_snoc hx];exact (hps.mono SCol.ok hG2).snoc hp2,by dsimp only;rw [flatSn];exact hown1⟩,hG2,by dsimp only;omega⟩
  ·have hls:SlC G1 (.slice a7 x.words.length c7) x.words.length 1 (x.words.map strV):=hws
   try refine RUN ?_
   apply EV.drawn 20 kR kR;intro xv yw
   (repeat refine' DD ?_)
   refine' DJ.idxM tO rfl rfl rfl rfl rfl rfl rfl rfl rfl (hs1) (i) (rfl) (hlt) (hcut) ?_;rotate_left
   (repeat refine' DD ?_)
   refine' DJ.idxM tO rfl rfl rfl rfl rfl rfl rfl rfl rfl (hs1) (i) (rfl) (hlt) (hcut) ?_;rotate_left
   (repeat refine' DD ?_)
   (refine' DJ.lit0 tO rfl rfl rfl rfl rfl rfl rfl ?_;rotate_left)
   (repeat refine' DD ?_)
   refine' DJ.idxM tO rfl rfl rfl rfl rfl rfl rfl rfl rfl (hs1) (i) (rfl) (hlt) (hcut) ?_;rotate_left
   (repeat refine' DD ?_)
   refine' DJ.appendE (u0:=xv 11) tO rfl rfl rfl rfl rfl rfl rfl rfl rfl rfl (fun G hd=>hd.head kR) (hls) (Nat.pos_of_ne_zero e) oM ?_;rotate_left
   (refine' DJ.plainE tO (fun v G=>∃ cs,v=.agg cs.toArray∧SCol G cs x) (fun v G G' ⟨cs,e,h⟩ k=>⟨cs,e,SCol.ok.mono h k⟩) rfl rfl rfl (fun G hd=>(by
    have hA:SlC G (xv 17) x.words.length 1 (x.words.map strV):=hd.head kR
    obtain ⟨a8,c8,e8⟩:=SlC.val hA
    rw [e8] at hA
    rw [e8]
    exact ⟨_,rfl,_,rfl,_,_,hA,rfl⟩)) ?_;rotate_left)
   (refine' DJ.litD1 (Φ:=fun v G=>∃ cs,SlC G v 1 3 cs∧SCol G cs x) (fun v G G' ⟨cs,e,h⟩ k=>⟨cs,e.mono k,SCol.ok.mono h k⟩) tO rfl rfl rfl rfl rfl rfl rfl rfl rfl rfl rfl (fun G hd=>by obtain ⟨cs,e,h⟩:=hd.head kR;rw [e];exact SCol.ok.len h) (fun G G' v hd hG h=>(by
    obtain ⟨cs,e,hp⟩:=hd.head kR
    rw [e,flat1] at h
    exact ⟨cs,h,SCol.ok.mono hp hG⟩)) ?_;rotate_left)
   (refine DJ.nil (fun G2 hG2 hF2=>?_);(case hS|hS2=>rfl))
   obtain ⟨cs2,hs2,hp2⟩:=hF2.1
   have hone:oneB cs2=true:=by obtain ⟨_,_,_,rfl⟩:=id hp2;rfl
   refine EVL.append tO rfl rfl rfl rfl rfl rfl rfl rfl rfl rfl rfl rfl [] ow [] (List.append_nil _).symm hown (SrcAt.ro hs2 (Nat.succ_pos 0)) hone oM ?_
   intro v1 ow1 hown1
   obtain ⟨va,vc,rfl⟩:=hown1.val
   try refine RUN ?_
   exact ⟨(i+1,.slice va (i+1) vc,ps++[cs2],ow1),⟨rfl,by dsimp only;rw [wn];rfl,trivial⟩,sB,trivial,sB,List.append_nil _,⟨hlt,by dsimp only;rw [take_snoc hx];exact (hps.mono SCol.ok hG2).snoc hp2,by dsimp only;rw [flatSn];exact hown1⟩,hG2,by dsimp only;omega⟩
 ·simp only [nN] at hlt
  obtain rfl:i=l.length:=by omega
  rw [List.take_length] at hps
  (first | refine EVL.publishL [] ow [] ((List.append_nil _).symm) hown fun G2 hG2 hs2=>?_ | refine EV.publishL [] ow [] ((List.append_nil _).symm) hown fun G2 hG2 hs2=>?_)
  try refine RUN ?_
  exact ⟨ps,hps.mono SCol.ok hG2,hs2⟩
abbrev CellsQ (r:List CellT):Prop:=r.length≤1000000∧∀ x,x∈r→rq x.q
set_option maxRecDepth 100000 in
set_option maxHeartbeats 32000000 in
theorem outCells_pc {H:Hp} {v:Value} {l:List CellT} (hv:PRow H v l) (hq:CellsQ l):PC prog 49 #[v] H fun r H'=>RRow H' r l:=by
 obtain ⟨hl,hq⟩:=hq
 obtain ⟨dcs,hcs,hsl⟩:=hv
 obtain ⟨a,c,rfl⟩:=SlC.val hsl
 refine BD func49 ntmps49 ?_
 try refine RUN ?_
 refine EV.loopK (ι:=Nat × Value × List (List Value) × Ows) [0] [] (fun q=>[(3,.v q.2.1),(4,.v (.int .i64 (q.1:Int)))]) (fun _=>[]) (fun q=>q.2.2.2) (fun q G=>q.1≤l.length∧LsR RCell G q.2.2.1 (l.take q.1)∧OwnL 98 5 q.2.1 q.1 q.2.2.1.flatten q.2.2.2) (fun q=>l.length-q.1) ((0,.slice none 0 0,[],[])) rfl rfl ⟨rfl,rfl,trivial⟩ trivial rfl (fun _=>rfl) (⟨Nat.zero_le _,LsR.nil,OwnL.nil _ _⟩) ?_
 rintro ⟨i,u,ps,ow⟩ G1 hG1 ⟨hi,hps,hown⟩
 dsimp only at hi hps hown
 obtain ⟨wa,wc,rfl⟩:=hown.val
 try refine RUN ?_
 refine EV.cond rfl (fun hlt=>?_) (fun hlt=>?_)
 ·simp only [nN] at hlt
  obtain ⟨x,hx⟩:∃ x,l[i]?=some x:=⟨_,List.getElem?_eq_getElem hlt⟩
  have hxq:=hq x (List.mem_of_getElem? hx)
  obtain ⟨cc,hcut,rfl⟩:=(hcs.mono PCell.ok hG1).get PCell.ok hx
  have hs1:=hsl.mono hG1
  have wn:IntKind.i64.wrap ((i:Int)+1)=((i+1:Nat):Int):=wi_inc i oM
  try refine RUN ?_
  apply EV.drawn 19 kR kR;intro xv yw
  (repeat refine' DD ?_)
  refine' DJ.idxM tO rfl rfl rfl rfl rfl rfl rfl rfl rfl (hs1) (i) (rfl) (hlt) (hcut) ?_;rotate_left
  (repeat refine' DD ?_)
  refine' DJ.idxM tO rfl rfl rfl rfl rfl rfl rfl rfl rfl (hs1) (i) (rfl) (hlt) (hcut) ?_;rotate_left
  (repeat refine' DD ?_)
  refine' DJ.call rfl rfl rfl rfl rfl (cO func99) (fun G hG hd=>out_pc x.q hxq) (fun _ _ _ h k=>RQ.mono h k) ?_;rotate_left
  (repeat refine' DD ?_)
  refine' DJ.idxM tO rfl rfl rfl rfl rfl rfl rfl rfl rfl (hs1) (i) (rfl) (hlt) (hcut) ?_;rotate_left
  (repeat refine' DD ?_)
  (refine' DJ.plainE tO (fun v G=>∃ cs,v=.agg cs.toArray∧RCell G cs x) (fun v G G' ⟨cs,e,h⟩ k=>⟨cs,e,RCell.ok.mono h k⟩) rfl rfl rfl (fun G hd=>(by
   have hA:RQ G (xv 11) x.q:=hd.head kR
   obtain ⟨ra,rl,rc,xa,xl,xc,e8⟩:=rq_form hA
   rw [e8] at hA
   rw [e8]
   exact ⟨_,rfl,_,rfl,rcell_of hA _ _⟩)) ?_;rotate_left)
  (refine' DJ.litD1 (Φ:=fun v G=>∃ cs,SlC G v 1 5 cs∧RCell G cs x) (fun v G G' ⟨cs,e,h⟩ k=>⟨cs,e.mono k,RCell.ok.mono h k⟩) tO rfl rfl rfl rfl rfl rfl rfl rfl rfl rfl rfl (fun G hd=>by obtain ⟨cs,e,h⟩:=hd.head kR;rw [e];exact RCell.ok.len h) (fun G G' v hd hG h=>(by
   obtain ⟨cs,e,hp⟩:=hd.head kR
   rw [e,flat1] at h
   exact ⟨cs,h,RCell.ok.mono hp hG⟩)) ?_;rotate_left)
  (refine DJ.nil (fun G2 hG2 hF2=>?_);(case hS|hS2=>rfl))
  obtain ⟨cs2,hs2,hp2⟩:=hF2.1
  have hone:oneB cs2=true:=by
   obtain ⟨yw,hyw,rfl⟩:=id hp2
   obtain ⟨ra,rl,rc,xa,xl,xc,rfl⟩:=rq_form hyw
   rfl
  refine EVL.append tO rfl rfl rfl rfl rfl rfl rfl rfl rfl rfl rfl rfl [] ow [] (List.append_nil _).symm hown (SrcAt.ro hs2 (Nat.succ_pos 0)) hone oM ?_
  intro v1 ow1 hown1
  obtain ⟨va,vc,rfl⟩:=hown1.val
  try refine RUN ?_
  exact ⟨(i+1,.slice va (i+1) vc,ps++[cs2],ow1),⟨rfl,by dsimp only;rw [wn];rfl,trivial⟩,sB,trivial,sB,List.append_nil _,⟨hlt,by dsimp only;rw [take_snoc hx];exact (hps.mono RCell.ok hG2).snoc hp2,by dsimp only;rw [flatSn];exact hown1⟩,hG2,by dsimp only;omega⟩
 ·simp only [nN] at hlt
  obtain rfl:i=l.length:=by omega
  rw [List.take_length] at hps
  (first | refine EVL.publishL [] ow [] ((List.append_nil _).symm) hown fun G2 hG2 hs2=>?_ | refine EV.publishL [] ow [] ((List.append_nil _).symm) hown fun G2 hG2 hs2=>?_)
  try refine RUN ?_
  exact ⟨ps,hps.mono RCell.ok hG2,hs2⟩
structure SmSh (cs:List ColT) (rows:List (List CellT)):Prop where
 ncols:cs.length≤1000000
 words:∀ c,c∈cs→c.words.length≤1000000
 nrows:rows.length≤1000000
 cells:∀ r,r∈rows→CellsQ r
theorem flatV {v:Value} (h:∃ a l c,v=.slice a l c):[v].flatMap vlist=[v]:=by obtain ⟨a,l,c,rfl⟩:=h;rfl
set_option maxRecDepth 100000 in
set_option maxHeartbeats 32000000 in
theorem outSheet_pc {H:Hp} {u v:Value} {cs:List ColT} {rows:List (List CellT)} (hu:ColL H u cs) (hv:PRows H v rows) (sm:SmSh cs rows):PC prog 16 #[.agg #[u,v]] H fun r H'=>∃ a b,r=.agg #[a,b]∧ColL H' a cs∧RRows H' b rows:=by
 obtain ⟨ua,uc,rfl⟩:=hu.val
 obtain ⟨dcs,hcs,hsl⟩:=hv
 obtain ⟨a,c,rfl⟩:=SlC.val hsl
 have hnr:=sm.nrows
 refine BD func16 ntmps16 ?_
 try refine RUN ?_
 refine EVL.call rfl rfl rfl rfl rfl (outCols_pc hu sm.words sm.ncols) ?_
 rintro _ G0 hcol hG0
 obtain ⟨xa,xc,rfl⟩:=hcol.val
 try refine RUN ?_
 refine EV.loopK (ι:=Nat × Value × List (List Value) × Ows) [1,2,3] [1,2] (fun q=>[(4,.v (.int .i64 (q.1:Int)))]) (fun q=>[(3,30,[.slice xa cs.length xc,q.2.1])]) (fun q=>q.2.2.2) (fun q G=>q.1≤rows.length∧LsR (Cel RRow) G q.2.2.1 (rows.take q.1)∧OwnL 58 1 q.2.1 q.1 q.2.2.1.flatten q.2.2.2) (fun q=>rows.length-q.1) ((0,.slice none 0 0,[],[])) rfl rfl ⟨rfl,trivial⟩ ⟨rfl,trivial⟩ rfl (fun _=>rfl) (⟨Nat.zero_le _,LsR.nil,OwnL.nil _ _⟩) ?_
 rintro ⟨i,w,ps,ow⟩ G1 hG1 ⟨hi,hps,hown⟩
 dsimp only at hi hps hown
 obtain ⟨wa,wc,rfl⟩:=hown.val
 have hG01:=hG0.trans hG1
 try refine RUN ?_
 refine EV.cond rfl (fun hlt=>?_) (fun hlt=>?_)
 ·simp only [nN] at hlt
  obtain ⟨row,hrow⟩:∃ x,rows[i]?=some x:=⟨_,List.getElem?_eq_getElem hlt⟩
  obtain ⟨cc,hcut,rv,rfl,hrr⟩:=(hcs.mono PRows.ok hG01).get PRows.ok hrow
  obtain ⟨r5,r6,rfl⟩:=LR.val hrr
  have hsm:=sm.cells row (List.mem_of_getElem? hrow)
  have hoc:=fun G (hG:G1.Le G)=>outCells_pc (hrr.mono hG) hsm
  have wn:IntKind.i64.wrap ((i:Int)+1)=((i+1:Nat):Int):=wi_inc i oM
  try refine RUN ?_
  apply EV.drawn 9 kR kR;intro xv yw
  (repeat refine' DD ?_)
  refine' DJ.idxM tO rfl rfl rfl rfl rfl rfl rfl rfl rfl ((hsl.mono hG01)) (i) (rfl) (hlt) (hcut) ?_;rotate_left
  (repeat refine' DD ?_)
  refine' DJ.call rfl rfl rfl rfl rfl (cO func49) (fun G hG hd=>hoc G hG) (fun _ _ _ h k=>RRow.mono h k) ?_;rotate_left
  (refine' DJ.litD1 (Φ:=fun v G=>∃ x,SlC G v 1 1 [x]∧RRow G x row) (fun v G G' ⟨x,e,h⟩ k=>⟨x,e.mono k,h.mono k⟩) tO rfl rfl rfl rfl rfl rfl rfl rfl rfl rfl rfl (fun G hd=>by obtain ⟨p,q,e⟩:=LR.val (hd.head kR);rw [e];rfl) (fun G G' v hd hG h=>(by
   have hp:RRow G (xv 7) row:=hd.head kR
   obtain ⟨p,q,e⟩:=hp.val
   rw [flatV ⟨p,_,q,e⟩] at h
   exact ⟨_,h,hp.mono hG⟩)) ?_;rotate_left)
  (refine DJ.nil (fun G2 hG2 hF2=>?_);(case hS|hS2=>rfl))
  obtain ⟨x,hs2,hp2⟩:=hF2.1
  obtain ⟨p,q,rfl⟩:=hp2.val
  refine EVL.append tO rfl rfl rfl rfl rfl rfl rfl rfl rfl rfl rfl rfl [] ow [] (List.append_nil _).symm hown (SrcAt.ro hs2 (Nat.succ_pos 0)) rfl oM ?_
  intro v1 ow1 hown1
  obtain ⟨va,vc,rfl⟩:=hown1.val
  try refine RUN ?_
  rw [wn]
  exact ⟨(i+1,.slice va (i+1) vc,ps++[_],ow1),⟨rfl,trivial⟩,sB,⟨rfl,trivial⟩,sB,List.append_nil _,⟨hlt,by dsimp only;rw [take_snoc hrow];exact (hps.mono RRows.ok hG2).snoc ⟨_,rfl,hp2⟩,by dsimp only;rw [flatSn];exact hown1⟩,hG2,by dsimp only;omega⟩
 ·simp only [nN] at hlt
  obtain rfl:i=rows.length:=by omega
  rw [List.take_length] at hps
  (first | refine EVL.publishL [] ow [] ((List.append_nil _).symm) hown fun G2 hG2 hs2=>?_ | refine EV.publishL [] ow [] ((List.append_nil _).symm) hown fun G2 hG2 hs2=>?_)
  try refine RUN ?_
  exact ⟨_,_,rfl,hcol.mono SCol.ok (hG1.trans hG2),ps,hps.mono RRows.ok hG2,hs2⟩
set_option maxRecDepth 100000 in
set_option maxHeartbeats 32000000 in
theorem inCols_pc {H:Hp} {v:Value} {l:List ColT} (hv:ColL H v l) (hw:∀ c,c∈l→c.words.length≤1000000) (hl:l.length≤1000000):PC prog 50 #[v] H fun r H'=>ColL H' r l:=by
 obtain ⟨dcs,hcs,hsl⟩:=hv
 obtain ⟨a,c,rfl⟩:=SlC.val hsl
 refine BD func50 ntmps50 ?_
 try refine RUN ?_
 refine EV.loopK (ι:=Nat × Value × List (List Value) × Ows) [0] [] (fun q=>[(3,.v q.2.1),(4,.v (.int .i64 (q.1:Int)))]) (fun _=>[]) (fun q=>q.2.2.2) (fun q G=>q.1≤l.length∧LsR SCol G q.2.2.1 (l.take q.1)∧OwnL 83 3 q.2.1 q.1 q.2.2.1.flatten q.2.2.2) (fun q=>l.length-q.1) ((0,.slice none 0 0,[],[])) rfl rfl ⟨rfl,rfl,trivial⟩ trivial rfl (fun _=>rfl) (⟨Nat.zero_le _,LsR.nil,OwnL.nil _ _⟩) ?_
 rintro ⟨i,u,ps,ow⟩ G1 hG1 ⟨hi,hps,hown⟩
 dsimp only at hi hps hown
 obtain ⟨wa,wc,rfl⟩:=hown.val
 try refine RUN ?_
 refine EV.cond rfl (fun hlt=>?_) (fun hlt=>?_)
 ·simp only [nN] at hlt
  obtain ⟨x,hx⟩:∃ x,l[i]?=some x:=⟨_,List.getElem?_eq_getElem hlt⟩
  have hxw:=hw x (List.mem_of_getElem? hx)
  obtain ⟨cc,hcut,a7,c7,hws,rfl⟩:=(hcs.mono SCol.ok hG1).get SCol.ok hx
  have hs1:=hsl.mono hG1
  have wn:IntKind.i64.wrap ((i:Int)+1)=((i+1:Nat):Int):=wi_inc i oM
  by_cases e:x.words.length=0
  ·have hc0:x.words=[]:=List.length_eq_zero_iff.1 e
   rw [e] at hcut
   try refine RUN ?_
   apply EV.drawn 20 kR kR;intro xv yw
   (repeat refine' DD ?_)
   refine' DJ.idxM tO rfl rfl rfl rfl rfl rfl rfl rfl rfl (hs1) (i) (rfl) (hlt) (hcut) ?_;rotate_left
   (repeat refine' DD ?_)
   refine' DJ.idxM tO rfl rfl rfl rfl rfl rfl rfl rfl rfl (hs1) (i) (rfl) (hlt) (hcut) ?_;rotate_left
   (repeat refine' DD ?_)
   (refine' DJ.lit0 tO rfl rfl rfl rfl rfl rfl rfl ?_;rotate_left)
   (repeat refine' DD ?_)
   refine' DJ.idxM tO rfl rfl rfl rfl rfl rfl rfl rfl rfl (hs1) (i) (rfl) (hlt) (hcut) ?_;rotate_left
   (repeat refine' DD ?_)
   refine' DJ.append0E (u0:=xv 11) tO rfl rfl rfl rfl rfl rfl rfl rfl rfl (a7) (c7) rfl (fun G hd=>hd.head kR) ?_;rotate_left
   (refine' DJ.plainE tO (fun v G=>∃ cs,v=.agg cs.toArray∧SCol G cs x) (fun v G G' ⟨cs,e,h⟩ k=>⟨cs,e,SCol.ok.mono h k⟩) rfl rfl rfl (fun G hd=>(by
    obtain ⟨g8,e8⟩:∃ g,xv 17=.slice (some ⟨g,0,none⟩) 0 0:=hd.head kR
    rw [e8]
    exact ⟨_,rfl,_,rfl,some ⟨g8,0,none⟩,0,(by rw [hc0];exact sl_str_nil _ _ _),by rw [hc0];rfl⟩)) ?_;rotate_left)
   (refine' DJ.litD1 (Φ:=fun v G=>∃ cs,SlC G v 1 3 cs∧SCol G cs x) (fun v G G' ⟨cs,e,h⟩ k=>⟨cs,e.mono k,SCol.ok.mono h k⟩) tO rfl rfl rfl rfl rfl rfl rfl rfl rfl rfl rfl (fun G hd=>by obtain ⟨cs,e,h⟩:=hd.head kR;rw [e];exact SCol.ok.len h) (fun G G' v hd hG h=>(by
    obtain ⟨cs,e,hp⟩:=hd.head kR
    rw [e,flat1] at h
    exact ⟨cs,h,SCol.ok.mono hp hG⟩)) ?_;rotate_left)
   (refine DJ.nil (fun G2 hG2 hF2=>?_);(case hS|hS2=>rfl))
   obtain ⟨cs2,hs2,hp2⟩:=hF2.1
   have hone:oneB cs2=true:=by obtain ⟨_,_,_,rfl⟩:=id hp2;rfl
   refine EVL.append tO rfl rfl rfl rfl rfl rfl rfl rfl rfl rfl rfl rfl [] ow [] (List.append_nil _).symm hown (SrcAt.ro hs2 (Nat.succ_pos 0)) hone oM ?_
   intro v1 ow1 hown1
   obtain ⟨va,vc,rfl⟩:=hown1.val
   try refine RUN ?_
   exact ⟨(i+1,.slice va (i+1) vc,ps++[cs2],ow1),⟨rfl,by dsimp only;rw [wn];rfl,trivial⟩,sB,trivial,sB,List.append_nil _,⟨hlt,by dsimp only;rw [take_snoc hx];exact (hps.mono SCol.ok hG2).snoc hp2,by dsimp only;rw [flatSn];exact hown1⟩,hG2,by dsimp only;omega⟩
  ·have hls:SlC G1 (.slice a7 x.words.length c7) x.words.length 1 (x.words.map strV):=hws
   try refine RUN ?_
   apply EV.drawn 20 kR kR;intro xv yw
   (repeat refine' DD ?_)
   refine' DJ.idxM tO rfl rfl rfl rfl rfl rfl rfl rfl rfl (hs1) (i) (rfl) (hlt) (hcut) ?_;rotate_left
   (repeat refine' DD ?_)
   refine' DJ.idxM tO rfl rfl rfl rfl rfl rfl rfl rfl rfl (hs1) (i) (rfl) (hlt) (hcut) ?_;rotate_left
   (repeat refine' DD ?_)
   (refine' DJ.lit0 tO rfl rfl rfl rfl rfl rfl rfl ?_;rotate_left)
   (repeat refine' DD ?_)
   refine' DJ.idxM tO rfl rfl rfl rfl rfl rfl rfl rfl rfl (hs1) (i) (rfl) (hlt) (hcut) ?_;rotate_left
   (repeat refine' DD ?_)
   refine' DJ.appendE (u0:=xv 11) tO rfl rfl rfl rfl rfl rfl rfl rfl rfl rfl (fun G hd=>hd.head kR) (hls) (Nat.pos_of_ne_zero e) oM ?_;rotate_left
   (refine' DJ.plainE tO (fun v G=>∃ cs,v=.agg cs.toArray∧SCol G cs x) (fun v G G' ⟨cs,e,h⟩ k=>⟨cs,e,SCol.ok.mono h k⟩) rfl rfl rfl (fun G hd=>(by
    have hA:SlC G (xv 17) x.words.length 1 (x.words.map strV):=hd.head kR
    obtain ⟨a8,c8,e8⟩:=SlC.val hA
    rw [e8] at hA
    rw [e8]
    exact ⟨_,rfl,_,rfl,_,_,hA,rfl⟩)) ?_;rotate_left)
   (refine' DJ.litD1 (Φ:=fun v G=>∃ cs,SlC G v 1 3 cs∧SCol G cs x) (fun v G G' ⟨cs,e,h⟩ k=>⟨cs,e.mono k,SCol.ok.mono h k⟩) tO rfl rfl rfl rfl rfl rfl rfl rfl rfl rfl rfl (fun G hd=>by obtain ⟨cs,e,h⟩:=hd.head kR;rw [e];exact SCol.ok.len h) (fun G G' v hd hG h=>(by
    obtain ⟨cs,e,hp⟩:=hd.head kR
    rw [e,flat1] at h
    exact ⟨cs,h,SCol.ok.mono hp hG⟩)) ?_;rotate_left)
   (refine DJ.nil (fun G2 hG2 hF2=>?_);(case hS|hS2=>rfl))
   obtain ⟨cs2,hs2,hp2⟩:=hF2.1
   have hone:oneB cs2=true:=by obtain ⟨_,_,_,rfl⟩:=id hp2;rfl
   refine EVL.append tO rfl rfl rfl rfl rfl rfl rfl rfl rfl rfl rfl rfl [] ow [] (List.append_nil _).symm hown (SrcAt.ro hs2 (Nat.succ_pos 0)) hone oM ?_
   intro v1 ow1 hown1
   obtain ⟨va,vc,rfl⟩:=hown1.val
   try refine RUN ?_
   exact ⟨(i+1,.slice va (i+1) vc,ps++[cs2],ow1),⟨rfl,by dsimp only;rw [wn];rfl,trivial⟩,sB,trivial,sB,List.append_nil _,⟨hlt,by dsimp only;rw [take_snoc hx];exact (hps.mono SCol.ok hG2).snoc hp2,by dsimp only;rw [flatSn];exact hown1⟩,hG2,by dsimp only;omega⟩
 ·simp only [nN] at hlt
  obtain rfl:i=l.length:=by omega
  rw [List.take_length] at hps
  (first | refine EVL.publishL [] ow [] ((List.append_nil _).symm) hown fun G2 hG2 hs2=>?_ | refine EV.publishL [] ow [] ((List.append_nil _).symm) hown fun G2 hG2 hs2=>?_)
  try refine RUN ?_
  exact ⟨ps,hps.mono SCol.ok hG2,hs2⟩
set_option maxRecDepth 100000 in
set_option maxHeartbeats 32000000 in
theorem inCells_pc {H:Hp} {v:Value} {l:List CellT} (hv:RRow H v l) (hq:CellsQ l):PC prog 51 #[v] H fun r H'=>PRow H' r l:=by
 obtain ⟨hl,hq⟩:=hq
 obtain ⟨dcs,hcs,hsl⟩:=hv
 obtain ⟨a,c,rfl⟩:=SlC.val hsl
 refine BD func51 ntmps51 ?_
 try refine RUN ?_
 refine EV.loopK (ι:=Nat × Value × Ows) [0] [] (fun q=>[(3,.v q.2.1),(4,.v (.int .i64 (q.1:Int)))]) (fun _=>[]) (fun q=>q.2.2) (fun q G=>q.1≤l.length∧OwnL 81 7 q.2.1 q.1 ((l.take q.1).map cellC).flatten q.2.2) (fun q=>l.length-q.1) ((0,.slice none 0 0,[])) rfl rfl ⟨rfl,rfl,trivial⟩ trivial rfl (fun _=>rfl) (⟨Nat.zero_le _,OwnL.nil _ _⟩) ?_
 rintro ⟨i,u,ow⟩ G1 hG1 ⟨hi,hown⟩
 dsimp only at hi hown
 obtain ⟨wa,wc,rfl⟩:=hown.val
 try refine RUN ?_
 refine EV.cond rfl (fun hlt=>?_) (fun hlt=>?_)
 ·simp only [nN] at hlt
  obtain ⟨x,hx⟩:∃ x,l[i]?=some x:=⟨_,List.getElem?_eq_getElem hlt⟩
  have hxq:=hq x (List.mem_of_getElem? hx)
  obtain ⟨cc,hcut,yw,hyw,rfl⟩:=(hcs.mono RCell.ok hG1).get RCell.ok hx
  obtain ⟨ra,rl,rc,xa,xl,xc,rfl⟩:=rq_form hyw
  have hs1:=hsl.mono hG1
  have hin:=fun G (hG:G1.Le G)=>in_pc (RQ.mono hyw hG) hxq
  have wn:IntKind.i64.wrap ((i:Int)+1)=((i+1:Nat):Int):=wi_inc i oM
  try refine RUN ?_
  apply EV.drawn 19 kR kR;intro xv yw
  (repeat refine' DD ?_)
  refine' DJ.idxM tO rfl rfl rfl rfl rfl rfl rfl rfl rfl (hs1) (i) (rfl) (hlt) (hcut) ?_;rotate_left
  (repeat refine' DD ?_)
  refine' DJ.idxM tO rfl rfl rfl rfl rfl rfl rfl rfl rfl (hs1) (i) (rfl) (hlt) (hcut) ?_;rotate_left
  (repeat refine' DD ?_)
  refine' DJ.callS rfl rfl rfl rfl rfl (cO func100) (fun G hG hd=>hin G hG) ?_;rotate_left
  (repeat refine' DD ?_)
  refine' DJ.idxM tO rfl rfl rfl rfl rfl rfl rfl rfl rfl (hs1) (i) (rfl) (hlt) (hcut) ?_;rotate_left
  (repeat refine' DD ?_)
  (refine' DJ.lit tO rfl rfl rfl rfl rfl rfl rfl rfl rfl rfl rfl rfl ?_;rotate_left)
  (refine DJ.nil (fun G2 hG2 hF2=>?_);(case hS|hS2=>rfl))
  have hs2:SlC G2 (xv 18) 1 7 (cellC x):=hF2.1
  refine EVL.append tO rfl rfl rfl rfl rfl rfl rfl rfl rfl rfl rfl rfl [] ow [] (List.append_nil _).symm hown (SrcAt.ro hs2 (Nat.succ_pos 0)) rfl oM ?_
  intro v1 ow1 hown1
  obtain ⟨va,vc,rfl⟩:=hown1.val
  try refine RUN ?_
  exact ⟨(i+1,.slice va (i+1) vc,ow1),⟨rfl,by dsimp only;rw [wn];rfl,trivial⟩,sB,trivial,sB,List.append_nil _,⟨hlt,by dsimp only;rw [take_snoc hx,List.map_append,List.flatten_append,List.map_singleton,List.flatten_singleton];exact hown1⟩,hG2,by dsimp only;omega⟩
 ·simp only [nN] at hlt
  obtain rfl:i=l.length:=by omega
  rw [List.take_length] at hown
  (first | refine EVL.publishL [] ow [] ((List.append_nil _).symm) hown fun G2 hG2 hs2=>?_ | refine EV.publishL [] ow [] ((List.append_nil _).symm) hown fun G2 hG2 hs2=>?_)
  try refine RUN ?_
  exact ⟨l.map cellC,⟨List.length_map ..,fun j c x e1 e2=>by rw [List.getElem?_map,e2] at e1;cases e1;rfl⟩,hs2⟩
set_option maxRecDepth 100000 in
set_option maxHeartbeats 32000000 in
theorem inSheet_pc {H:Hp} {u v:Value} {cs:List ColT} {rows:List (List CellT)} (hu:ColL H u cs) (hv:RRows H v rows) (sm:SmSh cs rows):PC prog 17 #[.agg #[u,v]] H fun r H'=>∃ a b,r=.agg #[a,b]∧ColL H' a cs∧PRows H' b rows:=by
 obtain ⟨ua,uc,rfl⟩:=hu.val
 obtain ⟨dcs,hcs,hsl⟩:=hv
 obtain ⟨a,c,rfl⟩:=SlC.val hsl
 have hnr:=sm.nrows
 refine BD func17 ntmps17 ?_
 try refine RUN ?_
 refine EVL.call rfl rfl rfl rfl rfl (inCols_pc hu sm.words sm.ncols) ?_
 rintro _ G0 hcol hG0
 obtain ⟨xa,xc,rfl⟩:=hcol.val
 try refine RUN ?_
 refine EV.loopK (ι:=Nat × Value × List (List Value) × Ows) [1,2,3] [1,2] (fun q=>[(4,.v (.int .i64 (q.1:Int)))]) (fun q=>[(3,37,[.slice xa cs.length xc,q.2.1])]) (fun q=>q.2.2.2) (fun q G=>q.1≤rows.length∧LsR (Cel PRow) G q.2.2.1 (rows.take q.1)∧OwnL 82 1 q.2.1 q.1 q.2.2.1.flatten q.2.2.2) (fun q=>rows.length-q.1) ((0,.slice none 0 0,[],[])) rfl rfl ⟨rfl,trivial⟩ ⟨rfl,trivial⟩ rfl (fun _=>rfl) (⟨Nat.zero_le _,LsR.nil,OwnL.nil _ _⟩) ?_
 rintro ⟨i,w,ps,ow⟩ G1 hG1 ⟨hi,hps,hown⟩
 dsimp only at hi hps hown
 obtain ⟨wa,wc,rfl⟩:=hown.val
 have hG01:=hG0.trans hG1
 try refine RUN ?_
 refine EV.cond rfl (fun hlt=>?_) (fun hlt=>?_)
 ·simp only [nN] at hlt
  obtain ⟨row,hrow⟩:∃ x,rows[i]?=some x:=⟨_,List.getElem?_eq_getElem hlt⟩
  obtain ⟨cc,hcut,rv,rfl,hrr⟩:=(hcs.mono RRows.ok hG01).get RRows.ok hrow
  obtain ⟨r5,r6,rfl⟩:=LR.val hrr
  have hsm:=sm.cells row (List.mem_of_getElem? hrow)
  have hoc:=fun G (hG:G1.Le G)=>inCells_pc (hrr.mono hG) hsm
  have wn:IntKind.i64.wrap ((i:Int)+1)=((i+1:Nat):Int):=wi_inc i oM
  try refine RUN ?_
  apply EV.drawn 9 kR kR;intro xv yw
  (repeat refine' DD ?_)
  refine' DJ.idxM tO rfl rfl rfl rfl rfl rfl rfl rfl rfl ((hsl.mono hG01)) (i) (rfl) (hlt) (hcut) ?_;rotate_left
  (repeat refine' DD ?_)
  refine' DJ.call rfl rfl rfl rfl rfl (cO func51) (fun G hG hd=>hoc G hG) (fun _ _ _ h k=>PRow.mono h k) ?_;rotate_left
  (refine' DJ.litD1 (Φ:=fun v G=>∃ x,SlC G v 1 1 [x]∧PRow G x row) (fun v G G' ⟨x,e,h⟩ k=>⟨x,e.mono k,h.mono k⟩) tO rfl rfl rfl rfl rfl rfl rfl rfl rfl rfl rfl (fun G hd=>by obtain ⟨p,q,e⟩:=LR.val (hd.head kR);rw [e];rfl) (fun G G' v hd hG h=>(by
   have hp:PRow G (xv 7) row:=hd.head kR
   obtain ⟨p,q,e⟩:=hp.val
   rw [flatV ⟨p,_,q,e⟩] at h
   exact ⟨_,h,hp.mono hG⟩)) ?_;rotate_left)
  (refine DJ.nil (fun G2 hG2 hF2=>?_);(case hS|hS2=>rfl))
  obtain ⟨x,hs2,hp2⟩:=hF2.1
  obtain ⟨p,q,rfl⟩:=hp2.val
  refine EVL.append tO rfl rfl rfl rfl rfl rfl rfl rfl rfl rfl rfl rfl [] ow [] (List.append_nil _).symm hown (SrcAt.ro hs2 (Nat.succ_pos 0)) rfl oM ?_
  intro v1 ow1 hown1
  obtain ⟨va,vc,rfl⟩:=hown1.val
  try refine RUN ?_
  rw [wn]
  exact ⟨(i+1,.slice va (i+1) vc,ps++[_],ow1),⟨rfl,trivial⟩,sB,⟨rfl,trivial⟩,sB,List.append_nil _,⟨hlt,by dsimp only;rw [take_snoc hrow];exact (hps.mono PRows.ok hG2).snoc ⟨_,rfl,hp2⟩,by dsimp only;rw [flatSn];exact hown1⟩,hG2,by dsimp only;omega⟩
 ·simp only [nN] at hlt
  obtain rfl:i=rows.length:=by omega
  rw [List.take_length] at hps
  (first | refine EVL.publishL [] ow [] ((List.append_nil _).symm) hown fun G2 hG2 hs2=>?_ | refine EV.publishL [] ow [] ((List.append_nil _).symm) hown fun G2 hG2 hs2=>?_)
  try refine RUN ?_
  exact ⟨_,_,rfl,hcol.mono SCol.ok (hG1.trans hG2),ps,hps.mono PRows.ok hG2,hs2⟩
theorem OwnL.same {e:TypeId} {s m:Nat} {v:Value} {xs:List Value} {ow:Ows} (h:OwnL e s v m xs ow) (h0:0<m):∃ g cap sp,v=.slice (some ⟨g,0,none⟩) m cap∧ow=[(g,e,xs++sp)]∧∀ xs',xs'.length=xs.length→OwnL e s v m xs' [(g,e,xs'++sp)]:=by
 rcases h.2 with ⟨_,e0,_⟩ | ⟨g,cap,sp,rfl,rfl,h1,h2,h3⟩
 ·omega
 ·exact ⟨g,cap,sp,rfl,rfl,fun xs' e=>⟨by rw [e];exact h.1,.inr ⟨g,cap,sp,rfl,rfl,by rw [← h1,List.length_append,List.length_append,e],h2,h3⟩⟩⟩
theorem flat_mid (A B:List (List Value)) (c:List Value) (sp:List Value):(A++c::B).flatten++sp=A.flatten++(c++(B.flatten++sp)):=by simp
theorem cells_one:∀ {H:Hp} {css:List (List Value)} {l:List CellT},LsR PCell H css l→oneB css.flatten=true
 | H,[],_,_=>rfl
 | H,c::css,[],h=>by have:=h.1;simp at this
 | H,c::css,x::l,h=>by
  rw [List.flatten_cons]
  have hc:c=cellC x:=h.2 0 c x rfl rfl
  refine oneB_app (by rw [hc];rfl) (cells_one (H:=H) (l:=l) ⟨?_,fun j c' n' e1 e2=>h.2 (j+1) c' n' (by rw [List.getElem?_cons_succ];exact e1) (by rw [List.getElem?_cons_succ];exact e2)⟩)
  have:=h.1
  simpa using this
theorem cols_one:∀ {H:Hp} {css:List (List Value)} {l:List ColT},LsR SCol H css l→oneB css.flatten=true
 | H,[],_,_=>rfl
 | H,c::css,[],h=>by have:=h.1;simp at this
 | H,c::css,x::l,h=>by
  rw [List.flatten_cons]
  have hc:oneB c=true:=by obtain ⟨_,_,_,rfl⟩:=h.2 0 c x rfl rfl;rfl
  refine oneB_app hc (cols_one (H:=H) (l:=l) ⟨?_,fun j c' n' e1 e2=>h.2 (j+1) c' n' (by rw [List.getElem?_cons_succ];exact e1) (by rw [List.getElem?_cons_succ];exact e2)⟩)
  have:=h.1
  simpa using this
theorem cloneCells_pc {H:Hp} {v:Value} {l:List CellT} (h:PRow H v l) (hl:l.length≤1000000):PC prog 53 #[v] H fun r G=>PRow G r l:=by
 obtain ⟨css,hcs,h⟩:=h
 by_cases h0:l.length=0
 ·obtain rfl:=List.length_eq_zero_iff.1 h0
  obtain ⟨a,cap,rfl⟩:=SlC.val h
  refine BD func53 ntmps53 ?_
  try refine RUN ?_
  refine EVL.eqnil tO rfl rfl rfl rfl rfl rfl rfl ?_
  cases a with
  | none =>
   try refine RUN ?_
   exact ⟨[],LsR.nil,rfl,.inl ⟨rfl,_,_,rfl⟩⟩
  | some x =>
   try refine RUN ?_
   refine EVL.lit0 tO rfl rfl rfl rfl rfl rfl rfl fun g0=>?_
   try refine RUN ?_
   refine EVL.append0 tO rfl rfl rfl rfl rfl rfl rfl rfl rfl (Nat.le_refl _) ?_
   try refine RUN ?_
   exact ⟨[],LsR.nil,rfl,.inl ⟨rfl,_,_,rfl⟩⟩
 ·have hs:=h.2
  rcases hs with ⟨e,_⟩ | ⟨b,off,cap,c,rfl,_⟩
  ·omega
  ·refine BD func53 ntmps53 ?_
   try refine RUN ?_
   refine EVL.eqnil tO rfl rfl rfl rfl rfl rfl rfl ?_
   try refine RUN ?_
   refine EVL.lit0 tO rfl rfl rfl rfl rfl rfl rfl fun g0=>?_
   try refine RUN ?_
   refine EVL.append tO rfl rfl rfl rfl rfl rfl rfl rfl rfl rfl rfl rfl [] [(g0,81,[])] [] rfl (OwnL.full (m:=0) rfl oM) (SrcAt.ro h oM) (cells_one hcs) oM ?_
   intro v1 ow1 hown1
   rw [Nat.zero_add,List.nil_append] at hown1
   (first | refine EVL.publishL [] ow1 [] (rfl) hown1 fun G2 hG2 hs2=>?_ | refine EV.publishL [] ow1 [] (rfl) hown1 fun G2 hG2 hs2=>?_)
   try refine RUN ?_
   exact ⟨css,hcs.mono PCell.ok hG2,hs2⟩
theorem cloneStr_pc {H:Hp} {v:Value} {l:List (List UInt8)} (h:SL H v l) (hl:l.length≤1000000):PC prog 102 #[v] H fun r G=>SL G r l:=by
 by_cases h0:l.length=0
 ·obtain rfl:=List.length_eq_zero_iff.1 h0
  obtain ⟨a,cap,rfl⟩:=SlC.val h
  refine BD func102 ntmps102 ?_
  try refine RUN ?_
  refine EVL.eqnil tO rfl rfl rfl rfl rfl rfl rfl ?_
  cases a with
  | none =>
   try refine RUN ?_
   exact sl_str_nil _ _ _
  | some x =>
   try refine RUN ?_
   refine EVL.lit0 tO rfl rfl rfl rfl rfl rfl rfl fun g0=>?_
   try refine RUN ?_
   refine EVL.append0 tO rfl rfl rfl rfl rfl rfl rfl rfl rfl (Nat.le_refl _) ?_
   try refine RUN ?_
   exact sl_str_nil _ _ _
 ·have hs:=h.2
  rcases hs with ⟨e,_⟩ | ⟨b,off,cap,c,rfl,_⟩
  ·omega
  ·refine BD func102 ntmps102 ?_
   try refine RUN ?_
   refine EVL.eqnil tO rfl rfl rfl rfl rfl rfl rfl ?_
   try refine RUN ?_
   refine EVL.lit0 tO rfl rfl rfl rfl rfl rfl rfl fun g0=>?_
   try refine RUN ?_
   refine EVL.append tO rfl rfl rfl rfl rfl rfl rfl rfl rfl rfl rfl rfl [] [(g0,9,[])] [] rfl (OwnL.full (m:=0) rfl oM) (SrcAt.ro h oM) (oneB_str l) oM ?_
   intro v1 ow1 hown1
   rw [Nat.zero_add,List.nil_append] at hown1
   (first | refine EVL.publishL [] ow1 [] (rfl) hown1 fun G2 hG2 hs2=>?_ | refine EV.publishL [] ow1 [] (rfl) hown1 fun G2 hG2 hs2=>?_)
   try refine RUN ?_
   exact hs2
theorem cloneCols_pw {H:Hp} {v:Value} {l:List ColT} {css:List (List Value)} (hcs:LsR SCol H css l) (h:SlC H v l.length 3 css.flatten) (h0:0<l.length) (hl:l.length≤1000000):PW prog 101 #[v] H [] fun r ow _=>OwnL 83 3 r l.length css.flatten ow:=by
 have hs:=h.2
 rcases hs with ⟨e,_⟩ | ⟨b,off,cap,c,rfl,_⟩
 ·omega
 ·refine PW.body tO func101 rfl kR ntmps101 rfl rfl ?_
  try refine RUN ?_
  refine EVL.eqnil tO rfl rfl rfl rfl rfl rfl rfl ?_
  try refine RUN ?_
  refine EVL.lit0 tO rfl rfl rfl rfl rfl rfl rfl fun g0=>?_
  try refine RUN ?_
  refine EVL.append tO rfl rfl rfl rfl rfl rfl rfl rfl rfl rfl rfl rfl [] [(g0,83,[])] [] rfl (OwnL.full (m:=0) rfl oM) (SrcAt.ro h h0) (cols_one hcs) oM ?_
  intro v1 ow1 hown1
  try refine RUN ?_
  rw [Nat.zero_add] at hown1
  rw [List.append_nil]
  exact hown1
end Go.Proofs.YtbcfidllfimehaaGreatDoor
namespace Go.Proofs.YtbcfidllfimehaaGreatDoor
end Go.Proofs.YtbcfidllfimehaaGreatDoor
namespace Go.Proofs.YtbcfidllfimehaaGreatDoor
open Go.RowKit _root_.Go.Proofs.Tryz
end Go.Proofs.YtbcfidllfimehaaGreatDoor
namespace Go.Proofs.YtbcfidllfimehaaGreatDoor
end Go.Proofs.YtbcfidllfimehaaGreatDoor
namespace Go.Proofs.YtbcfidllfimehaaGreatDoor
open Go.RowKit _root_.Go.Proofs.Tryz
end Go.Proofs.YtbcfidllfimehaaGreatDoor
namespace Go.Proofs.YtbcfidllfimehaaGreatDoor
open Go.ChangeShapes Go.WideShapes Go.ChangeAt Go.RowKit
def hpOf (W:World):Hp:=fun b=>match W.heap[b]? with
 | some (.cells c _ _)=>some c
 | _=>none
theorem fits_hpOf (W:World):Fits (hpOf W) W:=fun b c h=>by
 unfold hpOf at h
 split at h
 ·rename_i c' T fz hb;cases h;exact ⟨T,fz,hb⟩
 ·cases h
section
variable {H:Type} {enc:TypeId × Value→H} {P:Program} {w:World} {base:Nat} {spare:Nat→Bool} {held:Bool}
theorem ints_open {t e:TypeId} {k:IntKind} {fuel:Nat} {cs:List Value} {x:DataW H × List MemPlace} (ht:P.underlying t=some (.slice e)) (he:P.underlying e=some (.int k)) (hc:P.cellsOf e=1) (h:DataW.trod enc P w base spare held fuel t cs=some x) :
  ∃ a len cap zs,cs=[.slice a len cap]∧SlN (fun z:Int=>Value.int k z) (hpOf w) (.slice a len cap) zs∧∀ n∈zs,(Lit.int k n).wf=true:=by
 rcases open_ints ht he hc h with ⟨rfl,_⟩ | ⟨x,len,cap,zs,rfl,_,hl,hm,hz,_,hcell,hw⟩
 ·exact ⟨none,0,0,[],rfl,nil_sl _ _,fun n hn=>by cases hn⟩
 ·have hzl:len≤zs.length:=by rw [hz];split <;> omega
  refine ⟨some x,len,cap,zs.take len,rfl,?_,fun n hn=>hw n (List.mem_of_mem_take hn)⟩
  have hlen:(zs.take len).length=len:=by rw [List.length_take];omega
  unfold SlN
  rw [hlen]
  refine ⟨by rw [List.length_map,hlen,Nat.mul_one],?_⟩
  by_cases h0:len=0
  ·subst h0;exact .inl ⟨rfl,some x,cap,rfl⟩
  ·right
   have h1:=hcell 0 oM
   obtain ⟨b,off,sp⟩:=x
   have hsp:sp=none:=by
    cases sp with
    | none=>rfl
    | some s=>simp only [World.cell?,Addr.add] at h1;split at h1 <;> simp_all
   subst hsp
   have hb:∃ c,hpOf w b=some c∧∀ i,i<zs.length→c[off+i]?=some (.int k (zs.getD i 0)):=by
    simp only [Addr.add_mid] at hcell
    unfold World.cell? at hcell
    unfold hpOf
    simp only at hcell
    cases hw':w.heap[b]? with
    | none=>have:=hcell 0 oM;rw [hw'] at this;cases this
    | some o =>
     cases o with
     | cells c T fz=>exact ⟨c,rfl,fun i hi=>by have:=hcell i hi;rw [hw'] at this;simpa using this⟩
     | _=>have:=hcell 0 oM;rw [hw'] at this;cases this
   obtain ⟨c,hc1,hc2⟩:=hb
   refine ⟨b,off,cap,c,rfl,hl,hc1,fun j y hj=>?_⟩
   rw [List.getElem?_map,List.getElem?_take] at hj
   split at hj
   ·rename_i hjl
    rw [hc2 j oM,← hj,List.getD_eq_getElem?_getD,List.getElem?_eq_getElem (by omega)];rfl
   ·cases hj
end
theorem i64_bounds {z:Int} (h:(Lit.int .i64 z).wf=true):-9223372036854775808≤z∧z<9223372036854775808:=by
 have:=bounds_i64 h;omega
end Go.Proofs.YtbcfidllfimehaaGreatDoor
namespace Go.Proofs.YtbcfidllfimehaaGreatDoor
open Go.ChangeShapes Go.WideShapes Go.ChangeAt Go.RowKit
end Go.Proofs.YtbcfidllfimehaaGreatDoor
namespace Go.Proofs.YtbcfidllfimehaaGreatDoor
open Go.RowKit _root_.Go.Proofs.Tryz
theorem split_at {α:Type} {l:List α} {k:Nat} (h:k<l.length):∃ A c B,l=A++c::B∧A.length=k:=⟨l.take k,l[k],l.drop (k+1),by rw [List.getElem_cons_drop,List.take_append_drop],by rw [List.length_take];omega⟩
section
variable {P:Program} {n:Nat} {ops:Array Oper} {o:Oper} {rest:List Oper} {env:Env} {bx:Bxs} {H:Hs} {Q:EQ} {τ:Tab} {d:Nat}
theorem EVL.appendR (hτ:TabOk P τ) {T:TypeId} {x y:Operand} (ho:o.op=.call { callee:=.builtin .append,args:=#[x,y],argTypes:=#[T,T] }) (hg:o.guard=none) (hw:wantB ops env o=some true) (hd:o.dst=some d) (hn:Nat.blt d n=true) {te te':TE} {e:TypeId} (ht:τ.get T=some te) (hk:te.kind=.slice e) (ht':τ.get e=some te')
  (hzs:Nat.beq te'.zero.length te'.size=true) (hpos:Nat.ble 1 te'.size=true) (hby:Nat.ble te'.bytes 10000=true) {v:Value} (hx:env.op x=some (.v v)) {u:Value} (hy:env.op y=some (.v u)) (pre ow post:Ows) (he:H.ow=pre++(ow++post)) {m1 m2:Nat} {xs ys:List Value}
  (hown:OwnL e te'.size v m1 xs ow) (hsrc:SlC H.ro u m2 te'.size ys) (h1:oneB ys=true) (hm:m1+m2≤1000000000)
  (h:∀ v' ow',OwnL e te'.size v' (m1+m2) (xs++ys) ow'→EVL P n ops rest ((d,.v v')::env) bx ⟨H.ro,pre++(ow'++post),H.base⟩ Q):EVL P n ops (o::rest) env bx H Q:=by
 by_cases h0:m2=0
 ·subst h0
  obtain ⟨a',c',rfl⟩:=SlC.val hsrc
  have hys:ys=[]:=List.length_eq_zero_iff.1 (by rw [hsrc.1,Nat.zero_mul])
  subst hys
  have hle:∃ a c,v=.slice a m1 c∧m1≤c:=by
   rcases hown.2 with ⟨e1,e2,_⟩ | ⟨g,cap,sp,e1,_,_,e2,_⟩
   ·subst e2;exact ⟨_,_,e1,Nat.le_refl _⟩
   ·exact ⟨_,_,e1,e2⟩
  obtain ⟨a,c,rfl,hle⟩:=hle
  refine EVL.append0 hτ ho hw hd hn ht hk ht' hx hy hle ?_
  have:=h _ ow (by rw [List.append_nil];exact hown)
  rw [← he] at this
  exact this
 ·exact EVL.append hτ ho hg hd hn ht hk ht' hzs hpos hby hx hy pre ow post he hown (SrcAt.ro hsrc oM) h1 hm h
end
theorem ne_at {α:Type} {l m:List α} {i:Nat} {x y:α} (h:l[i]?=some x) (k:m[i]?=some y) (hn:x≠y):l≠m:=fun e=>by
 rw [e,k] at h
 exact hn (Option.some.inj h).symm
set_option maxRecDepth 100000 in
set_option maxHeartbeats 32000000 in
theorem rsameCols_pc {H:Hp} {u v:Value} {cs ds:List ColT} (hu:ColL H u cs) (hv:ColL H v ds) (hw:∀ c,c∈cs→c.words.length≤1000000) (hl:cs.length≤1000000):PC prog 22 #[u,v] H fun r _=>r=.bool (decide (cs=ds)):=by
 obtain ⟨ucs,hus,hul⟩:=hu
 obtain ⟨vcs,hvs,hvl⟩:=hv
 obtain ⟨a,c,rfl⟩:=SlC.val hul
 obtain ⟨a2,c2,rfl⟩:=SlC.val hvl
 refine BD func22 ntmps22 ?_
 try refine RUN ?_
 by_cases el:cs.length=ds.length
 case neg =>
  rw [show ((cs.length:Int) != (ds.length:Int))=true from bne_iff_ne.2 (by omega)]
  try refine RUN ?_
  rw [decide_eq_false fun e=>el (by rw [e])]
 rw [show ((cs.length:Int) != (ds.length:Int))=false from bne_eq_false_iff_eq.2 (by omega)]
 try refine RUN ?_
 refine EV.loopK (ι:=Nat) [0,1] [] (fun i=>[(5,.v (.int .i64 (i:Int)))]) (fun _=>[]) (fun _=>[]) (fun i _=>i≤cs.length∧cs.take i=ds.take i) (fun i=>cs.length-i) (0) rfl rfl ⟨rfl,trivial⟩ trivial rfl (fun _=>rfl) (⟨Nat.zero_le _,rfl⟩) ?_
 rintro i G1 hG1 ⟨hi,htk⟩
 try refine RUN ?_
 refine EV.cond rfl (fun hlt=>?_) (fun hlt=>?_)
 ·simp only [nN] at hlt
  obtain ⟨x,hx⟩:∃ x,cs[i]?=some x:=⟨_,List.getElem?_eq_getElem hlt⟩
  obtain ⟨y,hy⟩:∃ y,ds[i]?=some y:=⟨_,List.getElem?_eq_getElem oM⟩
  obtain ⟨xc,hxcut,xa,xn,hxw,rfl⟩:=(hus.mono SCol.ok hG1).get SCol.ok hx
  obtain ⟨yc,hycut,ya,yn,hyw,rfl⟩:=(hvs.mono SCol.ok hG1).get SCol.ok hy
  have hul1:=hul.mono hG1
  have hvl1:=hvl.mono hG1
  have hxwl:=hw x (List.mem_of_getElem? hx)
  have hltd:i<ds.length:=by omega
  have wn:IntKind.i64.wrap ((i:Int)+1)=((i+1:Nat):Int):=wi_inc i oM
  generalize hB:decide (¬ (x.name=y.name∧x.kind=y.kind∧x.words.length=y.words.length))=B
  try refine RUN ?_
  refine EV.meetK (ι:=Unit) [0,1,5] [] (fun _=>[(56,.v (.bool B))]) (fun _=>[]) (fun _=>[]) (fun _ G=>G1.Le G) rfl rfl (fun _=>rfl) ?_ ?_
  ·by_cases e1:x.name=y.name
   case neg =>
    rw [decide_eq_true (show ¬ (x.name=y.name∧x.kind=y.kind∧x.words.length=y.words.length) from fun k=>e1 k.1)] at hB
    subst hB
    apply EV.drawn 39 kR kR;intro xv yw
    (repeat refine' DD ?_)
    refine' DJ.idxM tO rfl rfl rfl rfl rfl rfl rfl rfl rfl (hul1) (i) (rfl) (hlt) (hxcut) ?_;rotate_left
    (repeat refine' DD ?_)
    refine' DJ.idxM tO rfl rfl rfl rfl rfl rfl rfl rfl rfl (hvl1) (i) (rfl) (hltd) (hycut) ?_;rotate_left
    (repeat refine' DD ?_)
    rw [sb_neq,decide_eq_true (show x.name≠y.name from e1)]
    (repeat refine' DD ?_)
    (refine DJ.nil (fun G hG hF=>?_);(case hS|hS2=>rfl))
    try refine RUN ?_
    exact ⟨(),⟨rfl,trivial⟩,sB,trivial,sB,rfl,hG⟩
   by_cases e2:x.kind=y.kind
   case neg =>
    rw [decide_eq_true (show ¬ (x.name=y.name∧x.kind=y.kind∧x.words.length=y.words.length) from fun k=>e2 k.2.1)] at hB
    subst hB
    apply EV.drawn 39 kR kR;intro xv yw
    (repeat refine' DD ?_)
    refine' DJ.idxM tO rfl rfl rfl rfl rfl rfl rfl rfl rfl (hul1) (i) (rfl) (hlt) (hxcut) ?_;rotate_left
    (repeat refine' DD ?_)
    refine' DJ.idxM tO rfl rfl rfl rfl rfl rfl rfl rfl rfl (hvl1) (i) (rfl) (hltd) (hycut) ?_;rotate_left
    (repeat refine' DD ?_)
    rw [sb_neq,decide_eq_false (show ¬ (x.name≠y.name) from fun k=>k e1)]
    (repeat refine' DD ?_)
    refine' DJ.idxM tO rfl rfl rfl rfl rfl rfl rfl rfl rfl (hul1) (i) (rfl) (hlt) (hxcut) ?_;rotate_left
    (repeat refine' DD ?_)
    refine' DJ.idxM tO rfl rfl rfl rfl rfl rfl rfl rfl rfl (hvl1) (i) (rfl) (hltd) (hycut) ?_;rotate_left
    (repeat refine' DD ?_)
    rw [show ((x.kind:Int) != (y.kind:Int))=true from bne_iff_ne.2 (by omega)]
    (repeat refine' DD ?_)
    (refine DJ.nil (fun G hG hF=>?_);(case hS|hS2=>rfl))
    try refine RUN ?_
    exact ⟨(),⟨rfl,trivial⟩,sB,trivial,sB,rfl,hG⟩
   apply EV.drawn 39 kR kR;intro xv yw
   (repeat refine' DD ?_)
   refine' DJ.idxM tO rfl rfl rfl rfl rfl rfl rfl rfl rfl (hul1) (i) (rfl) (hlt) (hxcut) ?_;rotate_left
   (repeat refine' DD ?_)
   refine' DJ.idxM tO rfl rfl rfl rfl rfl rfl rfl rfl rfl (hvl1) (i) (rfl) (hltd) (hycut) ?_;rotate_left
   (repeat refine' DD ?_)
   rw [sb_neq,decide_eq_false (show ¬ (x.name≠y.name) from fun k=>k e1)]
   (repeat refine' DD ?_)
   refine' DJ.idxM tO rfl rfl rfl rfl rfl rfl rfl rfl rfl (hul1) (i) (rfl) (hlt) (hxcut) ?_;rotate_left
   (repeat refine' DD ?_)
   refine' DJ.idxM tO rfl rfl rfl rfl rfl rfl rfl rfl rfl (hvl1) (i) (rfl) (hltd) (hycut) ?_;rotate_left
   (repeat refine' DD ?_)
   rw [show ((x.kind:Int) != (y.kind:Int))=false from bne_eq_false_iff_eq.2 (by omega)]
   (repeat refine' DD ?_)
   refine' DJ.idxM tO rfl rfl rfl rfl rfl rfl rfl rfl rfl (hul1) (i) (rfl) (hlt) (hxcut) ?_;rotate_left
   (repeat refine' DD ?_)
   refine' DJ.idxM tO rfl rfl rfl rfl rfl rfl rfl rfl rfl (hvl1) (i) (rfl) (hltd) (hycut) ?_;rotate_left
   (repeat refine' DD ?_)
   rw [show ((x.words.length:Int) != (y.words.length:Int))=B by
    rw [← hB]
    by_cases e3:x.words.length=y.words.length
    ·rw [decide_eq_false (show ¬ ¬ (x.name=y.name∧x.kind=y.kind∧x.words.length=y.words.length) from fun k=>k ⟨e1,e2,e3⟩)]
     exact bne_eq_false_iff_eq.2 oM
    ·rw [decide_eq_true (show ¬ (x.name=y.name∧x.kind=y.kind∧x.words.length=y.words.length) from fun k=>e3 k.2.2)]
     exact bne_iff_ne.2 (by omega)]
   (repeat refine' DD ?_)
   (refine DJ.nil (fun G hG hF=>?_);(case hS|hS2=>rfl))
   try refine RUN ?_
   exact ⟨(),⟨rfl,trivial⟩,sB,trivial,sB,rfl,hG⟩
  rintro _ G2 hG2
  cases B with
  | true =>
   have h3:=of_decide_eq_true hB
   try refine RUN ?_
   rw [decide_eq_false (ne_at hx hy (fun e=>h3 (by rw [e];exact ⟨rfl,rfl,rfl⟩)))]
  | false =>
  obtain ⟨e1,e2,e3⟩:=Decidable.not_not.1 (of_decide_eq_false hB)
  have hul2:=hul1.mono hG2
  have hvl2:=hvl1.mono hG2
  try refine RUN ?_
  refine EV.loopK (ι:=Nat) [0,1,5] [] (fun j=>[(6,.v (.int .i64 (j:Int)))]) (fun _=>[]) (fun _=>[]) (fun j _=>j≤x.words.length∧x.words.take j=y.words.take j) (fun j=>x.words.length-j) (0) rfl rfl ⟨rfl,trivial⟩ trivial rfl (fun _=>rfl) (⟨Nat.zero_le _,rfl⟩) ?_
  rintro j G3 hG3 ⟨hj,htk2⟩
  try refine RUN ?_
  refine EVL.idxM tO rfl rfl rfl rfl rfl rfl rfl rfl rfl ((hul2.mono hG3)) (i) (rfl) (hlt) (hxcut) ?_
  try refine RUN ?_
  refine EV.cond rfl (fun hlt2=>?_) (fun hlt2=>?_)
  ·simp only [nN] at hlt2
   obtain ⟨p,hp⟩:∃ p,x.words[j]?=some p:=⟨_,List.getElem?_eq_getElem hlt2⟩
   obtain ⟨q,hq⟩:∃ q,y.words[j]?=some q:=⟨_,List.getElem?_eq_getElem oM⟩
   have wj:IntKind.i64.wrap ((j:Int)+1)=((j+1:Nat):Int):=wi_inc j oM
   try refine RUN ?_
   apply EV.drawn 17 kR kR;intro xv yw
   (repeat refine' DD ?_)
   refine' DJ.idxM tO rfl rfl rfl rfl rfl rfl rfl rfl rfl ((hul2.mono hG3)) (i) (rfl) (hlt) (hxcut) ?_;rotate_left
   (repeat refine' DD ?_)
   refine' DJ.ofVal (ValOk.idx1 tO rfl rfl rfl rfl rfl rfl rfl rfl ((hxw.mono (hG2.trans hG3))) (j) (rfl) (hlt2) ((by rw [List.getElem?_map,hp];rfl))) rfl rfl rfl ?_;rotate_left
   (repeat refine' DD ?_)
   refine' DJ.idxM tO rfl rfl rfl rfl rfl rfl rfl rfl rfl ((hvl2.mono hG3)) (i) (rfl) (hltd) (hycut) ?_;rotate_left
   (repeat refine' DD ?_)
   refine' DJ.ofVal (ValOk.idx1 tO rfl rfl rfl rfl rfl rfl rfl rfl ((hyw.mono (hG2.trans hG3))) (j) (rfl) (oM) ((by rw [List.getElem?_map,hq];rfl))) rfl rfl rfl ?_;rotate_left
   (repeat refine' DD ?_)
   (refine DJ.nil (fun G4 hG4 hF4=>?_);(case hS|hS2=>rfl))
   rw [sb_neq]
   by_cases e:p=q
   ·rw [decide_eq_false (show ¬ (p≠q) from fun k=>k e)]
    try refine RUN ?_
    rw [wj]
    exact ⟨j+1,⟨rfl,trivial⟩,sB,trivial,sB,rfl,⟨hlt2,by rw [take_snoc hp,take_snoc hq,htk2,e]⟩,hG4,by omega⟩
   ·rw [decide_eq_true (show p≠q from e)]
    try refine RUN ?_
    rw [decide_eq_false (ne_at hx hy (fun k=>ne_at hp hq e (by rw [k])))]
  ·simp only [nN] at hlt2
   obtain rfl:j=x.words.length:=by omega
   rw [List.take_length,e3,List.take_length] at htk2
   have exy:x=y:=by
    obtain ⟨xn1,xk,xw⟩:=x
    obtain ⟨yn1,yk,yw⟩:=y
    dsimp only at e1 e2 htk2
    rw [e1,e2,htk2]
   try refine RUN ?_
   rw [wn]
   exact ⟨i+1,⟨rfl,trivial⟩,sB,trivial,sB,rfl,⟨hlt,by rw [take_snoc hx,take_snoc hy,htk,exy]⟩,hG2.trans hG3,by omega⟩
 ·simp only [nN] at hlt
  obtain rfl:i=cs.length:=by omega
  rw [List.take_length,el,List.take_length] at htk
  try refine RUN ?_
  rw [decide_eq_true htk]
set_option maxRecDepth 100000 in
set_option maxHeartbeats 16000000 in
theorem rsameCells_pc {H:Hp} {u v:Value} {l:List CellT} (hu:RRow H u l) (hv:RRow H v l) (hq:CellsQ l):PC prog 47 #[u,v] H fun r _=>r=.bool true:=by
 obtain ⟨hl,hq⟩:=hq
 obtain ⟨ucs,hus,hul⟩:=hu
 obtain ⟨vcs,hvs,hvl⟩:=hv
 obtain ⟨a,c,rfl⟩:=SlC.val hul
 obtain ⟨a2,c2,rfl⟩:=SlC.val hvl
 refine BD func47 ntmps47 ?_
 try refine RUN ?_
 rw [bne_self_eq_false]
 try refine RUN ?_
 refine EV.loopK (ι:=Nat) [0,1] [] (fun i=>[(5,.v (.int .i64 (i:Int)))]) (fun _=>[]) (fun _=>[]) (fun i _=>i≤l.length) (fun i=>l.length-i) (0) rfl rfl ⟨rfl,trivial⟩ trivial rfl (fun _=>rfl) (Nat.zero_le _) ?_
 rintro i G1 hG1 hi
 try refine RUN ?_
 refine EV.cond rfl (fun hlt=>?_) (fun hlt=>?_)
 ·simp only [nN] at hlt
  obtain ⟨x,hx⟩:∃ x,l[i]?=some x:=⟨_,List.getElem?_eq_getElem hlt⟩
  have hxq:=hq x (List.mem_of_getElem? hx)
  obtain ⟨xc,hxcut,xw,hxw,rfl⟩:=(hus.mono RCell.ok hG1).get RCell.ok hx
  obtain ⟨yc,hycut,yw,hyw,rfl⟩:=(hvs.mono RCell.ok hG1).get RCell.ok hx
  have hcmp:=fun G (hG:G1.Le G)=>refCmp_pc (RQ.mono hxw hG) (RQ.mono hyw hG) hxq hxq
  rw [show ordR x.q x.q=0 from Int.le_antisymm (ordQ_le Rat.le_refl) (ordQ_neg.2 Rat.lt_irrefl)] at hcmp
  obtain ⟨ra,rl,rc,xa,xl,xcc,rfl⟩:=rq_form hxw
  obtain ⟨ra2,rl2,rc2,xa2,xl2,xcc2,rfl⟩:=rq_form hyw
  have hul1:=hul.mono hG1
  have hvl1:=hvl.mono hG1
  try refine RUN ?_
  apply EV.drawn 38 kR kR;intro xv yw
  (repeat refine' DD ?_)
  refine' DJ.idxM tO rfl rfl rfl rfl rfl rfl rfl rfl rfl (hul1) (i) (rfl) (hlt) (hxcut) ?_;rotate_left
  (repeat refine' DD ?_)
  refine' DJ.idxM tO rfl rfl rfl rfl rfl rfl rfl rfl rfl (hvl1) (i) (rfl) (hlt) (hycut) ?_;rotate_left
  (repeat refine' DD ?_)
  refine' DJ.ofVal (ValOk.neb rfl rfl rfl rfl kR) rfl rfl rfl ?_;rotate_left
  rw [show (!(x.lacks == x.lacks))=false by simp]
  (repeat refine' DD ?_)
  refine' DJ.idxM tO rfl rfl rfl rfl rfl rfl rfl rfl rfl (hul1) (i) (rfl) (hlt) (hxcut) ?_;rotate_left
  (repeat refine' DD ?_)
  refine' DJ.idxM tO rfl rfl rfl rfl rfl rfl rfl rfl rfl (hvl1) (i) (rfl) (hlt) (hycut) ?_;rotate_left
  (repeat refine' DD ?_)
  rw [bne_self_eq_false]
  (repeat refine' DD ?_)
  refine' DJ.idxM tO rfl rfl rfl rfl rfl rfl rfl rfl rfl (hul1) (i) (rfl) (hlt) (hxcut) ?_;rotate_left
  (repeat refine' DD ?_)
  refine' DJ.idxM tO rfl rfl rfl rfl rfl rfl rfl rfl rfl (hvl1) (i) (rfl) (hlt) (hycut) ?_;rotate_left
  (repeat refine' DD ?_)
  refine' DJ.callS rfl rfl rfl rfl rfl (cO func98) (fun G hG hd=>hcmp G hG) ?_;rotate_left
  (repeat refine' DD ?_)
  (refine DJ.nil (fun G2 hG2 hF2=>?_);(case hS|hS2=>rfl))
  try refine RUN ?_
  rw [wi_inc i (by omega)]
  exact ⟨i+1,⟨rfl,trivial⟩,sB,trivial,sB,rfl,hlt,hG2,by omega⟩
 ·simp only [nN] at hlt
  try refine RUN ?_
  rfl
set_option maxRecDepth 100000 in
set_option maxHeartbeats 16000000 in
theorem rsame_pc {H:Hp} {u v u' v':Value} {cs:List ColT} {rows:List (List CellT)} (hu:ColL H u cs) (hv:RRows H v rows) (hu':ColL H u' cs) (hv':RRows H v' rows) (sm:SmSh cs rows):PC prog 15 #[.agg #[u,v],.agg #[u',v']] H fun r _=>r=.bool true:=by
 have hc:=fun G (hG:H.Le G)=>rsameCols_pc (hu.mono SCol.ok hG) (hu'.mono SCol.ok hG) sm.words sm.ncols
 obtain ⟨_,_,rfl⟩:=hu.val
 obtain ⟨_,_,rfl⟩:=hu'.val
 obtain ⟨vcs,hvs,hvl⟩:=hv
 obtain ⟨wcs,hws,hwl⟩:=hv'
 obtain ⟨a,c,rfl⟩:=SlC.val hvl
 obtain ⟨a2,c2,rfl⟩:=SlC.val hwl
 have hnr:=sm.nrows
 refine BD func15 ntmps15 ?_
 try refine RUN ?_
 refine EVL.call rfl rfl rfl rfl rfl (hc _ (Hp.Le.refl _)) ?_
 rintro _ G0 rfl hG0
 rw [decide_eq_true rfl]
 try refine RUN ?_
 rw [bne_self_eq_false]
 try refine RUN ?_
 refine EV.loopK (ι:=Nat) [2,3] [2,3] (fun i=>[(5,.v (.int .i64 (i:Int)))]) (fun _=>[]) (fun _=>[]) (fun i _=>i≤rows.length) (fun i=>rows.length-i) (0) rfl rfl ⟨rfl,trivial⟩ trivial rfl (fun _=>rfl) (Nat.zero_le _) ?_
 rintro i G1 hG1 hi
 try refine RUN ?_
 refine EV.cond rfl (fun hlt=>?_) (fun hlt=>?_)
 ·simp only [nN] at hlt
  obtain ⟨x,hx⟩:∃ x,rows[i]?=some x:=⟨_,List.getElem?_eq_getElem hlt⟩
  have hG01:=hG0.trans hG1
  obtain ⟨xc,hxcut,xv',rfl,hxr⟩:=(hvs.mono RRows.ok hG01).get RRows.ok hx
  obtain ⟨yc,hycut,yv',rfl,hyr⟩:=(hws.mono RRows.ok hG01).get RRows.ok hx
  have hce:=fun G (hG:G1.Le G)=>rsameCells_pc (hxr.mono hG) (hyr.mono hG) (sm.cells x (List.mem_of_getElem? hx))
  obtain ⟨_,_,rfl⟩:=hxr.val
  obtain ⟨_,_,rfl⟩:=hyr.val
  try refine RUN ?_
  apply EV.drawn 12 kR kR;intro xv yw
  (repeat refine' DD ?_)
  refine' DJ.idxM tO rfl rfl rfl rfl rfl rfl rfl rfl rfl ((hvl.mono hG01)) (i) (rfl) (hlt) (hxcut) ?_;rotate_left
  (repeat refine' DD ?_)
  refine' DJ.idxM tO rfl rfl rfl rfl rfl rfl rfl rfl rfl ((hwl.mono hG01)) (i) (rfl) (hlt) (hycut) ?_;rotate_left
  (repeat refine' DD ?_)
  refine' DJ.callS rfl rfl rfl rfl rfl (cO func47) (fun G hG hd=>hce G hG) ?_;rotate_left
  (repeat refine' DD ?_)
  (refine DJ.nil (fun G2 hG2 hF2=>?_);(case hS|hS2=>rfl))
  try refine RUN ?_
  rw [wi_inc i (by omega)]
  exact ⟨i+1,⟨rfl,trivial⟩,sB,trivial,sB,rfl,hlt,hG2,by omega⟩
 ·simp only [nN] at hlt
  try refine RUN ?_
  rfl
theorem flat_lenK {k:Nat}:∀ {css:List (List Value)},(∀ x,x∈css→x.length=k)→css.flatten.length=css.length*k
 | [],_=>by simp
 | x::css,h=>by
  rw [List.flatten_cons,List.length_append,h x (List.mem_cons_self ..),flat_lenK (fun y hy=>h y (List.mem_cons_of_mem _ hy)),List.length_cons,Nat.succ_mul];omega
theorem LsR.put {α:Type} {R:Hp→List Value→α→Prop} {H:Hp} {A B:List (List Value)} {c c':List Value} {l:List α} {x:α} (h:LsR R H (A++c::B) l) (hn:l[A.length]?=some x) (h':R H c' x):LsR R H (A++c'::B) l:=by
 refine ⟨by have:=h.1;simpa using this,fun j y m e1 e2=>?_⟩
 rcases Nat.lt_trichotomy j A.length with k | k | k
 ·exact h.2 j y m (by rw [List.getElem?_append_left k] at e1 ⊢;exact e1) e2
 ·subst k
  rw [List.getElem?_append_right (Nat.le_refl _),Nat.sub_self] at e1
  cases e1
  rw [hn] at e2
  cases e2
  exact h'
 ·obtain ⟨q,hq⟩:∃ q,j-A.length=q+1:=⟨j-A.length-1,by omega⟩
  exact h.2 j y m (by rw [List.getElem?_append_right oM,hq,List.getElem?_cons_succ] at e1 ⊢;exact e1) e2
set_option maxRecDepth 100000 in
set_option maxHeartbeats 16000000 in
theorem copyCols_pc {H:Hp} {v:Value} {l:List ColT} (hv:ColL H v l) (h0:0<l.length) (hl:l.length≤1000000) (hw:∀ c,c∈l→c.words.length≤1000000):PC prog 52 #[v] H fun r G=>ColL G r l:=by
 obtain ⟨css,hcs,hsl⟩:=hv
 have hfl:=flat_lenK (hcs.all SCol.ok)
 have hcl:=hcs.1
 have hcw:=cloneCols_pw hcs hsl h0 hl
 obtain ⟨a,cp,rfl⟩:=SlC.val hsl
 refine BD func52 ntmps52 ?_
 try refine RUN ?_
 refine EVL.callW rfl rfl rfl rfl rfl ([]) ([]) rfl (hcw) ?_
 intro r0 ow0 G0 hown0 hG0
 obtain ⟨g,cap,sp,rfl,rfl,hsame⟩:=hown0.same h0
 try refine RUN ?_
 refine EV.loopK (ι:=Nat × List (List Value)) [3,8] [] (fun q=>[(9,.v (.int .i64 (q.1:Int)))]) (fun _=>[]) (fun q=>[(g,83,q.2.flatten++sp)]) (fun q G=>q.1≤l.length∧LsR SCol G q.2 l) (fun q=>l.length-q.1) ((0,css)) rfl rfl ⟨rfl,trivial⟩ trivial rfl (fun _=>rfl) (⟨Nat.zero_le _,hcs.mono SCol.ok hG0⟩) ?_
 rintro ⟨i,ds⟩ G1 hG1 ⟨hi,hds⟩
 dsimp only at hi hds
 try refine RUN ?_
 refine EV.cond rfl (fun hlt=>?_) (fun hlt=>?_)
 ·simp only [nN] at hlt
  obtain ⟨n,hni⟩:∃ n,l[i]?=some n:=⟨_,List.getElem?_eq_getElem hlt⟩
  have hdl:=hds.1
  have hda:=hds.all SCol.ok
  obtain ⟨A,c,B,rfl,hAl⟩:∃ A c B,ds=A++c::B∧A.length=i:=⟨ds.take i,ds[i]'(by omega),ds.drop (i+1),by rw [List.getElem_cons_drop,List.take_append_drop],by rw [List.length_take];omega⟩
  subst hAl
  obtain ⟨a7,c7,hws,rfl⟩:=hds.2 A.length c n (by rw [List.getElem?_append_right (Nat.le_refl _),Nat.sub_self];rfl) hni
  have hAf:=flat_lenK (fun x hx=>hda x (List.mem_append_left _ hx))
  rw [flat_mid]
  try refine RUN ?_
  refine EVL.idxB tO rfl rfl rfl rfl rfl rfl rfl rfl rfl (A.length) (A.length*3) (rfl) (hlt) (rfl) ?_
  refine EVL.fldB tO rfl rfl rfl rfl rfl rfl rfl ?_
  refine EVL.loadOwn tO rfl rfl rfl rfl rfl rfl (0) rfl ((by rw [row_drop hAf (Nat.le_of_ble_eq_true rfl)])) rfl rfl ?_
  try refine RUN ?_
  refine EVL.call rfl rfl rfl rfl rfl (cloneStr_pc hws (hw n (List.mem_of_getElem? hni))) ?_
  rintro r2 G2 hR hG2
  obtain ⟨a8,c8,rfl⟩:=SlC.val hR
  try refine RUN ?_
  refine EVL.idxB tO rfl rfl rfl rfl rfl rfl rfl rfl rfl (A.length) (A.length*3) (rfl) (hlt) (rfl) ?_
  refine EVL.fldB tO rfl rfl rfl rfl rfl rfl rfl ?_
  refine EVL.storeOwn tO rfl rfl rfl rfl rfl rfl ([]) ([]) rfl rfl rfl rfl ((by rw [List.length_append,hAf,List.length_append];show A.length*3+2+1≤_;simp;omega)) ((row_set hAf rfl rfl (Nat.le_of_ble_eq_true rfl) rfl)) ?_
  try refine RUN ?_
  refine ⟨(A.length+1,A++_::B),⟨by rw [wi_inc A.length (by omega)];rfl,trivial⟩,sB,trivial,sB,by dsimp only;rw [flat_mid];rfl,⟨hlt,(hds.mono SCol.ok hG2).put hni ⟨a8,c8,hR,rfl⟩⟩,hG2,by dsimp only;omega⟩
 ·simp only [nN] at hlt
  have hown:=hsame ds.flatten (by rw [flat_lenK (hds.all SCol.ok),hfl,hds.1,hcl])
  (first | refine EVL.publishL [] [(g,83,ds.flatten++sp)] [] (rfl) hown fun G2 hG2 hs2=>?_ | refine EV.publishL [] [(g,83,ds.flatten++sp)] [] (rfl) hown fun G2 hG2 hs2=>?_)
  try refine RUN ?_
  exact ⟨ds,hds.mono SCol.ok hG2,hs2⟩
theorem flatRep1 (n:Nat) (x:Value):(List.replicate n [x]).flatten=List.replicate n x:=by
 induction n with
 | zero=>rfl
 | succ n ih=>rw [List.replicate_succ,List.flatten_cons,ih];rfl
theorem vals_put (done:List Value) (k:Nat) (z x:Value):(done++List.replicate (k+1) z).set done.length x=(done++[x])++List.replicate k z:=by
 rw [List.set_append_right _ _ (Nat.le_refl _),Nat.sub_self,List.replicate_succ,List.set_cons_zero,List.append_assoc];rfl
set_option maxRecDepth 100000 in
set_option maxHeartbeats 16000000 in
theorem copies_pw {H:Hp} {v:Value} {rows:List (List CellT)} (hv:PRows H v rows) (hl:rows.length≤1000000) (hc:∀ r,r∈rows→r.length≤1000000):PW prog 55 #[v] H [] fun r ow G=>∃ css,LsR (Cel PRow) G css rows∧OwnL 82 1 r rows.length css.flatten ow∧∃ b,r=.slice (some ⟨b,0,none⟩) rows.length rows.length:=by
 obtain ⟨dcs,hcs,hsl⟩:=hv
 obtain ⟨a,cp,rfl⟩:=SlC.val hsl
 refine PW.body tO func55 rfl kR ntmps55 rfl rfl ?_
 try refine RUN ?_
 refine EVL.make tO rfl rfl rfl rfl rfl rfl rfl rfl rfl (rows.length) (rfl) oM (by rfl) (by rfl) fun b=>?_
 try refine RUN ?_
 (first | refine EVL.swapOw ([(b,82,[]++List.replicate (rows.length-0) (.slice none 0 0))]) ([]) ((by rw [show (Tryz.te82).zero=[Value.slice none 0 0] from rfl,flatRep1];rfl)) ?_ | refine EV.swapOw ([(b,82,[]++List.replicate (rows.length-0) (.slice none 0 0))]) ([]) ((by rw [show (Tryz.te82).zero=[Value.slice none 0 0] from rfl,flatRep1];rfl)) ?_)
 refine EV.loopK (ι:=Nat × List (List Value)) [3,9,10] [] (fun q=>[(11,.v (.int .i64 (q.1:Int)))]) (fun _=>[]) (fun q=>[(b,82,q.2.flatten++List.replicate (rows.length-q.1) (.slice none 0 0))]) (fun q G=>q.1≤rows.length∧LsR (Cel PRow) G q.2 (rows.take q.1)) (fun q=>rows.length-q.1) ((0,[])) rfl rfl ⟨rfl,trivial⟩ trivial rfl (fun _=>rfl) (⟨Nat.zero_le _,LsR.nil⟩) ?_
 rintro ⟨i,css⟩ G1 hG1 ⟨hi,hds⟩
 dsimp only at hi hds
 have hfl:css.flatten.length=i:=by rw [flat_lenK (hds.all PRows.ok),hds.1,List.length_take,Nat.mul_one,Nat.min_eq_left hi]
 try refine RUN ?_
 refine EV.cond rfl (fun hlt=>?_) (fun hlt=>?_)
 ·simp only [nN] at hlt
  obtain ⟨row,hrow⟩:∃ x,rows[i]?=some x:=⟨_,List.getElem?_eq_getElem hlt⟩
  obtain ⟨cc,hcut,rv,rfl,hrr⟩:=(hcs.mono PRows.ok hG1).get PRows.ok hrow
  obtain ⟨ra,rn,rfl⟩:=LR.val hrr
  try refine RUN ?_
  refine EVL.idxM tO rfl rfl rfl rfl rfl rfl rfl rfl rfl ((hsl.mono hG1)) (i) (rfl) (hlt) (hcut) ?_
  try refine RUN ?_
  refine EVL.call rfl rfl rfl rfl rfl (cloneCells_pc hrr (hc row (List.mem_of_getElem? hrow))) ?_
  rintro r2 G2 hR hG2
  obtain ⟨a8,c8,rfl⟩:=LR.val hR
  try refine RUN ?_
  refine EVL.idxB tO rfl rfl rfl rfl rfl rfl rfl rfl rfl (i) (i*1) (rfl) (hlt) (rfl) ?_
  rw [Nat.mul_one]
  refine EVL.set1 tO rfl rfl rfl rfl rfl rfl rfl rfl rfl rfl ((by rw [List.length_append,hfl,List.length_replicate];omega)) ?_
  have hput:=vals_put css.flatten (rows.length-(i+1)) (.slice none 0 0) (.slice a8 row.length c8)
  rw [hfl,show rows.length-(i+1)+1=rows.length-i by omega] at hput
  try refine RUN ?_
  refine ⟨(i+1,css++[_]),⟨by rw [wi_inc i (by omega)];rfl,trivial⟩,sB,trivial,sB,by dsimp only;rw [flatSn];exact congrArg (fun z=>[(b,82,z)]) hput,⟨hlt,by dsimp only;rw [take_snoc hrow];exact (hds.mono PRows.ok hG2).snoc ⟨_,rfl,hR⟩⟩,hG2,by dsimp only;omega⟩
 ·simp only [nN] at hlt
  obtain rfl:i=rows.length:=by omega
  rw [List.take_length] at hds
  rw [Nat.sub_self,List.replicate_zero]
  try refine RUN ?_
  exact ⟨css,hds,⟨by rw [hfl,Nat.mul_one],.inr ⟨b,rows.length,[],rfl,rfl,by rw [List.append_nil,hfl,Nat.mul_one],Nat.le_refl _,by simp only [maxLen];omega⟩⟩,b,rfl⟩
set_option maxHeartbeats 8000000 in
theorem equalStr_pc {H:Hp} {u v:Value} {l m:List (List UInt8)} (hu:SL H u l) (hv:SL H v m) (hl:l.length≤1000000):PC prog 152 #[u,v] H fun r _=>r=.bool (decide (l=m)):=by
 obtain ⟨a,c,rfl⟩:=SlC.val hu
 obtain ⟨a2,c2,rfl⟩:=SlC.val hv
 refine BD func152 ntmps152 ?_
 try refine RUN ?_
 by_cases el:l.length=m.length
 case neg =>
  rw [show ((l.length:Int) != (m.length:Int))=true from bne_iff_ne.2 (by omega)]
  try refine RUN ?_
  rw [decide_eq_false fun e=>el (by rw [e])]
 rw [show ((l.length:Int) != (m.length:Int))=false from bne_eq_false_iff_eq.2 (by omega)]
 try refine RUN ?_
 refine EV.loopK (ι:=Nat) [0,1,12] [] (fun i=>[(13,.v (.int .i64 (i:Int)))]) (fun _=>[]) (fun _=>[]) (fun i _=>i≤l.length∧l.take i=m.take i) (fun i=>l.length-i) (0) rfl rfl ⟨rfl,trivial⟩ trivial rfl (fun _=>rfl) (⟨Nat.zero_le _,rfl⟩) ?_
 rintro i G1 hG1 ⟨hi,htk⟩
 try refine RUN ?_
 refine EV.cond rfl (fun hlt=>?_) (fun hlt=>?_)
 ·simp only [nN] at hlt
  obtain ⟨x,hx⟩:∃ z,l[i]?=some z:=⟨_,List.getElem?_eq_getElem hlt⟩
  obtain ⟨y,hy⟩:∃ z,m[i]?=some z:=⟨_,List.getElem?_eq_getElem oM⟩
  try refine RUN ?_
  apply EV.drawn 9 kR kR;intro xv yw
  (repeat refine' DD ?_)
  refine' DJ.ofVal (ValOk.idx1 tO rfl rfl rfl rfl rfl rfl rfl rfl ((hu.mono hG1)) (i) (rfl) (hlt) ((by rw [List.getElem?_map,hx];rfl))) rfl rfl rfl ?_;rotate_left
  (repeat refine' DD ?_)
  refine' DJ.ofVal (ValOk.idx1 tO rfl rfl rfl rfl rfl rfl rfl rfl ((hv.mono hG1)) (i) (rfl) (oM) ((by rw [List.getElem?_map,hy];rfl))) rfl rfl rfl ?_;rotate_left
  (repeat refine' DD ?_)
  (refine DJ.nil (fun G2 hG2 hF2=>?_);(case hS|hS2=>rfl))
  rw [sb_neq]
  by_cases e:x=y
  ·rw [decide_eq_false (show ¬ (x≠y) from fun k=>k e)]
   try refine RUN ?_
   rw [wi_inc i (by omega)]
   exact ⟨i+1,⟨rfl,trivial⟩,sB,trivial,sB,rfl,⟨hlt,by rw [take_snoc hx,take_snoc hy,htk,e]⟩,hG2,by omega⟩
  ·rw [decide_eq_true (show x≠y from e)]
   try refine RUN ?_
   rw [decide_eq_false (ne_at hx hy e)]
 ·simp only [nN] at hlt
  obtain rfl:i=l.length:=by omega
  rw [List.take_length,el,List.take_length] at htk
  try refine RUN ?_
  rw [decide_eq_true htk]
theorem sameCol_pc {H:Hp} {cu cv:List Value} {x y:ColT} (hu:SCol H cu x) (hv:SCol H cv y) (hl:x.words.length≤1000000):PC prog 104 #[.agg cu.toArray,.agg cv.toArray] H fun r _=>r=.bool (decide (x=y)):=by
 obtain ⟨a,n,hw,rfl⟩:=hu
 obtain ⟨a2,n2,hw2,rfl⟩:=hv
 have heq:=equalStr_pc hw hw2 hl
 obtain ⟨nm,kd,ws⟩:=x
 obtain ⟨nm2,kd2,ws2⟩:=y
 dsimp only at *
 have hd:decide (ColT.mk nm kd ws=ColT.mk nm2 kd2 ws2)=(decide (nm=nm2) && (decide (kd=kd2) && decide (ws=ws2))):=by
  by_cases h1:nm=nm2
  ·by_cases h2:kd=kd2
   ·by_cases h3:ws=ws2
    ·rw [decide_eq_true h1,decide_eq_true h2,decide_eq_true h3,decide_eq_true (by rw [h1,h2,h3])];rfl
    ·rw [decide_eq_true h1,decide_eq_true h2,decide_eq_false h3,decide_eq_false fun k=>h3 (by cases k;rfl)];rfl
   ·rw [decide_eq_true h1,decide_eq_false h2,decide_eq_false fun k=>h2 (by cases k;rfl)];rfl
  ·rw [decide_eq_false h1,decide_eq_false fun k=>h1 (by cases k;rfl)];rfl
 rw [hd]
 refine BD func104 ntmps104 ?_
 try refine RUN ?_
 rw [sb_eqb]
 by_cases h1:nm=nm2
 case neg =>
  rw [decide_eq_false h1]
  try refine RUN ?_
  rfl
 rw [decide_eq_true h1]
 try refine RUN ?_
 by_cases h2:kd=kd2
 case neg =>
  rw [show ((kd:Int) == (kd2:Int))=false from beq_eq_false_iff_ne.2 oM,decide_eq_false h2]
  try refine RUN ?_
  rfl
 rw [show ((kd:Int) == (kd2:Int))=true from beq_iff_eq.2 oM,decide_eq_true h2]
 try refine RUN ?_
 refine EVL.call rfl rfl rfl rfl rfl (heq) ?_
 rintro _ G rfl hG
 try refine RUN ?_
 rfl
theorem eqCols_pc {H:Hp} {u v:Value} {l m:List ColT} (hu:ColL H u l) (hv:ColL H v m) (hl:l.length≤1000000) (hw:∀ c,c∈l→c.words.length≤1000000):PC prog 103 #[u,v,.func (.func 104) #[] #[]] H fun r _=>r=.bool (decide (l=m)):=by
 obtain ⟨ucs,hus,hul⟩:=hu
 obtain ⟨vcs,hvs,hvl⟩:=hv
 obtain ⟨a,c,rfl⟩:=SlC.val hul
 obtain ⟨a2,c2,rfl⟩:=SlC.val hvl
 refine BD func103 ntmps103 ?_
 try refine RUN ?_
 by_cases el:l.length=m.length
 case neg =>
  rw [show ((l.length:Int) != (m.length:Int))=true from bne_iff_ne.2 (by omega)]
  try refine RUN ?_
  rw [decide_eq_false fun e=>el (by rw [e])]
 rw [show ((l.length:Int) != (m.length:Int))=false from bne_eq_false_iff_eq.2 (by omega)]
 try refine RUN ?_
 refine EV.loopK (ι:=Nat) [1,2,15,16] [] (fun i=>[(17,.v (.int .i64 (i:Int)))]) (fun _=>[]) (fun _=>[]) (fun i _=>i≤l.length∧l.take i=m.take i) (fun i=>l.length-i) (0) rfl rfl ⟨rfl,trivial⟩ trivial rfl (fun _=>rfl) (⟨Nat.zero_le _,rfl⟩) ?_
 rintro i G1 hG1 ⟨hi,htk⟩
 try refine RUN ?_
 refine EV.cond rfl (fun hlt=>?_) (fun hlt=>?_)
 ·simp only [nN] at hlt
  obtain ⟨x,hx⟩:∃ z,l[i]?=some z:=⟨_,List.getElem?_eq_getElem hlt⟩
  obtain ⟨y,hy⟩:∃ z,m[i]?=some z:=⟨_,List.getElem?_eq_getElem oM⟩
  obtain ⟨xc,hxcut,hxc⟩:=(hus.mono SCol.ok hG1).get SCol.ok hx
  obtain ⟨yc,hycut,hyc⟩:=(hvs.mono SCol.ok hG1).get SCol.ok hy
  have hff:=sameCol_pc hxc hyc (hw x (List.mem_of_getElem? hx))
  obtain ⟨_,_,_,rfl⟩:=hxc
  obtain ⟨_,_,_,rfl⟩:=hyc
  try refine RUN ?_
  refine EVL.idxM tO rfl rfl rfl rfl rfl rfl rfl rfl rfl ((hul.mono hG1)) (i) (rfl) (hlt) (hxcut) ?_
  try refine RUN ?_
  refine EVL.idxM tO rfl rfl rfl rfl rfl rfl rfl rfl rfl ((hvl.mono hG1)) (i) (rfl) (oM) (hycut) ?_
  try refine RUN ?_
  refine EVL.callC (cs:=[]) rfl rfl rfl rfl rfl rfl (hff) ?_
  rintro _ G2 rfl hG2
  by_cases e:x=y
  ·rw [decide_eq_true e]
   try refine RUN ?_
   rw [wi_inc i (by omega)]
   exact ⟨i+1,⟨rfl,trivial⟩,sB,trivial,sB,rfl,⟨hlt,by rw [take_snoc hx,take_snoc hy,htk,e]⟩,hG2,by omega⟩
  ·rw [decide_eq_false e]
   try refine RUN ?_
   rw [decide_eq_false (ne_at hx hy e)]
 ·simp only [nN] at hlt
  obtain rfl:i=l.length:=by omega
  rw [List.take_length,el,List.take_length] at htk
  try refine RUN ?_
  rw [decide_eq_true htk]
theorem sameCols_pc {H:Hp} {u v:Value} {l m:List ColT} (hu:ColL H u l) (hv:ColL H v m) (hl:l.length≤1000000) (hw:∀ c,c∈l→c.words.length≤1000000):PC prog 54 #[u,v] H fun r _=>r=.bool (decide (l=m)):=by
 have he:=eqCols_pc hu hv hl hw
 obtain ⟨_,_,rfl⟩:=hu.val
 obtain ⟨_,_,rfl⟩:=hv.val
 refine BD func54 ntmps54 ?_
 try refine RUN ?_
 refine EVL.call rfl rfl rfl rfl rfl (he) ?_
 rintro _ G rfl hG
 try refine RUN ?_
 rfl
end Go.Proofs.YtbcfidllfimehaaGreatDoor
namespace Go.Proofs.YtbcfidllfimehaaGreatDoor
theorem ColT.Ok.colE {c:ColT} (h:c.Ok) {acc:List ColT} (hn:∀ d,d∈acc→d.name≠c.name):colE acc c=0:=by
 unfold Go.Proofs.YtbcfidllfimehaaGreatDoor.colE
 have h1:c.words.all isNm=true:=List.all_eq_true.2 h.words
 have h2:(acc.any fun d=>decide (d.name=c.name))=false:=by
  rw [← Bool.not_eq_true,List.any_eq_true]
  rintro ⟨d,hd,e⟩
  exact hn d hd (of_decide_eq_true e)
 have h3:hasTwice c.words=false:=by unfold hasTwice;rw [decide_eq_true h.nodup];rfl
 rw [h.name,h1,if_neg (by decide),if_pos h.kind,h2,h3]
 rfl
theorem colsE_ok:∀ {cs acc:List ColT},(∀ c,c∈cs→c.Ok)→((acc++cs).map ColT.name).Nodup→colsE acc cs=0
 | [],_,_,_=>rfl
 | c::r,acc,h1,h2=>by
  have hn:∀ d,d∈acc→d.name≠c.name:=fun d hd e=>by
   rw [List.map_append,List.nodup_append] at h2
   exact h2.2.2 d.name (List.mem_map_of_mem hd) c.name (by rw [List.map_cons];exact List.mem_cons_self ..) e
  rw [colsE_step ((h1 c (List.mem_cons_self ..)).colE hn)]
  exact colsE_ok (fun d hd=>h1 d (List.mem_cons_of_mem _ hd)) (by rw [List.append_assoc];exact h2)
theorem CellT.Ok.right {c:ColT} {x:CellT} (hc:c.Ok) (h:x.Ok c):rightC c x=true:=by
 unfold rightC
 cases hl:x.lacks with
 | true =>
  obtain ⟨h1,h2⟩:=h.lacks hl
  rw [if_pos rfl,decide_eq_true h1,decide_eq_true h2];rfl
 | false =>
  rw [if_neg (by decide)]
  by_cases k1:c.kind=1
  ·rw [if_pos k1,decide_eq_true (h.num hl k1).1]
  ·rw [if_neg k1]
   obtain ⟨h1,h2⟩:=h.word hl k1
   have k2:c.kind=2:=by
    rcases hc.kind with ⟨q,_⟩ | ⟨q,_⟩
    ·exact absurd q k1
    ·exact q
   rw [if_pos k2,decide_eq_true h1,decide_eq_true h2];rfl
theorem rowsE_ok {cs:List ColT}:∀ {rows:List (List CellT)},(∀ row,row∈rows→cs.length=row.length)→(∀ row,row∈rows→∀ c x,(c,x)∈cs.zip row→c.Ok∧x.Ok c)→rowsE cs rows=0
 | [],_,_=>rfl
 | r::l,h1,h2=>by
  have hr:rightR cs r=true:=List.all_eq_true.2 fun p hp=>by
   obtain ⟨c,x⟩:=p
   obtain ⟨k1,k2⟩:=h2 r (List.mem_cons_self ..) c x hp
   exact k2.right k1
  rw [rowsE,if_pos (h1 r (List.mem_cons_self ..)).symm,hr,if_pos rfl]
  exact rowsE_ok (fun row hrow=>h1 row (List.mem_cons_of_mem _ hrow)) (fun row hrow=>h2 row (List.mem_cons_of_mem _ hrow))
theorem ShOk.check {cs:List ColT} {rows:List (List CellT)} (h:ShOk cs rows):checkS cs rows=0:=by
 have h1:=h.some1
 have h2:=h.few
 have h3:=h.nrows
 unfold checkS
 rw [if_neg oM,if_pos (colsE_ok h.cols (by rw [List.nil_append];exact h.names)),if_neg (by omega)]
 exact rowsE_ok h.wide h.cells
theorem CellT.Ok.ht {c:ColT} {x:CellT} (h:x.Ok c):ht x.q≤500:=by
 cases hl:x.lacks with
 | true=>rw [(h.lacks hl).1,ht_zero];decide
 | false =>
  by_cases k1:c.kind=1
  ·exact (h.num hl k1).2
  ·rw [(h.word hl k1).1,ht_zero];decide
theorem zip_mem {α β:Type}:∀ {l:List α} {m:List β} {y:β},l.length=m.length→y∈m→∃ x,(x,y)∈l.zip m
 | [],m,y,h,k=>by
  have:m=[]:=List.length_eq_zero_iff.1 h.symm
  subst this;cases k
 | x::l,[],y,h,k=>by cases k
 | x::l,z::m,y,h,k=>by
  rcases List.mem_cons.1 k with rfl | k
  ·exact ⟨x,List.mem_cons_self ..⟩
  ·obtain ⟨w,hw⟩:=zip_mem (l:=l) (by simpa using h) k
   exact ⟨w,List.mem_cons_of_mem _ hw⟩
theorem ShOk.small {cs:List ColT} {rows:List (List CellT)} (h:ShOk cs rows):∀ r,r∈rows→r.length≤20∧∀ x,x∈r→Go.Proofs.YtbcfidllfimehaaGreatDoor.ht x.q≤500:=fun r hr=>by
 have h1:=h.wide r hr
 refine ⟨by have:=h.few;omega,fun x hx=>?_⟩
 obtain ⟨c,hc⟩:=zip_mem h1 hx
 exact (h.cells r hr c x hc).2.ht
theorem isNm_len {l:List UInt8} (h:isNm l=true):l.length≤20:=((isNm_iff l).1 h).2.1
theorem ShOk.ck {cs:List ColT} {rows:List (List CellT)} (h:ShOk cs rows):SmCk cs rows where
 ncols:=Nat.le_trans h.few (by decide)
 name:=fun c hc=>Nat.le_trans (isNm_len (h.cols c hc).name) (by decide)
 nwords:=fun c hc=>by
  rcases (h.cols c hc).kind with ⟨_,e⟩ | ⟨_,_,q⟩
  ·rw [e];exact Nat.zero_le _
  ·exact Nat.le_trans q (by decide)
 words:=fun c hc w hw=>Nat.le_trans (isNm_len ((h.cols c hc).words w hw)) (by decide)
 nrows:=Nat.le_trans h.nrows (by decide)
 cells:=fun r hr=>⟨Nat.le_trans (h.small r hr).1 (by decide),fun x hx=>Nat.le_trans ((h.small r hr).2 x hx) (by decide)⟩
def takeR (rows:List (List CellT)) (rs:List Int):List (List CellT):=rs.map fun r=>rows.getD r.toNat []
def inRw (rows:List (List CellT)) (rs:List Int):Bool:=rs.all fun r=>decide (0≤r∧r<(rows.length:Int))
theorem takeR_mem {rows:List (List CellT)} {rs:List Int} (h:inRw rows rs=true):∀ row,row∈takeR rows rs→row∈rows:=fun row hr=>by
 obtain ⟨r,hr2,rfl⟩:=List.mem_map.1 hr
 have:=of_decide_eq_true (List.all_eq_true.1 h r hr2)
 rw [List.getD_eq_getElem?_getD,List.getElem?_eq_getElem (by omega)]
 exact List.getElem_mem _
theorem ShOk.rows {cs:List ColT} {rows rows':List (List CellT)} (h:ShOk cs rows) (hm:∀ r,r∈rows'→r∈rows) (hl:rows'.length≤300):ShOk cs rows' :=
 ⟨h.some1,h.few,h.cols,h.names,hl,fun r hr=>h.wide r (hm r hr),fun r hr=>h.cells r (hm r hr)⟩
theorem ShOk.take {cs:List ColT} {rows:List (List CellT)} (h:ShOk cs rows) {rs:List Int} (hr:inRw rows rs=true) (hl:rs.length≤300):ShOk cs (takeR rows rs) :=
 h.rows (takeR_mem hr) (by unfold takeR;rw [List.length_map];exact hl)
end Go.Proofs.YtbcfidllfimehaaGreatDoor
namespace Go.Proofs.YtbcfidllfimehaaGreatDoor
open Go.RowKit _root_.Go.Proofs.Tryz
def TakeAns (H:Hp) (r:Value) (cs:List ColT) (rows:List (List CellT)) (rs:List Int):Prop :=
 (inRw rows rs=true∧∃ a b,r=.tuple #[.agg #[a,b],.int .i64 0]∧ColL H a cs∧PRows H b (takeR rows rs))∨(inRw rows rs=false∧r=.tuple #[.agg #[.slice none 0 0,.slice none 0 0],.int .i64 1])
set_option maxRecDepth 100000 in
set_option maxHeartbeats 32000000 in
theorem take_pc {H:Hp} {u v w:Value} {cs:List ColT} {rows:List (List CellT)} {rs:List Int} (hu:ColL H u cs) (hv:PRows H v rows) (hw:IL H w rs) (ok:ShOk cs rows) (hrs:rs.length≤300):PC prog 19 #[.agg #[u,v],w] H fun r G=>TakeAns G r cs rows rs:=by
 have hck:=check_pc hu hv ok.ck
 rw [ok.check] at hck
 have hwd:=ok.ck.nwords
 have hc1:=ok.some1
 have hcn:=ok.ck.ncols
 obtain ⟨ua,uc,rfl⟩:=hu.val
 obtain ⟨dcs,hcs,hsl⟩:=hv
 obtain ⟨va,vc,rfl⟩:=SlC.val hsl
 obtain ⟨wa,wc,rfl⟩:=SlC.val hw
 refine BD func19 ntmps19 ?_
 try refine RUN ?_
 refine EVL.call rfl rfl rfl rfl rfl (hck) ?_
 rintro _ G0 rfl hG0
 try refine RUN ?_
 refine EV.loopK (ι:=Nat) [1,2,4,18,19] [2,4] (fun i=>[(20,.v (.int .i64 (i:Int)))]) (fun _=>[]) (fun _=>[]) (fun i _=>i≤rs.length∧inRw rows (rs.take i)=true) (fun i=>rs.length-i) (0) rfl rfl ⟨rfl,trivial⟩ trivial rfl (fun _=>rfl) (⟨Nat.zero_le _,rfl⟩) ?_
 rintro i G1 hG1 ⟨hi,hin⟩
 try refine RUN ?_
 refine EV.cond rfl (fun hlt=>?_) (fun hlt=>?_)
 ·simp only [nN] at hlt
  obtain ⟨z,hz⟩:∃ z,rs[i]?=some z:=⟨_,List.getElem?_eq_getElem hlt⟩
  have bad:¬ (0≤z∧z<(rows.length:Int))→∀ G:Hp,TakeAns G (.tuple #[.agg #[.slice none 0 0,.slice none 0 0],.int .i64 1]) cs rows rs:=fun k G=>.inr ⟨by
   rw [← Bool.not_eq_true]
   intro q
   exact k (of_decide_eq_true (List.all_eq_true.1 q z (List.mem_of_getElem? hz))),rfl⟩
  try refine RUN ?_
  refine EVL.idxR tO rfl rfl rfl rfl rfl rfl rfl rfl rfl rfl ((hw.mono (hG0.trans hG1))) (i) (rfl) (hlt) ((by rw [List.getElem?_map,hz];rfl)) ?_
  try refine RUN ?_
  by_cases c1:z<0
  ·rw [decide_eq_true c1]
   try refine RUN ?_
   exact bad oM _
  rw [decide_eq_false c1]
  try refine RUN ?_
  by_cases c2:z≥(rows.length:Int)
  ·rw [decide_eq_true c2]
   try refine RUN ?_
   exact bad oM _
  rw [decide_eq_false c2]
  try refine RUN ?_
  rw [wi_inc i (by omega)]
  exact ⟨i+1,⟨rfl,trivial⟩,sB,trivial,sB,rfl,⟨hlt,by rw [take_snoc hz];unfold inRw at hin ⊢;rw [List.all_append,hin,List.all_cons,decide_eq_true (by omega)];rfl⟩,Hp.Le.refl _,by omega⟩
 simp only [nN] at hlt
 obtain rfl:i=rs.length:=by omega
 rw [List.take_length] at hin
 try refine RUN ?_
 rw [decide_eq_false (show ¬ (rs.length:Int)>300 by omega)]
 try refine RUN ?_
 refine EVL.call rfl rfl rfl rfl rfl (copyCols_pc (hu.mono SCol.ok (hG0.trans hG1)) hc1 hcn hwd) ?_
 rintro _ G2 hcol hG2
 obtain ⟨xa,xc,rfl⟩:=hcol.val
 have hG02:=hG0.trans (hG1.trans hG2)
 try refine RUN ?_
 refine EV.loopK (ι:=Nat × Value × List (List Value) × Ows) [2,4,9,43,44] [2,4] (fun q=>[(45,.v (.int .i64 (q.1:Int)))]) (fun q=>[(9,37,[.slice xa cs.length xc,q.2.1])]) (fun q=>q.2.2.2) (fun q G=>q.1≤rs.length∧LsR (Cel PRow) G q.2.2.1 (takeR rows (rs.take q.1))∧OwnL 82 1 q.2.1 q.1 q.2.2.1.flatten q.2.2.2) (fun q=>rs.length-q.1) ((0,.slice none 0 0,[],[])) rfl rfl ⟨rfl,trivial⟩ ⟨rfl,trivial⟩ rfl (fun _=>rfl) (⟨Nat.zero_le _,LsR.nil,OwnL.nil _ _⟩) ?_
 rintro ⟨i,p,ps,ow⟩ G3 hG3 ⟨hi,hps,hown⟩
 dsimp only at hi hps hown
 obtain ⟨ba,bc,rfl⟩:=hown.val
 have hG03:=hG02.trans hG3
 try refine RUN ?_
 refine EV.cond rfl (fun hlt2=>?_) (fun hlt2=>?_)
 ·simp only [nN] at hlt2
  obtain ⟨z,hz⟩:∃ z,rs[i]?=some z:=⟨_,List.getElem?_eq_getElem hlt2⟩
  obtain ⟨z0,z1⟩:0≤z∧z<(rows.length:Int):=of_decide_eq_true (List.all_eq_true.1 hin z (List.mem_of_getElem? hz))
  obtain ⟨k,rfl⟩:=Int.eq_ofNat_of_zero_le z0
  have hk:k<rows.length:=by omega
  obtain ⟨row,hrow⟩:∃ x,rows[k]?=some x:=⟨_,List.getElem?_eq_getElem hk⟩
  have hget:rows.getD (k:Int).toNat []=row:=by rw [Int.toNat_natCast,List.getD_eq_getElem?_getD,hrow];rfl
  obtain ⟨cc,hcut,rv,rfl,hrr⟩:=(hcs.mono PRows.ok hG03).get PRows.ok hrow
  obtain ⟨r5,r6,rfl⟩:=LR.val hrr
  have hoc:=fun G (hG:G3.Le G)=>cloneCells_pc (PRow.mono hrr hG) (Nat.le_trans (ok.small row (List.mem_of_getElem? hrow)).1 (by decide))
  try refine RUN ?_
  refine EVL.idxR tO rfl rfl rfl rfl rfl rfl rfl rfl rfl rfl ((hw.mono hG03)) (i) (rfl) (hlt2) ((by rw [List.getElem?_map,hz];rfl)) ?_
  try refine RUN ?_
  apply EV.drawn 9 kR kR;intro xv yw
  (repeat refine' DD ?_)
  refine' DJ.idxM tO rfl rfl rfl rfl rfl rfl rfl rfl rfl ((hsl.mono hG03)) (k) (rfl) (hk) (hcut) ?_;rotate_left
  (repeat refine' DD ?_)
  refine' DJ.call rfl rfl rfl rfl rfl (cO func53) (fun G hG hd=>hoc G hG) (fun _ _ _ h k=>PRow.mono h k) ?_;rotate_left
  (refine' DJ.litD1 (Φ:=fun v G=>∃ x,SlC G v 1 1 [x]∧PRow G x row) (fun v G G' ⟨x,e,h⟩ k=>⟨x,e.mono k,PRow.mono h k⟩) tO rfl rfl rfl rfl rfl rfl rfl rfl rfl rfl rfl (fun G hd=>by obtain ⟨p,q,e⟩:=LR.val (hd.head kR);rw [e];rfl) (fun G G' v hd hG h=>(by
   have hp:PRow G (xv 7) row:=hd.head kR
   obtain ⟨p,q,e⟩:=LR.val hp
   rw [flatV ⟨p,_,q,e⟩] at h
   exact ⟨_,h,PRow.mono hp hG⟩)) ?_;rotate_left)
  (refine DJ.nil (fun G4 hG4 hF4=>?_);(case hS|hS2=>rfl))
  obtain ⟨x,hs2,hp2⟩:=hF4.1
  obtain ⟨p,q,rfl⟩:=LR.val hp2
  refine EVL.append tO rfl rfl rfl rfl rfl rfl rfl rfl rfl rfl rfl rfl [] ow [] (List.append_nil _).symm hown (SrcAt.ro hs2 (Nat.succ_pos 0)) rfl oM ?_
  intro v1 ow1 hown1
  obtain ⟨va2,vc2,rfl⟩:=hown1.val
  try refine RUN ?_
  rw [wi_inc i (by omega)]
  exact ⟨(i+1,.slice va2 (i+1) vc2,ps++[_],ow1),⟨rfl,trivial⟩,sB,⟨rfl,trivial⟩,sB,List.append_nil _,⟨hlt2,by dsimp only;rw [take_snoc hz];unfold takeR;rw [List.map_append,List.map_singleton,hget];exact (hps.mono PRows.ok hG4).snoc ⟨_,rfl,hp2⟩,by dsimp only;rw [flatSn];exact hown1⟩,hG4,by dsimp only;omega⟩
 simp only [nN] at hlt2
 obtain rfl:i=rs.length:=by omega
 rw [List.take_length] at hps
 (first | refine EVL.publishL [] ow [] ((List.append_nil _).symm) hown fun G4 hG4 hs4=>?_ | refine EV.publishL [] ow [] ((List.append_nil _).symm) hown fun G4 hG4 hs4=>?_)
 try refine RUN ?_
 exact .inl ⟨hin,_,_,rfl,hcol.mono SCol.ok (hG3.trans hG4),ps,hps.mono PRows.ok hG4,by show SlC _ _ (takeR rows rs).length _ _;unfold takeR;rw [List.length_map];exact hs4⟩
theorem slices_one:∀ {H:Hp} {css:List (List Value)} {l:List (List CellT)},LsR (Cel PRow) H css l→oneB css.flatten=true
 | H,[],_,_=>rfl
 | H,c::css,[],h=>by have:=h.1;simp at this
 | H,c::css,x::l,h=>by
  rw [List.flatten_cons]
  have hc:oneB c=true:=by
   obtain ⟨v,rfl,hv⟩:=h.2 0 c x rfl rfl
   obtain ⟨_,_,rfl⟩:=LR.val hv
   rfl
  refine oneB_app hc (slices_one (H:=H) (l:=l) ⟨?_,fun j c' n' e1 e2=>h.2 (j+1) c' n' (by rw [List.getElem?_cons_succ];exact e1) (by rw [List.getElem?_cons_succ];exact e2)⟩)
  have:=h.1
  simpa using this
theorem LsR.app {α:Type} {R:Hp→List Value→α→Prop} {H:Hp} {a b:List (List Value)} {l m:List α} (h:LsR R H a l) (k:LsR R H b m):LsR R H (a++b) (l++m):=by
 refine ⟨by rw [List.length_append,List.length_append,h.1,k.1],fun j c x e1 e2=>?_⟩
 by_cases hj:j<a.length
 ·rw [List.getElem?_append_left hj] at e1
  rw [List.getElem?_append_left (by rw [← h.1];exact hj)] at e2
  exact h.2 j c x e1 e2
 ·rw [List.getElem?_append_right (by omega)] at e1
  rw [List.getElem?_append_right (by rw [← h.1];omega),← h.1] at e2
  exact k.2 _ c x e1 e2
def AddAns (H:Hp) (r:Value) (cs ds:List ColT) (rows rows2:List (List CellT)):Prop :=
 (cs=ds∧∃ a b,r=.tuple #[.agg #[a,b],.int .i64 0]∧ColL H a cs∧PRows H b (rows++rows2))∨(cs≠ds∧r=.tuple #[.agg #[.slice none 0 0,.slice none 0 0],.int .i64 10])
set_option maxRecDepth 100000 in
set_option maxHeartbeats 32000000 in
theorem add_pc {H:Hp} {u v u2 v2:Value} {cs ds:List ColT} {rows rows2:List (List CellT)} (hu:ColL H u cs) (hv:PRows H v rows) (hu2:ColL H u2 ds) (hv2:PRows H v2 rows2) (ok:ShOk cs rows) (ok2:ShOk ds rows2) (hrs:rows.length+rows2.length≤300):PC prog 20 #[.agg #[u,v],.agg #[u2,v2]] H fun r G=>AddAns G r cs ds rows rows2:=by
 have hck:=check_pc hu hv ok.ck
 rw [ok.check] at hck
 have hck2:=fun G (hG:H.Le G)=>check_pc (hu2.mono SCol.ok hG) (LR.mono PRows.ok hv2 hG) ok2.ck
 rw [ok2.check] at hck2
 have hsc:=fun G (hG:H.Le G)=>sameCols_pc (hu.mono SCol.ok hG) (hu2.mono SCol.ok hG) ok.ck.ncols ok.ck.nwords
 have hcc:=fun G (hG:H.Le G)=>copyCols_pc (hu.mono SCol.ok hG) ok.some1 ok.ck.ncols ok.ck.nwords
 have hc1:=fun G (hG:H.Le G)=>copies_pw (LR.mono PRows.ok hv hG) ok.ck.nrows (fun r hr=>Nat.le_trans (ok.small r hr).1 (by decide))
 have hc2:=fun G (hG:H.Le G)=>copies_pw (LR.mono PRows.ok hv2 hG) ok2.ck.nrows (fun r hr=>Nat.le_trans (ok2.small r hr).1 (by decide))
 obtain ⟨ua,uc,rfl⟩:=hu.val
 obtain ⟨va,vc,rfl⟩:=LR.val hv
 obtain ⟨ua2,uc2,rfl⟩:=hu2.val
 obtain ⟨va2,vc2,rfl⟩:=LR.val hv2
 refine BD func20 ntmps20 ?_
 try refine RUN ?_
 refine EVL.call rfl rfl rfl rfl rfl (hck) ?_
 rintro _ G0 rfl hG0
 try refine RUN ?_
 refine EVL.call rfl rfl rfl rfl rfl (hck2 _ hG0) ?_
 rintro _ G1 rfl hG1
 try refine RUN ?_
 refine EVL.call rfl rfl rfl rfl rfl (hsc _ (hG0.trans hG1)) ?_
 rintro _ G2 rfl hG2
 have hG02:=hG0.trans (hG1.trans hG2)
 by_cases e:cs=ds
 case neg =>
  rw [decide_eq_false e]
  try refine RUN ?_
  exact .inr ⟨e,rfl⟩
 rw [decide_eq_true e]
 try refine RUN ?_
 rw [decide_eq_false (show ¬ IntKind.i64.wrap ((rows.length:Int)+(rows2.length:Int))>300 by rw [IntKind.wrap_i64];omega)]
 try refine RUN ?_
 (first | refine EVL.unbox (2) rfl fun bA=>?_ | refine EV.unbox (2) rfl fun bA=>?_)
 (first | refine EVL.publish [] [] rfl fun Ga hGa hbA=>?_ | refine EV.publish [] [] rfl fun Ga hGa hbA=>?_)
 (first | refine EVL.unbox (3) rfl fun bB=>?_ | refine EV.unbox (3) rfl fun bB=>?_)
 (first | refine EVL.publish [] [] rfl fun Gb hGb hbB=>?_ | refine EV.publish [] [] rfl fun Gb hGb hbB=>?_)
 have hG0b:=hG02.trans (hGa.trans hGb)
 refine EVG.start (Fits Gb) none ?_
 refine IF 0 ?_
 refine IRP 1 (b:=bA) (off:=0+1) (l:=[.slice va rows.length vc]) ?_ (hGb _ _ hbA) (fun j u hj=>by cases j with | zero=>exact hj | succ j=>simp at hj) rfl rfl
 refine IF 3 ?_
 refine IRP 4 (b:=bB) (off:=0+1) (l:=[.slice va2 rows2.length vc2]) ?_ hbB (fun j u hj=>by cases j with | zero=>exact hj | succ j=>simp at hj) rfl rfl
 refine EVG.one 2 (fitsI (Hp.Le.refl _)) kR rfl ?_
 refine EVL.callW rfl rfl rfl rfl rfl ([]) ([]) rfl (hc1 _ hG0b) ?_
 rintro _ ow1 G3 ⟨css,hcss,hown1,b1,rfl⟩ hG3
 refine EVL.nil ⟨rfl,?_⟩
 refine EVG.one 5 (fitsI hG3) kR rfl ?_
 refine EVL.callW rfl rfl rfl rfl rfl [] (ow1++[]) rfl (hc2 _ (hG0b.trans hG3)) ?_
 rintro _ ow2 G4 ⟨css2,hcss2,hown2,b2,rfl⟩ hG4
 (first | refine EVL.publishL [] ow2 (ow1++[]) (rfl) hown2 fun G5 hG5 hs5=>?_ | refine EV.publishL [] ow2 (ow1++[]) (rfl) hown2 fun G5 hG5 hs5=>?_)
 refine EVL.nil ⟨rfl,?_⟩
 refine EVG.one 6 (fitsI (hG3.trans (hG4.trans hG5))) kR rfl ?_
 refine EVL.appendR tO rfl rfl rfl rfl rfl rfl rfl rfl rfl rfl rfl rfl rfl [] ow1 [] rfl hown1 hs5 (slices_one hcss2) oM ?_
 intro v' ow' hown'
 obtain ⟨xa,xc,rfl⟩:=hown'.val
 refine EVL.nil ⟨rfl,?_⟩
 refine EVG.one 7 (fitsI (hG3.trans (hG4.trans hG5))) kR rfl ?_
 (try refine RUNL ?_)
 refine EVL.nil ⟨rfl,?_⟩
 refine EVG.nil (fitsI (hG3.trans (hG4.trans hG5))) kR ?_
 (first | refine EVL.publishL [] ow' [] (rfl) hown' fun G6 hG6 hs6=>?_ | refine EV.publishL [] ow' [] (rfl) hown' fun G6 hG6 hs6=>?_)
 have hG36:=hG3.trans (hG4.trans (hG5.trans hG6))
 refine EV.asRo 2 rfl (hG36 _ _ (hGb _ _ hbA)) ?_
 refine EV.asRo 3 rfl (hG36 _ _ hbB) ?_
 try refine RUN ?_
 refine EVL.call rfl rfl rfl rfl rfl (hcc _ (hG0b.trans (hG3.trans (hG4.trans (hG5.trans hG6))))) ?_
 rintro _ G7 hcol hG7
 obtain ⟨za,zc,rfl⟩:=hcol.val
 try refine RUN ?_
 refine .inl ⟨e,_,_,rfl,hcol,css++css2,(hcss.mono PRows.ok (hG4.trans (hG5.trans (hG6.trans hG7)))).app (hcss2.mono PRows.ok (hG5.trans (hG6.trans hG7))),?_⟩
 rw [List.length_append,List.flatten_append]
 exact hs6.mono hG7
theorem made_eq (l:List Value) (m:Nat):(Array.range (m*l.length)).map (fun i=>l.toArray[i % l.length]!)=((List.replicate m l).flatten).toArray:=by
 apply Array.ext
 ·simp
 ·intro i h1 h2
  simp only [Array.getElem_map,Array.getElem_range]
  have hi':i<m*l.length:=by simpa using h1
  have hpos:0<l.length:=by rcases Nat.eq_zero_or_pos l.length with h | h;(rw [h] at hi';omega);exact h
  have key:∀ (q i:Nat),i<q*l.length→((List.replicate q l).flatten)[i]?=l[i % l.length]?:=by
   intro q
   induction q with
   | zero=>intro i hi;omega
   | succ q ih =>
    intro i hi
    rw [List.replicate_succ,List.flatten_cons]
    by_cases hlt:i<l.length
    ·rw [List.getElem?_append_left oM,Nat.mod_eq_of_lt hlt]
    ·rw [List.getElem?_append_right oM,ih (i-l.length) (by rw [Nat.add_mul] at hi;omega)]
     congr 1
     exact (Nat.mod_eq_sub_mod oM).symm
  have h3:=key m i hi'
  have h4:i % l.length<l.length:=Nat.mod_lt _ hpos
  rw [List.getElem?_eq_getElem (by simpa using h2),List.getElem?_eq_getElem h4] at h3
  have h5:=Option.some.inj h3
  simp only [List.getElem_toArray,h5]
  simp [getElem!_pos,Nat.mod_lt _ hpos]
theorem oneB_rep {l:List Value} (h:oneB l=true):∀ m:Nat,oneB (List.replicate m l).flatten=true
 | 0=>rfl
 | m+1=>by rw [List.replicate_succ,List.flatten_cons];exact oneB_app h (oneB_rep h m)
section
variable {P:Program} {n:Nat} {ops:Array Oper} {o:Oper} {rest:List Oper} {env:Env} {bx:Bxs} {H:Hs} {Q:EQ} {τ:Tab} {d:Nat}
theorem EVL.make2 (hτ:TabOk P τ) {T:TypeId} {x y:Operand} (ho:o.op=.makeSlice T x y) (hg:o.guard=none) (hd:o.dst=some d) (hn:Nat.blt d n=true) {te te':TE} {e:TypeId} (ht:τ.get T=some te) (hk:te.kind=.slice e) (ht':τ.get e=some te')
  {k k':IntKind} {z z':Int} (hx:env.op x=some (.v (.int k z))) (hy:env.op y=some (.v (.int k' z'))) (m c:Nat) (hz:z=m) (hz':z'=c) (hmc:m≤c) (hm:c≤1000000000) (hby:Nat.ble te'.bytes 10000=true) (hsz:Nat.beq te'.zero.length te'.size=true)
  (h:∀ b,EVL P n ops rest ((d,.v (.slice (some ⟨b,0,none⟩) m c))::env) bx ⟨H.ro,(b,e,(List.replicate c te'.zero).flatten)::H.ow,H.base⟩ Q):EVL P n ops (o::rest) env bx H Q:=fun W0 β a W r=>by
 have hkd:=(hτ.get ht).kind
 rw [hk] at hkd
 have hkd':P.underlying T=some (.slice e):=hkd
 obtain ⟨zv,hinfo,hzc⟩:=(hτ.get ht').info
 obtain ⟨i0,hi,hz0,hz1,hz2⟩:=info_parts hinfo
 have ex:a.eval x=.int k z:=r.op hx
 have ey:a.eval y=.int k' z':=r.op hy
 have hb:=Nat.le_of_ble_eq_true hby
 have hl:=Nat.eq_of_beq_eq_true hsz
 have hrun:=run_make (P:=P) W T e i0 zv hkd' hi hz0 k k' z z' oM oM (by
  rw [hz2,hz']
  have:te'.bytes*c≤10000*1000000000:=Nat.mul_le_mul hb hm
  have h2:((te'.bytes*c:Nat):Int)≤((10000*1000000000:Nat):Int):=by exact_mod_cast this
  rw [Int.natCast_mul] at h2
  omega) oM
 have hmc:madeCells zv.cells (z'.toNat*i0.size)=((List.replicate c te'.zero).flatten).toArray:=by
  rw [hzc,hz1,hz',Int.toNat_natCast,← hl,← made_eq]
  simp [madeCells]
 refine wpList_plain hg fun K hK=>?_
 have hx':(execOp a.eval o).run P W=.ok (.value (.slice (some ⟨W.heap.size,0,none⟩) m c)) (W.alloc (.cells ((List.replicate c te'.zero).flatten).toArray e)):=by
  unfold execOp
  simp only [ho,ex,ey,Sem.run_bind,hrun,Result.andThen_ok,Sem.run_pure]
  rw [hmc,hz,hz',Int.toNat_natCast,Int.toNat_natCast]
 unfold Oper.wp
 rw [hx',Oper.upon_value,hd]
 exact hK _ _ (h W.heap.size W0 β _ _ ((r.newOwn e _).put hn rfl rfl))
theorem EVL.appendIn (hτ:TabOk P τ) {T:TypeId} {x y:Operand} (ho:o.op=.call { callee:=.builtin .append,args:=#[x,y],argTypes:=#[T,T] }) (hg:o.guard=none) (hd:o.dst=some d) (hn:Nat.blt d n=true) {te te':TE} {e:TypeId} (ht:τ.get T=some te) (hk:te.kind=.slice e) (ht':τ.get e=some te')
  {b m1 m2 cap:Nat} (hx:env.op x=some (.v (.slice (some ⟨b,0,none⟩) m1 cap))) {u:Value} (hy:env.op y=some (.v u)) (pre post:Ows) {T':TypeId} {cs ys:List Value} (he:H.ow=pre++((b,T',cs)::post))
  (hsrc:SrcAt H u m2 te'.size ys) (h1:oneB ys=true) (hm:m1+m2≤cap) (hl:(m1+m2)*te'.size≤cs.length) {cs':List Value} (hcs:cs.take (m1*te'.size)++ys++cs.drop ((m1+m2)*te'.size)=cs')
  (h:EVL P n ops rest ((d,.v (.slice (some ⟨b,0,none⟩) (m1+m2) cap))::env) bx ⟨H.ro,pre++((b,T',cs')::post),H.base⟩ Q):EVL P n ops (o::rest) env bx H Q:=fun W0 β a W r=>by
 have hkd:=(hτ.get ht).kind
 rw [hk] at hkd
 have hkd':P.underlying T=some (.slice e):=hkd
 obtain ⟨zv,hinfo,hzc⟩:=(hτ.get ht').info
 obtain ⟨i0,hi,hz0,hz1,hz2⟩:=info_parts hinfo
 have ex:a.eval x=.slice (some ⟨b,0,none⟩) m1 cap:=r.op hx
 have ey:a.eval y=u:=r.op hy
 obtain ⟨hyl,sb,so,sc,rfl,hcell⟩:=hsrc
 have hnews:∀ j w,ys[j]?=some w→W.cell? ((⟨sb,so,none⟩:Addr).add j)=some w:=fun j w hj=>by
  rw [Addr.add_mid]
  rcases hcell with ⟨jj,T'',cs2,hjj,hq⟩ | ⟨c,hc,hq⟩
  ·exact (r.own jj sb T'' cs2 hjj).1.at (so+j) (by simpa using hq j w hj)
  ·obtain ⟨T'',fz,hW⟩:=r.fits sb c hc
   rw [cell_of_row W sb (so+j) c T'' fz hW]
   exact hq j w hj
 have hown:H.ow[pre.length]?=some (b,T',cs):=by rw [he];simp
 obtain ⟨hB,_⟩:=r.own _ b T' cs hown
 rw [Nat.add_mul] at hl
 have hrun:=run_append_room_cells (P:=P) W T o.type e i0 hkd' hi b 0 m1 cap ⟨sb,so,none⟩ m2 sc ys (by rw [hyl,hz1]) hnews (oneB_mem h1) hm
  (fun j hj=>by rw [hz1,Nat.zero_add,cell_of_row W b _ _ T' (0,0) hB];simp;omega) (fun j hj=>hB.free _)
 refine wpList_plain hg fun K hK=>?_
 have hx':(execOp a.eval o).run P W=.ok (.value (.slice (some ⟨b,0,none⟩) (m1+m2) cap)) (W.setCells b (m1*te'.size) ys):=by
  unfold execOp
  simp only [ho,resolve,invoke,builtin,Sem.run_bind,Sem.run_pure,Result.andThen_ok,List.map_toArray,List.map_cons,List.map_nil,ex,ey,hrun,hz1,Nat.zero_add]
 unfold Oper.wp
 rw [hx',Oper.upon_value,hd]
 have r':=r.setOwn pre post he (m1*te'.size) ys oM
 rw [hyl,← Nat.add_mul,hcs] at r'
 exact hK _ _ (h W0 β _ _ (r'.put hn rfl rfl))
theorem EVL.clear (hτ:TabOk P τ) {T:TypeId} {x:Operand} (ho:o.op=.call { callee:=.builtin .clear,args:=#[x],argTypes:=#[T] }) (hg:o.guard=none) (hd:o.dst=none) {te te':TE} {e:TypeId} (ht:τ.get T=some te) (hk:te.kind=.slice e) (ht':τ.get e=some te') (hsz:Nat.beq te'.zero.length te'.size=true) (hone:oneB te'.zero=true)
  {b off m cap:Nat} (hx:env.op x=some (.v (.slice (some ⟨b,off,none⟩) m cap))) (h0:0<m) (pre post:Ows) {T':TypeId} {cs:List Value} (he:H.ow=pre++((b,T',cs)::post)) (hl:off+m*te'.size≤cs.length) {cs':List Value} (hcs:cs.take off++(List.replicate m te'.zero).flatten++cs.drop (off+m*te'.size)=cs')
  (h:EVL P n ops rest env bx ⟨H.ro,pre++((b,T',cs')::post),H.base⟩ Q):EVL P n ops (o::rest) env bx H Q:=fun W0 β a W r=>by
 have hkd:=(hτ.get ht).kind
 rw [hk] at hkd
 have hkd':P.underlying T=some (.slice e):=hkd
 obtain ⟨zv,hinfo,hzc⟩:=(hτ.get ht').info
 obtain ⟨i0,hi,hz0,hz1,hz2⟩:=info_parts hinfo
 have ex:a.eval x=.slice (some ⟨b,off,none⟩) m cap:=r.op hx
 have hlz:=Nat.eq_of_beq_eq_true hsz
 have hown:H.ow[pre.length]?=some (b,T',cs):=by rw [he];simp
 obtain ⟨hB,_⟩:=r.own _ b T' cs hown
 have hlen:((List.replicate m te'.zero).flatten).length=m*te'.size:=by rw [← hlz];simp
 have hzl:(Builtin.zeroCells zv.cells m).toList=(List.replicate m te'.zero).flatten:=by
  rw [hzc]
  have:=made_eq te'.zero m
  simp only [Builtin.zeroCells,List.size_toArray]
  rw [this]
 have hst:=run_storeCells_cells (P:=P) b off (List.replicate m te'.zero).flatten 0 W (fun j hj=>by rw [Nat.add_zero,cell_of_row W b _ _ T' (0,0) hB];simp;omega) (fun j hj=>hB.free _) (fun u hu=>oneB_mem (oneB_rep hone m) u hu)
 rw [Nat.add_zero] at hst
 have hv:(zeroValue e).run P W=.ok zv W:=by simp [zeroValue,typeInfo,hi,hz0]
 obtain ⟨q,rfl⟩:∃ q,m=q+1:=⟨m-1,by omega⟩
 have hrun:(Builtin.clear_ #[T] o.type #[.slice (some ⟨b,off,none⟩) (q+1) cap]).run P W=.ok (.tuple #[]) (W.setCells b off (List.replicate (q+1) te'.zero).flatten):=by
  simp only [Builtin.clear_,Sem.run_bind]
  simp [run_underlying hkd',hv,hzl,hst]
 refine wpList_plain hg fun K hK=>?_
 have hx':(execOp a.eval o).run P W=.ok (.value (.tuple #[])) (W.setCells b off (List.replicate (q+1) te'.zero).flatten):=by
  unfold execOp
  simp only [ho,resolve,invoke,builtin,Sem.run_bind,Sem.run_pure,Result.andThen_ok,List.map_toArray,List.map_cons,List.map_nil,ex,hrun]
 unfold Oper.wp
 rw [hx',Oper.upon_value,hd]
 have r':=r.setOwn pre post he off (List.replicate (q+1) te'.zero).flatten oM
 rw [hlen,hcs] at r'
 exact hK _ _ (h W0 β a _ r')
end
def colIx (cs:List ColT) (nm:List UInt8):Option Nat:=cs.findIdx? fun c=>decide (c.name=nm)
theorem colIx_hit {cs:List ColT} {i:Nat} {c:ColT} {nm:List UInt8} (hc:cs[i]?=some c) (h:c.name=nm) (hall:((cs.take i).all fun d=>decide (d.name≠nm))=true):colIx cs nm=some i:=by
 unfold colIx
 rw [List.findIdx?_eq_some_iff_getElem]
 obtain ⟨hl,rfl⟩:=List.getElem?_eq_some_iff.1 hc
 refine ⟨hl,decide_eq_true h,fun j hj=>?_⟩
 have:=of_decide_eq_true (List.all_eq_true.1 hall (cs[j]) (List.mem_take_iff_getElem.2 ⟨j,by omega,rfl⟩))
 rw [decide_eq_false this];decide
theorem colIx_miss {cs:List ColT} {nm:List UInt8} (hall:(cs.all fun d=>decide (d.name≠nm))=true):colIx cs nm=none:=by
 unfold colIx
 rw [List.findIdx?_eq_none_iff]
 intro x hx
 exact decide_eq_false (of_decide_eq_true (List.all_eq_true.1 hall x hx))
set_option maxHeartbeats 8000000 in
theorem columnIx_pc {H:Hp} {u v:Value} {cs:List ColT} {rows:List (List CellT)} (hu:ColL H u cs) (hv:PRows H v rows) (nm:List UInt8) (hl:cs.length≤1000000):PC prog 23 #[.agg #[u,v],strV nm] H fun r _=>r=.tuple #[.int .i64 (((colIx cs nm).getD 0:Nat):Int),.bool (colIx cs nm).isSome]:=by
 obtain ⟨ccs,hcc,hcl⟩:=hu
 obtain ⟨ua,uc,rfl⟩:=SlC.val hcl
 obtain ⟨va,vc,rfl⟩:=LR.val hv
 refine BD func23 ntmps23 ?_
 try refine RUN ?_
 refine EV.loopK (ι:=Nat) [1,9,10] [] (fun i=>[(11,.v (.int .i64 (i:Int)))]) (fun _=>[]) (fun _=>[]) (fun i _=>i≤cs.length∧((cs.take i).all fun d=>decide (d.name≠nm))=true) (fun i=>cs.length-i) (0) rfl rfl ⟨rfl,trivial⟩ trivial rfl (fun _=>rfl) (⟨Nat.zero_le _,rfl⟩) ?_
 rintro i G1 hG1 ⟨hi,hall⟩
 try refine RUN ?_
 refine EV.cond rfl (fun hlt=>?_) (fun hlt=>?_)
 ·simp only [nN] at hlt
  obtain ⟨c,hc⟩:∃ c,cs[i]?=some c:=⟨_,List.getElem?_eq_getElem hlt⟩
  obtain ⟨cc,hcut,na,nn,_,rfl⟩:=(hcc.mono SCol.ok hG1).get SCol.ok hc
  try refine RUN ?_
  refine EVL.idxM tO rfl rfl rfl rfl rfl rfl rfl rfl rfl ((hcl.mono hG1)) (i) (rfl) (hlt) (hcut) ?_
  try refine RUN ?_
  rw [sb_eqb]
  by_cases e:c.name=nm
  ·rw [decide_eq_true e]
   try refine RUN ?_
   rw [colIx_hit hc e hall];rfl
  ·rw [decide_eq_false e]
   try refine RUN ?_
   rw [wi_inc i (by omega)]
   exact ⟨i+1,⟨rfl,trivial⟩,sB,trivial,sB,rfl,⟨hlt,by rw [take_snoc hc,List.all_append,hall,List.all_cons,decide_eq_true e];rfl⟩,Hp.Le.refl _,by omega⟩
 simp only [nN] at hlt
 obtain rfl:i=cs.length:=by omega
 rw [List.take_length] at hall
 try refine RUN ?_
 rw [colIx_miss hall];rfl
def cellAt (r:List CellT) (k:Nat):CellT:=r.getD k ⟨false,0,0⟩
def lackK (rows:List (List CellT)) (k:Nat):Bool:=rows.any fun r=>(cellAt r k).lacks
def numsK (rows:List (List CellT)) (k:Nat):List Rat:=rows.map fun r=>(cellAt r k).q
def wordsK (rows:List (List CellT)) (k:Nat):List Int:=rows.map fun r=>((cellAt r k).word:Int)
theorem take1_snoc {α:Type} (f:List CellT→α) {rows:List (List CellT)} {i:Nat} {x:List CellT} (h:rows[i]?=some x):(rows.take (i+1)).map f=(rows.take i).map f++[f x]:=by rw [take_snoc h,List.map_append,List.map_singleton]
theorem lackK_snoc {rows:List (List CellT)} {i k:Nat} {x:List CellT} (h:rows[i]?=some x):lackK (rows.take (i+1)) k=(lackK (rows.take i) k || (cellAt x k).lacks):=by unfold lackK;rw [take_snoc h,List.any_append,List.any_cons,List.any_nil,Bool.or_false]
theorem lackK_mem {rows:List (List CellT)} {i k:Nat} {x:List CellT} (h:rows[i]?=some x) (hx:(cellAt x k).lacks=true):lackK rows k=true:=List.any_eq_true.2 ⟨x,List.mem_of_getElem? h,hx⟩
theorem OwnL.room {e:TypeId} {size c b:Nat} {z:List Value} (hz:z.length=size) (hm:c≤1000000000):OwnL e size (.slice (some ⟨b,0,none⟩) 0 c) 0 [] [(b,e,(List.replicate c z).flatten)] :=
 ⟨by simp,.inr ⟨b,c,_,rfl,rfl,by simp [hz],Nat.zero_le _,by simp only [maxLen];omega⟩⟩
inductive KolAns {α:Type} (R:Hp→Value→List α→Prop) (kind:Nat) (f:List (List CellT)→Nat→List α) (cs:List ColT) (rows:List (List CellT)) (at':Int) (r:Value) (G:Hp):Prop
 | out (h:at'<0∨(cs.length:Int)≤at') (e:r=.tuple #[.slice none 0 0,.int .i64 1])
 | other (k:Nat) (c:ColT) (h:at'=(k:Int)) (hc:cs[k]?=some c) (hk:c.kind≠kind) (e:r=.tuple #[.slice none 0 0,.int .i64 10])
 | lacks (k:Nat) (c:ColT) (h:at'=(k:Int)) (hc:cs[k]?=some c) (hk:c.kind=kind) (hl:lackK rows k=true) (e:r=.tuple #[.slice none 0 0,.int .i64 20])
 | full (k:Nat) (c:ColT) (h:at'=(k:Int)) (hc:cs[k]?=some c) (hk:c.kind=kind) (hl:lackK rows k=false) (w:Value) (e:r=.tuple #[w,.int .i64 0]) (hw:R G w (f rows k))
theorem Numbers1_pc {H:Hp} (x:CellT):PC prog 107 #[.agg (cellC x).toArray] H fun r _=>r=fracV x.q:=by
 refine BD func107 ntmps107 ?_
 try refine RUN ?_
 rfl
theorem Choices1_pc {H:Hp} (x:CellT):PC prog 109 #[.agg (cellC x).toArray] H fun r _=>r=.int .i64 (x.word:Int):=by
 refine BD func109 ntmps109 ?_
 try refine RUN ?_
 try rfl
set_option maxRecDepth 100000 in
set_option maxHeartbeats 32000000 in
theorem colQ_pc {H:Hp} {u v:Value} {cs:List ColT} {rows:List (List CellT)} (hu:ColL H u cs) (hv:PRows H v rows) (ok:ShOk cs rows) (at':Int):PC prog 106 #[.agg #[u,v],.int .i64 at',.int .i64 1,.func (.func 107) #[] #[]] H fun r G=>KolAns QL 1 numsK cs rows at' r G:=by
 have hck:=check_pc hu hv ok.ck
 rw [ok.check] at hck
 have hnr:=ok.nrows
 obtain ⟨ccs,hcc,hcl⟩:=hu
 obtain ⟨ua,uc,rfl⟩:=SlC.val hcl
 obtain ⟨dcs,hcs,hsl⟩:=hv
 obtain ⟨va,vc,rfl⟩:=SlC.val hsl
 refine BD func106 ntmps106 ?_
 try refine RUN ?_
 refine EVL.call rfl rfl rfl rfl rfl (hck) ?_
 rintro _ G0 rfl hG0
 try refine RUN ?_
 by_cases c1:at'<0
 ·rw [decide_eq_true c1]
  try refine RUN ?_
  exact .out (.inl c1) rfl
 rw [decide_eq_false c1]
 try refine RUN ?_
 by_cases c2:at'≥(cs.length:Int)
 ·rw [decide_eq_true c2]
  try refine RUN ?_
  exact .out (.inr c2) rfl
 rw [decide_eq_false c2]
 obtain ⟨k,rfl⟩:=Int.eq_ofNat_of_zero_le (show 0≤at' by omega)
 have hk:k<cs.length:=by omega
 obtain ⟨c,hc⟩:∃ c,cs[k]?=some c:=⟨_,List.getElem?_eq_getElem hk⟩
 obtain ⟨cc,hcut,hcol⟩:=(hcc.mono SCol.ok hG0).get SCol.ok hc
 obtain ⟨na,nn,_,rfl⟩:=hcol
 try refine RUN ?_
 refine EVL.idxM tO rfl rfl rfl rfl rfl rfl rfl rfl rfl ((hcl.mono hG0)) (k) (rfl) (hk) (hcut) ?_
 try refine RUN ?_
 by_cases c3:c.kind=1
 case neg =>
  rw [show ((c.kind:Int) != 1)=true from bne_iff_ne.2 (by omega)]
  try refine RUN ?_
  exact .other k c rfl hc c3 rfl
 rw [show ((c.kind:Int) != 1)=false from bne_eq_false_iff_eq.2 (by omega)]
 try refine RUN ?_
 refine EVL.make2 tO rfl rfl rfl rfl rfl rfl rfl rfl rfl 0 rows.length rfl rfl (Nat.zero_le _) oM rfl rfl fun b=>?_
 try refine RUN ?_
 refine EV.loopK (ι:=Nat × Value × Ows) [1,3,41,42] [] (fun q=>[(11,.v q.2.1),(43,.v (.int .i64 (q.1:Int)))]) (fun _=>[]) (fun q=>q.2.2) (fun q _=>q.1≤rows.length∧OwnL 79 5 q.2.1 q.1 (cellsQ (numsK (rows.take q.1) k)) q.2.2∧lackK (rows.take q.1) k=false) (fun q=>rows.length-q.1) ((0,.slice (some ⟨b,0,none⟩) 0 rows.length,[(b,_,_)])) rfl rfl ⟨rfl,rfl,trivial⟩ trivial rfl (fun _=>rfl) (⟨Nat.zero_le _,OwnL.room rfl oM,rfl⟩) ?_
 rintro ⟨i,w,ow⟩ G1 hG1 ⟨hi,hown,hlk⟩
 dsimp only at hi hown hlk
 have hG01:=hG0.trans hG1
 obtain ⟨oa,oc,rfl⟩:=hown.val
 try refine RUN ?_
 refine EV.cond rfl (fun hlt=>?_) (fun hlt=>?_)
 ·simp only [nN] at hlt
  obtain ⟨row,hrow⟩:∃ x,rows[i]?=some x:=⟨_,List.getElem?_eq_getElem hlt⟩
  obtain ⟨rc,hrcut,rv,rfl,hrr⟩:=(hcs.mono PRows.ok hG01).get PRows.ok hrow
  have hwd:=ok.wide row (List.mem_of_getElem? hrow)
  obtain ⟨ecs,hes,hel⟩:=hrr
  obtain ⟨ra,rn,rfl⟩:=SlC.val hel
  obtain ⟨x,hx⟩:∃ x,row[k]?=some x:=⟨_,List.getElem?_eq_getElem oM⟩
  obtain ⟨xc,hxcut,rfl⟩:=hes.get PCell.ok hx
  have hxa:cellAt row k=x:=by unfold cellAt;rw [List.getD_eq_getElem?_getD,hx];rfl
  have hff:=Numbers1_pc (H:=G1) x
  try refine RUN ?_
  refine EVL.idxM tO rfl rfl rfl rfl rfl rfl rfl rfl rfl ((hsl.mono hG01)) (i) (rfl) (hlt) (hrcut) ?_
  try refine RUN ?_
  refine EVL.idxM tO rfl rfl rfl rfl rfl rfl rfl rfl rfl (hel) (k) (rfl) (oM) (hxcut) ?_
  try refine RUN ?_
  cases hxl:x.lacks with
  | true =>
   try refine RUN ?_
   exact .lacks k c rfl hc c3 (lackK_mem hrow (by rw [hxa];exact hxl)) rfl
  | false =>
   try refine RUN ?_
   refine EVL.idxM tO rfl rfl rfl rfl rfl rfl rfl rfl rfl (hel) (k) (rfl) (oM) (hxcut) ?_
   try refine RUN ?_
   refine EVL.callC (cs:=[]) rfl rfl rfl rfl rfl rfl (hff) ?_
   rintro _ G2 rfl hG2
   try refine RUN ?_
   refine EVL.app1 tO rfl rfl rfl rfl rfl rfl rfl rfl rfl rfl rfl rfl rfl rfl rfl rfl rfl rfl rfl (fun _=>rfl) (ow) ([]) ((List.append_nil _).symm) (hown) oM fun _=>?_
   intro v' ow' hown'
   obtain ⟨wa,wc,rfl⟩:=hown'.val
   try refine RUN ?_
   rw [wi_inc i (by omega)]
   exact ⟨(i+1,.slice wa (i+1) wc,ow'),⟨rfl,rfl,trivial⟩,sB,trivial,sB,List.append_nil _,⟨hlt,by dsimp only;unfold cellsQ numsK;rw [take1_snoc _ hrow,hxa,List.flatMap_append];exact hown',by dsimp only;rw [lackK_snoc hrow,hlk,hxa,hxl];rfl⟩,hG2,by dsimp only;omega⟩
 simp only [nN] at hlt
 obtain rfl:i=rows.length:=by omega
 rw [List.take_length] at hown hlk
 (first | refine EVL.publishL [] ow [] ((List.append_nil _).symm) hown fun G3 hG3 hs3=>?_ | refine EV.publishL [] ow [] ((List.append_nil _).symm) hown fun G3 hG3 hs3=>?_)
 try refine RUN ?_
 exact .full k c rfl hc c3 hlk _ rfl (by show SlC _ _ (numsK rows k).length _ _;unfold numsK;rw [List.length_map];exact hs3)
theorem Numbers_pc {H:Hp} {u v:Value} {cs:List ColT} {rows:List (List CellT)} (hu:ColL H u cs) (hv:PRows H v rows) (ok:ShOk cs rows) (at':Int):PC prog 60 #[.agg #[u,v],.int .i64 at'] H fun r G=>KolAns QL 1 numsK cs rows at' r G:=by
 have hff:=colQ_pc hu hv ok at'
 obtain ⟨_,_,rfl⟩:=hu.val
 obtain ⟨_,_,rfl⟩:=LR.val hv
 refine BD func60 ntmps60 ?_
 try refine RUN ?_
 refine EVL.call rfl rfl rfl rfl rfl (hff) ?_
 intro r G ha hG
 cases ha with
 | out h e=>subst e;(try refine RUN ?_);exact .out h rfl
 | other k c h hc hk e=>subst e;(try refine RUN ?_);exact .other k c h hc hk rfl
 | lacks k c h hc hk hl e=>subst e;(try refine RUN ?_);exact .lacks k c h hc hk hl rfl
 | full k c h hc hk hl w e hw =>
  subst e
  obtain ⟨_,_,rfl⟩:=SlC.val hw
  try refine RUN ?_
  exact .full k c h hc hk hl _ rfl hw
set_option maxRecDepth 100000 in
set_option maxHeartbeats 32000000 in
theorem colI_pc {H:Hp} {u v:Value} {cs:List ColT} {rows:List (List CellT)} (hu:ColL H u cs) (hv:PRows H v rows) (ok:ShOk cs rows) (at':Int):PC prog 108 #[.agg #[u,v],.int .i64 at',.int .i64 2,.func (.func 109) #[] #[]] H fun r G=>KolAns IL 2 wordsK cs rows at' r G:=by
 have hck:=check_pc hu hv ok.ck
 rw [ok.check] at hck
 have hnr:=ok.nrows
 obtain ⟨ccs,hcc,hcl⟩:=hu
 obtain ⟨ua,uc,rfl⟩:=SlC.val hcl
 obtain ⟨dcs,hcs,hsl⟩:=hv
 obtain ⟨va,vc,rfl⟩:=SlC.val hsl
 refine BD func108 ntmps108 ?_
 try refine RUN ?_
 refine EVL.call rfl rfl rfl rfl rfl (hck) ?_
 rintro _ G0 rfl hG0
 try refine RUN ?_
 by_cases c1:at'<0
 ·rw [decide_eq_true c1]
  try refine RUN ?_
  exact .out (.inl c1) rfl
 rw [decide_eq_false c1]
 try refine RUN ?_
 by_cases c2:at'≥(cs.length:Int)
 ·rw [decide_eq_true c2]
  try refine RUN ?_
  exact .out (.inr c2) rfl
 rw [decide_eq_false c2]
 obtain ⟨k,rfl⟩:=Int.eq_ofNat_of_zero_le (show 0≤at' by omega)
 have hk:k<cs.length:=by omega
 obtain ⟨c,hc⟩:∃ c,cs[k]?=some c:=⟨_,List.getElem?_eq_getElem hk⟩
 obtain ⟨cc,hcut,hcol⟩:=(hcc.mono SCol.ok hG0).get SCol.ok hc
 obtain ⟨na,nn,_,rfl⟩:=hcol
 try refine RUN ?_
 refine EVL.idxM tO rfl rfl rfl rfl rfl rfl rfl rfl rfl ((hcl.mono hG0)) (k) (rfl) (hk) (hcut) ?_
 try refine RUN ?_
 by_cases c3:c.kind=2
 case neg =>
  rw [show ((c.kind:Int) != 2)=true from bne_iff_ne.2 (by omega)]
  try refine RUN ?_
  exact .other k c rfl hc c3 rfl
 rw [show ((c.kind:Int) != 2)=false from bne_eq_false_iff_eq.2 (by omega)]
 try refine RUN ?_
 refine EVL.make2 tO rfl rfl rfl rfl rfl rfl rfl rfl rfl 0 rows.length rfl rfl (Nat.zero_le _) oM rfl rfl fun b=>?_
 try refine RUN ?_
 refine EV.loopK (ι:=Nat × Value × Ows) [1,3,41,42] [] (fun q=>[(11,.v q.2.1),(43,.v (.int .i64 (q.1:Int)))]) (fun _=>[]) (fun q=>q.2.2) (fun q _=>q.1≤rows.length∧OwnL 3 1 q.2.1 q.1 (List.map iv (wordsK (rows.take q.1) k)) q.2.2∧lackK (rows.take q.1) k=false) (fun q=>rows.length-q.1) ((0,.slice (some ⟨b,0,none⟩) 0 rows.length,[(b,_,_)])) rfl rfl ⟨rfl,rfl,trivial⟩ trivial rfl (fun _=>rfl) (⟨Nat.zero_le _,OwnL.room rfl oM,rfl⟩) ?_
 rintro ⟨i,w,ow⟩ G1 hG1 ⟨hi,hown,hlk⟩
 dsimp only at hi hown hlk
 have hG01:=hG0.trans hG1
 obtain ⟨oa,oc,rfl⟩:=hown.val
 try refine RUN ?_
 refine EV.cond rfl (fun hlt=>?_) (fun hlt=>?_)
 ·simp only [nN] at hlt
  obtain ⟨row,hrow⟩:∃ x,rows[i]?=some x:=⟨_,List.getElem?_eq_getElem hlt⟩
  obtain ⟨rc,hrcut,rv,rfl,hrr⟩:=(hcs.mono PRows.ok hG01).get PRows.ok hrow
  have hwd:=ok.wide row (List.mem_of_getElem? hrow)
  obtain ⟨ecs,hes,hel⟩:=hrr
  obtain ⟨ra,rn,rfl⟩:=SlC.val hel
  obtain ⟨x,hx⟩:∃ x,row[k]?=some x:=⟨_,List.getElem?_eq_getElem oM⟩
  obtain ⟨xc,hxcut,rfl⟩:=hes.get PCell.ok hx
  have hxa:cellAt row k=x:=by unfold cellAt;rw [List.getD_eq_getElem?_getD,hx];rfl
  have hff:=Choices1_pc (H:=G1) x
  try refine RUN ?_
  refine EVL.idxM tO rfl rfl rfl rfl rfl rfl rfl rfl rfl ((hsl.mono hG01)) (i) (rfl) (hlt) (hrcut) ?_
  try refine RUN ?_
  refine EVL.idxM tO rfl rfl rfl rfl rfl rfl rfl rfl rfl (hel) (k) (rfl) (oM) (hxcut) ?_
  try refine RUN ?_
  cases hxl:x.lacks with
  | true =>
   try refine RUN ?_
   exact .lacks k c rfl hc c3 (lackK_mem hrow (by rw [hxa];exact hxl)) rfl
  | false =>
   try refine RUN ?_
   refine EVL.idxM tO rfl rfl rfl rfl rfl rfl rfl rfl rfl (hel) (k) (rfl) (oM) (hxcut) ?_
   try refine RUN ?_
   refine EVL.callC (cs:=[]) rfl rfl rfl rfl rfl rfl (hff) ?_
   rintro _ G2 rfl hG2
   try refine RUN ?_
   refine EVL.app1 tO rfl rfl rfl rfl rfl rfl rfl rfl rfl rfl rfl rfl rfl rfl rfl rfl rfl rfl rfl (fun _=>rfl) (ow) ([]) ((List.append_nil _).symm) (hown) oM fun _=>?_
   intro v' ow' hown'
   obtain ⟨wa,wc,rfl⟩:=hown'.val
   try refine RUN ?_
   rw [wi_inc i (by omega)]
   exact ⟨(i+1,.slice wa (i+1) wc,ow'),⟨rfl,rfl,trivial⟩,sB,trivial,sB,List.append_nil _,⟨hlt,by dsimp only;unfold  wordsK;rw [take1_snoc _ hrow,hxa,List.map_append,List.map_singleton];exact hown',by dsimp only;rw [lackK_snoc hrow,hlk,hxa,hxl];rfl⟩,hG2,by dsimp only;omega⟩
 simp only [nN] at hlt
 obtain rfl:i=rows.length:=by omega
 rw [List.take_length] at hown hlk
 (first | refine EVL.publishL [] ow [] ((List.append_nil _).symm) hown fun G3 hG3 hs3=>?_ | refine EV.publishL [] ow [] ((List.append_nil _).symm) hown fun G3 hG3 hs3=>?_)
 try refine RUN ?_
 exact .full k c rfl hc c3 hlk _ rfl (by show SlC _ _ (wordsK rows k).length _ _;unfold wordsK;rw [List.length_map];exact hs3)
theorem Choices_pc {H:Hp} {u v:Value} {cs:List ColT} {rows:List (List CellT)} (hu:ColL H u cs) (hv:PRows H v rows) (ok:ShOk cs rows) (at':Int):PC prog 61 #[.agg #[u,v],.int .i64 at'] H fun r G=>KolAns IL 2 wordsK cs rows at' r G:=by
 have hff:=colI_pc hu hv ok at'
 obtain ⟨_,_,rfl⟩:=hu.val
 obtain ⟨_,_,rfl⟩:=LR.val hv
 refine BD func61 ntmps61 ?_
 try refine RUN ?_
 refine EVL.call rfl rfl rfl rfl rfl (hff) ?_
 intro r G ha hG
 cases ha with
 | out h e=>subst e;(try refine RUN ?_);exact .out h rfl
 | other k c h hc hk e=>subst e;(try refine RUN ?_);exact .other k c h hc hk rfl
 | lacks k c h hc hk hl e=>subst e;(try refine RUN ?_);exact .lacks k c h hc hk hl rfl
 | full k c h hc hk hl w e hw =>
  subst e
  obtain ⟨_,_,rfl⟩:=SlC.val hw
  try refine RUN ?_
  exact .full k c h hc hk hl _ rfl hw
theorem clear_cut {A D sp Z:List Value} {a s:Nat} (hA:A.length=a) (hD:D.length=s):(A++(D++sp)).take a++Z++(A++(D++sp)).drop (a+s)=A++(Z++sp):=by
 subst hA hD
 rw [List.take_left,← List.drop_drop,List.drop_left,List.drop_left,List.append_assoc]
theorem oneB_drop:∀ {l:List Value},oneB l=true→∀ k:Nat,oneB (l.drop k)=true
 | l,h,0=>h
 | [],_,_+1=>rfl
 | x::l,h,k+1=>by
  rw [List.drop_succ_cons]
  refine oneB_drop ?_ k
  simp only [oneB,Bool.and_eq_true] at h
  exact h.2
section
variable {P:Program} {n:Nat} {ops:Array Oper} {o:Oper} {rest:List Oper} {env:Env} {bx:Bxs} {H:Hs} {Q:EQ} {τ:Tab} {d:Nat}
theorem EVL.slc3 (hτ:TabOk P τ) {T:TypeId} {x y y' z:Operand} (ho:o.op=.slice T x (some y) (some y') (some z)) (hw:wantB ops env o=some true) (hd:o.dst=some d) (hn:Nat.blt d n=true) {te te':TE} {e:TypeId} (ht:τ.get T=some te) (hk:te.kind=.slice e) (ht':τ.get e=some te')
  {a:Option Addr} {m cap:Nat} (hx:env.op x=some (.v (.slice a m cap))) {k k' k'':IntKind} {zl zh zm:Int} (hy:env.op y=some (.v (.int k zl))) (hy':env.op y'=some (.v (.int k' zh))) (hz:env.op z=some (.v (.int k'' zm))) (l h mx:Nat) (hlh:l≤h) (hhm:h≤mx) (hmc:mx≤cap) (el:zl=(l:Int)) (eh:zh=(h:Int)) (em:zm=(mx:Int))
  (hk':EVL P n ops rest ((d,.v (.slice (if mx=l then a else a.map (·.add (l*te'.size))) (h-l) (mx-l)))::env) bx H Q):EVL P n ops (o::rest) env bx H Q :=
 EVL.gen hw hd hn (fun ev W he=>by
  have hkd:=(hτ.get ht).kind
  rw [hk] at hkd
  have hkd':P.underlying T=some (.slice e):=hkd
  have h1:ev x=.slice a m cap:=he x _ (by simp [ho,Op.operands]) hx
  have h2:ev y=.int k l:=by rw [← el];exact he y _ (by simp [ho,Op.operands]) hy
  have h3:ev y'=.int k' h:=by rw [← eh];exact he y' _ (by simp [ho,Op.operands]) hy'
  have h4:ev z=.int k'' mx:=by rw [← em];exact he z _ (by simp [ho,Op.operands]) hz
  unfold execOp
  simp only [ho,Instr.sliceAt,h1,Option.map_some]
  simp [run_underlying hkd',Instr.slice,Instr.sliceBounds,Instr.sliceBound,h2,h3,h4,asIntOf,(hτ.get ht').size,hhm,hlh,hmc]) hk'
end
set_option maxRecDepth 100000 in
set_option maxHeartbeats 16000000 in
theorem deleteCol_pw {H:Hp} {v:Value} {L:Ows} {n i:Nat} {xs:List Value} (hown:OwnL 83 3 v n xs L) (hi:i<n) (hn:n≤1000000) (h1:oneB xs=true):PW prog 110 #[v,.int .i64 (i:Int),.int .i64 ((i+1:Nat):Int)] H L fun r ow _=>OwnL 83 3 r (n-1) (xs.take (i*3)++xs.drop ((i+1)*3)) ow:=by
 obtain ⟨g,cap,sp,rfl,rfl,hlen,hcap,hmax⟩:=hown.block oM
 have hx:=hown.1
 rw [List.length_append] at hlen
 have hys:(xs.drop ((i+1)*3)).length=(n-(i+1))*3:=by rw [List.length_drop];omega
 have hone:oneB (xs.drop ((i+1)*3))=true:=oneB_drop h1 _
 refine PW.body tO func110 rfl kR ntmps110 rfl rfl ?_
 try refine RUN ?_
 refine EVL.slc3 (te':=Tryz.te83) tO rfl rfl rfl rfl rfl rfl rfl rfl rfl rfl rfl i (i+1) n (Nat.le_succ i) hi hcap rfl rfl rfl ?_
 try refine RUN ?_
 rw [show ((i:Int) == ((i+1:Nat):Int))=false from beq_eq_false_iff_ne.2 (by omega)]
 try refine RUN ?_
 apply EV.drawn 6 kR kR;intro xv yw
 (repeat refine' DD ?_)
 refine' DJ.ofVal (ValOk.sliceV (te':=Tryz.te83) (a:=some ⟨g,0,none⟩) (m:=n) (cap:=cap) tO rfl rfl rfl rfl rfl rfl 0 i (.inl ⟨rfl,rfl⟩) (.inr ⟨_,IntKind.i64,rfl,rfl⟩) (Nat.zero_le _) oM hcap) rfl rfl rfl ?_;rotate_left
 (repeat refine' DD ?_)
 refine' DJ.ofVal (ValOk.sliceV (te':=Tryz.te83) (a:=some ⟨g,0,none⟩) (m:=n) (cap:=cap) tO rfl rfl rfl rfl rfl rfl (i+1) n (.inr ⟨_,IntKind.i64,rfl,rfl⟩) (.inl ⟨rfl,rfl⟩) oM oM hcap) rfl rfl rfl ?_;rotate_left
 (repeat refine' DD ?_)
 (refine DJ.nil (fun G2 hG2 hF2=>?_);(case hS|hS2=>rfl))
 have e1:(if cap=0 then (some ⟨g,0,none⟩:Option Addr) else Option.map (fun x:Addr=>x.add (0*3)) (some (⟨g,0,none⟩:Addr)))=some ⟨g,0,none⟩:=by
  split
  ·rfl
  ·rfl
 have e2:(if cap=i+1 then (some ⟨g,0,none⟩:Option Addr) else Option.map (fun x:Addr=>x.add ((i+1)*3)) (some (⟨g,0,none⟩:Addr)))=some ⟨g,if cap=i+1 then 0 else (i+1)*3,none⟩:=by
  split
  ·rfl
  ·show some (Addr.add ⟨g,0,none⟩ ((i+1)*3))=_
   rw [Addr.add_mid,Nat.zero_add]
 refine EVL.appendIn tO rfl rfl rfl rfl rfl rfl rfl (congrArg (fun a=>some (SV.v (.slice a (i-0) (cap-0)))) e1) (congrArg (fun a=>some (SV.v (.slice a (n-(i+1)) (cap-(i+1))))) e2) [] [] rfl (m1:=i-0) (cap:=cap-0) (m2:=n-(i+1)) (ys:=xs.drop ((i+1)*3)) (u:=.slice (some ⟨g,if cap=i+1 then 0 else (i+1)*3,none⟩) (n-(i+1)) (cap-(i+1))) ⟨hys,g,_,_,rfl,.inl ⟨0,83,xs++sp,rfl,fun q x hq=>?_⟩⟩ hone oM (by rw [List.length_append];show (i-0+(n-(i+1)))*3≤_;omega) (cs':=xs.take (i*3)++xs.drop ((i+1)*3)++(xs.drop ((n-1)*3)++sp)) ?_ ?_
 ·have hq2:=(List.getElem?_eq_some_iff.1 hq).1
  rw [hys] at hq2
  rw [if_neg (by omega)]
  rw [List.getElem?_drop] at hq
  rw [List.getElem?_append_left (List.getElem?_eq_some_iff.1 hq).1]
  exact hq
 ·show List.take ((i-0)*3) _++_++List.drop ((i-0+(n-(i+1)))*3) _=_
  rw [show i-0+(n-(i+1))=n-1 by omega,Nat.sub_zero,List.take_append_of_le_length oM,List.drop_append_of_le_length (by omega)]
 have hA:(xs.take (i*3)++xs.drop ((i+1)*3)).length=(n-1)*3:=by rw [List.length_append,List.length_take,hys];omega
 have hB:(xs.drop ((n-1)*3)).length=3:=by rw [List.length_drop];omega
 rw [show i-0+(n-(i+1))=n-1 by omega,Nat.sub_zero]
 try refine RUN ?_
 refine EVL.slc (te':=Tryz.te83) tO rfl rfl rfl rfl rfl rfl rfl rfl (n-1) n (.inr ⟨_,IntKind.i64,rfl,rfl⟩) (.inr ⟨_,IntKind.i64,rfl,rfl⟩) oM hcap oM ?_
 rw [if_neg (show ¬ cap=n-1 by omega)]
 refine EVL.clear tO rfl rfl rfl rfl rfl rfl rfl rfl (b:=g) (off:=0+(n-1)*3) (m:=n-(n-1)) (cap:=cap-(n-1)) (by show some (SV.v (.slice (some (Addr.add ⟨g,0,none⟩ ((n-1)*3))) _ _))=_;rw [Addr.add_mid]) oM [] [] rfl (by rw [List.length_append,hA,List.length_append,hB];show 0+(n-1)*3+(n-(n-1))*3≤_;omega) (cs':=(xs.take (i*3)++xs.drop ((i+1)*3))++((List.replicate 1 (Tryz.te83).zero).flatten++sp)) ?_ ?_
 ·show List.take (0+(n-1)*3) _++_++List.drop (0+(n-1)*3+(n-(n-1))*3) _=_
  rw [show n-(n-1)=1 by omega,Nat.zero_add]
  exact clear_cut hA hB
 try refine RUN ?_
 exact ⟨hA,.inr ⟨g,cap,_,rfl,rfl,by rw [List.length_append,hA,List.length_append];show (n-1)*3+(3+sp.length)=_;omega,by omega,hmax⟩⟩
set_option maxRecDepth 100000 in
set_option maxHeartbeats 16000000 in
theorem deleteCell_pw {H:Hp} {v:Value} {L:Ows} {n i:Nat} {xs:List Value} (hown:OwnL 81 7 v n xs L) (hi:i<n) (hn:n≤1000000) (h1:oneB xs=true):PW prog 111 #[v,.int .i64 (i:Int),.int .i64 ((i+1:Nat):Int)] H L fun r ow _=>OwnL 81 7 r (n-1) (xs.take (i*7)++xs.drop ((i+1)*7)) ow:=by
 obtain ⟨g,cap,sp,rfl,rfl,hlen,hcap,hmax⟩:=hown.block oM
 have hx:=hown.1
 rw [List.length_append] at hlen
 have hys:(xs.drop ((i+1)*7)).length=(n-(i+1))*7:=by rw [List.length_drop];omega
 have hone:oneB (xs.drop ((i+1)*7))=true:=oneB_drop h1 _
 refine PW.body tO func111 rfl kR ntmps111 rfl rfl ?_
 try refine RUN ?_
 refine EVL.slc3 (te':=Tryz.te81) tO rfl rfl rfl rfl rfl rfl rfl rfl rfl rfl rfl i (i+1) n (Nat.le_succ i) hi hcap rfl rfl rfl ?_
 try refine RUN ?_
 rw [show ((i:Int) == ((i+1:Nat):Int))=false from beq_eq_false_iff_ne.2 (by omega)]
 try refine RUN ?_
 apply EV.drawn 6 kR kR;intro xv yw
 (repeat refine' DD ?_)
 refine' DJ.ofVal (ValOk.sliceV (te':=Tryz.te81) (a:=some ⟨g,0,none⟩) (m:=n) (cap:=cap) tO rfl rfl rfl rfl rfl rfl 0 i (.inl ⟨rfl,rfl⟩) (.inr ⟨_,IntKind.i64,rfl,rfl⟩) (Nat.zero_le _) oM hcap) rfl rfl rfl ?_;rotate_left
 (repeat refine' DD ?_)
 refine' DJ.ofVal (ValOk.sliceV (te':=Tryz.te81) (a:=some ⟨g,0,none⟩) (m:=n) (cap:=cap) tO rfl rfl rfl rfl rfl rfl (i+1) n (.inr ⟨_,IntKind.i64,rfl,rfl⟩) (.inl ⟨rfl,rfl⟩) oM oM hcap) rfl rfl rfl ?_;rotate_left
 (repeat refine' DD ?_)
 (refine DJ.nil (fun G2 hG2 hF2=>?_);(case hS|hS2=>rfl))
 have e1:(if cap=0 then (some ⟨g,0,none⟩:Option Addr) else Option.map (fun x:Addr=>x.add (0*7)) (some (⟨g,0,none⟩:Addr)))=some ⟨g,0,none⟩:=by
  split
  ·rfl
  ·rfl
 have e2:(if cap=i+1 then (some ⟨g,0,none⟩:Option Addr) else Option.map (fun x:Addr=>x.add ((i+1)*7)) (some (⟨g,0,none⟩:Addr)))=some ⟨g,if cap=i+1 then 0 else (i+1)*7,none⟩:=by
  split
  ·rfl
  ·show some (Addr.add ⟨g,0,none⟩ ((i+1)*7))=_
   rw [Addr.add_mid,Nat.zero_add]
 refine EVL.appendIn tO rfl rfl rfl rfl rfl rfl rfl (congrArg (fun a=>some (SV.v (.slice a (i-0) (cap-0)))) e1) (congrArg (fun a=>some (SV.v (.slice a (n-(i+1)) (cap-(i+1))))) e2) [] [] rfl (m1:=i-0) (cap:=cap-0) (m2:=n-(i+1)) (ys:=xs.drop ((i+1)*7)) (u:=.slice (some ⟨g,if cap=i+1 then 0 else (i+1)*7,none⟩) (n-(i+1)) (cap-(i+1))) ⟨hys,g,_,_,rfl,.inl ⟨0,81,xs++sp,rfl,fun q x hq=>?_⟩⟩ hone oM (by rw [List.length_append];show (i-0+(n-(i+1)))*7≤_;omega) (cs':=xs.take (i*7)++xs.drop ((i+1)*7)++(xs.drop ((n-1)*7)++sp)) ?_ ?_
 ·have hq2:=(List.getElem?_eq_some_iff.1 hq).1
  rw [hys] at hq2
  rw [if_neg (by omega)]
  rw [List.getElem?_drop] at hq
  rw [List.getElem?_append_left (List.getElem?_eq_some_iff.1 hq).1]
  exact hq
 ·show List.take ((i-0)*7) _++_++List.drop ((i-0+(n-(i+1)))*7) _=_
  rw [show i-0+(n-(i+1))=n-1 by omega,Nat.sub_zero,List.take_append_of_le_length oM,List.drop_append_of_le_length (by omega)]
 have hA:(xs.take (i*7)++xs.drop ((i+1)*7)).length=(n-1)*7:=by rw [List.length_append,List.length_take,hys];omega
 have hB:(xs.drop ((n-1)*7)).length=7:=by rw [List.length_drop];omega
 rw [show i-0+(n-(i+1))=n-1 by omega,Nat.sub_zero]
 try refine RUN ?_
 refine EVL.slc (te':=Tryz.te81) tO rfl rfl rfl rfl rfl rfl rfl rfl (n-1) n (.inr ⟨_,IntKind.i64,rfl,rfl⟩) (.inr ⟨_,IntKind.i64,rfl,rfl⟩) oM hcap oM ?_
 rw [if_neg (show ¬ cap=n-1 by omega)]
 refine EVL.clear tO rfl rfl rfl rfl rfl rfl rfl rfl (b:=g) (off:=0+(n-1)*7) (m:=n-(n-1)) (cap:=cap-(n-1)) (by show some (SV.v (.slice (some (Addr.add ⟨g,0,none⟩ ((n-1)*7))) _ _))=_;rw [Addr.add_mid]) oM [] [] rfl (by rw [List.length_append,hA,List.length_append,hB];show 0+(n-1)*7+(n-(n-1))*7≤_;omega) (cs':=(xs.take (i*7)++xs.drop ((i+1)*7))++((List.replicate 1 (Tryz.te81).zero).flatten++sp)) ?_ ?_
 ·show List.take (0+(n-1)*7) _++_++List.drop (0+(n-1)*7+(n-(n-1))*7) _=_
  rw [show n-(n-1)=1 by omega,Nat.zero_add]
  exact clear_cut hA hB
 try refine RUN ?_
 exact ⟨hA,.inr ⟨g,cap,_,rfl,rfl,by rw [List.length_append,hA,List.length_append];show (n-1)*7+(7+sp.length)=_;omega,by omega,hmax⟩⟩
def OwnG {α:Type} (T:TypeId) (s:Nat) (f:α→List Value) (vs:List Value) (es:List (List α)) (ows:List Ows):Prop:=vs.length=es.length∧ows.length=es.length∧∀ (j:Nat) (v:Value) (e:List α) (o:Ows),vs[j]?=some v→es[j]?=some e→ows[j]?=some o→OwnL T s v e.length (e.flatMap f) o
theorem OwnG.none {α:Type} (T:TypeId) (s:Nat) (f:α→List Value):OwnG T s f [] [] []:=⟨rfl,rfl,fun j v e o h=>by cases h⟩
theorem OwnG.snoc {α:Type} {T:TypeId} {s:Nat} {f:α→List Value} {vs:List Value} {es:List (List α)} {ows:List Ows} {v:Value} {e:List α} {o:Ows} (h:OwnG T s f vs es ows) (k:OwnL T s v e.length (e.flatMap f) o):OwnG T s f (vs++[v]) (es++[e]) (ows++[o]):=by
 obtain ⟨h1,h2,h3⟩:=h
 refine ⟨by simp [h1],by simp [h2],fun j v' e' q e1 e2 e3=>?_⟩
 by_cases hj:j<es.length
 ·rw [List.getElem?_append_left (by omega)] at e1 e2 e3
  exact h3 j v' e' q e1 e2 e3
 ·have hl:=(List.getElem?_eq_some_iff.1 e2).1
  rw [List.length_append,List.length_singleton] at hl
  obtain rfl:j=es.length:=by omega
  rw [← h1,List.getElem?_append_right (Nat.le_refl _),Nat.sub_self] at e1
  rw [List.getElem?_append_right (Nat.le_refl _),Nat.sub_self] at e2
  rw [← h2,List.getElem?_append_right (Nat.le_refl _),Nat.sub_self] at e3
  cases e1;cases e2;cases e3
  exact k
theorem OwnG.put {α:Type} {T:TypeId} {s:Nat} {f:α→List Value} {vs:List Value} {es:List (List α)} {A B:List Ows} {o o':Ows} {v':Value} {e':List α} (h:OwnG T s f vs es (A++o::B)) (k:OwnL T s v' e'.length (e'.flatMap f) o'):OwnG T s f (vs.set A.length v') (es.set A.length e') (A++o'::B):=by
 obtain ⟨h1,h2,h3⟩:=h
 refine ⟨by rw [List.length_set,List.length_set];exact h1,by rw [List.length_set];simpa using h2,fun j v e q e1 e2 e3=>?_⟩
 rw [List.getElem?_set] at e1 e2
 by_cases hj:A.length=j
 ·subst hj
  rw [if_pos rfl] at e1 e2
  rw [List.getElem?_append_right (Nat.le_refl _),Nat.sub_self] at e3
  cases e3
  split at e1
  ·split at e2
   ·cases e1;cases e2;exact k
   ·cases e2
  ·cases e1
 ·rw [if_neg hj] at e1 e2
  refine h3 j v e q e1 e2 ?_
  rw [← e3]
  by_cases hl:j<A.length
  ·rw [List.getElem?_append_left hl,List.getElem?_append_left hl]
  ·rw [List.getElem?_append_right oM,List.getElem?_append_right (by omega)]
   obtain ⟨i,hi⟩:∃ i,j-A.length=i+1:=⟨j-A.length-1,by omega⟩
   rw [hi];rfl
def SlG {α:Type} (s:Nat) (f:α→List Value) (H:Hp) (vs:List Value) (es:List (List α)):Prop:=vs.length=es.length∧∀ (j:Nat) (v:Value) (l:List α),vs[j]?=some v→es[j]?=some l→SlC H v l.length s (l.flatMap f)
theorem SlG.mono {α:Type} {s:Nat} {f:α→List Value} {H G:Hp} {vs:List Value} {es:List (List α)} (h:SlG s f H vs es) (k:H.Le G):SlG s f G vs es:=⟨h.1,fun j v l e1 e2=>SlC.mono (h.2 j v l e1 e2) k⟩
theorem EV.pubG {P:Program} {n:Nat} {env:Env} {bx:Bxs} {Q:EQ} {c:Code} {α:Type} {T:TypeId} {s:Nat} {f:α→List Value}:∀ (ows:List Ows) {H:Hs} {vs:List Value} {es:List (List α)} (pre post:Ows),OwnG T s f vs es ows→H.ow=pre++(ows.flatten++post)→(∀ k,k∈H.base.lent→∀ q,q∈ows.flatten→k≠q.1)→(∀ G,H.ro.Le G→SlG s f G vs es→EV P n c env bx ⟨G,pre++post,H.base⟩ Q)→EV P n c env bx H Q
 | [],H,vs,es,pre,post,hm,e,hb,h=>by
  have h0:es=[]:=List.length_eq_zero_iff.1 hm.2.1.symm
  subst h0
  have h1:vs=[]:=List.length_eq_zero_iff.1 hm.1
  subst h1
  have:=h H.ro (Hp.Le.refl _) ⟨rfl,fun j v l e1 _=>by cases e1⟩
  rw [← show H.ow=pre++post from e] at this
  exact this
 | o::ows,H,[],es,pre,post,hm,e,hb,h=>by
  have h1:=hm.1
  have h2:=hm.2.1
  rw [← h1] at h2
  cases h2
 | o::ows,H,v::vs,[],pre,post,hm,e,hb,h=>by have h1:=hm.1;cases h1
 | o::ows,H,v::vs,l::es,pre,post,hm,e,hb,h=>by
  have ho:=hm.2.2 0 v l o rfl rfl rfl
  refine EV.publishL pre o (ows.flatten++post) (by rw [e,List.flatten_cons,List.append_assoc]) ho (fun G hG hc=>?_) (fun k hk q hq=>hb k hk q (by rw [List.flatten_cons];exact List.mem_append_left _ hq))
  refine EV.pubG ows pre post ⟨Nat.succ.inj hm.1,Nat.succ.inj hm.2.1,fun j v' e' o' e1 e2 e3=>hm.2.2 (j+1) v' e' o' e1 e2 e3⟩ rfl (fun k hk q hq=>hb k hk q (by rw [List.flatten_cons];exact List.mem_append_right _ hq)) fun G2 hG2 hs=>h G2 (hG.trans hG2) ⟨by rw [List.length_cons,List.length_cons,hs.1],fun j v' l' e1 e2=>?_⟩
  cases j with
  | zero=>cases e1;cases e2;exact SlC.mono hc hG2
  | succ j=>exact hs.2 j v' l' e1 e2
theorem own_out (X:Nat × TypeId × List Value) (A o B:Ows):List.Perm (X::(A++(o++B))) (o++(X::(A++B))):=((List.perm_append_comm_assoc A o B).cons X).trans List.perm_middle.symm
theorem cellsF:∀ {H:Hp} {css:List (List Value)} {l:List CellT},LsR PCell H css l→css.flatten=l.flatMap cellC
 | H,[],[],_=>rfl
 | H,[],_::_,h=>by have:=h.1;simp at this
 | H,c::css,[],h=>by have:=h.1;simp at this
 | H,c::css,x::l,h=>by
  have hc:c=cellC x:=h.2 0 c x rfl rfl
  rw [List.flatten_cons,List.flatMap_cons,hc,cellsF (H:=H) (css:=css) (l:=l) ⟨by have:=h.1;simpa using this,fun j c' n' e1 e2=>h.2 (j+1) c' n' e1 e2⟩]
theorem flatSing:∀ vs:List Value,(vs.map fun v=>[v]).flatten=vs
 | []=>rfl
 | v::vs=>by rw [List.map_cons,List.flatten_cons,flatSing vs];rfl
theorem SlG.rows {H:Hp} {b:Nat} {vs:List Value} {rows:List (List CellT)} (h:SlG 7 cellC H vs rows) (hb:H b=some vs.toArray) (hl:rows.length≤1000000):PRows H (.slice (some ⟨b,0,none⟩) rows.length rows.length) rows:=by
 refine ⟨vs.map fun v=>[v],⟨by rw [List.length_map];exact h.1,fun j c x e1 e2=>?_⟩,?_⟩
 ·rw [List.getElem?_map] at e1
  obtain ⟨v,hv,rfl⟩:=Option.map_eq_some_iff.1 e1
  refine ⟨v,rfl,x.map cellC,⟨by rw [List.length_map],fun j c y q1 q2=>?_⟩,?_⟩
  ·rw [List.getElem?_map,q2] at q1
   exact (Option.some.inj q1).symm
  ·have:=h.2 j v x hv e2
   rwa [List.flatMap_def] at this
 ·rw [flatSing]
  exact ⟨by rw [h.1,Nat.mul_one],.inr ⟨b,0,_,vs.toArray,rfl,Nat.le_refl _,hb,fun j x hj=>by rw [Nat.zero_add];simpa using hj⟩⟩
set_option maxRecDepth 100000 in
set_option maxHeartbeats 16000000 in
theorem copyColsO_pw {H:Hp} {v:Value} {l:List ColT} (hv:ColL H v l) (h0:0<l.length) (hl:l.length≤1000000) (hw:∀ c,c∈l→c.words.length≤1000000):PW prog 52 #[v] H [] fun r ow G=>∃ ds,LsR SCol G ds l∧OwnL 83 3 r l.length ds.flatten ow:=by
 obtain ⟨css,hcs,hsl⟩:=hv
 have hfl:=flat_lenK (hcs.all SCol.ok)
 have hcl:=hcs.1
 have hcw:=cloneCols_pw hcs hsl h0 hl
 obtain ⟨a,cp,rfl⟩:=SlC.val hsl
 refine PW.body tO func52 rfl kR ntmps52 rfl rfl ?_
 try refine RUN ?_
 refine EVL.callW rfl rfl rfl rfl rfl ([]) ([]) rfl (hcw) ?_
 intro r0 ow0 G0 hown0 hG0
 obtain ⟨g,cap,sp,rfl,rfl,hsame⟩:=hown0.same h0
 try refine RUN ?_
 refine EV.loopK (ι:=Nat × List (List Value)) [3,8] [] (fun q=>[(9,.v (.int .i64 (q.1:Int)))]) (fun _=>[]) (fun q=>[(g,83,q.2.flatten++sp)]) (fun q G=>q.1≤l.length∧LsR SCol G q.2 l) (fun q=>l.length-q.1) ((0,css)) rfl rfl ⟨rfl,trivial⟩ trivial rfl (fun _=>rfl) (⟨Nat.zero_le _,hcs.mono SCol.ok hG0⟩) ?_
 rintro ⟨i,ds⟩ G1 hG1 ⟨hi,hds⟩
 dsimp only at hi hds
 try refine RUN ?_
 refine EV.cond rfl (fun hlt=>?_) (fun hlt=>?_)
 ·simp only [nN] at hlt
  obtain ⟨n,hni⟩:∃ n,l[i]?=some n:=⟨_,List.getElem?_eq_getElem hlt⟩
  have hdl:=hds.1
  have hda:=hds.all SCol.ok
  obtain ⟨A,c,B,rfl,hAl⟩:∃ A c B,ds=A++c::B∧A.length=i:=⟨ds.take i,ds[i]'(by omega),ds.drop (i+1),by rw [List.getElem_cons_drop,List.take_append_drop],by rw [List.length_take];omega⟩
  subst hAl
  obtain ⟨a7,c7,hws,rfl⟩:=hds.2 A.length c n (by rw [List.getElem?_append_right (Nat.le_refl _),Nat.sub_self];rfl) hni
  have hAf:=flat_lenK (fun x hx=>hda x (List.mem_append_left _ hx))
  rw [flat_mid]
  try refine RUN ?_
  refine EVL.idxB tO rfl rfl rfl rfl rfl rfl rfl rfl rfl (A.length) (A.length*3) (rfl) (hlt) (rfl) ?_
  refine EVL.fldB tO rfl rfl rfl rfl rfl rfl rfl ?_
  refine EVL.loadOwn tO rfl rfl rfl rfl rfl rfl (0) rfl ((by rw [row_drop hAf (Nat.le_of_ble_eq_true rfl)])) rfl rfl ?_
  try refine RUN ?_
  refine EVL.call rfl rfl rfl rfl rfl (cloneStr_pc hws (hw n (List.mem_of_getElem? hni))) ?_
  rintro r2 G2 hR hG2
  obtain ⟨a8,c8,rfl⟩:=SlC.val hR
  try refine RUN ?_
  refine EVL.idxB tO rfl rfl rfl rfl rfl rfl rfl rfl rfl (A.length) (A.length*3) (rfl) (hlt) (rfl) ?_
  refine EVL.fldB tO rfl rfl rfl rfl rfl rfl rfl ?_
  refine EVL.storeOwn tO rfl rfl rfl rfl rfl rfl ([]) ([]) rfl rfl rfl rfl ((by rw [List.length_append,hAf,List.length_append];show A.length*3+2+1≤_;simp;omega)) ((row_set hAf rfl rfl (Nat.le_of_ble_eq_true rfl) rfl)) ?_
  try refine RUN ?_
  refine ⟨(A.length+1,A++_::B),⟨by rw [wi_inc A.length (by omega)];rfl,trivial⟩,sB,trivial,sB,by dsimp only;rw [flat_mid];rfl,⟨hlt,(hds.mono SCol.ok hG2).put hni ⟨a8,c8,hR,rfl⟩⟩,hG2,by dsimp only;omega⟩
 ·simp only [nN] at hlt
  have hown:=hsame ds.flatten (by rw [flat_lenK (hds.all SCol.ok),hfl,hds.1,hcl])
  try refine RUN ?_
  exact ⟨ds,hds,hown⟩
theorem cloneCellsO_pw {H:Hp} {v:Value} {l:List CellT} {css:List (List Value)} (hcs:LsR PCell H css l) (h:SlC H v l.length 7 css.flatten) (h0:0<l.length) (hl:l.length≤1000000):PW prog 53 #[v] H [] fun r ow _=>OwnL 81 7 r l.length css.flatten ow:=by
 have hs:=h.2
 rcases hs with ⟨e,_⟩ | ⟨b,off,cap,c,rfl,_⟩
 ·omega
 ·refine PW.body tO func53 rfl kR ntmps53 rfl rfl ?_
  try refine RUN ?_
  refine EVL.eqnil tO rfl rfl rfl rfl rfl rfl rfl ?_
  try refine RUN ?_
  refine EVL.lit0 tO rfl rfl rfl rfl rfl rfl rfl fun g0=>?_
  try refine RUN ?_
  refine EVL.append tO rfl rfl rfl rfl rfl rfl rfl rfl rfl rfl rfl rfl [] [(g0,81,[])] [] rfl (OwnL.full (m:=0) rfl oM) (SrcAt.ro h h0) (cells_one hcs) oM ?_
  intro v1 ow1 hown1
  try refine RUN ?_
  rw [Nat.zero_add] at hown1
  rw [List.append_nil]
  exact hown1
set_option maxRecDepth 100000 in
set_option maxHeartbeats 16000000 in
theorem copiesO_pw {H:Hp} {v:Value} {rows:List (List CellT)} (hv:PRows H v rows) (hl:rows.length≤1000000) (hc:∀ r,r∈rows→0<r.length∧r.length≤1000000):PW prog 55 #[v] H [] fun r ow _=>∃ b vs os,r=.slice (some ⟨b,0,none⟩) rows.length rows.length∧ow=(b,82,vs)::List.flatten os∧OwnG 81 7 cellC vs rows os:=by
 obtain ⟨dcs,hcs,hsl⟩:=hv
 obtain ⟨a,cp,rfl⟩:=SlC.val hsl
 refine PW.body tO func55 rfl kR ntmps55 rfl rfl ?_
 try refine RUN ?_
 refine EVL.make tO rfl rfl rfl rfl rfl rfl rfl rfl rfl (rows.length) (rfl) oM (by rfl) (by rfl) fun b=>?_
 try refine RUN ?_
 (first | refine EVL.swapOw ([(b,82,[]++List.replicate (rows.length-0) (.slice none 0 0))]) ([]) ((by rw [show (Tryz.te82).zero=[Value.slice none 0 0] from rfl,flatRep1];rfl)) ?_ | refine EV.swapOw ([(b,82,[]++List.replicate (rows.length-0) (.slice none 0 0))]) ([]) ((by rw [show (Tryz.te82).zero=[Value.slice none 0 0] from rfl,flatRep1];rfl)) ?_)
 refine EV.loopK (ι:=Nat × List Value × List Ows) [3,9,10] [] (fun q=>[(11,.v (.int .i64 (q.1:Int)))]) (fun _=>[]) (fun q=>(b,82,q.2.1++List.replicate (rows.length-q.1) (.slice none 0 0))::q.2.2.flatten) (fun q _=>q.1≤rows.length∧OwnG 81 7 cellC q.2.1 (rows.take q.1) q.2.2) (fun q=>rows.length-q.1) ((0,[],[])) rfl rfl ⟨rfl,trivial⟩ trivial rfl (fun _=>rfl) (⟨Nat.zero_le _,OwnG.none _ _ _⟩) ?_
 rintro ⟨i,vs,os⟩ G1 hG1 ⟨hi,hds⟩
 dsimp only at hi hds
 have hfl:vs.length=i:=by rw [hds.1,List.length_take,Nat.min_eq_left hi]
 try refine RUN ?_
 refine EV.cond rfl (fun hlt=>?_) (fun hlt=>?_)
 ·simp only [nN] at hlt
  obtain ⟨row,hrow⟩:∃ x,rows[i]?=some x:=⟨_,List.getElem?_eq_getElem hlt⟩
  obtain ⟨cc,hcut,rv,rfl,ecs,hes,hel⟩:=(hcs.mono PRows.ok hG1).get PRows.ok hrow
  obtain ⟨h0,h1m⟩:=hc row (List.mem_of_getElem? hrow)
  have hcw:=cloneCellsO_pw hes hel h0 h1m
  rw [cellsF hes] at hcw
  obtain ⟨ra,rn,rfl⟩:=SlC.val hel
  try refine RUN ?_
  refine EVL.idxM tO rfl rfl rfl rfl rfl rfl rfl rfl rfl ((hsl.mono hG1)) (i) (rfl) (hlt) (hcut) ?_
  try refine RUN ?_
  refine EVL.callW rfl rfl rfl rfl rfl ([]) ((b,82,vs++List.replicate (rows.length-i) (.slice none 0 0))::os.flatten) rfl (hcw) ?_
  intro r2 o2 G2 hown2 hG2
  obtain ⟨a8,c8,rfl⟩:=hown2.val
  refine EVL.permOw ((b,82,vs++List.replicate (rows.length-i) (.slice none 0 0))::(os.flatten++o2)) List.perm_append_comm ?_
  try refine RUN ?_
  refine EVL.idxB tO rfl rfl rfl rfl rfl rfl rfl rfl rfl (i) (i*1) (rfl) (hlt) (rfl) ?_
  rw [Nat.mul_one]
  refine EVL.set1 tO rfl rfl rfl rfl rfl rfl rfl rfl rfl rfl ((by rw [List.length_append,hfl,List.length_replicate];omega)) ?_
  have hput:=vals_put vs (rows.length-(i+1)) (.slice none 0 0) (.slice a8 row.length c8)
  rw [hfl,show rows.length-(i+1)+1=rows.length-i by omega] at hput
  try refine RUN ?_
  refine ⟨(i+1,vs++[_],os++[o2]),⟨by rw [wi_inc i (by omega)];rfl,trivial⟩,sB,trivial,sB,by dsimp only;rw [List.flatten_append,List.flatten_singleton];exact congrArg (fun z=>(b,82,z)::(os.flatten++o2)) hput,⟨hlt,by dsimp only;rw [take_snoc hrow];exact hds.snoc hown2⟩,hG2,by dsimp only;omega⟩
 ·simp only [nN] at hlt
  obtain rfl:i=rows.length:=by omega
  rw [List.take_length] at hds
  rw [Nat.sub_self,List.replicate_zero,List.append_nil]
  try refine RUN ?_
  exact ⟨b,vs,os,rfl,by dsimp only;rw [List.append_nil],hds⟩
theorem set_one1 {l:List Value} {i:Nat} (v:Value) (h:i<l.length):l.take (i*1)++[v]++l.drop (i*1+1)=l.set i v:=by
 rw [Nat.mul_one,List.set_eq_take_append_cons_drop,if_pos h,List.append_assoc];rfl
theorem oneB_cells:∀ l:List CellT,oneB (l.flatMap cellC)=true
 | []=>rfl
 | x::l=>by rw [List.flatMap_cons];exact oneB_app rfl (oneB_cells l)
inductive OutAns (cs:List ColT) (rows:List (List CellT)) (at':Int) (r:Value) (G:Hp):Prop
 | no (h:at'<0∨(cs.length:Int)≤at'∨cs.length=1) (e:r=.tuple #[.agg #[.slice none 0 0,.slice none 0 0],.int .i64 1])
 | yes (k:Nat) (h:at'=(k:Int)) (hk:k<cs.length) (h2:cs.length≠1) (a b:Value) (e:r=.tuple #[.agg #[a,b],.int .i64 0]) (ha:ColL G a (cs.eraseIdx k)) (hb:PRows G b (rows.map fun x=>x.eraseIdx k))
theorem flat_erase {k:Nat}:∀ {css:List (List Value)},(∀ x,x∈css→x.length=k)→∀ i,i<css.length→css.flatten.take (i*k)++css.flatten.drop ((i+1)*k)=(css.eraseIdx i).flatten
 | [],_,i,hi=>by cases hi
 | x::css,h,0,_=>by
  have hx:=h x (List.mem_cons_self ..)
  rw [Nat.zero_mul,List.take_zero,List.nil_append,Nat.zero_add,Nat.one_mul,List.flatten_cons,← hx,List.drop_left,List.eraseIdx_cons_zero]
 | x::css,h,i+1,hi=>by
  have hx:=h x (List.mem_cons_self ..)
  have ih:=flat_erase (fun y hy=>h y (List.mem_cons_of_mem _ hy)) i (Nat.lt_of_succ_lt_succ hi)
  have e1:(x++css.flatten).take ((i+1)*k)=x++css.flatten.take (i*k):=by rw [show (i+1)*k=x.length+i*k by rw [hx,Nat.succ_mul];omega,List.take_length_add_append]
  have e2:(x++css.flatten).drop ((i+1+1)*k)=css.flatten.drop ((i+1)*k):=by rw [show (i+1+1)*k=x.length+(i+1)*k by rw [hx,Nat.succ_mul (i+1)];omega,← List.drop_drop,List.drop_left]
  rw [List.flatten_cons,e1,e2,List.eraseIdx_cons_succ,List.flatten_cons,← ih,List.append_assoc]
theorem map_erase {α β:Type} (f:α→β):∀ (l:List α) (i:Nat),(l.map f).eraseIdx i=(l.eraseIdx i).map f
 | [],_=>rfl
 | x::l,0=>rfl
 | x::l,i+1=>by rw [List.map_cons,List.eraseIdx_cons_succ,List.eraseIdx_cons_succ,List.map_cons,map_erase f l i]
theorem LsR.erase {α:Type} {R:Hp→List Value→α→Prop} {H:Hp} {css:List (List Value)} {l:List α} (h:LsR R H css l) (i:Nat):LsR R H (css.eraseIdx i) (l.eraseIdx i):=by
 have h1:=h.1
 refine ⟨by rw [List.length_eraseIdx,List.length_eraseIdx,h1],fun j c x e1 e2=>?_⟩
 rw [List.getElem?_eraseIdx] at e1 e2
 split at e1
 ·rw [if_pos ‹_›] at e2;exact h.2 j c x e1 e2
 ·rw [if_neg ‹_›] at e2;exact h.2 _ c x e1 e2
theorem cell_erase (row:List CellT) (i:Nat) (hi:i<row.length):(row.flatMap cellC).take (i*7)++(row.flatMap cellC).drop ((i+1)*7)=(row.eraseIdx i).flatMap cellC:=by
 have h:=flat_erase (k:=7) (css:=row.map cellC) (fun x hx=>by obtain ⟨c,_,rfl⟩:=List.mem_map.1 hx;rfl) i (by rw [List.length_map];exact hi)
 rw [← List.flatMap_def,map_erase,← List.flatMap_def] at h
 exact h
theorem erase_set {α:Type} (f:α→α) {rows:List α} {i:Nat} {x:α} (h:rows[i]?=some x):((rows.take i).map f++rows.drop i).set i (f x)=(rows.take (i+1)).map f++rows.drop (i+1):=by
 obtain ⟨hl,rfl⟩:=List.getElem?_eq_some_iff.1 h
 have h1:((rows.take i).map f).length=i:=by rw [List.length_map,List.length_take];omega
 rw [List.set_append_right _ _ oM,h1,Nat.sub_self,List.drop_eq_getElem_cons hl,List.set_cons_zero,take_snoc h,List.map_append,List.append_assoc];rfl
set_option maxRecDepth 100000 in
set_option maxHeartbeats 64000000 in
theorem without_pc {H:Hp} {u v:Value} {cs:List ColT} {rows:List (List CellT)} (hu:ColL H u cs) (hv:PRows H v rows) (ok:ShOk cs rows) (at':Int):PC prog 62 #[.agg #[u,v],.int .i64 at'] H fun r G=>OutAns cs rows at' r G:=by
 have hck:=check_pc hu hv ok.ck
 rw [ok.check] at hck
 have hnr:=ok.nrows
 have hwide:=ok.wide
 have hfew:=ok.few
 have hs1:=ok.some1
 have hcc:=fun G (hG:H.Le G)=>copyColsO_pw (hu.mono SCol.ok hG) ok.some1 ok.ck.ncols ok.ck.nwords
 have hcp:=fun G (hG:H.Le G)=>copiesO_pw (LR.mono PRows.ok hv hG) ok.ck.nrows (fun r hr=>by have:=hwide r hr;omega)
 obtain ⟨ua,uc,rfl⟩:=hu.val
 obtain ⟨va,vc,rfl⟩:=LR.val hv
 refine BD func62 ntmps62 ?_
 try refine RUN ?_
 refine EVL.call rfl rfl rfl rfl rfl (hck) ?_
 rintro _ G0 rfl hG0
 try refine RUN ?_
 by_cases c1:at'<0
 ·rw [decide_eq_true c1]
  try refine RUN ?_
  exact .no (.inl c1) rfl
 rw [decide_eq_false c1]
 try refine RUN ?_
 by_cases c2:at'≥(cs.length:Int)
 ·rw [decide_eq_true c2]
  try refine RUN ?_
  exact .no (.inr (.inl c2)) rfl
 rw [decide_eq_false c2]
 obtain ⟨k,rfl⟩:=Int.eq_ofNat_of_zero_le (show 0≤at' by omega)
 have hk:k<cs.length:=by omega
 try refine RUN ?_
 by_cases c3:cs.length=1
 ·rw [show ((cs.length:Int) == 1)=true from beq_iff_eq.2 (by omega)]
  try refine RUN ?_
  exact .no (.inr (.inr c3)) rfl
 rw [show ((cs.length:Int) == 1)=false from beq_eq_false_iff_ne.2 (by omega)]
 try refine RUN ?_
 (first | refine EVL.unbox (2) rfl fun bA=>?_ | refine EV.unbox (2) rfl fun bA=>?_)
 (first | refine EVL.publish [] [] rfl fun Ga hGa hbA=>?_ | refine EV.publish [] [] rfl fun Ga hGa hbA=>?_)
 have hG0a:=hG0.trans hGa
 refine EV.meetK (ι:=Option Addr × Nat × Ows × Nat × List Value × List Ows) [1,4] [4] (fun _=>[(7,.p 7 0)]) (fun q=>[(7,37,[.slice q.1 cs.length q.2.1,.slice (some ⟨q.2.2.2.1,0,none⟩) rows.length rows.length])]) (fun q=>q.2.2.1++((q.2.2.2.1,82,q.2.2.2.2.1)::q.2.2.2.2.2.flatten)) (fun q G=>Ga.Le G∧∃ ds,LsR SCol G ds cs∧OwnL 83 3 (.slice q.1 cs.length q.2.1) cs.length ds.flatten q.2.2.1∧OwnG 81 7 cellC q.2.2.2.2.1 rows q.2.2.2.2.2) rfl rfl (fun _=>rfl) ?_ ?_
 ·refine EVG.start (Fits Ga) none ?_
  refine IF 0 ?_
  refine IRP 1 (b:=bA) (off:=0+0) (l:=[.slice ua cs.length uc]) ?_ hbA (fun j u hj=>by cases j with | zero=>exact hj | succ j=>simp at hj) rfl rfl
  refine IF 3 ?_
  refine IRP 4 (b:=bA) (off:=0+1) (l:=[.slice va rows.length vc]) ?_ hbA (fun j u hj=>by cases j with | zero=>exact hj | succ j=>simp at hj) rfl rfl
  refine EVG.two 2 7 (fitsI (Hp.Le.refl _)) kR rfl rfl ?_ ?_
  ·refine EVL.callW rfl rfl rfl rfl rfl ([]) ([]) rfl (hcc _ hG0a) ?_
   rintro _ ow1 G1 ⟨ds,hds,hown1⟩ hG1
   obtain ⟨xa,xc,rfl⟩:=hown1.val
   refine EVL.nil ⟨rfl,?_⟩
   refine EVG.two 5 7 (fitsI hG1) kR rfl rfl ?_ ?_
   ·refine EVL.callW rfl rfl rfl rfl rfl [] (ow1++[]) rfl (hcp _ (hG0a.trans hG1)) ?_
    rintro _ ow2 G2 ⟨b2,vs,os,rfl,rfl,hos⟩ hG2
    refine EVL.permOw (ow1++((b2,82,vs)::os.flatten)) (by rw [List.append_nil];exact List.perm_append_comm) ?_
    refine EVL.nil ⟨rfl,?_⟩
    refine IV 6 ?_
    refine EVG.one 7 (fitsI (hG1.trans hG2)) kR rfl ?_
    (try refine RUNL ?_)
    refine EVL.nil ⟨rfl,?_⟩
    refine EVG.one 8 (fitsI (hG1.trans hG2)) kR rfl ?_
    (try refine RUNL ?_)
    refine EVL.nil ⟨rfl,?_⟩
    refine EVG.nil (fitsI (hG1.trans hG2)) kR ?_
    exact ⟨(xa,xc,ow1,b2,vs,os),⟨rfl,trivial⟩,sB,⟨rfl,trivial⟩,sB,rfl,hG1.trans hG2,ds,hds.mono SCol.ok hG2,hown1,hos⟩
   ·(try refine RUNL ?_)
    refine EVL.nil ⟨rfl,?_⟩
    refine EVG.one 5 (fitsI (hG1)) kR rfl ?_
    refine EVL.callW rfl rfl rfl rfl rfl [] (ow1++[]) rfl (hcp _ (hG0a.trans hG1)) ?_
    rintro _ ow2 G2 ⟨b2,vs,os,rfl,rfl,hos⟩ hG2
    refine EVL.permOw (ow1++((b2,82,vs)::os.flatten)) (by rw [List.append_nil];exact List.perm_append_comm) ?_
    refine EVL.nil ⟨rfl,?_⟩
    refine IV 6 ?_
    refine EVG.one 8 (fitsI (hG1.trans hG2)) kR rfl ?_
    (try refine RUNL ?_)
    refine EVL.nil ⟨rfl,?_⟩
    refine EVG.nil (fitsI (hG1.trans hG2)) kR ?_
    exact ⟨(xa,xc,ow1,b2,vs,os),⟨rfl,trivial⟩,sB,⟨rfl,trivial⟩,sB,rfl,hG1.trans hG2,ds,hds.mono SCol.ok hG2,hown1,hos⟩
  ·(try refine RUNL ?_)
   refine EVL.nil ⟨rfl,?_⟩
   refine EVG.one 2 (fitsI (Hp.Le.refl _)) kR rfl ?_
   refine EVL.callW rfl rfl rfl rfl rfl ([]) ([]) rfl (hcc _ hG0a) ?_
   rintro _ ow1 G1 ⟨ds,hds,hown1⟩ hG1
   obtain ⟨xa,xc,rfl⟩:=hown1.val
   refine EVL.nil ⟨rfl,?_⟩
   refine EVG.one 5 (fitsI (hG1)) kR rfl ?_
   refine EVL.callW rfl rfl rfl rfl rfl [] (ow1++[]) rfl (hcp _ (hG0a.trans hG1)) ?_
   rintro _ ow2 G2 ⟨b2,vs,os,rfl,rfl,hos⟩ hG2
   refine EVL.permOw (ow1++((b2,82,vs)::os.flatten)) (by rw [List.append_nil];exact List.perm_append_comm) ?_
   refine EVL.nil ⟨rfl,?_⟩
   refine IV 6 ?_
   refine EVG.one 8 (fitsI (hG1.trans hG2)) kR rfl ?_
   (try refine RUNL ?_)
   refine EVL.nil ⟨rfl,?_⟩
   refine EVG.nil (fitsI (hG1.trans hG2)) kR ?_
   exact ⟨(xa,xc,ow1,b2,vs,os),⟨rfl,trivial⟩,sB,⟨rfl,trivial⟩,sB,rfl,hG1.trans hG2,ds,hds.mono SCol.ok hG2,hown1,hos⟩
 rintro ⟨xa,xc,ow1,b2,vs,os⟩ G2 ⟨hG12,ds,hds,hown1,hos⟩
 dsimp only at hds hown1 hos
 have hdl:=hds.1
 have hone:=cols_one hds
 have wk:IntKind.i64.wrap ((k:Int)+1)=((k+1:Nat):Int):=wi_inc k oM
 try refine RUN ?_
 rw [wk]
 refine EVL.callW rfl rfl rfl rfl rfl (ow1) ((b2,82,vs)::os.flatten) rfl (deleteCol_pw hown1 hk oM hone) ?_
 intro r3 ow3 G3 hown3 hG3
 rw [flat_erase (hds.all SCol.ok) k (by omega)] at hown3
 obtain ⟨ya,yc,rfl⟩:=hown3.val
 try refine RUN ?_
 (first | refine EVL.publishL [] ow3 ((b2,82,vs)::os.flatten) (rfl) hown3 fun G4 hG4 hs4=>?_ | refine EV.publishL [] ow3 ((b2,82,vs)::os.flatten) (rfl) hown3 fun G4 hG4 hs4=>?_)
 have hcol4:ColL G4 (.slice ya (cs.length-1) yc) (cs.eraseIdx k):=⟨ds.eraseIdx k,(hds.erase k).mono SCol.ok (hG3.trans hG4),by rw [List.length_eraseIdx,if_pos hk];exact hs4⟩
 (first | refine EVL.unbox (7) rfl fun b7=>?_ | refine EV.unbox (7) rfl fun b7=>?_)
 (first | refine EVL.publish [] ((b2,82,vs)::os.flatten) rfl fun G5 hG5 hb7=>?_ | refine EV.publish [] ((b2,82,vs)::os.flatten) rfl fun G5 hG5 hb7=>?_)
 try refine RUN ?_
 refine EV.loopK (ι:=Nat × List Value × List Ows) [1,4,7,47,48] [4] (fun q=>[(49,.v (.int .i64 (q.1:Int)))]) (fun _=>[]) (fun q=>(b2,82,q.2.1)::q.2.2.flatten) (fun q _=>q.1≤rows.length∧OwnG 81 7 cellC q.2.1 ((rows.take q.1).map (fun x=>x.eraseIdx k)++rows.drop q.1) q.2.2) (fun q=>rows.length-q.1) ((0,vs,os)) rfl rfl ⟨rfl,trivial⟩ trivial rfl (fun _=>rfl) (⟨Nat.zero_le _,hos⟩) ?_
 rintro ⟨i,us,ps⟩ G6 hG6 ⟨hi,hms⟩
 dsimp only at hi hms
 have hml:((rows.take i).map (fun x=>x.eraseIdx k)++rows.drop i).length=rows.length:=by rw [List.length_append,List.length_map,List.length_take,List.length_drop];omega
 have hul:us.length=rows.length:=hms.1.trans hml
 have hpl:ps.length=rows.length:=hms.2.1.trans hml
 have hb7':=hG6 _ _ hb7
 try refine RUN ?_
 refine EV.cond rfl (fun hlt=>?_) (fun hlt=>?_)
 ·simp only [nN] at hlt
  obtain ⟨row,hrow⟩:∃ x,rows[i]?=some x:=⟨_,List.getElem?_eq_getElem hlt⟩
  have hrw:=hwide row (List.mem_of_getElem? hrow)
  obtain ⟨OA,o,OB,rfl,rfl⟩:=split_at (l:=ps) (k:=i) oM
  obtain ⟨z,hz⟩:∃ z,us[OA.length]?=some z:=⟨_,List.getElem?_eq_getElem oM⟩
  have hgr:((rows.take OA.length).map (fun x=>x.eraseIdx k)++rows.drop OA.length)[OA.length]?=some row:=by
   rw [List.getElem?_append_right (by rw [List.length_map,List.length_take];omega),List.length_map,List.length_take,Nat.min_eq_left hi,Nat.sub_self,List.getElem?_drop,Nat.add_zero];exact hrow
  have hown:=hms.2.2 OA.length z row o hz hgr (by rw [List.getElem?_append_right (Nat.le_refl _),Nat.sub_self];rfl)
  have hset:=erase_set (fun x:List CellT=>x.eraseIdx k) hrow
  have hel:=cell_erase row k oM
  have hon1:oneB (row.flatMap cellC)=true:=oneB_cells row
  have hdel:=fun G=>deleteCell_pw (H:=G) hown (i:=k) oM oM hon1
  rw [hel] at hdel
  obtain ⟨za,zc,rfl⟩:=hown.val
  try refine RUN ?_
  refine EVL.idxB tO rfl rfl rfl rfl rfl rfl rfl rfl rfl (OA.length) (OA.length*1) (rfl) (hlt) (rfl) ?_
  refine EVL.load1 tO rfl rfl rfl rfl rfl rfl rfl rfl (0) rfl ((by rw [Nat.mul_one];exact hz)) ?_
  try refine RUN ?_
  (first | refine EVL.permOw (o++((b2,82,us)::(OA.flatten++OB.flatten))) (by rw [List.flatten_append,List.flatten_cons];exact own_out _ _ _ _) ?_ | refine EV.permOw (o++((b2,82,us)::(OA.flatten++OB.flatten))) (by rw [List.flatten_append,List.flatten_cons];exact own_out _ _ _ _) ?_)
  refine EVG.start (Fits G6) none ?_
  refine IF 0 ?_
  refine IRP 1 (b:=b7) (off:=0+1) (l:=[.slice (some ⟨b2,0,none⟩) rows.length rows.length]) ?_ hb7' (fun j u hj=>by cases j with | zero=>exact hj | succ j=>simp at hj) rfl rfl
  refine IV 2 ?_
  refine IV 3 ?_
  refine IV 4 ?_
  refine IV 5 ?_
  refine IV 6 ?_
  rw [wk]
  refine EVG.one 7 (fitsI (Hp.Le.refl _)) kR rfl ?_
  refine EVL.callW rfl rfl rfl rfl rfl (o) ((b2,82,us)::(OA.flatten++OB.flatten)) rfl (hdel _) ?_
  intro r8 o8 G7 hown8 hG7
  obtain ⟨wa,wc,rfl⟩:=hown8.val
  refine EVL.nil ⟨rfl,?_⟩
  refine EVG.one 8 (fitsI hG7) kR rfl ?_
  refine EVL.idxB tO rfl rfl rfl rfl rfl rfl rfl rfl rfl (OA.length) (OA.length*1) (rfl) (hlt) (rfl) ?_
  refine EVL.nil ⟨rfl,?_⟩
  refine EVG.one 9 (fitsI hG7) kR rfl ?_
  refine EVL.storeOwn tO rfl rfl rfl rfl rfl rfl (o8) (OA.flatten++OB.flatten) rfl rfl rfl rfl ((by rw [Nat.mul_one];show OA.length+1≤us.length;omega)) (set_one1 (l:=us) (i:=OA.length) _ oM) ?_
  refine EVL.nil ⟨rfl,?_⟩
  refine EVG.nil (fitsI hG7) kR ?_
  (first | refine EVL.permOw _ (own_out _ _ _ _).symm ?_ | refine EV.permOw _ (own_out _ _ _ _).symm ?_ | skip)
  try refine RUN ?_
  refine ⟨(OA.length+1,us.set OA.length (.slice wa (row.length-1) wc),OA++o8::OB),⟨by rw [wi_inc OA.length (by omega)];rfl,trivial⟩,sB,trivial,sB,by dsimp only;rw [List.flatten_append,List.flatten_cons],⟨hlt,?_⟩,hG7,by dsimp only;omega⟩
  dsimp only
  rw [← hset]
  refine hms.put ?_
  rw [List.length_eraseIdx,if_pos (by omega)]
  exact hown8
 ·simp only [nN] at hlt
  obtain rfl:i=rows.length:=by omega
  rw [List.take_length,List.drop_length,List.append_nil] at hms
  refine EV.pubG ps [(b2,82,us)] [] hms (congrArg (fun z=>(b2,82,us)::z) (List.append_nil ps.flatten).symm) (fun k hk=>by cases hk) fun G7 hG7 hsl=>?_
  (first | refine EVL.publish [] [] rfl fun G8 hG8 hb2=>?_ | refine EV.publish [] [] rfl fun G8 hG8 hb2=>?_)
  have hrows:=(hsl.mono hG8).rows hb2 (by rw [List.length_map];omega)
  rw [List.length_map] at hrows
  refine EV.asRo 7 rfl (hG8 _ _ (hG7 _ _ hb7')) ?_
  try refine RUN ?_
  exact .yes k rfl hk c3 _ _ rfl (hcol4.mono SCol.ok (hG5.trans (hG6.trans (hG7.trans hG8)))) hrows
section
variable {P:Program} {n:Nat} {ops:Array Oper} {o:Oper} {rest:List Oper} {env:Env} {bx:Bxs} {H:Hs} {Q:EQ} {τ:Tab} {d:Nat}
theorem EVL.loadP (hτ:TabOk P τ) {T:TypeId} {x:Operand} (ho:o.op=.load T x) (hw:wantB ops env o=some true) (hd:o.dst=some d) (hn:Nat.blt d n=true) {te:TE} (ht:τ.get T=some te)
  {b q:Nat} (hx:env.op x=some (.v (.pointer (some ⟨b,q,none⟩)))) {c:Array Value} (hc:H.ro b=some c) {l:List Value} (hl:∀ (j:Nat) (u:Value),l[j]?=some u→c[q+j]?=some u) (hlen:l.length=te.size) {v:Value} (hv:asVar te.agg l=some v)
  (h:EVL P n ops rest ((d,.v v)::env) bx H Q):EVL P n ops (o::rest) env bx H Q:=fun W0 β a W r=>by
 have ex:a.eval x=.pointer (some ⟨b,q,none⟩):=r.op hx
 obtain ⟨T',fz,hW⟩:=r.fits b c hc
 have hrg:W.rangeAt b q l:=fun j u hj=>by
  rw [cell_of_row W b (q+j) c T' fz hW]
  exact hl j u hj
 have hrun:=run_load_cells (hτ.get ht) hrg hlen hv
 unfold wpList
 rw [if_pos (r.want hw)]
 refine .inl ?_
 have hx':(execOp a.eval o).run P W=.ok (.value v) W:=by
  unfold execOp
  simp only [ho,ex,Sem.run_bind,hrun,Result.andThen_ok,Sem.run_pure]
 unfold Oper.wp
 rw [hx',Oper.upon_value,hd]
 exact h W0 β _ W (r.put hn rfl rfl)
end
section
variable {n:Nat} {ops:Array Oper} {fuel:Nat} {L:Array Bool} {env:Env} {bx:Bxs} {H:Hs} {K:Env→Bxs→Hs→Prop} {d:Nat} {o:Oper} {I:World→Prop} {z:Option Nat}
theorem IS (i:Nat) {x:Operand} {lo hi:Option Operand} {T:TypeId} {te te':TE} {e:TypeId} {a0:Option Addr} {m cap:Nat} (l r:Nat) (hlo:lo=none∧l=0∨∃ y k,lo=some y∧env.op y=some (.v (.int k (l:Int)))) (hhi:hi=none∧r=m∨∃ y k,hi=some y∧env.op y=some (.v (.int k (r:Int)))) (hlh:l≤r) (hhc:r≤cap) (hmc:m≤cap)
  (h:EVG I z prog n ops fuel (L.setIfInBounds i true) ((d,.v (.slice (if cap=l then a0 else a0.map (·.add (l*te'.size))) (r-l) (cap-l)))::env) bx H K) (hi':ops[i]?=some o:=by exact rfl) (hs:Region.noSelect ops=true:=by kernel_rfl) (hf:Region.free .any ops L i=true:=by kernel_rfl) (hr:(Region.ready .any ops L).contains i=true:=by kernel_rfl) (hy:yetB .any ops L i=true:=by kernel_rfl) (hts:(z == some i)=false:=by kernel_rfl) (hw:wantB ops env o=some true:=by exact rfl) (hd:o.dst=some d:=by exact rfl) (hn:Nat.blt d n=true:=by exact rfl)
  (ho:o.op=.slice T x lo hi none:=by exact rfl) (hx:env.op x=some (.v (.slice a0 m cap)):=by exact rfl) (ht:Tryz.tab.get T=some te:=by exact rfl) (hk:te.kind=.slice e:=by exact rfl) (ht':Tryz.tab.get e=some te':=by exact rfl):EVG I z prog n ops (fuel+1) L env bx H K :=
 EVG.take (J:=fun _=>True) i (.inr ⟨fun _=>trivial,fun e=>by rw [e] at hts;simp at hts⟩) hi' hs hf hr hy hw hd hn (fun β a W he _=>by
  have hkd:=(tO.get ht).kind
  rw [hk] at hkd
  have hkd':Tryz.prog.underlying T=some (.slice e):=hkd
  have h1:a.eval x=.slice a0 m cap:=he x _ hx
  unfold execOp
  simp only [ho,Instr.sliceAt,h1,Option.map_none]
  rcases hlo with ⟨rfl,rfl⟩ | ⟨y,k,rfl,hyy⟩
  ·rcases hhi with ⟨rfl,rfl⟩ | ⟨y',k',rfl,hy'⟩
   ·simp [run_underlying hkd',Instr.slice,Instr.sliceBounds,(tO.get ht').size]
   ·have h2:a.eval y'=.int k' r:=he y' _ hy'
    simp [run_underlying hkd',Instr.slice,Instr.sliceBounds,Instr.sliceBound,h2,asIntOf,(tO.get ht').size,hhc]
  ·have h3:a.eval y=.int k l:=he y _ hyy
   rcases hhi with ⟨rfl,rfl⟩ | ⟨y',k',rfl,hy'⟩
   ·simp [run_underlying hkd',Instr.slice,Instr.sliceBounds,Instr.sliceBound,h3,asIntOf,(tO.get ht').size,hlh]
   ·have h2:a.eval y'=.int k' r:=he y' _ hy'
    simp [run_underlying hkd',Instr.slice,Instr.sliceBounds,Instr.sliceBound,h2,h3,asIntOf,(tO.get ht').size,hhc,hlh]) h
end
section
variable {P:Program} {n:Nat} {ops:Array Oper} {o:Oper} {rest:List Oper} {env:Env} {bx:Bxs} {sb':Bxs} {H:Hs} {Q:EQ} {d:Nat}
end
section
variable {P:Program} {n:Nat} {ops:Array Oper} {o:Oper} {rest:List Oper} {env:Env} {bx:Bxs} {H:Hs} {Q:EQ} {d:Nat}
end
end Go.Proofs.YtbcfidllfimehaaGreatDoor
namespace Go.Proofs.YtbcfidllfimehaaGreatDoor
def mWords:List (List UInt8):=[[114,101,100],[103,114,101,101,110],[98,108,117,101],[119,95,49],[88,57]]
def mName (i:Nat) (n:Int):List UInt8:=[UInt8.ofNat (97+i),95]++([120,121,122]:List UInt8).drop (n % 3).toNat
def mCol (i:Nat) (n:Int):ColT:=if (n.tdiv 3) % 3=2 then ⟨mName i n,2,mWords.take (1+((n.tdiv 9) % 5).toNat)⟩ else ⟨mName i n,1,[]⟩
def mColsFrom:Nat→List Int→List ColT
 | _,[]=>[]
 | i,n::l=>mCol i n::mColsFrom (i+1) l
def mCols (l:List Int):List ColT:=if l=[] then [⟨[97],1,[]⟩] else mColsFrom 0 (l.take 6)
def mCell (c:ColT) (n:Int):CellT:=if n % 9=8 then ⟨true,0,0⟩ else if c.kind=1 then ⟨false,rNum (n.tdiv 9),0⟩ else ⟨false,0,((n.tdiv 9) % (c.words.length:Int)).toNat⟩
theorem mName_ok {i:Nat} (hi:i<6) (n:Int):isNm (mName i n)=true:=by
 have h:∀ (j:Fin 6) (k:Fin 3),isNm ([UInt8.ofNat (97+j.val),95]++([120,121,122]:List UInt8).drop k.val)=true:=by decide
 exact h ⟨i,hi⟩ ⟨(n % 3).toNat,by have:=Int.emod_lt_of_pos n (show (0:Int)<3 by decide);have:=Int.emod_nonneg n (show (3:Int)≠0 by decide);omega⟩
theorem mWords_ok (n:Int):(mWords.take (1+((n.tdiv 9) % 5).toNat)).all isNm=true∧(mWords.take (1+((n.tdiv 9) % 5).toNat)).Nodup∧1≤(mWords.take (1+((n.tdiv 9) % 5).toNat)).length∧(mWords.take (1+((n.tdiv 9) % 5).toNat)).length≤12:=by
 have h:∀ k:Fin 5,(mWords.take (1+k.val)).all isNm=true∧(mWords.take (1+k.val)).Nodup∧1≤(mWords.take (1+k.val)).length∧(mWords.take (1+k.val)).length≤12:=by decide
 exact h ⟨((n.tdiv 9) % 5).toNat,by have:=Int.emod_lt_of_pos (n.tdiv 9) (show (0:Int)<5 by decide);have:=Int.emod_nonneg (n.tdiv 9) (show (5:Int)≠0 by decide);omega⟩
theorem mCol_name (i:Nat) (n:Int):(mCol i n).name=mName i n:=by unfold mCol;split <;> rfl
theorem mCol_ok {i:Nat} (hi:i<6) (n:Int):(mCol i n).Ok:=by
 have hn:=mName_ok hi n
 obtain ⟨w1,w2,w3,w4⟩:=mWords_ok n
 refine ⟨by rw [mCol_name];exact hn,?_,?_,?_⟩
 ·unfold mCol
  split
  ·exact .inr ⟨rfl,w3,w4⟩
  ·exact .inl ⟨rfl,rfl⟩
 ·unfold mCol
  split
  ·exact fun w hw=>List.all_eq_true.1 w1 w hw
  ·intro w hw;cases hw
 ·unfold mCol
  split
  ·exact w2
  ·exact List.nodup_nil
theorem mFrom_mem:∀ (l:List Int) (i:Nat) (d:ColT),d∈mColsFrom i l→∃ (j:Nat) (n:Int),i≤j∧j<i+l.length∧d=mCol j n
 | [],_,d,h=>by cases h
 | n::l,i,d,h=>by
  rw [mColsFrom] at h
  rcases List.mem_cons.1 h with k | k
  ·exact ⟨i,n,Nat.le_refl _,by rw [List.length_cons];omega,k⟩
  ·obtain ⟨j,m,h1,h2,h3⟩:=mFrom_mem l (i+1) d k
   exact ⟨j,m,by omega,by rw [List.length_cons];omega,h3⟩
theorem mName_ne {i j:Nat} (h:i<j) (hj:j<6) (n m:Int):mName i n≠mName j m:=fun e=>by
 have h1:UInt8.ofNat (97+i)=UInt8.ofNat (97+j):=(List.cons.inj e).1
 have h2:=congrArg UInt8.toNat h1
 rw [UInt8.toNat_ofNat',UInt8.toNat_ofNat'] at h2
 omega
theorem mFrom_nodup:∀ (l:List Int) (i:Nat),i+l.length≤6→((mColsFrom i l).map ColT.name).Nodup
 | [],_,_=>List.nodup_nil
 | n::l,i,h=>by
  rw [List.length_cons] at h
  rw [mColsFrom,List.map_cons,List.nodup_cons]
  refine ⟨fun k=>?_,mFrom_nodup l (i+1) oM⟩
  obtain ⟨d,hd,e⟩:=List.mem_map.1 k
  obtain ⟨j,m,h1,h2,rfl⟩:=mFrom_mem l (i+1) d hd
  rw [mCol_name,mCol_name] at e
  exact mName_ne oM oM n m e.symm
theorem mFrom_len:∀ (l:List Int) (i:Nat),(mColsFrom i l).length=l.length
 | [],_=>rfl
 | n::l,i=>by rw [mColsFrom,List.length_cons,List.length_cons,mFrom_len l (i+1)]
theorem mCols_ok (l:List Int):(1≤(mCols l).length∧(mCols l).length≤6)∧(∀ c,c∈mCols l→c.Ok)∧((mCols l).map ColT.name).Nodup:=by
 unfold mCols
 by_cases h:l=[]
 ·rw [if_pos h]
  refine ⟨⟨by decide,by decide⟩,fun c hc=>?_,by decide⟩
  rw [List.mem_singleton.1 hc]
  exact ⟨by decide,.inl ⟨rfl,rfl⟩,fun w hw=>(by cases hw),List.nodup_nil⟩
 ·rw [if_neg h]
  have hl:(l.take 6).length≤6:=by rw [List.length_take];omega
  have h1:1≤(l.take 6).length:=by
   rw [List.length_take]
   have:=List.length_pos_iff.2 h
   omega
  refine ⟨by rw [mFrom_len];exact ⟨h1,hl⟩,fun c hc=>?_,mFrom_nodup _ 0 oM⟩
  obtain ⟨j,n,_,h2,rfl⟩:=mFrom_mem _ _ _ hc
  exact mCol_ok oM n
theorem mCell_ok {c:ColT} (hc:c.Ok) (n:Int):(mCell c n).Ok c:=by
 unfold mCell
 by_cases h:n % 9=8
 ·rw [if_pos h]
  exact ⟨fun _=>⟨rfl,rfl⟩,fun k=>(by cases k),fun k=>(by cases k)⟩
 ·rw [if_neg h]
  by_cases hk:c.kind=1
  ·rw [if_pos hk]
   exact ⟨fun k=>(by cases k),fun _ _=>⟨rfl,Nat.le_trans (ht_rNum _) oM⟩,fun _ k=>absurd hk k⟩
  ·rw [if_neg hk]
   have hl:1≤c.words.length:=by
    rcases hc.kind with ⟨q,_⟩ | ⟨_,q,_⟩
    ·exact absurd q hk
    ·exact q
   refine ⟨fun k=>(by cases k),fun _ k=>absurd k hk,fun _ _=>⟨rfl,?_⟩⟩
   have h1:=Int.emod_lt_of_pos (n.tdiv 9) (show (0:Int)<(c.words.length:Int) by omega)
   have h2:=Int.emod_nonneg (n.tdiv 9) (show (c.words.length:Int)≠0 by omega)
   show ((n.tdiv 9) % (c.words.length:Int)).toNat<c.words.length
   omega
end Go.Proofs.YtbcfidllfimehaaGreatDoor
namespace Go.Proofs.YtbcfidllfimehaaGreatDoor
theorem joinL_len {c:UInt8} {B:Nat}:∀ {l:List (List UInt8)},(∀ w,w∈l→w.length≤B)→(joinL c l).length≤l.length*(B+1)
 | [],_=>Nat.zero_le _
 | [w],h=>by
  have:=h w (List.mem_cons_self ..)
  show w.length≤1*(B+1)
  omega
 | w::v::r,h=>by
  have h1:=h w (List.mem_cons_self ..)
  have h2:=joinL_len (c:=c) (l:=v::r) fun u hu=>h u (List.mem_cons_of_mem _ hu)
  rw [joinL,List.length_append,List.length_cons,List.length_cons,Nat.add_mul]
  rw [List.length_cons] at h2
  rw [List.length_cons]
  omega
theorem fracT_len5 {q:Rat} (h:ht q≤5):(fracT q).length≤9:=by
 have b1:bl q.num.natAbs≤5:=Nat.le_trans (Nat.le_max_left _ _) h
 have b2:bl q.den≤5:=Nat.le_trans (Nat.le_max_right _ _) h
 have d1:=decD_len10 2 q.num.natAbs (Nat.lt_of_lt_of_le (Nat.lt_of_lt_of_le (lt_bl _) (Nat.pow_le_pow_right oM b1)) (by decide))
 have d2:=decD_len10 2 q.den (Nat.lt_of_lt_of_le (Nat.lt_of_lt_of_le (lt_bl _) (Nat.pow_le_pow_right oM b2)) (by decide))
 have hw:(wtL q.num).length≤4:=by
  unfold wtL
  rw [List.length_append]
  split
  ·rw [List.length_singleton];omega
  ·rw [List.length_nil];omega
 unfold fracT
 split
 ·omega
 ·rw [List.length_append,List.length_append,List.length_singleton];omega
structure ColS (c:ColT):Prop where
 name:c.name.length≤5
 num:c.words.length≤5
 words:∀ w,w∈c.words→w.length≤5
theorem mWords_len:∀ w,w∈mWords→w.length≤5:=by decide
theorem mCol_s (i:Nat) (n:Int):ColS (mCol i n):=by
 have hn:(mName i n).length≤5:=by
  unfold mName
  rw [List.length_append,List.length_drop]
  show 2+(3-_)≤5
  omega
 unfold mCol
 split
 ·refine ⟨hn,?_,fun w hw=>mWords_len w (List.mem_of_mem_take hw)⟩
  show (mWords.take _).length≤5
  rw [List.length_take]
  exact Nat.min_le_right _ _
 ·exact ⟨hn,Nat.zero_le _,fun w hw=>(by cases hw)⟩
theorem mCols_s (l:List Int):∀ c,c∈mCols l→ColS c:=fun c hc=>by
 unfold mCols at hc
 split at hc
 ·rw [List.mem_singleton.1 hc]
  exact ⟨by decide,by decide,fun w hw=>(by cases hw)⟩
 ·obtain ⟨j,n,_,_,rfl⟩:=mFrom_mem _ _ _ hc
  exact mCol_s j n
theorem tCol_len {c:ColT} (h:ColS c):(tCol c).length≤50:=by
 have h1:=joinL_len (c:=124) (B:=5) h.words
 have h2:=h.num
 have h3:=h.name
 unfold tCol
 rw [List.length_append,List.length_cons]
 split
 ·show c.name.length+(6+1)≤50
  omega
 ·rw [List.length_append,List.length_append,List.length_singleton]
  show c.name.length+(7+((joinL 124 c.words).length+1)+1)≤50
  omega
theorem mCell_len {c:ColT} (hc:c.Ok) (hs:ColS c) (n:Int):(tCell c (mCell c n)).length≤9:=by
 have hk:=mCell_ok hc n
 generalize hx:mCell c n=x at *
 have hq:x.lacks=false→c.kind=1→ht x.q≤5:=fun q1 q2=>by
  rw [← hx] at q1 ⊢
  unfold mCell at q1 ⊢
  split at q1
  ·cases q1
  ·rename_i h8
   rw [if_neg h8,if_pos q2]
   exact ht_rNum _
 unfold tCell
 split
 ·show 1≤9;decide
 ·rename_i hl
  have hl':x.lacks=false:=by simpa using hl
  split
  ·rename_i h1
   exact fracT_len5 (hq hl' h1)
  ·rename_i h1
   obtain ⟨_,h2⟩:=hk.word hl' h1
   rw [List.getD_eq_getElem?_getD,List.getElem?_eq_getElem h2]
   exact Nat.le_trans (hs.words _ (List.getElem_mem h2)) (by decide)
theorem tSheet_len {cs:List ColT} {rows:List (List CellT)} (h1:cs.length≤6) (h2:rows.length≤12) (h3:∀ c,c∈cs→ColS c) (h4:∀ row,row∈rows→∀ w,w∈List.zipWith tCell cs row→w.length≤9):(tSheet cs rows).length≤5000:=by
 have a1:(joinL 44 (cs.map tCol)).length≤306:=by
  have:=joinL_len (c:=44) (B:=50) (l:=cs.map tCol) fun w hw=>by
   obtain ⟨c,hc,e⟩:=List.mem_map.1 hw
   rw [← e];exact tCol_len (h3 c hc)
  rw [List.length_map] at this
  omega
 have a2:∀ row,row∈rows→(tRow cs row).length≤306:=fun row hr=>by
  have:=joinL_len (c:=44) (B:=9) (l:=List.zipWith tCell cs row) (h4 row hr)
  have hz:(List.zipWith tCell cs row).length≤cs.length:=by rw [List.length_zipWith];exact Nat.min_le_left _ _
  unfold tRow
  omega
 have a3:=joinL_len (c:=10) (B:=306) (l:=joinL 44 (cs.map tCol)::rows.map (tRow cs)) fun w hw=>by
  rcases List.mem_cons.1 hw with q | q
  ·rw [q];exact a1
  ·obtain ⟨row,hr,e⟩:=List.mem_map.1 q
   rw [← e];exact a2 row hr
 rw [List.length_cons,List.length_map] at a3
 unfold tSheet
 rw [List.length_append,List.length_singleton]
 omega
end Go.Proofs.YtbcfidllfimehaaGreatDoor
namespace Go.Proofs.YtbcfidllfimehaaGreatDoor
open Go.RowKit _root_.Go.Proofs.Tryz
abbrev i64b (z:Int):Prop:=-9223372036854775808≤z∧z<9223372036854775808
theorem tdiv_in {z k:Int} (hz:i64b z) (hk:1≤k):i64b (z.tdiv k):=by
 by_cases h:0≤z
 ·rw [Int.tdiv_eq_ediv_of_nonneg h]
  have h1:=Int.ediv_le_self k h
  have h2:=Int.ediv_nonneg h (show 0≤k by omega)
  exact ⟨by omega,by omega⟩
 ·have e:z.tdiv k = -((-z) / k):=by rw [← Int.tdiv_eq_ediv_of_nonneg oM,Int.neg_tdiv,Int.neg_neg]
  have h1:=Int.ediv_le_self k (show 0 ≤ -z by omega)
  have h2:=Int.ediv_nonneg (show 0 ≤ -z by omega) (show 0≤k by omega)
  rw [e]
  exact ⟨by omega,by omega⟩
theorem wtdiv {z k:Int} (hz:i64b z) (hk:1≤k):IntKind.i64.wrap (z.tdiv k)=z.tdiv k:=by
 have:=tdiv_in hz hk
 rw [IntKind.wrap_i64];omega
theorem mFrom_snoc (n:Int):∀ (l:List Int) (i:Nat),mColsFrom i (l++[n])=mColsFrom i l++[mCol (i+l.length) n]
 | [],i=>rfl
 | m::l,i=>by
  rw [List.cons_append,mColsFrom,mFrom_snoc n l (i+1),mColsFrom,List.length_cons,List.cons_append,show i+1+l.length=i+(l.length+1) by omega]
def abcB:List UInt8:=[97,98,99,100,101,102]
theorem abc_at {i:Nat} (h:i<6):(abcB.drop i).take (i+1-i)=[UInt8.ofNat (97+i)]:=by
 have:∀ j:Fin 6,(abcB.drop j.val).take (j.val+1-j.val)=[UInt8.ofNat (97+j.val)]:=by decide
 exact this ⟨i,h⟩
theorem words_sl {G:Hp} {b:Nat} (h:G b=some (mWords.map strV).toArray):SL G (.slice (some ⟨b,0,none⟩) 5 5) mWords :=
 ⟨rfl,.inr ⟨b,0,5,_,rfl,Nat.le_refl _,h,fun j x hj=>by rw [Nat.zero_add];simpa using hj⟩⟩
set_option maxRecDepth 100000 in
set_option maxHeartbeats 32000000 in
theorem mCols_pc {H:Hp} {v:Value} {l:List Int} (hv:IL H v l) (hb:∀ z,z∈l→i64b z):PC prog 38 #[v] H fun r H'=>ColL H' r (mCols l):=by
 obtain ⟨a,c,rfl⟩:=SlC.val hv
 refine BD func38 ntmps38 ?_
 try refine RUN ?_
 refine EVL.lit tO rfl rfl rfl rfl rfl rfl rfl rfl rfl rfl rfl fun b1=>?_
 (first | refine EVL.publish [] [] rfl fun G0 hG0 hb1=>?_ | refine EV.publish [] [] rfl fun G0 hG0 hb1=>?_)
 have hw:=words_sl hb1
 try refine RUN ?_
 refine EV.loopK (ι:=Nat × Value × List (List Value) × Ows) [0,4] [] (fun q=>[(3,.v q.2.1),(5,.v (.int .i64 (q.1:Int)))]) (fun _=>[]) (fun q=>q.2.2.2) (fun q G=>q.1≤l.length∧q.1≤6∧LsR SCol G q.2.2.1 (mColsFrom 0 (l.take q.1))∧OwnL 64 3 q.2.1 q.1 q.2.2.1.flatten q.2.2.2) (fun q=>l.length-q.1) ((0,.slice none 0 0,[],[])) rfl rfl ⟨rfl,rfl,trivial⟩ trivial rfl (fun _=>rfl) (⟨Nat.zero_le _,Nat.zero_le _,LsR.nil,OwnL.nil _ _⟩) ?_
 rintro ⟨i,u,css,ow⟩ G1 hG1 ⟨hi,hi6,hcs,hown⟩
 dsimp only at hi hi6 hcs hown
 obtain ⟨ua,uc,rfl⟩:=hown.val
 try refine RUN ?_
 generalize hB:decide (i<l.length∧i<6)=B
 refine EVL.meetK (ι:=Unit) [0,3,4,5] [] (fun _=>[(15,.v (.bool B))]) (fun _=>[]) (fun _=>ow) (fun _ G=>G1.Le G) rfl rfl (fun _=>rfl) ?_ ?_
 ·by_cases d1:i<l.length
  ·rw [decide_eq_true (show (i:Int)<(l.length:Int) by omega)]
   try refine RUN ?_
   by_cases d2:i<6
   ·rw [decide_eq_true (show (i:Int)<6 by omega)]
    rw [decide_eq_true ⟨d1,d2⟩] at hB
    subst hB
    try refine RUN ?_
    exact ⟨(),⟨rfl,trivial⟩,sB,trivial,sB,rfl,Hp.Le.refl _⟩
   ·rw [decide_eq_false (show ¬ (i:Int)<6 by omega)]
    rw [decide_eq_false (fun k=>d2 k.2)] at hB
    subst hB
    try refine RUN ?_
    exact ⟨(),⟨rfl,trivial⟩,sB,trivial,sB,rfl,Hp.Le.refl _⟩
  ·rw [decide_eq_false (show ¬ (i:Int)<(l.length:Int) by omega)]
   rw [decide_eq_false (fun k=>d1 k.1)] at hB
   subst hB
   try refine RUN ?_
   exact ⟨(),⟨rfl,trivial⟩,sB,trivial,sB,rfl,Hp.Le.refl _⟩
 rintro _ G2 hG2
 cases B with
 | true =>
  obtain ⟨hil,h6⟩:=of_decide_eq_true hB
  obtain ⟨z,hz⟩:∃ z,l[i]?=some z:=⟨_,List.getElem?_eq_getElem hil⟩
  have hzb:=hb z (List.mem_of_getElem? hz)
  have hv2:=hv.mono (hG0.trans (hG1.trans hG2))
  have hat:(l.map iv)[i]?=some (iv z):=by rw [List.getElem?_map,hz];rfl
  obtain ⟨j3,hj3⟩:=Int.eq_ofNat_of_zero_le (Int.emod_nonneg z (show (3:Int)≠0 by decide))
  have hj3l:=Int.emod_lt_of_pos z (show (0:Int)<3 by decide)
  have p3:=pick_pv z 3 hzb (by decide) (by decide)
  have q3:=pick_pv (z.tdiv 3) 3 (tdiv_in hzb (by decide)) (by decide) (by decide)
  have q9:=pick_pv (z.tdiv 9) 5 (tdiv_in hzb (by decide)) (by decide) (by decide)
  have w3:=wtdiv (k:=3) hzb (by decide)
  have w9:=wtdiv (k:=9) hzb (by decide)
  rw [hj3] at p3 hj3l
  have wn:IntKind.i64.wrap ((i:Int)+1)=((i+1:Nat):Int):=wi_inc i oM
  have hnm:[UInt8.ofNat (97+i)]++[95]++([120,121,122]:List UInt8).drop j3=mName i z:=by
   unfold mName
   rw [hj3];rfl
  try refine RUN ?_
  apply EV.drawn 15 kR kR;intro xv yw
  (repeat refine' DD ?_)
  rw [wn]
  refine' DJ.strSlc (s:=⟨#[97,98,99,100,101,102]⟩) rfl rfl rfl rfl kR rfl i (i+1) (.inr ⟨_,IntKind.i64,rfl,rfl⟩) (.inr ⟨_,IntKind.i64,rfl,rfl⟩) oM (show i+1≤6 by omega) ?_;rotate_left
  rw [show (⟨#[97,98,99,100,101,102]⟩:ByteArray)=sb abcB from rfl,sb_cut,abc_at h6]
  refine' DJ.cat [UInt8.ofNat (97+i)] [95] rfl rfl rfl rfl rfl rfl (Nat.le_of_ble_eq_true rfl) (Nat.le_of_ble_eq_true rfl) ?_;rotate_left
  (repeat refine' DD ?_)
  refine' DJ.ofVal (ValOk.idx1 tO rfl rfl rfl rfl rfl rfl rfl rfl (hv2) (i) (rfl) (hil) (hat)) rfl rfl rfl ?_;rotate_left
  (repeat (first | refine' DD ?_ | (refine' DC (p3) (h:=?_);rotate_left)))
  refine' DJ.strSlc (s:=⟨#[120,121,122]⟩) rfl rfl rfl rfl kR rfl j3 3 (.inr ⟨_,IntKind.i64,rfl,rfl⟩) (.inl ⟨rfl,rfl⟩) oM (Nat.le_refl 3) ?_;rotate_left
  rw [show (⟨#[120,121,122]⟩:ByteArray)=sb [120,121,122] from rfl,sb_cut,List.take_of_length_le (l:=([120,121,122]:List UInt8).drop j3) (by rw [List.length_drop];exact Nat.le_refl _)]
  refine' DJ.cat ([UInt8.ofNat (97+i)]++[95]) (([120,121,122]:List UInt8).drop j3) rfl rfl rfl rfl rfl rfl (Nat.le_of_ble_eq_true rfl) (by rw [List.length_drop];show 3-j3≤_;omega) ?_;rotate_left
  rw [hnm]
  (repeat refine' DD ?_)
  (refine DJ.nil (fun G3 hG3 hF3=>?_);(case hS|hS2=>rfl))
  have hG13:=hG2.trans hG3
  have hsn:mColsFrom 0 (l.take (i+1))=mColsFrom 0 (l.take i)++[mCol i z]:=by
   rw [take_snoc hz,mFrom_snoc,List.length_take,Nat.min_eq_left hi,Nat.zero_add]
  try refine RUN ?_
  refine EVL.idxR tO rfl rfl rfl rfl rfl rfl rfl rfl rfl rfl ((hv2.mono hG3)) (i) (rfl) (hil) (hat) ?_
  try refine RUN ?_
  rw [w3]
  repeat (first | refine RUN ?_ | refine CV (q3) ?_ | refine CE (q3) ?_)
  by_cases h2:z.tdiv 3 % 3=2
  ·rw [show (z.tdiv 3 % 3 == 2)=true from beq_iff_eq.2 h2]
   obtain ⟨j9,hj9⟩:=Int.eq_ofNat_of_zero_le (Int.emod_nonneg (z.tdiv 9) (show (5:Int)≠0 by decide))
   have hj9l:=Int.emod_lt_of_pos (z.tdiv 9) (show (0:Int)<5 by decide)
   rw [hj9] at q9 hj9l
   have wk:IntKind.i64.wrap (1+(j9:Int))=((1+j9:Nat):Int):=by rw [IntKind.wrap_i64];omega
   have hc:mCol i z=⟨mName i z,2,mWords.take (1+j9)⟩:=by
    unfold mCol
    rw [if_pos h2,hj9];rfl
   have hkl:(mWords.take (1+j9)).length=1+j9:=by rw [List.length_take];show min (1+j9) 5=_;omega
   try refine RUN ?_
   refine EVL.idxR tO rfl rfl rfl rfl rfl rfl rfl rfl rfl rfl ((hv2.mono hG3)) (i) (rfl) (hil) (hat) ?_
   try refine RUN ?_
   rw [w9]
   repeat (first | refine RUN ?_ | refine CV (q9) ?_ | refine CE (q9) ?_)
   rw [wk]
   refine EVL.slc (te':=Tryz.te9) tO rfl rfl rfl rfl rfl rfl rfl rfl 0 (1+j9) (.inl ⟨rfl,rfl⟩) (.inr ⟨_,IntKind.i64,rfl,rfl⟩) (Nat.zero_le _) oM (Nat.le_refl 5) ?_
   rw [show 1+j9-0=(mWords.take (1+j9)).length by rw [hkl];rfl]
   try refine RUN ?_
   refine EVL.app1 tO rfl rfl rfl rfl rfl rfl rfl rfl rfl rfl rfl rfl rfl rfl rfl rfl rfl rfl rfl (fun _=>rfl) (ow) ([]) ((List.append_nil _).symm) (hown) oM fun _=>?_
   intro v' ow' hown'
   try refine RUN ?_
   rw [wn]
   have hpre:=(hw.mono (hG1.trans hG13)).pre (1+j9) (by show 1+j9≤5;omega) 1
   rw [show 1+j9-0=(mWords.take (1+j9)).length by rw [hkl];rfl] at hpre
   exact ⟨(i+1,v',css++[_],ow'),⟨rfl,rfl,trivial⟩,sB,trivial,sB,List.append_nil _,⟨hil,by dsimp only;omega,by dsimp only;rw [hsn,hc];exact (hcs.mono SCol.ok hG13).snoc ⟨_,_,hpre,rfl⟩,by dsimp only;rw [flatSn];exact hown'⟩,hG13,by dsimp only;omega⟩
  ·rw [show (z.tdiv 3 % 3 == 2)=false from beq_eq_false_iff_ne.2 h2]
   have hc:mCol i z=⟨mName i z,1,[]⟩:=by unfold mCol;rw [if_neg h2]
   try refine RUN ?_
   refine EVL.app1 tO rfl rfl rfl rfl rfl rfl rfl rfl rfl rfl rfl rfl rfl rfl rfl rfl rfl rfl rfl (fun _=>rfl) (ow) ([]) ((List.append_nil _).symm) (hown) oM fun _=>?_
   intro v' ow' hown'
   try refine RUN ?_
   rw [wn]
   exact ⟨(i+1,v',css++[_],ow'),⟨rfl,rfl,trivial⟩,sB,trivial,sB,List.append_nil _,⟨hil,by dsimp only;omega,by dsimp only;rw [hsn,hc];exact (hcs.mono SCol.ok hG13).snoc ⟨none,0,nil_sl _ _,rfl⟩,by dsimp only;rw [flatSn];exact hown'⟩,hG13,by dsimp only;omega⟩
 | false =>
  have hno:=of_decide_eq_false hB
  have htake:l.take 6=l.take i:=by
   by_cases q:i=6
   ·rw [q]
   ·have:i=l.length:=by
     by_cases q2:i<l.length
     ·exact absurd ⟨q2,by omega⟩ hno
     ·omega
    rw [this,List.take_length,List.take_of_length_le (by omega)]
  try refine RUN ?_
  by_cases h0:i=0
  ·subst h0
   rw [show (((0:Nat):Int) == 0)=true from rfl]
   have hl0:l=[]:=by
    rw [List.take_zero] at htake
    rcases l with _ | ⟨y,l⟩
    ·rfl
    ·cases htake
   try refine RUN ?_
   refine EVL.lit tO rfl rfl rfl rfl rfl rfl rfl rfl rfl rfl rfl fun b2=>?_
   (first | refine EVL.publish [] (ow) rfl fun G3 hG3 hb2=>?_ | refine EV.publish [] (ow) rfl fun G3 hG3 hb2=>?_)
   try refine RUN ?_
   have e:mCols l=[⟨[97],1,[]⟩]:=by unfold mCols;rw [if_pos hl0]
   rw [e]
   refine ⟨[[strV [97],.int .i64 1,.slice none 0 0]],LsR.nil.snoc ⟨none,0,nil_sl _ _,rfl⟩,rfl,.inr ⟨b2,0,1,_,rfl,Nat.le_refl _,hb2,fun j x hj=>?_⟩⟩
   rw [Nat.zero_add];simpa using hj
  ·rw [show ((i:Int) == 0)=false from beq_eq_false_iff_ne.2 (by omega)]
   (first | refine EVL.publishL [] ow [] ((List.append_nil _).symm) hown fun G3 hG3 hs3=>?_ | refine EV.publishL [] ow [] ((List.append_nil _).symm) hown fun G3 hG3 hs3=>?_)
   try refine RUN ?_
   have hlen:i=(mColsFrom 0 (l.take i)).length:=by rw [mFrom_len,List.length_take];omega
   have e:mCols l=mColsFrom 0 (l.take i):=by
    unfold mCols
    rw [if_neg,htake]
    rintro rfl
    rw [List.length_nil] at hi
    omega
   rw [e]
   exact ⟨css,hcs.mono SCol.ok (hG2.trans hG3),by rw [← hlen];exact hs3⟩
set_option maxRecDepth 100000 in
set_option maxHeartbeats 8000000 in
theorem mCell_pc {H:Hp} {cs:List Value} {c:ColT} (hc:SCol H cs c) (n:Int) (hn:i64b n) (hk:c.kind≠1→1≤c.words.length) (hw:c.words.length≤1000000):PC prog 39 #[.agg cs.toArray,.int .i64 n] H fun r H'=>∃ cs',r=.agg cs'.toArray∧RCell H' cs' (mCell c n):=by
 have hof:=fun G:Hp=>refOf_pc (H:=G) 0 oM oM
 have p9:=pick_pv n 9 hn (by decide) (by decide)
 have w9:=wtdiv (k:=9) hn (by decide)
 have hm:mCell c n=if n % 9=8 then ⟨true,0,0⟩ else if c.kind=1 then ⟨false,rNum (n.tdiv 9),0⟩ else ⟨false,0,((n.tdiv 9) % (c.words.length:Int)).toNat⟩:=rfl
 obtain ⟨a,m,hws,rfl⟩:=hc
 refine BD func39 ntmps39 ?_
 repeat (first | refine RUN ?_ | refine CV (p9) ?_ | refine CE (p9) ?_)
 by_cases h8:n % 9=8
 ·rw [show (n % 9 == 8)=true from beq_iff_eq.2 h8]
  rw [if_pos h8] at hm
  try refine RUN ?_
  refine EVL.call rfl rfl rfl rfl rfl (hof _) ?_
  rintro w G1 hw1 hG1
  obtain ⟨ra,rl,rc,xa,xl,xc,rfl⟩:=rq_form hw1
  try refine RUN ?_
  rw [hm]
  exact ⟨_,rfl,rcell_of hw1 true 0⟩
 rw [show (n % 9 == 8)=false from beq_eq_false_iff_ne.2 h8]
 rw [if_neg h8] at hm
 try refine RUN ?_
 by_cases k1:c.kind=1
 ·rw [show ((c.kind:Int) == 1)=true by rw [k1];rfl]
  rw [if_pos k1] at hm
  try refine RUN ?_
  rw [w9]
  refine EVL.call rfl rfl rfl rfl rfl (r_pc (n.tdiv 9) (tdiv_in hn (by decide))) ?_
  rintro w G1 hw1 hG1
  obtain ⟨ra,rl,rc,xa,xl,xc,rfl⟩:=rq_form hw1
  try refine RUN ?_
  rw [hm]
  exact ⟨_,rfl,rcell_of hw1 false 0⟩
 rw [show ((c.kind:Int) == 1)=false from beq_eq_false_iff_ne.2 (by omega)]
 rw [if_neg k1] at hm
 have hk1:=hk k1
 have pk:=pick_pv (n.tdiv 9) (c.words.length:Int) (tdiv_in hn (by decide)) oM oM
 obtain ⟨j,hj⟩:=Int.eq_ofNat_of_zero_le (Int.emod_nonneg (n.tdiv 9) (show (c.words.length:Int)≠0 by omega))
 rw [hj] at pk hm
 try refine RUN ?_
 apply EV.drawn 7 kR kR;intro xv yw
 refine' DJ.call rfl rfl rfl rfl rfl (cO func86) (fun G hG hd=>hof G) (fun _ _ _ h k=>RQ.mono h k) ?_;rotate_left
 (repeat refine' DD ?_)
 rw [w9]
 (repeat (first | refine' DD ?_ | (refine' DC (pk) (h:=?_);rotate_left)))
 (refine DJ.nil (fun G2 hG2 hF2=>?_);(case hS|hS2=>rfl))
 have hw1:RQ G2 (xv 0) ((0:Int):Rat):=hF2.1
 obtain ⟨ra,rl,rc,xa,xl,xc,e⟩:=rq_form hw1
 rw [e] at hw1
 rw [e]
 try refine RUN ?_
 rw [hm]
 exact ⟨_,rfl,rcell_of hw1 false j⟩
def rawAt (cells:List Int) (w i k:Nat):Int:=cells.getD (i*w+k) ((i:Int)*7+(k:Int)*3)
def mRow (cells:List Int) (cols:List ColT) (i:Nat):List CellT:=cols.mapIdx fun k c=>mCell c (rawAt cells cols.length i k)
def mRows (cells:List Int) (cols:List ColT) (n:Nat):List (List CellT):=(List.range n).map (mRow cells cols)
theorem rawAt_b {cells:List Int} (hb:∀ z,z∈cells→i64b z) {w i k:Nat} (hi:i≤1000) (hk:k≤1000):i64b (rawAt cells w i k):=by
 unfold rawAt
 rw [List.getD_eq_getElem?_getD]
 cases h:cells[i*w+k]? with
 | none=>exact ⟨by show _≤(i:Int)*7+(k:Int)*3;omega,by show (i:Int)*7+(k:Int)*3<_;omega⟩
 | some z=>exact hb z (List.mem_of_getElem? h)
set_option maxRecDepth 100000 in
set_option maxHeartbeats 32000000 in
theorem mSheet_pc {H:Hp} {u v:Value} {cols cells:List Int} {rows:Int} (hu:IL H u cols) (hv:IL H v cells) (hbu:∀ z,z∈cols→i64b z) (hbv:∀ z,z∈cells→i64b z) (hr:i64b rows):PC prog 10 #[.agg #[u,v,.int .i64 rows]] H fun r H'=>∃ x y,r=.agg #[x,y]∧ColL H' x (mCols cols)∧RRows H' y (mRows cells (mCols cols) (rows % 13).toNat):=by
 have hC:=fun G (hG:H.Le G)=>mCols_pc (hu.mono hG) hbu
 have p13:=pick_pv rows 13 hr (by decide) (by decide)
 obtain ⟨R,hR⟩:=Int.eq_ofNat_of_zero_le (Int.emod_nonneg rows (show (13:Int)≠0 by decide))
 have hRl:=Int.emod_lt_of_pos rows (show (0:Int)<13 by decide)
 rw [hR] at p13 hRl
 rw [hR,Int.toNat_natCast]
 obtain ⟨⟨hc1,hc6⟩,hcok,_⟩:=mCols_ok cols
 have hcs:=mCols_s cols
 obtain ⟨a1,c1,rfl⟩:=SlC.val hu
 obtain ⟨a2,c2,rfl⟩:=SlC.val hv
 generalize mCols cols=C at *
 refine BD func10 ntmps10 ?_
 try refine RUN ?_
 refine EVL.call rfl rfl rfl rfl rfl (hC _ (Hp.Le.refl _)) ?_
 rintro _ G1 hcol hG1
 obtain ⟨xa,xc,rfl⟩:=hcol.val
 try refine RUN ?_
 refine EV.loopK (ι:=Nat × Value × List (List Value) × Ows) [1,2,3] [1,2] (fun q=>[(4,.v (.int .i64 ((q.1*C.length:Nat):Int))),(5,.v (.int .i64 (q.1:Int)))]) (fun q=>[(3,30,[.slice xa C.length xc,q.2.1])]) (fun q=>q.2.2.2) (fun q G=>q.1≤R∧LsR (Cel RRow) G q.2.2.1 (mRows cells C q.1)∧OwnL 58 1 q.2.1 q.1 q.2.2.1.flatten q.2.2.2) (fun q=>R-q.1) ((0,.slice none 0 0,[],[])) rfl rfl ⟨by dsimp only;rw [Nat.zero_mul];rfl,rfl,trivial⟩ ⟨rfl,trivial⟩ rfl (fun _=>rfl) (⟨Nat.zero_le _,LsR.nil,OwnL.nil _ _⟩) ?_
 rintro ⟨i,w,css,ow⟩ G2 hG2 ⟨hi,hrs,hown⟩
 dsimp only at hi hrs hown
 obtain ⟨wa,wc,rfl⟩:=hown.val
 repeat (first | refine RUN ?_ | refine CV (p13) ?_ | refine CE (p13) ?_)
 refine EV.cond rfl (fun hlt=>?_) (fun hlt=>?_)
 ·simp only [nN] at hlt
  have hiw:i*C.length≤72:=Nat.le_trans (Nat.mul_le_mul (show i≤12 by omega) hc6) (by decide)
  try refine RUN ?_
  refine EV.loopK (ι:=Nat × Value × List (List Value) × Ows) [1,2,3,5] [1,2,3] (fun q=>[(4,.v (.int .i64 ((i*C.length+q.1:Nat):Int))),(6,.v q.2.1),(7,.v (.int .i64 (q.1:Int)))]) (fun _=>[]) (fun q=>q.2.2.2++ow) (fun q G=>q.1≤C.length∧LsR RCell G q.2.2.1 ((mRow cells C i).take q.1)∧OwnL 98 5 q.2.1 q.1 q.2.2.1.flatten q.2.2.2) (fun q=>C.length-q.1) ((0,.slice none 0 0,[],[])) rfl rfl ⟨rfl,rfl,rfl,trivial⟩ trivial rfl (fun _=>rfl) (⟨Nat.zero_le _,LsR.nil,OwnL.nil _ _⟩) ?_
  rintro ⟨k,ru,css2,ow2⟩ G3 hG3 ⟨hk,hrs2,hown2⟩
  dsimp only at hk hrs2 hown2
  obtain ⟨za,zc,rfl⟩:=hown2.val
  try refine RUN ?_
  refine EV.cond rfl (fun hlt2=>?_) (fun hlt2=>?_)
  ·simp only [nN] at hlt2
   obtain ⟨c,hc⟩:∃ c,C[k]?=some c:=⟨_,List.getElem?_eq_getElem hlt2⟩
   have hH:=hG1.trans (hG2.trans hG3)
   have e7:IntKind.i64.wrap (IntKind.i64.wrap ((i:Int)*7)+IntKind.i64.wrap ((k:Int)*3))=(i:Int)*7+(k:Int)*3:=by rw [IntKind.wrap_i64,IntKind.wrap_i64,IntKind.wrap_i64];omega
   have wn:IntKind.i64.wrap (((i*C.length+k:Nat):Int)+1)=((i*C.length+(k+1):Nat):Int):=by rw [IntKind.wrap_i64];omega
   have wk:IntKind.i64.wrap ((k:Int)+1)=((k+1:Nat):Int):=wi_inc k oM
   try refine RUN ?_
   rw [e7]
   refine EV.meetK (ι:=Unit) [1,2,3,4,5,6,7] [1,2,3] (fun _=>[(8,.v (.int .i64 (rawAt cells C.length i k)))]) (fun _=>[]) (fun _=>ow2++ow) (fun _ G=>G3.Le G) rfl rfl (fun _=>rfl) ?_ ?_
   ·by_cases d1:i*C.length+k<cells.length
    ·rw [decide_eq_true (show ((i*C.length+k:Nat):Int)<(cells.length:Int) by omega)]
     obtain ⟨z,hz⟩:∃ z,cells[i*C.length+k]?=some z:=⟨_,List.getElem?_eq_getElem d1⟩
     have hraw:rawAt cells C.length i k=z:=by unfold rawAt;rw [List.getD_eq_getElem?_getD,hz];rfl
     rw [hraw]
     try refine RUN ?_
     refine EVL.idxR tO rfl rfl rfl rfl rfl rfl rfl rfl rfl rfl ((hv.mono hH)) ((i*C.length+k)) (rfl) (d1) ((by rw [List.getElem?_map,hz];rfl)) ?_
     try refine RUN ?_
     exact ⟨(),⟨rfl,trivial⟩,sB,trivial,sB,rfl,Hp.Le.refl _⟩
    ·rw [decide_eq_false (show ¬ ((i*C.length+k:Nat):Int)<(cells.length:Int) by omega)]
     have hraw:rawAt cells C.length i k=(i:Int)*7+(k:Int)*3:=by unfold rawAt;rw [List.getD_eq_getElem?_getD,List.getElem?_eq_none (by omega)];rfl
     rw [hraw]
     try refine RUN ?_
     exact ⟨(),⟨rfl,trivial⟩,sB,trivial,sB,rfl,Hp.Le.refl _⟩
   rintro _ G4 hG4
   have hraw:=rawAt_b hbv (w:=C.length) (i:=i) (k:=k) oM oM
   have hrow:(mRow cells C i)[k]?=some (mCell c (rawAt cells C.length i k)):=by unfold mRow;rw [List.getElem?_mapIdx,hc];rfl
   obtain ⟨dcs,hdcs,hdsl⟩:=hcol.mono SCol.ok (hG2.trans (hG3.trans hG4))
   obtain ⟨cc,hcut,hcc⟩:=hdcs.get SCol.ok hc
   have hcell:=mCell_pc hcc (rawAt cells C.length i k) hraw (fun q=>by
    rcases (hcok c (List.mem_of_getElem? hc)).kind with ⟨q1,_⟩ | ⟨_,q1,_⟩
    ·exact absurd q1 q
    ·exact q1) (Nat.le_trans (hcs c (List.mem_of_getElem? hc)).num (by decide))
   generalize rawAt cells C.length i k=z at *
   obtain ⟨a9,n9,_,rfl⟩:=hcc
   try refine RUN ?_
   rw [wn]
   refine EVL.idxM tO rfl rfl rfl rfl rfl rfl rfl rfl rfl (hdsl) (k) (rfl) (hlt2) (hcut) ?_
   try refine RUN ?_
   refine EVL.call rfl rfl rfl rfl rfl (hcell) ?_
   rintro _ G5 ⟨cs5,rfl,hcr⟩ hG5
   obtain ⟨yw,hyw,rfl⟩:=id hcr
   obtain ⟨ra,rl,rc,ya,yl,yc,rfl⟩:=rq_form hyw
   try refine RUN ?_
   refine EVL.app1 tO rfl rfl rfl rfl rfl rfl rfl rfl rfl rfl rfl rfl rfl rfl rfl rfl rfl rfl rfl (fun _=>rfl) (ow2) (ow) (rfl) (hown2) oM fun _=>?_
   intro v' ow' hown'
   try refine RUN ?_
   rw [wk]
   exact ⟨(k+1,v',css2++[_],ow'),⟨rfl,rfl,rfl,trivial⟩,sB,trivial,sB,rfl,⟨hlt2,by dsimp only;rw [take_snoc hrow];exact (hrs2.mono RCell.ok (hG4.trans hG5)).snoc hcr,by dsimp only;rw [flatSn];exact hown'⟩,hG4.trans hG5,by dsimp only;omega⟩
  simp only [nN] at hlt2
  obtain rfl:k=C.length:=by omega
  have hrl:(mRow cells C i).length=C.length:=by unfold mRow;rw [List.length_mapIdx]
  rw [← hrl,List.take_length] at hrs2
  (first | refine EVL.publishL [] ow2 ow (rfl) hown2 fun G4 hG4 hs4=>?_ | refine EV.publishL [] ow2 ow (rfl) hown2 fun G4 hG4 hs4=>?_)
  have hrow:RRow G4 (.slice za C.length zc) (mRow cells C i):=⟨css2,hrs2.mono RCell.ok hG4,by rw [hrl];exact hs4⟩
  try refine RUN ?_
  refine EVL.app1 tO rfl rfl rfl rfl rfl rfl rfl rfl rfl rfl rfl rfl rfl rfl rfl rfl rfl rfl rfl (fun _=>rfl) (ow) ([]) ((List.append_nil _).symm) (hown) oM fun _=>?_
  intro v' ow' hown'
  obtain ⟨va,vc,rfl⟩:=hown'.val
  try refine RUN ?_
  rw [wi_inc i (by omega)]
  exact ⟨(i+1,.slice va (i+1) vc,css++[_],ow'),⟨by dsimp only;rw [Nat.succ_mul];rfl,rfl,trivial⟩,sB,⟨rfl,trivial⟩,sB,List.append_nil _,⟨hlt,by dsimp only;unfold mRows;rw [List.range_succ,List.map_append];exact (hrs.mono RRows.ok (hG3.trans hG4)).snoc ⟨_,rfl,hrow⟩,by dsimp only;rw [flatSn];exact hown'⟩,hG3.trans hG4,by dsimp only;omega⟩
 ·simp only [nN] at hlt
  obtain rfl:i=R:=by omega
  (first | refine EVL.publishL [] ow [] ((List.append_nil _).symm) hown fun G3 hG3 hs3=>?_ | refine EV.publishL [] ow [] ((List.append_nil _).symm) hown fun G3 hG3 hs3=>?_)
  try refine RUN ?_
  refine ⟨_,_,rfl,hcol.mono SCol.ok (hG2.trans hG3),css,hrs.mono RRows.ok hG3,?_⟩
  show SlC _ _ (mRows cells C i).length _ _
  rw [show (mRows cells C i).length=i by unfold mRows;rw [List.length_map,List.length_range]]
  exact hs3
section
variable {P:Program} {n:Nat} {ops:Array Oper} {o1 o2:Oper} {rest:List Oper} {env:Env} {bx:Bxs} {H:Hs} {Q:EQ} {d d1:Nat}
end
theorem mRows_ok (cells:List Int) (cols:List Int) (n:Nat) (hn:n≤12):ShOk (mCols cols) (mRows cells (mCols cols) n)∧(tSheet (mCols cols) (mRows cells (mCols cols) n)).length≤5000:=by
 obtain ⟨⟨h1,h2⟩,h3,h4⟩:=mCols_ok cols
 have h5:=mCols_s cols
 generalize mCols cols=C at *
 have hat:∀ i,∀ c x,(c,x)∈C.zip (mRow cells C i)→c∈C∧∃ z,x=mCell c z:=fun i c x h=>by
  obtain ⟨k,hk⟩:=List.mem_iff_getElem?.1 h
  have hk2:(C.zip (mRow cells C i))[k]?=some (c,x):=hk
  rw [List.zip,List.getElem?_zipWith] at hk2
  cases hc:C[k]? with
  | none=>rw [hc] at hk2;cases hk2
  | some c' =>
   have hm:(mRow cells C i)[k]?=some (mCell c' (rawAt cells C.length i k)):=by unfold mRow;rw [List.getElem?_mapIdx,hc];rfl
   rw [hc,hm] at hk2
   cases hk2
   exact ⟨List.mem_of_getElem? hc,_,rfl⟩
 have hrow:∀ row,row∈mRows cells C n→∃ i,row=mRow cells C i:=fun row h=>by
  obtain ⟨i,_,e⟩:=List.mem_map.1 h
  exact ⟨i,e.symm⟩
 have hok:ShOk C (mRows cells C n):=by
  refine ⟨h1,Nat.le_trans h2 (by decide),h3,h4,?_,fun row hr=>?_,fun row hr c x hz=>?_⟩
  ·unfold mRows;rw [List.length_map,List.length_range];omega
  ·obtain ⟨i,rfl⟩:=hrow row hr
   unfold mRow;rw [List.length_mapIdx]
  ·obtain ⟨i,rfl⟩:=hrow row hr
   obtain ⟨q1,z,rfl⟩:=hat i c x hz
   exact ⟨h3 c q1,mCell_ok (h3 c q1) z⟩
 refine ⟨hok,tSheet_len h2 (by unfold mRows;rw [List.length_map,List.length_range];exact hn) h5 fun row hr w hw=>?_⟩
 obtain ⟨i,rfl⟩:=hrow row hr
 obtain ⟨k,hk⟩:=List.mem_iff_getElem?.1 hw
 rw [List.getElem?_zipWith] at hk
 cases hc:C[k]? with
 | none=>rw [hc] at hk;cases hk
 | some c =>
  have hm:(mRow cells C i)[k]?=some (mCell c (rawAt cells C.length i k)):=by unfold mRow;rw [List.getElem?_mapIdx,hc];rfl
  rw [hc,hm] at hk
  cases hk
  exact mCell_len (h3 c (List.mem_of_getElem? hc)) (h5 c (List.mem_of_getElem? hc)) _
end Go.Proofs.YtbcfidllfimehaaGreatDoor
namespace Go.Proofs.YtbcfidllfimehaaGreatDoor
def ex6:List UInt8:=[120,58,110,117,109,98,101,114,44,107,58,99,104,111,105,99,101,40,97,124,98,41,10,49,47,50,44,98,10,63,44,63,10]
theorem ex6_eq:pSheet ex6=.ok ([⟨[120],1,[]⟩,⟨[107],2,[[97],[98]]⟩],[[⟨false,mkRat 1 2,0⟩,⟨false,0,1⟩],[⟨true,0,0⟩,⟨true,0,0⟩]]):=by kernel_rfl
def no6:List UInt8:=[120,58,110,117,109,98,101,114,10,49,44,50,10]
theorem no6_eq:pSheet no6=.error (5,2,0):=by kernel_rfl
end Go.Proofs.YtbcfidllfimehaaGreatDoor
namespace Go.Proofs.YtbcfidllfimehaaGreatDoor
open Go.RowKit _root_.Go.Proofs.Tryz
def FldsI (P:Program):Nat→List Field→Prop
 | _,[]=>True
 | j,f::r=>f.name ≠ "_" ∧ f.offset=j∧P.underlying f.type=some (.int .i64)∧FldsI P (j+1) r
theorem eqFields_i {P:Program} (d:Nat) (xs ys:List Int) (hl:xs.length=ys.length) (W:World):∀ (fs:List Field) (j:Nat),FldsI P j fs→j+fs.length=xs.length →
  (Op.eqFields (d+1) (xs.map (Value.int .i64)).toArray (ys.map (Value.int .i64)).toArray fs).run P W=.ok (decide (xs.drop j=ys.drop j)) W
 | [],j,_,hj=>by
  have h1:xs.drop j=[]:=List.drop_eq_nil_of_le (by simp at hj;omega)
  have h2:ys.drop j=[]:=List.drop_eq_nil_of_le (by simp at hj;omega)
  simp [Op.eqFields,h1,h2]
 | f::r,j,⟨h1,h2,h3,h4⟩,hj=>by
  have hx:j<xs.length:=by simp at hj;omega
  have hy:j<ys.length:=by omega
  have p1:(part f.type (xs.map (Value.int .i64)).toArray f.offset).run P W=.ok (.int .i64 xs[j]) W:=by
   simp [part,isAgg,run_underlying h3,h2,hx]
  have p2:(part f.type (ys.map (Value.int .i64)).toArray f.offset).run P W=.ok (.int .i64 ys[j]) W:=by
   simp [part,isAgg,run_underlying h3,h2,hy]
  unfold Op.eqFields
  rw [if_pos h1]
  simp only [Sem.run_bind,p1,p2,Result.andThen_ok,run_equalIn_int W d f.type .i64 .i64 _ _ h3]
  rw [List.drop_eq_getElem_cons hx,List.drop_eq_getElem_cons hy]
  by_cases e:xs[j]=ys[j]
  ·have e':(xs[j] == ys[j])=true:=by simpa using e
   simp only [e',Bool.not_true,Bool.false_eq_true,if_false]
   rw [eqFields_i d xs ys hl W r (j+1) h4 (by simp at hj;omega)]
   simp only [List.cons.injEq,e,true_and]
  ·have e':(xs[j] == ys[j])=false:=by simpa using e
   simp only [e',Bool.not_false,if_true,Sem.run_pure,List.cons.injEq,e,false_and,decide_false]
section
variable {P:Program} {n:Nat} {ops:Array Oper} {o:Oper} {rest:List Oper} {env:Env} {bx:Bxs} {H:Hs} {Q:EQ} {d:Nat}
theorem EVL.eqS {T T':TypeId} {x y:Operand} (xs ys:List Int) (ho:o.op=.binOp .eql T x y T') (hw:wantB ops env o=some true) (hd:o.dst=some d) (hn:Nat.blt d n=true) (hx:env.op x=some (.v (.agg (xs.map (Value.int .i64)).toArray))) (hy:env.op y=some (.v (.agg (ys.map (Value.int .i64)).toArray)))
  (hm:P.eqGuardType P.depth T=false) (hp:P.stoodInHeld T=false) (ht:P.underlying T=some (.struct (P.fieldsOf T))) (hf:FldsI P 0 (P.fieldsOf T).toList) (hq:(P.fieldsOf T).toList.length=xs.length) (hl:xs.length=ys.length)
  (h:EVL P n ops rest ((d,.v (.bool (decide (xs=ys))))::env) bx H Q):EVL P n ops (o::rest) env bx H Q :=
 EVL.gen hw hd hn (fun ev W he=>by
  have h1:=he x _ (by simp [ho,Op.operands]) hx
  have h2:=he y _ (by simp [ho,Op.operands]) hy
  have h3:=eqFields_i (P:=P) 9998 xs ys hl W (P.fieldsOf T).toList 0 hf oM
  rw [List.drop_zero,List.drop_zero] at h3
  have h4:(eqGuard .eql T x y (.agg (xs.map (Value.int .i64)).toArray) (.agg (ys.map (Value.int .i64)).toArray)).run P W=.ok () W:=run_eqGuard_agg W .eql T x y _ _ hm
  have h5:(binOp .eql T (.agg (xs.map (Value.int .i64)).toArray) (.agg (ys.map (Value.int .i64)).toArray)).run P W=.ok (.bool (decide (xs=ys))) W:=by
   rw [run_eql_struct,run_equalIn_struct W 9999 T _ _ ht hp,h3];rfl
  unfold execOp
  simp [ho,h1,h2,h4,h5]) h
end
set_option maxRecDepth 100000 in
theorem fault_flds:FldsI prog 0 (Tryz.prog.fieldsOf 40).toList:=⟨by decide +kernel,by kernel_rfl,by kernel_rfl,by decide +kernel,by kernel_rfl,by kernel_rfl,by decide +kernel,by kernel_rfl,by kernel_rfl,trivial⟩
set_option maxRecDepth 100000 in
theorem known6_pc {H:Hp}:PC prog 14 #[] H fun r _=>r=.bool true:=by
 have hp:=fun G:Hp=>sheetParse_pc (H:=G) ex6 (by decide)
 have hq:=fun G:Hp=>sheetParse_pc (H:=G) no6 (by decide)
 rw [ex6_eq] at hp
 rw [no6_eq] at hq
 refine BD func14 ntmps14 ?_
 try refine RUN ?_
 refine EVL.call rfl rfl rfl rfl rfl (hp _) ?_
 rintro _ G1 ⟨v,w,rfl,hc,hr⟩ hG1
 obtain ⟨a1,c1,rfl⟩:∃ a c,v=.slice a 2 c:=hc.val
 obtain ⟨a2,c2,rfl⟩:∃ a c,w=.slice a 2 c:=LR.val hr
 try refine RUN ?_
 refine EVL.call rfl rfl rfl rfl rfl (hq _) ?_
 rintro _ G2 ⟨rfl,_⟩ hG2
 obtain ⟨css,hcs,hsl⟩:=LR.mono PRows.ok hr hG2
 obtain ⟨q0,hcut0,v0,rfl,hr0⟩:=hcs.get PRows.ok (j:=0) rfl
 obtain ⟨q1,hcut1,v1,rfl,hr1⟩:=hcs.get PRows.ok (j:=1) rfl
 obtain ⟨b0,d0,rfl⟩:∃ a c,v0=.slice a 2 c:=LR.val hr0
 obtain ⟨b1,d1,rfl⟩:∃ a c,v1=.slice a 2 c:=LR.val hr1
 obtain ⟨cs0,hcs0,hsl0⟩:=hr0
 obtain ⟨cs1,hcs1,hsl1⟩:=hr1
 obtain ⟨_,hc01,rfl⟩:=hcs0.get PCell.ok (j:=1) rfl
 obtain ⟨_,hc10,rfl⟩:=hcs1.get PCell.ok (j:=0) rfl
 try refine RUN ?_
 refine EVL.eqS [0,0,0] [0,0,0] rfl rfl rfl rfl rfl rfl kR kR kR fault_flds kR rfl ?_
 rw [decide_eq_true rfl]
 try refine RUN ?_
 refine EVL.idxM tO rfl rfl rfl rfl rfl rfl rfl rfl rfl (hsl) (0) (rfl) ((by decide)) (hcut0) ?_
 try refine RUN ?_
 refine EVL.idxM tO rfl rfl rfl rfl rfl rfl rfl rfl rfl (hsl0) (1) (rfl) ((by decide)) (hc01) ?_
 try refine RUN ?_
 refine EVL.idxM tO rfl rfl rfl rfl rfl rfl rfl rfl rfl (hsl) (1) (rfl) ((by decide)) (hcut1) ?_
 try refine RUN ?_
 refine EVL.idxM tO rfl rfl rfl rfl rfl rfl rfl rfl rfl (hsl1) (0) (rfl) ((by decide)) (hc10) ?_
 try refine RUN ?_
 rfl
end Go.Proofs.YtbcfidllfimehaaGreatDoor
namespace Go.Proofs.YtbcfidllfimehaaGreatDoor
open Go.ChangeShapes Go.WideShapes Go.ChangeAt Go.RowKit
def Raw6 (H:Hp) (v:Value):Prop:=∃ u w cols cells rows,v=.agg #[u,w,.int .i64 rows]∧(IL H u cols∧∀ z,z∈cols→i64b z)∧(IL H w cells∧∀ z,z∈cells→i64b z)∧i64b rows
theorem three_of {α:Type}:∀ {l:List α},l.length=3→∃ a b c,l=[a,b,c]
 | [a,b,c],_=>⟨a,b,c,rfl⟩
theorem raw6_open {H:Type} {enc:TypeId × Value→H} {w:World} {base:Nat} {spare:Nat→Bool} {held:Bool} {v:Value} {d:DataW H} {p:List MemPlace} (hv:∃ cs,v=.agg cs) (h:DataW.Trod enc Tryz.prog w base spare held 24 v d p):Raw6 (hpOf w) v:=by
 obtain ⟨cs,rfl⟩:=hv
 obtain ⟨fuel,h⟩:=h
 obtain ⟨xs,n,_,hx,hl,hlen,hf⟩:=DataW.trod_struct Tryz.underlying24 h
 rw [show Tryz.prog.cellsOf 24=3 from by kernel_rfl] at hl
 have hl4:cs.toList.length=3:=hl
 obtain ⟨l,rfl⟩:∃ l:List Value,cs=l.toArray:=⟨cs.toList,by simp⟩
 have hl4':l.length=3:=by simpa using hl4
 obtain ⟨c0,c1,c2,rfl⟩:=three_of hl4'
 have hx4:xs.length=3:=hlen
 have f0:DataW.trod enc Tryz.prog w base spare held n 22 (([c0,c1,c2].drop 0).take (Tryz.prog.cellsOf 22))=xs[0]?:=hf 0 _ rfl
 have f1:DataW.trod enc Tryz.prog w base spare held n 22 (([c0,c1,c2].drop 1).take (Tryz.prog.cellsOf 22))=xs[1]?:=hf 1 _ rfl
 have f2:DataW.trod enc Tryz.prog w base spare held n 3 (([c0,c1,c2].drop 2).take (Tryz.prog.cellsOf 3))=xs[2]?:=hf 2 _ rfl
 rw [show Tryz.prog.cellsOf 3=1 from by kernel_rfl] at f2
 rw [show Tryz.prog.cellsOf 22=1 from by kernel_rfl] at f0 f1
 rw [List.getElem?_eq_getElem (by omega)] at f0 f1 f2
 obtain ⟨a0,l0,k0,b0,e0,s0,d0⟩:=ints_open Tryz.underlying22 Tryz.underlying3 kR f0
 obtain ⟨a1,l1,k1,b1,e1,s1,d1⟩:=ints_open Tryz.underlying22 Tryz.underlying3 kR f1
 obtain ⟨z2,e2,_,w2⟩:=DataW.trod_int Tryz.underlying3 f2
 have g0:[c0]=[.slice a0 l0 k0]:=e0
 have g1:[c1]=[.slice a1 l1 k1]:=e1
 have g2:[c2]=[.int .i64 z2]:=e2
 cases g0;cases g1;cases g2
 exact ⟨_,_,b0,b1,z2,rfl,⟨s0,fun z hz=>i64_bounds (d0 z hz)⟩,⟨s1,fun z hz=>i64_bounds (d1 z hz)⟩,i64_bounds w2⟩
end Go.Proofs.YtbcfidllfimehaaGreatDoor
namespace Go.Proofs.YtbcfidllfimehaaGreatDoor
open Go.RowKit _root_.Go.Proofs.Tryz
theorem ShOk.sm {cs:List ColT} {rows:List (List CellT)} (h:ShOk cs rows):SmSh cs rows where
 ncols:=h.ck.ncols
 words:=h.ck.nwords
 nrows:=h.ck.nrows
 cells:=fun r hr=>⟨Nat.le_trans (h.small r hr).1 (by decide),fun x hx=>Nat.le_trans ((h.small r hr).2 x hx) (by decide)⟩
theorem KolAns.uni {α:Type} {R:Hp→Value→List α→Prop} {kind:Nat} {f:List (List CellT)→Nat→List α} {cs:List ColT} {rows:List (List CellT)} {at':Int} {r:Value} {G:Hp} (hn:R G (.slice none 0 0) []) (hs:∀ w l,R G w l→∃ a n c,w=.slice a n c) (h:KolAns R kind f cs rows at' r G) :
  ∃ a n c e,r=.tuple #[.slice a n c,.int .i64 e]∧((at'<0∨(cs.length:Int)≤at')→e=1∧n=0)∧∀ (k:Nat) (c':ColT),at'=(k:Int)→cs[k]?=some c'→(c'.kind≠kind→e=10∧n=0)∧(c'.kind=kind→e=(if lackK rows k=true then 20 else 0)∧R G (.slice a n c) (if lackK rows k=true then [] else f rows k)):=by
 have hout:∀ (k:Nat) (c:ColT),at'=(k:Int)→cs[k]?=some c→¬ (at'<0∨(cs.length:Int)≤at'):=fun k c e hc q=>by
  have:=(List.getElem?_eq_some_iff.1 hc).1
  omega
 have same:∀ (k k':Nat) (c c':ColT),at'=(k:Int)→cs[k]?=some c→at'=(k':Int)→cs[k']?=some c'→k=k'∧c=c':=fun k k' c c' e hc e' hc'=>by
  obtain rfl:k=k':=by omega
  rw [hc] at hc'
  exact ⟨rfl,Option.some.inj hc'⟩
 cases h with
 | out h e=>exact ⟨none,0,0,1,e,fun _=>⟨rfl,rfl⟩,fun k c e' hc=>absurd h (hout k c e' hc)⟩
 | other k c h hc hk e=>exact ⟨none,0,0,10,e,fun q=>absurd q (hout k c h hc),fun k' c' e' hc'=>by obtain ⟨rfl,rfl⟩:=same k k' c c' h hc e' hc';exact ⟨fun _=>⟨rfl,rfl⟩,fun q=>absurd q hk⟩⟩
 | lacks k c h hc hk hl e=>exact ⟨none,0,0,20,e,fun q=>absurd q (hout k c h hc),fun k' c' e' hc'=>by obtain ⟨rfl,rfl⟩:=same k k' c c' h hc e' hc';rw [if_pos hl,if_pos hl];exact ⟨fun q=>absurd hk q,fun _=>⟨rfl,hn⟩⟩⟩
 | full k c h hc hk hl w e hw =>
  obtain ⟨a,n,c2,rfl⟩:=hs w _ hw
  exact ⟨a,n,c2,0,e,fun q=>absurd q (hout k c h hc),fun k' c' e' hc'=>by obtain ⟨rfl,rfl⟩:=same k k' c c' h hc e' hc';rw [if_neg (by rw [hl];decide),if_neg (by rw [hl];decide)];exact ⟨fun q=>absurd hk q,fun _=>⟨rfl,hw⟩⟩⟩
theorem OutAns.uni {cs:List ColT} {rows:List (List CellT)} {at':Int} {r:Value} {G:Hp} (h:OutAns cs rows at' r G) :
  ∃ a n c a' n' c' e,r=.tuple #[.agg #[.slice a n c,.slice a' n' c'],.int .i64 e]∧((at'<0∨(cs.length:Int)≤at')→e=1∧n=0)∧∀ k:Nat,at'=(k:Int)→k<cs.length→(cs.length=1→e=1)∧(cs.length≠1→e=0∧n=cs.length-1∧n'=rows.length∧PRows G (.slice a' n' c') (rows.map fun x=>x.eraseIdx k)):=by
 cases h with
 | no h e=>exact ⟨none,0,0,none,0,0,1,e,fun _=>⟨rfl,rfl⟩,fun k e' hk=>⟨fun _=>rfl,fun q=>by omega⟩⟩
 | yes k h hk h2 a b e ha hb =>
  obtain ⟨a1,c1,rfl⟩:=ha.val
  obtain ⟨a2,c2,rfl⟩:=LR.val hb
  refine ⟨a1,_,c1,a2,_,c2,0,e,fun q=>by omega,fun k' e' hk'=>⟨fun q=>absurd q h2,fun _=>?_⟩⟩
  obtain rfl:k=k':=by omega
  exact ⟨rfl,by rw [List.length_eraseIdx,if_pos hk],List.length_map _,hb⟩
theorem SL_slice {enc:Int→Value} {H:Hp} {w:Value} {l:List Int} (h:SlN enc H w l):∃ a n c,w=.slice a n c:=by
 obtain ⟨a,c,rfl⟩:=SlC.val h
 exact ⟨a,_,c,rfl⟩
theorem QL_slice {H:Hp} {w:Value} {l:List Rat} (h:QL H w l):∃ a n c,w=.slice a n c:=by
 obtain ⟨a,c,rfl⟩:=SlC.val h
 exact ⟨a,_,c,rfl⟩
theorem QL_nil (H:Hp):QL H (.slice none 0 0) []:=⟨rfl,.inl ⟨rfl,_,_,rfl⟩⟩
theorem IL_nil (H:Hp):IL H (.slice none 0 0) []:=⟨rfl,.inl ⟨rfl,_,_,rfl⟩⟩
theorem RL_nil (H:Hp):RL H (.slice none 0 0) []:=⟨[],rfl,fun j x q h=>by (cases h),rfl,.inl ⟨rfl,_,_,rfl⟩⟩
theorem sameIntsC_pc {H:Hp} {u w:Value} {l:List Int} (hu:IL H u l) (hw:IL H w l) (hl:l.length≤1000000):PC prog 64 #[u,w] H fun r _=>r=.bool true:=by
 obtain ⟨a,cap,rfl⟩:=SlC.val hu
 obtain ⟨a2,cap2,rfl⟩:=SlC.val hw
 refine BD func64 ntmps64 ?_
 try refine RUN ?_
 rw [show ((l.length:Int) != (l.length:Int))=false from bne_self_eq_false _]
 try refine RUN ?_
 refine EV.loopK (ι:=Nat) [0,1] [] (fun q=>[(5,.v (.int .i64 (q:Int)))]) (fun _=>[]) (fun _=>[]) (fun q _=>q≤l.length) (fun q=>l.length-q) (0) rfl rfl ⟨rfl,trivial⟩ trivial rfl (fun _=>rfl) (Nat.zero_le _) ?_
 rintro i G1 hG1 hi
 try refine RUN ?_
 refine EV.cond rfl (fun hlt=>?_) (fun hlt=>?_)
 ·simp only [nN] at hlt
  obtain ⟨z,hz⟩:∃ z,l[i]?=some z:=⟨_,List.getElem?_eq_getElem hlt⟩
  have hu1:=hu.mono hG1
  have hw1:=hw.mono hG1
  try refine RUN ?_
  apply EV.drawn 9 kR kR;intro xv yw
  (repeat refine' DD ?_)
  refine' DJ.ofVal (ValOk.idx1 tO rfl rfl rfl rfl rfl rfl rfl rfl (hu1) (i) (rfl) (hlt) ((by rw [List.getElem?_map,hz];rfl))) rfl rfl rfl ?_;rotate_left
  (repeat refine' DD ?_)
  refine' DJ.ofVal (ValOk.idx1 tO rfl rfl rfl rfl rfl rfl rfl rfl (hw1) (i) (rfl) (hlt) ((by rw [List.getElem?_map,hz];rfl))) rfl rfl rfl ?_;rotate_left
  (repeat refine' DD ?_)
  (refine DJ.nil (fun G hG hF=>?_);(case hS|hS2=>rfl))
  rw [show (z != z)=false from bne_self_eq_false _]
  try refine RUN ?_
  refine ⟨i+1,⟨by rw [wi_inc i (by omega)];rfl,trivial⟩,sB,trivial,sB,rfl,hlt,hG,by omega⟩
 ·(try refine RUN ?_)
  rfl
theorem oneB_take:∀ {l:List Value},oneB l=true→∀ k:Nat,oneB (l.take k)=true
 | l,h,0=>by rw [List.take_zero];rfl
 | [],_,_+1=>rfl
 | x::l,h,k+1=>by
  rw [List.take_succ_cons]
  simp only [oneB,Bool.and_eq_true] at h ⊢
  exact ⟨h.1,oneB_take h.2 k⟩
theorem rcellsO:∀ {H:Hp} {css:List (List Value)} {l:List CellT},LsR RCell H css l→oneB css.flatten=true
 | H,[],_,_=>rfl
 | H,c::css,[],h=>by have:=h.1;simp at this
 | H,c::css,x::l,h=>by
  rw [List.flatten_cons]
  have hc:oneB c=true:=by
   obtain ⟨w,hw,rfl⟩:=h.2 0 c x rfl rfl
   obtain ⟨_,_,_,_,_,_,rfl,_,_⟩:=hw
   rfl
  refine oneB_app hc (rcellsO (H:=H) (l:=l) ⟨?_,fun j c' n' e1 e2=>h.2 (j+1) c' n' (by rw [List.getElem?_cons_succ];exact e1) (by rw [List.getElem?_cons_succ];exact e2)⟩)
  have:=h.1
  simpa using this
theorem cut1 {l:List Value} {i:Nat} {v:Value} (h:(l.drop (i*1)).take 1=[v]):l[i]?=some v:=by
 rw [Nat.mul_one] at h
 have h2:=congrArg (fun z=>z[0]?) h
 simpa [List.getElem?_take,List.getElem?_drop] using h2
section
variable {P:Program} {n:Nat} {ops:Array Oper} {o:Oper} {rest:List Oper} {env:Env} {bx:Bxs} {H:Hs} {Q:EQ}
theorem EVL.unguard (hw:wantB ops env o=some true) (h:EVL P n ops ({ o with guard:=none }::rest) env bx H Q):EVL P n ops (o::rest) env bx H Q:=fun W0 β a W r=>by
 have h1:=h W0 β a W r
 unfold wpList at h1 ⊢
 rw [if_pos (r.want hw)]
 rw [if_pos (by rfl)] at h1
 exact h1
end
theorem erase_row {H:Hp} {ecs:List (List Value)} {row:List CellT} {k:Nat} {v:Value} {m:Nat} {z:List Value} (h:LsR RCell H ecs row) (hk:k<row.length) (hs:SlC H v m 5 z) (hz:z=ecs.flatten.take (k*5)++ecs.flatten.drop ((k+1)*5):=by rfl) (hm:m=(row.eraseIdx k).length:=by rfl):RRow H v (row.eraseIdx k):=by
 subst hz hm
 refine ⟨ecs.eraseIdx k,h.erase k,?_⟩
 rw [← flat_erase (h.all RCell.ok) k (by rw [h.1];exact hk)]
 exact hs
theorem er_cells {H:Hp} {ecs:List (List Value)} {row:List CellT} {k:Nat} (h:LsR RCell H ecs row) (hk:k<row.length):[]++(ecs.flatten.drop (0*5)).take ((k-0)*5)++(ecs.flatten.drop ((k+1)*5)).take ((row.length-(k+1))*5)=ecs.flatten.take (k*5)++ecs.flatten.drop ((k+1)*5):=by
 have hl:=flat_lenK (h.all RCell.ok)
 rw [h.1] at hl
 rw [List.nil_append,Nat.zero_mul,List.drop_zero,Nat.sub_zero,List.take_of_length_le (l:=ecs.flatten.drop ((k+1)*5)) (by rw [List.length_drop];omega)]
def RQs (H:Hp) (ws:List Value) (l:List Rat):Prop:=ws.length=l.length∧∀ (j:Nat) (x:Value) (q:Rat),ws[j]?=some x→l[j]?=some q→RQ H x q
theorem RQs.mono {H G:Hp} {ws:List Value} {l:List Rat} (h:RQs H ws l) (k:H.Le G):RQs G ws l:=⟨h.1,fun j x q e1 e2=>(h.2 j x q e1 e2).mono k⟩
set_option maxRecDepth 100000 in
set_option maxHeartbeats 64000000 in
theorem column6_pc {H:Hp} {u v u' v':Value} {cs:List ColT} {rows:List (List CellT)} (hu:ColL H u cs) (hv:PRows H v rows) (hu':ColL H u' cs) (hv':RRows H v' rows) (ok:ShOk cs rows) (at':Int):PC prog 24 #[.agg #[u,v],.agg #[u',v'],.int .i64 at'] H fun r _=>r=.bool true:=by
 have hnr:=ok.nrows
 have hwide:=ok.wide
 have hfew:=ok.few
 have hs1:=ok.some1
 have hsm:=ok.small
 have hnum:=Numbers_pc hu hv ok at'
 have hcho:=fun G (hG:H.Le G)=>Choices_pc (hu.mono SCol.ok hG) (LR.mono PRows.ok hv hG) ok at'
 have hwit:=fun G (hG:H.Le G)=>without_pc (hu.mono SCol.ok hG) (LR.mono PRows.ok hv hG) ok at'
 obtain ⟨ua,uc,rfl⟩:=hu.val
 obtain ⟨va,vc,rfl⟩:=LR.val hv
 obtain ⟨ccs,hcc,hcl⟩:=hu'
 obtain ⟨ua2,uc2,rfl⟩:=SlC.val hcl
 obtain ⟨dcs,hdc,hdl⟩:=hv'
 obtain ⟨va2,vc2,rfl⟩:=SlC.val hdl
 refine BD func24 ntmps24 ?_
 try refine RUN ?_
 refine EVL.call rfl rfl rfl rfl rfl (hnum) ?_
 intro r7 G7 ans7 hG7
 obtain ⟨a7,n7,c7,e7,rfl,ho7,hk7⟩:=ans7.uni (QL_nil _) (fun w l h=>QL_slice h)
 try refine RUN ?_
 refine EVL.call rfl rfl rfl rfl rfl (hcho _ hG7) ?_
 intro r9 G9 ans9 hG9
 obtain ⟨a9,n9,c9,e9,rfl,ho9,hk9⟩:=ans9.uni (IL_nil _) (fun w l h=>SL_slice h)
 try refine RUN ?_
 refine EVL.call rfl rfl rfl rfl rfl (hwit _ (hG7.trans hG9)) ?_
 intro r11 G11 ans11 hG11
 obtain ⟨a11,n11,c11,a12,n12,c12,e11,rfl,ho11,hk11⟩:=ans11.uni
 have hG:=hG7.trans (hG9.trans hG11)
 have hG911:=hG9.trans hG11
 try refine RUN ?_
 by_cases c1:at'<0
 ·obtain ⟨rfl,rfl⟩:=ho7 (.inl c1)
  obtain ⟨rfl,rfl⟩:=ho9 (.inl c1)
  obtain ⟨rfl,rfl⟩:=ho11 (.inl c1)
  rw [decide_eq_true c1]
  try refine RUN ?_
  rfl
 rw [decide_eq_false c1]
 try refine RUN ?_
 by_cases c2:at'≥(cs.length:Int)
 ·obtain ⟨rfl,rfl⟩:=ho7 (.inr c2)
  obtain ⟨rfl,rfl⟩:=ho9 (.inr c2)
  obtain ⟨rfl,rfl⟩:=ho11 (.inr c2)
  rw [decide_eq_true c2]
  try refine RUN ?_
  rfl
 rw [decide_eq_false c2]
 obtain ⟨k,rfl⟩:=Int.eq_ofNat_of_zero_le (show 0≤at' by omega)
 have hk:k<cs.length:=by omega
 obtain ⟨c,hc⟩:∃ c,cs[k]?=some c:=⟨_,List.getElem?_eq_getElem hk⟩
 have q7:=hk7 k c rfl hc
 have q9:=hk9 k c rfl hc
 have q11:=hk11 k rfl hk
 have wk:IntKind.i64.wrap ((k:Int)+1)=((k+1:Nat):Int):=wi_inc k oM
 have hrqn:∀ q,q∈numsK rows k→rq q:=fun q hq=>by
  obtain ⟨row,hr,rfl⟩:=List.mem_map.1 hq
  have hw:=hwide row hr
  have:cellAt row k∈row:=by unfold cellAt;rw [List.getD_eq_getElem?_getD,List.getElem?_eq_getElem (by omega)];exact List.getElem_mem _
  exact Nat.le_trans ((hsm row hr).2 _ this) (by decide)
 obtain ⟨colc,hcut,na,nn,_,rfl⟩:=hcc.get SCol.ok hc
 by_cases c3:cs.length=1
 ·obtain rfl:=q11.1 c3
  try refine RUN ?_
  rw [decide_eq_false (show ¬ (cs.length:Int)>1 by omega)]
  refine EVL.neb rfl rfl rfl rfl rfl rfl kR ?_
  try refine RUN ?_
  refine EV.loopK (ι:=Nat × Value × Value × Ows × Ows) [2,4,7,8,9,10,11,12] [4,11] (fun q=>[(13,.v (.bool (lackK (rows.take q.1) k))),(14,.v q.2.1),(15,.v q.2.2.1),(16,.v (.int .i64 (q.1:Int)))]) (fun _=>[]) (fun q=>q.2.2.2.1++q.2.2.2.2) (fun q G=>q.1≤rows.length∧(∃ ws,RQs G ws (numsK (rows.take q.1) k)∧OwnL 96 3 q.2.1 q.1 (ws.flatMap vlist) q.2.2.2.1)∧OwnL 3 1 q.2.2.1 q.1 ((wordsK (rows.take q.1) k).map iv) q.2.2.2.2) (fun q=>rows.length-q.1) ((0,.slice none 0 0,.slice none 0 0,[],[])) rfl rfl ⟨rfl,rfl,rfl,rfl,trivial⟩ trivial rfl (fun _=>rfl) (⟨Nat.zero_le _,⟨[],⟨rfl,fun j x q h=>by cases h⟩,OwnL.nil _ _⟩,OwnL.nil _ _⟩) ?_
  rintro ⟨i,v14,v15,o14,o15⟩ Gm hGm ⟨hi,⟨ws,hws,hn14⟩,hn15⟩
  dsimp only at hi hws hn14 hn15
  obtain ⟨a14,c14,rfl⟩:=hn14.val
  obtain ⟨a15,c15,rfl⟩:=hn15.val
  have hGt:=hG.trans hGm
  try refine RUN ?_
  refine EV.cond rfl (fun hlt=>?_) (fun hlt=>?_)
  ·simp only [nN] at hlt
   obtain ⟨row,hrow⟩:∃ x,rows[i]?=some x:=⟨_,List.getElem?_eq_getElem hlt⟩
   have hrw:=hwide row (List.mem_of_getElem? hrow)
   obtain ⟨rc,hrcut,rv,rfl,ecs,hes,hel⟩:=(hdc.mono RRows.ok hGt).get RRows.ok hrow
   obtain ⟨ra,rn,rfl⟩:=SlC.val hel
   have hdt:=hdl.mono hGt
   obtain ⟨x,hx⟩:∃ x,row[k]?=some x:=⟨_,List.getElem?_eq_getElem oM⟩
   obtain ⟨xc,hxcut,xw,hxw,rfl⟩:=hes.get RCell.ok hx
   have hxa:cellAt row k=x:=by unfold cellAt;rw [List.getD_eq_getElem?_getD,hx];rfl
   have hlk:=lackK_snoc (k:=k) hrow
   rw [hxa] at hlk
   have hnk:numsK (rows.take (i+1)) k=numsK (rows.take i) k++[x.q]:=by unfold numsK;rw [take1_snoc _ hrow,hxa]
   have hwdk:wordsK (rows.take (i+1)) k=wordsK (rows.take i) k++[(x.word:Int)]:=by unfold wordsK;rw [take1_snoc _ hrow,hxa]
   obtain ⟨qa,ql,qc,ya,yl,yc,rfl⟩:=rq_form hxw
   try refine RUN ?_
   refine EVL.idxM tO rfl rfl rfl rfl rfl rfl rfl rfl rfl (hdt) (i) (rfl) (hlt) (hrcut) ?_
   try refine RUN ?_
   refine EVL.idxM tO rfl rfl rfl rfl rfl rfl rfl rfl rfl (hel) (k) (rfl) (oM) (hxcut) ?_
   (repeat (first | refine EVL.val tO rfl rfl rfl rfl rfl ?_ | refine EVL.store tO rfl rfl rfl rfl rfl rfl rfl rfl rfl rfl rfl ?_ | refine EVL.alloc tO rfl rfl rfl rfl rfl rfl ?_ | refine EVL.box rfl rfl rfl rfl rfl rfl rfl ?_ | refine EVL.skip rfl rfl rfl ?_))
   refine EVL.nil ?_
   refine thenQ.normal ?_
   refine EV.seq ?_
   refine EV.meetK (ι:=Unit) [2,4,7,8,9,10,11,12,14,15,16,17] [4,11,17] (fun _=>[(13,.v (.bool (lackK (rows.take (i+1)) k)))]) (fun _=>[]) (fun _=>o14++o15) (fun _ G=>Gm.Le G) rfl rfl (fun _=>rfl) ?_ ?_
   ·cases hL:lackK (rows.take i) k with
    | true =>
     rw [hL,Bool.true_or] at hlk
     try refine RUN ?_
     exact ⟨(),⟨by rw [hlk];rfl,trivial⟩,sB,trivial,sB,rfl,Hp.Le.refl _⟩
    | false =>
     rw [hL,Bool.false_or] at hlk
     try refine RUN ?_
     exact ⟨(),⟨by rw [hlk];rfl,trivial⟩,sB,trivial,sB,rfl,Hp.Le.refl _⟩
   rintro _ Gn hGn
   have hxw2:=RQ.mono hxw hGn
   try refine RUN ?_
   refine EVL.app1 tO rfl rfl rfl rfl rfl rfl rfl rfl rfl rfl rfl rfl rfl rfl rfl rfl rfl rfl rfl (fun _=>rfl) (o14) (o15) (rfl) (hn14) oM fun _=>?_
   intro v14' o14' hn14'
   obtain ⟨b14,d14,rfl⟩:=hn14'.val
   try refine RUN ?_
   refine EVL.permOw (o15++o14') List.perm_append_comm ?_
   refine EVL.app1 tO rfl rfl rfl rfl rfl rfl rfl rfl rfl rfl rfl rfl rfl rfl rfl rfl rfl rfl rfl (fun _=>rfl) (o15) (o14') (rfl) (hn15) oM fun _=>?_
   intro v15' o15' hn15'
   obtain ⟨b15,d15,rfl⟩:=hn15'.val
   refine EVL.permOw (o14'++o15') List.perm_append_comm ?_
   try refine RUN ?_
   apply EV.drawn 30 kR kR;intro xv yw
   (repeat refine' DD ?_)
   (refine DJ.nil (fun G5 hG5 hF5=>?_);(case hS|hS2=>rfl))
   try refine RUN ?_
   rw [wi_inc i (by omega)]
   exact ⟨(i+1,.slice b14 (i+1) d14,.slice b15 (i+1) d15,o14',o15'),⟨rfl,rfl,rfl,rfl,trivial⟩,sB,trivial,sB,rfl,⟨hlt,⟨ws++[_],by dsimp only;rw [hnk];exact rel_snoc (hws.mono (hGn.trans hG5)) (RQ.mono hxw (hGn.trans hG5)),by dsimp only;rw [List.flatMap_append];exact hn14'⟩,by dsimp only;rw [hwdk,List.map_append];exact hn15'⟩,(hGn.trans hG5),by dsimp only;omega⟩
  simp only [nN] at hlt
  obtain rfl:i=rows.length:=by omega
  rw [List.take_length] at hws hn15
  (first | refine EVL.publishL [] o14 o15 (rfl) hn14 fun G20 hG20 hs20=>?_ | refine EV.publishL [] o14 o15 (rfl) hn14 fun G20 hG20 hs20=>?_)
  (first | refine EVL.publishL [] o15 [] ((List.append_nil _).symm) hn15 fun G21 hG21 hs21=>?_ | refine EV.publishL [] o15 [] ((List.append_nil _).symm) hn15 fun G21 hG21 hs21=>?_)
  have hRL:RL G21 (.slice a14 rows.length c14) (numsK rows k):=⟨ws,hws.1,(hws.mono (hG20.trans hG21)).2,by show SlC _ _ (numsK rows k).length _ _;unfold numsK;rw [List.length_map];exact hs20.mono hG21⟩
  have hIL:IL G21 (.slice a15 rows.length c15) (wordsK rows k):=by show SlC _ _ (wordsK rows k).length _ _;unfold wordsK;rw [List.length_map];exact hs21
  have hnl:(numsK rows k).length=rows.length:=by unfold numsK;rw [List.length_map]
  have hwl:(wordsK rows k).length=rows.length:=by unfold wordsK;rw [List.length_map]
  have hX:=hGm.trans (hG20.trans hG21)
  have hXt:=hGt.trans (hG20.trans hG21)
  have hclX:=hcl.mono hXt
  have fin:∀ (b:Bool) (vv:Value),True:=fun _ _=>trivial
  cases hL:lackK rows k with
  | true =>
   rw [hL,if_pos rfl,if_pos rfl] at q7 q9
   rw [List.take_length,hL]
   try refine RUN ?_
   have hXb:=hX
   try refine RUN ?_
   refine EVL.idxM tO rfl rfl rfl rfl rfl rfl rfl rfl rfl (hclX) (k) (rfl) (hk) (hcut) ?_
   try refine RUN ?_
   by_cases k1:c.kind=1
   ·obtain ⟨rfl,h7q⟩:=q7.2 k1
    obtain ⟨rfl,rfl⟩:=q9.1 oM
    rw [show ((c.kind:Int) == 1)=true by rw [k1];rfl]
    try refine RUN ?_
    refine EVL.call rfl rfl rfl rfl rfl (sameRow_pc (SlC.mono h7q (hG911.trans hXb)) (RL_nil _) (Nat.zero_le _) (fun q hq=>by cases hq)) ?_
    rintro _ _ rfl _
    try refine RUN ?_
    rfl
   ·have k2:c.kind=2:=by
     rcases (ok.cols c (List.mem_of_getElem? hc)).kind with ⟨q,_⟩ | ⟨q,_⟩
     ·exact absurd q k1
     ·exact q
    obtain ⟨rfl,h9q⟩:=q9.2 k2
    obtain ⟨rfl,rfl⟩:=q7.1 oM
    rw [show ((c.kind:Int) == 1)=false from beq_eq_false_iff_ne.2 (by omega)]
    try refine RUN ?_
    refine EVL.call rfl rfl rfl rfl rfl (sameIntsC_pc (SlC.mono h9q (hG11.trans hXb)) (IL_nil _) (Nat.zero_le _)) ?_
    rintro _ _ rfl _
    try refine RUN ?_
    rfl
  | false =>
   rw [hL,if_neg (by decide),if_neg (by decide)] at q7 q9
   rw [List.take_length,hL]
   try refine RUN ?_
   have hXb:=hX
   try refine RUN ?_
   refine EVL.idxM tO rfl rfl rfl rfl rfl rfl rfl rfl rfl (hclX) (k) (rfl) (hk) (hcut) ?_
   try refine RUN ?_
   by_cases k1:c.kind=1
   ·obtain ⟨rfl,h7q⟩:=q7.2 k1
    obtain ⟨rfl,rfl⟩:=q9.1 oM
    rw [show ((c.kind:Int) == 1)=true by rw [k1];rfl]
    try refine RUN ?_
    refine EVL.call rfl rfl rfl rfl rfl (sameRow_pc (SlC.mono h7q (hG911.trans hXb)) hRL oM hrqn) ?_
    rintro _ _ rfl _
    try refine RUN ?_
    rfl
   ·have k2:c.kind=2:=by
     rcases (ok.cols c (List.mem_of_getElem? hc)).kind with ⟨q,_⟩ | ⟨q,_⟩
     ·exact absurd q k1
     ·exact q
    obtain ⟨rfl,h9q⟩:=q9.2 k2
    obtain ⟨rfl,rfl⟩:=q7.1 oM
    rw [show ((c.kind:Int) == 1)=false from beq_eq_false_iff_ne.2 (by omega)]
    try refine RUN ?_
    refine EVL.call rfl rfl rfl rfl rfl (sameIntsC_pc (SlC.mono h9q (hG11.trans hXb)) hIL oM) ?_
    rintro _ _ rfl _
    try refine RUN ?_
    rfl
 obtain ⟨rfl,rfl,rfl,hcR⟩:=q11.2 c3
 try refine RUN ?_
 rw [decide_eq_true (show (cs.length:Int)>1 by omega)]
 try refine RUN ?_
 refine EVL.neb rfl rfl rfl rfl rfl rfl kR ?_
 try refine RUN ?_
 rw [show (((cs.length-1:Nat):Int) != IntKind.i64.wrap ((cs.length:Int)-1))=false from bne_eq_false_iff_eq.2 (by rw [IntKind.wrap_i64];omega)]
 try refine RUN ?_
 rw [bne_self_eq_false]
 try refine RUN ?_
 (first | refine EVL.unbox (4) rfl fun b4=>?_ | refine EV.unbox (4) rfl fun b4=>?_)
 (first | refine EVL.publish [] [] rfl fun Gp hGp hb4p=>?_ | refine EV.publish [] [] rfl fun Gp hGp hb4p=>?_)
 (first | refine EVL.unbox (11) rfl fun b11=>?_ | refine EV.unbox (11) rfl fun b11=>?_)
 (first | refine EVL.publish [] [] rfl fun Gq hGq hb11=>?_ | refine EV.publish [] [] rfl fun Gq hGq hb11=>?_)
 have hb4:=hGq _ _ hb4p
 have hGu:=hGp.trans hGq
 refine EV.loopK (ι:=Nat × Value × Value × Ows × Ows) [2,4,7,8,9,10,11,12] [] (fun q=>[(13,.v (.bool (lackK (rows.take q.1) k))),(14,.v q.2.1),(15,.v q.2.2.1),(16,.v (.int .i64 (q.1:Int)))]) (fun _=>[]) (fun q=>q.2.2.2.1++q.2.2.2.2) (fun q G=>q.1≤rows.length∧(∃ ws,RQs G ws (numsK (rows.take q.1) k)∧OwnL 96 3 q.2.1 q.1 (ws.flatMap vlist) q.2.2.2.1)∧OwnL 3 1 q.2.2.1 q.1 ((wordsK (rows.take q.1) k).map iv) q.2.2.2.2) (fun q=>rows.length-q.1) ((0,.slice none 0 0,.slice none 0 0,[],[])) rfl rfl ⟨rfl,rfl,rfl,rfl,trivial⟩ trivial rfl (fun _=>rfl) (⟨Nat.zero_le _,⟨[],⟨rfl,fun j x q h=>by cases h⟩,OwnL.nil _ _⟩,OwnL.nil _ _⟩) ?_
 rintro ⟨i,v14,v15,o14,o15⟩ Gm hGm ⟨hi,⟨ws,hws,hn14⟩,hn15⟩
 dsimp only at hi hws hn14 hn15
 obtain ⟨a14,c14,rfl⟩:=hn14.val
 obtain ⟨a15,c15,rfl⟩:=hn15.val
 have hGt:=(hG.trans hGu).trans hGm
 try refine RUN ?_
 refine EVL.fldB tO rfl rfl rfl rfl rfl rfl rfl ?_
 refine EVL.loadP tO rfl rfl rfl rfl rfl rfl (hGm _ _ hb4) (l:=[.slice va2 rows.length vc2]) (fun j u hj=>by cases j with | zero=>exact hj | succ j=>simp at hj) rfl rfl ?_
 try refine RUN ?_
 refine EV.cond rfl (fun hlt=>?_) (fun hlt=>?_)
 ·simp only [nN] at hlt
  obtain ⟨row,hrow⟩:∃ x,rows[i]?=some x:=⟨_,List.getElem?_eq_getElem hlt⟩
  have hrw:=hwide row (List.mem_of_getElem? hrow)
  obtain ⟨rc,hrcut,rv,rfl,ecs,hes,hel⟩:=(hdc.mono RRows.ok hGt).get RRows.ok hrow
  obtain ⟨ra,rn,rfl⟩:=SlC.val hel
  have hdt:=hdl.mono hGt
  obtain ⟨x,hx⟩:∃ x,row[k]?=some x:=⟨_,List.getElem?_eq_getElem oM⟩
  obtain ⟨xc,hxcut,xw,hxw,rfl⟩:=hes.get RCell.ok hx
  have hxa:cellAt row k=x:=by unfold cellAt;rw [List.getD_eq_getElem?_getD,hx];rfl
  have hlk:=lackK_snoc (k:=k) hrow
  rw [hxa] at hlk
  have hnk:numsK (rows.take (i+1)) k=numsK (rows.take i) k++[x.q]:=by unfold numsK;rw [take1_snoc _ hrow,hxa]
  have hwdk:wordsK (rows.take (i+1)) k=wordsK (rows.take i) k++[(x.word:Int)]:=by unfold wordsK;rw [take1_snoc _ hrow,hxa]
  obtain ⟨qa,ql,qc,ya,yl,yc,rfl⟩:=rq_form hxw
  try refine RUN ?_
  refine EVL.fldB tO rfl rfl rfl rfl rfl rfl rfl ?_
  refine EVL.loadP tO rfl rfl rfl rfl rfl rfl (hGm _ _ hb4) (l:=[.slice va2 rows.length vc2]) (fun j u hj=>by cases j with | zero=>exact hj | succ j=>simp at hj) rfl rfl ?_
  try refine RUN ?_
  refine EVL.idxM tO rfl rfl rfl rfl rfl rfl rfl rfl rfl (hdt) (i) (rfl) (hlt) (hrcut) ?_
  try refine RUN ?_
  refine EVL.idxM tO rfl rfl rfl rfl rfl rfl rfl rfl rfl (hel) (k) (rfl) (oM) (hxcut) ?_
  (repeat (first | refine EVL.val tO rfl rfl rfl rfl rfl ?_ | refine EVL.store tO rfl rfl rfl rfl rfl rfl rfl rfl rfl rfl rfl ?_ | refine EVL.alloc tO rfl rfl rfl rfl rfl rfl ?_ | refine EVL.box rfl rfl rfl rfl rfl rfl rfl ?_ | refine EVL.skip rfl rfl rfl ?_))
  refine EVL.nil ?_
  refine thenQ.normal ?_
  refine EV.seq ?_
  refine EV.meetK (ι:=Unit) [2,4,7,8,9,10,11,12,14,15,16,17] [17] (fun _=>[(13,.v (.bool (lackK (rows.take (i+1)) k)))]) (fun _=>[]) (fun _=>o14++o15) (fun _ G=>Gm.Le G) rfl rfl (fun _=>rfl) ?_ ?_
  ·cases hL:lackK (rows.take i) k with
   | true =>
    rw [hL,Bool.true_or] at hlk
    try refine RUN ?_
    exact ⟨(),⟨by rw [hlk];rfl,trivial⟩,sB,trivial,sB,rfl,Hp.Le.refl _⟩
   | false =>
    rw [hL,Bool.false_or] at hlk
    try refine RUN ?_
    exact ⟨(),⟨by rw [hlk];rfl,trivial⟩,sB,trivial,sB,rfl,Hp.Le.refl _⟩
  rintro _ Gn hGn
  have hxw2:=RQ.mono hxw hGn
  try refine RUN ?_
  refine EVL.app1 tO rfl rfl rfl rfl rfl rfl rfl rfl rfl rfl rfl rfl rfl rfl rfl rfl rfl rfl rfl (fun _=>rfl) (o14) (o15) (rfl) (hn14) oM fun _=>?_
  intro v14' o14' hn14'
  obtain ⟨b14,d14,rfl⟩:=hn14'.val
  try refine RUN ?_
  refine EVL.permOw (o15++o14') List.perm_append_comm ?_
  refine EVL.app1 tO rfl rfl rfl rfl rfl rfl rfl rfl rfl rfl rfl rfl rfl rfl rfl rfl rfl rfl rfl (fun _=>rfl) (o15) (o14') (rfl) (hn15) oM fun _=>?_
  intro v15' o15' hn15'
  obtain ⟨b15,d15,rfl⟩:=hn15'.val
  refine EVL.permOw (o14'++o15') List.perm_append_comm ?_
  try refine RUN ?_
  have hb4n:=hGn _ _ (hGm _ _ hb4)
  have hb11n:=hGn _ _ (hGm _ _ hb11)
  obtain ⟨dR,hdR,hsR⟩:=LR.mono PRows.ok hcR (hGu.trans (hGm.trans hGn))
  rw [List.length_map] at hsR
  obtain ⟨bR,oR,cR,arrR,eR,hbR,hcRc⟩:=SlC.expl hsR oM
  cases eR
  obtain ⟨bD,oD,cD,arrD,eD,hbD,hcDc⟩:=SlC.expl (hdt.mono hGn) oM
  cases eD
  obtain ⟨pc,hpcut,pv,rfl,hpr⟩:=hdR.get PRows.ok (show (rows.map fun x=>x.eraseIdx k)[i]?=some (row.eraseIdx k) by rw [List.getElem?_map,hrow];rfl)
  obtain ⟨pa,pcc,rfl⟩:=LR.val hpr
  have hrn:=hel.capLe
  have heln:=hel.mono hGn
  have hel1:=SlC.sub heln 0 k (Nat.zero_le _) oM hrn
  have hel2:=SlC.sub heln (k+1) row.length oM (Nat.le_refl _) hrn
  have hon:=rcellsO hes
  have hp1:=hel1
  have hp2:=hel2
  have ho1:=oneB_take (oneB_drop hon (0*5)) ((k-0)*5)
  have ho2:=oneB_take (oneB_drop hon ((k+1)*5)) ((row.length-(k+1))*5)
  have hqE:CellsQ (row.eraseIdx k):=by
   obtain ⟨q1,q2⟩:=ok.sm.cells row (List.mem_of_getElem? hrow)
   exact ⟨Nat.le_trans (by rw [List.length_eraseIdx];split <;> omega) q1,fun x hx=>q2 x (List.mem_of_mem_eraseIdx hx)⟩
  refine EV.meetK (ι:=Unit) [2,4,7,8,9,10,11,12,13,14,15,16] [] (fun _=>[(161,.v (.bool false))]) (fun _=>[]) (fun _=>o14'++o15') (fun _ G=>Gn.Le G) rfl rfl (fun _=>rfl) ?_ ?_
  ·refine EVG.start (Fits Gn) none ?_
   refine IV 0 ?_
   refine IV 1 ?_
   refine IV 2 ?_
   refine IF 3 ?_
   refine IRP 4 (b:=b11) (off:=0+1) (l:=[.slice (some ⟨bR,oR,none⟩) rows.length c12]) ?_ hb11n (fun j u hj=>by cases j with | zero=>exact hj | succ j=>simp at hj) rfl rfl
   refine IV 5 ?_
   refine IX 6 (q:=i) (m:=rows.length) ?_ rfl hlt
   refine IRP 7 (b:=bR) (off:=oR+i*1) (l:=[.slice pa (row.eraseIdx k).length pcc]) ?_ hbR (one_cell (by rw [Nat.mul_one];exact hcRc i _ (cut1 hpcut))) rfl rfl
   refine IF 10 ?_
   refine IRP 11 (b:=b4) (off:=0+1) (l:=[.slice (some ⟨bD,oD,none⟩) rows.length vc2]) ?_ hb4n (fun j u hj=>by cases j with | zero=>exact hj | succ j=>simp at hj) rfl rfl
   refine IV 12 ?_
   refine IX 13 (q:=i) (m:=rows.length) ?_ rfl hlt
   refine IRP 14 (b:=bD) (off:=oD+i*1) (l:=[.slice ra row.length rn]) ?_ hbD (one_cell (by rw [Nat.mul_one];exact hcDc i _ (cut1 hrcut))) rfl rfl
   refine IV 15 ?_
   refine IS 16 0 k (.inl ⟨rfl,rfl⟩) (.inr ⟨_,IntKind.i64,rfl,rfl⟩) (Nat.zero_le _) oM hrn ?_
   refine IF 18 ?_
   refine IRP 19 (b:=b4) (off:=0+1) (l:=[.slice (some ⟨bD,oD,none⟩) rows.length vc2]) ?_ hb4n (fun j u hj=>by cases j with | zero=>exact hj | succ j=>simp at hj) rfl rfl
   refine IV 20 ?_
   refine IX 21 (q:=i) (m:=rows.length) ?_ rfl hlt
   refine IRP 22 (b:=bD) (off:=oD+i*1) (l:=[.slice ra row.length rn]) ?_ hbD (one_cell (by rw [Nat.mul_one];exact hcDc i _ (cut1 hrcut))) rfl rfl
   refine IV 23 ?_
   refine IV 24 ?_
   rw [wk]
   refine IS 25 (k+1) row.length (.inr ⟨_,IntKind.i64,rfl,rfl⟩) (.inl ⟨rfl,rfl⟩) oM hrn hrn ?_
   refine EVG.two 8 9 (fitsI (Hp.Le.refl _)) kR rfl rfl ?_ ?_
   ·refine EVL.call rfl rfl rfl rfl rfl (outCells_pc hpr hqE) ?_
    rintro r8 Ga hr8 hGa
    obtain ⟨_,_,rfl⟩:=LR.val hr8
    refine EVL.nil ⟨rfl,?_⟩
    refine EVG.one 9 (fitsI hGa) kR rfl ?_
    refine EVL.unguard rfl ?_
    refine EVL.lit0 tO rfl rfl rfl rfl rfl rfl rfl fun g0=>?_
    refine EVL.nil ⟨rfl,?_⟩
    refine EVG.one 17 (fitsI hGa) kR rfl ?_
    refine EVL.unguard rfl ?_
    refine EVL.appendR tO rfl rfl rfl rfl rfl rfl rfl rfl rfl rfl rfl rfl rfl [] [(g0,98,[])] (o14'++o15') rfl (OwnL.full (m:=0) rfl oM) (SlC.mono hp1 hGa) ho1 oM ?_
    intro v1 o1 hw1
    obtain ⟨y1,z1,rfl⟩:=hw1.val
    refine EVL.nil ⟨rfl,?_⟩
    refine EVG.one 26 (fitsI hGa) kR rfl ?_
    refine EVL.unguard rfl ?_
    refine EVL.appendR tO rfl rfl rfl rfl rfl rfl rfl rfl rfl rfl rfl rfl rfl [] o1 (o14'++o15') rfl hw1 (SlC.mono hp2 hGa) ho2 oM ?_
    intro v2 o2 hw2
    obtain ⟨y2,z2,rfl⟩:=hw2.val
    (first | refine EVL.publishL [] o2 (o14'++o15') (rfl) hw2 fun Gc hGc hsc=>?_ | refine EV.publishL [] o2 (o14'++o15') (rfl) hw2 fun Gc hGc hsc=>?_)
    refine EVL.nil ⟨rfl,?_⟩
    have hsame:=erase_row (row:=row) (k:=k) (hes.mono RCell.ok (hGn.trans (hGa.trans hGc))) oM hsc (er_cells hes oM) (by rw [List.length_eraseIdx,if_pos (by omega)];omega)
    refine EVG.one 27 (fitsI (hGa.trans hGc)) kR rfl ?_
    refine EVL.call rfl rfl rfl rfl rfl (rsameCells_pc (RRow.mono hr8 ((Hp.Le.refl _).trans hGc)) hsame hqE) ?_
    rintro _ Gd rfl hGd
    refine EVL.nil ⟨rfl,?_⟩
    refine IV 28 ?_
    refine IV 29 ?_
    refine EVG.nil (fitsI (hGa.trans (hGc.trans hGd))) kR ?_
    exact ⟨(),⟨rfl,trivial⟩,sB,trivial,trivial,rfl,hGa.trans (hGc.trans hGd)⟩
   ·refine EVL.unguard rfl ?_
    refine EVL.lit0 tO rfl rfl rfl rfl rfl rfl rfl fun g0=>?_
    refine EVL.nil ⟨rfl,?_⟩
    refine EVG.one 8 (fitsI (Hp.Le.refl _)) kR rfl ?_
    refine EVL.call rfl rfl rfl rfl rfl (outCells_pc hpr hqE) ?_
    rintro r8 Ga hr8 hGa
    obtain ⟨_,_,rfl⟩:=LR.val hr8
    refine EVL.nil ⟨rfl,?_⟩
    refine EVG.one 17 (fitsI hGa) kR rfl ?_
    refine EVL.unguard rfl ?_
    refine EVL.appendR tO rfl rfl rfl rfl rfl rfl rfl rfl rfl rfl rfl rfl rfl [] [(g0,98,[])] (o14'++o15') rfl (OwnL.full (m:=0) rfl oM) (SlC.mono hp1 hGa) ho1 oM ?_
    intro v1 o1 hw1
    obtain ⟨y1,z1,rfl⟩:=hw1.val
    refine EVL.nil ⟨rfl,?_⟩
    refine EVG.one 26 (fitsI hGa) kR rfl ?_
    refine EVL.unguard rfl ?_
    refine EVL.appendR tO rfl rfl rfl rfl rfl rfl rfl rfl rfl rfl rfl rfl rfl [] o1 (o14'++o15') rfl hw1 (SlC.mono hp2 hGa) ho2 oM ?_
    intro v2 o2 hw2
    obtain ⟨y2,z2,rfl⟩:=hw2.val
    (first | refine EVL.publishL [] o2 (o14'++o15') (rfl) hw2 fun Gc hGc hsc=>?_ | refine EV.publishL [] o2 (o14'++o15') (rfl) hw2 fun Gc hGc hsc=>?_)
    refine EVL.nil ⟨rfl,?_⟩
    have hsame:=erase_row (row:=row) (k:=k) (hes.mono RCell.ok (hGn.trans (hGa.trans hGc))) oM hsc (er_cells hes oM) (by rw [List.length_eraseIdx,if_pos (by omega)];omega)
    refine EVG.one 27 (fitsI (hGa.trans hGc)) kR rfl ?_
    refine EVL.call rfl rfl rfl rfl rfl (rsameCells_pc (RRow.mono hr8 ((Hp.Le.refl _).trans hGc)) hsame hqE) ?_
    rintro _ Gd rfl hGd
    refine EVL.nil ⟨rfl,?_⟩
    refine IV 28 ?_
    refine IV 29 ?_
    refine EVG.nil (fitsI (hGa.trans (hGc.trans hGd))) kR ?_
    exact ⟨(),⟨rfl,trivial⟩,sB,trivial,trivial,rfl,hGa.trans (hGc.trans hGd)⟩
  rintro _ G5 hG5
  try refine RUN ?_
  rw [wi_inc i (by omega)]
  exact ⟨(i+1,.slice b14 (i+1) d14,.slice b15 (i+1) d15,o14',o15'),⟨rfl,rfl,rfl,rfl,trivial⟩,sB,trivial,sB,rfl,⟨hlt,⟨ws++[_],by dsimp only;rw [hnk];exact rel_snoc (hws.mono (hGn.trans hG5)) (RQ.mono hxw (hGn.trans hG5)),by dsimp only;rw [List.flatMap_append];exact hn14'⟩,by dsimp only;rw [hwdk,List.map_append];exact hn15'⟩,(hGn.trans hG5),by dsimp only;omega⟩
 simp only [nN] at hlt
 obtain rfl:i=rows.length:=by omega
 rw [List.take_length] at hws hn15
 (first | refine EVL.publishL [] o14 o15 (rfl) hn14 fun G20 hG20 hs20=>?_ | refine EV.publishL [] o14 o15 (rfl) hn14 fun G20 hG20 hs20=>?_)
 (first | refine EVL.publishL [] o15 [] ((List.append_nil _).symm) hn15 fun G21 hG21 hs21=>?_ | refine EV.publishL [] o15 [] ((List.append_nil _).symm) hn15 fun G21 hG21 hs21=>?_)
 have hRL:RL G21 (.slice a14 rows.length c14) (numsK rows k):=⟨ws,hws.1,(hws.mono (hG20.trans hG21)).2,by show SlC _ _ (numsK rows k).length _ _;unfold numsK;rw [List.length_map];exact hs20.mono hG21⟩
 have hIL:IL G21 (.slice a15 rows.length c15) (wordsK rows k):=by show SlC _ _ (wordsK rows k).length _ _;unfold wordsK;rw [List.length_map];exact hs21
 have hnl:(numsK rows k).length=rows.length:=by unfold numsK;rw [List.length_map]
 have hwl:(wordsK rows k).length=rows.length:=by unfold wordsK;rw [List.length_map]
 have hX:=hGm.trans (hG20.trans hG21)
 have hXt:=hGt.trans (hG20.trans hG21)
 have hclX:=hcl.mono hXt
 have fin:∀ (b:Bool) (vv:Value),True:=fun _ _=>trivial
 cases hL:lackK rows k with
 | true =>
  rw [hL,if_pos rfl,if_pos rfl] at q7 q9
  rw [List.take_length,hL]
  try refine RUN ?_
  have hXb:=hGu.trans hX
  (first | refine EVL.asRo 4 rfl (hX _ _ hb4) ?_ | refine EV.asRo 4 rfl (hX _ _ hb4) ?_)
  try refine RUN ?_
  refine EVL.idxM tO rfl rfl rfl rfl rfl rfl rfl rfl rfl (hclX) (k) (rfl) (hk) (hcut) ?_
  try refine RUN ?_
  by_cases k1:c.kind=1
  ·obtain ⟨rfl,h7q⟩:=q7.2 k1
   obtain ⟨rfl,rfl⟩:=q9.1 oM
   rw [show ((c.kind:Int) == 1)=true by rw [k1];rfl]
   try refine RUN ?_
   refine EVL.call rfl rfl rfl rfl rfl (sameRow_pc (SlC.mono h7q (hG911.trans hXb)) (RL_nil _) (Nat.zero_le _) (fun q hq=>by cases hq)) ?_
   rintro _ _ rfl _
   try refine RUN ?_
   rfl
  ·have k2:c.kind=2:=by
    rcases (ok.cols c (List.mem_of_getElem? hc)).kind with ⟨q,_⟩ | ⟨q,_⟩
    ·exact absurd q k1
    ·exact q
   obtain ⟨rfl,h9q⟩:=q9.2 k2
   obtain ⟨rfl,rfl⟩:=q7.1 oM
   rw [show ((c.kind:Int) == 1)=false from beq_eq_false_iff_ne.2 (by omega)]
   try refine RUN ?_
   refine EVL.call rfl rfl rfl rfl rfl (sameIntsC_pc (SlC.mono h9q (hG11.trans hXb)) (IL_nil _) (Nat.zero_le _)) ?_
   rintro _ _ rfl _
   try refine RUN ?_
   rfl
 | false =>
  rw [hL,if_neg (by decide),if_neg (by decide)] at q7 q9
  rw [List.take_length,hL]
  try refine RUN ?_
  have hXb:=hGu.trans hX
  (first | refine EVL.asRo 4 rfl (hX _ _ hb4) ?_ | refine EV.asRo 4 rfl (hX _ _ hb4) ?_)
  try refine RUN ?_
  refine EVL.idxM tO rfl rfl rfl rfl rfl rfl rfl rfl rfl (hclX) (k) (rfl) (hk) (hcut) ?_
  try refine RUN ?_
  by_cases k1:c.kind=1
  ·obtain ⟨rfl,h7q⟩:=q7.2 k1
   obtain ⟨rfl,rfl⟩:=q9.1 oM
   rw [show ((c.kind:Int) == 1)=true by rw [k1];rfl]
   try refine RUN ?_
   refine EVL.call rfl rfl rfl rfl rfl (sameRow_pc (SlC.mono h7q (hG911.trans hXb)) hRL oM hrqn) ?_
   rintro _ _ rfl _
   try refine RUN ?_
   rfl
  ·have k2:c.kind=2:=by
    rcases (ok.cols c (List.mem_of_getElem? hc)).kind with ⟨q,_⟩ | ⟨q,_⟩
    ·exact absurd q k1
    ·exact q
   obtain ⟨rfl,h9q⟩:=q9.2 k2
   obtain ⟨rfl,rfl⟩:=q7.1 oM
   rw [show ((c.kind:Int) == 1)=false from beq_eq_false_iff_ne.2 (by omega)]
   try refine RUN ?_
   refine EVL.call rfl rfl rfl rfl rfl (sameIntsC_pc (SlC.mono h9q (hG11.trans hXb)) hIL oM) ?_
   rintro _ _ rfl _
   try refine RUN ?_
   rfl
end Go.Proofs.YtbcfidllfimehaaGreatDoor
