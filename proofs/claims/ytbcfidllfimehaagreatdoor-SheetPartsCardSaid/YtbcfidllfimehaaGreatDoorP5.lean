/- Texts of ours in one: ThN, ThO, LaidE. -/
import Derived.Test.YtbcfidllfimehaaGreatDoorP0
import Derived.Test.YtbcfidllfimehaaGreatDoorP1
import Derived.Test.YtbcfidllfimehaaGreatDoorP4
import Derived.ProofKit
import Derived.OpenShut
import Derived.LaidMore
import Derived.Lay
import Derived.Stop.Joined
set_option linter.unusedVariables false
set_option linter.unusedSimpArgs false

namespace Go.Proofs.YtbcfidllfimehaaGreatDoor
open Go.RowKit _root_.Go.Proofs.Tryz
theorem TakeAns.uni {H:Hp} {r:Value} {cs:List ColT} {rows:List (List CellT)} {rs:List Int} (h:TakeAns H r cs rows rs) (ok:ShOk cs rows) (hl:rs.length≤300) :
  ∃ a n c a' n' c' e C' R',r=.tuple #[.agg #[.slice a n c,.slice a' n' c'],.int .i64 e]∧ColL H (.slice a n c) C'∧PRows H (.slice a' n' c') R'∧SmSh C' R'∧(inRw rows rs=true→e=0∧C'=cs∧R'=takeR rows rs)∧(inRw rows rs=false→e=1∧C'=[]∧R'=[]):=by
 rcases h with ⟨hin,u,v,rfl,hu,hv⟩ | ⟨hin,rfl⟩
 ·obtain ⟨a,c,rfl⟩:=hu.val
  obtain ⟨a',c',rfl⟩:=LR.val hv
  exact ⟨a,_,c,a',_,c',0,cs,takeR rows rs,rfl,hu,hv,(ok.take hin hl).sm,fun _=>⟨rfl,rfl,rfl⟩,fun q=>by rw [hin] at q;cases q⟩
 ·exact ⟨none,0,0,none,0,0,1,[],[],rfl,⟨[],LsR.nil,rfl,.inl ⟨rfl,_,_,rfl⟩⟩,⟨[],LsR.nil,rfl,.inl ⟨rfl,_,_,rfl⟩⟩,⟨Nat.zero_le _,fun c hc=>(by cases hc),Nat.zero_le _,fun r hr=>(by cases hr)⟩,fun q=>(by rw [hin] at q;cases q),fun _=>⟨rfl,rfl,rfl⟩⟩
theorem AddAns.mono {H G:Hp} {r:Value} {cs ds:List ColT} {rows rows2:List (List CellT)} (h:AddAns H r cs ds rows rows2) (k:H.Le G):AddAns G r cs ds rows rows2:=by
 rcases h with ⟨e,a,b,e2,h1,h2⟩ | h
 ·exact .inl ⟨e,a,b,e2,h1.mono SCol.ok k,LR.mono PRows.ok h2 k⟩
 ·exact .inr h
theorem AddAns.tup {H:Hp} {r:Value} {cs ds:List ColT} {rows rows2:List (List CellT)} (h:AddAns H r cs ds rows rows2):∃ vs:Array Value,r=.tuple vs∧vs.size=2:=by
 rcases h with ⟨e,a,b,rfl,_⟩ | ⟨_,rfl⟩
 ·exact ⟨_,rfl,rfl⟩
 ·exact ⟨_,rfl,rfl⟩
theorem AddAns.uni {H:Hp} {r:Value} {cs ds:List ColT} {rows rows2:List (List CellT)} (h:AddAns H r cs ds rows rows2) :
  ∃ a n c a' n' c' e X Y,r=.tuple #[.agg #[.slice a n c,.slice a' n' c'],.int .i64 e]∧ColL H (.slice a n c) X∧PRows H (.slice a' n' c') Y∧(cs=ds→e=0∧cs=X∧Y=rows++rows2)∧(cs≠ds→e=10∧n=0):=by
 rcases h with ⟨e,u,v,rfl,hu,hv⟩ | ⟨hn,rfl⟩
 ·obtain ⟨a,c,rfl⟩:=hu.val
  obtain ⟨a',c',rfl⟩:=LR.val hv
  exact ⟨a,_,c,a',_,c',0,cs,_,rfl,hu,hv,fun _=>⟨rfl,rfl,rfl⟩,fun q=>absurd e q⟩
 ·exact ⟨none,0,0,none,0,0,10,[],[],rfl,⟨[],LsR.nil,rfl,.inl ⟨rfl,_,_,rfl⟩⟩,⟨[],LsR.nil,rfl,.inl ⟨rfl,_,_,rfl⟩⟩,fun q=>absurd q hn,fun _=>⟨rfl,rfl⟩⟩
def wdI (cs:List ColT) (nm:List UInt8) (d:Nat):Int:=match colIx (cs.drop d) nm with
 | some p=>((p+d:Nat):Int)
 | none => -1
theorem wdI_end (cs:List ColT) (nm:List UInt8):wdI cs nm cs.length = -1:=by unfold wdI;rw [List.drop_length];rfl
theorem wdI_hit {cs:List ColT} {nm:List UInt8} {d:Nat} {c:ColT} (hc:cs[d]?=some c) (h:c.name=nm):wdI cs nm d=(d:Int):=by
 obtain ⟨hl,rfl⟩:=List.getElem?_eq_some_iff.1 hc
 unfold wdI colIx
 rw [List.drop_eq_getElem_cons hl,List.findIdx?_cons,decide_eq_true h,if_pos rfl]
 show ((0+d:Nat):Int)=_
 rw [Nat.zero_add]
theorem wdI_miss {cs:List ColT} {nm:List UInt8} {d:Nat} {c:ColT} (hc:cs[d]?=some c) (h:c.name≠nm):wdI cs nm d=wdI cs nm (d+1):=by
 obtain ⟨hl,rfl⟩:=List.getElem?_eq_some_iff.1 hc
 unfold wdI colIx
 rw [List.drop_eq_getElem_cons hl,List.findIdx?_cons,decide_eq_false h,if_neg (by decide)]
 cases List.findIdx? (fun c=>decide (c.name=nm)) (List.drop (d+1) cs) with
 | none=>rfl
 | some p=>show (((p+1)+d:Nat):Int)=((p+(d+1):Nat):Int);omega
theorem wdI_zero (cs:List ColT) (nm:List UInt8):wdI cs nm 0=match colIx cs nm with | some p=>(p:Int) | none => -1:=by
 unfold wdI;rw [List.drop_zero]
 cases colIx cs nm with
 | none=>rfl
 | some p=>rfl
theorem rows_oneR:∀ {H:Hp} {css:List (List Value)} {l:List (List CellT)},LsR (Cel RRow) H css l→oneB css.flatten=true
 | H,[],_,_=>rfl
 | H,c::css,[],h=>by have:=h.1;simp at this
 | H,c::css,x::l,h=>by
  rw [List.flatten_cons]
  have hc:oneB c=true:=by
   obtain ⟨v,rfl,hv⟩:=h.2 0 c x rfl rfl
   obtain ⟨_,_,rfl⟩:=LR.val hv
   rfl
  refine oneB_app hc (rows_oneR (H:=H) (l:=l) ⟨?_,fun j c' n' e1 e2=>h.2 (j+1) c' n' (by rw [List.getElem?_cons_succ];exact e1) (by rw [List.getElem?_cons_succ];exact e2)⟩)
  have:=h.1
  simpa using this
set_option maxRecDepth 100000 in
set_option maxHeartbeats 64000000 in
theorem sheetParts_pc {H:Hp} {v1 v2 v3:Value} {l:List Int} {at':Int} {nm:List UInt8} {own:Bool} (ha:Raw6 H v1) (hb:Raw6 H v2) (hr:IL H v3 l) (hat:i64b at'):PC prog 5 #[v1,v2,v3,.int .i64 at',strV nm,.bool own] H fun r _=>r=.bool true:=by
 obtain ⟨u,y,cols,cells,rows,rfl,⟨hc,hcb⟩,⟨hy,hyb⟩,hrr⟩:=ha
 obtain ⟨u2,y2,cols2,cells2,rows2,rfl,⟨hc2,hcb2⟩,⟨hy2,hyb2⟩,hrr2⟩:=hb
 have hn:(rows % 13).toNat≤12:=by have:=Int.emod_lt_of_pos rows (show (0:Int)<13 by decide);omega
 have hn2:(rows2 % 13).toNat≤12:=by have:=Int.emod_lt_of_pos rows2 (show (0:Int)<13 by decide);omega
 have hok:=(mRows_ok cells cols (rows % 13).toNat hn).1
 have hok2:=fun cs=>(mRows_ok cells2 cs (rows2 % 13).toNat hn2).1
 have hl12:(mRows cells (mCols cols) (rows % 13).toNat).length≤12:=by unfold mRows;rw [List.length_map,List.length_range];exact hn
 have hl2:∀ cs,(mRows cells2 (mCols cs) (rows2 % 13).toNat).length≤12:=fun cs=>by unfold mRows;rw [List.length_map,List.length_range];exact hn2
 have hM:=fun G (hG:H.Le G)=>mSheet_pc (hc.mono hG) (hy.mono hG) hcb hyb hrr
 have hM2:=fun G (hG:H.Le G)=>mSheet_pc (hc2.mono hG) (hy2.mono hG) hcb2 hyb2 hrr2
 have hM3:=fun G (hG:H.Le G)=>mSheet_pc (hc.mono hG) (hy2.mono hG) hcb hyb2 hrr2
 generalize mRows cells (mCols cols) (rows % 13).toNat=R at *
 have hc20:=hok.few
 obtain ⟨_,_,rfl⟩:=SlC.val hc
 obtain ⟨_,_,rfl⟩:=SlC.val hc2
 obtain ⟨_,_,rfl⟩:=SlC.val hy
 obtain ⟨_,_,rfl⟩:=SlC.val hy2
 obtain ⟨ra,rc,rfl⟩:=SlC.val hr
 have hrcap:l.length≤rc:=SlC.capLe hr
 refine BD func5 ntmps5 ?_
 try refine RUN ?_
 refine EVL.call rfl rfl rfl rfl rfl (hM _ (Hp.Le.refl _)) ?_
 rintro _ G1 ⟨x1,x2,rfl,h1,h2⟩ hG1
 obtain ⟨sa,sc,rfl⟩:=h1.val
 obtain ⟨ta,tc,rfl⟩:=LR.val h2
 try refine RUN ?_
 refine EVL.call rfl rfl rfl rfl rfl (hM2 _ hG1) ?_
 rintro _ G2 ⟨x1,x2,rfl,k1,k2⟩ hG2
 obtain ⟨ka,kc,rfl⟩:=k1.val
 obtain ⟨ja,jc,rfl⟩:=LR.val k2
 try refine RUN ?_
 refine EV.meetK (ι:=List ColT × List (List CellT) × Option Addr × Nat × Option Addr × Nat) [2,3,4,13,14] [13] (fun _=>[]) (fun q=>[(14,30,[.slice q.2.2.1 q.1.length q.2.2.2.1,.slice q.2.2.2.2.1 q.2.1.length q.2.2.2.2.2])]) (fun _=>[]) (fun q G=>G2.Le G∧ColL G (.slice q.2.2.1 q.1.length q.2.2.2.1) q.1∧RRows G (.slice q.2.2.2.2.1 q.2.1.length q.2.2.2.2.2) q.2.1∧ShOk q.1 q.2.1∧q.2.1.length≤12) rfl rfl (fun _=>rfl) ?_ ?_
 ·cases own with
  | true =>
   try refine RUN ?_
   refine EVL.call rfl rfl rfl rfl rfl (hM3 _ (hG1.trans hG2)) ?_
   rintro _ G3 ⟨x1,x2,rfl,m1,m2⟩ hG3
   obtain ⟨ma,mc,rfl⟩:=m1.val
   obtain ⟨na,nc,rfl⟩:=LR.val m2
   try refine RUN ?_
   exact ⟨(_,_,ma,mc,na,nc),trivial,sB,⟨rfl,trivial⟩,sB,rfl,hG3,m1,m2,hok2 cols,hl2 cols⟩
  | false =>
   try refine RUN ?_
   exact ⟨(_,_,ka,kc,ja,jc),trivial,sB,⟨rfl,trivial⟩,sB,rfl,Hp.Le.refl _,k1,k2,hok2 cols2,hl2 cols2⟩
 rintro ⟨D,S,da,dc,ea,ec⟩ G3 ⟨hG3,hd1,hd2,hokD,hS12⟩
 dsimp only at hd1 hd2 hokD hS12
 have hG13:=hG2.trans hG3
 have hk1:=h1.mono SCol.ok hG13
 have hk2:=LR.mono RRows.ok h2 hG13
 generalize mCols cols=C at *
 try refine RUN ?_
 refine EVL.call rfl rfl rfl rfl rfl (inSheet_pc hk1 hk2 hok.sm) ?_
 rintro _ G4 ⟨x1,x2,rfl,p1,p2⟩ hG4
 obtain ⟨pa,pc,rfl⟩:=p1.val
 obtain ⟨qa,qc,rfl⟩:=LR.val p2
 have hmin:min l.length 20≤l.length:=Nat.min_le_left _ _
 try refine RUN ?_
 rw [show (if (20:Int)<(l.length:Int) then (20:Int) else (l.length:Int))=((min l.length 20:Nat):Int) from by split <;> omega]
 refine EVL.slc (te':=Tryz.te3) tO rfl rfl rfl rfl rfl rfl rfl rfl 0 (min l.length 20) (.inl ⟨rfl,rfl⟩) (.inr ⟨_,IntKind.i64,rfl,rfl⟩) (Nat.zero_le _) oM hrcap ?_
 have hcap0:(if rc=0 then ra else Option.map (fun x:Addr=>x.add (0*1)) ra)=ra:=by
  split
  ·rfl
  ·cases ra <;> rfl
 have hrs:IL H (.slice (if rc=0 then ra else Option.map (fun x:Addr=>x.add (0*1)) ra) (min l.length 20-0) (rc-0)) (l.take 20):=by
  have h:=SlC.sub hr 0 (min l.length 20) (Nat.zero_le _) hmin hrcap
  rw [show ((l.map (fun z:Int=>Value.int .i64 z)).drop (0*1)).take ((min l.length 20-0)*1)=(l.take 20).map (fun z:Int=>Value.int .i64 z) by rw [Nat.zero_mul,List.drop_zero,Nat.sub_zero,Nat.mul_one,← List.map_take];congr 1;rw [List.take_eq_take_iff];omega] at h
  show SlC _ _ (l.take 20).length _ _
  rw [show (l.take 20).length=min l.length 20-0 by rw [List.length_take];omega]
  exact h
 obtain ⟨za,zn,zc,hz⟩:∃ a n c,Value.slice (if rc=0 then ra else Option.map (fun x:Addr=>x.add (0*1)) ra) (min l.length 20-0) (rc-0)=.slice a n c:=⟨_,_,_,rfl⟩
 have hzn:zn=(l.take 20).length:=by cases hz;rw [List.length_take];omega
 change EVL _ _ _ _ ((_,.v (Value.slice (if rc=0 then ra else Option.map (fun x:Addr=>x.add (0*1)) ra) (min l.length 20-0) (rc-0)))::_) _ _ _
 rw [hz] at hrs ⊢
 clear hz
 subst hzn
 have hr20:(l.take 20).length≤20:=by rw [List.length_take];omega
 generalize l.take 20=rs at *
 have hG14:=hG13.trans hG4
 have hpk:=pick_pv at' ((C.length+2:Nat):Int) hat oM oM
 have hwp:IntKind.i64.wrap ((C.length:Int)+2)=((C.length+2:Nat):Int):=by rw [IntKind.wrap_i64];omega
 try refine RUN ?_
 rw [hwp]
 repeat (first | refine RUN ?_ | refine CV (hpk) ?_ | refine CE (hpk) ?_)
 refine EVL.call rfl rfl rfl rfl rfl (take_pc p1 p2 (SlC.mono hrs (hG1.trans hG14)) hok oM) ?_
 intro r5 G5 ans5 hG5
 obtain ⟨t1,tn1,tc1,t2,tn2,tc2,e5,C5,R5,rfl,hC5,hR5,hsm5,hyes,hno⟩:=ans5.uni hok oM
 have hG35:=hG4.trans hG5
 (try refine RUNB ?_)
 have hG15:=hG1.trans (hG14.trans hG5)
 refine EV.meetK (ι:=Option Addr × Nat × Nat × Option Addr × Nat × Nat) [4,13,14,15,16,17,18] [13,14,15,17] (fun _=>[(19,.p 19 0),(20,.v (.int .i64 e5))]) (fun q=>[(19,30,[.slice q.1 q.2.1 q.2.2.1,.slice q.2.2.2.1 q.2.2.2.2.1 q.2.2.2.2.2])]) (fun _=>[]) (fun q G=>G5.Le G∧ColL G (.slice q.1 q.2.1 q.2.2.1) C5∧RRows G (.slice q.2.2.2.1 q.2.2.2.2.1 q.2.2.2.2.2) R5) rfl rfl (fun _=>rfl) ?_ ?_
 ·(try refine RUN ?_)
  refine EV.loopK (ι:=Nat × Bool × (Option Addr × Nat × Nat) × (Option Addr × Nat × Nat) × List (List Value) × Ows) [2,4,13,14,15,16,17,18,19] [13,14,15,17] (fun q=>[(20,.v (.int .i64 (if q.2.1=true then 1 else 0))),(21,.v (.int .i64 (q.1:Int)))]) (fun q=>[(19,30,[.slice q.2.2.1.1 q.2.2.1.2.1 q.2.2.1.2.2,.slice q.2.2.2.1.1 q.2.2.2.1.2.1 q.2.2.2.1.2.2])]) (fun q=>q.2.2.2.2.2) (fun q G=>q.1≤rs.length∧(q.2.1=true→inRw R rs=false∧q.2.2.1=(none,0,0)∧q.2.2.2.1=(none,0,0)∧q.2.2.2.2.2=[])∧(q.2.1=false→inRw R (rs.take q.1)=true∧q.2.2.1.2.1=C.length∧ColL G (.slice q.2.2.1.1 C.length q.2.2.1.2.2) C∧q.2.2.2.1.2.1=q.1∧LsR (Cel RRow) G q.2.2.2.2.1 (takeR R (rs.take q.1))∧OwnL 58 1 (.slice q.2.2.2.1.1 q.1 q.2.2.2.1.2.2) q.1 q.2.2.2.2.1.flatten q.2.2.2.2.2)) (fun q=>rs.length-q.1) ((0,false,(sa,C.length,sc),(none,0,0),[],[])) rfl rfl ⟨rfl,rfl,trivial⟩ ⟨rfl,trivial⟩ rfl (fun _=>rfl) (⟨Nat.zero_le _,fun q=>(by cases q),fun _=>(by exact ⟨rfl,rfl,hk1.mono SCol.ok hG35,rfl,LsR.nil,OwnL.nil _ _⟩)⟩) ?_
  rintro ⟨i,bad,⟨wa,wn,wc⟩,⟨xa,xn,xc⟩,ps,ow⟩ G6 hG6 ⟨hi,hbad,hgood⟩
  dsimp only at hi hbad hgood
  cases bad with
  | true =>
   obtain ⟨hinr,e1,e2,rfl⟩:=hbad rfl
   cases e1;cases e2
   obtain ⟨rfl,rfl,rfl⟩:=hno hinr
   try refine RUN ?_
   by_cases hlt:i<rs.length
   ·rw [decide_eq_true (show (i:Int)<(rs.length:Int) by omega)]
    try refine RUN ?_
    exact ⟨(none,0,0,none,0,0),⟨rfl,rfl,trivial⟩,sB,⟨rfl,trivial⟩,sB,rfl,hG6,⟨[],LsR.nil,rfl,.inl ⟨rfl,_,_,rfl⟩⟩,⟨[],LsR.nil,rfl,.inl ⟨rfl,_,_,rfl⟩⟩⟩
   ·rw [decide_eq_false (show ¬ (i:Int)<(rs.length:Int) by omega)]
    try refine RUN ?_
    exact ⟨(none,0,0,none,0,0),⟨rfl,rfl,trivial⟩,sB,⟨rfl,trivial⟩,sB,rfl,hG6,⟨[],LsR.nil,rfl,.inl ⟨rfl,_,_,rfl⟩⟩,⟨[],LsR.nil,rfl,.inl ⟨rfl,_,_,rfl⟩⟩⟩
  | false =>
  obtain ⟨hin,rfl,hwc,hxi,hps,hown⟩:=hgood rfl
  obtain rfl:=hxi.symm
  have hG36:=hG35.trans hG6
  have hrs6:=SlC.mono hrs (hG15.trans hG6)
  have hR6:=LR.mono RRows.ok hk2 hG36
  try refine RUN ?_
  by_cases hlt:i<rs.length
  case neg =>
   rw [decide_eq_false (show ¬ (i:Int)<(rs.length:Int) by omega)]
   obtain rfl:i=rs.length:=by omega
   rw [List.take_length] at hin hps
   obtain ⟨rfl,rfl,rfl⟩:=hyes hin
   (first | refine EVL.publishL [] ow [] ((List.append_nil _).symm) hown fun G7 hG7 hs7=>?_ | refine EV.publishL [] ow [] ((List.append_nil _).symm) hown fun G7 hG7 hs7=>?_)
   try refine RUN ?_
   exact ⟨(wa,_,wc,xa,rs.length,xc),⟨rfl,rfl,trivial⟩,sB,⟨rfl,trivial⟩,sB,rfl,hG6.trans hG7,hwc.mono SCol.ok hG7,by
    have:(takeR R rs).length=rs.length:=by unfold takeR;rw [List.length_map]
    exact ⟨ps,hps.mono RRows.ok hG7,by rw [this];exact hs7⟩⟩
  rw [decide_eq_true (show (i:Int)<(rs.length:Int) by omega)]
  obtain ⟨z,hz⟩:∃ z,rs[i]?=some z:=⟨_,List.getElem?_eq_getElem hlt⟩
  have hbadr:¬ (0≤z∧z<(R.length:Int))→inRw R rs=false:=fun k=>by
   rw [← Bool.not_eq_true]
   intro q
   exact k (of_decide_eq_true (List.all_eq_true.1 q z (List.mem_of_getElem? hz)))
  try refine RUN ?_
  by_cases c1:z<0
  ·apply EV.drawn 15 kR kR;intro xv yw
   (repeat refine' DD ?_)
   refine' DJ.ofVal (ValOk.idx1 tO rfl rfl rfl rfl rfl rfl rfl rfl (hrs6) (i) (rfl) (hlt) ((by rw [List.getElem?_map,hz];rfl))) rfl rfl rfl ?_;rotate_left
   (repeat refine' DD ?_)
   rw [decide_eq_true c1]
   (repeat refine' DD ?_)
   (refine DJ.nil (fun G8 hG8 hF8=>?_);(case hS|hS2=>rfl))
   (first | refine EVL.subOw [] ow [] (List.append_nil _).symm ?_ | refine EV.subOw [] ow [] (List.append_nil _).symm ?_)
   try refine RUN ?_
   rw [wi_inc i (by omega)]
   exact ⟨(i+1,true,(none,0,0),(none,0,0),[],[]),⟨rfl,rfl,trivial⟩,sB,⟨rfl,trivial⟩,sB,rfl,⟨hlt,fun _=>⟨hbadr oM,rfl,rfl,rfl⟩,fun q=>(by cases q)⟩,hG8,by dsimp only;omega⟩
  by_cases c2:z≥(R.length:Int)
  ·apply EV.drawn 15 kR kR;intro xv yw
   (repeat refine' DD ?_)
   refine' DJ.ofVal (ValOk.idx1 tO rfl rfl rfl rfl rfl rfl rfl rfl (hrs6) (i) (rfl) (hlt) ((by rw [List.getElem?_map,hz];rfl))) rfl rfl rfl ?_;rotate_left
   (repeat refine' DD ?_)
   rw [decide_eq_false c1]
   (repeat refine' DD ?_)
   refine' DJ.ofVal (ValOk.idx1 tO rfl rfl rfl rfl rfl rfl rfl rfl (hrs6) (i) (rfl) (hlt) ((by rw [List.getElem?_map,hz];rfl))) rfl rfl rfl ?_;rotate_left
   (repeat refine' DD ?_)
   rw [decide_eq_true c2]
   (repeat refine' DD ?_)
   (refine DJ.nil (fun G8 hG8 hF8=>?_);(case hS|hS2=>rfl))
   (first | refine EVL.subOw [] ow [] (List.append_nil _).symm ?_ | refine EV.subOw [] ow [] (List.append_nil _).symm ?_)
   try refine RUN ?_
   rw [wi_inc i (by omega)]
   exact ⟨(i+1,true,(none,0,0),(none,0,0),[],[]),⟨rfl,rfl,trivial⟩,sB,⟨rfl,trivial⟩,sB,rfl,⟨hlt,fun _=>⟨hbadr oM,rfl,rfl,rfl⟩,fun q=>(by cases q)⟩,hG8,by dsimp only;omega⟩
  apply EV.drawn 15 kR kR;intro xv yw
  (repeat refine' DD ?_)
  refine' DJ.ofVal (ValOk.idx1 tO rfl rfl rfl rfl rfl rfl rfl rfl (hrs6) (i) (rfl) (hlt) ((by rw [List.getElem?_map,hz];rfl))) rfl rfl rfl ?_;rotate_left
  (repeat refine' DD ?_)
  rw [decide_eq_false c1]
  (repeat refine' DD ?_)
  refine' DJ.ofVal (ValOk.idx1 tO rfl rfl rfl rfl rfl rfl rfl rfl (hrs6) (i) (rfl) (hlt) ((by rw [List.getElem?_map,hz];rfl))) rfl rfl rfl ?_;rotate_left
  (repeat refine' DD ?_)
  rw [decide_eq_false c2]
  (repeat refine' DD ?_)
  (refine DJ.nil (fun G8 hG8 hF8=>?_);(case hS|hS2=>rfl))
  obtain ⟨k,rfl⟩:=Int.eq_ofNat_of_zero_le (show 0≤z by omega)
  have hkl:k<R.length:=by omega
  obtain ⟨row,hrow⟩:∃ x,R[k]?=some x:=⟨_,List.getElem?_eq_getElem hkl⟩
  obtain ⟨dcs,hdc,hdl⟩:=LR.mono RRows.ok hR6 hG8
  obtain ⟨rcc,hrcut,rv,rfl,hrv⟩:=hdc.get RRows.ok hrow
  obtain ⟨rva,rvc,rfl⟩:=LR.val hrv
  try refine RUN ?_
  apply EV.drawn 11 kR kR;intro xv yw
  (repeat refine' DD ?_)
  refine' DJ.ofVal (ValOk.idx1 tO rfl rfl rfl rfl rfl rfl rfl rfl ((SlC.mono hrs6 hG8)) (i) (rfl) (hlt) ((by rw [List.getElem?_map,hz];rfl))) rfl rfl rfl ?_;rotate_left
  (repeat refine' DD ?_)
  refine' DJ.idxM tO rfl rfl rfl rfl rfl rfl rfl rfl rfl (hdl) (k) (rfl) (hkl) (hrcut) ?_;rotate_left
  (repeat refine' DD ?_)
  (refine' DJ.lit tO rfl rfl rfl rfl rfl rfl rfl rfl rfl rfl rfl rfl ?_;rotate_left)
  (refine DJ.nil (fun G9 hG9 hF9=>?_);(case hS|hS2=>rfl))
  have hget:R.getD (k:Int).toNat []=row:=by rw [Int.toNat_natCast,List.getD_eq_getElem?_getD,hrow];rfl
  refine EVL.append tO rfl rfl rfl rfl rfl rfl rfl rfl rfl rfl rfl rfl [] ow [] (List.append_nil _).symm hown (SrcAt.ro hF9.1 (Nat.succ_pos 0)) rfl oM ?_
  intro v8 ow8 hown8
  obtain ⟨ya,yc,rfl⟩:=hown8.val
  try refine RUN ?_
  rw [wi_inc i (by omega)]
  exact ⟨(i+1,false,(wa,C.length,wc),(ya,i+1,yc),ps++[_],ow8),⟨rfl,rfl,trivial⟩,sB,⟨rfl,trivial⟩,sB,List.append_nil _,⟨hlt,fun q=>(by cases q),fun _=>⟨by rw [take_snoc hz];unfold inRw at hin ⊢;rw [List.all_append,hin,List.all_cons,decide_eq_true (by omega)];rfl,rfl,hwc.mono SCol.ok (hG8.trans hG9),rfl,by dsimp only;rw [take_snoc hz];unfold takeR;rw [List.map_append,List.map_singleton,hget];exact (hps.mono RRows.ok (hG8.trans hG9)).snoc ⟨_,rfl,RRow.mono hrv hG9⟩,by dsimp only;rw [flatSn];exact hown8⟩⟩,hG8.trans hG9,by dsimp only;omega⟩
 rintro ⟨wa,wn,wc,xa,xn,xc⟩ G6 ⟨hG56,hw5,hx5⟩
 dsimp only at hw5 hx5
 have hoS:=fun G (hG:G6.Le G)=>outSheet_pc (hC5.mono SCol.ok (hG56.trans hG)) (LR.mono PRows.ok hR5 (hG56.trans hG)) hsm5
 have hsmS:=fun G (hG:G6.Le G) a b (k1:ColL G a C5) (k2:RRows G b R5)=>rsame_pc k1 k2 (hw5.mono SCol.ok hG) (LR.mono RRows.ok hx5 hG) hsm5
 have hG36:=hG35.trans hG56
 have hG46:=hG5.trans hG56
 try refine RUN ?_
 apply EV.drawn 14 kR kR;intro xv yw
 refine' DJ.callS rfl rfl rfl rfl rfl (cO func14) (fun G hG hd=>known6_pc) ?_;rotate_left
 (repeat refine' DD ?_)
 rw [bne_self_eq_false]
 (repeat refine' DD ?_)
 refine' DJ.call rfl rfl rfl rfl rfl (cO func16) (fun G hG hd=>hoS G hG) (fun _ _ _ h k=>(by obtain ⟨a,b,e,h1,h2⟩:=h;exact ⟨a,b,e,h1.mono SCol.ok k,LR.mono RRows.ok h2 k⟩)) ?_;rotate_left
 (repeat refine' DD ?_)
 refine' DJ.callS rfl rfl rfl rfl rfl (cO func15) (fun G hG hd=>(by obtain ⟨a,b,e,h1,h2⟩:=hd.head kR;rw [e];exact hsmS G hG a b h1 h2)) ?_;rotate_left
 (repeat refine' DD ?_)
 (refine DJ.nil (fun G7 hG7 hF7=>?_);(case hS|hS2=>rfl))
 have hG37:=hG36.trans hG7
 have hG47:=hG46.trans hG7
 have hinD:=fun G (hG:G7.Le G)=>inSheet_pc (hd1.mono SCol.ok (hG37.trans hG)) (LR.mono RRows.ok hd2 (hG37.trans hG)) hokD.sm
 have hadd:∀ (G:Hp) (hG:G7.Le G) (x:Value),(∃ a b,x=.agg #[a,b]∧ColL G a D∧PRows G b S)→PC prog 20 #[.agg #[.slice pa C.length pc,.slice qa R.length qc],x] G fun r G'=>AddAns G' r C D R S:=fun G hG x ⟨a,b,e,m1,m2⟩=>by
  rw [e]
  exact add_pc (p1.mono SCol.ok (hG47.trans hG)) (LR.mono PRows.ok p2 (hG47.trans hG)) m1 m2 hok hokD oM
 try refine RUN ?_
 apply EV.drawn 9 kR kR;intro xv yw
 (repeat refine' DD ?_)
 refine' DJ.call rfl rfl rfl rfl rfl (cO func17) (fun G hG hd=>hinD G hG) (fun _ _ _ h k=>(by obtain ⟨a,b,e,h1,h2⟩:=h;exact ⟨a,b,e,h1.mono SCol.ok k,LR.mono PRows.ok h2 k⟩)) ?_;rotate_left
 refine' DJ.call rfl rfl rfl rfl rfl (cO func20) (fun G hG hd=>hadd G hG _ (hd.head kR)) (fun _ _ _ h k=>AddAns.mono h k) ?_;rotate_left
 refine' DJ.copy (3) (by first | exact .inl rfl | exact .inr rfl) rfl rfl rfl id rfl kR ?_;rotate_left
 refine' DJ.extract (3) rfl rfl rfl rfl rfl kR (fun G hd=>(by obtain ⟨vs,e,h2⟩:=(hd.head kR).tup;exact ⟨_,e,by omega⟩)) ?_;rotate_left
 refine' DJ.extract (3) rfl rfl rfl rfl rfl kR (fun G hd=>(by obtain ⟨vs,e,h2⟩:=(hd.head kR).tup;exact ⟨_,e,by omega⟩)) ?_;rotate_left
 (repeat refine' DD ?_)
 refine' DJ.storeD tO rfl rfl rfl rfl (3) (tupAt 0) rfl rfl (7) rfl rfl kR kR rfl (fun G hd=>(by obtain ⟨_,_,_,_,_,_,_,_,_,e,_⟩:=(hd.head kR).uni;rw [e];exact ⟨rfl,rfl⟩)) ?_;rotate_left
 (refine DJ.nil (fun G8 hG8 hF8=>?_);(case hS|hS2=>rfl))
 obtain ⟨aa,an,ac,ba,bn,bc,e8,X8,Y8,er8,hX8,hY8,hy8,hn8⟩:=hF8.1.uni
 rw [er8]
 rw [show tupAt 1 (Value.tuple #[.agg #[.slice aa an ac,.slice ba bn bc],.int .i64 e8])=.int .i64 e8 from rfl,show vlist (tupAt 0 (Value.tuple #[.agg #[.slice aa an ac,.slice ba bn bc],.int .i64 e8]))=[.slice aa an ac,.slice ba bn bc] from rfl]
 have hG38:=hG37.trans hG8
 have hG48:=hG47.trans hG8
 try refine RUN ?_
 (first | refine EVL.unbox (13) rfl fun b13=>?_ | refine EV.unbox (13) rfl fun b13=>?_)
 (first | refine EVL.publish [] [] rfl fun Gp hGp hb13p=>?_ | refine EV.publish [] [] rfl fun Gp hGp hb13p=>?_)
 (first | refine EVL.unbox (14) rfl fun b14=>?_ | refine EV.unbox (14) rfl fun b14=>?_)
 (first | refine EVL.publish [] [] rfl fun Gq hGq hb14=>?_ | refine EV.publish [] [] rfl fun Gq hGq hb14=>?_)
 have hb13:=hGq _ _ hb13p
 have hG8q:=hGp.trans hGq
 have hkC:=hk1.mono SCol.ok (hG38.trans hG8q)
 have hkR:=LR.mono RRows.ok hk2 (hG38.trans hG8q)
 have hdC:=hd1.mono SCol.ok (hG38.trans hG8q)
 have hdS:=LR.mono RRows.ok hd2 (hG38.trans hG8q)
 obtain ⟨css1,hcs1,hsl1⟩:=id hkR
 obtain ⟨css2,hcs2,hsl2⟩:=id hdS
 have hone1:=rows_oneR hcs1
 have hone2:=rows_oneR hcs2
 have hfin:∀ (Gt:Hp) (y8:Option Addr) (z8:Nat),Gq.Le Gt→SlC Gt (.slice y8 (0+R.length+S.length) z8) (0+R.length+S.length) 1 ([]++css1.flatten++css2.flatten)→RRows Gt (.slice y8 (0+R.length+S.length) z8) (R++S):=fun Gt y8 z8 hGt hst=>by
  rw [Nat.zero_add] at hst ⊢
  exact ⟨css1++css2,(hcs1.mono RRows.ok hGt).app (hcs2.mono RRows.ok hGt),by rw [List.length_append,List.flatten_append];rw [List.nil_append] at hst;exact hst⟩
 refine EV.meetK (ι:=Option Addr × Nat) [4,13,14,15,16,22,23] [15,22] (fun _=>[(24,.p 24 0)]) (fun q=>[(24,30,[.slice sa C.length sc,.slice q.1 (0+R.length+S.length) q.2])]) (fun _=>[]) (fun q G=>Gq.Le G∧RRows G (.slice q.1 (0+R.length+S.length) q.2) (R++S)) rfl rfl (fun _=>rfl) ?_ ?_
 ·refine EVG.start (Fits Gq) none ?_
  refine IF 0 ?_
  refine IRP 1 (b:=b13) (off:=0+0) (l:=[.slice sa C.length sc]) ?_ hb13 (fun j u hj=>by cases j with | zero=>exact hj | succ j=>simp at hj) rfl rfl
  refine IF 3 ?_
  refine IRP 4 (b:=b13) (off:=0+1) (l:=[.slice ta R.length tc]) ?_ hb13 (fun j u hj=>by cases j with | zero=>exact hj | succ j=>simp at hj) rfl rfl
  refine IF 6 ?_
  refine IRP 7 (b:=b14) (off:=0+1) (l:=[.slice ea S.length ec]) ?_ hb14 (fun j u hj=>by cases j with | zero=>exact hj | succ j=>simp at hj) rfl rfl
  refine EVG.two 2 10 (fitsI (Hp.Le.refl _)) kR rfl rfl ?_ ?_
  ·refine EVL.lit0 tO rfl rfl rfl rfl rfl rfl rfl fun g0=>?_
   refine EVL.nil ⟨rfl,?_⟩
   refine EVG.two 5 10 (fitsI (Hp.Le.refl _)) kR rfl rfl ?_ ?_
   ·refine EVL.appendR tO rfl rfl rfl rfl rfl rfl rfl rfl rfl rfl rfl rfl rfl [] [(g0,58,[])] [] rfl (OwnL.full (m:=0) rfl oM) hsl1 hone1 oM ?_
    intro v5 o5 hw5'
    obtain ⟨y5,z5,rfl⟩:=hw5'.val
    refine EVL.nil ⟨rfl,?_⟩
    refine EVG.two 8 10 (fitsI (Hp.Le.refl _)) kR rfl rfl ?_ ?_
    ·refine EVL.appendR tO rfl rfl rfl rfl rfl rfl rfl rfl rfl rfl rfl rfl rfl [] o5 [] rfl hw5' hsl2 hone2 oM ?_
     intro v8 o8 hw8
     obtain ⟨y8,z8,rfl⟩:=hw8.val
     (first | refine EVL.publishL [] o8 [] (rfl) hw8 fun Gt hGt hst=>?_ | refine EV.publishL [] o8 [] (rfl) hw8 fun Gt hGt hst=>?_)
     refine EVL.nil ⟨rfl,?_⟩
     refine IV 9 ?_
     refine EVG.one 10 (fitsI (hGt)) kR rfl ?_
     (try refine RUNL ?_)
     refine EVL.nil ⟨rfl,?_⟩
     refine EVG.one 11 (fitsI (hGt)) kR rfl ?_
     (try refine RUNL ?_)
     refine EVL.nil ⟨rfl,?_⟩
     refine EVG.nil (fitsI hGt) kR ?_
     exact ⟨(y8,z8),⟨rfl,trivial⟩,sB,⟨rfl,trivial⟩,sB,rfl,hGt,hfin _ _ _ hGt hst⟩
    ·(try refine RUNL ?_)
     refine EVL.nil ⟨rfl,?_⟩
     refine EVG.one 8 (fitsI (Hp.Le.refl _)) kR rfl ?_
     refine EVL.appendR tO rfl rfl rfl rfl rfl rfl rfl rfl rfl rfl rfl rfl rfl [] o5 [] rfl hw5' hsl2 hone2 oM ?_
     intro v8 o8 hw8
     obtain ⟨y8,z8,rfl⟩:=hw8.val
     (first | refine EVL.publishL [] o8 [] (rfl) hw8 fun Gt hGt hst=>?_ | refine EV.publishL [] o8 [] (rfl) hw8 fun Gt hGt hst=>?_)
     refine EVL.nil ⟨rfl,?_⟩
     refine IV 9 ?_
     refine EVG.one 11 (fitsI (hGt)) kR rfl ?_
     (try refine RUNL ?_)
     refine EVL.nil ⟨rfl,?_⟩
     refine EVG.nil (fitsI hGt) kR ?_
     exact ⟨(y8,z8),⟨rfl,trivial⟩,sB,⟨rfl,trivial⟩,sB,rfl,hGt,hfin _ _ _ hGt hst⟩
   ·(try refine RUNL ?_)
    refine EVL.nil ⟨rfl,?_⟩
    refine EVG.one 5 (fitsI (Hp.Le.refl _)) kR rfl ?_
    refine EVL.appendR tO rfl rfl rfl rfl rfl rfl rfl rfl rfl rfl rfl rfl rfl [] [(g0,58,[])] [] rfl (OwnL.full (m:=0) rfl oM) hsl1 hone1 oM ?_
    intro v5 o5 hw5'
    obtain ⟨y5,z5,rfl⟩:=hw5'.val
    refine EVL.nil ⟨rfl,?_⟩
    refine EVG.one 8 (fitsI (Hp.Le.refl _)) kR rfl ?_
    refine EVL.appendR tO rfl rfl rfl rfl rfl rfl rfl rfl rfl rfl rfl rfl rfl [] o5 [] rfl hw5' hsl2 hone2 oM ?_
    intro v8 o8 hw8
    obtain ⟨y8,z8,rfl⟩:=hw8.val
    (first | refine EVL.publishL [] o8 [] (rfl) hw8 fun Gt hGt hst=>?_ | refine EV.publishL [] o8 [] (rfl) hw8 fun Gt hGt hst=>?_)
    refine EVL.nil ⟨rfl,?_⟩
    refine IV 9 ?_
    refine EVG.one 11 (fitsI (hGt)) kR rfl ?_
    (try refine RUNL ?_)
    refine EVL.nil ⟨rfl,?_⟩
    refine EVG.nil (fitsI hGt) kR ?_
    exact ⟨(y8,z8),⟨rfl,trivial⟩,sB,⟨rfl,trivial⟩,sB,rfl,hGt,hfin _ _ _ hGt hst⟩
  ·(try refine RUNL ?_)
   refine EVL.nil ⟨rfl,?_⟩
   refine EVG.one 2 (fitsI (Hp.Le.refl _)) kR rfl ?_
   refine EVL.lit0 tO rfl rfl rfl rfl rfl rfl rfl fun g0=>?_
   refine EVL.nil ⟨rfl,?_⟩
   refine EVG.one 5 (fitsI (Hp.Le.refl _)) kR rfl ?_
   refine EVL.appendR tO rfl rfl rfl rfl rfl rfl rfl rfl rfl rfl rfl rfl rfl [] [(g0,58,[])] [] rfl (OwnL.full (m:=0) rfl oM) hsl1 hone1 oM ?_
   intro v5 o5 hw5'
   obtain ⟨y5,z5,rfl⟩:=hw5'.val
   refine EVL.nil ⟨rfl,?_⟩
   refine EVG.one 8 (fitsI (Hp.Le.refl _)) kR rfl ?_
   refine EVL.appendR tO rfl rfl rfl rfl rfl rfl rfl rfl rfl rfl rfl rfl rfl [] o5 [] rfl hw5' hsl2 hone2 oM ?_
   intro v8 o8 hw8
   obtain ⟨y8,z8,rfl⟩:=hw8.val
   (first | refine EVL.publishL [] o8 [] (rfl) hw8 fun Gt hGt hst=>?_ | refine EV.publishL [] o8 [] (rfl) hw8 fun Gt hGt hst=>?_)
   refine EVL.nil ⟨rfl,?_⟩
   refine IV 9 ?_
   refine EVG.one 11 (fitsI (hGt)) kR rfl ?_
   (try refine RUNL ?_)
   refine EVL.nil ⟨rfl,?_⟩
   refine EVG.nil (fitsI hGt) kR ?_
   exact ⟨(y8,z8),⟨rfl,trivial⟩,sB,⟨rfl,trivial⟩,sB,rfl,hGt,hfin _ _ _ hGt hst⟩
 rintro ⟨ya,yc⟩ G9 ⟨hG9,hRS⟩
 dsimp only at hRS
 (first | refine EV.asRo 13 rfl (hG9 _ _ hb13) ?_ | refine EVL.asRo 13 rfl (hG9 _ _ hb13) ?_)
 (first | refine EV.asRo 14 rfl (hG9 _ _ hb14) ?_ | refine EVL.asRo 14 rfl (hG9 _ _ hb14) ?_)
 have hG89:=hG8q.trans hG9
 try refine RUN ?_
 refine EVL.call rfl rfl rfl rfl rfl (rsameCols_pc (hkC.mono SCol.ok hG9) (hdC.mono SCol.ok hG9) hok.ck.nwords hok.ck.ncols) ?_
 rintro _ G10 rfl hG10
 have hG810:=hG89.trans hG10
 have hX10:=hX8.mono SCol.ok hG810
 have hY10:=LR.mono PRows.ok hY8 hG810
 have hRS10:=LR.mono RRows.ok hRS hG10
 have hC10:=hkC.mono SCol.ok (hG9.trans hG10)
 try refine RUN ?_
 refine EV.meetK (ι:=Unit) [4,13,15,16] [15] (fun _=>[(168,.v (.bool false))]) (fun _=>[]) (fun _=>[]) (fun _ G=>G10.Le G) rfl rfl (fun _=>rfl) ?_ ?_
 ·by_cases e:C=D
  ·obtain ⟨rfl,rfl,rfl⟩:=hy8 e
   have hsmA:SmSh C (R++S):=⟨hok.sm.ncols,hok.sm.words,by rw [List.length_append];omega,fun r hr=>by
    rcases List.mem_append.1 hr with q | q
    ·exact hok.sm.cells r q
    ·exact hokD.sm.cells r q⟩
   have hoS2:=fun G (hG:G10.Le G)=>outSheet_pc (hX10.mono SCol.ok hG) (LR.mono PRows.ok hY10 hG) hsmA
   have hsm2:=fun G (hG:G10.Le G) a b (k1:ColL G a C) (k2:RRows G b (R++S))=>rsame_pc k1 k2 (hC10.mono SCol.ok hG) (LR.mono RRows.ok hRS10 hG) hsmA
   rw [decide_eq_true e]
   apply EV.drawn 28 kR kR;intro xv yw
   (repeat refine' DD ?_)
   refine' DJ.ofVal (ValOk.neb rfl rfl rfl rfl kR) rfl rfl rfl ?_;rotate_left
   (repeat refine' DD ?_)
   refine' DJ.call rfl rfl rfl rfl rfl (cO func16) (fun G hG hd=>hoS2 G hG) (fun _ _ _ h k=>(by obtain ⟨a,b,e,h1,h2⟩:=h;exact ⟨a,b,e,h1.mono SCol.ok k,LR.mono RRows.ok h2 k⟩)) ?_;rotate_left
   (repeat refine' DD ?_)
   refine' DJ.callS rfl rfl rfl rfl rfl (cO func15) (fun G hG hd=>(by obtain ⟨a,b,e,h1,h2⟩:=hd.head kR;rw [e];exact hsm2 G hG a b h1 h2)) ?_;rotate_left
   (repeat refine' DD ?_)
   (refine DJ.nil (fun G0 hG0 hF0=>?_);(case hS|hS2=>rfl))
   try refine RUN ?_
   exact ⟨(),⟨rfl,trivial⟩,sB,trivial,sB,rfl,hG0⟩
  ·obtain ⟨rfl,rfl⟩:=hn8 e
   rw [decide_eq_false e]
   apply EV.drawn 28 kR kR;intro xv yw
   (repeat refine' DD ?_)
   refine' DJ.ofVal (ValOk.neb rfl rfl rfl rfl kR) rfl rfl rfl ?_;rotate_left
   (repeat refine' DD ?_)
   (refine DJ.nil (fun G0 hG0 hF0=>?_);(case hS|hS2=>rfl))
   try refine RUN ?_
   exact ⟨(),⟨rfl,trivial⟩,sB,trivial,sB,rfl,hG0⟩
 rintro _ G11 hG11
 have hG411:=hG48.trans (hG810.trans hG11)
 have hC11:=hC10.mono SCol.ok hG11
 have hR11:=LR.mono RRows.ok hkR (hG9.trans (hG10.trans hG11))
 try refine RUN ?_
 refine EVL.call rfl rfl rfl rfl rfl (columnIx_pc (p1.mono SCol.ok hG411) (LR.mono PRows.ok p2 hG411) nm hok.ck.ncols) ?_
 rintro _ G12 rfl hG12
 have hC12:=hC11.mono SCol.ok hG12
 obtain ⟨ecs,hec,hel⟩:=id hC12
 have hwn:IntKind.i64.wrap ((C.length:Int)-1)=(C.length:Int)-1:=by rw [IntKind.wrap_i64];omega
 try refine RUN ?_
 rw [hwn]
 try refine RUN ?_
 refine EV.loopK (ι:=Nat) [4,13,15,16,26,27] [15] (fun d=>[(28,.v (.int .i64 (wdI C nm d))),(29,.v (.int .i64 ((d:Int)-1)))]) (fun _=>[]) (fun _=>[]) (fun d _=>d≤C.length) (fun d=>d) (C.length) rfl rfl ⟨by rw [wdI_end];rfl,rfl,trivial⟩ trivial rfl (fun _=>rfl) (Nat.le_refl _) ?_
 rintro d G13 hG13 hd
 try refine RUN ?_
 cases d with
 | succ d =>
  obtain ⟨c,hc'⟩:∃ c,C[d]?=some c:=⟨_,List.getElem?_eq_getElem hd⟩
  obtain ⟨cc,hcut,na,nn,_,rfl⟩:=(hec.mono SCol.ok hG13).get SCol.ok hc'
  rw [decide_eq_true (show ((d+1:Nat):Int)-1≥0 by omega),show ((d+1:Nat):Int)-1=(d:Int) by omega]
  have hwd:IntKind.i64.wrap ((d:Int)-1)=(d:Int)-1:=by rw [IntKind.wrap_i64];omega
  try refine RUN ?_
  refine EVL.idxM tO rfl rfl rfl rfl rfl rfl rfl rfl rfl ((hel.mono hG13)) (d) (rfl) (hd) (hcut) ?_
  try refine RUN ?_
  rw [sb_eqb]
  by_cases e:c.name=nm
  ·rw [decide_eq_true e]
   try refine RUN ?_
   rw [hwd]
   exact ⟨d,⟨by rw [wdI_hit hc' e];rfl,rfl,trivial⟩,sB,trivial,sB,rfl,by omega,Hp.Le.refl _,by omega⟩
  ·rw [decide_eq_false e]
   try refine RUN ?_
   rw [hwd]
   exact ⟨d,⟨by rw [wdI_miss hc' e];rfl,rfl,trivial⟩,sB,trivial,sB,rfl,by omega,Hp.Le.refl _,by omega⟩
 | zero =>
  rw [decide_eq_false (show ¬ ((0:Nat):Int)-1≥0 by omega)]
  have hz0:=wdI_zero C nm
  have hcol:=fun G (hG:G13.Le G) a=>column6_pc (p1.mono SCol.ok (hG411.trans (hG12.trans (hG13.trans hG)))) (LR.mono PRows.ok p2 (hG411.trans (hG12.trans (hG13.trans hG)))) (hC12.mono SCol.ok (hG13.trans hG)) (LR.mono RRows.ok hR11 (hG12.trans (hG13.trans hG))) hok a
  cases hix:colIx C nm with
  | none =>
   rw [hix] at hz0
   rw [hz0]
   try refine RUN ?_
   refine EVL.eqb rfl rfl rfl rfl rfl rfl kR ?_
   try refine RUN ?_
   refine EVL.call rfl rfl rfl rfl rfl (hcol _ (Hp.Le.refl _) _) ?_
   rintro _ G14 rfl hG14
   try refine RUN ?_
   rfl
  | some q =>
   rw [hix] at hz0
   rw [hz0]
   try refine RUN ?_
   rw [decide_eq_true (show (q:Int)≥0 by omega)]
   try refine RUN ?_
   refine EVL.eqb rfl rfl rfl rfl rfl rfl kR ?_
   try refine RUN ?_
   rw [show ((((Option.some q).getD 0:Nat):Int) == (q:Int))=true from beq_self_eq_true (q:Int)]
   try refine RUN ?_
   refine EVL.call rfl rfl rfl rfl rfl (hcol _ (Hp.Le.refl _) _) ?_
   rintro _ G14 rfl hG14
   try refine RUN ?_
   rfl
theorem sb_data (s:ByteArray):sb s.data.toList=s:=by
 cases s with | mk d=>cases d with | mk l=>rfl
theorem sheetParts_pb {H:Hp} {v1 v2 v3:Value} {l:List Int} {at':Int} {nm:ByteArray} {own:Bool} (ha:Raw6 H v1) (hb:Raw6 H v2) (hr:IL H v3 l) (hat:i64b at'):PC prog 5 #[v1,v2,v3,.int .i64 at',.string nm,.bool own] H fun r _=>r=.bool true:=by
 have h:=sheetParts_pc (nm:=nm.data.toList) (own:=own) ha hb hr hat
 rwa [show strV nm.data.toList=.string nm from congrArg Value.string (sb_data nm)] at h
end Go.Proofs.YtbcfidllfimehaaGreatDoor
namespace Go.Proofs.YtbcfidllfimehaaGreatDoor
open Go Go.RowKit
theorem laidE_find {P:Program} {W:World} {n:String} {d:DataW Unit}:∀ {l:List (String × DataW Unit)} {ps:List MemPlace},DataW.LaidVars P W l ps→(n,d)∈l →
  ∃ p,DataW.LaidVars P W [(n,d)] p
 | [],_,_,h=>by cases h
 | (m,x)::r,ps,h,hm=>by
  obtain ⟨g,t,cs,fuel,p,q,h1,h2,h3,h4,h5,h6⟩:=h
  rcases List.mem_cons.1 hm with hm | hm
  ·cases hm
   exact ⟨_,g,t,cs,fuel,p,[],h1,h2,h3,h4,rfl,rfl⟩
  ·exact laidE_find h5 hm
theorem laid_gH {P:Program} {l:List (String × DataW Unit)} {W:World} {α:Type} (f:α→Int) (h:laidMet P l W) {n:String} {zs:List α} {kd:IntKind} {g:Nat} {T e:TypeId} (hmem:(n,.agg (zs.map fun z=>.lit (.int kd (f z))))∈l) (hg:P.globalNamed n=some g) (ht:(P.globals[g]?).map (·.type)=some T)
  (hT:P.underlying T=some (.array zs.length e)) (he:P.underlying e=some (.int kd)) (hc:P.cellsOf e=1) (hcT:P.cellsOf T=zs.length) :
  ∃ U fz,W.heap[g]?=some (.cells (zs.map fun z=>Value.int kd (f z)).toArray U fz):=by
 obtain ⟨ps,hl,_⟩:=h
 obtain ⟨p0,g',t,cs,fuel,p,q,hg',ht',hv,hd,_,_⟩:=laidE_find hl hmem
 obtain rfl:=Option.some.inj (hg.symm.trans hg')
 obtain rfl:=Option.some.inj (ht.symm.trans ht')
 obtain ⟨xs,m,_,ex,hcl,hlen,hel⟩:=DataW.trod_array hT hd
 have hb:∃ U fz,W.heap[g]?=some (.cells cs U fz):=by
  simp only [World.var?,hg,Option.bind_some] at hv
  split at hv
  ·rename_i c U fz hc';cases hv;exact ⟨U,fz,hc'⟩
  ·cases hv
 obtain ⟨U,fz,hb⟩:=hb
 refine ⟨U,fz,?_⟩
 rw [hb]
 congr 2
 apply Array.ext'
 rw [hcT] at hcl
 have e3:(xs.map (·.1))=zs.map fun n=>.lit (.int kd (f n)):=(DataW.agg.inj (Prod.mk.inj ex).1).symm
 apply List.ext_getElem?
 intro r
 rcases Nat.lt_or_ge r zs.length with hr | hr
 ·have hE:=hel r hr
  rw [hc,Nat.mul_one,List.getElem?_eq_getElem (by omega)] at hE
  obtain ⟨z,e1,e2,_⟩:=DataW.trod_int he hE
  have e4:(xs.map (·.1))[r]?=(zs.map fun n=>(DataW.lit (.int kd (f n)):DataW Unit))[r]?:=by rw [e3]
  rw [List.getElem?_map,List.getElem?_map,List.getElem?_eq_getElem (by omega:r<xs.length),List.getElem?_eq_getElem hr,e2] at e4
  simp only [Option.map_some,Option.some.injEq,DataW.lit.injEq,Lit.int.injEq,true_and] at e4
  have h0:((cs.toList.drop r).take 1)[0]?=some (.int kd z):=by rw [e1];rfl
  simp only [List.getElem?_take,List.getElem?_drop,Nat.add_zero] at h0
  rw [if_pos (by omega)] at h0
  rw [h0,e4]
  simp [hr]
 ·rw [List.getElem?_eq_none oM,List.getElem?_eq_none (by simpa using hr)]
theorem fits_gH {l:List (String × DataW Unit)} {W:World} (h:laidMet Tryz.prog l W) (hmem:("math/bits.deBruijn64tab", .agg (Lib.deBruijn64tab.map fun (z:Nat)=>.lit (.int .u8 z)))∈l):Fits gH W:=fun b c hb=>by
 unfold gH at hb
 split at hb
 ·rename_i hbb
  cases hb
  obtain rfl:=Nat.eq_of_beq_eq_true hbb
  exact laid_gH (fun z:Nat=>(z:Int)) h hmem kR kR Tryz.underlying302 Tryz.underlying5 kR kR
 ·cases hb
end Go.Proofs.YtbcfidllfimehaaGreatDoor
