/- Texts of ours in one: PaH, PaI, PaJ, ShF, ShG, ShH, Tr7, Tr8, Tr9, Tr10, Tr11, Tr12, Tr13, ShL, Tx3, Tx4, Tx5, PaK, ShT, ThJ, ShK, ShM, ShN, ShI, ShW, ShO, ShU, ShJ, Opn, Opn6, ThL, LaidE. -/
import Derived.Test.YtbcfidllfimehaaGreatDoorT0
import Derived.Test.YtbcfidllfimehaaGreatDoorT1
import Derived.Test.YtbcfidllfimehaaGreatDoorT2
import Derived.Test.YtbcfidllfimehaaGreatDoorT3
import Derived.Laws.IdiomStrings
import Derived.Lib.ConvBytes
import Derived.Laws.StructEq
import Derived.WalkKit
import Derived.ProofKit
import Derived.OpenShut
import Derived.LaidMore
import Derived.Lay
import Derived.Stop.Joined
set_option linter.unusedVariables false
set_option linter.unusedSimpArgs false

namespace Go.Proofs.YtbcfidllfimehaaGreatDoor
open Go.RowKit _root_.Go.Proofs.Tryz
theorem unMinus_cut {s:List UInt8} (h:s.head?=some 45):((s.drop 1).take (s.length-1))=unMinus s∧1≤s.length:=by
 cases s with
 | nil=>cases h
 | cons c s =>
  unfold unMinus
  rw [if_pos h]
  exact ⟨by rw [List.drop_one];exact List.take_of_length_le (Nat.le_refl _),by rw [List.length_cons];omega⟩
theorem is45 {s:List UInt8} {c:UInt8} (h:s.head?=some c):((c.toNat:Int) == 45)=decide (s.head?=some 45):=by
 by_cases k:c=45
 ·subst k;rw [h];rfl
 ·rw [decide_eq_false fun e=>k (Option.some.inj (h.symm.trans e))]
  refine beq_eq_false_iff_ne.2 fun e=>k ?_
  have h45:c.toNat=(45:UInt8).toNat:=by show c.toNat=45;omega
  exact UInt8.toNat_inj.1 h45
theorem digB_nz {n:Nat}:(((dig B32 n).length:Nat):Int) == 0↔n=0:=by
 have hz:(dig B32 n).length=0↔n=0:=⟨dig_len_zero B32_two,fun e=>by rw [e,dig_zero];rfl⟩
 rw [beq_iff_eq,← hz];omega
set_option maxRecDepth 100000 in
set_option maxHeartbeats 16000000 in
theorem rintParse_pc {H:Hp} (s:List UInt8):PC prog 139 #[.string (sb s)] H fun r H'=>∃ v,r=.tuple #[v,.bool (pI s).isSome]∧RI H' v ((pI s).getD 0):=by
 have hsz:=sb_size s
 have hN:=fun G:Hp=>rnatParse_pc (H:=G) (unMinus s)
 have hnil:∀ G:Hp,RI G (.agg #[.bool false,.slice none 0 0]) 0:=fun G=>⟨none,0,0,rfl,rn_nil G⟩
 have bad:∀ G:Hp,pI s=none→∃ v,Value.tuple #[.agg #[.bool false,.slice none 0 0],.bool false]=.tuple #[v,.bool (pI s).isSome]∧RI G v ((pI s).getD 0):=fun G e=>⟨_,by rw [e];rfl,by rw [e];exact hnil G⟩
 refine BD func139 ntmps139 ?_
 try refine RUN ?_
 refine EVL.meetK (ι:=Unit) [0,2] [2] (fun _=>[(4,.v (.bool (decide (s.head?=some 45))))]) (fun _=>[]) (fun _=>[]) (fun _ G=>H.Le G) rfl rfl (fun _=>rfl) ?_ ?_
 ·rw [hsz]
  by_cases c1:s.length>0
  ·rw [decide_eq_true (show (s.length:Int)>0 by omega)]
   obtain ⟨c,hc⟩:∃ c,s[0]?=some c:=⟨_,List.getElem?_eq_getElem oM⟩
   have hh:s.head?=some c:=by rw [List.head?_eq_getElem?];exact hc
   try refine RUN ?_
   refine EVL.strAt rfl rfl rfl rfl kR rfl rfl 0 rfl hc ?_
   try refine RUN ?_
   rw [is45 hh]
   exact ⟨(),⟨rfl,trivial⟩,sB,trivial,sB,rfl,Hp.Le.refl _⟩
  ·rw [decide_eq_false (show ¬ (s.length:Int)>0 by omega),decide_eq_false (show ¬ s.head?=some 45 from fun k=>c1 (by have:=(unMinus_cut k).2;omega))]
   try refine RUN ?_
   exact ⟨(),⟨rfl,trivial⟩,sB,trivial,sB,rfl,Hp.Le.refl _⟩
 rintro _ G0 hG0
 try refine RUN ?_
 refine EV.meetK (ι:=Unit) [2,4] [2] (fun _=>[(0,.v (.string (sb (unMinus s))))]) (fun _=>[]) (fun _=>[]) (fun _ G=>G0.Le G) rfl rfl (fun _=>rfl) ?_ ?_
 ·by_cases h:s.head?=some 45
  ·rw [decide_eq_true h]
   obtain ⟨h1,h2⟩:=unMinus_cut h
   try refine RUN ?_
   refine EVL.strSlc rfl rfl rfl rfl kR rfl 1 s.length (.inr ⟨_,IntKind.i64,rfl,rfl⟩) (.inl ⟨rfl,hsz.symm⟩) h2 (by rw [hsz];exact Nat.le_refl _) ?_
   rw [sb_cut,h1]
   try refine RUN ?_
   exact ⟨(),⟨rfl,trivial⟩,sB,trivial,sB,rfl,Hp.Le.refl _⟩
  ·rw [decide_eq_false h]
   have h1:unMinus s=s:=if_neg h
   rw [h1]
   try refine RUN ?_
   exact ⟨(),⟨rfl,trivial⟩,sB,trivial,sB,rfl,Hp.Le.refl _⟩
 rintro _ G1 hG1
 try refine RUN ?_
 refine EVL.call rfl rfl rfl rfl rfl (hN _) ?_
 rintro _ G2 ⟨v,rfl,hv⟩ hG2
 cases hp:pN (unMinus s) with
 | none =>
  try refine RUN ?_
  refine bad _ ?_
  unfold pI unMinus at *
  split
  ·rename_i k;rw [if_pos k] at hp;rw [hp]
  ·rename_i k;rw [if_neg k] at hp;rw [hp];rfl
 | some n =>
  rw [hp] at hv
  have hv2:RN G2 v n:=hv
  have hI:=fun b:Bool=>refI_pc (b:=b) hv2
  obtain ⟨va,vc,rfl⟩:=SlC.val hv2
  by_cases h:s.head?=some 45
  ·have hI1:=hI true
   have hpn':pN s.tail=some n:=by unfold unMinus at hp;rwa [if_pos h] at hp
   have hpI:pI s=if n=0 then none else some (-(n:Int)):=by
    unfold pI
    rw [if_pos h,hpn']
   rw [decide_eq_true h]
   try refine RUN ?_
   by_cases h0:n=0
   ·rw [show ((((dig B32 n).length:Nat):Int) == 0)=true from digB_nz.2 h0]
    try refine RUN ?_
    exact bad _ (by rw [hpI,if_pos h0])
   ·rw [show ((((dig B32 n).length:Nat):Int) == 0)=false from by rw [← Bool.not_eq_true];exact fun k=>h0 (digB_nz.1 k)]
    try refine RUN ?_
    refine EVL.call rfl rfl rfl rfl rfl (hI1) ?_
    rintro w G3 hw hG3
    obtain ⟨ra,rl,rc,rfl,hr⟩:=id hw
    try refine RUN ?_
    rw [hpI,if_neg h0]
    exact ⟨_,rfl,hw⟩
  ·have hI1:=hI false
   have hpn':pN s=some n:=by unfold unMinus at hp;rwa [if_neg h] at hp
   have hpI:pI s=some (n:Int):=by
    unfold pI
    rw [if_neg h,hpn'];rfl
   rw [decide_eq_false h]
   try refine RUN ?_
   refine EVL.call rfl rfl rfl rfl rfl (hI1) ?_
   rintro w G3 hw hG3
   obtain ⟨ra,rl,rc,rfl,hr⟩:=id hw
   try refine RUN ?_
   rw [hpI]
   exact ⟨_,rfl,hw⟩
theorem rten {e:Nat} (h:e≤400):rsm (10 ^ e) :=
 Nat.le_trans (bl_le (k:=4*e+1) (Nat.lt_of_le_of_lt (ten_16 e) (Nat.pow_lt_pow_right oM oM))) oM
set_option maxHeartbeats 8000000 in
theorem rnatPow_pc {H:Hp} {v:Value} (hv:RN H v 10) (k:Nat) (hk:k≤200):PC prog 181 #[v,.int .i64 (k:Int)] H fun r H'=>RN H' r (10 ^ k):=by
 refine BD func181 ntmps181 ?_
 try refine RUN ?_
 refine EVL.call rfl rfl rfl rfl rfl (refNatOf_pc 1 (by decide) _) ?_
 rintro w G0 hw hG0
 try refine RUN ?_
 refine EV.loopK (ι:=Nat × Nat × Nat × Value × Value) [] [] (fun q=>[(0,.v q.2.2.2.1),(1,.v (.int .i64 (q.1:Int))),(5,.v q.2.2.2.2)]) (fun _=>[]) (fun _=>[]) (fun q G=>q.1≤200∧q.2.2.1+q.2.1*q.1=k∧q.2.1≤400∧RN G q.2.2.2.1 (10 ^ q.2.1)∧RN G q.2.2.2.2 (10 ^ q.2.2.1)) (fun q=>q.1) ((k,1,0,v,w)) rfl rfl ⟨rfl,rfl,rfl,trivial⟩ trivial rfl (fun _=>rfl) (⟨hk,by dsimp only;omega,(show 1≤400 by decide),hv.mono hG0,hw⟩) ?_
 rintro ⟨e,b,o,vb,vo⟩ G1 hG1 ⟨he,hs,hb,hvb,hvo⟩
 dsimp only at he hs hb hvb hvo
 try refine RUN ?_
 by_cases h0:e=0
 ·subst h0
  rw [show decide ((((0:Nat):Int))>0)=false from rfl]
  rw [show o=k by omega] at hvo
  try refine RUN ?_
  exact hvo
 rw [decide_eq_true (show (e:Int)>0 by omega)]
 have hb2:b≤200:=by
  have:b*1≤b*e:=Nat.mul_le_mul_left _ oM
  omega
 have ho2:o≤200:=by omega
 try refine RUN ?_
 rw [show (e:Int).tmod 2=((e % 2:Nat):Int) from wi_rem e 2]
 refine EV.meetK (ι:=Nat × Value) [0,1] [] (fun q=>[(5,.v q.2)]) (fun _=>[]) (fun _=>[]) (fun q G=>G1.Le G∧q.1=o+b*(e % 2)∧RN G q.2 (10 ^ q.1)) rfl rfl (fun _=>rfl) ?_ ?_
 ·by_cases hodd:e % 2=1
  ·rw [show (((e % 2:Nat):Int) == 1)=true from beq_iff_eq.2 (by omega)]
   try refine RUN ?_
   refine EVL.call rfl rfl rfl rfl rfl (refMul_pc hvo hvb (rten oM) (rten oM)) ?_
   rintro x G2 hx hG2
   try refine RUN ?_
   exact ⟨(o+b,x),⟨rfl,trivial⟩,sB,trivial,sB,rfl,⟨hG2,by rw [hodd,Nat.mul_one],by rw [Nat.pow_add];exact hx⟩⟩
  ·rw [show (((e % 2:Nat):Int) == 1)=false from beq_eq_false_iff_ne.2 (by omega)]
   try refine RUN ?_
   exact ⟨(o,vo),⟨rfl,trivial⟩,sB,trivial,sB,rfl,⟨Hp.Le.refl _,by rw [show e % 2=0 by omega];rfl,hvo⟩⟩
 rintro ⟨o2,x⟩ G2 ⟨hG2,ho,hx⟩
 dsimp only at ho hx
 try refine RUN ?_
 refine EVL.call rfl rfl rfl rfl rfl (refMul_pc (hvb.mono hG2) (hvb.mono hG2) (rten oM) (rten oM)) ?_
 rintro y G3 hy hG3
 try refine RUN ?_
 refine ⟨(e / 2,b+b,o2,y,x),⟨rfl,by rw [show IntKind.i64.wrap ((e:Int).tdiv 2)=((e / 2:Nat):Int) from wi_quo e 2 (by omega)];rfl,rfl,trivial⟩,sB,trivial,sB,rfl,⟨by dsimp only;omega,?_,by dsimp only;omega,by dsimp only;rw [Nat.pow_add];exact hy,hx.mono hG3⟩,hG2.trans hG3,by dsimp only;omega⟩
 dsimp only
 rw [ho,← hs]
 have h2:=Nat.div_add_mod e 2
 have h3:(b+b)*(e / 2)+b*(e % 2)=b*e:=by
  rw [← Nat.two_mul,Nat.mul_comm 2 b,Nat.mul_assoc,← Nat.mul_add,h2]
 omega
theorem lit_rn {G:Hp} {b:Nat} (h:G b=some #[.int .u32 10]):RN G (.slice (some ⟨b,0,none⟩) 1 1) 10 :=
 ten_rn ⟨rfl,.inr ⟨b,0,1,_,rfl,Nat.le_refl _,h,fun j x hj=>by rw [Nat.zero_add];simpa using hj⟩⟩
theorem mkRat_sg (b:Bool) (n d:Nat):Rat.divInt (sg b n) (sg false d)=mkRat (sg b n) d:=by
 show Rat.divInt (sg b n) (d:Int)=_
 rw [Rat.divInt_ofNat]
theorem rq_form {G:Hp} {w:Value} {q:Rat} (h:RQ G w q):∃ ra rl rc xa xl xc,w=.agg #[.bool (decide (q.num<0)),.slice ra rl rc,.slice xa xl xc]:=by
 obtain ⟨ra,rl,rc,xa,xl,xc,e,_,_⟩:=h
 exact ⟨ra,rl,rc,xa,xl,xc,e⟩
set_option maxRecDepth 100000 in
set_option maxHeartbeats 32000000 in
theorem rdec_pc {H:Hp} (s t:List UInt8):PC prog 143 #[.string (sb s),.string (sb t)] H fun r H'=>∃ v,r=.tuple #[v,.bool (pDec s t).isSome]∧RQ H' v ((pDec s t).getD 0):=by
 have hsz:=sb_size s
 have hst:=sb_size t
 have hN:=fun G:Hp=>rnatParse_pc (H:=G) (unMinus s)
 have hbad:¬ okD t→pDec s t=none:=fun k=>by
  unfold pDec
  generalize pN _=o
  cases o with
  | none=>rfl
  | some n=>show (if okD t then _ else _)=none;rw [if_neg k]
 have hof:=fun G:Hp=>refOf_pc (H:=G) 0 oM oM
 have bad:∀ (G:Hp) (v:Value),pDec s t=none→RQ G v ((0:Int):Rat)→∃ w,Value.tuple #[v,.bool false]=.tuple #[w,.bool (pDec s t).isSome]∧RQ G w ((pDec s t).getD 0):=fun G v e h=>⟨v,by rw [e];rfl,by rw [e];exact h⟩
 refine BD func143 ntmps143 ?_
 try refine RUN ?_
 refine EVL.meetK (ι:=Unit) [0,1,4] [4] (fun _=>[(6,.v (.bool (decide (s.head?=some 45))))]) (fun _=>[]) (fun _=>[]) (fun _ G=>H.Le G) rfl rfl (fun _=>rfl) ?_ ?_
 ·rw [hsz]
  by_cases c1:s.length>0
  ·rw [decide_eq_true (show (s.length:Int)>0 by omega)]
   obtain ⟨c,hc⟩:∃ c,s[0]?=some c:=⟨_,List.getElem?_eq_getElem oM⟩
   have hh:s.head?=some c:=by rw [List.head?_eq_getElem?];exact hc
   try refine RUN ?_
   refine EVL.strAt rfl rfl rfl rfl kR rfl rfl 0 rfl hc ?_
   try refine RUN ?_
   rw [is45 hh]
   exact ⟨(),⟨rfl,trivial⟩,sB,trivial,sB,rfl,Hp.Le.refl _⟩
  ·rw [decide_eq_false (show ¬ (s.length:Int)>0 by omega),decide_eq_false (show ¬ s.head?=some 45 from fun k=>c1 (by have:=(unMinus_cut k).2;omega))]
   try refine RUN ?_
   exact ⟨(),⟨rfl,trivial⟩,sB,trivial,sB,rfl,Hp.Le.refl _⟩
 rintro _ G0 hG0
 try refine RUN ?_
 refine EV.meetK (ι:=Unit) [1,4,6] [4] (fun _=>[(0,.v (.string (sb (unMinus s))))]) (fun _=>[]) (fun _=>[]) (fun _ G=>G0.Le G) rfl rfl (fun _=>rfl) ?_ ?_
 ·by_cases h:s.head?=some 45
  ·rw [decide_eq_true h]
   obtain ⟨h1,h2⟩:=unMinus_cut h
   try refine RUN ?_
   refine EVL.strSlc rfl rfl rfl rfl kR rfl 1 s.length (.inr ⟨_,IntKind.i64,rfl,rfl⟩) (.inl ⟨rfl,hsz.symm⟩) h2 (by rw [hsz];exact Nat.le_refl _) ?_
   rw [sb_cut,h1]
   try refine RUN ?_
   exact ⟨(),⟨rfl,trivial⟩,sB,trivial,sB,rfl,Hp.Le.refl _⟩
  ·rw [decide_eq_false h]
   have h1:unMinus s=s:=if_neg h
   rw [h1]
   try refine RUN ?_
   exact ⟨(),⟨rfl,trivial⟩,sB,trivial,sB,rfl,Hp.Le.refl _⟩
 rintro _ G1 hG1
 try refine RUN ?_
 refine EVL.call rfl rfl rfl rfl rfl (hN _) ?_
 rintro _ G2 ⟨v,rfl,hv⟩ hG2
 cases hp:pN (unMinus s) with
 | none =>
  have hno:pDec s t=none:=by
   unfold pDec
   rw [show pN (if s.head?=some 45 then s.tail else s)=none from hp]
  try refine RUN ?_
  refine EVL.call rfl rfl rfl rfl rfl (hof _) ?_
  rintro w G3 hw hG3
  obtain ⟨ra,rl,rc,xa,xl,xc,rfl⟩:=rq_form hw
  try refine RUN ?_
  exact bad _ _ hno hw
 | some n =>
 have bn:=pN_bl hp
 rw [hp] at hv
 have hv2:RN G2 v n:=hv
 have hdec:okD t→pDec s t=some (mkRat (signZ (s.head?=some 45) (n*10 ^ t.length+valD t)) (10 ^ t.length)):=fun k=>by
  unfold pDec
  rw [show pN (if s.head?=some 45 then s.tail else s)=some n from hp]
  show (if okD t then _ else _)=_
  rw [if_pos k]
 clear hv hp hN
 try refine RUN ?_
 rw [hst]
 by_cases c1:t.length<1
 ·rw [decide_eq_true (show (t.length:Int)<1 by omega)]
  try refine RUN ?_
  refine EVL.call rfl rfl rfl rfl rfl (hof _) ?_
  rintro w G3 hw hG3
  obtain ⟨ra,rl,rc,xa,xl,xc,rfl⟩:=rq_form hw
  try refine RUN ?_
  exact bad _ _ (hbad fun k=>by have:=k.1;omega) hw
 rw [decide_eq_false (show ¬ (t.length:Int)<1 by omega)]
 try refine RUN ?_
 rw [hst]
 by_cases c2:t.length>200
 ·rw [decide_eq_true (show (t.length:Int)>200 by omega)]
  try refine RUN ?_
  refine EVL.call rfl rfl rfl rfl rfl (hof _) ?_
  rintro w G3 hw hG3
  obtain ⟨ra,rl,rc,xa,xl,xc,rfl⟩:=rq_form hw
  try refine RUN ?_
  exact bad _ _ (hbad fun k=>by have:=k.2.1;omega) hw
 rw [decide_eq_false (show ¬ (t.length:Int)>200 by omega)]
 try refine RUN ?_
 refine EV.loopK (ι:=Nat × Value) [1,4,6] [4] (fun q=>[(7,.v q.2),(9,.v (.int .i64 (q.1:Int)))]) (fun _=>[]) (fun _=>[]) (fun q G=>q.1≤t.length∧(t.take q.1).all isDg=true∧RN G q.2 (n*10 ^ q.1+valD (t.take q.1))) (fun q=>t.length-q.1) ((0,v)) rfl rfl ⟨rfl,rfl,trivial⟩ trivial rfl (fun _=>rfl) (⟨Nat.zero_le _,rfl,by rw [Nat.pow_zero,Nat.mul_one];exact hv2⟩) ?_
 rintro ⟨i,v⟩ G3 hG3 ⟨hi,hall,hv⟩
 dsimp only at hi hall hv
 try refine RUN ?_
 rw [hst]
 have b0:=ten_bl (e:=i) oM
 have b1:bl (valD (t.take i))≤800:=valD_bl hall (by rw [List.length_take];omega)
 have b2:bl (n*10 ^ i)≤1700:=Nat.le_trans (bl_mul _ _) oM
 have b3:bl (n*10 ^ i+valD (t.take i))≤1701:=Nat.le_trans (bl_add _ _) oM
 refine EV.cond rfl (fun hlt=>?_) (fun hlt=>?_)
 ·simp only [nN] at hlt
  obtain ⟨c,hc⟩:∃ c,t[i]?=some c:=⟨_,List.getElem?_eq_getElem oM⟩
  have hnone:isDg c=false→pDec s t=none:=fun k=>hbad (okD_bad (List.mem_of_getElem? hc) k)
  have htk:=take_snoc hc
  try refine RUN ?_
  refine EVL.strAt rfl rfl rfl rfl kR rfl rfl i rfl hc ?_
  try refine RUN ?_
  by_cases d1:c.toNat<48
  ·rw [decide_eq_true (show (c.toNat:Int)<48 by omega)]
   try refine RUN ?_
   refine EVL.call rfl rfl rfl rfl rfl (hof _) ?_
   rintro w G4 hw hG4
   obtain ⟨ra,rl,rc,xa,xl,xc,rfl⟩:=rq_form hw
   try refine RUN ?_
   refine bad _ _ (hnone ?_) hw
   rw [← Bool.not_eq_true,isDg_iff]
   omega
  rw [decide_eq_false (show ¬ (c.toNat:Int)<48 by omega)]
  try refine RUN ?_
  refine EVL.strAt rfl rfl rfl rfl kR rfl rfl i rfl hc ?_
  try refine RUN ?_
  by_cases d2:c.toNat>57
  ·rw [decide_eq_true (show (c.toNat:Int)>57 by omega)]
   try refine RUN ?_
   refine EVL.call rfl rfl rfl rfl rfl (hof _) ?_
   rintro w G4 hw hG4
   obtain ⟨ra,rl,rc,xa,xl,xc,rfl⟩:=rq_form hw
   try refine RUN ?_
   refine bad _ _ (hnone ?_) hw
   rw [← Bool.not_eq_true,isDg_iff]
   omega
  rw [decide_eq_false (show ¬ (c.toNat:Int)>57 by omega)]
  have hdg:isDg c=true:=isDg_iff.2 ⟨by omega,by omega⟩
  have hdv:=dgv hdg
  have hdl:=dV_lt hdg
  have hall2:(t.take (i+1)).all isDg=true:=by rw [htk,List.all_append,hall,List.all_cons,hdg];rfl
  have hsum:(n*10 ^ i+valD (t.take i))*10+dV c=n*10 ^ (i+1)+valD (t.take (i+1)):=by rw [htk,valD_snoc,Nat.pow_succ,Nat.add_mul,Nat.mul_assoc];omega
  have b4:bl ((n*10 ^ i+valD (t.take i))*10)≤1705:=Nat.le_trans (bl_mul _ _) (by have:bl 10≤4:=bl_le (by decide);omega)
  have b5:bl (dV c)≤4:=bl_le oM
  have r10:rsm 10:=rsm_of (bl_le (k:=4) (by decide)) oM
  have hdW:dV c<W64:=by rw [W64_val];omega
  generalize n*10 ^ i+valD (t.take i)=A at *
  generalize hD:dV c=D at *
  try refine RUN ?_
  apply EV.drawn 10 kR kR;intro xv yw
  (repeat refine' DD ?_)
  (refine' DJ.lit tO rfl rfl rfl rfl rfl rfl rfl rfl rfl rfl rfl rfl ?_;rotate_left)
  refine' DJ.call rfl rfl rfl rfl rfl (cO func178) (fun G hG hd=>refMul_pc (hv.mono hG) (ten_rn (hd.head kR)) (rsm_of b3 oM) r10) (fun _ _ _ h k=>SlN.mono h k) ?_;rotate_left
  (repeat refine' DD ?_)
  refine' DJ.strAt rfl rfl rfl rfl kR rfl rfl i rfl hc ?_;rotate_left
  (repeat refine' DD ?_)
  rw [hdv]
  refine' DJ.call rfl rfl rfl rfl rfl (cO func128) (fun G hG hd=>refNatOf_pc D hdW _) (fun _ _ _ h k=>SlN.mono h k) ?_;rotate_left
  refine' DJ.call rfl rfl rfl rfl rfl (cO func177) (fun G hG hd=>refAddN_pc (hd.tail.head kR) (hd.head kR) (rsm_of b4 oM) (rsm_of b5 oM)) (fun _ _ _ h k=>SlN.mono h k) ?_;rotate_left
  (refine DJ.nil (fun G hG hF=>?_);(case hS|hS2=>rfl))
  obtain ⟨hf,_⟩:=hF
  rw [hsum] at hf
  try refine RUN ?_
  exact ⟨(i+1,xv 9),⟨rfl,by rw [wi_inc i (by omega)];rfl,trivial⟩,sB,trivial,sB,rfl,⟨hlt,hall2,hf⟩,hG,by dsimp only;omega⟩
 ·simp only [nN] at hlt
  obtain rfl:i=t.length:=by omega
  rw [List.take_length] at hall hv b1 b3
  have hok:okD t:=⟨by omega,by omega,hall⟩
  have hr:=hdec hok
  have hsgn:sg (decide (s.head?=some 45)) (n*10 ^ t.length+valD t)=signZ (s.head?=some 45) (n*10 ^ t.length+valD t):=by
   unfold sg signZ
   by_cases k:s.head?=some 45
   ·rw [if_pos k,if_pos (decide_eq_true k)]
   ·rw [if_neg k,if_neg (by rw [decide_eq_false k];decide)]
  rw [← hsgn] at hr
  have h10:10 ^ t.length≠0:=Nat.ne_of_gt (Nat.pow_pos oM)
  rw [← mkRat_sg] at hr
  have hI:=fun {G:Hp} {w:Value} (h:RN G w (n*10 ^ t.length+valD t))=>refI_pc (decide (s.head?=some 45)) h
  have r1:rsm (sg (decide (s.head?=some 45)) (n*10 ^ t.length+valD t)).natAbs:=by rw [sg_natAbs];exact rsm_of b3 oM
  have r2:rsm (sg false (10 ^ t.length)).natAbs:=by rw [sg_natAbs];exact rsm_of b0 oM
  have r3:sg false (10 ^ t.length)≠0:=by unfold sg;rw [if_neg (by decide)];omega
  have hpw:=fun {G:Hp} {w:Value} (h:RN G w 10)=>rnatPow_pc h t.length oM
  generalize hZ:sg (decide (s.head?=some 45)) (n*10 ^ t.length+valD t)=Z at *
  generalize n*10 ^ t.length+valD t=S at *
  try refine RUN ?_
  refine EVL.call rfl rfl rfl rfl rfl (hI hv) ?_
  rintro x G4 hx hG4
  try refine RUN ?_
  refine EVL.lit tO rfl rfl rfl rfl rfl rfl rfl rfl rfl rfl rfl fun b1=>?_
  (first | refine EVL.publish [] [] rfl fun G5 hG5 hb1=>?_ | refine EV.publish [] [] rfl fun G5 hG5 hb1=>?_)
  try refine RUN ?_
  rw [hst]
  refine EVL.call rfl rfl rfl rfl rfl (hpw (lit_rn hb1)) ?_
  rintro y G6 hy hG6
  try refine RUN ?_
  refine EVL.call rfl rfl rfl rfl rfl (refI_pc false hy) ?_
  rintro z G7 hz hG7
  try refine RUN ?_
  refine EVL.call rfl rfl rfl rfl rfl (refMake_pc (hx.mono ((hG5.trans hG6).trans hG7)) hz r1 r2 r3) ?_
  rintro w G8 hw hG8
  obtain ⟨ra,rl,rc,xa,xl,xc,rfl⟩:=rq_form hw
  try refine RUN ?_
  rw [hr]
  exact ⟨_,rfl,hw⟩
theorem pI_Q (s:List UInt8):(Option.map (fun z:Int=>(z:Rat)) (pI s)).getD 0=(((pI s).getD 0:Int):Rat):=by
 cases pI s <;> rfl
theorem ri_form {G:Hp} {w:Value} {z:Int} (h:RI G w z):∃ ra rl rc,w=.agg #[.bool (decide (z<0)),.slice ra rl rc]:=by
 obtain ⟨ra,rl,rc,e,_⟩:=h
 exact ⟨ra,rl,rc,e⟩
theorem isByte {c:UInt8} (k:UInt8):((c.toNat:Int) == (k.toNat:Int))=decide (c=k):=by
 by_cases h:c=k
 ·subst h;rw [decide_eq_true rfl];exact beq_self_eq_true _
 ·rw [decide_eq_false h]
  refine beq_eq_false_iff_ne.2 fun e=>h (UInt8.toNat_inj.1 oM)
set_option maxRecDepth 100000 in
set_option maxHeartbeats 32000000 in
theorem rparse_pc {H:Hp} (s:List UInt8) (hl:s.length≤9223372036854775807):PC prog 97 #[.string (sb s)] H fun r H'=>∃ v,r=.tuple #[v,.bool (pQ s).isSome]∧RQ H' v ((pQ s).getD 0):=by
 have hsz:=sb_size s
 have hof:=fun G:Hp=>refOf_pc (H:=G) 0 oM oM
 have hIP:=fun (G:Hp) (l:List UInt8)=>rintParse_pc (H:=G) l
 have hNP:=fun (G:Hp) (l:List UInt8)=>rnatParse_pc (H:=G) l
 have hDP:=fun (G:Hp) (l m:List UInt8)=>rdec_pc (H:=G) l m
 have bad:∀ (G:Hp) (v:Value),pQ s=none→RQ G v ((0:Int):Rat)→∃ w,Value.tuple #[v,.bool false]=.tuple #[w,.bool (pQ s).isSome]∧RQ G w ((pQ s).getD 0):=fun G v e h=>⟨v,by rw [e];rfl,by rw [e];exact h⟩
 refine BD func97 ntmps97 ?_
 try refine RUN ?_
 refine EV.loopK (ι:=Nat) [0,2] [2] (fun i=>[(4,.v (.int .i64 (i:Int)))]) (fun _=>[]) (fun _=>[]) (fun i _=>i≤s.length∧∀ (j:Nat),j<i→s[j]?≠some 47∧s[j]?≠some 46) (fun i=>s.length-i) (0) rfl rfl ⟨rfl,trivial⟩ trivial rfl (fun _=>rfl) (⟨Nat.zero_le _,fun j hj=>absurd hj (Nat.not_lt_zero _)⟩) ?_
 rintro i G1 hG1 ⟨hi,hb⟩
 try refine RUN ?_
 rw [hsz]
 refine EV.cond rfl (fun hlt=>?_) (fun hlt=>?_)
 case refine_2 =>
  simp only [nN] at hlt
  obtain rfl:i=s.length:=by omega
  have hq:pQ s=Option.map (fun z:Int=>(z:Rat)) (pI s):=pQ_int fun c hc=>by
   obtain ⟨j,hj,e⟩:=List.getElem_of_mem hc
   have:=hb j hj
   rw [List.getElem?_eq_getElem hj,e] at this
   exact ⟨fun k=>this.1 (by rw [k]),fun k=>this.2 (by rw [k])⟩
  try refine RUN ?_
  refine EVL.call rfl rfl rfl rfl rfl (hIP _ s) ?_
  rintro _ G2 ⟨v,rfl,hv⟩ hG2
  have hp:(pQ s).isSome=(pI s).isSome:=by rw [hq];cases pI s <;> rfl
  have hg:(pQ s).getD 0=(((pI s).getD 0:Int):Rat):=by rw [hq];exact pI_Q s
  rw [hp,hg]
  generalize (pI s).isSome=bb at *
  generalize (pI s).getD 0=z at *
  obtain ⟨ra,rl,rc,rfl,hr⟩:=id hv
  try refine RUN ?_
  refine EV.less [(10,.v (.bool bb)),(9,.p 9 0),(2,.p 2 0)] [(2,96,Tryz.te96.zero),(9,94,[.bool (decide (z<0)),.slice ra rl rc])] ⟨rfl,rfl,rfl,trivial⟩ ⟨rfl,rfl,trivial⟩ rfl ?_
  apply EV.drawnS ([(2,96,Tryz.te96.zero)]) 5 kR kR;intro xv yw
  (repeat refine' DD ?_)
  refine' DJ.call rfl rfl rfl rfl rfl (cO func128) (fun G hG hd=>refNatOf_pc 1 (by decide) _) (fun _ _ _ h k=>SlN.mono h k) ?_;rotate_left
  refine' DJ.fnP tO (1) (fun w=>.agg #[.bool (decide (z<0)),.slice ra rl rc,w]) rfl rfl rfl kR (fun G hd=>(by obtain ⟨xa,xc,e⟩:=SlC.val (hd.head kR);rw [e];rfl)) ?_;rotate_left
  (repeat refine' DD ?_)
  refine' DJ.setbD tO rfl rfl rfl rfl (1) (fun w=>.agg #[.bool (decide (z<0)),.slice ra rl rc,w]) rfl rfl rfl kR rfl (fun G hd=>(by obtain ⟨xa,xc,e⟩:=SlC.val (hd.head kR);rw [e];exact ⟨rfl,rfl⟩)) ?_;rotate_left
  (refine DJ.nil (fun G hG hF=>?_);(case hS|hS2=>rfl);(case hD=>rfl))
  obtain ⟨hf,_⟩:=hF
  obtain ⟨xa,xc,he⟩:=SlC.val hf
  rw [he] at hf ⊢
  dsimp only
  try refine RUN ?_
  exact ⟨_,rfl,ra,rl,rc,xa,_,xc,rfl,RN.mono hr hG,hf⟩
 simp only [nN] at hlt
 have hlt2:i<s.length:=by omega
 obtain ⟨c,hc⟩:∃ c,s[i]?=some c:=⟨_,List.getElem?_eq_getElem hlt2⟩
 have hi1:IntKind.i64.wrap ((i:Int)+1)=((i+1:Nat):Int):=by rw [IntKind.wrap_i64];omega
 try refine RUN ?_
 refine EVL.strAt rfl rfl rfl rfl kR rfl rfl i rfl hc ?_
 try refine RUN ?_
 rw [show ((c.toNat:Int) == 47)=decide (c=47) from isByte 47]
 by_cases c1:c=47
 ·subst c1
  have hq:=pQ_over hc fun j hj=>(hb j hj).1
  rw [decide_eq_true rfl]
  try refine RUN ?_
  refine EVL.strSlc rfl rfl rfl rfl kR rfl 0 i (.inl ⟨rfl,rfl⟩) (.inr ⟨_,IntKind.i64,rfl,rfl⟩) oM (by rw [hsz];omega) ?_
  rw [sb_cut,List.drop_zero,Nat.sub_zero]
  try refine RUN ?_
  refine EVL.call rfl rfl rfl rfl rfl (hIP _ (s.take i)) ?_
  rintro _ G2 ⟨v,rfl,hv⟩ hG2
  obtain ⟨ra,rl,rc,rfl⟩:=ri_form hv
  try refine RUN ?_
  rw [hi1]
  refine EVL.strSlc rfl rfl rfl rfl kR rfl (i+1) s.length (.inr ⟨_,IntKind.i64,rfl,rfl⟩) (.inl ⟨rfl,hsz.symm⟩) oM (by rw [hsz];exact Nat.le_refl _) ?_
  rw [sb_cut,List.take_of_length_le (l:=s.drop (i+1)) (by rw [List.length_drop];exact Nat.le_refl _)]
  try refine RUN ?_
  refine EVL.call rfl rfl rfl rfl rfl (hNP _ (s.drop (i+1))) ?_
  rintro _ G3 ⟨w,rfl,hw⟩ hG3
  cases hz:pI (s.take i) with
  | none =>
   try refine RUN ?_
   refine EVL.call rfl rfl rfl rfl rfl (hof _) ?_
   rintro x G4 hx hG4
   obtain ⟨ya,yl,yc,yd,ye,yf,rfl⟩:=rq_form hx
   try refine RUN ?_
   exact bad _ _ (by rw [hq];unfold pOver;rw [hz]) hx
  | some z =>
  have bz:=pI_bl hz
  cases hd:pN (s.drop (i+1)) with
  | none =>
   try refine RUN ?_
   refine EVL.call rfl rfl rfl rfl rfl (hof _) ?_
   rintro x G4 hx hG4
   obtain ⟨ya,yl,yc,yd,ye,yf,rfl⟩:=rq_form hx
   try refine RUN ?_
   exact bad _ _ (by rw [hq];unfold pOver;rw [hz,hd]) hx
  | some n =>
  have bn:=pN_bl hd
  have ho:pQ s=if n=0 then none else some (mkRat z n):=by rw [hq];unfold pOver;rw [hz,hd]
  rw [hz] at hv
  have hv2:RI G2 (.agg #[.bool (decide (z<0)),.slice ra rl rc]) z:=hv
  rw [hd] at hw
  have hw2:RN G3 w n:=hw
  have hnI:=fun {G:Hp} (k:G3.Le G)=>refI_pc false (RN.mono hw2 k)
  obtain ⟨wa,wc,rfl⟩:=SlC.val hw2
  clear hv hw
  try refine RUN ?_
  by_cases h0:n=0
  ·rw [show ((((dig B32 n).length:Nat):Int) == 0)=true from digB_nz.2 h0]
   try refine RUN ?_
   refine EVL.call rfl rfl rfl rfl rfl (hof _) ?_
   rintro x G4 hx hG4
   obtain ⟨ya,yl,yc,yd,ye,yf,rfl⟩:=rq_form hx
   try refine RUN ?_
   exact bad _ _ (by rw [ho,if_pos h0]) hx
  ·rw [show ((((dig B32 n).length:Nat):Int) == 0)=false from by rw [← Bool.not_eq_true];exact fun k=>h0 (digB_nz.1 k)]
   have r1:rsm z.natAbs:=rsm_of bz oM
   have r2:rsm (sg false n).natAbs:=by rw [sg_natAbs];exact rsm_of bn oM
   have r3:sg false n≠0:=by unfold sg;rw [if_neg (by decide)];omega
   have hmk:Rat.divInt z (sg false n)=mkRat z n:=by
    show Rat.divInt z (n:Int)=_
    rw [Rat.divInt_ofNat]
   rw [ho,if_neg h0,← hmk]
   generalize sg false n=D at *
   try refine RUN ?_
   apply EV.drawn 4 kR kR;intro xv yw
   (repeat refine' DD ?_)
   refine' DJ.call rfl rfl rfl rfl rfl (cO func142) (fun G hG hd=>hnI hG) (fun _ _ _ h k=>RI.mono h k) ?_;rotate_left
   refine' DJ.call rfl rfl rfl rfl rfl (cO func141) (fun G hG hd=>refMake_pc (RI.mono hv2 (hG3.trans hG)) (hd.head kR) r1 r2 r3) (fun _ _ _ h k=>RQ.mono h k) ?_;rotate_left
   (refine DJ.nil (fun G hG hF=>?_);(case hS|hS2=>rfl))
   obtain ⟨hf,_⟩:=hF
   obtain ⟨ya,yl,yc,yd,ye,yf,he⟩:=rq_form hf
   rw [he] at hf ⊢
   try refine RUN ?_
   exact ⟨_,rfl,hf⟩
 rw [decide_eq_false c1]
 try refine RUN ?_
 refine EVL.strAt rfl rfl rfl rfl kR rfl rfl i rfl hc ?_
 try refine RUN ?_
 rw [show ((c.toNat:Int) == 46)=decide (c=46) from isByte 46]
 by_cases c2:c=46
 ·subst c2
  have hq:=pQ_dec hc hb
  rw [decide_eq_true rfl]
  try refine RUN ?_
  apply EV.drawn 10 kR kR;intro xv yw
  (repeat refine' DD ?_)
  refine' DJ.strSlc rfl rfl rfl rfl kR rfl 0 i (.inl ⟨rfl,rfl⟩) (.inr ⟨_,IntKind.i64,rfl,rfl⟩) oM (by rw [hsz];omega) ?_;rotate_left
  (repeat refine' DD ?_)
  rw [hi1]
  refine' DJ.strSlc rfl rfl rfl rfl kR rfl (i+1) s.length (.inr ⟨_,IntKind.i64,rfl,rfl⟩) (.inl ⟨rfl,hsz.symm⟩) oM (by rw [hsz];exact Nat.le_refl _) ?_;rotate_left
  rw [sb_cut,sb_cut,List.drop_zero,Nat.sub_zero,List.take_of_length_le (l:=s.drop (i+1)) (by rw [List.length_drop];exact Nat.le_refl _)]
  refine' DJ.call rfl rfl rfl rfl rfl (cO func143) (fun G hG hd=>hDP _ (s.take i) (s.drop (i+1))) (fun _ _ _ h k=>(by obtain ⟨v,e,hv⟩:=h;exact ⟨v,e,RQ.mono hv k⟩)) ?_;rotate_left
  refine' DJ.extract (7) rfl rfl rfl rfl rfl kR (fun G hd=>(by obtain ⟨v,e,_⟩:=hd.head kR;exact ⟨_,e,Nat.zero_lt_succ _⟩)) ?_;rotate_left
  refine' DJ.extract (7) rfl rfl rfl rfl rfl kR (fun G hd=>(by obtain ⟨v,e,_⟩:=hd.head kR;exact ⟨_,e,Nat.lt_succ_self _⟩)) ?_;rotate_left
  (refine DJ.nil (fun G hG hF=>?_);(case hS|hS2=>rfl))
  obtain ⟨⟨v,e,hv⟩,_⟩:=hF
  rw [← hq] at e hv
  obtain ⟨ya,yl,yc,yd,ye,yf,rfl⟩:=rq_form hv
  rw [e]
  try refine RUN ?_
  exact ⟨_,rfl,hv⟩
 ·rw [decide_eq_false c2]
  try refine RUN ?_
  exact ⟨i+1,⟨by rw [hi1];rfl,trivial⟩,sB,trivial,sB,rfl,⟨by omega,fun j hj=>by
   by_cases e:j=i
   ·subst e
    rw [hc]
    exact ⟨fun k=>c1 (Option.some.inj k),fun k=>c2 (Option.some.inj k)⟩
   ·exact hb j oM⟩,Hp.Le.refl _,by omega⟩
set_option maxHeartbeats 8000000 in
theorem rIsName_pv (s:List UInt8) (hl:s.length≤100000000):PV prog 95 #[strV s] (.bool (isNm s)):=by
 have hsz:=sb_size s
 have no:¬ (1≤s.length∧s.length≤20∧∀ (j:Nat) (c:UInt8),s[j]?=some c→nmAt j c=true)→Value.bool false=.bool (isNm s):=fun h=>by rw [isNm_no' h]
 refine PV.of_pc ?_
 refine BD func95 ntmps95 ?_
 try refine RUN ?_
 rw [hsz]
 by_cases c1:s.length<1
 ·rw [decide_eq_true (show (s.length:Int)<1 by omega)]
  try refine RUN ?_
  exact no fun k=>by have:=k.1;omega
 rw [decide_eq_false (show ¬ (s.length:Int)<1 by omega)]
 try refine RUN ?_
 rw [hsz]
 by_cases c2:s.length>20
 ·rw [decide_eq_true (show (s.length:Int)>20 by omega)]
  try refine RUN ?_
  exact no fun k=>by have:=k.2.1;omega
 rw [decide_eq_false (show ¬ (s.length:Int)>20 by omega)]
 try refine RUN ?_
 refine EV.loopK (ι:=Nat) [0] [] (fun i=>[(3,.v (.int .i64 (i:Int)))]) (fun _=>[]) (fun _=>[]) (fun i _=>i≤s.length∧∀ (j:Nat) (c:UInt8),j<i→s[j]?=some c→nmAt j c=true) (fun i=>s.length-i) (0) rfl rfl ⟨rfl,trivial⟩ trivial rfl (fun _=>rfl) (⟨Nat.zero_le _,fun j c hj _=>absurd hj (Nat.not_lt_zero j)⟩) ?_
 rintro i G1 hG1 ⟨hi,hall⟩
 try refine RUN ?_
 rw [hsz]
 refine EV.cond rfl (fun hlt=>?_) (fun hlt=>?_)
 case refine_2 =>
  simp only [nN] at hlt
  try refine RUN ?_
  have:isNm s=true:=(isNm_iff s).2 ⟨by omega,by omega,fun j c hc=>hall j c (by have:=(List.getElem?_eq_some_iff.1 hc).1;omega) hc⟩
  rw [this]
 simp only [nN] at hlt
 obtain ⟨c,hc⟩:∃ c,s[i]?=some c:=⟨_,List.getElem?_eq_getElem oM⟩
 have next:nmAt i c=true→∀ (j:Nat) (d:UInt8),j<i+1→s[j]?=some d→nmAt j d=true:=fun h j d hj hd=>by
  by_cases e:j=i
  ·subst e;rw [hc] at hd;cases hd;exact h
  ·exact hall j d oM hd
 have wn:IntKind.i64.wrap ((i:Int)+1)=((i+1:Nat):Int):=wi_inc i oM
 try refine RUN ?_
 refine EVL.strAt rfl rfl rfl rfl kR rfl rfl i rfl hc ?_
 try refine RUN ?_
 generalize hL:isLet c=L
 refine EVL.meetK (ι:=Unit) [0,3,4] [] (fun _=>[(5,.v (.bool L))]) (fun _=>[]) (fun _=>[]) (fun _ G=>G1.Le G) rfl rfl (fun _=>rfl) ?_ ?_
 ·by_cases d1:97≤c.toNat
  ·rw [decide_eq_true (show (c.toNat:Int)≥97 by omega)]
   try refine RUN ?_
   by_cases d2:c.toNat≤122
   ·rw [decide_eq_true (show (c.toNat:Int)≤122 by omega)]
    rw [isLet_t (by omega)] at hL
    subst hL
    try refine RUN ?_
    exact ⟨(),⟨rfl,trivial⟩,sB,trivial,sB,rfl,Hp.Le.refl _⟩
   ·rw [decide_eq_false (show ¬ (c.toNat:Int)≤122 by omega)]
    rw [isLet_f (by omega)] at hL
    subst hL
    try refine RUN ?_
    rw [decide_eq_true (show (c.toNat:Int)≥65 by omega)]
    try refine RUN ?_
    rw [decide_eq_false (show ¬ (c.toNat:Int)≤90 by omega)]
    try refine RUN ?_
    exact ⟨(),⟨rfl,trivial⟩,sB,trivial,sB,rfl,Hp.Le.refl _⟩
  ·rw [decide_eq_false (show ¬ (c.toNat:Int)≥97 by omega)]
   try refine RUN ?_
   by_cases d2:65≤c.toNat
   ·rw [decide_eq_true (show (c.toNat:Int)≥65 by omega)]
    try refine RUN ?_
    by_cases d3:c.toNat≤90
    ·rw [decide_eq_true (show (c.toNat:Int)≤90 by omega)]
     rw [isLet_t (by omega)] at hL
     subst hL
     try refine RUN ?_
     exact ⟨(),⟨rfl,trivial⟩,sB,trivial,sB,rfl,Hp.Le.refl _⟩
    ·rw [decide_eq_false (show ¬ (c.toNat:Int)≤90 by omega)]
     rw [isLet_f (by omega)] at hL
     subst hL
     try refine RUN ?_
     exact ⟨(),⟨rfl,trivial⟩,sB,trivial,sB,rfl,Hp.Le.refl _⟩
   ·rw [decide_eq_false (show ¬ (c.toNat:Int)≥65 by omega)]
    rw [isLet_f (by omega)] at hL
    subst hL
    try refine RUN ?_
    exact ⟨(),⟨rfl,trivial⟩,sB,trivial,sB,rfl,Hp.Le.refl _⟩
 rintro _ G2 hG2
 cases L with
 | true =>
  try refine RUN ?_
  exact ⟨i+1,⟨by rw [wn];rfl,trivial⟩,sB,trivial,sB,rfl,⟨by omega,next (by unfold nmAt;rw [hL];rfl)⟩,hG2,by omega⟩
 | false =>
 have bad:nmAt i c=false→Value.bool false=.bool (isNm s):=fun h=>no fun k=>by rw [k.2.2 i c hc] at h;cases h
 try refine RUN ?_
 by_cases e0:i=0
 ·rw [show ((i:Int) == 0)=true by rw [e0];rfl]
  try refine RUN ?_
  exact bad (by unfold nmAt;rw [hL,decide_eq_false (by omega)];rfl)
 rw [show ((i:Int) == 0)=false from beq_eq_false_iff_ne.2 (by omega)]
 have hD:nmAt i c=(isDg c || decide (c=95)):=by unfold nmAt;rw [hL,decide_eq_true (by omega)];rfl
 try refine RUN ?_
 by_cases d1:48≤c.toNat
 ·rw [decide_eq_true (show (c.toNat:Int)≥48 by omega)]
  try refine RUN ?_
  by_cases d2:c.toNat≤57
  ·rw [decide_eq_true (show (c.toNat:Int)≤57 by omega)]
   try refine RUN ?_
   exact ⟨i+1,⟨by rw [wn];rfl,trivial⟩,sB,trivial,sB,rfl,⟨by omega,next (by rw [hD,isDg_iff.2 ⟨d1,d2⟩];rfl)⟩,hG2,by omega⟩
  ·rw [decide_eq_false (show ¬ (c.toNat:Int)≤57 by omega)]
   have hd:isDg c=false:=by rw [← Bool.not_eq_true,isDg_iff];omega
   try refine RUN ?_
   rw [ceq c 95 95 rfl]
   by_cases d3:c=95
   ·rw [decide_eq_true d3]
    try refine RUN ?_
    exact ⟨i+1,⟨by rw [wn];rfl,trivial⟩,sB,trivial,sB,rfl,⟨by omega,next (by rw [hD,hd,decide_eq_true d3];rfl)⟩,hG2,by omega⟩
   ·rw [decide_eq_false d3]
    try refine RUN ?_
    exact bad (by rw [hD,hd,decide_eq_false d3];rfl)
 ·rw [decide_eq_false (show ¬ (c.toNat:Int)≥48 by omega)]
  have hd:isDg c=false:=by rw [← Bool.not_eq_true,isDg_iff];omega
  try refine RUN ?_
  rw [ceq c 95 95 rfl]
  by_cases d3:c=95
  ·exact absurd d3 (fun e=>by subst e;exact d1 (by decide))
  ·rw [decide_eq_false d3]
   try refine RUN ?_
   exact bad (by rw [hD,hd,decide_eq_false d3];rfl)
theorem cutL_snoc2 {c x:UInt8} {l:List UInt8} {pre:List (List UInt8)} {w:List UInt8} (h:cutL c l=pre++[w]):cutL c (l++[x])=if x=c then pre++[w]++[[]] else pre++[w++[x]]:=by
 rw [cutL_snoc]
 split
 ·rw [h]
 ·simp only [h,List.dropLast_concat,List.getLast_concat]
theorem last_split {α:Type} {l:List α} (h:l≠[]):∃ pre w,l=pre++[w]:=by
 rcases List.eq_nil_or_concat l with q | ⟨m,x,q⟩
 ·exact absurd q h
 ·exact ⟨m,x,by rw [q,List.concat_eq_append]⟩
set_option maxRecDepth 100000 in
set_option maxHeartbeats 16000000 in
theorem rcut_pw {H:Hp} (s:List UInt8) (c:UInt8) (z:Int) (hz:z=(c.toNat:Int)) (hl:s.length≤1000000):PW prog 44 #[strV s,.int .u8 z] H [] fun r ow _=>OwnL 9 1 r (cutL c s).length ((cutL c s).map strV) ow:=by
 have hsz:=sb_size s
 subst hz
 refine PW.body tO func44 rfl kR ntmps44 rfl rfl ?_
 try refine RUN ?_
 refine EVL.lit tO rfl rfl rfl rfl rfl rfl rfl rfl rfl rfl rfl fun b1=>?_
 try refine RUN ?_
 refine EV.loopK (ι:=Nat × Value × Ows) [0,1] [] (fun q=>[(5,.v q.2.1),(6,.v (.int .i64 (q.1:Int)))]) (fun _=>[]) (fun q=>q.2.2) (fun q _=>q.1≤s.length∧OwnL 9 1 q.2.1 (cutL c (s.take q.1)).length ((cutL c (s.take q.1)).map strV) q.2.2) (fun q=>s.length-q.1) ((0,.slice (some ⟨b1,0,none⟩) 1 1,[(b1,9,[strV []])])) rfl rfl ⟨rfl,rfl,trivial⟩ trivial rfl (fun _=>rfl) (⟨Nat.zero_le _,OwnL.full (m:=1) rfl oM⟩) ?_
 rintro ⟨i,v,ow⟩ G1 hG1 ⟨hi,hown⟩
 dsimp only at hi hown
 have hcl:=cutL_len c (s.take i)
 rw [List.length_take] at hcl
 obtain ⟨pre,w,hpw⟩:=last_split (cutL_ne c (s.take i))
 have hwl:w.length≤s.length:=by
  have:=cutL_part (c:=c) (l:=s.take i) (w:=w) (by rw [hpw];simp)
  rw [List.length_take] at this;omega
 rw [hpw] at hown hcl
 rw [List.length_append,List.length_singleton] at hown hcl
 try refine RUN ?_
 rw [hsz]
 refine EV.cond rfl (fun hlt=>?_) (fun hlt=>?_)
 ·simp only [nN] at hlt
  obtain ⟨x,hx⟩:∃ x,s[i]?=some x:=⟨_,List.getElem?_eq_getElem oM⟩
  have wn:IntKind.i64.wrap ((i:Int)+1)=((i+1:Nat):Int):=wi_inc i oM
  have hnx:=cutL_snoc2 (x:=x) hpw
  rw [← take_snoc hx] at hnx
  obtain ⟨va,vc,rfl⟩:=hown.val
  try refine RUN ?_
  refine EVL.strAt rfl rfl rfl rfl kR rfl rfl i rfl hx ?_
  try refine RUN ?_
  rw [ceq x c _ rfl]
  by_cases e:x=c
  ·rw [decide_eq_true e]
   rw [if_pos e] at hnx
   try refine RUN ?_
   refine EVL.app1 tO rfl rfl rfl rfl rfl rfl rfl rfl rfl rfl rfl rfl rfl rfl rfl rfl rfl rfl rfl (fun _=>rfl) (ow) ([]) ((List.append_nil _).symm) (hown) oM fun _=>?_
   intro v' ow' hown'
   try refine RUN ?_
   rw [wn]
   exact ⟨(i+1,v',ow'),⟨rfl,rfl,trivial⟩,sB,trivial,sB,List.append_nil _,⟨by omega,by dsimp only;rw [hnx,List.length_append,List.map_append,List.length_append];exact hown'⟩,Hp.Le.refl _,by dsimp only;omega⟩
  ·rw [decide_eq_false e]
   rw [if_neg e] at hnx
   obtain ⟨g,cap,sp,e1,rfl,q1,q2,q3⟩:=hown.block oM
   cases e1
   have wl:IntKind.i64.wrap (((pre.length+1:Nat):Int)-1)=(pre.length:Int):=by rw [IntKind.wrap_i64];omega
   have hat:((pre++[w]).map strV++sp)[pre.length]?=some (strV w):=by
    rw [List.map_append,List.append_assoc,List.getElem?_append_right (by rw [List.length_map];exact Nat.le_refl _),List.length_map,Nat.sub_self];rfl
   try refine RUN ?_
   apply EV.drawn 16 kR kR;intro xv yw
   (repeat refine' DD ?_)
   rw [wl]
   refine' DJ.idxB tO rfl rfl rfl rfl rfl rfl rfl rfl rfl (pre.length) (pre.length*1) (rfl) (oM) (rfl) ?_;rotate_left
   rw [Nat.mul_one]
   refine' DJ.ofVal (ValOk.load1 tO rfl rfl rfl rfl rfl rfl (0) rfl (hat)) rfl rfl rfl ?_;rotate_left
   (repeat refine' DD ?_)
   rw [wn]
   (repeat refine' DD ?_)
   refine' DJ.strSlc rfl rfl rfl rfl kR rfl i (i+1) (.inr ⟨_,IntKind.i64,rfl,rfl⟩) (.inr ⟨_,IntKind.i64,rfl,rfl⟩) oM oM ?_;rotate_left
   rw [sb_cut,show i+1-i=1 by omega,dropA_at hx]
   refine' DJ.cat w [x] rfl rfl rfl rfl rfl rfl oM (by show 1≤_;omega) ?_;rotate_left
   (refine DJ.nil (fun G2 hG2 hF2=>?_);(case hS|hS2=>rfl))
   refine EVL.idxB tO rfl rfl rfl rfl rfl rfl rfl rfl rfl (pre.length) (pre.length*1) (rfl) (oM) (rfl) ?_
   rw [Nat.mul_one]
   refine EVL.set1 tO rfl rfl rfl rfl rfl rfl rfl rfl rfl rfl ((by rw [List.length_append,List.length_map,List.length_append];show pre.length<pre.length+1+_;omega)) ?_
   try refine RUN ?_
   rw [wn]
   refine ⟨(i+1,.slice (some ⟨g,0,none⟩) (pre.length+1) vc,[(g,9,(pre++[w++[x]]).map strV++sp)]),⟨rfl,rfl,trivial⟩,sB,trivial,sB,?_,⟨by omega,?_⟩,hG2,by dsimp only;omega⟩
   ·dsimp only
    rw [List.map_append,List.map_append,List.append_assoc,List.append_assoc,List.set_append_right _ _ (by rw [List.length_map];exact Nat.le_refl _),List.length_map,Nat.sub_self]
    rfl
   ·dsimp only
    rw [hnx,List.length_append]
    refine ⟨by simp,.inr ⟨g,vc,sp,rfl,rfl,?_,q2,q3⟩⟩
    rw [← q1];simp
 ·simp only [nN] at hlt
  obtain rfl:i=s.length:=by omega
  rw [← List.length_singleton (a:=w),← List.length_append,← hpw,List.take_length] at hown
  try refine RUN ?_
  exact hown
theorem rhas_pc {H:Hp} {v:Value} {l:List (List UInt8)} (hv:SL H v l) (w:List UInt8) (hl:l.length≤100000000):PC prog 96 #[v,strV w] H fun r _=>r=.bool (decide (w∈l)):=by
 obtain ⟨a,c,rfl⟩:=SlC.val hv
 refine BD func96 ntmps96 ?_
 try refine RUN ?_
 refine EV.loopK (ι:=Nat) [0,1] [] (fun i=>[(5,.v (.int .i64 (i:Int)))]) (fun _=>[]) (fun _=>[]) (fun i _=>i≤l.length∧w ∉ l.take i) (fun i=>l.length-i) (0) rfl rfl ⟨rfl,trivial⟩ trivial rfl (fun _=>rfl) (⟨Nat.zero_le _,fun k=>by cases k⟩) ?_
 rintro i G1 hG1 ⟨hi,hb⟩
 try refine RUN ?_
 refine EV.cond rfl (fun hlt=>?_) (fun hlt=>?_)
 ·simp only [nN] at hlt
  obtain ⟨z,hz⟩:∃ z,l[i]?=some z:=⟨_,List.getElem?_eq_getElem hlt⟩
  try refine RUN ?_
  refine EVL.idxR tO rfl rfl rfl rfl rfl rfl rfl rfl rfl rfl ((hv.mono hG1)) (i) (rfl) (hlt) ((by rw [List.getElem?_map,hz];rfl)) ?_
  try refine RUN ?_
  rw [sb_eqb]
  by_cases e:z=w
  ·rw [decide_eq_true e]
   try refine RUN ?_
   rw [decide_eq_true (by rw [← e];exact List.mem_of_getElem? hz)]
  ·rw [decide_eq_false e]
   try refine RUN ?_
   refine ⟨i+1,⟨by rw [wi_inc i (by omega)];rfl,trivial⟩,sB,trivial,sB,rfl,⟨hlt,?_⟩,Hp.Le.refl _,by omega⟩
   rw [take_snoc hz,List.mem_append,List.mem_singleton]
   exact fun k=>k.elim hb fun q=>e q.symm
 ·simp only [nN] at hlt
  obtain rfl:i=l.length:=by omega
  rw [List.take_length] at hb
  try refine RUN ?_
  rw [decide_eq_false hb]
theorem cneq (c d:UInt8) (z:Int) (hz:z=(d.toNat:Int)):((c.toNat:Int) != z)=decide (c≠d):=by
 unfold bne
 rw [ceq c d z hz]
 by_cases h:c=d
 ·rw [decide_eq_true h,decide_eq_false (fun k=>k h)];rfl
 ·rw [decide_eq_false h,decide_eq_true h];rfl
theorem sb_neq (l m:List UInt8):(!((sb l).toList == (sb m).toList))=decide (l≠m):=by
 rw [sb_eqb]
 by_cases h:l=m
 ·rw [decide_eq_true h,decide_eq_false (fun k=>k h)];rfl
 ·rw [decide_eq_false h,decide_eq_true h];rfl
def RColAns (H:Hp) (r:Value):Except Nat ColT→Prop
 | .error e=>r=.tuple #[.agg #[strV [],.int .i64 0,.slice none 0 0],.int .i64 (e:Int)]∧e≠0
 | .ok c=>∃ cs,r=.tuple #[.agg cs.toArray,.int .i64 0]∧SCol H cs c
theorem rColAns_len {s:List UInt8} {c:ColT} (h:rCol s=.ok c):c.words.length≤12:=by
 unfold rCol at h
 split at h
 ·cases h
 ·split at h
  ·cases h;exact Nat.zero_le _
  ·split at h
   ·cases h
   ·split at h
    ·cases h
    ·split at h
     ·cases h
     ·split at h
      ·cases h
      ·cases h;dsimp only;omega
set_option maxRecDepth 100000 in
set_option maxHeartbeats 32000000 in
theorem rcol_pc {H:Hp} (s:List UInt8) (hl:s.length≤1000000):PC prog 45 #[strV s] H fun r H'=>RColAns H' r (rCol s):=by
 have hsz:=sb_size s
 have bad:∀ (G:Hp) (e:Nat),e≠0→rCol s=.error e→RColAns G (.tuple #[.agg #[strV [],.int .i64 0,.slice none 0 0],.int .i64 (e:Int)]) (rCol s):=fun G e h0 h=>by rw [h];exact ⟨rfl,h0⟩
 refine BD func45 ntmps45 ?_
 (try refine RUNB ?_)
 refine EV.meetK (ι:=Nat) [0,2] [2] (fun i=>[(4,.v (.int .i64 (i:Int)))]) (fun _=>[]) (fun _=>[]) (fun i G=>H.Le G∧i≤s.length∧Sc0 s i∧(i=s.length∨s[i]?=some 58)) rfl rfl (fun _=>rfl) ?_ ?_
 ·(try refine RUN ?_)
  refine EV.loopK (ι:=Nat) [0,2] [2] (fun i=>[(4,.v (.int .i64 (i:Int)))]) (fun _=>[]) (fun _=>[]) (fun i _=>i≤s.length∧Sc0 s i) (fun i=>s.length-i) (0) rfl rfl ⟨rfl,trivial⟩ trivial rfl (fun _=>rfl) (⟨Nat.zero_le _,sc0_nil s⟩) ?_
  rintro i G1 hG1 ⟨hi,hs0⟩
  try refine RUN ?_
  rw [hsz]
  by_cases hlt:i<s.length
  ·rw [decide_eq_true (show (i:Int)<s.length by omega)]
   obtain ⟨c,hc⟩:∃ c,s[i]?=some c:=⟨_,List.getElem?_eq_getElem hlt⟩
   try refine RUN ?_
   refine EVL.strAt rfl rfl rfl rfl kR rfl rfl i rfl hc ?_
   try refine RUN ?_
   rw [cneq c 58 58 rfl]
   by_cases e:c=58
   ·subst e
    rw [decide_eq_false (fun k=>k rfl)]
    try refine RUN ?_
    exact ⟨i,⟨rfl,trivial⟩,sB,trivial,sB,rfl,hG1,hi,hs0,.inr hc⟩
   ·rw [decide_eq_true e]
    try refine RUN ?_
    exact ⟨i+1,⟨by rw [wi_inc i (by omega)];rfl,trivial⟩,sB,trivial,sB,rfl,⟨hlt,sc0_next hs0 hc e⟩,Hp.Le.refl _,by omega⟩
  ·rw [decide_eq_false (show ¬ (i:Int)<s.length by omega)]
   try refine RUN ?_
   exact ⟨i,⟨rfl,trivial⟩,sB,trivial,sB,rfl,hG1,hi,hs0,.inl oM⟩
 rintro i G1 ⟨hG1,hi,hs0,hend⟩
 try refine RUN ?_
 rw [hsz]
 rcases hend with rfl | hc
 ·rw [show ((s.length:Int) == (s.length:Int))=true from beq_self_eq_true _]
  try refine RUN ?_
  refine bad _ 2 (by decide) ?_
  have:=no_from hs0
  rw [List.drop_zero] at this
  unfold rCol
  rw [if_pos (.inl this)]
 have hlt:=(List.getElem?_eq_some_iff.1 hc).1
 rw [show ((i:Int) == (s.length:Int))=false from beq_eq_false_iff_ne.2 (by omega)]
 obtain ⟨k1,k2,k3⟩:=(show Fst s 58 0 i from ⟨Nat.zero_le _,hc,hs0⟩).cut
 rw [List.drop_zero] at k1 k2 k3
 rw [List.drop_zero] at k2
 have hr:rCol s=if isNm (s.take i)=false then .error 2
  else if s.drop (i+1)=numberB then .ok ⟨s.take i,1,[]⟩
  else if (s.drop (i+1)).length<9∨(s.drop (i+1)).take 7≠[99,104,111,105,99,101,40]∨(s.drop (i+1)).getLast?≠some 41 then .error 2
  else if (cutL 124 (((s.drop (i+1)).drop 7).dropLast)).all isNm=false then .error 2
  else if 12<(cutL 124 (((s.drop (i+1)).drop 7).dropLast)).length then .error 4
  else if hasTwice (cutL 124 (((s.drop (i+1)).drop 7).dropLast))=true then .error 8
  else .ok ⟨s.take i,2,cutL 124 (((s.drop (i+1)).drop 7).dropLast)⟩:=by
  unfold rCol
  rw [k2,k3]
  by_cases h:isNm (s.take i)=false
  ·rw [if_pos (.inr h),if_pos h]
  ·rw [if_neg (fun q=>q.elim (fun q=>q k1) h),if_neg h];rfl
 have wn:IntKind.i64.wrap ((i:Int)+1)=((i+1:Nat):Int):=wi_inc i oM
 have hn:=rIsName_pv (s.take i) (by rw [List.length_take];omega)
 try refine RUN ?_
 refine EVL.strSlc rfl rfl rfl rfl kR rfl 0 i (.inl ⟨rfl,rfl⟩) (.inr ⟨_,IntKind.i64,rfl,rfl⟩) (Nat.zero_le _) oM ?_
 rw [sb_cut,Nat.sub_zero,List.drop_zero]
 cases hnm:isNm (s.take i) with
 | false =>
  rw [hnm] at hn hr
  rw [if_pos rfl] at hr
  repeat (first | refine RUN ?_ | refine CV (hn) ?_ | refine CE (hn) ?_)
  exact bad _ 2 (by decide) hr
 | true =>
 rw [hnm] at hn hr
 rw [if_neg (by decide)] at hr
 repeat (first | refine RUN ?_ | refine CV (hn) ?_ | refine CE (hn) ?_)
 refine EVL.strSlc rfl rfl rfl rfl kR rfl 0 i (.inl ⟨rfl,rfl⟩) (.inr ⟨_,IntKind.i64,rfl,rfl⟩) (Nat.zero_le _) oM ?_
 rw [sb_cut,Nat.sub_zero,List.drop_zero]
 try refine RUN ?_
 rw [wn]
 try refine RUN ?_
 refine EVL.strSlc rfl rfl rfl rfl kR rfl (i+1) s.length (.inr ⟨_,IntKind.i64,rfl,rfl⟩) (.inl ⟨rfl,hsz.symm⟩) oM oM ?_
 rw [sb_cut,← List.drop_take,List.take_length]
 have hkl:(s.drop (i+1)).length≤s.length:=by rw [List.length_drop];omega
 generalize s.drop (i+1)=k at *
 have hkz:=sb_size k
 try refine RUN ?_
 rw [show (⟨#[110,117,109,98,101,114]⟩:ByteArray)=sb numberB from rfl,sb_eqb]
 by_cases hnum:k=numberB
 ·rw [decide_eq_true hnum]
  rw [if_pos hnum] at hr
  try refine RUN ?_
  rw [hr]
  exact ⟨_,rfl,none,0,nil_sl _ _,rfl⟩
 rw [decide_eq_false hnum]
 rw [if_neg hnum] at hr
 try refine RUN ?_
 rw [hkz]
 by_cases c9:k.length<9
 ·rw [decide_eq_true (show (k.length:Int)<9 by omega)]
  rw [if_pos (.inl c9)] at hr
  try refine RUN ?_
  exact bad _ 2 (by decide) hr
 rw [decide_eq_false (show ¬ (k.length:Int)<9 by omega)]
 try refine RUN ?_
 refine EVL.strSlc rfl rfl rfl rfl kR rfl 0 7 (.inl ⟨rfl,rfl⟩) (.inr ⟨_,IntKind.i64,rfl,rfl⟩) (Nat.zero_le _) oM ?_
 rw [sb_cut,Nat.sub_zero,List.drop_zero]
 try refine RUN ?_
 rw [show (⟨#[99,104,111,105,99,101,40]⟩:ByteArray)=sb [99,104,111,105,99,101,40] from rfl,sb_neq]
 by_cases c7:k.take 7=[99,104,111,105,99,101,40]
 case neg =>
  rw [decide_eq_true c7]
  rw [if_pos (.inr (.inl c7))] at hr
  try refine RUN ?_
  exact bad _ 2 (by decide) hr
 rw [decide_eq_false (fun q=>q c7)]
 obtain ⟨y,hy⟩:∃ y,k[k.length-1]?=some y:=⟨_,List.getElem?_eq_getElem oM⟩
 have hlast:k.getLast?=some y:=by rw [List.getLast?_eq_getElem?];exact hy
 have wl:IntKind.i64.wrap ((k.length:Int)-1)=((k.length-1:Nat):Int):=by rw [IntKind.wrap_i64];omega
 try refine RUN ?_
 rw [hkz,wl]
 refine EVL.strAt rfl rfl rfl rfl kR rfl rfl (k.length-1) rfl hy ?_
 try refine RUN ?_
 rw [cneq y 41 41 rfl]
 by_cases c41:y=41
 case neg =>
  rw [decide_eq_true c41]
  rw [if_pos (.inr (.inr (by rw [hlast];exact fun q=>c41 (Option.some.inj q))))] at hr
  try refine RUN ?_
  exact bad _ 2 (by decide) hr
 rw [decide_eq_false (fun q=>q c41)]
 rw [if_neg (show ¬ (k.length<9∨k.take 7≠[99,104,111,105,99,101,40]∨k.getLast?≠some 41) from fun q=>q.elim c9 fun q=>q.elim (fun q=>q c7) fun q=>q (by rw [hlast,c41]))] at hr
 try refine RUN ?_
 rw [hkz,wl]
 refine EVL.strSlc rfl rfl rfl rfl kR rfl 7 (k.length-1) (.inr ⟨_,IntKind.i64,rfl,rfl⟩) (.inr ⟨_,IntKind.i64,rfl,rfl⟩) oM oM ?_
 have hmid:(k.drop 7).take (k.length-1-7)=(k.drop 7).dropLast:=by rw [List.dropLast_eq_take,List.length_drop];congr 1 <;> omega
 rw [sb_cut,hmid]
 have hul:(k.drop 7).dropLast.length≤1000000:=by rw [List.length_dropLast,List.length_drop];omega
 generalize (k.drop 7).dropLast=u at *
 try refine RUN ?_
 refine EVL.callW rfl rfl rfl rfl rfl ([]) ([]) rfl (rcut_pw u 124 124 rfl hul) ?_
 rintro wv ow G2 hown hG2
 have hcp:=fun w (h:w∈cutL 124 u)=>cutL_part h
 have hcl:=cutL_len 124 u
 generalize cutL 124 u=ws at *
 obtain ⟨wa,wc,rfl⟩:=hown.val
 (first | refine EVL.publishL [] ow [] (rfl) hown fun G3 hG3 hsl=>?_ | refine EV.publishL [] ow [] (rfl) hown fun G3 hG3 hsl=>?_)
 have hws:SL G3 (.slice wa ws.length wc) ws:=hsl
 have hcap:=hws.le
 try refine RUN ?_
 refine EV.loopK (ι:=Nat) [2,5] [2,5] (fun j=>[(7,.v (.int .i64 (j:Int)))]) (fun _=>[]) (fun _=>[]) (fun j _=>j≤ws.length∧(ws.take j).all isNm=true) (fun j=>ws.length-j) (0) rfl rfl ⟨rfl,trivial⟩ trivial rfl (fun _=>rfl) (⟨Nat.zero_le _,rfl⟩) ?_
 rintro j G4 hG4 ⟨hj,hall⟩
 try refine RUN ?_
 refine EV.cond rfl (fun hlt2=>?_) (fun hlt2=>?_)
 ·simp only [nN] at hlt2
  obtain ⟨z,hz⟩:∃ z,ws[j]?=some z:=⟨_,List.getElem?_eq_getElem hlt2⟩
  have hzn:=rIsName_pv z (by have:=hcp z (List.mem_of_getElem? hz);omega)
  try refine RUN ?_
  refine EVL.idxR tO rfl rfl rfl rfl rfl rfl rfl rfl rfl rfl ((hws.mono hG4)) (j) (rfl) (hlt2) ((by rw [List.getElem?_map,hz];rfl)) ?_
  cases hzt:isNm z with
  | false =>
   rw [hzt] at hzn
   repeat (first | refine RUN ?_ | refine CV (hzn) ?_ | refine CE (hzn) ?_)
   have:ws.all isNm=false:=by
    rw [← Bool.not_eq_true]
    intro q
    rw [List.all_eq_true.1 q z (List.mem_of_getElem? hz)] at hzt
    cases hzt
   rw [if_pos this] at hr
   exact bad _ 2 (by decide) hr
  | true =>
   rw [hzt] at hzn
   repeat (first | refine RUN ?_ | refine CV (hzn) ?_ | refine CE (hzn) ?_)
   exact ⟨j+1,⟨by rw [wi_inc j (by omega)];rfl,trivial⟩,sB,trivial,sB,rfl,⟨hlt2,by rw [take_snoc hz,List.all_append,hall,List.all_cons,hzt];rfl⟩,Hp.Le.refl _,by omega⟩
 simp only [nN] at hlt2
 obtain rfl:j=ws.length:=by omega
 rw [List.take_length] at hall
 rw [if_neg (by rw [hall];decide)] at hr
 try refine RUN ?_
 by_cases c12:12<ws.length
 ·rw [decide_eq_true (show (ws.length:Int)>12 by omega)]
  rw [if_pos c12] at hr
  try refine RUN ?_
  exact bad _ 4 (by decide) hr
 rw [decide_eq_false (show ¬ (ws.length:Int)>12 by omega)]
 rw [if_neg c12] at hr
 try refine RUN ?_
 refine EV.loopK (ι:=Nat) [2,5] [2,5] (fun j=>[(8,.v (.int .i64 (j:Int)))]) (fun _=>[]) (fun _=>[]) (fun j _=>j≤ws.length∧(ws.take j).Nodup) (fun j=>ws.length-j) (0) rfl rfl ⟨rfl,trivial⟩ trivial rfl (fun _=>rfl) (⟨Nat.zero_le _,List.nodup_nil⟩) ?_
 rintro j G5 hG5 ⟨hj,hnd⟩
 try refine RUN ?_
 refine EV.cond rfl (fun hlt3=>?_) (fun hlt3=>?_)
 ·simp only [nN] at hlt3
  obtain ⟨z,hz⟩:∃ z,ws[j]?=some z:=⟨_,List.getElem?_eq_getElem hlt3⟩
  have hw5:=hws.mono (hG4.trans hG5)
  have hpre:∀ G,G5.Le G→SL G (.slice (if wc=0 then wa else wa.map (·.add (0*1))) (j-0) (wc-0)) (ws.take j):=fun G hG=>by
   have:=(hw5.mono hG).pre j hj 1
   exact this
  have htk:=take_snoc hz
  try refine RUN ?_
  apply EV.drawn 10 kR kR;intro xv yw
  (repeat refine' DD ?_)
  refine' DJ.ofVal (ValOk.sliceV (te':=Tryz.te9) (a:=wa) (m:=ws.length) (cap:=wc) tO rfl rfl rfl rfl rfl rfl 0 j (.inl ⟨rfl,rfl⟩) (.inr ⟨_,IntKind.i64,rfl,rfl⟩) (Nat.zero_le _) oM hcap) rfl rfl rfl ?_;rotate_left
  (repeat refine' DD ?_)
  refine' DJ.ofVal (ValOk.idx1 tO rfl rfl rfl rfl rfl rfl rfl rfl (hw5) (j) (rfl) (hlt3) ((by rw [List.getElem?_map,hz];rfl))) rfl rfl rfl ?_;rotate_left
  (repeat refine' DD ?_)
  refine' DJ.callS rfl rfl rfl rfl rfl (cO func96) (fun G hG hd=>(rhas_pc (l:=ws.take j) (hpre G hG) z (by rw [List.length_take];omega))) ?_;rotate_left
  (refine DJ.nil (fun G2 hG2 hF2=>?_);(case hS|hS2=>rfl))
  by_cases e:z∈ws.take j
  ·rw [decide_eq_true e]
   try refine RUN ?_
   rw [if_pos (twice_take (j+1) (by rw [htk,nodup_snoc];exact fun q=>q.2 e))] at hr
   exact bad _ 8 (by decide) hr
  ·rw [decide_eq_false e]
   try refine RUN ?_
   exact ⟨j+1,⟨by rw [wi_inc j (by omega)];rfl,trivial⟩,sB,trivial,sB,rfl,⟨hlt3,by rw [htk,nodup_snoc];exact ⟨hnd,e⟩⟩,hG2,by omega⟩
 simp only [nN] at hlt3
 obtain rfl:j=ws.length:=by omega
 rw [List.take_length] at hnd
 have h2:¬ hasTwice ws=true:=by unfold hasTwice;rw [decide_eq_true hnd];decide
 rw [if_neg h2] at hr
 try refine RUN ?_
 rw [hr]
 exact ⟨_,rfl,wa,wc,hws.mono (hG4.trans hG5),rfl⟩
def RCellAns (H:Hp) (r:Value):Except Nat CellT→Prop
 | .error e=>r=.tuple #[.agg #[.bool false,.bool false,.slice none 0 0,.slice none 0 0,.int .i64 0],.int .i64 (e:Int)]∧e≠0
 | .ok x=>∃ cs,r=.tuple #[.agg cs.toArray,.int .i64 0]∧RCell H cs x
theorem rcell_of {G:Hp} {w:Value} {q:Rat} (h:RQ G w q) (b:Bool) (k:Nat):RCell G (.bool b::(vlist w++[.int .i64 (k:Int)])) ⟨b,q,k⟩:=⟨w,h,rfl⟩
set_option maxRecDepth 100000 in
set_option maxHeartbeats 16000000 in
theorem rcell_pc {H:Hp} {cs:List Value} {c:ColT} (hc:SCol H cs c) (s:List UInt8) (hw:c.words.length≤1000000) (hl:s.length≤1000000):PC prog 46 #[.agg cs.toArray,strV s] H fun r H'=>RCellAns H' r (pCell c s):=by
 have hq:=fun G:Hp=>rparse_pc (H:=G) s oM
 have hof:=fun G:Hp=>refOf_pc (H:=G) 0 oM oM
 have hp:pCell c s=if s=[63] then .ok ⟨true,0,0⟩
  else if c.kind=1 then match pQ s with
   | none=>.error 2
   | some q=>.ok ⟨false,q,0⟩
  else match posL s c.words with
   | none=>.error 11
   | some k=>.ok ⟨false,0,k⟩:=rfl
 have bad:∀ (G:Hp) (e:Nat),e≠0→pCell c s=.error e→RCellAns G (.tuple #[.agg #[.bool false,.bool false,.slice none 0 0,.slice none 0 0,.int .i64 0],.int .i64 (e:Int)]) (pCell c s):=fun G e h0 h=>by
  rw [h]
  exact ⟨rfl,h0⟩
 obtain ⟨a,n,hws,rfl⟩:=hc
 refine BD func46 ntmps46 ?_
 try refine RUN ?_
 rw [show (⟨#[63]⟩:ByteArray)=sb [63] from rfl,sb_eqb]
 by_cases e:s=[63]
 ·rw [decide_eq_true e]
  rw [if_pos e] at hp
  try refine RUN ?_
  refine EVL.call rfl rfl rfl rfl rfl (hof _) ?_
  rintro w G1 hw1 hG1
  obtain ⟨ra,rl,rc,xa,xl,xc,rfl⟩:=rq_form hw1
  try refine RUN ?_
  rw [hp]
  exact ⟨_,rfl,rcell_of hw1 true 0⟩
 rw [decide_eq_false e]
 rw [if_neg e] at hp
 try refine RUN ?_
 by_cases k1:c.kind=1
 ·rw [show ((c.kind:Int) == 1)=true by rw [k1];rfl]
  rw [if_pos k1] at hp
  try refine RUN ?_
  refine EVL.call rfl rfl rfl rfl rfl (hq _) ?_
  rintro _ G1 ⟨w,rfl,hw1⟩ hG1
  cases hz:pQ s with
  | none =>
   rw [hz] at hp hw1
   obtain ⟨ra,rl,rc,xa,xl,xc,rfl⟩:=rq_form hw1
   try refine RUN ?_
   exact bad _ 2 (by decide) hp
  | some q =>
   rw [hz] at hp hw1
   have hw2:RQ G1 w q:=hw1
   obtain ⟨ra,rl,rc,xa,xl,xc,rfl⟩:=rq_form hw2
   try refine RUN ?_
   rw [hp]
   exact ⟨_,rfl,rcell_of hw2 false 0⟩
 rw [show ((c.kind:Int) == 1)=false from beq_eq_false_iff_ne.2 (by omega)]
 rw [if_neg k1] at hp
 try refine RUN ?_
 refine EV.loopK (ι:=Nat) [1,2,4] [2,4] (fun j=>[(8,.v (.int .i64 (j:Int)))]) (fun _=>[]) (fun _=>[]) (fun j _=>j≤c.words.length∧∀ i,i<j→c.words[i]?≠some s) (fun j=>c.words.length-j) (0) rfl rfl ⟨rfl,trivial⟩ trivial rfl (fun _=>rfl) (⟨Nat.zero_le _,fun i h=>absurd h (Nat.not_lt_zero i)⟩) ?_
 rintro j G1 hG1 ⟨hj,hb⟩
 try refine RUN ?_
 refine EV.cond rfl (fun hlt=>?_) (fun hlt=>?_)
 ·simp only [nN] at hlt
  obtain ⟨z,hz⟩:∃ z,c.words[j]?=some z:=⟨_,List.getElem?_eq_getElem hlt⟩
  try refine RUN ?_
  refine EVL.idxR tO rfl rfl rfl rfl rfl rfl rfl rfl rfl rfl ((hws.mono hG1)) (j) (rfl) (hlt) ((by rw [List.getElem?_map,hz];rfl)) ?_
  try refine RUN ?_
  rw [sb_eqb]
  by_cases e2:z=s
  ·rw [decide_eq_true e2]
   rw [posL_at (by rw [hz,e2]) hb] at hp
   try refine RUN ?_
   refine EVL.call rfl rfl rfl rfl rfl (hof _) ?_
   rintro w G2 hw1 hG2
   obtain ⟨ra,rl,rc,xa,xl,xc,rfl⟩:=rq_form hw1
   try refine RUN ?_
   rw [hp]
   exact ⟨_,rfl,rcell_of hw1 false j⟩
  ·rw [decide_eq_false e2]
   try refine RUN ?_
   refine ⟨j+1,⟨by rw [wi_inc j (by omega)];rfl,trivial⟩,sB,trivial,sB,rfl,⟨hlt,fun i hi=>?_⟩,Hp.Le.refl _,by omega⟩
   by_cases q:i=j
   ·subst q;rw [hz];exact fun k=>e2 (Option.some.inj k)
   ·exact hb i oM
 ·simp only [nN] at hlt
  obtain rfl:j=c.words.length:=by omega
  rw [posL_none_of hb] at hp
  try refine RUN ?_
  exact bad _ 11 (by decide) hp
theorem RCellAns.mono {G K:Hp} {r:Value} {x:Except Nat CellT} (h:RCellAns G r x) (k:G.Le K):RCellAns K r x:=by
 cases x with
 | error e=>exact h
 | ok x=>obtain ⟨cs,e,h⟩:=h;exact ⟨cs,e,RCell.ok.mono h k⟩
theorem RCellAns.shape {G:Hp} {r:Value} {x:Except Nat CellT} (h:RCellAns G r x):∃ b1 b2 a l c a' l' c' k e,r=.tuple #[.agg #[.bool b1,.bool b2,.slice a l c,.slice a' l' c',.int .i64 k],.int .i64 e]:=by
 cases x with
 | error e=>exact ⟨_,_,_,_,_,_,_,_,_,_,h.1⟩
 | ok x =>
  obtain ⟨cs,rfl,w,h,rfl⟩:=h
  obtain ⟨ra,rl,rc,xa,xl,xc,rfl⟩:=rq_form h
  exact ⟨_,_,_,_,_,_,_,_,_,_,rfl⟩
def RParseAns (H:Hp) (r:Value):Except (Nat × Nat × Nat) SheetT→Prop
 | .error e=>r=.tuple #[.agg #[.slice none 0 0,.slice none 0 0],.agg #[.int .i64 (e.1:Int),.int .i64 (e.2.1:Int),.int .i64 (e.2.2:Int)]]∧e.1≠0
 | .ok t=>∃ v w,r=.tuple #[.agg #[v,w],.agg #[.int .i64 0,.int .i64 0,.int .i64 0]]∧ColL H v t.1∧RRows H w t.2
theorem flat_at {css:List (List Value)} {k:Nat} (hk:∀ x,x∈css→x.length=k) {j f:Nat} {c:List Value} {v:Value} (hj:css[j]?=some c) (hv:c[f]?=some v) (sp:List Value):(css.flatten++sp)[j*k+f]?=some v:=by
 induction css generalizing j with
 | nil=>cases hj
 | cons x r ih =>
  have hx:=hk x (List.mem_cons_self ..)
  cases j with
  | zero =>
   cases hj
   rw [Nat.zero_mul,Nat.zero_add,List.flatten_cons,List.append_assoc,List.getElem?_append_left (List.getElem?_eq_some_iff.1 hv).1]
   exact hv
  | succ j =>
   rw [List.flatten_cons,List.append_assoc,List.getElem?_append_right (by rw [hx,Nat.succ_mul];omega),hx,show (j+1)*k+f-k=j*k+f by rw [Nat.succ_mul];omega]
   exact ih (fun y hy=>hk y (List.mem_cons_of_mem _ hy)) hj
theorem LsR.all {α:Type} {R:Hp→List Value→α→Prop} {k:Nat} (ok:RelOk R k) {H:Hp} {css:List (List Value)} {l:List α} (h:LsR R H css l):∀ x,x∈css→x.length=k:=fun x hx=>by
 obtain ⟨i,hi⟩:=List.mem_iff_getElem?.1 hx
 have hi':=(List.getElem?_eq_some_iff.1 hi).1
 exact ok.len (h.2 i x _ hi (List.getElem?_eq_getElem (by rw [← h.1];exact hi')))
theorem lines_cut {s:List UInt8} {pre:List (List UInt8)} {w:List UInt8} (h:cutL 10 s=pre++[w]):cutL 10 (noEnd s)=if w=[]∧1<(pre++[w]).length then pre else pre++[w]:=by
 have:=lines_eq s
 rw [h,List.getLast?_concat,List.dropLast_concat] at this
 rw [← this]
 by_cases e:w=[]∧1<(pre++[w]).length
 ·rw [if_pos ⟨by rw [e.1],e.2⟩,if_pos e]
 ·rw [if_neg (fun k=>e ⟨Option.some.inj k.1,k.2⟩),if_neg e]
set_option maxRecDepth 100000 in
set_option maxHeartbeats 64000000 in
theorem rsheetParse_pc {H:Hp} (s:List UInt8) (hl:s.length≤1000000000000):PC prog 13 #[strV s] H fun r H'=>RParseAns H' r (pSheet s):=by
 have hsz:=sb_size s
 have hps:pSheet s=if 65536<s.length then .error (4,0,0)
  else match cutL 10 (noEnd s) with
   | []=>.error (2,1,0)
   | h::r=>match pCols [] (cutL 44 h) with
    | .error e=>.error e
    | .ok cs=>match pRows cs [] r with
     | .error e=>.error e
     | .ok rows=>.ok (cs,rows):=rfl
 have bad:∀ (G:Hp) (e l a:Nat),e≠0→pSheet s=.error (e,l,a)→RParseAns G (.tuple #[.agg #[.slice none 0 0,.slice none 0 0],.agg #[.int .i64 (e:Int),.int .i64 (l:Int),.int .i64 (a:Int)]]) (pSheet s):=fun G e l a h0 h=>by rw [h];exact ⟨rfl,h0⟩
 refine BD func13 ntmps13 ?_
 try refine RUN ?_
 rw [hsz]
 by_cases c1:s.length>65536
 ·rw [decide_eq_true (show (s.length:Int)>65536 by omega)]
  rw [if_pos c1] at hps
  try refine RUN ?_
  exact bad _ 4 0 0 (by decide) hps
 rw [decide_eq_false (show ¬ (s.length:Int)>65536 by omega)]
 rw [if_neg c1] at hps
 have hnl:(noEnd s).length≤s.length:=by
  unfold noEnd
  split
  ·rw [List.length_dropLast];omega
  ·exact Nat.le_refl _
 try refine RUN ?_
 refine EVL.callW rfl rfl rfl rfl rfl ([]) ([]) rfl (rcut_pw s 10 10 rfl oM) ?_
 rintro tv tow G1 hown hG1
 obtain ⟨pre,w,hpw⟩:=last_split (cutL_ne 10 s)
 have hcl0:=cutL_len 10 s
 have hlc:=lines_cut hpw
 have hcl:=cutL_len 10 (noEnd s)
 have hcp:=fun w (h:w∈cutL 10 (noEnd s))=>cutL_part h
 rw [hpw] at hown hcl0
 obtain ⟨ta,tc,rfl⟩:=hown.val
 (first | refine EVL.publishL [] tow [] (rfl) hown fun G2 hG2 hs2=>?_ | refine EV.publishL [] tow [] (rfl) hown fun G2 hG2 hs2=>?_)
 have ht:SL G2 (.slice ta (pre++[w]).length tc) (pre++[w]):=hs2
 have hcap:=ht.le
 have hlen:(pre++[w]).length=pre.length+1:=by rw [List.length_append];rfl
 have hwl:IntKind.i64.wrap (((pre++[w]).length:Int)-1)=(pre.length:Int):=by rw [IntKind.wrap_i64];omega
 have hat:((pre++[w]).map strV)[pre.length]?=some (strV w):=by rw [List.map_append,List.getElem?_append_right (by rw [List.length_map];exact Nat.le_refl _),List.length_map,Nat.sub_self];rfl
 try refine RUN ?_
 rw [hwl]
 refine EVL.idxR tO rfl rfl rfl rfl rfl rfl rfl rfl rfl rfl (ht) (pre.length) (rfl) ((by rw [hlen];omega)) (hat) ?_
 try refine RUN ?_
 rw [show (⟨#[]⟩:ByteArray)=sb [] from rfl,sb_eqb]
 generalize hB:decide (w=[]∧1<(pre++[w]).length)=B
 refine EVL.meetK (ι:=Unit) [2,3,4] [2,3] (fun _=>[(35,.v (.bool B))]) (fun _=>[]) (fun _=>[]) (fun _ G=>G2.Le G) rfl rfl (fun _=>rfl) ?_ ?_
 ·by_cases d1:w=[]
  ·rw [decide_eq_true d1]
   try refine RUN ?_
   by_cases d2:1<(pre++[w]).length
   ·rw [decide_eq_true (show ((pre++[w]).length:Int)>1 by omega)]
    rw [decide_eq_true ⟨d1,d2⟩] at hB
    subst hB
    try refine RUN ?_
    exact ⟨(),⟨rfl,trivial⟩,sB,trivial,sB,rfl,Hp.Le.refl _⟩
   ·rw [decide_eq_false (show ¬ ((pre++[w]).length:Int)>1 by omega)]
    rw [decide_eq_false (fun k=>d2 k.2)] at hB
    subst hB
    try refine RUN ?_
    exact ⟨(),⟨rfl,trivial⟩,sB,trivial,sB,rfl,Hp.Le.refl _⟩
  ·rw [decide_eq_false d1]
   rw [decide_eq_false (fun k=>d1 k.1)] at hB
   subst hB
   try refine RUN ?_
   exact ⟨(),⟨rfl,trivial⟩,sB,trivial,sB,rfl,Hp.Le.refl _⟩
 rintro _ G3 hG3
 try refine RUN ?_
 refine EV.meetK (ι:=Value) [2,3] [2,3] (fun v=>[(4,.v v)]) (fun _=>[]) (fun _=>[]) (fun v G=>SL G v (cutL 10 (noEnd s))) rfl rfl (fun _=>rfl) ?_ ?_
 ·cases B with
  | true =>
   obtain ⟨b1,b2⟩:=of_decide_eq_true hB
   rw [if_pos ⟨b1,b2⟩] at hlc
   try refine RUN ?_
   rw [hwl]
   refine EVL.slc (te':=Tryz.te9) tO rfl rfl rfl rfl rfl rfl rfl rfl 0 pre.length (.inl ⟨rfl,rfl⟩) (.inr ⟨_,IntKind.i64,rfl,rfl⟩) (Nat.zero_le _) oM hcap ?_
   try refine RUN ?_
   refine ⟨_,⟨rfl,trivial⟩,sB,trivial,sB,rfl,?_⟩
   rw [hlc]
   have:=(ht.mono hG3).pre pre.length oM 1
   rw [List.take_left' rfl] at this
   exact this
  | false =>
   have b1:=of_decide_eq_false hB
   rw [if_neg b1] at hlc
   try refine RUN ?_
   refine ⟨_,⟨rfl,trivial⟩,sB,trivial,sB,rfl,?_⟩
   rw [hlc]
   exact ht.mono hG3
 rintro tv4 G4 ht4
 clear ht hat hlc hwl hown hs2 hcap
 obtain ⟨h,rs,hcut⟩:=List.exists_cons_of_ne_nil (cutL_ne 10 (noEnd s))
 rw [hcut] at hps ht4 hcl hcp
 clear hcut
 dsimp only at hps
 obtain ⟨t4,tc4,rfl⟩:=SlC.val ht4
 have hh:=hcp h (List.mem_cons_self ..)
 try refine RUN ?_
 refine EVL.idxR tO rfl rfl rfl rfl rfl rfl rfl rfl rfl rfl (ht4) (0) (rfl) ((by simp)) (rfl) ?_
 try refine RUN ?_
 refine EVL.callW rfl rfl rfl rfl rfl ([]) ([]) rfl (rcut_pw h 44 44 rfl oM) ?_
 rintro hv how G5 hown5 hG5
 obtain ⟨ha,hc,rfl⟩:=hown5.val
 (first | refine EVL.publishL [] how [] (rfl) hown5 fun G6 hG6 hs6=>?_ | refine EV.publishL [] how [] (rfl) hown5 fun G6 hG6 hs6=>?_)
 have hht:SL G6 (.slice ha (cutL 44 h).length hc) (cutL 44 h):=hs6
 clear hs6 hown5
 have hcl2:=cutL_len 44 h
 have hcp2:=fun w (q:w∈cutL 44 h)=>cutL_part q
 generalize cutL 44 h=hs at *
 try refine RUN ?_
 refine EV.loopK (ι:=Nat × Value × List ColT × List (List Value) × Ows) [2,3,4,5,6] [2,3] (fun q=>[(7,.v (.int .i64 (q.1:Int)))]) (fun q=>[(5,30,[q.2.1,.slice none 0 0])]) (fun q=>q.2.2.2.2) (fun q G=>q.1≤hs.length∧q.2.2.1.length=q.1∧LsR SCol G q.2.2.2.1 q.2.2.1∧(∀ c,c∈q.2.2.1→c.words.length≤12)∧pCols [] hs=pCols q.2.2.1 (hs.drop q.1)∧OwnL 64 3 q.2.1 q.1 q.2.2.2.1.flatten q.2.2.2.2) (fun q=>hs.length-q.1) ((0,.slice none 0 0,[],[],[])) rfl rfl ⟨rfl,trivial⟩ ⟨rfl,trivial⟩ rfl (fun _=>rfl) (⟨Nat.zero_le _,rfl,LsR.nil,(fun c hc=>by cases hc),rfl,OwnL.nil _ _⟩) ?_
 rintro ⟨i,u,done,css,ow⟩ G7 hG7 ⟨hi,hdl,hcs,hws,hpc,hown⟩
 dsimp only at hi hdl hcs hws hpc hown
 obtain ⟨ua,uc,rfl⟩:=hown.val
 try refine RUN ?_
 refine EV.cond rfl (fun hlt=>?_) (fun hlt=>?_)
 ·simp only [nN] at hlt
  obtain ⟨t,htx⟩:∃ t,hs[i]?=some t:=⟨_,List.getElem?_eq_getElem hlt⟩
  rw [dropA_at htx] at hpc
  have htl:=hcp2 t (List.mem_of_getElem? htx)
  try refine RUN ?_
  refine EVL.idxR tO rfl rfl rfl rfl rfl rfl rfl rfl rfl rfl ((hht.mono hG7)) (i) (rfl) (hlt) ((by rw [List.getElem?_map,htx];rfl)) ?_
  try refine RUN ?_
  refine EVL.call rfl rfl rfl rfl rfl (rcol_pc t oM) ?_
  rintro r G8 hans hG8
  obtain ⟨nm,kd,wa,wn,wc,e0,rfl,hf⟩:∃ (nm:List UInt8) (kd:Int) (wa:Option Addr) (wn wc e0:Nat),r=.tuple #[.agg #[strV nm,.int .i64 kd,.slice wa wn wc],.int .i64 (e0:Int)]∧((rCol t=.error e0∧e0≠0)∨(e0=0∧∃ c,rCol t=.ok c∧SCol G8 [strV nm,.int .i64 kd,.slice wa wn wc] c)):=by
   cases hx:rCol t with
   | error e =>
    rw [hx] at hans
    obtain ⟨rfl,he⟩:=hans
    exact ⟨[],0,none,0,0,e,rfl,.inl ⟨rfl,he⟩⟩
   | ok c =>
    rw [hx] at hans
    obtain ⟨cs,rfl,wa,wc,hw,rfl⟩:=hans
    exact ⟨c.name,c.kind,wa,c.words.length,wc,0,rfl,.inr ⟨rfl,c,rfl,wa,wc,hw,rfl⟩⟩
  try refine RUN ?_
  generalize hB2:decide (e0≠2∧20≤i)=B2
  refine EVL.meetK (ι:=Unit) [2,3,4,5,6,7,8,9] [2,3,5,8] (fun _=>[(64,.v (.bool B2))]) (fun _=>[]) (fun _=>ow) (fun _ G=>G8.Le G) rfl rfl (fun _=>rfl) ?_ ?_
  ·by_cases d1:e0=2
   ·rw [show ((e0:Int) != 2)=false from bne_eq_false_iff_eq.2 (by omega)]
    rw [decide_eq_false (fun k=>k.1 d1)] at hB2
    subst hB2
    try refine RUN ?_
    exact ⟨(),⟨rfl,trivial⟩,sB,trivial,sB,rfl,Hp.Le.refl _⟩
   ·rw [show ((e0:Int) != 2)=true from bne_iff_ne.2 (by omega)]
    try refine RUN ?_
    by_cases d2:20≤i
    ·rw [decide_eq_true (show (i:Int)≥20 by omega)]
     rw [decide_eq_true ⟨d1,d2⟩] at hB2
     subst hB2
     try refine RUN ?_
     exact ⟨(),⟨rfl,trivial⟩,sB,trivial,sB,rfl,Hp.Le.refl _⟩
    ·rw [decide_eq_false (show ¬ (i:Int)≥20 by omega)]
     rw [decide_eq_false (fun k=>d2 k.2)] at hB2
     subst hB2
     try refine RUN ?_
     exact ⟨(),⟨rfl,trivial⟩,sB,trivial,sB,rfl,Hp.Le.refl _⟩
  rintro _ G9 hG9
  try refine RUN ?_
  refine EV.meetK (ι:=Nat) [2,3,4,5,6,7,8] [2,3,5,8] (fun e=>[(9,.v (.int .i64 (e:Int)))]) (fun _=>[]) (fun _=>ow) (fun e G=>G9.Le G∧((e≠0∧rColAt done t=.error e)∨(e=0∧i<20∧∃ c,rCol t=.ok c∧SCol G8 [strV nm,.int .i64 kd,.slice wa wn wc] c))) rfl rfl (fun _=>rfl) ?_ ?_
  ·have hst:rColAt done t=match rCol t with
    | .error e=>if e≠2∧20≤done.length then .error 4 else .error e
    | .ok c=>if 20≤done.length then .error 4 else if (done.any fun d=>decide (d.name=c.name))=true then .error 8 else .ok c:=rfl
   cases B2 with
   | true =>
    obtain ⟨b1,b2⟩:=of_decide_eq_true hB2
    try refine RUN ?_
    refine ⟨4,⟨rfl,trivial⟩,sB,trivial,sB,rfl,Hp.Le.refl _,.inl ⟨by decide,?_⟩⟩
    rcases hf with ⟨q1,q2⟩ | ⟨q1,c,q2,_⟩
    ·rw [q1] at hst
     rw [hst]
     exact if_pos ⟨b1,by omega⟩
    ·rw [q2] at hst
     rw [hst]
     exact if_pos oM
   | false =>
    have b1:=of_decide_eq_false hB2
    try refine RUN ?_
    refine ⟨e0,⟨rfl,trivial⟩,sB,trivial,sB,rfl,Hp.Le.refl _,?_⟩
    rcases hf with ⟨q1,q2⟩ | ⟨rfl,c,q2,q3⟩
    ·refine .inl ⟨q2,?_⟩
     rw [q1] at hst
     rw [hst]
     exact if_neg fun k=>b1 ⟨k.1,by omega⟩
    ·refine .inr ⟨rfl,?_,c,q2,q3⟩
     by_cases q:i<20
     ·exact q
     ·exact absurd ⟨by decide,by omega⟩ b1
  rintro e1 G10 ⟨hG10,hst⟩
  have hG810:=hG9.trans hG10
  try refine RUN ?_
  rcases hst with ⟨he1,hrc⟩ | ⟨rfl,hi20,c,hrc,hcc⟩
  ·refine EV.loopK (ι:=Unit) [2,3,4,5,6,7,8] [2,3,5,8] (fun _=>[(9,.v (.int .i64 (e1:Int))),(10,.v (.int .i64 0))]) (fun _=>[]) (fun _=>ow) (fun _ _=>True) (fun _=>0) (()) rfl rfl ⟨rfl,rfl,trivial⟩ trivial rfl (fun _=>rfl) (trivial) ?_
   rintro _ G11 hG11 _
   rw [rCol_eq] at hrc
   rw [pCols_stop hrc,hdl] at hpc
   rw [hpc] at hps
   try refine RUN ?_
   by_cases d0:0<i
   ·rw [decide_eq_true (show (0:Int)<(i:Int) by omega)]
    try refine RUN ?_
    rw [show ((e1:Int) == 0)=false from beq_eq_false_iff_ne.2 (by omega)]
    try refine RUN ?_
    rw [show ((e1:Int) != 0)=true from bne_iff_ne.2 (by omega)]
    try refine RUN ?_
    exact bad _ _ _ _ he1 hps
   ·rw [decide_eq_false (show ¬ (0:Int)<(i:Int) by omega)]
    try refine RUN ?_
    rw [show ((e1:Int) != 0)=true from bne_iff_ne.2 (by omega)]
    try refine RUN ?_
    exact bad _ _ _ _ he1 hps
  ·obtain ⟨wa',wc',hw,ecs⟩:=id hcc
   injection ecs with en ecs
   injection ecs with ek ecs
   injection ecs with ew _
   injection en with en
   have hnm:nm=c.name:=by
    have:=congrArg ByteArray.toList en
    rwa [sb_list,sb_list] at this
   have hst:rColAt done t=if 20≤done.length then .error 4 else if (done.any fun d=>decide (d.name=c.name))=true then .error 8 else .ok c:=by
    unfold rColAt;rw [hrc]
   rw [if_neg oM,rCol_eq] at hst
   refine EV.loopK (ι:=Int × Nat) [2,3,4,5,6,7,8] [2,3,5,8] (fun q=>[(9,.v (.int .i64 q.1)),(10,.v (.int .i64 (q.2:Int)))]) (fun _=>[]) (fun _=>ow) (fun q _=>q.2≤i∧(q.1=0∧((done.take q.2).any fun d=>decide (d.name=c.name))=false∨q.1=8∧(done.any fun d=>decide (d.name=c.name))=true)) (fun q=>i-q.2) ((0,0)) rfl rfl ⟨rfl,rfl,trivial⟩ trivial rfl (fun _=>rfl) (⟨Nat.zero_le _,.inl ⟨rfl,rfl⟩⟩) ?_
   rintro ⟨e,k⟩ G11 hG11 ⟨hk,hany⟩
   dsimp only at hk hany
   rcases hany with ⟨rfl,hany⟩ | ⟨rfl,hany⟩
   case inr =>
    rw [if_pos hany] at hst
    rw [pCols_stop hst,hdl] at hpc
    rw [hpc] at hps
    try refine RUN ?_
    by_cases d0:k<i
    ·rw [decide_eq_true (show (k:Int)<(i:Int) by omega)]
     try refine RUN ?_
     exact bad _ 8 _ _ (by decide) hps
    ·rw [decide_eq_false (show ¬ (k:Int)<(i:Int) by omega)]
     try refine RUN ?_
     exact bad _ 8 _ _ (by decide) hps
   try refine RUN ?_
   by_cases d0:k<i
   ·rw [decide_eq_true (show (k:Int)<(i:Int) by omega)]
    obtain ⟨d,hd⟩:∃ d,done[k]?=some d:=⟨_,List.getElem?_eq_getElem oM⟩
    obtain ⟨cc,hcc2⟩:∃ cc,css[k]?=some cc:=⟨_,List.getElem?_eq_getElem (by rw [hcs.1];omega)⟩
    obtain ⟨a9,n9,_,e9⟩:=hcs.2 k cc d hcc2 hd
    have hck:=hcs.all SCol.ok
    obtain ⟨g,cap,sp,e1,rfl,q1,q2,q3⟩:=hown.block oM
    cases e1
    have hname:=flat_at hck hcc2 (f:=0) (v:=strV d.name) (by rw [e9];rfl) sp
    try refine RUN ?_
    apply EV.drawn 9 kR kR;intro xv yw
    (repeat refine' DD ?_)
    refine' DJ.idxB tO rfl rfl rfl rfl rfl rfl rfl rfl rfl (k) (k*3) (rfl) (d0) (rfl) ?_;rotate_left
    (repeat (first | refine' DD ?_ | (refine' DJ.nilB rfl rfl rfl rfl rfl ?_;rotate_left) | (refine' DJ.fldB tO rfl rfl rfl rfl rfl rfl rfl ?_;rotate_left)))
    refine' DJ.ofVal (ValOk.load1 tO rfl rfl rfl rfl rfl rfl (0) rfl (hname)) rfl rfl rfl ?_;rotate_left
    (repeat refine' DD ?_)
    (refine DJ.nil (fun G2 hG2 hF2=>?_);(case hS|hS2=>rfl))
    rw [sb_eqb]
    by_cases e:d.name=nm
    ·rw [decide_eq_true e]
     try refine RUN ?_
     refine ⟨(8,k+1),⟨rfl,by dsimp only;rw [wi_inc k (by omega)];rfl,trivial⟩,sB,trivial,sB,rfl,⟨d0,.inr ⟨rfl,List.any_eq_true.2 ⟨d,List.mem_of_getElem? hd,decide_eq_true (by rw [e,hnm])⟩⟩⟩,hG2,by dsimp only;omega⟩
    ·rw [decide_eq_false e]
     try refine RUN ?_
     refine ⟨(0,k+1),⟨rfl,by dsimp only;rw [wi_inc k (by omega)];rfl,trivial⟩,sB,trivial,sB,rfl,⟨d0,.inl ⟨rfl,by dsimp only;rw [take_snoc hd,List.any_append,hany,List.any_cons,decide_eq_false (by rw [← hnm];exact e)];rfl⟩⟩,hG2,by dsimp only;omega⟩
   ·rw [decide_eq_false (show ¬ (k:Int)<(i:Int) by omega)]
    obtain rfl:k=i:=by omega
    rw [← hdl,List.take_length] at hany
    rw [if_neg (by rw [hany];decide)] at hst
    rw [pCols_step hst] at hpc
    try refine RUN ?_
    refine EVL.app1 tO rfl rfl rfl rfl rfl rfl rfl rfl rfl rfl rfl rfl rfl rfl rfl rfl rfl rfl rfl (fun _=>rfl) (ow) ([]) ((List.append_nil _).symm) (hown) oM fun _=>?_
    intro v' ow' hown'
    obtain ⟨va,vc,rfl⟩:=hown'.val
    try refine RUN ?_
    refine ⟨(k+1,.slice va (k+1) vc,done++[c],css++[_],ow'),⟨by dsimp only;rw [wi_inc k (by omega)];rfl,trivial⟩,sB,⟨rfl,trivial⟩,sB,List.append_nil _,⟨hlt,by dsimp only;rw [List.length_append,hdl];rfl,(hcs.mono SCol.ok (hG8.trans (hG810.trans hG11))).snoc (SCol.ok.mono hcc (hG810.trans hG11)),fun d hd=>?_,hpc,by dsimp only;rw [flatSn];exact hown'⟩,hG8.trans (hG810.trans hG11),by dsimp only;omega⟩
    rcases List.mem_append.1 hd with q | q
    ·exact hws d q
    ·rw [List.mem_singleton.1 q];exact rColAns_len hrc
 simp only [nN] at hlt
 obtain rfl:i=hs.length:=by omega
 rw [List.drop_length,pCols_none] at hpc
 rw [hpc] at hps
 dsimp only at hps
 (first | refine EVL.publishL [] ow [] ((List.append_nil _).symm) hown fun G8 hG8 hs8=>?_ | refine EV.publishL [] ow [] ((List.append_nil _).symm) hown fun G8 hG8 hs8=>?_)
 have hcol:ColL G8 (.slice ua hs.length uc) done:=⟨css,hcs.mono SCol.ok hG8,by rw [hdl];exact hs8⟩
 have hH0:=(hG5.trans hG6).trans (hG7.trans hG8)
 try refine RUN ?_
 refine EV.loopK (ι:=Nat × Value × List (List CellT) × List (List Value) × Ows) [2,3,4,5] [2,3] (fun q=>[(11,.v (.int .i64 ((q.1+1:Nat):Int)))]) (fun q=>[(5,30,[.slice ua hs.length uc,q.2.1])]) (fun q=>q.2.2.2.2) (fun q G=>q.1≤rs.length∧q.2.2.1.length=q.1∧LsR (Cel RRow) G q.2.2.2.1 q.2.2.1∧pRows done [] rs=pRows done q.2.2.1 (rs.drop q.1)∧OwnL 58 1 q.2.1 q.1 q.2.2.2.1.flatten q.2.2.2.2) (fun q=>rs.length-q.1) ((0,.slice none 0 0,[],[],[])) rfl rfl ⟨rfl,trivial⟩ ⟨rfl,trivial⟩ rfl (fun _=>rfl) (⟨Nat.zero_le _,rfl,LsR.nil,rfl,OwnL.nil _ _⟩) ?_
 rintro ⟨i,u,rdone,css2,ow3⟩ G9 hG9 ⟨hi,hrl,hcs2,hpr,hown3⟩
 dsimp only at hi hrl hcs2 hpr hown3
 obtain ⟨wa,wc,rfl⟩:=hown3.val
 have hH9:=hH0.trans hG9
 try refine RUN ?_
 by_cases hlt2:i<rs.length
 ·rw [decide_eq_true (show ((i+1:Nat):Int)<((h::rs).length:Int) by simp only [List.length_cons];omega)]
  obtain ⟨t,htx⟩:∃ t,rs[i]?=some t:=⟨_,List.getElem?_eq_getElem hlt2⟩
  rw [dropA_at htx] at hpr
  have hstep:pRows done rdone (t::rs.drop (i+1))=if 300≤rdone.length then .error (4,rdone.length+2,0) else match pRow done t with
   | .error (e,at')=>.error (e,rdone.length+2,at')
   | .ok row=>pRows done (rdone++[row]) (rs.drop (i+1)):=rfl
  rw [← hpr,hrl] at hstep
  have htl:=hcp t (List.mem_cons_of_mem _ (List.mem_of_getElem? htx))
  simp only [List.length_cons] at hcl
  have w2:IntKind.i64.wrap (((i+1:Nat):Int)+1)=((i+2:Nat):Int):=by rw [IntKind.wrap_i64];omega
  try refine RUN ?_
  refine EVL.idxR tO rfl rfl rfl rfl rfl rfl rfl rfl rfl rfl ((ht4.mono hH9)) ((i+1)) (rfl) ((by simp only [List.length_cons];omega)) ((by rw [List.getElem?_map,List.getElem?_cons_succ,htx];rfl)) ?_
  try refine RUN ?_
  refine EVL.callW rfl rfl rfl rfl rfl ([]) (ow3) rfl (rcut_pw t 44 44 rfl oM) ?_
  rintro cv cow G10 hownc hG10
  obtain ⟨ca,cc,rfl⟩:=hownc.val
  (first | refine EVL.publishL [] cow ow3 (rfl) hownc fun G11 hG11 hs11=>?_ | refine EV.publishL [] cow ow3 (rfl) hownc fun G11 hG11 hs11=>?_)
  have hct:SL G11 (.slice ca (cutL 44 t).length cc) (cutL 44 t):=hs11
  clear hs11 hownc
  have hcl3:=cutL_len 44 t
  have hcp3:=fun w (q:w∈cutL 44 t)=>cutL_part q
  have hprow:pRow done t=if (cutL 44 t).length≠done.length then .error (5,0) else pCells [] (done.zip (cutL 44 t)):=rfl
  generalize cutL 44 t=ts at *
  have hG911:=hG10.trans hG11
  try refine RUN ?_
  by_cases c3:i≥300
  ·rw [decide_eq_true (show ((i+1:Nat):Int)>300 by omega)]
   rw [if_pos c3] at hstep
   rw [hstep] at hps
   try refine RUN ?_
   rw [w2]
   exact bad _ 4 _ 0 (by decide) hps
  rw [decide_eq_false (show ¬ ((i+1:Nat):Int)>300 by omega)]
  rw [if_neg c3] at hstep
  try refine RUN ?_
  by_cases c4:ts.length=done.length
  case neg =>
   rw [show ((ts.length:Int) != (hs.length:Int))=true from bne_iff_ne.2 (by omega)]
   rw [if_pos c4] at hprow
   rw [hprow] at hstep
   dsimp only at hstep
   rw [hstep] at hps
   try refine RUN ?_
   rw [w2]
   exact bad _ 5 _ 0 (by decide) hps
  rw [show ((ts.length:Int) != (hs.length:Int))=false from bne_eq_false_iff_eq.2 (by omega)]
  rw [if_neg (fun k=>k c4)] at hprow
  try refine RUN ?_
  refine EV.loopK (ι:=Nat × Value × List CellT × List (List Value) × Ows) [2,3,4,5,11,12] [2,3,5] (fun q=>[(13,.v q.2.1),(14,.v (.int .i64 (q.1:Int)))]) (fun _=>[]) (fun q=>q.2.2.2.2++ow3) (fun q G=>q.1≤ts.length∧q.2.2.1.length=q.1∧LsR RCell G q.2.2.2.1 q.2.2.1∧pRow done t=pCells q.2.2.1 ((done.drop q.1).zip (ts.drop q.1))∧OwnL 98 5 q.2.1 q.1 q.2.2.2.1.flatten q.2.2.2.2) (fun q=>ts.length-q.1) ((0,.slice none 0 0,[],[],[])) rfl rfl ⟨rfl,rfl,trivial⟩ trivial rfl (fun _=>rfl) (⟨Nat.zero_le _,rfl,LsR.nil,hprow,OwnL.nil _ _⟩) ?_
  rintro ⟨j,ru,cdone,css3,ow5⟩ G12 hG12 ⟨hj,hcl4,hcs3,hpcl,hown5⟩
  dsimp only at hj hcl4 hcs3 hpcl hown5
  obtain ⟨za,zc,rfl⟩:=hown5.val
  try refine RUN ?_
  refine EV.cond rfl (fun hlt3=>?_) (fun hlt3=>?_)
  ·simp only [nN] at hlt3
   obtain ⟨x,hx⟩:∃ x,ts[j]?=some x:=⟨_,List.getElem?_eq_getElem hlt3⟩
   obtain ⟨c,hc⟩:∃ c,done[j]?=some c:=⟨_,List.getElem?_eq_getElem oM⟩
   rw [zip_at2 hc hx] at hpcl
   have hH12:=hG9.trans (hG911.trans hG12)
   obtain ⟨dcs,hdcs,hdsl⟩:=hcol.mono SCol.ok hH12
   obtain ⟨cc2,hcut2,hcol2⟩:=hdcs.get SCol.ok hc
   rw [hdl] at hdsl
   have hcell:=fun G (hG:G12.Le G)=>rcell_pc (SCol.ok.mono hcol2 hG) x (Nat.le_trans (hws c (List.mem_of_getElem? hc)) (by decide)) (by have:=hcp3 x (List.mem_of_getElem? hx);omega)
   obtain ⟨a2,n2,_,rfl⟩:=hcol2
   try refine RUN ?_
   apply EV.drawn 16 kR kR;intro xv yw
   (repeat refine' DD ?_)
   refine' DJ.idxM tO rfl rfl rfl rfl rfl rfl rfl rfl rfl (hdsl) (j) (rfl) (oM) (hcut2) ?_;rotate_left
   (repeat refine' DD ?_)
   refine' DJ.ofVal (ValOk.idx1 tO rfl rfl rfl rfl rfl rfl rfl rfl ((hct.mono hG12)) (j) (rfl) (hlt3) ((by rw [List.getElem?_map,hx];rfl))) rfl rfl rfl ?_;rotate_left
   (repeat refine' DD ?_)
   refine' DJ.call rfl rfl rfl rfl rfl (cO func46) (fun G hG hd=>hcell G hG) (fun _ _ _ h k=>RCellAns.mono h k) ?_;rotate_left
   refine' DJ.copy (9) (by first | exact .inl rfl | exact .inr rfl) rfl rfl rfl id rfl kR ?_;rotate_left
   refine' DJ.extract (9) rfl rfl rfl rfl rfl kR (fun G hd=>(by obtain ⟨_,_,_,_,_,_,_,_,_,_,e⟩:=(RCellAns.shape (hd.head kR));exact ⟨_,e,Nat.zero_lt_succ _⟩)) ?_;rotate_left
   refine' DJ.extract (9) rfl rfl rfl rfl rfl kR (fun G hd=>(by obtain ⟨_,_,_,_,_,_,_,_,_,_,e⟩:=(RCellAns.shape (hd.head kR));exact ⟨_,e,Nat.lt_succ_self _⟩)) ?_;rotate_left
   (repeat refine' DD ?_)
   refine' DJ.storeD tO rfl rfl rfl rfl (9) (tupAt 0) rfl rfl (13) rfl rfl kR kR rfl (fun G hd=>(by obtain ⟨_,_,_,_,_,_,_,_,_,_,e⟩:=(RCellAns.shape (hd.head kR));rw [e];exact ⟨rfl,rfl⟩)) ?_;rotate_left
   (refine' DJ.copy 9 (.inr rfl) rfl rfl rfl (tupAt 1) rfl kR ?_;rotate_left)
   (refine DJ.nil (fun G2 hG2 hF2=>?_);(case hS|hS2=>rfl))
   obtain ⟨hans,_⟩:=hF2
   cases hpx:pCell c x with
   | error e =>
    rw [hpx] at hans
    obtain ⟨er,he⟩:=hans
    rw [pCells_stop hpx] at hpcl
    rw [hpcl] at hstep
    dsimp only at hstep
    rw [hstep,hcl4] at hps
    rw [er]
    rw [show tupAt 1 (Value.tuple #[.agg #[.bool false,.bool false,.slice none 0 0,.slice none 0 0,.int .i64 0],.int .i64 (e:Int)])=.int .i64 (e:Int) from rfl]
    try refine RUN ?_
    rw [show ((e:Int) != 0)=true from bne_iff_ne.2 (by omega)]
    try refine RUN ?_
    rw [w2]
    exact bad _ _ _ _ he hps
   | ok y =>
    rw [hpx] at hans
    obtain ⟨ycs,er,hyc⟩:=hans
    rw [pCells_step hpx] at hpcl
    obtain ⟨yw,hyw,rfl⟩:=id hyc
    obtain ⟨ra,rl,rc,xa,xl,xc,rfl⟩:=rq_form hyw
    rw [er]
    rw [show tupAt 1 (Value.tuple #[.agg (Value.bool y.lacks::(vlist (.agg #[.bool (decide (y.q.num<0)),.slice ra rl rc,.slice xa xl xc])++[.int .i64 (y.word:Int)])).toArray,.int .i64 0])=.int .i64 0 from rfl,show vlist (tupAt 0 (Value.tuple #[.agg (Value.bool y.lacks::(vlist (.agg #[.bool (decide (y.q.num<0)),.slice ra rl rc,.slice xa xl xc])++[.int .i64 (y.word:Int)])).toArray,.int .i64 0]))=[.bool y.lacks,.bool (decide (y.q.num<0)),.slice ra rl rc,.slice xa xl xc,.int .i64 (y.word:Int)] from rfl]
    try refine RUN ?_
    refine EVL.app1 tO rfl rfl rfl rfl rfl rfl rfl rfl rfl rfl rfl rfl rfl rfl rfl rfl rfl rfl rfl (fun _=>rfl) (ow5) (ow3) (rfl) (hown5) oM fun _=>?_
    intro v' ow' hown'
    obtain ⟨va,vc,rfl⟩:=hown'.val
    try refine RUN ?_
    exact ⟨(j+1,.slice va (j+1) vc,cdone++[y],css3++[_],ow'),⟨rfl,by dsimp only;rw [wi_inc j (by omega)];rfl,trivial⟩,sB,trivial,sB,rfl,⟨hlt3,by dsimp only;rw [List.length_append,hcl4];rfl,(hcs3.mono RCell.ok hG2).snoc hyc,hpcl,by dsimp only;rw [flatSn];exact hown'⟩,hG2,by dsimp only;omega⟩
  simp only [nN] at hlt3
  obtain rfl:j=ts.length:=by omega
  rw [List.drop_length,List.zip_nil_right,pCells_none] at hpcl
  rw [hpcl] at hstep
  dsimp only at hstep
  (first | refine EVL.publishL [] ow5 ow3 (rfl) hown5 fun G13 hG13 hs13=>?_ | refine EV.publishL [] ow5 ow3 (rfl) hown5 fun G13 hG13 hs13=>?_)
  have hrow:RRow G13 (.slice za ts.length zc) cdone:=⟨css3,hcs3.mono RCell.ok hG13,by rw [hcl4];exact hs13⟩
  have hG913:=hG911.trans (hG12.trans hG13)
  try refine RUN ?_
  refine EVL.app1 tO rfl rfl rfl rfl rfl rfl rfl rfl rfl rfl rfl rfl rfl rfl rfl rfl rfl rfl rfl (fun _=>rfl) (ow3) ([]) ((List.append_nil _).symm) (hown3) oM fun _=>?_
  intro v' ow' hown'
  obtain ⟨va,vc,rfl⟩:=hown'.val
  try refine RUN ?_
  rw [w2]
  exact ⟨(i+1,.slice va (i+1) vc,rdone++[cdone],css2++[_],ow'),⟨rfl,trivial⟩,sB,⟨rfl,trivial⟩,sB,List.append_nil _,⟨hlt2,by dsimp only;rw [List.length_append,hrl];rfl,(hcs2.mono RRows.ok hG913).snoc ⟨_,rfl,hrow⟩,by rw [← hstep],by dsimp only;rw [flatSn];exact hown'⟩,hG913,by dsimp only;omega⟩
 obtain rfl:i=rs.length:=by omega
 rw [decide_eq_false (show ¬ ((rs.length+1:Nat):Int)<((h::rs).length:Int) by simp only [List.length_cons];omega)]
 rw [List.drop_length,pRows_none] at hpr
 rw [hpr] at hps
 (first | refine EVL.publishL [] ow3 [] ((List.append_nil _).symm) hown3 fun G10 hG10 hs10=>?_ | refine EV.publishL [] ow3 [] ((List.append_nil _).symm) hown3 fun G10 hG10 hs10=>?_)
 try refine RUN ?_
 rw [hps]
 exact ⟨_,_,rfl,hcol.mono SCol.ok (hG9.trans hG10),⟨css2,hcs2.mono RRows.ok hG10,by rw [hrl];exact hs10⟩⟩
end Go.Proofs.YtbcfidllfimehaaGreatDoor
namespace Go.Proofs.YtbcfidllfimehaaGreatDoor
end Go.Proofs.YtbcfidllfimehaaGreatDoor
namespace Go.Proofs.YtbcfidllfimehaaGreatDoor
open Go.RowKit _root_.Go.Proofs.Tryz
theorem flat1 (cs:List Value):[Value.agg cs.toArray].flatMap vlist=cs:=by
 show vlist (.agg cs.toArray)++[]=cs
 rw [List.append_nil];rfl
theorem sl_str_nil (G:Hp) (a:Option Addr) (c:Nat):SL G (.slice a 0 c) []:=⟨rfl,.inl ⟨rfl,a,c,rfl⟩⟩
set_option maxRecDepth 100000 in
set_option maxHeartbeats 32000000 in
theorem outCols_pc {H:Hp} {v:Value} {l:List ColT} (hv:ColL H v l) (hw:∀ c,c∈l→c.words.length≤1000000) (hl:l.length≤1000000):PC prog 48 #[v] H fun r H'=>ColL H' r l:=by
 obtain ⟨dcs,hcs,hsl⟩:=hv
 obtain ⟨a,c,rfl⟩:=SlC.val hsl
 refine BD func48 ntmps48 ?_
 try refine RUN ?_
 refine EV.loopK (ι:=Nat × Value × List (List Value) × Ows) [0] [] (fun q=>[(3,.v q.2.1),(4,.v (.int .i64 (q.1:Int)))]) (fun _=>[]) (fun q=>q.2.2.2) (fun q G=>q.1≤l.length∧LsR SCol G q.2.2.1 (l.take q.1)∧OwnL 64 3 q.2.1 q.1 q.2.2.1.flatten q.2.2.2) (fun q=>l.length-q.1) ((0,.slice none 0 0,[],[])) rfl rfl ⟨rfl,rfl,trivial⟩ trivial rfl (fun _=>rfl) (⟨Nat.zero_le _,LsR.nil,OwnL.nil _ _⟩) ?_
 rintro ⟨i,u,ps,ow⟩ G1 hG1 ⟨hi,hps,hown⟩
 dsimp only at hi hps hown
 obtain ⟨wa,wc,rfl⟩:=hown.val
 try refine RUN ?_
 refine EV.cond rfl (fun hlt=>?_) (fun hlt=>?_)
 ·simp only [nN] at hlt
  obtain ⟨x,hx⟩:∃ x,l[i]?=some x:=⟨_,List.getElem?_eq_getElem hlt⟩
  have hxw:=hw x (List.mem_of_getElem? hx)
  obtain ⟨cc,hcut,a7,c7,hws,rfl⟩:=(hcs.mono SCol.ok hG1).get SCol.ok hx
  have hs1:=hsl.mono hG1
  have wn:IntKind.i64.wrap ((i:Int)+1)=((i+1:Nat):Int):=wi_inc i oM
  by_cases e:x.words.length=0
  ·have hc0:x.words=[]:=List.length_eq_zero_iff.1 e
   rw [e] at hcut
   try refine RUN ?_
   apply EV.drawn 20 kR kR;intro xv yw
   (repeat refine' DD ?_)
   refine' DJ.idxM tO rfl rfl rfl rfl rfl rfl rfl rfl rfl (hs1) (i) (rfl) (hlt) (hcut) ?_;rotate_left
   (repeat refine' DD ?_)
   refine' DJ.idxM tO rfl rfl rfl rfl rfl rfl rfl rfl rfl (hs1) (i) (rfl) (hlt) (hcut) ?_;rotate_left
   (repeat refine' DD ?_)
   (refine' DJ.lit0 tO rfl rfl rfl rfl rfl rfl rfl ?_;rotate_left)
   (repeat refine' DD ?_)
   refine' DJ.idxM tO rfl rfl rfl rfl rfl rfl rfl rfl rfl (hs1) (i) (rfl) (hlt) (hcut) ?_;rotate_left
   (repeat refine' DD ?_)
   refine' DJ.append0E (u0:=xv 11) tO rfl rfl rfl rfl rfl rfl rfl rfl rfl (a7) (c7) rfl (fun G hd=>hd.head kR) ?_;rotate_left
   (refine' DJ.plainE tO (fun v G=>∃ cs,v=.agg cs.toArray∧SCol G cs x) (fun v G G' ⟨cs,e,h⟩ k=>⟨cs,e,SCol.ok.mono h k⟩) rfl rfl rfl (fun G hd=>(by
    obtain ⟨g8,e8⟩:∃ g,xv 17=.slice (some ⟨g,0,none⟩) 0 0:=hd.head kR
    rw [e8]
    exact ⟨_,rfl,_,rfl,some ⟨g8,0,none⟩,0,(by rw [hc0];exact sl_str_nil _ _ _),by rw [hc0];rfl⟩)) ?_;rotate_left)
   (refine' DJ.litD1 (Φ:=fun v G=>∃ cs,SlC G v 1 3 cs∧SCol G cs x) (fun v G G' ⟨cs,e,h⟩ k=>⟨cs,e.mono k,SCol.ok.mono h k⟩) tO rfl rfl rfl rfl rfl rfl rfl rfl rfl rfl rfl (fun G hd=>by obtain ⟨cs,e,h⟩:=hd.head kR;rw [e];exact SCol.ok.len h) (fun G G' v hd hG h=>(by
    obtain ⟨cs,e,hp⟩:=hd.head kR
    rw [e,flat1] at h
    exact ⟨cs,h,SCol.ok.mono hp hG⟩)) ?_;rotate_left)
   (refine DJ.nil (fun G2 hG2 hF2=>?_);(case hS|hS2=>rfl))
   obtain ⟨cs2,hs2,hp2⟩:=hF2.1
   have hone:oneB cs2=true:=by obtain ⟨_,_,_,rfl⟩:=id hp2;rfl
   refine EVL.append tO rfl rfl rfl rfl rfl rfl rfl rfl rfl rfl rfl rfl [] ow [] (List.append_nil _).symm hown (SrcAt.ro hs2 (Nat.succ_pos 0)) hone oM ?_
   intro v1 ow1 hown1
   obtain ⟨va,vc,rfl⟩:=hown1.val
   try refine RUN ?_
   exact ⟨(i+1,.slice va (i+1) vc,ps++[cs2],ow1),⟨rfl,by dsimp only;rw [wn];rfl,trivial⟩,sB,trivial,sB,List.append_nil _,⟨hlt,by dsimp only;rw [take_snoc hx];exact (hps.mono SCol.ok hG2).snoc hp2,by dsimp only;rw [flatSn];exact hown1⟩,hG2,by dsimp only;omega⟩
  ·have hls:SlC G1 (.slice a7 x.words.length c7) x.words.length 1 (x.words.map strV):=hws
   try refine RUN ?_
   apply EV.drawn 20 kR kR;intro xv yw
   (repeat refine' DD ?_)
   refine' DJ.idxM tO rfl rfl rfl rfl rfl rfl rfl rfl rfl (hs1) (i) (rfl) (hlt) (hcut) ?_;rotate_left
   (repeat refine' DD ?_)
   refine' DJ.idxM tO rfl rfl rfl rfl rfl rfl rfl rfl rfl (hs1) (i) (rfl) (hlt) (hcut) ?_;rotate_left
   (repeat refine' DD ?_)
   (refine' DJ.lit0 tO rfl rfl rfl rfl rfl rfl rfl ?_;rotate_left)
   (repeat refine' DD ?_)
   refine' DJ.idxM tO rfl rfl rfl rfl rfl rfl rfl rfl rfl (hs1) (i) (rfl) (hlt) (hcut) ?_;rotate_left
   (repeat refine' DD ?_)
   refine' DJ.appendE (u0:=xv 11) tO rfl rfl rfl rfl rfl rfl rfl rfl rfl rfl (fun G hd=>hd.head kR) (hls) (Nat.pos_of_ne_zero e) oM ?_;rotate_left
   (refine' DJ.plainE tO (fun v G=>∃ cs,v=.agg cs.toArray∧SCol G cs x) (fun v G G' ⟨cs,e,h⟩ k=>⟨cs,e,SCol.ok.mono h k⟩) rfl rfl rfl (fun G hd=>(by
    have hA:SlC G (xv 17) x.words.length 1 (x.words.map strV):=hd.head kR
    obtain ⟨a8,c8,e8⟩:=SlC.val hA
    rw [e8] at hA
    rw [e8]
    exact ⟨_,rfl,_,rfl,_,_,hA,rfl⟩)) ?_;rotate_left)
   (refine' DJ.litD1 (Φ:=fun v G=>∃ cs,SlC G v 1 3 cs∧SCol G cs x) (fun v G G' ⟨cs,e,h⟩ k=>⟨cs,e.mono k,SCol.ok.mono h k⟩) tO rfl rfl rfl rfl rfl rfl rfl rfl rfl rfl rfl (fun G hd=>by obtain ⟨cs,e,h⟩:=hd.head kR;rw [e];exact SCol.ok.len h) (fun G G' v hd hG h=>(by
    obtain ⟨cs,e,hp⟩:=hd.head kR
    rw [e,flat1] at h
    exact ⟨cs,h,SCol.ok.mono hp hG⟩)) ?_;rotate_left)
   (refine DJ.nil (fun G2 hG2 hF2=>?_);(case hS|hS2=>rfl))
   obtain ⟨cs2,hs2,hp2⟩:=hF2.1
   have hone:oneB cs2=true:=by obtain ⟨_,_,_,rfl⟩:=id hp2;rfl
   refine EVL.append tO rfl rfl rfl rfl rfl rfl rfl rfl rfl rfl rfl rfl [] ow [] (List.append_nil _).symm hown (SrcAt.ro hs2 (Nat.succ_pos 0)) hone oM ?_
   intro v1 ow1 hown1
   obtain ⟨va,vc,rfl⟩:=hown1.val
   try refine RUN ?_
   exact ⟨(i+1,.slice va (i+1) vc,ps++[cs2],ow1),⟨rfl,by dsimp only;rw [wn];rfl,trivial⟩,sB,trivial,sB,List.append_nil _,⟨hlt,by dsimp only;rw [take_snoc hx];exact (hps.mono SCol.ok hG2).snoc hp2,by dsimp only;rw [flatSn];exact hown1⟩,hG2,by dsimp only;omega⟩
 ·simp only [nN] at hlt
  obtain rfl:i=l.length:=by omega
  rw [List.take_length] at hps
  (first | refine EVL.publishL [] ow [] ((List.append_nil _).symm) hown fun G2 hG2 hs2=>?_ | refine EV.publishL [] ow [] ((List.append_nil _).symm) hown fun G2 hG2 hs2=>?_)
  try refine RUN ?_
  exact ⟨ps,hps.mono SCol.ok hG2,hs2⟩
abbrev CellsQ (r:List CellT):Prop:=r.length≤1000000∧∀ x,x∈r→rq x.q
set_option maxRecDepth 100000 in
set_option maxHeartbeats 32000000 in
theorem outCells_pc {H:Hp} {v:Value} {l:List CellT} (hv:PRow H v l) (hq:CellsQ l):PC prog 49 #[v] H fun r H'=>RRow H' r l:=by
 obtain ⟨hl,hq⟩:=hq
 obtain ⟨dcs,hcs,hsl⟩:=hv
 obtain ⟨a,c,rfl⟩:=SlC.val hsl
 refine BD func49 ntmps49 ?_
 try refine RUN ?_
 refine EV.loopK (ι:=Nat × Value × List (List Value) × Ows) [0] [] (fun q=>[(3,.v q.2.1),(4,.v (.int .i64 (q.1:Int)))]) (fun _=>[]) (fun q=>q.2.2.2) (fun q G=>q.1≤l.length∧LsR RCell G q.2.2.1 (l.take q.1)∧OwnL 98 5 q.2.1 q.1 q.2.2.1.flatten q.2.2.2) (fun q=>l.length-q.1) ((0,.slice none 0 0,[],[])) rfl rfl ⟨rfl,rfl,trivial⟩ trivial rfl (fun _=>rfl) (⟨Nat.zero_le _,LsR.nil,OwnL.nil _ _⟩) ?_
 rintro ⟨i,u,ps,ow⟩ G1 hG1 ⟨hi,hps,hown⟩
 dsimp only at hi hps hown
 obtain ⟨wa,wc,rfl⟩:=hown.val
 try refine RUN ?_
 refine EV.cond rfl (fun hlt=>?_) (fun hlt=>?_)
 ·simp only [nN] at hlt
  obtain ⟨x,hx⟩:∃ x,l[i]?=some x:=⟨_,List.getElem?_eq_getElem hlt⟩
  have hxq:=hq x (List.mem_of_getElem? hx)
  obtain ⟨cc,hcut,rfl⟩:=(hcs.mono PCell.ok hG1).get PCell.ok hx
  have hs1:=hsl.mono hG1
  have wn:IntKind.i64.wrap ((i:Int)+1)=((i+1:Nat):Int):=wi_inc i oM
  try refine RUN ?_
  apply EV.drawn 19 kR kR;intro xv yw
  (repeat refine' DD ?_)
  refine' DJ.idxM tO rfl rfl rfl rfl rfl rfl rfl rfl rfl (hs1) (i) (rfl) (hlt) (hcut) ?_;rotate_left
  (repeat refine' DD ?_)
  refine' DJ.idxM tO rfl rfl rfl rfl rfl rfl rfl rfl rfl (hs1) (i) (rfl) (hlt) (hcut) ?_;rotate_left
  (repeat refine' DD ?_)
  refine' DJ.call rfl rfl rfl rfl rfl (cO func99) (fun G hG hd=>out_pc x.q hxq) (fun _ _ _ h k=>RQ.mono h k) ?_;rotate_left
  (repeat refine' DD ?_)
  refine' DJ.idxM tO rfl rfl rfl rfl rfl rfl rfl rfl rfl (hs1) (i) (rfl) (hlt) (hcut) ?_;rotate_left
  (repeat refine' DD ?_)
  (refine' DJ.plainE tO (fun v G=>∃ cs,v=.agg cs.toArray∧RCell G cs x) (fun v G G' ⟨cs,e,h⟩ k=>⟨cs,e,RCell.ok.mono h k⟩) rfl rfl rfl (fun G hd=>(by
   have hA:RQ G (xv 11) x.q:=hd.head kR
   obtain ⟨ra,rl,rc,xa,xl,xc,e8⟩:=rq_form hA
   rw [e8] at hA
   rw [e8]
   exact ⟨_,rfl,_,rfl,rcell_of hA _ _⟩)) ?_;rotate_left)
  (refine' DJ.litD1 (Φ:=fun v G=>∃ cs,SlC G v 1 5 cs∧RCell G cs x) (fun v G G' ⟨cs,e,h⟩ k=>⟨cs,e.mono k,RCell.ok.mono h k⟩) tO rfl rfl rfl rfl rfl rfl rfl rfl rfl rfl rfl (fun G hd=>by obtain ⟨cs,e,h⟩:=hd.head kR;rw [e];exact RCell.ok.len h) (fun G G' v hd hG h=>(by
   obtain ⟨cs,e,hp⟩:=hd.head kR
   rw [e,flat1] at h
   exact ⟨cs,h,RCell.ok.mono hp hG⟩)) ?_;rotate_left)
  (refine DJ.nil (fun G2 hG2 hF2=>?_);(case hS|hS2=>rfl))
  obtain ⟨cs2,hs2,hp2⟩:=hF2.1
  have hone:oneB cs2=true:=by
   obtain ⟨yw,hyw,rfl⟩:=id hp2
   obtain ⟨ra,rl,rc,xa,xl,xc,rfl⟩:=rq_form hyw
   rfl
  refine EVL.append tO rfl rfl rfl rfl rfl rfl rfl rfl rfl rfl rfl rfl [] ow [] (List.append_nil _).symm hown (SrcAt.ro hs2 (Nat.succ_pos 0)) hone oM ?_
  intro v1 ow1 hown1
  obtain ⟨va,vc,rfl⟩:=hown1.val
  try refine RUN ?_
  exact ⟨(i+1,.slice va (i+1) vc,ps++[cs2],ow1),⟨rfl,by dsimp only;rw [wn];rfl,trivial⟩,sB,trivial,sB,List.append_nil _,⟨hlt,by dsimp only;rw [take_snoc hx];exact (hps.mono RCell.ok hG2).snoc hp2,by dsimp only;rw [flatSn];exact hown1⟩,hG2,by dsimp only;omega⟩
 ·simp only [nN] at hlt
  obtain rfl:i=l.length:=by omega
  rw [List.take_length] at hps
  (first | refine EVL.publishL [] ow [] ((List.append_nil _).symm) hown fun G2 hG2 hs2=>?_ | refine EV.publishL [] ow [] ((List.append_nil _).symm) hown fun G2 hG2 hs2=>?_)
  try refine RUN ?_
  exact ⟨ps,hps.mono RCell.ok hG2,hs2⟩
structure SmSh (cs:List ColT) (rows:List (List CellT)):Prop where
 ncols:cs.length≤1000000
 words:∀ c,c∈cs→c.words.length≤1000000
 nrows:rows.length≤1000000
 cells:∀ r,r∈rows→CellsQ r
theorem flatV {v:Value} (h:∃ a l c,v=.slice a l c):[v].flatMap vlist=[v]:=by obtain ⟨a,l,c,rfl⟩:=h;rfl
set_option maxRecDepth 100000 in
set_option maxHeartbeats 32000000 in
theorem outSheet_pc {H:Hp} {u v:Value} {cs:List ColT} {rows:List (List CellT)} (hu:ColL H u cs) (hv:PRows H v rows) (sm:SmSh cs rows):PC prog 16 #[.agg #[u,v]] H fun r H'=>∃ a b,r=.agg #[a,b]∧ColL H' a cs∧RRows H' b rows:=by
 obtain ⟨ua,uc,rfl⟩:=hu.val
 obtain ⟨dcs,hcs,hsl⟩:=hv
 obtain ⟨a,c,rfl⟩:=SlC.val hsl
 have hnr:=sm.nrows
 refine BD func16 ntmps16 ?_
 try refine RUN ?_
 refine EVL.call rfl rfl rfl rfl rfl (outCols_pc hu sm.words sm.ncols) ?_
 rintro _ G0 hcol hG0
 obtain ⟨xa,xc,rfl⟩:=hcol.val
 try refine RUN ?_
 refine EV.loopK (ι:=Nat × Value × List (List Value) × Ows) [1,2,3] [1,2] (fun q=>[(4,.v (.int .i64 (q.1:Int)))]) (fun q=>[(3,30,[.slice xa cs.length xc,q.2.1])]) (fun q=>q.2.2.2) (fun q G=>q.1≤rows.length∧LsR (Cel RRow) G q.2.2.1 (rows.take q.1)∧OwnL 58 1 q.2.1 q.1 q.2.2.1.flatten q.2.2.2) (fun q=>rows.length-q.1) ((0,.slice none 0 0,[],[])) rfl rfl ⟨rfl,trivial⟩ ⟨rfl,trivial⟩ rfl (fun _=>rfl) (⟨Nat.zero_le _,LsR.nil,OwnL.nil _ _⟩) ?_
 rintro ⟨i,w,ps,ow⟩ G1 hG1 ⟨hi,hps,hown⟩
 dsimp only at hi hps hown
 obtain ⟨wa,wc,rfl⟩:=hown.val
 have hG01:=hG0.trans hG1
 try refine RUN ?_
 refine EV.cond rfl (fun hlt=>?_) (fun hlt=>?_)
 ·simp only [nN] at hlt
  obtain ⟨row,hrow⟩:∃ x,rows[i]?=some x:=⟨_,List.getElem?_eq_getElem hlt⟩
  obtain ⟨cc,hcut,rv,rfl,hrr⟩:=(hcs.mono PRows.ok hG01).get PRows.ok hrow
  obtain ⟨r5,r6,rfl⟩:=LR.val hrr
  have hsm:=sm.cells row (List.mem_of_getElem? hrow)
  have hoc:=fun G (hG:G1.Le G)=>outCells_pc (hrr.mono hG) hsm
  have wn:IntKind.i64.wrap ((i:Int)+1)=((i+1:Nat):Int):=wi_inc i oM
  try refine RUN ?_
  apply EV.drawn 9 kR kR;intro xv yw
  (repeat refine' DD ?_)
  refine' DJ.idxM tO rfl rfl rfl rfl rfl rfl rfl rfl rfl ((hsl.mono hG01)) (i) (rfl) (hlt) (hcut) ?_;rotate_left
  (repeat refine' DD ?_)
  refine' DJ.call rfl rfl rfl rfl rfl (cO func49) (fun G hG hd=>hoc G hG) (fun _ _ _ h k=>RRow.mono h k) ?_;rotate_left
  (refine' DJ.litD1 (Φ:=fun v G=>∃ x,SlC G v 1 1 [x]∧RRow G x row) (fun v G G' ⟨x,e,h⟩ k=>⟨x,e.mono k,h.mono k⟩) tO rfl rfl rfl rfl rfl rfl rfl rfl rfl rfl rfl (fun G hd=>by obtain ⟨p,q,e⟩:=LR.val (hd.head kR);rw [e];rfl) (fun G G' v hd hG h=>(by
   have hp:RRow G (xv 7) row:=hd.head kR
   obtain ⟨p,q,e⟩:=hp.val
   rw [flatV ⟨p,_,q,e⟩] at h
   exact ⟨_,h,hp.mono hG⟩)) ?_;rotate_left)
  (refine DJ.nil (fun G2 hG2 hF2=>?_);(case hS|hS2=>rfl))
  obtain ⟨x,hs2,hp2⟩:=hF2.1
  obtain ⟨p,q,rfl⟩:=hp2.val
  refine EVL.append tO rfl rfl rfl rfl rfl rfl rfl rfl rfl rfl rfl rfl [] ow [] (List.append_nil _).symm hown (SrcAt.ro hs2 (Nat.succ_pos 0)) rfl oM ?_
  intro v1 ow1 hown1
  obtain ⟨va,vc,rfl⟩:=hown1.val
  try refine RUN ?_
  rw [wn]
  exact ⟨(i+1,.slice va (i+1) vc,ps++[_],ow1),⟨rfl,trivial⟩,sB,⟨rfl,trivial⟩,sB,List.append_nil _,⟨hlt,by dsimp only;rw [take_snoc hrow];exact (hps.mono RRows.ok hG2).snoc ⟨_,rfl,hp2⟩,by dsimp only;rw [flatSn];exact hown1⟩,hG2,by dsimp only;omega⟩
 ·simp only [nN] at hlt
  obtain rfl:i=rows.length:=by omega
  rw [List.take_length] at hps
  (first | refine EVL.publishL [] ow [] ((List.append_nil _).symm) hown fun G2 hG2 hs2=>?_ | refine EV.publishL [] ow [] ((List.append_nil _).symm) hown fun G2 hG2 hs2=>?_)
  try refine RUN ?_
  exact ⟨_,_,rfl,hcol.mono SCol.ok (hG1.trans hG2),ps,hps.mono RRows.ok hG2,hs2⟩
theorem decD_bits:∀ (k n:Nat),n<2 ^ k→(Lib.decDigits n).length≤k+1
 | 0,n,h=>by
  have:n=0:=by simpa using h
  rw [this,decD_low (by omega)];simp
 | k+1,n,h=>by
  by_cases h10:n<10
  ·rw [decD_low h10];simp
  ·rw [decD_step oM,List.length_append,List.length_singleton]
   rw [Nat.pow_succ] at h
   have:=decD_bits k (n / 10) oM
   omega
theorem decD_bl (n:Nat):(Lib.decDigits n).length≤bl n+1:=decD_bits _ _ (lt_bl n)
def fracT (q:Rat):List UInt8:=if q.den=1 then wtL q.num else wtL q.num++[47]++Lib.decDigits q.den
theorem wtL_bl (z:Int):(wtL z).length≤bl z.natAbs+2:=by
 have:=decD_bl z.natAbs
 unfold wtL
 split
 ·rw [List.length_append,List.length_singleton];omega
 ·rw [List.nil_append];omega
section
variable {P:Program} {n:Nat} {ops:Array Oper} {o:Oper} {rest:List Oper} {env:Env} {bx:Bxs} {H:Hs} {Q:EQ} {d:Nat}
theorem EVL.strOf {src dst e:TypeId} {x:Operand} (ho:o.op=.convert src dst x) (hw:wantB ops env o=some true) (hd:o.dst=some d) (hn:Nat.blt d n=true) (hs:P.underlying src=some (.slice e)) (he:P.underlying e=some (.int .u8)) (hdt:P.underlying dst=some .string)
  {b cap:Nat} (l:List UInt8) (hx:env.op x=some (.v (.slice (some ⟨b,0,none⟩) l.length cap))) (jj:Nat) {T':TypeId} {cs:List Value} (hj:H.ow[jj]?=some (b,T',cs)) (hc:∀ j (hj:j<l.length),cs[j]?=some (.int .u8 (l[j].toNat:Int)))
  (h:EVL P n ops rest ((d,.v (.string (sb l)))::env) bx H Q):EVL P n ops (o::rest) env bx H Q:=fun W0 β a W r=>by
 obtain ⟨hB,_⟩:=r.own jj b T' cs hj
 have ex:a.eval x=.slice (some ⟨b,0,none⟩) l.length cap:=r.op hx
 have hrun:=run_convert_bytes_back (P:=P) W src dst e ⟨b,0,none⟩ cap l hs he hdt (fun j hj=>by
  rw [Lib.add_plain]
  rw [Lib.cell_of_heap hB,Nat.zero_add,List.getElem?_toArray]
  exact hc j hj)
 unfold wpList
 rw [if_pos (r.want hw)]
 refine .inl ?_
 have hx':(execOp a.eval o).run P W=.ok (.value (.string (sb l))) W:=by
  unfold execOp
  simp only [ho,ex,Sem.run_bind,hrun,Result.andThen_ok,Sem.run_pure]
 unfold Oper.wp
 rw [hx',Oper.upon_value,hd]
 exact h W0 β _ W (r.put hn rfl rfl)
end
def decN (n:Nat):List UInt8:=if n=0 then [] else Lib.decDigits n
theorem decN_bl (n:Nat):(decN n).length≤bl n+1:=by
 unfold decN;split
 ·exact Nat.zero_le _
 ·exact decD_bl n
def Ten9:Nat:=1000000000
theorem Ten9_pow:Ten9=10 ^ 9:=rfl
theorem decN_step {m:Nat} (hq:m / Ten9≠0):decN m=decN (m / Ten9)++padD 9 (m % Ten9):=by
 have hm:m≠0:=fun e=>hq (by rw [e,Nat.zero_div])
 unfold decN
 rw [if_neg hm,if_neg hq,← decD_pad 9 (m / Ten9) (m % Ten9) (Nat.pos_of_ne_zero hq) (by rw [← Ten9_pow];exact Nat.mod_lt _ (by decide)),← Ten9_pow]
 congr 1
 rw [Nat.mul_comm];exact (Nat.div_add_mod m Ten9).symm
theorem part_end {m k:Nat} (hm:m≠0) (hk:k≤9) (hlow:m / Ten9=0→0<k→10 ^ (k-1)≤m) (hend:¬ (k<9∧(m % Ten9 / 10 ^ k>0∨m / Ten9≠0))):decN m=decN (m / Ten9)++padD k (m % Ten9):=by
 by_cases hq:m / Ten9=0
 ·have hlt:m<Ten9:=by
   rcases Nat.div_eq_zero_iff.1 hq with h | h
   ·exact absurd h (by decide)
   ·exact h
  have hmm:m % Ten9=m:=Nat.mod_eq_of_lt hlt
  rw [hmm] at hend ⊢
  have hz:m<10 ^ k:=by
   by_cases h9:k<9
   ·have h0:m / 10 ^ k=0:=by
     apply Nat.eq_zero_of_not_pos
     exact fun h=>hend ⟨h9,.inl h⟩
    rcases Nat.div_eq_zero_iff.1 h0 with h | h
    ·have:=Nat.pow_pos (n:=k) (show 0<10 by omega)
     omega
    ·exact h
   ·have:k=9:=by omega
    subst this
    exact hlt
  have hk0:0<k:=by
   apply Nat.pos_of_ne_zero
   intro e
   subst e
   simp at hz
   exact hm hz
  have hl:=hlow hq hk0
  obtain ⟨j,rfl⟩:∃ j,k=j+1:=⟨k-1,by omega⟩
  rw [Nat.add_sub_cancel] at hl
  rw [hq]
  unfold decN
  rw [if_neg hm,if_pos rfl,List.nil_append,padD_exact j m hl hz]
 ·have:k=9:=by
   by_cases h9:k<9
   ·exact absurd ⟨h9,.inr hq⟩ hend
   ·omega
  subst this
  exact decN_step hq
theorem sb_eq_nil (l:List UInt8):((sb l).toList == (⟨#[]⟩:ByteArray).toList)=decide (l=[]):=by
 rw [Lib.toList_data,Lib.toList_data]
 cases l with
 | nil=>rfl
 | cons a l=>rfl
theorem digit8 (r:Nat):IntKind.u8.wrap (IntKind.u32.wrap (48+((r:Nat):Int).tmod 10))=((UInt8.ofNat (48+r % 10)).toNat:Int):=by
 rw [show (10:Int)=((10:Nat):Int) from rfl,wi_rem,wrapU8,wrapU32,UInt8.toNat_ofNat']
 have:=Nat.mod_lt r (show 10>0 by omega)
 omega
theorem q32 (a b:Nat) (h:a<Ten9):IntKind.u32.wrap ((a:Int).tdiv (b:Int))=((a / b:Nat):Int):=by
 rw [show (a:Int).tdiv (b:Int)=((a / b:Nat):Int) from rfl,wu32,Nat.mod_eq_of_lt]
 have:=Nat.div_le_self a b
 exact Nat.lt_of_le_of_lt this (Nat.lt_trans h (by decide))
theorem ten32:n32 Ten9=.int .u32 1000000000:=rfl
set_option maxRecDepth 100000 in
set_option maxHeartbeats 16000000 in
theorem refNatText_pc {H:Hp} {v:Value} (n:Nat) (hn:bl n≤8000000) (hv:RN H v n):PC prog 85 #[v] H fun r _=>r=.string (sb (Lib.decDigits n)):=by
 have hlb:=decN_bl n
 obtain ⟨va,vc,rfl⟩:=SlC.val hv
 refine BD func85 ntmps85 ?_
 try refine RUN ?_
 refine EV.loopK (ι:=Nat × List UInt8 × Option Addr × Nat) [] [] (fun s=>[(0,.v (.slice s.2.2.1 (dig B32 s.1).length s.2.2.2)),(3,.v (.string (sb s.2.1)))]) (fun _=>[]) (fun _=>[]) (fun s G=>RN G (.slice s.2.2.1 (dig B32 s.1).length s.2.2.2) s.1∧decN s.1++s.2.1=decN n∧s.1≤n) (fun s=>s.1) ((n,[],va,vc)) rfl rfl ⟨rfl,rfl,trivial⟩ trivial rfl (fun _=>rfl) (⟨hv,List.append_nil _,Nat.le_refl _⟩) ?_
 rintro ⟨m,s,a,c⟩ G1 hG1 ⟨hm,hs,hmn⟩
 dsimp only at hm hs hmn
 by_cases h0:m=0
 ·subst h0
  have hs':s=decN n:=hs
  subst hs'
  dsimp only
  try refine RUN ?_
  rw [decide_eq_false (show ¬ ((dig B32 0).length:Int)>0 by rw [dig_zero];decide)]
  try refine RUN ?_
  rw [sb_eq_nil]
  by_cases hn0:n=0
  ·have e:decN n=[]:=if_pos hn0
   rw [decide_eq_true e]
   try refine RUN ?_
   rw [hn0,decD_low (by omega)];rfl
  ·have e:decN n=Lib.decDigits n:=if_neg hn0
   rw [decide_eq_false (show ¬ decN n=[] by rw [e];exact decD_ne n)]
   try refine RUN ?_
   rw [e]
 ·have hm0:0<(dig B32 m).length:=List.length_pos_iff.2 (by rw [dig_pos B32_two h0];simp)
  have hl32:(dig B32 n).length≤100000000:=Nat.le_trans (dig_len_le B32_two n (bl n) (Nat.lt_of_lt_of_le (lt_bl n) (Nat.pow_le_pow_left B32_two _))) oM
  have hlm:(dig B32 m).length≤100000000:=Nat.le_trans (dig_len_le B32_two m (bl n) (Nat.lt_of_le_of_lt hmn (Nat.lt_of_lt_of_le (lt_bl n) (Nat.pow_le_pow_left B32_two _)))) oM
  have hone:=refOne_pc hm (dig_norm B32_two m).1 hlm Ten9 (by decide) (by decide)
  rw [dig_val B32_two m,ten32] at hone
  try refine RUN ?_
  rw [decide_eq_true (show ((dig B32 m).length:Int)>0 by omega)]
  try refine RUN ?_
  refine EVL.call rfl rfl rfl rfl rfl (hone) ?_
  rintro _ G2 ⟨q,rfl,hq⟩ hG2
  obtain ⟨qa,qc,rfl⟩:=SlC.val hq
  have hrl:m % Ten9<Ten9:=Nat.mod_lt _ (by decide)
  have hql:(dig B32 (m / Ten9)).length>0↔m / Ten9≠0:=by
   constructor
   ·intro h e;rw [e,dig_zero] at h;exact absurd h (by decide)
   ·intro h;exact List.length_pos_iff.2 (by rw [dig_pos B32_two h];simp)
  try refine RUN ?_
  refine EV.loopK (ι:=Nat) [3,4] [] (fun k=>[(5,.v (n32 (m % Ten9 / 10 ^ k))),(6,.v (.string (sb (padD k (m % Ten9))))),(7,.v (.int .i64 (k:Int)))]) (fun _=>[]) (fun _=>[]) (fun k _=>k≤9∧(m / Ten9=0→0<k→10 ^ (k-1)≤m)) (fun k=>9-k) (0) rfl rfl ⟨by rw [Nat.pow_zero,Nat.div_one];rfl,rfl,rfl,trivial⟩ trivial rfl (fun _=>rfl) (⟨by omega,fun _ h=>absurd h (by decide)⟩) ?_
  rintro k G3 hG3 ⟨hk,hlow⟩
  have hr9:m % Ten9 / 10 ^ k<Ten9:=Nat.lt_of_le_of_lt (Nat.div_le_self _ _) hrl
  by_cases hend:k<9∧(m % Ten9 / 10 ^ k>0∨m / Ten9≠0)
  ·have hrd:padD (k+1) (m % Ten9)=UInt8.ofNat (48+m % Ten9 / 10 ^ k % 10)::padD k (m % Ten9):=padD_cons k _
   have hdv:m % Ten9 / 10 ^ k / 10=m % Ten9 / 10 ^ (k+1):=by rw [Nat.div_div_eq_div_mul,Nat.pow_succ]
   have hnx:m / Ten9=0→0<k+1→10 ^ (k+1-1)≤m:=by
    intro h1 _
    rw [Nat.add_sub_cancel]
    rcases hend.2 with h | h
    ·have h2:0<10 ^ k:=Nat.pow_pos oM
     have h3:1*10 ^ k≤m % Ten9:=(Nat.le_div_iff_mul_le h2).1 h
     have h4:=Nat.mod_le m Ten9
     omega
    ·exact absurd h1 h
   have hpl:=padD_len k (m % Ten9)
   by_cases hr0:m % Ten9 / 10 ^ k>0
   ·generalize hrr:m % Ten9 / 10 ^ k=r at *
    try refine RUN ?_
    rw [decide_eq_true (show (k:Int)<9 by omega)]
    try refine RUN ?_
    rw [decide_eq_true (show (r:Int)>0 by omega)]
    try refine RUN ?_
    rw [digit8 r]
    refine EVL.lit tO rfl rfl rfl rfl rfl rfl rfl rfl rfl rfl rfl fun g=>?_
    refine EVL.strOf rfl rfl rfl rfl rfl rfl rfl (b:=g) (cap:=1) [UInt8.ofNat (48+r % 10)] rfl 0 rfl (fun j hj=>?_) ?_
    ·obtain rfl:j=0:=by simpa using hj
     rfl
    (first | refine EVL.subOw [] [(g,_,_)] [] rfl ?_ | refine EV.subOw [] [(g,_,_)] [] rfl ?_)
    try refine RUN ?_
    refine EVL.cat [UInt8.ofNat (48+r % 10)] (padD k (m % Ten9)) rfl rfl rfl rfl rfl rfl (by simp) oM ?_
    try refine RUN ?_
    refine ⟨k+1,⟨?_,?_,?_,trivial⟩,sB,trivial,trivial,rfl,⟨by omega,hnx⟩,Hp.Le.refl _,by omega⟩
    ·rw [show (10:Int)=((10:Nat):Int) from rfl,q32 r 10 hr9,hdv];rfl
    ·rw [hrd];rfl
    ·rw [show IntKind.i64.wrap ((k:Int)+1)=((k+1:Nat):Int) by rw [IntKind.wrap_i64];omega];rfl
   ·obtain ⟨hr00,hqn⟩:m % Ten9 / 10 ^ k=0∧m / Ten9≠0:=⟨Nat.eq_zero_of_not_pos hr0,hend.2.resolve_left hr0⟩
    have hqp:=hql.2 hqn
    generalize hrr:m % Ten9 / 10 ^ k=r at *
    try refine RUN ?_
    rw [decide_eq_true (show (k:Int)<9 by omega)]
    try refine RUN ?_
    rw [decide_eq_false (show ¬ (r:Int)>0 by omega)]
    try refine RUN ?_
    rw [decide_eq_true (show ((dig B32 (m / Ten9)).length:Int)>0 by omega)]
    try refine RUN ?_
    rw [digit8 r]
    refine EVL.lit tO rfl rfl rfl rfl rfl rfl rfl rfl rfl rfl rfl fun g=>?_
    refine EVL.strOf rfl rfl rfl rfl rfl rfl rfl (b:=g) (cap:=1) [UInt8.ofNat (48+r % 10)] rfl 0 rfl (fun j hj=>?_) ?_
    ·obtain rfl:j=0:=by simpa using hj
     rfl
    (first | refine EVL.subOw [] [(g,_,_)] [] rfl ?_ | refine EV.subOw [] [(g,_,_)] [] rfl ?_)
    try refine RUN ?_
    refine EVL.cat [UInt8.ofNat (48+r % 10)] (padD k (m % Ten9)) rfl rfl rfl rfl rfl rfl (by simp) oM ?_
    try refine RUN ?_
    refine ⟨k+1,⟨?_,?_,?_,trivial⟩,sB,trivial,trivial,rfl,⟨by omega,hnx⟩,Hp.Le.refl _,by omega⟩
    ·rw [show (10:Int)=((10:Nat):Int) from rfl,q32 r 10 hr9,hdv];rfl
    ·rw [hrd];rfl
    ·rw [show IntKind.i64.wrap ((k:Int)+1)=((k+1:Nat):Int) by rw [IntKind.wrap_i64];omega];rfl
  ·have hfin:=part_end h0 hk hlow hend
   rw [hfin,List.append_assoc] at hs
   have hsl:(padD k (m % Ten9)).length≤8388608:=by rw [padD_len];omega
   have hsl2:s.length≤8388608:=by
    have:=congrArg List.length hs
    rw [List.length_append,List.length_append] at this
    omega
   have hm9:m / Ten9<m:=Nat.div_lt_self oM (by decide)
   try refine RUN ?_
   by_cases hk9:k<9
   ·have hr0:m % Ten9 / 10 ^ k=0:=Nat.eq_zero_of_not_pos fun h=>hend ⟨hk9,.inl h⟩
    have hq0:m / Ten9=0:=by
     by_cases h:m / Ten9=0
     ·exact h
     ·exact absurd ⟨hk9,.inr h⟩ hend
    generalize m % Ten9 / 10 ^ k=r at *
    rw [decide_eq_true (show (k:Int)<9 by omega)]
    try refine RUN ?_
    rw [decide_eq_false (show ¬ (r:Int)>0 by omega)]
    try refine RUN ?_
    rw [decide_eq_false (show ¬ ((dig B32 (m / Ten9)).length:Int)>0 by rw [hq0,dig_zero];decide)]
    try refine RUN ?_
    refine EVL.cat (padD k (m % Ten9)) s rfl rfl rfl rfl rfl rfl hsl hsl2 ?_
    try refine RUN ?_
    exact ⟨(m / Ten9,padD k (m % Ten9)++s,qa,qc),⟨rfl,rfl,trivial⟩,sB,trivial,trivial,rfl,⟨SlN.mono hq hG3,hs,by dsimp only;omega⟩,hG2.trans hG3,hm9⟩
   ·rw [decide_eq_false (show ¬ (k:Int)<9 by omega)]
    try refine RUN ?_
    refine EVL.cat (padD k (m % Ten9)) s rfl rfl rfl rfl rfl rfl hsl hsl2 ?_
    try refine RUN ?_
    exact ⟨(m / Ten9,padD k (m % Ten9)++s,qa,qc),⟨rfl,rfl,trivial⟩,sB,trivial,trivial,rfl,⟨SlN.mono hq hG3,hs,by dsimp only;omega⟩,hG2.trans hG3,hm9⟩
theorem refIntText_pc {H:Hp} {v:Value} (z:Int) (hz:bl z.natAbs≤8000000) (hv:RI H v z):PC prog 84 #[v] H fun r _=>r=.string (sb (wtL z)):=by
 obtain ⟨a,l,c,rfl,hn⟩:=hv
 have hl:=decD_bl z.natAbs
 have ht:=refNatText_pc z.natAbs hz hn
 refine BD func84 ntmps84 ?_
 try refine RUN ?_
 by_cases h:z<0
 ·rw [decide_eq_true h]
  try refine RUN ?_
  refine EVL.call rfl rfl rfl rfl rfl (ht) ?_
  rintro _ G rfl hG
  refine EVL.cat [45] (Lib.decDigits z.natAbs) rfl rfl rfl rfl rfl rfl (by decide) oM ?_
  try refine RUN ?_
  unfold wtL;rw [if_pos h]
 ·rw [decide_eq_false h]
  try refine RUN ?_
  refine EVL.call rfl rfl rfl rfl rfl (ht) ?_
  rintro _ G rfl hG
  try refine RUN ?_
  unfold wtL;rw [if_neg h];rfl
theorem dig32_one {n:Nat} (h:n≠0):((dig B32 n).length=1∧(dig B32 n).getD 0 0=1)↔n=1:=by
 constructor
 ·rintro ⟨h1,h2⟩
  have e:=dig_val B32_two n
  obtain ⟨x,hx⟩:=List.length_eq_one_iff.1 h1
  rw [hx] at e h2
  simp only [List.getD_cons_zero] at h2
  rw [h2] at e
  simp only [val] at e
  omega
 ·rintro rfl
  have e:dig B32 1=[1]:=by
   rw [dig_pos B32_two (by decide),Nat.mod_eq_of_lt (by decide),Nat.div_eq_of_lt (by decide),dig_zero]
  rw [e];exact ⟨rfl,rfl⟩
set_option maxRecDepth 100000 in
set_option maxHeartbeats 16000000 in
theorem refText_pc {H:Hp} {v:Value} (q:Rat) (hq:ht q≤8000) (hv:RQ H v q):PC prog 37 #[v] H fun r _=>r=.string (sb (fracT q)):=by
 have h1:=bl_num_le q
 have h2:=bl_den_le q
 have hl1:=wtL_bl q.num
 have hl2:=decD_bl q.den
 obtain ⟨a,l,c,a',l',c',rfl,hN,hD⟩:=hv
 have hl':l'=(dig B32 q.den).length:=by
  obtain ⟨x,y,e⟩:=SlC.val hD
  injection e
 subst hl'
 have hnt:=fun G (h:H.Le G)=>refIntText_pc (H:=G) q.num oM ⟨a,l,c,rfl,RN.mono hN h⟩
 have hdt:=fun G (h:H.Le G)=>refNatText_pc (H:=G) q.den oM (RN.mono hD h)
 have hone:=dig32_one q.den_nz
 have hpos:0<(dig B32 q.den).length:=List.length_pos_iff.2 (by rw [dig_pos B32_two q.den_nz];simp)
 have hget:(dig B32 q.den)[0]?=some ((dig B32 q.den).getD 0 0):=by
  rw [List.getD_eq_getElem?_getD,List.getElem?_eq_getElem hpos];rfl
 have hcell:((dig B32 q.den).map n32)[0]?=some (n32 ((dig B32 q.den).getD 0 0)):=by rw [List.getElem?_map,hget];rfl
 refine BD func37 ntmps37 ?_
 try refine RUN ?_
 by_cases hlen:(dig B32 q.den).length=1
 ·rw [show ((((dig B32 q.den).length:Nat):Int) == 1)=true by rw [hlen];rfl]
  try refine RUN ?_
  refine EVL.idxR tO rfl rfl rfl rfl rfl rfl rfl rfl rfl rfl (hD) (0) (rfl) (hpos) (hcell) ?_
  try refine RUN ?_
  by_cases h:q.den=1
  ·rw [(hone.2 h).2,show (((1:Nat):Int) == 1)=true from rfl]
   try refine RUN ?_
   refine EVL.call rfl rfl rfl rfl rfl (hnt _ (Hp.Le.refl _)) ?_
   rintro _ G rfl hG
   try refine RUN ?_
   unfold fracT;rw [if_pos h]
  ·rw [show (((((dig B32 q.den).getD 0 0:Nat)):Int) == 1)=false from beq_eq_false_iff_ne.2 (fun e=>h (hone.1 ⟨hlen,by omega⟩))]
   try refine RUN ?_
   apply EV.drawn 8 kR kR;intro xv yw
   (repeat refine' DD ?_)
   refine' DJ.callS rfl rfl rfl rfl rfl (cO func84) (fun G hG hd=>hnt G hG) ?_;rotate_left
   refine' DJ.cat (wtL q.num) [47] rfl rfl rfl rfl rfl rfl oM (by decide) ?_;rotate_left
   (repeat refine' DD ?_)
   refine' DJ.callS rfl rfl rfl rfl rfl (cO func85) (fun G hG hd=>hdt G hG) ?_;rotate_left
   refine' DJ.cat (wtL q.num++[47]) (Lib.decDigits q.den) rfl rfl rfl rfl rfl rfl (by rw [List.length_append,List.length_singleton];omega) oM ?_;rotate_left
   (refine DJ.nil (fun G2 hG2 hF2=>?_);(case hS|hS2=>rfl))
   try refine RUN ?_
   unfold fracT;rw [if_neg h]
 ·have h:¬ q.den=1:=fun h=>hlen (hone.2 h).1
  rw [show ((((dig B32 q.den).length:Nat):Int) == 1)=false from beq_eq_false_iff_ne.2 (fun e=>hlen oM)]
  try refine RUN ?_
  apply EV.drawn 8 kR kR;intro xv yw
  (repeat refine' DD ?_)
  refine' DJ.callS rfl rfl rfl rfl rfl (cO func84) (fun G hG hd=>hnt G hG) ?_;rotate_left
  refine' DJ.cat (wtL q.num) [47] rfl rfl rfl rfl rfl rfl oM (by decide) ?_;rotate_left
  (repeat refine' DD ?_)
  refine' DJ.callS rfl rfl rfl rfl rfl (cO func85) (fun G hG hd=>hdt G hG) ?_;rotate_left
  refine' DJ.cat (wtL q.num++[47]) (Lib.decDigits q.den) rfl rfl rfl rfl rfl rfl (by rw [List.length_append,List.length_singleton];omega) oM ?_;rotate_left
  (refine DJ.nil (fun G2 hG2 hF2=>?_);(case hS|hS2=>rfl))
  try refine RUN ?_
  unfold fracT;rw [if_neg h]
theorem decD_len10:∀ (k n:Nat),n<10 ^ k→(Lib.decDigits n).length≤k+1
 | 0,n,h=>by rw [decD_low (by omega)];exact Nat.le_refl _
 | k+1,n,h=>by
  by_cases h1:n<10
  ·rw [decD_low h1,List.length_singleton];omega
  ·have:=decD_len10 k (n / 10) (by rw [Nat.pow_succ] at h;omega)
   rw [decD_step oM,List.length_append,List.length_singleton]
   omega
theorem ht_mkRat (n:Int) (d k:Nat) (hd:d≠0) (h1:bl n.natAbs≤k) (h2:bl d≤k):ht (mkRat n d)≤k:=Nat.le_trans (ht_mk n d hd) (Nat.max_le.2 ⟨h1,h2⟩)
theorem pDec_ht {s t:List UInt8} {q:Rat} (h:pDec s t=some q):ht q≤2000:=by
 unfold pDec at h
 cases hp:pN (if s.head?=some 45 then s.tail else s) with
 | none=>rw [hp] at h;cases h
 | some n =>
  have bn:=pN_bl hp
  rw [hp] at h
  have h':(if okD t then some (mkRat (signZ (s.head?=some 45) (n*10 ^ t.length+valD t)) (10 ^ t.length)) else none)=some q:=h
  by_cases hk:okD t
  ·rw [if_pos hk] at h'
   cases h'
   have b0:=ten_bl (e:=t.length) hk.2.1
   have b1:bl (valD t)≤800:=valD_bl hk.2.2 hk.2.1
   have b2:bl (n*10 ^ t.length)≤1700:=Nat.le_trans (bl_mul _ _) oM
   have b3:bl (n*10 ^ t.length+valD t)≤1701:=Nat.le_trans (bl_add _ _) oM
   refine ht_mkRat _ _ _ (Nat.ne_of_gt (Nat.pow_pos oM)) ?_ oM
   unfold signZ
   split
   ·rw [Int.natAbs_neg,Int.natAbs_natCast];exact Nat.le_trans b3 oM
   ·rw [Int.natAbs_natCast];exact Nat.le_trans b3 oM
  ·rw [if_neg hk] at h';cases h'
theorem pOver_ht {s t:List UInt8} {q:Rat} (h:pOver s t=some q):ht q≤2000:=by
 unfold pOver at h
 cases hz:pI s with
 | none=>rw [hz] at h;cases h
 | some z =>
  cases hd:pN t with
  | none=>rw [hz,hd] at h;cases h
  | some n =>
   have bz:=pI_bl hz
   have bn:=pN_bl hd
   rw [hz,hd] at h
   have h':(if n=0 then none else some (mkRat z n))=some q:=h
   by_cases h0:n=0
   ·rw [if_pos h0] at h';cases h'
   ·rw [if_neg h0] at h'
    cases h'
    exact ht_mkRat _ _ _ h0 oM oM
theorem pQ_ht {l:List UInt8} {q:Rat} (h:pQ l=some q):ht q≤2000:=by
 unfold pQ at h
 split at h
 ·exact pOver_ht h
 ·split at h
  ·exact pDec_ht h
  ·cases hz:pI l with
   | none=>rw [hz] at h;cases h
   | some z =>
    rw [hz] at h
    cases h
    have:=pI_bl hz
    exact Nat.le_trans (ht_int z) oM
end Go.Proofs.YtbcfidllfimehaaGreatDoor
namespace Go.Proofs.YtbcfidllfimehaaGreatDoor
def joinL (c:UInt8):List (List UInt8)→List UInt8
 | []=>[]
 | [w]=>w
 | w::v::r=>w++c::joinL c (v::r)
structure ColT.Ok (c:ColT):Prop where
 name:isNm c.name=true
 kind:c.kind=1∧c.words=[]∨c.kind=2∧1≤c.words.length∧c.words.length≤12
 words:∀ w,w∈c.words→isNm w=true
 nodup:c.words.Nodup
def tCol (c:ColT):List UInt8:=c.name++58::(if c.kind=1 then [110,117,109,98,101,114] else [99,104,111,105,99,101,40]++(joinL 124 c.words++[41]))
structure CellT.Ok (c:ColT) (x:CellT):Prop where
 lacks:x.lacks=true→x.q=0∧x.word=0
 num:x.lacks=false→c.kind=1→x.word=0∧ht x.q≤500
 word:x.lacks=false→c.kind≠1→x.q=0∧x.word<c.words.length
def tCell (c:ColT) (x:CellT):List UInt8:=if x.lacks then [63] else if c.kind=1 then fracT x.q else c.words.getD x.word []
def tRow (cs:List ColT) (row:List CellT):List UInt8:=joinL 44 (List.zipWith tCell cs row)
structure ShOk (cs:List ColT) (rows:List (List CellT)):Prop where
 some1:1≤cs.length
 few:cs.length≤20
 cols:∀ c,c∈cs→c.Ok
 names:(cs.map ColT.name).Nodup
 nrows:rows.length≤300
 wide:∀ row,row∈rows→cs.length=row.length
 cells:∀ row,row∈rows→∀ c x,(c,x)∈cs.zip row→c.Ok∧x.Ok c
def tSheet (cs:List ColT) (rows:List (List CellT)):List UInt8:=joinL 10 (joinL 44 (cs.map tCol)::rows.map (tRow cs))++[10]
end Go.Proofs.YtbcfidllfimehaaGreatDoor
namespace Go.Proofs.YtbcfidllfimehaaGreatDoor
open Go.RowKit _root_.Go.Proofs.Tryz
section
variable {P:Program} {n:Nat} {ops:Array Oper} {o:Oper} {rest:List Oper} {env:Env} {bx:Bxs} {sb':Bxs} {H:Hs} {Q:EQ} {d:Nat}
theorem run_catN {T T':TypeId} {x y:Operand} (ho:o.op=.binOp .add T x y T') (a b:List UInt8) (hx:env.op x=some (.v (.string (sb a)))) (hy:env.op y=some (.v (.string (sb b)))) (hab:a.length+b.length≤9223372036854775807) (ev:Operand→Value) (W:World) (he:∀ y x,y∈o.op.operands→env.op y=some (.v x)→ev y=x) :
  (execOp ev o).run P W=.ok (.value (.string (sb (a++b)))) W:=by
 have ex:=he x _ (by simp [ho,Op.operands]) hx
 have ey:=he y _ (by simp [ho,Op.operands]) hy
 have hs:=run_string_add_sum W (P:=P) (sb a) (sb b) (by rw [sb_size,sb_size];exact hab)
 rw [show sb a++sb b=sb (a++b) from by rw [ByteArray.mk_append_mk]] at hs
 unfold execOp
 simp [ho,ex,ey,eqGuard,binOp,hs]
theorem DJ.catN {tail l:List Oper} {x:Nat→Value} {y:Nat→Ows} {ow':Ows} {kl ks:List DK} {i:Nat} {bx':Bxs} {Γ:Fcts} {T T':TypeId} {u w:Operand} (a b:List UInt8) (ho:o.op=.binOp .add T u w T') (hw:wantB ops env o=some true) (hd:o.dst=some d) (hn:Nat.blt d n=true) (hx:env.op u=some (.v (.string (sb a)))) (hy:env.op w=some (.v (.string (sb b)))) (hab:a.length+b.length≤9223372036854775807)
  (h:DJ P n ops tail sb' bx H Q x y kl (i+1) l ks ((d,.v (.string (sb (a++b))))::env) bx' Γ ow'):DJ P n ops tail sb' bx H Q x y kl i (o::l) (.sv (.v (.string (sb (a++b))))::ks) env bx' Γ ow' :=
 DJ.ofVal (ValOk.gen hw (run_catN ho a b hx hy hab)) hd hn rfl h
end
section
variable {P:Program} {n:Nat} {ops:Array Oper} {o:Oper} {rest:List Oper} {env:Env} {bx:Bxs} {H:Hs} {Q:EQ} {d:Nat}
theorem EVL.catN {T T':TypeId} {x y:Operand} (a b:List UInt8) (ho:o.op=.binOp .add T x y T') (hw:wantB ops env o=some true) (hd:o.dst=some d) (hn:Nat.blt d n=true) (hx:env.op x=some (.v (.string (sb a)))) (hy:env.op y=some (.v (.string (sb b)))) (hab:a.length+b.length≤9223372036854775807)
  (h:EVL P n ops rest ((d,.v (.string (sb (a++b))))::env) bx H Q):EVL P n ops (o::rest) env bx H Q:=EVL.gen hw hd hn (run_catN ho a b hx hy hab) h
end
def sepL (c:UInt8) (l:List (List UInt8)):List UInt8:=l.flatMap fun w=>w++[c]
theorem sepL_snoc (c:UInt8) (l:List (List UInt8)) (w:List UInt8):sepL c (l++[w])=sepL c l++w++[c]:=by
 unfold sepL;rw [List.flatMap_append,List.append_assoc];simp
theorem join_sep (c:UInt8):∀ {l:List (List UInt8)},l≠[]→joinL c l++[c]=sepL c l
 | [],h=>absurd rfl h
 | [w],_=>by unfold sepL;simp [joinL]
 | w::v::r,_=>by
  have:=join_sep c (l:=v::r) (fun k=>by cases k)
  rw [joinL,List.append_assoc,List.cons_append,this]
  unfold sepL
  simp [List.flatMap_cons]
theorem sepL_take (c:UInt8) (l:List (List UInt8)) (i:Nat):(sepL c (l.take i)).length≤(sepL c l).length:=by
 have:sepL c l=sepL c (l.take i)++sepL c (l.drop i):=by unfold sepL;rw [← List.flatMap_append,List.take_append_drop]
 rw [this,List.length_append];omega
theorem sepL_mem {c:UInt8} {w:List UInt8}:∀ {l:List (List UInt8)},w∈l→w.length+1≤(sepL c l).length
 | [],h=>by cases h
 | x::l,h=>by
  unfold sepL
  rw [List.flatMap_cons,List.length_append,List.length_append]
  rcases List.mem_cons.1 h with rfl | k
  ·rw [List.length_singleton];omega
  ·have:=sepL_mem (c:=c) k
   unfold sepL at this
   omega
theorem tSheet_sep (cs:List ColT) (rows:List (List CellT)):tSheet cs rows=sepL 10 (joinL 44 (cs.map tCol)::rows.map (tRow cs)):=join_sep 10 (fun k=>by cases k)
def Sofar (c:UInt8) (l:List (List UInt8)) (i:Nat) (t:List UInt8):Prop:=i=0∧t=[]∨0<i∧t++[c]=sepL c (l.take i)
theorem sofar_end {c:UInt8} {l:List (List UInt8)} {t:List UInt8} (h:Sofar c l l.length t):t=joinL c l:=by
 rcases h with ⟨h1,h2⟩ | ⟨h1,h2⟩
 ·rw [List.length_eq_zero_iff] at h1;subst h1;exact h2
 ·rw [List.take_length,← join_sep c (fun k=>by subst k;simp at h1)] at h2
  exact List.append_cancel_right h2
theorem sofar_next {c:UInt8} {l:List (List UInt8)} {i:Nat} {w:List UInt8} (hw:l[i]?=some w):Sofar c l (i+1) (sepL c (l.take i)++w) :=
 .inr ⟨Nat.succ_pos i,by rw [take_snoc hw,sepL_snoc]⟩
set_option maxRecDepth 100000 in
set_option maxHeartbeats 64000000 in
theorem rsheetText_pc {H:Hp} {u v:Value} {cs:List ColT} {rows:List (List CellT)} (hu:ColL H u cs) (hv:RRows H v rows) (ok:ShOk cs rows) (hl:(tSheet cs rows).length≤1000000):PC prog 9 #[.agg #[u,v]] H fun r _=>r=strV (tSheet cs rows):=by
 rw [tSheet_sep] at hl ⊢
 have h1:(sepL 44 (cs.map tCol)).length≤1000000:=by
  rw [← join_sep 44 (fun k=>by have:=ok.some1;rw [List.map_eq_nil_iff.1 k] at this;simp at this),List.length_append,List.length_singleton]
  exact Nat.le_trans (sepL_mem (List.mem_cons_self ..)) hl
 have hcw:∀ c,c∈cs→(tCol c).length≤1000000:=fun c hc=>by
  have:=sepL_mem (c:=44) (List.mem_map_of_mem (f:=tCol) hc)
  omega
 have hne:cs≠[]:=fun k=>by have:=ok.some1;rw [k] at this;simp at this
 have hrw:∀ row,row∈rows→(sepL 44 (List.zipWith tCell cs row)).length≤1000000:=fun row hrow=>by
  have h2:=sepL_mem (c:=10) (l:=joinL 44 (cs.map tCol)::rows.map (tRow cs)) (List.mem_cons_of_mem _ (List.mem_map_of_mem (f:=tRow cs) hrow))
  have h3:tRow cs row=joinL 44 (List.zipWith tCell cs row):=rfl
  rw [h3] at h2
  by_cases e:List.zipWith tCell cs row=[]
  ·rw [e];exact Nat.zero_le _
  ·rw [← join_sep 44 e,List.length_append,List.length_singleton];omega
 obtain ⟨css,hcs,hsl⟩:=hu
 obtain ⟨rss,hrs,hrl⟩:=hv
 obtain ⟨ua,uc,rfl⟩:=SlC.val hsl
 obtain ⟨va,vc,rfl⟩:=SlC.val hrl
 refine BD func9 ntmps9 ?_
 try refine RUN ?_
 refine EV.loopK (ι:=Nat × List UInt8) [1] [1] (fun q=>[(3,.v (.string (sb q.2))),(4,.v (.int .i64 (q.1:Int)))]) (fun _=>[]) (fun _=>[]) (fun q _=>q.1≤cs.length∧q.2.length≤1000000∧Sofar 44 (cs.map tCol) q.1 q.2) (fun q=>cs.length-q.1) ((0,[])) rfl rfl ⟨rfl,rfl,trivial⟩ trivial rfl (fun _=>rfl) (⟨Nat.zero_le _,Nat.zero_le _,.inl ⟨rfl,rfl⟩⟩) ?_
 rintro ⟨i,t⟩ G1 hG1 ⟨hi,htl,hso⟩
 dsimp only at hi htl hso
 try refine RUN ?_
 refine EV.cond rfl (fun hlt=>?_) (fun hlt=>?_)
 ·simp only [nN] at hlt
  obtain ⟨c,hc⟩:∃ c,cs[i]?=some c:=⟨_,List.getElem?_eq_getElem hlt⟩
  obtain ⟨cc,hcut,hcol⟩:=(hcs.mono SCol.ok hG1).get SCol.ok hc
  obtain ⟨wa,wn,hws,rfl⟩:=hcol
  have hcok:=ok.cols c (List.mem_of_getElem? hc)
  have htc:=hcw c (List.mem_of_getElem? hc)
  have hcm:(cs.map tCol)[i]?=some (tCol c):=by rw [List.getElem?_map,hc];rfl
  have hpre:=sepL_take 44 (cs.map tCol) i
  have wn1:IntKind.i64.wrap ((i:Int)+1)=((i+1:Nat):Int):=wi_inc i (by have:=ok.few;omega)
  have hnx:=sofar_next (c:=44) hcm
  have hcl:c.name.length≤(tCol c).length:=by unfold tCol;rw [List.length_append];omega
  try refine RUN ?_
  refine EVL.idxM tO rfl rfl rfl rfl rfl rfl rfl rfl rfl ((hsl.mono hG1)) (i) (rfl) (hlt) (hcut) ?_
  try refine RUN ?_
  refine EV.meetK (ι:=Unit) [1,4,5] [1,5] (fun _=>[(3,.v (.string (sb (sepL 44 ((cs.map tCol).take i)))))]) (fun _=>[]) (fun _=>[]) (fun _ G=>G1.Le G) rfl rfl (fun _=>rfl) ?_ ?_
  ·rcases hso with ⟨rfl,rfl⟩ | ⟨h0,e⟩
   ·rw [decide_eq_false (show ¬ (((0:Nat):Int)>0) by omega)]
    try refine RUN ?_
    exact ⟨(),⟨rfl,trivial⟩,sB,trivial,sB,rfl,Hp.Le.refl _⟩
   ·rw [decide_eq_true (show (i:Int)>0 by omega)]
    try refine RUN ?_
    refine EVL.catN t [44] rfl rfl rfl rfl rfl rfl (by rw [List.length_singleton];omega) ?_
    rw [e]
    try refine RUN ?_
    exact ⟨(),⟨rfl,trivial⟩,sB,trivial,sB,rfl,Hp.Le.refl _⟩
  rintro _ G2 hG2
  generalize sepL 44 ((cs.map tCol).take i)=s at *
  try refine RUN ?_
  refine EVL.catN s c.name rfl rfl rfl rfl rfl rfl oM ?_
  try refine RUN ?_
  by_cases k1:c.kind=1
  ·have htcol:tCol c=c.name++([58,110,117,109,98,101,114]:List UInt8):=by unfold tCol;rw [if_pos k1]
   rw [show ((c.kind:Int) == 1)=true by rw [k1];rfl]
   try refine RUN ?_
   refine EVL.catN (s++c.name) [58,110,117,109,98,101,114] rfl rfl rfl rfl rfl rfl (by rw [List.length_append];show _+7≤_;omega) ?_
   try refine RUN ?_
   rw [wn1]
   refine ⟨(i+1,s++c.name++[58,110,117,109,98,101,114]),⟨rfl,rfl,trivial⟩,sB,trivial,sB,rfl,⟨hlt,?_,by rw [List.append_assoc,← htcol];exact hnx⟩,hG2,by dsimp only;omega⟩
   have h4:=sepL_take 44 (cs.map tCol) (i+1)
   rcases hnx with ⟨k,_⟩ | ⟨_,e⟩
   ·omega
   ·rw [← e,List.length_append] at h4
    dsimp only
    rw [List.append_assoc,← htcol]
    simp only [List.length_append,List.length_singleton] at h4 ⊢
    omega
  ·have htcol:tCol c=c.name++([58,99,104,111,105,99,101,40]:List UInt8)++joinL 124 c.words++[41]:=by
    unfold tCol;rw [if_neg k1];simp
   have hwt:(joinL 124 c.words).length+c.name.length+9=(tCol c).length:=by rw [htcol];simp only [List.length_append,List.length_cons,List.length_nil];omega
   have hwne:c.words≠[]:=fun k=>by
    rcases hcok.kind with ⟨q,_⟩ | ⟨_,q,_⟩
    ·exact k1 q
    ·rw [k] at q;simp at q
   have hwl:(sepL 124 c.words).length≤1000001:=by rw [← join_sep 124 hwne,List.length_append,List.length_singleton];omega
   have hww:∀ w,w∈c.words→w.length≤1000000:=fun w hw=>by have:=sepL_mem (c:=124) hw;omega
   have hwn:c.words.length≤12:=by
    rcases hcok.kind with ⟨q,_⟩ | ⟨_,_,q⟩
    ·exact absurd q k1
    ·exact q
   rw [show ((c.kind:Int) == 1)=false from beq_eq_false_iff_ne.2 (by omega)]
   try refine RUN ?_
   refine EVL.catN (s++c.name) [58,99,104,111,105,99,101,40] rfl rfl rfl rfl rfl rfl (by rw [List.length_append];show _+8≤_;omega) ?_
   have hb:(s++c.name++[58,99,104,111,105,99,101,40]).length≤2000008:=by simp only [List.length_append,List.length_cons,List.length_nil];omega
   have hnx2:s++tCol c=s++c.name++[58,99,104,111,105,99,101,40]++joinL 124 c.words++[41]:=by rw [htcol];simp
   generalize s++c.name++[58,99,104,111,105,99,101,40]=b at *
   try refine RUN ?_
   refine EV.loopK (ι:=Nat × List UInt8) [1,4,5] [1,5] (fun q=>[(3,.v (.string (sb (b++q.2)))),(6,.v (.int .i64 (q.1:Int)))]) (fun _=>[]) (fun _=>[]) (fun q _=>q.1≤c.words.length∧q.2.length≤1000001∧Sofar 124 c.words q.1 q.2) (fun q=>c.words.length-q.1) ((0,[])) rfl rfl ⟨by dsimp only;rw [List.append_nil];rfl,rfl,trivial⟩ trivial rfl (fun _=>rfl) (⟨Nat.zero_le _,Nat.zero_le _,.inl ⟨rfl,rfl⟩⟩) ?_
   rintro ⟨j,t2⟩ G3 hG3 ⟨hj,ht2,hso2⟩
   dsimp only at hj ht2 hso2
   try refine RUN ?_
   refine EV.cond rfl (fun hlt2=>?_) (fun hlt2=>?_)
   ·simp only [nN] at hlt2
    obtain ⟨w,hw⟩:∃ w,c.words[j]?=some w:=⟨_,List.getElem?_eq_getElem hlt2⟩
    have hpre2:=sepL_take 124 c.words j
    have hwwl:=hww w (List.mem_of_getElem? hw)
    have hnx3:=sofar_next (c:=124) hw
    have hl3:(sepL 124 (c.words.take j)++w).length≤1000001:=by
     have h4:=sepL_take 124 c.words (j+1)
     rcases hnx3 with ⟨k,_⟩ | ⟨_,e⟩
     ·omega
     ·rw [← e,List.length_append] at h4
      omega
    try refine RUN ?_
    refine EV.meetK (ι:=Unit) [1,4,5,6] [1,5] (fun _=>[(3,.v (.string (sb (b++sepL 124 (c.words.take j)))))]) (fun _=>[]) (fun _=>[]) (fun _ G=>G3.Le G) rfl rfl (fun _=>rfl) ?_ ?_
    ·rcases hso2 with ⟨rfl,rfl⟩ | ⟨h0,e⟩
     ·rw [decide_eq_false (show ¬ (((0:Nat):Int)>0) by omega)]
      try refine RUN ?_
      exact ⟨(),⟨rfl,trivial⟩,sB,trivial,sB,rfl,Hp.Le.refl _⟩
     ·rw [decide_eq_true (show (j:Int)>0 by omega)]
      try refine RUN ?_
      refine EVL.catN (b++t2) [124] rfl rfl rfl rfl rfl rfl (by rw [List.length_append,List.length_singleton];omega) ?_
      rw [List.append_assoc,e]
      try refine RUN ?_
      exact ⟨(),⟨rfl,trivial⟩,sB,trivial,sB,rfl,Hp.Le.refl _⟩
    rintro _ G4 hG4
    generalize sepL 124 (c.words.take j)=s2 at *
    try refine RUN ?_
    refine EVL.idxR tO rfl rfl rfl rfl rfl rfl rfl rfl rfl rfl ((hws.mono (hG2.trans (hG3.trans hG4)))) (j) (rfl) (hlt2) ((by rw [List.getElem?_map,hw];rfl)) ?_
    try refine RUN ?_
    refine EVL.catN (b++s2) w rfl rfl rfl rfl rfl rfl (by rw [List.length_append];omega) ?_
    rw [List.append_assoc]
    try refine RUN ?_
    rw [wi_inc j (by omega)]
    exact ⟨(j+1,s2++w),⟨rfl,rfl,trivial⟩,sB,trivial,sB,rfl,⟨hlt2,hl3,hnx3⟩,hG4,by dsimp only;omega⟩
   simp only [nN] at hlt2
   obtain rfl:j=c.words.length:=by omega
   have:=sofar_end hso2
   subst this
   try refine RUN ?_
   refine EVL.catN (b++joinL 124 c.words) [41] rfl rfl rfl rfl rfl rfl (by rw [List.length_append,List.length_singleton];omega) ?_
   try refine RUN ?_
   rw [wn1]
   refine ⟨(i+1,b++joinL 124 c.words++[41]),⟨rfl,rfl,trivial⟩,sB,trivial,sB,rfl,⟨hlt,?_,by rw [← hnx2];exact hnx⟩,hG2.trans hG3,by dsimp only;omega⟩
   have h4:=sepL_take 44 (cs.map tCol) (i+1)
   rcases hnx with ⟨k,_⟩ | ⟨_,e⟩
   ·omega
   ·rw [← e,List.length_append] at h4
    dsimp only
    rw [← hnx2]
    omega
 simp only [nN] at hlt
 obtain rfl:i=cs.length:=by omega
 have ht:=sofar_end (l:=cs.map tCol) (by rw [List.length_map];exact hso)
 subst ht
 have h0:sepL 10 [joinL 44 (cs.map tCol)]=joinL 44 (cs.map tCol)++[10]:=by unfold sepL;simp
 have hmap:∀ j,(joinL 44 (cs.map tCol)::rows.map (tRow cs)).take (j+1)=joinL 44 (cs.map tCol)::(rows.take j).map (tRow cs):=fun j=>by rw [List.take_succ_cons,List.map_take]
 generalize hL:joinL 44 (cs.map tCol)::rows.map (tRow cs)=L at *
 try refine RUN ?_
 refine EVL.catN (joinL 44 (cs.map tCol)) [10] rfl rfl rfl rfl rfl rfl (by rw [List.length_singleton];omega) ?_
 rw [← h0]
 try refine RUN ?_
 refine EV.loopK (ι:=Nat) [1] [1] (fun j=>[(3,.v (.string (sb (sepL 10 (L.take (j+1)))))),(7,.v (.int .i64 (j:Int)))]) (fun _=>[]) (fun _=>[]) (fun j _=>j≤rows.length) (fun j=>rows.length-j) (0) rfl rfl ⟨by rw [hmap];rfl,rfl,trivial⟩ trivial rfl (fun _=>rfl) (Nat.zero_le _) ?_
 rintro j G2 hG2 hj
 try refine RUN ?_
 refine EV.cond rfl (fun hlt3=>?_) (fun hlt3=>?_)
 ·simp only [nN] at hlt3
  obtain ⟨row,hrow⟩:∃ row,rows[j]?=some row:=⟨_,List.getElem?_eq_getElem hlt3⟩
  obtain ⟨rc,hrcut,rv,rfl,hrr⟩:=(hrs.mono RRows.ok (hG1.trans hG2)).get RRows.ok hrow
  have hrlen:=ok.wide row (List.mem_of_getElem? hrow)
  have hzw:=hrw row (List.mem_of_getElem? hrow)
  have hzl:(List.zipWith tCell cs row).length=cs.length:=by rw [List.length_zipWith,hrlen,Nat.min_self]
  have hcell:=ok.cells row (List.mem_of_getElem? hrow)
  have hLj:L[j+1]?=some (tRow cs row):=by rw [← hL,List.getElem?_cons_succ,List.getElem?_map,hrow];rfl
  have hbl:=sepL_take 10 L (j+1)
  have hbn:sepL 10 (L.take (j+1+1))=sepL 10 (L.take (j+1))++tRow cs row++[10]:=by rw [take_snoc hLj,sepL_snoc]
  obtain ⟨r5,r6,rfl⟩:=LR.val hrr
  obtain ⟨cels,hcels,hcsl⟩:=hrr
  generalize sepL 10 (L.take (j+1))=b at *
  have wnj:IntKind.i64.wrap ((j:Int)+1)=((j+1:Nat):Int):=wi_inc j (by have:=ok.nrows;omega)
  try refine RUN ?_
  refine EV.loopK (ι:=Nat × List UInt8) [1,7] [1] (fun q=>[(3,.v (.string (sb (b++q.2)))),(8,.v (.int .i64 (q.1:Int)))]) (fun _=>[]) (fun _=>[]) (fun q _=>q.1≤cs.length∧q.2.length≤1000000∧Sofar 44 (List.zipWith tCell cs row) q.1 q.2) (fun q=>cs.length-q.1) ((0,[])) rfl rfl ⟨by dsimp only;rw [List.append_nil];rfl,rfl,trivial⟩ trivial rfl (fun _=>rfl) (⟨Nat.zero_le _,Nat.zero_le _,.inl ⟨rfl,rfl⟩⟩) ?_
  rintro ⟨i,t⟩ G3 hG3 ⟨hi2,htl2,hso2⟩
  dsimp only at hi2 htl2 hso2
  have hG03:=hG1.trans (hG2.trans hG3)
  try refine RUN ?_
  refine EV.cond rfl (fun hlt4=>?_) (fun hlt4=>?_)
  ·simp only [nN] at hlt4
   obtain ⟨c,hc⟩:∃ c,cs[i]?=some c:=⟨_,List.getElem?_eq_getElem hlt4⟩
   obtain ⟨x,hx⟩:∃ x,row[i]?=some x:=⟨_,List.getElem?_eq_getElem oM⟩
   have hzi:(List.zipWith tCell cs row)[i]?=some (tCell c x):=by rw [List.getElem?_zipWith,hc,hx]
   have hmem:(c,x)∈cs.zip row:=List.mem_of_getElem? (i:=i) (by rw [List.zip,List.getElem?_zipWith,hc,hx])
   obtain ⟨hcok,hxok⟩:=hcell c x hmem
   have htcl:=sepL_mem (c:=44) (List.mem_of_getElem? hzi)
   have hpre2:=sepL_take 44 (List.zipWith tCell cs row) i
   have hnx3:=sofar_next (c:=44) hzi
   have hl3:(sepL 44 ((List.zipWith tCell cs row).take i)++tCell c x).length≤1000000:=by
    have h4:=sepL_take 44 (List.zipWith tCell cs row) (i+1)
    rcases hnx3 with ⟨k,_⟩ | ⟨_,e⟩
    ·omega
    ·rw [← e,List.length_append] at h4
     omega
   obtain ⟨cc,hcut,wa,wn,hws,rfl⟩:=(hcs.mono SCol.ok hG03).get SCol.ok hc
   obtain ⟨xc,hxcut,yw,hyw,rfl⟩:=(hcels.mono RCell.ok hG3).get RCell.ok hx
   obtain ⟨ra,rl,rcc,ya,yl,yc,rfl⟩:=rq_form hyw
   have wni:IntKind.i64.wrap ((i:Int)+1)=((i+1:Nat):Int):=wi_inc i (by have:=ok.few;omega)
   try refine RUN ?_
   refine EV.meetK (ι:=Unit) [1,7,8] [1] (fun _=>[(3,.v (.string (sb (b++sepL 44 ((List.zipWith tCell cs row).take i)))))]) (fun _=>[]) (fun _=>[]) (fun _ G=>G3.Le G) rfl rfl (fun _=>rfl) ?_ ?_
   ·rcases hso2 with ⟨rfl,rfl⟩ | ⟨h0,e⟩
    ·rw [decide_eq_false (show ¬ (((0:Nat):Int)>0) by omega)]
     try refine RUN ?_
     exact ⟨(),⟨rfl,trivial⟩,sB,trivial,sB,rfl,Hp.Le.refl _⟩
    ·rw [decide_eq_true (show (i:Int)>0 by omega)]
     try refine RUN ?_
     refine EVL.catN (b++t) [44] rfl rfl rfl rfl rfl rfl (by rw [List.length_append,List.length_singleton];omega) ?_
     rw [List.append_assoc,e]
     try refine RUN ?_
     exact ⟨(),⟨rfl,trivial⟩,sB,trivial,sB,rfl,Hp.Le.refl _⟩
   rintro _ G4 hG4
   generalize sepL 44 ((List.zipWith tCell cs row).take i)=s2 at *
   have hrl4:=hrl.mono (hG03.trans hG4)
   try refine RUN ?_
   refine EVL.idxM tO rfl rfl rfl rfl rfl rfl rfl rfl rfl (hrl4) (j) (rfl) (hlt3) (hrcut) ?_
   try refine RUN ?_
   refine EVL.idxM tO rfl rfl rfl rfl rfl rfl rfl rfl rfl ((hcsl.mono (hG3.trans hG4))) (i) (rfl) (oM) (hxcut) ?_
   try refine RUN ?_
   cases hlk:x.lacks with
   | true =>
    have htx:tCell c x=[63]:=by unfold tCell;rw [hlk];rfl
    rw [htx] at hl3 hnx3
    try refine RUN ?_
    refine EVL.catN (b++s2) [63] rfl rfl rfl rfl rfl rfl (by rw [List.length_append,List.length_singleton];omega) ?_
    rw [List.append_assoc]
    try refine RUN ?_
    rw [wni]
    exact ⟨(i+1,s2++[63]),⟨rfl,rfl,trivial⟩,sB,trivial,sB,rfl,⟨hlt4,hl3,hnx3⟩,hG4,by dsimp only;omega⟩
   | false =>
    try refine RUN ?_
    refine EVL.idxM tO rfl rfl rfl rfl rfl rfl rfl rfl rfl ((hsl.mono (hG03.trans hG4))) (i) (rfl) (hlt4) (hcut) ?_
    try refine RUN ?_
    by_cases k1:c.kind=1
    ·have htx:tCell c x=fracT x.q:=by unfold tCell;rw [hlk,if_neg (by decide),if_pos k1]
     rw [htx] at hl3 hnx3 htcl
     rw [show ((c.kind:Int) == 1)=true by rw [k1];rfl]
     have htxt:=fun G (hG:G3.Le G)=>refText_pc x.q (Nat.le_trans (hxok.num hlk k1).2 (by decide)) (RQ.mono hyw hG)
     try refine RUN ?_
     refine EVL.call rfl rfl rfl rfl rfl (htxt _ hG4) ?_
     rintro _ G5 rfl hG5
     refine EVL.catN (b++s2) (fracT x.q) rfl rfl rfl rfl rfl rfl (by rw [List.length_append];omega) ?_
     rw [List.append_assoc]
     try refine RUN ?_
     rw [wni]
     exact ⟨(i+1,s2++fracT x.q),⟨rfl,rfl,trivial⟩,sB,trivial,sB,rfl,⟨hlt4,hl3,hnx3⟩,hG4.trans hG5,by dsimp only;omega⟩
    ·obtain ⟨_,hword⟩:=hxok.word hlk k1
     obtain ⟨w,hw⟩:∃ w,c.words[x.word]?=some w:=⟨_,List.getElem?_eq_getElem hword⟩
     have htx:tCell c x=w:=by unfold tCell;rw [hlk,if_neg (by decide),if_neg k1,List.getD_eq_getElem?_getD,hw];rfl
     rw [htx] at hl3 hnx3 htcl
     rw [show ((c.kind:Int) == 1)=false from beq_eq_false_iff_ne.2 (by omega)]
     try refine RUN ?_
     apply EV.drawn 11 kR kR;intro xv yw
     (repeat refine' DD ?_)
     refine' DJ.idxM tO rfl rfl rfl rfl rfl rfl rfl rfl rfl ((hsl.mono (hG03.trans hG4))) (i) (rfl) (hlt4) (hcut) ?_;rotate_left
     (repeat refine' DD ?_)
     refine' DJ.ofVal (ValOk.idx1 tO rfl rfl rfl rfl rfl rfl rfl rfl ((hws.mono hG4)) (x.word) (rfl) (hword) ((by rw [List.getElem?_map,hw];rfl))) rfl rfl rfl ?_;rotate_left
     (repeat refine' DD ?_)
     (refine DJ.nil (fun G5 hG5 hF5=>?_);(case hS|hS2=>rfl))
     refine EVL.catN (b++s2) w rfl rfl rfl rfl rfl rfl (by rw [List.length_append];omega) ?_
     rw [List.append_assoc]
     try refine RUN ?_
     rw [wni]
     exact ⟨(i+1,s2++w),⟨rfl,rfl,trivial⟩,sB,trivial,sB,rfl,⟨hlt4,hl3,hnx3⟩,hG4.trans hG5,by dsimp only;omega⟩
  simp only [nN] at hlt4
  obtain rfl:i=cs.length:=by omega
  have ht:=sofar_end (l:=List.zipWith tCell cs row) (by rw [hzl];exact hso2)
  subst ht
  try refine RUN ?_
  refine EVL.catN (b++joinL 44 (List.zipWith tCell cs row)) [10] rfl rfl rfl rfl rfl rfl (by rw [List.length_append,List.length_singleton];omega) ?_
  rw [show b++joinL 44 (List.zipWith tCell cs row)++[10]=sepL 10 (L.take (j+1+1)) from hbn.symm]
  try refine RUN ?_
  rw [wnj]
  exact ⟨j+1,⟨rfl,rfl,trivial⟩,sB,trivial,sB,rfl,hlt3,hG3,by omega⟩
 simp only [nN] at hlt3
 obtain rfl:j=rows.length:=by omega
 have hLl:L.length=rows.length+1:=by rw [← hL,List.length_cons,List.length_map]
 rw [← hLl,List.take_length]
 try refine RUN ?_
 rfl
end Go.Proofs.YtbcfidllfimehaaGreatDoor
namespace Go.Proofs.YtbcfidllfimehaaGreatDoor
def mWords:List (List UInt8):=[[114,101,100],[103,114,101,101,110],[98,108,117,101],[119,95,49],[88,57]]
def mName (i:Nat) (n:Int):List UInt8:=[UInt8.ofNat (97+i),95]++([120,121,122]:List UInt8).drop (n % 3).toNat
def mCol (i:Nat) (n:Int):ColT:=if (n.tdiv 3) % 3=2 then ⟨mName i n,2,mWords.take (1+((n.tdiv 9) % 5).toNat)⟩ else ⟨mName i n,1,[]⟩
def mColsFrom:Nat→List Int→List ColT
 | _,[]=>[]
 | i,n::l=>mCol i n::mColsFrom (i+1) l
def mCols (l:List Int):List ColT:=if l=[] then [⟨[97],1,[]⟩] else mColsFrom 0 (l.take 6)
def mCell (c:ColT) (n:Int):CellT:=if n % 9=8 then ⟨true,0,0⟩ else if c.kind=1 then ⟨false,rNum (n.tdiv 9),0⟩ else ⟨false,0,((n.tdiv 9) % (c.words.length:Int)).toNat⟩
theorem mName_ok {i:Nat} (hi:i<6) (n:Int):isNm (mName i n)=true:=by
 have h:∀ (j:Fin 6) (k:Fin 3),isNm ([UInt8.ofNat (97+j.val),95]++([120,121,122]:List UInt8).drop k.val)=true:=by decide
 exact h ⟨i,hi⟩ ⟨(n % 3).toNat,by have:=Int.emod_lt_of_pos n (show (0:Int)<3 by decide);have:=Int.emod_nonneg n (show (3:Int)≠0 by decide);omega⟩
theorem mWords_ok (n:Int):(mWords.take (1+((n.tdiv 9) % 5).toNat)).all isNm=true∧(mWords.take (1+((n.tdiv 9) % 5).toNat)).Nodup∧1≤(mWords.take (1+((n.tdiv 9) % 5).toNat)).length∧(mWords.take (1+((n.tdiv 9) % 5).toNat)).length≤12:=by
 have h:∀ k:Fin 5,(mWords.take (1+k.val)).all isNm=true∧(mWords.take (1+k.val)).Nodup∧1≤(mWords.take (1+k.val)).length∧(mWords.take (1+k.val)).length≤12:=by decide
 exact h ⟨((n.tdiv 9) % 5).toNat,by have:=Int.emod_lt_of_pos (n.tdiv 9) (show (0:Int)<5 by decide);have:=Int.emod_nonneg (n.tdiv 9) (show (5:Int)≠0 by decide);omega⟩
theorem mCol_name (i:Nat) (n:Int):(mCol i n).name=mName i n:=by unfold mCol;split <;> rfl
theorem mCol_ok {i:Nat} (hi:i<6) (n:Int):(mCol i n).Ok:=by
 have hn:=mName_ok hi n
 obtain ⟨w1,w2,w3,w4⟩:=mWords_ok n
 refine ⟨by rw [mCol_name];exact hn,?_,?_,?_⟩
 ·unfold mCol
  split
  ·exact .inr ⟨rfl,w3,w4⟩
  ·exact .inl ⟨rfl,rfl⟩
 ·unfold mCol
  split
  ·exact fun w hw=>List.all_eq_true.1 w1 w hw
  ·intro w hw;cases hw
 ·unfold mCol
  split
  ·exact w2
  ·exact List.nodup_nil
theorem mFrom_mem:∀ (l:List Int) (i:Nat) (d:ColT),d∈mColsFrom i l→∃ (j:Nat) (n:Int),i≤j∧j<i+l.length∧d=mCol j n
 | [],_,d,h=>by cases h
 | n::l,i,d,h=>by
  rw [mColsFrom] at h
  rcases List.mem_cons.1 h with k | k
  ·exact ⟨i,n,Nat.le_refl _,by rw [List.length_cons];omega,k⟩
  ·obtain ⟨j,m,h1,h2,h3⟩:=mFrom_mem l (i+1) d k
   exact ⟨j,m,by omega,by rw [List.length_cons];omega,h3⟩
theorem mName_ne {i j:Nat} (h:i<j) (hj:j<6) (n m:Int):mName i n≠mName j m:=fun e=>by
 have h1:UInt8.ofNat (97+i)=UInt8.ofNat (97+j):=(List.cons.inj e).1
 have h2:=congrArg UInt8.toNat h1
 rw [UInt8.toNat_ofNat',UInt8.toNat_ofNat'] at h2
 omega
theorem mFrom_nodup:∀ (l:List Int) (i:Nat),i+l.length≤6→((mColsFrom i l).map ColT.name).Nodup
 | [],_,_=>List.nodup_nil
 | n::l,i,h=>by
  rw [List.length_cons] at h
  rw [mColsFrom,List.map_cons,List.nodup_cons]
  refine ⟨fun k=>?_,mFrom_nodup l (i+1) oM⟩
  obtain ⟨d,hd,e⟩:=List.mem_map.1 k
  obtain ⟨j,m,h1,h2,rfl⟩:=mFrom_mem l (i+1) d hd
  rw [mCol_name,mCol_name] at e
  exact mName_ne oM oM n m e.symm
theorem mFrom_len:∀ (l:List Int) (i:Nat),(mColsFrom i l).length=l.length
 | [],_=>rfl
 | n::l,i=>by rw [mColsFrom,List.length_cons,List.length_cons,mFrom_len l (i+1)]
theorem mCols_ok (l:List Int):(1≤(mCols l).length∧(mCols l).length≤6)∧(∀ c,c∈mCols l→c.Ok)∧((mCols l).map ColT.name).Nodup:=by
 unfold mCols
 by_cases h:l=[]
 ·rw [if_pos h]
  refine ⟨⟨by decide,by decide⟩,fun c hc=>?_,by decide⟩
  rw [List.mem_singleton.1 hc]
  exact ⟨by decide,.inl ⟨rfl,rfl⟩,fun w hw=>(by cases hw),List.nodup_nil⟩
 ·rw [if_neg h]
  have hl:(l.take 6).length≤6:=by rw [List.length_take];omega
  have h1:1≤(l.take 6).length:=by
   rw [List.length_take]
   have:=List.length_pos_iff.2 h
   omega
  refine ⟨by rw [mFrom_len];exact ⟨h1,hl⟩,fun c hc=>?_,mFrom_nodup _ 0 oM⟩
  obtain ⟨j,n,_,h2,rfl⟩:=mFrom_mem _ _ _ hc
  exact mCol_ok oM n
theorem mCell_ok {c:ColT} (hc:c.Ok) (n:Int):(mCell c n).Ok c:=by
 unfold mCell
 by_cases h:n % 9=8
 ·rw [if_pos h]
  exact ⟨fun _=>⟨rfl,rfl⟩,fun k=>(by cases k),fun k=>(by cases k)⟩
 ·rw [if_neg h]
  by_cases hk:c.kind=1
  ·rw [if_pos hk]
   exact ⟨fun k=>(by cases k),fun _ _=>⟨rfl,Nat.le_trans (ht_rNum _) oM⟩,fun _ k=>absurd hk k⟩
  ·rw [if_neg hk]
   have hl:1≤c.words.length:=by
    rcases hc.kind with ⟨q,_⟩ | ⟨_,q,_⟩
    ·exact absurd q hk
    ·exact q
   refine ⟨fun k=>(by cases k),fun _ k=>absurd k hk,fun _ _=>⟨rfl,?_⟩⟩
   have h1:=Int.emod_lt_of_pos (n.tdiv 9) (show (0:Int)<(c.words.length:Int) by omega)
   have h2:=Int.emod_nonneg (n.tdiv 9) (show (c.words.length:Int)≠0 by omega)
   show ((n.tdiv 9) % (c.words.length:Int)).toNat<c.words.length
   omega
end Go.Proofs.YtbcfidllfimehaaGreatDoor
namespace Go.Proofs.YtbcfidllfimehaaGreatDoor
theorem joinL_len {c:UInt8} {B:Nat}:∀ {l:List (List UInt8)},(∀ w,w∈l→w.length≤B)→(joinL c l).length≤l.length*(B+1)
 | [],_=>Nat.zero_le _
 | [w],h=>by
  have:=h w (List.mem_cons_self ..)
  show w.length≤1*(B+1)
  omega
 | w::v::r,h=>by
  have h1:=h w (List.mem_cons_self ..)
  have h2:=joinL_len (c:=c) (l:=v::r) fun u hu=>h u (List.mem_cons_of_mem _ hu)
  rw [joinL,List.length_append,List.length_cons,List.length_cons,Nat.add_mul]
  rw [List.length_cons] at h2
  rw [List.length_cons]
  omega
theorem fracT_len5 {q:Rat} (h:ht q≤5):(fracT q).length≤9:=by
 have b1:bl q.num.natAbs≤5:=Nat.le_trans (Nat.le_max_left _ _) h
 have b2:bl q.den≤5:=Nat.le_trans (Nat.le_max_right _ _) h
 have d1:=decD_len10 2 q.num.natAbs (Nat.lt_of_lt_of_le (Nat.lt_of_lt_of_le (lt_bl _) (Nat.pow_le_pow_right oM b1)) (by decide))
 have d2:=decD_len10 2 q.den (Nat.lt_of_lt_of_le (Nat.lt_of_lt_of_le (lt_bl _) (Nat.pow_le_pow_right oM b2)) (by decide))
 have hw:(wtL q.num).length≤4:=by
  unfold wtL
  rw [List.length_append]
  split
  ·rw [List.length_singleton];omega
  ·rw [List.length_nil];omega
 unfold fracT
 split
 ·omega
 ·rw [List.length_append,List.length_append,List.length_singleton];omega
structure ColS (c:ColT):Prop where
 name:c.name.length≤5
 num:c.words.length≤5
 words:∀ w,w∈c.words→w.length≤5
theorem mWords_len:∀ w,w∈mWords→w.length≤5:=by decide
theorem mCol_s (i:Nat) (n:Int):ColS (mCol i n):=by
 have hn:(mName i n).length≤5:=by
  unfold mName
  rw [List.length_append,List.length_drop]
  show 2+(3-_)≤5
  omega
 unfold mCol
 split
 ·refine ⟨hn,?_,fun w hw=>mWords_len w (List.mem_of_mem_take hw)⟩
  show (mWords.take _).length≤5
  rw [List.length_take]
  exact Nat.min_le_right _ _
 ·exact ⟨hn,Nat.zero_le _,fun w hw=>(by cases hw)⟩
theorem mCols_s (l:List Int):∀ c,c∈mCols l→ColS c:=fun c hc=>by
 unfold mCols at hc
 split at hc
 ·rw [List.mem_singleton.1 hc]
  exact ⟨by decide,by decide,fun w hw=>(by cases hw)⟩
 ·obtain ⟨j,n,_,_,rfl⟩:=mFrom_mem _ _ _ hc
  exact mCol_s j n
theorem tCol_len {c:ColT} (h:ColS c):(tCol c).length≤50:=by
 have h1:=joinL_len (c:=124) (B:=5) h.words
 have h2:=h.num
 have h3:=h.name
 unfold tCol
 rw [List.length_append,List.length_cons]
 split
 ·show c.name.length+(6+1)≤50
  omega
 ·rw [List.length_append,List.length_append,List.length_singleton]
  show c.name.length+(7+((joinL 124 c.words).length+1)+1)≤50
  omega
theorem mCell_len {c:ColT} (hc:c.Ok) (hs:ColS c) (n:Int):(tCell c (mCell c n)).length≤9:=by
 have hk:=mCell_ok hc n
 generalize hx:mCell c n=x at *
 have hq:x.lacks=false→c.kind=1→ht x.q≤5:=fun q1 q2=>by
  rw [← hx] at q1 ⊢
  unfold mCell at q1 ⊢
  split at q1
  ·cases q1
  ·rename_i h8
   rw [if_neg h8,if_pos q2]
   exact ht_rNum _
 unfold tCell
 split
 ·show 1≤9;decide
 ·rename_i hl
  have hl':x.lacks=false:=by simpa using hl
  split
  ·rename_i h1
   exact fracT_len5 (hq hl' h1)
  ·rename_i h1
   obtain ⟨_,h2⟩:=hk.word hl' h1
   rw [List.getD_eq_getElem?_getD,List.getElem?_eq_getElem h2]
   exact Nat.le_trans (hs.words _ (List.getElem_mem h2)) (by decide)
theorem tSheet_len {cs:List ColT} {rows:List (List CellT)} (h1:cs.length≤6) (h2:rows.length≤12) (h3:∀ c,c∈cs→ColS c) (h4:∀ row,row∈rows→∀ w,w∈List.zipWith tCell cs row→w.length≤9):(tSheet cs rows).length≤5000:=by
 have a1:(joinL 44 (cs.map tCol)).length≤306:=by
  have:=joinL_len (c:=44) (B:=50) (l:=cs.map tCol) fun w hw=>by
   obtain ⟨c,hc,e⟩:=List.mem_map.1 hw
   rw [← e];exact tCol_len (h3 c hc)
  rw [List.length_map] at this
  omega
 have a2:∀ row,row∈rows→(tRow cs row).length≤306:=fun row hr=>by
  have:=joinL_len (c:=44) (B:=9) (l:=List.zipWith tCell cs row) (h4 row hr)
  have hz:(List.zipWith tCell cs row).length≤cs.length:=by rw [List.length_zipWith];exact Nat.min_le_left _ _
  unfold tRow
  omega
 have a3:=joinL_len (c:=10) (B:=306) (l:=joinL 44 (cs.map tCol)::rows.map (tRow cs)) fun w hw=>by
  rcases List.mem_cons.1 hw with q | q
  ·rw [q];exact a1
  ·obtain ⟨row,hr,e⟩:=List.mem_map.1 q
   rw [← e];exact a2 row hr
 rw [List.length_cons,List.length_map] at a3
 unfold tSheet
 rw [List.length_append,List.length_singleton]
 omega
end Go.Proofs.YtbcfidllfimehaaGreatDoor
namespace Go.Proofs.YtbcfidllfimehaaGreatDoor
open Go.RowKit _root_.Go.Proofs.Tryz
abbrev i64b (z:Int):Prop:=-9223372036854775808≤z∧z<9223372036854775808
theorem tdiv_in {z k:Int} (hz:i64b z) (hk:1≤k):i64b (z.tdiv k):=by
 by_cases h:0≤z
 ·rw [Int.tdiv_eq_ediv_of_nonneg h]
  have h1:=Int.ediv_le_self k h
  have h2:=Int.ediv_nonneg h (show 0≤k by omega)
  exact ⟨by omega,by omega⟩
 ·have e:z.tdiv k = -((-z) / k):=by rw [← Int.tdiv_eq_ediv_of_nonneg oM,Int.neg_tdiv,Int.neg_neg]
  have h1:=Int.ediv_le_self k (show 0 ≤ -z by omega)
  have h2:=Int.ediv_nonneg (show 0 ≤ -z by omega) (show 0≤k by omega)
  rw [e]
  exact ⟨by omega,by omega⟩
theorem wtdiv {z k:Int} (hz:i64b z) (hk:1≤k):IntKind.i64.wrap (z.tdiv k)=z.tdiv k:=by
 have:=tdiv_in hz hk
 rw [IntKind.wrap_i64];omega
theorem mFrom_snoc (n:Int):∀ (l:List Int) (i:Nat),mColsFrom i (l++[n])=mColsFrom i l++[mCol (i+l.length) n]
 | [],i=>rfl
 | m::l,i=>by
  rw [List.cons_append,mColsFrom,mFrom_snoc n l (i+1),mColsFrom,List.length_cons,List.cons_append,show i+1+l.length=i+(l.length+1) by omega]
def abcB:List UInt8:=[97,98,99,100,101,102]
theorem abc_at {i:Nat} (h:i<6):(abcB.drop i).take (i+1-i)=[UInt8.ofNat (97+i)]:=by
 have:∀ j:Fin 6,(abcB.drop j.val).take (j.val+1-j.val)=[UInt8.ofNat (97+j.val)]:=by decide
 exact this ⟨i,h⟩
theorem words_sl {G:Hp} {b:Nat} (h:G b=some (mWords.map strV).toArray):SL G (.slice (some ⟨b,0,none⟩) 5 5) mWords :=
 ⟨rfl,.inr ⟨b,0,5,_,rfl,Nat.le_refl _,h,fun j x hj=>by rw [Nat.zero_add];simpa using hj⟩⟩
set_option maxRecDepth 100000 in
set_option maxHeartbeats 32000000 in
theorem mCols_pc {H:Hp} {v:Value} {l:List Int} (hv:IL H v l) (hb:∀ z,z∈l→i64b z):PC prog 38 #[v] H fun r H'=>ColL H' r (mCols l):=by
 obtain ⟨a,c,rfl⟩:=SlC.val hv
 refine BD func38 ntmps38 ?_
 try refine RUN ?_
 refine EVL.lit tO rfl rfl rfl rfl rfl rfl rfl rfl rfl rfl rfl fun b1=>?_
 (first | refine EVL.publish [] [] rfl fun G0 hG0 hb1=>?_ | refine EV.publish [] [] rfl fun G0 hG0 hb1=>?_)
 have hw:=words_sl hb1
 try refine RUN ?_
 refine EV.loopK (ι:=Nat × Value × List (List Value) × Ows) [0,4] [] (fun q=>[(3,.v q.2.1),(5,.v (.int .i64 (q.1:Int)))]) (fun _=>[]) (fun q=>q.2.2.2) (fun q G=>q.1≤l.length∧q.1≤6∧LsR SCol G q.2.2.1 (mColsFrom 0 (l.take q.1))∧OwnL 64 3 q.2.1 q.1 q.2.2.1.flatten q.2.2.2) (fun q=>l.length-q.1) ((0,.slice none 0 0,[],[])) rfl rfl ⟨rfl,rfl,trivial⟩ trivial rfl (fun _=>rfl) (⟨Nat.zero_le _,Nat.zero_le _,LsR.nil,OwnL.nil _ _⟩) ?_
 rintro ⟨i,u,css,ow⟩ G1 hG1 ⟨hi,hi6,hcs,hown⟩
 dsimp only at hi hi6 hcs hown
 obtain ⟨ua,uc,rfl⟩:=hown.val
 try refine RUN ?_
 generalize hB:decide (i<l.length∧i<6)=B
 refine EVL.meetK (ι:=Unit) [0,3,4,5] [] (fun _=>[(15,.v (.bool B))]) (fun _=>[]) (fun _=>ow) (fun _ G=>G1.Le G) rfl rfl (fun _=>rfl) ?_ ?_
 ·by_cases d1:i<l.length
  ·rw [decide_eq_true (show (i:Int)<(l.length:Int) by omega)]
   try refine RUN ?_
   by_cases d2:i<6
   ·rw [decide_eq_true (show (i:Int)<6 by omega)]
    rw [decide_eq_true ⟨d1,d2⟩] at hB
    subst hB
    try refine RUN ?_
    exact ⟨(),⟨rfl,trivial⟩,sB,trivial,sB,rfl,Hp.Le.refl _⟩
   ·rw [decide_eq_false (show ¬ (i:Int)<6 by omega)]
    rw [decide_eq_false (fun k=>d2 k.2)] at hB
    subst hB
    try refine RUN ?_
    exact ⟨(),⟨rfl,trivial⟩,sB,trivial,sB,rfl,Hp.Le.refl _⟩
  ·rw [decide_eq_false (show ¬ (i:Int)<(l.length:Int) by omega)]
   rw [decide_eq_false (fun k=>d1 k.1)] at hB
   subst hB
   try refine RUN ?_
   exact ⟨(),⟨rfl,trivial⟩,sB,trivial,sB,rfl,Hp.Le.refl _⟩
 rintro _ G2 hG2
 cases B with
 | true =>
  obtain ⟨hil,h6⟩:=of_decide_eq_true hB
  obtain ⟨z,hz⟩:∃ z,l[i]?=some z:=⟨_,List.getElem?_eq_getElem hil⟩
  have hzb:=hb z (List.mem_of_getElem? hz)
  have hv2:=hv.mono (hG0.trans (hG1.trans hG2))
  have hat:(l.map iv)[i]?=some (iv z):=by rw [List.getElem?_map,hz];rfl
  obtain ⟨j3,hj3⟩:=Int.eq_ofNat_of_zero_le (Int.emod_nonneg z (show (3:Int)≠0 by decide))
  have hj3l:=Int.emod_lt_of_pos z (show (0:Int)<3 by decide)
  have p3:=pick_pv z 3 hzb (by decide) (by decide)
  have q3:=pick_pv (z.tdiv 3) 3 (tdiv_in hzb (by decide)) (by decide) (by decide)
  have q9:=pick_pv (z.tdiv 9) 5 (tdiv_in hzb (by decide)) (by decide) (by decide)
  have w3:=wtdiv (k:=3) hzb (by decide)
  have w9:=wtdiv (k:=9) hzb (by decide)
  rw [hj3] at p3 hj3l
  have wn:IntKind.i64.wrap ((i:Int)+1)=((i+1:Nat):Int):=wi_inc i oM
  have hnm:[UInt8.ofNat (97+i)]++[95]++([120,121,122]:List UInt8).drop j3=mName i z:=by
   unfold mName
   rw [hj3];rfl
  try refine RUN ?_
  apply EV.drawn 15 kR kR;intro xv yw
  (repeat refine' DD ?_)
  rw [wn]
  refine' DJ.strSlc (s:=⟨#[97,98,99,100,101,102]⟩) rfl rfl rfl rfl kR rfl i (i+1) (.inr ⟨_,IntKind.i64,rfl,rfl⟩) (.inr ⟨_,IntKind.i64,rfl,rfl⟩) oM (show i+1≤6 by omega) ?_;rotate_left
  rw [show (⟨#[97,98,99,100,101,102]⟩:ByteArray)=sb abcB from rfl,sb_cut,abc_at h6]
  refine' DJ.cat [UInt8.ofNat (97+i)] [95] rfl rfl rfl rfl rfl rfl (Nat.le_of_ble_eq_true rfl) (Nat.le_of_ble_eq_true rfl) ?_;rotate_left
  (repeat refine' DD ?_)
  refine' DJ.ofVal (ValOk.idx1 tO rfl rfl rfl rfl rfl rfl rfl rfl (hv2) (i) (rfl) (hil) (hat)) rfl rfl rfl ?_;rotate_left
  (repeat (first | refine' DD ?_ | (refine' DC (p3) (h:=?_);rotate_left)))
  refine' DJ.strSlc (s:=⟨#[120,121,122]⟩) rfl rfl rfl rfl kR rfl j3 3 (.inr ⟨_,IntKind.i64,rfl,rfl⟩) (.inl ⟨rfl,rfl⟩) oM (Nat.le_refl 3) ?_;rotate_left
  rw [show (⟨#[120,121,122]⟩:ByteArray)=sb [120,121,122] from rfl,sb_cut,List.take_of_length_le (l:=([120,121,122]:List UInt8).drop j3) (by rw [List.length_drop];exact Nat.le_refl _)]
  refine' DJ.cat ([UInt8.ofNat (97+i)]++[95]) (([120,121,122]:List UInt8).drop j3) rfl rfl rfl rfl rfl rfl (Nat.le_of_ble_eq_true rfl) (by rw [List.length_drop];show 3-j3≤_;omega) ?_;rotate_left
  rw [hnm]
  (repeat refine' DD ?_)
  (refine DJ.nil (fun G3 hG3 hF3=>?_);(case hS|hS2=>rfl))
  have hG13:=hG2.trans hG3
  have hsn:mColsFrom 0 (l.take (i+1))=mColsFrom 0 (l.take i)++[mCol i z]:=by
   rw [take_snoc hz,mFrom_snoc,List.length_take,Nat.min_eq_left hi,Nat.zero_add]
  try refine RUN ?_
  refine EVL.idxR tO rfl rfl rfl rfl rfl rfl rfl rfl rfl rfl ((hv2.mono hG3)) (i) (rfl) (hil) (hat) ?_
  try refine RUN ?_
  rw [w3]
  repeat (first | refine RUN ?_ | refine CV (q3) ?_ | refine CE (q3) ?_)
  by_cases h2:z.tdiv 3 % 3=2
  ·rw [show (z.tdiv 3 % 3 == 2)=true from beq_iff_eq.2 h2]
   obtain ⟨j9,hj9⟩:=Int.eq_ofNat_of_zero_le (Int.emod_nonneg (z.tdiv 9) (show (5:Int)≠0 by decide))
   have hj9l:=Int.emod_lt_of_pos (z.tdiv 9) (show (0:Int)<5 by decide)
   rw [hj9] at q9 hj9l
   have wk:IntKind.i64.wrap (1+(j9:Int))=((1+j9:Nat):Int):=by rw [IntKind.wrap_i64];omega
   have hc:mCol i z=⟨mName i z,2,mWords.take (1+j9)⟩:=by
    unfold mCol
    rw [if_pos h2,hj9];rfl
   have hkl:(mWords.take (1+j9)).length=1+j9:=by rw [List.length_take];show min (1+j9) 5=_;omega
   try refine RUN ?_
   refine EVL.idxR tO rfl rfl rfl rfl rfl rfl rfl rfl rfl rfl ((hv2.mono hG3)) (i) (rfl) (hil) (hat) ?_
   try refine RUN ?_
   rw [w9]
   repeat (first | refine RUN ?_ | refine CV (q9) ?_ | refine CE (q9) ?_)
   rw [wk]
   refine EVL.slc (te':=Tryz.te9) tO rfl rfl rfl rfl rfl rfl rfl rfl 0 (1+j9) (.inl ⟨rfl,rfl⟩) (.inr ⟨_,IntKind.i64,rfl,rfl⟩) (Nat.zero_le _) oM (Nat.le_refl 5) ?_
   rw [show 1+j9-0=(mWords.take (1+j9)).length by rw [hkl];rfl]
   try refine RUN ?_
   refine EVL.app1 tO rfl rfl rfl rfl rfl rfl rfl rfl rfl rfl rfl rfl rfl rfl rfl rfl rfl rfl rfl (fun _=>rfl) (ow) ([]) ((List.append_nil _).symm) (hown) oM fun _=>?_
   intro v' ow' hown'
   try refine RUN ?_
   rw [wn]
   have hpre:=(hw.mono (hG1.trans hG13)).pre (1+j9) (by show 1+j9≤5;omega) 1
   rw [show 1+j9-0=(mWords.take (1+j9)).length by rw [hkl];rfl] at hpre
   exact ⟨(i+1,v',css++[_],ow'),⟨rfl,rfl,trivial⟩,sB,trivial,sB,List.append_nil _,⟨hil,by dsimp only;omega,by dsimp only;rw [hsn,hc];exact (hcs.mono SCol.ok hG13).snoc ⟨_,_,hpre,rfl⟩,by dsimp only;rw [flatSn];exact hown'⟩,hG13,by dsimp only;omega⟩
  ·rw [show (z.tdiv 3 % 3 == 2)=false from beq_eq_false_iff_ne.2 h2]
   have hc:mCol i z=⟨mName i z,1,[]⟩:=by unfold mCol;rw [if_neg h2]
   try refine RUN ?_
   refine EVL.app1 tO rfl rfl rfl rfl rfl rfl rfl rfl rfl rfl rfl rfl rfl rfl rfl rfl rfl rfl rfl (fun _=>rfl) (ow) ([]) ((List.append_nil _).symm) (hown) oM fun _=>?_
   intro v' ow' hown'
   try refine RUN ?_
   rw [wn]
   exact ⟨(i+1,v',css++[_],ow'),⟨rfl,rfl,trivial⟩,sB,trivial,sB,List.append_nil _,⟨hil,by dsimp only;omega,by dsimp only;rw [hsn,hc];exact (hcs.mono SCol.ok hG13).snoc ⟨none,0,nil_sl _ _,rfl⟩,by dsimp only;rw [flatSn];exact hown'⟩,hG13,by dsimp only;omega⟩
 | false =>
  have hno:=of_decide_eq_false hB
  have htake:l.take 6=l.take i:=by
   by_cases q:i=6
   ·rw [q]
   ·have:i=l.length:=by
     by_cases q2:i<l.length
     ·exact absurd ⟨q2,by omega⟩ hno
     ·omega
    rw [this,List.take_length,List.take_of_length_le (by omega)]
  try refine RUN ?_
  by_cases h0:i=0
  ·subst h0
   rw [show (((0:Nat):Int) == 0)=true from rfl]
   have hl0:l=[]:=by
    rw [List.take_zero] at htake
    rcases l with _ | ⟨y,l⟩
    ·rfl
    ·cases htake
   try refine RUN ?_
   refine EVL.lit tO rfl rfl rfl rfl rfl rfl rfl rfl rfl rfl rfl fun b2=>?_
   (first | refine EVL.publish [] (ow) rfl fun G3 hG3 hb2=>?_ | refine EV.publish [] (ow) rfl fun G3 hG3 hb2=>?_)
   try refine RUN ?_
   have e:mCols l=[⟨[97],1,[]⟩]:=by unfold mCols;rw [if_pos hl0]
   rw [e]
   refine ⟨[[strV [97],.int .i64 1,.slice none 0 0]],LsR.nil.snoc ⟨none,0,nil_sl _ _,rfl⟩,rfl,.inr ⟨b2,0,1,_,rfl,Nat.le_refl _,hb2,fun j x hj=>?_⟩⟩
   rw [Nat.zero_add];simpa using hj
  ·rw [show ((i:Int) == 0)=false from beq_eq_false_iff_ne.2 (by omega)]
   (first | refine EVL.publishL [] ow [] ((List.append_nil _).symm) hown fun G3 hG3 hs3=>?_ | refine EV.publishL [] ow [] ((List.append_nil _).symm) hown fun G3 hG3 hs3=>?_)
   try refine RUN ?_
   have hlen:i=(mColsFrom 0 (l.take i)).length:=by rw [mFrom_len,List.length_take];omega
   have e:mCols l=mColsFrom 0 (l.take i):=by
    unfold mCols
    rw [if_neg,htake]
    rintro rfl
    rw [List.length_nil] at hi
    omega
   rw [e]
   exact ⟨css,hcs.mono SCol.ok (hG2.trans hG3),by rw [← hlen];exact hs3⟩
set_option maxRecDepth 100000 in
set_option maxHeartbeats 8000000 in
theorem mCell_pc {H:Hp} {cs:List Value} {c:ColT} (hc:SCol H cs c) (n:Int) (hn:i64b n) (hk:c.kind≠1→1≤c.words.length) (hw:c.words.length≤1000000):PC prog 39 #[.agg cs.toArray,.int .i64 n] H fun r H'=>∃ cs',r=.agg cs'.toArray∧RCell H' cs' (mCell c n):=by
 have hof:=fun G:Hp=>refOf_pc (H:=G) 0 oM oM
 have p9:=pick_pv n 9 hn (by decide) (by decide)
 have w9:=wtdiv (k:=9) hn (by decide)
 have hm:mCell c n=if n % 9=8 then ⟨true,0,0⟩ else if c.kind=1 then ⟨false,rNum (n.tdiv 9),0⟩ else ⟨false,0,((n.tdiv 9) % (c.words.length:Int)).toNat⟩:=rfl
 obtain ⟨a,m,hws,rfl⟩:=hc
 refine BD func39 ntmps39 ?_
 repeat (first | refine RUN ?_ | refine CV (p9) ?_ | refine CE (p9) ?_)
 by_cases h8:n % 9=8
 ·rw [show (n % 9 == 8)=true from beq_iff_eq.2 h8]
  rw [if_pos h8] at hm
  try refine RUN ?_
  refine EVL.call rfl rfl rfl rfl rfl (hof _) ?_
  rintro w G1 hw1 hG1
  obtain ⟨ra,rl,rc,xa,xl,xc,rfl⟩:=rq_form hw1
  try refine RUN ?_
  rw [hm]
  exact ⟨_,rfl,rcell_of hw1 true 0⟩
 rw [show (n % 9 == 8)=false from beq_eq_false_iff_ne.2 h8]
 rw [if_neg h8] at hm
 try refine RUN ?_
 by_cases k1:c.kind=1
 ·rw [show ((c.kind:Int) == 1)=true by rw [k1];rfl]
  rw [if_pos k1] at hm
  try refine RUN ?_
  rw [w9]
  refine EVL.call rfl rfl rfl rfl rfl (r_pc (n.tdiv 9) (tdiv_in hn (by decide))) ?_
  rintro w G1 hw1 hG1
  obtain ⟨ra,rl,rc,xa,xl,xc,rfl⟩:=rq_form hw1
  try refine RUN ?_
  rw [hm]
  exact ⟨_,rfl,rcell_of hw1 false 0⟩
 rw [show ((c.kind:Int) == 1)=false from beq_eq_false_iff_ne.2 (by omega)]
 rw [if_neg k1] at hm
 have hk1:=hk k1
 have pk:=pick_pv (n.tdiv 9) (c.words.length:Int) (tdiv_in hn (by decide)) oM oM
 obtain ⟨j,hj⟩:=Int.eq_ofNat_of_zero_le (Int.emod_nonneg (n.tdiv 9) (show (c.words.length:Int)≠0 by omega))
 rw [hj] at pk hm
 try refine RUN ?_
 apply EV.drawn 7 kR kR;intro xv yw
 refine' DJ.call rfl rfl rfl rfl rfl (cO func86) (fun G hG hd=>hof G) (fun _ _ _ h k=>RQ.mono h k) ?_;rotate_left
 (repeat refine' DD ?_)
 rw [w9]
 (repeat (first | refine' DD ?_ | (refine' DC (pk) (h:=?_);rotate_left)))
 (refine DJ.nil (fun G2 hG2 hF2=>?_);(case hS|hS2=>rfl))
 have hw1:RQ G2 (xv 0) ((0:Int):Rat):=hF2.1
 obtain ⟨ra,rl,rc,xa,xl,xc,e⟩:=rq_form hw1
 rw [e] at hw1
 rw [e]
 try refine RUN ?_
 rw [hm]
 exact ⟨_,rfl,rcell_of hw1 false j⟩
def rawAt (cells:List Int) (w i k:Nat):Int:=cells.getD (i*w+k) ((i:Int)*7+(k:Int)*3)
def mRow (cells:List Int) (cols:List ColT) (i:Nat):List CellT:=cols.mapIdx fun k c=>mCell c (rawAt cells cols.length i k)
def mRows (cells:List Int) (cols:List ColT) (n:Nat):List (List CellT):=(List.range n).map (mRow cells cols)
theorem rawAt_b {cells:List Int} (hb:∀ z,z∈cells→i64b z) {w i k:Nat} (hi:i≤1000) (hk:k≤1000):i64b (rawAt cells w i k):=by
 unfold rawAt
 rw [List.getD_eq_getElem?_getD]
 cases h:cells[i*w+k]? with
 | none=>exact ⟨by show _≤(i:Int)*7+(k:Int)*3;omega,by show (i:Int)*7+(k:Int)*3<_;omega⟩
 | some z=>exact hb z (List.mem_of_getElem? h)
set_option maxRecDepth 100000 in
set_option maxHeartbeats 32000000 in
theorem mSheet_pc {H:Hp} {u v:Value} {cols cells:List Int} {rows:Int} (hu:IL H u cols) (hv:IL H v cells) (hbu:∀ z,z∈cols→i64b z) (hbv:∀ z,z∈cells→i64b z) (hr:i64b rows):PC prog 10 #[.agg #[u,v,.int .i64 rows]] H fun r H'=>∃ x y,r=.agg #[x,y]∧ColL H' x (mCols cols)∧RRows H' y (mRows cells (mCols cols) (rows % 13).toNat):=by
 have hC:=fun G (hG:H.Le G)=>mCols_pc (hu.mono hG) hbu
 have p13:=pick_pv rows 13 hr (by decide) (by decide)
 obtain ⟨R,hR⟩:=Int.eq_ofNat_of_zero_le (Int.emod_nonneg rows (show (13:Int)≠0 by decide))
 have hRl:=Int.emod_lt_of_pos rows (show (0:Int)<13 by decide)
 rw [hR] at p13 hRl
 rw [hR,Int.toNat_natCast]
 obtain ⟨⟨hc1,hc6⟩,hcok,_⟩:=mCols_ok cols
 have hcs:=mCols_s cols
 obtain ⟨a1,c1,rfl⟩:=SlC.val hu
 obtain ⟨a2,c2,rfl⟩:=SlC.val hv
 generalize mCols cols=C at *
 refine BD func10 ntmps10 ?_
 try refine RUN ?_
 refine EVL.call rfl rfl rfl rfl rfl (hC _ (Hp.Le.refl _)) ?_
 rintro _ G1 hcol hG1
 obtain ⟨xa,xc,rfl⟩:=hcol.val
 try refine RUN ?_
 refine EV.loopK (ι:=Nat × Value × List (List Value) × Ows) [1,2,3] [1,2] (fun q=>[(4,.v (.int .i64 ((q.1*C.length:Nat):Int))),(5,.v (.int .i64 (q.1:Int)))]) (fun q=>[(3,30,[.slice xa C.length xc,q.2.1])]) (fun q=>q.2.2.2) (fun q G=>q.1≤R∧LsR (Cel RRow) G q.2.2.1 (mRows cells C q.1)∧OwnL 58 1 q.2.1 q.1 q.2.2.1.flatten q.2.2.2) (fun q=>R-q.1) ((0,.slice none 0 0,[],[])) rfl rfl ⟨by dsimp only;rw [Nat.zero_mul];rfl,rfl,trivial⟩ ⟨rfl,trivial⟩ rfl (fun _=>rfl) (⟨Nat.zero_le _,LsR.nil,OwnL.nil _ _⟩) ?_
 rintro ⟨i,w,css,ow⟩ G2 hG2 ⟨hi,hrs,hown⟩
 dsimp only at hi hrs hown
 obtain ⟨wa,wc,rfl⟩:=hown.val
 repeat (first | refine RUN ?_ | refine CV (p13) ?_ | refine CE (p13) ?_)
 refine EV.cond rfl (fun hlt=>?_) (fun hlt=>?_)
 ·simp only [nN] at hlt
  have hiw:i*C.length≤72:=Nat.le_trans (Nat.mul_le_mul (show i≤12 by omega) hc6) (by decide)
  try refine RUN ?_
  refine EV.loopK (ι:=Nat × Value × List (List Value) × Ows) [1,2,3,5] [1,2,3] (fun q=>[(4,.v (.int .i64 ((i*C.length+q.1:Nat):Int))),(6,.v q.2.1),(7,.v (.int .i64 (q.1:Int)))]) (fun _=>[]) (fun q=>q.2.2.2++ow) (fun q G=>q.1≤C.length∧LsR RCell G q.2.2.1 ((mRow cells C i).take q.1)∧OwnL 98 5 q.2.1 q.1 q.2.2.1.flatten q.2.2.2) (fun q=>C.length-q.1) ((0,.slice none 0 0,[],[])) rfl rfl ⟨rfl,rfl,rfl,trivial⟩ trivial rfl (fun _=>rfl) (⟨Nat.zero_le _,LsR.nil,OwnL.nil _ _⟩) ?_
  rintro ⟨k,ru,css2,ow2⟩ G3 hG3 ⟨hk,hrs2,hown2⟩
  dsimp only at hk hrs2 hown2
  obtain ⟨za,zc,rfl⟩:=hown2.val
  try refine RUN ?_
  refine EV.cond rfl (fun hlt2=>?_) (fun hlt2=>?_)
  ·simp only [nN] at hlt2
   obtain ⟨c,hc⟩:∃ c,C[k]?=some c:=⟨_,List.getElem?_eq_getElem hlt2⟩
   have hH:=hG1.trans (hG2.trans hG3)
   have e7:IntKind.i64.wrap (IntKind.i64.wrap ((i:Int)*7)+IntKind.i64.wrap ((k:Int)*3))=(i:Int)*7+(k:Int)*3:=by rw [IntKind.wrap_i64,IntKind.wrap_i64,IntKind.wrap_i64];omega
   have wn:IntKind.i64.wrap (((i*C.length+k:Nat):Int)+1)=((i*C.length+(k+1):Nat):Int):=by rw [IntKind.wrap_i64];omega
   have wk:IntKind.i64.wrap ((k:Int)+1)=((k+1:Nat):Int):=wi_inc k oM
   try refine RUN ?_
   rw [e7]
   refine EV.meetK (ι:=Unit) [1,2,3,4,5,6,7] [1,2,3] (fun _=>[(8,.v (.int .i64 (rawAt cells C.length i k)))]) (fun _=>[]) (fun _=>ow2++ow) (fun _ G=>G3.Le G) rfl rfl (fun _=>rfl) ?_ ?_
   ·by_cases d1:i*C.length+k<cells.length
    ·rw [decide_eq_true (show ((i*C.length+k:Nat):Int)<(cells.length:Int) by omega)]
     obtain ⟨z,hz⟩:∃ z,cells[i*C.length+k]?=some z:=⟨_,List.getElem?_eq_getElem d1⟩
     have hraw:rawAt cells C.length i k=z:=by unfold rawAt;rw [List.getD_eq_getElem?_getD,hz];rfl
     rw [hraw]
     try refine RUN ?_
     refine EVL.idxR tO rfl rfl rfl rfl rfl rfl rfl rfl rfl rfl ((hv.mono hH)) ((i*C.length+k)) (rfl) (d1) ((by rw [List.getElem?_map,hz];rfl)) ?_
     try refine RUN ?_
     exact ⟨(),⟨rfl,trivial⟩,sB,trivial,sB,rfl,Hp.Le.refl _⟩
    ·rw [decide_eq_false (show ¬ ((i*C.length+k:Nat):Int)<(cells.length:Int) by omega)]
     have hraw:rawAt cells C.length i k=(i:Int)*7+(k:Int)*3:=by unfold rawAt;rw [List.getD_eq_getElem?_getD,List.getElem?_eq_none (by omega)];rfl
     rw [hraw]
     try refine RUN ?_
     exact ⟨(),⟨rfl,trivial⟩,sB,trivial,sB,rfl,Hp.Le.refl _⟩
   rintro _ G4 hG4
   have hraw:=rawAt_b hbv (w:=C.length) (i:=i) (k:=k) oM oM
   have hrow:(mRow cells C i)[k]?=some (mCell c (rawAt cells C.length i k)):=by unfold mRow;rw [List.getElem?_mapIdx,hc];rfl
   obtain ⟨dcs,hdcs,hdsl⟩:=hcol.mono SCol.ok (hG2.trans (hG3.trans hG4))
   obtain ⟨cc,hcut,hcc⟩:=hdcs.get SCol.ok hc
   have hcell:=mCell_pc hcc (rawAt cells C.length i k) hraw (fun q=>by
    rcases (hcok c (List.mem_of_getElem? hc)).kind with ⟨q1,_⟩ | ⟨_,q1,_⟩
    ·exact absurd q1 q
    ·exact q1) (Nat.le_trans (hcs c (List.mem_of_getElem? hc)).num (by decide))
   generalize rawAt cells C.length i k=z at *
   obtain ⟨a9,n9,_,rfl⟩:=hcc
   try refine RUN ?_
   rw [wn]
   refine EVL.idxM tO rfl rfl rfl rfl rfl rfl rfl rfl rfl (hdsl) (k) (rfl) (hlt2) (hcut) ?_
   try refine RUN ?_
   refine EVL.call rfl rfl rfl rfl rfl (hcell) ?_
   rintro _ G5 ⟨cs5,rfl,hcr⟩ hG5
   obtain ⟨yw,hyw,rfl⟩:=id hcr
   obtain ⟨ra,rl,rc,ya,yl,yc,rfl⟩:=rq_form hyw
   try refine RUN ?_
   refine EVL.app1 tO rfl rfl rfl rfl rfl rfl rfl rfl rfl rfl rfl rfl rfl rfl rfl rfl rfl rfl rfl (fun _=>rfl) (ow2) (ow) (rfl) (hown2) oM fun _=>?_
   intro v' ow' hown'
   try refine RUN ?_
   rw [wk]
   exact ⟨(k+1,v',css2++[_],ow'),⟨rfl,rfl,rfl,trivial⟩,sB,trivial,sB,rfl,⟨hlt2,by dsimp only;rw [take_snoc hrow];exact (hrs2.mono RCell.ok (hG4.trans hG5)).snoc hcr,by dsimp only;rw [flatSn];exact hown'⟩,hG4.trans hG5,by dsimp only;omega⟩
  simp only [nN] at hlt2
  obtain rfl:k=C.length:=by omega
  have hrl:(mRow cells C i).length=C.length:=by unfold mRow;rw [List.length_mapIdx]
  rw [← hrl,List.take_length] at hrs2
  (first | refine EVL.publishL [] ow2 ow (rfl) hown2 fun G4 hG4 hs4=>?_ | refine EV.publishL [] ow2 ow (rfl) hown2 fun G4 hG4 hs4=>?_)
  have hrow:RRow G4 (.slice za C.length zc) (mRow cells C i):=⟨css2,hrs2.mono RCell.ok hG4,by rw [hrl];exact hs4⟩
  try refine RUN ?_
  refine EVL.app1 tO rfl rfl rfl rfl rfl rfl rfl rfl rfl rfl rfl rfl rfl rfl rfl rfl rfl rfl rfl (fun _=>rfl) (ow) ([]) ((List.append_nil _).symm) (hown) oM fun _=>?_
  intro v' ow' hown'
  obtain ⟨va,vc,rfl⟩:=hown'.val
  try refine RUN ?_
  rw [wi_inc i (by omega)]
  exact ⟨(i+1,.slice va (i+1) vc,css++[_],ow'),⟨by dsimp only;rw [Nat.succ_mul];rfl,rfl,trivial⟩,sB,⟨rfl,trivial⟩,sB,List.append_nil _,⟨hlt,by dsimp only;unfold mRows;rw [List.range_succ,List.map_append];exact (hrs.mono RRows.ok (hG3.trans hG4)).snoc ⟨_,rfl,hrow⟩,by dsimp only;rw [flatSn];exact hown'⟩,hG3.trans hG4,by dsimp only;omega⟩
 ·simp only [nN] at hlt
  obtain rfl:i=R:=by omega
  (first | refine EVL.publishL [] ow [] ((List.append_nil _).symm) hown fun G3 hG3 hs3=>?_ | refine EV.publishL [] ow [] ((List.append_nil _).symm) hown fun G3 hG3 hs3=>?_)
  try refine RUN ?_
  refine ⟨_,_,rfl,hcol.mono SCol.ok (hG2.trans hG3),css,hrs.mono RRows.ok hG3,?_⟩
  show SlC _ _ (mRows cells C i).length _ _
  rw [show (mRows cells C i).length=i by unfold mRows;rw [List.length_map,List.length_range]]
  exact hs3
section
variable {P:Program} {n:Nat} {ops:Array Oper} {o1 o2:Oper} {rest:List Oper} {env:Env} {bx:Bxs} {H:Hs} {Q:EQ} {d d1:Nat}
theorem EVL.convCallO {src dst e:TypeId} {u:TypeDesc} {x:Operand} (ho1:o1.op=.convert src dst x) (hg1:o1.guard=none) (hd1:o1.dst=some d1) (hn1:Nat.blt d1 n=true) (hs:P.underlying src=some u) (hdt:P.underlying dst=some (.slice e)) (he:P.underlying e=some (.int .u8)) {s:ByteArray} (hx:env.op x=some (.v (.string s)))
  {f:FuncId} {tys:Array TypeId} {yv:Value} (ho2:o2.op=.call ⟨.value (.func f),#[.tmp d1,.const yv],tys⟩) (hg2:o2.guard=none) (hd2:o2.dst=some d) (hn2:Nat.blt d n=true) {Φ:Value→Ows→Prop}
  (hpc:∀ (G:Hp) (g cap:Nat) (c:Array Value),s.size≤cap→G g=some c→(∀ (j:Nat) (b:UInt8),s.data[j]?=some b→c[j]?=some (Value.int .u8 (b.toNat:Int)))→PO P f #[.slice (some ⟨g,0,none⟩) s.size cap,yv] G Φ)
  (h:∀ g cap v ow,Φ v ow→EVL P n ops rest ((d,.v v)::(d1,.v (.slice (some ⟨g,0,none⟩) s.size cap))::env) bx ⟨H.ro,ow++H.ow,H.base⟩ Q):EVL P n ops (o1::o2::rest) env bx H Q:=fun W0 β a W r=>by
 have ex:a.eval x=.string s:=r.op hx
 refine wpList_plain hg1 fun K hK=>?_
 have hrun:(execOp a.eval o1).run P W=.ok (.value (.slice (some ⟨W.heap.size,0,none⟩) s.size (grownCap W s.size 0 e))) (Lib.bytesWorld W e s):=by
  unfold execOp
  simp only [ho1,ex,Sem.run_bind,Lib.run_convert_string_bytes W src dst e s hs hdt he,Result.andThen_ok,Sem.run_pure]
 unfold Oper.wp
 rw [hrun,Oper.upon_value]
 apply hK
 rw [hd1]
 have hB1:Below W.heap.size W (Lib.bytesWorld W e s):=⟨rfl,rfl,rfl,by rw [Lib.bytesWorld_size];omega,fun k hk=>Lib.bytesWorld_at_old W e s k hk⟩
 have hnw:=Lib.bytesWorld_at_new W e s
 have hcell:∀ (j:Nat) (b:UInt8),s.data[j]?=some b→(Lib.bytesCells W e s)[j]?=some (Value.int .u8 (b.toNat:Int)):=fun j b hj=>by
  have hjl:=(Array.getElem?_eq_some_iff.1 hj).1
  unfold Lib.bytesCells
  rw [Array.getElem?_append_left (by simpa using hjl),Array.getElem?_map,hj];rfl
 generalize Lib.bytesWorld W e s=W1 at *
 generalize Lib.bytesCells W e s=cs at *
 have hcap:=grownCap_ge W s.size 0 e
 generalize grownCap W s.size 0 e=cap at *
 have hgn:H.ro W.heap.size=none:=by
  cases hc:H.ro W.heap.size with
  | none=>rfl
  | some c=>have:=r.fits.lt (b:=W.heap.size) (by rw [hc];simp);omega
 have r1:=r.grow (Hp.Le.refl H.ro) (r.fits.below hB1) hB1 (Nw.refl _ _ _)
 have r2:Rel n W0 H.base β ((d1,.v (.slice (some ⟨W.heap.size,0,none⟩) s.size cap))::env) bx ⟨H.ro,H.ow,H.base⟩ (a.put (some d1) (.slice (some ⟨W.heap.size,0,none⟩) s.size cap)) W1:=r1.put hn1 rfl rfl
 have hfG:Fits (H.ro.put W.heap.size cs) W1:=fun b c hb=>by
  unfold Hp.put at hb
  split at hb
  ·rename_i e1
   subst e1
   cases hb
   exact ⟨_,_,hnw⟩
  ·exact r1.fits b c hb
 have hpc1:=hpc (H.ro.put W.heap.size cs) W.heap.size cap cs hcap (by simp [Hp.put]) hcell
 refine wpList_plain hg2 fun K2 hK2=>?_
 unfold Oper.wp
 have hev:(a.put (some d1) (.slice (some ⟨W.heap.size,0,none⟩) s.size cap)).eval (.tmp d1)=(.slice (some ⟨W.heap.size,0,none⟩) s.size cap):=by
  have h3:Env.op ((d1,.v (.slice (some ⟨W.heap.size,0,none⟩) s.size cap))::env) (.tmp d1)=some (.v (.slice (some ⟨W.heap.size,0,none⟩) s.size cap)):=by simp [Env.op,Env.get_cons]
  exact r2.op h3
 have hev2:(a.put (some d1) (.slice (some ⟨W.heap.size,0,none⟩) s.size cap)).eval (.const yv)=yv:=r2.op (s:=.v yv) rfl
 have hvs:List.map (a.put (some d1) (.slice (some ⟨W.heap.size,0,none⟩) s.size cap)).eval (#[Operand.tmp d1,.const yv]:Array Operand).toList=[(.slice (some ⟨W.heap.size,0,none⟩) s.size cap),yv]:=by simp [hev,hev2]
 rw [run_call_enter hpc1.can ho2 hvs,Oper.upon_enter]
 refine (hpc1.run W1 hfG r1.globW).mono ?_
 rintro e2 W2 ⟨v',ow,rfl,hΦ,hnw2,hb⟩
 apply hK2
 rw [hd2]
 exact h W.heap.size cap v' ow hΦ W0 β _ W2 ((r2.addOw hnw2 hb).put hn2 rfl rfl)
end
theorem few_po {v:Value} {l:List Nat} {H:Hp} (h:SlN n8 H v l) (k:Nat) (hk:k≤1000000000):PO prog 11 #[v,.int .i64 (k:Int)] H fun r ow=>∃ b cap sp,r=.slice (some ⟨b,0,none⟩) (l.take k).length cap∧ow=[(b,5,(l.take k).map n8++sp)]:=by
 refine PO.of_pw ?_
 obtain ⟨a,cap,rfl⟩:=SlC.val h
 have hcap:l.length≤cap:=SlN.le h
 have hsub:=SlC.sub h 0 (min l.length k) (Nat.zero_le _) (Nat.min_le_left _ _) hcap
 have hmk:min l.length k≤1000000000:=Nat.le_trans (Nat.min_le_right _ _) hk
 have htk:((l.map n8).drop (0*1)).take ((min l.length k-0)*1)=(l.take k).map n8:=by
  rw [Nat.zero_mul,List.drop_zero,Nat.sub_zero,Nat.mul_one,← List.map_take]
  congr 1
  rw [List.take_eq_take_iff];omega
 have hlk:(l.take k).length=min l.length k:=by rw [List.length_take,Nat.min_comm]
 have hml:min l.length k≤l.length:=Nat.min_le_left _ _
 rw [htk] at hsub
 have hmi:=min_int l.length k
 rw [hlk]
 generalize min l.length k=m at *
 refine PW.body tO func11 rfl kR ntmps11 rfl rfl ?_
 try refine RUN ?_
 refine EVL.lit0 tO rfl rfl rfl rfl rfl rfl rfl fun g0=>?_
 try refine RUN ?_
 rw [hmi]
 refine EVL.slc (te':=Tryz.te5) tO rfl rfl rfl rfl rfl rfl rfl rfl 0 m (.inl ⟨rfl,rfl⟩) (.inr ⟨_,IntKind.i64,rfl,rfl⟩) (Nat.zero_le _) oM hcap ?_
 rcases Nat.eq_zero_or_pos m with e | e
 ·subst e
  have hnil:l.take k=[]:=List.length_eq_zero_iff.1 hlk
  refine EVL.append0 tO rfl rfl rfl rfl rfl rfl rfl rfl rfl (Nat.le_refl _) ?_
  try refine RUN ?_
  rw [hnil]
  exact ⟨Nat.le_refl 1,g0,0,[],rfl,rfl⟩
 ·refine EVL.append tO rfl rfl rfl rfl rfl rfl rfl rfl rfl rfl rfl rfl [] [(g0,5,[])] [] rfl (OwnL.full (m:=0) rfl oM) (SrcAt.ro hsub e) (oneB_n8 _) oM ?_
  intro v1 ow1 hown1
  rw [Nat.sub_zero,Nat.zero_add,List.nil_append] at hown1
  obtain ⟨g,cap2,sp,rfl,rfl,_⟩:=hown1.block e
  try refine RUN ?_
  exact ⟨Nat.le_refl 1,g,cap2,sp,rfl,rfl⟩
theorem n8_sl {G:Hp} {s:ByteArray} {g cap:Nat} {c:Array Value} (hcap:s.size≤cap) (hg:G g=some c) (hc:∀ (j:Nat) (b:UInt8),s.data[j]?=some b→c[j]?=some (Value.int .u8 (b.toNat:Int))):SlN n8 G (.slice (some ⟨g,0,none⟩) s.size cap) (s.data.toList.map (·.toNat)):=by
 have hsz:s.size=s.data.toList.length:=Lib.size_eq s
 have hl:(s.data.toList.map (·.toNat)).length=s.size:=by rw [List.length_map,hsz]
 show SlC _ _ _ _ _
 rw [hl]
 refine ⟨by rw [List.length_map,hl,Nat.mul_one],.inr ⟨g,0,cap,c,rfl,hcap,hg,fun j x hj=>?_⟩⟩
 rw [List.map_map,List.getElem?_map] at hj
 rw [Nat.zero_add]
 cases hb:s.data.toList[j]? with
 | none=>rw [hb] at hj;cases hj
 | some b =>
  rw [hb] at hj
  cases hj
  exact hc j b (by rw [← Array.getElem?_toList];exact hb)
theorem few_back (s:ByteArray) (k:Nat):((s.data.toList.map (·.toNat)).take k).map n8=(s.data.toList.take k).map fun b=>Value.int .u8 (b.toNat:Int):=by
 rw [← List.map_take,List.map_map];rfl
def bendL:List (List UInt8):=[[44],[10],[58],[124],[40],[41],[63],[97],[49],[47],[],[45]]
theorem bend_at {j:Nat} (h:j<12):∃ c,bendL[j]?=some c∧c.length≤1:=by
 have:∀ i:Fin 12,∃ c,bendL[i.val]?=some c∧c.length≤1:=by
  intro i
  have hl:i.val<bendL.length:=i.isLt
  refine ⟨bendL[i.val],List.getElem?_eq_getElem hl,?_⟩
  have:∀ w,w∈bendL→w.length≤1:=by decide
  exact this _ (List.getElem_mem hl)
 exact this ⟨j,h⟩
set_option maxRecDepth 100000 in
set_option maxHeartbeats 32000000 in
theorem bent_pc {H:Hp} {v:Value} {at':List Int} (hv:IL H v at') (hb:∀ z,z∈at'→i64b z) (s:List UInt8) (hl:s.length≤100000):PC prog 8 #[strV s,v] H fun r _=>∃ l,r=strV l∧l.length≤100003:=by
 obtain ⟨a,cap,rfl⟩:=SlC.val hv
 refine BD func8 ntmps8 ?_
 try refine RUN ?_
 refine EV.loopK (ι:=Nat × List UInt8) [1] [] (fun q=>[(0,.v (.string (sb q.2))),(5,.v (.int .i64 (q.1:Int)))]) (fun _=>[]) (fun _=>[]) (fun q _=>q.1≤at'.length∧q.1≤3∧q.2.length≤s.length+q.1) (fun q=>at'.length-q.1) ((0,s)) rfl rfl ⟨rfl,rfl,trivial⟩ trivial rfl (fun _=>rfl) (⟨Nat.zero_le _,Nat.zero_le _,Nat.le_refl _⟩) ?_
 rintro ⟨i,t⟩ G1 hG1 ⟨hi,hi3,ht⟩
 dsimp only at hi hi3 ht
 have hsz:=sb_size t
 try refine RUN ?_
 generalize hB:decide (i<at'.length∧i<3∧0<t.length)=B
 refine EVL.meetK (ι:=Unit) [0,1,5] [] (fun _=>[(20,.v (.bool B))]) (fun _=>[]) (fun _=>[]) (fun _ G=>G1.Le G) rfl rfl (fun _=>rfl) ?_ ?_
 ·by_cases d1:i<at'.length
  case neg =>
   rw [decide_eq_false (show ¬ (i:Int)<(at'.length:Int) by omega)]
   rw [decide_eq_false (show ¬ (i<at'.length∧i<3∧0<t.length) from fun k=>d1 k.1)] at hB
   subst hB
   try refine RUN ?_
   exact ⟨(),⟨rfl,trivial⟩,sB,trivial,sB,rfl,Hp.Le.refl _⟩
  rw [decide_eq_true (show (i:Int)<(at'.length:Int) by omega)]
  try refine RUN ?_
  by_cases d2:i<3
  case neg =>
   rw [decide_eq_false (show ¬ (i:Int)<3 by omega)]
   rw [decide_eq_false (show ¬ (i<at'.length∧i<3∧0<t.length) from fun k=>d2 k.2.1)] at hB
   subst hB
   try refine RUN ?_
   exact ⟨(),⟨rfl,trivial⟩,sB,trivial,sB,rfl,Hp.Le.refl _⟩
  rw [decide_eq_true (show (i:Int)<3 by omega)]
  try refine RUN ?_
  rw [hsz,show decide ((t.length:Int)>0)=B by
   rw [← hB]
   by_cases d3:0<t.length
   ·rw [decide_eq_true (show (t.length:Int)>0 by omega),decide_eq_true ⟨d1,d2,d3⟩]
   ·rw [decide_eq_false (show ¬ (t.length:Int)>0 by omega),decide_eq_false (show ¬ (i<at'.length∧i<3∧0<t.length) from fun k=>d3 k.2.2)]]
  try refine RUN ?_
  exact ⟨(),⟨rfl,trivial⟩,sB,trivial,sB,rfl,Hp.Le.refl _⟩
 rintro _ G2 hG2
 cases B with
 | false =>
  try refine RUN ?_
  exact ⟨t,rfl,by omega⟩
 | true =>
  obtain ⟨d1,d2,d3⟩:=of_decide_eq_true hB
  obtain ⟨z,hz⟩:∃ z,at'[i]?=some z:=⟨_,List.getElem?_eq_getElem d1⟩
  have hzb:=hb z (List.mem_of_getElem? hz)
  have hv2:=hv.mono (hG1.trans hG2)
  have hat:(at'.map iv)[i]?=some (iv z):=by rw [List.getElem?_map,hz];rfl
  have w12:=wtdiv (k:=12) hzb (by decide)
  have w5:=wtdiv (k:=5) hzb (by decide)
  have p1:=pick_pv (z.tdiv 12) (t.length:Int) (tdiv_in hzb (by decide)) oM oM
  have p2:=pick_pv z 12 hzb (by decide) (by decide)
  have p3:=pick_pv (z.tdiv 5) 2 (tdiv_in hzb (by decide)) (by decide) (by decide)
  obtain ⟨k,hk⟩:=Int.eq_ofNat_of_zero_le (Int.emod_nonneg (z.tdiv 12) (show (t.length:Int)≠0 by omega))
  have hkl:=Int.emod_lt_of_pos (z.tdiv 12) (show (0:Int)<(t.length:Int) by omega)
  obtain ⟨j,hj⟩:=Int.eq_ofNat_of_zero_le (Int.emod_nonneg z (show (12:Int)≠0 by decide))
  have hjl:=Int.emod_lt_of_pos z (show (0:Int)<12 by decide)
  obtain ⟨e,he⟩:=Int.eq_ofNat_of_zero_le (Int.emod_nonneg (z.tdiv 5) (show (2:Int)≠0 by decide))
  have hel:=Int.emod_lt_of_pos (z.tdiv 5) (show (0:Int)<2 by decide)
  rw [hk] at p1 hkl
  rw [hj] at p2 hjl
  rw [he] at p3 hel
  obtain ⟨c,hc,hc1⟩:=bend_at (j:=j) oM
  have hke:IntKind.i64.wrap ((k:Int)+(e:Int))=((k+e:Nat):Int):=by rw [IntKind.wrap_i64];omega
  try refine RUN ?_
  refine EVL.idxR tO rfl rfl rfl rfl rfl rfl rfl rfl rfl rfl (hv2) (i) (rfl) (d1) (hat) ?_
  try refine RUN ?_
  rw [w12,hsz]
  repeat (first | refine RUN ?_ | refine CV (p1) ?_ | refine CE (p1) ?_)
  refine EVL.buildArr rfl rfl rfl rfl rfl (cs:=bendL.map strV) kR ?_
  try refine RUN ?_
  refine EVL.idxR tO rfl rfl rfl rfl rfl rfl rfl rfl rfl rfl (hv2) (i) (rfl) (d1) (hat) ?_
  repeat (first | refine RUN ?_ | refine CV (p2) ?_ | refine CE (p2) ?_)
  refine EVL.indexArr (e:=9) (len:=12) tO rfl rfl rfl rfl kR rfl rfl rfl rfl rfl j rfl (show j<12 by omega) (by rw [List.getElem?_map,hc];rfl) ?_
  try refine RUN ?_
  apply EV.drawn 16 kR kR;intro xv yw
  (repeat refine' DD ?_)
  refine' DJ.strSlc rfl rfl rfl rfl kR rfl 0 k (.inl ⟨rfl,rfl⟩) (.inr ⟨_,IntKind.i64,rfl,rfl⟩) (Nat.zero_le _) (by show k≤(sb t).size;omega) ?_;rotate_left
  rw [sb_cut,Nat.sub_zero,List.drop_zero]
  (repeat refine' DD ?_)
  refine' DJ.catN (t.take k) c rfl rfl rfl rfl rfl rfl (by rw [List.length_take];omega) ?_;rotate_left
  (repeat refine' DD ?_)
  refine' DJ.ofVal (ValOk.idx1 tO rfl rfl rfl rfl rfl rfl rfl rfl (hv2) (i) (rfl) (d1) (hat)) rfl rfl rfl ?_;rotate_left
  (repeat refine' DD ?_)
  rw [w5]
  (repeat (first | refine' DD ?_ | (refine' DC (p3) (h:=?_);rotate_left)))
  rw [hke]
  refine' DJ.strSlc rfl rfl rfl rfl kR rfl (k+e) t.length (.inr ⟨_,IntKind.i64,rfl,rfl⟩) (.inl ⟨rfl,hsz.symm⟩) oM (by show t.length≤(sb t).size;omega) ?_;rotate_left
  rw [sb_cut,← List.drop_take,List.take_length]
  refine' DJ.catN (t.take k++c) (t.drop (k+e)) rfl rfl rfl rfl rfl rfl (by rw [List.length_append,List.length_take,List.length_drop];omega) ?_;rotate_left
  (refine DJ.nil (fun G3 hG3 hF3=>?_);(case hS|hS2=>rfl))
  try refine RUN ?_
  rw [wi_inc i (by omega)]
  exact ⟨(i+1,t.take k++c++t.drop (k+e)),⟨rfl,rfl,trivial⟩,sB,trivial,sB,rfl,⟨d1,by dsimp only;omega,by dsimp only;rw [List.length_append,List.length_append,List.length_take,List.length_drop];omega⟩,hG2.trans hG3,by dsimp only;omega⟩
theorem pCols_sm:∀ {l:List (List UInt8)} {acc cs:List ColT},pCols acc l=.ok cs→acc.length≤20→(∀ c,c∈acc→c.words.length≤12)→cs.length≤20∧∀ c,c∈cs→c.words.length≤12
 | [],acc,cs,h,h1,h2=>by cases h;exact ⟨h1,h2⟩
 | s::r,acc,cs,h,h1,h2=>by
  cases hx:pCol acc s with
  | error e=>rw [pCols_stop hx] at h;cases h
  | ok c =>
   rw [pCols_step hx] at h
   obtain ⟨k1,k2⟩:=pCol_len hx
   refine pCols_sm h (by rw [List.length_append,List.length_singleton];omega) fun d hd=>?_
   rcases List.mem_append.1 hd with q | q
   ·exact h2 d q
   ·rw [List.mem_singleton.1 q];exact k2
theorem pCell_sm {c:ColT} {s:List UInt8} {x:CellT} (h:pCell c s=.ok x):ht x.q≤2000:=by
 unfold pCell at h
 split at h
 ·cases h;rw [ht_zero];decide
 ·split at h
  ·cases hq:pQ s with
   | none=>rw [hq] at h;cases h
   | some q=>rw [hq] at h;cases h;exact pQ_ht hq
  ·cases hq:posL s c.words with
   | none=>rw [hq] at h;cases h
   | some k=>rw [hq] at h;cases h;rw [ht_zero];decide
theorem pCells_sm:∀ {l:List (ColT × List UInt8)} {acc row:List CellT},pCells acc l=.ok row→(∀ x,x∈acc→ht x.q≤2000)→row.length=acc.length+l.length∧∀ x,x∈row→ht x.q≤2000
 | [],acc,row,h,h1=>by cases h;exact ⟨rfl,h1⟩
 | (c,s)::r,acc,row,h,h1=>by
  cases hx:pCell c s with
  | error e=>rw [pCells_stop hx] at h;cases h
  | ok x =>
   rw [pCells_step hx] at h
   obtain ⟨k1,k2⟩:=pCells_sm h fun y hy=>by
    rcases List.mem_append.1 hy with q | q
    ·exact h1 y q
    ·rw [List.mem_singleton.1 q];exact pCell_sm hx
   exact ⟨by rw [k1,List.length_append,List.length_singleton,List.length_cons];omega,k2⟩
theorem pRow_sm {cs:List ColT} {s:List UInt8} {row:List CellT} (h:pRow cs s=.ok row):row.length=cs.length∧∀ x,x∈row→ht x.q≤2000:=by
 unfold pRow at h
 split at h
 ·cases h
 ·rename_i k
  have k':(cutL 44 s).length=cs.length:=Decidable.not_not.1 k
  obtain ⟨k1,k2⟩:=pCells_sm h fun x hx=>by cases hx
  exact ⟨by rw [k1,List.length_zip,k',Nat.min_self];simp,k2⟩
theorem pRows_sm {cs:List ColT}:∀ {l:List (List UInt8)} {acc rows:List (List CellT)},pRows cs acc l=.ok rows→acc.length≤300→(∀ r,r∈acc→r.length=cs.length∧∀ x,x∈r→ht x.q≤2000)→rows.length≤300∧∀ r,r∈rows→r.length=cs.length∧∀ x,x∈r→ht x.q≤2000
 | [],acc,rows,h,h1,h2=>by cases h;exact ⟨h1,h2⟩
 | s::r,acc,rows,h,h1,h2=>by
  rw [pRows] at h
  split at h
  ·cases h
  ·rename_i k
   split at h
   ·cases h
   ·rename_i row hx
    refine pRows_sm h (by rw [List.length_append,List.length_singleton];omega) fun y hy=>?_
    rcases List.mem_append.1 hy with q | q
    ·exact h2 y q
    ·rw [List.mem_singleton.1 q];exact pRow_sm hx
theorem pSheet_sm {s:List UInt8} {t:SheetT} (h:pSheet s=.ok t):SmSh t.1 t.2:=by
 unfold pSheet at h
 split at h
 ·cases h
 ·split at h
  ·cases h
  ·split at h
   ·cases h
   ·rename_i cs hc
    split at h
    ·cases h
    ·rename_i rows hr
     cases h
     obtain ⟨a1,a2⟩:=pCols_sm hc (Nat.zero_le _) fun c hc=>by cases hc
     obtain ⟨b1,b2⟩:=pRows_sm hr (Nat.zero_le _) fun c hc=>by cases hc
     exact ⟨Nat.le_trans a1 (by decide),fun c hc=>Nat.le_trans (a2 c hc) (by decide),Nat.le_trans b1 (by decide),fun r hr=>⟨by rw [(b2 r hr).1];exact Nat.le_trans a1 (by decide),fun x hx=>Nat.le_trans ((b2 r hr).2 x hx) (by decide)⟩⟩
theorem mRows_ok (cells:List Int) (cols:List Int) (n:Nat) (hn:n≤12):ShOk (mCols cols) (mRows cells (mCols cols) n)∧(tSheet (mCols cols) (mRows cells (mCols cols) n)).length≤5000:=by
 obtain ⟨⟨h1,h2⟩,h3,h4⟩:=mCols_ok cols
 have h5:=mCols_s cols
 generalize mCols cols=C at *
 have hat:∀ i,∀ c x,(c,x)∈C.zip (mRow cells C i)→c∈C∧∃ z,x=mCell c z:=fun i c x h=>by
  obtain ⟨k,hk⟩:=List.mem_iff_getElem?.1 h
  have hk2:(C.zip (mRow cells C i))[k]?=some (c,x):=hk
  rw [List.zip,List.getElem?_zipWith] at hk2
  cases hc:C[k]? with
  | none=>rw [hc] at hk2;cases hk2
  | some c' =>
   have hm:(mRow cells C i)[k]?=some (mCell c' (rawAt cells C.length i k)):=by unfold mRow;rw [List.getElem?_mapIdx,hc];rfl
   rw [hc,hm] at hk2
   cases hk2
   exact ⟨List.mem_of_getElem? hc,_,rfl⟩
 have hrow:∀ row,row∈mRows cells C n→∃ i,row=mRow cells C i:=fun row h=>by
  obtain ⟨i,_,e⟩:=List.mem_map.1 h
  exact ⟨i,e.symm⟩
 have hok:ShOk C (mRows cells C n):=by
  refine ⟨h1,Nat.le_trans h2 (by decide),h3,h4,?_,fun row hr=>?_,fun row hr c x hz=>?_⟩
  ·unfold mRows;rw [List.length_map,List.length_range];omega
  ·obtain ⟨i,rfl⟩:=hrow row hr
   unfold mRow;rw [List.length_mapIdx]
  ·obtain ⟨i,rfl⟩:=hrow row hr
   obtain ⟨q1,z,rfl⟩:=hat i c x hz
   exact ⟨h3 c q1,mCell_ok (h3 c q1) z⟩
 refine ⟨hok,tSheet_len h2 (by unfold mRows;rw [List.length_map,List.length_range];exact hn) h5 fun row hr w hw=>?_⟩
 obtain ⟨i,rfl⟩:=hrow row hr
 obtain ⟨k,hk⟩:=List.mem_iff_getElem?.1 hw
 rw [List.getElem?_zipWith] at hk
 cases hc:C[k]? with
 | none=>rw [hc] at hk;cases hk
 | some c =>
  have hm:(mRow cells C i)[k]?=some (mCell c (rawAt cells C.length i k)):=by unfold mRow;rw [List.getElem?_mapIdx,hc];rfl
  rw [hc,hm] at hk
  cases hk
  exact mCell_len (h3 c (List.mem_of_getElem? hc)) (h5 c (List.mem_of_getElem? hc)) _
theorem ne_at {α:Type} {l m:List α} {i:Nat} {x y:α} (h:l[i]?=some x) (k:m[i]?=some y) (hn:x≠y):l≠m:=fun e=>by
 rw [e,k] at h
 exact hn (Option.some.inj h).symm
set_option maxRecDepth 100000 in
set_option maxHeartbeats 32000000 in
theorem rsameCols_pc {H:Hp} {u v:Value} {cs ds:List ColT} (hu:ColL H u cs) (hv:ColL H v ds) (hw:∀ c,c∈cs→c.words.length≤1000000) (hl:cs.length≤1000000):PC prog 22 #[u,v] H fun r _=>r=.bool (decide (cs=ds)):=by
 obtain ⟨ucs,hus,hul⟩:=hu
 obtain ⟨vcs,hvs,hvl⟩:=hv
 obtain ⟨a,c,rfl⟩:=SlC.val hul
 obtain ⟨a2,c2,rfl⟩:=SlC.val hvl
 refine BD func22 ntmps22 ?_
 try refine RUN ?_
 by_cases el:cs.length=ds.length
 case neg =>
  rw [show ((cs.length:Int) != (ds.length:Int))=true from bne_iff_ne.2 (by omega)]
  try refine RUN ?_
  rw [decide_eq_false fun e=>el (by rw [e])]
 rw [show ((cs.length:Int) != (ds.length:Int))=false from bne_eq_false_iff_eq.2 (by omega)]
 try refine RUN ?_
 refine EV.loopK (ι:=Nat) [0,1] [] (fun i=>[(5,.v (.int .i64 (i:Int)))]) (fun _=>[]) (fun _=>[]) (fun i _=>i≤cs.length∧cs.take i=ds.take i) (fun i=>cs.length-i) (0) rfl rfl ⟨rfl,trivial⟩ trivial rfl (fun _=>rfl) (⟨Nat.zero_le _,rfl⟩) ?_
 rintro i G1 hG1 ⟨hi,htk⟩
 try refine RUN ?_
 refine EV.cond rfl (fun hlt=>?_) (fun hlt=>?_)
 ·simp only [nN] at hlt
  obtain ⟨x,hx⟩:∃ x,cs[i]?=some x:=⟨_,List.getElem?_eq_getElem hlt⟩
  obtain ⟨y,hy⟩:∃ y,ds[i]?=some y:=⟨_,List.getElem?_eq_getElem oM⟩
  obtain ⟨xc,hxcut,xa,xn,hxw,rfl⟩:=(hus.mono SCol.ok hG1).get SCol.ok hx
  obtain ⟨yc,hycut,ya,yn,hyw,rfl⟩:=(hvs.mono SCol.ok hG1).get SCol.ok hy
  have hul1:=hul.mono hG1
  have hvl1:=hvl.mono hG1
  have hxwl:=hw x (List.mem_of_getElem? hx)
  have hltd:i<ds.length:=by omega
  have wn:IntKind.i64.wrap ((i:Int)+1)=((i+1:Nat):Int):=wi_inc i oM
  generalize hB:decide (¬ (x.name=y.name∧x.kind=y.kind∧x.words.length=y.words.length))=B
  try refine RUN ?_
  refine EV.meetK (ι:=Unit) [0,1,5] [] (fun _=>[(56,.v (.bool B))]) (fun _=>[]) (fun _=>[]) (fun _ G=>G1.Le G) rfl rfl (fun _=>rfl) ?_ ?_
  ·by_cases e1:x.name=y.name
   case neg =>
    rw [decide_eq_true (show ¬ (x.name=y.name∧x.kind=y.kind∧x.words.length=y.words.length) from fun k=>e1 k.1)] at hB
    subst hB
    apply EV.drawn 39 kR kR;intro xv yw
    (repeat refine' DD ?_)
    refine' DJ.idxM tO rfl rfl rfl rfl rfl rfl rfl rfl rfl (hul1) (i) (rfl) (hlt) (hxcut) ?_;rotate_left
    (repeat refine' DD ?_)
    refine' DJ.idxM tO rfl rfl rfl rfl rfl rfl rfl rfl rfl (hvl1) (i) (rfl) (hltd) (hycut) ?_;rotate_left
    (repeat refine' DD ?_)
    rw [sb_neq,decide_eq_true (show x.name≠y.name from e1)]
    (repeat refine' DD ?_)
    (refine DJ.nil (fun G hG hF=>?_);(case hS|hS2=>rfl))
    try refine RUN ?_
    exact ⟨(),⟨rfl,trivial⟩,sB,trivial,sB,rfl,hG⟩
   by_cases e2:x.kind=y.kind
   case neg =>
    rw [decide_eq_true (show ¬ (x.name=y.name∧x.kind=y.kind∧x.words.length=y.words.length) from fun k=>e2 k.2.1)] at hB
    subst hB
    apply EV.drawn 39 kR kR;intro xv yw
    (repeat refine' DD ?_)
    refine' DJ.idxM tO rfl rfl rfl rfl rfl rfl rfl rfl rfl (hul1) (i) (rfl) (hlt) (hxcut) ?_;rotate_left
    (repeat refine' DD ?_)
    refine' DJ.idxM tO rfl rfl rfl rfl rfl rfl rfl rfl rfl (hvl1) (i) (rfl) (hltd) (hycut) ?_;rotate_left
    (repeat refine' DD ?_)
    rw [sb_neq,decide_eq_false (show ¬ (x.name≠y.name) from fun k=>k e1)]
    (repeat refine' DD ?_)
    refine' DJ.idxM tO rfl rfl rfl rfl rfl rfl rfl rfl rfl (hul1) (i) (rfl) (hlt) (hxcut) ?_;rotate_left
    (repeat refine' DD ?_)
    refine' DJ.idxM tO rfl rfl rfl rfl rfl rfl rfl rfl rfl (hvl1) (i) (rfl) (hltd) (hycut) ?_;rotate_left
    (repeat refine' DD ?_)
    rw [show ((x.kind:Int) != (y.kind:Int))=true from bne_iff_ne.2 (by omega)]
    (repeat refine' DD ?_)
    (refine DJ.nil (fun G hG hF=>?_);(case hS|hS2=>rfl))
    try refine RUN ?_
    exact ⟨(),⟨rfl,trivial⟩,sB,trivial,sB,rfl,hG⟩
   apply EV.drawn 39 kR kR;intro xv yw
   (repeat refine' DD ?_)
   refine' DJ.idxM tO rfl rfl rfl rfl rfl rfl rfl rfl rfl (hul1) (i) (rfl) (hlt) (hxcut) ?_;rotate_left
   (repeat refine' DD ?_)
   refine' DJ.idxM tO rfl rfl rfl rfl rfl rfl rfl rfl rfl (hvl1) (i) (rfl) (hltd) (hycut) ?_;rotate_left
   (repeat refine' DD ?_)
   rw [sb_neq,decide_eq_false (show ¬ (x.name≠y.name) from fun k=>k e1)]
   (repeat refine' DD ?_)
   refine' DJ.idxM tO rfl rfl rfl rfl rfl rfl rfl rfl rfl (hul1) (i) (rfl) (hlt) (hxcut) ?_;rotate_left
   (repeat refine' DD ?_)
   refine' DJ.idxM tO rfl rfl rfl rfl rfl rfl rfl rfl rfl (hvl1) (i) (rfl) (hltd) (hycut) ?_;rotate_left
   (repeat refine' DD ?_)
   rw [show ((x.kind:Int) != (y.kind:Int))=false from bne_eq_false_iff_eq.2 (by omega)]
   (repeat refine' DD ?_)
   refine' DJ.idxM tO rfl rfl rfl rfl rfl rfl rfl rfl rfl (hul1) (i) (rfl) (hlt) (hxcut) ?_;rotate_left
   (repeat refine' DD ?_)
   refine' DJ.idxM tO rfl rfl rfl rfl rfl rfl rfl rfl rfl (hvl1) (i) (rfl) (hltd) (hycut) ?_;rotate_left
   (repeat refine' DD ?_)
   rw [show ((x.words.length:Int) != (y.words.length:Int))=B by
    rw [← hB]
    by_cases e3:x.words.length=y.words.length
    ·rw [decide_eq_false (show ¬ ¬ (x.name=y.name∧x.kind=y.kind∧x.words.length=y.words.length) from fun k=>k ⟨e1,e2,e3⟩)]
     exact bne_eq_false_iff_eq.2 oM
    ·rw [decide_eq_true (show ¬ (x.name=y.name∧x.kind=y.kind∧x.words.length=y.words.length) from fun k=>e3 k.2.2)]
     exact bne_iff_ne.2 (by omega)]
   (repeat refine' DD ?_)
   (refine DJ.nil (fun G hG hF=>?_);(case hS|hS2=>rfl))
   try refine RUN ?_
   exact ⟨(),⟨rfl,trivial⟩,sB,trivial,sB,rfl,hG⟩
  rintro _ G2 hG2
  cases B with
  | true =>
   have h3:=of_decide_eq_true hB
   try refine RUN ?_
   rw [decide_eq_false (ne_at hx hy (fun e=>h3 (by rw [e];exact ⟨rfl,rfl,rfl⟩)))]
  | false =>
  obtain ⟨e1,e2,e3⟩:=Decidable.not_not.1 (of_decide_eq_false hB)
  have hul2:=hul1.mono hG2
  have hvl2:=hvl1.mono hG2
  try refine RUN ?_
  refine EV.loopK (ι:=Nat) [0,1,5] [] (fun j=>[(6,.v (.int .i64 (j:Int)))]) (fun _=>[]) (fun _=>[]) (fun j _=>j≤x.words.length∧x.words.take j=y.words.take j) (fun j=>x.words.length-j) (0) rfl rfl ⟨rfl,trivial⟩ trivial rfl (fun _=>rfl) (⟨Nat.zero_le _,rfl⟩) ?_
  rintro j G3 hG3 ⟨hj,htk2⟩
  try refine RUN ?_
  refine EVL.idxM tO rfl rfl rfl rfl rfl rfl rfl rfl rfl ((hul2.mono hG3)) (i) (rfl) (hlt) (hxcut) ?_
  try refine RUN ?_
  refine EV.cond rfl (fun hlt2=>?_) (fun hlt2=>?_)
  ·simp only [nN] at hlt2
   obtain ⟨p,hp⟩:∃ p,x.words[j]?=some p:=⟨_,List.getElem?_eq_getElem hlt2⟩
   obtain ⟨q,hq⟩:∃ q,y.words[j]?=some q:=⟨_,List.getElem?_eq_getElem oM⟩
   have wj:IntKind.i64.wrap ((j:Int)+1)=((j+1:Nat):Int):=wi_inc j oM
   try refine RUN ?_
   apply EV.drawn 17 kR kR;intro xv yw
   (repeat refine' DD ?_)
   refine' DJ.idxM tO rfl rfl rfl rfl rfl rfl rfl rfl rfl ((hul2.mono hG3)) (i) (rfl) (hlt) (hxcut) ?_;rotate_left
   (repeat refine' DD ?_)
   refine' DJ.ofVal (ValOk.idx1 tO rfl rfl rfl rfl rfl rfl rfl rfl ((hxw.mono (hG2.trans hG3))) (j) (rfl) (hlt2) ((by rw [List.getElem?_map,hp];rfl))) rfl rfl rfl ?_;rotate_left
   (repeat refine' DD ?_)
   refine' DJ.idxM tO rfl rfl rfl rfl rfl rfl rfl rfl rfl ((hvl2.mono hG3)) (i) (rfl) (hltd) (hycut) ?_;rotate_left
   (repeat refine' DD ?_)
   refine' DJ.ofVal (ValOk.idx1 tO rfl rfl rfl rfl rfl rfl rfl rfl ((hyw.mono (hG2.trans hG3))) (j) (rfl) (oM) ((by rw [List.getElem?_map,hq];rfl))) rfl rfl rfl ?_;rotate_left
   (repeat refine' DD ?_)
   (refine DJ.nil (fun G4 hG4 hF4=>?_);(case hS|hS2=>rfl))
   rw [sb_neq]
   by_cases e:p=q
   ·rw [decide_eq_false (show ¬ (p≠q) from fun k=>k e)]
    try refine RUN ?_
    rw [wj]
    exact ⟨j+1,⟨rfl,trivial⟩,sB,trivial,sB,rfl,⟨hlt2,by rw [take_snoc hp,take_snoc hq,htk2,e]⟩,hG4,by omega⟩
   ·rw [decide_eq_true (show p≠q from e)]
    try refine RUN ?_
    rw [decide_eq_false (ne_at hx hy (fun k=>ne_at hp hq e (by rw [k])))]
  ·simp only [nN] at hlt2
   obtain rfl:j=x.words.length:=by omega
   rw [List.take_length,e3,List.take_length] at htk2
   have exy:x=y:=by
    obtain ⟨xn1,xk,xw⟩:=x
    obtain ⟨yn1,yk,yw⟩:=y
    dsimp only at e1 e2 htk2
    rw [e1,e2,htk2]
   try refine RUN ?_
   rw [wn]
   exact ⟨i+1,⟨rfl,trivial⟩,sB,trivial,sB,rfl,⟨hlt,by rw [take_snoc hx,take_snoc hy,htk,exy]⟩,hG2.trans hG3,by omega⟩
 ·simp only [nN] at hlt
  obtain rfl:i=cs.length:=by omega
  rw [List.take_length,el,List.take_length] at htk
  try refine RUN ?_
  rw [decide_eq_true htk]
set_option maxRecDepth 100000 in
set_option maxHeartbeats 16000000 in
theorem rsameCells_pc {H:Hp} {u v:Value} {l:List CellT} (hu:RRow H u l) (hv:RRow H v l) (hq:CellsQ l):PC prog 47 #[u,v] H fun r _=>r=.bool true:=by
 obtain ⟨hl,hq⟩:=hq
 obtain ⟨ucs,hus,hul⟩:=hu
 obtain ⟨vcs,hvs,hvl⟩:=hv
 obtain ⟨a,c,rfl⟩:=SlC.val hul
 obtain ⟨a2,c2,rfl⟩:=SlC.val hvl
 refine BD func47 ntmps47 ?_
 try refine RUN ?_
 rw [bne_self_eq_false]
 try refine RUN ?_
 refine EV.loopK (ι:=Nat) [0,1] [] (fun i=>[(5,.v (.int .i64 (i:Int)))]) (fun _=>[]) (fun _=>[]) (fun i _=>i≤l.length) (fun i=>l.length-i) (0) rfl rfl ⟨rfl,trivial⟩ trivial rfl (fun _=>rfl) (Nat.zero_le _) ?_
 rintro i G1 hG1 hi
 try refine RUN ?_
 refine EV.cond rfl (fun hlt=>?_) (fun hlt=>?_)
 ·simp only [nN] at hlt
  obtain ⟨x,hx⟩:∃ x,l[i]?=some x:=⟨_,List.getElem?_eq_getElem hlt⟩
  have hxq:=hq x (List.mem_of_getElem? hx)
  obtain ⟨xc,hxcut,xw,hxw,rfl⟩:=(hus.mono RCell.ok hG1).get RCell.ok hx
  obtain ⟨yc,hycut,yw,hyw,rfl⟩:=(hvs.mono RCell.ok hG1).get RCell.ok hx
  have hcmp:=fun G (hG:G1.Le G)=>refCmp_pc (RQ.mono hxw hG) (RQ.mono hyw hG) hxq hxq
  rw [show ordR x.q x.q=0 from Int.le_antisymm (ordQ_le Rat.le_refl) (ordQ_neg.2 Rat.lt_irrefl)] at hcmp
  obtain ⟨ra,rl,rc,xa,xl,xcc,rfl⟩:=rq_form hxw
  obtain ⟨ra2,rl2,rc2,xa2,xl2,xcc2,rfl⟩:=rq_form hyw
  have hul1:=hul.mono hG1
  have hvl1:=hvl.mono hG1
  try refine RUN ?_
  apply EV.drawn 38 kR kR;intro xv yw
  (repeat refine' DD ?_)
  refine' DJ.idxM tO rfl rfl rfl rfl rfl rfl rfl rfl rfl (hul1) (i) (rfl) (hlt) (hxcut) ?_;rotate_left
  (repeat refine' DD ?_)
  refine' DJ.idxM tO rfl rfl rfl rfl rfl rfl rfl rfl rfl (hvl1) (i) (rfl) (hlt) (hycut) ?_;rotate_left
  (repeat refine' DD ?_)
  refine' DJ.ofVal (ValOk.neb rfl rfl rfl rfl kR) rfl rfl rfl ?_;rotate_left
  rw [show (!(x.lacks == x.lacks))=false by simp]
  (repeat refine' DD ?_)
  refine' DJ.idxM tO rfl rfl rfl rfl rfl rfl rfl rfl rfl (hul1) (i) (rfl) (hlt) (hxcut) ?_;rotate_left
  (repeat refine' DD ?_)
  refine' DJ.idxM tO rfl rfl rfl rfl rfl rfl rfl rfl rfl (hvl1) (i) (rfl) (hlt) (hycut) ?_;rotate_left
  (repeat refine' DD ?_)
  rw [bne_self_eq_false]
  (repeat refine' DD ?_)
  refine' DJ.idxM tO rfl rfl rfl rfl rfl rfl rfl rfl rfl (hul1) (i) (rfl) (hlt) (hxcut) ?_;rotate_left
  (repeat refine' DD ?_)
  refine' DJ.idxM tO rfl rfl rfl rfl rfl rfl rfl rfl rfl (hvl1) (i) (rfl) (hlt) (hycut) ?_;rotate_left
  (repeat refine' DD ?_)
  refine' DJ.callS rfl rfl rfl rfl rfl (cO func98) (fun G hG hd=>hcmp G hG) ?_;rotate_left
  (repeat refine' DD ?_)
  (refine DJ.nil (fun G2 hG2 hF2=>?_);(case hS|hS2=>rfl))
  try refine RUN ?_
  rw [wi_inc i (by omega)]
  exact ⟨i+1,⟨rfl,trivial⟩,sB,trivial,sB,rfl,hlt,hG2,by omega⟩
 ·simp only [nN] at hlt
  try refine RUN ?_
  rfl
set_option maxRecDepth 100000 in
set_option maxHeartbeats 16000000 in
theorem rsame_pc {H:Hp} {u v u' v':Value} {cs:List ColT} {rows:List (List CellT)} (hu:ColL H u cs) (hv:RRows H v rows) (hu':ColL H u' cs) (hv':RRows H v' rows) (sm:SmSh cs rows):PC prog 15 #[.agg #[u,v],.agg #[u',v']] H fun r _=>r=.bool true:=by
 have hc:=fun G (hG:H.Le G)=>rsameCols_pc (hu.mono SCol.ok hG) (hu'.mono SCol.ok hG) sm.words sm.ncols
 obtain ⟨_,_,rfl⟩:=hu.val
 obtain ⟨_,_,rfl⟩:=hu'.val
 obtain ⟨vcs,hvs,hvl⟩:=hv
 obtain ⟨wcs,hws,hwl⟩:=hv'
 obtain ⟨a,c,rfl⟩:=SlC.val hvl
 obtain ⟨a2,c2,rfl⟩:=SlC.val hwl
 have hnr:=sm.nrows
 refine BD func15 ntmps15 ?_
 try refine RUN ?_
 refine EVL.call rfl rfl rfl rfl rfl (hc _ (Hp.Le.refl _)) ?_
 rintro _ G0 rfl hG0
 rw [decide_eq_true rfl]
 try refine RUN ?_
 rw [bne_self_eq_false]
 try refine RUN ?_
 refine EV.loopK (ι:=Nat) [2,3] [2,3] (fun i=>[(5,.v (.int .i64 (i:Int)))]) (fun _=>[]) (fun _=>[]) (fun i _=>i≤rows.length) (fun i=>rows.length-i) (0) rfl rfl ⟨rfl,trivial⟩ trivial rfl (fun _=>rfl) (Nat.zero_le _) ?_
 rintro i G1 hG1 hi
 try refine RUN ?_
 refine EV.cond rfl (fun hlt=>?_) (fun hlt=>?_)
 ·simp only [nN] at hlt
  obtain ⟨x,hx⟩:∃ x,rows[i]?=some x:=⟨_,List.getElem?_eq_getElem hlt⟩
  have hG01:=hG0.trans hG1
  obtain ⟨xc,hxcut,xv',rfl,hxr⟩:=(hvs.mono RRows.ok hG01).get RRows.ok hx
  obtain ⟨yc,hycut,yv',rfl,hyr⟩:=(hws.mono RRows.ok hG01).get RRows.ok hx
  have hce:=fun G (hG:G1.Le G)=>rsameCells_pc (hxr.mono hG) (hyr.mono hG) (sm.cells x (List.mem_of_getElem? hx))
  obtain ⟨_,_,rfl⟩:=hxr.val
  obtain ⟨_,_,rfl⟩:=hyr.val
  try refine RUN ?_
  apply EV.drawn 12 kR kR;intro xv yw
  (repeat refine' DD ?_)
  refine' DJ.idxM tO rfl rfl rfl rfl rfl rfl rfl rfl rfl ((hvl.mono hG01)) (i) (rfl) (hlt) (hxcut) ?_;rotate_left
  (repeat refine' DD ?_)
  refine' DJ.idxM tO rfl rfl rfl rfl rfl rfl rfl rfl rfl ((hwl.mono hG01)) (i) (rfl) (hlt) (hycut) ?_;rotate_left
  (repeat refine' DD ?_)
  refine' DJ.callS rfl rfl rfl rfl rfl (cO func47) (fun G hG hd=>hce G hG) ?_;rotate_left
  (repeat refine' DD ?_)
  (refine DJ.nil (fun G2 hG2 hF2=>?_);(case hS|hS2=>rfl))
  try refine RUN ?_
  rw [wi_inc i (by omega)]
  exact ⟨i+1,⟨rfl,trivial⟩,sB,trivial,sB,rfl,hlt,hG2,by omega⟩
 ·simp only [nN] at hlt
  try refine RUN ?_
  rfl
end Go.Proofs.YtbcfidllfimehaaGreatDoor
namespace Go.Proofs.YtbcfidllfimehaaGreatDoor
def ex6:List UInt8:=[120,58,110,117,109,98,101,114,44,107,58,99,104,111,105,99,101,40,97,124,98,41,10,49,47,50,44,98,10,63,44,63,10]
theorem ex6_eq:pSheet ex6=.ok ([⟨[120],1,[]⟩,⟨[107],2,[[97],[98]]⟩],[[⟨false,mkRat 1 2,0⟩,⟨false,0,1⟩],[⟨true,0,0⟩,⟨true,0,0⟩]]):=by kernel_rfl
def no6:List UInt8:=[120,58,110,117,109,98,101,114,10,49,44,50,10]
theorem no6_eq:pSheet no6=.error (5,2,0):=by kernel_rfl
end Go.Proofs.YtbcfidllfimehaaGreatDoor
namespace Go.Proofs.YtbcfidllfimehaaGreatDoor
open Go.RowKit _root_.Go.Proofs.Tryz
def FldsI (P:Program):Nat→List Field→Prop
 | _,[]=>True
 | j,f::r=>f.name ≠ "_" ∧ f.offset=j∧P.underlying f.type=some (.int .i64)∧FldsI P (j+1) r
theorem eqFields_i {P:Program} (d:Nat) (xs ys:List Int) (hl:xs.length=ys.length) (W:World):∀ (fs:List Field) (j:Nat),FldsI P j fs→j+fs.length=xs.length →
  (Op.eqFields (d+1) (xs.map (Value.int .i64)).toArray (ys.map (Value.int .i64)).toArray fs).run P W=.ok (decide (xs.drop j=ys.drop j)) W
 | [],j,_,hj=>by
  have h1:xs.drop j=[]:=List.drop_eq_nil_of_le (by simp at hj;omega)
  have h2:ys.drop j=[]:=List.drop_eq_nil_of_le (by simp at hj;omega)
  simp [Op.eqFields,h1,h2]
 | f::r,j,⟨h1,h2,h3,h4⟩,hj=>by
  have hx:j<xs.length:=by simp at hj;omega
  have hy:j<ys.length:=by omega
  have p1:(part f.type (xs.map (Value.int .i64)).toArray f.offset).run P W=.ok (.int .i64 xs[j]) W:=by
   simp [part,isAgg,run_underlying h3,h2,hx]
  have p2:(part f.type (ys.map (Value.int .i64)).toArray f.offset).run P W=.ok (.int .i64 ys[j]) W:=by
   simp [part,isAgg,run_underlying h3,h2,hy]
  unfold Op.eqFields
  rw [if_pos h1]
  simp only [Sem.run_bind,p1,p2,Result.andThen_ok,run_equalIn_int W d f.type .i64 .i64 _ _ h3]
  rw [List.drop_eq_getElem_cons hx,List.drop_eq_getElem_cons hy]
  by_cases e:xs[j]=ys[j]
  ·have e':(xs[j] == ys[j])=true:=by simpa using e
   simp only [e',Bool.not_true,Bool.false_eq_true,if_false]
   rw [eqFields_i d xs ys hl W r (j+1) h4 (by simp at hj;omega)]
   simp only [List.cons.injEq,e,true_and]
  ·have e':(xs[j] == ys[j])=false:=by simpa using e
   simp only [e',Bool.not_false,if_true,Sem.run_pure,List.cons.injEq,e,false_and,decide_false]
section
variable {P:Program} {n:Nat} {ops:Array Oper} {o:Oper} {rest:List Oper} {env:Env} {bx:Bxs} {H:Hs} {Q:EQ} {d:Nat}
theorem EVL.eqS {T T':TypeId} {x y:Operand} (xs ys:List Int) (ho:o.op=.binOp .eql T x y T') (hw:wantB ops env o=some true) (hd:o.dst=some d) (hn:Nat.blt d n=true) (hx:env.op x=some (.v (.agg (xs.map (Value.int .i64)).toArray))) (hy:env.op y=some (.v (.agg (ys.map (Value.int .i64)).toArray)))
  (hm:P.eqGuardType P.depth T=false) (hp:P.stoodInHeld T=false) (ht:P.underlying T=some (.struct (P.fieldsOf T))) (hf:FldsI P 0 (P.fieldsOf T).toList) (hq:(P.fieldsOf T).toList.length=xs.length) (hl:xs.length=ys.length)
  (h:EVL P n ops rest ((d,.v (.bool (decide (xs=ys))))::env) bx H Q):EVL P n ops (o::rest) env bx H Q :=
 EVL.gen hw hd hn (fun ev W he=>by
  have h1:=he x _ (by simp [ho,Op.operands]) hx
  have h2:=he y _ (by simp [ho,Op.operands]) hy
  have h3:=eqFields_i (P:=P) 9998 xs ys hl W (P.fieldsOf T).toList 0 hf oM
  rw [List.drop_zero,List.drop_zero] at h3
  have h4:(eqGuard .eql T x y (.agg (xs.map (Value.int .i64)).toArray) (.agg (ys.map (Value.int .i64)).toArray)).run P W=.ok () W:=run_eqGuard_agg W .eql T x y _ _ hm
  have h5:(binOp .eql T (.agg (xs.map (Value.int .i64)).toArray) (.agg (ys.map (Value.int .i64)).toArray)).run P W=.ok (.bool (decide (xs=ys))) W:=by
   rw [run_eql_struct,run_equalIn_struct W 9999 T _ _ ht hp,h3];rfl
  unfold execOp
  simp [ho,h1,h2,h4,h5]) h
end
set_option maxRecDepth 100000 in
theorem fault_flds:FldsI prog 0 (Tryz.prog.fieldsOf 40).toList:=⟨by decide +kernel,by kernel_rfl,by kernel_rfl,by decide +kernel,by kernel_rfl,by kernel_rfl,by decide +kernel,by kernel_rfl,by kernel_rfl,trivial⟩
set_option maxRecDepth 100000 in
theorem known6_pc {H:Hp}:PC prog 14 #[] H fun r _=>r=.bool true:=by
 have hp:=fun G:Hp=>sheetParse_pc (H:=G) ex6 (by decide)
 have hq:=fun G:Hp=>sheetParse_pc (H:=G) no6 (by decide)
 rw [ex6_eq] at hp
 rw [no6_eq] at hq
 refine BD func14 ntmps14 ?_
 try refine RUN ?_
 refine EVL.call rfl rfl rfl rfl rfl (hp _) ?_
 rintro _ G1 ⟨v,w,rfl,hc,hr⟩ hG1
 obtain ⟨a1,c1,rfl⟩:∃ a c,v=.slice a 2 c:=hc.val
 obtain ⟨a2,c2,rfl⟩:∃ a c,w=.slice a 2 c:=LR.val hr
 try refine RUN ?_
 refine EVL.call rfl rfl rfl rfl rfl (hq _) ?_
 rintro _ G2 ⟨rfl,_⟩ hG2
 obtain ⟨css,hcs,hsl⟩:=LR.mono PRows.ok hr hG2
 obtain ⟨q0,hcut0,v0,rfl,hr0⟩:=hcs.get PRows.ok (j:=0) rfl
 obtain ⟨q1,hcut1,v1,rfl,hr1⟩:=hcs.get PRows.ok (j:=1) rfl
 obtain ⟨b0,d0,rfl⟩:∃ a c,v0=.slice a 2 c:=LR.val hr0
 obtain ⟨b1,d1,rfl⟩:∃ a c,v1=.slice a 2 c:=LR.val hr1
 obtain ⟨cs0,hcs0,hsl0⟩:=hr0
 obtain ⟨cs1,hcs1,hsl1⟩:=hr1
 obtain ⟨_,hc01,rfl⟩:=hcs0.get PCell.ok (j:=1) rfl
 obtain ⟨_,hc10,rfl⟩:=hcs1.get PCell.ok (j:=0) rfl
 try refine RUN ?_
 refine EVL.eqS [0,0,0] [0,0,0] rfl rfl rfl rfl rfl rfl kR kR kR fault_flds kR rfl ?_
 rw [decide_eq_true rfl]
 try refine RUN ?_
 refine EVL.idxM tO rfl rfl rfl rfl rfl rfl rfl rfl rfl (hsl) (0) (rfl) ((by decide)) (hcut0) ?_
 try refine RUN ?_
 refine EVL.idxM tO rfl rfl rfl rfl rfl rfl rfl rfl rfl (hsl0) (1) (rfl) ((by decide)) (hc01) ?_
 try refine RUN ?_
 refine EVL.idxM tO rfl rfl rfl rfl rfl rfl rfl rfl rfl (hsl) (1) (rfl) ((by decide)) (hcut1) ?_
 try refine RUN ?_
 refine EVL.idxM tO rfl rfl rfl rfl rfl rfl rfl rfl rfl (hsl1) (0) (rfl) ((by decide)) (hc10) ?_
 try refine RUN ?_
 rfl
end Go.Proofs.YtbcfidllfimehaaGreatDoor
namespace Go.Proofs.YtbcfidllfimehaaGreatDoor
open Go.ChangeShapes Go.WideShapes Go.ChangeAt Go.RowKit
def hpOf (W:World):Hp:=fun b=>match W.heap[b]? with
 | some (.cells c _ _)=>some c
 | _=>none
theorem fits_hpOf (W:World):Fits (hpOf W) W:=fun b c h=>by
 unfold hpOf at h
 split at h
 ·rename_i c' T fz hb;cases h;exact ⟨T,fz,hb⟩
 ·cases h
section
variable {H:Type} {enc:TypeId × Value→H} {P:Program} {w:World} {base:Nat} {spare:Nat→Bool} {held:Bool}
theorem ints_open {t e:TypeId} {k:IntKind} {fuel:Nat} {cs:List Value} {x:DataW H × List MemPlace} (ht:P.underlying t=some (.slice e)) (he:P.underlying e=some (.int k)) (hc:P.cellsOf e=1) (h:DataW.trod enc P w base spare held fuel t cs=some x) :
  ∃ a len cap zs,cs=[.slice a len cap]∧SlN (fun z:Int=>Value.int k z) (hpOf w) (.slice a len cap) zs∧∀ n∈zs,(Lit.int k n).wf=true:=by
 rcases open_ints ht he hc h with ⟨rfl,_⟩ | ⟨x,len,cap,zs,rfl,_,hl,hm,hz,_,hcell,hw⟩
 ·exact ⟨none,0,0,[],rfl,nil_sl _ _,fun n hn=>by cases hn⟩
 ·have hzl:len≤zs.length:=by rw [hz];split <;> omega
  refine ⟨some x,len,cap,zs.take len,rfl,?_,fun n hn=>hw n (List.mem_of_mem_take hn)⟩
  have hlen:(zs.take len).length=len:=by rw [List.length_take];omega
  unfold SlN
  rw [hlen]
  refine ⟨by rw [List.length_map,hlen,Nat.mul_one],?_⟩
  by_cases h0:len=0
  ·subst h0;exact .inl ⟨rfl,some x,cap,rfl⟩
  ·right
   have h1:=hcell 0 oM
   obtain ⟨b,off,sp⟩:=x
   have hsp:sp=none:=by
    cases sp with
    | none=>rfl
    | some s=>simp only [World.cell?,Addr.add] at h1;split at h1 <;> simp_all
   subst hsp
   have hb:∃ c,hpOf w b=some c∧∀ i,i<zs.length→c[off+i]?=some (.int k (zs.getD i 0)):=by
    simp only [Addr.add_mid] at hcell
    unfold World.cell? at hcell
    unfold hpOf
    simp only at hcell
    cases hw':w.heap[b]? with
    | none=>have:=hcell 0 oM;rw [hw'] at this;cases this
    | some o =>
     cases o with
     | cells c T fz=>exact ⟨c,rfl,fun i hi=>by have:=hcell i hi;rw [hw'] at this;simpa using this⟩
     | _=>have:=hcell 0 oM;rw [hw'] at this;cases this
   obtain ⟨c,hc1,hc2⟩:=hb
   refine ⟨b,off,cap,c,rfl,hl,hc1,fun j y hj=>?_⟩
   rw [List.getElem?_map,List.getElem?_take] at hj
   split at hj
   ·rename_i hjl
    rw [hc2 j oM,← hj,List.getD_eq_getElem?_getD,List.getElem?_eq_getElem (by omega)];rfl
   ·cases hj
end
theorem i64_bounds {z:Int} (h:(Lit.int .i64 z).wf=true):-9223372036854775808≤z∧z<9223372036854775808:=by
 have:=bounds_i64 h;omega
end Go.Proofs.YtbcfidllfimehaaGreatDoor
namespace Go.Proofs.YtbcfidllfimehaaGreatDoor
open Go.ChangeShapes Go.WideShapes Go.ChangeAt Go.RowKit
def Raw6 (H:Hp) (v:Value):Prop:=∃ u w cols cells rows,v=.agg #[u,w,.int .i64 rows]∧(IL H u cols∧∀ z,z∈cols→i64b z)∧(IL H w cells∧∀ z,z∈cells→i64b z)∧i64b rows
theorem three_of {α:Type}:∀ {l:List α},l.length=3→∃ a b c,l=[a,b,c]
 | [a,b,c],_=>⟨a,b,c,rfl⟩
theorem raw6_open {H:Type} {enc:TypeId × Value→H} {w:World} {base:Nat} {spare:Nat→Bool} {held:Bool} {v:Value} {d:DataW H} {p:List MemPlace} (hv:∃ cs,v=.agg cs) (h:DataW.Trod enc Tryz.prog w base spare held 24 v d p):Raw6 (hpOf w) v:=by
 obtain ⟨cs,rfl⟩:=hv
 obtain ⟨fuel,h⟩:=h
 obtain ⟨xs,n,_,hx,hl,hlen,hf⟩:=DataW.trod_struct Tryz.underlying24 h
 rw [show Tryz.prog.cellsOf 24=3 from by kernel_rfl] at hl
 have hl4:cs.toList.length=3:=hl
 obtain ⟨l,rfl⟩:∃ l:List Value,cs=l.toArray:=⟨cs.toList,by simp⟩
 have hl4':l.length=3:=by simpa using hl4
 obtain ⟨c0,c1,c2,rfl⟩:=three_of hl4'
 have hx4:xs.length=3:=hlen
 have f0:DataW.trod enc Tryz.prog w base spare held n 22 (([c0,c1,c2].drop 0).take (Tryz.prog.cellsOf 22))=xs[0]?:=hf 0 _ rfl
 have f1:DataW.trod enc Tryz.prog w base spare held n 22 (([c0,c1,c2].drop 1).take (Tryz.prog.cellsOf 22))=xs[1]?:=hf 1 _ rfl
 have f2:DataW.trod enc Tryz.prog w base spare held n 3 (([c0,c1,c2].drop 2).take (Tryz.prog.cellsOf 3))=xs[2]?:=hf 2 _ rfl
 rw [show Tryz.prog.cellsOf 3=1 from by kernel_rfl] at f2
 rw [show Tryz.prog.cellsOf 22=1 from by kernel_rfl] at f0 f1
 rw [List.getElem?_eq_getElem (by omega)] at f0 f1 f2
 obtain ⟨a0,l0,k0,b0,e0,s0,d0⟩:=ints_open Tryz.underlying22 Tryz.underlying3 kR f0
 obtain ⟨a1,l1,k1,b1,e1,s1,d1⟩:=ints_open Tryz.underlying22 Tryz.underlying3 kR f1
 obtain ⟨z2,e2,_,w2⟩:=DataW.trod_int Tryz.underlying3 f2
 have g0:[c0]=[.slice a0 l0 k0]:=e0
 have g1:[c1]=[.slice a1 l1 k1]:=e1
 have g2:[c2]=[.int .i64 z2]:=e2
 cases g0;cases g1;cases g2
 exact ⟨_,_,b0,b1,z2,rfl,⟨s0,fun z hz=>i64_bounds (d0 z hz)⟩,⟨s1,fun z hz=>i64_bounds (d1 z hz)⟩,i64_bounds w2⟩
end Go.Proofs.YtbcfidllfimehaaGreatDoor
namespace Go.Proofs.YtbcfidllfimehaaGreatDoor
open Go.RowKit _root_.Go.Proofs.Tryz
theorem emptyRows (G:Hp):RRows G (.slice none 0 0) []:=⟨[],LsR.nil,rfl,.inl ⟨rfl,none,0,rfl⟩⟩
theorem emptyPRows (G:Hp):PRows G (.slice none 0 0) []:=⟨[],LsR.nil,rfl,.inl ⟨rfl,none,0,rfl⟩⟩
theorem emptyCols (G:Hp):ColL G (.slice none 0 0) []:=⟨[],LsR.nil,rfl,.inl ⟨rfl,none,0,rfl⟩⟩
set_option maxRecDepth 100000 in
set_option maxHeartbeats 32000000 in
theorem sheetTexts_pc {H:Hp} {v w:Value} {at':List Int} {raw:ByteArray} {any:Bool} (hx:Raw6 H v) (hat:IL H w at') (hb:∀ z,z∈at'→i64b z):PC prog 3 #[v,w,.string raw,.bool any] H fun r _=>r=.bool true:=by
 obtain ⟨u,y,cols,cells,rows,rfl,⟨hc,hcb⟩,⟨hy,hyb⟩,hr⟩:=hx
 obtain ⟨wa,wc,rfl⟩:=SlC.val hat
 have hn:(rows % 13).toNat≤12:=by have:=Int.emod_lt_of_pos rows (show (0:Int)<13 by decide);omega
 obtain ⟨hok,hlen⟩:=mRows_ok cells cols (rows % 13).toNat hn
 refine BD func3 ntmps3 ?_
 try refine RUN ?_
 refine EVL.call rfl rfl rfl rfl rfl (mSheet_pc hc hy hcb hyb hr) ?_
 rintro _ G1 ⟨x1,x2,rfl,h1,h2⟩ hG1
 try refine RUN ?_
 refine EVL.call rfl rfl rfl rfl rfl (rsheetText_pc h1 h2 hok oM) ?_
 rintro _ G2 rfl hG2
 try refine RUN ?_
 refine EVL.call rfl rfl rfl rfl rfl (bent_pc (hat.mono (hG1.trans hG2)) hb _ oM) ?_
 rintro _ G3 ⟨s0,rfl,hs0⟩ hG3
 try refine RUN ?_
 refine EV.meetK (ι:=List UInt8) [] [] (fun l=>[(9,.v (.string (sb l)))]) (fun _=>[]) (fun _=>[]) (fun l _=>l.length≤100003) rfl rfl (fun _=>rfl) ?_ ?_
 ·cases any with
  | false =>
   try refine RUN ?_
   exact ⟨s0,⟨rfl,trivial⟩,sB,trivial,sB,rfl,hs0⟩
  | true =>
   try refine RUN ?_
   refine EVL.convCallO (u:=.string) (e:=5) rfl rfl rfl rfl kR kR kR rfl rfl rfl rfl rfl (fun G g cap c h1 h2 h3=>few_po (n8_sl h1 h2 h3) 2000 (by decide)) ?_
   rintro g cap v ow ⟨b,cap2,sp,rfl,rfl⟩
   have hl:((raw.data.toList.map (·.toNat)).take 2000).length=(raw.data.toList.take 2000).length:=by rw [List.length_take,List.length_take,List.length_map]
   rw [hl,few_back]
   refine EVL.strOf (e:=5) rfl rfl rfl rfl kR kR kR (raw.data.toList.take 2000) rfl 0 rfl (fun j hj=>?_) ?_
   ·rw [List.getElem?_append_left (by rw [List.length_map];exact hj),List.getElem?_map,List.getElem?_eq_getElem hj];rfl
   refine EVL.subOw [] [(b,_,_)] [] rfl ?_
   try refine RUN ?_
   exact ⟨_,⟨rfl,trivial⟩,sB,trivial,sB,rfl,by rw [List.length_take];omega⟩
 rintro s G4 hs
 have hp:=fun G:Hp=>sheetParse_pc (H:=G) s oM
 have hq:=fun G:Hp=>rsheetParse_pc (H:=G) s oM
 try refine RUN ?_
 refine EVL.call rfl rfl rfl rfl rfl (hp _) ?_
 rintro r1 G5 ha hG5
 obtain ⟨e1,e2,e3,C,R,v1,v2,rfl,hps,hv1,hv2,sm⟩:∃ (e1 e2 e3:Nat) (C:List ColT) (R:List (List CellT)) (v1 v2:Value),r1=.tuple #[.agg #[v1,v2],.agg #[.int .i64 (e1:Int),.int .i64 (e2:Int),.int .i64 (e3:Int)]]∧(∀ (G:Hp) (r:Value),RParseAns G r (pSheet s)→∃ w1 w2,r=.tuple #[.agg #[w1,w2],.agg #[.int .i64 (e1:Int),.int .i64 (e2:Int),.int .i64 (e3:Int)]]∧ColL G w1 C∧RRows G w2 R)∧ColL G5 v1 C∧PRows G5 v2 R∧SmSh C R:=by
  cases hx:pSheet s with
  | error e =>
   rw [hx] at ha
   obtain ⟨rfl,_⟩:=ha
   refine ⟨e.1,e.2.1,e.2.2,[],[],_,_,rfl,fun G r h=>?_,emptyCols _,emptyPRows _,⟨Nat.zero_le _,(fun c hc=>by cases hc),Nat.zero_le _,(fun c hc=>by cases hc)⟩⟩
   obtain ⟨rfl,_⟩:=h
   exact ⟨_,_,rfl,emptyCols _,emptyRows _⟩
  | ok t =>
   rw [hx] at ha
   obtain ⟨v1,v2,rfl,h1,h2⟩:=ha
   refine ⟨0,0,0,t.1,t.2,v1,v2,rfl,fun G r h=>?_,h1,h2,pSheet_sm hx⟩
   obtain ⟨w1,w2,rfl,k1,k2⟩:=h
   exact ⟨w1,w2,rfl,k1,k2⟩
 have hos:=fun G (hG:G5.Le G)=>outSheet_pc (hv1.mono SCol.ok hG) (LR.mono PRows.ok hv2 hG) sm
 obtain ⟨_,_,rfl⟩:=hv1.val
 obtain ⟨_,_,rfl⟩:=LR.val hv2
 try refine RUN ?_
 refine EVL.call rfl rfl rfl rfl rfl (hq _) ?_
 rintro r2 G6 hb2 hG6
 obtain ⟨w1,w2,rfl,hw1,hw2⟩:=hps G6 r2 hb2
 obtain ⟨_,_,rfl⟩:=hw1.val
 obtain ⟨_,_,rfl⟩:=LR.val hw2
 have hsm:=fun G (hG:G6.Le G) x y (k1:ColL G x C) (k2:RRows G y R)=>rsame_pc k1 k2 (hw1.mono SCol.ok hG) (LR.mono RRows.ok hw2 hG) sm
 try refine RUN ?_
 apply EV.drawn 29 kR kR;intro xv yw
 refine' DJ.callS rfl rfl rfl rfl rfl (cO func14) (fun G hG hd=>known6_pc) ?_;rotate_left
 (repeat refine' DD ?_)
 rw [beq_self_eq_true (e1:Int)]
 (repeat refine' DD ?_)
 rw [beq_self_eq_true (e2:Int)]
 (repeat refine' DD ?_)
 rw [beq_self_eq_true (e3:Int)]
 (repeat refine' DD ?_)
 refine' DJ.call rfl rfl rfl rfl rfl (cO func16) (fun G hG hd=>hos G (hG6.trans hG)) (fun _ _ _ h k=>(by obtain ⟨a,b,e,h1,h2⟩:=h;exact ⟨a,b,e,h1.mono SCol.ok k,LR.mono RRows.ok h2 k⟩)) ?_;rotate_left
 (repeat refine' DD ?_)
 refine' DJ.callS rfl rfl rfl rfl rfl (cO func15) (fun G hG hd=>(by obtain ⟨a,b,e,h1,h2⟩:=hd.head kR;rw [e];exact hsm G hG a b h1 h2)) ?_;rotate_left
 (repeat refine' DD ?_)
 (refine DJ.nil (fun G7 hG7 hF7=>?_);(case hS|hS2=>rfl))
 try refine RUN ?_
 rfl
end Go.Proofs.YtbcfidllfimehaaGreatDoor
namespace Go.Proofs.YtbcfidllfimehaaGreatDoor
open Go Go.RowKit
theorem laidE_find {P:Program} {W:World} {n:String} {d:DataW Unit}:∀ {l:List (String × DataW Unit)} {ps:List MemPlace},DataW.LaidVars P W l ps→(n,d)∈l →
  ∃ p,DataW.LaidVars P W [(n,d)] p
 | [],_,_,h=>by cases h
 | (m,x)::r,ps,h,hm=>by
  obtain ⟨g,t,cs,fuel,p,q,h1,h2,h3,h4,h5,h6⟩:=h
  rcases List.mem_cons.1 hm with hm | hm
  ·cases hm
   exact ⟨_,g,t,cs,fuel,p,[],h1,h2,h3,h4,rfl,rfl⟩
  ·exact laidE_find h5 hm
theorem laid_gH {P:Program} {l:List (String × DataW Unit)} {W:World} {α:Type} (f:α→Int) (h:laidMet P l W) {n:String} {zs:List α} {kd:IntKind} {g:Nat} {T e:TypeId} (hmem:(n,.agg (zs.map fun z=>.lit (.int kd (f z))))∈l) (hg:P.globalNamed n=some g) (ht:(P.globals[g]?).map (·.type)=some T)
  (hT:P.underlying T=some (.array zs.length e)) (he:P.underlying e=some (.int kd)) (hc:P.cellsOf e=1) (hcT:P.cellsOf T=zs.length) :
  ∃ U fz,W.heap[g]?=some (.cells (zs.map fun z=>Value.int kd (f z)).toArray U fz):=by
 obtain ⟨ps,hl,_⟩:=h
 obtain ⟨p0,g',t,cs,fuel,p,q,hg',ht',hv,hd,_,_⟩:=laidE_find hl hmem
 obtain rfl:=Option.some.inj (hg.symm.trans hg')
 obtain rfl:=Option.some.inj (ht.symm.trans ht')
 obtain ⟨xs,m,_,ex,hcl,hlen,hel⟩:=DataW.trod_array hT hd
 have hb:∃ U fz,W.heap[g]?=some (.cells cs U fz):=by
  simp only [World.var?,hg,Option.bind_some] at hv
  split at hv
  ·rename_i c U fz hc';cases hv;exact ⟨U,fz,hc'⟩
  ·cases hv
 obtain ⟨U,fz,hb⟩:=hb
 refine ⟨U,fz,?_⟩
 rw [hb]
 congr 2
 apply Array.ext'
 rw [hcT] at hcl
 have e3:(xs.map (·.1))=zs.map fun n=>.lit (.int kd (f n)):=(DataW.agg.inj (Prod.mk.inj ex).1).symm
 apply List.ext_getElem?
 intro r
 rcases Nat.lt_or_ge r zs.length with hr | hr
 ·have hE:=hel r hr
  rw [hc,Nat.mul_one,List.getElem?_eq_getElem (by omega)] at hE
  obtain ⟨z,e1,e2,_⟩:=DataW.trod_int he hE
  have e4:(xs.map (·.1))[r]?=(zs.map fun n=>(DataW.lit (.int kd (f n)):DataW Unit))[r]?:=by rw [e3]
  rw [List.getElem?_map,List.getElem?_map,List.getElem?_eq_getElem (by omega:r<xs.length),List.getElem?_eq_getElem hr,e2] at e4
  simp only [Option.map_some,Option.some.injEq,DataW.lit.injEq,Lit.int.injEq,true_and] at e4
  have h0:((cs.toList.drop r).take 1)[0]?=some (.int kd z):=by rw [e1];rfl
  simp only [List.getElem?_take,List.getElem?_drop,Nat.add_zero] at h0
  rw [if_pos (by omega)] at h0
  rw [h0,e4]
  simp [hr]
 ·rw [List.getElem?_eq_none oM,List.getElem?_eq_none (by simpa using hr)]
theorem fits_gH {l:List (String × DataW Unit)} {W:World} (h:laidMet Tryz.prog l W) (hmem:("math/bits.deBruijn64tab", .agg (Lib.deBruijn64tab.map fun (z:Nat)=>.lit (.int .u8 z)))∈l):Fits gH W:=fun b c hb=>by
 unfold gH at hb
 split at hb
 ·rename_i hbb
  cases hb
  obtain rfl:=Nat.eq_of_beq_eq_true hbb
  exact laid_gH (fun z:Nat=>(z:Int)) h hmem kR kR Tryz.underlying302 Tryz.underlying5 kR kR
 ·cases hb
end Go.Proofs.YtbcfidllfimehaaGreatDoor
