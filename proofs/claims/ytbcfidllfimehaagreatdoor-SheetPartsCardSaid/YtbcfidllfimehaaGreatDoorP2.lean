/- Texts of ours in one: NatC, Str2, NatD, NatDK, NatDL, NatE, NatF, Oct, NatG, Gcd, Gc0, Rp1, DivR, Wr, Ev12, Ev13, Ev14, Ev15, Str1, Re1, Re2, Re3, Re4, Re5, Gs32, Re6, Re7, Re8, Rat, Ht, Wh1, Rf1, Wh2, Wh3, Rf2, Rf3, Gc1, Gc2, Tz, Gc3, Gc4. -/
import Derived.Test.YtbcfidllfimehaaGreatDoorP0
import Derived.Test.YtbcfidllfimehaaGreatDoorP1
import Derived.Lib.ItoaMem
import Derived.Lib.AppendIntMem
import Derived.Lib.ItoaWalk
import Derived.WalkKit
import Derived.BigCall
import Derived.BigGuard
import Derived.Lib.TrailingZeros
import Derived.Deep.Upon
import Derived.Shelf.Spec.TrailingZeros
set_option linter.unusedVariables false
set_option linter.unusedSimpArgs false

namespace Go.Proofs.YtbcfidllfimehaaGreatDoor
open Go.RowKit _root_.Go.Proofs.Tryz
theorem words_po (n:Nat) (hn:big n) (H:Hp):PO prog 80 #[natV n] H fun v ow=>OwnL 73 1 v (dig W64 n).length ((dig W64 n).map n64) ow:=by
 by_cases h:n=0
 ·subst h
  refine ⟨(cO func80),fun W hW _=>(words_zero W).mono fun e W' ⟨he,hb⟩=>?_⟩
  rw [dig_zero]
  exact ⟨_,[],he,OwnL.nil _ _,⟨by simp,fun b T cs hm=>by cases hm⟩,hb⟩
 ·refine ⟨(cO func80),fun W hW _=>(words_any n W h hn).mono fun e W' ⟨g,hg,he,hB,hb⟩=>?_⟩
  have hl:=dig_len_big hn
  refine ⟨_,[(g,73,(dig W64 n).map n64)],he,OwnL.full (by simp) oM,⟨by simp,fun b T cs hm=>?_⟩,hb⟩
  simp at hm
  obtain ⟨rfl,rfl,rfl⟩:=hm
  exact ⟨hg,hB⟩
theorem natAdd_small (a b:Nat) (ha:a<W64) (hb:b<W64):PV prog 206 #[natV a,natV b] (natV (a+b)):=by
 have hp:=add_parts ha hb (Nat.zero_le 1)
 refine PV.of_pc ?_
 refine BD func206 ntmps206 ?_
 try refine RUN ?_
 rw [more_lt ha]
 try refine RUN ?_
 rw [more_lt hb]
 try refine RUN ?_
 refine EVL.ext rfl rfl rfl rfl rfl (add64_run0 (lo a) (lo b)) ?_
 rw [lo_of_lt ha,lo_of_lt hb]
 try refine RUN ?_
 generalize addLo a b 0=s at *
 generalize hc:addHi a b 0=c at *
 by_cases h0:c=0
 ·rw [show (((c:Nat):Int) == 0)=true by simp [h0]]
  try refine RUN ?_
  have e:a+b=s:=by rw [h0] at hp;omega
  rw [e,natV_small hp.2.1]
 ·have h1:c=1:=by omega
  rw [show (((c:Nat):Int) == 0)=false by simp [h0]]
  try refine RUN ?_
  refine EVL.lit tO rfl rfl rfl rfl rfl rfl rfl rfl rfl rfl rfl fun g=>?_
  refine EVL.publish [] [] rfl fun G hG hg=>?_
  have hs:SlN n64 G (.slice (some ⟨g,0,none⟩) 2 2) [s,c]:=⟨rfl,.inr ⟨g,0,2,_,rfl,Nat.le_refl _,hg,fun j x hj=>by simpa using hj⟩⟩
  have hf:=fromWords_pc hs (Dig.cons hp.2.1 (Dig.cons (by rw [h1];decide) (Dig.nil _))) (by simp)
  rw [show val W64 [s,c]=a+b by simp only [val];rw [Nat.mul_zero,Nat.add_zero,Nat.mul_comm];omega] at hf
  refine EVL.call rfl rfl rfl rfl rfl hf ?_
  rintro v H' rfl hle
  try refine RUN ?_
  rfl
structure AddInv (x y cur:List Nat) (i c:Nat):Prop where
 len:cur.length=x.length
 dig:Dig W64 cur
 keep:∀ k,i≤k→cur.getD k 0=x.getD k 0
 sum:val W64 (cur.take i)+c*W64 ^ i=val W64 (x.take i)+val W64 (y.take i)
 carry:c≤1
theorem val_take_getD (l:List Nat) (i:Nat):val W64 (l.take (i+1))=val W64 (l.take i)+l.getD i 0*W64 ^ i:=by
 by_cases h:i<l.length
 ·rw [List.take_succ_eq_append_getElem h,val_snoc,List.length_take,Nat.min_eq_left (Nat.le_of_lt h)]
  simp [h,Nat.mul_comm]
 ·rw [List.take_of_length_le oM,List.take_of_length_le (by omega)]
  simp [Nat.not_lt.1 h]
theorem AddInv.step {x y cur:List Nat} {i c:Nat} (h:AddInv x y cur i c) (hi:i<x.length) (hy:Dig W64 y):AddInv x y (cur.set i (addLo (cur.getD i 0) (y.getD i 0) c)) (i+1) (addHi (cur.getD i 0) (y.getD i 0) c):=by
 have hil:i<cur.length:=by rw [h.len];exact hi
 have hx:cur.getD i 0<W64:=by simp only [List.getD_eq_getElem?_getD,List.getElem?_eq_getElem hil,Option.getD_some];exact h.dig.get i hil
 have hyi:y.getD i 0<W64:=by
  by_cases hl:i<y.length
  ·simp only [List.getD_eq_getElem?_getD,List.getElem?_eq_getElem hl,Option.getD_some];exact hy.get i hl
  ·simp [Nat.not_lt.1 hl];decide
 obtain ⟨h1,h2,h3⟩:=add_parts hx hyi h.carry
 refine ⟨by simp [h.len],h.dig.set _ _ h2,fun k hk=>?_,?_,h3⟩
 ·rw [← h.keep k (by omega)]
  simp [List.getD_eq_getElem?_getD,List.getElem?_set_ne (show i≠k by omega)]
 ·have e1:val W64 ((cur.set i (addLo (cur.getD i 0) (y.getD i 0) c)).take (i+1))=val W64 (cur.take i)+addLo (cur.getD i 0) (y.getD i 0) c*W64 ^ i:=by
   rw [val_take_getD,List.take_set_of_le (Nat.le_refl _)]
   simp [List.getD_eq_getElem?_getD,hil]
  have e2:=val_take_getD x i
  have e3:=val_take_getD y i
  have e4:=h.keep i (Nat.le_refl _)
  rw [e1,e2,e3,← e4,Nat.pow_succ]
  have hs:=h.sum
  generalize addLo (cur.getD i 0) (y.getD i 0) c=s at *
  generalize addHi (cur.getD i 0) (y.getD i 0) c=c' at *
  generalize cur.getD i 0=u at *
  generalize y.getD i 0=w at *
  generalize W64 ^ i=p at *
  have h5:(s+c'*W64)*p=(u+w+c)*p:=by rw [h1]
  grind
theorem natAdd_big (a b:Nat) (h:¬ (a<W64∧b<W64)) (ha:big a) (hb:big b):PV prog 206 #[natV a,natV b] (natV (a+b)):=by
 refine PV.of_pc ?_
 refine BD func206 ntmps206 ?_
 try refine RUN ?_
 have hpa:=fun G=>words_po a ha G
 have hpb:=fun G=>words_po b hb G
 refine EVL.meet (fun env' bx' H'=>SubL env' [(4,.p 4 0),(3,.p 3 0),(2,.p 2 0),(19,.v (.bool false))]∧SubX bx' [(4,75,Tryz.te75.zero),(3,75,[.int .u64 (lo b:Int),.string (moreB b)]),(2,75,[.int .u64 (lo a:Int),.string (moreB a)])]∧H'=⟨fun _=>none,[],⟨fun _=>none,[]⟩⟩) ?_ ?_
 ·rintro env' bx' H' _ ⟨he,hbx,rfl⟩
  refine EV.less _ _ he hbx rfl ?_
  try refine RUN ?_
  apply EV.drawn 6 kR kR
  intro x y
  refine' DJ.val tO rfl rfl rfl rfl rfl ?_;rotate_left
  refine' DJ.callO rfl rfl rfl rfl rfl (hpa gH).can (fun G _ _=>hpa G) ?_;rotate_left
  refine' DJ.val tO rfl rfl rfl rfl rfl ?_;rotate_left
  refine' DJ.callO rfl rfl rfl rfl rfl (hpb gH).can (fun G _ _=>hpb G) ?_;rotate_left
  refine' DJ.copy (0+1) (.inr rfl) rfl rfl rfl id rfl kR ?_;rotate_left
  refine' DJ.copy (0+1+1+1) (.inr rfl) rfl rfl rfl id rfl kR ?_;rotate_left
  refine DJ.nil (fun G hG hF=>?_)
  case hS=>rfl
  case hS2=>rfl
  obtain ⟨hob,hoa,_⟩:=hF
  change OwnL _ _ _ _ _ _ at hob hoa
  generalize x (0+1+1+1)=vb at *
  generalize x (0+1)=va at *
  generalize y (0+1+1+1)=ob at *
  generalize y (0+1)=oa at *
  obtain ⟨aa,ca,rfl⟩:=hoa.val
  obtain ⟨ab,cb,rfl⟩:=hob.val
  have la:=dig_len_big ha
  have lb:=dig_len_big hb
  have vla:=dig_val W64_two a
  have vlb:=dig_val W64_two b
  have da:=(dig_norm W64_two a).1
  have db:=(dig_norm W64_two b).1
  have pos:0<(dig W64 a).length∨0<(dig W64 b).length:=by
   rcases Nat.eq_zero_or_pos (dig W64 a).length with e | e
   ·rcases Nat.eq_zero_or_pos (dig W64 b).length with e' | e'
    ·have h1:=dig_len_zero W64_two e
     have h2:=dig_len_zero W64_two e'
     exact absurd ⟨by rw [h1];decide,by rw [h2];decide⟩ h
    ·exact .inr e'
   ·exact .inl e
  have hab:val W64 (dig W64 a)+val W64 (dig W64 b)=a+b:=by rw [vla,vlb]
  have hba:val W64 (dig W64 b)+val W64 (dig W64 a)=a+b:=by rw [vla,vlb,Nat.add_comm]
  generalize dig W64 a=xa at *
  generalize dig W64 b=xb at *
  clear hpa hpb ha hb h he hbx vla vlb
  try refine RUN ?_
  refine EV.meet (fun env' bx' H'=>∃ (g cap:Nat) (sp:List Value) (ay:Option Addr) (cy:Nat) (x y:List Nat),SubL env' [(4,.p 4 0),(7,.v (.slice (some ⟨g,0,none⟩) x.length cap)),(8,.v (.slice ay y.length cy))]∧SubX bx' [(4,75,Tryz.te75.zero)]∧H'.ow=[(g,73,x.map n64++sp)]∧(x.map n64++sp).length=cap*1∧x.length≤cap∧cap≤maxLen∧SlN n64 H'.ro (.slice ay y.length cy) y∧y.length≤x.length∧Dig W64 x∧Dig W64 y∧x.length≤15625001∧val W64 x+val W64 y=a+b) ?_ ?_
  ·rintro env' bx' ⟨G1,ow1,base1⟩ hbsbase1 ⟨g,cap,sp,ay,cy,x,y,he,hbx,h1,h2,h3,h4,hs,hyx,dx,dy,lx,hsum⟩
   obtain rfl:base1=⟨fun _=>none,[]⟩:=hbsbase1
   refine EV.less _ _ he hbx rfl ?_
   have h1':ow1=[(g,73,x.map n64++sp)]:=h1
   subst h1'
   try refine RUN ?_
   change SlN n64 G1 _ _ at hs
   clear hoa hob hab hba he hbx pos la lb da db h1
   refine EV.loop (ι:=Nat × Nat × List Nat) (fun q=>[(4,.p 4 0),(7,.v (.slice (some ⟨g,0,none⟩) x.length cap)),(8,.v (.slice ay y.length cy)),(9,.v (n64 q.2.1)),(48,.v (.int .i64 (x.length:Int))),(49,.v (.int .i64 (q.1:Int)))]) (fun _=>[(4,75,Tryz.te75.zero)]) (fun q=>[(g,73,q.2.2.map n64++sp)])
    (fun q G=>q.1≤x.length∧AddInv x y q.2.2 q.1 q.2.1∧SlN n64 G (.slice ay y.length cy) y) (fun q=>x.length-q.1) (0,0,x) ⟨rfl,rfl,rfl,rfl,rfl,rfl,trivial⟩ ⟨rfl,trivial⟩ rfl (fun _=>rfl) ⟨Nat.zero_le _,⟨rfl,dx,fun _ _=>rfl,by simp [val],Nat.zero_le _⟩,hs⟩ ?_
   rintro ⟨i,c,cur⟩ G2 hG2 ⟨hi,hinv,hs2⟩
   dsimp only at hi hinv
   try refine RUN ?_
   by_cases hlt:i<x.length
   ·rw [show decide ((i:Int)<(x.length:Int))=true by simpa using hlt]
    try refine RUN ?_
    refine EV.meet (fun env' bx' H'=>SubL env' [(4,.p 4 0),(7,.v (.slice (some ⟨g,0,none⟩) x.length cap)),(8,.v (.slice ay y.length cy)),(9,.v (n64 c)),(48,.v (.int .i64 (x.length:Int))),(49,.v (.int .i64 (i:Int))),(10,.v (.int .i64 (i:Int))),(11,.v (n64 (y.getD i 0)))]∧SubX bx' [(4,75,Tryz.te75.zero)]∧H'.ow=[(g,73,cur.map n64++sp)]∧G2.Le H'.ro) ?_ ?_
    ·rintro env' bx' ⟨G3,ow3,base3⟩ hbsbase3 ⟨he,hbx,h1,hle⟩
     obtain rfl:base3=⟨fun _=>none,[]⟩:=hbsbase3
     refine EV.less _ _ he hbx rfl ?_
     have h1':ow3=[(g,73,cur.map n64++sp)]:=h1
     subst h1'
     have hil:i<cur.length:=by rw [hinv.len];exact hlt
     have hci:(cur.map n64++sp)[i]?=some (n64 (cur.getD i 0)):=by
      rw [List.getElem?_append_left (by simpa using hil)];simp [hil]
     try refine RUN ?_
     refine EVL.ofVal (ValOk.idxP1 tO rfl rfl rfl rfl rfl rfl rfl rfl i rfl hlt) rfl rfl rfl fun G4 hG4=>?_
     refine EVL.load1 tO rfl rfl rfl rfl rfl rfl rfl rfl 0 rfl hci ?_
     try refine RUN ?_
     refine EVL.ext rfl rfl rfl rfl rfl (fun W=>add64_run (cur.getD i 0) (y.getD i 0) c W hinv.carry) ?_
     try refine RUN ?_
     refine EVL.ofVal (ValOk.idxP1 tO rfl rfl rfl rfl rfl rfl rfl rfl i rfl hlt) rfl rfl rfl fun G5 hG5=>?_
     refine EVL.set1 tO rfl rfl rfl rfl rfl rfl rfl rfl rfl rfl (by simp;omega) ?_
     try refine RUN ?_
     refine ⟨(i+1,addHi (cur.getD i 0) (y.getD i 0) c,cur.set i (addLo (cur.getD i 0) (y.getD i 0) c)),⟨rfl,rfl,rfl,rfl,rfl,?_,trivial⟩,⟨rfl,trivial⟩,?_,⟨by dsimp only;omega,hinv.step hlt dy,hs2.mono (hle.trans (hG4.trans hG5))⟩,hle.trans (hG4.trans hG5),by dsimp only;omega⟩
     ·have e:IntKind.i64.wrap ((i:Int)+1)=((i+1:Nat):Int):=by rw [IntKind.wrap_i64];omega
      rw [e];rfl
     ·dsimp only
      rw [List.set_append_left _ _ (by simpa using hil),List.map_set]
    ·by_cases hly:i<y.length
     ·rw [show decide ((i:Int)<(y.length:Int))=true by simpa using hly]
      have hcy:(y.map n64)[i]?=some (n64 (y.getD i 0)):=by simp [hly]
      try refine RUN ?_
      refine EVL.ofVal (ValOk.idx1 tO rfl rfl rfl rfl rfl rfl rfl rfl hs2 i rfl hly hcy) rfl rfl rfl fun G4 hG4=>?_
      try refine RUN ?_
      exact ⟨⟨rfl,rfl,rfl,rfl,rfl,rfl,rfl,rfl,trivial⟩,⟨rfl,trivial⟩,rfl,hG4⟩
     ·rw [show decide ((i:Int)<(y.length:Int))=false by simpa using hly]
      try refine RUN ?_
      refine ⟨⟨rfl,rfl,rfl,rfl,rfl,rfl,rfl,?_,trivial⟩,⟨rfl,trivial⟩,rfl,Hp.Le.refl _⟩
      rw [show y.getD i 0=0 by simp [Nat.not_lt.1 hly]]
      rfl
   ·rw [show decide ((i:Int)<(x.length:Int))=false by simpa using hlt]
    obtain rfl:i=x.length:=by omega
    have hlen:=hinv.len
    have hfin:=hinv.sum
    rw [List.take_of_length_le oM,List.take_of_length_le (Nat.le_refl _),List.take_of_length_le oM,hsum] at hfin
    have hown:OwnL 73 1 (.slice (some ⟨g,0,none⟩) x.length cap) x.length (cur.map n64) [(g,73,cur.map n64++sp)] :=
     ⟨by simp [hlen],.inr ⟨g,cap,sp,rfl,rfl,by rw [← h2];simp [hlen],h3,h4⟩⟩
    try refine RUN ?_
    refine EV.meet (fun env' bx' H'=>∃ (v:Value) (l:List Nat),SubL env' [(4,.p 4 0),(7,.v v)]∧SubX bx' [(4,75,Tryz.te75.zero)]∧SlN n64 H'.ro v l∧Dig W64 l∧val W64 l=a+b∧l.length≤15625002) ?_ ?_
    ·rintro env' bx' H3 _ ⟨v,l,he,hbx,hl,hD,hv,hll⟩
     refine EV.less _ _ he hbx rfl ?_
     have hf:=fromWords_pc hl hD oM
     rw [hv] at hf
     try refine RUN ?_
     refine EVL.call rfl rfl rfl rfl rfl hf ?_
     rintro v' H' rfl hle
     try refine RUN ?_
     rfl
    ·by_cases hc:c=0
     ·rw [show (((c:Nat):Int) != 0)=false by simp [hc]]
      refine EV.publishL [] [(g,73,cur.map n64++sp)] [] rfl hown fun G' hG' hs'=>?_
      try refine RUN ?_
      rw [hc] at hfin
      refine ⟨_,cur,⟨rfl,rfl,trivial⟩,⟨rfl,trivial⟩,?_,hinv.dig,by omega,by omega⟩
      unfold SlN
      rw [hlen];exact hs'
     ·have hc1:c=1:=by have:=hinv.carry;omega
      rw [show (((c:Nat):Int) != 0)=true by simp [hc]]
      try refine RUN ?_
      refine EVL.lit tO rfl rfl rfl rfl rfl rfl rfl rfl rfl rfl rfl fun gt=>?_
      refine EVL.append tO rfl rfl rfl rfl rfl rfl rfl rfl rfl rfl rfl rfl [(gt,73,[n64 c])] [(g,73,cur.map n64++sp)] [] rfl hown (SrcAt.own 0 rfl rfl) rfl oM ?_
      intro v' ow' hown'
      refine EVL.publishL [(gt,73,[n64 c])] ow' [] rfl hown' fun G' hG' hs'=>?_
      try refine RUN ?_
      refine ⟨_,cur++[c],⟨rfl,rfl,trivial⟩,⟨rfl,trivial⟩,?_,hinv.dig.append (Dig.cons (by rw [hc1];decide) (Dig.nil _)),?_,by simp;omega⟩
      ·change SlC G' v' (x.length+1) 1 (cur.map n64++[n64 c]) at hs'
       unfold SlN
       simpa [hlen] using hs'
      ·rw [val_append,hlen]
       simp only [val]
       rw [Nat.mul_zero,Nat.add_zero,Nat.mul_comm];exact hfin
  ·refine EV.cond rfl (fun hlt=>?_) (fun hlt=>?_)
   ·have hlt':xa.length<xb.length:=by simpa using hlt
    obtain ⟨g,cap,sp,e1,rfl,h2,h3,h4⟩:=hob.block oM
    cases e1
    refine EV.publishL [(g,73,xb.map n64++sp)] oa [] rfl hoa fun G' hG' hs=>?_
    try refine RUN ?_
    exact ⟨g,cb,sp,aa,ca,xb,xa,⟨rfl,rfl,rfl,trivial⟩,⟨rfl,trivial⟩,rfl,h2,h3,h4,hs,by omega,db,da,lb,hba⟩
   ·have hlt':xb.length≤xa.length:=by simpa using hlt
    obtain ⟨g,cap,sp,e1,rfl,h2,h3,h4⟩:=hoa.block oM
    cases e1
    refine EV.publishL [] ob [(g,73,xa.map n64++sp)] rfl hob fun G' hG' hs=>?_
    try refine RUN ?_
    exact ⟨g,ca,sp,ab,cb,xa,xb,⟨rfl,rfl,rfl,trivial⟩,⟨rfl,trivial⟩,rfl,h2,h3,h4,hs,by omega,da,db,la,hab⟩
 ·by_cases h1:a<W64
  ·have h2:¬ b<W64:=fun h2=>h ⟨h1,h2⟩
   rw [more_lt h1]
   try refine RUN ?_
   rw [more_ge h2]
   try refine RUN ?_
   exact ⟨⟨rfl,rfl,rfl,rfl,trivial⟩,⟨rfl,rfl,rfl,trivial⟩,rfl⟩
  ·rw [more_ge h1]
   try refine RUN ?_
   exact ⟨⟨rfl,rfl,rfl,rfl,trivial⟩,⟨rfl,rfl,rfl,trivial⟩,rfl⟩
theorem natAdd_pv (a b:Nat) (ha:big a) (hb:big b):PV prog 206 #[natV a,natV b] (natV (a+b)):=by
 by_cases h:a<W64∧b<W64
 ·exact natAdd_small a b h.1 h.2
 ·exact natAdd_big a b h ha hb
end Go.Proofs.YtbcfidllfimehaaGreatDoor
namespace Go.Proofs.YtbcfidllfimehaaGreatDoor
open Go.RowKit Go.Sort Go.Lib
end Go.Proofs.YtbcfidllfimehaaGreatDoor
namespace Go.Proofs.YtbcfidllfimehaaGreatDoor
open Go.RowKit _root_.Go.Proofs.Tryz
structure SubInv (x y cur:List Nat) (i c:Nat):Prop where
 len:cur.length=x.length
 dig:Dig W64 cur
 keep:∀ k,i≤k→cur.getD k 0=x.getD k 0
 sum:val W64 (cur.take i)+val W64 (y.take i)=val W64 (x.take i)+c*W64 ^ i
 carry:c≤1
theorem sub_sum {s w c u c' p B vc vy vx:Nat} (h1:s+w+c=u+c'*B) (hs:vc+vy=vx+c*p):vc+s*p+(vy+w*p)=vx+u*p+c'*(p*B):=by
 have h5:s*p+w*p+c*p=u*p+c'*(p*B):=by
  have:=congrArg (· * p) h1
  simp only [Nat.add_mul] at this
  rw [this,Nat.mul_assoc c' B p,Nat.mul_comm B p]
 generalize s*p=A1 at *
 generalize w*p=A2 at *
 generalize c*p=A3 at *
 generalize u*p=A4 at *
 generalize c'*(p*B)=A5 at *
 omega
theorem getD_set_l (l:List Nat) (i x:Nat) (h:i<l.length):(l.set i x).getD i 0=x:=by
 rw [List.getD_eq_getElem?_getD,List.getElem?_set_self h];rfl
theorem SubInv.step {x y cur:List Nat} {i c:Nat} (h:SubInv x y cur i c) (hi:i<x.length) (hy:Dig W64 y):SubInv x y (cur.set i (subLo (cur.getD i 0) (y.getD i 0) c)) (i+1) (subHi (cur.getD i 0) (y.getD i 0) c):=by
 have hil:i<cur.length:=by rw [h.len];exact hi
 have hx:cur.getD i 0<W64:=by simp only [List.getD_eq_getElem?_getD,List.getElem?_eq_getElem hil,Option.getD_some];exact h.dig.get i hil
 have hyi:y.getD i 0<W64:=by
  by_cases hl:i<y.length
  ·simp only [List.getD_eq_getElem?_getD,List.getElem?_eq_getElem hl,Option.getD_some];exact hy.get i hl
  ·simp [Nat.not_lt.1 hl];decide
 obtain ⟨h1,h2,h3⟩:=sub_parts hx hyi h.carry
 refine ⟨by simp [h.len],h.dig.set _ _ h2,fun k hk=>?_,?_,h3⟩
 ·rw [← h.keep k (by omega)]
  simp [List.getD_eq_getElem?_getD,List.getElem?_set_ne (show i≠k by omega)]
 ·have e1:val W64 ((cur.set i (subLo (cur.getD i 0) (y.getD i 0) c)).take (i+1))=val W64 (cur.take i)+subLo (cur.getD i 0) (y.getD i 0) c*W64 ^ i:=by
   rw [val_take_getD,List.take_set_of_le (Nat.le_refl _),getD_set_l _ _ _ hil]
  have e2:=val_take_getD x i
  have e3:=val_take_getD y i
  have e4:=h.keep i (Nat.le_refl _)
  rw [e1,e2,e3,← e4,Nat.pow_succ]
  exact sub_sum h1 h.sum
theorem bl_zero_iff (n:Nat):((bl n:Int) == 0)=decide (n=0):=by
 by_cases h:n=0
 ·subst h;rw [bl_zero];rfl
 ·have:bl n≠0:=fun e=>h (bl_eq_zero.1 e)
  simp [h];omega
theorem four_new (w w1:World) (o1 o2 o3 o4:Obj) (n:Nat) (hn:n=w.heap.size) (hb:Below ((((w.alloc o1).alloc o2).alloc o3).alloc o4).heap.size ((((w.alloc o1).alloc o2).alloc o3).alloc o4) w1) :
  w1.heap[n]?=some o1∧w1.heap[n+1]?=some o2∧w1.heap[n+1+1]?=some o3∧w1.heap[n+1+1+1]?=some o4∧n+4≤w1.heap.size:=by
 subst hn
 have hs:=hb.size
 simp at hs
 have a2:((w.alloc o1).alloc o2).heap[w.heap.size+1]?=some o2:=by have:=heap_alloc_new (w.alloc o1) o2;simpa using this
 have a3:(((w.alloc o1).alloc o2).alloc o3).heap[w.heap.size+1+1]?=some o3:=by have:=heap_alloc_new ((w.alloc o1).alloc o2) o3;simpa using this
 have a4:((((w.alloc o1).alloc o2).alloc o3).alloc o4).heap[w.heap.size+1+1+1]?=some o4:=by have:=heap_alloc_new (((w.alloc o1).alloc o2).alloc o3) o4;simpa using this
 refine ⟨?_,?_,?_,?_,by omega⟩
 ·rw [hb.block _ (by simp <;> omega),Below.heap_alloc _ _ _ (by simp <;> omega),Below.heap_alloc _ _ _ (by simp <;> omega),Below.heap_alloc _ _ _ (by simp)];exact heap_alloc_new w o1
 ·rw [hb.block _ (by simp <;> omega),Below.heap_alloc _ _ _ (by simp <;> omega),Below.heap_alloc _ _ _ (by simp)];exact a2
 ·rw [hb.block _ (by simp <;> omega),Below.heap_alloc _ _ _ (by simp)];exact a3
 ·rw [hb.block _ (by simp)];exact a4
theorem cell_at {W:World} {b:Nat} {cs:Array Value} {T:TypeId} (h:W.heap[b]?=some (.cells cs T (0,0))) (j:Nat):W.cell? ⟨b,j,none⟩=cs[j]?:=by
 rw [cell_of_row W b j cs T (0,0) h]
theorem free_at {W:World} {b:Nat} {cs:Array Value} {T:TypeId} (h:W.heap[b]?=some (.cells cs T (0,0))) (j:Nat):W.frozen? ⟨b,j,none⟩=false:=by
 simp [World.frozen?,h]
theorem two_set {W:World} {b:Nat} {x y x' y':Value} {T:TypeId} (h:W.heap[b]?=some (.cells #[x,y] T (0,0))):((W.setCell ⟨b,0,none⟩ x').setCell ⟨b,1,none⟩ y').heap[b]?=some (.cells #[x',y'] T (0,0)):=by
 simp [World.setCell,Array.getElem?_modify,h]
theorem two_other {W:World} {b c:Nat} {x' y':Value} (hne:b≠c):((W.setCell ⟨b,0,none⟩ x').setCell ⟨b,1,none⟩ y').heap[c]?=W.heap[c]?:=by
 simp [World.setCell,Array.getElem?_modify,hne]
theorem two_kept (W:World) (b:Nat) (x' y':Value):Kept (fun k=>k=b) W ((W.setCell ⟨b,0,none⟩ x').setCell ⟨b,1,none⟩ y') :=
 ⟨rfl,rfl,rfl,by simp [World.setCell],fun k _ hk=>two_other (fun e=>hk e.symm)⟩
set_option maxRecDepth 100000 in
set_option maxHeartbeats 400000 in
theorem div_one (a b:Nat) (w:World) (h:b≠0) (ha:a<W64) (hb:b<W64) :
  Calls prog 229 #[natV a,natV b] w fun e w'=>e=.returned (.tuple #[natV (a / b),natV (a % b),.bool true])∧Below w.heap.size w w':=by
 have h2:big b:=Nat.le_trans (bl_le (k:=64) (by rw [← W64_pow];exact hb)) oM
 have q1:a / b<W64:=Nat.lt_of_le_of_lt (Nat.div_le_self a b) ha
 have q2:a % b<W64:=Nat.lt_of_le_of_lt (Nat.mod_le a b) ha
 have hz:(b:Int)≠0:=by omega
 have hbits:=fun w=>bits_any b w h2
 rw [natV_small hb] at hbits
 rw [natV_small ha,natV_small hb,natV_small q1,natV_small q2]
 have e1:((bl b:Int) == 0)=false:=by rw [bl_zero_iff,decide_eq_false h]
 have HB:=hid hbits
 clear hbits h2
 go_enter func229,ntmps229
 go_wp2_with fail
 refine (HB.out _).mono ?_
 rintro e w1 ⟨rfl,hb1⟩
 obtain ⟨n,hn⟩:∃ n,n=w.heap.size:=⟨_,rfl⟩
 obtain ⟨r1,r2,r3,r4,hs⟩:=four_new w w1 _ _ _ _ n hn hb1
 have hbw:Below w.heap.size w w1:=((((((Below.refl _ w).alloc (Nat.le_refl _) _).alloc (by simp) _).alloc (by simp;omega) _).alloc (by simp;omega) _)).trans (hb1.mono (by simp;omega))
 rw [← hn]
 have HB1:=hid (And.intro hb1 (And.intro hn hbw))
 clear hb1 hn hbw
 have c10:=cell_at r1 0
 have c11:=cell_at r1 1
 have c20:=cell_at r2 0
 have c21:=cell_at r2 1
 have c30:=cell_at r3 0
 have c31:=cell_at r3 1
 have c40:=cell_at r4 0
 have c41:=cell_at r4 1
 have f30:=free_at r3 0
 have f31:=free_at r3 1
 have f40:=free_at r4 0
 have f41:=free_at r4 1
 simp only [List.getElem?_toArray,List.getElem?_cons_zero,List.getElem?_cons_succ] at c10 c11 c20 c21 c30 c31 c40 c41
 have R:=hid (And.intro r1 (And.intro r2 (And.intro r3 r4)))
 clear r1 r2 r3 r4
 go_wp2_with fail
 go_region
 go_wp2
 have e2:IntKind.u64.wrap ((a:Int) / (b:Int))=((a / b:Nat):Int):=by
  rw [show ((a:Int) / (b:Int))=((a / b:Nat):Int) by simp,wrapU64]
  simp only [W64_val] at q1
  generalize a / b=q at *
  omega
 have e3:((a:Int) % (b:Int))=((a % b:Nat):Int):=by simp
 rw [e2,e3]
 obtain ⟨r1,r2,r3,r4⟩:=R.out
 obtain ⟨hb1,hn,hbw⟩:=HB1.out
 have k3:=two_kept w1 (n+1+1) (.int .u64 ((a / b:Nat):Int)) (.string ⟨#[]⟩)
 have s3:=two_set (x':=.int .u64 ((a / b:Nat):Int)) (y':=.string ⟨#[]⟩) r3
 have s4:=(k3.block _ (lt_of_block r4) oM).trans r4
 generalize ((w1.setCell ⟨n+1+1,0,none⟩ (.int .u64 ((a / b:Nat):Int))).setCell ⟨n+1+1,1,none⟩ (.string ⟨#[]⟩))=w2 at *
 have k4:=two_kept w2 (n+1+1+1) (.int .u64 ((a % b:Nat):Int)) (.string ⟨#[]⟩)
 have s5:=two_set (x':=.int .u64 ((a % b:Nat):Int)) (y':=.string ⟨#[]⟩) s4
 have s6:=(k4.block _ (lt_of_block s3) oM).trans s3
 generalize ((w2.setCell ⟨n+1+1+1,0,none⟩ (.int .u64 ((a % b:Nat):Int))).setCell ⟨n+1+1+1,1,none⟩ (.string ⟨#[]⟩))=w3 at *
 have t30:=cell_at s6 0
 have t31:=cell_at s6 1
 have t40:=cell_at s5 0
 have t41:=cell_at s5 1
 simp only [List.getElem?_toArray,List.getElem?_cons_zero,List.getElem?_cons_succ] at t30 t31 t40 t41
 refine bodyPost_ret (v:=.tuple #[.agg #[.int .u64 ((a / b:Nat):Int),.string ⟨#[]⟩],.agg #[.int .u64 ((a % b:Nat):Int),.string ⟨#[]⟩],.bool true]) (by simp [results,Tryz.results229,go_sem,t30,t31,t40,t41]) rfl ⟨rfl,?_⟩
 have hb3:Below w.heap.size w w3:=by
  refine hbw.trans ((k3.below _ hbw.size fun j hj e=>by omega).trans (k4.below _ ?_ fun j hj e=>by omega))
  have:=k3.size;have:=hbw.size;omega
 exact ⟨hb3.os,hb3.tape,hb3.output,hb3.size,hb3.block⟩
theorem more_isEmpty (n:Nat):(moreB n).toList.isEmpty=decide (n<W64):=by
 by_cases h:n<W64
 ·rw [moreB_empty h,decide_eq_true h];simp
 ·rw [moreB_ne h,decide_eq_false h]
set_option maxRecDepth 100000 in
set_option maxHeartbeats 400000 in
theorem div_less (a b:Nat) (w:World) (h:a<b) (hs:¬ (a<W64∧b<W64)) (ha:big a) (h2:big b) :
  Calls prog 229 #[natV a,natV b] w fun e w'=>e=.returned (.tuple #[natV 0,natV a,.bool true])∧Below w.heap.size w w':=by
 have hbits:=fun w=>bits_any b w h2
 have hcmp:=fun w=>cmp_any a b w ha h2
 rw [ordN_lt h] at hcmp
 have e1:((bl b:Int) == 0)=false:=by rw [bl_zero_iff,decide_eq_false (by omega)]
 have hm:((moreB a).toList.isEmpty=true∧(moreB b).toList.isEmpty=false)∨(moreB a).toList.isEmpty=false:=by
  rw [more_isEmpty,more_isEmpty]
  by_cases h1:a<W64
  ·exact .inl ⟨decide_eq_true h1,decide_eq_false fun h2=>hs ⟨h1,h2⟩⟩
  ·exact .inr (decide_eq_false h1)
 rw [natV_small (show 0<W64 by decide)]
 unfold natV at *
 generalize lo a=la at *
 generalize lo b=lb at *
 generalize moreB a=ma at *
 generalize moreB b=mb at *
 have HB:=hid (And.intro hbits hcmp)
 clear hbits hcmp h2 ha
 go_enter func229,ntmps229
 go_wp2_with fail
 refine (HB.out.1 _).mono ?_
 rintro e w1 ⟨rfl,hb1⟩
 obtain ⟨n,hn⟩:∃ n,n=w.heap.size:=⟨_,rfl⟩
 obtain ⟨r1,r2,r3,r4,hs⟩:=four_new w w1 _ _ _ _ n hn hb1
 have hbw:Below w.heap.size w w1:=((((((Below.refl _ w).alloc (Nat.le_refl _) _).alloc (by simp) _).alloc (by simp;omega) _).alloc (by simp;omega) _)).trans (hb1.mono (by simp;omega))
 rw [← hn]
 have HB1:=hid (And.intro hb1 (And.intro hn hbw))
 clear hb1 hn hbw
 have c10:=cell_at r1 0
 have c11:=cell_at r1 1
 have c20:=cell_at r2 0
 have c21:=cell_at r2 1
 have c30:=cell_at r3 0
 have c31:=cell_at r3 1
 have c40:=cell_at r4 0
 have c41:=cell_at r4 1
 have f30:=free_at r3 0
 have f31:=free_at r3 1
 have f40:=free_at r4 0
 have f41:=free_at r4 1
 simp only [List.getElem?_toArray,List.getElem?_cons_zero,List.getElem?_cons_succ] at c10 c11 c20 c21 c30 c31 c40 c41
 have R:=hid (And.intro r1 (And.intro r2 (And.intro r3 r4)))
 clear r1 r2 r3 r4
 clear hs
 rcases hm with ⟨m1,m2⟩ | m1
 all_goals
  go_wp2_with fail
  refine (HB.out.2 _).mono ?_
  rintro e w2 ⟨rfl,hb2⟩
  clear c10 c11 c20 c21 c30 c31 c40 c41 f30 f31 f40 f41
  obtain ⟨r1,r2,r3,r4⟩:=R.out
  obtain ⟨hb1,hn,hbw⟩:=HB1.out
  have r1:=(hb2.block _ (lt_of_block r1)).trans r1
  have r2:=(hb2.block _ (lt_of_block r2)).trans r2
  have r3:=(hb2.block _ (lt_of_block r3)).trans r3
  have r4:=(hb2.block _ (lt_of_block r4)).trans r4
  have hbw:=hbw.trans (hb2.mono hbw.size)
  have HB2:=hid (And.intro hn hbw)
  clear R HB1 hb1 hn hbw hb2
  have c10:=cell_at r1 0
  have c11:=cell_at r1 1
  have c20:=cell_at r2 0
  have c21:=cell_at r2 1
  have c30:=cell_at r3 0
  have c31:=cell_at r3 1
  have c40:=cell_at r4 0
  have c41:=cell_at r4 1
  have f30:=free_at r3 0
  have f31:=free_at r3 1
  have f40:=free_at r4 0
  have f41:=free_at r4 1
  simp only [List.getElem?_toArray,List.getElem?_cons_zero,List.getElem?_cons_succ] at c10 c11 c20 c21 c30 c31 c40 c41
  have R:=hid (And.intro r1 (And.intro r2 (And.intro r3 r4)))
  clear r1 r2 r3 r4
  go_wp2_with fail
  go_region
  go_wp2
  obtain ⟨r1,r2,r3,r4⟩:=R.out
  obtain ⟨hn,hbw⟩:=HB2.out
  have k3:=two_kept w2 (n+1+1) (.int .u64 0) (.string ⟨#[]⟩)
  have s3:=two_set (x':=.int .u64 0) (y':=.string ⟨#[]⟩) r3
  have s4:=(k3.block _ (lt_of_block r4) oM).trans r4
  generalize ((w2.setCell ⟨n+1+1,0,none⟩ (.int .u64 0)).setCell ⟨n+1+1,1,none⟩ (.string ⟨#[]⟩))=w3 at *
  have k4:=two_kept w3 (n+1+1+1) (.int .u64 (la:Int)) (.string ma)
  have s5:=two_set (x':=.int .u64 (la:Int)) (y':=.string ma) s4
  have s6:=(k4.block _ (lt_of_block s3) oM).trans s3
  generalize ((w3.setCell ⟨n+1+1+1,0,none⟩ (.int .u64 (la:Int))).setCell ⟨n+1+1+1,1,none⟩ (.string ma))=w4 at *
  have t30:=cell_at s6 0
  have t31:=cell_at s6 1
  have t40:=cell_at s5 0
  have t41:=cell_at s5 1
  simp only [List.getElem?_toArray,List.getElem?_cons_zero,List.getElem?_cons_succ] at t30 t31 t40 t41
  refine bodyPost_ret (v:=.tuple #[.agg #[.int .u64 0,.string ⟨#[]⟩],.agg #[.int .u64 (la:Int),.string ma],.bool true]) (by simp [results,Tryz.results229,go_sem,t30,t31,t40,t41]) rfl ⟨rfl,?_⟩
  have hb3:Below w.heap.size w w4:=by
   refine hbw.trans ((k3.below _ hbw.size fun j hj e=>by omega).trans (k4.below _ ?_ fun j hj e=>by omega))
   have:=k3.size;have:=hbw.size;omega
  exact ⟨hb3.os,hb3.tape,hb3.output,hb3.size,hb3.block⟩
theorem pc_new2 {α:Type} {enc:α→Value} {H:Hp} {W W':World} (hf:Fits H W) (hb:Below W.heap.size W W') {g h:Nat} (hg:W.heap.size≤g) (hgh:g<h) {l m:List α} (hB:Blk enc W' g l) (hC:Blk enc W' h m) :
  ∃ H':Hp,H.Le H'∧Fits H' W'∧Nw H W.heap.size H' W'∧SlN enc H' (.slice (some ⟨g,0,none⟩) l.length l.length) l∧SlN enc H' (.slice (some ⟨h,0,none⟩) m.length m.length) m:=by
 have hn:∀ k,W.heap.size≤k→H k=none:=fun k hk=>by
  cases hc:H k with
  | none=>rfl
  | some c=>have:=hf.lt (b:=k) (by rw [hc];simp);omega
 obtain ⟨T,hT⟩:=hB
 obtain ⟨U,hU⟩:=hC
 refine ⟨(H.put g (cellsOf enc l)).put h (cellsOf enc m),fun b c e=>?_,fun b c e=>?_,fun b c e=>?_,⟨by simp,.inr ⟨g,0,l.length,cellsOf enc l,rfl,Nat.le_refl _,?_,fun j x hj=>by simpa [cellsOf] using hj⟩⟩,⟨by simp,.inr ⟨h,0,m.length,cellsOf enc m,rfl,Nat.le_refl _,?_,fun j x hj=>by simpa [cellsOf] using hj⟩⟩⟩
 ·have h1:b≠g:=fun e'=>by subst e';rw [hn _ hg] at e;cases e
  have h2:b≠h:=fun e'=>by subst e';rw [hn _ (by omega)] at e;cases e
  simp only [Hp.put,if_neg h1,if_neg h2];exact e
 ·simp only [Hp.put] at e
  split at e
  ·rename_i e';subst e';cases e;exact ⟨U,(0,0),hU⟩
  ·split at e
   ·rename_i e';subst e';cases e;exact ⟨T,(0,0),hT⟩
   ·exact hf.below hb b c e
 ·simp only [Hp.put] at e
  split at e
  ·rename_i e';subst e';cases e;exact .inr ⟨by omega,U,hU⟩
  ·split at e
   ·rename_i e';subst e';cases e;exact .inr ⟨hg,T,hT⟩
   ·exact .inl e
 ·simp only [Hp.put,if_neg (show g≠h by omega),if_true]
 ·simp only [Hp.put,if_true]
theorem sln_pre {H:Hp} {g cap:Nat} {q:List Nat} (h:H g=some (q.map n64).toArray) (k:Nat) (hk:k≤q.length) (hc:k≤cap):SlN n64 H (.slice (some ⟨g,0,none⟩) k cap) (q.take k):=by
 have e:(q.take k).length=k:=by simp;omega
 unfold SlN
 rw [e]
 refine ⟨by simp;omega,.inr ⟨g,0,cap,_,rfl,hc,h,fun j x hj=>?_⟩⟩
 rw [List.getElem?_map,List.getElem?_take] at hj
 split at hj
 ·simpa using hj
 ·cases hj
theorem words_full (n:Nat) (h:n≠0) (hn:big n) (H:Hp):PO prog 80 #[natV n] H fun v ow=>∃ g,v=.slice (some ⟨g,0,none⟩) (dig W64 n).length (dig W64 n).length∧ow=[(g,73,(dig W64 n).map n64)]:=by
 refine ⟨(cO func80),fun W hW _=>(words_any n W h hn).mono fun e W' ⟨g,hg,he,hB,hb⟩=>?_⟩
 refine ⟨_,[(g,73,(dig W64 n).map n64)],he,⟨g,rfl,rfl⟩,⟨by simp,fun b T cs hm=>?_⟩,hb⟩
 simp at hm
 obtain ⟨rfl,rfl,rfl⟩:=hm
 exact ⟨hg,hB⟩
theorem divWord_pm (B cap d:Nat) (l:List Nat) (H:Hp) (hD:Dig W64 l) (hl:l.length≤100000000) (hcap:l.length≤cap) (hd0:0<d) (hd:d<W64) :
  PM prog 82 #[.slice (some ⟨B,0,none⟩) l.length cap,n64 d] H B (l.map n64) fun v cs=>∃ q,v=.tuple #[.slice (some ⟨B,0,none⟩) (trimL q).length cap,n64 (val W64 l % d)]∧cs=q.map n64∧q.length=l.length∧Dig W64 q∧val W64 q=val W64 l / d :=
 ⟨(cO func82),fun W T _ _ hB=>(divWord_any T B cap d l W hB hD hl hcap hd0 hd).mono fun e W' ⟨q,he,hq,h1,h2,h3,hk⟩=>⟨_,_,he,⟨q,rfl,rfl,h1,h2,h3⟩,hq,hk⟩⟩
theorem divWords_pc {u v:Value} {x y:List Nat} {H:Hp} (hu:SlN n64 H u x) (hv:SlN n64 H v y) (hDx:Dig W64 x) (hNy:Norm W64 y) (hx:x.length≤100000000) (hy2:2≤y.length) (hxy:y.length≤x.length) :
  PC prog 235 #[u,v] H fun r H'=>∃ a b q m,r=.tuple #[a,b]∧SlN n64 H' a q∧SlN n64 H' b m∧Dig W64 q∧Dig W64 m∧q.length≤x.length∧m.length≤x.length∧val W64 q=val W64 x / val W64 y∧val W64 m=val W64 x % val W64 y:=by
 refine ⟨(cO func235),fun W hW _=>?_⟩
 obtain ⟨a,cap,rfl,hS,_⟩:=hu.sl hW
 obtain ⟨a',cap',rfl,hS',_⟩:=hv.sl hW
 refine (divWords_any a a' cap cap' x y W hS hS' hDx hNy hx hy2 hxy).mono ?_
 rintro e W' ⟨q,r,g,h,he,hBq,hBr,hDq,hDr,hql,hrl,hvq,hvr,hb,hg,hgh⟩
 obtain ⟨H',h1,h2,h3,h4,h5⟩:=pc_new2 hW hb hg hgh hBq hBr
 exact ⟨_,H',he,⟨_,_,q,r,rfl,h4,h5,hDq,hDr,hql,hrl,hvq,hvr⟩,h1,h2,hb,h3⟩
theorem natDiv_small (a b:Nat) (h:b≠0) (ha:a<W64) (hb:b<W64):PV prog 229 #[natV a,natV b] (.tuple #[natV (a / b),natV (a % b),.bool true]) :=
 ⟨(cO func229),fun W _=>div_one a b W h ha hb⟩
theorem natDiv_less (a b:Nat) (h:a<b) (hs:¬ (a<W64∧b<W64)) (ha:big a) (hb:big b):PV prog 229 #[natV a,natV b] (.tuple #[natV (a / b),natV (a % b),.bool true]):=by
 rw [Nat.div_eq_of_lt h,Nat.mod_eq_of_lt h]
 exact ⟨(cO func229),fun W _=>div_less a b W h hs ha hb⟩
theorem natDiv_word (a b:Nat) (h:b≠0) (h1:¬ a<W64) (h2:b<W64) (ha:big a):PV prog 229 #[natV a,natV b] (.tuple #[natV (a / b),natV (a % b),.bool true]):=by
 have hb:big b:=Nat.le_trans (bl_le (k:=64) (by rw [← W64_pow];exact h2)) oM
 have q2:a % b<W64:=Nat.lt_trans (Nat.mod_lt _ oM) h2
 have hge:decide (ordN a b<0)=false:=by rw [ordN_gt (by omega)];rfl
 have la:=dig_len_big ha
 have vla:=dig_val W64_two a
 have da:=(dig_norm W64_two a).1
 have hpa:=fun G=>words_full a (by have:=W64_two;omega) ha G
 refine PV.of_pc ?_
 rw [natV_small q2]
 refine BD func229 ntmps229 ?_
 repeat (first | refine RUN ?_ | refine CV (bits_pv b hb) ?_ | refine CE (bits_pv b hb) ?_)
 rw [bl_zero_iff,decide_eq_false h]
 try refine RUN ?_
 rw [more_ge h1]
 repeat (first | refine RUN ?_ | refine CV (natCmp_pv _ _ ha hb) ?_ | refine CE (natCmp_pv _ _ ha hb) ?_)
 rw [hge]
 try refine RUN ?_
 rw [more_lt h2]
 try refine RUN ?_
 refine EVD.start kR ?_
 apply EVD.head0 4 kR;intro x y
 (repeat refine' DD ?_)
 refine' DJ.callO rfl rfl rfl rfl rfl (hpa gH).can (fun G _ _=>hpa G) ?_;rotate_left
 (repeat refine' DD ?_)
 (refine DJ.nil (fun G hG hF=>?_);(case hS|hS2=>rfl))
 obtain ⟨⟨g,hv,how⟩,_⟩:=hF
 rw [hv,how]
 rw [lo_of_lt h2]
 refine EVL.nil ⟨rfl,?_⟩
 refine EVD.one kR rfl ?_
 have hpm:=divWord_pm g (dig W64 a).length b (dig W64 a) G da oM (Nat.le_refl _) oM h2
 rw [vla] at hpm
 refine EVL.callM rfl rfl rfl rfl rfl [] [] rfl hpm ?_
 rintro v cs ⟨q,rfl,rfl,hql,hqD,hqv⟩
 refine EVL.nil ⟨rfl,?_⟩
 refine EVD.one kR rfl ?_
 try refine RUN ?_
 refine ⟨rfl,?_⟩
 refine EVD.shift 6 kR (by decide) ?_
 apply EVD.drawn 3 kR;intro x y
 (repeat refine' DD ?_)
 (refine DJ.nil (fun G hG hF=>?_);(case hS|hS2=>rfl))
 try refine RUN ?_
 refine EVL.publish [] [] rfl fun G2 hle2 hG2=>?_
 have hsl:=sln_pre (cap:=(dig W64 a).length) hG2 (trimL q).length (trimL_length_le q) (by rw [← hql];exact trimL_length_le q)
 rw [trimL_take] at hsl
 have f1:=fromWords_pc hsl (trimL_norm hqD).1 (by have:=trimL_length_le q;omega)
 rw [trimL_val,hqv] at f1
 refine EVL.call rfl rfl rfl rfl rfl f1 ?_
 rintro v' H1 rfl hle
 try refine RUN ?_
 rfl
theorem natDiv_words (a b:Nat) (hab:b≤a) (h2:¬ b<W64) (ha:big a) (hb:big b):PV prog 229 #[natV a,natV b] (.tuple #[natV (a / b),natV (a % b),.bool true]):=by
 have hb0:b≠0:=by have:=W64_two;omega
 have h1:¬ a<W64:=by omega
 have hge:decide (ordN a b<0)=false:=by
  rcases Nat.lt_or_eq_of_le hab with h | h
  ·rw [ordN_gt h];rfl
  ·subst h;simp [ordN]
 have la:=dig_len_big ha
 have lb:=dig_len_big hb
 have hlb:2≤(dig W64 b).length:=by
  rw [dig_lo_hi b hb0]
  have:hiW b≠[]:=fun e=>h2 (hiW_nil.1 e)
  have:=List.length_pos_iff.2 this
  simp;omega
 have hlab:(dig W64 b).length≤(dig W64 a).length:=dig_len_mono W64_two hab
 have hpa:=fun G=>words_pc a ha G
 have hpb:=fun G=>words_pc b hb G
 refine PV.of_pc ?_
 refine BD func229 ntmps229 ?_
 repeat (first | refine RUN ?_ | refine CV (bits_pv b hb) ?_ | refine CE (bits_pv b hb) ?_)
 rw [bl_zero_iff,decide_eq_false hb0]
 try refine RUN ?_
 rw [more_ge h1]
 repeat (first | refine RUN ?_ | refine CV (natCmp_pv _ _ ha hb) ?_ | refine CE (natCmp_pv _ _ ha hb) ?_)
 rw [hge]
 try refine RUN ?_
 rw [more_ge h2]
 try refine RUN ?_
 apply EV.drawn 9 kR kR;intro xv yw
 (repeat refine' DD ?_)
 refine' DJ.call rfl rfl rfl rfl rfl (hpa gH).can (fun G _ _=>hpa G) (fun v G G' h k=>h.mono k) ?_;rotate_left
 (repeat refine' DD ?_)
 refine' DJ.call rfl rfl rfl rfl rfl (hpb gH).can (fun G _ _=>hpb G) (fun v G G' h k=>h.mono k) ?_;rotate_left
 refine' DJ.call rfl rfl rfl rfl rfl (cO func235) (fun G _ hd=>divWords_pc (hd.tail.head kR) (hd.head kR) (dig_norm W64_two a).1 (dig_norm W64_two b) oM hlb hlab) (fun v G G' ⟨u,w,q,m,e,h1,h2,r⟩ k=>⟨u,w,q,m,e,h1.mono k,h2.mono k,r⟩) ?_;rotate_left
 refine' DJ.copy (0+1+1+1+1) (.inl rfl) rfl rfl rfl id rfl kR ?_;rotate_left
 refine' DJ.extract (0+1+1+1+1) (k:=0) rfl rfl rfl rfl rfl kR (fun G hd=>?e1) ?_
 case e1=>obtain ⟨u,w,q,m,e,_⟩:=hd.head kR;exact ⟨_,e,by simp⟩
 rotate_left
 refine' DJ.extract (0+1+1+1+1) (k:=1) rfl rfl rfl rfl rfl kR (fun G hd=>?e2) ?_
 case e2=>obtain ⟨u,w,q,m,e,_⟩:=hd.head kR;exact ⟨_,e,by simp⟩
 rotate_left
 refine' DJ.copy (0+1+1+1+1) (.inr rfl) rfl rfl rfl (tupAt 0) rfl kR ?_;rotate_left
 (refine DJ.nil (fun G hG hF=>?_);(case hS|hS2=>rfl))
 obtain ⟨⟨u,w,q,m,e,hq,hm,hDq,hDm,hlq,hlm,hvq,hvm⟩,_⟩:=hF
 rw [e]
 rw [dig_val W64_two,dig_val W64_two] at hvq hvm
 have f1:=fun G=>fromWords_pc (H:=G) (v:=u) (l:=q)
 have f2:=fun G=>fromWords_pc (H:=G) (v:=w) (l:=m)
 rw [hvq] at f1
 rw [hvm] at f2
 try refine RUN ?_
 refine EVL.call rfl rfl rfl rfl rfl (f1 _ hq hDq oM) ?_
 rintro v' H1 rfl hle
 try refine RUN ?_
 refine EVL.call rfl rfl rfl rfl rfl (f2 _ (hm.mono hle) hDm oM) ?_
 rintro v' H2 rfl hle2
 try refine RUN ?_
 rfl
theorem natDiv_pv (a b:Nat) (h:b≠0) (ha:big a) (hb:big b):PV prog 229 #[natV a,natV b] (.tuple #[natV (a / b),natV (a % b),.bool true]):=by
 by_cases hs:a<W64∧b<W64
 ·exact natDiv_small a b h hs.1 hs.2
 ·rcases Nat.lt_or_ge a b with hl | hge
  ·exact natDiv_less a b hl hs ha hb
  ·by_cases h2:b<W64
   ·exact natDiv_word a b h (fun h1=>hs ⟨h1,h2⟩) h2 ha
   ·exact natDiv_words a b hge h2 ha hb
theorem natShift_up (a k:Nat) (hk:k≤65536) (ha:big a):PV prog 242 #[natV a,.int .i64 (k:Int)] (natV (a*2 ^ k)):=by
 have la:=dig_len_big ha
 have hs:=fun v H h=>shiftUp_pc (v:=v) (l:=dig W64 a) (H:=H) h (dig_norm W64_two a).1 oM k oM
 rw [dig_val W64_two] at hs
 refine PV.of_pc ?_
 refine BD func242 ntmps242 ?_
 try refine RUN ?_
 rw [show (if (if (65536:Int)<k then 65536 else (k:Int)) > -65536 then (if (65536:Int)<k then 65536 else (k:Int)) else -65536)=(k:Int) by (repeat split) <;> omega]
 try refine RUN ?_
 rw [show decide ((k:Int)<0)=false by simp]
 try refine RUN ?_
 refine EVL.call rfl rfl rfl rfl rfl (words_pc a ha _) ?_
 rintro v H1 hv hle
 try refine RUN ?_
 refine EVL.call rfl rfl rfl rfl rfl (hs _ _ hv) ?_
 rintro v2 H2 ⟨out,h1,h2,h3,h4⟩ hle2
 try refine RUN ?_
 have hf:=fromWords_pc h1 h3 oM
 rw [h4] at hf
 refine EVL.call rfl rfl rfl rfl rfl hf ?_
 rintro v3 H3 rfl hle3
 try refine RUN ?_
 rfl
end Go.Proofs.YtbcfidllfimehaaGreatDoor
namespace Go.Proofs.YtbcfidllfimehaaGreatDoor
def pk (K B:Nat) (l:List Nat) (m:Nat):List Nat:=(List.range m).map fun j=>val B ((l.drop (K*j)).take K)
theorem pk_length (K B:Nat) (l:List Nat) (m:Nat):(pk K B l m).length=m:=by simp [pk]
theorem pk_nil (K B m:Nat):pk K B [] m=List.replicate m 0:=by
 apply List.ext_getElem?
 intro i
 rw [pk,List.getElem?_map,List.getElem?_replicate]
 by_cases h:i<m
 ·rw [List.getElem?_range h,if_pos h];simp [val]
 ·rw [if_neg h,List.getElem?_eq_none (by simp;omega)];rfl
theorem pk_getD (K B:Nat) (l:List Nat) (m j:Nat) (h:j<m):(pk K B l m).getD j 0=val B ((l.drop (K*j)).take K):=by
 rw [List.getD_eq_getElem?_getD,pk,List.getElem?_map,List.getElem?_range h];rfl
theorem pk_dig {K B:Nat} {l:List Nat} (hB:0<B) (hD:Dig B l) (m:Nat):Dig (B ^ K) (pk K B l m):=by
 intro x hx
 rw [pk,List.mem_map] at hx
 obtain ⟨j,_,rfl⟩:=hx
 refine Nat.lt_of_lt_of_le (val_lt ((hD.drop _).take _)) (Nat.pow_le_pow_right hB ?_)
 rw [List.length_take];omega
theorem pk_low {K B:Nat} {l:List Nat} (hK:0<K) (hD:Dig B l) (m:Nat) (h:l.length<K*m):(pk K B l m).getD (l.length / K) 0<B ^ (l.length % K):=by
 rw [pk_getD _ _ _ _ _ (Nat.div_lt_of_lt_mul h)]
 have h1:=val_lt ((hD.drop (K*(l.length / K))).take K)
 have h2:=Nat.div_add_mod l.length K
 have h3:=Nat.mod_lt l.length hK
 rwa [List.length_take,List.length_drop,Nat.min_eq_right oM,show l.length-K*(l.length / K)=l.length % K by omega] at h1
theorem pk_snoc {K B:Nat} {l:List Nat} (hK:0<K) (m x:Nat) (h:l.length<K*m) :
  pk K B (l++[x]) m=(pk K B l m).set (l.length / K) ((pk K B l m).getD (l.length / K) 0+x*B ^ (l.length % K)):=by
 have hq:l.length / K<m:=Nat.div_lt_of_lt_mul h
 have h2:=Nat.div_add_mod l.length K
 have h3:=Nat.mod_lt l.length hK
 apply List.ext_getElem?
 intro i
 by_cases hi:i<m
 ·have e1:(pk K B (l++[x]) m)[i]?=some (val B (((l++[x]).drop (K*i)).take K)):=by rw [pk,List.getElem?_map,List.getElem?_range hi];rfl
  rw [e1]
  by_cases e:l.length / K=i
  ·subst e
   rw [List.getElem?_set_self (by rw [pk_length];exact hi),pk_getD _ _ _ _ _ hq]
   congr 1
   rw [List.drop_append_of_le_length oM,List.take_of_length_le (by rw [List.length_append,List.length_drop,List.length_singleton];omega),List.take_of_length_le (by rw [List.length_drop];omega),val_snoc,List.length_drop,show l.length-K*(l.length / K)=l.length % K by omega]
  ·rw [List.getElem?_set_ne e,pk,List.getElem?_map,List.getElem?_range hi]
   simp only [Option.map_some]
   congr 2
   by_cases hlt:i<l.length / K
   ·have:K*(i+1)≤K*(l.length / K):=Nat.mul_le_mul_left K hlt
    rw [Nat.mul_add] at this
    rw [List.drop_append_of_le_length oM,List.take_append_of_le_length (by rw [List.length_drop];omega)]
   ·have:K*(l.length / K+1)≤K*i:=Nat.mul_le_mul_left K oM
    rw [Nat.mul_add] at this
    rw [List.drop_of_length_le (by rw [List.length_append,List.length_singleton];omega),List.drop_of_length_le (by omega)]
 ·rw [List.getElem?_eq_none (by rw [pk_length];omega),List.getElem?_eq_none (by rw [List.length_set,pk_length];omega)]
theorem pk_val (K B:Nat) (hK:0<K) (m:Nat):∀ l:List Nat,l.length≤K*m→val (B ^ K) (pk K B l m)=val B l:=by
 intro l
 generalize hn:l.length=n
 induction n generalizing l with
 | zero=>intro _;rw [List.eq_nil_of_length_eq_zero hn,pk_nil,val_zeros];rfl
 | succ n ih =>
  intro h
  have hne:l≠[]:=by intro e;rw [e] at hn;cases hn
  have hd:=List.dropLast_concat_getLast hne
  have hl:l.dropLast.length=n:=by rw [List.length_dropLast,hn];rfl
  have h1:=ih l.dropLast hl oM
  rw [← hd]
  generalize l.dropLast=s at *
  generalize l.getLast hne=x at *
  rw [pk_snoc hK m x oM,val_snoc]
  have h2:=val_set (B ^ K) (pk K B s m) (s.length / K) ((pk K B s m).getD (s.length / K) 0+x*B ^ (s.length % K)) (by rw [pk_length];exact Nat.div_lt_of_lt_mul oM)
  have h3:x*B ^ s.length=x*B ^ (s.length % K)*(B ^ K) ^ (s.length / K):=by
   rw [← Nat.pow_mul,Nat.mul_assoc,← Nat.pow_add,Nat.add_comm,Nat.div_add_mod]
  rw [Nat.add_mul,← h3,h1] at h2
  omega
def octs (n:Nat):List Nat:=(dig 256 n).reverse
theorem octs_length (n:Nat):(octs n).length=(dig 256 n).length:=by simp [octs]
theorem octs_dig (n:Nat):Dig 256 (octs n):=fun x hx=>(dig_norm (by decide) n).1 x (by simpa [octs] using hx)
theorem octs_val (n:Nat):val 256 (octs n).reverse=n:=by rw [octs,List.reverse_reverse];exact dig_val (by decide) n
theorem octs_of (n N:Nat) (hN:N=(dig 256 n).length) (out:List Nat) (h:out.length=N) (hj:∀ j,j<N→out.getD (N-1-j) 0=n / 256 ^ j % 256):out=octs n:=by
 apply List.ext_getElem?
 intro i
 by_cases hi:i<N
 ·have h1:=hj (N-1-i) oM
  rw [show N-1-(N-1-i)=i by omega,← dig_getD (by decide)] at h1
  rw [octs,List.getElem?_reverse oM,← hN]
  rw [List.getD_eq_getElem?_getD,List.getD_eq_getElem?_getD,List.getElem?_eq_getElem oM,List.getElem?_eq_getElem (by omega)] at h1
  rw [List.getElem?_eq_getElem oM,List.getElem?_eq_getElem (by omega)]
  exact congrArg some h1
 ·rw [List.getElem?_eq_none oM,List.getElem?_eq_none (by rw [octs_length];omega)]
end Go.Proofs.YtbcfidllfimehaaGreatDoor
namespace Go.Proofs.YtbcfidllfimehaaGreatDoor
open Go.RowKit _root_.Go.Proofs.Tryz
theorem q8 (i:Nat) (h:i≤2000000000):IntKind.i64.wrap ((i:Int).tdiv 8)=((i / 8:Nat):Int):=by
 rw [IntKind.wrap_i64,Int.tdiv_eq_ediv_of_nonneg (by omega)];omega
theorem r8 (i:Nat):IntKind.i64.wrap (8*(i:Int).tmod 8)=((8*(i % 8):Nat):Int):=by
 rw [IntKind.wrap_i64,Int.tmod_eq_emod_of_nonneg (by omega)];omega
theorem back (n i:Nat) (h:i<n) (hn:n≤2000000000):IntKind.i64.wrap (IntKind.i64.wrap ((n:Int)-1)-(i:Int))=((n-1-i:Nat):Int):=by
 rw [IntKind.wrap_i64,IntKind.wrap_i64];omega
theorem byte_or (c x p:Nat) (hc:c<2 ^ p) (hx:x<256) (hp:p≤56) :
  IntKind.u64.wrap (((BitVec.ofInt IntKind.u64.bits (c:Int) ||| BitVec.ofInt IntKind.u64.bits (IntKind.u64.wrap (IntKind.u64.wrap (x:Int)*2 ^ (min p IntKind.u64.bits)))).toNat:Nat):Int)=((c+x*2 ^ p:Nat):Int):=by
 have h56:(2:Nat) ^ p≤2 ^ 56:=Nat.pow_le_pow_right oM hp
 have h1:x*2 ^ p≤255*2 ^ 56:=Nat.mul_le_mul oM h56
 have e1:IntKind.u64.wrap (IntKind.u64.wrap (x:Int)*2 ^ (min p IntKind.u64.bits))=((x*2 ^ p:Nat):Int):=by
  rw [show min p IntKind.u64.bits=p from Nat.min_eq_left (by show p≤64;omega),wrapU64_nat,Nat.mod_eq_of_lt oM,show ((x:Int)*2 ^ p)=((x*2 ^ p:Nat):Int) by push_cast;rfl,wrapU64_nat,Nat.mod_eq_of_lt (by omega)]
 rw [e1]
 refine (u64_or_nat _ _ oM oM).trans ?_
 rw [or_mul _ _ p (2 ^ p) rfl hc]
theorem Dig.rev {B:Nat} {l:List Nat} (h:Dig B l):Dig B l.reverse:=fun x hx=>h x (List.mem_reverse.1 hx)
theorem natFromBytes_pc {v:Value} {l:List Nat} {H:Hp} (h:SlN n8 H v l) (hD:Dig 256 l) (hl:l.length≤200000000):PC prog 188 #[v] H fun r _=>r=natV (val 256 l.reverse):=by
 obtain ⟨a,cap,rfl⟩:=SlC.val h
 generalize hm:(l.length+7) / 8=m
 refine BD func188 ntmps188 ?_
 try refine RUN ?_
 refine EVL.make tO rfl rfl rfl rfl rfl rfl rfl rfl rfl m ?_ oM (by rfl) (by rfl) fun g=>?_
 ·rw [show IntKind.i64.wrap ((l.length:Int)+7)=((l.length+7:Nat):Int) by rw [IntKind.wrap_i64];omega,q8 _ oM,hm]
 try refine RUN ?_
 have e0:(List.replicate m (Tryz.te73.zero)).flatten=(pk 8 256 (l.reverse.take 0) m).map n64:=by
  rw [List.take_zero,pk_nil,List.map_replicate];rw [show (Tryz.te73.zero)=[n64 0] from rfl];simp
 rw [e0]
 refine EV.loop (ι:=Nat) (fun i=>[(2,.p 2 0),(0,.v (.slice a l.length cap)),(3,.v (.slice (some ⟨g,0,none⟩) m m)),(11,.v (.int .i64 (l.length:Int))),(12,.v (.int .i64 (i:Int)))]) (fun _=>[(2,75,Tryz.te75.zero)]) (fun i=>[(g,73,(pk 8 256 (l.reverse.take i) m).map n64)])
  (fun i G=>i≤l.length∧SlN n8 G (.slice a l.length cap) l) (fun i=>l.length-i) 0 ⟨rfl,rfl,rfl,rfl,rfl,trivial⟩ ⟨rfl,trivial⟩ rfl (fun _=>rfl) ⟨Nat.zero_le _,h⟩ ?_
 rintro i G hG ⟨hi,hs⟩
 try refine RUN ?_
 by_cases hlt:i<l.length
 ·have him:i / 8<m:=by omega
  have hrl:(l.reverse.take i).length=i:=by rw [List.length_take,List.length_reverse];omega
  have hx:l.getD (l.length-1-i) 0<256:=hD.getD (by decide) _
  have hxs:(l.map n8)[l.length-1-i]?=some (n8 (l.getD (l.length-1-i) 0)):=by
   rw [List.getElem?_map,List.getD_eq_getElem?_getD,List.getElem?_eq_getElem (show l.length-1-i<l.length by omega)];rfl
  have hcur:((pk 8 256 (l.reverse.take i) m).map n64)[i / 8]?=some (n64 ((pk 8 256 (l.reverse.take i) m).getD (i / 8) 0)):=by
   rw [List.getElem?_map,List.getD_eq_getElem?_getD,List.getElem?_eq_getElem (by rw [pk_length];exact him)];rfl
  have hlow:=pk_low (K:=8) (B:=256) (by decide) ((hD.rev).take i) m (by rw [hrl];omega)
  rw [hrl] at hlow
  have hsn:=pk_snoc (K:=8) (B:=256) (l:=l.reverse.take i) (by decide) m (l.getD (l.length-1-i) 0) (by rw [hrl];omega)
  rw [hrl] at hsn
  rw [show decide ((i:Int)<(l.length:Int))=true by simpa using hlt]
  try refine RUN ?_
  apply EV.drawn 18 kR kR;intro xv yw
  (repeat refine' DD ?_)
  refine' DJ.ofVal (ValOk.idxP1 tO rfl rfl rfl rfl rfl rfl rfl rfl (i / 8) (q8 i oM) him) rfl rfl rfl ?_;rotate_left
  refine' DJ.ofVal (ValOk.load1 tO rfl rfl rfl rfl rfl rfl 0 rfl hcur) rfl rfl rfl ?_;rotate_left
  (repeat refine' DD ?_)
  refine' DJ.ofVal (ValOk.idx1 tO rfl rfl rfl rfl rfl rfl rfl rfl hs (l.length-1-i) (back _ _ hlt oM) oM hxs) rfl rfl rfl ?_;rotate_left
  (repeat refine' DD ?_)
  refine' DJ.ofVal (ValOk.shl rfl rfl rfl rfl (by rw [r8];omega)) rfl rfl rfl ?_;rotate_left
  (refine DJ.nil (fun G hG hF=>?_);(case hS|hS2=>rfl))
  rw [r8,Int.toNat_natCast]
  try refine RUN ?_
  rw [byte_or _ _ _ (by rw [Nat.pow_mul];exact hlow) hx (by omega)]
  refine EVL.ofVal (ValOk.idxP1 tO rfl rfl rfl rfl rfl rfl rfl rfl (i / 8) (q8 i oM) him) rfl rfl rfl fun G4 hG4=>?_
  refine EVL.set1 tO rfl rfl rfl rfl rfl rfl rfl rfl rfl rfl (by rw [List.length_map,pk_length];exact him) ?_
  try refine RUN ?_
  have hnext:l.reverse.take (i+1)=l.reverse.take i++[l.getD (l.length-1-i) 0]:=by
   rw [List.take_succ_eq_append_getElem (by rw [List.length_reverse];exact hlt),List.getElem_reverse,List.getD_eq_getElem?_getD,List.getElem?_eq_getElem (show l.length-1-i<l.length by omega)];rfl
  refine ⟨i+1,⟨rfl,rfl,rfl,rfl,?_,trivial⟩,⟨rfl,trivial⟩,?_,⟨by omega,hs.mono (hG.trans hG4)⟩,hG.trans hG4,by omega⟩
  ·rw [show IntKind.i64.wrap ((i:Int)+1)=((i+1:Nat):Int) by rw [IntKind.wrap_i64];omega];rfl
  ·rw [hnext,hsn,List.map_set,show (256:Nat) ^ (i % 8)=2 ^ (8*(i % 8)) by rw [Nat.pow_mul]]
 ·rw [show decide ((i:Int)<(l.length:Int))=false by simpa using hlt]
  obtain rfl:i=l.length:=by omega
  rw [List.take_of_length_le (by rw [List.length_reverse];exact Nat.le_refl _)]
  try refine RUN ?_
  refine EVL.publish [] [] rfl fun G2 hG2 hg=>?_
  have hpl:(pk 8 256 l.reverse m).length=m:=pk_length _ _ _ _
  have hsl:SlN n64 G2 (.slice (some ⟨g,0,none⟩) m m) (pk 8 256 l.reverse m):=by
   unfold SlN
   rw [hpl]
   exact ⟨by simp [hpl],.inr ⟨g,0,m,_,rfl,Nat.le_refl _,hg,fun j x hj=>by simpa using hj⟩⟩
  have hf:=fromWords_pc hsl (by rw [W64_256];exact pk_dig (by decide) hD.rev m) oM
  rw [W64_256,pk_val 8 256 (by decide) m l.reverse (by rw [List.length_reverse];omega)] at hf
  refine EVL.call rfl rfl rfl rfl rfl hf ?_
  rintro v' H' rfl hle
  try refine RUN ?_
  rfl
theorem sub_byte (c p:Nat) (hc:c<W64) (hp:p≤63):IntKind.u8.wrap ((c:Int).fdiv (2 ^ (min p IntKind.u64.bits)))=((c / 2 ^ p % 256:Nat):Int):=by
 rw [show min p IntKind.u64.bits=p from Nat.min_eq_left (by show p≤64;omega),show ((2:Int) ^ p)=((2 ^ p:Nat):Int) by push_cast;rfl,Int.fdiv_eq_ediv_of_nonneg _ (Int.natCast_nonneg _),← Int.natCast_ediv,wrapU8]
 omega
theorem natBytes_pc (n:Nat) (hn:big n) (H:Hp):PC prog 185 #[natV n] H fun r H'=>SlN n8 H' r (octs n):=by
 have hN:(dig 256 n).length=(bl n+7) / 8:=by have:=dig_len_bits 8 n oM;rw [show (2:Nat) ^ 8=256 by decide] at this;rw [this];omega
 generalize hNe:(bl n+7) / 8=N at *
 have hwp:=fun G=>words_pc n hn G
 refine BD func185 ntmps185 ?_
 repeat (first | refine RUN ?_ | refine CV (bits_pv n hn) ?_ | refine CE (bits_pv n hn) ?_)
 rw [show IntKind.i64.wrap ((bl n:Int)+7)=((bl n+7:Nat):Int) by rw [IntKind.wrap_i64];omega,q8 _ oM,hNe]
 try refine RUN ?_
 refine EVL.make tO rfl rfl rfl rfl rfl rfl rfl rfl rfl N rfl oM (by rfl) (by rfl) fun g=>?_
 try refine RUN ?_
 have e0:(List.replicate N (Tryz.te5.zero)).flatten=(List.replicate N 0).map n8:=by
  rw [List.map_replicate,show (Tryz.te5.zero)=[n8 0] from rfl];simp
 rw [e0]
 refine EVL.call rfl rfl rfl rfl rfl (hwp _) ?_
 rintro v H1 hv hle
 try refine RUN ?_
 refine EV.loop (ι:=Nat × List Nat) (fun q=>[(3,.v (.int .i64 (N:Int))),(4,.v (.slice (some ⟨g,0,none⟩) N N)),(5,.v v),(15,.v (.int .i64 (N:Int))),(16,.v (.int .i64 (q.1:Int)))]) (fun _=>[]) (fun q=>[(g,5,q.2.map n8)])
  (fun q G=>q.1≤N∧q.2.length=N∧(∀ j,j<q.1→q.2.getD (N-1-j) 0=n / 256 ^ j % 256)∧SlN n64 G v (dig W64 n)) (fun q=>N-q.1) (0,List.replicate N 0) ⟨rfl,rfl,rfl,rfl,rfl,trivial⟩ trivial rfl (fun _=>rfl) ⟨Nat.zero_le _,by simp,fun j hj=>absurd hj (Nat.not_lt_zero _),hv⟩ ?_
 rintro ⟨i,cur⟩ G hG ⟨hi,hlen,hcs,hs⟩
 dsimp only at hi hlen hcs
 try refine RUN ?_
 by_cases hlt:i<N
 ·have hwl:i / 8<(dig W64 n).length:=by
   have:=dig_len_bits 64 n oM
   rw [← W64_pow] at this
   rw [this];omega
  have hxs:((dig W64 n).map n64)[i / 8]?=some (n64 ((dig W64 n).getD (i / 8) 0)):=by
   rw [List.getElem?_map,List.getD_eq_getElem?_getD,List.getElem?_eq_getElem hwl];rfl
  have hsub:=val_subdigit (C:=256) (k:=8) (by decide) (by decide) (l:=dig W64 n) (by rw [← W64_256];exact (dig_norm W64_two n).1) i
  rw [← W64_256,dig_val W64_two,show (256:Nat) ^ (i % 8)=2 ^ (8*(i % 8)) by rw [Nat.pow_mul]] at hsub
  have hw:=((dig_norm W64_two n).1).getD (by decide) (i / 8)
  rw [show decide ((i:Int)<(N:Int))=true by simpa using hlt]
  try refine RUN ?_
  refine EVL.ofVal (ValOk.idx1 tO rfl rfl rfl rfl rfl rfl rfl rfl hs (i / 8) (q8 i oM) hwl hxs) rfl rfl rfl fun G4 hG4=>?_
  try refine RUN ?_
  refine EVL.ofVal (ValOk.shr rfl rfl rfl rfl (by rw [r8];omega)) rfl rfl rfl fun G5 hG5=>?_
  try refine RUN ?_
  rw [r8,Int.toNat_natCast,sub_byte _ _ hw oM,hsub,back N i hlt (by omega)]
  refine EVL.ofVal (ValOk.idxP1 tO rfl rfl rfl rfl rfl rfl rfl rfl (N-1-i) rfl oM) rfl rfl rfl fun G6 hG6=>?_
  refine EVL.set1 tO rfl rfl rfl rfl rfl rfl rfl rfl rfl rfl (by rw [List.length_map,hlen];omega) ?_
  try refine RUN ?_
  refine ⟨(i+1,cur.set (N-1-i) (n / 256 ^ i % 256)),⟨rfl,rfl,rfl,rfl,?_,trivial⟩,trivial,?_,⟨by dsimp only;omega,by dsimp only;rw [List.length_set];exact hlen,fun j hj=>?_,hs.mono (hG4.trans (hG5.trans hG6))⟩,hG4.trans (hG5.trans hG6),by dsimp only;omega⟩
  ·rw [show IntKind.i64.wrap ((i:Int)+1)=((i+1:Nat):Int) by rw [IntKind.wrap_i64];omega];rfl
  ·dsimp only
   rw [List.map_set]
  ·dsimp only at hj ⊢
   by_cases e:j=i
   ·subst e
    rw [List.getD_eq_getElem?_getD,List.getElem?_set_self (by omega)];rfl
   ·rw [List.getD_eq_getElem?_getD,List.getElem?_set_ne oM,← List.getD_eq_getElem?_getD]
    exact hcs j oM
 ·rw [show decide ((i:Int)<(N:Int))=false by simpa using hlt]
  obtain rfl:i=N:=by omega
  have ho:=octs_of n i hN.symm cur hlen hcs
  subst ho
  first | refine EVL.publish [] [] rfl fun G2 hG2 hg=>?_ | refine EV.publish [] [] rfl fun G2 hG2 hg=>?_
  try refine RUN ?_
  unfold SlN
  rw [hlen]
  exact ⟨by simp [hlen],.inr ⟨g,0,i,_,rfl,Nat.le_refl _,hg,fun j x hj=>by simpa using hj⟩⟩
end Go.Proofs.YtbcfidllfimehaaGreatDoor
namespace Go.Proofs.YtbcfidllfimehaaGreatDoor
theorem coprime_two_pow (k w:Nat) (hw:w % 2=1):Nat.Coprime (2 ^ k) w:=by
 apply Nat.Coprime.pow_left
 rw [Nat.coprime_comm]
 show Nat.gcd w 2=1
 rw [Nat.gcd_comm,Nat.gcd_rec,hw]
 decide
theorem gcd_two_pow (k m w:Nat) (hw:w % 2=1):Nat.gcd (2 ^ k*m) w=Nat.gcd m w:=Nat.Coprime.gcd_mul_left_cancel m (coprime_two_pow k w hw)
theorem gcd_binary (x y zx zy v w:Nat) (hx:x=2 ^ zx*v) (hy:y=2 ^ zy*w) (hv:v % 2=1) (hw:w % 2=1):Nat.gcd x y=2 ^ min zx zy*Nat.gcd v w:=by
 subst hx hy
 by_cases h:zx≤zy
 ·rw [Nat.min_eq_left h]
  obtain ⟨k,rfl⟩:∃ k,zy=zx+k:=⟨zy-zx,by omega⟩
  rw [Nat.pow_add,Nat.mul_assoc,Nat.gcd_mul_left,Nat.gcd_comm v,gcd_two_pow k w v hv,Nat.gcd_comm]
 ·rw [Nat.min_eq_right (by omega)]
  obtain ⟨k,rfl⟩:∃ k,zx=zy+k:=⟨zx-zy,by omega⟩
  rw [Nat.pow_add,Nat.mul_assoc,Nat.gcd_mul_left,gcd_two_pow k v w hw]
theorem gcd_round (v w z m:Nat) (hw:w % 2=1) (hle:w≤v) (h:v-w=2 ^ z*m):Nat.gcd m w=Nat.gcd v w:=by
 rw [← gcd_two_pow z m w hw,← h,Nat.gcd_sub_self_left hle]
end Go.Proofs.YtbcfidllfimehaaGreatDoor
namespace Go.Proofs.YtbcfidllfimehaaGreatDoor
open Go.RowKit _root_.Go.Proofs.Tryz
theorem val_take_zero {B:Nat} {l:List Nat}:∀ i,(∀ j,j<i→l.getD j 0=0)→val B (l.take i)=0
 | 0,_=>rfl
 | i+1,h=>by rw [val_take_succ,val_take_zero i (fun j hj=>h j oM),h i (by omega)];simp
theorem zeros_val {l:List Nat} (hD:Dig W64 l) {i:Nat} (hz:∀ j,j<i→l.getD j 0=0) (h0:l.getD i 0≠0) :
  ∃ m,val W64 l=2 ^ (64*i+Lib.ctz 64 (l.getD i 0))*m∧m % 2=1∧Lib.ctz 64 (l.getD i 0)<64:=by
 have hi:i<l.length:=by
  refine Nat.lt_of_not_le fun h=>h0 ?_
  rw [List.getD_eq_getElem?_getD,List.getElem?_eq_none h];rfl
 have hx:=hD.getD (by decide) i
 have hv:val W64 l=W64 ^ i*(l.getD i 0+W64*val W64 (l.drop (i+1))):=by
  rw [val_split W64 l i oM,val_take_zero i hz,val_drop,Nat.zero_add]
 rw [hv]
 clear hz hv
 generalize val W64 (l.drop (i+1))=V
 generalize l.getD i 0=x at *
 obtain ⟨m,h1,h2⟩:=Lib.ctzFrom_spec 64 x oM (by rw [← W64_pow];exact hx)
 have e:Lib.ctz 64 x=Lib.ctzFrom 64 x:=by unfold Lib.ctz;rw [if_neg h0]
 rw [e]
 generalize Lib.ctzFrom 64 x=k at *
 have hp:W64=2 ^ k*2 ^ (64-k):=by rw [← Nat.pow_add,W64_pow];congr 1;omega
 refine ⟨2*m+1+2 ^ (64-k)*V,?_,?_,h2⟩
 ·rw [W64_pw,Nat.mul_assoc]
  congr 1
  rw [h1]
  generalize 2 ^ k=a at *
  generalize 2 ^ (64-k)=b at *
  rw [hp,Nat.mul_add,Nat.mul_assoc,Nat.mul_add,Nat.mul_add a]
 ·rw [show 64-k=(63-k)+1 by omega,Nat.pow_succ,Nat.mul_comm (2 ^ (63-k)) 2,Nat.mul_assoc]
  omega
theorem list_ext {B:Nat} (hB:0<B):∀ {l m:List Nat},Dig B l→Dig B m→l.length=m.length→val B l=val B m→l=m
 | [],[],_,_,_,_=>rfl
 | [],_::_,_,_,h,_=>by cases h
 | _::_,[],_,_,h,_=>by cases h
 | x::l,y::m,hl,hm,h,e=>by
  have hx:=hl x (List.mem_cons_self ..)
  have hy:=hm y (List.mem_cons_self ..)
  rw [val_cons,val_cons] at e
  have e1:x=y:=by
   have h1:(x+B*val B l) % B=x:=by rw [Nat.add_mul_mod_self_left,Nat.mod_eq_of_lt hx]
   have h2:(y+B*val B m) % B=y:=by rw [Nat.add_mul_mod_self_left,Nat.mod_eq_of_lt hy]
   rw [← h1,← h2,e]
  subst e1
  have e2:val B l=val B m:=Nat.eq_of_mul_eq_mul_left hB oM
  rw [list_ext hB (fun z hz=>hl z (List.mem_cons_of_mem _ hz)) (fun z hz=>hm z (List.mem_cons_of_mem _ hz)) (by simpa using h) e2]
theorem pk_octs (n:Nat) (m:Nat) (hm:m=(dig W64 n).length) (hl:(dig 256 n).length≤8*m):pk 8 256 (octs n).reverse m=dig W64 n:=by
 rw [octs,List.reverse_reverse]
 refine list_ext (B:=W64) (by decide) ?_ (dig_norm W64_two n).1 (by rw [pk_length,hm]) ?_
 ·rw [W64_256];exact pk_dig (by decide) (dig_norm (by decide) n).1 m
 ·rw [dig_val W64_two,W64_256,pk_val 8 256 (by decide) m _ hl,dig_val (by decide)]
theorem odd_part {z z' m m':Nat} (h:2 ^ z*m=2 ^ z'*m') (hm:m % 2=1) (hm':m' % 2=1):z=z':=by
 have key:∀ (z z' m m':Nat),z<z'→2 ^ z*m=2 ^ z'*m'→m % 2=1→False:=fun z z' m m' hlt h hm=>by
  obtain ⟨k,rfl⟩:∃ k,z'=z+(k+1):=⟨z'-z-1,by omega⟩
  rw [Nat.pow_add,Nat.mul_assoc] at h
  have:=Nat.eq_of_mul_eq_mul_left (Nat.pow_pos (by decide)) h
  rw [this,Nat.pow_succ,Nat.mul_comm (2 ^ k) 2,Nat.mul_assoc] at hm
  omega
 rcases Nat.lt_trichotomy z z' with h1 | h1 | h1
 ·exact (key z z' m m' h1 h hm).elim
 ·exact h1
 ·exact (key z' z m' m h1 h.symm hm').elim
theorem len_less {B:Nat} (hB:2≤B) {l m:List Nat} (hl:Dig B l) (hm:Norm B m) (h:l.length<m.length):val B l<val B m:=by
 have h1:=val_lt hl
 have h2:=norm_val_pos oM hm (by intro e;rw [e] at h;cases h)
 have h3:B ^ l.length≤B ^ (m.length-1):=Nat.pow_le_pow_right oM oM
 omega
theorem bytes_back (n N:Nat) (out:List Nat) (hN:n<256 ^ N) (h:out.length=N) (hj:∀ j,j<N→out.getD (N-1-j) 0=n / 256 ^ j % 256):val 256 out.reverse=n:=by
 have e:out.reverse=digN 256 n N:=by
  apply List.ext_getElem?
  intro i
  by_cases hi:i<N
  ·rw [List.getElem?_reverse oM,h,digN,List.getElem?_map,List.getElem?_range hi]
   have:=hj i hi
   rw [List.getD_eq_getElem?_getD,List.getElem?_eq_getElem (by omega)] at this
   rw [List.getElem?_eq_getElem (by omega)]
   exact congrArg some this
  ·rw [List.getElem?_eq_none (by rw [List.length_reverse];omega),List.getElem?_eq_none (by rw [digN_length];omega)]
 rw [e,digN_val,Nat.mod_eq_of_lt hN]
end Go.Proofs.YtbcfidllfimehaaGreatDoor
namespace Go.Proofs.YtbcfidllfimehaaGreatDoor
theorem take_set_succ (l:List Nat) (i v:Nat) (h:i<l.length) (B:Nat):val B ((l.set i v).take (i+1))=val B (l.take i)+v*B ^ i:=by
 rw [val_take_succ,List.take_set_of_le (Nat.le_refl _)]
 simp [List.getD_eq_getElem?_getD,h]
structure AddB (B:Nat) (x y cur:List Nat) (i c:Nat):Prop where
 dig:Dig B cur
 sum:val B (cur.take i)+c*B ^ i=val B (x.take i)+val B (y.take i)
 carry:c≤1
theorem AddB.step {B:Nat} {x y cur:List Nat} {i c:Nat} (hB:0<B) (h:AddB B x y cur i c) (hi:i<cur.length) (hx:Dig B x) (hy:Dig B y) :
  AddB B x y (cur.set i ((c+x.getD i 0+y.getD i 0) % B)) (i+1) ((c+x.getD i 0+y.getD i 0) / B):=by
 have h1:=hx.getD hB i
 have h2:=hy.getD hB i
 have h3:=h.carry
 refine ⟨h.dig.set _ _ (Nat.mod_lt _ hB),?_,?_⟩
 ·rw [take_set_succ _ _ _ hi,val_take_succ,val_take_succ B y]
  have hs:=h.sum
  have hd:=Nat.div_add_mod (c+x.getD i 0+y.getD i 0) B
  generalize (c+x.getD i 0+y.getD i 0) / B=q at *
  generalize (c+x.getD i 0+y.getD i 0) % B=s at *
  generalize x.getD i 0=u at *
  generalize y.getD i 0=w at *
  rw [Nat.pow_succ]
  generalize B ^ i=p at *
  have h5:(B*q+s)*p=(c+u+w)*p:=by rw [hd]
  grind
 ·have:(c+x.getD i 0+y.getD i 0) / B<2:=Nat.div_lt_of_lt_mul oM
  omega
def subS (B x y c:Nat):Nat:=if y+c≤x then x-y-c else x+B-y-c
def subC (x y c:Nat):Nat:=if y+c≤x then 0 else 1
structure SubB (B:Nat) (x y cur:List Nat) (i c:Nat):Prop where
 dig:Dig B cur
 sum:val B (cur.take i)+val B (y.take i)=val B (x.take i)+c*B ^ i
 carry:c≤1
theorem SubB.step {B:Nat} {x y cur:List Nat} {i c:Nat} (hB:0<B) (h:SubB B x y cur i c) (hi:i<cur.length) (hx:Dig B x) (hy:Dig B y) :
  SubB B x y (cur.set i (subS B (x.getD i 0) (y.getD i 0) c)) (i+1) (subC (x.getD i 0) (y.getD i 0) c):=by
 have h1:=hx.getD hB i
 have h2:=hy.getD hB i
 have h3:=h.carry
 have h4:subS B (x.getD i 0) (y.getD i 0) c+y.getD i 0+c=x.getD i 0+subC (x.getD i 0) (y.getD i 0) c*B:=by
  unfold subS subC;split <;> omega
 have h5:subS B (x.getD i 0) (y.getD i 0) c<B:=by unfold subS;split <;> omega
 have h6:subC (x.getD i 0) (y.getD i 0) c≤1:=by unfold subC;split <;> omega
 refine ⟨h.dig.set _ _ h5,?_,h6⟩
 rw [take_set_succ _ _ _ hi,val_take_succ B y,val_take_succ B x]
 have hs:=h.sum
 generalize subS B (x.getD i 0) (y.getD i 0) c=s at *
 generalize subC (x.getD i 0) (y.getD i 0) c=q at *
 generalize x.getD i 0=u at *
 generalize y.getD i 0=w at *
 rw [Nat.pow_succ]
 generalize B ^ i=p at *
 have h7:(s+w+c)*p=(u+q*B)*p:=by rw [h4]
 grind
structure MulB (B m:Nat) (y cur0:List Nat) (i:Nat) (cur:List Nat) (k c:Nat):Prop where
 len:cur.length=cur0.length
 dig:Dig B cur
 carry:c<B
 keep:∀ j,i+k≤j→cur.getD j 0=cur0.getD j 0
 sum:val B cur+c*B ^ (i+k)=val B cur0+m*val B (y.take k)*B ^ i
theorem MulB.start {B m:Nat} {y cur0:List Nat} {i:Nat} (hB:0<B) (h:Dig B cur0):MulB B m y cur0 i cur0 0 0:=⟨rfl,h,hB,fun _ _=>rfl,by simp [val]⟩
theorem mul_carry {B c o m n:Nat} (hc:c<B) (ho:o<B) (hm:m<B) (hn:n<B):(c+o+m*n) / B<B:=by
 refine Nat.div_lt_of_lt_mul ?_
 have h1:m*n≤(B-1)*(B-1):=Nat.mul_le_mul oM oM
 obtain ⟨b,rfl⟩:∃ b,B=b+1:=⟨B-1,by omega⟩
 rw [Nat.add_sub_cancel] at h1
 have:(b+1)*(b+1)=b*b+2*b+1:=by grind
 omega
theorem MulB.step {B m:Nat} {y cur0:List Nat} {i:Nat} {cur:List Nat} {k c:Nat} (hB:0<B) (h:MulB B m y cur0 i cur k c) (hk:i+k<cur.length) (hm:m<B) (hy:Dig B y) :
  MulB B m y cur0 i (cur.set (i+k) ((c+cur.getD (i+k) 0+m*y.getD k 0) % B)) (k+1) ((c+cur.getD (i+k) 0+m*y.getD k 0) / B):=by
 refine ⟨by rw [List.length_set];exact h.len,h.dig.set _ _ (Nat.mod_lt _ hB),mul_carry h.carry (h.dig.getD hB _) hm (hy.getD hB _),fun j hj=>?_,?_⟩
 ·rw [getD_set_ne _ _ _ _ (by omega)];exact h.keep j oM
 ·have hv:=val_set B cur (i+k) ((c+cur.getD (i+k) 0+m*y.getD k 0) % B) hk
  have hs:=h.sum
  have hd:=Nat.div_add_mod (c+cur.getD (i+k) 0+m*y.getD k 0) B
  rw [val_take_succ]
  generalize (c+cur.getD (i+k) 0+m*y.getD k 0) / B=q at *
  generalize (c+cur.getD (i+k) 0+m*y.getD k 0) % B=s at *
  generalize cur.getD (i+k) 0=o at *
  generalize y.getD k 0=w at *
  generalize val B (cur.set (i+k) s)=v1 at *
  rw [show i+(k+1)=(i+k)+1 by omega,Nat.pow_succ]
  have hp:B ^ (i+k)=B ^ k*B ^ i:=by rw [Nat.pow_add,Nat.mul_comm]
  rw [hp] at hv hs ⊢
  clear h hk hm hy hp
  generalize B ^ i=p at *
  generalize B ^ k=r at *
  have h5:(B*q+s)*(r*p)=(c+o+m*w)*(r*p):=by rw [hd]
  generalize val B cur=v0 at *
  generalize val B cur0=v00 at *
  generalize val B (y.take k)=vy at *
  grind
theorem MulB.done {B m:Nat} {y cur0:List Nat} {i:Nat} {cur:List Nat} {c:Nat} (h:MulB B m y cur0 i cur y.length c) (hk:i+y.length<cur.length) (h0:cur0.getD (i+y.length) 0=0) :
  val B (cur.set (i+y.length) c)=val B cur0+m*val B y*B ^ i:=by
 have hv:=val_set B cur (i+y.length) c hk
 have hs:=h.sum
 rw [h.keep _ (Nat.le_refl _),h0] at hv
 rw [List.take_length] at hs
 omega
theorem val_succ_mul (B:Nat) (x:List Nat) (i V:Nat):val B (x.take i)*V+x.getD i 0*V*B ^ i=val B (x.take (i+1))*V:=by
 rw [val_take_succ];grind
structure ShlB (B p:Nat) (x d:List Nat) (c:Nat):Prop where
 dig:Dig B d
 carry:c<2 ^ p
 sum:val B d+c*B ^ d.length=val B (x.take d.length)*2 ^ p
theorem ShlB.step {B p:Nat} {x d:List Nat} {c:Nat} (hB:0<B) (h:ShlB B p x d c) (hx:Dig B x):ShlB B p x (d++[(c+x.getD d.length 0*2 ^ p) % B]) ((c+x.getD d.length 0*2 ^ p) / B):=by
 have h1:=hx.getD hB d.length
 have h2:=h.carry
 have hs:=h.sum
 refine ⟨h.dig.snoc (Nat.mod_lt _ hB),Nat.div_lt_of_lt_mul ?_,?_⟩
 ·have:x.getD d.length 0*2 ^ p≤(B-1)*2 ^ p:=Nat.mul_le_mul_right _ oM
  obtain ⟨b,rfl⟩:∃ b,B=b+1:=⟨B-1,by omega⟩
  rw [Nat.add_sub_cancel] at this
  rw [Nat.add_mul];omega
 ·have hd:=Nat.div_add_mod (c+x.getD d.length 0*2 ^ p) B
  rw [val_snoc,List.length_append,List.length_singleton,val_take_succ,Nat.pow_succ]
  generalize (c+x.getD d.length 0*2 ^ p) / B=q at *
  generalize (c+x.getD d.length 0*2 ^ p) % B=s at *
  generalize x.getD d.length 0=w at *
  generalize B ^ d.length=r at *
  generalize val B (x.take d.length)=V at *
  have h5:(B*q+s)*r=(c+w*2 ^ p)*r:=by rw [hd]
  generalize 2 ^ p=t at *
  grind
structure OneB (B b:Nat) (x q:List Nat) (i r:Nat):Prop where
 dig:Dig B q
 len:q.length=x.length
 rest:r<b
 sum:val B (q.drop i)*b+r=val B (x.drop i)
theorem OneB.step {B b:Nat} {x q:List Nat} {i r:Nat} (hb:0<b) (h:OneB B b x q (i+1) r) (hi:i<x.length) (hx:Dig B x) :
  OneB B b x (q.set i ((r*B+x.getD i 0) / b)) i ((r*B+x.getD i 0) % b):=by
 have hxi:=hx.get i hi
 have hxd:x.getD i 0<B:=by rw [List.getD_eq_getElem?_getD,List.getElem?_eq_getElem hi];exact hxi
 have hr:=h.rest
 refine ⟨h.dig.set _ _ ?_,by rw [List.length_set];exact h.len,Nat.mod_lt _ hb,?_⟩
 ·refine Nat.div_lt_of_lt_mul ?_
  have:(r+1)*B≤b*B:=Nat.mul_le_mul_right _ hr
  rw [Nat.add_mul] at this
  omega
 ·have hs:=h.sum
  have hd:=Nat.div_add_mod (r*B+x.getD i 0) b
  rw [val_drop,val_drop B x,List.drop_set_of_lt oM,← hs,show (q.set i ((r*B+x.getD i 0) / b)).getD i 0=(r*B+x.getD i 0) / b from getD_set_eq _ _ _ (by rw [h.len];exact hi)]
  generalize (r*B+x.getD i 0) / b=u at *
  generalize (r*B+x.getD i 0) % b=w at *
  generalize val B (q.drop (i+1))=v at *
  grind
theorem val_ordB {B:Nat} (hB:0<B) {l m:List Nat} (k:Nat) (hl:Dig B l) (hm:Dig B m) (he:l.length=m.length) (hk:k<l.length) (hd:l.drop (k+1)=m.drop (k+1)) (hx:l.getD k 0≠m.getD k 0):ordN (val B l) (val B m)=ordN (l.getD k 0) (m.getD k 0):=by
 rw [val_split B l k oM,val_split B m k oM,val_drop B l k,val_drop B m k,hd]
 have h1:=val_lt (hl.take k)
 have h2:=val_lt (hm.take k)
 rw [List.length_take,Nat.min_eq_left (by omega)] at h1 h2
 rw [ordN_high h1 h2 (by omega)]
 unfold ordN
 generalize val B (m.drop (k+1))=V
 generalize B*V=Z
 split <;> split <;> (try split) <;> (try split) <;> omega
theorem pk_low_first {K B:Nat} (hK:0<K) (hB:0<B) (m k x:Nat) (r:List Nat) (hx:x<B) (hr:Dig B r) (h:k+1+r.length≤K*m) :
  pk K B (List.replicate k 0++x::r) m=(pk K B (List.replicate (k+1) 0++r) m).set (k / K) ((pk K B (List.replicate (k+1) 0++r) m).getD (k / K) 0+x*B ^ (k % K)):=by
 have hkm:k / K<m:=Nat.div_lt_of_lt_mul oM
 have hk2:=Nat.div_add_mod k K
 have hk3:=Nat.mod_lt k hK
 have hD0:Dig B (List.replicate (k+1) 0++r):=(Dig.zeros hB _).append hr
 have hD1:Dig B (List.replicate k 0++x::r):=(Dig.zeros hB _).append (Dig.cons hx hr)
 have hP0:Dig (B ^ K) (pk K B (List.replicate (k+1) 0++r) m):=pk_dig hB hD0 m
 have hw:(pk K B (List.replicate (k+1) 0++r) m).getD (k / K) 0+x*B ^ (k % K)<B ^ K:=by
  rw [pk_getD _ _ _ _ _ hkm,List.drop_append_of_le_length (by simp;omega),List.drop_replicate,show k+1-K*(k / K)=k % K+1 by omega,List.take_append,List.length_replicate,List.take_of_length_le (by simp;omega),val_append,val_zeros,List.length_replicate,Nat.zero_add]
  have hv:=val_lt (hr.take (K-(k % K+1)))
  have hl:(r.take (K-(k % K+1))).length≤K-(k % K+1):=by rw [List.length_take];omega
  have h1:B ^ (r.take (K-(k % K+1))).length≤B ^ (K-(k % K+1)):=Nat.pow_le_pow_right hB hl
  generalize val B (r.take (K-(k % K+1)))=v at *
  have h2:B ^ K=B ^ (k % K+1)*B ^ (K-(k % K+1)):=by rw [← Nat.pow_add];congr 1;omega
  rw [h2]
  have h3:B ^ (k % K+1)*(v+1)≤B ^ (k % K+1)*B ^ (K-(k % K+1)):=Nat.mul_le_mul_left _ oM
  have h4:(x+1)*B ^ (k % K)≤B*B ^ (k % K):=Nat.mul_le_mul_right _ hx
  have h5:0<B ^ (k % K):=Nat.pow_pos hB
  rw [Nat.mul_add,Nat.pow_succ,Nat.mul_comm (B ^ (k % K)) B] at h3
  rw [Nat.add_mul] at h4
  rw [Nat.pow_succ,Nat.mul_comm (B ^ (k % K)) B]
  omega
 refine list_ext (B:=B ^ K) (Nat.pow_pos hB) (pk_dig hB hD1 m) (hP0.set _ _ hw) (by rw [List.length_set,pk_length,pk_length]) ?_
 have hs:=val_set (B ^ K) (pk K B (List.replicate (k+1) 0++r) m) (k / K) ((pk K B (List.replicate (k+1) 0++r) m).getD (k / K) 0+x*B ^ (k % K)) (by rw [pk_length];exact hkm)
 rw [pk_val K B hK m _ (by simp;omega)] at hs ⊢
 have e1:val B (List.replicate k 0++x::r)=val B (List.replicate (k+1) 0++r)+x*B ^ k:=by
  rw [val_append,val_append,val_zeros,val_zeros,val_cons,List.length_replicate,List.length_replicate,Nat.pow_succ]
  grind
 have e2:x*B ^ k=x*B ^ (k % K)*(B ^ K) ^ (k / K):=by
  rw [← Nat.pow_mul,Nat.mul_assoc,← Nat.pow_add];congr 2;omega
 rw [Nat.add_mul,← e2] at hs
 omega
theorem bl_top {k low top:Nat} (h:low<2 ^ k) (ht:top≠0):bl (low+2 ^ k*top)=k+bl top:=by
 have h1:=lt_bl top
 have h2:=le_bl ht
 have h3:=bl_pos ht
 refine Nat.le_antisymm (bl_le ?_) ?_
 ·rw [Nat.pow_add]
  have:2 ^ k*(top+1)≤2 ^ k*2 ^ bl top:=Nat.mul_le_mul_left _ h1
  rw [Nat.mul_add] at this
  omega
 ·refine Nat.le_of_not_lt fun hlt=>?_
  have h4:low+2 ^ k*top<2 ^ (k+(bl top-1)):=Nat.lt_of_lt_of_le (lt_bl _) (Nat.pow_le_pow_right oM oM)
  rw [Nat.pow_add] at h4
  have:=Nat.mul_le_mul_left (2 ^ k) h2
  omega
end Go.Proofs.YtbcfidllfimehaaGreatDoor
namespace Go.Proofs.YtbcfidllfimehaaGreatDoor
open Go.RowKit _root_.Go.Proofs.Tryz
def B32:Nat:=4294967296
theorem B32_two:2≤B32:=by decide
theorem B32_val:B32=4294967296:=rfl
theorem B32_pow:B32=2 ^ 32:=by decide
theorem B32_256:B32=256 ^ 4:=by decide
namespace L32
def addLo (x y c:Nat):Nat:=(x+y+c) % B32
def addHi (x y c:Nat):Nat:=(x+y+c) / B32
def subLo (x y b:Nat):Nat:=(x+B32-y-b) % B32
def subHi (x y b:Nat):Nat:=if x<y+b then 1 else 0
theorem add_parts {x y c:Nat} (hx:x<B32) (hy:y<B32) (hc:c≤1):addLo x y c+addHi x y c*B32=x+y+c∧addLo x y c<B32∧addHi x y c≤1:=by
 unfold addLo addHi
 have:=B32_val
 simp only [B32_val] at *
 omega
theorem sub_parts {x y b:Nat} (hx:x<B32) (hy:y<B32) (hb:b≤1):subLo x y b+y+b=x+subHi x y b*B32∧subLo x y b<B32∧subHi x y b≤1:=by
 unfold subLo subHi
 simp only [B32_val] at *
 split <;> omega
def mid (l:List Nat) (j k:Nat):List Nat:=(l.drop j).take k
theorem val_mid (l:List Nat) (j k:Nat) (h:j+k≤l.length):val B32 l=val B32 (l.take j)+B32 ^ j*(val B32 (mid l j k)+B32 ^ k*val B32 (l.drop (j+k))):=by
 rw [val_split B32 l j oM,val_split B32 (l.drop j) k (by simp;omega),List.drop_drop]
 rfl
theorem mid_length (l:List Nat) (j k:Nat) (h:j+k≤l.length):(mid l j k).length=k:=by simp [mid];omega
theorem mid_dig {l:List Nat} (h:Dig B32 l) (j k:Nat):Dig B32 (mid l j k):=(h.drop j).take k
def Alike (l m:List Nat) (j k:Nat):Prop:=l.length=m.length∧∀ i,(i<j∨j+k≤i)→l.getD i 0=m.getD i 0
theorem Alike.refl (l:List Nat) (j k:Nat):Alike l l j k:=⟨rfl,fun _ _=>rfl⟩
theorem Alike.set {l m:List Nat} {j k:Nat} (h:Alike l m j k) (i v:Nat) (hi:j≤i) (hi2:i<j+k):Alike (l.set i v) m j k :=
 ⟨by simpa using h.1,fun x hx=>by rw [getD_set_ne _ _ _ _ (by omega)];exact h.2 x hx⟩
theorem ext_getD {l m:List Nat} (hl:l.length=m.length) (h:∀ i,l.getD i 0=m.getD i 0):l=m:=by
 apply List.ext_getElem hl
 intro i h1 h2
 have:=h i
 simpa [List.getD_eq_getElem?_getD,h1,h2] using this
theorem getD_take (l:List Nat) (j i:Nat):(l.take j).getD i 0=if i<j then l.getD i 0 else 0:=by
 simp only [List.getD_eq_getElem?_getD,List.getElem?_take]
 split <;> simp
theorem getD_drop (l:List Nat) (j i:Nat):(l.drop j).getD i 0=l.getD (j+i) 0:=by
 simp [List.getD_eq_getElem?_getD]
theorem Alike.take {l m:List Nat} {j k:Nat} (h:Alike l m j k):l.take j=m.take j :=
 ext_getD (by simp [h.1]) (fun i=>by
  rw [getD_take,getD_take]
  split
  ·exact h.2 i oM
  ·rfl)
theorem Alike.drop {l m:List Nat} {j k:Nat} (h:Alike l m j k):l.drop (j+k)=m.drop (j+k) :=
 ext_getD (by simp [h.1]) (fun i=>by rw [getD_drop,getD_drop];exact h.2 _ oM)
theorem Alike.mid_eq {l m:List Nat} {j k:Nat} (h:Alike l m j k) (hk:j+k≤l.length) {a b:Nat} (e:val B32 l+a*B32 ^ j=val B32 m+b*B32 ^ (j+k)) :
  val B32 (mid l j k)+a=val B32 (mid m j k)+b*B32 ^ k:=by
 rw [val_mid l j k hk,val_mid m j k (by rw [← h.1];exact hk),h.take,h.drop] at e
 have hp:0<B32 ^ j:=Nat.pow_pos (by decide)
 rw [Nat.pow_add] at e
 generalize val B32 (mid l j k)=x at *
 generalize val B32 (mid m j k)=y at *
 generalize val B32 (m.drop (j+k))=z at *
 generalize val B32 (m.take j)=t at *
 generalize B32 ^ j=P at *
 generalize B32 ^ k=Q at *
 have e2:P*(x+a+Q*z)=P*(y+b*Q+Q*z):=by
  have h1:t+P*(x+Q*z)+a*P=t+P*(x+a+Q*z):=by grind
  have h2:t+P*(y+Q*z)+b*(P*Q)=t+P*(y+b*Q+Q*z):=by grind
  omega
 have:=Nat.eq_of_mul_eq_mul_left hp e2
 omega
theorem sub_round (U U0 v:List Nat) (j i k g c b x vi hi lw:Nat) (hk:k=j+i) (hlen:k<U.length) (hx:x<B32) (hU:U.getD k 0=x) (hvi:v.getD i 0=vi) (hlo:lw<B32) (hhl:hi*B32+lw=g*vi) (hgv:g*vi+c<B32*B32) (hc:c<B32) (hb:b≤1)
  (hv:val B32 U+g*val B32 (v.take i)*B32 ^ j=val B32 U0+(b+c)*B32 ^ k) :
  hi+addHi lw c 0<B32∧subHi x (addLo lw c 0) b≤1∧subLo x (addLo lw c 0) b<B32 ∧
  val B32 (U.set k (subLo x (addLo lw c 0) b))+g*val B32 (v.take (i+1))*B32 ^ j=val B32 U0+(subHi x (addLo lw c 0) b+(hi+addHi lw c 0))*B32 ^ (k+1):=by
 have ap:=add_parts hlo hc (show 0≤1 by omega)
 have sp:=sub_parts hx ap.2.1 hb
 generalize addLo lw c 0=s at *
 generalize addHi lw c 0=a at *
 generalize subLo x s b=u' at *
 generalize subHi x s b=b' at *
 have hca:hi+a<B32:=by
  have:(hi+a)*B32<B32*B32:=by rw [Nat.add_mul];omega
  exact Nat.lt_of_mul_lt_mul_right this
 refine ⟨hca,sp.2.2,sp.2.1,?_⟩
 ·have v1:=val_set B32 U k u' hlen
  rw [hU] at v1
  rw [val_take_succ,hvi,Nat.pow_succ]
  have e1:g*(val B32 (v.take i)+vi*B32 ^ i)*B32 ^ j=g*val B32 (v.take i)*B32 ^ j+(g*vi)*B32 ^ k:=by
   rw [hk,Nat.pow_add];grind
  rw [e1]
  generalize B32 ^ k=P at *
  generalize g*val B32 (v.take i)*B32 ^ j=G at *
  generalize val B32 (U.set k u')=A at *
  generalize val B32 U=A0 at *
  generalize val B32 U0=Z at *
  have e2:(u'+s+b)*P=(x+b'*B32)*P:=by rw [sp.1]
  have e3:(s+a*B32)*P=(lw+c)*P:=by rw [← Nat.add_zero (lw+c),← ap.1]
  have e4:(hi*B32+lw)*P=(g*vi)*P:=by rw [hhl]
  grind
theorem add_round (U U0 v:List Nat) (j i k c x vi:Nat) (hk:k=j+i) (hlen:k<U.length) (hx:x<B32) (hU:U.getD k 0=x) (hvi:v.getD i 0=vi) (hvW:vi<B32) (hc:c≤1)
  (hv:val B32 U+c*B32 ^ k=val B32 U0+val B32 (v.take i)*B32 ^ j) :
  addLo x vi c<B32∧addHi x vi c≤1∧val B32 (U.set k (addLo x vi c))+addHi x vi c*B32 ^ (k+1)=val B32 U0+val B32 (v.take (i+1))*B32 ^ j:=by
 have ap:=add_parts hx hvW hc
 generalize addLo x vi c=s at *
 generalize addHi x vi c=a at *
 refine ⟨ap.2.1,ap.2.2,?_⟩
 have v1:=val_set B32 U k s hlen
 rw [hU] at v1
 rw [val_take_succ,hvi,Nat.pow_succ]
 have e1:(val B32 (v.take i)+vi*B32 ^ i)*B32 ^ j=val B32 (v.take i)*B32 ^ j+vi*B32 ^ k:=by
  rw [hk,Nat.pow_add];grind
 rw [e1]
 generalize B32 ^ k=P at *
 generalize val B32 (v.take i)*B32 ^ j=G at *
 generalize val B32 (U.set k s)=A at *
 generalize val B32 U=A0 at *
 generalize val B32 U0=Z at *
 have e2:(s+a*B32)*P=(x+vi+c)*P:=by rw [ap.1]
 grind
structure Long (X V n g:Nat) (U q:List Nat):Prop where
 dU:Dig B32 U
 dq:Dig B32 q
 top:val B32 (U.drop g)<V
 sum:X=val B32 U+V*val B32 q
 low:∀ k,k<g→q.getD k 0=0
theorem Long.rem {X V n j:Nat} {U q:List Nat} (h:Long X V n (j+1) U q) (hj:j+(n+1)≤U.length) (hV:V<B32 ^ n) :
  val B32 (mid U j (n+1))<B32*V∧val B32 (U.drop j)=val B32 (mid U j (n+1))∧val B32 (U.drop (j+(n+1)))=0:=by
 have h1:=val_drop B32 U j
 have h2:=h.dU.getD (show 0<B32 by decide) j
 have h3:=h.top
 have h0:val B32 (U.drop (j+(n+1)))=0:=by
  have e:=val_split B32 (U.drop (j+1)) n (by simp;omega)
  rw [List.drop_drop,show j+1+n=j+(n+1) by omega] at e
  rcases Nat.eq_zero_or_pos (val B32 (U.drop (j+(n+1)))) with h | h
  ·exact h
  ·exfalso
   have:B32 ^ n*1≤B32 ^ n*val B32 (U.drop (j+(n+1))):=Nat.mul_le_mul_left _ h
   omega
 have h4:val B32 (U.drop j)=val B32 (mid U j (n+1)):=by
  have e:=val_split B32 (U.drop j) (n+1) (by simp;omega)
  rw [List.drop_drop,h0,Nat.mul_zero,Nat.add_zero] at e
  exact e
 refine ⟨?_,h4,h0⟩
 rw [← h4,h1]
 have:B32*(val B32 (U.drop (j+1))+1)≤B32*V:=Nat.mul_le_mul_left _ h3
 rw [Nat.mul_add] at this;omega
theorem Long.next {X V n j:Nat} {U q U':List Nat} (h:Long X V n (j+1) U q) (hj:j+(n+1)≤U.length) (hV:V<B32 ^ n) (hV0:0<V) (hjq:j<q.length) (ha:Alike U' U j (n+1)) (hD:Dig B32 U')
  (hm:val B32 (mid U' j (n+1))=val B32 (mid U j (n+1)) % V):Long X V n j U' (q.set j (val B32 (mid U j (n+1)) / V)):=by
 obtain ⟨r1,r2,r3⟩:=h.rem hj hV
 have hlt:=Nat.mod_lt (val B32 (mid U j (n+1))) hV0
 have e:=Nat.div_add_mod (val B32 (mid U j (n+1))) V
 have hdg:val B32 (mid U j (n+1)) / V<B32:=Nat.div_lt_of_lt_mul (by rw [Nat.mul_comm];exact r1)
 have hj':j+(n+1)≤U'.length:=by rw [ha.1];exact hj
 refine ⟨hD,h.dq.set _ _ hdg,?_,?_,fun k hk=>by rw [getD_set_ne _ _ _ _ (by omega)];exact h.low k oM⟩
 ·have e2:=val_split B32 (U'.drop j) (n+1) (by simp;omega)
  rw [List.drop_drop,ha.drop,r3,Nat.mul_zero,Nat.add_zero] at e2
  rw [e2]
  show val B32 (mid U' j (n+1))<V
  rw [hm];exact hlt
 ·have v1:=val_set B32 q j (val B32 (mid U j (n+1)) / V) hjq
  rw [h.low j oM,Nat.zero_mul,Nat.add_zero] at v1
  rw [v1,h.sum,val_mid U j (n+1) hj,val_mid U' j (n+1) hj',ha.take,ha.drop,r3,hm]
  generalize val B32 (mid U j (n+1)) / V=d at *
  generalize val B32 (mid U j (n+1)) % V=m at *
  generalize val B32 (mid U j (n+1))=R at *
  subst e
  grind
theorem divisor_facts (y':List Nat) (t s k:Nat) (hD:Dig B32 y') (h1:t<2 ^ k) (h2:2 ^ (k-1)≤t) (hk:0<k) (hs:s+k=32) :
  (val B32 y'+t*B32 ^ y'.length)*2 ^ s<B32 ^ (y'.length+1)∧B32 ^ (y'.length+1)≤2*((val B32 y'+t*B32 ^ y'.length)*2 ^ s):=by
 have hv:=val_lt hD
 have e:B32=2 ^ k*2 ^ s:=by rw [B32_pow,← Nat.pow_add];congr 1;omega
 have e2:B32=2*(2 ^ (k-1)*2 ^ s):=by rw [e,← Nat.mul_assoc,Nat.mul_comm 2,← Nat.pow_succ];congr 2;omega
 rw [Nat.pow_succ]
 generalize val B32 y'=v at *
 generalize B32 ^ y'.length=P at *
 have hs0:0<2 ^ s:=Nat.pow_pos oM
 constructor
 ·have h3:(v+t*P)<2 ^ k*P:=by
   have:(t+1)*P≤2 ^ k*P:=Nat.mul_le_mul_right _ h1
   rw [Nat.add_mul] at this;omega
  have:=Nat.mul_lt_mul_of_pos_right h3 hs0
  have e3:2 ^ k*P*2 ^ s=P*B32:=by rw [e];grind
  omega
 ·have h3:2 ^ (k-1)*P≤v+t*P:=by
   have:2 ^ (k-1)*P≤t*P:=Nat.mul_le_mul_right _ h2
   omega
  have:=Nat.mul_le_mul_right (2 ^ s) h3
  have e3:P*B32=2*(2 ^ (k-1)*P*2 ^ s):=by
   have:P*B32=P*(2*(2 ^ (k-1)*2 ^ s)):=by rw [← e2]
   rw [this];grind
  omega
theorem top_words (l:List Nat) (n:Nat) (h:Dig B32 l) (hl:l.length=n) (hn:2≤n):val B32 l=(l.getD (n-1) 0*B32+l.getD (n-2) 0)*B32 ^ (n-2)+val B32 (l.take (n-2))∧val B32 (l.take (n-2))<B32 ^ (n-2):=by
 have e:=val_split B32 l (n-2) oM
 have hlt:=val_lt (h.take (n-2))
 rw [List.length_take,Nat.min_eq_left (by omega)] at hlt
 refine ⟨?_,hlt⟩
 rw [e,val_drop,val_drop B32 l (n-2+1),show n-2+1=n-1 by omega,List.drop_of_length_le (show l.length≤n-1+1 by omega),val_nil]
 grind
theorem top_half (l:List Nat) (n:Nat) (h:Dig B32 l) (hl:l.length=n) (hn:1≤n) (hV:B32 ^ n≤2*val B32 l):B32≤2*l.getD (n-1) 0:=by
 have e:=val_split B32 l (n-1) oM
 have hlt:=val_lt (h.take (n-1))
 rw [List.length_take,Nat.min_eq_left (by omega)] at hlt
 rw [val_drop,show n-1+1=n by omega,List.drop_of_length_le (show l.length≤n by omega),val_nil,Nat.mul_zero,Nat.add_zero] at e
 generalize l.getD (n-1) 0=v1 at *
 obtain ⟨m,rfl⟩:∃ m,n=m+1:=⟨n-1,by omega⟩
 rw [Nat.add_sub_cancel] at *
 rw [Nat.pow_succ] at hV
 generalize val B32 (l.take m)=a at *
 generalize val B32 l=b at *
 generalize B32 ^ m=P at *
 have h1:P*B32<P*(2*(v1+1)):=by
  have:P*(2*(v1+1))=2*(P*v1)+2*P:=by grind
  omega
 have h2:=Nat.lt_of_mul_lt_mul_left h1
 simp only [B32_val] at *
 omega
theorem top3_words (l:List Nat) (n:Nat) (h:Dig B32 l) (hl:l.length=n+1) (hn:2≤n):val B32 l=((l.getD n 0*B32+l.getD (n-1) 0)*B32+l.getD (n-2) 0)*B32 ^ (n-2)+val B32 (l.take (n-2))∧val B32 (l.take (n-2))<B32 ^ (n-2):=by
 have e:=val_split B32 l (n-2) oM
 have hlt:=val_lt (h.take (n-2))
 rw [List.length_take,Nat.min_eq_left (by omega)] at hlt
 refine ⟨?_,hlt⟩
 rw [e,val_drop,val_drop B32 l (n-2+1),show n-2+1=n-1 by omega,val_drop B32 l (n-1+1),show n-1+1=n by omega,List.drop_of_length_le (show l.length≤n+1 by omega),val_nil]
 grind
theorem getD_mid (l:List Nat) (j k i:Nat) (hi:i<k):(mid l j k).getD i 0=l.getD (j+i) 0:=by
 unfold mid;rw [getD_take,if_pos hi,getD_drop]
theorem Long.guess {X V n j:Nat} {U q vl:List Nat} (h:Long X V n (j+1) U q) (hj:j+(n+1)≤U.length) (hn:2≤n) (hV:V<B32 ^ n) (hVh:B32 ^ n≤2*V) (hvl:vl.length=n) (hvD:Dig B32 vl) (hvV:val B32 vl=V) :
  U.getD (j+n) 0≤vl.getD (n-1) 0∧∀ g,g<B32→g*(vl.getD (n-1) 0*B32+vl.getD (n-2) 0)≤(U.getD (j+n) 0*B32+U.getD (j+(n-1)) 0)*B32+U.getD (j+(n-2)) 0 →
   ((U.getD (j+n) 0*B32+U.getD (j+(n-1)) 0)*B32+U.getD (j+(n-2)) 0<(g+1)*(vl.getD (n-1) 0*B32+vl.getD (n-2) 0)∨g=B32-1) →
   val B32 (mid U j (n+1)) / V≤g∧g≤val B32 (mid U j (n+1)) / V+1:=by
 obtain ⟨r1,r2,r3⟩:=h.rem hj hV
 have htw:=top_words vl n hvD hvl hn
 have h3:=top3_words (mid U j (n+1)) n (mid_dig h.dU _ _) (mid_length _ _ _ hj) hn
 rw [getD_mid _ _ _ _ oM,getD_mid _ _ _ _ oM,getD_mid _ _ _ _ (by omega)] at h3
 rw [hvV] at htw
 have hP:B32*B32 ^ (n-2)≤V:=by
  have e:B32 ^ n=B32*(B32*B32 ^ (n-2)):=by rw [← Nat.mul_assoc,Nat.mul_comm,← Nat.pow_two,← Nat.pow_add];congr 1;omega
  have:2*(B32*B32 ^ (n-2))≤B32*(B32*B32 ^ (n-2)):=Nat.mul_le_mul_right _ B32_two
  omega
 constructor
 ·have e1:(mid U j (n+1)).length=n+1:=mid_length _ _ _ hj
  have h4:=h.top
  have h5:val B32 (U.drop (j+1))≥U.getD (j+n) 0*B32 ^ (n-1):=by
   have e:=val_split B32 (U.drop (j+1)) (n-1) (by simp;omega)
   rw [List.drop_drop,val_drop B32 U (j+1+(n-1)),show j+1+(n-1)=j+n by omega] at e
   have:U.getD (j+n) 0*B32 ^ (n-1)≤B32 ^ (n-1)*(U.getD (j+n) 0+B32*val B32 (U.drop (j+n+1))):=by
    rw [Nat.mul_comm];exact Nat.mul_le_mul_left _ oM
   omega
  have h6:V<(vl.getD (n-1) 0+1)*B32 ^ (n-1):=by
   have e:=val_split B32 vl (n-1) oM
   have hlt:=val_lt (hvD.take (n-1))
   rw [List.length_take,Nat.min_eq_left (by omega)] at hlt
   rw [val_drop,show n-1+1=n by omega,List.drop_of_length_le (show vl.length≤n by omega),val_nil,Nat.mul_zero,Nat.add_zero,hvV] at e
   rw [e,Nat.add_mul,Nat.mul_comm (vl.getD (n-1) 0)];omega
  have h7:U.getD (j+n) 0*B32 ^ (n-1)<(vl.getD (n-1) 0+1)*B32 ^ (n-1):=by omega
  have:=Nat.lt_of_mul_lt_mul_right h7
  omega
 ·intro g hg h1 h2
  exact knuth_guess h3.1 h3.2 htw.1 htw.2 (by decide) r1 hP h1 hg h2
theorem sub_end (U U1:List Nat) (V g c b xu j n:Nat) (hjx:j+(n+1)≤U.length) (hal:Alike U1 U j (n+1)) (hD:Dig B32 U) (hD1:Dig B32 U1) (hxu:U1.getD (j+n) 0=xu) (hc:c<B32) (hb:b≤1)
  (hv:val B32 U1+g*V*B32 ^ j=val B32 U+(b+c)*B32 ^ (j+n)) (hV0:0<V) (hV:V<B32 ^ n) (h1:val B32 (mid U j (n+1)) / V≤g) (h2:g≤val B32 (mid U j (n+1)) / V+1) :
  Alike (U1.set (j+n) (subLo xu c b)) U j (n+1)∧Dig B32 (U1.set (j+n) (subLo xu c b))∧subHi xu c b≤1 ∧
  (subHi xu c b=0→g=val B32 (mid U j (n+1)) / V∧val B32 (mid (U1.set (j+n) (subLo xu c b)) j (n+1))=val B32 (mid U j (n+1)) % V) ∧
  (subHi xu c b=1→g=val B32 (mid U j (n+1)) / V+1∧val B32 (mid (U1.set (j+n) (subLo xu c b)) j (n+1))+V=val B32 (mid U j (n+1)) % V+B32 ^ (n+1)):=by
 have hku:j+n<U1.length:=by rw [hal.1];omega
 have hxW:xu<B32:=by rw [← hxu];exact hD1.getD (by decide) _
 have sp:=sub_parts hxW hc hb
 have hvs:=val_set B32 U1 (j+n) (subLo xu c b) hku
 rw [hxu] at hvs
 have hU2:val B32 (U1.set (j+n) (subLo xu c b))+g*V*B32 ^ j=val B32 U+subHi xu c b*B32 ^ (j+(n+1)):=by
  rw [show j+(n+1)=j+n+1 by omega,Nat.pow_succ]
  have e2:(subLo xu c b+c+b)*B32 ^ (j+n)=(xu+subHi xu c b*B32)*B32 ^ (j+n):=by rw [sp.1]
  generalize B32 ^ (j+n)=P at *
  generalize g*V*B32 ^ j=G at *
  generalize val B32 (U1.set (j+n) (subLo xu c b))=A at *
  generalize subLo xu c b=s at *
  generalize subHi xu c b=t at *
  grind
 have hal2:=hal.set (j+n) (subLo xu c b) oM oM
 have hD2:=hD1.set (j+n) (subLo xu c b) sp.2.1
 have hl2:j+(n+1)≤(U1.set (j+n) (subLo xu c b)).length:=by rw [hal2.1];exact hjx
 have hme:=hal2.mid_eq hl2 hU2
 have hVM:V≤B32 ^ (n+1):=by
  have h2:B32 ^ n≤B32 ^ (n+1):=Nat.pow_le_pow_right (by decide) oM
  omega
 have hRM:val B32 (mid U j (n+1))<B32 ^ (n+1):=by
  have:=val_lt (mid_dig hD j (n+1));rwa [mid_length _ _ _ hjx] at this
 have hdM:val B32 (mid (U1.set (j+n) (subLo xu c b)) j (n+1))<B32 ^ (n+1):=by
  have:=val_lt (mid_dig hD2 j (n+1));rwa [mid_length _ _ _ hl2] at this
 have hks:=knuth_sub hV0 hVM hme hdM hRM h1 h2
 exact ⟨hal2,hD2,sp.2.2,hks.1,fun h=>(hks.2 oM).2⟩
theorem add_end (U2 U3:List Nat) (V c xu j n m:Nat) (hjx:j+(n+1)≤U2.length) (hal:Alike U3 U2 j n) (hD3:Dig B32 U3) (hxu:U3.getD (j+n) 0=xu) (hc:c≤1)
  (hv:val B32 U3+c*B32 ^ (j+n)=val B32 U2+V*B32 ^ j) (hm:val B32 (mid U2 j (n+1))+V=m+B32 ^ (n+1)) (hmM:m<B32 ^ (n+1)) :
  Alike (U3.set (j+n) ((xu+c) % B32)) U2 j (n+1)∧Dig B32 (U3.set (j+n) ((xu+c) % B32))∧val B32 (mid (U3.set (j+n) ((xu+c) % B32)) j (n+1))=m:=by
 have hku:j+n<U3.length:=by rw [hal.1];omega
 have hxW:xu<B32:=by rw [← hxu];exact hD3.getD (by decide) _
 have hal1:Alike U3 U2 j (n+1):=⟨hal.1,fun i hi=>hal.2 i oM⟩
 have hal2:=hal1.set (j+n) ((xu+c) % B32) oM oM
 have hD2:=hD3.set (j+n) ((xu+c) % B32) (Nat.mod_lt _ (by decide))
 have hl2:j+(n+1)≤(U3.set (j+n) ((xu+c) % B32)).length:=by rw [hal2.1];exact hjx
 refine ⟨hal2,hD2,?_⟩
 have hvs:=val_set B32 U3 (j+n) ((xu+c) % B32) hku
 rw [hxu] at hvs
 have e:=Nat.div_add_mod (xu+c) B32
 have hU:val B32 U2+V*B32 ^ j=val B32 (U3.set (j+n) ((xu+c) % B32))+(xu+c) / B32*B32 ^ (j+(n+1)):=by
  rw [show j+(n+1)=j+n+1 by omega,Nat.pow_succ]
  generalize (xu+c) / B32=a at *
  generalize (xu+c) % B32=s at *
  have e2:(B32*a+s)*B32 ^ (j+n)=(xu+c)*B32 ^ (j+n):=by rw [e]
  generalize B32 ^ (j+n)=P at *
  generalize val B32 (U3.set (j+n) s)=A at *
  grind
 have hal3:Alike U2 (U3.set (j+n) ((xu+c) % B32)) j (n+1):=⟨hal2.1.symm,fun i hi=>(hal2.2 i hi).symm⟩
 have hme:=hal3.mid_eq hjx hU
 have hdM:val B32 (mid (U3.set (j+n) ((xu+c) % B32)) j (n+1))<B32 ^ (n+1):=by
  have:=val_lt (mid_dig hD2 j (n+1));rwa [mid_length _ _ _ hl2] at this
 rw [hm] at hme
 generalize val B32 (mid (U3.set (j+n) ((xu+c) % B32)) j (n+1))=d at *
 generalize (xu+c) / B32=a at *
 generalize B32 ^ (n+1)=M at *
 have ha:a=1:=by
  rcases Nat.lt_or_ge a 1 with h | h
  ·have:a=0:=by omega
   subst this;omega
  ·rcases Nat.lt_or_ge a 2 with h2 | h2
   ·omega
   ·have:2*M≤a*M:=Nat.mul_le_mul_right M h2
    omega
 subst ha;omega
theorem Long.final {X V n xv yv s:Nat} {U q:List Nat} (h:Long X V n 0 U q) (hX:X=xv*2 ^ s) (hVv:V=yv*2 ^ s) (hV:V<B32 ^ n) (hn:n≤U.length) :
  val B32 q=xv / yv∧val B32 (U.take n) / 2 ^ s=xv % yv:=by
 have htop:=h.top
 rw [List.drop_zero] at htop
 have hsum:=h.sum
 have hV0:0<V:=by omega
 have hs0:0<2 ^ s:=Nat.pow_pos oM
 have e1:X / V=val B32 q:=by rw [hsum,Nat.add_mul_div_left _ _ hV0,Nat.div_eq_of_lt htop,Nat.zero_add]
 have e2:X % V=val B32 U:=by rw [hsum,Nat.add_mul_mod_self_left,Nat.mod_eq_of_lt htop]
 have hUt:val B32 (U.take n)=val B32 U:=by
  have e:=val_split B32 U n hn
  rcases Nat.eq_zero_or_pos (val B32 (U.drop n)) with h0 | h0
  ·rw [h0,Nat.mul_zero,Nat.add_zero] at e;exact e.symm
  ·exfalso
   have:B32 ^ n*1≤B32 ^ n*val B32 (U.drop n):=Nat.mul_le_mul_left _ h0
   omega
 rw [hX,hVv,Nat.mul_div_mul_right _ _ hs0] at e1
 rw [hX,hVv,Nat.mul_mod_mul_right] at e2
 refine ⟨e1.symm,?_⟩
 rw [hUt,← e2,Nat.mul_div_cancel _ hs0]
end L32
theorem wi_inc (i:Nat) (h:i≤4000000000000):IntKind.i64.wrap ((i:Int)+1)=((i+1:Nat):Int):=by rw [IntKind.wrap_i64];omega
theorem wi_dec (i:Nat) (h0:0<i) (h:i≤4000000000000):IntKind.i64.wrap ((i:Int)-1)=((i-1:Nat):Int):=by rw [IntKind.wrap_i64];omega
theorem wi_add (i j:Nat) (h:i+j≤4000000000000):IntKind.i64.wrap ((i:Int)+(j:Int))=((i+j:Nat):Int):=by rw [IntKind.wrap_i64];omega
theorem wi_sub (i j:Nat) (h0:j≤i) (h:i≤4000000000000):IntKind.i64.wrap ((i:Int)-(j:Int))=((i-j:Nat):Int):=by rw [IntKind.wrap_i64];omega
theorem wi_mul (k i:Nat) (h:k*i≤4000000000000):IntKind.i64.wrap ((k:Int)*(i:Int))=((k*i:Nat):Int):=by
 rw [← Int.natCast_mul,IntKind.wrap_i64]
 generalize k*i=q at *
 omega
theorem wi_quo (i k:Nat) (h:i≤4000000000000):IntKind.i64.wrap ((i:Int).tdiv (k:Int))=((i / k:Nat):Int):=by
 rw [Int.tdiv_eq_ediv_of_nonneg oM,← Int.natCast_ediv,IntKind.wrap_i64]
 have:=Nat.div_le_self i k
 generalize i / k=q at *
 omega
theorem wi_rem (i k:Nat):(i:Int).tmod (k:Int)=((i % k:Nat):Int):=by
 rw [Int.tmod_eq_emod_of_nonneg oM,Int.natCast_emod]
theorem wu_mod (n:Nat):IntKind.u64.wrap (n:Int)=((n % W64:Nat):Int):=wrapU64_nat n
theorem wu_id (n:Nat) (h:n<W64):IntKind.u64.wrap (n:Int)=(n:Int):=by rw [wu_mod,Nat.mod_eq_of_lt h]
theorem wu32 (n:Nat):IntKind.u32.wrap (n:Int)=((n % B32:Nat):Int):=by rw [wrapU32,show B32=4294967296 from rfl];omega
theorem wu_add (a b:Nat) (h:a+b<W64):IntKind.u64.wrap ((a:Int)+(b:Int))=((a+b:Nat):Int):=by rw [← Int.natCast_add,wu_id _ h]
theorem wu_mul (a b:Nat) (h:a*b<W64):IntKind.u64.wrap ((a:Int)*(b:Int))=((a*b:Nat):Int):=by rw [← Int.natCast_mul,wu_id _ h]
theorem wu_shr (x p:Nat):(x:Int).fdiv (2 ^ p)=((x / 2 ^ p:Nat):Int):=by
 rw [show ((2:Int) ^ p)=((2 ^ p:Nat):Int) by push_cast;rfl,Int.fdiv_eq_ediv_of_nonneg _ (Int.natCast_nonneg _),← Int.natCast_ediv]
theorem wu_shl (x p:Nat):IntKind.u64.wrap ((x:Int)*2 ^ p)=((x*2 ^ p % W64:Nat):Int):=shl_cast x p
theorem lt_dec (a b:Nat) (h:a<b):decide ((a:Int)<(b:Int))=true:=by simpa using h
theorem lt_dec' (a b:Nat) (h:¬ a<b):decide ((a:Int)<(b:Int))=false:=by simpa using h
theorem map_at {enc:Nat→Value} {l:List Nat} {i:Nat} (h:i<l.length):(l.map enc)[i]?=some (enc (l.getD i 0)):=by
 rw [List.getElem?_map,List.getD_eq_getElem?_getD,List.getElem?_eq_getElem h];rfl
def pickE {α:Type} (env:Env):List Nat→(Env→Option α)→Option α
 | [],k=>k []
 | t::ts,k=>match env.get t with
  | some s=>pickE env ts fun r=>k ((t,s)::r)
  | none=>none
def pickX {α:Type} (bx:Bxs):List Nat→(Bxs→Option α)→Option α
 | [],k=>k []
 | t::ts,k=>match bx.get t with
  | some s=>pickX bx ts fun r=>k ((t,s)::r)
  | none=>none
theorem pickE_spec {α:Type} {env:Env}:∀ {ts:List Nat} {k:Env→Option α} {r:α},pickE env ts k=some r→∃ K,k K=some r∧SubL env K
 | [],k,r,h=>⟨[],h,trivial⟩
 | t::ts,k,r,h=>by
  unfold pickE at h
  split at h
  ·rename_i s hs
   obtain ⟨K,h1,h2⟩:=pickE_spec h
   exact ⟨_,h1,hs,h2⟩
  ·cases h
theorem pickX_spec {α:Type} {bx:Bxs}:∀ {ts:List Nat} {k:Bxs→Option α} {r:α},pickX bx ts k=some r→∃ K,k K=some r∧SubX bx K
 | [],k,r,h=>⟨[],h,trivial⟩
 | t::ts,k,r,h=>by
  unfold pickX at h
  split at h
  ·rename_i s hs
   obtain ⟨K,h1,h2⟩:=pickX_spec h
   exact ⟨_,h1,hs,h2⟩
  ·cases h
theorem pickE_some {env:Env} {ts:List Nat} {K:Env} (h:pickE env ts some=some K):SubL env K:=by
 obtain ⟨K',h1,h2⟩:=pickE_spec h;cases h1;exact h2
theorem pickX_some {bx:Bxs} {ts:List Nat} {K:Bxs} (h:pickX bx ts some=some K):SubX bx K:=by
 obtain ⟨K',h1,h2⟩:=pickX_spec h;cases h1;exact h2
theorem SubL.app {env:Env}:∀ {M K:Env},SubL env M→SubL env K→SubL env (M++K)
 | [],_,_,h=>h
 | (_,_)::_,_,h,k=>⟨h.1,SubL.app h.2 k⟩
theorem SubX.app {bx:Bxs}:∀ {M K:Bxs},SubX bx M→SubX bx K→SubX bx (M++K)
 | [],_,_,h=>h
 | (_,_)::_,_,h,k=>⟨h.1,SubX.app h.2 k⟩
section
variable {P:Program} {n:Nat} {ops:Array Oper} {o:Oper} {rest:List Oper} {env:Env} {bx:Bxs} {sb:Bxs} {ow:Ows} {H:Hs} {Q:EQ} {τ:Tab} {d:Nat} {s:SV}
theorem EV.loopK {c:Code} {ι:Type} (ks kb:List Nat) (M:ι→Env) (MB:ι→Bxs) (O:ι→Ows) (I:ι→Hp→Prop) (μ:ι→Nat) (i0:ι) {K:Env} {KB:Bxs}
  (hk:pickE env ks some=some K) (hkb:pickX bx kb some=some KB) (he:SubL env (M i0)) (hb:SubX bx (MB i0)) (ho:H.ow=O i0) (hp:∀ i,pinAll (M i++K) (MB i++KB)=true) (h0:I i0 H.ro)
  (h:∀ i G,H.ro.Le G→I i G→EV P n c (M i++K) (MB i++KB) ⟨G,O i,H.base⟩ (thenQ (fun env' bx' G'=>∃ i',SubL env' (M i')∧SubL env' K∧SubX bx' (MB i')∧SubX bx' KB∧G'.ow=O i'∧I i' G'.ro∧G.Le G'.ro∧μ i'<μ i) Q)):EV P n (.loop c) env bx H Q:=by
 refine EV.loop (fun i=>M i++K) (fun i=>MB i++KB) O I μ i0 (he.app (pickE_some hk)) (hb.app (pickX_some hkb)) ho hp h0 fun i G hG hI=>?_
 refine EV.meet _ ?_ (h i G hG hI)
 rintro env' bx' G' _ ⟨i',h1,h2,h3,h4,h5⟩
 exact ⟨i',h1.app h2,h3.app h4,h5⟩
theorem EV.meetK {c c':Code} {Q':EQ} {ι:Type} (ks kb:List Nat) (M:ι→Env) (MB:ι→Bxs) (O:ι→Ows) (I:ι→Hp→Prop) {K:Env} {KB:Bxs}
  (hk:pickE env ks some=some K) (hkb:pickX bx kb some=some KB) (hp:∀ i,pinAll (M i++K) (MB i++KB)=true)
  (h:EV P n c env bx H (thenQ (fun env' bx' G'=>∃ i,SubL env' (M i)∧SubL env' K∧SubX bx' (MB i)∧SubX bx' KB∧G'.ow=O i∧I i G'.ro) Q))
  (hR:∀ i G,I i G→EV P n c' (M i++K) (MB i++KB) ⟨G,O i,H.base⟩ Q'):EV P n c env bx H (thenQ (fun env bx H=>EV P n c' env bx H Q') Q):=by
 refine EV.meet _ ?_ h
 rintro env' bx' ⟨ro,ow,base⟩ hb ⟨i,h1,h2,h3,h4,h5,h6⟩
 have hb':base=H.base:=hb
 have h5':ow=O i:=h5
 subst hb' h5'
 exact EV.less _ _ (h1.app h2) (h3.app h4) (hp i) (hR i ro h6)
theorem EVL.meetK {c':Code} {Q':EQ} {ι:Type} (ks kb:List Nat) (M:ι→Env) (MB:ι→Bxs) (O:ι→Ows) (I:ι→Hp→Prop) {K:Env} {KB:Bxs}
  (hk:pickE env ks some=some K) (hkb:pickX bx kb some=some KB) (hp:∀ i,pinAll (M i++K) (MB i++KB)=true)
  (h:EVL P n ops rest env bx H (thenQ (fun env' bx' G'=>∃ i,SubL env' (M i)∧SubL env' K∧SubX bx' (MB i)∧SubX bx' KB∧G'.ow=O i∧I i G'.ro) Q))
  (hR:∀ i G,I i G→EV P n c' (M i++K) (MB i++KB) ⟨G,O i,H.base⟩ Q'):EVL P n ops rest env bx H (thenQ (fun env bx H=>EV P n c' env bx H Q') Q):=by
 refine EVL.meet _ ?_ h
 rintro env' bx' ⟨ro,ow,base⟩ hb ⟨i,h1,h2,h3,h4,h5,h6⟩
 have hb':base=H.base:=hb
 have h5':ow=O i:=h5
 subst hb' h5'
 exact EV.less _ _ (h1.app h2) (h3.app h4) (hp i) (hR i ro h6)
theorem EVL.app1 {o1 o2:Oper} {d1:Nat} (hτ:TabOk P τ) {T:TypeId} {len:Nat} {parts:Array (Nat × Operand)} {x:Operand} (ho1:o1.op=.buildSlice T len parts) (hg1:o1.guard=none) (hd1:o1.dst=some d1) (hn1:Nat.blt d1 n=true)
  (ho2:o2.op=.call { callee:=.builtin .append,args:=#[x,.tmp d1],argTypes:=#[T,T] }) (hg2:o2.guard=none) (hd2:o2.dst=some d) (hn2:Nat.blt d n=true) {te te':TE} {e:TypeId} (ht:τ.get T=some te) (hk:te.kind=.slice e) (ht':τ.get e=some te')
  (hsz:Nat.beq te'.zero.length te'.size=true) (hpos:Nat.ble 1 (len*te'.size)=true) (hsm:Nat.ble (len*te'.size) 10000=true) {cs:List Value} (hc:zerosK te'.zero len (fun zs=>litK env te'.size parts.toList zs some)=some cs)
  (hpos':Nat.ble 1 te'.size=true) (hby:Nat.ble te'.bytes 10000=true) (h1:oneB cs=true) (hcl:cs.length=len*te'.size)
  {v:Value} (hx:∀ b,Env.op ((d1,.v (.slice (some ⟨b,0,none⟩) len len))::env) x=some (.v v)) (ow post:Ows) (he:H.ow=ow++post) {m1:Nat} {xs:List Value} (hown:OwnL e te'.size v m1 xs ow) (hm:m1+len≤1000000000)
  (h:∀ b v' ow',OwnL e te'.size v' (m1+len) (xs++cs) ow'→EVL P n ops rest ((d,.v v')::(d1,.v (.slice (some ⟨b,0,none⟩) len len))::env) bx ⟨H.ro,ow'++post,H.base⟩ Q):EVL P n ops (o1::o2::rest) env bx H Q:=by
 refine EVL.lit hτ ho1 hg1 hd1 hn1 ht hk ht' hsz hpos hsm hc fun b=>?_
 refine EVL.append hτ ho2 hg2 hd2 hn2 ht hk ht' hsz hpos' hby (hx b) (u:=.slice (some ⟨b,0,none⟩) len len) (m2:=len) (ys:=cs) ?_ [(b,e,cs)] ow post (by rw [he];rfl) hown (SrcAt.own 0 rfl hcl) h1 hm fun v' ow' hown'=>?_
 ·simp only [Env.op,Env.get_cons,if_pos]
 ·exact EVL.subOw [] [(b,e,cs)] (ow'++post) rfl (h b v' ow' hown')
end
section
variable {P:Program} {n:Nat} {ops:Array Oper} {o:Oper} {rest:List Oper} {env:Env} {bx:Bxs} {H:Hs} {Q:EQ}
end
section
variable {P:Program} {n:Nat} {ops:Array Oper} {o:Oper} {rest:List Oper} {env:Env} {bx:Bxs} {H:Hs} {Q:EQ} {τ:Tab} {d:Nat}
theorem src_none {T e:TypeId} (hk:P.underlying T=some (.slice e)) (size:Nat) (a:Option Addr) (c:Nat) (W:World):Src P size T (.slice a 0 c) 0 [] W:=by
 refine ⟨.inl ⟨e,hk⟩,fun w'=>by simp [Builtin.lenOf],?_,?_,by simp,by simp⟩ <;> cases a <;> simp [Builtin.firstCells,loadCells,loadCellsFrom]
theorem EVL.append0 (hτ:TabOk P τ) {T:TypeId} {x y:Operand} (ho:o.op=.call { callee:=.builtin .append,args:=#[x,y],argTypes:=#[T,T] }) (hw:wantB ops env o=some true) (hd:o.dst=some d) (hn:Nat.blt d n=true) {te te':TE} {e:TypeId} (ht:τ.get T=some te) (hk:te.kind=.slice e) (ht':τ.get e=some te')
  {a a':Option Addr} {m c c':Nat} (hx:env.op x=some (.v (.slice a m c))) (hy:env.op y=some (.v (.slice a' 0 c'))) (hle:m≤c)
  (h:EVL P n ops rest ((d,.v (.slice a m c))::env) bx H Q):EVL P n ops (o::rest) env bx H Q:=by
 have hkd:=(hτ.get ht).kind
 rw [hk] at hkd
 have hkd':P.underlying T=some (.slice e):=hkd
 obtain ⟨zv,hinfo,hzc⟩:=(hτ.get ht').info
 obtain ⟨i0,hi,hz0,hz1,hz2⟩:=info_parts hinfo
 refine EVL.gen hw hd hn (fun ev W he=>?_) h
 have ex:=he x _ (by rw [ho];simp [Op.operands,Call.operands]) hx
 have ey:=he y _ (by rw [ho];simp [Op.operands,Call.operands]) hy
 have hrn:=run_append_nothing (P:=P) W T T o.type e i0 hkd' hi a m c hle (.slice a' 0 c') (src_none hkd' _ _ _ _)
 unfold execOp
 simp only [ho,resolve,invoke,builtin,Sem.run_bind,Sem.run_pure,Result.andThen_ok,List.map_toArray,List.map_cons,List.map_nil,ex,ey,hrn]
end
theorem argsK_vals {α:Type} {env:Env}:∀ {l:List Operand} {k:List Value→Option α} {r:α},argsK env l k=some r→∃ vs,k vs=some r∧∀ ev:Operand→Value,(∀ y x,y∈l→env.op y=some (.v x)→ev y=x)→l.map ev=vs
 | [],k,r,h=>⟨[],h,fun _ _=>rfl⟩
 | x::l,k,r,h=>by
  unfold argsK at h
  split at h
  ·rename_i v hv
   obtain ⟨vs,h1,h2⟩:=argsK_vals h
   exact ⟨v::vs,h1,fun ev he=>by rw [List.map_cons,he x v (by simp) hv,h2 ev fun y x hy=>he y x (by simp [hy])]⟩
  ·cases h
section
variable {P:Program} {n:Nat} {ops:Array Oper} {o:Oper} {rest:List Oper} {env:Env} {bx:Bxs} {H:Hs} {Q:EQ} {τ:Tab} {d:Nat}
theorem EVL.buildArr {T:TypeId} {parts:Array (Nat × Operand)} (ho:o.op=.build T parts) (hw:wantB ops env o=some true) (hd:o.dst=some d) (hn:Nat.blt d n=true) {vs:List Value} (ha:argsK env (parts.toList.map (·.2)) some=some vs) {cs:List Value}
  (hb:P.built T ((parts.toList.map (·.1)).zip vs)=some cs.toArray) (h:EVL P n ops rest ((d,.v (.agg cs.toArray))::env) bx H Q):EVL P n ops (o::rest) env bx H Q:=by
 refine EVL.gen hw hd hn (fun ev W he=>?_) h
 obtain ⟨vs',e1,h2⟩:=argsK_vals ha
 cases e1
 have h3:=h2 ev fun y x hy=>he y x (by rw [ho];simpa [Op.operands] using hy)
 have h4:((parts.map fun (i,x)=>(i,ev x)):Array (Nat × Value)).toList=(parts.toList.map (·.1)).zip vs:=by
  rw [← h3,Array.toList_map]
  generalize parts.toList=l
  induction l with
  | nil=>rfl
  | cons p l ih=>simp only [List.map_cons,List.zip_cons_cons,ih]
 have:=run_build (P:=P) W T (parts.map fun (i,x)=>(i,ev x)) cs.toArray (by rw [h4];exact hb)
 unfold execOp
 rw [ho]
 simp [this]
theorem EVL.indexArr (hτ:TabOk P τ) {T e:TypeId} {x y:Operand} (ho:o.op=.index T x y) (hw:wantB ops env o=some true) (hd:o.dst=some d) (hn:Nat.blt d n=true) {len:Nat} (hu:P.underlying T=some (.array len e)) {te:TE} (ht:τ.get e=some te) (hag:te.agg=false) (hsz:te.size=1)
  {cs:List Value} (hx:env.op x=some (.v (.agg cs.toArray))) {k:IntKind} {z:Int} (hy:env.op y=some (.v (.int k z))) (j:Nat) (hz:z=j) (hj:j<len) {v:Value} (hc:cs[j]?=some v)
  (h:EVL P n ops rest ((d,.v v)::env) bx H Q):EVL P n ops (o::rest) env bx H Q:=by
 refine EVL.gen hw hd hn (fun ev W he=>?_) h
 have e1:=he x _ (by rw [ho];simp [Op.operands]) hx
 have e2:=he y _ (by rw [ho];simp [Op.operands]) hy
 subst hz
 have hp:(part e cs.toArray j).run P W=.ok v W:=by simp [part,(hτ.get ht).agg,hag,hc]
 unfold execOp
 simp only [ho,e1,e2,Instr.index,asIntOf,Sem.run_bind,Sem.run_pure,Result.andThen_ok,run_underlying hu]
 rw [if_pos ⟨by omega,by omega⟩]
 simp only [Sem.run_bind,(hτ.get ht).size,Result.andThen_ok,Int.toNat_natCast,hsz,Nat.mul_one,hp]
end
section
variable {P:Program} {n:Nat} {ops:Array Oper} {o:Oper} {rest:List Oper} {env:Env} {bx:Bxs} {H:Hs} {Q:EQ} {τ:Tab} {d:Nat}
theorem EVL.strSlc {T:TypeId} {x:Operand} {lo hi:Option Operand} (ho:o.op=.slice T x lo hi none) (hw:wantB ops env o=some true) (hd:o.dst=some d) (hn:Nat.blt d n=true) (hT:P.underlying T=some .string)
  {s:ByteArray} (hx:env.op x=some (.v (.string s))) (l h:Nat) (hlo:lo=none∧l=0∨∃ y k,lo=some y∧env.op y=some (.v (.int k (l:Int)))) (hhi:hi=none∧h=s.size∨∃ y k,hi=some y∧env.op y=some (.v (.int k (h:Int)))) (hlh:l≤h) (hhs:h≤s.size)
  (hK:EVL P n ops rest ((d,.v (.string (s.extract l h)))::env) bx H Q):EVL P n ops (o::rest) env bx H Q:=by
 refine EVL.gen hw hd hn (fun ev W he=>?_) hK
 have h1:ev x=.string s:=he x _ (by simp [ho,Op.operands]) hx
 unfold execOp
 simp only [ho,Instr.sliceAt,h1,Option.map_none]
 rcases hlo with ⟨rfl,rfl⟩ | ⟨y,k,rfl,hy⟩
 ·rcases hhi with ⟨rfl,rfl⟩ | ⟨y',k',rfl,hy'⟩
  ·simp [run_underlying hT,Instr.slice,Instr.sliceBounds]
  ·have h2:ev y'=.int k' h:=he y' _ (by simp [ho,Op.operands]) hy'
   simp [run_underlying hT,Instr.slice,Instr.sliceBounds,Instr.sliceBound,h2,asIntOf,hhs]
 ·have h3:ev y=.int k l:=he y _ (by simp [ho,Op.operands]) hy
  rcases hhi with ⟨rfl,rfl⟩ | ⟨y',k',rfl,hy'⟩
  ·simp [run_underlying hT,Instr.slice,Instr.sliceBounds,Instr.sliceBound,h3,asIntOf,hlh]
  ·have h2:ev y'=.int k' h:=he y' _ (by simp [ho,Op.operands]) hy'
   simp [run_underlying hT,Instr.slice,Instr.sliceBounds,Instr.sliceBound,h2,h3,asIntOf,hhs,hlh]
end
abbrev n32 (x:Nat):Value:=.int .u32 (x:Int)
theorem refAt_pc {v:Value} {l:List Nat} {H:Hp} (h:SlN n32 H v l) (hD:Dig B32 l) (hl:l.length≤1000000000) (i:Nat):PC prog 207 #[v,.int .i64 (i:Int)] H fun r _=>r=n64 (l.getD i 0):=by
 obtain ⟨a,cap,rfl⟩:=SlC.val h
 refine BD func207 ntmps207 ?_
 try refine RUN ?_
 by_cases hi:i<l.length
 ·rw [lt_dec _ _ hi]
  have hx:l.getD i 0<B32:=hD.getD (by decide) i
  try refine RUN ?_
  refine EVL.idxR tO rfl rfl rfl rfl rfl rfl rfl rfl rfl rfl (h) (i) (rfl) (hi) (map_at hi) ?_
  try refine RUN ?_
  rw [wu_id _ (by rw [B32_val] at hx;rw [W64_val];omega)]
 ·rw [lt_dec' _ _ hi]
  try refine RUN ?_
  rw [List.getD_eq_getElem?_getD,List.getElem?_eq_none (by omega)];rfl
theorem SlN.le {α:Type} {enc:α→Value} {H:Hp} {a:Option Addr} {cap:Nat} {l:List α} (h:SlN enc H (.slice a l.length cap) l):l.length≤cap:=by
 rcases h.2 with ⟨h0,_⟩ | ⟨b,off,cap',c,e,hc,_⟩
 ·omega
 ·cases e;exact hc
theorem SlN.pre {α:Type} {enc:α→Value} {H:Hp} {a:Option Addr} {cap:Nat} {l:List α} (h:SlN enc H (.slice a l.length cap) l) (n:Nat) (hn:n≤l.length) (s:Nat):SlN enc H (.slice (if cap=0 then a else a.map (·.add (0*s))) (n-0) (cap-0)) (l.take n):=by
 have e:(l.take n).length=n:=by simp;omega
 unfold SlN
 rw [e,Nat.sub_zero,Nat.sub_zero]
 rcases h.2 with ⟨h0,a',cap',e'⟩ | ⟨b,off,cap',c,e',hc,hH,hcs⟩
 ·have:n=0:=by omega
  subst this
  exact ⟨by simp,.inl ⟨rfl,_,_,rfl⟩⟩
 ·cases e'
  refine ⟨by simp;omega,?_⟩
  by_cases h0:n=0
  ·subst h0;exact .inl ⟨rfl,_,_,rfl⟩
  ·refine .inr ⟨b,off,cap,c,?_,by omega,hH,fun j x hj=>hcs j x ?_⟩
   ·rw [if_neg (by omega)];simp [Addr.add]
   ·rw [List.getElem?_map,List.getElem?_take] at hj
    rw [List.getElem?_map]
    split at hj
    ·exact hj
    ·cases hj
set_option maxRecDepth 20000 in
theorem refTrim_pc {v:Value} {l:List Nat} {H:Hp} (h:SlN n32 H v l) (hl:l.length≤1000000000):PC prog 167 #[v] H fun r H'=>SlN n32 H' r (trimL l):=by
 obtain ⟨a,cap,rfl⟩:=SlC.val h
 have hcap:=h.le
 refine BD func167 ntmps167 ?_
 try refine RUN ?_
 refine EV.loop (ι:=Nat) (fun n=>[(0,.v (.slice a l.length cap)),(3,.v (.int .i64 (n:Int)))]) (fun _=>[]) (fun _=>[])
  (fun n G=>n≤l.length∧trimL (l.take n)=trimL l∧SlN n32 G (.slice a l.length cap) l) (fun n=>n) l.length ⟨rfl,rfl,trivial⟩ trivial rfl (fun _=>rfl) ⟨Nat.le_refl _,by rw [List.take_length],h⟩ ?_
 rintro n G hG ⟨hn,ht,hs⟩
 have fin:trimL (l.take n)=l.take n→SlN n32 G (.slice (if cap=0 then a else a.map (·.add (0*1))) (n-0) (cap-0)) (trimL l):=fun e=>by
  rw [← ht,e];exact hs.pre n hn 1
 try refine RUN ?_
 by_cases h0:n=0
 ·subst h0
  rw [show decide (((0:Nat):Int)>0)=false from rfl]
  try refine RUN ?_
  refine EVL.ofVal (ValOk.sliceV (te':=Tryz.te161) (a:=a) (m:=l.length) (cap:=cap) tO rfl rfl rfl rfl rfl rfl 0 0 (.inl ⟨rfl,rfl⟩) (.inr ⟨_,IntKind.i64,rfl,rfl⟩) (Nat.le_refl _) (Nat.zero_le _) hcap) rfl rfl rfl fun G4 hG4=>?_
  try refine RUN ?_
  exact (fin (by simp [trimL])).mono hG4
 ·rw [show decide ((n:Int)>0)=true by simp;omega]
  have hxs:(l.map n32)[n-1]?=some (n32 (l.getD (n-1) 0)):=by
   rw [List.getElem?_map,List.getD_eq_getElem?_getD,List.getElem?_eq_getElem (show n-1<l.length by omega)];rfl
  have hsnoc:l.take n=l.take (n-1)++[l.getD (n-1) 0]:=by
   have:=List.take_succ_eq_append_getElem (show n-1<l.length by omega)
   rw [show n-1+1=n by omega] at this
   rw [this,List.getD_eq_getElem?_getD,List.getElem?_eq_getElem (show n-1<l.length by omega)];rfl
  try refine RUN ?_
  refine EVL.ofVal (ValOk.idx1 tO rfl rfl rfl rfl rfl rfl rfl rfl hs (n-1) (by rw [IntKind.wrap_i64];omega) oM hxs) rfl rfl rfl fun G4 hG4=>?_
  try refine RUN ?_
  by_cases hz:l.getD (n-1) 0=0
  ·rw [hz,show (((0:Nat):Int) == 0)=true from rfl]
   try refine RUN ?_
   refine ⟨n-1,⟨rfl,?_,trivial⟩,trivial,rfl,⟨by omega,?_,hs.mono hG4⟩,hG4,by omega⟩
   ·rw [show IntKind.i64.wrap ((n:Int)-1)=((n-1:Nat):Int) by rw [IntKind.wrap_i64];omega];rfl
   ·rw [← ht,hsnoc,hz,trimL_snoc_zero]
  ·rw [show (((l.getD (n-1) 0:Nat):Int) == 0)=false by simpa using hz]
   try refine RUN ?_
   refine EVL.ofVal (ValOk.sliceV (te':=Tryz.te161) (a:=a) (m:=l.length) (cap:=cap) tO rfl rfl rfl rfl rfl rfl 0 n (.inl ⟨rfl,rfl⟩) (.inr ⟨_,IntKind.i64,rfl,rfl⟩) (Nat.zero_le _) (Nat.le_trans hn hcap) hcap) rfl rfl rfl fun G5 hG5=>?_
   try refine RUN ?_
   exact (fin (by rw [hsnoc,trimL_snoc_ne _ _ hz])).mono (hG4.trans hG5)
theorem sl_new {α:Type} {enc:α→Value} {G:Hp} {g k:Nat} {l:List α} (hg:G g=some (l.map enc).toArray) (hl:l.length=k):SlN enc G (.slice (some ⟨g,0,none⟩) k k) l:=by
 unfold SlN
 rw [hl]
 exact ⟨by simp [hl],.inr ⟨g,0,k,_,rfl,Nat.le_refl _,hg,fun j x hj=>by rw [Nat.zero_add,← hj];exact List.getElem?_toArray⟩⟩
theorem refTrim_dig {v:Value} {l:List Nat} {H:Hp} (h:SlN n32 H v l) (hD:Dig B32 l) (hl:l.length≤1000000000) {n:Nat} (hn:val B32 l=n):PC prog 167 #[v] H fun r H'=>SlN n32 H' r (dig B32 n):=by
 have:=refTrim_pc h hl
 rwa [dig_trim B32_two hD,hn] at this
theorem zeros32 (m:Nat):(List.replicate m (Tryz.te161.zero)).flatten=(List.replicate m 0).map n32:=by
 rw [List.map_replicate,show (Tryz.te161.zero)=[n32 0] from rfl];simp
theorem shr32 (s:Nat):(s:Int).fdiv (2 ^ (min 32 IntKind.u64.bits))=((s / B32:Nat):Int):=by
 rw [show (2:Int) ^ (min 32 IntKind.u64.bits)=((2 ^ 32:Nat):Int) from rfl,Int.fdiv_eq_ediv_of_nonneg _ (Int.natCast_nonneg _),← Int.natCast_ediv];rfl
theorem digB_dig (n:Nat):Dig B32 (dig B32 n):=(dig_norm B32_two n).1
theorem two_limbs (n:Nat) (hn:n<W64):trimL [n % B32,n / B32]=dig B32 n:=by
 have hB:B32=4294967296:=rfl
 have hD:Dig B32 [n % B32,n / B32]:=Dig.cons (Nat.mod_lt _ (by decide)) (Dig.cons (by rw [W64_val] at hn;rw [hB];omega) (Dig.nil _))
 rw [dig_trim B32_two hD]
 congr 1
 simp only [val,Nat.mul_zero,Nat.add_zero]
 exact Nat.mod_add_div n B32
theorem refNatOf_pc (n:Nat) (hn:n<W64) (H:Hp):PC prog 128 #[n64 n] H fun r H'=>SlN n32 H' r (dig B32 n):=by
 refine BD func128 ntmps128 ?_
 try refine RUN ?_
 have e1:IntKind.u32.wrap (n:Int)=((n % B32:Nat):Int):=by rw [wrapU32];rfl
 have e2:IntKind.u32.wrap ((n:Int).fdiv (2 ^ (min 32 IntKind.u64.bits)))=((n / B32:Nat):Int):=by
  rw [show (2:Int) ^ (min 32 IntKind.u64.bits)=4294967296 from rfl,Int.fdiv_eq_ediv_of_nonneg _ oM,wrapU32,show B32=4294967296 from rfl];rw [W64_val] at hn;omega
 rw [e1,e2]
 refine EVL.lit tO rfl rfl rfl rfl rfl rfl rfl rfl rfl rfl rfl fun g=>?_
 refine EVL.publish [] [] rfl fun G hG hg=>?_
 have hs:SlN n32 G (.slice (some ⟨g,0,none⟩) 2 2) [n % B32,n / B32]:=sl_new hg rfl
 have ht:=refTrim_pc hs (by simp)
 rw [two_limbs n hn] at ht
 refine EVL.call rfl rfl rfl rfl rfl ht ?_
 rintro v H2 hv hle
 try refine RUN ?_
 exact hv
theorem refCmpL_pc {u v:Value} {l m:List Nat} {H:Hp} (hu:SlN n32 H u l) (hv:SlN n32 H v m) (hl:Norm B32 l) (hm:Norm B32 m) (hll:l.length≤1000000000):PC prog 155 #[u,v] H fun r _=>r=.int .i64 (ordN (val B32 l) (val B32 m)):=by
 obtain ⟨aa,ca,rfl⟩:=SlC.val hu
 obtain ⟨ab,cb,rfl⟩:=SlC.val hv
 refine BD func155 ntmps155 ?_
 try refine RUN ?_
 by_cases he:l.length=m.length
 ·rw [show (((l.length:Nat):Int) != (m.length:Int))=false by simp [he]]
  try refine RUN ?_
  refine EV.loopK (ι:=Nat) [0,1] [] (fun n=>[(5,.v (.int .i64 ((n:Int)-1)))]) (fun _=>[]) (fun _=>[]) (fun n G=>n≤l.length∧l.drop n=m.drop n) (fun n=>n) (l.length) rfl rfl ⟨by rw [show IntKind.i64.wrap ((l.length:Int)-1)=(l.length:Int)-1 by rw [IntKind.wrap_i64];omega];rfl,trivial⟩ trivial rfl (fun _=>rfl) (⟨Nat.le_refl _,by rw [List.drop_of_length_le (Nat.le_refl _),List.drop_of_length_le (by omega)]⟩) ?_
  rintro n G1 hG1 ⟨hn,hd⟩
  try refine RUN ?_
  by_cases h0:n=0
  ·subst h0
   rw [show decide ((((0:Nat):Int)-1)≥0)=false from rfl]
   try refine RUN ?_
   rw [List.drop_zero,List.drop_zero] at hd
   subst hd
   rw [ordN_eq rfl]
  ·rw [show decide (((n:Int)-1)≥0)=true by simp;omega]
   have hx:=map_at (enc:=n32) (show n-1<l.length by omega)
   have hy:=map_at (enc:=n32) (show n-1<m.length by omega)
   have hvo:=val_ordB (B:=B32) (by decide) (l:=l) (m:=m) (n-1) hl.1 hm.1 he oM (by rw [show n-1+1=n by omega];exact hd)
   have hdl:l.drop (n-1)=l.getD (n-1) 0::l.drop n:=by
    rw [List.drop_eq_getElem_cons (show n-1<l.length by omega),List.getD_eq_getElem?_getD,List.getElem?_eq_getElem (show n-1<l.length by omega),show n-1+1=n by omega];rfl
   have hdm:m.drop (n-1)=m.getD (n-1) 0::m.drop n:=by
    rw [List.drop_eq_getElem_cons (show n-1<m.length by omega),List.getD_eq_getElem?_getD,List.getElem?_eq_getElem (show n-1<m.length by omega),show n-1+1=n by omega];rfl
   generalize l.getD (n-1) 0=a at *
   generalize m.getD (n-1) 0=b at *
   try refine RUN ?_
   apply EV.drawn 9 kR kR;intro xv yw
   (repeat refine' DD ?_)
   refine' DJ.ofVal (ValOk.idx1 tO rfl rfl rfl rfl rfl rfl rfl rfl (hu.mono hG1) (n-1) oM oM (hx)) rfl rfl rfl ?_;rotate_left
   (repeat refine' DD ?_)
   refine' DJ.ofVal (ValOk.idx1 tO rfl rfl rfl rfl rfl rfl rfl rfl (hv.mono hG1) (n-1) oM oM (hy)) rfl rfl rfl ?_;rotate_left
   (repeat refine' DD ?_)
   (refine DJ.nil (fun G2 hG2 hF2=>?_);(case hS|hS2=>rfl))
   try refine RUN ?_
   refine EV.cond rfl (fun hc=>?_) (fun hc=>?_)
   ·simp only [nN] at hc
    try refine RUN ?_
    apply EV.drawn 9 kR kR;intro xv yw
    (repeat refine' DD ?_)
    refine' DJ.ofVal (ValOk.idx1 tO rfl rfl rfl rfl rfl rfl rfl rfl ((hu.mono hG1).mono hG2) (n-1) oM oM (hx)) rfl rfl rfl ?_;rotate_left
    (repeat refine' DD ?_)
    refine' DJ.ofVal (ValOk.idx1 tO rfl rfl rfl rfl rfl rfl rfl rfl ((hv.mono hG1).mono hG2) (n-1) oM oM (hy)) rfl rfl rfl ?_;rotate_left
    (repeat refine' DD ?_)
    (refine DJ.nil (fun G3 hG3 hF3=>?_);(case hS|hS2=>rfl))
    try refine RUN ?_
    rw [hvo hc]
    refine EV.cond rfl (fun hlt=>?_) (fun hlt=>?_)
    ·simp only [nN] at hlt
     try refine RUN ?_
     rw [ordN_lt hlt]
    ·simp only [nN] at hlt
     try refine RUN ?_
     rw [ordN_gt (by omega)]
   ·simp only [nN] at hc
    try refine RUN ?_
    refine ⟨n-1,⟨?_,trivial⟩,sB,trivial,trivial,rfl,⟨by omega,by rw [hdl,hdm,hd,hc]⟩,hG2,by omega⟩
    rw [show IntKind.i64.wrap ((n:Int)-1-1)=((n-1:Nat):Int)-1 by rw [IntKind.wrap_i64];omega];rfl
 ·rw [show (((l.length:Nat):Int) != (m.length:Int))=true by simp;omega]
  try refine RUN ?_
  by_cases hlt:l.length<m.length
  ·rw [lt_dec _ _ hlt,ordN_lt (len_less B32_two hl.1 hm hlt)]
   try refine RUN ?_
   rfl
  ·rw [lt_dec' _ _ hlt,ordN_gt (len_less B32_two hm.1 hl oM)]
   try refine RUN ?_
   rfl
theorem AddB.done {B:Nat} {x y cur:List Nat} {m c:Nat} (hB:2≤B) (h:AddB B x y cur (m+1) c) (hl:cur.length=m+1) (hx:Dig B x) (hy:Dig B y) (hxl:x.length≤m) (hyl:y.length≤m):val B cur=val B x+val B y:=by
 have hs:=h.sum
 rw [List.take_of_length_le oM,List.take_of_length_le oM,List.take_of_length_le (by omega)] at hs
 have h1:=Nat.lt_of_lt_of_le (val_lt hx) (Nat.pow_le_pow_right (by omega:0<B) hxl)
 have h2:=Nat.lt_of_lt_of_le (val_lt hy) (Nat.pow_le_pow_right (by omega:0<B) hyl)
 have h3:2*B ^ m≤B ^ (m+1):=by rw [Nat.pow_succ,Nat.mul_comm];exact Nat.mul_le_mul_left _ hB
 have hc:c=0:=by
  rcases Nat.eq_zero_or_pos c with e | e
  ·exact e
  ·have:B ^ (m+1)≤c*B ^ (m+1):=Nat.le_mul_of_pos_left _ e
   omega
 rw [hc] at hs;omega
theorem max_int (a b:Nat):(if (b:Int)>(a:Int) then (b:Int) else (a:Int))=((max a b:Nat):Int):=by split <;> omega
theorem refAddL_pc {u v:Value} {x y:List Nat} {H:Hp} (hu:SlN n32 H u x) (hv:SlN n32 H v y) (hx:Dig B32 x) (hy:Dig B32 y) (hxl:x.length≤200000000) (hyl:y.length≤200000000) :
  PC prog 177 #[u,v] H fun r H'=>SlN n32 H' r (dig B32 (val B32 x+val B32 y)):=by
 obtain ⟨aa,ca,rfl⟩:=SlC.val hu
 obtain ⟨ab,cb,rfl⟩:=SlC.val hv
 refine BD func177 ntmps177 ?_
 try refine RUN ?_
 rw [max_int]
 have hmx:x.length≤max x.length y.length:=Nat.le_max_left ..
 have hmy:y.length≤max x.length y.length:=Nat.le_max_right ..
 have hml:max x.length y.length≤200000000:=Nat.max_le.2 ⟨hxl,hyl⟩
 generalize max x.length y.length=m at *
 refine EVL.make tO rfl rfl rfl rfl rfl rfl rfl rfl rfl (m+1) (wi_inc m oM) oM (by rfl) (by rfl) fun g=>?_
 try refine RUN ?_
 rw [zeros32]
 refine EV.loopK (ι:=Nat × Nat × List Nat) [0,1,5,6] [] (fun q=>[(7,.v (n64 q.2.1)),(8,.v (.int .i64 (q.1:Int)))]) (fun _=>[]) (fun q=>[(g,161,q.2.2.map n32)]) (fun q G=>q.1≤m+1∧q.2.2.length=m+1∧AddB B32 x y q.2.2 q.1 q.2.1) (fun q=>m+1-q.1) ((0,0,List.replicate (m+1) 0)) rfl rfl ⟨rfl,rfl,trivial⟩ trivial rfl (fun _=>rfl) (⟨Nat.zero_le _,by simp,⟨Dig.zeros (by decide) _,by simp [val],Nat.zero_le _⟩⟩) ?_
 rintro ⟨i,c,cur⟩ G hG ⟨hi,hlen,hinv⟩
 dsimp only at hi hlen hinv
 try refine RUN ?_
 refine EV.cond rfl (fun hlt=>?_) (fun hlt=>?_)
 ·simp only [nN] at hlt
  have hxi:x.getD i 0<B32:=hx.getD (by decide) i
  have hyi:y.getD i 0<B32:=hy.getD (by decide) i
  have hst:=hinv.step (by decide) oM hx hy
  have hca:=hinv.carry
  repeat (first | refine RUN ?_ | refine CV (refAt_pc (hu.mono hG) hx oM i) ?_ | refine CV (refAt_pc (hv.mono hG) hy oM i) ?_ | refine CE (refAt_pc (hu.mono hG) hx oM i) ?_ | refine CE (refAt_pc (hv.mono hG) hy oM i) ?_)
  generalize x.getD i 0=xi at *
  generalize y.getD i 0=yi at *
  have hsum:c+xi+yi<W64:=by rw [B32_val] at hxi hyi;rw [W64_val];omega
  rw [wu_add c xi oM,wu_add (c+xi) yi hsum]
  try refine RUN ?_
  rw [wu32]
  refine EVL.idx0 tO rfl rfl rfl rfl rfl rfl rfl rfl rfl rfl (i) (rfl) oM ?_
  refine EVL.set1 tO rfl rfl rfl rfl rfl rfl rfl rfl rfl rfl ((by rw [List.length_map];dsimp only;omega)) ?_
  try refine RUN ?_
  refine ⟨(i+1,(c+xi+yi) / B32,cur.set i ((c+xi+yi) % B32)),⟨?_,?_,trivial⟩,sB,trivial,trivial,?_,⟨by dsimp only;omega,by simp [hlen],hst⟩,Hp.Le.refl _,by dsimp only;omega⟩
  ·rw [shr32];rfl
  ·rw [wi_inc i (by omega)];rfl
  ·dsimp only;rw [List.map_set]
 ·simp only [nN] at hlt
  obtain rfl:i=m+1:=by omega
  try refine RUN ?_
  refine EVL.publish [] [] rfl fun G2 hG2 hg=>?_
  have hd:=hinv.done B32_two hlen hx hy oM oM
  have ht:=refTrim_dig (l:=cur) (sl_new (enc:=n32) hg hlen) hinv.dig oM hd
  refine EVL.call rfl rfl rfl rfl rfl (ht) ?_
  rintro r H' hr hle
  try refine RUN ?_
  exact hr
theorem w32 {n:Nat} (h:n<B32):n<W64:=by rw [B32_val] at h;rw [W64_val];omega
theorem sub_word {x y c:Nat} (hx:x<B32) (hy:y<B32) (hc:c≤1) :
  IntKind.u32.wrap (IntKind.u64.wrap (IntKind.u64.wrap ((x:Int)-(y:Int))-(c:Int)))=((subS B32 x y c:Nat):Int)∧(IntKind.u64.wrap (IntKind.u64.wrap ((x:Int)-(y:Int))-(c:Int))).fdiv (2 ^ (min 63 IntKind.u64.bits))=((subC x y c:Nat):Int):=by
 rw [B32_val] at hx hy
 rw [wrapU32,wrapU64,wrapU64,show (2:Int) ^ (min 63 IntKind.u64.bits)=9223372036854775808 from rfl,Int.fdiv_eq_ediv_of_nonneg _ (by decide)]
 unfold subS subC
 rw [B32_val]
 split <;> omega
theorem or_word {c x p:Nat} (hc:c<2 ^ p) (h:c+x*2 ^ p<W64) :
  IntKind.u64.wrap (((BitVec.ofInt IntKind.u64.bits (c:Int) ||| BitVec.ofInt IntKind.u64.bits ((x*2 ^ p:Nat):Int)).toNat:Nat):Int)=((c+x*2 ^ p:Nat):Int):=by
 rw [W64_val] at h
 refine (u64_or_nat _ _ oM oM).trans ?_
 rw [or_mul _ _ p (2 ^ p) rfl hc]
theorem or_word' {c x p:Nat} (hc:c<2 ^ p) (h:c+x*2 ^ p<W64) :
  IntKind.u64.wrap (((BitVec.ofInt IntKind.u64.bits ((x*2 ^ p:Nat):Int) ||| BitVec.ofInt IntKind.u64.bits (c:Int)).toNat:Nat):Int)=((c+x*2 ^ p:Nat):Int):=by
 rw [W64_val] at h
 refine (u64_or_nat _ _ oM oM).trans ?_
 rw [Nat.or_comm,or_mul _ _ p (2 ^ p) rfl hc]
theorem SubB.done {B:Nat} {x y cur:List Nat} {c:Nat} (hB:2≤B) (h:SubB B x y cur x.length c) (hl:cur.length=x.length) (hx:Dig B x) (hy:Norm B y) (hge:val B y≤val B x):val B cur=val B x-val B y∧y.length≤x.length:=by
 have hyl:y.length≤x.length:=by
  rcases Nat.lt_or_ge x.length y.length with e | e
  ·have:=len_less hB hx hy e;omega
  ·exact e
 refine ⟨?_,hyl⟩
 have hs:=h.sum
 rw [List.take_of_length_le (by omega:cur.length≤x.length),List.take_of_length_le (Nat.le_refl _),List.take_of_length_le hyl] at hs
 have h2:=val_lt h.dig
 rw [hl] at h2
 have hc:c=0:=by
  rcases Nat.eq_zero_or_pos c with e | e
  ·exact e
  ·have:1*B ^ x.length≤c*B ^ x.length:=Nat.mul_le_mul_right _ e
   omega
 rw [hc] at hs;omega
theorem refSubL_pc {u v:Value} {x y:List Nat} {H:Hp} (hu:SlN n32 H u x) (hv:SlN n32 H v y) (hx:Dig B32 x) (hy:Norm B32 y) (hxl:x.length≤200000000) (hyl:y.length≤200000000) (hge:val B32 y≤val B32 x) :
  PC prog 228 #[u,v] H fun r H'=>SlN n32 H' r (dig B32 (val B32 x-val B32 y)):=by
 obtain ⟨aa,ca,rfl⟩:=SlC.val hu
 obtain ⟨ab,cb,rfl⟩:=SlC.val hv
 refine BD func228 ntmps228 ?_
 try refine RUN ?_
 refine EVL.make tO rfl rfl rfl rfl rfl rfl rfl rfl rfl (x.length) (rfl) oM (by rfl) (by rfl) fun g=>?_
 try refine RUN ?_
 rw [zeros32]
 refine EV.loopK (ι:=Nat × Nat × List Nat) [0,1,5] [] (fun q=>[(6,.v (n64 q.2.1)),(7,.v (.int .i64 (q.1:Int)))]) (fun _=>[]) (fun q=>[(g,161,q.2.2.map n32)]) (fun q G=>q.1≤x.length∧q.2.2.length=x.length∧SubB B32 x y q.2.2 q.1 q.2.1) (fun q=>x.length-q.1) ((0,0,List.replicate x.length 0)) rfl rfl ⟨rfl,rfl,trivial⟩ trivial rfl (fun _=>rfl) (⟨Nat.zero_le _,by simp,⟨Dig.zeros (by decide) _,by simp [val],Nat.zero_le _⟩⟩) ?_
 rintro ⟨i,c,cur⟩ G1 hG1 ⟨hi,hlen,hinv⟩
 dsimp only at hi hlen hinv
 try refine RUN ?_
 refine EV.cond rfl (fun hlt=>?_) (fun hlt=>?_)
 ·simp only [nN] at hlt
  have hxi:x.getD i 0<B32:=hx.getD (by decide) i
  have hyi:y.getD i 0<B32:=hy.1.getD (by decide) i
  have hst:=hinv.step (by decide) oM hx hy.1
  have hxs:=map_at (enc:=n32) hlt
  have hat:=refAt_pc (hv.mono hG1) hy.1 oM i
  obtain ⟨e1,e2⟩:=sub_word hxi hyi hinv.carry
  try refine RUN ?_
  apply EV.drawn 12 kR kR;intro xv yw
  (repeat refine' DD ?_)
  refine' DJ.ofVal (ValOk.idx1 tO rfl rfl rfl rfl rfl rfl rfl rfl (hu.mono hG1) (i) (rfl) (hlt) (hxs)) rfl rfl rfl ?_;rotate_left
  (repeat refine' DD ?_)
  refine' DJ.callS rfl rfl rfl rfl rfl hat.can (fun G hG _=>refAt_pc ((hv.mono hG1).mono hG) hy.1 oM i) ?_;rotate_left
  (repeat refine' DD ?_)
  (refine DJ.nil (fun G2 hG2 hF2=>?_);(case hS|hS2=>rfl))
  try refine RUN ?_
  rw [wu_id _ (w32 hxi),e1]
  refine EVL.idx0 tO rfl rfl rfl rfl rfl rfl rfl rfl rfl rfl (i) (rfl) (hlt) ?_
  refine EVL.set1 tO rfl rfl rfl rfl rfl rfl rfl rfl rfl rfl ((by rw [List.length_map];dsimp only;omega)) ?_
  try refine RUN ?_
  refine ⟨(i+1,subC (x.getD i 0) (y.getD i 0) c,cur.set i (subS B32 (x.getD i 0) (y.getD i 0) c)),⟨?_,?_,trivial⟩,sB,trivial,trivial,?_,⟨by dsimp only;omega,by simp [hlen],hst⟩,hG2,by dsimp only;omega⟩
  ·rw [e2];rfl
  ·rw [wi_inc i (by omega)];rfl
  ·dsimp only;rw [List.map_set]
 ·simp only [nN] at hlt
  obtain rfl:i=x.length:=by omega
  try refine RUN ?_
  refine EVL.publish [] [] rfl fun G2 hG2 hg=>?_
  have hd:=hinv.done B32_two hlen hx hy hge
  have ht:=refTrim_dig (l:=cur) (sl_new (enc:=n32) hg hlen) hinv.dig oM hd.1
  refine EVL.call rfl rfl rfl rfl rfl (ht) ?_
  rintro r H' hr hle
  try refine RUN ?_
  exact hr
theorem mul_sum {c o m n:Nat} (hc:c<B32) (ho:o<B32) (hm:m<B32) (hn:n<B32):m*n<W64∧c+o+m*n<W64:=by
 have:m*n≤(B32-1)*(B32-1):=Nat.mul_le_mul oM oM
 rw [B32_val] at *
 rw [W64_val]
 omega
theorem refMulL_pc {u v:Value} {x y:List Nat} {H:Hp} (hu:SlN n32 H u x) (hv:SlN n32 H v y) (hx:Dig B32 x) (hy:Dig B32 y) (hxl:x.length≤200000000) (hyl:y.length≤200000000) :
  PC prog 178 #[u,v] H fun r H'=>SlN n32 H' r (dig B32 (val B32 x*val B32 y)):=by
 obtain ⟨aa,ca,rfl⟩:=SlC.val hu
 obtain ⟨ab,cb,rfl⟩:=SlC.val hv
 refine BD func178 ntmps178 ?_
 try refine RUN ?_
 refine EVL.make tO rfl rfl rfl rfl rfl rfl rfl rfl rfl (x.length+y.length) (wi_add _ _ oM) oM (by rfl) (by rfl) fun g=>?_
 try refine RUN ?_
 rw [zeros32]
 refine EV.loopK (ι:=Nat × List Nat) [0,1,5] [] (fun q=>[(6,.v (.int .i64 (q.1:Int)))]) (fun _=>[]) (fun q=>[(g,161,q.2.map n32)]) (fun q G=>q.1≤x.length∧q.2.length=x.length+y.length∧Dig B32 q.2∧val B32 q.2=val B32 (x.take q.1)*val B32 y∧∀ j,q.1+y.length≤j→q.2.getD j 0=0) (fun q=>x.length-q.1) ((0,List.replicate (x.length+y.length) 0)) rfl rfl ⟨rfl,trivial⟩ trivial rfl (fun _=>rfl) (⟨Nat.zero_le _,by simp,Dig.zeros (by decide) _,by dsimp only;rw [val_zeros];simp [val],fun j _=>by simp [List.getD_eq_getElem?_getD,List.getElem?_replicate];split <;> rfl⟩) ?_
 rintro ⟨i,cur0⟩ G1 hG1 ⟨hi,hlen,hD,hval,hz⟩
 dsimp only at hi hlen hD hval hz
 try refine RUN ?_
 refine EV.cond rfl (fun hlt=>?_) (fun hlt=>?_)
 ·simp only [nN] at hlt
  have hxi:x.getD i 0<B32:=hx.getD (by decide) i
  have hxs:=map_at (enc:=n32) hlt
  try refine RUN ?_
  refine EV.loopK (ι:=Nat × Nat × List Nat) [0,1,5,6] [] (fun q=>[(7,.v (n64 q.2.1)),(8,.v (.int .i64 (q.1:Int)))]) (fun _=>[]) (fun q=>[(g,161,q.2.2.map n32)]) (fun q G=>q.1≤y.length∧MulB B32 (x.getD i 0) y cur0 i q.2.2 q.1 q.2.1) (fun q=>y.length-q.1) ((0,0,cur0)) rfl rfl ⟨rfl,rfl,trivial⟩ trivial rfl (fun _=>rfl) (⟨Nat.zero_le _,MulB.start (by decide) hD⟩) ?_
  rintro ⟨k,c,cur⟩ G2 hG2 ⟨hk,hinv⟩
  dsimp only at hk hinv
  have hcl:=hinv.len
  try refine RUN ?_
  refine EV.cond rfl (fun hlk=>?_) (fun hlk=>?_)
  ·simp only [nN] at hlk
   have hyk:y.getD k 0<B32:=hy.getD (by decide) k
   have hys:=map_at (enc:=n32) hlk
   have hik:i+k<cur.length:=by omega
   have hck:cur.getD (i+k) 0<B32:=hinv.dig.getD (by decide) _
   have hcs:=map_at (enc:=n32) hik
   have hst:=hinv.step (by decide) hik hxi hy
   obtain ⟨s1,s2⟩:=mul_sum hinv.carry hck hxi hyk
   try refine RUN ?_
   apply EV.drawn 22 kR kR;intro xv yw
   (repeat refine' DD ?_)
   refine' DJ.ofVal (ValOk.idxP1 tO rfl rfl rfl rfl rfl rfl rfl rfl (i+k) (wi_add _ _ oM) oM) rfl rfl rfl ?_;rotate_left
   refine' DJ.ofVal (ValOk.load1 tO rfl rfl rfl rfl rfl rfl (0) rfl (hcs)) rfl rfl rfl ?_;rotate_left
   (repeat refine' DD ?_)
   refine' DJ.ofVal (ValOk.idx1 tO rfl rfl rfl rfl rfl rfl rfl rfl ((hu.mono hG1).mono hG2) (i) (rfl) (hlt) (hxs)) rfl rfl rfl ?_;rotate_left
   (repeat refine' DD ?_)
   refine' DJ.ofVal (ValOk.idx1 tO rfl rfl rfl rfl rfl rfl rfl rfl ((hv.mono hG1).mono hG2) (k) (rfl) (hlk) (hys)) rfl rfl rfl ?_;rotate_left
   (repeat refine' DD ?_)
   (refine DJ.nil (fun G3 hG3 hF3=>?_);(case hS|hS2=>rfl))
   try refine RUN ?_
   rw [wu_id _ (w32 hck),wu_id _ (w32 hxi),wu_id _ (w32 hyk),wu_mul _ _ s1,wu_add _ _ (by omega:c+cur.getD (i+k) 0<W64),wu_add _ _ s2]
   try refine RUN ?_
   rw [wu32]
   refine EVL.idx0 tO rfl rfl rfl rfl rfl rfl rfl rfl rfl rfl (i+k) (wi_add _ _ oM) oM ?_
   refine EVL.set1 tO rfl rfl rfl rfl rfl rfl rfl rfl rfl rfl ((by rw [List.length_map];dsimp only;omega)) ?_
   try refine RUN ?_
   refine ⟨(k+1,(c+cur.getD (i+k) 0+x.getD i 0*y.getD k 0) / B32,cur.set (i+k) ((c+cur.getD (i+k) 0+x.getD i 0*y.getD k 0) % B32)),⟨?_,?_,trivial⟩,sB,trivial,trivial,?_,⟨by dsimp only;omega,hst⟩,hG3,by dsimp only;omega⟩
   ·rw [shr32];rfl
   ·rw [wi_inc k (by omega)];rfl
   ·dsimp only;rw [List.map_set]
  ·simp only [nN] at hlk
   obtain rfl:k=y.length:=by omega
   try refine RUN ?_
   rw [wu32,Nat.mod_eq_of_lt hinv.carry]
   refine EVL.idx0 tO rfl rfl rfl rfl rfl rfl rfl rfl rfl rfl (i+y.length) (wi_add _ _ oM) oM ?_
   refine EVL.set1 tO rfl rfl rfl rfl rfl rfl rfl rfl rfl rfl ((by rw [List.length_map];dsimp only;omega)) ?_
   try refine RUN ?_
   have hd:=hinv.done oM (hz _ (Nat.le_refl _))
   refine ⟨(i+1,cur.set (i+y.length) c),⟨?_,trivial⟩,sB,trivial,trivial,?_,⟨by dsimp only;omega,by simp;omega,hinv.dig.set _ _ hinv.carry,?_,fun j hj=>?_⟩,hG2,by dsimp only;omega⟩
   ·rw [wi_inc i (by omega)];rfl
   ·dsimp only;rw [List.map_set]
   ·dsimp only
    rw [hd,hval,val_succ_mul]
   ·dsimp only at hj ⊢
    rw [getD_set_ne _ _ _ _ oM,hinv.keep j (by omega)]
    exact hz j oM
 ·simp only [nN] at hlt
  obtain rfl:i=x.length:=by omega
  rw [List.take_of_length_le (Nat.le_refl _)] at hval
  try refine RUN ?_
  refine EVL.publish [] [] rfl fun G2 hG2 hg=>?_
  have ht:=refTrim_dig (l:=cur0) (sl_new (enc:=n32) hg hlen) hD oM hval
  refine EVL.call rfl rfl rfl rfl rfl (ht) ?_
  rintro r H' hr hle
  try refine RUN ?_
  exact hr
theorem val_div {B:Nat} (hB:0<B) {l:List Nat} (h:Dig B l) (i:Nat):val B l / B ^ i=val B (l.drop i):=by
 by_cases hi:i≤l.length
 ·have h1:=val_split B l i hi
  have h2:=val_lt (h.take i)
  rw [List.length_take,Nat.min_eq_left hi] at h2
  rw [h1,Nat.add_mul_div_left _ _ oM,Nat.div_eq_of_lt h2,Nat.zero_add]
 ·rw [List.drop_of_length_le oM,val_nil]
  exact Nat.div_eq_of_lt (Nat.lt_of_lt_of_le (val_lt h) (Nat.pow_le_pow_right hB oM))
theorem ShlB.done {B p:Nat} {x d:List Nat} {c:Nat} (h:ShlB B p x d c) (hl:d.length=x.length+1) (hx:Dig B x) (hp:2 ^ p≤B):val B d=val B x*2 ^ p:=by
 have hs:=h.sum
 rw [List.take_of_length_le oM,hl] at hs
 have h1:=val_lt hx
 have h2:val B x*2 ^ p<B ^ (x.length+1):=by
  rw [Nat.pow_succ]
  exact Nat.lt_of_lt_of_le (Nat.mul_lt_mul_of_pos_right h1 (Nat.two_pow_pos p)) (Nat.mul_le_mul_left _ hp)
 rcases Nat.eq_zero_or_pos c with e | e
 ·rw [e] at hs;omega
 ·have:1*B ^ (x.length+1)≤c*B ^ (x.length+1):=Nat.mul_le_mul_right _ e
  omega
theorem B32_pw (W p:Nat):2 ^ (32*W+p)=B32 ^ W*2 ^ p:=by rw [Nat.pow_add,Nat.pow_mul,B32_pow]
theorem val_app_zeros (B W:Nat) (d:List Nat):val B (List.replicate W 0++d)=B ^ W*val B d:=by rw [val_append,val_zeros,List.length_replicate,Nat.zero_add]
theorem own_sl {α:Type} {enc:α→Value} {G:Hp} {v:Value} {m:Nat} {l:List α} (h:SlC G v m 1 (l.map enc)) (hl:l.length=m):SlN enc G v l:=by unfold SlN;rw [hl];exact h
theorem rem32 (k:Nat):IntKind.u64.wrap ((k:Int).tmod 32)=((k % 32:Nat):Int):=by
 rw [show (k:Int).tmod 32=((k % 32:Nat):Int) from wi_rem k 32,wu_id _ (by rw [W64_val];omega)]
theorem shm (m:Nat) (h:m≤64):min (m % ((2:Int) ^ IntKind.u64.bits).natAbs) IntKind.u64.bits=m:=by
 rw [show ((2:Int) ^ IntKind.u64.bits).natAbs=18446744073709551616 from rfl,show IntKind.u64.bits=64 from rfl];omega
theorem refShlL_pc {v:Value} {l:List Nat} {H:Hp} (h:SlN n32 H v l) (hD:Dig B32 l) (hl:l.length≤100000000) (k:Nat) (hk:k≤1000000000) :
  PC prog 209 #[v,.int .i64 (k:Int)] H fun r H'=>SlN n32 H' r (dig B32 (val B32 l*2 ^ k)):=by
 obtain ⟨a,cap,rfl⟩:=SlC.val h
 refine BD func209 ntmps209 ?_
 try refine RUN ?_
 rw [show decide ((k:Int)≥0)=true by simp]
 try refine RUN ?_
 refine EVL.make tO rfl rfl rfl rfl rfl rfl rfl rfl rfl (k / 32) (wi_quo k 32 oM) oM (by rfl) (by rfl) fun g=>?_
 try refine RUN ?_
 rw [zeros32]
 have hkW:2 ^ k=B32 ^ (k / 32)*2 ^ (k % 32):=by rw [← B32_pw,Nat.div_add_mod]
 have hp:k % 32<32:=Nat.mod_lt _ (by decide)
 have hW:k / 32≤100000000:=by omega
 have hrem:=rem32 k
 generalize k / 32=W at *
 generalize hpe:k % 32=p at *
 have hpB:2 ^ p≤B32:=by rw [B32_pow];exact Nat.pow_le_pow_right (by decide) oM
 refine EV.loopK (ι:=Nat × Nat × List Nat × Value × Ows) [0,1] [] (fun q=>[(5,.v q.2.2.2.1),(6,.v (n64 q.2.1)),(7,.v (.int .i64 (q.1:Int)))]) (fun _=>[]) (fun q=>q.2.2.2.2) (fun q G=>q.1≤l.length+1∧q.2.2.1.length=q.1∧ShlB B32 p l q.2.2.1 q.2.1∧OwnL 161 1 q.2.2.2.1 (W+q.1) ((List.replicate W 0++q.2.2.1).map n32) q.2.2.2.2) (fun q=>l.length+1-q.1) ((0,0,[],.slice (some ⟨g,0,none⟩) W W,[(g,161,(List.replicate W 0).map n32)])) rfl rfl ⟨rfl,rfl,rfl,trivial⟩ trivial rfl (fun _=>rfl) (⟨Nat.zero_le _,rfl,⟨Dig.nil _,Nat.two_pow_pos p,by simp [val]⟩,by rw [List.append_nil];exact OwnL.full (by simp) oM⟩) ?_
 rintro ⟨i,c,d,w,ow⟩ G1 hG1 ⟨hi,hdl,hinv,hown⟩
 dsimp only at hi hdl hinv hown
 try refine RUN ?_
 refine EV.cond rfl (fun hle=>?_) (fun hle=>?_)
 ·simp only [nN] at hle
  have hxi:l.getD i 0<B32:=hD.getD (by decide) i
  have hst:=hinv.step (by decide) hD
  rw [hdl] at hst
  have hm:l.getD i 0*2 ^ p≤(B32-1)*2 ^ 31:=Nat.mul_le_mul oM (Nat.pow_le_pow_right (by decide) oM)
  have hc:=hinv.carry
  have hc2:c+l.getD i 0*2 ^ p<W64:=by rw [B32_val] at *;rw [W64_val];omega
  repeat (first | refine RUN ?_ | refine CV (refAt_pc (h.mono hG1) hD oM i) ?_ | refine CE (refAt_pc (h.mono hG1) hD oM i) ?_)
  rw [shm (k % 32) oM,hpe,wu_shl,Nat.mod_eq_of_lt (by omega:l.getD i 0*2 ^ p<W64),or_word hc hc2,wu32]
  refine EVL.app1 tO rfl rfl rfl rfl rfl rfl rfl rfl rfl rfl rfl rfl rfl rfl rfl rfl rfl rfl rfl (fun _=>rfl) (ow) ([]) ((List.append_nil _).symm) (hown) oM fun _=>?_
  intro v' ow' hown'
  try refine RUN ?_
  refine ⟨(i+1,(c+l.getD i 0*2 ^ p) / B32,d++[(c+l.getD i 0*2 ^ p) % B32],v',ow'),⟨rfl,?_,?_,trivial⟩,sB,trivial,trivial,List.append_nil _,⟨by dsimp only;omega,by simp [hdl],hst,?_⟩,Hp.Le.refl _,by dsimp only;omega⟩
  ·rw [shr32];rfl
  ·rw [wi_inc i (by omega)];rfl
  ·dsimp only
   rw [← List.append_assoc,List.map_append]
   exact hown'
 ·simp only [nN] at hle
  obtain rfl:i=l.length+1:=by omega
  try refine RUN ?_
  refine EVL.publishL [] ow [] (List.append_nil _).symm hown fun G2 hG2 hs=>?_
  have hv:val B32 (List.replicate W 0++d)=val B32 l*2 ^ k:=by rw [val_app_zeros,hinv.done hdl hD hpB,hkW,Nat.mul_left_comm]
  have ht:=refTrim_dig (own_sl hs (by simp;omega)) (Dig.append (Dig.zeros (by decide) _) hinv.dig) (by simp;omega) hv
  refine EVL.call rfl rfl rfl rfl rfl (ht) ?_
  rintro r H' hr hle
  try refine RUN ?_
  exact hr
theorem shr_digit {l:List Nat} (hD:Dig B32 l) (W p j:Nat) (hp:p≤32):val B32 (l.drop W) / 2 ^ p / B32 ^ j % B32=(l.getD (W+j) 0+l.getD (W+j+1) 0*B32) / 2 ^ p % B32:=by
 rw [Nat.div_div_eq_div_mul,Nat.mul_comm,← Nat.div_div_eq_div_mul,val_div (by decide) (hD.drop W) j,List.drop_drop]
 have h1:=val_drop B32 l (W+j)
 have h2:=val_drop B32 l (W+j+1)
 rw [h1,h2]
 generalize l.getD (W+j) 0=x
 generalize l.getD (W+j+1) 0=y
 generalize val B32 (l.drop (W+j+1+1))=r
 have e:B32=2 ^ p*2 ^ (32-p):=by rw [← Nat.pow_add,B32_pow];congr 1;omega
 have e2:x+B32*(y+B32*r)=(x+y*B32)+2 ^ p*(B32*(2 ^ (32-p)*r)):=by
  have:B32*(B32*r)=2 ^ p*(B32*(2 ^ (32-p)*r)):=by
   conv=>lhs;lhs;rw [e]
   simp only [Nat.mul_assoc,Nat.mul_left_comm]
  rw [Nat.mul_add,this]
  rw [Nat.mul_comm B32 y];omega
 rw [e2,Nat.add_mul_div_left _ _ (Nat.two_pow_pos p),Nat.add_mul_mod_self_left]
theorem refShrL_pc {v:Value} {l:List Nat} {H:Hp} (h:SlN n32 H v l) (hD:Dig B32 l) (hl:l.length≤100000000) (k:Nat) (hk:k≤1000000000) (h0:0<k) :
  PC prog 209 #[v,.int .i64 (-(k:Int))] H fun r H'=>SlN n32 H' r (dig B32 (val B32 l / 2 ^ k)):=by
 obtain ⟨a,cap,rfl⟩:=SlC.val h
 refine BD func209 ntmps209 ?_
 try refine RUN ?_
 rw [show decide (-(k:Int)≥0)=false by simp;omega]
 try refine RUN ?_
 rw [show IntKind.i64.wrap (0 - -(k:Int))=(k:Int) by rw [IntKind.wrap_i64];omega]
 rw [show IntKind.i64.wrap ((k:Int).tdiv 32)=((k / 32:Nat):Int) from wi_quo k 32 (by omega)]
 have hkW:2 ^ k=B32 ^ (k / 32)*2 ^ (k % 32):=by rw [← B32_pw,Nat.div_add_mod]
 have hp:k % 32<32:=Nat.mod_lt _ (by decide)
 have hW:k / 32≤100000000:=by omega
 generalize k / 32=W at *
 generalize hpe:k % 32=p at *
 have hpB:2 ^ p≤B32:=by rw [B32_pow];exact Nat.pow_le_pow_right (by decide) oM
 have hdig:=fun j=>shr_digit hD W p j oM
 have hN:val B32 (l.drop W) / 2 ^ p<B32 ^ (l.length-W):=by
  have:=val_lt (hD.drop W)
  rw [List.length_drop] at this
  exact Nat.lt_of_le_of_lt (Nat.div_le_self _ _) this
 have hNk:val B32 l / 2 ^ k=val B32 (l.drop W) / 2 ^ p:=by rw [hkW,← Nat.div_div_eq_div_mul,val_div (by decide) hD]
 generalize val B32 (l.drop W) / 2 ^ p=N at *
 rw [hNk]
 refine EV.loopK (ι:=Nat × List Nat × Value × Ows) [0,1] [] (fun q=>[(8,.v q.2.2.1),(9,.v (.int .i64 ((W+q.1:Nat):Int)))]) (fun _=>[]) (fun q=>q.2.2.2) (fun q G=>(q.1=0∨W+q.1≤l.length)∧q.2.1=digN B32 N q.1∧OwnL 161 1 q.2.2.1 q.1 (q.2.1.map n32) q.2.2.2) (fun q=>l.length-q.1) ((0,[],.slice none 0 0,[])) rfl rfl ⟨rfl,rfl,trivial⟩ trivial rfl (fun _=>rfl) (⟨.inl rfl,rfl,OwnL.nil _ _⟩) ?_
 rintro ⟨i,d,w,ow⟩ G1 hG1 ⟨hi,hd,hown⟩
 dsimp only at hi hd hown
 try refine RUN ?_
 refine EV.cond rfl (fun hlt=>?_) (fun hlt=>?_)
 ·simp only [nN] at hlt
  have hxi:l.getD (W+i) 0<B32:=hD.getD (by decide) _
  have hyi:l.getD (W+i+1) 0<B32:=hD.getD (by decide) _
  have hat2:=refAt_pc (h.mono hG1) hD oM (W+i+1)
  rw [← wi_inc (W+i) (by omega)] at hat2
  repeat (first | refine RUN ?_ | refine CV (refAt_pc (h.mono hG1) hD oM (W+i)) ?_ | refine CV (hat2) ?_ | refine CE (refAt_pc (h.mono hG1) hD oM (W+i)) ?_ | refine CE (hat2) ?_)
  have hdi:=hdig i
  generalize l.getD (W+i) 0=x at *
  generalize l.getD (W+i+1) 0=y at *
  have hxy:x+y*2 ^ 32<W64:=by rw [B32_val] at *;rw [W64_val];omega
  rw [shm (k % 32) oM,hpe,show min 32 IntKind.u64.bits=32 from rfl,wu_shl,Nat.mod_eq_of_lt (by omega:y*2 ^ 32<W64),or_word (by rw [← B32_pow];exact hxi) hxy]
  rw [wu_shr,wu32]
  refine EVL.app1 tO rfl rfl rfl rfl rfl rfl rfl rfl rfl rfl rfl rfl rfl rfl rfl rfl rfl rfl rfl (fun _=>rfl) (ow) ([]) ((List.append_nil _).symm) (hown) oM fun _=>?_
  intro v' ow' hown'
  try refine RUN ?_
  refine ⟨(i+1,digN B32 N (i+1),v',ow'),⟨rfl,?_,trivial⟩,sB,trivial,trivial,List.append_nil _,⟨by dsimp only;omega,rfl,?_⟩,Hp.Le.refl _,by dsimp only;omega⟩
  ·rw [wi_inc _ (by omega)];rfl
  ·dsimp only
   rw [digN_succ,← hd,List.map_append,hdi,B32_pow]
   exact hown'
 ·simp only [nN] at hlt
  try refine RUN ?_
  refine EVL.publishL [] ow [] (List.append_nil _).symm hown fun G2 hG2 hs=>?_
  have hi2:l.length-W≤i:=by omega
  have hv:val B32 d=N:=by
   rw [hd,digN_val]
   exact Nat.mod_eq_of_lt (Nat.lt_of_lt_of_le hN (Nat.pow_le_pow_right (by decide) hi2))
  have ht:=refTrim_dig (own_sl hs (by rw [hd,digN_length])) (by rw [hd];exact digN_dig (by decide) _ _) (by rw [hd,digN_length];omega) hv
  refine EVL.call rfl rfl rfl rfl rfl (ht) ?_
  rintro r H' hr hle
  try refine RUN ?_
  exact hr
theorem bl_half {x:Nat} (h:x≠0):bl x=bl (x / 2)+1:=by
 unfold bl;rw [dig_pos (Nat.le_refl _) h];rfl
theorem refBits_pc {v:Value} {l:List Nat} {H:Hp} (h:SlN n32 H v l) (hD:Norm B32 l) (hl:l.length≤100000000) :
  PC prog 208 #[v] H fun r _=>r=.int .i64 ((bl (val B32 l):Nat):Int):=by
 obtain ⟨a,cap,rfl⟩:=SlC.val h
 refine BD func208 ntmps208 ?_
 try refine RUN ?_
 refine EV.cond rfl (fun h0=>?_) (fun h0=>?_)
 ·simp only [nN] at h0
  have:l=[]:=List.length_eq_zero_iff.1 oM
  subst this
  try refine RUN ?_
  rw [val_nil,bl_zero];rfl
 ·simp only [nN] at h0
  have h0':0<l.length:=by omega
  have hxs:=map_at (enc:=n32) (show l.length-1<l.length by omega)
  try refine RUN ?_
  refine EVL.idxR tO rfl rfl rfl rfl rfl rfl rfl rfl rfl rfl (h) (l.length-1) (wi_dec _ h0' oM) oM (hxs) ?_
  try refine RUN ?_
  have htop:l.getD (l.length-1) 0≠0:=by
   apply hD.2
   rw [List.getLast?_eq_getElem?,List.getD_eq_getElem?_getD,List.getElem?_eq_getElem (by omega)];rfl
  have hval:val B32 l=val B32 (l.take (l.length-1))+2 ^ (32*(l.length-1))*l.getD (l.length-1) 0:=by
   have h1:=val_split B32 l (l.length-1) oM
   have h2:=val_drop B32 l (l.length-1)
   rw [show l.length-1+1=l.length by omega,List.drop_length,val_nil,Nat.mul_zero,Nat.add_zero] at h2
   rw [h2] at h1
   rw [Nat.pow_mul,← B32_pow];exact h1
  have hlow:val B32 (l.take (l.length-1))<2 ^ (32*(l.length-1)):=by
   have:=val_lt (hD.1.take (l.length-1))
   rw [List.length_take,Nat.min_eq_left (by omega)] at this
   rw [Nat.pow_mul,← B32_pow];exact this
  have hbl:=bl_top hlow htop
  rw [← hval] at hbl
  have hx32:l.getD (l.length-1) 0<B32:=hD.1.getD (by decide) _
  have hbt:bl (l.getD (l.length-1) 0)≤32:=bl_le (by rw [← B32_pow];exact hx32)
  generalize l.getD (l.length-1) 0=x at *
  refine EV.loopK (ι:=Nat × Nat) [] [] (fun q=>[(3,.v (.int .i64 (q.1:Int))),(4,.v (n32 q.2))]) (fun _=>[]) (fun _=>[]) (fun q _=>q.1+bl q.2=bl (val B32 l)∧q.1≤32*100000000+32∧q.2<B32) (fun q=>q.2) ((32*(l.length-1),x)) rfl rfl ⟨?_,rfl,trivial⟩ trivial rfl (fun _=>rfl) (⟨hbl.symm,by dsimp only;omega,hx32⟩) ?_
  ·rw [wi_dec _ h0' oM,show IntKind.i64.wrap (32*((l.length-1:Nat):Int))=((32*(l.length-1):Nat):Int) from wi_mul 32 _ (by omega)];rfl
  rintro ⟨n,y⟩ G1 hG1 ⟨hs,hn,hy⟩
  dsimp only at hs hn hy
  try refine RUN ?_
  by_cases hy0:y=0
  ·subst hy0
   rw [show decide (((0:Nat):Int)>0)=false from rfl]
   try refine RUN ?_
   rw [bl_zero,Nat.add_zero] at hs
   rw [hs]
  ·rw [show decide ((y:Int)>0)=true by simp;omega]
   have hb:=bl_half hy0
   try refine RUN ?_
   refine ⟨(n+1,y / 2),⟨?_,?_,trivial⟩,trivial,trivial,trivial,rfl,⟨by dsimp only;omega,by dsimp only;omega,Nat.lt_of_le_of_lt (Nat.div_le_self _ _) hy⟩,Hp.Le.refl _,by dsimp only;omega⟩
   ·rw [wi_inc n (by omega)];rfl
   ·rw [show min 1 IntKind.u32.bits=1 from rfl,wu_shr];rfl
theorem wu_quo (a b:Nat) (h:a<W64):IntKind.u64.wrap ((a:Int).tdiv (b:Int))=((a / b:Nat):Int):=by
 rw [show (a:Int).tdiv (b:Int)=((a / b:Nat):Int) from rfl,wu_id _ (Nat.lt_of_le_of_lt (Nat.div_le_self _ _) h)]
theorem refOne_pc {v:Value} {l:List Nat} {H:Hp} (h:SlN n32 H v l) (hD:Dig B32 l) (hl:l.length≤100000000) (b:Nat) (hb:0<b) (hbB:b<B32) :
  PC prog 126 #[v,n32 b] H fun r H'=>∃ s,r=.tuple #[s,n32 (val B32 l % b)]∧SlN n32 H' s (dig B32 (val B32 l / b)):=by
 obtain ⟨a,cap,rfl⟩:=SlC.val h
 refine BD func126 ntmps126 ?_
 try refine RUN ?_
 refine EVL.make tO rfl rfl rfl rfl rfl rfl rfl rfl rfl (l.length) (rfl) oM (by rfl) (by rfl) fun g=>?_
 try refine RUN ?_
 rw [zeros32]
 refine EV.loopK (ι:=Nat × Nat × List Nat) [0,1,6] [] (fun q=>[(7,.v (n64 q.2.1)),(8,.v (.int .i64 ((q.1:Int)-1)))]) (fun _=>[]) (fun q=>[(g,161,q.2.2.map n32)]) (fun q G=>q.1≤l.length∧OneB B32 b l q.2.2 q.1 q.2.1) (fun q=>q.1) ((l.length,0,List.replicate l.length 0)) rfl rfl ⟨rfl,?_,trivial⟩ trivial rfl (fun _=>rfl) (⟨Nat.le_refl _,⟨Dig.zeros (by decide) _,by simp,hb,by simp [val]⟩⟩) ?_
 ·rw [show IntKind.i64.wrap ((l.length:Int)-1)=(l.length:Int)-1 by rw [IntKind.wrap_i64];omega];rfl
 rintro ⟨n,r,q⟩ G1 hG1 ⟨hn,hinv⟩
 dsimp only at hn hinv
 have hrest:=hinv.rest
 have hlen:=hinv.len
 try refine RUN ?_
 by_cases h0:n=0
 ·subst h0
  rw [show decide ((((0:Nat):Int)-1)≥0)=false from rfl]
  try refine RUN ?_
  refine EVL.publish [] [] rfl fun G2 hG2 hg=>?_
  have hs:=hinv.sum
  rw [List.drop_zero,List.drop_zero] at hs
  have hq:val B32 q=val B32 l / b:=by rw [← hs,Nat.mul_comm,Nat.mul_add_div hb,Nat.div_eq_of_lt hrest,Nat.add_zero]
  have hr:r=val B32 l % b:=by rw [← hs,Nat.mul_comm,Nat.mul_add_mod,Nat.mod_eq_of_lt hrest]
  have ht:=refTrim_dig (l:=q) (sl_new (enc:=n32) hg hlen) hinv.dig oM hq
  refine EVL.call rfl rfl rfl rfl rfl (ht) ?_
  rintro s H' hs' hle
  try refine RUN ?_
  refine ⟨s,?_,hs'⟩
  rw [wu32,Nat.mod_eq_of_lt (show r<B32 by omega),hr]
 ·rw [show decide (((n:Int)-1)≥0)=true by simp;omega]
  have hlt:n-1<l.length:=by omega
  have hxi:l.getD (n-1) 0<B32:=hD.getD (by decide) _
  have hxs:=map_at (enc:=n32) hlt
  have hst:=OneB.step (i:=n-1) hb (by rw [show n-1+1=n by omega];exact hinv) hlt hD
  try refine RUN ?_
  refine EVL.idxR tO rfl rfl rfl rfl rfl rfl rfl rfl rfl rfl (h.mono hG1) (n-1) oM (hlt) (hxs) ?_
  try refine RUN ?_
  generalize l.getD (n-1) 0=x at *
  have hrB:r*2 ^ 32+x<W64:=by rw [B32_val] at *;rw [W64_val];omega
  rw [show min 32 IntKind.u64.bits=32 from rfl,wu_shl,Nat.mod_eq_of_lt (Nat.lt_of_le_of_lt (Nat.le_add_right _ _) hrB:r*2 ^ 32<W64),wu_id _ (w32 hxi),or_word' (by rw [← B32_pow];exact hxi) (by rw [Nat.add_comm];exact hrB),Nat.add_comm x]
  try refine RUN ?_
  rw [wu_id _ (w32 hbB)]
  refine EVL.quoI rfl rfl rfl rfl rfl rfl oM ?_
  rw [wu_quo _ _ hrB]
  try refine RUN ?_
  have hq32:(r*2 ^ 32+x) / b<B32:=by
   rw [Nat.div_lt_iff_lt_mul hb]
   have:(r+1)*B32≤b*B32:=Nat.mul_le_mul_right _ hrest
   rw [Nat.add_mul] at this
   rw [← B32_pow,Nat.mul_comm B32];omega
  rw [wu32,Nat.mod_eq_of_lt hq32]
  refine EVL.idx0 tO rfl rfl rfl rfl rfl rfl rfl rfl rfl rfl (n-1) oM oM ?_
  refine EVL.set1 tO rfl rfl rfl rfl rfl rfl rfl rfl rfl rfl ((by rw [List.length_map];dsimp only;omega)) ?_
  try refine RUN ?_
  rw [wu_id _ (w32 hbB)]
  refine EVL.remI rfl rfl rfl rfl rfl rfl oM ?_
  rw [wi_rem]
  try refine RUN ?_
  rw [B32_pow] at hst
  refine ⟨(n-1,(r*2 ^ 32+x) % b,q.set (n-1) ((r*2 ^ 32+x) / b)),⟨rfl,?_,trivial⟩,sB,trivial,trivial,?_,⟨by dsimp only;omega,by rw [B32_pow];exact hst⟩,Hp.Le.refl _,by dsimp only;omega⟩
  ·rw [show IntKind.i64.wrap ((n:Int)-1-1)=((n-1:Nat):Int)-1 by rw [IntKind.wrap_i64];omega];rfl
  ·dsimp only;rw [List.map_set]
end Go.Proofs.YtbcfidllfimehaaGreatDoor
namespace Go.Proofs.YtbcfidllfimehaaGreatDoor
structure G2 (B v1 v0 u c q r:Nat):Prop where
 eq:q*v1+r=u
 up:u*B+c<(q+1)*(v1*B+v0)∨q=B-1
theorem G2.start {B v1 v0 u c:Nat} (h1:0<v1) (hc:c<B):G2 B v1 v0 u c (u / v1) (u % v1):=by
 refine ⟨by rw [Nat.mul_comm];exact Nat.div_add_mod u v1,.inl ?_⟩
 have e:=Nat.div_add_mod u v1
 have hm:=Nat.mod_lt u h1
 generalize u / v1=q at *
 generalize u % v1=m at *
 subst e
 have h2:(v1*q+m+1)*B≤(v1*q+v1)*B:=Nat.mul_le_mul_right B oM
 have h3:(q+1)*(v1*B+v0)=(v1*q+v1)*B+(q+1)*v0:=by grind
 rw [Nat.add_mul _ 1,Nat.one_mul] at h2
 omega
theorem G2.high {B v1 v0 u c q r:Nat} (h:G2 B v1 v0 u c q r) (h1:0<v1) (hu:u≤v1*B+v0) (hc:c<B) (hq:B≤q):G2 B v1 v0 u c (q-1) (r+v1):=by
 have h0:0<q:=by omega
 refine ⟨?_,?_⟩
 ·obtain ⟨k,rfl⟩:∃ k,q=k+1:=⟨q-1,by omega⟩
  have:=h.eq
  rw [Nat.add_sub_cancel]
  rw [Nat.add_mul,Nat.one_mul] at this
  omega
 ·by_cases e:q=B
  ·exact .inr oM
  ·refine .inl ?_
   have h2:(B+1)*(v1*B+v0)≤(q-1+1)*(v1*B+v0):=Nat.mul_le_mul_right _ oM
   have h3:u*B≤(v1*B+v0)*B:=Nat.mul_le_mul_right B hu
   have h4:1*B≤v1*B:=Nat.mul_le_mul_right B h1
   rw [Nat.add_mul B 1,Nat.mul_comm B (v1*B+v0)] at h2
   omega
theorem G2.down {B v1 v0 u c q r:Nat} (h:G2 B v1 v0 u c q r) (hq:r*B+c<q*v0):0<q∧G2 B v1 v0 u c (q-1) (r+v1):=by
 have h0:0<q:=by
  rcases Nat.eq_zero_or_pos q with e | e
  ·rw [e] at hq;omega
  ·exact e
 refine ⟨h0,?_,.inl ?_⟩
 ·obtain ⟨k,rfl⟩:∃ k,q=k+1:=⟨q-1,by omega⟩
  have:=h.eq
  rw [Nat.add_sub_cancel]
  rw [Nat.add_mul,Nat.one_mul] at this
  omega
 ·rw [Nat.sub_add_cancel h0,← h.eq]
  have:q*(v1*B+v0)=q*v1*B+q*v0:=by grind
  rw [this,Nat.add_mul];omega
theorem G2.over {B v1 v0 u c q r:Nat} (h:G2 B v1 v0 u c q r) (hu:u≤v1*B+v0) (hv:v0<B) (hr:B≤r):q<B∧q*v0≤r*B+c:=by
 have hqB:q<B:=by
  rcases Nat.lt_or_ge q B with h1 | h1
  ·exact h1
  ·exfalso
   have:=Nat.mul_le_mul_right v1 h1
   have e:=h.eq
   rw [Nat.mul_comm B v1] at this
   omega
 refine ⟨hqB,?_⟩
 have h1:q*v0≤B*B:=Nat.mul_le_mul oM oM
 have h2:B*B≤r*B:=Nat.mul_le_mul_right B hr
 omega
theorem G2.done {B v1 v0 u c q r:Nat} (h:G2 B v1 v0 u c q r) (hq:q*v0≤r*B+c):q*(v1*B+v0)≤u*B+c∧(u*B+c<(q+1)*(v1*B+v0)∨q=B-1):=by
 refine ⟨?_,h.up⟩
 rw [← h.eq]
 have:q*(v1*B+v0)=q*v1*B+q*v0:=by grind
 rw [this,Nat.add_mul];omega
theorem G2.small {B v1 v0 u c q r:Nat} (h:G2 B v1 v0 u c q r) (hu:u≤v1*B+v0) (hv1:B≤2*v1) (hv0:v0<B):q≤B+1:=by
 rcases Nat.lt_or_ge q (B+2) with h1 | h1
 ·omega
 ·exfalso
  have:=Nat.mul_le_mul_right v1 h1
  have e:=h.eq
  rw [Nat.add_mul,Nat.mul_comm B v1] at this
  omega
end Go.Proofs.YtbcfidllfimehaaGreatDoor
namespace Go.Proofs.YtbcfidllfimehaaGreatDoor
open Go.RowKit _root_.Go.Proofs.Tryz
def Wm (cs:List Value) (l:List Nat):Prop:=l.length≤cs.length∧∀ j,j<l.length→cs[j]?=some (n32 (l.getD j 0))
theorem Wm.of (l:List Nat) (sp:List Value):Wm (l.map n32++sp) l:=⟨by simp,fun j hj=>by rw [List.getElem?_append_left (by simpa using hj)];exact map_at hj⟩
theorem Wm.set {cs:List Value} {l:List Nat} (h:Wm cs l) (k x:Nat) (hk:k<l.length):Wm (cs.set k (n32 x)) (l.set k x):=by
 refine ⟨by rw [List.length_set,List.length_set];exact h.1,fun j hj=>?_⟩
 rw [List.length_set] at hj
 by_cases e:k=j
 ·subst e
  rw [List.getElem?_set_self (by have:=h.1;omega),getD_set_eq _ _ _ hk]
 ·rw [List.getElem?_set_ne oM,getD_set_ne _ _ _ _ (Ne.symm e)];exact h.2 j hj
theorem Wm.sl {cs:List Value} {l:List Nat} (h:Wm cs l) {G:Hp} {g n cap:Nat} (hg:G g=some cs.toArray) (hl:l.length=n) (hc:n≤cap):SlN n32 G (.slice (some ⟨g,0,none⟩) n cap) l:=by
 unfold SlN
 rw [hl]
 refine ⟨by simp [hl],.inr ⟨g,0,cap,_,rfl,hc,hg,fun j x hj=>?_⟩⟩
 have hjl:j<l.length:=by
  rcases Nat.lt_or_ge j l.length with e | e
  ·exact e
  ·rw [List.getElem?_eq_none (by simpa using e)] at hj;cases hj
 rw [map_at hjl] at hj
 rw [Nat.zero_add,← hj]
 simpa using h.2 j hjl
theorem Alike_trans {l m k:List Nat} {j n:Nat} (h:L32.Alike l m j n) (h':Alike m k j n):L32.Alike l k j n:=⟨h.1.trans h'.1,fun i hi=>(h.2 i hi).trans (h'.2 i hi)⟩
theorem sub_word' {x y c:Nat} (hx:x<B32) (hy:y<B32) (hc:c≤1) :
  IntKind.u32.wrap (IntKind.u64.wrap (IntKind.u64.wrap ((x:Int)-(y:Int))-(c:Int)))=((L32.subLo x y c:Nat):Int)∧(IntKind.u64.wrap (IntKind.u64.wrap ((x:Int)-(y:Int))-(c:Int))).fdiv (2 ^ (min 63 IntKind.u64.bits))=((L32.subHi x y c:Nat):Int):=by
 rw [B32_val] at hx hy
 rw [wrapU32,wrapU64,wrapU64,show (2:Int) ^ (min 63 IntKind.u64.bits)=9223372036854775808 from rfl,Int.fdiv_eq_ediv_of_nonneg _ (by decide)]
 unfold L32.subLo L32.subHi
 rw [B32_val]
 constructor
 ·omega
 ·split <;> omega
theorem refShr0_pc {v:Value} {l:List Nat} {H:Hp} (h:SlN n32 H v l) (hD:Dig B32 l) (hl:l.length≤100000000) (k:Nat) (hk:k≤1000000000) :
  PC prog 209 #[v,.int .i64 (-(k:Int))] H fun r H'=>SlN n32 H' r (dig B32 (val B32 l / 2 ^ k)):=by
 rcases Nat.eq_zero_or_pos k with e | e
 ·subst e
  have:=refShlL_pc h hD hl 0 oM
  simpa using this
 ·exact refShrL_pc h hD hl k hk e
theorem top_le {B P D lv t u0 low:Nat} (hlv:lv<P) (h:(t*B+u0)*P+low<B*(D*P+lv)):t≤D:=by
 rcases Nat.lt_or_ge D t with e | e
 ·exfalso
  have h1:(D+1)*B*P≤t*B*P:=Nat.mul_le_mul_right _ (Nat.mul_le_mul_right _ e)
  have h2:t*B*P≤(t*B+u0)*P:=Nat.mul_le_mul_right _ (Nat.le_add_right _ _)
  have h3:B*(D*P+lv)≤B*(D*P+P):=Nat.mul_le_mul_left _ oM
  have h4:B*(D*P+P)=(D+1)*B*P:=by rw [Nat.add_mul,Nat.add_mul,Nat.one_mul,Nat.mul_add,Nat.mul_assoc D,Nat.mul_left_comm D]
  omega
 ·exact e
theorem shift_facts {b n:Nat} (h0:b≠0) (hn:(dig B32 b).length=n):bl b≤32*n∧b*2 ^ (32*n-bl b)<B32 ^ n∧B32 ^ n≤2*(b*2 ^ (32*n-bl b))∧(dig B32 (b*2 ^ (32*n-bl b))).length=n∧32*n-bl b<32:=by
 have h1:=dig_lt B32_two b
 rw [hn] at h1
 have hP:B32 ^ n=2 ^ (32*n):=by rw [Nat.pow_mul,← B32_pow]
 have h2:bl b≤32*n:=bl_le (by rw [← hP];exact h1)
 have h3:=lt_bl b
 have h4:=le_bl h0
 have h5:=bl_pos h0
 have e1:2 ^ bl b*2 ^ (32*n-bl b)=B32 ^ n:=by rw [hP,← Nat.pow_add];congr 1;omega
 have e2:2*(2 ^ (bl b-1)*2 ^ (32*n-bl b))=B32 ^ n:=by rw [← e1,← Nat.mul_assoc,← Nat.pow_succ'];congr 2;omega
 have a1:b*2 ^ (32*n-bl b)<B32 ^ n:=by rw [← e1];exact Nat.mul_lt_mul_of_pos_right h3 (Nat.two_pow_pos _)
 have a2:B32 ^ n≤2*(b*2 ^ (32*n-bl b)):=by rw [← e2];exact Nat.mul_le_mul_left _ (Nat.mul_le_mul_right _ h4)
 have hn0:0<n:=by rw [← hn];exact List.length_pos_iff.2 (dig_ne_nil B32_two h0)
 have hlow:32*(n-1)<bl b:=by
  have:=dig_le B32_two b h0
  rw [hn,B32_pow,← Nat.pow_mul] at this
  rcases Nat.lt_or_ge (32*(n-1)) (bl b) with e | e
  ·exact e
  ·have:=Nat.pow_le_pow_right (n:=2) oM e
   omega
 refine ⟨h2,a1,a2,?_,by omega⟩
 have a3:=dig_len_le B32_two _ _ a1
 have a4:=dig_lt B32_two (b*2 ^ (32*n-bl b))
 rcases Nat.lt_or_ge (dig B32 (b*2 ^ (32*n-bl b))).length n with e | e
 ·exfalso
  have a5:B32 ^ (dig B32 (b*2 ^ (32*n-bl b))).length≤B32 ^ (n-1):=Nat.pow_le_pow_right (by decide) oM
  have a6:B32 ^ n=B32 ^ (n-1)*B32:=by rw [← Nat.pow_succ];congr 1;omega
  have a7:B32 ^ (n-1)*2≤B32 ^ (n-1)*B32:=Nat.mul_le_mul_left _ B32_two
  omega
 ·omega
theorem long_start {A V n:Nat} (hn:2≤n) (hV:V<B32 ^ n) (hVh:B32 ^ n≤2*V) (hAV:V≤A) :
  L32.Long A V n ((dig B32 A).length+2-n) (dig B32 A++[0,0]) (List.replicate ((dig B32 A).length+2-n) 0):=by
 have hD:=(dig_norm B32_two A).1
 refine ⟨hD.append (Dig.cons (by decide) (Dig.cons (by decide) (Dig.nil _))),Dig.zeros (by decide) _,?_,?_,fun k hk=>by simp [List.getD_eq_getElem?_getD,hk]⟩
 ·have hl:n≤(dig B32 A).length:=by
   rcases Nat.lt_or_ge (dig B32 A).length n with e | e
   ·exfalso
    have h1:=dig_lt B32_two A
    have h2:B32 ^ (dig B32 A).length≤B32 ^ (n-1):=Nat.pow_le_pow_right (by decide) oM
    have h3:B32 ^ n=B32 ^ (n-1)*B32:=by rw [← Nat.pow_succ];congr 1;omega
    have h4:B32 ^ (n-1)*2≤B32 ^ (n-1)*B32:=Nat.mul_le_mul_left _ B32_two
    omega
   ·exact e
  rw [List.drop_append_of_le_length oM,val_append]
  have h1:=val_lt (hD.drop ((dig B32 A).length+2-n))
  rw [List.length_drop,show (dig B32 A).length-((dig B32 A).length+2-n)=n-2 by omega] at h1
  have h2:B32 ^ n=B32 ^ (n-2)*(B32*B32):=by rw [← Nat.mul_assoc,← Nat.pow_succ,← Nat.pow_succ];congr 1;omega
  have h3:B32 ^ (n-2)*2≤B32 ^ (n-2)*(B32*B32):=Nat.mul_le_mul_left _ (by decide)
  simp only [val,Nat.mul_zero,Nat.add_zero]
  omega
 ·rw [val_zeros,val_append,dig_val B32_two];simp [val]
theorem long_top {X V n j:Nat} {U q vl:List Nat} (h:L32.Long X V n (j+1) U q) (hj:j+(n+1)≤U.length) (hn:2≤n) (hV:V<B32 ^ n) (hvl:vl.length=n) (hvD:Dig B32 vl) (hvV:val B32 vl=V) :
  U.getD (j+n) 0*B32+U.getD (j+(n-1)) 0≤vl.getD (n-1) 0*B32+vl.getD (n-2) 0:=by
 have hr:=h.rem hj hV
 have h1:=L32.top_words vl n hvD hvl hn
 have h2:=L32.top3_words (L32.mid U j (n+1)) n (L32.mid_dig h.dU _ _) (L32.mid_length _ _ _ hj) hn
 rw [L32.getD_mid _ _ _ _ oM,L32.getD_mid _ _ _ _ oM,L32.getD_mid _ _ _ _ (by omega)] at h2
 have h3:=hr.1
 rw [← hvV,h1.1,h2.1] at h3
 exact top_le h1.2 h3
theorem wi_at {m n:Nat} (h0:0<m) (h:m+n≤4000000000000):IntKind.i64.wrap ((m:Int)-1+(n:Int))=((m-1+n:Nat):Int):=by rw [IntKind.wrap_i64];omega
theorem wi_at1 {m n:Nat} (h0:0<m) (hn:1≤n) (h:m+n≤4000000000000):IntKind.i64.wrap (IntKind.i64.wrap ((m:Int)-1+(n:Int))-1)=((m-1+(n-1):Nat):Int):=by rw [IntKind.wrap_i64,IntKind.wrap_i64];omega
theorem wi_at2 {m n:Nat} (h0:0<m) (hn:2≤n) (h:m+n≤4000000000000):IntKind.i64.wrap (IntKind.i64.wrap ((m:Int)-1+(n:Int))-2)=((m-1+(n-2):Nat):Int):=by rw [IntKind.wrap_i64,IntKind.wrap_i64];omega
theorem and_low (c:Nat) (h:c<W64):IntKind.u64.wrap (((BitVec.ofInt IntKind.u64.bits (c:Int) &&& BitVec.ofInt IntKind.u64.bits 4294967295).toNat:Nat):Int)=((c % B32:Nat):Int):=by
 rw [W64_val] at h
 have e:(BitVec.ofInt 64 (c:Int) &&& BitVec.ofInt 64 4294967295).toNat=c % 4294967296:=by
  rw [BitVec.toNat_and]
  rw [show (BitVec.ofInt 64 (c:Int)).toNat=c by rw [BitVec.toNat_ofInt];omega,show (BitVec.ofInt 64 4294967295).toNat=2 ^ 32-1 by decide,Nat.and_two_pow_sub_one_eq_mod]
 rw [show IntKind.u64.bits=64 from rfl,e,wrapU64_nat,B32_val]
 omega
theorem wi_s {n k s:Nat} (hs:32*n-k=s) (h:k≤32*n) (hn:n≤100000000):IntKind.i64.wrap (IntKind.i64.wrap (32*(n:Int))-(k:Int))=(s:Int):=by rw [IntKind.wrap_i64,IntKind.wrap_i64];omega
theorem wi_sub1 {m n:Nat} (h:n≤m) (hm:m≤4000000000):IntKind.i64.wrap (IntKind.i64.wrap ((m:Int)-(n:Int))-1)=((m-n:Nat):Int)-1:=by rw [IntKind.wrap_i64,IntKind.wrap_i64];omega
theorem wi_neg (s:Nat) (h:s≤4000000000):IntKind.i64.wrap (0-(s:Int)) = -(s:Int):=by rw [IntKind.wrap_i64];omega
theorem wu_dec (g:Nat) (h0:0<g) (h:g<W64):IntKind.u64.wrap ((g:Int)-1)=((g-1:Nat):Int):=by rw [W64_val] at h;rw [wrapU64];omega
theorem wi_dec1 {m:Nat} (h:0<m) (hm:m≤4000000000):IntKind.i64.wrap ((m:Int)-1-1)=((m-1:Nat):Int)-1:=by rw [IntKind.wrap_i64];omega
theorem nil_sl {α:Type} (enc:α→Value) (H:Hp):SlN enc H (.slice none 0 0) []:=⟨rfl,.inl ⟨rfl,none,0,rfl⟩⟩
theorem dig_len_shift (a:Nat) {s:Nat} (h:s<32):(dig B32 (a*2 ^ s)).length≤(dig B32 a).length+1:=by
 apply dig_len_le B32_two
 rw [Nat.pow_succ]
 exact Nat.lt_of_lt_of_le (Nat.mul_lt_mul_of_pos_right (dig_lt B32_two a) (Nat.two_pow_pos _)) (Nat.mul_le_mul_left _ (by rw [B32_pow];exact Nat.pow_le_pow_right (by decide) oM))
theorem oneB_n32:∀ l:List Nat,oneB (l.map n32)=true
 | []=>rfl
 | _::l=>by rw [List.map_cons];unfold oneB;rw [oneB_n32 l];rfl
theorem shift_facts' {l:List Nat} {b n:Nat} (hl:Norm B32 l) (hv:val B32 l=b) (h0:b≠0) (hn:l.length=n):bl b≤32*n∧b*2 ^ (32*n-bl b)<B32 ^ n∧B32 ^ n≤2*(b*2 ^ (32*n-bl b))∧(dig B32 (b*2 ^ (32*n-bl b))).length=n∧32*n-bl b<32:=by
 subst hv
 exact shift_facts h0 (by rw [dig_of B32_two hl];exact hn)
set_option maxRecDepth 20000 in
set_option maxHeartbeats 8000000 in
theorem refDiv_big {u v:Value} {H:Hp} {a b:Nat} {la lb:List Nat} (hu:SlN n32 H u la) (hv:SlN n32 H v lb) (hla:la.length≤50000000) (hlb:lb.length≤50000000) (hna:Norm B32 la) (hnb:Norm B32 lb) (hva:val B32 la=a) (hvb:val B32 lb=b) (hab:b≤a) (h2:2≤lb.length) :
  PC prog 180 #[u,v] H fun r H'=>∃ s t,r=.tuple #[s,t]∧SlN n32 H' s (dig B32 (a / b))∧SlN n32 H' t (dig B32 (a % b)):=by
 have hb0:b≠0:=fun e=>by rw [norm_zero (by decide) hnb (by rw [hvb];exact e)] at h2;simp at h2
 obtain ⟨f1,f2,f3,f4,f5⟩:=shift_facts' hnb hvb hb0 rfl
 have hcmp:=refCmpL_pc hu hv hna hnb oM
 have hbits:=refBits_pc hv hnb oM
 have hshb:=refShlL_pc (k:=32*lb.length-bl b) hv hnb.1 oM oM
 rw [hva,hvb] at hcmp
 rw [hvb] at hbits hshb
 obtain ⟨aa,ca,rfl⟩:=SlC.val hu
 obtain ⟨ab,cb,rfl⟩:=SlC.val hv
 have ho:decide (ordN a b<0)=false:=by unfold ordN;rw [if_neg (by omega)];split <;> rfl
 generalize ordN a b=oab at *
 generalize bl b=blb at *
 have hAV:b*2 ^ (32*lb.length-blb)≤a*2 ^ (32*lb.length-blb):=Nat.mul_le_mul_right _ hab
 have hst:=long_start h2 f2 f3 hAV
 have hVnz:0<b*2 ^ (32*lb.length-blb):=Nat.mul_pos (Nat.pos_of_ne_zero hb0) (Nat.two_pow_pos _)
 have hlA:0<(dig B32 (a*2 ^ (32*lb.length-blb))).length:=List.length_pos_iff.2 (dig_ne_nil B32_two oM)
 have hlA2:(dig B32 (a*2 ^ (32*lb.length-blb))).length≤50000001:=by
  have:=dig_len_shift a f5
  rw [← hva,dig_of B32_two hna,hva] at this
  omega
 have hlV:lb.length≤(dig B32 (a*2 ^ (32*lb.length-blb))).length:=by
  have:=dig_len_mono B32_two hAV
  rw [f4] at this;exact this
 have hyD:=dig_norm B32_two (b*2 ^ (32*lb.length-blb))
 have hyV:=dig_val B32_two (b*2 ^ (32*lb.length-blb))
 generalize hs:32*lb.length-blb=s at *
 have hshl:=fun G1 (hG1:H.Le G1)=>refShlL_pc (k:=s) (hu.mono hG1) hna.1 oM oM
 rw [hva] at hshl
 generalize dig B32 (a*2 ^ s)=A at *
 generalize dig B32 (b*2 ^ s)=Y at *
 generalize hn:lb.length=n at *
 have ha:a*2 ^ s / (b*2 ^ s)=a / b:=Nat.mul_div_mul_right _ _ (Nat.two_pow_pos s)
 have hr:a*2 ^ s % (b*2 ^ s) / 2 ^ s=a % b:=by rw [Nat.mul_mod_mul_right,Nat.mul_div_cancel _ (Nat.two_pow_pos s)]
 rw [← ha,← hr]
 generalize a*2 ^ s=X at *
 generalize b*2 ^ s=V at *
 clear ha hr hva hvb hab hnb hb0
 refine BD func180 ntmps180 ?_
 repeat (first | refine RUN ?_ | refine CV (hcmp) ?_ | refine CE (hcmp) ?_)
 rw [ho]
 try refine RUN ?_
 rw [show ((n:Int) == 1)=false by simp;omega]
 repeat (first | refine RUN ?_ | refine CV (hbits) ?_ | refine CE (hbits) ?_)
 rw [wi_s hs f1 (by omega)]
 refine EVL.call rfl rfl rfl rfl rfl (hshb) ?_
 rintro vy G1 hy hG1
 obtain ⟨ay,cy,rfl⟩:=SlC.val hy
 have hshl1:=hshl G1 hG1
 try refine RUN ?_
 refine EVL.lit0 tO rfl rfl rfl rfl rfl rfl rfl fun g0=>?_
 try refine RUN ?_
 refine EVL.call rfl rfl rfl rfl rfl (hshl1) ?_
 rintro vx Gx hx hG2
 try refine RUN ?_
 refine EVL.append tO rfl rfl rfl rfl rfl rfl rfl rfl rfl rfl rfl rfl [] [(g0,161,[])] [] rfl (OwnL.full (m:=0) rfl oM) (SrcAt.ro hx hlA) (oneB_n32 _) oM ?_
 intro v1 ow1 hown1
 try refine RUN ?_
 refine EVL.app1 tO rfl rfl rfl rfl rfl rfl rfl rfl rfl rfl rfl rfl rfl rfl rfl rfl rfl rfl rfl (fun _=>rfl) (ow1) ([]) (rfl) (hown1) oM fun _=>?_
 intro v2 ow2 hown2
 obtain ⟨gx,cx,sp,rfl,rfl,hl1,hl2,hl3⟩:=hown2.block oM
 have hX:∃ N X0,N=A.length+2∧X0=A++[0,0]∧X0.length=N∧0+A.length+2=N:=⟨_,_,rfl,rfl,by simp,by omega⟩
 obtain ⟨N,X0,hN,hX0,hXl,hNe⟩:=hX
 rw [hNe] at hl2 ⊢
 have hW0:Wm ([]++A.map n32++[n32 0,n32 0]++sp) X0:=by
  have:=Wm.of X0 sp
  rw [hX0,List.map_append] at this
  simpa [hX0] using this
 have hst':L32.Long X V n (N-n) X0 (List.replicate (N-n) 0):=by rw [hN,hX0];exact hst
 generalize []++A.map n32++[n32 0,n32 0]++sp=cs0 at *
 have hy1:Y.getD (n-1) 0<B32:=hyD.1.getD (by decide) _
 have hy2:Y.getD (n-2) 0<B32:=hyD.1.getD (by decide) _
 have hyc1:=map_at (enc:=n32) (l:=Y) (i:=n-1) oM
 have hyc2:=map_at (enc:=n32) (l:=Y) (i:=n-2) oM
 have hNb:N≤50000003:=by omega
 have hNn:n+2≤N:=by omega
 have hyG2:=hy.mono hG2
 have hV1:B32≤2*Y.getD (n-1) 0:=L32.top_half Y n hyD.1 f4 oM (by rw [hyV];exact f3)
 clear hst hX0 hlA hlA2 hlV hl1 hl3 hN
 try refine RUN ?_
 refine EVL.idxR tO rfl rfl rfl rfl rfl rfl rfl rfl rfl rfl (hyG2) (n-1) ((by rw [f4];exact wi_dec n oM oM)) oM (hyc1) ?_
 try refine RUN ?_
 refine EVL.idxR tO rfl rfl rfl rfl rfl rfl rfl rfl rfl rfl (hyG2) (n-2) ((by rw [f4];exact wi_sub n 2 oM oM)) oM (hyc2) ?_
 try refine RUN ?_
 rw [wu_id _ (w32 hy1),wu_id _ (w32 hy2),f4,wi_sub N n oM (by omega)]
 refine EVL.make tO rfl rfl rfl rfl rfl rfl rfl rfl rfl (N-n) (rfl) oM (by rfl) (by rfl) fun gq=>?_
 try refine RUN ?_
 rw [zeros32]
 generalize hv1:Y.getD (n-1) 0=v1 at *
 generalize hv0:Y.getD (n-2) 0=v0 at *
 have hv1p:0<v1:=by rw [B32_val] at hV1;omega
 refine EV.loopK (ι:=Nat × List Nat × List Nat × List Value) [8,9,10,11,12,13,14] [] (fun q=>[(15,.v (.int .i64 ((q.1:Int)-1)))]) (fun _=>[]) (fun q=>[(gq,161,q.2.2.1.map n32),(gx,161,q.2.2.2)]) (fun q G=>q.1≤N-n∧q.2.1.length=N∧q.2.2.1.length=N-n∧L32.Long X V n q.1 q.2.1 q.2.2.1∧Wm q.2.2.2 q.2.1) (fun q=>q.1) ((N-n,X0,List.replicate (N-n) 0,cs0)) rfl rfl ⟨?_,trivial⟩ trivial rfl (fun _=>rfl) (⟨Nat.le_refl _,hXl,by simp,hst',hW0⟩) ?_
 ·rw [wi_sub1 oM (by omega)];rfl
 rintro ⟨m,U,q,cx1⟩ G3 hG3 ⟨hm,hUl,hql,hL,hW⟩
 dsimp only at hm hUl hql hL hW
 have hyG3:=hyG2.mono hG3
 clear hW0 hst' hXl hcmp ho hbits hshb hshl hshl1 hx hy hyG2
 try refine RUN ?_
 by_cases hm0:m=0
 ·subst hm0
  rw [show decide ((((0:Nat):Int)-1)≥0)=false from rfl]
  try refine RUN ?_
  refine EVL.publish [] [(gx,161,cx1)] rfl fun G4 hG4 hgq=>?_
  refine EVL.publish [] [] rfl fun G5 hG5 hgx=>?_
  have hvU:val B32 U<V:=by have:=hL.top;rwa [List.drop_zero] at this
  have hq:val B32 q=X / V:=by rw [hL.sum,Nat.add_mul_div_left _ _ hVnz,Nat.div_eq_of_lt hvU,Nat.zero_add]
  have hU:val B32 U=X % V:=by rw [hL.sum,Nat.add_mul_mod_self_left,Nat.mod_eq_of_lt hvU]
  have htq:=refTrim_dig (l:=q) (sl_new (enc:=n32) (hG5 _ _ hgq) hql) hL.dq oM hq
  refine EVL.call rfl rfl rfl rfl rfl (htq) ?_
  rintro vq G6 hq6 hG6
  try refine RUN ?_
  have htx:=refTrim_dig (l:=U) ((hW.sl hgx hUl hl2).mono hG6) hL.dU oM hU
  refine EVL.call rfl rfl rfl rfl rfl (htx) ?_
  rintro vu G7 hu7 hG7
  try refine RUN ?_
  have hsh:=refShr0_pc hu7 (digB_dig _) (Nat.le_trans (dig_len_le B32_two _ N (by rw [← hU,← hUl];exact val_lt hL.dU)) oM) s oM
  rw [dig_val B32_two,← wi_neg s (by omega)] at hsh
  refine EVL.call rfl rfl rfl rfl rfl (hsh) ?_
  rintro vr G8 hr8 hG8
  try refine RUN ?_
  exact ⟨vq,vr,rfl,(hq6.mono hG7).mono hG8,hr8⟩
 ·rw [show decide (((m:Int)-1)≥0)=true by simp;omega]
  have hmp:0<m:=Nat.pos_of_ne_zero hm0
  have hmN:m+n≤N:=by omega
  have hmn:m+n≤4000000000000:=by omega
  obtain ⟨j,hj⟩:∃ j,j=m-1:=⟨_,rfl⟩
  have hL':L32.Long X V n (j+1) U q:=by rw [show j+1=m by omega];exact hL
  have hjn:j+(n+1)≤U.length:=by omega
  have hlong:=hL'.guess hjn h2 f2 f3 f4 hyD.1 hyV
  have htop:=long_top hL' hjn h2 f2 f4 hyD.1 hyV
  have hnext:=fun U'=>hL'.next (U':=U') hjn f2 hVnz oM
  rw [hv1,hv0] at hlong htop
  have hu2:U.getD (j+n) 0<B32:=hL.dU.getD (by decide) _
  have hu1:U.getD (j+(n-1)) 0<B32:=hL.dU.getD (by decide) _
  have hu0:U.getD (j+(n-2)) 0<B32:=hL.dU.getD (by decide) _
  have hc2:=hW.2 (j+n) oM
  have hc1:=hW.2 (j+(n-1)) oM
  have hc0:=hW.2 (j+(n-2)) oM
  obtain ⟨u2,he2⟩:∃ x,x=U.getD (j+n) 0:=⟨_,rfl⟩
  obtain ⟨u1,he1⟩:∃ x,x=U.getD (j+(n-1)) 0:=⟨_,rfl⟩
  obtain ⟨u0,he0⟩:∃ x,x=U.getD (j+(n-2)) 0:=⟨_,rfl⟩
  rw [← he2] at hlong htop hu2 hc2
  rw [← he1] at hlong htop hu1 hc1
  rw [← he0] at hlong hu0 hc0
  have htwo:u1+u2*2 ^ 32<W64:=by rw [B32_val] at hu1 hu2;rw [W64_val];omega
  have e1:u1+u2*2 ^ 32=u2*B32+u1:=by rw [← B32_pow,Nat.add_comm]
  try refine RUN ?_
  apply EV.drawn 18 kR kR;intro xv yw
  (repeat refine' DD ?_)
  refine' DJ.ofVal (ValOk.idxP1 tO rfl rfl rfl rfl rfl rfl rfl rfl (j+n) ((by rw [hj];exact wi_at hmp hmn)) oM) rfl rfl rfl ?_;rotate_left
  refine' DJ.ofVal (ValOk.load1 tO rfl rfl rfl rfl rfl rfl (1) rfl (hc2)) rfl rfl rfl ?_;rotate_left
  (repeat refine' DD ?_)
  refine' DJ.ofVal (ValOk.idxP1 tO rfl rfl rfl rfl rfl rfl rfl rfl (j+(n-1)) ((by rw [hj];exact wi_at1 hmp oM hmn)) oM) rfl rfl rfl ?_;rotate_left
  refine' DJ.ofVal (ValOk.load1 tO rfl rfl rfl rfl rfl rfl (1) rfl (hc1)) rfl rfl rfl ?_;rotate_left
  (repeat refine' DD ?_)
  (refine DJ.nil (fun G4 hG4 hF4=>?_);(case hS|hS2=>rfl))
  try refine RUN ?_
  rw [wu_id _ (w32 hu2),wu_id _ (w32 hu1),show min 32 IntKind.u64.bits=32 from rfl,wu_shl,Nat.mod_eq_of_lt (Nat.lt_of_le_of_lt (Nat.le_add_left _ _) htwo),or_word' (by rw [← B32_pow];exact hu1) htwo,e1]
  rw [e1] at htwo
  have hst:=G2.start (B:=B32) (v0:=v0) (u:=u2*B32+u1) (c:=u0) hv1p hu0
  generalize hu:u2*B32+u1=u at *
  try refine RUN ?_
  refine EVL.quoI rfl rfl rfl rfl rfl rfl oM ?_
  rw [wu_quo _ _ htwo]
  (try refine RUNB ?_)
  refine EVL.remI rfl rfl rfl rfl rfl rfl oM ?_
  rw [wi_rem]
  (try refine RUNB ?_)
  refine EV.meetK (ι:=Nat) [8,9,10,11,12,13,14,15] [] (fun g=>[(17,.v (n64 g))]) (fun _=>[]) (fun _=>[(gq,161,q.map n32),(gx,161,cx1)]) (fun g G=>G4.Le G∧g<B32∧g*(v1*B32+v0)≤u*B32+u0∧(u*B32+u0<(g+1)*(v1*B32+v0)∨g=B32-1)) rfl rfl (fun _=>rfl) ?_ ?_
  ·(try refine RUN ?_)
   refine EV.loopK (ι:=Nat × Nat) [8,9,10,11,12,13,14,15] [] (fun p=>[(17,.v (n64 p.1)),(18,.v (n64 p.2))]) (fun _=>[]) (fun _=>[(gq,161,q.map n32),(gx,161,cx1)]) (fun p G=>G2 B32 v1 v0 u u0 p.1 p.2∧p.2<B32) (fun p=>p.1) ((u / v1,u % v1)) rfl rfl ⟨rfl,rfl,trivial⟩ trivial rfl (fun _=>rfl) (⟨hst,Nat.lt_trans (Nat.mod_lt _ hv1p) (by rw [← hv1];exact hyD.1.getD (by decide) _)⟩) ?_
   rintro ⟨g,r⟩ G5 hG5 ⟨hg,hr⟩
   dsimp only at hg hr
   have hgs:=hg.small htop hV1 hy2
   have hv1B:v1<B32:=by rw [← hv1];exact hyD.1.getD (by decide) _
   try refine RUN ?_
   by_cases hgB:B32≤g
   ·rw [show decide ((g:Int)≥4294967296)=true from decide_eq_true (by rw [B32_val] at hgB;omega)]
    have hgp:0<g:=by rw [B32_val] at hgB;omega
    have hst1:=hg.high hv1p htop hu0 hgB
    try refine RUN ?_
    rw [wu_dec g hgp (by rw [B32_val] at hgs;rw [W64_val];omega),wu_add r v1 (by rw [W64_val];rw [B32_val] at hr hv1B;omega)]
    by_cases hov:B32≤r+v1
    ·rw [show decide (((r+v1:Nat):Int)≥4294967296)=true from decide_eq_true (by rw [B32_val] at hov;omega)]
     try refine RUN ?_
     have ho:=hst1.over htop hy2 hov
     exact ⟨g-1,⟨rfl,trivial⟩,sB,trivial,trivial,rfl,hG5,ho.1,hst1.done ho.2⟩
    ·rw [show decide (((r+v1:Nat):Int)≥4294967296)=false from decide_eq_false (by rw [B32_val] at hov;omega)]
     try refine RUN ?_
     exact ⟨(g-1,r+v1),⟨rfl,rfl,trivial⟩,sB,trivial,trivial,rfl,⟨hst1,by dsimp only;omega⟩,Hp.Le.refl _,by dsimp only;omega⟩
   ·rw [show decide ((g:Int)≥4294967296)=false from decide_eq_false (by rw [B32_val] at hgB;omega)]
    refine EVL.val tO rfl rfl rfl rfl rfl ?_
    refine EVL.val tO rfl rfl rfl rfl rfl ?_
    rw [show decide ((r:Int)<4294967296)=true from decide_eq_true (by rw [B32_val] at hr;omega)]
    have hgv:g*v0<W64:=by
     have:g*v0≤(B32-1)*(B32-1):=Nat.mul_le_mul oM oM
     rw [B32_val] at this;rw [W64_val];omega
    have e3:u0+r*2 ^ 32=r*B32+u0:=by rw [← B32_pow,Nat.add_comm]
    have hrW:u0+r*2 ^ 32<W64:=by rw [B32_val] at hr hu0;rw [W64_val];omega
    try refine RUN ?_
    refine EVL.idx0 tO rfl rfl rfl rfl rfl rfl rfl rfl rfl rfl (j+(n-2)) ((by rw [hj];exact wi_at2 hmp h2 hmn)) oM ?_
    refine EVL.load1 tO rfl rfl rfl rfl rfl rfl rfl rfl (1) rfl (hc0) ?_
    (try refine RUNL ?_)
    rw [wu_mul _ _ hgv,wu_id _ (w32 hu0),show min 32 IntKind.u64.bits=32 from rfl,wu_shl,Nat.mod_eq_of_lt (Nat.lt_of_le_of_lt (Nat.le_add_left _ _) hrW),or_word' (by rw [← B32_pow];exact hu0) hrW,e3]
    by_cases hd:r*B32+u0<g*v0
    ·rw [show decide (((g*v0:Nat):Int)>((r*B32+u0:Nat):Int))=true from decide_eq_true (by omega)]
     have hgd:=hg.down hd
     have hgp:=hgd.1
     have hst1:=hgd.2
     try refine RUN ?_
     rw [wu_dec g hgp (by rw [B32_val] at hgs;rw [W64_val];omega),wu_add r v1 (by rw [W64_val];rw [B32_val] at hr hv1B;omega)]
     by_cases hov:B32≤r+v1
     ·rw [show decide (((r+v1:Nat):Int)≥4294967296)=true from decide_eq_true (by rw [B32_val] at hov;omega)]
      try refine RUN ?_
      have ho:=hst1.over htop hy2 hov
      exact ⟨g-1,⟨rfl,trivial⟩,sB,trivial,trivial,rfl,hG5,ho.1,hst1.done ho.2⟩
     ·rw [show decide (((r+v1:Nat):Int)≥4294967296)=false from decide_eq_false (by rw [B32_val] at hov;omega)]
      try refine RUN ?_
      exact ⟨(g-1,r+v1),⟨rfl,rfl,trivial⟩,sB,trivial,trivial,rfl,⟨hst1,by dsimp only;omega⟩,Hp.Le.refl _,by dsimp only;omega⟩
    ·rw [show decide (((g*v0:Nat):Int)>((r*B32+u0:Nat):Int))=false from decide_eq_false (by omega)]
     try refine RUN ?_
     exact ⟨g,⟨rfl,trivial⟩,sB,trivial,trivial,rfl,hG5,by omega,hg.done oM⟩
  ·rintro g G5 ⟨hG5,hgB,hg1,hg2⟩
   have hgq:=hlong.2 g hgB hg1 hg2
   have hyG5:=hyG3.mono (hG4.trans hG5)
   clear hlong htop hst hg1 hg2
   try refine RUN ?_
   refine EV.loopK (ι:=Nat × Nat × Nat × List Nat × List Value) [8,9,10,11,12,13,14,15,17] [] (fun p=>[(19,.v (n64 p.2.1)),(20,.v (n64 p.2.2.1)),(21,.v (.int .i64 (p.1:Int)))]) (fun _=>[]) (fun p=>[(gq,161,q.map n32),(gx,161,p.2.2.2.2)]) (fun p G=>p.1≤n∧p.2.1<B32∧p.2.2.1≤1∧L32.Alike p.2.2.2.1 U j (n+1)∧Dig B32 p.2.2.2.1∧val B32 p.2.2.2.1+g*val B32 (Y.take p.1)*B32 ^ j=val B32 U+(p.2.2.1+p.2.1)*B32 ^ (j+p.1)∧Wm p.2.2.2.2 p.2.2.2.1) (fun p=>n-p.1) ((0,0,0,U,cx1)) rfl rfl ⟨rfl,rfl,rfl,trivial⟩ trivial rfl (fun _=>rfl) (⟨Nat.zero_le _,(show (0:Nat)<B32 by decide),Nat.zero_le _,L32.Alike.refl _ _ _,hL'.dU,by simp [val],hW⟩) ?_
   rintro ⟨k,c,bo,U1,cx2⟩ G6 hG6 ⟨hk,hcB,hb1,hal,hD1,hval,hW1⟩
   dsimp only at hk hcB hb1 hal hD1 hval hW1
   have hU1l:U1.length=N:=by rw [hal.1];exact hUl
   have hyG6:=hyG5.mono hG6
   rw [f4] at hyG6
   try refine RUN ?_
   refine EV.cond rfl (fun hkn=>?_) (fun hkn=>?_)
   ·simp only [nN] at hkn
    have hyk:Y.getD k 0<B32:=hyD.1.getD (by decide) _
    have hyc:=map_at (enc:=n32) (l:=Y) (i:=k) oM
    have hxk:U1.getD (j+k) 0<B32:=hD1.getD (by decide) _
    have hxc:=hW1.2 (j+k) oM
    have hmul:g*Y.getD k 0≤(B32-1)*(B32-1):=Nat.mul_le_mul oM oM
    have hgW:g*Y.getD k 0<W64∧c+g*Y.getD k 0<W64∧g*Y.getD k 0+c<B32*B32:=by rw [B32_val] at *;rw [W64_val];omega
    have hdm:g*Y.getD k 0 / B32*B32+g*Y.getD k 0 % B32=g*Y.getD k 0:=by rw [Nat.mul_comm];exact Nat.div_add_mod _ _
    have sr:=L32.sub_round U1 U Y j k (j+k) g c bo (U1.getD (j+k) 0) (Y.getD k 0) (g*Y.getD k 0 / B32) (g*Y.getD k 0 % B32) rfl oM hxk rfl rfl (Nat.mod_lt _ (by decide)) hdm hgW.2.2 hcB hb1 hval
    have el:L32.addLo (g*Y.getD k 0 % B32) c 0=(c+g*Y.getD k 0) % B32:=by unfold L32.addLo;rw [Nat.add_zero,Nat.mod_add_mod,Nat.add_comm]
    have eh:g*Y.getD k 0 / B32+L32.addHi (g*Y.getD k 0 % B32) c 0=(c+g*Y.getD k 0) / B32:=by
     unfold L32.addHi
     rw [Nat.add_zero]
     generalize g*Y.getD k 0=z
     rw [B32_val];omega
    rw [el,eh] at sr
    obtain ⟨s1,s2,s3,s4⟩:=sr
    obtain ⟨w1,w2⟩:=sub_word' (y:=(c+g*Y.getD k 0) % B32) hxk (Nat.mod_lt _ (by decide)) hb1
    try refine RUN ?_
    refine EVL.idxR tO rfl rfl rfl rfl rfl rfl rfl rfl rfl rfl (hyG6) (k) (rfl) (oM) (hyc) ?_
    try refine RUN ?_
    rw [wu_id _ (w32 hyk),wu_mul _ _ hgW.1,wu_add _ _ hgW.2.1]
    try refine RUN ?_
    refine EVL.idx0 tO rfl rfl rfl rfl rfl rfl rfl rfl rfl rfl (j+k) ((by rw [hj];exact wi_at hmp oM)) oM ?_
    refine EVL.load1 tO rfl rfl rfl rfl rfl rfl rfl rfl (1) rfl (hxc) ?_
    try refine RUN ?_
    rw [and_low _ hgW.2.1,wu_id _ (w32 hxk)]
    rw [w1]
    refine EVL.idx0 tO rfl rfl rfl rfl rfl rfl rfl rfl rfl rfl (j+k) ((by rw [hj];exact wi_at hmp oM)) oM ?_
    refine EVL.setO tO rfl rfl rfl rfl rfl rfl rfl ([(gq,161,q.map n32)]) rfl rfl rfl ((show j+k<cx2.length by have:=hW1.1;omega)) ?_
    try refine RUN ?_
    refine ⟨(k+1,(c+g*Y.getD k 0) / B32,L32.subHi (U1.getD (j+k) 0) ((c+g*Y.getD k 0) % B32) bo,U1.set (j+k) (L32.subLo (U1.getD (j+k) 0) ((c+g*Y.getD k 0) % B32) bo),cx2.set (j+k) (n32 (L32.subLo (U1.getD (j+k) 0) ((c+g*Y.getD k 0) % B32) bo))),⟨?_,?_,?_,trivial⟩,sB,trivial,trivial,rfl,⟨by dsimp only;omega,s1,s2,hal.set _ _ oM oM,hD1.set _ _ s3,s4,hW1.set _ _ oM⟩,Hp.Le.refl _,by dsimp only;omega⟩
    ·rw [shr32];rfl
    ·rw [w2];rfl
    ·rw [wi_inc k (by omega)];rfl
   ·simp only [nN] at hkn
    obtain rfl:k=n:=by omega
    have hxk:U1.getD (j+k) 0<B32:=hD1.getD (by decide) _
    have hxc:=hW1.2 (j+k) oM
    have hval':val B32 U1+g*V*B32 ^ j=val B32 U+(bo+c)*B32 ^ (j+k):=by rw [List.take_of_length_le oM,hyV] at hval;exact hval
    obtain ⟨a1,a2,a3,a4,a5⟩:=L32.sub_end U U1 V g c bo _ j k hjn hal hL'.dU hD1 rfl hcB hb1 hval' hVnz f2 hgq.1 hgq.2
    obtain ⟨w1,w2⟩:=sub_word' hxk hcB hb1
    try refine RUN ?_
    refine EVL.idx0 tO rfl rfl rfl rfl rfl rfl rfl rfl rfl rfl (j+k) ((by rw [hj];exact wi_at hmp oM)) oM ?_
    refine EVL.load1 tO rfl rfl rfl rfl rfl rfl rfl rfl (1) rfl (hxc) ?_
    try refine RUN ?_
    rw [wu_id _ (w32 hxk)]
    rw [w1]
    have hWx:=hW1.set (j+k) (L32.subLo (U1.getD (j+k) 0) c bo) oM
    have hU2l:(U1.set (j+k) (L32.subLo (U1.getD (j+k) 0) c bo)).length=N:=by rw [List.length_set];exact hU1l
    refine EVL.idx0 tO rfl rfl rfl rfl rfl rfl rfl rfl rfl rfl (j+k) ((by rw [hj];exact wi_at hmp oM)) oM ?_
    refine EVL.setO tO rfl rfl rfl rfl rfl rfl rfl ([(gq,161,q.map n32)]) rfl rfl rfl ((show j+k<cx2.length by have:=hW1.1;omega)) ?_
    generalize U1.set (j+k) (L32.subLo (U1.getD (j+k) 0) c bo)=U2 at *
    generalize cx2.set (j+k) (n32 (L32.subLo (U1.getD (j+k) 0) c bo))=cx3 at *
    (try refine RUNB ?_)
    rw [w2]
    generalize L32.subHi (U1.getD (j+k) 0) c bo=hb at *
    clear hval hval' w1 w2 hW1 hal hD1 hxk hxc
    (try refine RUNB ?_)
    refine EV.meetK (ι:=List Nat × List Value) [8,9,10,11,12,13,14,15] [] (fun _=>[(17,.v (n64 (val B32 (L32.mid U j (k+1)) / V)))]) (fun _=>[]) (fun p=>[(gq,161,q.map n32),(gx,161,p.2)]) (fun p G=>G6.Le G∧Wm p.2 p.1∧L32.Alike p.1 U j (k+1)∧Dig B32 p.1∧val B32 (L32.mid p.1 j (k+1))=val B32 (L32.mid U j (k+1)) % V) rfl rfl (fun _=>rfl) ?_ ?_
    ·rcases (by omega:hb=0∨hb=1) with h0 | h0
     ·subst h0
      obtain ⟨b1,b2⟩:=a4 rfl
      rw [show (((0:Nat):Int) == 1)=false from rfl]
      try refine RUN ?_
      exact ⟨(U2,cx3),⟨by rw [← b1];rfl,trivial⟩,sB,trivial,trivial,rfl,Hp.Le.refl _,hWx,a1,a2,b2⟩
     ·subst h0
      obtain ⟨b1,b2⟩:=a5 rfl
      rw [show (((1:Nat):Int) == 1)=true from rfl]
      have hgp:0<g:=by rw [b1];exact Nat.succ_pos _
      have hgm:g-1=val B32 (L32.mid U j (k+1)) / V:=by rw [b1];exact Nat.add_sub_cancel _ _
      have hmV:=Nat.mod_lt (val B32 (L32.mid U j (k+1))) hVnz
      have hmM:val B32 (L32.mid U j (k+1)) % V<B32 ^ (k+1):=by
       have:B32 ^ k≤B32 ^ (k+1):=Nat.pow_le_pow_right (by decide) oM
       exact Nat.lt_of_lt_of_le (Nat.lt_trans hmV f2) this
      try refine RUN ?_
      rw [wu_dec g hgp (w32 hgB),hgm]
      try refine RUN ?_
      refine EV.loopK (ι:=Nat × Nat × List Nat × List Value) [8,9,10,11,12,13,14,15,17] [] (fun p=>[(19,.v (n64 p.2.1)),(24,.v (.int .i64 (p.1:Int)))]) (fun _=>[]) (fun p=>[(gq,161,q.map n32),(gx,161,p.2.2.2)]) (fun p G=>p.1≤k∧p.2.1≤1∧L32.Alike p.2.2.1 U2 j k∧Dig B32 p.2.2.1∧val B32 p.2.2.1+p.2.1*B32 ^ (j+p.1)=val B32 U2+val B32 (Y.take p.1)*B32 ^ j∧Wm p.2.2.2 p.2.2.1) (fun p=>k-p.1) ((0,0,U2,cx3)) rfl rfl ⟨rfl,rfl,trivial⟩ trivial rfl (fun _=>rfl) (⟨Nat.zero_le _,Nat.zero_le _,L32.Alike.refl _ _ _,a2,by simp [val],hWx⟩) ?_
      rintro ⟨i,c',U3,cx4⟩ G7 hG7 ⟨hi,hc',hal3,hD3,hval3,hW3⟩
      dsimp only at hi hc' hal3 hD3 hval3 hW3
      have hU3l:U3.length=N:=by rw [hal3.1];exact hU2l
      have hyG7:=hyG6.mono hG7
      try refine RUN ?_
      refine EV.cond rfl (fun hik=>?_) (fun hik=>?_)
      ·simp only [nN] at hik
       have hyi:Y.getD i 0<B32:=hyD.1.getD (by decide) _
       have hyc:=map_at (enc:=n32) (l:=Y) (i:=i) oM
       have hxi:U3.getD (j+i) 0<B32:=hD3.getD (by decide) _
       have hxc:=hW3.2 (j+i) oM
       obtain ⟨r1,r2,r3⟩:=L32.add_round U3 U2 Y j i (j+i) c' (U3.getD (j+i) 0) (Y.getD i 0) rfl oM hxi rfl rfl hyi hc' hval3
       have el:L32.addLo (U3.getD (j+i) 0) (Y.getD i 0) c'=(c'+U3.getD (j+i) 0+Y.getD i 0) % B32:=by unfold L32.addLo;congr 1;omega
       have eh:L32.addHi (U3.getD (j+i) 0) (Y.getD i 0) c'=(c'+U3.getD (j+i) 0+Y.getD i 0) / B32:=by unfold L32.addHi;congr 1;omega
       rw [el] at r1 r3
       rw [eh] at r2 r3
       have hsW:c'+U3.getD (j+i) 0<W64∧c'+U3.getD (j+i) 0+Y.getD i 0<W64:=by rw [B32_val] at hxi hyi;rw [W64_val];omega
       try refine RUN ?_
       apply EV.drawn 16 kR kR;intro xv yw
       (repeat refine' DD ?_)
       refine' DJ.ofVal (ValOk.idxP1 tO rfl rfl rfl rfl rfl rfl rfl rfl (j+i) ((by rw [hj];exact wi_at hmp oM)) oM) rfl rfl rfl ?_;rotate_left
       refine' DJ.ofVal (ValOk.load1 tO rfl rfl rfl rfl rfl rfl (1) rfl (hxc)) rfl rfl rfl ?_;rotate_left
       (repeat refine' DD ?_)
       refine' DJ.ofVal (ValOk.idx1 tO rfl rfl rfl rfl rfl rfl rfl rfl (hyG7) (i) (rfl) (oM) (hyc)) rfl rfl rfl ?_;rotate_left
       (repeat refine' DD ?_)
       (refine DJ.nil (fun G8 hG8 hF8=>?_);(case hS|hS2=>rfl))
       try refine RUN ?_
       rw [wu_id _ (w32 hxi),wu_id _ (w32 hyi),wu_add _ _ hsW.1,wu_add _ _ hsW.2]
       rw [wu32]
       refine EVL.idx0 tO rfl rfl rfl rfl rfl rfl rfl rfl rfl rfl (j+i) ((by rw [hj];exact wi_at hmp oM)) oM ?_
       refine EVL.setO tO rfl rfl rfl rfl rfl rfl rfl ([(gq,161,q.map n32)]) rfl rfl rfl ((show j+i<cx4.length by have:=hW3.1;omega)) ?_
       try refine RUN ?_
       refine ⟨(i+1,(c'+U3.getD (j+i) 0+Y.getD i 0) / B32,U3.set (j+i) ((c'+U3.getD (j+i) 0+Y.getD i 0) % B32),cx4.set (j+i) (n32 ((c'+U3.getD (j+i) 0+Y.getD i 0) % B32))),⟨?_,?_,trivial⟩,sB,trivial,trivial,rfl,⟨by dsimp only;omega,r2,hal3.set _ _ oM oM,hD3.set _ _ r1,r3,hW3.set _ _ oM⟩,hG8,by dsimp only;omega⟩
       ·rw [shr32];rfl
       ·rw [wi_inc i (by omega)];rfl
      ·simp only [nN] at hik
       obtain rfl:i=k:=by omega
       have hxi:U3.getD (j+i) 0<B32:=hD3.getD (by decide) _
       have hxc:=hW3.2 (j+i) oM
       rw [List.take_of_length_le oM,hyV] at hval3
       obtain ⟨e1,e2,e3⟩:=L32.add_end U2 U3 V c' _ j i _ oM hal3 hD3 rfl hc' hval3 b2 hmM
       have hsW:U3.getD (j+i) 0+c'<W64:=by rw [B32_val] at hxi;rw [W64_val];omega
       try refine RUN ?_
       refine EVL.idx0 tO rfl rfl rfl rfl rfl rfl rfl rfl rfl rfl (j+i) ((by rw [hj];exact wi_at hmp oM)) oM ?_
       refine EVL.load1 tO rfl rfl rfl rfl rfl rfl rfl rfl (1) rfl (hxc) ?_
       try refine RUN ?_
       rw [wu_id _ (w32 hxi),wu_add _ _ hsW]
       rw [wu32]
       refine EVL.idx0 tO rfl rfl rfl rfl rfl rfl rfl rfl rfl rfl (j+i) ((by rw [hj];exact wi_at hmp oM)) oM ?_
       refine EVL.setO tO rfl rfl rfl rfl rfl rfl rfl ([(gq,161,q.map n32)]) rfl rfl rfl ((show j+i<cx4.length by have:=hW3.1;omega)) ?_
       try refine RUN ?_
       exact ⟨(U3.set (j+i) ((U3.getD (j+i) 0+c') % B32),cx4.set (j+i) (n32 ((U3.getD (j+i) 0+c') % B32))),⟨rfl,trivial⟩,sB,trivial,trivial,rfl,hG7,hW3.set _ _ oM,Alike_trans e1 a1,e2,e3⟩
    ·rintro ⟨U',cx'⟩ G7 ⟨hG7,hW',hal',hD',hm'⟩
     dsimp only at hW' hal' hD' hm'
     have hqB:val B32 (L32.mid U j (k+1)) / V<B32:=Nat.lt_of_le_of_lt hgq.1 hgB
     have hfin:=hnext U' hal' hD' hm'
     generalize val B32 (L32.mid U j (k+1)) / V=qd at *
     try refine RUN ?_
     rw [wu32,Nat.mod_eq_of_lt hqB]
     refine EVL.idx0 tO rfl rfl rfl rfl rfl rfl rfl rfl rfl rfl (j) (oM) oM ?_
     refine EVL.set1 tO rfl rfl rfl rfl rfl rfl rfl rfl rfl rfl ((by rw [List.length_map];omega)) ?_
     try refine RUN ?_
     refine ⟨(j,U',q.set j qd,cx'),⟨?_,trivial⟩,sB,trivial,trivial,?_,⟨by dsimp only;omega,by dsimp only;rw [hal'.1];exact hUl,by dsimp only;rw [List.length_set];exact hql,hfin,hW'⟩,((hG4.trans hG5).trans hG6).trans hG7,by dsimp only;omega⟩
     ·rw [hj,wi_dec1 hmp (by omega)];rfl
     ·dsimp only;rw [List.map_set]
theorem wi_b7 (b:Nat) (h:b≤4000000000):IntKind.i64.wrap ((IntKind.i64.wrap ((b:Int)+7)).tdiv 8)=(((b+7) / 8:Nat):Int):=by
 rw [show IntKind.i64.wrap ((b:Int)+7)=((b+7:Nat):Int) by rw [IntKind.wrap_i64];omega]
 exact wi_quo (b+7) 8 oM
theorem wi_b3 (b:Nat) (h:b≤4000000000):IntKind.i64.wrap ((IntKind.i64.wrap ((b:Int)+3)).tdiv 4)=(((b+3) / 4:Nat):Int):=by
 rw [show IntKind.i64.wrap ((b:Int)+3)=((b+3:Nat):Int) by rw [IntKind.wrap_i64];omega]
 exact wi_quo (b+3) 4 oM
theorem refDivL_pc {u v:Value} {H:Hp} {a b:Nat} {la lb:List Nat} (hu:SlN n32 H u la) (hv:SlN n32 H v lb) (hla:la.length≤50000000) (hlb:lb.length≤50000000) (hna:Norm B32 la) (hnb:Norm B32 lb) (hva:val B32 la=a) (hvb:val B32 lb=b) (h0:b≠0) :
  PC prog 180 #[u,v] H fun r H'=>∃ s t,r=.tuple #[s,t]∧SlN n32 H' s (dig B32 (a / b))∧SlN n32 H' t (dig B32 (a % b)):=by
 by_cases hab:a<b
 ·have hcmp:=refCmpL_pc hu hv hna hnb oM
  rw [hva,hvb,ordN_lt hab] at hcmp
  rw [Nat.div_eq_of_lt hab,Nat.mod_eq_of_lt hab,dig_zero,← hva,dig_of B32_two hna]
  refine BD func180 ntmps180 ?_
  repeat (first | refine RUN ?_ | refine CV (hcmp) ?_ | refine CE (hcmp) ?_)
  exact ⟨_,_,rfl,nil_sl _ _,hu⟩
 ·by_cases h2:2≤lb.length
  ·exact refDiv_big hu hv hla hlb hna hnb hva hvb oM h2
  ·have h1:lb.length=1:=by
    rcases Nat.eq_zero_or_pos lb.length with e | e
    ·rw [List.length_eq_zero_iff.1 e] at hvb;exact absurd hvb.symm h0
    ·omega
   obtain ⟨b0,rfl⟩:=List.length_eq_one_iff.1 h1
   have hb0:b0=b:=by rw [← hvb];simp [val]
   subst hb0
   have hbB:b0<B32:=hnb.1 b0 (by simp)
   have hcmp:=refCmpL_pc hu hv hna hnb oM
   rw [hva,hvb] at hcmp
   have ho:decide (ordN a b0<0)=false:=by unfold ordN;rw [if_neg hab];split <;> rfl
   generalize ordN a b0=oab at *
   have hone:=refOne_pc hu hna.1 oM b0 (Nat.pos_of_ne_zero h0) hbB
   rw [hva] at hone
   obtain ⟨ab,cb,rfl⟩:=SlC.val hv
   refine BD func180 ntmps180 ?_
   repeat (first | refine RUN ?_ | refine CV (hcmp) ?_ | refine CE (hcmp) ?_)
   rw [ho]
   try refine RUN ?_
   refine EVL.idxR tO rfl rfl rfl rfl rfl rfl rfl rfl rfl rfl (hv) (0) (rfl) (Nat.zero_lt_one) (rfl) ?_
   try refine RUN ?_
   refine EVL.call rfl rfl rfl rfl rfl (hone) ?_
   rintro r G1 ⟨s,rfl,hs⟩ hG1
   try refine RUN ?_
   have hm:a % b0<W64:=w32 (Nat.lt_trans (Nat.mod_lt _ (Nat.pos_of_ne_zero h0)) hbB)
   rw [wu_id _ hm]
   refine EVL.call rfl rfl rfl rfl rfl (refNatOf_pc (a % b0) hm G1) ?_
   rintro t G2 ht hG2
   try refine RUN ?_
   exact ⟨s,t,rfl,hs.mono hG2,ht⟩
abbrev RN (H:Hp) (v:Value) (n:Nat):Prop:=SlN n32 H v (dig B32 n)
def rsm (n:Nat):Prop:=bl n≤800000000
theorem dig_len_bl {n k:Nat} (h:bl n≤32*k):(dig B32 n).length≤k:=by
 apply dig_len_le B32_two
 rw [B32_pow,← Nat.pow_mul]
 exact bl_lt_iff.1 h
theorem rsm.len {n:Nat} (h:rsm n):(dig B32 n).length≤25000000:=dig_len_bl h
theorem rsm.le {n m:Nat} (h:rsm n) (hm:m≤n):rsm m:=Nat.le_trans (bl_mono hm) h
theorem refDiv_pc {u v:Value} {H:Hp} {a b:Nat} (hu:RN H u a) (hv:RN H v b) (ha:rsm a) (hb:rsm b) (h0:b≠0) :
  PC prog 180 #[u,v] H fun r H'=>∃ s t,r=.tuple #[s,t]∧RN H' s (a / b)∧RN H' t (a % b) :=
 refDivL_pc hu hv (Nat.le_trans ha.len oM) (Nat.le_trans hb.len oM) (dig_norm B32_two a) (dig_norm B32_two b) (dig_val B32_two a) (dig_val B32_two b) h0
theorem refGcd_pc {u v:Value} {H:Hp} {a b:Nat} (hu:RN H u a) (hv:RN H v b) (ha:rsm a) (hb:rsm b) :
  PC prog 179 #[u,v] H fun r H'=>RN H' r (Nat.gcd a b):=by
 refine BD func179 ntmps179 ?_
 try refine RUN ?_
 refine EV.loopK (ι:=Nat × Nat × Value × Value) [] [] (fun q=>[(0,.v q.2.2.1),(1,.v q.2.2.2)]) (fun _=>[]) (fun _=>[]) (fun q G=>RN G q.2.2.1 q.1∧RN G q.2.2.2 q.2.1∧rsm q.1∧rsm q.2.1∧Nat.gcd q.1 q.2.1=Nat.gcd a b) (fun q=>q.2.1) ((a,b,u,v)) rfl rfl ⟨rfl,rfl,trivial⟩ trivial rfl (fun _=>rfl) (⟨hu,hv,ha,hb,rfl⟩) ?_
 rintro ⟨x,y,vx,vy⟩ G1 hG1 ⟨hx,hy,hxs,hys,hg⟩
 dsimp only at hx hy hxs hys hg
 obtain ⟨ay,cy,rfl⟩:=SlC.val hy
 have hl:(dig B32 y).length=0→y=0:=dig_len_zero B32_two
 by_cases h0:y=0
 ·subst h0
  rw [dig_zero] at hy
  rw [dig_zero,Nat.gcd_zero_right] at *
  subst hg
  try refine RUN ?_
  exact hx
 ·have hdiv:=refDiv_pc hx hy hxs hys h0
  have hmod:Nat.gcd y (x % y)=Nat.gcd a b:=by rw [← hg,Nat.gcd_comm y,← Nat.gcd_rec,Nat.gcd_comm]
  have hlt:=Nat.mod_lt x (Nat.pos_of_ne_zero h0)
  generalize hn:(dig B32 y).length=n at *
  have hn0:n≠0:=fun e=>h0 (hl e)
  try refine RUN ?_
  rw [show decide ((n:Int)>0)=true by simp;omega]
  try refine RUN ?_
  refine EVL.call rfl rfl rfl rfl rfl (hdiv) ?_
  rintro r G2 ⟨s,t,rfl,hs,ht⟩ hG2
  try refine RUN ?_
  exact ⟨(y,x % y,_,t),⟨rfl,rfl,trivial⟩,trivial,trivial,trivial,rfl,⟨hy.mono hG2,ht,hys,hys.le (Nat.le_of_lt hlt),hmod⟩,hG2,hlt⟩
theorem r4 (i:Nat):IntKind.u64.wrap (IntKind.i64.wrap (8*(i:Int).tmod 4))=((8*(i % 4):Nat):Int):=by
 rw [wrapU64,IntKind.wrap_i64,Int.tmod_eq_emod_of_nonneg (by omega)];omega
theorem u8_shr (x p:Nat):IntKind.u8.wrap ((x:Int).fdiv (2 ^ p))=((x / 2 ^ p % 256:Nat):Int):=by rw [wu_shr,wrapU8];omega
theorem refBytes_pc {v:Value} {H:Hp} {n:Nat} (h:RN H v n) (hn:rsm n):PC prog 189 #[v] H fun r H'=>SlN n8 H' r (octs n):=by
 have hN:(dig 256 n).length=(bl n+7) / 8:=by have:=dig_len_bits 8 n oM;rw [show (2:Nat) ^ 8=256 by decide] at this;rw [this];omega
 have hL:(dig B32 n).length=(bl n+31) / 32:=by have:=dig_len_bits 32 n oM;rw [← B32_pow] at this;rw [this];omega
 have hD:=digB_dig n
 have hbits:=refBits_pc h (dig_norm B32_two n) (Nat.le_trans hn.len oM)
 rw [dig_val B32_two] at hbits
 have hsub:=fun i=>val_subdigit (C:=256) (k:=4) (by decide) (by decide) (l:=dig B32 n) (by rw [← B32_256];exact hD) i
 rw [← B32_256,dig_val B32_two] at hsub
 have hlt32:=fun i=>hD.getD (by decide) i
 have hmap:=fun i=>map_at (enc:=n32) (l:=dig B32 n) (i:=i)
 have hoct:=octs_of n ((bl n+7) / 8) hN.symm
 have hb8:bl n≤800000000:=hn
 unfold RN at h
 obtain ⟨a,cap,rfl⟩:=SlC.val h
 generalize hDe:dig B32 n=D at *
 generalize bl n=b at *
 generalize hNe:(b+7) / 8=N at *
 refine BD func189 ntmps189 ?_
 repeat (first | refine RUN ?_ | refine CV (hbits) ?_ | refine CE (hbits) ?_)
 rw [wi_b7 b oM,hNe]
 try refine RUN ?_
 refine EVL.make tO rfl rfl rfl rfl rfl rfl rfl rfl rfl (N) (rfl) oM (by rfl) (by rfl) fun g=>?_
 try refine RUN ?_
 have e0:(List.replicate N (Tryz.te5.zero)).flatten=(List.replicate N 0).map n8:=by
  rw [List.map_replicate,show (Tryz.te5.zero)=[n8 0] from rfl];simp
 rw [e0]
 refine EV.loopK (ι:=Nat × List Nat) [0,3,4] [] (fun q=>[(5,.v (.int .i64 (q.1:Int)))]) (fun _=>[]) (fun q=>[(g,5,q.2.map n8)]) (fun q G=>q.1≤N∧q.2.length=N∧(∀ j,j<q.1→q.2.getD (N-1-j) 0=n / 256 ^ j % 256)) (fun q=>N-q.1) ((0,List.replicate N 0)) rfl rfl ⟨rfl,trivial⟩ trivial rfl (fun _=>rfl) (⟨Nat.zero_le _,by simp,fun j hj=>absurd hj (Nat.not_lt_zero _)⟩) ?_
 rintro ⟨i,cur⟩ G1 hG1 ⟨hi,hlen,hcs⟩
 dsimp only at hi hlen hcs
 try refine RUN ?_
 refine EV.cond rfl (fun hlt=>?_) (fun hlt=>?_)
 ·simp only [nN] at hlt
  have hil:i / 4<D.length:=by omega
  try refine RUN ?_
  refine EVL.idxR tO rfl rfl rfl rfl rfl rfl rfl rfl rfl rfl (h.mono hG1) (i / 4) (wi_quo i 4 oM) (hil) (hmap _ hil) ?_
  try refine RUN ?_
  refine EVL.shrI rfl rfl rfl rfl rfl rfl (r4 i) ((show 8*(i % 4)≤32 by omega)) ?_
  try refine RUN ?_
  rw [u8_shr,Nat.pow_mul,show (2:Nat) ^ 8=256 by decide,hsub i]
  refine EVL.idx0 tO rfl rfl rfl rfl rfl rfl rfl rfl rfl rfl (N-1-i) (back N i hlt oM) oM ?_
  refine EVL.set1 tO rfl rfl rfl rfl rfl rfl rfl rfl rfl rfl ((by rw [List.length_map];dsimp only;omega)) ?_
  try refine RUN ?_
  refine ⟨(i+1,cur.set (N-1-i) (n / 256 ^ i % 256)),⟨?_,trivial⟩,sB,trivial,trivial,?_,⟨by dsimp only;omega,by dsimp only;rw [List.length_set];exact hlen,fun j hj=>?_⟩,Hp.Le.refl _,by dsimp only;omega⟩
  ·rw [wi_inc i (by omega)];rfl
  ·dsimp only;rw [List.map_set]
  ·dsimp only at hj ⊢
   by_cases e:j=i
   ·subst e
    rw [getD_set_eq _ _ _ (by omega)]
   ·rw [getD_set_ne _ _ _ _ (by omega)]
    exact hcs j oM
 ·simp only [nN] at hlt
  obtain rfl:i=N:=by omega
  have ho:=hoct cur hlen hcs
  subst ho
  (first | refine EVL.publish [] [] rfl fun G2 hG2 hg=>?_ | refine EV.publish [] [] rfl fun G2 hG2 hg=>?_)
  try refine RUN ?_
  exact sl_new hg hlen
theorem pk_low0 {K B:Nat} (hK:0<K) (m k:Nat) (r:List Nat) (h:k+1+r.length≤K*m):∃ e,(pk K B (List.replicate (k+1) 0++r) m).getD (k / K) 0=e*B ^ (k % K+1):=by
 have hkm:k / K<m:=Nat.div_lt_of_lt_mul oM
 have hk2:=Nat.div_add_mod k K
 have hk3:=Nat.mod_lt k hK
 rw [pk_getD _ _ _ _ _ hkm,List.drop_append_of_le_length (by simp;omega),List.drop_replicate,show k+1-K*(k / K)=k % K+1 by omega,List.take_append,List.length_replicate,List.take_of_length_le (by simp;omega),val_append,val_zeros,List.length_replicate,Nat.zero_add]
 exact ⟨_,Nat.mul_comm _ _⟩
theorem or_u32 {e x p:Nat} (hx:x<256) (h:e*2 ^ (p+8)+x*2 ^ p<B32) :
  IntKind.u32.wrap (((BitVec.ofInt IntKind.u32.bits ((e*2 ^ (p+8):Nat):Int) ||| BitVec.ofInt IntKind.u32.bits ((x*2 ^ p:Nat):Int)).toNat:Nat):Int)=((e*2 ^ (p+8)+x*2 ^ p:Nat):Int):=by
 rw [B32_val] at h
 refine (u32_or_nat _ _ oM oM).trans ?_
 rw [Nat.or_comm,or_mul _ _ (p+8) (2 ^ (p+8)) rfl (by rw [Nat.pow_add,Nat.mul_comm];exact Nat.mul_lt_mul_of_pos_left hx (Nat.two_pow_pos p)),Nat.add_comm]
theorem refFrom_pc {v:Value} {l:List Nat} {H:Hp} (h:SlN n8 H v l) (hD:Dig 256 l) (hl:l.length≤200000000):PC prog 184 #[v] H fun r H'=>RN H' r (val 256 l.reverse):=by
 obtain ⟨a,cap,rfl⟩:=SlC.val h
 obtain ⟨m,hm⟩:∃ m,m=(l.length+3) / 4:=⟨_,rfl⟩
 have hpd:=fun i=>pk_dig (K:=4) (B:=256) (by decide) (Dig.append (Dig.zeros (by decide) (l.length-i)) (hD.take i).rev) m
 refine BD func184 ntmps184 ?_
 try refine RUN ?_
 refine EVL.make tO rfl rfl rfl rfl rfl rfl rfl rfl rfl (m) ((by rw [hm];exact wi_b3 _ oM)) oM (by rfl) (by rfl) fun g=>?_
 try refine RUN ?_
 rw [zeros32,← pk_nil 4 256 m]
 have e0:pk 4 256 [] m=pk 4 256 (List.replicate (l.length-0) 0++(l.take 0).reverse) m:=by
  refine list_ext (B:=256 ^ 4) (by decide) (pk_dig (by decide) (Dig.nil _) m) (hpd 0) (by rw [pk_length,pk_length]) ?_
  rw [pk_val 4 256 (by decide) m _ (Nat.zero_le _),pk_val 4 256 (by decide) m _ (by simp;omega)]
  simp [val_zeros,val]
 rw [e0]
 refine EV.loopK (ι:=Nat) [0,3] [] (fun i=>[(4,.v (.int .i64 (i:Int)))]) (fun _=>[]) (fun i=>[(g,161,(pk 4 256 (List.replicate (l.length-i) 0++(l.take i).reverse) m).map n32)]) (fun i G=>i≤l.length) (fun i=>l.length-i) (0) rfl rfl ⟨rfl,trivial⟩ trivial rfl (fun _=>rfl) (Nat.zero_le _) ?_
 rintro i G1 hG1 hi
 try refine RUN ?_
 refine EV.cond rfl (fun hlt=>?_) (fun hlt=>?_)
 ·simp only [nN] at hlt
  obtain ⟨k,hk⟩:∃ k,k=l.length-1-i:=⟨_,rfl⟩
  have hk1:l.length-i=k+1:=by omega
  have hkm:k / 4<m:=by omega
  have hx:l.getD i 0<256:=hD.getD (by decide) i
  have hxs:=map_at (enc:=n8) hlt
  have hrl:(l.take i).reverse.length=i:=by rw [List.length_reverse,List.length_take];omega
  obtain ⟨e,he⟩:=pk_low0 (K:=4) (B:=256) (by decide) m k (l.take i).reverse (by rw [hrl];omega)
  have hfst:=pk_low_first (K:=4) (B:=256) (by decide) (by decide) m k (l.getD i 0) (l.take i).reverse hx (hD.take i).rev (by rw [hrl];omega)
  have hcur:=map_at (enc:=n32) (l:=pk 4 256 (List.replicate (k+1) 0++(l.take i).reverse) m) (i:=k / 4) (by rw [pk_length];exact hkm)
  have hpd1:=hpd (i+1)
  have hnext:List.replicate (l.length-(i+1)) 0++(l.take (i+1)).reverse=List.replicate k 0++l.getD i 0::(l.take i).reverse:=by
   rw [show l.length-(i+1)=k by omega,List.take_succ_eq_append_getElem hlt,List.reverse_append,List.getD_eq_getElem?_getD,List.getElem?_eq_getElem hlt];rfl
  rw [hnext,hfst] at hpd1
  have hsum:(pk 4 256 (List.replicate (k+1) 0++(l.take i).reverse) m).getD (k / 4) 0+l.getD i 0*256 ^ (k % 4)<B32:=by
   have:=hpd1.getD (by decide) (k / 4)
   rw [getD_set_eq _ _ _ (by rw [pk_length];exact hkm)] at this
   rw [B32_256];exact this
  rw [hk1]
  generalize hcu:pk 4 256 (List.replicate (k+1) 0++(l.take i).reverse) m=cur at *
  have hcl:cur.length=m:=by rw [← hcu,pk_length]
  try refine RUN ?_
  rw [back _ _ hlt oM,← hk]
  try refine RUN ?_
  apply EV.drawn 19 kR kR;intro xv yw
  (repeat refine' DD ?_)
  refine' DJ.ofVal (ValOk.idxP1 tO rfl rfl rfl rfl rfl rfl rfl rfl (k / 4) (wi_quo k 4 oM) (hkm)) rfl rfl rfl ?_;rotate_left
  refine' DJ.ofVal (ValOk.load1 tO rfl rfl rfl rfl rfl rfl (0) rfl (hcur)) rfl rfl rfl ?_;rotate_left
  (repeat refine' DD ?_)
  refine' DJ.ofVal (ValOk.idx1 tO rfl rfl rfl rfl rfl rfl rfl rfl (h.mono hG1) (i) (rfl) (hlt) (hxs)) rfl rfl rfl ?_;rotate_left
  (repeat refine' DD ?_)
  refine' DJ.ofVal (ValOk.shl rfl rfl rfl rfl ((by rw [r4];omega))) rfl rfl rfl ?_;rotate_left
  (repeat refine' DD ?_)
  (refine DJ.nil (fun G2 hG2 hF2=>?_);(case hS|hS2=>rfl))
  rw [r4,Int.toNat_natCast]
  rw [show IntKind.u32.wrap ((l.getD i 0:Nat):Int)=((l.getD i 0:Nat):Int) by rw [wu32,Nat.mod_eq_of_lt (Nat.lt_trans hx (by decide))]]
  rw [show min (8*(k % 4)) IntKind.u32.bits=8*(k % 4) from Nat.min_eq_left (by show 8*(k % 4)≤32;omega)]
  have e1:(256:Nat) ^ (k % 4)=2 ^ (8*(k % 4)):=by rw [Nat.pow_mul]
  have e2:(256:Nat) ^ (k % 4+1)=2 ^ (8*(k % 4)+8):=by rw [show 8*(k % 4)+8=8*(k % 4+1) by omega,Nat.pow_mul]
  rw [e1] at hsum hfst
  rw [e2] at he
  have hsh:IntKind.u32.wrap (((l.getD i 0:Nat):Int)*2 ^ (8*(k % 4)))=((l.getD i 0*2 ^ (8*(k % 4)):Nat):Int):=by
   rw [cast_pow2,← Int.natCast_mul,wu32,Nat.mod_eq_of_lt (Nat.lt_of_le_of_lt (Nat.le_add_left _ _) hsum)]
  rw [hsh]
  have hor:=or_u32 (e:=e) hx (by rw [← he];exact hsum)
  rw [← he] at hor
  rw [hor]
  refine EVL.idx0 tO rfl rfl rfl rfl rfl rfl rfl rfl rfl rfl (k / 4) (wi_quo k 4 oM) (hkm) ?_
  refine EVL.set1 tO rfl rfl rfl rfl rfl rfl rfl rfl rfl rfl ((by rw [List.length_map,hcl];exact hkm)) ?_
  try refine RUN ?_
  refine ⟨i+1,⟨?_,trivial⟩,sB,trivial,trivial,?_,by omega,hG2,by omega⟩
  ·rw [wi_inc i (by omega)];rfl
  ·rw [hnext,hfst,List.map_set]
 ·simp only [nN] at hlt
  obtain rfl:i=l.length:=by omega
  try refine RUN ?_
  (first | refine EVL.publish [] [] rfl fun G2 hG2 hg=>?_ | refine EV.publish [] [] rfl fun G2 hG2 hg=>?_)
  have hv:val B32 (pk 4 256 (List.replicate (l.length-l.length) 0++(l.take l.length).reverse) m)=val 256 l.reverse:=by
   rw [B32_256,pk_val 4 256 (by decide) m _ (by simp;omega),Nat.sub_self,List.take_length];rfl
  have ht:=refTrim_dig (sl_new (enc:=n32) hg (pk_length _ _ _ _)) (by rw [B32_256];exact hpd _) (by rw [pk_length];omega) hv
  refine EVL.call rfl rfl rfl rfl rfl (ht) ?_
  rintro r H' hr hle
  try refine RUN ?_
  exact hr
end Go.Proofs.YtbcfidllfimehaaGreatDoor
namespace Go.Proofs.YtbcfidllfimehaaGreatDoor
theorem rat_lowest (n:Int) (d:Nat) (hd:d≠0):(mkRat n d).num=n / (Nat.gcd n.natAbs d:Nat)∧(mkRat n d).den=d / Nat.gcd n.natAbs d:=by
 rw [Rat.num_mkRat,Rat.den_mkRat,if_neg hd,if_neg hd,Nat.gcd_comm]
 exact ⟨rfl,rfl⟩
theorem part_eq (n:Int) (g:Nat) (h:g ∣ n.natAbs):n / (g:Nat)=if n<0 then -((n.natAbs / g:Nat):Int) else ((n.natAbs / g:Nat):Int):=by
 obtain ⟨k,hk⟩:=h
 by_cases h0:g=0
 ·subst h0
  have:n=0:=by omega
  subst this;simp
 ·have hg:0<g:=by omega
  rw [hk,Nat.mul_div_cancel_left k hg]
  by_cases hn:n<0
  ·rw [if_pos hn]
   have:n=g*(-(k:Int)):=by rw [Int.mul_neg,← Int.natCast_mul,← hk];omega
   rw [this,Int.mul_ediv_cancel_left _ (by omega)]
  ·rw [if_neg hn]
   have:n=g*(k:Int):=by rw [← Int.natCast_mul,← hk];omega
   rw [this,Int.mul_ediv_cancel_left _ (by omega)]
def ordR (a b:Rat):Int:=if a<b then -1 else if b<a then 1 else 0
def ordZ (a b:Int):Int:=if a<b then -1 else if b<a then 1 else 0
theorem ordR_eq (a b:Rat):ordR a b=ordZ (a.num*b.den) (b.num*a.den):=by
 unfold ordR ordZ
 simp only [Rat.lt_iff]
end Go.Proofs.YtbcfidllfimehaaGreatDoor
namespace Go.Proofs.YtbcfidllfimehaaGreatDoor
def ht (q:Rat):Nat:=max (bl q.num.natAbs) (bl q.den)
theorem bl_num_le (q:Rat):bl q.num.natAbs≤ht q:=Nat.le_max_left ..
theorem bl_den_le (q:Rat):bl q.den≤ht q:=Nat.le_max_right ..
theorem natAbs_ediv_le (n:Int) (g:Nat):(n / (g:Int)).natAbs≤n.natAbs:=by
 exact Int.natAbs_ediv_le_natAbs n g
theorem ht_mk (n:Int) (d:Nat) (hd:d≠0):ht (mkRat n d)≤max (bl n.natAbs) (bl d):=by
 have:=rat_lowest n d hd
 unfold ht
 rw [this.1,this.2]
 have h1:=bl_mono (natAbs_ediv_le n (Nat.gcd n.natAbs d))
 have h2:=bl_div d (Nat.gcd n.natAbs d)
 omega
theorem ht_zero:ht 0=1:=by
 unfold ht
 have:bl 1=1:=bl_pow2 0
 simp only [Rat.zero_num,Rat.zero_den,Int.natAbs_zero,bl_zero];omega
end Go.Proofs.YtbcfidllfimehaaGreatDoor
namespace Go.Proofs.YtbcfidllfimehaaGreatDoor
open Go.RowKit _root_.Go.Proofs.Tryz
def sg (b:Bool) (n:Nat):Int:=if b then -(n:Int) else n
abbrev intV (z:Int):Value:=.agg #[.bool (decide (z<0)),.int .u64 (lo z.natAbs:Int),.string (moreB z.natAbs)]
abbrev bigI (z:Int):Prop:=big z.natAbs
theorem bl_pos_iff (n:Nat):(0<bl n)↔n≠0:=by
 constructor
 ·intro h e;subst e;rw [bl_zero] at h;omega
 ·exact bl_pos
theorem bl_gt (n:Nat):decide ((bl n:Int)>0)=decide (n≠0):=by rw [decide_eq_decide,← bl_pos_iff];omega
theorem sg_natAbs (b:Bool) (n:Nat):(sg b n).natAbs=n:=by unfold sg;cases b <;> simp
theorem sg_dec (z:Int):sg (decide (z<0)) z.natAbs=z:=by
 unfold sg
 by_cases h:z<0
 ·rw [decide_eq_true h,if_pos rfl];omega
 ·rw [decide_eq_false h,if_neg (by simp)];omega
theorem intV_mk (b:Bool) (n:Nat):intV (sg b n)=.agg #[.bool (b && decide (n≠0)),.int .u64 (lo n:Int),.string (moreB n)]:=by
 unfold sg
 cases b
 ·simp
 ·have:(-(n:Int)).natAbs=n:=by omega
  simp only [if_true,intV,this,Bool.true_and]
  have e:decide (-(n:Int)<0)=decide (n≠0):=by by_cases h:n=0 <;> simp [h];omega
  rw [e]
theorem from_pv (b:Bool) (n:Nat) (hn:big n):PV prog 74 #[.bool b,natV n] (intV (sg b n)):=by
 rw [intV_mk]
 refine PV.of_pc ?_
 refine BD func74 ntmps74 ?_
 cases b
 ·(try refine RUN ?_)
  (apply EV.drawn 8 kR kR;intro xv yw;(repeat (first | refine' DD ?_));refine DJ.nil (fun G hG hF=>?_);(case hS|hS2=>rfl))
  try refine RUN ?_
  rfl
 ·(try refine RUN ?_)
  (apply EV.drawn 8 kR kR;intro xv yw;(repeat (first | refine' DD ?_ | (refine' DC (bits_pv _ hn) (h:=?_);rotate_left)));refine DJ.nil (fun G hG hF=>?_);(case hS|hS2=>rfl))
  try refine RUN ?_
  rw [bl_gt];rfl
theorem wholeAbs_pv (z:Int):PV prog 35 #[intV z] (natV z.natAbs):=by
 refine PV.of_pc ?_
 refine BD func35 ntmps35 ?_
 try refine RUN ?_
 rfl
theorem wholeNeg_pv (z:Int) (hz:bigI z):PV prog 186 #[intV z] (intV (-z)):=by
 have e:sg (!decide (z<0)) z.natAbs = -z:=by
  unfold sg
  by_cases h:z<0
  ·simp only [h,decide_true,Bool.not_true,Bool.false_eq_true,if_false];omega
  ·simp only [h,decide_false,Bool.not_false,if_true];omega
 have hf:=from_pv (!decide (z<0)) z.natAbs hz
 rw [e] at hf
 refine PV.of_pc ?_
 refine BD func186 ntmps186 ?_
 repeat (first | refine RUN ?_ | refine CV (hf) ?_ | refine CE (hf) ?_)
 rfl
theorem wholeSign_pv (z:Int) (hz:bigI z):PV prog 158 #[intV z] (.int .i64 z.sign):=by
 refine PV.of_pc ?_
 refine BD func158 ntmps158 ?_
 try refine RUN ?_
 by_cases h:z<0
 ·rw [decide_eq_true h]
  try refine RUN ?_
  rw [Int.sign_eq_neg_one_of_neg h]
 ·rw [decide_eq_false h]
  repeat (first | refine RUN ?_ | refine CV (bits_pv _ hz) ?_ | refine CE (bits_pv _ hz) ?_)
  rw [bl_gt]
  by_cases h0:z=0
  ·subst h0
   rw [show decide ((0:Int).natAbs≠0)=false from rfl]
   try refine RUN ?_
   rfl
  ·rw [show decide (z.natAbs≠0)=true by simp;omega]
   try refine RUN ?_
   rw [Int.sign_eq_one_of_pos (by omega)]
def RI (H:Hp) (v:Value) (z:Int):Prop:=∃ a l cap,v=.agg #[.bool (decide (z<0)),.slice a l cap]∧RN H (.slice a l cap) z.natAbs
theorem RI.mono {H G:Hp} {v:Value} {z:Int} (h:RI H v z) (k:H.Le G):RI G v z:=by
 obtain ⟨a,l,c,e,hs⟩:=h;exact ⟨a,l,c,e,SlN.mono hs k⟩
theorem RN.mono {H G:Hp} {v:Value} {n:Nat} (h:RN H v n) (k:H.Le G):RN G v n:=SlN.mono h k
theorem sg_lt (b:Bool) (n:Nat):decide (sg b n<0)=(b && decide (n≠0)):=by
 unfold sg;cases b
 ·simp
 ·simp only [if_true,Bool.true_and,decide_eq_decide];omega
theorem RI.of {H:Hp} {s:Value} {b:Bool} {n:Nat} (h:RN H s n):RI H (.agg #[.bool (b && decide (n≠0)),s]) (sg b n):=by
 obtain ⟨a,c,rfl⟩:=SlC.val h
 exact ⟨a,_,c,by rw [sg_lt],by rw [sg_natAbs];exact h⟩
theorem refI_pc {H:Hp} (b:Bool) {s:Value} {n:Nat} (h:RN H s n):PC prog 142 #[.bool b,s] H fun r H'=>RI H' r (sg b n):=by
 have hof:=RI.of (b:=b) h
 have hz:(dig B32 n).length=0↔n=0:=⟨dig_len_zero B32_two,fun e=>by rw [e,dig_zero];rfl⟩
 unfold RN at h
 obtain ⟨a,cap,rfl⟩:=SlC.val h
 generalize (dig B32 n).length=l at *
 have hd:decide ((l:Int)>0)=decide (n≠0):=by rw [decide_eq_decide];omega
 refine BD func142 ntmps142 ?_
 cases b
 ·(try refine RUN ?_)
  exact hof
 ·(try refine RUN ?_)
  rw [hd]
  exact hof
theorem refIntSign_pc {H:Hp} {v:Value} {z:Int} (h:RI H v z):PC prog 182 #[v] H fun r _=>r=.int .i64 z.sign:=by
 obtain ⟨sa,sl,sc,rfl,hs⟩:=h
 have hz:(dig B32 z.natAbs).length=0↔z=0:=⟨fun e=>Int.natAbs_eq_zero.1 (dig_len_zero B32_two e),fun e=>by rw [e,Int.natAbs_zero,dig_zero];rfl⟩
 unfold RN at hs
 obtain ⟨a,cap,e⟩:=SlC.val hs
 cases e
 generalize (dig B32 z.natAbs).length=l at *
 refine BD func182 ntmps182 ?_
 try refine RUN ?_
 by_cases h0:z=0
 ·subst h0
  rw [show ((l:Int) == 0)=true by simp;exact hz.2 rfl]
  try refine RUN ?_
  rfl
 ·rw [show ((l:Int) == 0)=false by simp;exact fun e=>h0 (hz.1 e)]
  by_cases hn:z<0
  ·rw [decide_eq_true hn]
   try refine RUN ?_
   rw [Int.sign_eq_neg_one_of_neg hn]
  ·rw [decide_eq_false hn]
   try refine RUN ?_
   rw [Int.sign_eq_one_of_pos (by omega)]
theorem refIntNeg_pc {H:Hp} {v:Value} {z:Int} (h:RI H v z):PC prog 211 #[v] H fun r H'=>RI H' r (-z):=by
 obtain ⟨sa,sl,sc,rfl,hs⟩:=h
 have hi:=refI_pc (!(decide (z<0))) hs
 rw [show sg (!(decide (z<0))) z.natAbs = -z by unfold sg;by_cases hz:z<0 <;> simp [hz] <;> omega] at hi
 refine BD func211 ntmps211 ?_
 try refine RUN ?_
 refine EVL.call rfl rfl rfl rfl rfl (hi) ?_
 rintro r G ⟨ta,tl,tc,rfl,ht⟩ hG
 try refine RUN ?_
 exact ⟨ta,tl,tc,rfl,ht⟩
theorem refIntOf_pc {H:Hp} (z:Int) (h1:-9223372036854775808≤z) (h2:z<9223372036854775808):PC prog 127 #[.int .i64 z] H fun r H'=>RI H' r z:=by
 refine BD func127 ntmps127 ?_
 try refine RUN ?_
 by_cases hz:z<0
 ·rw [decide_eq_true hz]
  try refine RUN ?_
  rw [show IntKind.u64.wrap (0-IntKind.u64.wrap z)=((z.natAbs:Nat):Int) by rw [wrapU64,wrapU64];omega]
  refine EVL.call rfl rfl rfl rfl rfl (refNatOf_pc z.natAbs (by rw [W64_val];omega) H) ?_
  rintro r G hr hG
  try refine RUN ?_
  refine EVL.call rfl rfl rfl rfl rfl (refI_pc true hr) ?_
  rintro r2 G2 ⟨ta,tl,tc,rfl,ht⟩ hG2
  try refine RUN ?_
  refine ⟨ta,tl,tc,?_,?_⟩
  ·rw [show sg true z.natAbs=z by unfold sg;simp;omega]
  ·rw [show sg true z.natAbs=z by unfold sg;simp;omega] at ht;exact ht
 ·rw [decide_eq_false hz]
  try refine RUN ?_
  rw [show IntKind.u64.wrap z=((z.natAbs:Nat):Int) by rw [wrapU64];omega]
  refine EVL.call rfl rfl rfl rfl rfl (refNatOf_pc z.natAbs (by rw [W64_val];omega) H) ?_
  rintro r G hr hG
  try refine RUN ?_
  refine EVL.call rfl rfl rfl rfl rfl (refI_pc false hr) ?_
  rintro r2 G2 ⟨ta,tl,tc,rfl,ht⟩ hG2
  try refine RUN ?_
  refine ⟨ta,tl,tc,?_,?_⟩
  ·rw [show sg false z.natAbs=z by unfold sg;simp;omega]
  ·rw [show sg false z.natAbs=z by unfold sg;simp;omega] at ht;exact ht
theorem sg_same (a:Int) (n:Nat):sg (decide (a<0)) n=if a<0 then -(n:Int) else n:=by unfold sg;simp
theorem refIntAdd_pc {H:Hp} {u v:Value} {a b:Int} (hu:RI H u a) (hv:RI H v b) (ha:rsm a.natAbs) (hb:rsm b.natAbs):PC prog 210 #[u,v] H fun r H'=>RI H' r (a+b):=by
 obtain ⟨sa,sl,sc,rfl,hs⟩:=hu
 obtain ⟨ta,tl,tc,rfl,ht⟩:=hv
 have la:=ha.len
 have lb:=hb.len
 have hca:∀ G,H.Le G→PC prog 177 #[.slice sa sl sc,.slice ta tl tc] G fun r H'=>RN H' r (a.natAbs+b.natAbs):=fun G hG=>by
  have:=refAddL_pc (SlN.mono hs hG) (SlN.mono ht hG) (digB_dig _) (digB_dig _) oM oM
  rwa [dig_val B32_two,dig_val B32_two] at this
 have hcs:∀ G,H.Le G→b.natAbs≤a.natAbs→PC prog 228 #[.slice sa sl sc,.slice ta tl tc] G fun r H'=>RN H' r (a.natAbs-b.natAbs):=fun G hG hle=>by
  have:=refSubL_pc (SlN.mono hs hG) (SlN.mono ht hG) (digB_dig _) (dig_norm B32_two _) oM oM (by rw [dig_val B32_two,dig_val B32_two];exact hle)
  rwa [dig_val B32_two,dig_val B32_two] at this
 have hcs':∀ G,H.Le G→a.natAbs≤b.natAbs→PC prog 228 #[.slice ta tl tc,.slice sa sl sc] G fun r H'=>RN H' r (b.natAbs-a.natAbs):=fun G hG hle=>by
  have:=refSubL_pc (SlN.mono ht hG) (SlN.mono hs hG) (digB_dig _) (dig_norm B32_two _) oM oM (by rw [dig_val B32_two,dig_val B32_two];exact hle)
  rwa [dig_val B32_two,dig_val B32_two] at this
 have hcmp:=refCmpL_pc hs ht (dig_norm B32_two _) (dig_norm B32_two _) oM
 rw [dig_val B32_two,dig_val B32_two] at hcmp
 have hlt1:a+b=sg (decide (a<0)) (a.natAbs+b.natAbs)∨decide (a<0)≠decide (b<0):=by
  rw [sg_same];by_cases h1:a<0 <;> by_cases h2:b<0 <;> simp [h1,h2] <;> omega
 have hlt2:decide (a<0)≠decide (b<0)→b.natAbs≤a.natAbs→a+b=sg (decide (a<0)) (a.natAbs-b.natAbs):=by
  rw [sg_same];by_cases h1:a<0 <;> by_cases h2:b<0 <;> simp [h1,h2] <;> omega
 have hlt3:decide (a<0)≠decide (b<0)→a.natAbs≤b.natAbs→a+b=sg (decide (b<0)) (b.natAbs-a.natAbs):=by
  rw [sg_same];by_cases h1:a<0 <;> by_cases h2:b<0 <;> simp [h1,h2] <;> omega
 generalize decide (a<0)=na at *
 generalize decide (b<0)=nb at *
 generalize a.natAbs=x at *
 generalize b.natAbs=y at *
 refine BD func210 ntmps210 ?_
 try refine RUN ?_
 refine EVL.eqb rfl rfl rfl rfl rfl rfl kR ?_
 try refine RUN ?_
 by_cases he:na=nb
 ·rw [show (na == nb)=true by simp [he]]
  have hsum:=hlt1.resolve_right (fun h=>h he)
  rw [hsum]
  try refine RUN ?_
  apply EV.drawn 8 kR kR;intro xv yw
  (repeat refine' DD ?_)
  refine' DJ.call rfl rfl rfl rfl rfl (cO func177) (fun G hG hd=>hca G hG) (fun _ _ _ h k=>SlN.mono h k) ?_;rotate_left
  (repeat refine' DD ?_)
  refine' DJ.call rfl rfl rfl rfl rfl (cO func142) (fun G hG hd=>refI_pc na (hd.head kR)) (fun _ _ _ h k=>RI.mono h k) ?_;rotate_left
  (refine DJ.nil (fun G hG hF=>?_);(case hS|hS2=>rfl))
  obtain ⟨⟨ra,rl,rc,hr1,hr2⟩,_⟩:=hF
  rw [hr1]
  try refine RUN ?_
  exact ⟨ra,rl,rc,rfl,hr2⟩
 ·repeat (first | refine RUN ?_ | refine CV (hcmp) ?_ | refine CE (hcmp) ?_)
  rw [show (na == nb)=false by simpa using he]
  repeat (first | refine RUN ?_ | refine CV (hcmp) ?_ | refine CE (hcmp) ?_)
  by_cases hlt:x<y
  ·rw [show decide (ordN x y≥0)=false by rw [ordN_lt hlt];rfl,hlt3 he (by omega)]
   try refine RUN ?_
   apply EV.drawn 8 kR kR;intro xv yw
   (repeat refine' DD ?_)
   refine' DJ.call rfl rfl rfl rfl rfl (cO func228) (fun G hG hd=>hcs' G hG oM) (fun _ _ _ h k=>SlN.mono h k) ?_;rotate_left
   (repeat refine' DD ?_)
   refine' DJ.call rfl rfl rfl rfl rfl (cO func142) (fun G hG hd=>refI_pc nb (hd.head kR)) (fun _ _ _ h k=>RI.mono h k) ?_;rotate_left
   (refine DJ.nil (fun G hG hF=>?_);(case hS|hS2=>rfl))
   obtain ⟨⟨ra,rl,rc,hr1,hr2⟩,_⟩:=hF
   rw [hr1]
   try refine RUN ?_
   exact ⟨ra,rl,rc,rfl,hr2⟩
  ·rw [show decide (ordN x y≥0)=true by unfold ordN;rw [if_neg hlt];split <;> rfl,hlt2 he (by omega)]
   try refine RUN ?_
   apply EV.drawn 8 kR kR;intro xv yw
   (repeat refine' DD ?_)
   refine' DJ.call rfl rfl rfl rfl rfl (cO func228) (fun G hG hd=>hcs G hG oM) (fun _ _ _ h k=>SlN.mono h k) ?_;rotate_left
   (repeat refine' DD ?_)
   refine' DJ.call rfl rfl rfl rfl rfl (cO func142) (fun G hG hd=>refI_pc na (hd.head kR)) (fun _ _ _ h k=>RI.mono h k) ?_;rotate_left
   (refine DJ.nil (fun G hG hF=>?_);(case hS|hS2=>rfl))
   obtain ⟨⟨ra,rl,rc,hr1,hr2⟩,_⟩:=hF
   rw [hr1]
   try refine RUN ?_
   exact ⟨ra,rl,rc,rfl,hr2⟩
theorem sg_mul (a b:Int):sg (!(decide (a<0) == decide (b<0))) (a.natAbs*b.natAbs)=a*b:=by
 rw [← Int.natAbs_mul]
 unfold sg
 by_cases ha:a<0 <;> by_cases hb:b<0
 ·have:=Int.mul_pos_of_neg_of_neg ha hb;simp [ha,hb];omega
 ·have:=Int.mul_nonpos_of_nonpos_of_nonneg (Int.le_of_lt ha) (Int.not_lt.1 hb);simp [ha,hb];omega
 ·have:=Int.mul_nonpos_of_nonneg_of_nonpos (Int.not_lt.1 ha) (Int.le_of_lt hb);simp [ha,hb];omega
 ·have:=Int.mul_nonneg (Int.not_lt.1 ha) (Int.not_lt.1 hb);simp [ha,hb];omega
theorem rsm_neg {a:Int} (h:rsm a.natAbs):rsm (-a).natAbs:=by rwa [Int.natAbs_neg]
theorem refIntSub_pc {H:Hp} {u v:Value} {a b:Int} (hu:RI H u a) (hv:RI H v b) (ha:rsm a.natAbs) (hb:rsm b.natAbs):PC prog 183 #[u,v] H fun r H'=>RI H' r (a-b):=by
 obtain ⟨sa,sl,sc,rfl,hs⟩:=id hu
 obtain ⟨ta,tl,tc,rfl,ht⟩:=id hv
 refine BD func183 ntmps183 ?_
 try refine RUN ?_
 apply EV.drawn 4 kR kR;intro xv yw
 (repeat refine' DD ?_)
 refine' DJ.call rfl rfl rfl rfl rfl (cO func211) (fun G hG hd=>refIntNeg_pc (hv.mono hG)) (fun _ _ _ h k=>RI.mono h k) ?_;rotate_left
 refine' DJ.call rfl rfl rfl rfl rfl (cO func210) (fun G hG hd=>refIntAdd_pc (hu.mono hG) (hd.head kR) ha (rsm_neg hb)) (fun _ _ _ h k=>RI.mono h k) ?_;rotate_left
 (refine DJ.nil (fun G hG hF=>?_);(case hS|hS2=>rfl))
 obtain ⟨⟨ra,rl,rc,hr1,hr2⟩,_⟩:=hF
 rw [hr1]
 try refine RUN ?_
 rw [← Int.sub_eq_add_neg] at *
 exact ⟨ra,rl,rc,rfl,hr2⟩
theorem refMul_pc {H:Hp} {u v:Value} {a b:Nat} (hu:RN H u a) (hv:RN H v b) (ha:rsm a) (hb:rsm b):PC prog 178 #[u,v] H fun r H'=>RN H' r (a*b):=by
 have la:=ha.len
 have lb:=hb.len
 have:=refMulL_pc hu hv (digB_dig _) (digB_dig _) oM oM
 rwa [dig_val B32_two,dig_val B32_two] at this
theorem refIntMul_pc {H:Hp} {u v:Value} {a b:Int} (hu:RI H u a) (hv:RI H v b) (ha:rsm a.natAbs) (hb:rsm b.natAbs):PC prog 145 #[u,v] H fun r H'=>RI H' r (a*b):=by
 obtain ⟨sa,sl,sc,rfl,hs⟩:=id hu
 obtain ⟨ta,tl,tc,rfl,ht⟩:=id hv
 refine BD func145 ntmps145 ?_
 try refine RUN ?_
 apply EV.drawn 11 kR kR;intro xv yw
 (repeat refine' DD ?_)
 refine' DJ.ofVal (ValOk.neb rfl rfl rfl rfl kR) rfl rfl rfl ?_;rotate_left
 (repeat refine' DD ?_)
 refine' DJ.call rfl rfl rfl rfl rfl (cO func178) (fun G hG hd=>refMul_pc (RN.mono hs hG) (RN.mono ht hG) ha hb) (fun _ _ _ h k=>SlN.mono h k) ?_;rotate_left
 refine' DJ.call rfl rfl rfl rfl rfl (cO func142) (fun G hG hd=>refI_pc (!(decide (a<0) == decide (b<0))) (hd.head kR)) (fun _ _ _ h k=>RI.mono h k) ?_;rotate_left
 (refine DJ.nil (fun G hG hF=>?_);(case hS|hS2=>rfl))
 obtain ⟨⟨ra,rl,rc,hr1,hr2⟩,_⟩:=hF
 rw [sg_mul] at hr1 hr2
 rw [hr1]
 try refine RUN ?_
 exact ⟨ra,rl,rc,rfl,hr2⟩
theorem refIntCmp_pc {H:Hp} {u v:Value} {a b:Int} (hu:RI H u a) (hv:RI H v b) (ha:rsm a.natAbs) (hb:rsm b.natAbs):PC prog 144 #[u,v] H fun r _=>r=.int .i64 (ordZ a b):=by
 obtain ⟨sa,sl,sc,rfl,hs⟩:=id hu
 obtain ⟨ta,tl,tc,rfl,ht⟩:=id hv
 refine BD func144 ntmps144 ?_
 try refine RUN ?_
 refine EVL.call rfl rfl rfl rfl rfl (refIntSub_pc hu hv ha hb) ?_
 rintro r G hr hG
 repeat (first | refine RUN ?_ | refine CV (refIntSign_pc hr) ?_ | refine CE (refIntSign_pc hr) ?_)
 congr 1
 unfold ordZ
 rcases Int.lt_trichotomy a b with h | h | h
 ·rw [if_pos h,Int.sign_eq_neg_one_of_neg (by omega)]
 ·rw [if_neg oM,if_neg oM,show a-b=0 by omega];rfl
 ·rw [if_neg oM,if_pos h,Int.sign_eq_one_of_pos (by omega)]
def RQ (H:Hp) (v:Value) (q:Rat):Prop:=∃ a l c a' l' c',v=.agg #[.bool (decide (q.num<0)),.slice a l c,.slice a' l' c']∧RN H (.slice a l c) q.num.natAbs∧RN H (.slice a' l' c') q.den
theorem RQ.mono {H G:Hp} {v:Value} {q:Rat} (h:RQ H v q) (k:H.Le G):RQ G v q:=by
 obtain ⟨a,l,c,a',l',c',e,h1,h2⟩:=h;exact ⟨a,l,c,a',l',c',e,RN.mono h1 k,RN.mono h2 k⟩
def rq (q:Rat):Prop:=ht q≤100000000
theorem rq.num {q:Rat} (h:rq q):rsm q.num.natAbs:=Nat.le_trans (bl_num_le q) (Nat.le_trans h oM)
theorem rq.den {q:Rat} (h:rq q):rsm q.den:=Nat.le_trans (bl_den_le q) (Nat.le_trans h oM)
theorem divInt_mk (n d:Int) (h:d≠0):Rat.divInt n d=mkRat (if d<0 then -n else n) d.natAbs:=by
 cases d with
 | ofNat m =>
  rw [if_neg (show ¬ Int.ofNat m<0 from Int.not_lt.2 (Int.natCast_nonneg m))]
  rfl
 | negSucc m =>
  rw [if_pos (by omega)]
  show Rat.normalize (-n) (m+1) (Nat.succ_ne_zero m)=_
  rw [Rat.normalize_eq_mkRat];rfl
theorem make_eq (n d:Int) (h:d≠0):(Rat.divInt n d).num=sg (!(decide (n<0) == decide (d<0))) (n.natAbs / Nat.gcd n.natAbs d.natAbs)∧(Rat.divInt n d).den=d.natAbs / Nat.gcd n.natAbs d.natAbs:=by
 rw [divInt_mk n d h]
 obtain ⟨h1,h2⟩:=rat_lowest (if d<0 then -n else n) d.natAbs oM
 have e:(if d<0 then -n else n).natAbs=n.natAbs:=by split <;> simp
 rw [e] at h1 h2
 refine ⟨?_,h2⟩
 rw [h1,part_eq _ _ (by rw [e];exact Nat.gcd_dvd_left _ _),e]
 unfold sg
 rcases Int.lt_trichotomy n 0 with hn | hn | hn
 ·by_cases hd:d<0
  ·rw [if_pos hd,if_neg oM,decide_eq_true hn,decide_eq_true hd];rfl
  ·rw [if_neg hd,if_pos hn,decide_eq_true hn,decide_eq_false hd];rfl
 ·subst hn
  by_cases hd:d<0 <;> simp [hd]
 ·by_cases hd:d<0
  ·rw [if_pos hd,if_pos oM,decide_eq_false oM,decide_eq_true hd];rfl
  ·rw [if_neg hd,if_neg oM,decide_eq_false oM,decide_eq_false hd];rfl
theorem refMake_pc {H:Hp} {u v:Value} {n d:Int} (hu:RI H u n) (hv:RI H v d) (hn:rsm n.natAbs) (hd:rsm d.natAbs) (h0:d≠0):PC prog 141 #[u,v] H fun r H'=>RQ H' r (Rat.divInt n d):=by
 obtain ⟨sa,sl,sc,rfl,hs⟩:=id hu
 obtain ⟨ta,tl,tc,rfl,ht⟩:=id hv
 obtain ⟨e1,e2⟩:=make_eq n d h0
 have hg:Nat.gcd n.natAbs d.natAbs≠0:=fun e=>h0 (by have:=Nat.eq_zero_of_gcd_eq_zero_right e;omega)
 have hgs:rsm (Nat.gcd n.natAbs d.natAbs):=hd.le (Nat.gcd_le_right _ oM)
 refine BD func141 ntmps141 ?_
 try refine RUN ?_
 refine EVL.call rfl rfl rfl rfl rfl (refGcd_pc hs ht hn hd) ?_
 rintro g G1 hg1 hG1
 generalize Nat.gcd n.natAbs d.natAbs=gg at *
 try refine RUN ?_
 refine EVL.call rfl rfl rfl rfl rfl (refDiv_pc (RN.mono hs hG1) hg1 hn hgs hg) ?_
 rintro r G2 ⟨x,y,rfl,hx,hy⟩ hG2
 try refine RUN ?_
 refine EVL.call rfl rfl rfl rfl rfl (refDiv_pc (RN.mono ht (hG1.trans hG2)) (RN.mono hg1 hG2) hd hgs hg) ?_
 rintro r G3 ⟨x',y',rfl,hx',hy'⟩ hG3
 try refine RUN ?_
 refine EVL.neb rfl rfl rfl rfl rfl rfl kR ?_
 try refine RUN ?_
 refine EVL.call rfl rfl rfl rfl rfl (refI_pc (!(decide (n<0) == decide (d<0))) (RN.mono hx hG3)) ?_
 rintro r G4 ⟨ra,rl,rc,rfl,hr⟩ hG4
 obtain ⟨xa,xc,rfl⟩:=SlC.val hx'
 try refine RUN ?_
 rw [← e1] at *
 rw [← e2] at *
 exact ⟨ra,rl,rc,xa,_,xc,rfl,hr,RN.mono hx' hG4⟩
theorem refOf_pc {H:Hp} (z:Int) (h1:-9223372036854775808≤z) (h2:z<9223372036854775808):PC prog 86 #[.int .i64 z] H fun r H'=>RQ H' r (z:Rat):=by
 refine BD func86 ntmps86 ?_
 try refine RUN ?_
 refine EVL.call rfl rfl rfl rfl rfl (refIntOf_pc z h1 h2) ?_
 rintro r G ⟨ra,rl,rc,rfl,hr⟩ hG
 try refine RUN ?_
 refine EVL.call rfl rfl rfl rfl rfl (refNatOf_pc 1 (by decide) G) ?_
 rintro s G2 hs hG2
 obtain ⟨xa,xc,rfl⟩:=SlC.val hs
 try refine RUN ?_
 exact ⟨ra,rl,rc,xa,_,xc,rfl,RN.mono hr hG2,hs⟩
theorem refOver_pc {H:Hp} (n d:Int) (h1:-9223372036854775808≤n) (h2:n<9223372036854775808) (h3:-9223372036854775808≤d) (h4:d<9223372036854775808) (h0:d≠0):PC prog 129 #[.int .i64 n,.int .i64 d] H fun r H'=>RQ H' r (Rat.divInt n d):=by
 have hb:∀ z:Int,-9223372036854775808≤z→z<9223372036854775808→rsm z.natAbs:=fun z h1 h2=>Nat.le_trans (bl_le (k:=64) oM) oM
 refine BD func129 ntmps129 ?_
 try refine RUN ?_
 refine EVL.call rfl rfl rfl rfl rfl (refIntOf_pc n h1 h2) ?_
 rintro r G hr hG
 try refine RUN ?_
 refine EVL.call rfl rfl rfl rfl rfl (refIntOf_pc d h3 h4) ?_
 rintro s G2 hs hG2
 try refine RUN ?_
 refine EVL.call rfl rfl rfl rfl rfl (refMake_pc (hr.mono hG2) hs (hb n h1 h2) (hb d h3 h4) h0) ?_
 rintro t G3 ⟨ra,rl,rc,xa,xl,xc,rfl,hn,hd⟩ hG3
 try refine RUN ?_
 exact ⟨ra,rl,rc,xa,xl,xc,rfl,hn,hd⟩
theorem refDen_pc {H:Hp} {v:Value} {q:Rat} (h:RQ H v q):PC prog 146 #[v] H fun r H'=>RI H' r (q.den:Int):=by
 obtain ⟨ra,rl,rc,xa,xl,xc,rfl,hn,hd⟩:=h
 have hi:=refI_pc false hd
 rw [show sg false q.den=(q.den:Int) from rfl] at hi
 refine BD func146 ntmps146 ?_
 try refine RUN ?_
 refine EVL.call rfl rfl rfl rfl rfl (hi) ?_
 rintro r G ⟨ra,rl,rc,rfl,hr⟩ hG
 try refine RUN ?_
 exact ⟨ra,rl,rc,rfl,hr⟩
theorem RQ.rnum {H:Hp} {a:Option Addr} {l c:Nat} {q:Rat} (h:RN H (.slice a l c) q.num.natAbs):RI H (.agg #[.bool (decide (q.num<0)),.slice a l c]) q.num:=⟨a,l,c,rfl,h⟩
theorem rq_mul {a b:Rat} (ha:rq a) (hb:rq b):rsm (a.num*(b.den:Int)).natAbs:=by
 rw [Int.natAbs_mul,Int.natAbs_natCast]
 refine Nat.le_trans (bl_mul _ _) ?_
 have:=bl_num_le a;have:=bl_den_le b
 unfold rq at *;omega
theorem refCmp_pc {H:Hp} {u v:Value} {a b:Rat} (hu:RQ H u a) (hv:RQ H v b) (ha:rq a) (hb:rq b):PC prog 98 #[u,v] H fun r _=>r=.int .i64 (ordR a b):=by
 obtain ⟨sa,sl,sc,ta,tl,tc,rfl,hs,ht⟩:=id hu
 obtain ⟨sa',sl',sc',ta',tl',tc',rfl,hs',ht'⟩:=id hv
 refine BD func98 ntmps98 ?_
 try refine RUN ?_
 apply EV.drawn 11 kR kR;intro xv yw
 (repeat refine' DD ?_)
 refine' DJ.call rfl rfl rfl rfl rfl (cO func146) (fun G hG hd=>refDen_pc (hv.mono hG)) (fun _ _ _ h k=>RI.mono h k) ?_;rotate_left
 refine' DJ.call rfl rfl rfl rfl rfl (cO func145) (fun G hG hd=>refIntMul_pc (RQ.rnum (RN.mono hs hG)) (hd.head kR) ha.num hb.den) (fun _ _ _ h k=>RI.mono h k) ?_;rotate_left
 (repeat refine' DD ?_)
 refine' DJ.call rfl rfl rfl rfl rfl (cO func146) (fun G hG hd=>refDen_pc (hu.mono hG)) (fun _ _ _ h k=>RI.mono h k) ?_;rotate_left
 refine' DJ.call rfl rfl rfl rfl rfl (cO func145) (fun G hG hd=>refIntMul_pc (RQ.rnum (RN.mono hs' hG)) (hd.head kR) hb.num ha.den) (fun _ _ _ h k=>RI.mono h k) ?_;rotate_left
 refine' DJ.callS rfl rfl rfl rfl rfl (cO func144) (fun G hG hd=>refIntCmp_pc (hd.tail.tail.head kR) (hd.head kR) (rq_mul ha hb) (rq_mul hb ha)) ?_;rotate_left
 (refine DJ.nil (fun G hG hF=>?_);(case hS|hS2=>rfl))
 try refine RUN ?_
 rw [ordR_eq]
def Wn (cs:List Value) (off:Nat) (l:List Nat):Prop:=off+l.length≤cs.length∧∀ j,j<l.length→cs[off+j]?=some (n64 (l.getD j 0))
theorem Wn.of (l:List Nat):Wn (l.map n64) 0 l:=⟨by simp,fun j hj=>by rw [Nat.zero_add];exact map_at hj⟩
theorem Wn.take {cs:List Value} {off:Nat} {l:List Nat} (h:Wn cs off l) (k:Nat):Wn cs off (l.take k):=by
 refine ⟨by have:=h.1;rw [List.length_take];omega,fun j hj=>?_⟩
 rw [List.length_take] at hj
 rw [h.2 j oM,getD_take,if_pos (by omega)]
theorem Wn.drop {cs:List Value} {off:Nat} {l:List Nat} (h:Wn cs off l) (k:Nat) (hk:k≤l.length):Wn cs (off+k) (l.drop k):=by
 refine ⟨by have:=h.1;rw [List.length_drop];omega,fun j hj=>?_⟩
 rw [List.length_drop] at hj
 rw [Nat.add_assoc,h.2 (k+j) oM,getD_drop]
theorem Wn.set {cs:List Value} {off:Nat} {l:List Nat} (h:Wn cs off l) (k x:Nat) (hk:k<l.length):Wn (cs.set (off+k) (n64 x)) off (l.set k x):=by
 refine ⟨by rw [List.length_set,List.length_set];exact h.1,fun j hj=>?_⟩
 rw [List.length_set] at hj
 by_cases e:k=j
 ·subst e
  rw [List.getElem?_set_self (by have:=h.1;omega),getD_set_eq _ _ _ hk]
 ·rw [List.getElem?_set_ne oM,getD_set_ne _ _ _ _ (Ne.symm e)];exact h.2 j hj
theorem slc_pre (b off n cap:Nat) (hc:cap≠0):Value.slice (if cap=0 then some ⟨b,off,none⟩ else (some (⟨b,off,none⟩:Addr)).map (·.add (0*1))) (n-0) (cap-0)=.slice (some ⟨b,off,none⟩) n cap:=by
 rw [if_neg hc];simp [Addr.add_mid]
theorem slc_suf (b off k m cap:Nat) (hc:k<cap):Value.slice (if cap=k then some ⟨b,off,none⟩ else (some (⟨b,off,none⟩:Addr)).map (·.add (k*1))) (m-k) (cap-k)=.slice (some ⟨b,off+k,none⟩) (m-k) (cap-k):=by
 rw [if_neg (by omega)];simp [Addr.add_mid]
theorem wtrim_pw {H:Hp} {b off cap:Nat} {T:TypeId} {cs:List Value} {l:List Nat} (hw:Wn cs off l) (hc:l.length≤cap) (hl:l.length≤1000000000) :
  PW prog 248 #[.slice (some ⟨b,off,none⟩) l.length cap] H [(b,T,cs)] fun v ow _=>ow=[(b,T,cs)]∧v=.slice (some ⟨b,off,none⟩) (trimL l).length cap:=by
 refine PW.body tO func248 rfl kR ntmps248 rfl rfl ?_
 try refine RUN ?_
 refine EV.loop (ι:=Nat) (fun n=>[(0,.v (.slice (some ⟨b,off,none⟩) n cap))]) (fun _=>[]) (fun _=>[(b,T,cs)])
  (fun n _=>n≤l.length∧trimL (l.take n)=trimL l) (fun n=>n) l.length ⟨rfl,trivial⟩ trivial rfl (fun _=>rfl) ⟨Nat.le_refl _,by rw [List.take_length]⟩ ?_
 rintro n G hG ⟨hn,ht⟩
 have fin:trimL (l.take n)=l.take n→(trimL l).length=n:=fun e=>by rw [← ht,e,List.length_take];omega
 try refine RUN ?_
 by_cases h0:n=0
 ·subst h0
  rw [show decide (((0:Nat):Int)>0)=false from rfl]
  try refine RUN ?_
  rw [fin (by simp [trimL])]
  exact ⟨rfl,rfl⟩
 ·rw [show decide ((n:Int)>0)=true by simp;omega]
  have hsnoc:l.take n=l.take (n-1)++[l.getD (n-1) 0]:=by
   have:=List.take_succ_eq_append_getElem (show n-1<l.length by omega)
   rw [show n-1+1=n by omega] at this
   rw [this,List.getD_eq_getElem?_getD,List.getElem?_eq_getElem (show n-1<l.length by omega)];rfl
  try refine RUN ?_
  refine EVL.asI (((n-1:Nat):Int)) (wi_dec n oM oM) ?_
  refine EVL.idxO tO rfl rfl rfl rfl rfl rfl rfl rfl rfl rfl (n-1) (rfl) oM ?_
  refine EVL.load1 tO rfl rfl rfl rfl rfl rfl rfl rfl (0) rfl (hw.2 (n-1) oM) ?_
  try refine RUN ?_
  by_cases hz:l.getD (n-1) 0=0
  ·rw [hz,show (((0:Nat):Int) == 0)=true from rfl]
   try refine RUN ?_
   refine EVL.asI (((n-1:Nat):Int)) (wi_dec n oM oM) ?_
   refine EVL.slc tO rfl rfl rfl rfl rfl rfl rfl rfl 0 (n-1) (.inl ⟨rfl,rfl⟩) (.inr ⟨_,IntKind.i64,rfl,rfl⟩) (Nat.zero_le _) oM oM ?_
   refine EVL.as (congrArg SV.v (slc_pre b off (n-1) cap oM)) ?_
   try refine RUN ?_
   exact ⟨n-1,⟨rfl,trivial⟩,trivial,rfl,⟨by omega,by rw [← ht,hsnoc,hz,trimL_snoc_zero]⟩,Hp.Le.refl _,by omega⟩
  ·rw [show (((l.getD (n-1) 0:Nat):Int) == 0)=false by simpa using hz]
   try refine RUN ?_
   rw [fin (by rw [hsnoc,trimL_snoc_ne _ _ hz])]
   exact ⟨rfl,rfl⟩
theorem wcompare_pw {H:Hp} {b off cap b' off' cap':Nat} {T T':TypeId} {cs cs':List Value} {l m:List Nat} (hw:Wn cs off l) (hw':Wn cs' off' m) (hl:Norm W64 l) (hm:Norm W64 m) (hll:l.length≤1000000000) :
  PW prog 239 #[.slice (some ⟨b,off,none⟩) l.length cap,.slice (some ⟨b',off',none⟩) m.length cap'] H [(b,T,cs),(b',T',cs')] fun v ow _=>ow=[(b,T,cs),(b',T',cs')]∧v=.int .i64 (ordN (val W64 l) (val W64 m)):=by
 refine PW.body tO func239 rfl kR ntmps239 rfl rfl ?_
 try refine RUN ?_
 by_cases he:l.length=m.length
 ·rw [show (((l.length:Nat):Int) != (m.length:Int))=false by simp [he]]
  try refine RUN ?_
  refine EV.loop (ι:=Nat) (fun n=>[(0,.v (.slice (some ⟨b,off,none⟩) l.length cap)),(1,.v (.slice (some ⟨b',off',none⟩) m.length cap')),(5,.v (.int .i64 ((n:Int)-1)))]) (fun _=>[]) (fun _=>[(b,T,cs),(b',T',cs')])
   (fun n _=>n≤l.length∧l.drop n=m.drop n) (fun n=>n) l.length ⟨rfl,rfl,?_,trivial⟩ trivial rfl (fun _=>rfl) ⟨Nat.le_refl _,by rw [List.drop_of_length_le (Nat.le_refl _),List.drop_of_length_le (by omega)]⟩ ?_
  ·rw [show IntKind.i64.wrap ((l.length:Int)-1)=(l.length:Int)-1 by rw [IntKind.wrap_i64];omega];rfl
  rintro n G hG ⟨hn,hd⟩
  try refine RUN ?_
  by_cases h0:n=0
  ·subst h0
   rw [show decide ((((0:Nat):Int)-1)≥0)=false from rfl]
   try refine RUN ?_
   rw [List.drop_zero,List.drop_zero] at hd
   subst hd
   exact ⟨rfl,by rw [ordN_eq rfl]⟩
  ·rw [show decide (((n:Int)-1)≥0)=true by simp;omega]
   have hx:=hw.2 (n-1) oM
   have hy:=hw'.2 (n-1) oM
   have hvo:=val_ord (l:=l) (m:=m) (n-1) hl.1 hm.1 he oM (by rw [show n-1+1=n by omega];exact hd)
   have hdx:=val_drop 0 l (n-1)
   have hdl:l.drop (n-1)=l.getD (n-1) 0::l.drop n:=by
    rw [List.drop_eq_getElem_cons (show n-1<l.length by omega),List.getD_eq_getElem?_getD,List.getElem?_eq_getElem (show n-1<l.length by omega),show n-1+1=n by omega];rfl
   have hdm:m.drop (n-1)=m.getD (n-1) 0::m.drop n:=by
    rw [List.drop_eq_getElem_cons (show n-1<m.length by omega),List.getD_eq_getElem?_getD,List.getElem?_eq_getElem (show n-1<m.length by omega),show n-1+1=n by omega];rfl
   generalize l.getD (n-1) 0=u at *
   generalize m.getD (n-1) 0=w at *
   try refine RUN ?_
   apply EV.drawn 9 kR kR;intro xv yw
   (repeat refine' DD ?_)
   refine' DJ.ofVal (ValOk.idxO tO rfl rfl rfl rfl rfl rfl rfl rfl (n-1) oM oM) rfl rfl rfl ?_;rotate_left
   refine' DJ.ofVal (ValOk.load1 tO rfl rfl rfl rfl rfl rfl (0) rfl (hx)) rfl rfl rfl ?_;rotate_left
   (repeat refine' DD ?_)
   refine' DJ.ofVal (ValOk.idxO tO rfl rfl rfl rfl rfl rfl rfl rfl (n-1) oM oM) rfl rfl rfl ?_;rotate_left
   refine' DJ.ofVal (ValOk.load1 tO rfl rfl rfl rfl rfl rfl (1) rfl (hy)) rfl rfl rfl ?_;rotate_left
   (repeat refine' DD ?_)
   (refine DJ.nil (fun G hG hF=>?_);(case hS|hS2=>rfl))
   try refine RUN ?_
   by_cases hxy:u=w
   ·subst hxy
    rw [show (((u:Nat):Int) != (u:Int))=false by simp]
    try refine RUN ?_
    refine ⟨n-1,⟨rfl,rfl,?_,trivial⟩,trivial,rfl,⟨by omega,by rw [hdl,hdm,hd]⟩,hG,by omega⟩
    rw [show IntKind.i64.wrap ((n:Int)-1-1)=((n-1:Nat):Int)-1 by rw [IntKind.wrap_i64];omega];rfl
   ·rw [show (((u:Nat):Int) != (w:Int))=true by simp;omega]
    have ho:=hvo hxy
    try refine RUN ?_
    apply EV.drawn 9 kR kR;intro xv yw
    (repeat refine' DD ?_)
    refine' DJ.ofVal (ValOk.idxO tO rfl rfl rfl rfl rfl rfl rfl rfl (n-1) oM oM) rfl rfl rfl ?_;rotate_left
    refine' DJ.ofVal (ValOk.load1 tO rfl rfl rfl rfl rfl rfl (0) rfl (hx)) rfl rfl rfl ?_;rotate_left
    (repeat refine' DD ?_)
    refine' DJ.ofVal (ValOk.idxO tO rfl rfl rfl rfl rfl rfl rfl rfl (n-1) oM oM) rfl rfl rfl ?_;rotate_left
    refine' DJ.ofVal (ValOk.load1 tO rfl rfl rfl rfl rfl rfl (1) rfl (hy)) rfl rfl rfl ?_;rotate_left
    (repeat refine' DD ?_)
    (refine DJ.nil (fun G hG hF=>?_);(case hS|hS2=>rfl))
    try refine RUN ?_
    rw [ho]
    by_cases hlt:u<w
    ·rw [lt_dec u w hlt,ordN_lt hlt]
     try refine RUN ?_
     exact ⟨rfl,rfl⟩
    ·rw [lt_dec' u w hlt,ordN_gt (by omega)]
     try refine RUN ?_
     exact ⟨rfl,rfl⟩
 ·rw [show (((l.length:Nat):Int) != (m.length:Int))=true by simp;omega]
  try refine RUN ?_
  by_cases hlt:l.length<m.length
  ·rw [lt_dec _ _ hlt,ordN_lt (len_less W64_two hl.1 hm hlt)]
   try refine RUN ?_
   exact ⟨rfl,rfl⟩
  ·rw [lt_dec' _ _ hlt,ordN_gt (len_less W64_two hm.1 hl oM)]
   try refine RUN ?_
   exact ⟨rfl,rfl⟩
theorem wsubtract_pw {H:Hp} {b off cap b' off' cap':Nat} {T T':TypeId} {cs cs':List Value} {l m:List Nat} (hw:Wn cs off l) (hw':Wn cs' off' m) (hl:Dig W64 l) (hm:Dig W64 m) (hll:l.length≤1000000000) (hml:m.length≤l.length) (hc:l.length≤cap) (hge:val W64 m≤val W64 l) :
  PW prog 240 #[.slice (some ⟨b,off,none⟩) l.length cap,.slice (some ⟨b',off',none⟩) m.length cap'] H [(b,T,cs),(b',T',cs')] fun v ow _=>∃ cs1 r,ow=[(b,T,cs1),(b',T',cs')]∧Wn cs1 off r∧Norm W64 r∧r.length≤l.length∧v=.slice (some ⟨b,off,none⟩) r.length cap∧val W64 r=val W64 l-val W64 m:=by
 refine PW.body tO func240 rfl kR ntmps240 rfl rfl ?_
 try refine RUN ?_
 refine EV.loop (ι:=Nat × Nat × List Nat × List Value) (fun q=>[(0,.v (.slice (some ⟨b,off,none⟩) l.length cap)),(1,.v (.slice (some ⟨b',off',none⟩) m.length cap')),(5,.v (n64 q.2.1)),(9,.v (.int .i64 (l.length:Int))),(10,.v (.int .i64 (q.1:Int)))]) (fun _=>[]) (fun q=>[(b,T,q.2.2.2),(b',T',cs')])
  (fun q _=>q.1≤l.length∧SubInv l m q.2.2.1 q.1 q.2.1∧Wn q.2.2.2 off q.2.2.1) (fun q=>l.length-q.1) (0,0,l,cs) ⟨rfl,rfl,rfl,rfl,rfl,trivial⟩ trivial rfl (fun _=>rfl) ⟨Nat.zero_le _,⟨rfl,hl,fun _ _=>rfl,by simp [val],Nat.zero_le _⟩,hw⟩ ?_
 rintro ⟨i,c,cur,cu⟩ G hG ⟨hi,hinv,hcu⟩
 dsimp only at hi hinv hcu
 try refine RUN ?_
 by_cases hlt:i<l.length
 ·rw [lt_dec _ _ hlt]
  have hil:i<cur.length:=by rw [hinv.len];exact hlt
  have hcx:=hcu.2 i hil
  try refine RUN ?_
  refine EV.meet (fun env' bx' H'=>SubL env' [(0,.v (.slice (some ⟨b,off,none⟩) l.length cap)),(1,.v (.slice (some ⟨b',off',none⟩) m.length cap')),(5,.v (n64 c)),(6,.v (.int .i64 (i:Int))),(7,.v (n64 (m.getD i 0))),(9,.v (.int .i64 (l.length:Int))),(10,.v (.int .i64 (i:Int)))]∧H'=⟨G,[(b,T,cu),(b',T',cs')],⟨H,[b,b']⟩⟩) ?_ ?_
  ·rintro env' bx' H' _ ⟨he,rfl⟩
   refine EV.less _ [] he trivial rfl ?_
   try refine RUN ?_
   refine EVL.idxO tO rfl rfl rfl rfl rfl rfl rfl rfl rfl rfl (i) (rfl) (hlt) ?_
   refine EVL.load1 tO rfl rfl rfl rfl rfl rfl rfl rfl (0) rfl (hcx) ?_
   try refine RUN ?_
   refine EVL.ext rfl rfl rfl rfl rfl (fun W=>sub64_run (cur.getD i 0) (m.getD i 0) c W hinv.carry) ?_
   try refine RUN ?_
   refine EVL.idxO tO rfl rfl rfl rfl rfl rfl rfl rfl rfl rfl (i) (rfl) (hlt) ?_
   refine EVL.setO tO rfl rfl rfl rfl rfl rfl rfl ([]) rfl rfl rfl ((by have:=hcu.1;omega)) ?_
   try refine RUN ?_
   refine ⟨(i+1,subHi (cur.getD i 0) (m.getD i 0) c,cur.set i (subLo (cur.getD i 0) (m.getD i 0) c),cu.set (off+i) (n64 (subLo (cur.getD i 0) (m.getD i 0) c))),⟨rfl,rfl,rfl,rfl,?_,trivial⟩,trivial,rfl,⟨by dsimp only;omega,hinv.step hlt hm,hcu.set i _ hil⟩,Hp.Le.refl _,by dsimp only;omega⟩
   rw [wi_inc i (by omega)];rfl
  ·by_cases hlm:i<m.length
   ·rw [lt_dec _ _ hlm]
    try refine RUN ?_
    refine EVL.idxO tO rfl rfl rfl rfl rfl rfl rfl rfl rfl rfl (i) (rfl) (hlm) ?_
    refine EVL.load1 tO rfl rfl rfl rfl rfl rfl rfl rfl (1) rfl (hw'.2 i hlm) ?_
    try refine RUN ?_
    exact ⟨⟨rfl,rfl,rfl,rfl,rfl,rfl,rfl,trivial⟩,rfl⟩
   ·rw [lt_dec' _ _ hlm]
    try refine RUN ?_
    refine ⟨⟨rfl,rfl,rfl,rfl,?_,rfl,rfl,trivial⟩,rfl⟩
    rw [show m.getD i 0=0 by simp [Nat.not_lt.1 hlm]]
    rfl
 ·rw [lt_dec' _ _ hlt]
  obtain rfl:i=l.length:=by omega
  have hfin:=hinv.sum
  have hlen:=hinv.len
  rw [List.take_of_length_le oM,List.take_of_length_le (Nat.le_refl _),List.take_of_length_le (by omega)] at hfin
  have hlt2:=val_lt hinv.dig
  rw [hlen] at hlt2
  have hc0:c=0:=by
   have:=hinv.carry
   rcases Nat.eq_zero_or_pos c with e | e
   ·exact e
   ·exfalso
    have h1:c=1:=by omega
    rw [h1,Nat.one_mul] at hfin
    have h2:=val_lt hm
    have h3:W64 ^ m.length≤W64 ^ l.length:=Nat.pow_le_pow_right (by decide) hml
    omega
  rw [hc0,Nat.zero_mul,Nat.add_zero] at hfin
  try refine RUN ?_
  have ht:=wtrim_pw (H:=G) (b:=b) (T:=T) (cap:=cap) hcu oM oM
  rw [hlen] at ht
  refine EVL.callW rfl rfl rfl rfl rfl ([(b,T,cu)]) ([(b',T',cs')]) rfl (ht) ?_
  rintro v ow H' ⟨rfl,rfl⟩ hle
  try refine RUN ?_
  refine ⟨cu,trimL cur,rfl,?_,trimL_norm hinv.dig,?_,rfl,?_⟩
  ·have:=hcu.take (trimL cur).length
   rwa [trimL_take] at this
  ·have:=trimL_length_le cur;omega
  ·rw [trimL_val];omega
end Go.Proofs.YtbcfidllfimehaaGreatDoor
namespace Go.Proofs.YtbcfidllfimehaaGreatDoor
open Go.RowKit
def Tryz.lays7n29_ren:Go.Shelf.Ren:=⟨fun | 29=>218 | n=>n,fun | 0=>0 | 3=>3 | 4=>4 | 5=>5 | 22=>73 | 25=>194 | 54=>302 | n=>n,fun | 1=>7 | n=>n⟩
theorem Tryz.lays7n29:Go.Proofs.Lays7.n29 Tryz.prog Tryz.lays7n29_ren:={
 mixed:=by kernel_rfl
 f29:=Tryz.func218.trans (congrArg some kR)
 t0:=by kernel_rfl
 a0:=fun _=>by kernel_rfl
 z0:=fun _=>by kernel_rfl
 v0:=fun _=>by kernel_rfl
 i0:=by kernel_rfl
 t3:=by kernel_rfl
 a3:=fun _=>by kernel_rfl
 z3:=fun _=>by kernel_rfl
 v3:=fun _=>by kernel_rfl
 i3:=by kernel_rfl
 t4:=by kernel_rfl
 a4:=fun _=>by kernel_rfl
 z4:=fun _=>by kernel_rfl
 v4:=fun _=>by kernel_rfl
 i4:=by kernel_rfl
 t5:=by kernel_rfl
 a5:=fun _=>by kernel_rfl
 z5:=fun _=>by kernel_rfl
 v5:=fun _=>by kernel_rfl
 i5:=by kernel_rfl
 t22:=by kernel_rfl
 a22:=fun _=>by kernel_rfl
 z22:=fun _=>by kernel_rfl
 v22:=fun _=>by kernel_rfl
 i22:=by kernel_rfl
 t25:=by kernel_rfl
 a25:=fun _=>by kernel_rfl
 z25:=fun _=>by kernel_rfl
 v25:=fun _=>by kernel_rfl
 i25:=by kernel_rfl
 t54:=by kernel_rfl
 a54:=fun _=>by kernel_rfl
 z54:=fun _=>by kernel_rfl
 g1:=by kernel_rfl }
theorem tz_pv (x:Nat) (hx:x<W64):PV Tryz.prog 218 #[n64 x] (.int .i64 (Lib.ctz 64 x:Int)):=by
 refine ⟨(cO Tryz.func218),fun W hg=>?_⟩
 refine (Any7.bits_TrailingZeros64 Tryz.lays7n29 x hx W (fun _ j hj=>?_)).mono fun e W' ⟨he,hW⟩=>⟨he,by rw [hW];exact Below.refl _ _⟩
 have hgH:gH 7=some (Lib.deBruijn64tab.map fun (z:Nat)=>Value.int .u8 (z:Int)).toArray:=by unfold gH;rw [Nat.beq_refl]
 obtain ⟨T,fz,hc⟩:=hg _ _ hgH
 have:=cell_of_row W 7 j _ T fz hc
 refine this.trans ?_
 simp only [List.getElem?_toArray,List.getElem?_map,List.getD_eq_getElem?_getD,List.getElem?_eq_getElem hj]
 rfl
end Go.Proofs.YtbcfidllfimehaaGreatDoor
namespace Go.Proofs.YtbcfidllfimehaaGreatDoor
open Go.RowKit _root_.Go.Proofs.Tryz
theorem wzeros_pw {H:Hp} {b off cap:Nat} {T:TypeId} {cs:List Value} {l:List Nat} (hw:Wn cs off l) (hl:Dig W64 l) (hll:l.length≤100000000) (h0:val W64 l≠0) :
  PW prog 237 #[.slice (some ⟨b,off,none⟩) l.length cap] H [(b,T,cs)] fun v ow _=>ow=[(b,T,cs)]∧∃ z m:Nat,v=.int .i64 (z:Int)∧val W64 l=2 ^ z*m∧m % 2=1∧z<64*l.length:=by
 refine PW.body tO func237 rfl kR ntmps237 rfl rfl ?_
 try refine RUN ?_
 refine EV.loop (ι:=Nat) (fun i=>[(0,.v (.slice (some ⟨b,off,none⟩) l.length cap)),(3,.v (.int .i64 (i:Int)))]) (fun _=>[]) (fun _=>[(b,T,cs)])
  (fun i _=>∀ j,j<i→l.getD j 0=0) (fun i=>l.length-i) 0 ⟨rfl,rfl,trivial⟩ trivial rfl (fun _=>rfl) (fun j hj=>absurd hj (Nat.not_lt_zero _)) ?_
 rintro i G hG hz
 have hi:i<l.length:=by
  refine Nat.lt_of_not_le fun h=>h0 ?_
  have:=val_take_zero (B:=W64) i hz
  rwa [List.take_of_length_le h] at this
 have hx:=hw.2 i hi
 try refine RUN ?_
 refine EVL.idxO tO rfl rfl rfl rfl rfl rfl rfl rfl rfl rfl (i) (rfl) (hi) ?_
 refine EVL.load1 tO rfl rfl rfl rfl rfl rfl rfl rfl (0) rfl (hx) ?_
 try refine RUN ?_
 by_cases hxz:l.getD i 0=0
 ·rw [hxz,show (((0:Nat):Int) == 0)=true from rfl]
  try refine RUN ?_
  refine ⟨i+1,⟨rfl,?_,trivial⟩,trivial,rfl,fun j hj=>?_,Hp.Le.refl _,by omega⟩
  ·rw [wi_inc i (by omega)];rfl
  ·by_cases e:j=i
   ·subst e;exact hxz
   ·exact hz j oM
 ·rw [show (((l.getD i 0:Nat):Int) == 0)=false by simpa using hxz]
  obtain ⟨m,hv,hm,hc⟩:=zeros_val hl hz hxz
  have htz:=tz_pv (l.getD i 0) (hl.getD (by decide) i)
  try refine RUN ?_
  refine EVL.idxO tO rfl rfl rfl rfl rfl rfl rfl rfl rfl rfl (i) (rfl) (hi) ?_
  refine EVL.load1 tO rfl rfl rfl rfl rfl rfl rfl rfl (0) rfl (hx) ?_
  repeat (first | refine RUN ?_ | refine CV (htz) ?_ | refine CE (htz) ?_)
  refine ⟨rfl,64*i+Lib.ctz 64 (l.getD i 0),m,?_,hv,hm,by omega⟩
  rw [show IntKind.i64.wrap (64*(i:Int))=((64*i:Nat):Int) from wi_mul 64 i oM,wi_add _ _ (by omega)]
theorem take_set_drop {α:Type} (s m:List α) (i:Nat) (h:i<s.length) (hl:s.length=m.length):(s.take i++m.drop i).set i s[i]=s.take (i+1)++m.drop (i+1):=by
 have hm:i<m.length:=by omega
 rw [List.set_append_right _ _ (by rw [List.length_take];omega),List.length_take,Nat.min_eq_left oM,Nat.sub_self,List.drop_eq_getElem_cons hm,List.set_cons_zero,List.take_succ_eq_append_getElem h,List.append_assoc];rfl
theorem mix_getD (s m:List Nat) (i j:Nat) (hl:s.length=m.length) (h:i≤j):(s.take i++m.drop i).getD j 0=m.getD j 0:=by
 by_cases hi:i≤s.length
 ·rw [List.getD_eq_getElem?_getD,List.getElem?_append_right (by rw [List.length_take];omega),List.length_take,Nat.min_eq_left hi,List.getElem?_drop,show i+(j-i)=j by omega,← List.getD_eq_getElem?_getD]
 ·rw [List.getD_eq_getElem?_getD,List.getElem?_eq_none (by simp;omega),List.getD_eq_getElem?_getD,List.getElem?_eq_none (by omega)]
theorem wdown_pw {H:Hp} {b off cap:Nat} {T:TypeId} {cs:List Value} {l:List Nat} (hw:Wn cs off l) (hl:Dig W64 l) (hll:l.length≤100000000) (hc:l.length≤cap) (h0:val W64 l≠0) :
  PW prog 238 #[.slice (some ⟨b,off,none⟩) l.length cap] H [(b,T,cs)] fun v ow _=>∃ cs1 off1 cap1 r z,ow=[(b,T,cs1)]∧Wn cs1 off1 r∧Norm W64 r∧r.length≤l.length∧r.length≤cap1∧v=.slice (some ⟨b,off1,none⟩) r.length cap1∧val W64 l=2 ^ z*val W64 r∧val W64 r % 2=1:=by
 refine PW.body tO func238 rfl kR ntmps238 rfl rfl ?_
 try refine RUN ?_
 refine EVL.callW rfl rfl rfl rfl rfl ([(b,T,cs)]) ([]) rfl (wzeros_pw hw hl hll h0) ?_
 rintro v ow H' ⟨rfl,z,m,rfl,hv,hm,hz⟩ hle
 have hz0:z / 64<l.length:=by omega
 try refine RUN ?_
 refine EVL.asI (((z / 64:Nat):Int)) (wi_quo z 64 oM) ?_
 try refine RUN ?_
 refine EVL.slc tO rfl rfl rfl rfl rfl rfl rfl rfl (z / 64) l.length (.inr ⟨_,IntKind.i64,rfl,rfl⟩) (.inl ⟨rfl,rfl⟩) oM hc hc ?_
 refine EVL.as (congrArg SV.v (slc_suf b off (z / 64) l.length cap oM)) ?_
 try refine RUN ?_
 rw [show (z:Int).tmod 64=((z % 64:Nat):Int) from wi_rem z 64]
 generalize hq:z / 64=q at *
 generalize hp:z % 64=p at *
 have hpz:z=64*q+p:=by omega
 have hp64:p<64:=by omega
 have hlen:(l.drop q).length=l.length-q:=List.length_drop ..
 have hwd:=hw.drop q oM
 have hld:Dig W64 (l.drop q):=hl.drop q
 have hvs:=val_shr l q p hl hp64 oM
 rw [← hpz] at hvs
 have hdiv:val W64 l / 2 ^ z=m:=by rw [hv];exact Nat.mul_div_cancel_left _ (Nat.pow_pos (by decide))
 rw [hdiv] at hvs
 rw [← hlen]
 generalize l.drop q=d at *
 have hsl:=shrL_length p d
 have hsD:=shrL_dig p hp64 hld
 refine EV.loop (ι:=Nat × List Value) (fun s=>[(0,.v (.slice (some ⟨b,off+q,none⟩) d.length (cap-q))),(4,.v (.int .i64 (p:Int))),(15,.v (.int .i64 (d.length:Int))),(16,.v (.int .i64 (s.1:Int)))]) (fun _=>[]) (fun s=>[(b,T,s.2)])
  (fun s _=>s.1≤d.length∧Wn s.2 (off+q) ((shrL p d).take s.1++d.drop s.1)) (fun s=>d.length-s.1) (0,cs) ⟨rfl,rfl,rfl,rfl,trivial⟩ trivial rfl (fun _=>rfl) ⟨Nat.zero_le _,by simpa using hwd⟩ ?_
 rintro ⟨i,cu⟩ G hG ⟨hi,hcu⟩
 dsimp only at hi hcu
 try refine RUN ?_
 by_cases hlt:i<d.length
 ·rw [lt_dec _ _ hlt]
  have hil:i<((shrL p d).take i++d.drop i).length:=by simp;omega
  have hcx:=hcu.2 i hil
  rw [mix_getD _ _ i i hsl (Nat.le_refl _)] at hcx
  have hx:=hld.getD (by decide) i
  have hnew:=shrL_get p d i oM
  have hset:=take_set_drop (shrL p d) d i oM hsl
  have hb1:off+q+i<cu.length:=by have:=hcu.1;omega
  rw [hnew] at hset
  try refine RUN ?_
  refine EVL.idxO tO rfl rfl rfl rfl rfl rfl rfl rfl rfl rfl (i) (rfl) (hlt) ?_
  refine EVL.load1 tO rfl rfl rfl rfl rfl rfl rfl rfl (0) rfl (hcx) ?_
  try refine RUN ?_
  rw [show min p IntKind.u64.bits=p from Nat.min_eq_left (by show p≤64;omega),wu_shr]
  refine EVL.idxO tO rfl rfl rfl rfl rfl rfl rfl rfl rfl rfl (i) (rfl) (hlt) ?_
  refine EVL.setO tO rfl rfl rfl rfl rfl rfl rfl ([]) rfl rfl rfl (hb1) ?_
  have hcu1:=hcu.set i (d.getD i 0 / 2 ^ p) hil
  try refine RUN ?_
  rw [wi_inc i (by omega)]
  by_cases hl1:i+1<d.length
  ·rw [lt_dec _ _ hl1]
   have hy:=hcu1.2 (i+1) (by simp;omega)
   rw [getD_set_ne _ _ _ _ oM,mix_getD _ _ i (i+1) hsl (by omega)] at hy
   have hx1:=hcu1.2 i (by simp;omega)
   rw [getD_set_eq _ _ _ hil] at hx1
   try refine RUN ?_
   apply EV.drawn 13 kR kR;intro xv yw
   (repeat refine' DD ?_)
   refine' DJ.ofVal (ValOk.idxO tO rfl rfl rfl rfl rfl rfl rfl rfl (i) (rfl) (hlt)) rfl rfl rfl ?_;rotate_left
   refine' DJ.ofVal (ValOk.load1 tO rfl rfl rfl rfl rfl rfl (0) rfl (hx1)) rfl rfl rfl ?_;rotate_left
   (repeat refine' DD ?_)
   refine' DJ.ofVal (ValOk.idxO tO rfl rfl rfl rfl rfl rfl rfl rfl (i+1) (wi_inc i oM) (hl1)) rfl rfl rfl ?_;rotate_left
   refine' DJ.ofVal (ValOk.load1 tO rfl rfl rfl rfl rfl rfl (0) rfl (hy)) rfl rfl rfl ?_;rotate_left
   (repeat refine' DD ?_)
   refine' DJ.ofVal (ValOk.shl rfl rfl rfl rfl (by rw [IntKind.wrap_i64];omega)) rfl rfl rfl ?_;rotate_left
   (repeat refine' DD ?_)
   (refine DJ.nil (fun G hG hF=>?_);(case hS|hS2=>rfl))
   try refine RUN ?_
   rw [show IntKind.i64.wrap (64-(p:Int))=((64-p:Nat):Int) by rw [IntKind.wrap_i64];omega,Int.toNat_natCast,show min (64-p) IntKind.u64.bits=64-p from Nat.min_eq_left (by show _≤64;omega)]
   refine EVL.idxO tO rfl rfl rfl rfl rfl rfl rfl rfl rfl rfl (i) (rfl) (hlt) ?_
   refine EVL.setO tO rfl rfl rfl rfl rfl rfl rfl ([]) rfl rfl rfl ((by rw [List.length_set];exact hb1)) ?_
   try refine RUN ?_
   have hw2:=(shr_word (d.getD i 0) (d.getD (i+1) 0) p hp64 hx).1
   have hcu2:=hcu1.set i (d.getD i 0 / 2 ^ p+d.getD (i+1) 0*2 ^ (64-p) % W64) (by simpa using hil)
   rw [List.set_set,List.set_set,hset] at hcu2
   refine ⟨(i+1,cu.set (off+q+i) (n64 (d.getD i 0 / 2 ^ p+d.getD (i+1) 0*2 ^ (64-p) % W64))),⟨rfl,rfl,rfl,?_,trivial⟩,trivial,?_,⟨by dsimp only;omega,hcu2⟩,hG,by dsimp only;omega⟩
   ·rw [wi_inc i (by omega)];rfl
   ·dsimp only
    refine (congrArg (fun c=>[(b,T,c)]) (List.set_set ..)).trans ?_
    exact congrArg (fun v=>[(b,T,cu.set (off+q+i) v)]) (congrArg (Value.int .u64) hw2)
  ·rw [lt_dec' _ _ hl1]
   try refine RUN ?_
   rw [show d.getD (i+1) 0=0 by simp [Nat.not_lt.1 hl1],Nat.zero_mul,Nat.zero_mod,Nat.add_zero] at hset
   rw [hset] at hcu1
   refine ⟨(i+1,cu.set (off+q+i) (n64 (d.getD i 0 / 2 ^ p))),⟨rfl,rfl,rfl,?_,trivial⟩,trivial,rfl,⟨by dsimp only;omega,hcu1⟩,Hp.Le.refl _,by dsimp only;omega⟩
   rw [wi_inc i (by omega)];rfl
 ·rw [lt_dec' _ _ hlt]
  obtain rfl:i=d.length:=by omega
  rw [List.take_of_length_le oM,List.drop_of_length_le (Nat.le_refl _),List.append_nil] at hcu
  have ht:=wtrim_pw (H:=G) (b:=b) (T:=T) (cap:=cap-q) hcu oM oM
  rw [hsl] at ht
  try refine RUN ?_
  refine EVL.callW rfl rfl rfl rfl rfl ([(b,T,cu)]) ([]) rfl (ht) ?_
  rintro v ow H2 ⟨rfl,rfl⟩ hle2
  try refine RUN ?_
  have htl:=trimL_length_le (shrL p d)
  refine ⟨cu,off+q,cap-q,trimL (shrL p d),z,rfl,?_,trimL_norm hsD,by omega,by omega,rfl,?_,?_⟩
  ·have:=hcu.take (trimL (shrL p d)).length
   rwa [trimL_take] at this
  ·rw [trimL_val,hvs,hv]
  ·rw [trimL_val,hvs,hm]
theorem wwords_pw (n:Nat) (hn:big n) (H:Hp):PW prog 236 #[natV n] H [] fun v ow _=>∃ g,v=.slice (some ⟨g,0,none⟩) (dig W64 n).length (dig W64 n).length∧ow=[(g,73,(dig W64 n).map n64)]:=by
 have hol:(octs n).length=(bl n+7) / 8:=by
  have:=dig_len_bits 8 n oM;rw [show (2:Nat) ^ 8=256 by decide] at this;rw [octs_length,this];omega
 have hwl:(dig W64 n).length=((octs n).length+7) / 8:=by
  have:=dig_len_bits 64 n oM
  rw [← W64_pow] at this
  rw [this,hol];omega
 have hD:=octs_dig n
 have hfin:pk 8 256 (octs n).reverse (dig W64 n).length=dig W64 n:=pk_octs n _ rfl (by rw [← octs_length];omega)
 have hb:=natBytes_pc n hn
 refine PW.body tO func236 rfl kR ntmps236 rfl rfl ?_
 try refine RUN ?_
 refine EVL.call rfl rfl rfl rfl rfl (hb _) ?_
 rintro v H1 hs hle
 generalize hm:(dig W64 n).length=m at *
 generalize dig W64 n=dn at *
 generalize octs n=l at *
 obtain ⟨a,cap,rfl⟩:=SlC.val hs
 try refine RUN ?_
 rw [show IntKind.i64.wrap ((l.length:Int)+7)=((l.length+7:Nat):Int) from wi_add _ 7 (by omega)]
 refine EVL.asI ((m:Int)) ((by rw [hwl];exact wi_quo _ 8 oM)) ?_
 refine EVL.make tO rfl rfl rfl rfl rfl rfl rfl rfl rfl (m) (rfl) oM (by rfl) (by rfl) fun g=>?_
 try refine RUN ?_
 have e0:(List.replicate m (Tryz.te73.zero)).flatten=(pk 8 256 (l.reverse.take 0) m).map n64:=by
  rw [List.take_zero,pk_nil,List.map_replicate];rw [show (Tryz.te73.zero)=[n64 0] from rfl];simp
 rw [e0]
 refine EV.loop (ι:=Nat) (fun i=>[(3,.v (.slice a l.length cap)),(4,.v (.slice (some ⟨g,0,none⟩) m m)),(14,.v (.int .i64 (l.length:Int))),(15,.v (.int .i64 (i:Int)))]) (fun _=>[]) (fun i=>[(g,73,(pk 8 256 (l.reverse.take i) m).map n64)])
  (fun i G=>i≤l.length∧SlN n8 G (.slice a l.length cap) l) (fun i=>l.length-i) 0 ⟨rfl,rfl,rfl,rfl,trivial⟩ trivial rfl (fun _=>rfl) ⟨Nat.zero_le _,hs⟩ ?_
 rintro i G hG ⟨hi,hs⟩
 try refine RUN ?_
 by_cases hlt:i<l.length
 ·have him:i / 8<m:=by omega
  have hrl:(l.reverse.take i).length=i:=by rw [List.length_take,List.length_reverse];omega
  have hx:l.getD (l.length-1-i) 0<256:=hD.getD (by decide) _
  have hxs:(l.map n8)[l.length-1-i]?=some (n8 (l.getD (l.length-1-i) 0)):=map_at oM
  have hcur:((pk 8 256 (l.reverse.take i) m).map n64)[i / 8]?=some (n64 ((pk 8 256 (l.reverse.take i) m).getD (i / 8) 0)):=map_at (by rw [pk_length];exact him)
  have hlow:=pk_low (K:=8) (B:=256) (by decide) ((hD.rev).take i) m (by rw [hrl];omega)
  rw [hrl] at hlow
  have hsn:=pk_snoc (K:=8) (B:=256) (l:=l.reverse.take i) (by decide) m (l.getD (l.length-1-i) 0) (by rw [hrl];omega)
  rw [hrl] at hsn
  rw [lt_dec _ _ hlt]
  try refine RUN ?_
  apply EV.drawn 18 kR kR;intro xv yw
  (repeat refine' DD ?_)
  refine' DJ.ofVal (ValOk.idxP1 tO rfl rfl rfl rfl rfl rfl rfl rfl (i / 8) (q8 i oM) him) rfl rfl rfl ?_;rotate_left
  refine' DJ.ofVal (ValOk.load1 tO rfl rfl rfl rfl rfl rfl (0) rfl (hcur)) rfl rfl rfl ?_;rotate_left
  (repeat refine' DD ?_)
  refine' DJ.ofVal (ValOk.idx1 tO rfl rfl rfl rfl rfl rfl rfl rfl (hs) (l.length-1-i) (back _ _ hlt oM) oM (hxs)) rfl rfl rfl ?_;rotate_left
  (repeat refine' DD ?_)
  refine' DJ.ofVal (ValOk.shl rfl rfl rfl rfl (by rw [r8];omega)) rfl rfl rfl ?_;rotate_left
  (refine DJ.nil (fun G hG hF=>?_);(case hS|hS2=>rfl))
  rw [r8,Int.toNat_natCast]
  try refine RUN ?_
  rw [byte_or _ _ _ (by rw [Nat.pow_mul];exact hlow) hx (by omega)]
  refine EVL.idx0 tO rfl rfl rfl rfl rfl rfl rfl rfl rfl rfl (i / 8) (q8 i oM) (him) ?_
  refine EVL.setO tO rfl rfl rfl rfl rfl rfl rfl ([]) rfl rfl rfl ((by rw [List.length_map,pk_length];exact him)) ?_
  try refine RUN ?_
  have hnext:l.reverse.take (i+1)=l.reverse.take i++[l.getD (l.length-1-i) 0]:=by
   rw [List.take_succ_eq_append_getElem (by rw [List.length_reverse];exact hlt),List.getElem_reverse,List.getD_eq_getElem?_getD,List.getElem?_eq_getElem (show l.length-1-i<l.length by omega)];rfl
  refine ⟨i+1,⟨rfl,rfl,rfl,?_,trivial⟩,trivial,?_,⟨by omega,hs.mono hG⟩,hG,by omega⟩
  ·rw [wi_inc i (by omega)];rfl
  ·rw [hnext,hsn,List.map_set,show (256:Nat) ^ (i % 8)=2 ^ (8*(i % 8)) by rw [Nat.pow_mul]];rfl
 ·rw [lt_dec' _ _ hlt]
  obtain rfl:i=l.length:=by omega
  rw [List.take_of_length_le (by rw [List.length_reverse];exact Nat.le_refl _),hfin]
  try refine RUN ?_
  exact ⟨g,rfl,rfl⟩
theorem wnumber_pw {H:Hp} {b off cap:Nat} {T:TypeId} {cs:List Value} {l:List Nat} (hw:Wn cs off l) (hl:Dig W64 l) (hll:l.length≤20000000) :
  PW prog 241 #[.slice (some ⟨b,off,none⟩) l.length cap] H [(b,T,cs)] fun v ow _=>ow=[(b,T,cs)]∧v=natV (val W64 l):=by
 refine PW.body tO func241 rfl kR ntmps241 rfl rfl ?_
 try refine RUN ?_
 rw [show IntKind.i64.wrap (8*(l.length:Int))=((8*l.length:Nat):Int) from wi_mul 8 l.length (by omega)]
 generalize hN:8*l.length=N at *
 refine EVL.make tO rfl rfl rfl rfl rfl rfl rfl rfl rfl (N) (rfl) oM (by rfl) (by rfl) fun g=>?_
 refine EVL.apart fun hdist=>?_
 have hgb:b≠g:=fun e=>by
  subst e
  have:=hdist 0 1 b _ _ _ _ rfl rfl
  cases this
 try refine RUN ?_
 have e0:(List.replicate N (Tryz.te5.zero)).flatten=(List.replicate N 0).map n8:=by
  rw [List.map_replicate,show (Tryz.te5.zero)=[n8 0] from rfl];simp
 rw [e0]
 refine EV.loop (ι:=Nat × List Nat) (fun q=>[(2,.p 2 0),(0,.v (.slice (some ⟨b,off,none⟩) l.length cap)),(3,.v (.slice (some ⟨g,0,none⟩) N N)),(10,.v (.int .i64 (N:Int))),(11,.v (.int .i64 (q.1:Int)))]) (fun _=>[(2,75,Tryz.te75.zero)]) (fun q=>[(g,5,q.2.map n8),(b,T,cs)])
  (fun q _=>q.1≤N∧q.2.length=N∧Dig 256 q.2∧∀ j,j<q.1→q.2.getD (N-1-j) 0=val W64 l / 256 ^ j % 256) (fun q=>N-q.1) (0,List.replicate N 0) ⟨rfl,rfl,rfl,rfl,rfl,trivial⟩ ⟨rfl,trivial⟩ rfl (fun _=>rfl) ⟨Nat.zero_le _,by simp,Dig.zeros (by decide) _,fun j hj=>absurd hj (Nat.not_lt_zero _)⟩ ?_
 rintro ⟨i,cur⟩ G hG ⟨hi,hlen,hcD,hcs⟩
 dsimp only at hi hlen hcs hcD
 try refine RUN ?_
 by_cases hlt:i<N
 ·have hwl:i / 8<l.length:=by omega
  have hsub:=val_subdigit (C:=256) (k:=8) (by decide) (by decide) (l:=l) (by rw [← W64_256];exact hl) i
  rw [← W64_256,show (256:Nat) ^ (i % 8)=2 ^ (8*(i % 8)) by rw [Nat.pow_mul]] at hsub
  have hwd:=hl.getD (by decide) (i / 8)
  rw [lt_dec _ _ hlt]
  try refine RUN ?_
  rw [back N i hlt (by omega)]
  refine EVL.asI (((i / 8:Nat):Int)) (q8 i oM) ?_
  refine EVL.idxO tO rfl rfl rfl rfl rfl rfl rfl rfl rfl rfl (i / 8) (rfl) (hwl) ?_
  refine EVL.load1 tO rfl rfl rfl rfl rfl rfl rfl rfl (1) rfl (hw.2 (i / 8) hwl) ?_
  try refine RUN ?_
  rw [r8]
  try refine RUN ?_
  rw [sub_byte _ _ hwd oM,hsub]
  refine EVL.idx0 tO rfl rfl rfl rfl rfl rfl rfl rfl rfl rfl (N-1-i) (rfl) oM ?_
  refine EVL.setO tO rfl rfl rfl rfl rfl rfl rfl ([]) rfl rfl rfl ((by rw [List.length_map,hlen];omega)) ?_
  try refine RUN ?_
  refine ⟨(i+1,cur.set (N-1-i) (val W64 l / 256 ^ i % 256)),⟨rfl,rfl,rfl,rfl,?_,trivial⟩,⟨rfl,trivial⟩,?_,⟨by dsimp only;omega,by dsimp only;rw [List.length_set];exact hlen,hcD.set _ _ (Nat.mod_lt _ (by decide)),fun j hj=>?_⟩,Hp.Le.refl _,by dsimp only;omega⟩
  ·rw [wi_inc i (by omega)];rfl
  ·dsimp only
   rw [List.map_set];rfl
  ·dsimp only at hj ⊢
   by_cases e:j=i
   ·subst e
    exact getD_set_eq _ _ _ oM
   ·rw [getD_set_ne _ _ _ _ (by omega)]
    exact hcs j oM
 ·rw [lt_dec' _ _ hlt]
  obtain rfl:i=N:=by omega
  have hlv:=val_lt hl
  have hb:=bytes_back (val W64 l) i cur (by rw [← hN,Nat.pow_mul,← W64_256];exact hlv) hlen hcs
  try refine RUN ?_
  refine EVL.publish [] [(b,T,cs)] rfl (fun G2 hG2 hg=>?_) (fun k hk=>by
   obtain rfl:k=b:=by simpa [Ows.bs] using hk
   exact hgb)
  have hsl:SlN n8 G2 (.slice (some ⟨g,0,none⟩) i i) cur:=by
   unfold SlN
   rw [hlen]
   exact ⟨by simp [hlen],.inr ⟨g,0,i,_,rfl,Nat.le_refl _,hg,fun j x hj=>by simpa using hj⟩⟩
  have hf:=natFromBytes_pc hsl hcD oM
  rw [hb] at hf
  refine EVL.call rfl rfl rfl rfl rfl (hf) ?_
  rintro v H2 rfl hle
  try refine RUN ?_
  exact ⟨rfl,rfl⟩
end Go.Proofs.YtbcfidllfimehaaGreatDoor
