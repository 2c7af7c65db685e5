/- Texts of ours in one: Rf3, Gc1, Gc2, Tz, Gc3, Gc4, Gc5, GcdS, Fr1, Fr2, Fr3, Ha1, Ha2, Ls1, LsP, Ls2, Ls3, Fr4, NearP, NearQ, SimpP, SimpS, Lw1, Lw2, Str1, Lw3, Lw4, Simp, Simp2, Simp3, Simp4, Ls4, Ls5, Ls6, Gn1, GnP, Gn2, Gn3, Gn7, Ev22, Gn8, Gn4, Gn5, Gn9, Gn6, Ev23, Gn10, Gn11, Seq, Sorted, DicePlain, Lists, SortPlain, Asc, GnC, Gn12, Gn13, Gn14, GnQ, GnR, GnS, GnT, GnV, Wd1, Ls7, LsR, Ls8, Wd2, Ha3, Lw8, Lw9, Wd3, Wd4, Ev24, RqL, Wd5. -/
import Derived.Test.YtgjepkeeeemppaaGreatDoorT0
import Derived.Test.YtgjepkeeeemppaaGreatDoorT1
import Derived.Test.YtgjepkeeeemppaaGreatDoorT2
import Derived.Shelf.Spec.TrailingZeros
import Derived.Test.YtgjepkeeeemppaaGreatDoorProg
import Derived.RangeFuncBox
import Derived.RangeFuncLeaves
import Derived.Shelf.Abstract
import Derived.OwnWalkIn
import Derived.TacticsInMore
import Derived.LoopNIn
import Derived.LoopIn
import Derived.Maps.AppendAt
import Derived.Test.YtgjepkeeeemppaaGreatDoorRows
import Derived.WalkKit
import Derived.Sort.OwnSortedInts
import Derived.Lib.SlicesCompact
set_option linter.unusedVariables false
set_option linter.unusedSimpArgs false

namespace Go.Proofs.YtgjepkeeeemppaaGreatDoor
open Go.RowKit _root_.Go.Proofs.Tryz
def RQ (H:Hp) (v:Value) (q:Rat):Prop:=∃ a l c a' l' c',v=.agg #[.bool (decide (q.num<0)),.slice a l c,.slice a' l' c']∧RN H (.slice a l c) q.num.natAbs∧RN H (.slice a' l' c') q.den
theorem RQ.mono {H G:Hp} {v:Value} {q:Rat} (h:RQ H v q) (k:H.Le G):RQ G v q:=by
 obtain ⟨a,l,c,a',l',c',e,h1,h2⟩:=h;exact ⟨a,l,c,a',l',c',e,RN.mono h1 k,RN.mono h2 k⟩
def rq (q:Rat):Prop:=ht q≤100000000
theorem rq.num {q:Rat} (h:rq q):rsm q.num.natAbs:=Nat.le_trans (bl_num_le q) (Nat.le_trans h oM)
theorem rq.den {q:Rat} (h:rq q):rsm q.den:=Nat.le_trans (bl_den_le q) (Nat.le_trans h oM)
theorem divInt_mk (n d:Int) (h:d≠0):Rat.divInt n d=mkRat (if d<0 then -n else n) d.natAbs:=by
 cases d with
 | ofNat m =>
  rw [if_neg (show ¬ Int.ofNat m<0 from Int.not_lt.2 (Int.natCast_nonneg m))]
  rfl
 | negSucc m =>
  rw [if_pos (by omega)]
  show Rat.normalize (-n) (m+1) (Nat.succ_ne_zero m)=_
  rw [Rat.normalize_eq_mkRat];rfl
theorem make_eq (n d:Int) (h:d≠0):(Rat.divInt n d).num=sg (!(decide (n<0) == decide (d<0))) (n.natAbs / Nat.gcd n.natAbs d.natAbs)∧(Rat.divInt n d).den=d.natAbs / Nat.gcd n.natAbs d.natAbs:=by
 rw [divInt_mk n d h]
 obtain ⟨h1,h2⟩:=rat_lowest (if d<0 then -n else n) d.natAbs oM
 have e:(if d<0 then -n else n).natAbs=n.natAbs:=by split <;> simp
 rw [e] at h1 h2
 refine ⟨?_,h2⟩
 rw [h1,part_eq _ _ (by rw [e];exact Nat.gcd_dvd_left _ _),e]
 unfold sg
 rcases Int.lt_trichotomy n 0 with hn | hn | hn
 ·by_cases hd:d<0
  ·rw [if_pos hd,if_neg oM,decide_eq_true hn,decide_eq_true hd];rfl
  ·rw [if_neg hd,if_pos hn,decide_eq_true hn,decide_eq_false hd];rfl
 ·subst hn
  by_cases hd:d<0 <;> simp [hd]
 ·by_cases hd:d<0
  ·rw [if_pos hd,if_pos oM,decide_eq_false oM,decide_eq_true hd];rfl
  ·rw [if_neg hd,if_neg oM,decide_eq_false oM,decide_eq_false hd];rfl
theorem refMake_pc {H:Hp} {u v:Value} {n d:Int} (hu:RI H u n) (hv:RI H v d) (hn:rsm n.natAbs) (hd:rsm d.natAbs) (h0:d≠0):PC prog 109 #[u,v] H fun r H'=>RQ H' r (Rat.divInt n d):=by
 obtain ⟨sa,sl,sc,rfl,hs⟩:=id hu
 obtain ⟨ta,tl,tc,rfl,ht⟩:=id hv
 obtain ⟨e1,e2⟩:=make_eq n d h0
 have hg:Nat.gcd n.natAbs d.natAbs≠0:=fun e=>h0 (by have:=Nat.eq_zero_of_gcd_eq_zero_right e;omega)
 have hgs:rsm (Nat.gcd n.natAbs d.natAbs):=hd.le (Nat.gcd_le_right _ oM)
 refine BD func109 ntmps109 ?_
 try refine RUN ?_
 refine EVL.call rfl rfl rfl rfl rfl (refGcd_pc hs ht hn hd) ?_
 rintro g G1 hg1 hG1
 generalize Nat.gcd n.natAbs d.natAbs=gg at *
 try refine RUN ?_
 refine EVL.call rfl rfl rfl rfl rfl (refDiv_pc (RN.mono hs hG1) hg1 hn hgs hg) ?_
 rintro r G2 ⟨x,y,rfl,hx,hy⟩ hG2
 try refine RUN ?_
 refine EVL.call rfl rfl rfl rfl rfl (refDiv_pc (RN.mono ht (hG1.trans hG2)) (RN.mono hg1 hG2) hd hgs hg) ?_
 rintro r G3 ⟨x',y',rfl,hx',hy'⟩ hG3
 try refine RUN ?_
 refine EVL.neb rfl rfl rfl rfl rfl rfl kR ?_
 try refine RUN ?_
 refine EVL.call rfl rfl rfl rfl rfl (refI_pc (!(decide (n<0) == decide (d<0))) (RN.mono hx hG3)) ?_
 rintro r G4 ⟨ra,rl,rc,rfl,hr⟩ hG4
 obtain ⟨xa,xc,rfl⟩:=SlC.val hx'
 try refine RUN ?_
 rw [← e1] at *
 rw [← e2] at *
 exact ⟨ra,rl,rc,xa,_,xc,rfl,hr,RN.mono hx' hG4⟩
theorem refOf_pc {H:Hp} (z:Int) (h1:-9223372036854775808≤z) (h2:z<9223372036854775808):PC prog 43 #[.int .i64 z] H fun r H'=>RQ H' r (z:Rat):=by
 refine BD func43 ntmps43 ?_
 try refine RUN ?_
 refine EVL.call rfl rfl rfl rfl rfl (refIntOf_pc z h1 h2) ?_
 rintro r G ⟨ra,rl,rc,rfl,hr⟩ hG
 try refine RUN ?_
 refine EVL.call rfl rfl rfl rfl rfl (refNatOf_pc 1 (by decide) G) ?_
 rintro s G2 hs hG2
 obtain ⟨xa,xc,rfl⟩:=SlC.val hs
 try refine RUN ?_
 exact ⟨ra,rl,rc,xa,_,xc,rfl,RN.mono hr hG2,hs⟩
theorem refOver_pc {H:Hp} (n d:Int) (h1:-9223372036854775808≤n) (h2:n<9223372036854775808) (h3:-9223372036854775808≤d) (h4:d<9223372036854775808) (h0:d≠0):PC prog 67 #[.int .i64 n,.int .i64 d] H fun r H'=>RQ H' r (Rat.divInt n d):=by
 have hb:∀ z:Int,-9223372036854775808≤z→z<9223372036854775808→rsm z.natAbs:=fun z h1 h2=>Nat.le_trans (bl_le (k:=64) oM) oM
 refine BD func67 ntmps67 ?_
 try refine RUN ?_
 refine EVL.call rfl rfl rfl rfl rfl (refIntOf_pc n h1 h2) ?_
 rintro r G hr hG
 try refine RUN ?_
 refine EVL.call rfl rfl rfl rfl rfl (refIntOf_pc d h3 h4) ?_
 rintro s G2 hs hG2
 try refine RUN ?_
 refine EVL.call rfl rfl rfl rfl rfl (refMake_pc (hr.mono hG2) hs (hb n h1 h2) (hb d h3 h4) h0) ?_
 rintro t G3 ⟨ra,rl,rc,xa,xl,xc,rfl,hn,hd⟩ hG3
 try refine RUN ?_
 exact ⟨ra,rl,rc,xa,xl,xc,rfl,hn,hd⟩
theorem refDen_pc {H:Hp} {v:Value} {q:Rat} (h:RQ H v q):PC prog 112 #[v] H fun r H'=>RI H' r (q.den:Int):=by
 obtain ⟨ra,rl,rc,xa,xl,xc,rfl,hn,hd⟩:=h
 have hi:=refI_pc false hd
 rw [show sg false q.den=(q.den:Int) from rfl] at hi
 refine BD func112 ntmps112 ?_
 try refine RUN ?_
 refine EVL.call rfl rfl rfl rfl rfl (hi) ?_
 rintro r G ⟨ra,rl,rc,rfl,hr⟩ hG
 try refine RUN ?_
 exact ⟨ra,rl,rc,rfl,hr⟩
theorem RQ.rnum {H:Hp} {a:Option Addr} {l c:Nat} {q:Rat} (h:RN H (.slice a l c) q.num.natAbs):RI H (.agg #[.bool (decide (q.num<0)),.slice a l c]) q.num:=⟨a,l,c,rfl,h⟩
theorem rat_add_divInt (a b:Rat):Rat.divInt (a.num*(b.den:Int)+b.num*(a.den:Int)) ((a.den*b.den:Nat):Int)=a+b:=by
 rw [Rat.add_def'];rfl
theorem rq_mul {a b:Rat} (ha:rq a) (hb:rq b):rsm (a.num*(b.den:Int)).natAbs:=by
 rw [Int.natAbs_mul,Int.natAbs_natCast]
 refine Nat.le_trans (bl_mul _ _) ?_
 have:=bl_num_le a;have:=bl_den_le b
 unfold rq at *;omega
theorem rq_mul2 {a b:Rat} (ha:rq a) (hb:rq b):bl (a.num*(b.den:Int)).natAbs≤200000000:=by
 rw [Int.natAbs_mul,Int.natAbs_natCast]
 refine Nat.le_trans (bl_mul _ _) ?_
 have:=bl_num_le a;have:=bl_den_le b
 unfold rq at *;omega
theorem refAdd_pc {H:Hp} {u v:Value} {a b:Rat} (hu:RQ H u a) (hv:RQ H v b) (ha:rq a) (hb:rq b):PC prog 60 #[u,v] H fun r H'=>RQ H' r (a+b):=by
 obtain ⟨sa,sl,sc,ta,tl,tc,rfl,hs,ht⟩:=id hu
 obtain ⟨sa',sl',sc',ta',tl',tc',rfl,hs',ht'⟩:=id hv
 have hdd:rsm (a.den*b.den):=by
  have:=bl_den_le a;have:=bl_den_le b;have:=bl_mul a.den b.den
  unfold rq at ha hb;unfold rsm;omega
 have hsum:rsm (a.num*(b.den:Int)+b.num*(a.den:Int)).natAbs:=by
  have:=bl_natAbs_add (a.num*(b.den:Int)) (b.num*(a.den:Int));have:=rq_mul2 ha hb;have:=rq_mul2 hb ha
  unfold rsm;omega
 have hne:((a.den*b.den:Nat):Int)≠0:=by have:=Nat.mul_ne_zero a.den_nz b.den_nz;omega
 have hres:=rat_add_divInt a b
 refine BD func60 ntmps60 ?_
 try refine RUN ?_
 apply EV.drawn 18 kR kR;intro xv yw
 (repeat (first | refine' DV ?_ | refine' DA ?_ | refine' DK0 ?_ | refine' DT ?_ | refine' DS ?_))
 refine' DJ.call rfl rfl rfl rfl rfl (cO func112) (fun G hG hd=>refDen_pc (hv.mono hG)) (fun _ _ _ h k=>RI.mono h k) ?_;rotate_left
 refine' DJ.call rfl rfl rfl rfl rfl (cO func111) (fun G hG hd=>refIntMul_pc (RQ.rnum (RN.mono hs hG)) (hd.head kR) ha.num hb.den) (fun _ _ _ h k=>RI.mono h k) ?_;rotate_left
 (repeat (first | refine' DV ?_ | refine' DA ?_ | refine' DK0 ?_ | refine' DT ?_ | refine' DS ?_))
 refine' DJ.call rfl rfl rfl rfl rfl (cO func112) (fun G hG hd=>refDen_pc (hu.mono hG)) (fun _ _ _ h k=>RI.mono h k) ?_;rotate_left
 refine' DJ.call rfl rfl rfl rfl rfl (cO func111) (fun G hG hd=>refIntMul_pc (RQ.rnum (RN.mono hs' hG)) (hd.head kR) hb.num ha.den) (fun _ _ _ h k=>RI.mono h k) ?_;rotate_left
 refine' DJ.call rfl rfl rfl rfl rfl (cO func110) (fun G hG hd=>refIntAdd_pc (hd.tail.tail.head kR) (hd.head kR) (rq_mul ha hb) (rq_mul hb ha)) (fun _ _ _ h k=>RI.mono h k) ?_;rotate_left
 (repeat (first | refine' DV ?_ | refine' DA ?_ | refine' DK0 ?_ | refine' DT ?_ | refine' DS ?_))
 refine' DJ.call rfl rfl rfl rfl rfl (cO func114) (fun G hG hd=>refMul_pc (RN.mono ht hG) (RN.mono ht' hG) ha.den hb.den) (fun _ _ _ h k=>RN.mono h k) ?_;rotate_left
 refine' DJ.call rfl rfl rfl rfl rfl (cO func113) (fun G hG hd=>refI_pc false (hd.head kR)) (fun _ _ _ h k=>RI.mono h k) ?_;rotate_left
 refine' DJ.call rfl rfl rfl rfl rfl (cO func109) (fun G hG hd=>refMake_pc (hd.tail.tail.head kR) (hd.head kR) hsum hdd hne) (fun _ _ _ h k=>RQ.mono h k) ?_;rotate_left
 (refine DJ.nil (fun G hG hF=>?_);(case hS|hS2=>rfl))
 obtain ⟨⟨ra,rl,rc,xa,xl,xc,hr,h1,h2⟩,_⟩:=hF
 rw [hr]
 try refine RUN ?_
 rw [← hres]
 exact ⟨ra,rl,rc,xa,xl,xc,rfl,h1,h2⟩
theorem refNeg_pc {H:Hp} {u:Value} {a:Rat} (hu:RQ H u a):PC prog 108 #[u] H fun r H'=>RQ H' r (-a):=by
 obtain ⟨sa,sl,sc,ta,tl,tc,rfl,hs,ht⟩:=id hu
 refine BD func108 ntmps108 ?_
 try refine RUN ?_
 apply EV.drawn 5 kR kR;intro xv yw
 (repeat (first | refine' DV ?_ | refine' DA ?_ | refine' DK0 ?_ | refine' DT ?_ | refine' DS ?_))
 refine' DJ.call rfl rfl rfl rfl rfl (cO func146) (fun G hG hd=>refIntNeg_pc (RQ.rnum (RN.mono hs hG))) (fun _ _ _ h k=>RI.mono h k) ?_;rotate_left
 (repeat (first | refine' DV ?_ | refine' DA ?_ | refine' DK0 ?_ | refine' DT ?_ | refine' DS ?_))
 (refine DJ.nil (fun G hG hF=>?_);(case hS|hS2=>rfl))
 obtain ⟨⟨ra,rl,rc,hr,h1⟩,_⟩:=hF
 rw [hr]
 try refine RUN ?_
 exact ⟨ra,rl,rc,ta,tl,tc,by rw [Rat.neg_num],by rw [Rat.neg_num];exact h1,by rw [Rat.neg_den];exact RN.mono ht hG⟩
theorem rq_neg {a:Rat} (h:rq a):rq (-a):=by unfold rq;rw [ht_neg];exact h
theorem refSub_pc {H:Hp} {u v:Value} {a b:Rat} (hu:RQ H u a) (hv:RQ H v b) (ha:rq a) (hb:rq b):PC prog 59 #[u,v] H fun r H'=>RQ H' r (a-b):=by
 obtain ⟨sa,sl,sc,ta,tl,tc,rfl,hs,ht⟩:=id hu
 obtain ⟨sa',sl',sc',ta',tl',tc',rfl,hs',ht'⟩:=id hv
 refine BD func59 ntmps59 ?_
 try refine RUN ?_
 apply EV.drawn 4 kR kR;intro xv yw
 (repeat (first | refine' DV ?_ | refine' DA ?_ | refine' DK0 ?_ | refine' DT ?_ | refine' DS ?_))
 refine' DJ.call rfl rfl rfl rfl rfl (cO func108) (fun G hG hd=>refNeg_pc (hv.mono hG)) (fun _ _ _ h k=>RQ.mono h k) ?_;rotate_left
 refine' DJ.call rfl rfl rfl rfl rfl (cO func60) (fun G hG hd=>refAdd_pc (hu.mono hG) (hd.head kR) ha (rq_neg hb)) (fun _ _ _ h k=>RQ.mono h k) ?_;rotate_left
 (refine DJ.nil (fun G hG hF=>?_);(case hS|hS2=>rfl))
 obtain ⟨⟨ra,rl,rc,xa,xl,xc,hr,h1,h2⟩,_⟩:=hF
 rw [hr]
 try refine RUN ?_
 rw [Rat.sub_eq_add_neg]
 exact ⟨ra,rl,rc,xa,xl,xc,rfl,h1,h2⟩
theorem rq_dd {a b:Rat} (ha:rq a) (hb:rq b):rsm (a.den*b.den):=by
 have:=bl_den_le a;have:=bl_den_le b;have:=bl_mul a.den b.den
 unfold rq at ha hb;unfold rsm;omega
theorem rq_nn {a b:Rat} (ha:rq a) (hb:rq b):rsm (a.num*b.num).natAbs:=by
 rw [Int.natAbs_mul]
 have:=bl_num_le a;have:=bl_num_le b;have:=bl_mul a.num.natAbs b.num.natAbs
 unfold rq at ha hb;unfold rsm;omega
theorem dd_ne (a b:Rat):((a.den*b.den:Nat):Int)≠0:=by have:=Nat.mul_ne_zero a.den_nz b.den_nz;omega
theorem refMulQ_pc {H:Hp} {u v:Value} {a b:Rat} (hu:RQ H u a) (hv:RQ H v b) (ha:rq a) (hb:rq b):PC prog 61 #[u,v] H fun r H'=>RQ H' r (a*b):=by
 obtain ⟨sa,sl,sc,ta,tl,tc,rfl,hs,ht⟩:=id hu
 obtain ⟨sa',sl',sc',ta',tl',tc',rfl,hs',ht'⟩:=id hv
 have hres:Rat.divInt (a.num*b.num) ((a.den*b.den:Nat):Int)=a*b:=by rw [Rat.mul_def'];rfl
 refine BD func61 ntmps61 ?_
 try refine RUN ?_
 apply EV.drawn 12 kR kR;intro xv yw
 (repeat (first | refine' DV ?_ | refine' DA ?_ | refine' DK0 ?_ | refine' DT ?_ | refine' DS ?_))
 refine' DJ.call rfl rfl rfl rfl rfl (cO func111) (fun G hG hd=>refIntMul_pc (RQ.rnum (RN.mono hs hG)) (RQ.rnum (RN.mono hs' hG)) ha.num hb.num) (fun _ _ _ h k=>RI.mono h k) ?_;rotate_left
 (repeat (first | refine' DV ?_ | refine' DA ?_ | refine' DK0 ?_ | refine' DT ?_ | refine' DS ?_))
 refine' DJ.call rfl rfl rfl rfl rfl (cO func114) (fun G hG hd=>refMul_pc (RN.mono ht hG) (RN.mono ht' hG) ha.den hb.den) (fun _ _ _ h k=>RN.mono h k) ?_;rotate_left
 refine' DJ.call rfl rfl rfl rfl rfl (cO func113) (fun G hG hd=>refI_pc false (hd.head kR)) (fun _ _ _ h k=>RI.mono h k) ?_;rotate_left
 refine' DJ.call rfl rfl rfl rfl rfl (cO func109) (fun G hG hd=>refMake_pc (hd.tail.tail.head kR) (hd.head kR) (rq_nn ha hb) (rq_dd ha hb) (dd_ne a b)) (fun _ _ _ h k=>RQ.mono h k) ?_;rotate_left
 (refine DJ.nil (fun G hG hF=>?_);(case hS|hS2=>rfl))
 obtain ⟨⟨ra,rl,rc,xa,xl,xc,hr,h1,h2⟩,_⟩:=hF
 rw [hr]
 try refine RUN ?_
 rw [← hres]
 exact ⟨ra,rl,rc,xa,xl,xc,rfl,h1,h2⟩
theorem rat_div_divInt (a b:Rat):Rat.divInt (a.num*(b.den:Int)) ((a.den:Int)*b.num)=a / b:=by
 rw [← Rat.divInt_mul_divInt,Rat.num_divInt_den,Rat.div_def,Rat.inv_def]
theorem refDivQ_pc {H:Hp} {u v:Value} {a b:Rat} (hu:RQ H u a) (hv:RQ H v b) (ha:rq a) (hb:rq b) (h0:b.num≠0):PC prog 63 #[u,v] H fun r H'=>RQ H' r (a / b):=by
 obtain ⟨sa,sl,sc,ta,tl,tc,rfl,hs,ht⟩:=id hu
 obtain ⟨sa',sl',sc',ta',tl',tc',rfl,hs',ht'⟩:=id hv
 have hne:(a.den:Int)*b.num≠0:=Int.mul_ne_zero (by have:=a.den_nz;omega) h0
 have hdn:rsm ((a.den:Int)*b.num).natAbs:=by rw [Int.mul_comm];exact rq_mul hb ha
 refine BD func63 ntmps63 ?_
 try refine RUN ?_
 apply EV.drawn 11 kR kR;intro xv yw
 (repeat (first | refine' DV ?_ | refine' DA ?_ | refine' DK0 ?_ | refine' DT ?_ | refine' DS ?_))
 refine' DJ.call rfl rfl rfl rfl rfl (cO func112) (fun G hG hd=>refDen_pc (hv.mono hG)) (fun _ _ _ h k=>RI.mono h k) ?_;rotate_left
 refine' DJ.call rfl rfl rfl rfl rfl (cO func111) (fun G hG hd=>refIntMul_pc (RQ.rnum (RN.mono hs hG)) (hd.head kR) ha.num hb.den) (fun _ _ _ h k=>RI.mono h k) ?_;rotate_left
 (repeat (first | refine' DV ?_ | refine' DA ?_ | refine' DK0 ?_ | refine' DT ?_ | refine' DS ?_))
 refine' DJ.call rfl rfl rfl rfl rfl (cO func112) (fun G hG hd=>refDen_pc (hu.mono hG)) (fun _ _ _ h k=>RI.mono h k) ?_;rotate_left
 (repeat (first | refine' DV ?_ | refine' DA ?_ | refine' DK0 ?_ | refine' DT ?_ | refine' DS ?_))
 refine' DJ.call rfl rfl rfl rfl rfl (cO func111) (fun G hG hd=>refIntMul_pc (hd.head kR) (RQ.rnum (RN.mono hs' hG)) ha.den hb.num) (fun _ _ _ h k=>RI.mono h k) ?_;rotate_left
 refine' DJ.call rfl rfl rfl rfl rfl (cO func109) (fun G hG hd=>refMake_pc (hd.tail.tail.head kR) (hd.head kR) (rq_mul ha hb) hdn hne) (fun _ _ _ h k=>RQ.mono h k) ?_;rotate_left
 (refine DJ.nil (fun G hG hF=>?_);(case hS|hS2=>rfl))
 obtain ⟨⟨ra,rl,rc,xa,xl,xc,hr,h1,h2⟩,_⟩:=hF
 rw [hr]
 try refine RUN ?_
 rw [← rat_div_divInt]
 exact ⟨ra,rl,rc,xa,xl,xc,rfl,h1,h2⟩
theorem refSign_pc {H:Hp} {u:Value} {a:Rat} (hu:RQ H u a):PC prog 70 #[u] H fun r _=>r=.int .i64 a.num.sign:=by
 obtain ⟨sa,sl,sc,ta,tl,tc,rfl,hs,ht⟩:=id hu
 refine BD func70 ntmps70 ?_
 repeat (first | refine RUN ?_ | refine CV (refIntSign_pc (RQ.rnum hs)) ?_ | refine CE (refIntSign_pc (RQ.rnum hs)) ?_)
 rfl
theorem refCmp_pc {H:Hp} {u v:Value} {a b:Rat} (hu:RQ H u a) (hv:RQ H v b) (ha:rq a) (hb:rq b):PC prog 124 #[u,v] H fun r _=>r=.int .i64 (ordR a b):=by
 obtain ⟨sa,sl,sc,ta,tl,tc,rfl,hs,ht⟩:=id hu
 obtain ⟨sa',sl',sc',ta',tl',tc',rfl,hs',ht'⟩:=id hv
 refine BD func124 ntmps124 ?_
 try refine RUN ?_
 apply EV.drawn 11 kR kR;intro xv yw
 (repeat (first | refine' DV ?_ | refine' DA ?_ | refine' DK0 ?_ | refine' DT ?_ | refine' DS ?_))
 refine' DJ.call rfl rfl rfl rfl rfl (cO func112) (fun G hG hd=>refDen_pc (hv.mono hG)) (fun _ _ _ h k=>RI.mono h k) ?_;rotate_left
 refine' DJ.call rfl rfl rfl rfl rfl (cO func111) (fun G hG hd=>refIntMul_pc (RQ.rnum (RN.mono hs hG)) (hd.head kR) ha.num hb.den) (fun _ _ _ h k=>RI.mono h k) ?_;rotate_left
 (repeat (first | refine' DV ?_ | refine' DA ?_ | refine' DK0 ?_ | refine' DT ?_ | refine' DS ?_))
 refine' DJ.call rfl rfl rfl rfl rfl (cO func112) (fun G hG hd=>refDen_pc (hu.mono hG)) (fun _ _ _ h k=>RI.mono h k) ?_;rotate_left
 refine' DJ.call rfl rfl rfl rfl rfl (cO func111) (fun G hG hd=>refIntMul_pc (RQ.rnum (RN.mono hs' hG)) (hd.head kR) hb.num ha.den) (fun _ _ _ h k=>RI.mono h k) ?_;rotate_left
 refine' DJ.callS rfl rfl rfl rfl rfl (cO func160) (fun G hG hd=>refIntCmp_pc (hd.tail.tail.head kR) (hd.head kR) (rq_mul ha hb) (rq_mul hb ha)) ?_;rotate_left
 (refine DJ.nil (fun G hG hF=>?_);(case hS|hS2=>rfl))
 try refine RUN ?_
 rw [ordR_eq]
def Wn (cs:List Value) (off:Nat) (l:List Nat):Prop:=off+l.length≤cs.length∧∀ j,j<l.length→cs[off+j]?=some (n64 (l.getD j 0))
theorem Wn.of (l:List Nat):Wn (l.map n64) 0 l:=⟨by simp,fun j hj=>by rw [Nat.zero_add];exact map_at hj⟩
theorem Wn.take {cs:List Value} {off:Nat} {l:List Nat} (h:Wn cs off l) (k:Nat):Wn cs off (l.take k):=by
 refine ⟨by have:=h.1;rw [List.length_take];omega,fun j hj=>?_⟩
 rw [List.length_take] at hj
 rw [h.2 j oM,getD_take,if_pos (by omega)]
theorem Wn.drop {cs:List Value} {off:Nat} {l:List Nat} (h:Wn cs off l) (k:Nat) (hk:k≤l.length):Wn cs (off+k) (l.drop k):=by
 refine ⟨by have:=h.1;rw [List.length_drop];omega,fun j hj=>?_⟩
 rw [List.length_drop] at hj
 rw [Nat.add_assoc,h.2 (k+j) oM,getD_drop]
theorem Wn.set {cs:List Value} {off:Nat} {l:List Nat} (h:Wn cs off l) (k x:Nat) (hk:k<l.length):Wn (cs.set (off+k) (n64 x)) off (l.set k x):=by
 refine ⟨by rw [List.length_set,List.length_set];exact h.1,fun j hj=>?_⟩
 rw [List.length_set] at hj
 by_cases e:k=j
 ·subst e
  rw [List.getElem?_set_self (by have:=h.1;omega),getD_set_eq _ _ _ hk]
 ·rw [List.getElem?_set_ne oM,getD_set_ne _ _ _ _ (Ne.symm e)];exact h.2 j hj
theorem slc_pre (b off n cap:Nat) (hc:cap≠0):Value.slice (if cap=0 then some ⟨b,off,none⟩ else (some (⟨b,off,none⟩:Addr)).map (·.add (0*1))) (n-0) (cap-0)=.slice (some ⟨b,off,none⟩) n cap:=by
 rw [if_neg hc];simp [Addr.add_mid]
theorem slc_suf (b off k m cap:Nat) (hc:k<cap):Value.slice (if cap=k then some ⟨b,off,none⟩ else (some (⟨b,off,none⟩:Addr)).map (·.add (k*1))) (m-k) (cap-k)=.slice (some ⟨b,off+k,none⟩) (m-k) (cap-k):=by
 rw [if_neg (by omega)];simp [Addr.add_mid]
theorem wtrim_pw {H:Hp} {b off cap:Nat} {T:TypeId} {cs:List Value} {l:List Nat} (hw:Wn cs off l) (hc:l.length≤cap) (hl:l.length≤1000000000) :
  PW prog 197 #[.slice (some ⟨b,off,none⟩) l.length cap] H [(b,T,cs)] fun v ow _=>ow=[(b,T,cs)]∧v=.slice (some ⟨b,off,none⟩) (trimL l).length cap:=by
 refine PW.body tO func197 rfl kR ntmps197 rfl rfl ?_
 try refine RUN ?_
 refine EV.loop (ι:=Nat) (fun n=>[(0,.v (.slice (some ⟨b,off,none⟩) n cap))]) (fun _=>[]) (fun _=>[(b,T,cs)])
  (fun n _=>n≤l.length∧trimL (l.take n)=trimL l) (fun n=>n) l.length ⟨rfl,trivial⟩ trivial rfl (fun _=>rfl) ⟨Nat.le_refl _,by rw [List.take_length]⟩ ?_
 rintro n G hG ⟨hn,ht⟩
 have fin:trimL (l.take n)=l.take n→(trimL l).length=n:=fun e=>by rw [← ht,e,List.length_take];omega
 try refine RUN ?_
 by_cases h0:n=0
 ·subst h0
  rw [show decide (((0:Nat):Int)>0)=false from rfl]
  try refine RUN ?_
  rw [fin (by simp [trimL])]
  exact ⟨rfl,rfl⟩
 ·rw [show decide ((n:Int)>0)=true by simp;omega]
  have hsnoc:l.take n=l.take (n-1)++[l.getD (n-1) 0]:=by
   have:=List.take_succ_eq_append_getElem (show n-1<l.length by omega)
   rw [show n-1+1=n by omega] at this
   rw [this,List.getD_eq_getElem?_getD,List.getElem?_eq_getElem (show n-1<l.length by omega)];rfl
  try refine RUN ?_
  refine EVL.asI (((n-1:Nat):Int)) (wi_dec n oM oM) ?_
  refine EVL.idxO tO rfl rfl rfl rfl rfl rfl rfl rfl rfl rfl (n-1) (rfl) oM ?_
  refine EVL.load1 tO rfl rfl rfl rfl rfl rfl rfl rfl (0) rfl (hw.2 (n-1) oM) ?_
  try refine RUN ?_
  by_cases hz:l.getD (n-1) 0=0
  ·rw [hz,show (((0:Nat):Int) == 0)=true from rfl]
   try refine RUN ?_
   refine EVL.asI (((n-1:Nat):Int)) (wi_dec n oM oM) ?_
   refine EVL.slc tO rfl rfl rfl rfl rfl rfl rfl rfl 0 (n-1) (.inl ⟨rfl,rfl⟩) (.inr ⟨_,IntKind.i64,rfl,rfl⟩) (Nat.zero_le _) oM oM ?_
   refine EVL.as (congrArg SV.v (slc_pre b off (n-1) cap oM)) ?_
   try refine RUN ?_
   exact ⟨n-1,⟨rfl,trivial⟩,trivial,rfl,⟨by omega,by rw [← ht,hsnoc,hz,trimL_snoc_zero]⟩,Hp.Le.refl _,by omega⟩
  ·rw [show (((l.getD (n-1) 0:Nat):Int) == 0)=false by simpa using hz]
   try refine RUN ?_
   rw [fin (by rw [hsnoc,trimL_snoc_ne _ _ hz])]
   exact ⟨rfl,rfl⟩
theorem wcompare_pw {H:Hp} {b off cap b' off' cap':Nat} {T T':TypeId} {cs cs':List Value} {l m:List Nat} (hw:Wn cs off l) (hw':Wn cs' off' m) (hl:Norm W64 l) (hm:Norm W64 m) (hll:l.length≤1000000000) :
  PW prog 172 #[.slice (some ⟨b,off,none⟩) l.length cap,.slice (some ⟨b',off',none⟩) m.length cap'] H [(b,T,cs),(b',T',cs')] fun v ow _=>ow=[(b,T,cs),(b',T',cs')]∧v=.int .i64 (ordN (val W64 l) (val W64 m)):=by
 refine PW.body tO func172 rfl kR ntmps172 rfl rfl ?_
 try refine RUN ?_
 by_cases he:l.length=m.length
 ·rw [show (((l.length:Nat):Int) != (m.length:Int))=false by simp [he]]
  try refine RUN ?_
  refine EV.loop (ι:=Nat) (fun n=>[(0,.v (.slice (some ⟨b,off,none⟩) l.length cap)),(1,.v (.slice (some ⟨b',off',none⟩) m.length cap')),(5,.v (.int .i64 ((n:Int)-1)))]) (fun _=>[]) (fun _=>[(b,T,cs),(b',T',cs')])
   (fun n _=>n≤l.length∧l.drop n=m.drop n) (fun n=>n) l.length ⟨rfl,rfl,?_,trivial⟩ trivial rfl (fun _=>rfl) ⟨Nat.le_refl _,by rw [List.drop_of_length_le (Nat.le_refl _),List.drop_of_length_le (by omega)]⟩ ?_
  ·rw [show IntKind.i64.wrap ((l.length:Int)-1)=(l.length:Int)-1 by rw [IntKind.wrap_i64];omega];rfl
  rintro n G hG ⟨hn,hd⟩
  try refine RUN ?_
  by_cases h0:n=0
  ·subst h0
   rw [show decide ((((0:Nat):Int)-1)≥0)=false from rfl]
   try refine RUN ?_
   rw [List.drop_zero,List.drop_zero] at hd
   subst hd
   exact ⟨rfl,by rw [ordN_eq rfl]⟩
  ·rw [show decide (((n:Int)-1)≥0)=true by simp;omega]
   have hx:=hw.2 (n-1) oM
   have hy:=hw'.2 (n-1) oM
   have hvo:=val_ord (l:=l) (m:=m) (n-1) hl.1 hm.1 he oM (by rw [show n-1+1=n by omega];exact hd)
   have hdx:=val_drop 0 l (n-1)
   have hdl:l.drop (n-1)=l.getD (n-1) 0::l.drop n:=by
    rw [List.drop_eq_getElem_cons (show n-1<l.length by omega),List.getD_eq_getElem?_getD,List.getElem?_eq_getElem (show n-1<l.length by omega),show n-1+1=n by omega];rfl
   have hdm:m.drop (n-1)=m.getD (n-1) 0::m.drop n:=by
    rw [List.drop_eq_getElem_cons (show n-1<m.length by omega),List.getD_eq_getElem?_getD,List.getElem?_eq_getElem (show n-1<m.length by omega),show n-1+1=n by omega];rfl
   generalize l.getD (n-1) 0=u at *
   generalize m.getD (n-1) 0=w at *
   try refine RUN ?_
   apply EV.drawn 9 kR kR;intro xv yw
   (repeat (first | refine' DV ?_ | refine' DA ?_ | refine' DK0 ?_ | refine' DT ?_ | refine' DS ?_))
   refine' DJ.ofVal (ValOk.idxO tO rfl rfl rfl rfl rfl rfl rfl rfl (n-1) oM oM) rfl rfl rfl ?_;rotate_left
   refine' DJ.ofVal (ValOk.load1 tO rfl rfl rfl rfl rfl rfl (0) rfl (hx)) rfl rfl rfl ?_;rotate_left
   (repeat (first | refine' DV ?_ | refine' DA ?_ | refine' DK0 ?_ | refine' DT ?_ | refine' DS ?_))
   refine' DJ.ofVal (ValOk.idxO tO rfl rfl rfl rfl rfl rfl rfl rfl (n-1) oM oM) rfl rfl rfl ?_;rotate_left
   refine' DJ.ofVal (ValOk.load1 tO rfl rfl rfl rfl rfl rfl (1) rfl (hy)) rfl rfl rfl ?_;rotate_left
   (repeat (first | refine' DV ?_ | refine' DA ?_ | refine' DK0 ?_ | refine' DT ?_ | refine' DS ?_))
   (refine DJ.nil (fun G hG hF=>?_);(case hS|hS2=>rfl))
   try refine RUN ?_
   by_cases hxy:u=w
   ·subst hxy
    rw [show (((u:Nat):Int) != (u:Int))=false by simp]
    try refine RUN ?_
    refine ⟨n-1,⟨rfl,rfl,?_,trivial⟩,trivial,rfl,⟨by omega,by rw [hdl,hdm,hd]⟩,hG,by omega⟩
    rw [show IntKind.i64.wrap ((n:Int)-1-1)=((n-1:Nat):Int)-1 by rw [IntKind.wrap_i64];omega];rfl
   ·rw [show (((u:Nat):Int) != (w:Int))=true by simp;omega]
    have ho:=hvo hxy
    try refine RUN ?_
    apply EV.drawn 9 kR kR;intro xv yw
    (repeat (first | refine' DV ?_ | refine' DA ?_ | refine' DK0 ?_ | refine' DT ?_ | refine' DS ?_))
    refine' DJ.ofVal (ValOk.idxO tO rfl rfl rfl rfl rfl rfl rfl rfl (n-1) oM oM) rfl rfl rfl ?_;rotate_left
    refine' DJ.ofVal (ValOk.load1 tO rfl rfl rfl rfl rfl rfl (0) rfl (hx)) rfl rfl rfl ?_;rotate_left
    (repeat (first | refine' DV ?_ | refine' DA ?_ | refine' DK0 ?_ | refine' DT ?_ | refine' DS ?_))
    refine' DJ.ofVal (ValOk.idxO tO rfl rfl rfl rfl rfl rfl rfl rfl (n-1) oM oM) rfl rfl rfl ?_;rotate_left
    refine' DJ.ofVal (ValOk.load1 tO rfl rfl rfl rfl rfl rfl (1) rfl (hy)) rfl rfl rfl ?_;rotate_left
    (repeat (first | refine' DV ?_ | refine' DA ?_ | refine' DK0 ?_ | refine' DT ?_ | refine' DS ?_))
    (refine DJ.nil (fun G hG hF=>?_);(case hS|hS2=>rfl))
    try refine RUN ?_
    rw [ho]
    by_cases hlt:u<w
    ·rw [lt_dec u w hlt,ordN_lt hlt]
     try refine RUN ?_
     exact ⟨rfl,rfl⟩
    ·rw [lt_dec' u w hlt,ordN_gt (by omega)]
     try refine RUN ?_
     exact ⟨rfl,rfl⟩
 ·rw [show (((l.length:Nat):Int) != (m.length:Int))=true by simp;omega]
  try refine RUN ?_
  by_cases hlt:l.length<m.length
  ·rw [lt_dec _ _ hlt,ordN_lt (len_less W64_two hl.1 hm hlt)]
   try refine RUN ?_
   exact ⟨rfl,rfl⟩
  ·rw [lt_dec' _ _ hlt,ordN_gt (len_less W64_two hm.1 hl oM)]
   try refine RUN ?_
   exact ⟨rfl,rfl⟩
theorem wsubtract_pw {H:Hp} {b off cap b' off' cap':Nat} {T T':TypeId} {cs cs':List Value} {l m:List Nat} (hw:Wn cs off l) (hw':Wn cs' off' m) (hl:Dig W64 l) (hm:Dig W64 m) (hll:l.length≤1000000000) (hml:m.length≤l.length) (hc:l.length≤cap) (hge:val W64 m≤val W64 l) :
  PW prog 173 #[.slice (some ⟨b,off,none⟩) l.length cap,.slice (some ⟨b',off',none⟩) m.length cap'] H [(b,T,cs),(b',T',cs')] fun v ow _=>∃ cs1 r,ow=[(b,T,cs1),(b',T',cs')]∧Wn cs1 off r∧Norm W64 r∧r.length≤l.length∧v=.slice (some ⟨b,off,none⟩) r.length cap∧val W64 r=val W64 l-val W64 m:=by
 refine PW.body tO func173 rfl kR ntmps173 rfl rfl ?_
 try refine RUN ?_
 refine EV.loop (ι:=Nat × Nat × List Nat × List Value) (fun q=>[(0,.v (.slice (some ⟨b,off,none⟩) l.length cap)),(1,.v (.slice (some ⟨b',off',none⟩) m.length cap')),(5,.v (n64 q.2.1)),(9,.v (.int .i64 (l.length:Int))),(10,.v (.int .i64 (q.1:Int)))]) (fun _=>[]) (fun q=>[(b,T,q.2.2.2),(b',T',cs')])
  (fun q _=>q.1≤l.length∧SubInv l m q.2.2.1 q.1 q.2.1∧Wn q.2.2.2 off q.2.2.1) (fun q=>l.length-q.1) (0,0,l,cs) ⟨rfl,rfl,rfl,rfl,rfl,trivial⟩ trivial rfl (fun _=>rfl) ⟨Nat.zero_le _,⟨rfl,hl,fun _ _=>rfl,by simp [val],Nat.zero_le _⟩,hw⟩ ?_
 rintro ⟨i,c,cur,cu⟩ G hG ⟨hi,hinv,hcu⟩
 dsimp only at hi hinv hcu
 try refine RUN ?_
 by_cases hlt:i<l.length
 ·rw [lt_dec _ _ hlt]
  have hil:i<cur.length:=by rw [hinv.len];exact hlt
  have hcx:=hcu.2 i hil
  try refine RUN ?_
  refine EV.meet (fun env' bx' H'=>SubL env' [(0,.v (.slice (some ⟨b,off,none⟩) l.length cap)),(1,.v (.slice (some ⟨b',off',none⟩) m.length cap')),(5,.v (n64 c)),(6,.v (.int .i64 (i:Int))),(7,.v (n64 (m.getD i 0))),(9,.v (.int .i64 (l.length:Int))),(10,.v (.int .i64 (i:Int)))]∧H'=⟨G,[(b,T,cu),(b',T',cs')],⟨H,[b,b']⟩⟩) ?_ ?_
  ·rintro env' bx' H' _ ⟨he,rfl⟩
   refine EV.less _ [] he trivial rfl ?_
   try refine RUN ?_
   refine EVL.idxO tO rfl rfl rfl rfl rfl rfl rfl rfl rfl rfl (i) (rfl) (hlt) ?_
   refine EVL.load1 tO rfl rfl rfl rfl rfl rfl rfl rfl (0) rfl (hcx) ?_
   try refine RUN ?_
   refine EVL.ext rfl rfl rfl rfl rfl (fun W=>sub64_run (cur.getD i 0) (m.getD i 0) c W hinv.carry) ?_
   try refine RUN ?_
   refine EVL.idxO tO rfl rfl rfl rfl rfl rfl rfl rfl rfl rfl (i) (rfl) (hlt) ?_
   refine EVL.setO tO rfl rfl rfl rfl rfl rfl rfl ([]) rfl rfl rfl ((by have:=hcu.1;omega)) ?_
   try refine RUN ?_
   refine ⟨(i+1,subHi (cur.getD i 0) (m.getD i 0) c,cur.set i (subLo (cur.getD i 0) (m.getD i 0) c),cu.set (off+i) (n64 (subLo (cur.getD i 0) (m.getD i 0) c))),⟨rfl,rfl,rfl,rfl,?_,trivial⟩,trivial,rfl,⟨by dsimp only;omega,hinv.step hlt hm,hcu.set i _ hil⟩,Hp.Le.refl _,by dsimp only;omega⟩
   rw [wi_inc i (by omega)];rfl
  ·by_cases hlm:i<m.length
   ·rw [lt_dec _ _ hlm]
    try refine RUN ?_
    refine EVL.idxO tO rfl rfl rfl rfl rfl rfl rfl rfl rfl rfl (i) (rfl) (hlm) ?_
    refine EVL.load1 tO rfl rfl rfl rfl rfl rfl rfl rfl (1) rfl (hw'.2 i hlm) ?_
    try refine RUN ?_
    exact ⟨⟨rfl,rfl,rfl,rfl,rfl,rfl,rfl,trivial⟩,rfl⟩
   ·rw [lt_dec' _ _ hlm]
    try refine RUN ?_
    refine ⟨⟨rfl,rfl,rfl,rfl,?_,rfl,rfl,trivial⟩,rfl⟩
    rw [show m.getD i 0=0 by simp [Nat.not_lt.1 hlm]]
    rfl
 ·rw [lt_dec' _ _ hlt]
  obtain rfl:i=l.length:=by omega
  have hfin:=hinv.sum
  have hlen:=hinv.len
  rw [List.take_of_length_le oM,List.take_of_length_le (Nat.le_refl _),List.take_of_length_le (by omega)] at hfin
  have hlt2:=val_lt hinv.dig
  rw [hlen] at hlt2
  have hc0:c=0:=by
   have:=hinv.carry
   rcases Nat.eq_zero_or_pos c with e | e
   ·exact e
   ·exfalso
    have h1:c=1:=by omega
    rw [h1,Nat.one_mul] at hfin
    have h2:=val_lt hm
    have h3:W64 ^ m.length≤W64 ^ l.length:=Nat.pow_le_pow_right (by decide) hml
    omega
  rw [hc0,Nat.zero_mul,Nat.add_zero] at hfin
  try refine RUN ?_
  have ht:=wtrim_pw (H:=G) (b:=b) (T:=T) (cap:=cap) hcu oM oM
  rw [hlen] at ht
  refine EVL.callW rfl rfl rfl rfl rfl ([(b,T,cu)]) ([(b',T',cs')]) rfl (ht) ?_
  rintro v ow H' ⟨rfl,rfl⟩ hle
  try refine RUN ?_
  refine ⟨cu,trimL cur,rfl,?_,trimL_norm hinv.dig,?_,rfl,?_⟩
  ·have:=hcu.take (trimL cur).length
   rwa [trimL_take] at this
  ·have:=trimL_length_le cur;omega
  ·rw [trimL_val];omega
end Go.Proofs.YtgjepkeeeemppaaGreatDoor
namespace Go.Proofs.YtgjepkeeeemppaaGreatDoor
open Go.RowKit
def Tryz.lays7n29_ren:Go.Shelf.Ren:=⟨fun | 29=>196 | n=>n,fun | 0=>0 | 3=>3 | 4=>4 | 5=>5 | 22=>22 | 25=>173 | 54=>272 | n=>n,fun | 1=>2 | n=>n⟩
theorem Tryz.lays7n29:Go.Proofs.Lays7.n29 Tryz.prog Tryz.lays7n29_ren:={
 mixed:=by kernel_rfl
 f29:=Tryz.func196.trans (congrArg some kR)
 t0:=by kernel_rfl
 a0:=fun _=>by kernel_rfl
 z0:=fun _=>by kernel_rfl
 v0:=fun _=>by kernel_rfl
 i0:=by kernel_rfl
 t3:=by kernel_rfl
 a3:=fun _=>by kernel_rfl
 z3:=fun _=>by kernel_rfl
 v3:=fun _=>by kernel_rfl
 i3:=by kernel_rfl
 t4:=by kernel_rfl
 a4:=fun _=>by kernel_rfl
 z4:=fun _=>by kernel_rfl
 v4:=fun _=>by kernel_rfl
 i4:=by kernel_rfl
 t5:=by kernel_rfl
 a5:=fun _=>by kernel_rfl
 z5:=fun _=>by kernel_rfl
 v5:=fun _=>by kernel_rfl
 i5:=by kernel_rfl
 t22:=by kernel_rfl
 a22:=fun _=>by kernel_rfl
 z22:=fun _=>by kernel_rfl
 v22:=fun _=>by kernel_rfl
 i22:=by kernel_rfl
 t25:=by kernel_rfl
 a25:=fun _=>by kernel_rfl
 z25:=fun _=>by kernel_rfl
 v25:=fun _=>by kernel_rfl
 i25:=by kernel_rfl
 t54:=by kernel_rfl
 a54:=fun _=>by kernel_rfl
 z54:=fun _=>by kernel_rfl
 g1:=by kernel_rfl }
theorem tz_pv (x:Nat) (hx:x<W64):PV Tryz.prog 196 #[n64 x] (.int .i64 (Lib.ctz 64 x:Int)):=by
 refine ⟨(cO Tryz.func196),fun W hg=>?_⟩
 refine (Any7.bits_TrailingZeros64 Tryz.lays7n29 x hx W (fun _ j hj=>?_)).mono fun e W' ⟨he,hW⟩=>⟨he,by rw [hW];exact Below.refl _ _⟩
 have hgH:gH 2=some (Lib.deBruijn64tab.map fun (z:Nat)=>Value.int .u8 (z:Int)).toArray:=by unfold gH;rw [Nat.beq_refl]
 obtain ⟨T,fz,hc⟩:=hg _ _ hgH
 have:=cell_of_row W 2 j _ T fz hc
 refine this.trans ?_
 simp only [List.getElem?_toArray,List.getElem?_map,List.getD_eq_getElem?_getD,List.getElem?_eq_getElem hj]
 rfl
end Go.Proofs.YtgjepkeeeemppaaGreatDoor
namespace Go.Proofs.YtgjepkeeeemppaaGreatDoor
open Go.RowKit _root_.Go.Proofs.Tryz
theorem wzeros_pw {H:Hp} {b off cap:Nat} {T:TypeId} {cs:List Value} {l:List Nat} (hw:Wn cs off l) (hl:Dig W64 l) (hll:l.length≤100000000) (h0:val W64 l≠0) :
  PW prog 170 #[.slice (some ⟨b,off,none⟩) l.length cap] H [(b,T,cs)] fun v ow _=>ow=[(b,T,cs)]∧∃ z m:Nat,v=.int .i64 (z:Int)∧val W64 l=2 ^ z*m∧m % 2=1∧z<64*l.length:=by
 refine PW.body tO func170 rfl kR ntmps170 rfl rfl ?_
 try refine RUN ?_
 refine EV.loop (ι:=Nat) (fun i=>[(0,.v (.slice (some ⟨b,off,none⟩) l.length cap)),(3,.v (.int .i64 (i:Int)))]) (fun _=>[]) (fun _=>[(b,T,cs)])
  (fun i _=>∀ j,j<i→l.getD j 0=0) (fun i=>l.length-i) 0 ⟨rfl,rfl,trivial⟩ trivial rfl (fun _=>rfl) (fun j hj=>absurd hj (Nat.not_lt_zero _)) ?_
 rintro i G hG hz
 have hi:i<l.length:=by
  refine Nat.lt_of_not_le fun h=>h0 ?_
  have:=val_take_zero (B:=W64) i hz
  rwa [List.take_of_length_le h] at this
 have hx:=hw.2 i hi
 try refine RUN ?_
 refine EVL.idxO tO rfl rfl rfl rfl rfl rfl rfl rfl rfl rfl (i) (rfl) (hi) ?_
 refine EVL.load1 tO rfl rfl rfl rfl rfl rfl rfl rfl (0) rfl (hx) ?_
 try refine RUN ?_
 by_cases hxz:l.getD i 0=0
 ·rw [hxz,show (((0:Nat):Int) == 0)=true from rfl]
  try refine RUN ?_
  refine ⟨i+1,⟨rfl,?_,trivial⟩,trivial,rfl,fun j hj=>?_,Hp.Le.refl _,by omega⟩
  ·rw [wi_inc i (by omega)];rfl
  ·by_cases e:j=i
   ·subst e;exact hxz
   ·exact hz j oM
 ·rw [show (((l.getD i 0:Nat):Int) == 0)=false by simpa using hxz]
  obtain ⟨m,hv,hm,hc⟩:=zeros_val hl hz hxz
  have htz:=tz_pv (l.getD i 0) (hl.getD (by decide) i)
  try refine RUN ?_
  refine EVL.idxO tO rfl rfl rfl rfl rfl rfl rfl rfl rfl rfl (i) (rfl) (hi) ?_
  refine EVL.load1 tO rfl rfl rfl rfl rfl rfl rfl rfl (0) rfl (hx) ?_
  repeat (first | refine RUN ?_ | refine CV (htz) ?_ | refine CE (htz) ?_)
  refine ⟨rfl,64*i+Lib.ctz 64 (l.getD i 0),m,?_,hv,hm,by omega⟩
  rw [show IntKind.i64.wrap (64*(i:Int))=((64*i:Nat):Int) from wi_mul 64 i oM,wi_add _ _ (by omega)]
theorem take_set_drop {α:Type} (s m:List α) (i:Nat) (h:i<s.length) (hl:s.length=m.length):(s.take i++m.drop i).set i s[i]=s.take (i+1)++m.drop (i+1):=by
 have hm:i<m.length:=by omega
 rw [List.set_append_right _ _ (by rw [List.length_take];omega),List.length_take,Nat.min_eq_left oM,Nat.sub_self,List.drop_eq_getElem_cons hm,List.set_cons_zero,List.take_succ_eq_append_getElem h,List.append_assoc];rfl
theorem mix_getD (s m:List Nat) (i j:Nat) (hl:s.length=m.length) (h:i≤j):(s.take i++m.drop i).getD j 0=m.getD j 0:=by
 by_cases hi:i≤s.length
 ·rw [List.getD_eq_getElem?_getD,List.getElem?_append_right (by rw [List.length_take];omega),List.length_take,Nat.min_eq_left hi,List.getElem?_drop,show i+(j-i)=j by omega,← List.getD_eq_getElem?_getD]
 ·rw [List.getD_eq_getElem?_getD,List.getElem?_eq_none (by simp;omega),List.getD_eq_getElem?_getD,List.getElem?_eq_none (by omega)]
theorem wdown_pw {H:Hp} {b off cap:Nat} {T:TypeId} {cs:List Value} {l:List Nat} (hw:Wn cs off l) (hl:Dig W64 l) (hll:l.length≤100000000) (hc:l.length≤cap) (h0:val W64 l≠0) :
  PW prog 171 #[.slice (some ⟨b,off,none⟩) l.length cap] H [(b,T,cs)] fun v ow _=>∃ cs1 off1 cap1 r z,ow=[(b,T,cs1)]∧Wn cs1 off1 r∧Norm W64 r∧r.length≤l.length∧r.length≤cap1∧v=.slice (some ⟨b,off1,none⟩) r.length cap1∧val W64 l=2 ^ z*val W64 r∧val W64 r % 2=1:=by
 refine PW.body tO func171 rfl kR ntmps171 rfl rfl ?_
 try refine RUN ?_
 refine EVL.callW rfl rfl rfl rfl rfl ([(b,T,cs)]) ([]) rfl (wzeros_pw hw hl hll h0) ?_
 rintro v ow H' ⟨rfl,z,m,rfl,hv,hm,hz⟩ hle
 have hz0:z / 64<l.length:=by omega
 try refine RUN ?_
 refine EVL.asI (((z / 64:Nat):Int)) (wi_quo z 64 oM) ?_
 try refine RUN ?_
 refine EVL.slc tO rfl rfl rfl rfl rfl rfl rfl rfl (z / 64) l.length (.inr ⟨_,IntKind.i64,rfl,rfl⟩) (.inl ⟨rfl,rfl⟩) oM hc hc ?_
 refine EVL.as (congrArg SV.v (slc_suf b off (z / 64) l.length cap oM)) ?_
 try refine RUN ?_
 rw [show (z:Int).tmod 64=((z % 64:Nat):Int) from wi_rem z 64]
 generalize hq:z / 64=q at *
 generalize hp:z % 64=p at *
 have hpz:z=64*q+p:=by omega
 have hp64:p<64:=by omega
 have hlen:(l.drop q).length=l.length-q:=List.length_drop ..
 have hwd:=hw.drop q oM
 have hld:Dig W64 (l.drop q):=hl.drop q
 have hvs:=val_shr l q p hl hp64 oM
 rw [← hpz] at hvs
 have hdiv:val W64 l / 2 ^ z=m:=by rw [hv];exact Nat.mul_div_cancel_left _ (Nat.pow_pos (by decide))
 rw [hdiv] at hvs
 rw [← hlen]
 generalize l.drop q=d at *
 have hsl:=shrL_length p d
 have hsD:=shrL_dig p hp64 hld
 refine EV.loop (ι:=Nat × List Value) (fun s=>[(0,.v (.slice (some ⟨b,off+q,none⟩) d.length (cap-q))),(4,.v (.int .i64 (p:Int))),(15,.v (.int .i64 (d.length:Int))),(16,.v (.int .i64 (s.1:Int)))]) (fun _=>[]) (fun s=>[(b,T,s.2)])
  (fun s _=>s.1≤d.length∧Wn s.2 (off+q) ((shrL p d).take s.1++d.drop s.1)) (fun s=>d.length-s.1) (0,cs) ⟨rfl,rfl,rfl,rfl,trivial⟩ trivial rfl (fun _=>rfl) ⟨Nat.zero_le _,by simpa using hwd⟩ ?_
 rintro ⟨i,cu⟩ G hG ⟨hi,hcu⟩
 dsimp only at hi hcu
 try refine RUN ?_
 by_cases hlt:i<d.length
 ·rw [lt_dec _ _ hlt]
  have hil:i<((shrL p d).take i++d.drop i).length:=by simp;omega
  have hcx:=hcu.2 i hil
  rw [mix_getD _ _ i i hsl (Nat.le_refl _)] at hcx
  have hx:=hld.getD (by decide) i
  have hnew:=shrL_get p d i oM
  have hset:=take_set_drop (shrL p d) d i oM hsl
  have hb1:off+q+i<cu.length:=by have:=hcu.1;omega
  rw [hnew] at hset
  try refine RUN ?_
  refine EVL.idxO tO rfl rfl rfl rfl rfl rfl rfl rfl rfl rfl (i) (rfl) (hlt) ?_
  refine EVL.load1 tO rfl rfl rfl rfl rfl rfl rfl rfl (0) rfl (hcx) ?_
  try refine RUN ?_
  rw [show min p IntKind.u64.bits=p from Nat.min_eq_left (by show p≤64;omega),wu_shr]
  refine EVL.idxO tO rfl rfl rfl rfl rfl rfl rfl rfl rfl rfl (i) (rfl) (hlt) ?_
  refine EVL.setO tO rfl rfl rfl rfl rfl rfl rfl ([]) rfl rfl rfl (hb1) ?_
  have hcu1:=hcu.set i (d.getD i 0 / 2 ^ p) hil
  try refine RUN ?_
  rw [wi_inc i (by omega)]
  by_cases hl1:i+1<d.length
  ·rw [lt_dec _ _ hl1]
   have hy:=hcu1.2 (i+1) (by simp;omega)
   rw [getD_set_ne _ _ _ _ oM,mix_getD _ _ i (i+1) hsl (by omega)] at hy
   have hx1:=hcu1.2 i (by simp;omega)
   rw [getD_set_eq _ _ _ hil] at hx1
   try refine RUN ?_
   apply EV.drawn 13 kR kR;intro xv yw
   (repeat (first | refine' DV ?_ | refine' DA ?_ | refine' DK0 ?_ | refine' DT ?_ | refine' DS ?_))
   refine' DJ.ofVal (ValOk.idxO tO rfl rfl rfl rfl rfl rfl rfl rfl (i) (rfl) (hlt)) rfl rfl rfl ?_;rotate_left
   refine' DJ.ofVal (ValOk.load1 tO rfl rfl rfl rfl rfl rfl (0) rfl (hx1)) rfl rfl rfl ?_;rotate_left
   (repeat (first | refine' DV ?_ | refine' DA ?_ | refine' DK0 ?_ | refine' DT ?_ | refine' DS ?_))
   refine' DJ.ofVal (ValOk.idxO tO rfl rfl rfl rfl rfl rfl rfl rfl (i+1) (wi_inc i oM) (hl1)) rfl rfl rfl ?_;rotate_left
   refine' DJ.ofVal (ValOk.load1 tO rfl rfl rfl rfl rfl rfl (0) rfl (hy)) rfl rfl rfl ?_;rotate_left
   (repeat (first | refine' DV ?_ | refine' DA ?_ | refine' DK0 ?_ | refine' DT ?_ | refine' DS ?_))
   refine' DJ.ofVal (ValOk.shl rfl rfl rfl rfl (by rw [IntKind.wrap_i64];omega)) rfl rfl rfl ?_;rotate_left
   (repeat (first | refine' DV ?_ | refine' DA ?_ | refine' DK0 ?_ | refine' DT ?_ | refine' DS ?_))
   (refine DJ.nil (fun G hG hF=>?_);(case hS|hS2=>rfl))
   try refine RUN ?_
   rw [show IntKind.i64.wrap (64-(p:Int))=((64-p:Nat):Int) by rw [IntKind.wrap_i64];omega,Int.toNat_natCast,show min (64-p) IntKind.u64.bits=64-p from Nat.min_eq_left (by show _≤64;omega)]
   refine EVL.idxO tO rfl rfl rfl rfl rfl rfl rfl rfl rfl rfl (i) (rfl) (hlt) ?_
   refine EVL.setO tO rfl rfl rfl rfl rfl rfl rfl ([]) rfl rfl rfl ((by rw [List.length_set];exact hb1)) ?_
   try refine RUN ?_
   have hw2:=(shr_word (d.getD i 0) (d.getD (i+1) 0) p hp64 hx).1
   have hcu2:=hcu1.set i (d.getD i 0 / 2 ^ p+d.getD (i+1) 0*2 ^ (64-p) % W64) (by simpa using hil)
   rw [List.set_set,List.set_set,hset] at hcu2
   refine ⟨(i+1,cu.set (off+q+i) (n64 (d.getD i 0 / 2 ^ p+d.getD (i+1) 0*2 ^ (64-p) % W64))),⟨rfl,rfl,rfl,?_,trivial⟩,trivial,?_,⟨by dsimp only;omega,hcu2⟩,hG,by dsimp only;omega⟩
   ·rw [wi_inc i (by omega)];rfl
   ·dsimp only
    refine (congrArg (fun c=>[(b,T,c)]) (List.set_set ..)).trans ?_
    exact congrArg (fun v=>[(b,T,cu.set (off+q+i) v)]) (congrArg (Value.int .u64) hw2)
  ·rw [lt_dec' _ _ hl1]
   try refine RUN ?_
   rw [show d.getD (i+1) 0=0 by simp [Nat.not_lt.1 hl1],Nat.zero_mul,Nat.zero_mod,Nat.add_zero] at hset
   rw [hset] at hcu1
   refine ⟨(i+1,cu.set (off+q+i) (n64 (d.getD i 0 / 2 ^ p))),⟨rfl,rfl,rfl,?_,trivial⟩,trivial,rfl,⟨by dsimp only;omega,hcu1⟩,Hp.Le.refl _,by dsimp only;omega⟩
   rw [wi_inc i (by omega)];rfl
 ·rw [lt_dec' _ _ hlt]
  obtain rfl:i=d.length:=by omega
  rw [List.take_of_length_le oM,List.drop_of_length_le (Nat.le_refl _),List.append_nil] at hcu
  have ht:=wtrim_pw (H:=G) (b:=b) (T:=T) (cap:=cap-q) hcu oM oM
  rw [hsl] at ht
  try refine RUN ?_
  refine EVL.callW rfl rfl rfl rfl rfl ([(b,T,cu)]) ([]) rfl (ht) ?_
  rintro v ow H2 ⟨rfl,rfl⟩ hle2
  try refine RUN ?_
  have htl:=trimL_length_le (shrL p d)
  refine ⟨cu,off+q,cap-q,trimL (shrL p d),z,rfl,?_,trimL_norm hsD,by omega,by omega,rfl,?_,?_⟩
  ·have:=hcu.take (trimL (shrL p d)).length
   rwa [trimL_take] at this
  ·rw [trimL_val,hvs,hv]
  ·rw [trimL_val,hvs,hm]
theorem wwords_pw (n:Nat) (hn:big n) (H:Hp):PW prog 169 #[natV n] H [] fun v ow _=>∃ g,v=.slice (some ⟨g,0,none⟩) (dig W64 n).length (dig W64 n).length∧ow=[(g,22,(dig W64 n).map n64)]:=by
 have hol:(octs n).length=(bl n+7) / 8:=by
  have:=dig_len_bits 8 n oM;rw [show (2:Nat) ^ 8=256 by decide] at this;rw [octs_length,this];omega
 have hwl:(dig W64 n).length=((octs n).length+7) / 8:=by
  have:=dig_len_bits 64 n oM
  rw [← W64_pow] at this
  rw [this,hol];omega
 have hD:=octs_dig n
 have hfin:pk 8 256 (octs n).reverse (dig W64 n).length=dig W64 n:=pk_octs n _ rfl (by rw [← octs_length];omega)
 have hb:=natBytes_pc n hn
 refine PW.body tO func169 rfl kR ntmps169 rfl rfl ?_
 try refine RUN ?_
 refine EVL.call rfl rfl rfl rfl rfl (hb _) ?_
 rintro v H1 hs hle
 generalize hm:(dig W64 n).length=m at *
 generalize dig W64 n=dn at *
 generalize octs n=l at *
 obtain ⟨a,cap,rfl⟩:=SlC.val hs
 try refine RUN ?_
 rw [show IntKind.i64.wrap ((l.length:Int)+7)=((l.length+7:Nat):Int) from wi_add _ 7 (by omega)]
 refine EVL.asI ((m:Int)) ((by rw [hwl];exact wi_quo _ 8 oM)) ?_
 refine EVL.make tO rfl rfl rfl rfl rfl rfl rfl rfl rfl (m) (rfl) oM (by rfl) (by rfl) fun g=>?_
 try refine RUN ?_
 have e0:(List.replicate m (Tryz.te22.zero)).flatten=(pk 8 256 (l.reverse.take 0) m).map n64:=by
  rw [List.take_zero,pk_nil,List.map_replicate];rw [show (Tryz.te22.zero)=[n64 0] from rfl];simp
 rw [e0]
 refine EV.loop (ι:=Nat) (fun i=>[(3,.v (.slice a l.length cap)),(4,.v (.slice (some ⟨g,0,none⟩) m m)),(14,.v (.int .i64 (l.length:Int))),(15,.v (.int .i64 (i:Int)))]) (fun _=>[]) (fun i=>[(g,22,(pk 8 256 (l.reverse.take i) m).map n64)])
  (fun i G=>i≤l.length∧SlN n8 G (.slice a l.length cap) l) (fun i=>l.length-i) 0 ⟨rfl,rfl,rfl,rfl,trivial⟩ trivial rfl (fun _=>rfl) ⟨Nat.zero_le _,hs⟩ ?_
 rintro i G hG ⟨hi,hs⟩
 try refine RUN ?_
 by_cases hlt:i<l.length
 ·have him:i / 8<m:=by omega
  have hrl:(l.reverse.take i).length=i:=by rw [List.length_take,List.length_reverse];omega
  have hx:l.getD (l.length-1-i) 0<256:=hD.getD (by decide) _
  have hxs:(l.map n8)[l.length-1-i]?=some (n8 (l.getD (l.length-1-i) 0)):=map_at oM
  have hcur:((pk 8 256 (l.reverse.take i) m).map n64)[i / 8]?=some (n64 ((pk 8 256 (l.reverse.take i) m).getD (i / 8) 0)):=map_at (by rw [pk_length];exact him)
  have hlow:=pk_low (K:=8) (B:=256) (by decide) ((hD.rev).take i) m (by rw [hrl];omega)
  rw [hrl] at hlow
  have hsn:=pk_snoc (K:=8) (B:=256) (l:=l.reverse.take i) (by decide) m (l.getD (l.length-1-i) 0) (by rw [hrl];omega)
  rw [hrl] at hsn
  rw [lt_dec _ _ hlt]
  try refine RUN ?_
  apply EV.drawn 18 kR kR;intro xv yw
  (repeat (first | refine' DV ?_ | refine' DA ?_ | refine' DK0 ?_ | refine' DT ?_ | refine' DS ?_))
  refine' DJ.ofVal (ValOk.idxP1 tO rfl rfl rfl rfl rfl rfl rfl rfl (i / 8) (q8 i oM) him) rfl rfl rfl ?_;rotate_left
  refine' DJ.ofVal (ValOk.load1 tO rfl rfl rfl rfl rfl rfl (0) rfl (hcur)) rfl rfl rfl ?_;rotate_left
  (repeat (first | refine' DV ?_ | refine' DA ?_ | refine' DK0 ?_ | refine' DT ?_ | refine' DS ?_))
  refine' DJ.ofVal (ValOk.idx1 tO rfl rfl rfl rfl rfl rfl rfl rfl (hs) (l.length-1-i) (back _ _ hlt oM) oM (hxs)) rfl rfl rfl ?_;rotate_left
  (repeat (first | refine' DV ?_ | refine' DA ?_ | refine' DK0 ?_ | refine' DT ?_ | refine' DS ?_))
  refine' DJ.ofVal (ValOk.shl rfl rfl rfl rfl (by rw [r8];omega)) rfl rfl rfl ?_;rotate_left
  (refine DJ.nil (fun G hG hF=>?_);(case hS|hS2=>rfl))
  rw [r8,Int.toNat_natCast]
  try refine RUN ?_
  rw [byte_or _ _ _ (by rw [Nat.pow_mul];exact hlow) hx (by omega)]
  refine EVL.idx0 tO rfl rfl rfl rfl rfl rfl rfl rfl rfl rfl (i / 8) (q8 i oM) (him) ?_
  refine EVL.setO tO rfl rfl rfl rfl rfl rfl rfl ([]) rfl rfl rfl ((by rw [List.length_map,pk_length];exact him)) ?_
  try refine RUN ?_
  have hnext:l.reverse.take (i+1)=l.reverse.take i++[l.getD (l.length-1-i) 0]:=by
   rw [List.take_succ_eq_append_getElem (by rw [List.length_reverse];exact hlt),List.getElem_reverse,List.getD_eq_getElem?_getD,List.getElem?_eq_getElem (show l.length-1-i<l.length by omega)];rfl
  refine ⟨i+1,⟨rfl,rfl,rfl,?_,trivial⟩,trivial,?_,⟨by omega,hs.mono hG⟩,hG,by omega⟩
  ·rw [wi_inc i (by omega)];rfl
  ·rw [hnext,hsn,List.map_set,show (256:Nat) ^ (i % 8)=2 ^ (8*(i % 8)) by rw [Nat.pow_mul]];rfl
 ·rw [lt_dec' _ _ hlt]
  obtain rfl:i=l.length:=by omega
  rw [List.take_of_length_le (by rw [List.length_reverse];exact Nat.le_refl _),hfin]
  try refine RUN ?_
  exact ⟨g,rfl,rfl⟩
theorem wnumber_pw {H:Hp} {b off cap:Nat} {T:TypeId} {cs:List Value} {l:List Nat} (hw:Wn cs off l) (hl:Dig W64 l) (hll:l.length≤20000000) :
  PW prog 174 #[.slice (some ⟨b,off,none⟩) l.length cap] H [(b,T,cs)] fun v ow _=>ow=[(b,T,cs)]∧v=natV (val W64 l):=by
 refine PW.body tO func174 rfl kR ntmps174 rfl rfl ?_
 try refine RUN ?_
 rw [show IntKind.i64.wrap (8*(l.length:Int))=((8*l.length:Nat):Int) from wi_mul 8 l.length (by omega)]
 generalize hN:8*l.length=N at *
 refine EVL.make tO rfl rfl rfl rfl rfl rfl rfl rfl rfl (N) (rfl) oM (by rfl) (by rfl) fun g=>?_
 refine EVL.apart fun hdist=>?_
 have hgb:b≠g:=fun e=>by
  subst e
  have:=hdist 0 1 b _ _ _ _ rfl rfl
  cases this
 try refine RUN ?_
 have e0:(List.replicate N (Tryz.te5.zero)).flatten=(List.replicate N 0).map n8:=by
  rw [List.map_replicate,show (Tryz.te5.zero)=[n8 0] from rfl];simp
 rw [e0]
 refine EV.loop (ι:=Nat × List Nat) (fun q=>[(2,.p 2 0),(0,.v (.slice (some ⟨b,off,none⟩) l.length cap)),(3,.v (.slice (some ⟨g,0,none⟩) N N)),(10,.v (.int .i64 (N:Int))),(11,.v (.int .i64 (q.1:Int)))]) (fun _=>[(2,63,Tryz.te63.zero)]) (fun q=>[(g,5,q.2.map n8),(b,T,cs)])
  (fun q _=>q.1≤N∧q.2.length=N∧Dig 256 q.2∧∀ j,j<q.1→q.2.getD (N-1-j) 0=val W64 l / 256 ^ j % 256) (fun q=>N-q.1) (0,List.replicate N 0) ⟨rfl,rfl,rfl,rfl,rfl,trivial⟩ ⟨rfl,trivial⟩ rfl (fun _=>rfl) ⟨Nat.zero_le _,by simp,Dig.zeros (by decide) _,fun j hj=>absurd hj (Nat.not_lt_zero _)⟩ ?_
 rintro ⟨i,cur⟩ G hG ⟨hi,hlen,hcD,hcs⟩
 dsimp only at hi hlen hcs hcD
 try refine RUN ?_
 by_cases hlt:i<N
 ·have hwl:i / 8<l.length:=by omega
  have hsub:=val_subdigit (C:=256) (k:=8) (by decide) (by decide) (l:=l) (by rw [← W64_256];exact hl) i
  rw [← W64_256,show (256:Nat) ^ (i % 8)=2 ^ (8*(i % 8)) by rw [Nat.pow_mul]] at hsub
  have hwd:=hl.getD (by decide) (i / 8)
  rw [lt_dec _ _ hlt]
  try refine RUN ?_
  rw [back N i hlt (by omega)]
  refine EVL.asI (((i / 8:Nat):Int)) (q8 i oM) ?_
  refine EVL.idxO tO rfl rfl rfl rfl rfl rfl rfl rfl rfl rfl (i / 8) (rfl) (hwl) ?_
  refine EVL.load1 tO rfl rfl rfl rfl rfl rfl rfl rfl (1) rfl (hw.2 (i / 8) hwl) ?_
  try refine RUN ?_
  rw [r8]
  try refine RUN ?_
  rw [sub_byte _ _ hwd oM,hsub]
  refine EVL.idx0 tO rfl rfl rfl rfl rfl rfl rfl rfl rfl rfl (N-1-i) (rfl) oM ?_
  refine EVL.setO tO rfl rfl rfl rfl rfl rfl rfl ([]) rfl rfl rfl ((by rw [List.length_map,hlen];omega)) ?_
  try refine RUN ?_
  refine ⟨(i+1,cur.set (N-1-i) (val W64 l / 256 ^ i % 256)),⟨rfl,rfl,rfl,rfl,?_,trivial⟩,⟨rfl,trivial⟩,?_,⟨by dsimp only;omega,by dsimp only;rw [List.length_set];exact hlen,hcD.set _ _ (Nat.mod_lt _ (by decide)),fun j hj=>?_⟩,Hp.Le.refl _,by dsimp only;omega⟩
  ·rw [wi_inc i (by omega)];rfl
  ·dsimp only
   rw [List.map_set];rfl
  ·dsimp only at hj ⊢
   by_cases e:j=i
   ·subst e
    exact getD_set_eq _ _ _ oM
   ·rw [getD_set_ne _ _ _ _ (by omega)]
    exact hcs j oM
 ·rw [lt_dec' _ _ hlt]
  obtain rfl:i=N:=by omega
  have hlv:=val_lt hl
  have hb:=bytes_back (val W64 l) i cur (by rw [← hN,Nat.pow_mul,← W64_256];exact hlv) hlen hcs
  try refine RUN ?_
  refine EVL.publish [] [(b,T,cs)] rfl (fun G2 hG2 hg=>?_) (fun k hk=>by
   obtain rfl:k=b:=by simpa [Ows.bs] using hk
   exact hgb)
  have hsl:SlN n8 G2 (.slice (some ⟨g,0,none⟩) i i) cur:=by
   unfold SlN
   rw [hlen]
   exact ⟨by simp [hlen],.inr ⟨g,0,i,_,rfl,Nat.le_refl _,hg,fun j x hj=>by simpa using hj⟩⟩
  have hf:=natFromBytes_pc hsl hcD oM
  rw [hb] at hf
  refine EVL.call rfl rfl rfl rfl rfl (hf) ?_
  rintro v H2 rfl hle
  try refine RUN ?_
  exact ⟨rfl,rfl⟩
structure OW (b off cap:Nat) (cs:List Value) (l:List Nat):Prop where
 at_:Wn cs off l
 norm:Norm W64 l
 cap:l.length≤cap
 len:l.length≤20000000
 odd:val W64 l % 2=1
structure BSt where
 (bv ov cv:Nat) (lv:List Nat) (sv:List Value)
 (bw ow cw:Nat) (lw:List Nat) (sw:List Value)
def BSt.env (q:BSt) (t:Int):Env:=[(4,.p 4 0),(5,.v (.slice (some ⟨q.bv,q.ov,none⟩) q.lv.length q.cv)),(6,.v (.slice (some ⟨q.bw,q.ow,none⟩) q.lw.length q.cw)),(7,.v (.int .i64 t))]
def BSt.own (q:BSt):Ows:=[(q.bv,22,q.sv),(q.bw,22,q.sw)]
structure BSt.ok (q:BSt) (g:Nat):Prop where
 v:OW q.bv q.ov q.cv q.sv q.lv
 w:OW q.bw q.ow q.cw q.sw q.lw
 gcd:Nat.gcd (val W64 q.lv) (val W64 q.lw)=g
theorem odd_pos {n:Nat} (h:n % 2=1):n≠0:=by omega
theorem two_swap {α:Type} (a b:α):List.Perm [a,b] [b,a]:=List.Perm.swap b a []
theorem ordN_zero {a b:Nat} (h:ordN a b=0):a=b:=by
 unfold ordN at h;split at h
 ·cases h
 ·split at h
  ·cases h
  ·omega
theorem natV_cells (n:Nat):natV n=.agg #[.int .u64 (lo n:Int),.string (moreB n)]:=rfl
theorem wbinary_pv (x y:Nat) (hx:x≠0) (hy:y≠0) (hbx':big x) (hby':big y):PV prog 140 #[natV x,natV y] (natV (Nat.gcd x y)):=by
 have lx:(dig W64 x).length≤20000000:=Nat.le_trans (dig_len_big hbx') (by decide)
 have ly:(dig W64 y).length≤20000000:=Nat.le_trans (dig_len_big hby') (by decide)
 have hpx:=fun G=>PO.of_pw ((wwords_pw x hbx' G).mono (Ψ:=fun v ow _=>ow.length≤1∧∃ g,v=.slice (some ⟨g,0,none⟩) (dig W64 x).length (dig W64 x).length∧ow=[(g,22,(dig W64 x).map n64)]) fun v ow H' _ ⟨g,h1,h2⟩=>⟨by rw [h2];simp,g,h1,h2⟩)
 have hpy:=fun G=>PO.of_pw ((wwords_pw y hby' G).mono (Ψ:=fun v ow _=>ow.length≤1∧∃ g,v=.slice (some ⟨g,0,none⟩) (dig W64 y).length (dig W64 y).length∧ow=[(g,22,(dig W64 y).map n64)]) fun v ow H' _ ⟨g,h1,h2⟩=>⟨by rw [h2];simp,g,h1,h2⟩)
 have dx:=dig_norm W64_two x
 have dy:=dig_norm W64_two y
 have vx:=dig_val W64_two x
 have vy:=dig_val W64_two y
 generalize dig W64 x=dgx at *
 generalize dig W64 y=dgy at *
 have hvx0:val W64 dgx≠0:=by rw [vx];exact hx
 have hvy0:val W64 dgy≠0:=by rw [vy];exact hy
 refine PV.of_pc ?_
 refine BD func140 ntmps140 ?_
 try refine RUN ?_
 apply EV.drawn 6 kR kR;intro x1 y1
 (repeat (first | refine' DV ?_ | refine' DA ?_ | refine' DK0 ?_ | refine' DT ?_ | refine' DS ?_))
 refine' DJ.callO rfl rfl rfl rfl rfl (hpx gH).can (fun G _ _=>hpx G) ?_;rotate_left
 (repeat (first | refine' DV ?_ | refine' DA ?_ | refine' DK0 ?_ | refine' DT ?_ | refine' DS ?_))
 refine' DJ.callO rfl rfl rfl rfl rfl (hpy gH).can (fun G _ _=>hpy G) ?_;rotate_left
 refine' DJ.copy (0+1) (.inr rfl) rfl rfl rfl id rfl kR ?_;rotate_left
 refine' DJ.copy (0+1+1+1) (.inr rfl) rfl rfl rfl id rfl kR ?_;rotate_left
 (refine DJ.nil (fun G hG hF=>?_);(case hS|hS2=>rfl))
 obtain ⟨⟨gy,ey,oy⟩,⟨gx,ex,ox⟩,_⟩:=hF
 simp only [ex,ey,ox,oy,id]
 clear hpx hpy ex ey ox oy
 try refine RUN ?_
 refine EVL.permOw [(gx,22,dgx.map n64),(gy,22,dgy.map n64)] (two_swap _ _) ?_
 refine EVL.callW rfl rfl rfl rfl rfl ([(gx,22,dgx.map n64)]) ([(gy,22,dgy.map n64)]) rfl (wzeros_pw (Wn.of dgx) dx.1 oM hvx0) ?_
 rintro v ow H1 ⟨rfl,zx,mx,rfl,hzx,hmx,hzx2⟩ hle1
 try refine RUN ?_
 refine EVL.permOw [(gy,22,dgy.map n64),(gx,22,dgx.map n64)] (two_swap _ _) ?_
 refine EVL.callW rfl rfl rfl rfl rfl ([(gy,22,dgy.map n64)]) ([(gx,22,dgx.map n64)]) rfl (wzeros_pw (Wn.of dgy) dy.1 oM hvy0) ?_
 rintro v ow H2 ⟨rfl,zy,my,rfl,hzy,hmy,hzy2⟩ hle2
 try refine RUN ?_
 rw [show (if (zy:Int)<(zx:Int) then (zy:Int) else (zx:Int))=((min zx zy:Nat):Int) by split <;> omega]
 try refine RUN ?_
 refine EVL.permOw [(gx,22,dgx.map n64),(gy,22,dgy.map n64)] (two_swap _ _) ?_
 refine EVL.callW rfl rfl rfl rfl rfl ([(gx,22,dgx.map n64)]) ([(gy,22,dgy.map n64)]) rfl (wdown_pw (Wn.of dgx) dx.1 oM (Nat.le_refl _) hvx0) ?_
 rintro v ow H3 ⟨sx,ox,cx,rx,zx',rfl,hwx,hnx,hlx,hcx,rfl,hdx,hox⟩ hle3
 try refine RUN ?_
 refine EVL.permOw [(gy,22,dgy.map n64),(gx,22,sx)] (two_swap _ _) ?_
 refine EVL.callW rfl rfl rfl rfl rfl ([(gy,22,dgy.map n64)]) ([(gx,22,sx)]) rfl (wdown_pw (Wn.of dgy) dy.1 oM (Nat.le_refl _) hvy0) ?_
 rintro v ow H4 ⟨sy,oy,cy,ry,zy',rfl,hwy,hny,hly,hcy,rfl,hdy,hoy⟩ hle4
 refine EVL.permOw [(gx,22,sx),(gy,22,sy)] (two_swap _ _) ?_
 have hgcd:Nat.gcd x y=2 ^ min zx zy*Nat.gcd (val W64 rx) (val W64 ry):=by
  have e1:zx=zx':=odd_part (by rw [← hzx,hdx]) hmx hox
  have e2:zy=zy':=odd_part (by rw [← hzy,hdy]) hmy hoy
  subst e1 e2
  rw [← vx,← vy]
  exact gcd_binary _ _ zx zy _ _ hdx hdy hox hoy
 have htw:min zx zy≤1300000000:=by omega
 generalize min zx zy=tw at *
 generalize hg:Nat.gcd (val W64 rx) (val W64 ry)=g at *
 have hbg:big (Nat.gcd x y):=Nat.le_trans (bl_gcd_left x y hx) hbx'
 generalize Nat.gcd x y=gg at *
 try refine RUN ?_
 refine EV.loop (ι:=BSt) (fun q=>q.env (tw:Int)) (fun _=>[(4,63,Tryz.te63.zero)]) (fun q=>q.own) (fun q _=>q.ok g) (fun q=>val W64 q.lv+val W64 q.lw) ⟨gx,ox,cx,rx,sx,gy,oy,cy,ry,sy⟩
  ⟨rfl,rfl,rfl,rfl,trivial⟩ ⟨rfl,trivial⟩ rfl (fun _=>rfl) ⟨⟨hwx,hnx,hcx,Nat.le_trans hlx lx,hox⟩,⟨hwy,hny,hcy,Nat.le_trans hly ly,hoy⟩,hg⟩ ?_
 clear hdx hdy hzx hzy hwx hnx hlx hcx hwy hny hly hcy hox hoy hle1 hle2 hle3 hle4 hg
 rintro ⟨bv,ov,cv,lv,sv,bw,ow,cw,lw,sw⟩ G hG ⟨⟨v1,v2,v3,v4,v5⟩,⟨w1,w2,w3,w4,w5⟩,hgq⟩
 dsimp only at v1 v2 v3 v4 v5 w1 w2 w3 w4 w5 hgq
 unfold BSt.env BSt.own
 dsimp only
 try refine RUN ?_
 refine EVL.callW rfl rfl rfl rfl rfl ([(bv,22,sv),(bw,22,sw)]) ([]) rfl (wcompare_pw v1 w1 v2 w2 oM) ?_
 rintro v ow1 H5 ⟨rfl,rfl⟩ hle5
 try refine RUN ?_
 by_cases hc0:ordN (val W64 lv) (val W64 lw)=0
 ·rw [show (ordN (val W64 lv) (val W64 lw) == 0)=true by rw [hc0];rfl]
  have hvw:=ordN_zero hc0
  rw [← hvw,Nat.gcd_self] at hgq
  try refine RUN ?_
  refine EVL.callW rfl rfl rfl rfl rfl ([(bv,22,sv)]) ([(bw,22,sw)]) rfl (wnumber_pw v1 v2.1 v4) ?_
  rintro v ow2 H6 ⟨rfl,rfl⟩ hle6
  rw [hgq,natV_cells]
  try refine RUN ?_
  refine EV.loop (ι:=Int × Nat) (fun q=>[(4,.p 4 0),(9,.p 9 0),(7,.v (.int .i64 q.1))]) (fun q=>[(9,63,[.int .u64 (lo q.2:Int),.string (moreB q.2)]),(4,63,Tryz.te63.zero)]) (fun _=>[(bv,22,sv),(bw,22,sw)])
   (fun q _=>q.2*2 ^ q.1.toNat=gg∧q.1≤1300000000 ∧ -100000≤q.1) (fun q=>q.1.toNat) ((tw:Int),g) ⟨rfl,rfl,rfl,trivial⟩ ⟨rfl,rfl,trivial⟩ rfl (fun _=>rfl) ⟨by dsimp only;rw [Int.toNat_natCast,hgcd,Nat.mul_comm],by dsimp only;omega,by dsimp only;omega⟩ ?_
  rintro ⟨t,o⟩ G2 hG2 ⟨ht,ht1,ht2⟩
  dsimp only at ht ht1 ht2
  try refine RUN ?_
  by_cases htp:t>0
  ·rw [show decide (t>0)=true by simpa using htp]
   obtain ⟨k,hk,hkt⟩:∃ k:Nat,(if (65536:Int)<t then (65536:Int) else t)=(k:Int)∧k=min t.toNat 65536:=⟨min t.toNat 65536,by split <;> omega,rfl⟩
   have hbo:big o:=by
    refine Nat.le_trans (bl_mono ?_) hbg
    rw [← ht];exact Nat.le_mul_of_pos_right _ (Nat.pow_pos (by decide))
   have hsh:=natShift_up o k oM hbo
   try refine RUN ?_
   rw [hk]
   repeat (first | refine RUN ?_ | refine CV (hsh) ?_ | refine CE (hsh) ?_)
   refine ⟨(t-65536,o*2 ^ k),⟨rfl,rfl,?_,trivial⟩,⟨rfl,rfl,trivial⟩,rfl,⟨?_,by dsimp only;omega,by dsimp only;omega⟩,Hp.Le.refl _,by dsimp only;omega⟩
   ·rw [show IntKind.i64.wrap (t-65536)=t-65536 by rw [IntKind.wrap_i64];omega];rfl
   ·dsimp only
    rw [← ht,Nat.mul_assoc,← Nat.pow_add]
    congr 2
    omega
  ·rw [show decide (t>0)=false by simpa using htp]
   rw [show t.toNat=0 by omega,Nat.pow_zero,Nat.mul_one] at ht
   subst ht
   try refine RUN ?_
   rfl
 ·rw [show (ordN (val W64 lv) (val W64 lw) == 0)=false by simpa using hc0]
  try refine RUN ?_
  refine EV.meet (fun env' bx' H'=>∃ q:BSt,SubL env' (q.env (tw:Int))∧SubX bx' [(4,63,Tryz.te63.zero)]∧H'.ow=q.own∧G.Le H'.ro∧q.ok g∧val W64 q.lw<val W64 q.lv∧val W64 q.lv+val W64 q.lw=val W64 lv+val W64 lw) ?_ ?_
  ·rintro env' bx' ⟨G6,ow6,base6⟩ _ ⟨⟨bv,ov,cv,lv,sv,bw,ow,cw,lw,sw⟩,he,hbx6,how,hleG,⟨⟨v1,v2,v3,v4,v5⟩,⟨w1,w2,w3,w4,w5⟩,hgq⟩,hlt,hsum⟩
   dsimp only at v1 v2 v3 v4 v5 w1 w2 w3 w4 w5 hgq hlt hsum
   refine EV.less _ _ he hbx6 rfl ?_
   unfold BSt.own at how
   dsimp only at how
   subst how
   unfold BSt.env
   dsimp only
   have hlen:lw.length≤lv.length:=by
    refine Nat.le_of_not_lt fun h=>?_
    have:=len_less W64_two v2.1 w2 h
    omega
   try refine RUN ?_
   refine EVL.callW rfl rfl rfl rfl rfl ([(bv,22,sv),(bw,22,sw)]) ([]) rfl (wsubtract_pw v1 w1 v2.1 w2.1 oM hlen v3 oM) ?_
   rintro v ow7 H7 ⟨s7,r7,rfl,hw7,hn7,hl7,rfl,hv7⟩ hle7
   try refine RUN ?_
   refine EVL.callW rfl rfl rfl rfl rfl ([(bv,22,s7)]) ([(bw,22,sw)]) rfl (wdown_pw hw7 hn7.1 oM oM oM) ?_
   rintro v ow8 H8 ⟨s8,o8,c8,r8,z8,rfl,hw8,hn8,hl8,hc8,rfl,hd8,ho8⟩ hle8
   try refine RUN ?_
   have hr:=gcd_round (val W64 lv) (val W64 lw) z8 (val W64 r8) w5 oM (by rw [← hv7];exact hd8)
   have hle9:val W64 r8≤val W64 r7:=by rw [hd8];exact Nat.le_mul_of_pos_left _ (Nat.pow_pos (by decide))
   refine ⟨⟨bv,o8,c8,r8,s8,bw,ow,cw,lw,sw⟩,⟨rfl,rfl,rfl,rfl,trivial⟩,⟨rfl,trivial⟩,rfl,⟨⟨hw8,hn8,hc8,by dsimp only;omega,ho8⟩,⟨w1,w2,w3,w4,w5⟩,by dsimp only;rw [hr];exact hgq⟩,(hleG.trans hle7).trans hle8,?_⟩
   dsimp only
   have:=odd_pos w5
   omega
  ·by_cases hlt:ordN (val W64 lv) (val W64 lw)<0
   ·rw [show decide (ordN (val W64 lv) (val W64 lw)<0)=true by simpa using hlt]
    have hvl:val W64 lv<val W64 lw:=by
     unfold ordN at hlt
     split at hlt
     ·assumption
     ·split at hlt <;> simp at hlt
    refine EV.permOw [(bw,22,sw),(bv,22,sv)] (two_swap _ _) ?_
    try refine RUN ?_
    exact ⟨⟨bw,ow,cw,lw,sw,bv,ov,cv,lv,sv⟩,⟨rfl,rfl,rfl,rfl,trivial⟩,⟨rfl,trivial⟩,rfl,hle5,⟨⟨w1,w2,w3,w4,w5⟩,⟨v1,v2,v3,v4,v5⟩,by dsimp only;rw [Nat.gcd_comm];exact hgq⟩,hvl,Nat.add_comm _ _⟩
   ·rw [show decide (ordN (val W64 lv) (val W64 lw)<0)=false by simpa using hlt]
    have hvl:val W64 lw<val W64 lv:=by
     unfold ordN at hlt hc0
     split at hlt
     ·simp at hlt
     ·rename_i h1
      rw [if_neg h1] at hc0
      split at hc0
      ·assumption
      ·simp at hc0
    try refine RUN ?_
    exact ⟨⟨bv,ov,cv,lv,sv,bw,ow,cw,lw,sw⟩,⟨rfl,rfl,rfl,rfl,trivial⟩,⟨rfl,trivial⟩,rfl,hle5,⟨⟨v1,v2,v3,v4,v5⟩,⟨w1,w2,w3,w4,w5⟩,hgq⟩,hvl,rfl⟩
theorem gcdN_pv (c1 c2:Nat) (h1:big c1) (h2:big c2) (sx sy:Bool) (hsx:c1=0→sx=false) (hsy:c2=0→sy=false) :
  PV prog 99 #[.agg #[.bool sx,.int .u64 (lo c1:Int),.string (moreB c1)],.agg #[.bool sy,.int .u64 (lo c2:Int),.string (moreB c2)]] (natV (Nat.gcd c1 c2)):=by
 refine PV.of_pc ?_
 refine BD func99 ntmps99 ?_
 try refine RUN ?_
 (apply EV.drawn 7 kR kR;intro xv yw;(repeat (first | refine' DV ?_ | refine' DA ?_ | refine' DK0 ?_ | refine' DS ?_));refine DJ.nil (fun G hG hF=>?_);(case hS|hS2=>rfl))
 repeat (first | refine RUN ?_ | refine CV (natCmp_pv c1 c2 h1 h2) ?_ | refine CE (natCmp_pv c1 c2 h1 h2) ?_)
 refine EV.meet (fun env' bx' H'=>∃ u w:Nat,SubL env' [(4,.p 4 0),(5,.p 5 0),(6,.p 6 0)]∧SubX bx' [(4,63,Tryz.te63.zero),(5,63,[.int .u64 (lo u:Int),.string (moreB u)]),(6,63,[.int .u64 (lo w:Int),.string (moreB w)])]∧H'.ow=[]∧w≤u∧big u∧big w∧Nat.gcd u w=Nat.gcd c1 c2) ?_ ?_
 ·rintro env' bx' ⟨G1,ow1,base1⟩ hb ⟨u,w,he,hbx,how,hwu,hu,hw,hg⟩
  obtain rfl:base1=⟨fun _=>none,[]⟩:=hb
  obtain rfl:ow1=[]:=how
  refine EV.less _ _ he hbx rfl ?_
  clear h1 h2 hsx hsy hbx he
  generalize Nat.gcd c1 c2=gg at *
  subst hg
  repeat (first | refine RUN ?_ | refine CV (bits_pv w hw) ?_ | refine CE (bits_pv w hw) ?_)
  rw [bl_zero_iff]
  by_cases hw0:w=0
  ·subst hw0
   rw [decide_eq_true rfl,Nat.gcd_zero_right]
   try refine RUN ?_
   rfl
  ·rw [decide_eq_false hw0]
   repeat (first | refine RUN ?_ | refine CV (natDiv_pv u w hw0 hu hw) ?_ | refine CE (natDiv_pv u w hw0 hu hw) ?_)
   have hm:u % w<w:=Nat.mod_lt _ oM
   have hgr:Nat.gcd u w=Nat.gcd w (u % w):=by rw [Nat.gcd_comm,Nat.gcd_rec,Nat.gcd_comm]
   have hbm:big (u % w):=Nat.le_trans (bl_mod u w) hu
   rw [hgr]
   generalize u % w=r at *
   generalize u / w=qq at *
   clear hgr hwu hu
   rw [natV_cells,natV_cells]
   try refine RUN ?_
   refine EV.less [(4,.p 4 0),(5,.p 5 0),(6,.p 6 0),(8,.p 8 0)] ([(5,63,[.int .u64 (lo u:Int),.string (moreB u)]),(4,63,Tryz.te63.zero),(6,63,[.int .u64 (lo w:Int),.string (moreB w)]),(8,63,[.int .u64 (lo r:Int),.string (moreB r)])]) ⟨rfl,rfl,rfl,rfl,trivial⟩ ⟨rfl,rfl,rfl,rfl,trivial⟩ rfl ?_
   apply EV.drawnS ([(5,63,[.int .u64 (lo u:Int),.string (moreB u)])]) 3 kR kR;intro xv yw
   (repeat (first | refine' DV ?_ | refine' DA ?_ | refine' DK0 ?_ | refine' DT ?_ | refine' DS ?_))
   (refine DJ.nil (fun G hG hF=>?_);(case hS|hS2=>rfl);(case hD=>rfl))
   repeat (first | refine RUN ?_ | refine CV (bits_pv r hbm) ?_ | refine CE (bits_pv r hbm) ?_)
   rw [bl_zero_iff]
   by_cases hr0:r=0
   ·subst hr0
    rw [decide_eq_true rfl,Nat.gcd_zero_right]
    try refine RUN ?_
    rfl
   ·rw [decide_eq_false hr0]
    repeat (first | refine RUN ?_ | refine CV (natSmall_pv w) ?_ | refine CE (natSmall_pv w) ?_)
    by_cases hws:w<W64
    ·have hrs:r<W64:=by omega
     rw [decide_eq_true hws,if_pos hws]
     repeat (first | refine RUN ?_ | refine CV (natSmall_pv r) ?_ | refine CE (natSmall_pv r) ?_)
     rw [decide_eq_true hrs,if_pos hrs]
     try refine RUN ?_
     refine EV.loop (ι:=Nat × Nat) (fun q=>[(4,.p 4 0),(10,.v (n64 q.1)),(12,.v (n64 q.2))]) (fun _=>[(4,63,Tryz.te63.zero)]) (fun _=>[]) (fun q _=>q.1<W64∧q.2<W64∧Nat.gcd q.1 q.2=Nat.gcd w r) (fun q=>q.2) (w,r) ⟨rfl,rfl,rfl,trivial⟩ ⟨rfl,trivial⟩ rfl (fun _=>rfl) ⟨hws,hrs,rfl⟩ ?_
     rintro ⟨m,k⟩ G2 hG2 ⟨hms,hks,hgk⟩
     dsimp only at hms hks hgk
     try refine RUN ?_
     by_cases hk0:k=0
     ·subst hk0
      rw [show decide ((((m,0):Nat × Nat).2:Int)>0)=false from rfl]
      rw [Nat.gcd_zero_right] at hgk
      repeat (first | refine RUN ?_ | refine CV (natOf_pv m hms) ?_ | refine CE (natOf_pv m hms) ?_)
      rw [hgk]
     ·rw [show decide ((((m,k):Nat × Nat).2:Int)>0)=true by simp;omega]
      try refine RUN ?_
      apply EV.drawn 6 kR kR;intro xv yw
      (repeat (first | refine' DV ?_ | refine' DA ?_ | refine' DK0 ?_ | refine' DT ?_ | refine' DS ?_))
      refine' DJ.ofVal (ValOk.rem rfl rfl rfl rfl (show ((k:Nat):Int)≠0 by omega)) rfl rfl rfl ?_;rotate_left
      (repeat (first | refine' DV ?_ | refine' DA ?_ | refine' DK0 ?_ | refine' DT ?_ | refine' DS ?_))
      (refine DJ.nil (fun G hG hF=>?_);(case hS|hS2=>rfl))
      rw [show (((m,k):Nat × Nat).1:Int).tmod (((m,k):Nat × Nat).2:Int)=((m % k:Nat):Int) from wi_rem m k]
      try refine RUN ?_
      refine ⟨(k,m % k),⟨rfl,rfl,rfl,trivial⟩,⟨rfl,trivial⟩,rfl,⟨hks,Nat.lt_of_le_of_lt (Nat.mod_le m k) hms,?_⟩,hG,Nat.mod_lt _ oM⟩
      ·dsimp only
       rw [← hgk,Nat.gcd_comm m k,Nat.gcd_rec k m,Nat.gcd_comm]
    ·rw [decide_eq_false hws]
     repeat (first | refine RUN ?_ | refine CV (wbinary_pv w r hw0 hr0 hw hbm) ?_ | refine CE (wbinary_pv w r hw0 hr0 hw hbm) ?_)
     rfl
 ·by_cases hlt:c1<c2
  ·rw [ordN_lt hlt,show decide ((-1:Int)<0)=true from rfl]
   try refine RUN ?_
   exact ⟨c2,c1,⟨rfl,rfl,rfl,trivial⟩,⟨rfl,rfl,rfl,trivial⟩,rfl,by omega,h2,h1,Nat.gcd_comm _ _⟩
  ·rw [show decide (ordN c1 c2<0)=false by unfold ordN;rw [if_neg hlt];split <;> rfl]
   try refine RUN ?_
   exact ⟨c1,c2,⟨rfl,rfl,rfl,trivial⟩,⟨rfl,rfl,rfl,trivial⟩,rfl,by omega,h1,h2,rfl⟩
theorem gcd_pv (a b:Int) (ha:bigI a) (hb:bigI b):PV prog 99 #[intV a,intV b] (natV (Nat.gcd a.natAbs b.natAbs)) :=
 gcdN_pv a.natAbs b.natAbs ha hb _ _ (fun h=>by simp;omega) (fun h=>by simp;omega)
abbrev frV (n:Int) (d:Nat):Value:=.agg #[.bool (decide (n<0)),.int .u64 (lo n.natAbs:Int),.string (moreB n.natAbs),.int .u64 (lo d:Int),.string (moreB d)]
def dk (d:Nat):Nat:=if d=1 then 0 else d
abbrev fracV (q:Rat):Value:=frV q.num (dk q.den)
theorem dk_one:dk 1=0:=rfl
theorem dk_ne {d:Nat} (h:d≠1):dk d=d:=if_neg h
theorem dk_bl (d:Nat):bl (dk d)≤bl d:=by
 unfold dk;split
 ·rw [bl_zero];omega
 ·exact Nat.le_refl _
theorem dk_zero (q:Rat):dk q.den=0↔q.den=1:=by
 have:=q.den_nz
 unfold dk;split <;> omega
theorem bl_one:bl 1=1:=by have:=bl_pow2 0;simpa using this
theorem bl_eq_one {n:Nat}:bl n=1↔n=1:=by
 constructor
 ·intro h
  have h1:=lt_bl n
  rw [h] at h1
  have:n≠0:=fun e=>by rw [e,bl_zero] at h;omega
  omega
 ·rintro rfl;exact bl_one
theorem beq_bl_one (n:Nat):(((bl n:Nat):Int) == 1)=decide (n=1):=by
 by_cases h:n=1
 ·rw [decide_eq_true h,bl_eq_one.2 h];rfl
 ·rw [decide_eq_false h]
  have:bl n≠1:=fun e=>h (bl_eq_one.1 e)
  simp;omega
theorem frV_zero (n:Int):frV n 0=.agg #[.bool (decide (n<0)),.int .u64 (lo n.natAbs:Int),.string (moreB n.natAbs),.int .u64 0,.string ⟨#[]⟩]:=by
 unfold frV
 rw [moreB_empty (n:=0) (by decide)];rfl
theorem pack_pv (n:Int) (d:Nat) (hd:big d):PV prog 101 #[intV n,natV d] (frV n (dk d)):=by
 refine PV.of_pc ?_
 refine BD func101 ntmps101 ?_
 repeat (first | refine RUN ?_ | refine CV (bits_pv d hd) ?_ | refine CE (bits_pv d hd) ?_)
 rw [beq_bl_one]
 by_cases h:d=1
 ·rw [decide_eq_true h]
  try refine RUN ?_
  rw [h,dk_one,frV_zero]
 ·rw [decide_eq_false h]
  try refine RUN ?_
  rw [dk_ne h]
theorem over_pv (a b:Nat) (ha:big a) (hb:big b) (h0:b≠0):PV prog 103 #[natV a,natV b] (natV (a / b)):=by
 refine PV.of_pc ?_
 refine BD func103 ntmps103 ?_
 repeat (first | refine RUN ?_ | refine CV (bits_pv b hb) ?_ | refine CE (bits_pv b hb) ?_)
 rw [beq_bl_one]
 by_cases h:b=1
 ·rw [decide_eq_true h]
  try refine RUN ?_
  rw [h,Nat.div_one]
 ·rw [decide_eq_false h]
  repeat (first | refine RUN ?_ | refine CV (natDiv_pv a b h0 ha hb) ?_ | refine CE (natDiv_pv a b h0 ha hb) ?_)
  rfl
theorem part_pv (n:Int) (b:Nat) (hn:bigI n) (hb:big b) (h0:b≠0) (hdv:b ∣ n.natAbs):PV prog 102 #[intV n,natV b] (intV (n / (b:Int))):=by
 have hs:decide (n.sign<0)=decide (n<0):=by rw [decide_eq_decide];exact Int.sign_neg_iff
 have hf:=from_pv (decide (n<0)) (n.natAbs / b) (Nat.le_trans (bl_div _ _) hn)
 have e:sg (decide (n<0)) (n.natAbs / b)=n / (b:Int):=by
  rw [part_eq n b hdv];unfold sg
  by_cases h:n<0 <;> simp [h]
 rw [e] at hf
 refine PV.of_pc ?_
 refine BD func102 ntmps102 ?_
 try refine RUN ?_
 apply EV.drawn 7 kR kR;intro xv yw
 (repeat (first | refine' DV ?_ | refine' DA ?_ | refine' DK0 ?_ | refine' DT ?_ | (refine' DC (wholeSign_pv n hn) (h:=?_);rotate_left) | refine' DS ?_))
 rw [hs]
 (repeat (first | refine' DV ?_ | refine' DA ?_ | refine' DK0 ?_ | refine' DT ?_ | (refine' DC (wholeAbs_pv n) (h:=?_);rotate_left) | (refine' DC (over_pv _ _ hn hb h0) (h:=?_);rotate_left) | refine' DS ?_))
 (refine DJ.nil (fun G hG hF=>?_);(case hS|hS2=>rfl))
 repeat (first | refine RUN ?_ | refine CV (hf) ?_ | refine CE (hf) ?_)
 rfl
theorem times_pv (n:Int) (d:Nat) (hn:bigI n) (hd:big d) (hnd:big (n.natAbs*d)):PV prog 136 #[intV n,natV d] (intV (n*d)):=by
 have hm:=wholeMul_pv n (d:Int) hn hd (by show big (n*(d:Int)).natAbs;rw [Int.natAbs_mul];exact hnd)
 refine PV.of_pc ?_
 refine BD func136 ntmps136 ?_
 try refine RUN ?_
 apply EV.drawn 3 kR kR;intro xv yw
 (repeat (first | refine' DV ?_ | refine' DA ?_ | refine' DK0 ?_ | refine' DT ?_ | (refine' DC (from_pv false d hd) (h:=?_);rotate_left) | refine' DS ?_))
 (refine DJ.nil (fun G hG hF=>?_);(case hS|hS2=>rfl))
 repeat (first | refine RUN ?_ | refine CV (hm) ?_ | refine CE (hm) ?_)
 rfl
theorem isWhole_pv (q:Rat) (h:big q.den):PV prog 97 #[fracV q] (.bool (decide (q.den=1))):=by
 refine PV.of_pc ?_
 refine BD func97 ntmps97 ?_
 repeat (first | refine RUN ?_ | refine CV (bits_pv (dk q.den) (Nat.le_trans (dk_bl _) h)) ?_ | refine CE (bits_pv (dk q.den) (Nat.le_trans (dk_bl _) h)) ?_)
 have e:(((bl (dk q.den):Nat):Int) == 0)=decide (q.den=1):=by
  by_cases h1:q.den=1
  ·rw [decide_eq_true h1,(dk_zero q).2 h1,bl_zero];rfl
  ·rw [decide_eq_false h1]
   have h2:bl (dk q.den)≠0:=fun e=>h1 ((dk_zero q).1 (bl_eq_zero.1 e))
   simp;omega
 rw [e]
theorem den_pv (q:Rat) (h:big q.den):PV prog 100 #[fracV q] (natV q.den):=by
 refine PV.of_pc ?_
 refine BD func100 ntmps100 ?_
 repeat (first | refine RUN ?_ | refine CV (isWhole_pv q h) ?_ | refine CE (isWhole_pv q h) ?_)
 by_cases h1:q.den=1
 ·rw [decide_eq_true h1]
  repeat (first | refine RUN ?_ | refine CV (natOf_pv 1 (by decide)) ?_ | refine CE (natOf_pv 1 (by decide)) ?_)
  rw [h1]
 ·rw [decide_eq_false h1]
  try refine RUN ?_
  rw [dk_ne h1]
theorem sign_pv (q:Rat) (h:bigI q.num):PV prog 22 #[fracV q] (.int .i64 q.num.sign):=by
 refine PV.of_pc ?_
 refine BD func22 ntmps22 ?_
 repeat (first | refine RUN ?_ | refine CV (wholeSign_pv q.num h) ?_ | refine CE (wholeSign_pv q.num h) ?_)
 rfl
theorem num_pv (q:Rat):PV prog 116 #[fracV q] (intV q.num):=by
 refine PV.of_pc ?_
 refine BD func116 ntmps116 ?_
 try refine RUN ?_
 rfl
theorem neg_pv (q:Rat) (h:bigI q.num):PV prog 96 #[fracV q] (fracV (-q)):=by
 refine PV.of_pc ?_
 refine BD func96 ntmps96 ?_
 try refine RUN ?_
 (apply EV.drawn 5 kR kR;intro xv yw;(repeat (first | refine' DV ?_ | refine' DA ?_ | refine' DK0 ?_ | (refine' DC (wholeNeg_pv q.num h) (h:=?_);rotate_left) | refine' DS ?_));refine DJ.nil (fun G hG hF=>?_);(case hS|hS2=>rfl))
 try refine RUN ?_
 rfl
theorem of_pv (z:Int) (h1:-9223372036854775808≤z) (h2:z<9223372036854775808):PV prog 36 #[.int .i64 z] (fracV (z:Rat)):=by
 refine PV.of_pc ?_
 refine BD func36 ntmps36 ?_
 repeat (first | refine RUN ?_ | refine CV (wholeOf_pv z h1 h2) ?_ | refine CE (wholeOf_pv z h1 h2) ?_)
 show _=frV z 0
 rw [frV_zero]
theorem lowest_pv (n:Int) (d:Nat) (hn:bigI n) (hd:big d) (h0:d≠0):PV prog 128 #[intV n,natV d] (fracV (mkRat n d)):=by
 have hl:=rat_lowest n d h0
 have hg0:Nat.gcd n.natAbs d≠0:=Nat.gcd_ne_zero_right h0
 have hgb:big (Nat.gcd n.natAbs d):=Nat.le_trans (bl_gcd_right _ _ h0) hd
 have hg:=gcd_pv n (d:Int) hn hd
 have f1:=part_pv n (Nat.gcd n.natAbs d) hn hgb hg0 (Nat.gcd_dvd_left ..)
 have f2:=over_pv d (Nat.gcd n.natAbs d) hd hgb hg0
 have f3:=pack_pv (n / (Nat.gcd n.natAbs d:Nat)) (d / Nat.gcd n.natAbs d) (Nat.le_trans (bl_div _ _) hd)
 rw [← hl.1] at f1
 rw [← hl.2] at f2
 rw [← hl.1,← hl.2] at f3
 refine PV.of_pc ?_
 refine BD func128 ntmps128 ?_
 try refine RUN ?_
 (apply EV.drawn 5 kR kR;intro xv yw;(repeat (first | refine' DV ?_ | refine' DA ?_ | refine' DK0 ?_ | (refine' DC (from_pv false d hd) (h:=?_);rotate_left) | (refine' DC (hg) (h:=?_);rotate_left) | refine' DS ?_));refine DJ.nil (fun G hG hF=>?_);(case hS|hS2=>rfl))
 try refine RUN ?_
 (apply EV.drawn 7 kR kR;intro xv yw;(repeat (first | refine' DV ?_ | refine' DA ?_ | refine' DK0 ?_ | (refine' DC (f1) (h:=?_);rotate_left) | (refine' DC (f2) (h:=?_);rotate_left) | (refine' DC (f3) (h:=?_);rotate_left) | refine' DS ?_));refine DJ.nil (fun G hG hF=>?_);(case hS|hS2=>rfl))
 try refine RUN ?_
 rfl
theorem make_pv (n d:Int) (hn:bigI n) (hd:bigI d) (h0:d≠0):PV prog 82 #[intV n,intV d] (.tuple #[fracV (mkRat (if d<0 then -n else n) d.natAbs),.bool true]):=by
 have l1:=lowest_pv (-n) d.natAbs (by show big (-n).natAbs;rw [Int.natAbs_neg];exact hn) hd oM
 have l2:=lowest_pv n d.natAbs hn hd oM
 refine PV.of_pc ?_
 refine BD func82 ntmps82 ?_
 repeat (first | refine RUN ?_ | refine CV (wholeSign_pv d hd) ?_ | refine CE (wholeSign_pv d hd) ?_)
 rw [show (d.sign == 0)=false by simp [Int.sign_eq_zero_iff_zero,h0]]
 repeat (first | refine RUN ?_ | refine CV (wholeSign_pv d hd) ?_ | refine CE (wholeSign_pv d hd) ?_)
 by_cases h:d<0
 ·rw [decide_eq_true (Int.sign_neg_iff.2 h),if_pos h]
  repeat (first | refine RUN ?_ | refine CV (wholeNeg_pv n hn) ?_ | refine CE (wholeNeg_pv n hn) ?_)
  apply EV.drawn 3 kR kR;intro xv yw
  (repeat (first | refine' DV ?_ | refine' DA ?_ | refine' DK0 ?_ | refine' DT ?_ | (refine' DC (wholeAbs_pv d) (h:=?_);rotate_left) | refine' DS ?_))
  (refine DJ.nil (fun G hG hF=>?_);(case hS|hS2=>rfl))
  repeat (first | refine RUN ?_ | refine CV (l1) ?_ | refine CE (l1) ?_)
  rfl
 ·rw [decide_eq_false (fun e=>h (Int.sign_neg_iff.1 e)),if_neg h]
  try refine RUN ?_
  apply EV.drawn 3 kR kR;intro xv yw
  (repeat (first | refine' DV ?_ | refine' DA ?_ | refine' DK0 ?_ | refine' DT ?_ | (refine' DC (wholeAbs_pv d) (h:=?_);rotate_left) | refine' DS ?_))
  (refine DJ.nil (fun G hG hF=>?_);(case hS|hS2=>rfl))
  repeat (first | refine RUN ?_ | refine CV (l2) ?_ | refine CE (l2) ?_)
  rfl
abbrev frL (n:Int) (d:Nat):List Value:=[.bool (decide (n<0)),.int .u64 (lo n.natAbs:Int),.string (moreB n.natAbs),.int .u64 (lo d:Int),.string (moreB d)]
abbrev sm (q:Rat):Prop:=ht q≤100000000
theorem sm.num {q:Rat} (h:sm q):bl q.num.natAbs≤100000000:=Nat.le_trans (bl_num_le q) h
theorem sm.den {q:Rat} (h:sm q):bl q.den≤100000000:=Nat.le_trans (bl_den_le q) h
theorem mul_pv (a b:Rat) (ha:sm a) (hb:sm b):PV prog 56 #[fracV a,fracV b] (fracV (a*b)):=by
 have na:=ha.num;have da:=ha.den;have nb:=hb.num;have db:=hb.den
 have bna:bigI a.num:=Nat.le_trans na oM
 have bnb:bigI b.num:=Nat.le_trans nb oM
 have bda:big a.den:=Nat.le_trans da oM
 have bdb:big b.den:=Nat.le_trans db oM
 have hm:=rat_mul a b _ _ rfl rfl
 generalize hg:Nat.gcd a.num.natAbs b.den=g at hm
 generalize hh:Nat.gcd b.num.natAbs a.den=h at hm
 have hg0:g≠0:=by rw [← hg];exact Nat.gcd_ne_zero_right b.den_nz
 have hh0:h≠0:=by rw [← hh];exact Nat.gcd_ne_zero_right a.den_nz
 have bg:big g:=by rw [← hg];exact Nat.le_trans (bl_gcd_right _ _ b.den_nz) bdb
 have bh:big h:=by rw [← hh];exact Nat.le_trans (bl_gcd_right _ _ a.den_nz) bda
 have g1:=gcd_pv a.num (b.den:Int) bna bdb
 have g2:=gcd_pv b.num (a.den:Int) bnb bda
 rw [Int.natAbs_natCast,hg] at g1
 rw [Int.natAbs_natCast,hh] at g2
 have p1:=part_pv a.num g bna bg hg0 (by rw [← hg];exact Nat.gcd_dvd_left ..)
 have p2:=part_pv b.num h bnb bh hh0 (by rw [← hh];exact Nat.gcd_dvd_left ..)
 have b1:bl (a.num / (g:Int)).natAbs≤100000000:=Nat.le_trans (bl_mono (natAbs_ediv_le _ _)) na
 have b2:bl (b.num / (h:Int)).natAbs≤100000000:=Nat.le_trans (bl_mono (natAbs_ediv_le _ _)) nb
 have b3:bl (a.den / h)≤100000000:=Nat.le_trans (bl_div _ _) da
 have b4:bl (b.den / g)≤100000000:=Nat.le_trans (bl_div _ _) db
 have m1:=wholeMul_pv (a.num / (g:Int)) (b.num / (h:Int)) (Nat.le_trans b1 oM) (Nat.le_trans b2 oM) (by
  show big (_*_:Int).natAbs
  rw [Int.natAbs_mul];have:=bl_mul (a.num / (g:Int)).natAbs (b.num / (h:Int)).natAbs;show bl _≤_;omega)
 have m2:=natMul_pv (a.den / h) (b.den / g) (Nat.le_trans b3 oM) (Nat.le_trans b4 oM)
 have pk:=pack_pv (a*b).num (a*b).den (by rw [hm.2];have:=bl_mul (a.den / h) (b.den / g);show bl _≤_;omega)
 have o1:=over_pv a.den h bda bh hh0
 have o2:=over_pv b.den g bdb bg hg0
 rw [← hm.1] at m1
 rw [← hm.2] at m2
 have w1:=isWhole_pv a bda
 have w2:=isWhole_pv b bdb
 refine PV.of_pc ?_
 refine BD func56 ntmps56 ?_
 repeat (first | refine RUN ?_ | refine CV (w1) ?_ | refine CE (w1) ?_)
 refine EVL.meet (fun env' bx' H'=>SubL env' [(12,.v (.bool (decide (a.den=1∧b.den=1)))),(4,.p 4 0),(3,.p 3 0),(2,.p 2 0)]∧SubX bx' [(4,67,Tryz.te67.zero),(3,67,frL b.num (dk b.den)),(2,67,frL a.num (dk a.den))]∧H'=⟨fun _=>none,[],⟨fun _=>none,[]⟩⟩) ?_ ?_
 ·rintro env' bx' H' _ ⟨he,hbx,rfl⟩
  refine EV.less _ _ he hbx rfl ?_
  by_cases hab:a.den=1∧b.den=1
  ·rw [decide_eq_true hab]
   have e1:g=1:=by rw [← hg,hab.2,Nat.gcd_one_right]
   have e2:h=1:=by rw [← hh,hab.1,Nat.gcd_one_right]
   have e3:(a*b).den=1:=by rw [hm.2,hab.1,hab.2,e1,e2]
   rw [e1,e2] at m1
   simp only [Int.natCast_one,Int.ediv_one] at m1
   repeat (first | refine RUN ?_ | refine CV (m1) ?_ | refine CE (m1) ?_)
   show _=frV (a*b).num (dk (a*b).den)
   rw [e3,dk_one,frV_zero]
  ·rw [decide_eq_false hab]
   try refine RUN ?_
   have d1:=den_pv a bda
   have d2:=den_pv b bdb
   have s1:=from_pv false a.den bda
   have s2:=from_pv false b.den bdb
   (apply EV.drawn 7 kR kR;intro xv yw;(repeat (first | refine' DV ?_ | refine' DA ?_ | refine' DK0 ?_ | (refine' DC (d2) (h:=?_);rotate_left) | (refine' DC (s2) (h:=?_);rotate_left) | (refine' DC (g1) (h:=?_);rotate_left) | refine' DS ?_));refine DJ.nil (fun G hG hF=>?_);(case hS|hS2=>rfl))
   try refine RUN ?_
   (apply EV.drawn 7 kR kR;intro xv yw;(repeat (first | refine' DV ?_ | refine' DA ?_ | refine' DK0 ?_ | (refine' DC (d1) (h:=?_);rotate_left) | (refine' DC (s1) (h:=?_);rotate_left) | (refine' DC (g2) (h:=?_);rotate_left) | refine' DS ?_));refine DJ.nil (fun G hG hF=>?_);(case hS|hS2=>rfl))
   try refine RUN ?_
   apply EV.drawn 16 kR kR;intro xv yw
   (repeat (first | refine' DV ?_ | refine' DA ?_ | refine' DK0 ?_ | refine' DT ?_ | (refine' DC (p1) (h:=?_);rotate_left) | (refine' DC (p2) (h:=?_);rotate_left) | (refine' DC (m1) (h:=?_);rotate_left) | (refine' DC (d1) (h:=?_);rotate_left) | (refine' DC (d2) (h:=?_);rotate_left) | (refine' DC (o1) (h:=?_);rotate_left) | (refine' DC (o2) (h:=?_);rotate_left) | refine' DS ?_))
   (refine DJ.nil (fun G hG hF=>?_);(case hS|hS2=>rfl))
   repeat (first | refine RUN ?_ | refine CV (o2) ?_ | refine CV (m2) ?_ | refine CV (pk) ?_ | refine CE (o2) ?_ | refine CE (m2) ?_ | refine CE (pk) ?_)
   rfl
 ·by_cases ha1:a.den=1
  ·rw [decide_eq_true ha1]
   repeat (first | refine RUN ?_ | refine CV (w2) ?_ | refine CE (w2) ?_)
   refine ⟨⟨?_,rfl,rfl,rfl,trivial⟩,⟨rfl,rfl,rfl,trivial⟩,rfl⟩
   simp [ha1];rfl
  ·rw [decide_eq_false ha1]
   try refine RUN ?_
   refine ⟨⟨?_,rfl,rfl,rfl,trivial⟩,⟨rfl,rfl,rfl,trivial⟩,rfl⟩
   simp [ha1];rfl
theorem add_pv (a b:Rat) (ha:sm a) (hb:sm b):PV prog 95 #[fracV a,fracV b] (fracV (a+b)):=by
 have na:=ha.num;have da:=ha.den;have nb:=hb.num;have db:=hb.den
 have bna:bigI a.num:=Nat.le_trans na oM
 have bnb:bigI b.num:=Nat.le_trans nb oM
 have bda:big a.den:=Nat.le_trans da oM
 have bdb:big b.den:=Nat.le_trans db oM
 have hm:=rat_add a b _ _ _ _ _ rfl rfl rfl rfl rfl
 generalize hg:Nat.gcd a.den b.den=g at hm
 have hg0:g≠0:=by rw [← hg];exact Nat.gcd_ne_zero_right b.den_nz
 have bgl:bl g≤100000000:=by rw [← hg];exact Nat.le_trans (bl_gcd_right _ _ b.den_nz) db
 have bg:big g:=Nat.le_trans bgl oM
 have g1:=gcd_pv (a.den:Int) (b.den:Int) bda bdb
 rw [Int.natAbs_natCast,Int.natAbs_natCast,hg] at g1
 have o1:=over_pv a.den g bda bg hg0
 have o2:=over_pv b.den g bdb bg hg0
 have b1:bl (a.den / g)≤100000000:=Nat.le_trans (bl_div _ _) da
 have b2:bl (b.den / g)≤100000000:=Nat.le_trans (bl_div _ _) db
 have hone:a.den=1∧b.den=1→g=1∧a.den / g=1∧b.den / g=1:=fun h=>by
  have:g=1:=by rw [← hg,h.1,h.2];rfl
  rw [this,h.1,h.2];exact ⟨rfl,rfl,rfl⟩
 generalize hdown:a.den / g=down at *
 generalize hother:b.den / g=other at *
 have c1:=bl_mul a.num.natAbs other
 have c2:=bl_mul b.num.natAbs down
 have t1:=times_pv a.num other bna (Nat.le_trans b2 oM) (by show bl _≤_;omega)
 have t2:=times_pv b.num down bnb (Nat.le_trans b1 oM) (by show bl _≤_;omega)
 have c1':bl (a.num*(other:Int)).natAbs≤200000000:=by rw [Int.natAbs_mul];simp;omega
 have c2':bl (b.num*(down:Int)).natAbs≤200000000:=by rw [Int.natAbs_mul];simp;omega
 have c3:=bl_add (a.num*(other:Int)).natAbs (b.num*(down:Int)).natAbs
 have ad:=wholeAdd_pv (a.num*(other:Int)) (b.num*(down:Int)) (Nat.le_trans c1' oM) (Nat.le_trans c2' oM) (by show bl _≤_;omega)
 have bup:bl (a.num*(other:Int)+b.num*(down:Int)).natAbs≤200000001:=by
  have:=bl_natAbs_add (a.num*(other:Int)) (b.num*(down:Int));omega
 generalize hup:a.num*(other:Int)+b.num*(down:Int)=up at *
 generalize hh:Nat.gcd up.natAbs g=h at hm
 have hh0:h≠0:=by rw [← hh];exact Nat.gcd_ne_zero_right hg0
 have bh:big h:=by rw [← hh];exact Nat.le_trans (bl_gcd_right _ _ hg0) bg
 have g2:=gcd_pv up (g:Int) (Nat.le_trans bup oM) bg
 rw [Int.natAbs_natCast,hh] at g2
 have p1:=part_pv up h (Nat.le_trans bup oM) bh hh0 (by rw [← hh];exact Nat.gcd_dvd_left ..)
 have o3:=over_pv b.den h bdb bh hh0
 have b4:bl (b.den / h)≤100000000:=Nat.le_trans (bl_div _ _) db
 have m2:=natMul_pv down (b.den / h) (Nat.le_trans b1 oM) (Nat.le_trans b4 oM)
 have pk:=pack_pv (a+b).num (a+b).den (by rw [hm.2];have:=bl_mul down (b.den / h);show bl _≤_;omega)
 rw [← hm.1] at p1
 rw [← hm.2] at m2
 have w1:=isWhole_pv a bda
 have w2:=isWhole_pv b bdb
 refine PV.of_pc ?_
 refine BD func95 ntmps95 ?_
 repeat (first | refine RUN ?_ | refine CV (w1) ?_ | refine CE (w1) ?_)
 refine EVL.meet (fun env' bx' H'=>SubL env' [(15,.v (.bool (decide (a.den=1∧b.den=1)))),(4,.p 4 0),(3,.p 3 0),(2,.p 2 0)]∧SubX bx' [(4,67,Tryz.te67.zero),(3,67,frL b.num (dk b.den)),(2,67,frL a.num (dk a.den))]∧H'=⟨fun _=>none,[],⟨fun _=>none,[]⟩⟩) ?_ ?_
 ·rintro env' bx' H' _ ⟨he,hbx,rfl⟩
  refine EV.less _ _ he hbx rfl ?_
  by_cases hab:a.den=1∧b.den=1
  ·rw [decide_eq_true hab]
   obtain ⟨e1,e2,e3⟩:=hone hab
   have e4:h=1:=by rw [← hh,e1,Nat.gcd_one_right]
   have e5:(a+b).den=1:=by rw [hm.2,e2,hab.2,e4]
   have e6:(a+b).num=a.num+b.num:=by rw [hm.1,e4,← hup,e2,e3];simp
   have c4:=bl_add a.num.natAbs b.num.natAbs
   have ad':=wholeAdd_pv a.num b.num bna bnb (by show bl _≤_;omega)
   repeat (first | refine RUN ?_ | refine CV (ad') ?_ | refine CE (ad') ?_)
   show _=frV (a+b).num (dk (a+b).den)
   rw [e5,dk_one,frV_zero,e6]
  ·rw [decide_eq_false hab]
   try refine RUN ?_
   have d1:=den_pv a bda
   have d2:=den_pv b bdb
   have s1:=from_pv false a.den bda
   have s2:=from_pv false b.den bdb
   have s3:=from_pv false g bg
   (apply EV.drawn 8 kR kR;intro xv yw;(repeat (first | refine' DV ?_ | refine' DA ?_ | refine' DK0 ?_ | (refine' DC (d1) (h:=?_);rotate_left) | (refine' DC (s1) (h:=?_);rotate_left) | (refine' DC (d2) (h:=?_);rotate_left) | (refine' DC (s2) (h:=?_);rotate_left) | (refine' DC (g1) (h:=?_);rotate_left) | refine' DS ?_));refine DJ.nil (fun G hG hF=>?_);(case hS|hS2=>rfl))
   try refine RUN ?_
   (apply EV.drawn 10 kR kR;intro xv yw;(repeat (first | refine' DV ?_ | refine' DA ?_ | refine' DK0 ?_ | (refine' DC (d1) (h:=?_);rotate_left) | (refine' DC (d2) (h:=?_);rotate_left) | (refine' DC (o1) (h:=?_);rotate_left) | (refine' DC (o2) (h:=?_);rotate_left) | refine' DS ?_));refine DJ.nil (fun G hG hF=>?_);(case hS|hS2=>rfl))
   try refine RUN ?_
   (apply EV.drawn 10 kR kR;intro xv yw;(repeat (first | refine' DV ?_ | refine' DA ?_ | refine' DK0 ?_ | (refine' DC (t1) (h:=?_);rotate_left) | (refine' DC (t2) (h:=?_);rotate_left) | (refine' DC (ad) (h:=?_);rotate_left) | refine' DS ?_));refine DJ.nil (fun G hG hF=>?_);(case hS|hS2=>rfl))
   try refine RUN ?_
   (apply EV.drawn 5 kR kR;intro xv yw;(repeat (first | refine' DV ?_ | refine' DA ?_ | refine' DK0 ?_ | (refine' DC (s3) (h:=?_);rotate_left) | (refine' DC (g2) (h:=?_);rotate_left) | refine' DS ?_));refine DJ.nil (fun G hG hF=>?_);(case hS|hS2=>rfl))
   try refine RUN ?_
   (apply EV.drawn 10 kR kR;intro xv yw;(repeat (first | refine' DV ?_ | refine' DA ?_ | refine' DK0 ?_ | (refine' DC (p1) (h:=?_);rotate_left) | (refine' DC (d2) (h:=?_);rotate_left) | (refine' DC (o3) (h:=?_);rotate_left) | (refine' DC (m2) (h:=?_);rotate_left) | (refine' DC (pk) (h:=?_);rotate_left) | refine' DS ?_));refine DJ.nil (fun G hG hF=>?_);(case hS|hS2=>rfl))
   try refine RUN ?_
   rfl
 ·by_cases ha1:a.den=1
  ·rw [decide_eq_true ha1]
   repeat (first | refine RUN ?_ | refine CV (w2) ?_ | refine CE (w2) ?_)
   refine ⟨⟨?_,rfl,rfl,rfl,trivial⟩,⟨rfl,rfl,rfl,trivial⟩,rfl⟩
   simp [ha1];rfl
  ·rw [decide_eq_false ha1]
   try refine RUN ?_
   refine ⟨⟨?_,rfl,rfl,rfl,trivial⟩,⟨rfl,rfl,rfl,trivial⟩,rfl⟩
   simp [ha1];rfl
theorem sub_pv (a b:Rat) (ha:sm a) (hb:sm b):PV prog 55 #[fracV a,fracV b] (fracV (a-b)):=by
 have h1:=neg_pv b (Nat.le_trans hb.num oM)
 have h2:=add_pv a (-b) ha (by show ht (-b)≤_;rw [ht_neg];exact hb)
 rw [← Rat.sub_eq_add_neg] at h2
 refine PV.of_pc ?_
 refine BD func55 ntmps55 ?_
 try refine RUN ?_
 (apply EV.drawn 4 kR kR;intro xv yw;(repeat (first | refine' DV ?_ | refine' DA ?_ | refine' DK0 ?_ | (refine' DC (h1) (h:=?_);rotate_left) | (refine' DC (h2) (h:=?_);rotate_left) | refine' DS ?_));refine DJ.nil (fun G hG hF=>?_);(case hS|hS2=>rfl))
 try refine RUN ?_
 rfl
theorem inv_frV (b:Rat) (h:b.num≠0):frV (sg (decide (b.num<0)) b.den) (dk b.num.natAbs)=fracV b⁻¹:=by
 have e1:b⁻¹.num=sg (decide (b.num<0)) b.den:=by
  rw [Rat.num_inv];unfold sg
  rcases Int.lt_or_lt_of_ne h with h1 | h1
  ·simp [h1,Int.sign_eq_neg_one_of_neg h1]
  ·rw [Int.sign_eq_one_of_pos h1,decide_eq_false (by omega)];simp
 have e2:b⁻¹.den=b.num.natAbs:=by
  rw [Rat.den_inv,if_neg]
  exact h
 rw [← e1,← e2]
theorem div_pv (a b:Rat) (ha:sm a) (hb:sm b) (h0:b≠0):PV prog 106 #[fracV a,fracV b] (.tuple #[fracV (a / b),.bool true]):=by
 have hn0:b.num≠0:=fun e=>h0 (Rat.num_eq_zero.1 e)
 have bnb:bigI b.num:=Nat.le_trans hb.num oM
 have bdb:big b.den:=Nat.le_trans hb.den oM
 have hm:=mul_pv a b⁻¹ ha (Nat.le_trans (ht_inv b) hb)
 rw [← Rat.div_def] at hm
 have hp:=pack_pv (sg (decide (b.num<0)) b.den) b.num.natAbs bnb
 rw [inv_frV b hn0] at hp
 have s1:=from_pv (decide (b.num<0)) b.den bdb
 have sg1:=sign_pv b bnb
 have ab:=wholeAbs_pv b.num
 have d2:=den_pv b bdb
 refine PV.of_pc ?_
 refine BD func106 ntmps106 ?_
 repeat (first | refine RUN ?_ | refine CV (sg1) ?_ | refine CE (sg1) ?_)
 rw [show (b.num.sign == 0)=false by simp [Int.sign_eq_zero_iff_zero,hn0]]
 try refine RUN ?_
 apply EV.drawn 11 kR kR;intro xv yw
 (repeat (first | refine' DV ?_ | refine' DA ?_ | refine' DK0 ?_ | refine' DT ?_ | (refine' DC (sg1) (h:=?_);rotate_left) | refine' DS ?_))
 rw [show decide (b.num.sign<0)=decide (b.num<0) by rw [decide_eq_decide];exact Int.sign_neg_iff]
 (repeat (first | refine' DV ?_ | refine' DA ?_ | refine' DK0 ?_ | refine' DT ?_ | (refine' DC (d2) (h:=?_);rotate_left) | (refine' DC (s1) (h:=?_);rotate_left) | (refine' DC (ab) (h:=?_);rotate_left) | (refine' DC (hp) (h:=?_);rotate_left) | refine' DS ?_))
 (refine DJ.nil (fun G hG hF=>?_);(case hS|hS2=>rfl))
 repeat (first | refine RUN ?_ | refine CV (hm) ?_ | refine CE (hm) ?_)
 rfl
theorem div_zero_pv (a:Rat):PV prog 106 #[fracV a,fracV 0] (.tuple #[fracV 0,.bool false]):=by
 have sg1:=sign_pv 0 (by show bl 0≤_;rw [bl_zero];omega)
 refine PV.of_pc ?_
 refine BD func106 ntmps106 ?_
 repeat (first | refine RUN ?_ | refine CV (sg1) ?_ | refine CE (sg1) ?_)
 show _=Value.tuple #[frV 0 0,.bool false]
 rw [frV_zero,show (0:Int).natAbs=0 from rfl,moreB_empty (n:=0) (by decide)];rfl
theorem ordZ_scale (x y p q:Int) (hp:0<p) (hq:0<q) (h:x.sign≠y.sign):ordZ x y=ordZ (x*p) (y*q):=by
 have f1:x<0→x*p<0:=fun h=>Int.mul_neg_of_neg_of_pos h hp
 have f2:0<x→0<x*p:=fun h=>Int.mul_pos h hp
 have f3:y<0→y*q<0:=fun h=>Int.mul_neg_of_neg_of_pos h hq
 have f4:0<y→0<y*q:=fun h=>Int.mul_pos h hq
 have f5:x=0→x*p=0:=fun h=>by rw [h,Int.zero_mul]
 have f6:y=0→y*q=0:=fun h=>by rw [h,Int.zero_mul]
 generalize x*p=u at *
 generalize y*q=v at *
 rcases Int.lt_trichotomy x 0 with hx | hx | hx <;> rcases Int.lt_trichotomy y 0 with hy | hy | hy
 ·exact absurd (by rw [Int.sign_eq_neg_one_of_neg hx,Int.sign_eq_neg_one_of_neg hy]) h
 ·unfold ordZ;rw [if_pos oM,if_pos (by have:=f1 hx;have:=f6 hy;omega)]
 ·unfold ordZ;rw [if_pos oM,if_pos (by have:=f1 hx;have:=f4 hy;omega)]
 ·unfold ordZ;rw [if_neg oM,if_pos oM,if_neg (by have:=f5 hx;have:=f3 hy;omega),if_pos (by have:=f5 hx;have:=f3 hy;omega)]
 ·exact absurd (by rw [hx,hy]) h
 ·unfold ordZ;rw [if_pos oM,if_pos (by have:=f5 hx;have:=f4 hy;omega)]
 ·unfold ordZ;rw [if_neg oM,if_pos oM,if_neg (by have:=f2 hx;have:=f3 hy;omega),if_pos (by have:=f2 hx;have:=f3 hy;omega)]
 ·unfold ordZ;rw [if_neg oM,if_pos oM,if_neg (by have:=f2 hx;have:=f6 hy;omega),if_pos (by have:=f2 hx;have:=f6 hy;omega)]
 ·exact absurd (by rw [Int.sign_eq_one_of_pos hx,Int.sign_eq_one_of_pos hy]) h
theorem sign_ne (a b:Rat) (h:a.num.sign≠b.num.sign):ordZ a.num b.num=ordR a b:=by
 have:=Nat.pos_of_ne_zero a.den_nz
 have:=Nat.pos_of_ne_zero b.den_nz
 rw [ordR_eq];exact ordZ_scale _ _ _ _ oM oM h
theorem cmp_pv (a b:Rat) (ha:sm a) (hb:sm b):PV prog 133 #[fracV a,fracV b] (.int .i64 (ordR a b)):=by
 have na:=ha.num;have da:=ha.den;have nb:=hb.num;have db:=hb.den
 have bna:bigI a.num:=Nat.le_trans na oM
 have bnb:bigI b.num:=Nat.le_trans nb oM
 have bda:big a.den:=Nat.le_trans da oM
 have bdb:big b.den:=Nat.le_trans db oM
 have w1:=isWhole_pv a bda
 have w2:=isWhole_pv b bdb
 have s1:=sign_pv a bna
 have s2:=sign_pv b bnb
 have d1:=den_pv a bda
 have d2:=den_pv b bdb
 have c1:=bl_mul a.num.natAbs b.den
 have c2:=bl_mul b.num.natAbs a.den
 have t1:=times_pv a.num b.den bna bdb (by show bl _≤_;omega)
 have t2:=times_pv b.num a.den bnb bda (by show bl _≤_;omega)
 have k1:=wholeCmp_pv a.num b.num bna bnb
 have k2:=wholeCmp_pv (a.num*(b.den:Int)) (b.num*(a.den:Int)) (by show bl _≤_;rw [Int.natAbs_mul];simp;omega) (by show bl _≤_;rw [Int.natAbs_mul];simp;omega)
 rw [← ordR_eq] at k2
 refine PV.of_pc ?_
 refine BD func133 ntmps133 ?_
 try refine RUN ?_
 by_cases ha1:a.den=1
 ·rw [decide_eq_true ha1] at w1
  by_cases hb1:b.den=1
  ·rw [decide_eq_true hb1] at w2
   have e:ordZ a.num b.num=ordR a b:=by rw [ordR_eq,ha1,hb1];simp
   rw [e] at k1
   apply EV.drawn 10 kR kR;intro xv yw
   (repeat (first | refine' DV ?_ | refine' DA ?_ | refine' DK0 ?_ | refine' DT ?_ | (refine' DC (w1) (h:=?_);rotate_left) | (refine' DC (w2) (h:=?_);rotate_left) | (refine' DC (s1) (h:=?_);rotate_left) | (refine' DC (s2) (h:=?_);rotate_left) | refine' DS ?_))
   (refine DJ.nil (fun G hG hF=>?_);(case hS|hS2=>rfl))
   repeat (first | refine RUN ?_ | refine CV (k1) ?_ | refine CE (k1) ?_)
   rfl
  ·rw [decide_eq_false hb1] at w2
   apply EV.drawn 10 kR kR;intro xv yw
   (repeat (first | refine' DV ?_ | refine' DA ?_ | refine' DK0 ?_ | refine' DT ?_ | (refine' DC (w1) (h:=?_);rotate_left) | (refine' DC (w2) (h:=?_);rotate_left) | (refine' DC (s1) (h:=?_);rotate_left) | (refine' DC (s2) (h:=?_);rotate_left) | refine' DS ?_))
   (refine DJ.nil (fun G hG hF=>?_);(case hS|hS2=>rfl))
   repeat (first | refine RUN ?_ | refine CV (s1) ?_ | refine CV (s2) ?_ | refine CE (s1) ?_ | refine CE (s2) ?_)
   by_cases hs:a.num.sign=b.num.sign
   ·rw [show (a.num.sign != b.num.sign)=false by simp [hs]]
    try refine RUN ?_
    apply EV.drawn 9 kR kR;intro xv yw
    (repeat (first | refine' DV ?_ | refine' DA ?_ | refine' DK0 ?_ | refine' DT ?_ | (refine' DC (d2) (h:=?_);rotate_left) | (refine' DC (t1) (h:=?_);rotate_left) | (refine' DC (d1) (h:=?_);rotate_left) | refine' DS ?_))
    (refine DJ.nil (fun G hG hF=>?_);(case hS|hS2=>rfl))
    repeat (first | refine RUN ?_ | refine CV (t2) ?_ | refine CV (k2) ?_ | refine CE (t2) ?_ | refine CE (k2) ?_)
    rfl
   ·rw [show (a.num.sign != b.num.sign)=true by simp [hs]]
    repeat (first | refine RUN ?_ | refine CV (k1) ?_ | refine CE (k1) ?_)
    rw [sign_ne a b hs]
 ·rw [decide_eq_false ha1] at w1
  apply EV.drawn 10 kR kR;intro xv yw
  (repeat (first | refine' DV ?_ | refine' DA ?_ | refine' DK0 ?_ | refine' DT ?_ | (refine' DC (w1) (h:=?_);rotate_left) | (refine' DC (w2) (h:=?_);rotate_left) | (refine' DC (s1) (h:=?_);rotate_left) | (refine' DC (s2) (h:=?_);rotate_left) | refine' DS ?_))
  (refine DJ.nil (fun G hG hF=>?_);(case hS|hS2=>rfl))
  repeat (first | refine RUN ?_ | refine CV (s1) ?_ | refine CV (s2) ?_ | refine CE (s1) ?_ | refine CE (s2) ?_)
  by_cases hs:a.num.sign=b.num.sign
  ·rw [show (a.num.sign != b.num.sign)=false by simp [hs]]
   try refine RUN ?_
   apply EV.drawn 9 kR kR;intro xv yw
   (repeat (first | refine' DV ?_ | refine' DA ?_ | refine' DK0 ?_ | refine' DT ?_ | (refine' DC (d2) (h:=?_);rotate_left) | (refine' DC (t1) (h:=?_);rotate_left) | (refine' DC (d1) (h:=?_);rotate_left) | refine' DS ?_))
   (refine DJ.nil (fun G hG hF=>?_);(case hS|hS2=>rfl))
   repeat (first | refine RUN ?_ | refine CV (t2) ?_ | refine CV (k2) ?_ | refine CE (t2) ?_ | refine CE (k2) ?_)
   rfl
  ·rw [show (a.num.sign != b.num.sign)=true by simp [hs]]
   repeat (first | refine RUN ?_ | refine CV (k1) ?_ | refine CE (k1) ?_)
   rw [sign_ne a b hs]
theorem pick_pv (z m:Int) (hz:-9223372036854775808≤z∧z<9223372036854775808) (h0:0<m) (hm:m<4611686018427387904):PV prog 8 #[.int .i64 z,.int .i64 m] (.int .i64 (z % m)):=by
 have h1:=Int.tmod_lt_of_pos z h0
 have h2:=Int.lt_tmod_of_pos z h0
 have e:z % m=if z.tmod m<0 then z.tmod m+m else z.tmod m:=by
  have hq:=Int.mul_tdiv_add_tmod z m
  have e1:z % m=z.tmod m % m:=by
   conv=>lhs;rw [← hq]
   rw [Int.mul_add_emod_self_left]
  rw [e1]
  by_cases ht:z.tmod m<0
  ·rw [if_pos ht,← Int.add_emod_right,Int.emod_eq_of_lt oM (by omega)]
  ·rw [if_neg ht,Int.emod_eq_of_lt oM h1]
 refine PV.of_pc ?_
 refine BD func8 ntmps8 ?_
 try refine RUN ?_
 refine EVL.remI rfl rfl rfl rfl rfl rfl oM ?_
 generalize z.tmod m=t at *
 try refine RUN ?_
 by_cases ht:t<0
 ·rw [if_pos ht] at e
  rw [decide_eq_true ht]
  try refine RUN ?_
  rw [e,IntKind.wrap_i64];congr 1;omega
 ·rw [if_neg ht] at e
  rw [decide_eq_false ht]
  try refine RUN ?_
  rw [e]
theorem refNatH_pc {H:Hp} {v:Value} {n:Nat} (h:RN H v n) (hn:rsm n):PC prog 85 #[v] H fun r _=>r=natV n:=by
 have hol:(octs n).length≤200000000:=by
  rw [octs_length]
  have:=dig_len_bits 8 n oM;rw [show (2:Nat) ^ 8=256 by decide] at this;rw [this]
  have:bl n≤800000000:=hn
  omega
 refine BD func85 ntmps85 ?_
 try refine RUN ?_
 refine EVL.call rfl rfl rfl rfl rfl (refBytes_pc h hn) ?_
 rintro r G hr hG
 have hf:=natFromBytes_pc hr (octs_dig n) hol
 rw [octs_val] at hf
 repeat (first | refine RUN ?_ | refine CV (hf) ?_ | refine CE (hf) ?_)
 rfl
theorem outNat_pc {H:Hp} (n:Nat) (hn:rsm n):PC prog 117 #[natV n] H fun r H'=>RN H' r n:=by
 have hol:(octs n).length≤200000000:=by
  rw [octs_length]
  have:=dig_len_bits 8 n oM;rw [show (2:Nat) ^ 8=256 by decide] at this;rw [this]
  have:bl n≤800000000:=hn
  omega
 refine BD func117 ntmps117 ?_
 try refine RUN ?_
 refine EVL.call rfl rfl rfl rfl rfl (natBytes_pc n (Nat.le_trans hn oM) H) ?_
 rintro r G hr hG
 have hf:=refFrom_pc hr (octs_dig n) hol
 rw [octs_val] at hf
 try refine RUN ?_
 refine EVL.call rfl rfl rfl rfl rfl (hf) ?_
 rintro s G2 hs hG2
 try refine RUN ?_
 exact hs
theorem intH_pc {H:Hp} {v:Value} {z:Int} (h:RI H v z) (hz:rsm z.natAbs):PC prog 83 #[v] H fun r _=>r=intV z:=by
 obtain ⟨sa,sl,sc,rfl,hs⟩:=id h
 have hf:=from_pv (decide (z<0)) z.natAbs (Nat.le_trans hz oM)
 rw [sg_dec] at hf
 refine BD func83 ntmps83 ?_
 try refine RUN ?_
 apply EV.drawn 6 kR kR;intro xv yw
 (repeat (first | refine' DV ?_ | refine' DA ?_ | refine' DK0 ?_ | refine' DT ?_ | refine' DS ?_))
 refine' DJ.callS rfl rfl rfl rfl rfl (cO func85) (fun G hG hd=>refNatH_pc (RN.mono hs hG) hz) ?_;rotate_left
 (repeat (first | refine' DV ?_ | refine' DA ?_ | refine' DK0 ?_ | refine' DT ?_ | (refine' DC (hf) (h:=?_);rotate_left) | refine' DS ?_))
 (refine DJ.nil (fun G hG hF=>?_);(case hS|hS2=>rfl))
 try refine RUN ?_
 rfl
theorem outInt_pc {H:Hp} (z:Int) (hz:rsm z.natAbs):PC prog 115 #[intV z] H fun r H'=>RI H' r z:=by
 have hb:bigI z:=Nat.le_trans hz oM
 have e1:decide (z.sign<0)=decide (z<0):=by rw [decide_eq_decide,Int.sign_neg_iff]
 refine BD func115 ntmps115 ?_
 try refine RUN ?_
 apply EV.drawn 7 kR kR;intro xv yw
 (repeat (first | refine' DV ?_ | refine' DA ?_ | refine' DK0 ?_ | refine' DT ?_ | (refine' DC (wholeSign_pv z hb) (h:=?_);rotate_left) | (refine' DC (wholeAbs_pv z) (h:=?_);rotate_left) | refine' DS ?_))
 refine' DJ.call rfl rfl rfl rfl rfl (cO func117) (fun G hG hd=>outNat_pc z.natAbs hz) (fun _ _ _ h k=>RN.mono h k) ?_;rotate_left
 rw [e1]
 refine' DJ.call rfl rfl rfl rfl rfl (cO func113) (fun G hG hd=>refI_pc (decide (z<0)) (hd.head kR)) (fun _ _ _ h k=>RI.mono h k) ?_;rotate_left
 (refine DJ.nil (fun G hG hF=>?_);(case hS|hS2=>rfl))
 obtain ⟨⟨ra,rl,rc,hr,h1⟩,_⟩:=hF
 rw [sg_dec] at hr h1
 rw [hr]
 try refine RUN ?_
 exact ⟨ra,rl,rc,rfl,h1⟩
theorem in_pc {H:Hp} {v:Value} {q:Rat} (h:RQ H v q) (hq:rq q):PC prog 41 #[v] H fun r _=>r=fracV q:=by
 obtain ⟨sa,sl,sc,ta,tl,tc,rfl,hs,ht⟩:=id h
 have hn:=hq.num
 have hd':=hq.den
 have hf:=from_pv false q.den (Nat.le_trans hd' oM)
 rw [show sg false q.den=(q.den:Int) from rfl] at hf
 have hm:=make_pv q.num (q.den:Int) (Nat.le_trans hn oM) (Nat.le_trans hd' oM) (by have:=q.den_nz;omega)
 rw [if_neg oM,Int.natAbs_natCast,Rat.mkRat_self] at hm
 refine BD func41 ntmps41 ?_
 try refine RUN ?_
 apply EV.drawn 14 kR kR;intro xv yw
 (repeat (first | refine' DV ?_ | refine' DA ?_ | refine' DK0 ?_ | refine' DT ?_ | refine' DS ?_))
 refine' DJ.callS rfl rfl rfl rfl rfl (cO func83) (fun G hG hd=>intH_pc (RQ.rnum (RN.mono hs hG)) hn) ?_;rotate_left
 (repeat (first | refine' DV ?_ | refine' DA ?_ | refine' DK0 ?_ | refine' DT ?_ | refine' DS ?_))
 refine' DJ.callS rfl rfl rfl rfl rfl (cO func85) (fun G hG hd=>refNatH_pc (RN.mono ht hG) hd') ?_;rotate_left
 (repeat (first | refine' DV ?_ | refine' DA ?_ | refine' DK0 ?_ | refine' DT ?_ | (refine' DC (hf) (h:=?_);rotate_left) | (refine' DC (hm) (h:=?_);rotate_left) | refine' DS ?_))
 (refine DJ.nil (fun G hG hF=>?_);(case hS|hS2=>rfl))
 try refine RUN ?_
 rfl
theorem out_pc {H:Hp} (q:Rat) (hq:rq q):PC prog 64 #[fracV q] H fun r H'=>RQ H' r q:=by
 have hn:=hq.num
 have hd':=hq.den
 refine BD func64 ntmps64 ?_
 try refine RUN ?_
 apply EV.drawn 6 kR kR;intro xv yw
 (repeat (first | refine' DV ?_ | refine' DA ?_ | refine' DK0 ?_ | refine' DT ?_ | (refine' DC (num_pv q) (h:=?_);rotate_left) | (refine' DC (den_pv q (Nat.le_trans hd' oM)) (h:=?_);rotate_left) | refine' DS ?_))
 refine' DJ.call rfl rfl rfl rfl rfl (cO func115) (fun G hG hd=>outInt_pc q.num hn) (fun _ _ _ h k=>RI.mono h k) ?_;rotate_left
 (repeat (first | refine' DV ?_ | refine' DA ?_ | refine' DK0 ?_ | refine' DT ?_ | (refine' DC (num_pv q) (h:=?_);rotate_left) | (refine' DC (den_pv q (Nat.le_trans hd' oM)) (h:=?_);rotate_left) | refine' DS ?_))
 refine' DJ.call rfl rfl rfl rfl rfl (cO func117) (fun G hG hd=>outNat_pc q.den hd') (fun _ _ _ h k=>RN.mono h k) ?_;rotate_left
 (refine DJ.nil (fun G hG hF=>?_);(case hS|hS2=>rfl))
 obtain ⟨hN,⟨ra,rl,rc,hr,h1⟩,_⟩:=hF
 obtain ⟨xa,xc,hx⟩:=SlC.val hN
 rw [hx] at hN
 rw [hx,hr]
 try refine RUN ?_
 exact ⟨ra,rl,rc,xa,_,xc,rfl,h1,hN⟩
theorem refCmpN_pc {H:Hp} {u v:Value} {a b:Nat} (hu:RN H u a) (hv:RN H v b) (ha:rsm a):PC prog 65 #[u,v] H fun r _=>r=.int .i64 (ordN a b):=by
 have la:=ha.len
 have:=refCmpL_pc hu hv (dig_norm B32_two _) (dig_norm B32_two _) oM
 rwa [dig_val B32_two,dig_val B32_two] at this
theorem ordN_eqb (a b:Nat):(ordN a b == 0)=decide (a=b):=by
 unfold ordN
 rcases Nat.lt_trichotomy a b with h | h | h
 ·rw [if_pos h,decide_eq_false (by omega)];rfl
 ·rw [if_neg oM,if_neg oM,decide_eq_true h];rfl
 ·rw [if_neg oM,if_pos h,decide_eq_false (by omega)];rfl
theorem same_pc {H:Hp} {w:Value} {p q:Rat} (hw:RQ H w q) (hp:rq p) (hq:rq q):PC prog 21 #[fracV p,w] H fun r _=>r=.bool (decide (p=q)):=by
 obtain ⟨sa,sl,sc,ta,tl,tc,rfl,hs,ht⟩:=id hw
 have hl:(tl:Int)≠0:=by
  have h1:=SlN.cap ht
  have h2:=dig_ne_nil B32_two q.den_nz
  have h3:=List.length_pos_iff.2 h2
  omega
 refine BD func21 ntmps21 ?_
 try refine RUN ?_
 refine EVL.call rfl rfl rfl rfl rfl (out_pc p hp) ?_
 rintro r G ⟨sa',sl',sc',ta',tl',tc',rfl,hs',ht'⟩ hG
 have c1:=refCmpN_pc hs' (RN.mono hs hG) hp.num
 have c2:=refCmpN_pc ht' (RN.mono ht hG) hp.den
 try refine RUN ?_
 rw [show ((tl:Int) == 0)=false by simpa using hl]
 repeat (first | refine RUN ?_ | refine CV (c1) ?_ | refine CE (c1) ?_)
 rw [ordN_eqb]
 by_cases h1:p.num.natAbs=q.num.natAbs
 ·rw [decide_eq_true h1]
  try refine RUN ?_
  refine EVL.eqb rfl rfl rfl rfl rfl rfl kR ?_
  by_cases h2:decide (p.num<0)=decide (q.num<0)
  ·rw [show (decide (p.num<0) == decide (q.num<0))=true by simp [h2]]
   repeat (first | refine RUN ?_ | refine CV (c2) ?_ | refine CE (c2) ?_)
   rw [ordN_eqb]
   congr 1
   have hn:p.num=q.num:=by
    rw [decide_eq_decide] at h2;omega
   by_cases h3:p.den=q.den
   ·rw [decide_eq_true h3,decide_eq_true (Rat.ext hn h3)]
   ·rw [decide_eq_false h3,decide_eq_false (fun e=>h3 (by rw [e]))]
  ·rw [show (decide (p.num<0) == decide (q.num<0))=false by simpa using h2]
   try refine RUN ?_
   rw [decide_eq_false (fun e=>h2 (by rw [e]))]
 ·rw [decide_eq_false h1]
  try refine RUN ?_
  rw [decide_eq_false (fun e=>h1 (by rw [e]))]
def rDen (j:Nat):Int:=[1,1,1,2,3,4].getD j 1
def rNum (z:Int):Rat:=Rat.divInt (z % 41-20) (rDen (z.tdiv 41 % 6).toNat)
theorem rDen_range (j:Nat):1≤rDen j∧rDen j≤4:=by
 unfold rDen
 rcases j with _ | _ | _ | _ | _ | _ | j <;> simp [List.getD_eq_getElem?_getD]
theorem r_pc {H:Hp} (z:Int) (hz:-9223372036854775808≤z∧z<9223372036854775808):PC prog 42 #[.int .i64 z] H fun r H'=>RQ H' r (rNum z):=by
 have hq:-9223372036854775808≤z.tdiv 41∧z.tdiv 41<9223372036854775808:=by
  by_cases h:0≤z
  ·rw [Int.tdiv_eq_ediv_of_nonneg h];omega
  ·have e:z.tdiv 41 = -((-z) / 41):=by rw [← Int.tdiv_eq_ediv_of_nonneg oM,Int.neg_tdiv,Int.neg_neg]
   rw [e];omega
 have hqw:IntKind.i64.wrap (z.tdiv 41)=z.tdiv 41:=by rw [IntKind.wrap_i64];omega
 have h1:=pick_pv z 41 hz oM oM
 have h2:=pick_pv (z.tdiv 41) 6 hq oM oM
 have m1:=Int.emod_nonneg z (show (41:Int)≠0 by omega)
 have m2:=Int.emod_lt_of_pos z (show (0:Int)<41 by omega)
 obtain ⟨j,hj⟩:=Int.eq_ofNat_of_zero_le (Int.emod_nonneg (z.tdiv 41) (show (6:Int)≠0 by omega))
 have m3:=Int.emod_lt_of_pos (z.tdiv 41) (show (0:Int)<6 by omega)
 have hsub:IntKind.i64.wrap (z % 41-20)=z % 41-20:=by rw [IntKind.wrap_i64];omega
 have hrd:=rDen_range j
 have hrn:rNum z=Rat.divInt (z % 41-20) (rDen j):=by unfold rNum;rw [hj];rfl
 rw [hrn]
 have hidx:([.int .i64 1,.int .i64 1,.int .i64 1,.int .i64 2,.int .i64 3,.int .i64 4]:List Value)[j]?=some (.int .i64 (rDen j)):=by
  have hj6:j<6:=by omega
  rcases j with _ | _ | _ | _ | _ | _ | j <;> first | rfl | omega
 have ho:=fun G:Hp=>refOver_pc (H:=G) (z % 41-20) (rDen j) oM oM oM oM oM
 rw [hj] at h2
 refine BD func42 ntmps42 ?_
 repeat (first | refine RUN ?_ | refine CV (h1) ?_ | refine CE (h1) ?_)
 rw [hsub]
 refine EVL.buildArr rfl rfl rfl rfl rfl (cs:=[.int .i64 1,.int .i64 1,.int .i64 1,.int .i64 2,.int .i64 3,.int .i64 4]) kR ?_
 try refine RUN ?_
 rw [hqw]
 repeat (first | refine RUN ?_ | refine CV (h2) ?_ | refine CE (h2) ?_)
 refine EVL.indexArr (e:=2) (len:=6) tO rfl rfl rfl rfl kR rfl rfl rfl rfl rfl j rfl (show j<6 by omega) hidx ?_
 refine EVL.call rfl rfl rfl rfl rfl (ho H) ?_
 rintro r G ⟨ra,rl,rc,xa,xl,xc,rfl,hn,hd⟩ hG
 try refine RUN ?_
 exact ⟨ra,rl,rc,xa,xl,xc,rfl,hn,hd⟩
def QL (H:Hp) (v:Value) (l:List Rat):Prop:=SlC H v l.length 5 (l.flatMap fun q=>vlist (fracV q))
def RL (H:Hp) (v:Value) (l:List Rat):Prop:=∃ vs:List Value,vs.length=l.length∧(∀ (j:Nat) (x:Value) (q:Rat),vs[j]?=some x→l[j]?=some q→RQ H x q)∧SlC H v l.length 3 (vs.flatMap vlist)
theorem QL.mono {H G:Hp} {v:Value} {l:List Rat} (h:QL H v l) (k:H.Le G):QL G v l:=SlC.mono h k
theorem RL.mono {H G:Hp} {v:Value} {l:List Rat} (h:RL H v l) (k:H.Le G):RL G v l:=by
 obtain ⟨vs,h1,h2,h3⟩:=h
 exact ⟨vs,h1,fun j x q e1 e2=>(h2 j x q e1 e2).mono k,h3.mono k⟩
theorem QL.at {H:Hp} {v:Value} {l:List Rat} {j:Nat} {q:Rat} (hj:l[j]?=some q):((l.flatMap fun q=>vlist (fracV q)).drop (j*5)).take 5=vlist (fracV q):=flat_cut _ 5 l (fun _ _=>rfl) j q hj
theorem RQ.cells {H:Hp} {x:Value} {q:Rat} (h:RQ H x q):(vlist x).length=3∧oneB (vlist x)=true:=by
 obtain ⟨_,_,_,_,_,_,rfl,_,_⟩:=h
 exact ⟨rfl,rfl⟩
theorem RL.at {H:Hp} {v:Value} {l:List Rat} (h:RL H v l) {j:Nat} {q:Rat} (hj:l[j]?=some q):∃ (vs:List Value) (x:Value),SlC H v l.length 3 (vs.flatMap vlist)∧((vs.flatMap vlist).drop (j*3)).take 3=vlist x∧RQ H x q:=by
 obtain ⟨vs,h1,h2,h3⟩:=h
 obtain ⟨hl,rfl⟩:=List.getElem?_eq_some_iff.1 hj
 have hv:vs[j]?=some (vs[j]'(by omega)):=List.getElem?_eq_getElem oM
 have hall:∀ x,x∈vs→(vlist x).length=3:=fun x hx=>by
  obtain ⟨i,hi,rfl⟩:=List.getElem_of_mem hx
  exact (h2 i _ _ (List.getElem?_eq_getElem hi) (List.getElem?_eq_getElem oM)).cells.1
 exact ⟨vs,_,h3,flat_cut _ 3 vs hall j _ hv,h2 j _ _ hv hj⟩
theorem take_snoc {α:Type} {l:List α} {i:Nat} {x:α} (h:l[i]?=some x):l.take (i+1)=l.take i++[x]:=by
 obtain ⟨hl,rfl⟩:=List.getElem?_eq_some_iff.1 h
 exact List.take_succ_eq_append_getElem hl
theorem same_yes {H:Hp} {w:Value} {p:Rat} (hw:RQ H w p) (hp:rq p):PC prog 21 #[fracV p,w] H fun r _=>r=.bool true:=by
 have:=same_pc hw hp hp
 rwa [decide_eq_true rfl] at this
theorem RL.val {H:Hp} {v:Value} {l:List Rat} (h:RL H v l):∃ a cap,v=.slice a l.length cap:=by
 obtain ⟨vs,_,_,h3⟩:=h
 exact SlC.val h3
theorem inRow_pc {H:Hp} {v:Value} {l:List Rat} (h:RL H v l) (hl:l.length≤100000000) (hq:∀ q,q∈l→rq q):PC prog 11 #[v] H fun r H'=>QL H' r l:=by
 obtain ⟨a,cap,rfl⟩:=RL.val h
 refine BD func11 ntmps11 ?_
 try refine RUN ?_
 refine EV.loopK (ι:=Nat × Value × Ows) [0] [] (fun q=>[(3,.v q.2.1),(4,.v (.int .i64 (q.1:Int)))]) (fun _=>[]) (fun q=>q.2.2) (fun q G=>q.1≤l.length∧OwnL 67 5 q.2.1 q.1 ((l.take q.1).flatMap fun q=>vlist (fracV q)) q.2.2) (fun q=>l.length-q.1) ((0,.slice none 0 0,[])) rfl rfl ⟨rfl,rfl,trivial⟩ trivial rfl (fun _=>rfl) (⟨Nat.zero_le _,OwnL.nil _ _⟩) ?_
 rintro ⟨i,w,ow⟩ G1 hG1 ⟨hi,hown⟩
 dsimp only at hi hown
 try refine RUN ?_
 refine EV.cond rfl (fun hlt=>?_) (fun hlt=>?_)
 ·simp only [nN] at hlt
  obtain ⟨q,hqi⟩:∃ q,l[i]?=some q:=⟨_,List.getElem?_eq_getElem hlt⟩
  obtain ⟨vs,x,hs,hc,hx⟩:=(h.mono hG1).at hqi
  obtain ⟨xa,xl,xc,ya,yl,yc,rfl,hx1,hx2⟩:=id hx
  try refine RUN ?_
  refine EVL.idxM tO rfl rfl rfl rfl rfl rfl rfl rfl rfl (hs) (i) (rfl) (hlt) (hc) ?_
  repeat (first | refine RUN ?_ | refine CV (in_pc hx (hq q (List.mem_of_getElem? hqi))) ?_ | refine CE (in_pc hx (hq q (List.mem_of_getElem? hqi))) ?_)
  refine EVL.app1 tO rfl rfl rfl rfl rfl rfl rfl rfl rfl rfl rfl rfl rfl rfl rfl rfl rfl rfl rfl (fun _=>rfl) (ow) ([]) ((List.append_nil _).symm) (hown) oM fun _=>?_
  intro v' ow' hown'
  try refine RUN ?_
  refine ⟨(i+1,v',ow'),⟨rfl,?_,trivial⟩,sB,trivial,trivial,List.append_nil _,⟨by dsimp only;omega,?_⟩,Hp.Le.refl _,by dsimp only;omega⟩
  ·rw [wi_inc i (by omega)];rfl
  ·dsimp only
   rw [take_snoc hqi,List.flatMap_append]
   exact hown'
 ·simp only [nN] at hlt
  obtain rfl:i=l.length:=by omega
  (first | refine EVL.publishL [] ow [] ((List.append_nil _).symm) hown fun G2 hG2 hs=>?_ | refine EV.publishL [] ow [] ((List.append_nil _).symm) hown fun G2 hG2 hs=>?_)
  try refine RUN ?_
  rw [List.take_length] at hs
  exact hs
theorem sameRow_pc {H:Hp} {u v:Value} {l:List Rat} (hu:QL H u l) (hv:RL H v l) (hl:l.length≤100000000) (hq:∀ q,q∈l→rq q):PC prog 24 #[u,v] H fun r _=>r=.bool true:=by
 obtain ⟨a,cap,rfl⟩:=RL.val hv
 obtain ⟨b,cap',rfl⟩:=SlC.val hu
 refine BD func24 ntmps24 ?_
 try refine RUN ?_
 rw [show ((l.length:Int) != (l.length:Int))=false by simp]
 try refine RUN ?_
 refine EV.loopK (ι:=Nat) [0,1] [] (fun i=>[(5,.v (.int .i64 (i:Int)))]) (fun _=>[]) (fun _=>[]) (fun i G=>i≤l.length) (fun i=>l.length-i) (0) rfl rfl ⟨rfl,trivial⟩ trivial rfl (fun _=>rfl) (Nat.zero_le _) ?_
 intro i G1 hG1 hi
 try refine RUN ?_
 refine EV.cond rfl (fun hlt=>?_) (fun hlt=>?_)
 ·simp only [nN] at hlt
  obtain ⟨q,hqi⟩:∃ q,l[i]?=some q:=⟨_,List.getElem?_eq_getElem hlt⟩
  obtain ⟨vs,x,hs,hc,hx⟩:=(hv.mono hG1).at hqi
  obtain ⟨xa,xl,xc,ya,yl,yc,rfl,hx1,hx2⟩:=id hx
  have hqq:=hq q (List.mem_of_getElem? hqi)
  try refine RUN ?_
  apply EV.drawn 9 kR kR;intro xv yw
  (repeat (first | refine' DV ?_ | refine' DA ?_ | refine' DK0 ?_ | refine' DT ?_ | refine' DS ?_))
  refine' DJ.idxM tO rfl rfl rfl rfl rfl rfl rfl rfl rfl ((SlC.mono (show SlC H (.slice b l.length cap') l.length 5 (l.flatMap fun q=>vlist (fracV q)) from hu) hG1)) (i) (rfl) (hlt) ((QL.at (H:=G1) (v:=.slice b l.length cap') hqi)) ?_;rotate_left
  (repeat (first | refine' DV ?_ | refine' DA ?_ | refine' DK0 ?_ | refine' DT ?_ | refine' DS ?_))
  refine' DJ.idxM tO rfl rfl rfl rfl rfl rfl rfl rfl rfl (hs) (i) (rfl) (hlt) (hc) ?_;rotate_left
  (repeat (first | refine' DV ?_ | refine' DA ?_ | refine' DK0 ?_ | refine' DT ?_ | refine' DS ?_))
  refine' DJ.callS rfl rfl rfl rfl rfl (cO func21) (fun G hG hd=>same_yes (hx.mono hG) hqq) ?_;rotate_left
  (refine DJ.nil (fun G2 hG2 hF2=>?_);(case hS|hS2=>rfl))
  try refine RUN ?_
  refine ⟨i+1,⟨?_,trivial⟩,sB,trivial,trivial,rfl,hlt,hG2,by omega⟩
  rw [wi_inc i (by omega)];rfl
 ·(try refine RUN ?_)
  rfl
end Go.Proofs.YtgjepkeeeemppaaGreatDoor
namespace Go.Proofs.YtgjepkeeeemppaaGreatDoor
def sumQ (l:List Rat):Rat:=l.foldl (·+·) 0
theorem sumQ_nil:sumQ []=0:=rfl
theorem sumQ_snoc (l:List Rat) (x:Rat):sumQ (l++[x])=sumQ l+x:=by unfold sumQ;rw [List.foldl_append];rfl
theorem ht_sumQ (B:Nat):∀ (l:List Rat),(∀ q,q∈l→ht q≤B)→ht (sumQ l.reverse)≤1+(B+1)*l.length
 | [],_=>by rw [List.reverse_nil,sumQ_nil,ht_zero];exact Nat.le_add_right ..
 | x::l,h=>by
  have h1:=ht_sumQ B l (fun q hq=>h q (List.mem_cons_of_mem _ hq))
  have h2:=h x (List.mem_cons_self ..)
  have h3:=ht_add (sumQ l.reverse) x
  rw [List.reverse_cons,sumQ_snoc,List.length_cons,Nat.mul_succ]
  omega
theorem ht_sum (B:Nat) (l:List Rat) (h:∀ q,q∈l→ht q≤B):ht (sumQ l)≤1+(B+1)*l.length:=by
 have:=ht_sumQ B l.reverse (fun q hq=>h q (List.mem_reverse.1 hq))
 rwa [List.reverse_reverse,List.length_reverse] at this
def dotL (a b:List Rat):List Rat:=List.zipWith (· * ·) a b
theorem dotL_get {a b:List Rat} {i:Nat} {x y:Rat} (h1:a[i]?=some x) (h2:b[i]?=some y):(dotL a b)[i]?=some (x*y):=by
 unfold dotL;rw [List.getElem?_zipWith,h1,h2]
theorem dotL_ht {B:Nat}:∀ {a b:List Rat},(∀ q,q∈a→ht q≤B)→(∀ q,q∈b→ht q≤B)→∀ q,q∈dotL a b→ht q≤B+B
 | [],_,_,_,q,hq=>by simp [dotL] at hq
 | _::_,[],_,_,q,hq=>by simp [dotL] at hq
 | x::a,y::b,ha,hb,q,hq=>by
  rcases List.mem_cons.1 (show q∈x*y::dotL a b from hq) with rfl | h
  ·have:=ht_mul x y
   have h1:=ha x (List.mem_cons_self ..)
   have h2:=hb y (List.mem_cons_self ..)
   omega
  ·exact dotL_ht (fun q h=>ha q (List.mem_cons_of_mem _ h)) (fun q h=>hb q (List.mem_cons_of_mem _ h)) q h
theorem drop_at {a:List Rat} {i:Nat} {x:Rat} (h:a[i]?=some x):a.drop i=x::a.drop (i+1):=by
 obtain ⟨hl,rfl⟩:=List.getElem?_eq_some_iff.1 h
 exact List.drop_eq_getElem_cons hl
def Rising (l:List Rat):Prop:=l.Pairwise (·≤·)
theorem rising_one {l m:List Rat} (h:Rising l) (k:Rising m) (p:l.Perm m):l=m:=List.Perm.eq_of_pairwise (fun a b _ _ h1 h2=>Rat.le_antisymm h1 h2) h k p
def putAt {α:Type} (l:List α) (k:Nat) (x:α):List α:=l.take k++x::l.drop k
theorem putAt_perm {α:Type} (l:List α) (k:Nat) (x:α):(putAt l k x).Perm (l++[x]):=by
 unfold putAt
 refine List.perm_middle.trans ?_
 rw [List.take_append_drop]
 exact (List.perm_append_comm (l₁:=[x]) (l₂:=l))
theorem putAt_rising {l:List Rat} {k:Nat} {x:Rat} (h:Rising l) (h1:∀ y,y∈l.take k→y≤x) (h2:∀ y,y∈l.drop k→x≤y):Rising (putAt l k x):=by
 unfold putAt Rising
 rw [List.pairwise_append]
 refine ⟨h.sublist (List.take_sublist ..),List.pairwise_cons.2 ⟨fun y hy=>h2 y hy,h.sublist (List.drop_sublist ..)⟩,fun a ha b hb=>?_⟩
 rcases List.mem_cons.1 hb with rfl | hb
 ·exact h1 a ha
 ·exact Rat.le_trans (h1 a ha) (h2 b hb)
theorem rising_take {l:List Rat} {k:Nat} {x y:Rat} (h:Rising l) (hk:l[k]?=some y) (hy:y≤x):∀ z,z∈l.take (k+1)→z≤x:=fun z hz=>by
 obtain ⟨hl,rfl⟩:=List.getElem?_eq_some_iff.1 hk
 rw [List.take_succ_eq_append_getElem hl] at hz
 rcases List.mem_append.1 hz with hz | hz
 ·have hp:Rising (l.take (k+1)):=h.sublist (List.take_sublist ..)
  unfold Rising at hp
  rw [List.take_succ_eq_append_getElem hl,List.pairwise_append] at hp
  exact Rat.le_trans (hp.2.2 z hz _ (List.mem_singleton.2 rfl)) hy
 ·rw [List.mem_singleton.1 hz];exact hy
def sortQ (l:List Rat):List Rat:=l.mergeSort fun a b=>decide (a≤b)
theorem sortQ_perm (l:List Rat):(sortQ l).Perm l:=List.mergeSort_perm l _
theorem sortQ_rising (l:List Rat):Rising (sortQ l):=by
 have:=List.pairwise_mergeSort (le:=fun a b:Rat=>decide (a≤b)) (fun a b c h1 h2=>by simp at h1 h2 ⊢;exact Rat.le_trans h1 h2) (fun a b=>by simp;exact Rat.le_total) l
 exact this.imp fun h=>by simpa using h
theorem sortQ_one {l m:List Rat} (h:m.Perm l) (k:Rising m):m=sortQ l:=rising_one k (sortQ_rising l) (h.trans (sortQ_perm l).symm)
end Go.Proofs.YtgjepkeeeemppaaGreatDoor
namespace Go.Proofs.YtgjepkeeeemppaaGreatDoor
open Go.RowKit _root_.Go.Proofs.Tryz
def RVs (H:Hp) (vs:List Value) (l:List Rat):Prop:=vs.length=l.length∧∀ (j:Nat) (x:Value) (q:Rat),vs[j]?=some x→l[j]?=some q→RQ H x q
theorem RVs.mono {H G:Hp} {vs:List Value} {l:List Rat} (h:RVs H vs l) (k:H.Le G):RVs G vs l:=⟨h.1,fun j x q e1 e2=>(h.2 j x q e1 e2).mono k⟩
theorem RVs.nil (H:Hp):RVs H [] []:=⟨rfl,fun j x q h=>by simp at h⟩
theorem RVs.snoc {H:Hp} {vs:List Value} {l:List Rat} {x:Value} {q:Rat} (h:RVs H vs l) (k:RQ H x q):RVs H (vs++[x]) (l++[q]):=by
 refine ⟨by simp [h.1],fun j y r e1 e2=>?_⟩
 rw [List.getElem?_append] at e1 e2
 by_cases hj:j<vs.length
 ·rw [if_pos hj] at e1
  rw [if_pos (by rw [← h.1];exact hj)] at e2
  exact h.2 j y r e1 e2
 ·rw [if_neg hj] at e1
  rw [if_neg (by rw [← h.1];exact hj)] at e2
  have:=h.1
  cases hk:j-vs.length with
  | zero =>
   rw [hk] at e1;rw [← h.1,hk] at e2
   simp at e1 e2;subst e1;subst e2;exact k
  | succ m=>rw [hk] at e1;simp at e1
theorem RVs.rl {H:Hp} {vs:List Value} {l:List Rat} {v:Value} (h:RVs H vs l) (hs:SlC H v l.length 3 (vs.flatMap vlist)):RL H v l:=⟨vs,h.1,h.2,hs⟩
abbrev IL (H:Hp) (v:Value) (l:List Int):Prop:=SlN (fun z:Int=>Value.int .i64 z) H v l
def rowQ (l:List Int) (n:Nat):List Rat:=(List.range n).map fun i=>match l[i]? with
 | some z=>rNum z
 | none=>0
theorem rowQ_len (l:List Int) (n:Nat):(rowQ l n).length=n:=by simp [rowQ]
theorem rowQ_some {l:List Int} {n i:Nat} {z:Int} (hi:i<n) (h:l[i]?=some z):(rowQ l n)[i]?=some (rNum z):=by
 unfold rowQ;rw [List.getElem?_map,List.getElem?_range hi];simp [h]
theorem rowQ_none {l:List Int} {n i:Nat} (hi:i<n) (h:l[i]?=none):(rowQ l n)[i]?=some 0:=by
 unfold rowQ;rw [List.getElem?_map,List.getElem?_range hi];simp [h]
theorem row_pc {H:Hp} {v:Value} {l:List Int} (h:IL H v l) (hb:∀ z,z∈l → -9223372036854775808≤z∧z<9223372036854775808) (n:Nat) (hn:n≤1000000):PC prog 12 #[v,.int .i64 (n:Int)] H fun r H'=>RL H' r (rowQ l n):=by
 obtain ⟨a,cap,rfl⟩:=SlC.val h
 have hz0:=fun G:Hp=>refOf_pc (H:=G) 0 oM oM
 rw [show ((0:Int):Rat)=0 from rfl] at hz0
 refine BD func12 ntmps12 ?_
 try refine RUN ?_
 refine EV.loopK (ι:=Nat × List Value × Value × Ows) [0,1] [] (fun q=>[(5,.v q.2.2.1),(6,.v (.int .i64 (q.1:Int)))]) (fun _=>[]) (fun q=>q.2.2.2) (fun q G=>q.1≤n∧RVs G q.2.1 ((rowQ l n).take q.1)∧OwnL 36 3 q.2.2.1 q.1 (q.2.1.flatMap vlist) q.2.2.2) (fun q=>n-q.1) ((0,[],.slice none 0 0,[])) rfl rfl ⟨rfl,rfl,trivial⟩ trivial rfl (fun _=>rfl) (⟨Nat.zero_le _,RVs.nil _,OwnL.nil _ _⟩) ?_
 rintro ⟨i,vs,w,ow⟩ G1 hG1 ⟨hi,hvs,hown⟩
 dsimp only at hi hvs hown
 try refine RUN ?_
 refine EV.cond rfl (fun hlt=>?_) (fun hlt=>?_)
 ·simp only [nN] at hlt
  try refine RUN ?_
  refine EV.cond rfl (fun hll=>?_) (fun hll=>?_)
  ·simp only [nN] at hll
   obtain ⟨z,hzi⟩:∃ z,l[i]?=some z:=⟨_,List.getElem?_eq_getElem hll⟩
   have hzb:=hb z (List.mem_of_getElem? hzi)
   have hq:=rowQ_some hlt hzi
   try refine RUN ?_
   refine EVL.idxR tO rfl rfl rfl rfl rfl rfl rfl rfl rfl rfl ((h.mono hG1)) (i) (rfl) (hll) ((by rw [List.getElem?_map,hzi];rfl)) ?_
   try refine RUN ?_
   refine EVL.call rfl rfl rfl rfl rfl (r_pc z hzb) ?_
   rintro r G2 hr hG2
   obtain ⟨xa,xl,xc,ya,yl,yc,rfl,hx1,hx2⟩:=id hr
   try refine RUN ?_
   refine EVL.app1 tO rfl rfl rfl rfl rfl rfl rfl rfl rfl rfl rfl rfl rfl rfl rfl rfl rfl rfl rfl (fun _=>rfl) (ow) ([]) ((List.append_nil _).symm) (hown) oM fun _=>?_
   intro v' ow' hown'
   try refine RUN ?_
   refine ⟨(i+1,vs++[_],v',ow'),⟨rfl,?_,trivial⟩,sB,trivial,trivial,List.append_nil _,⟨hlt,by rw [take_snoc hq];exact (hvs.mono hG2).snoc hr,?_⟩,hG2,by dsimp only;omega⟩
   ·rw [wi_inc i (by omega)];rfl
   ·dsimp only
    rw [List.flatMap_append]
    exact hown'
  ·simp only [nN] at hll
   have hzi:l[i]?=none:=List.getElem?_eq_none oM
   have hq:=rowQ_none hlt hzi
   try refine RUN ?_
   refine EVL.call rfl rfl rfl rfl rfl (hz0 _) ?_
   rintro r G2 hr hG2
   obtain ⟨xa,xl,xc,ya,yl,yc,rfl,hx1,hx2⟩:=id hr
   try refine RUN ?_
   refine EVL.app1 tO rfl rfl rfl rfl rfl rfl rfl rfl rfl rfl rfl rfl rfl rfl rfl rfl rfl rfl rfl (fun _=>rfl) (ow) ([]) ((List.append_nil _).symm) (hown) oM fun _=>?_
   intro v' ow' hown'
   try refine RUN ?_
   refine ⟨(i+1,vs++[_],v',ow'),⟨rfl,?_,trivial⟩,sB,trivial,trivial,List.append_nil _,⟨hlt,by rw [take_snoc hq];exact (hvs.mono hG2).snoc hr,?_⟩,hG2,by dsimp only;omega⟩
   ·rw [wi_inc i (by omega)];rfl
   ·dsimp only
    rw [List.flatMap_append]
    exact hown'
 ·simp only [nN] at hlt
  obtain rfl:i=n:=by omega
  (first | refine EVL.publishL [] ow [] ((List.append_nil _).symm) hown fun G2 hG2 hs=>?_ | refine EV.publishL [] ow [] ((List.append_nil _).symm) hown fun G2 hG2 hs=>?_)
  try refine RUN ?_
  have e:(rowQ l i).take i=rowQ l i:=List.take_of_length_le (by rw [rowQ_len];exact Nat.le_refl _)
  rw [e] at hvs
  exact (hvs.mono hG2).rl (by rw [rowQ_len];exact hs)
theorem agg3 {a b c a' b' c':Value} (e:Value.agg #[a,b,c]=.agg #[a',b',c']):a=a'∧b=b'∧c=c':=by
 simp only [Value.agg.injEq,Array.mk.injEq,List.cons.injEq,and_true] at e
 exact e
theorem refTotal_pc {H:Hp} {v:Value} {l:List Rat} (h:RL H v l) (hl:l.length≤100000) (hb:∀ q,q∈l→ht q≤100):PC prog 185 #[v] H fun r H'=>RQ H' r (sumQ l):=by
 obtain ⟨a,cap,rfl⟩:=RL.val h
 have hz0:=fun G:Hp=>refOf_pc (H:=G) 0 oM oM
 rw [show ((0:Int):Rat)=0 from rfl] at hz0
 refine BD func185 ntmps185 ?_
 try refine RUN ?_
 refine EVL.call rfl rfl rfl rfl rfl (hz0 _) ?_
 rintro r G0 hr hG0
 obtain ⟨xa,xl,xc,ya,yl,yc,rfl,hx1,hx2⟩:=id hr
 try refine RUN ?_
 refine EV.loopK (ι:=Nat × Value × Value × Value) [0,2,3] [2] (fun q=>[(4,.v (.int .i64 (q.1:Int)))]) (fun q=>[(3,36,[q.2.1,q.2.2.1,q.2.2.2])]) (fun _=>[]) (fun q G=>q.1≤l.length∧G0.Le G∧RQ G (.agg #[q.2.1,q.2.2.1,q.2.2.2]) (sumQ (l.take q.1))) (fun q=>l.length-q.1) ((0,_,_,_)) rfl rfl ⟨rfl,trivial⟩ ⟨rfl,trivial⟩ rfl (fun _=>rfl) (⟨Nat.zero_le _,Hp.Le.refl _,hr⟩) ?_
 rintro ⟨i,c1,c2,c3⟩ G1 hG1 ⟨hi,hG01,hs⟩
 dsimp only at hi hs hG01
 try refine RUN ?_
 refine EV.cond rfl (fun hlt=>?_) (fun hlt=>?_)
 ·simp only [nN] at hlt
  obtain ⟨q,hqi⟩:∃ q,l[i]?=some q:=⟨_,List.getElem?_eq_getElem hlt⟩
  obtain ⟨vs,x,hsl,hc,hx⟩:=(h.mono (hG0.trans hG01)).at hqi
  obtain ⟨xa',xl',xc',ya',yl',yc',rfl,hx1',hx2'⟩:=id hx
  have hqb:=hb q (List.mem_of_getElem? hqi)
  have hsb:=ht_sum 100 (l.take i) (fun q hq=>hb q (List.mem_of_mem_take hq))
  rw [List.length_take,Nat.min_eq_left hi] at hsb
  have qs:rq (sumQ (l.take i)):=Nat.le_trans hsb oM
  have qq:rq q:=Nat.le_trans hqb oM
  try refine RUN ?_
  apply EV.drawn 6 kR kR;intro xv yw
  (repeat (first | refine' DV ?_ | refine' DA ?_ | refine' DK0 ?_ | refine' DT ?_ | refine' DS ?_))
  refine' DJ.idxM tO rfl rfl rfl rfl rfl rfl rfl rfl rfl (hsl) (i) (rfl) (hlt) (hc) ?_;rotate_left
  (repeat (first | refine' DV ?_ | refine' DA ?_ | refine' DK0 ?_ | refine' DT ?_ | refine' DS ?_))
  refine' DJ.call rfl rfl rfl rfl rfl (cO func60) (fun G hG hd=>refAdd_pc (hs.mono hG) (hx.mono hG) qs qq) (fun _ _ _ h k=>RQ.mono h k) ?_;rotate_left
  (refine DJ.nil (fun G2 hG2 hF2=>?_);(case hS|hS2=>rfl))
  have hR:=hF2.1
  rw [← sumQ_snoc,← take_snoc hqi] at hR
  obtain ⟨_,_,_,_,_,_,e,_,_⟩:=id hR
  rw [e] at hR ⊢
  try refine RUN ?_
  refine ⟨(i+1,_,_,_),⟨?_,trivial⟩,sB,⟨rfl,trivial⟩,sB,rfl,⟨hlt,hG01.trans hG2,hR⟩,hG2,by dsimp only;omega⟩
  rw [wi_inc i (by omega)];rfl
 ·simp only [nN] at hlt
  obtain rfl:i=l.length:=by omega
  rw [List.take_length] at hs
  obtain ⟨_,_,_,_,_,_,e,_,_⟩:=id hs
  obtain ⟨rfl,rfl,rfl⟩:=agg3 e
  try refine RUN ?_
  exact hs
theorem ht_len {n:Nat} (h:n≤100000):ht ((n:Int):Rat)≤20:=by
 have:=ht_int (n:Int)
 have h2:bl (n:Int).natAbs≤17:=bl_le oM
 omega
theorem refMean_pc {H:Hp} {v:Value} {l:List Rat} (h:RL H v l) (hl:l.length≤100000) (h0:l.length≠0) (hb:∀ q,q∈l→ht q≤100):PC prog 187 #[v] H fun r H'=>RQ H' r (sumQ l / ((l.length:Int):Rat)):=by
 obtain ⟨a,cap,rfl⟩:=RL.val h
 have hs:=ht_sum 100 l hb
 have hln:=ht_len hl
 have hof:=fun G:Hp=>refOf_pc (H:=G) (l.length:Int) oM oM
 refine BD func187 ntmps187 ?_
 try refine RUN ?_
 refine EVL.call rfl rfl rfl rfl rfl (refTotal_pc h hl hb) ?_
 rintro r1 G1 h1 hG1
 try refine RUN ?_
 refine EVL.call rfl rfl rfl rfl rfl (hof _) ?_
 rintro r2 G2 h2 hG2
 try refine RUN ?_
 refine EVL.call rfl rfl rfl rfl rfl (refDivQ_pc (h1.mono hG2) h2 (Nat.le_trans hs oM) (Nat.le_trans hln oM) (by show (l.length:Int)≠0;omega)) ?_
 rintro r3 G3 ⟨_,_,_,_,_,_,rfl,d1,d2⟩ _
 try refine RUN ?_
 exact ⟨_,_,_,_,_,_,rfl,d1,d2⟩
theorem refDot_pc {H:Hp} {u v:Value} {l m:List Rat} (hu:RL H u l) (hv:RL H v m) (hlm:l.length=m.length) (hl:l.length≤100000) (hb:∀ q,q∈l→ht q≤50) (hb':∀ q,q∈m→ht q≤50):PC prog 186 #[u,v] H fun r H'=>RQ H' r (sumQ (dotL l m)):=by
 obtain ⟨a,cap,rfl⟩:=RL.val hu
 obtain ⟨b,cap',rfl⟩:=RL.val hv
 have hdl:(dotL l m).length=l.length:=by unfold dotL;rw [List.length_zipWith];omega
 have hdh:=dotL_ht hb hb'
 have hz0:=fun G:Hp=>refOf_pc (H:=G) 0 oM oM
 rw [show ((0:Int):Rat)=0 from rfl] at hz0
 refine BD func186 ntmps186 ?_
 try refine RUN ?_
 refine EVL.call rfl rfl rfl rfl rfl (hz0 _) ?_
 rintro r G0 hr hG0
 obtain ⟨xa,xl,xc,ya,yl,yc,rfl,hx1,hx2⟩:=id hr
 try refine RUN ?_
 refine EV.loopK (ι:=Nat × Value × Value × Value) [0,1,4,5] [4] (fun q=>[(6,.v (.int .i64 (q.1:Int)))]) (fun q=>[(5,36,[q.2.1,q.2.2.1,q.2.2.2])]) (fun _=>[]) (fun q G=>q.1≤l.length∧G0.Le G∧RQ G (.agg #[q.2.1,q.2.2.1,q.2.2.2]) (sumQ ((dotL l m).take q.1))) (fun q=>l.length-q.1) ((0,_,_,_)) rfl rfl ⟨rfl,trivial⟩ ⟨rfl,trivial⟩ rfl (fun _=>rfl) (⟨Nat.zero_le _,Hp.Le.refl _,hr⟩) ?_
 rintro ⟨i,c1,c2,c3⟩ G1 hG1 ⟨hi,hG01,hs⟩
 dsimp only at hi hs hG01
 try refine RUN ?_
 refine EV.cond rfl (fun hlt=>?_) (fun hlt=>?_)
 ·simp only [nN] at hlt
  obtain ⟨q,hqi⟩:∃ q,l[i]?=some q:=⟨_,List.getElem?_eq_getElem hlt⟩
  obtain ⟨q',hqi'⟩:∃ q,m[i]?=some q:=⟨_,List.getElem?_eq_getElem (hlm ▸ hlt)⟩
  obtain ⟨vs,x,hsl,hc,hx⟩:=(hu.mono (hG0.trans hG01)).at hqi
  obtain ⟨xa',xl',xc',ya',yl',yc',rfl,hx1',hx2'⟩:=id hx
  obtain ⟨vs2,x2,hsl2,hc2,hy⟩:=(hv.mono (hG0.trans hG01)).at hqi'
  obtain ⟨xa'',xl'',xc'',ya'',yl'',yc'',rfl,hy1',hy2'⟩:=id hy
  have hqb:=hb q (List.mem_of_getElem? hqi)
  have hqb':=hb' q' (List.mem_of_getElem? hqi')
  have hqd:=dotL_get hqi hqi'
  have hsb:=ht_sum 100 ((dotL l m).take i) (fun q hq=>hdh q (List.mem_of_mem_take hq))
  rw [List.length_take,Nat.min_eq_left (by omega)] at hsb
  have qs:rq (sumQ ((dotL l m).take i)):=Nat.le_trans hsb oM
  have hm:=ht_mul q q'
  have qq:rq (q*q'):=Nat.le_trans hm oM
  try refine RUN ?_
  apply EV.drawn 11 kR kR;intro xv yw
  (repeat (first | refine' DV ?_ | refine' DA ?_ | refine' DK0 ?_ | refine' DT ?_ | refine' DS ?_))
  refine' DJ.idxM tO rfl rfl rfl rfl rfl rfl rfl rfl rfl (hsl) (i) (rfl) (hlt) (hc) ?_;rotate_left
  (repeat (first | refine' DV ?_ | refine' DA ?_ | refine' DK0 ?_ | refine' DT ?_ | refine' DS ?_))
  refine' DJ.idxM tO rfl rfl rfl rfl rfl rfl rfl rfl rfl (hsl2) (i) (rfl) ((hlm ▸ hlt)) (hc2) ?_;rotate_left
  (repeat (first | refine' DV ?_ | refine' DA ?_ | refine' DK0 ?_ | refine' DT ?_ | refine' DS ?_))
  refine' DJ.call rfl rfl rfl rfl rfl (cO func61) (fun G hG hd=>refMulQ_pc (hx.mono hG) (hy.mono hG) (Nat.le_trans hqb oM) (Nat.le_trans hqb' oM)) (fun _ _ _ h k=>RQ.mono h k) ?_;rotate_left
  refine' DJ.call rfl rfl rfl rfl rfl (cO func60) (fun G hG hd=>refAdd_pc (hs.mono hG) (hd.head kR) qs qq) (fun _ _ _ h k=>RQ.mono h k) ?_;rotate_left
  (refine DJ.nil (fun G2 hG2 hF2=>?_);(case hS|hS2=>rfl))
  have hR:=hF2.1
  rw [← sumQ_snoc,← take_snoc hqd] at hR
  obtain ⟨_,_,_,_,_,_,e,_,_⟩:=id hR
  rw [e] at hR ⊢
  try refine RUN ?_
  refine ⟨(i+1,_,_,_),⟨?_,trivial⟩,sB,⟨rfl,trivial⟩,sB,rfl,⟨hlt,hG01.trans hG2,hR⟩,hG2,by dsimp only;omega⟩
  rw [wi_inc i (by omega)];rfl
 ·simp only [nN] at hlt
  obtain rfl:i=l.length:=by omega
  rw [show (dotL l m).take l.length=dotL l m by rw [← hdl,List.take_length]] at hs
  obtain ⟨_,_,_,_,_,_,e,_,_⟩:=id hs
  obtain ⟨rfl,rfl,rfl⟩:=agg3 e
  try refine RUN ?_
  exact hs
def kb (z:Int):Nat:=(max 0 (min z 256)).toNat
theorem ht_divInt (n d:Int) (h:d≠0):ht (Rat.divInt n d)≤max (bl n.natAbs) (bl d.natAbs):=by
 rw [divInt_mk n d h]
 refine Nat.le_trans (ht_mk _ _ oM) ?_
 have:(if d<0 then -n else n).natAbs=n.natAbs:=by split <;> simp
 rw [this];exact Nat.le_refl _
theorem ht_rNum (z:Int):ht (rNum z)≤5:=by
 unfold rNum
 have hrd:=rDen_range (z.tdiv 41 % 6).toNat
 have m1:=Int.emod_nonneg z (show (41:Int)≠0 by omega)
 have m2:=Int.emod_lt_of_pos z (show (0:Int)<41 by omega)
 refine Nat.le_trans (ht_divInt _ _ oM) (Nat.max_le.2 ⟨bl_le oM,bl_le oM⟩)
theorem same_self {H:Hp} {w:Value} {p:Rat} (hw:RQ H w p) (hp:rq p):PC prog 21 #[fracV p,w] H fun r _=>r=.bool true:=by
 have:=same_pc hw hp hp
 rwa [decide_eq_true rfl] at this
theorem rq_small {q:Rat} {k:Nat} (h:ht q≤k) (hk:k≤100000000):rq q:=Nat.le_trans h hk
section
variable {P:Program} {n:Nat} {ops:Array Oper} {o:Oper} {rest:List Oper} {env:Env} {bx:Bxs} {H:Hs} {Q:EQ} {τ:Tab} {d:Nat}
end
theorem ordR_self (a:Rat):ordR a a=0:=by unfold ordR;rw [if_neg Rat.lt_irrefl,if_neg Rat.lt_irrefl]
theorem ordR_pos (a b:Rat):ordR a b>0↔b<a:=by
 unfold ordR
 constructor
 ·intro h
  split at h
  ·exact absurd h (by decide)
  ·split at h
   ·assumption
   ·exact absurd h (by decide)
 ·intro h
  rw [if_neg (Rat.not_lt.2 (Rat.le_of_lt h)),if_pos h];decide
theorem fracV_zero:fracV 0=.agg #[.bool false,.int .u64 0,.string ⟨#[]⟩,.int .u64 0,.string ⟨#[]⟩]:=by
 show frV 0 0=_
 rw [frV_zero,show (0:Int).natAbs=0 from rfl,moreB_empty (n:=0) (by decide)];rfl
theorem frac_zero_cells:vlist (fracV 0)=[.bool false,.int .u64 0,.string ⟨#[]⟩,.int .u64 0,.string ⟨#[]⟩]:=by rw [fracV_zero];rfl
theorem sm_of {q:Rat} {n:Nat} (h:ht q≤n) (hn:n≤100000000):sm q:=Nat.le_trans h hn
theorem sum_pc {H:Hp} {v:Value} {l:List Rat} (h:QL H v l) (hl:l.length≤100000) (hb:∀ q,q∈l→ht q≤100):PC prog 105 #[v] H fun r _=>r=fracV (sumQ l):=by
 obtain ⟨a,cap,rfl⟩:=SlC.val h
 have hz:vlist (fracV (sumQ (l.take 0)))=[.bool false,.int .u64 0,.string ⟨#[]⟩,.int .u64 0,.string ⟨#[]⟩]:=frac_zero_cells
 refine BD func105 ntmps105 ?_
 try refine RUN ?_
 refine EV.loopK (ι:=Nat) [2,3,6,7] [2] (fun i=>[(8,.v (.int .i64 (i:Int)))]) (fun i=>[(3,67,vlist (fracV (sumQ (l.take i))))]) (fun _=>[]) (fun i G=>i≤l.length) (fun i=>l.length-i) (0) rfl rfl ⟨rfl,trivial⟩ ⟨by rw [hz];rfl,trivial⟩ rfl (fun _=>rfl) (Nat.zero_le _) ?_
 intro i G1 hG1 hi
 try refine RUN ?_
 refine EV.cond rfl (fun hlt=>?_) (fun hlt=>?_)
 ·simp only [nN] at hlt
  obtain ⟨q,hqi⟩:∃ q,l[i]?=some q:=⟨_,List.getElem?_eq_getElem hlt⟩
  have hqb:=hb q (List.mem_of_getElem? hqi)
  have hsb:=ht_sum 100 (l.take i) (fun q hq=>hb q (List.mem_of_mem_take hq))
  rw [List.length_take,Nat.min_eq_left hi] at hsb
  have hadd:=add_pv (sumQ (l.take i)) q (sm_of hsb oM) (sm_of hqb oM)
  rw [← sumQ_snoc,← take_snoc hqi] at hadd
  try refine RUN ?_
  refine EVL.idxM tO rfl rfl rfl rfl rfl rfl rfl rfl rfl ((SlC.mono (show SlC H (.slice a l.length cap) l.length 5 (l.flatMap fun q=>vlist (fracV q)) from h) hG1)) (i) (rfl) (hlt) ((QL.at (H:=H) (v:=.slice a l.length cap) hqi)) ?_
  repeat (first | refine RUN ?_ | refine CV (hadd) ?_ | refine CE (hadd) ?_)
  refine ⟨i+1,⟨?_,trivial⟩,sB,⟨rfl,trivial⟩,sB,rfl,hlt,Hp.Le.refl _,by omega⟩
  rw [wi_inc i (by omega)];rfl
 ·simp only [nN] at hlt
  obtain rfl:i=l.length:=by omega
  rw [List.take_length]
  try refine RUN ?_
  rfl
theorem mean_pc {H:Hp} {v:Value} {l:List Rat} (h:QL H v l) (hl:l.length≤100000) (h0:l.length≠0) (hb:∀ q,q∈l→ht q≤100):PC prog 57 #[v] H fun r _=>r=.tuple #[fracV (sumQ l / ((l.length:Int):Rat)),.bool true]:=by
 obtain ⟨a,cap,rfl⟩:=SlC.val h
 have hs:=ht_sum 100 l hb
 have hln:=ht_len hl
 have hsum:=sum_pc h hl hb
 have hof:=of_pv (l.length:Int) oM oM
 have hd:=div_pv (sumQ l) ((l.length:Int):Rat) (sm_of hs oM) (sm_of hln oM) (by intro e;have:((l.length:Int):Rat)=((0:Int):Rat):=e;exact h0 (by have:=Rat.intCast_inj.1 this;omega))
 refine BD func57 ntmps57 ?_
 repeat (first | refine RUN ?_ | refine CV (hsum) ?_ | refine CV (hof) ?_ | refine CV (hd) ?_ | refine CE (hsum) ?_ | refine CE (hof) ?_ | refine CE (hd) ?_)
 rfl
theorem mean_no {H:Hp} {v:Value} (h:QL H v []):PC prog 57 #[v] H fun r _=>r=.tuple #[fracV 0,.bool false]:=by
 obtain ⟨a,cap,rfl⟩:=SlC.val h
 have hsum:=sum_pc h (Nat.zero_le _) (by intro q hq;cases hq)
 have hof:=of_pv 0 oM oM
 rw [show ((0:Int):Rat)=0 from rfl] at hof
 have hd:=div_zero_pv 0
 refine BD func57 ntmps57 ?_
 repeat (first | refine RUN ?_ | refine CV (hsum) ?_ | refine CV (hof) ?_ | refine CV (hd) ?_ | refine CE (hsum) ?_ | refine CE (hof) ?_ | refine CE (hd) ?_)
 rfl
abbrev goalV (kind classes:Int) (sl sv:Value):Value:=.agg #[.int .i64 kind,.int .i64 classes,sl,sv]
theorem nat_rat_ne {n:Nat} (h0:¬ n=0):((n:Int):Rat)≠0:=fun h=>by
 have:=congrArg Rat.num h
 rw [Rat.num_intCast] at this
 have h3:(0:Rat).num=0:=rfl
 omega
theorem rat_div_zero (x:Rat):x / 0=0:=by rw [Rat.div_def,Rat.inv_zero,Rat.mul_zero]
end Go.Proofs.YtgjepkeeeemppaaGreatDoor
namespace Go.Proofs.YtgjepkeeeemppaaGreatDoor
def sqL (l:List Int):Nat:=(l.map fun x=>l.count x).sum
theorem count_snoc (l:List Int) (x y:Int):(l++[x]).count y=l.count y+if x=y then 1 else 0:=by
 rw [List.count_append,List.count_singleton]
 congr 1
 by_cases h:x=y
 ·rw [if_pos h,h];simp
 ·rw [if_neg h];simp [h]
theorem sum_count (l m:List Int) (x:Int):(m.map fun y=>l.count y+if x=y then 1 else 0).sum=(m.map fun y=>l.count y).sum+m.count x:=by
 induction m with
 | nil=>rfl
 | cons a m ih =>
  rw [List.map_cons,List.sum_cons,List.map_cons,List.sum_cons,ih,List.count_cons]
  by_cases h:x=a
  ·rw [if_pos h,h];simp;omega
  ·have h2:¬ (a == x)=true:=by simp;omega
   rw [if_neg h,if_neg h2];omega
theorem sqL_snoc (l:List Int) (x:Int):sqL (l++[x])=sqL l+2*l.count x+1:=by
 unfold sqL
 rw [List.map_append,List.sum_append]
 have e:(l.map fun y=>(l++[x]).count y)=l.map fun y=>l.count y+if x=y then 1 else 0:=List.map_congr_left fun y _=>count_snoc l x y
 rw [e,sum_count]
 have:([x].map fun y=>(l++[x]).count y).sum=l.count x+1:=by
  simp
 rw [this];omega
theorem sum_le (l:List Int) (B:Nat):∀ m:List Int,(∀ y,y∈m→l.count y≤B)→(m.map fun y=>l.count y).sum≤m.length*B
 | [],_=>by simp
 | a::m,h=>by
  have ih:=sum_le l B m (fun y hy=>h y (List.mem_cons_of_mem _ hy))
  have:=h a (List.mem_cons_self ..)
  rw [List.map_cons,List.sum_cons,List.length_cons,Nat.succ_mul];omega
theorem sqL_le (l:List Int):sqL l≤l.length*l.length:=sum_le l l.length l (fun y _=>List.count_le_length)
def atR (vals:List Rat) (rs:List Int):List Rat:=rs.map fun r=>vals.getD r.toNat 0
def atI (ls:List Int) (rs:List Int):List Int:=rs.map fun r=>ls.getD r.toNat 0
theorem atR_len (vals:List Rat) (rs:List Int):(atR vals rs).length=rs.length:=by simp [atR]
theorem atI_len (ls rs:List Int):(atI ls rs).length=rs.length:=by simp [atI]
theorem atR_mem {vals:List Rat} {rs:List Int} (h:∀ r,r∈rs→0≤r∧r<(vals.length:Int)):∀ q,q∈atR vals rs→q∈vals:=fun q hq=>by
 obtain ⟨r,hr,rfl⟩:=List.mem_map.1 hq
 have:=h r hr
 have hl:r.toNat<vals.length:=by omega
 rw [List.getD_eq_getElem?_getD,List.getElem?_eq_getElem hl]
 exact List.getElem_mem hl
def meanL (l:List Rat):Rat:=sumQ l / ((l.length:Int):Rat)
def devL (m:Rat) (l:List Rat):List Rat:=l.map fun v=>(v-m)*(v-m)
theorem devL_snoc (m:Rat) (l:List Rat) (x:Rat):sumQ (devL m (l++[x]))=sumQ (devL m l)+(x-m)*(x-m):=by
 unfold devL;rw [List.map_append,List.map_singleton,sumQ_snoc]
end Go.Proofs.YtgjepkeeeemppaaGreatDoor
namespace Go.Proofs.YtgjepkeeeemppaaGreatDoor
open Go.RowKit _root_.Go.Proofs.Tryz
theorem lenC_pv {cl:Int} {va:Option Addr} {vn vc:Nat} {la:Option Addr} {ln lc:Nat}:PV prog 53 #[goalV 1 cl (.slice la ln lc) (.slice va vn vc)] (.int .i64 (ln:Int)):=by
 refine PV.of_pc ?_
 refine BD func53 ntmps53 ?_
 try refine RUN ?_
 rfl
theorem lenV_pv {cl:Int} {va:Option Addr} {vn vc:Nat} {la:Option Addr} {ln lc:Nat}:PV prog 53 #[goalV 2 cl (.slice la ln lc) (.slice va vn vc)] (.int .i64 (vn:Int)):=by
 refine PV.of_pc ?_
 refine BD func53 ntmps53 ?_
 try refine RUN ?_
 rfl
theorem checkV_pv {va:Option Addr} {vn vc:Nat} {la:Option Addr} {lc:Nat} (h0:1≤vn) (h1:vn≤300):PV prog 51 #[goalV 2 0 (.slice la 0 lc) (.slice va vn vc)] (.int .i64 0):=by
 refine PV.of_pc ?_
 have hlen:=lenV_pv (cl:=0) (va:=va) (vn:=vn) (vc:=vc) (la:=la) (ln:=0) (lc:=lc)
 refine BD func51 ntmps51 ?_
 repeat (first | refine RUN ?_ | refine CV (hlen) ?_ | refine CE (hlen) ?_)
 rw [decide_eq_false (show ¬ (vn:Int)<1 by omega)]
 try refine RUN ?_
 rw [decide_eq_false (show ¬ (vn:Int)>300 by omega)]
 try refine RUN ?_
 rfl
set_option maxHeartbeats 4000000 in
theorem checkC_pc {H:Hp} {va:Option Addr} {vc:Nat} {la:Option Addr} {lc:Nat} {ls:List Int} (hv:IL H (.slice la ls.length lc) ls) {cl:Int} (hc:1≤cl∧cl≤12) (h0:1≤ls.length) (h1:ls.length≤300) (hls:∀ z,z∈ls→0≤z∧z<cl):PC prog 51 #[goalV 1 cl (.slice la ls.length lc) (.slice va 0 vc)] H fun r _=>r=.int .i64 0:=by
 have hlen:=lenC_pv (cl:=cl) (va:=va) (vn:=0) (vc:=vc) (la:=la) (ln:=ls.length) (lc:=lc)
 refine BD func51 ntmps51 ?_
 repeat (first | refine RUN ?_ | refine CV (hlen) ?_ | refine CE (hlen) ?_)
 rw [decide_eq_false (show ¬ (ls.length:Int)<1 by omega)]
 try refine RUN ?_
 rw [decide_eq_false (show ¬ (ls.length:Int)>300 by omega)]
 try refine RUN ?_
 rw [decide_eq_false (show ¬ cl<1 by omega)]
 try refine RUN ?_
 rw [decide_eq_false (show ¬ cl>12 by omega)]
 try refine RUN ?_
 refine EV.loopK (ι:=Nat) [1,49,50] [1] (fun i=>[(51,.v (.int .i64 (i:Int)))]) (fun _=>[]) (fun _=>[]) (fun i _=>i≤ls.length) (fun i=>ls.length-i) (0) rfl rfl ⟨rfl,trivial⟩ trivial rfl (fun _=>rfl) (Nat.zero_le _) ?_
 rintro i G1 hG1 hi
 try refine RUN ?_
 refine EV.cond rfl (fun hlt=>?_) (fun hlt=>?_)
 ·simp only [nN] at hlt
  obtain ⟨z,hz⟩:∃ r,ls[i]?=some r:=⟨_,List.getElem?_eq_getElem hlt⟩
  have hb:=hls z (List.mem_of_getElem? hz)
  try refine RUN ?_
  refine EVL.idxR tO rfl rfl rfl rfl rfl rfl rfl rfl rfl rfl ((hv.mono hG1)) (i) (rfl) (hlt) ((by rw [List.getElem?_map,hz];rfl)) ?_
  try refine RUN ?_
  rw [decide_eq_false (show ¬ z<0 by omega)]
  try refine RUN ?_
  rw [decide_eq_false (show ¬ z≥cl by omega)]
  try refine RUN ?_
  refine ⟨i+1,⟨?_,trivial⟩,sB,trivial,sB,rfl,hlt,Hp.Le.refl _,by omega⟩
  rw [wi_inc i (by omega)];rfl
 ·(try refine RUN ?_)
  rfl
abbrev iv:Int→Value:=fun z=>.int .i64 z
def inR (n:Nat) (r:Int):Bool:=decide (0≤r) && decide (r<(n:Int))
def exL (rs:List Int) (n:Nat):List Int:=rs.filter (inR n)
theorem exL_mem {rs:List Int} {n:Nat}:∀ r,r∈exL rs n→0≤r∧r<(n:Int):=fun r hr=>by
 have:=(List.mem_filter.1 hr).2
 unfold inR at this
 simpa using this
theorem exL_len (rs:List Int) (n:Nat):(exL rs n).length≤rs.length:=List.length_filter_le _ _
theorem exL_all {rs:List Int} {n:Nat} (h:∀ r,r∈rs→0≤r∧r<(n:Int)):exL rs n=rs:=List.filter_eq_self.2 fun r hr=>by
 have:=h r hr
 unfold inR;simp [this.1,this.2]
theorem ex_take {rs:List Int} {n i:Nat} {r:Int} (h:rs[i]?=some r):exL (rs.take (i+1)) n=exL (rs.take i) n++if inR n r then [r] else []:=by
 rw [take_snoc h];unfold exL
 rw [List.filter_append]
 cases hp:inR n r <;> simp [hp]
theorem OwnL.il {w:Value} {l:List Int} {ow:Ows} {T:TypeId} {x:Int} (h:OwnL T 1 w (l.length+1) (l.map iv++[iv x]) ow):OwnL T 1 w (l++[x]).length ((l++[x]).map iv) ow:=by
 rw [List.length_append,List.map_append];exact h
theorem ci_get {l:List Int} (sp:List Value) {j:Nat} {q:Int} (h:l[j]?=some q):((l.map iv++sp).drop (j*1)).take 1=[iv q]:=by
 obtain ⟨hl,hq⟩:=List.getElem?_eq_some_iff.1 h
 rw [Nat.mul_one,List.drop_append_of_le_length (by rw [List.length_map];omega),List.drop_eq_getElem_cons (by rw [List.length_map];omega)]
 simp [hq]
theorem ci_set {l:List Int} (sp:List Value) {j:Nat} (q:Int) (h:j<l.length):(l.map iv++sp).take (j*1)++[iv q]++(l.map iv++sp).drop (j*1+1)=(l.set j q).map iv++sp:=by
 rw [Nat.mul_one,List.take_append_of_le_length (by rw [List.length_map];omega),List.drop_append_of_le_length (by rw [List.length_map];omega),List.map_set,List.set_eq_take_append_cons_drop,if_pos (by rw [List.length_map];exact h)]
 simp
abbrev RisK (key:Int→Rat) (l:List Int):Prop:=Rising (l.map key)
section
variable {P:Program} {n:Nat} {ops:Array Oper} {rest:List Oper} {env:Env} {bx:Bxs} {H:Hs} {Q:EQ}
theorem EVL.swapOw (a b:Ows) (e:H.ow=a++b) (h:EVL P n ops rest env bx ⟨H.ro,b++a,H.base⟩ Q):EVL P n ops rest env bx H Q :=
 fun W0 β x W r=>h W0 β x W (r.permOw (by rw [e];exact List.perm_append_comm))
theorem EV.swapOw {c:Code} (a b:Ows) (e:H.ow=a++b) (h:EV P n c env bx ⟨H.ro,b++a,H.base⟩ Q):EV P n c env bx H Q :=
 fun W0 β x W r=>h W0 β x W (r.permOw (by rw [e];exact List.perm_append_comm))
end
def QVs (H:Hp) (vs:List Value) (X:List (List Rat)):Prop:=vs.length=X.length∧∀ (j:Nat) (u:Value) (x:List Rat),vs[j]?=some u→X[j]?=some x→QL H u x
theorem QVs.mono {H G:Hp} {vs:List Value} {X:List (List Rat)} (h:QVs H vs X) (k:H.Le G):QVs G vs X:=⟨h.1,fun j u x e1 e2=>(h.2 j u x e1 e2).mono k⟩
theorem QVs.nil (H:Hp):QVs H [] []:=⟨rfl,fun j u x h=>by simp at h⟩
theorem vs_snoc {α:Type} {p:Value→α→Prop} {vs:List Value} {X:List α} {u:Value} {x:α} (h:vs.length=X.length∧∀ (j:Nat) (u:Value) (x:α),vs[j]?=some u→X[j]?=some x→p u x) (k:p u x) :
  (vs++[u]).length=(X++[x]).length∧∀ (j:Nat) (v:Value) (y:α),(vs++[u])[j]?=some v→(X++[x])[j]?=some y→p v y:=by
 refine ⟨by simp [h.1],fun j y r e1 e2=>?_⟩
 rw [List.getElem?_append] at e1 e2
 by_cases hj:j<vs.length
 ·rw [if_pos hj] at e1
  rw [if_pos (by rw [← h.1];exact hj)] at e2
  exact h.2 j y r e1 e2
 ·rw [if_neg hj] at e1
  rw [if_neg (by rw [← h.1];exact hj)] at e2
  have:=h.1
  cases hk:j-vs.length with
  | zero =>
   rw [hk] at e1;rw [← h.1,hk] at e2
   simp at e1 e2;subst e1;subst e2;exact k
  | succ m=>rw [hk] at e1;simp at e1
theorem QVs.snoc {H:Hp} {vs:List Value} {X:List (List Rat)} {u:Value} {x:List Rat} (h:QVs H vs X) (k:QL H u x):QVs H (vs++[u]) (X++[x]):=vs_snoc h k
def QLL (H:Hp) (v:Value) (X:List (List Rat)):Prop:=∃ vs:List Value,QVs H vs X∧SlC H v X.length 1 vs
theorem QLL.mono {H G:Hp} {v:Value} {X:List (List Rat)} (h:QLL H v X) (k:H.Le G):QLL G v X:=by
 obtain ⟨vs,h1,h2⟩:=h
 exact ⟨vs,h1.mono k,h2.mono k⟩
theorem QLL.val {H:Hp} {v:Value} {X:List (List Rat)} (h:QLL H v X):∃ a c,v=.slice a X.length c:=by
 obtain ⟨vs,_,h2⟩:=h
 exact SlC.val h2
theorem QVs.at {H:Hp} {vs:List Value} {X:List (List Rat)} (h:QVs H vs X) {j:Nat} {x:List Rat} (hj:X[j]?=some x):∃ a c,vs[j]?=some (.slice a x.length c)∧QL H (.slice a x.length c) x:=by
 obtain ⟨hl,_⟩:=List.getElem?_eq_some_iff.1 hj
 obtain ⟨u,hu⟩:∃ u,vs[j]?=some u:=⟨_,List.getElem?_eq_getElem (by rw [h.1];exact hl)⟩
 have hq:=h.2 j u x hu hj
 obtain ⟨a,c,rfl⟩:=SlC.val hq
 exact ⟨a,c,hu,hq⟩
def hasC (X:List (List Rat)) (col r:Int):Bool:=decide (0≤col) && decide (col<((X.getD r.toNat []).length:Int))
def colK (X:List (List Rat)) (col r:Int):Rat:=(X.getD r.toNat []).getD col.toNat 0
theorem colK_at {X:List (List Rat)} {col r:Int} {R C:Nat} {x:List Rat} {q:Rat} (hr:r=R) (hc:col=C) (hx:X[R]?=some x) (hq:x[C]?=some q):colK X col r=q:=by
 subst hr;subst hc
 unfold colK
 simp [List.getD_eq_getElem?_getD,hx,hq]
theorem hasC_at {X:List (List Rat)} {col r:Int} (hr0:0≤r) (hr:r<(X.length:Int)) (h:hasC X col r=true):∃ (R C:Nat) (x:List Rat) (q:Rat),r=R∧col=C∧X[R]?=some x∧x[C]?=some q:=by
 unfold hasC at h
 simp only [Bool.and_eq_true,decide_eq_true_eq] at h
 obtain ⟨R,rfl⟩:=Int.eq_ofNat_of_zero_le hr0
 obtain ⟨C,rfl⟩:=Int.eq_ofNat_of_zero_le h.1
 have h2:=h.2
 rw [Int.toNat_natCast,List.getD_eq_getElem?_getD,List.getElem?_eq_getElem (show R<X.length by omega),Option.getD_some] at h2
 exact ⟨R,C,X[R],X[R][C],rfl,rfl,List.getElem?_eq_getElem oM,List.getElem?_eq_getElem oM⟩
theorem meanL_nil:meanL []=0:=rat_div_zero _
theorem meanL_any {H:Hp} {v:Value} {l:List Rat} (h:QL H v l) (hl:l.length≤10000) (hb:∀ q,q∈l→ht q≤100):PC prog 57 #[v] H fun r _=>r=.tuple #[fracV (meanL l),.bool (decide (0<l.length))]:=by
 by_cases h0:l.length=0
 ·obtain rfl:=List.length_eq_zero_iff.1 h0
  rw [meanL_nil]
  exact mean_no h
 ·rw [decide_eq_true (show 0<l.length by omega)]
  exact mean_pc h oM h0 hb
theorem meanL_ht {l:List Rat} {B:Nat} (hl:l.length≤300) (hb:∀ q,q∈l→ht q≤B):ht (meanL l)≤1+(B+1)*300+20:=by
 have b1:=ht_sum B l hb
 have b2:(B+1)*l.length≤(B+1)*300:=Nat.mul_le_mul_left _ hl
 have b3:=ht_len (n:=l.length) oM
 have b4:=ht_div (sumQ l) ((l.length:Int):Rat)
 unfold meanL
 omega
theorem devL_ht {m:Rat} {l:List Rat} {B C:Nat} (hb:∀ q,q∈l→ht q≤B) (hm:ht m≤C):∀ q,q∈devL m l→ht q≤2*(B+C+1):=fun q hq=>by
 obtain ⟨v,hv,rfl⟩:=List.mem_map.1 hq
 have h1:=hb v hv
 have h2:=ht_sub v m
 have h3:=ht_mul (v-m) (v-m)
 omega
theorem devS_ht {m:Rat} {l:List Rat} {B C:Nat} (hl:l.length≤300) (hb:∀ q,q∈l→ht q≤B) (hm:ht m≤C):ht (sumQ (devL m l))≤1+(2*(B+C+1)+1)*300:=by
 have h1:=ht_sum _ (devL m l) (devL_ht hb hm)
 have h2:(2*(B+C+1)+1)*(devL m l).length≤(2*(B+C+1)+1)*300:=Nat.mul_le_mul_left _ (by simpa [devL] using hl)
 omega
def costL (L:List Int):Rat:=((L.length:Int):Rat)-((sqL L:Int):Rat) / ((L.length:Int):Rat)
theorem oneB_iv:∀ l:List Int,oneB (l.map iv)=true
 | []=>rfl
 | _::l=>by rw [List.map_cons];unfold oneB;rw [oneB_iv l];rfl
theorem RL.nil (H:Hp) (a:Option Addr) (c:Nat):RL H (.slice a 0 c) []:=(RVs.nil H).rl ⟨rfl,.inl ⟨rfl,_,_,rfl⟩⟩
theorem IL.nil (H:Hp) (a:Option Addr) (c:Nat):IL H (.slice a 0 c) []:=⟨rfl,.inl ⟨rfl,_,_,rfl⟩⟩
set_option maxHeartbeats 8000000 in
theorem inGoal_pc {H:Hp} {kd cl:Int} {sl sv:Value} {ls:List Int} {qs:List Rat} (hl:IL H sl ls) (hq:RL H sv qs) (hn:ls.length≤1000000) (hm:qs.length≤1000000) (hb:∀ q,q∈qs→rq q) :
  PC prog 18 #[goalV kd cl sl sv] H fun r H'=>∃ la lc va vc,r=goalV kd cl (.slice la ls.length lc) (.slice va qs.length vc)∧IL H' (.slice la ls.length lc) ls∧QL H' (.slice va qs.length vc) qs:=by
 obtain ⟨a,cap,rfl⟩:=SlC.val hl
 obtain ⟨a2,cap2,rfl⟩:=hq.val
 have hls:SlC H (.slice a ls.length cap) ls.length 1 (ls.map iv):=hl
 by_cases e:ls.length=0
 ·obtain rfl:=List.length_eq_zero_iff.1 e
  show PC prog 18 #[goalV kd cl (.slice a 0 cap) (.slice a2 qs.length cap2)] H _
  refine BD func18 ntmps18 ?_
  try refine RUN ?_
  apply EV.drawn 11 kR kR;intro xv yw
  (repeat (first | refine' DV ?_ | refine' DA ?_ | refine' DK0 ?_ | refine' DT ?_ | refine' DS ?_))
  (refine' DJ.lit0 tO rfl rfl rfl rfl rfl rfl rfl ?_;rotate_left)
  (repeat (first | refine' DV ?_ | refine' DA ?_ | refine' DK0 ?_ | refine' DT ?_ | refine' DS ?_))
  refine' DJ.append0E (u0:=xv 4) tO rfl rfl rfl rfl rfl rfl rfl rfl rfl (a) (cap) rfl (fun G hd=>hd.head kR) ?_;rotate_left
  (repeat (first | refine' DV ?_ | refine' DA ?_ | refine' DK0 ?_ | refine' DT ?_ | refine' DS ?_))
  refine' DJ.call rfl rfl rfl rfl rfl (cO func11) (fun G hG hd=>inRow_pc (hq.mono hG) oM hb) (fun _ _ _ h k=>QL.mono h k) ?_;rotate_left
  (refine DJ.nil (fun G1 hG1 hF1=>?_);(case hS|hS2=>rfl))
  obtain ⟨hR,⟨g,hg⟩,_⟩:=hF1
  obtain ⟨a3,c3,e3⟩:=SlC.val hR
  rw [e3] at hR
  rw [hg,e3]
  try refine RUN ?_
  exact ⟨_,_,_,_,rfl,IL.nil _ _ _,hR⟩
 ·refine BD func18 ntmps18 ?_
  try refine RUN ?_
  apply EV.drawn 11 kR kR;intro xv yw
  (repeat (first | refine' DV ?_ | refine' DA ?_ | refine' DK0 ?_ | refine' DT ?_ | refine' DS ?_))
  (refine' DJ.lit0 tO rfl rfl rfl rfl rfl rfl rfl ?_;rotate_left)
  (repeat (first | refine' DV ?_ | refine' DA ?_ | refine' DK0 ?_ | refine' DT ?_ | refine' DS ?_))
  refine' DJ.appendE (u0:=xv 4) tO rfl rfl rfl rfl rfl rfl rfl rfl rfl rfl (fun G hd=>hd.head kR) (hls) (Nat.pos_of_ne_zero e) oM ?_;rotate_left
  (repeat (first | refine' DV ?_ | refine' DA ?_ | refine' DK0 ?_ | refine' DT ?_ | refine' DS ?_))
  refine' DJ.call rfl rfl rfl rfl rfl (cO func11) (fun G hG hd=>inRow_pc (hq.mono hG) oM hb) (fun _ _ _ h k=>QL.mono h k) ?_;rotate_left
  (refine DJ.nil (fun G1 hG1 hF1=>?_);(case hS|hS2=>rfl))
  obtain ⟨hR,hA,_⟩:=hF1
  obtain ⟨a3,c3,e3⟩:=SlC.val hR
  obtain ⟨a4,c4,e4⟩:=SlC.val hA
  rw [e3] at hR
  rw [e4] at hA
  rw [e3,e4]
  try refine RUN ?_
  exact ⟨_,_,_,_,rfl,hA,hR⟩
def GoalR (H:Hp) (v:Value) (n:Nat) (qs:List Rat):Prop :=
 (∃ s,v=goalV 2 0 (.slice none 0 0) s∧RL H s qs)∨∃ (cl:Int) (s:Value) (ls:List Int),v=goalV 1 cl s (.slice none 0 0)∧1≤cl∧cl≤4∧ls.length=n∧(∀ z,z∈ls→0≤z∧z<cl)∧IL H s ls
theorem GoalR.mono {H G:Hp} {v:Value} {n:Nat} {qs:List Rat} (h:GoalR H v n qs) (k:H.Le G):GoalR G v n qs:=by
 rcases h with ⟨s,e,h⟩ | ⟨cl,s,ls,e,h1,h2,h3,h4,h⟩
 ·exact .inl ⟨s,e,h.mono k⟩
 ·exact .inr ⟨cl,s,ls,e,h1,h2,h3,h4,h.mono k⟩
theorem wrap_in (z:Int):-9223372036854775808≤IntKind.i64.wrap z∧IntKind.i64.wrap z<9223372036854775808:=by
 rw [IntKind.wrap_i64];omega
set_option maxHeartbeats 8000000 in
theorem goal_pc {H:Hp} {v:Value} {l:List Int} (h:IL H v l) (hb:∀ z,z∈l → -9223372036854775808≤z∧z<9223372036854775808) (kd:Int) (n:Nat) (hn:n≤1000) :
  PC prog 26 #[.int .i64 kd,v,.int .i64 (n:Int)] H fun r H'=>GoalR H' r n (rowQ l n):=by
 obtain ⟨a,cap,rfl⟩:=SlC.val h
 have hpk:∀ z c:Int,-9223372036854775808≤z∧z<9223372036854775808→1≤c∧c≤4→PV prog 8 #[.int .i64 z,.int .i64 c] (.int .i64 (z % c)):=fun z c hz hc=>pick_pv z c hz oM oM
 have hrow:=row_pc h hb n oM
 have hwb:=wrap_in (kd.tdiv 2)
 have hp4:=hpk _ 4 hwb oM
 refine BD func26 ntmps26 ?_
 try refine RUN ?_
 by_cases hk:kd.tmod 2=0
 ·rw [show (kd.tmod 2 == 0)=true from beq_iff_eq.2 hk]
  try refine RUN ?_
  refine EVL.call rfl rfl rfl rfl rfl (hrow) ?_
  intro r G1 hr hG1
  obtain ⟨a3,c3,rfl⟩:=hr.val
  try refine RUN ?_
  exact .inl ⟨_,rfl,hr⟩
 ·rw [show (kd.tmod 2 == 0)=false from beq_eq_false_iff_ne.2 hk]
  try refine RUN ?_
  generalize IntKind.i64.wrap (kd.tdiv 2)=k2 at *
  have hcl:1≤1+k2 % 4∧1+k2 % 4≤4:=by omega
  repeat (first | refine RUN ?_ | refine CV (hp4) ?_ | refine CE (hp4) ?_)
  rw [show IntKind.i64.wrap (1+k2 % 4)=1+k2 % 4 by rw [IntKind.wrap_i64];omega]
  generalize 1+k2 % 4=cl at *
  try refine RUN ?_
  refine EV.loopK (ι:=Nat × List Int × Value × Ows) [1,2,6,7] [6] (fun q=>[(8,.v (.int .i64 (q.1:Int)))]) (fun q=>[(7,28,[.int .i64 1,.int .i64 cl,q.2.2.1,.slice none 0 0])]) (fun q=>q.2.2.2) (fun q _=>q.1≤n∧q.2.1.length=q.1∧(∀ z,z∈q.2.1→0≤z∧z<cl)∧OwnL 3 1 q.2.2.1 q.2.1.length (q.2.1.map iv) q.2.2.2) (fun q=>n-q.1) ((0,[],.slice none 0 0,[])) rfl rfl ⟨rfl,trivial⟩ ⟨rfl,trivial⟩ rfl (fun _=>rfl) (⟨Nat.zero_le _,rfl,by simp,OwnL.nil _ _⟩) ?_
  rintro ⟨i,ls,w,ow⟩ G1 hG1 ⟨hi,hll,hlb,hown⟩
  dsimp only at hi hll hlb hown
  obtain ⟨wa,wc,rfl⟩:=hown.val
  try refine RUN ?_
  refine EV.cond rfl (fun hlt=>?_) (fun hlt=>?_)
  ·simp only [nN] at hlt
   try refine RUN ?_
   refine EV.meetK (ι:=Int) [1,2,6,7,8] [6,7] (fun c=>[(9,.v (.int .i64 c))]) (fun _=>[]) (fun _=>ow) (fun c G=>G1.Le G ∧ -9223372036854775808≤c∧c<9223372036854775808) rfl rfl (fun _=>rfl) ?_ ?_
   ·refine EV.cond rfl (fun hc=>?_) (fun hc=>?_)
    ·simp only [nN] at hc
     obtain ⟨z,hz⟩:∃ r,l[i]?=some r:=⟨_,List.getElem?_eq_getElem hc⟩
     have hzb:=hb z (List.mem_of_getElem? hz)
     try refine RUN ?_
     refine EVL.idxR tO rfl rfl rfl rfl rfl rfl rfl rfl rfl rfl ((h.mono hG1)) (i) (rfl) (hc) ((by rw [List.getElem?_map,hz];rfl)) ?_
     try refine RUN ?_
     exact ⟨z,⟨rfl,trivial⟩,sB,trivial,sB,rfl,Hp.Le.refl _,hzb.1,hzb.2⟩
    ·(try refine RUN ?_)
     exact ⟨(i:Int),⟨rfl,trivial⟩,sB,trivial,sB,rfl,Hp.Le.refl _,by omega,by omega⟩
   ·rintro c G2 ⟨hG2,hc1,hc2⟩
    have hpc:=hpk c cl ⟨hc1,hc2⟩ hcl
    have hcb:0≤c % cl∧c % cl<cl:=⟨Int.emod_nonneg _ oM,Int.emod_lt_of_pos _ oM⟩
    generalize c % cl=cc at *
    try refine RUN ?_
    apply EV.drawn 7 kR kR;intro xv yw
    (repeat (first | refine' DV ?_ | refine' DA ?_ | refine' DK0 ?_ | refine' DT ?_ | (refine' DC (hpc) (h:=?_);rotate_left) | refine' DS ?_))
    (refine' DJ.lit tO rfl rfl rfl rfl rfl rfl rfl rfl rfl rfl rfl rfl ?_;rotate_left)
    (refine DJ.nil (fun G3 hG3 hF3=>?_);(case hS|hS2=>rfl))
    refine EVL.append tO rfl rfl rfl rfl rfl rfl rfl rfl rfl rfl rfl rfl [] ow [] (List.append_nil _).symm hown (SrcAt.ro hF3.1 oM) rfl oM ?_
    intro v1 ow1 hown1
    have hown2:=OwnL.il hown1
    clear hown1
    obtain ⟨va1,vc1,rfl⟩:=hown2.val
    try refine RUN ?_
    refine ⟨(i+1,ls++[cc],_,ow1),⟨?_,trivial⟩,sB,⟨rfl,trivial⟩,sB,List.append_nil _,⟨hlt,by rw [List.length_append,hll];rfl,?_,hown2⟩,hG2.trans hG3,by dsimp only;omega⟩
    ·rw [wi_inc i (by omega)];rfl
    ·intro z hz
     rcases List.mem_append.1 hz with hz | hz
     ·exact hlb z hz
     ·obtain rfl:=List.mem_singleton.1 hz
      exact hcb
  ·simp only [nN] at hlt
   obtain rfl:i=n:=by omega
   (first | refine EVL.publishL [] ow [] ((List.append_nil _).symm) hown fun G2 hG2 hs=>?_ | refine EV.publishL [] ow [] ((List.append_nil _).symm) hown fun G2 hG2 hs=>?_)
   try refine RUN ?_
   exact .inr ⟨cl,_,ls,rfl,hcl.1,hcl.2,hll,hlb,hs⟩
def SortC (X:List (List Rat)) (col:Int) (rs m:List Int):Prop:=(rs.all (hasC X col)=true∧m.Perm rs∧RisK (colK X col) m)∨(rs.all (hasC X col)=false∧m=[])
theorem ordQ_le {a b:Rat} (h:a≤b):ordR a b≤0:=by
 unfold ordR
 split
 ·omega
 ·split
  ·rename_i k;exact absurd k (Rat.not_lt.2 h)
  ·omega
def lowL (X:List (List Rat)) (col:Int) (t:Rat) (es:List Int):List Int:=es.filter fun r=>hasC X col r && decide (colK X col r≤t)
def highL (X:List (List Rat)) (col:Int) (t:Rat) (es:List Int):List Int:=es.filter fun r=>hasC X col r && !decide (colK X col r≤t)
section
variable {pre S S' post vs:List Value} {k:Nat}
end
section
variable {H:Hp} {b k:Nat} {T:TypeId} {pre post:List Value} (hk:pre.length=k)
include hk
end
section
variable {P:Program} {n:Nat} {ops:Array Oper} {o:Oper} {rest:List Oper} {env:Env} {bx:Bxs} {sb:Bxs} {ow:Ows} {H:Hs} {Q:EQ} {τ:Tab} {d:Nat} {s:SV}
end
theorem PV.pc' {P:Program} {f:FuncId} {args:Array Value} {v:Value} (h:PV P f args v) (G:Hp):PC P f args G fun r _=>r=v:=(h.pc G).mono fun _ _ h _=>h.1
theorem sumQ_foldr (l:List Rat):∀ x:Rat,l.foldl (·+·) x=x+sumQ l:=by
 unfold sumQ
 induction l with
 | nil=>intro x;rw [List.foldl_nil,List.foldl_nil,Rat.add_zero]
 | cons y l ih=>intro x;rw [List.foldl_cons,List.foldl_cons,ih,ih (0+y),Rat.zero_add,Rat.add_assoc]
theorem sumQ_cons (x:Rat) (l:List Rat):sumQ (x::l)=x+sumQ l:=by
 have:=sumQ_foldr l (0+x)
 rw [Rat.zero_add] at this
 unfold sumQ at *
 rw [List.foldl_cons,Rat.zero_add];exact this
theorem sqL_perm {l m:List Int} (h:l.Perm m):sqL l=sqL m:=by
 unfold sqL
 have e:(l.map fun x=>l.count x)=l.map fun x=>m.count x:=List.map_congr_left fun x _=>h.count_eq x
 rw [e];exact (h.map _).sum_nat
theorem sqL_cons (x:Int) (l:List Int):sqL (x::l)=sqL l+2*l.count x+1:=by
 have hp:(x::l).Perm (l++[x]):=List.perm_append_comm (l₁:=[x]) (l₂:=l)
 rw [sqL_perm hp,sqL_snoc]
def candC (key:Int→Rat) (least:Int) (m:List Int) (j:Nat):Bool:=decide (least≤((j+1:Nat):Int)) && decide (least≤((m.length-(j+1):Nat):Int)) && decide (key (m.getD j 0)<key (m.getD (j+1) 0))
def sumW (wo:List Int→Rat) (m:List Int) (j:Nat):Rat:=wo (m.take (j+1))+wo (m.drop (j+1))
def midC (key:Int→Rat) (m:List Int) (j:Nat):Rat:=(key (m.getD j 0)+key (m.getD (j+1) 0)) / 2
def colN (key:Int→Rat) (wo:List Int→Rat) (least:Int) (m:List Int):Nat→Option (Rat × Rat)
 | 0=>none
 | j+1=>if candC key least m j=true then (match colN key wo least m j with
  | none=>some (midC key m j,sumW wo m j)
  | some (a,w)=>if w<sumW wo m j then some (midC key m j,sumW wo m j) else some (a,w)) else colN key wo least m j
def stW:Option (Rat × Rat)→Rat
 | none=>0
 | some (_,w)=>w
def ColR (X:List (List Rat)) (wo:List Int→Rat) (rs:List Int) (least col:Int) (o:Option (Rat × Rat)):Prop:=∃ m,SortC X col rs m∧o=colN (colK X col) wo least m (m.length-1)∧ht (stW o)≤200001
end Go.Proofs.YtgjepkeeeemppaaGreatDoor
namespace Go.Proofs.YtgjepkeeeemppaaGreatDoor
open Go.RowKit Go.Shelf
attribute [local go_sem] Oper.semAt_some
end Go.Proofs.YtgjepkeeeemppaaGreatDoor
namespace Go.Proofs.YtgjepkeeeemppaaGreatDoor
open Go.RowKit Go.Shelf
attribute [local go_sem] Oper.semAt_some
end Go.Proofs.YtgjepkeeeemppaaGreatDoor
namespace Go.Proofs.YtgjepkeeeemppaaGreatDoor
open Go.RowKit _root_.Go.Proofs.Tryz
def nxt (s:Int):Int:=IntKind.u64.wrap (s+11400714819323198485)
def mixA (z:Int):Int:=IntKind.u64.wrap (bits .xor .u64 z (z / 1073741824)*13787848793156543929)
def mixB (z:Int):Int:=IntKind.u64.wrap (bits .xor .u64 z (z / 134217728)*10723151780598845931)
def mixC (z:Int):Int:=bits .xor .u64 z (z / 2147483648)
def mix (z:Int):Int:=mixC (mixB (mixA z))
def last (n:Int):Int:=18446744073709551615-18446744073709551616 % n
def two64:Int:=18446744073709551616
def dist (s:Int):Int:=(-s*17428512612931826493) % 18446744073709551616
def left (s:Int):Nat:=(dist (nxt s)).toNat
def belowGo (n:Int):Nat→Int→Int × Int
 | 0,s=>(0,s)
 | k+1,s=>if mix (nxt s)≤last n then (mix (nxt s) % n,nxt s) else belowGo n k (nxt s)
def below (n s:Int):Int × Int:=belowGo n (left s+1) s
theorem wrap_u64 (n:Int):IntKind.u64.wrap n=n % 18446744073709551616:=by simp [IntKind.wrap,IntKind.bits,IntKind.signed]
theorem nxt_range (s:Int):0≤nxt s∧nxt s<two64:=by unfold nxt two64;rw [wrap_u64];omega
theorem mix_zero:mix 0=0:=by decide +kernel
theorem last_nonneg (n:Int) (h:1≤n) (h2:n≤9223372036854775807):0≤last n:=by
 unfold last
 have:=Int.emod_lt_of_pos 18446744073709551616 (show 0<n by omega)
 omega
theorem wrap_u64_range (x:Int):0≤IntKind.u64.wrap x∧IntKind.u64.wrap x<two64:=by rw [wrap_u64];unfold two64;omega
theorem bits_range (op:BinOp) (x y:Int):0≤bits op .u64 x y∧bits op .u64 x y<two64:=by
 unfold bits;split <;> exact wrap_u64_range _
theorem mix_range (z:Int):0≤mix z∧mix z<two64:=by unfold mix mixC;exact bits_range _ _ _
theorem dist_gen (M g i q s:Int) (e:g*i=1+M*q):(-((s+g) % M)*i) % M=((-s*i) % M-1) % M:=by
 have h1:(s+g) % M=s+g-M*((s+g)/M):=Int.emod_def _ _
 rw [h1]
 generalize (s+g)/M=r
 have:-(s+g-M*r)*i=(-s*i-1)+M*(r*i-q):=by grind
 rw [this,Int.add_mul_emod_self_left,Int.emod_sub_emod]
theorem dist_nxt (s:Int):dist (nxt s)=(dist s-1) % 18446744073709551616:=by
 unfold dist nxt
 rw [wrap_u64]
 exact dist_gen 18446744073709551616 11400714819323198485 17428512612931826493 10771413168148108919 s (by decide +kernel)
theorem zero_gen (M g i q s:Int) (e:g*i=1+M*q) (h0:0≤s) (h1:s<M) (h:(-s*i) % M=0):s=0:=by
 obtain ⟨k,hk⟩:=Int.dvd_of_emod_eq_zero h
 have h2:s=M*(-(k*g)-s*q):=by
  have h3:s*(g*i) = -(M*k)*g:=by rw [← hk];grind
  rw [e] at h3;grind
 generalize -(k*g)-s*q=t at h2
 by_cases ht:t=0
 ·rw [h2,ht,Int.mul_zero]
 ·exfalso
  by_cases hp:1≤t
  ·have:M*1≤M*t:=Int.mul_le_mul_of_nonneg_left hp oM
   omega
  ·have:M*t≤M*(-1):=Int.mul_le_mul_of_nonneg_left oM oM
   omega
theorem dist_zero (s:Int) (h0:0≤s) (h1:s<two64) (h:dist s=0):s=0:=by
 unfold dist at h
 exact zero_gen 18446744073709551616 11400714819323198485 17428512612931826493 10771413168148108919 s (by decide +kernel) h0 h1 h
theorem dist_range (s:Int):0≤dist s∧dist s<18446744073709551616:=by unfold dist;omega
theorem left_lt (s:Int) (h:nxt s≠0):left (nxt s)<left s:=by
 unfold left
 have r:=nxt_range s
 have d:=dist_nxt (nxt s)
 have z:=dist_range (nxt s)
 have:dist (nxt s)≠0:=fun e=>h (dist_zero _ r.1 r.2 e)
 omega
theorem belowGo_enough (n:Int) (h:1≤n) (h2:n≤9223372036854775807):∀ (k k':Nat) (s:Int),left s<k→left s<k'→belowGo n k s=belowGo n k' s:=by
 intro k
 induction k with
 | zero=>intro k' s hs;omega
 | succ k ih =>
  intro k' s hs hs'
  cases k' with
  | zero=>omega
  | succ k' =>
   simp only [belowGo]
   by_cases hc:mix (nxt s)≤last n
   ·rw [if_pos hc,if_pos hc]
   ·rw [if_neg hc,if_neg hc]
    have hz:nxt s≠0:=fun e=>hc (by rw [e,mix_zero];exact last_nonneg n h h2)
    have hl:=left_lt s hz
    exact ih _ _ oM oM
theorem left_of_not (n s:Int) (h:1≤n) (h2:n≤9223372036854775807) (hc:¬ mix (nxt s)≤last n):left (nxt s)<left s :=
 left_lt s fun e=>hc (by rw [e,mix_zero];exact last_nonneg n h h2)
theorem below_step (n s:Int) (h:1≤n) (h2:n≤9223372036854775807) (hc:¬ mix (nxt s)≤last n):below n s=below n (nxt s):=by
 have hl:=left_of_not n s h h2 hc
 unfold below
 rw [show belowGo n (left s+1) s=belowGo n (left s) (nxt s) by simp only [belowGo];rw [if_neg hc]]
 exact belowGo_enough n h h2 _ _ _ hl oM
theorem below_take (n s:Int) (h:mix (nxt s)≤last n):below n s=(mix (nxt s) % n,nxt s):=by
 unfold below;simp only [belowGo];rw [if_pos h]
theorem below_range (n s:Int) (h:1≤n) (h2:n≤9223372036854775807):0≤(below n s).1∧(below n s).1<n∧0≤(below n s).2∧(below n s).2<two64:=by
 suffices H:∀ k s,left s<k→0≤(below n s).1∧(below n s).1<n∧0≤(below n s).2∧(below n s).2<two64 from H _ s (Nat.lt_succ_self _)
 intro k
 induction k with
 | zero=>intro s hs;omega
 | succ k ih =>
  intro s hs
  by_cases hc:mix (nxt s)≤last n
  ·rw [below_take n s hc]
   have:=nxt_range s
   exact ⟨Int.emod_nonneg _ oM,Int.emod_lt_of_pos _ oM,this.1,this.2⟩
  ·rw [below_step n s h h2 hc]
   exact ih _ (by have:=left_of_not n s h h2 hc;omega)
def drawL (n:Int):Nat→Int→List Int × Int
 | 0,s=>([],s)
 | k+1,s=>((drawL n k s).1++[(below n (drawL n k s).2).1],(below n (drawL n k s).2).2)
theorem drawL_length (n:Int) (k:Nat) (s:Int):(drawL n k s).1.length=k:=by
 induction k with
 | zero=>rfl
 | succ k ih=>simp [drawL,ih]
theorem drawL_range (n:Int) (k:Nat) (s:Int) (h:1≤n) (h2:n≤9223372036854775807):∀ x∈(drawL n k s).1,0≤x∧x<n:=by
 induction k with
 | zero=>simp [drawL]
 | succ k ih =>
  intro x hx
  simp only [drawL,List.mem_append,List.mem_singleton] at hx
  rcases hx with hx | rfl
  ·exact ih x hx
  ·have:=below_range n (drawL n k s).2 h h2
   exact ⟨this.1,this.2.1⟩
def swapL (l:List Int) (i j:Nat):List Int:=(l.set i (l.getD j 0)).set j (l.getD i 0)
theorem swapL_length (l:List Int) (i j:Nat):(swapL l i j).length=l.length:=by simp [swapL]
def upTo (n:Nat):List Int:=(List.range n).map Int.ofNat
theorem upTo_length (n:Nat):(upTo n).length=n:=by simp [upTo]
theorem upTo_succ (n:Nat):upTo (n+1)=upTo n++[(n:Int)]:=by simp [upTo,List.range_succ]
def orderGo:Nat→List Int→Int→List Int × Int
 | 0,l,s=>(l,s)
 | i+1,l,s=>orderGo i (swapL l (i+1) (below (i+2) s).1.toNat) (below (i+2) s).2
def orderL (n:Nat) (s:Int):List Int × Int:=orderGo (n-1) (upTo n) s
theorem swapL_perm (l:List Int) (i j:Nat) (hi:i<l.length) (hj:j<l.length):(swapL l i j).Perm l:=by
 unfold swapL
 rw [List.getD_eq_getElem?_getD,List.getD_eq_getElem?_getD]
 simp only [hi,hj,List.getElem?_eq_getElem,Option.getD_some]
 have:=Array.swap_perm (xs:=l.toArray) (i:=i) (j:=j) (by simpa) (by simpa)
 rw [Array.perm_iff_toList_perm] at this
 simpa [Array.swap] using this
theorem orderGo_length (i:Nat) (l:List Int) (s:Int):(orderGo i l s).1.length=l.length:=by
 induction i generalizing l s with
 | zero=>rfl
 | succ i ih=>simp [orderGo,ih,swapL_length]
theorem orderGo_perm (i:Nat) (l:List Int) (s:Int) (h:i<l.length) (hl:l.length≤1000000):(orderGo i l s).1.Perm l:=by
 induction i generalizing l s with
 | zero=>exact List.Perm.refl _
 | succ i ih =>
  simp only [orderGo]
  have r:=below_range (i+2) s oM oM
  exact (ih _ _ (by rw [swapL_length];omega) (by rw [swapL_length];omega)).trans (swapL_perm _ _ _ h oM)
end Go.Proofs.YtgjepkeeeemppaaGreatDoor
namespace Go.Proofs.YtgjepkeeeemppaaGreatDoor
end Go.Proofs.YtgjepkeeeemppaaGreatDoor
namespace Go.Proofs.YtgjepkeeeemppaaGreatDoor
def sortI (l:List Int):List Int:=l.mergeSort fun x y=>decide (x≤y)
theorem sortI_length (l:List Int):(sortI l).length=l.length:=by simp [sortI]
theorem sortI_perm (l:List Int):(sortI l).Perm l:=List.mergeSort_perm _ _
theorem sortI_sorted (l:List Int):(sortI l).Pairwise (·≤·):=by
 have:=List.pairwise_mergeSort (le:=fun x y:Int=>decide (x≤y)) (by intro a b c;simp;omega) (by intro a b;simp;omega) l
 unfold sortI
 exact this.imp (by intro a b h;simpa using h)
theorem sorted_unique {a b:List Int} (h:a.Perm b) (ha:a.Pairwise (·≤·)) (hb:b.Pairwise (·≤·)):a=b :=
 List.Perm.eq_of_pairwise (fun x y _ _ h1 h2=>Int.le_antisymm h1 h2) ha hb h
theorem sortI_of_perm {l m:List Int} (h:l.Perm m) (hm:m.Pairwise (·≤·)):sortI l=m:=sorted_unique ((sortI_perm l).trans h) (sortI_sorted l) hm
end Go.Proofs.YtgjepkeeeemppaaGreatDoor
namespace Go.Proofs.YtgjepkeeeemppaaGreatDoor
open Go.RowKit Go.Shelf
end Go.Proofs.YtgjepkeeeemppaaGreatDoor
namespace Go.Proofs.YtgjepkeeeemppaaGreatDoor
def Cols (cols cs:List Int):Prop:=cs.Pairwise (·<·)∧∀ c,c∈cs↔c∈cols
end Go.Proofs.YtgjepkeeeemppaaGreatDoor
namespace Go.Proofs.YtgjepkeeeemppaaGreatDoor
open Go.RowKit _root_.Go.Proofs.Tryz
theorem ownL_of_row {W:World} {base:Nat} {e:TypeId} {size:Nat} {v:Value} {n:Nat} {xs:List Value} (h:W.ownsRow base e size v n xs):∃ ow,OwnL e size v n xs ow∧OwNew base W ow:=by
 obtain ⟨h1,⟨rfl,rfl⟩ | ⟨g,cap,cur,rfl,hb,hh,hc,hm,hs,ht⟩⟩:=h
 ·exact ⟨[],⟨h1,.inl ⟨rfl,rfl,rfl⟩⟩,by simp,fun b T cs h=>by cases h⟩
 ·have hcur:cur.toList=xs++cur.toList.drop (n*size):=by rw [← ht,List.take_append_drop]
  refine ⟨[(g,e,xs++cur.toList.drop (n*size))],⟨h1,.inr ⟨g,cap,_,rfl,rfl,by rw [← hcur];simpa using hs,hc,hm⟩⟩,by simp,fun b T cs h=>?_⟩
  rw [List.mem_singleton] at h
  cases h
  refine ⟨hb,?_⟩
  rw [← hcur]
  exact hh
def RRs (H:Hp) (vs:List Value) (X:List (List Rat)):Prop:=vs.length=X.length∧∀ (j:Nat) (u:Value) (x:List Rat),vs[j]?=some u→X[j]?=some x→RL H u x
theorem RRs.mono {H G:Hp} {vs:List Value} {X:List (List Rat)} (h:RRs H vs X) (k:H.Le G):RRs G vs X:=⟨h.1,fun j u x e1 e2=>(h.2 j u x e1 e2).mono k⟩
theorem RRs.nil (H:Hp):RRs H [] []:=⟨rfl,fun j u x h=>by simp at h⟩
theorem RRs.snoc {H:Hp} {vs:List Value} {X:List (List Rat)} {u:Value} {x:List Rat} (h:RRs H vs X) (k:RL H u x):RRs H (vs++[u]) (X++[x]):=vs_snoc h k
def RLL (H:Hp) (v:Value) (X:List (List Rat)):Prop:=∃ vs:List Value,RRs H vs X∧SlC H v X.length 1 vs
theorem RLL.mono {H G:Hp} {v:Value} {X:List (List Rat)} (h:RLL H v X) (k:H.Le G):RLL G v X:=by
 obtain ⟨vs,h1,h2⟩:=h
 exact ⟨vs,h1.mono k,h2.mono k⟩
theorem RLL.val {H:Hp} {v:Value} {X:List (List Rat)} (h:RLL H v X):∃ a c,v=.slice a X.length c:=by
 obtain ⟨vs,_,h2⟩:=h
 exact SlC.val h2
theorem RRs.at {H:Hp} {vs:List Value} {X:List (List Rat)} (h:RRs H vs X) {j:Nat} {x:List Rat} (hj:X[j]?=some x):∃ a c,vs[j]?=some (.slice a x.length c)∧RL H (.slice a x.length c) x:=by
 obtain ⟨hl,_⟩:=List.getElem?_eq_some_iff.1 hj
 obtain ⟨u,hu⟩:∃ u,vs[j]?=some u:=⟨_,List.getElem?_eq_getElem (by rw [h.1];exact hl)⟩
 have hq:=h.2 j u x hu hj
 obtain ⟨a,c,rfl⟩:=hq.val
 exact ⟨a,c,hu,hq⟩
def rowsQ (l:List Int) (n w:Nat):List (List Rat):=(List.range n).map fun i=>rowQ (l.drop (min l.length (i*w))) w
theorem rowsQ_len (l:List Int) (n w:Nat):(rowsQ l n w).length=n:=by simp [rowsQ]
theorem rowsQ_at (l:List Int) {n w i:Nat} (h:i<n):(rowsQ l n w)[i]?=some (rowQ (l.drop (min l.length (i*w))) w):=by
 unfold rowsQ;rw [List.getElem?_map,List.getElem?_range h];rfl
theorem IL.drop {H:Hp} {a:Option Addr} {cap:Nat} {l:List Int} (h:IL H (.slice a l.length cap) l) (k:Nat) (hk:k≤l.length):IL H (.slice (if cap=k then a else a.map (·.add (k*1))) (l.length-k) (cap-k)) (l.drop k):=by
 have hs:SlC H (.slice a l.length cap) l.length 1 (l.map iv):=h
 have:=hs.sub k l.length hk (Nat.le_refl _) (SlN.le h)
 unfold IL SlN
 rw [List.length_drop,List.map_drop]
 rw [Nat.mul_one,Nat.mul_one,List.take_of_length_le (by simp)] at this
 rw [Nat.mul_one]
 exact this
set_option maxHeartbeats 4000000 in
theorem rows_pc {H:Hp} {v:Value} {l:List Int} (h:IL H v l) (hb:∀ z,z∈l → -9223372036854775808≤z∧z<9223372036854775808) (n w:Nat) (hn:n≤1000) (hw:w≤1000):PC prog 27 #[v,.int .i64 (n:Int),.int .i64 (w:Int)] H fun r H'=>RLL H' r (rowsQ l n w):=by
 obtain ⟨a,cap,rfl⟩:=SlC.val h
 have hcap:l.length≤cap:=SlN.le h
 refine BD func27 ntmps27 ?_
 try refine RUN ?_
 refine EV.loopK (ι:=Nat × List Value × Value × Ows) [0,1,2] [] (fun q=>[(7,.v q.2.2.1),(8,.v (.int .i64 (q.1:Int)))]) (fun _=>[]) (fun q=>q.2.2.2) (fun q G=>q.1≤n∧RRs G q.2.1 ((rowsQ l n w).take q.1)∧OwnL 26 1 q.2.2.1 q.1 q.2.1 q.2.2.2) (fun q=>n-q.1) ((0,[],.slice none 0 0,[])) rfl rfl ⟨rfl,rfl,trivial⟩ trivial rfl (fun _=>rfl) (⟨Nat.zero_le _,RRs.nil _,OwnL.nil _ _⟩) ?_
 rintro ⟨i,vs,u,ow⟩ G1 hG1 ⟨hi,hvs,hown⟩
 dsimp only at hi hvs hown
 obtain ⟨wa,wc,rfl⟩:=hown.val
 try refine RUN ?_
 refine EV.cond rfl (fun hlt=>?_) (fun hlt=>?_)
 ·simp only [nN] at hlt
  have hk:i*w≤1000*1000:=Nat.mul_le_mul oM hw
  have hwr:IntKind.i64.wrap ((i:Int)*(w:Int))=((i*w:Nat):Int):=by
   rw [← Int.natCast_mul];generalize i*w=k at *;rw [IntKind.wrap_i64];omega
  have hrow:=rowsQ_at l (w:=w) hlt
  generalize i*w=k at *
  have hd:=IL.drop (h.mono hG1) (min l.length k) (Nat.min_le_left _ _)
  have hrp:=row_pc hd (fun z hz=>hb z (List.mem_of_mem_drop hz)) w oM
  try refine RUN ?_
  rw [hwr]
  refine EVL.asI ((min l.length k:Nat)) ((by split <;> omega)) ?_
  refine EVL.slc tO rfl rfl rfl rfl rfl rfl rfl rfl (min l.length k) l.length (.inr ⟨_,IntKind.i64,rfl,rfl⟩) (.inl ⟨rfl,rfl⟩) (Nat.min_le_left _ _) hcap hcap ?_
  try refine RUN ?_
  refine EVL.call rfl rfl rfl rfl rfl (hrp) ?_
  rintro r G2 hr hG2
  obtain ⟨ra,rc,rfl⟩:=hr.val
  try refine RUN ?_
  refine EVL.app1 tO rfl rfl rfl rfl rfl rfl rfl rfl rfl rfl rfl rfl rfl rfl rfl rfl rfl rfl rfl (fun _=>rfl) (ow) ([]) ((List.append_nil _).symm) (hown) oM fun _=>?_
  intro v' ow' hown'
  try refine RUN ?_
  refine ⟨(i+1,vs++[_],v',ow'),⟨rfl,?_,trivial⟩,sB,trivial,trivial,List.append_nil _,⟨hlt,by rw [take_snoc hrow];exact (hvs.mono hG2).snoc hr,hown'⟩,hG2,by dsimp only;omega⟩
  rw [wi_inc i (by omega)];rfl
 ·simp only [nN] at hlt
  obtain rfl:i=n:=by omega
  rw [List.take_of_length_le (by rw [rowsQ_len];omega)] at hvs
  (first | refine EVL.publishL [] ow [] ((List.append_nil _).symm) hown fun G2 hG2 hs=>?_ | refine EV.publishL [] ow [] ((List.append_nil _).symm) hown fun G2 hG2 hs=>?_)
  try refine RUN ?_
  exact ⟨vs,hvs.mono hG2,by rw [rowsQ_len];exact hs⟩
set_option maxHeartbeats 4000000 in
theorem inRows_pc {H:Hp} {v:Value} {X:List (List Rat)} (h:RLL H v X) (hn:X.length≤1000000) (hx:∀ x,x∈X→x.length≤1000000∧∀ q,q∈x→rq q):PC prog 19 #[v] H fun r H'=>QLL H' r X:=by
 obtain ⟨a,cap,rfl⟩:=h.val
 refine BD func19 ntmps19 ?_
 try refine RUN ?_
 refine EV.loopK (ι:=Nat × List Value × Value × Ows) [0] [] (fun q=>[(3,.v q.2.2.1),(4,.v (.int .i64 (q.1:Int)))]) (fun _=>[]) (fun q=>q.2.2.2) (fun q G=>q.1≤X.length∧QVs G q.2.1 (X.take q.1)∧OwnL 59 1 q.2.2.1 q.1 q.2.1 q.2.2.2) (fun q=>X.length-q.1) ((0,[],.slice none 0 0,[])) rfl rfl ⟨rfl,rfl,trivial⟩ trivial rfl (fun _=>rfl) (⟨Nat.zero_le _,QVs.nil _,OwnL.nil _ _⟩) ?_
 rintro ⟨i,vs,u,ow⟩ G1 hG1 ⟨hi,hvs,hown⟩
 dsimp only at hi hvs hown
 obtain ⟨wa,wc,rfl⟩:=hown.val
 try refine RUN ?_
 refine EV.cond rfl (fun hlt=>?_) (fun hlt=>?_)
 ·simp only [nN] at hlt
  obtain ⟨x,hxi⟩:∃ x,X[i]?=some x:=⟨_,List.getElem?_eq_getElem hlt⟩
  have hxb:=hx x (List.mem_of_getElem? hxi)
  obtain ⟨us,hus,hs⟩:=h.mono hG1
  obtain ⟨a1,c1,hu1,hR⟩:=hus.at hxi
  have hin:=inRow_pc hR oM hxb.2
  try refine RUN ?_
  refine EVL.idxR tO rfl rfl rfl rfl rfl rfl rfl rfl rfl rfl (hs) (i) (rfl) (hlt) (hu1) ?_
  try refine RUN ?_
  refine EVL.call rfl rfl rfl rfl rfl (hin) ?_
  rintro r G2 hr hG2
  obtain ⟨ra,rc,rfl⟩:=SlC.val hr
  try refine RUN ?_
  refine EVL.app1 tO rfl rfl rfl rfl rfl rfl rfl rfl rfl rfl rfl rfl rfl rfl rfl rfl rfl rfl rfl (fun _=>rfl) (ow) ([]) ((List.append_nil _).symm) (hown) oM fun _=>?_
  intro v' ow' hown'
  try refine RUN ?_
  refine ⟨(i+1,vs++[_],v',ow'),⟨rfl,?_,trivial⟩,sB,trivial,trivial,List.append_nil _,⟨hlt,by rw [take_snoc hxi];exact (hvs.mono hG2).snoc hr,hown'⟩,hG2,by dsimp only;omega⟩
  rw [wi_inc i (by omega)];rfl
 ·simp only [nN] at hlt
  obtain rfl:i=X.length:=by omega
  rw [List.take_length] at hvs
  (first | refine EVL.publishL [] ow [] ((List.append_nil _).symm) hown fun G2 hG2 hs=>?_ | refine EV.publishL [] ow [] ((List.append_nil _).symm) hown fun G2 hG2 hs=>?_)
  try refine RUN ?_
  exact ⟨vs,hvs.mono hG2,hs⟩
def gapsN (key:Int→Rat) (m:List Int):Nat→List Rat
 | 0=>[]
 | j+1=>gapsN key m j++if key (m.getD j 0)<key (m.getD (j+1) 0) then [midC key m j] else []
end Go.Proofs.YtgjepkeeeemppaaGreatDoor
namespace Go.Proofs.YtgjepkeeeemppaaGreatDoor
theorem dev_shift (m o:Rat):∀ l:List Rat,sumQ (devL o l.reverse)=sumQ (devL m l.reverse)+2*(m-o)*(sumQ l.reverse-((l.length:Int):Rat)*m)+((l.length:Int):Rat)*((m-o)*(m-o))
 | []=>by
  rw [show sumQ (devL o ([]:List Rat).reverse)=0 from rfl,show sumQ (devL m ([]:List Rat).reverse)=0 from rfl,show sumQ ([]:List Rat).reverse=0 from rfl,show (((([]:List Rat).length:Int)):Rat)=0 from rfl]
  grind
 | x::l=>by
  have ih:=dev_shift m o l
  have e:(((x::l).length:Int):Rat)=((l.length:Int):Rat)+1:=by
   rw [List.length_cons,Int.natCast_add,Rat.intCast_add];rfl
  rw [List.reverse_cons,devL_snoc,devL_snoc,sumQ_snoc,ih,e]
  generalize sumQ (devL m l.reverse)=A
  generalize sumQ l.reverse=B
  generalize ((l.length:Int):Rat)=N
  grind
theorem sq_nonneg (a:Rat):0≤a*a:=by
 rcases (Rat.le_total:0≤a∨a≤0) with h | h
 ·exact Rat.mul_nonneg h h
 ·have:0 ≤ -a:=by grind
  have:=Rat.mul_nonneg this this
  grind
end Go.Proofs.YtgjepkeeeemppaaGreatDoor
namespace Go.Proofs.YtgjepkeeeemppaaGreatDoor
structure POk (wo cost:List Int→Rat):Prop where
 wperm:∀ l m:List Int,l.Perm m→wo l=wo m
 cperm:∀ l m:List Int,l.Perm m→cost l=cost m
 split:∀ l m:List Int,cost (l++m)+wo (l++m)=cost l+wo l+(cost m+wo m)
 conv:∀ l m:List Int,wo (l++m)≤wo l+wo m
theorem colN_mem {key:Int→Rat} {wo:List Int→Rat} {least:Int} {m:List Int}:∀ {n:Nat} {a w:Rat},colN key wo least m n=some (a,w)→∃ j,j<n∧candC key least m j=true∧a=midC key m j∧w=sumW wo m j
 | 0,a,w,h=>by cases h
 | n+1,a,w,h=>by
  unfold colN at h
  split at h
  ·rename_i hc
   split at h
   ·cases h;exact ⟨n,Nat.lt_succ_self _,hc,rfl,rfl⟩
   ·rename_i a0 w0 h0
    split at h
    ·cases h;exact ⟨n,Nat.lt_succ_self _,hc,rfl,rfl⟩
    ·cases h
     obtain ⟨j,h1,h2⟩:=colN_mem h0
     exact ⟨j,by omega,h2⟩
  ·obtain ⟨j,h1,h2⟩:=colN_mem h
   exact ⟨j,by omega,h2⟩
theorem gapsN_mem {key:Int→Rat} {m:List Int}:∀ {n:Nat} {t:Rat},t∈gapsN key m n→∃ j,j<n∧key (m.getD j 0)<key (m.getD (j+1) 0)∧t=midC key m j
 | 0,t,h=>by cases h
 | n+1,t,h=>by
  unfold gapsN at h
  rcases List.mem_append.1 h with h | h
  ·obtain ⟨j,h1,h2⟩:=gapsN_mem h
   exact ⟨j,by omega,h2⟩
  ·split at h
   ·rename_i hlt;exact ⟨n,Nat.lt_succ_self _,hlt,List.mem_singleton.1 h⟩
   ·cases h
section
variable {X:List (List Rat)} {wo cost:List Int→Rat} {rs cols:List Int} {L:Int} {ps:List (Int × Option (Rat × Rat))} (hp:POk wo cost) (hcol:Cols cols (ps.map (·.1))) (hps:∀ p,p∈ps→ColR X wo rs L p.1 p.2)
include hp hcol hps
end
end Go.Proofs.YtgjepkeeeemppaaGreatDoor
namespace Go.Proofs.YtgjepkeeeemppaaGreatDoor
theorem ratN_ne {n:Nat} (h0:n≠0):((n:Int):Rat)≠0:=nat_rat_ne h0
def costVf (vals:List Rat) (l:List Int):Rat:=sumQ (devL (meanL (atR vals l)) (atR vals l))
def costLf (ls:List Int) (l:List Int):Rat:=costL (atI ls l)
theorem devV (L:List Rat):sumQ (devL (meanL L) L)+sumQ L*sumQ L / ((L.length:Int):Rat)=sumQ (devL 0 L):=by
 by_cases h0:L.length=0
 ·obtain rfl:=List.length_eq_zero_iff.1 h0
  show sumQ []+sumQ []*sumQ [] / ((((([]:List Rat).length:Nat):Int)):Rat)=sumQ []
  rw [sumQ_nil,show ((((([]:List Rat).length:Nat):Int)):Rat)=0 from rfl,rat_div_zero,Rat.add_zero]
 ·have h:=dev_shift (meanL L) 0 L.reverse
  rw [List.reverse_reverse,List.length_reverse] at h
  have hn:=ratN_ne h0
  have hm:meanL L=sumQ L / ((L.length:Int):Rat):=rfl
  rw [h]
  generalize sumQ (devL (meanL L) L)=A
  rw [hm]
  generalize ((L.length:Int):Rat)=N at *
  generalize sumQ L=S at *
  grind
theorem sum_one (f g:Nat→Nat) (j:Nat):∀ n,((List.range n).map fun k=>f k+if k=j then g k else 0).sum=((List.range n).map f).sum+if j<n then g j else 0
 | 0=>by simp
 | n+1=>by
  rw [List.range_succ,List.map_append,List.sum_append,List.map_append,List.sum_append,sum_one f g j n]
  simp only [List.map_cons,List.map_nil,List.sum_cons,List.sum_nil]
  by_cases h:n=j
  ·subst h;rw [if_pos rfl,if_neg oM,if_pos (by omega)];omega
  ·rw [if_neg h]
   by_cases h2:j<n
   ·rw [if_pos h2,if_pos (by omega)];omega
   ·rw [if_neg h2,if_neg (by omega)];omega
end Go.Proofs.YtgjepkeeeemppaaGreatDoor
namespace Go.Proofs.YtgjepkeeeemppaaGreatDoor
def preC (a b:Int × Rat × Rat):Prop:=b.2.2<a.2.2∨(a.2.2=b.2.2∧(a.1<b.1∨(a.1=b.1∧a.2.1<b.2.1)))
instance (a b:Int × Rat × Rat):Decidable (preC a b):=by unfold preC;exact inferInstance
theorem preC_trans {a b c:Int × Rat × Rat} (h:preC a b) (k:preC b c):preC a c:=by
 unfold preC at *
 rcases h with h | ⟨h1,h2⟩ <;> rcases k with k | ⟨k1,k2⟩
 ·left;grind
 ·left;grind
 ·left;grind
 ·right
  refine ⟨h1.trans k1,?_⟩
  rcases h2 with h2 | ⟨h2,h3⟩ <;> rcases k2 with k2 | ⟨k2,k3⟩
  ·left;omega
  ·left;omega
  ·left;omega
  ·right;exact ⟨by omega,by grind⟩
theorem preC_asymm {a b:Int × Rat × Rat} (h:preC a b) (k:preC b a):False:=by
 have:=preC_trans h k
 unfold preC at this
 rcases this with h | ⟨_,h | ⟨_,h⟩⟩
 ·exact absurd h Rat.lt_irrefl
 ·omega
 ·exact absurd h Rat.lt_irrefl
def refS (st:Option (Int × Rat × Rat)) (p:Int × Rat × Rat):Option (Int × Rat × Rat):=match st with
 | none=>some p
 | some q=>if preC p q then some p else some q
def FirstC (l:List (Int × Rat × Rat)) (r:Option (Int × Rat × Rat)):Prop:=match r with
 | none=>l=[]
 | some p=>p∈l∧∀ q,q∈l→¬ preC q p
theorem first_snoc {l:List (Int × Rat × Rat)} {r:Option (Int × Rat × Rat)} (h:FirstC l r) (p:Int × Rat × Rat):FirstC (l++[p]) (refS r p):=by
 unfold refS
 cases r with
 | none =>
  obtain rfl:l=[]:=h
  exact ⟨by simp,fun q hq=>by
   rw [List.nil_append,List.mem_singleton] at hq
   subst hq
   exact fun k=>preC_asymm k k⟩
 | some q =>
  obtain ⟨h1,h2⟩:=h
  dsimp only
  split
  ·rename_i hp
   refine ⟨by simp,fun z hz=>?_⟩
   rcases List.mem_append.1 hz with hz | hz
   ·exact fun k=>h2 z hz (preC_trans k hp)
   ·rw [List.mem_singleton.1 hz];exact fun k=>preC_asymm k k
  ·rename_i hp
   refine ⟨List.mem_append_left _ h1,fun z hz=>?_⟩
   rcases List.mem_append.1 hz with hz | hz
   ·exact h2 z hz
   ·rw [List.mem_singleton.1 hz];exact hp
end Go.Proofs.YtgjepkeeeemppaaGreatDoor
namespace Go.Proofs.YtgjepkeeeemppaaGreatDoor
end Go.Proofs.YtgjepkeeeemppaaGreatDoor
namespace Go.Proofs.YtgjepkeeeemppaaGreatDoor
open Go.RowKit _root_.Go.Proofs.Tryz
def cntL (C:Nat) (l:List Int):List Int:=(List.range C).map fun (k:Nat)=>(l.count (k:Int):Int)
theorem cntL_len (C:Nat) (l:List Int):(cntL C l).length=C:=by simp [cntL]
theorem cntL_at {C:Nat} (l:List Int) {k:Nat} (hk:k<C):(cntL C l)[k]?=some (l.count (k:Int):Int):=by
 unfold cntL;rw [List.getElem?_map,List.getElem?_range hk];rfl
theorem cntL_snoc {C:Nat} (l:List Int) {k:Nat} (hk:k<C):cntL C (l++[(k:Int)])=(cntL C l).set k ((l.count (k:Int)+1:Nat):Int):=by
 apply List.ext_getElem?
 intro j
 rw [List.getElem?_set]
 by_cases hj:j<C
 ·rw [cntL_at _ hj,cntL_at _ hj,count_snoc,cntL_len]
  by_cases e:k=j
  ·subst e;rw [if_pos rfl,if_pos rfl,if_pos hk]
  ·rw [if_neg e,if_neg oM,Nat.add_zero]
 ·rw [List.getElem?_eq_none (by rw [cntL_len];omega),List.getElem?_eq_none (by rw [cntL_len];omega),if_neg (by omega)]
theorem cnt_zero (C:Nat):(List.replicate C [iv 0]).flatten=(cntL C []).map iv++[]:=by
 have:cntL C []=List.replicate C 0:=by
  unfold cntL
  apply List.ext_getElem?
  intro j
  by_cases hj:j<C
  ·rw [List.getElem?_map,List.getElem?_range hj,List.getElem?_replicate,if_pos hj];simp
  ·rw [List.getElem?_eq_none (by simp;omega),List.getElem?_eq_none (by simp;omega)]
 rw [this,List.append_nil]
 induction C with
 | zero=>rfl
 | succ n ih =>
  rw [List.replicate_succ,List.flatten_cons,List.replicate_succ,List.map_cons,List.singleton_append]
  congr 1
  apply ih
  unfold cntL
  apply List.ext_getElem?
  intro j
  by_cases hj:j<n
  ·rw [List.getElem?_map,List.getElem?_range hj,List.getElem?_replicate,if_pos hj];simp
  ·rw [List.getElem?_eq_none (by simp;omega),List.getElem?_eq_none (by simp;omega)]
theorem il_own {H:Hp} {b m:Nat} {l:List Int} {sp:List Value} (h:H b=some (l.map iv++sp).toArray) (hm:l.length=m):IL H (.slice (some ⟨b,0,none⟩) m m) l:=by
 subst hm
 refine ⟨by simp,.inr ⟨b,0,l.length,_,rfl,Nat.le_refl _,h,fun j x hj=>?_⟩⟩
 rw [Nat.zero_add]
 have hl:=(List.getElem?_eq_some_iff.1 hj).1
 rw [List.getElem?_toArray,List.getElem?_append_left hl];exact hj
set_option maxHeartbeats 4000000 in
theorem refCounts_pc {H:Hp} {v:Value} {rs:List Int} (hr:IL H v rs) (hn:rs.length≤300) {kd:Int} {sv:Value} {la:Option Addr} {lc:Nat} {ls:List Int} (hv:IL H (.slice la ls.length lc) ls) {C:Nat} (hc:C≤12) (hls:∀ z,z∈ls→0≤z∧z<(C:Int)) :
  PC prog 156 #[goalV kd C (.slice la ls.length lc) sv,v] H fun r H'=>IL H' r (cntL C (atI ls (exL rs ls.length))):=by
 obtain ⟨a,cap,rfl⟩:=SlC.val hr
 refine BD func156 ntmps156 ?_
 try refine RUN ?_
 refine EVL.make tO rfl rfl rfl rfl rfl rfl rfl rfl rfl (C) (rfl) oM (by rfl) (by rfl) fun b=>?_
 (first | refine EVL.swapOw ([(b,3,(cntL C (atI ls (exL (rs.take 0) ls.length))).map iv++[])]) ([]) ((by rw [show atI ls (exL (rs.take 0) ls.length)=[] from rfl,← cnt_zero];rfl)) ?_ | refine EV.swapOw ([(b,3,(cntL C (atI ls (exL (rs.take 0) ls.length))).map iv++[])]) ([]) ((by rw [show atI ls (exL (rs.take 0) ls.length)=[] from rfl,← cnt_zero];rfl)) ?_)
 try refine RUN ?_
 refine EV.loopK (ι:=Nat) [1,2,5] [2] (fun i=>[(6,.v (.int .i64 (i:Int)))]) (fun _=>[]) (fun i=>[(b,3,(cntL C (atI ls (exL (rs.take i) ls.length))).map iv++[])]) (fun i _=>i≤rs.length) (fun i=>rs.length-i) (0) rfl rfl ⟨rfl,trivial⟩ trivial rfl (fun _=>rfl) (Nat.zero_le _) ?_
 rintro i G2 hG2 hi
 try refine RUN ?_
 refine EV.cond rfl (fun hlt=>?_) (fun hlt=>?_)
 ·simp only [nN] at hlt
  obtain ⟨r,hri⟩:∃ r,rs[i]?=some r:=⟨_,List.getElem?_eq_getElem hlt⟩
  have hex:=ex_take (n:=ls.length) hri
  have hel:=exL_len (rs.take i) ls.length
  rw [List.length_take] at hel
  have wn:IntKind.i64.wrap ((i:Int)+1)=((i+1:Nat):Int):=wi_inc i oM
  have hr2:=hr.mono hG2
  try refine RUN ?_
  by_cases h1:r≥0
  ·obtain ⟨R,rfl⟩:=Int.eq_ofNat_of_zero_le h1
   apply EV.drawn 14 kR kR;intro xv yw
   (repeat (first | refine' DV ?_ | refine' DA ?_ | refine' DK0 ?_ | refine' DT ?_ | refine' DS ?_))
   refine' DJ.ofVal (ValOk.idx1 tO rfl rfl rfl rfl rfl rfl rfl rfl (hr2) (i) (rfl) (hlt) ((by rw [List.getElem?_map,hri];rfl))) rfl rfl rfl ?_;rotate_left
   (repeat (first | refine' DV ?_ | refine' DA ?_ | refine' DK0 ?_ | refine' DT ?_ | refine' DS ?_))
   rw [decide_eq_true h1]
   (repeat (first | refine' DV ?_ | refine' DA ?_ | refine' DK0 ?_ | refine' DT ?_ | refine' DS ?_))
   refine' DJ.ofVal (ValOk.idx1 tO rfl rfl rfl rfl rfl rfl rfl rfl (hr2) (i) (rfl) (hlt) ((by rw [List.getElem?_map,hri];rfl))) rfl rfl rfl ?_;rotate_left
   (repeat (first | refine' DV ?_ | refine' DA ?_ | refine' DK0 ?_ | refine' DT ?_ | refine' DS ?_))
   (refine DJ.nil (fun G3 hG3 hF3=>?_);(case hS|hS2=>rfl))
   try refine RUN ?_
   by_cases h2:(R:Int)<(ls.length:Int)
   ·have hp:inR ls.length (R:Int)=true:=by unfold inR;simp;omega
    rw [hp,if_pos rfl] at hex
    have hRl:R<ls.length:=by omega
    obtain ⟨x,hx⟩:∃ x,ls[R]?=some x:=⟨_,List.getElem?_eq_getElem hRl⟩
    have hxb:=hls x (List.mem_of_getElem? hx)
    obtain ⟨k,rfl⟩:=Int.eq_ofNat_of_zero_le hxb.1
    have hk:k<C:=by omega
    have hsn:atI ls (exL (rs.take (i+1)) ls.length)=atI ls (exL (rs.take i) ls.length)++[(k:Int)]:=by
     rw [hex]
     unfold atI
     rw [List.map_append,List.map_cons,Int.toNat_natCast,List.getD_eq_getElem?_getD,hx];rfl
    have hcl:(atI ls (exL (rs.take i) ls.length)).count (k:Int)≤300:=Nat.le_trans List.count_le_length (by rw [atI_len];omega)
    have hget:=cntL_at (C:=C) (atI ls (exL (rs.take i) ls.length)) hk
    have hcn:=cntL_snoc (C:=C) (atI ls (exL (rs.take i) ls.length)) hk
    rw [← hsn] at hcn
    have hlen:=cntL_len C (atI ls (exL (rs.take i) ls.length))
    generalize cntL C (atI ls (exL (rs.take i) ls.length))=cs at *
    generalize (atI ls (exL (rs.take i) ls.length)).count (k:Int)=m at *
    have wm:IntKind.i64.wrap ((m:Int)+1)=((m+1:Nat):Int):=wi_inc m oM
    have hr3:=hr2.mono hG3
    have hv3:=hv.mono (hG2.trans hG3)
    rw [decide_eq_true h2]
    try refine RUN ?_
    apply EV.drawn 13 kR kR;intro xv yw
    (repeat (first | refine' DV ?_ | refine' DA ?_ | refine' DK0 ?_ | refine' DT ?_ | refine' DS ?_))
    refine' DJ.ofVal (ValOk.idx1 tO rfl rfl rfl rfl rfl rfl rfl rfl (hr3) (i) (rfl) (hlt) ((by rw [List.getElem?_map,hri];rfl))) rfl rfl rfl ?_;rotate_left
    (repeat (first | refine' DV ?_ | refine' DA ?_ | refine' DK0 ?_ | refine' DT ?_ | refine' DS ?_))
    refine' DJ.ofVal (ValOk.idx1 tO rfl rfl rfl rfl rfl rfl rfl rfl (hv3) (R) (rfl) (hRl) ((by rw [List.getElem?_map,hx];rfl))) rfl rfl rfl ?_;rotate_left
    (repeat (first | refine' DV ?_ | refine' DA ?_ | refine' DK0 ?_ | refine' DT ?_ | refine' DS ?_))
    refine' DJ.idxB tO rfl rfl rfl rfl rfl rfl rfl rfl rfl (k) (k*1) (rfl) (hk) (rfl) ?_;rotate_left
    refine' DJ.ofVal (ValOk.loadOwn tO rfl rfl rfl rfl (0) rfl (ci_get [] hget) rfl rfl) rfl rfl rfl ?_;rotate_left
    (repeat (first | refine' DV ?_ | refine' DA ?_ | refine' DK0 ?_ | refine' DT ?_ | refine' DS ?_))
    refine' DJ.idxB tO rfl rfl rfl rfl rfl rfl rfl rfl rfl (k) (k*1) (rfl) (hk) (rfl) ?_;rotate_left
    (refine DJ.nil (fun G4 hG4 hF4=>?_);(case hS|hS2=>rfl))
    rw [wm]
    refine EVL.storeOwn tO rfl rfl rfl rfl rfl rfl ([]) ([]) rfl rfl rfl rfl ((by rw [List.length_append,List.length_map,hlen];show k*1+1≤_;omega)) (ci_set [] _ (show k<cs.length by omega)) ?_
    try refine RUN ?_
    refine ⟨i+1,⟨by rw [wn];rfl,trivial⟩,sB,trivial,sB,by rw [hcn];rfl,hlt,hG3.trans hG4,by omega⟩
   ·have hp:inR ls.length (R:Int)=false:=by unfold inR;simp;omega
    rw [hp,if_neg (by decide),List.append_nil] at hex
    rw [decide_eq_false h2]
    try refine RUN ?_
    refine ⟨i+1,⟨by rw [wn];rfl,trivial⟩,sB,trivial,sB,by rw [hex],hlt,hG3,by omega⟩
  ·have hp:inR ls.length r=false:=by unfold inR;simp;omega
   rw [hp,if_neg (by decide),List.append_nil] at hex
   apply EV.drawn 14 kR kR;intro xv yw
   (repeat (first | refine' DV ?_ | refine' DA ?_ | refine' DK0 ?_ | refine' DT ?_ | refine' DS ?_))
   refine' DJ.ofVal (ValOk.idx1 tO rfl rfl rfl rfl rfl rfl rfl rfl (hr2) (i) (rfl) (hlt) ((by rw [List.getElem?_map,hri];rfl))) rfl rfl rfl ?_;rotate_left
   (repeat (first | refine' DV ?_ | refine' DA ?_ | refine' DK0 ?_ | refine' DT ?_ | refine' DS ?_))
   rw [decide_eq_false h1]
   (repeat (first | refine' DV ?_ | refine' DA ?_ | refine' DK0 ?_ | refine' DT ?_ | refine' DS ?_))
   (refine DJ.nil (fun G3 hG3 hF3=>?_);(case hS|hS2=>rfl))
   try refine RUN ?_
   refine ⟨i+1,⟨by rw [wn];rfl,trivial⟩,sB,trivial,sB,by rw [hex],hlt,hG3,by omega⟩
 ·simp only [nN] at hlt
  obtain rfl:i=rs.length:=by omega
  rw [List.take_length]
  (first | refine EVL.publish [] [] rfl fun G3 hG3 hb3=>?_ | refine EV.publish [] [] rfl fun G3 hG3 hb3=>?_)
  try refine RUN ?_
  exact il_own hb3 (cntL_len _ _)
def topN (l:List Int):Nat→Nat
 | 0=>0
 | i+1=>if l.getD (topN l i) 0<l.getD i 0 then i else topN l i
theorem topN_lt (l:List Int):∀ i,topN l i<i∨topN l i=0
 | 0=>.inr rfl
 | i+1=>by
  unfold topN
  split
  ·exact .inl (Nat.lt_succ_self _)
  ·rcases topN_lt l i with h | h
   ·exact .inl oM
   ·exact .inr h
theorem topN_one (l:List Int):topN l 1=0:=by
 unfold topN topN
 rw [if_neg (by omega)]
theorem getD_at {l:List Int} {i:Nat} (h:i<l.length):l[i]?=some (l.getD i 0):=by
 rw [List.getD_eq_getElem?_getD,List.getElem?_eq_getElem h];rfl
set_option maxHeartbeats 4000000 in
theorem refTop_pc {H:Hp} {v:Value} {l:List Int} (hr:IL H v l) (hn:l.length≤300):PC prog 62 #[v] H fun r _=>r=.int .i64 (topN l l.length:Nat):=by
 obtain ⟨a,cap,rfl⟩:=SlC.val hr
 refine BD func62 ntmps62 ?_
 try refine RUN ?_
 refine EV.loopK (ι:=Nat) [0] [] (fun i=>[(3,.v (.int .i64 (topN l (i+1):Nat))),(4,.v (.int .i64 ((i+1:Nat):Int)))]) (fun _=>[]) (fun _=>[]) (fun i _=>i≤l.length-1) (fun i=>l.length-i) (0) rfl rfl ⟨by rw [topN_one];rfl,rfl,trivial⟩ trivial rfl (fun _=>rfl) (Nat.zero_le _) ?_
 rintro i G2 hG2 hi
 try refine RUN ?_
 refine EV.cond rfl (fun hlt=>?_) (fun hlt=>?_)
 ·simp only [nN] at hlt
  have hr2:=hr.mono hG2
  have ht:=topN_lt l (i+1)
  have htl:topN l (i+1)<l.length:=by omega
  have g1:=getD_at hlt
  have g2:=getD_at htl
  have hst:topN l (i+1+1)=if l.getD (topN l (i+1)) 0<l.getD (i+1) 0 then i+1 else topN l (i+1):=rfl
  have wn:IntKind.i64.wrap (((i+1:Nat):Int)+1)=((i+1+1:Nat):Int):=wi_inc (i+1) oM
  generalize topN l (i+1)=tp at *
  generalize l.getD tp 0=x at *
  generalize l.getD (i+1) 0=y at *
  try refine RUN ?_
  apply EV.drawn 8 kR kR;intro xv yw
  (repeat (first | refine' DV ?_ | refine' DA ?_ | refine' DK0 ?_ | refine' DT ?_ | refine' DS ?_))
  refine' DJ.ofVal (ValOk.idx1 tO rfl rfl rfl rfl rfl rfl rfl rfl (hr2) (i+1) (rfl) (hlt) ((by rw [List.getElem?_map,g1];rfl))) rfl rfl rfl ?_;rotate_left
  (repeat (first | refine' DV ?_ | refine' DA ?_ | refine' DK0 ?_ | refine' DT ?_ | refine' DS ?_))
  refine' DJ.ofVal (ValOk.idx1 tO rfl rfl rfl rfl rfl rfl rfl rfl (hr2) (tp) (rfl) (htl) ((by rw [List.getElem?_map,g2];rfl))) rfl rfl rfl ?_;rotate_left
  (repeat (first | refine' DV ?_ | refine' DA ?_ | refine' DK0 ?_ | refine' DT ?_ | refine' DS ?_))
  (refine DJ.nil (fun G3 hG3 hF3=>?_);(case hS|hS2=>rfl))
  try refine RUN ?_
  by_cases h:y>x
  ·rw [decide_eq_true h]
   rw [if_pos h] at hst
   try refine RUN ?_
   refine ⟨i+1,⟨by rw [hst];rfl,by rw [wn];rfl,trivial⟩,sB,trivial,sB,rfl,by omega,hG3,by omega⟩
  ·rw [decide_eq_false h]
   rw [if_neg h] at hst
   try refine RUN ?_
   refine ⟨i+1,⟨by rw [hst];rfl,by rw [wn];rfl,trivial⟩,sB,trivial,sB,rfl,by omega,hG3,by omega⟩
 ·simp only [nN] at hlt
  have hfin:topN l (i+1)=topN l l.length:=by
   by_cases h0:l.length=0
   ·obtain rfl:i=0:=by omega
    rw [topN_one,h0];rfl
   ·rw [show i+1=l.length by omega]
  rw [hfin]
  try refine RUN ?_
  rfl
end Go.Proofs.YtgjepkeeeemppaaGreatDoor
namespace Go.Proofs.YtgjepkeeeemppaaGreatDoor
theorem putAt_len {α:Type} (l:List α) (j:Nat) (y:α):(putAt l j y).length=l.length+1:=by rw [(putAt_perm l j y).length_eq,List.length_append];rfl
theorem putAt_at {α:Type} {l:List α} {j:Nat} {y:α} (h:j≤l.length):(putAt l j y)[j]?=some y:=by
 have:(l.take j).length=j:=by rw [List.length_take];omega
 unfold putAt;rw [List.getElem?_append_right oM,this,Nat.sub_self];rfl
theorem putAt_before {α:Type} {l:List α} {j:Nat} {y z:α} (h:l[j]?=some z):(putAt l (j+1) y)[j]?=some z:=by
 obtain ⟨hl,_⟩:=List.getElem?_eq_some_iff.1 h
 unfold putAt
 rw [List.getElem?_append_left (by rw [List.length_take];omega),List.getElem?_take_of_lt oM,h]
theorem putAt_move {α:Type} {l:List α} {j:Nat} {y z:α} (h:l[j]?=some z):(putAt l (j+1) y).set (j+1) z=putAt l j z:=by
 obtain ⟨hl,hz⟩:=List.getElem?_eq_some_iff.1 h
 have:(l.take (j+1)).length=j+1:=by rw [List.length_take];omega
 unfold putAt
 rw [List.set_append_right _ _ oM,this,Nat.sub_self,List.set_cons_zero,List.take_succ_eq_append_getElem hl,hz,List.drop_eq_getElem_cons hl,hz]
 simp
theorem putAt_again {α:Type} {l:List α} {j:Nat} {y z:α} (h:j≤l.length):(putAt l j y).set j z=putAt l j z:=by
 have:(l.take j).length=j:=by rw [List.length_take];omega
 unfold putAt
 rw [List.set_append_right _ _ oM,this,Nat.sub_self,List.set_cons_zero]
theorem putAt_end {α:Type} (l:List α) (y:α):putAt l l.length y=l++[y]:=by unfold putAt;rw [List.take_length,List.drop_length]
theorem putAt_mem {α:Type} {l:List α} {j:Nat} {y z:α} (h:z∈putAt l j y):z=y∨z∈l:=by
 have:=(putAt_perm l j y).mem_iff.1 h
 rcases List.mem_append.1 this with h | h
 ·exact .inr h
 ·exact .inl (List.mem_singleton.1 h)
end Go.Proofs.YtgjepkeeeemppaaGreatDoor
namespace Go.Proofs.YtgjepkeeeemppaaGreatDoor
open Go.RowKit _root_.Go.Proofs.Tryz
theorem RVs.put {H:Hp} {vs:List Value} {l:List Rat} {x:Value} {q:Rat} {j:Nat} (h:RVs H vs l) (k:RQ H x q) (hj:j≤l.length):RVs H (putAt vs j x) (putAt l j q):=by
 have h1:=h.1
 refine ⟨by rw [putAt_len,putAt_len,h1],fun i y r e1 e2=>?_⟩
 have t1:(vs.take j).length=j:=by rw [List.length_take];omega
 have t2:(l.take j).length=j:=by rw [List.length_take];omega
 unfold putAt at e1 e2
 rw [List.getElem?_append,t1] at e1
 rw [List.getElem?_append,t2] at e2
 by_cases hi:i<j
 ·rw [if_pos hi,List.getElem?_take_of_lt hi] at e1 e2
  exact h.2 i y r e1 e2
 ·rw [if_neg hi] at e1 e2
  cases hk:i-j with
  | zero=>rw [hk] at e1 e2;simp at e1 e2;subst e1;subst e2;exact k
  | succ m =>
   rw [hk,List.getElem?_cons_succ,List.getElem?_drop] at e1 e2
   exact h.2 _ y r e1 e2
theorem RVs.three {H:Hp} {vs:List Value} {l:List Rat} (h:RVs H vs l):∀ x,x∈vs→(vlist x).length=3:=fun x hx=>by
 obtain ⟨i,hi,rfl⟩:=List.getElem_of_mem hx
 have:=h.1
 exact (h.2 i _ _ (List.getElem?_eq_getElem hi) (List.getElem?_eq_getElem oM)).cells.1
theorem RVs.at {H:Hp} {vs:List Value} {l:List Rat} (h:RVs H vs l) {j:Nat} {q:Rat} (hj:l[j]?=some q):∃ x,vs[j]?=some x∧RQ H x q:=by
 obtain ⟨hl,rfl⟩:=List.getElem?_eq_some_iff.1 hj
 have h1:=h.1
 exact ⟨_,List.getElem?_eq_getElem oM,h.2 j _ _ (List.getElem?_eq_getElem oM) (List.getElem?_eq_getElem hl)⟩
theorem three_put {vs:List Value} {j:Nat} {y:Value} (h:∀ x,x∈vs→(vlist x).length=3) (hy:(vlist y).length=3):∀ x,x∈putAt vs j y→(vlist x).length=3:=fun x hx=>by
 rcases putAt_mem hx with rfl | hx
 ·exact hy
 ·exact h x hx
theorem three_len {vs:List Value} (h:∀ x,x∈vs→(vlist x).length=3):(vs.flatMap vlist).length=vs.length*3:=flat_len _ 3 vs h
theorem own_put {T:TypeId} {b cap i j:Nat} {vs:List Value} {x:Value} {sp:List Value} {k:Nat} (hv:∀ x,x∈vs→(vlist x).length=3) (hvl:vs.length=i) (hx:(vlist x).length=3) (hk:k+sp.length=cap*3) (hk':k=(i+1)*3) (h1:i+1≤cap) (h2:cap≤maxLen) :
  OwnL T 3 (.slice (some ⟨b,0,none⟩) (i+1) cap) (i+1) ((putAt vs j x).flatMap vlist) [(b,T,(putAt vs j x).flatMap vlist++sp)]:=by
 have hl:((putAt vs j x).flatMap vlist).length=(i+1)*3:=by rw [three_len (three_put hv hx),putAt_len,hvl]
 exact ⟨hl,.inr ⟨b,cap,sp,rfl,rfl,by rw [List.length_append,hl];omega,h1,h2⟩⟩
set_option maxHeartbeats 4000000 in
theorem refSort_pc {H:Hp} {v:Value} {l:List Rat} (h:RL H v l) (hl:l.length≤1000) (hb:∀ q,q∈l→rq q):PC prog 188 #[v] H fun r H'=>RL H' r (sortQ l):=by
 obtain ⟨a,cap,rfl⟩:=RL.val h
 refine BD func188 ntmps188 ?_
 try refine RUN ?_
 refine EV.loopK (ι:=Nat × List Value × List Rat × Value × Ows) [0] [] (fun q=>[(3,.v q.2.2.2.1),(4,.v (.int .i64 (q.1:Int)))]) (fun _=>[]) (fun q=>q.2.2.2.2) (fun q G=>q.1≤l.length∧RVs G q.2.1 q.2.2.1∧q.2.2.1.Perm (l.take q.1)∧Rising q.2.2.1∧OwnL 36 3 q.2.2.2.1 q.1 (q.2.1.flatMap vlist) q.2.2.2.2) (fun q=>l.length-q.1) ((0,[],[],.slice none 0 0,[])) rfl rfl ⟨rfl,rfl,trivial⟩ trivial rfl (fun _=>rfl) (⟨Nat.zero_le _,RVs.nil _,List.Perm.refl _,List.Pairwise.nil,OwnL.nil _ _⟩) ?_
 rintro ⟨i,vs,acc,w,ow⟩ G1 hG1 ⟨hi,hvs,hperm,hris,hown⟩
 dsimp only at hi hvs hperm hris hown
 have hal:acc.length=i:=by rw [hperm.length_eq,List.length_take];omega
 have hvl:vs.length=i:=by rw [hvs.1,hal]
 have hthr:=hvs.three
 obtain ⟨wa,wc,rfl⟩:=hown.val
 try refine RUN ?_
 refine EV.cond rfl (fun hlt=>?_) (fun hlt=>?_)
 ·simp only [nN] at hlt
  obtain ⟨q,hqi⟩:∃ q,l[i]?=some q:=⟨_,List.getElem?_eq_getElem hlt⟩
  obtain ⟨us,x,hsl,hc,hx⟩:=(h.mono hG1).at hqi
  obtain ⟨xa,xl,xc,ya,yl,yc,rfl,hx1,hx2⟩:=id hx
  have qq:=hb q (List.mem_of_getElem? hqi)
  have qacc:∀ y,y∈acc→rq y:=fun y hy=>hb y (List.mem_of_mem_take (hperm.mem_iff.1 hy))
  try refine RUN ?_
  refine EVL.idxM tO rfl rfl rfl rfl rfl rfl rfl rfl rfl (hsl) (i) (rfl) (hlt) (hc) ?_
  try refine RUN ?_
  refine EVL.app1 tO rfl rfl rfl rfl rfl rfl rfl rfl rfl rfl rfl rfl rfl rfl rfl rfl rfl rfl rfl (fun _=>rfl) (ow) ([]) ((List.append_nil _).symm) (hown) oM fun _=>?_
  intro v' ow' hown'
  have e:=putAt_end vs (.agg #[.bool (decide (q.num<0)),.slice xa xl xc,.slice ya yl yc])
  rw [hvl] at e
  have hown2:OwnL 36 3 v' (i+1) ((putAt vs i (.agg #[.bool (decide (q.num<0)),.slice xa xl xc,.slice ya yl yc])).flatMap vlist) ow':=by
   rw [e,List.flatMap_append];exact hown'
  clear hown' hown e
  generalize hX:Value.agg #[.bool (decide (q.num<0)),.slice xa xl xc,.slice ya yl yc]=x at *
  have hx3:(vlist x).length=3:=hX ▸ rfl
  rcases hown2 with ⟨hk',⟨_,h0,_⟩ | ⟨b,cap',sp,rfl,rfl,hk,hc1,hc2⟩⟩
  ·omega
  rw [List.length_append] at hk
  generalize ((putAt vs i x).flatMap vlist).length=k at hk hk'
  have hperm':∀ j,(putAt acc j q).Perm (l.take (i+1)):=fun j=>by
   rw [take_snoc hqi]
   exact (putAt_perm acc j q).trans (hperm.append_right [q])
  subst hX
  try refine RUN ?_
  refine EV.loopK (ι:=Nat × Value) [0,3,4] [] (fun p=>[(5,.v (.int .i64 (p.1:Int)))]) (fun _=>[]) (fun p=>[(b,36,(putAt vs p.1 p.2).flatMap vlist++sp)]) (fun p _=>p.1≤i∧(vlist p.2).length=3∧∀ y,y∈acc.drop p.1→q≤y) (fun p=>p.1) ((i,_)) rfl rfl ⟨rfl,trivial⟩ trivial rfl (fun _=>rfl) (⟨Nat.le_refl _,rfl,by rw [← hal,List.drop_length];intro y hy;cases hy⟩) ?_
  rintro ⟨j,y⟩ G2 hG2 ⟨hj,hy,hgr⟩
  dsimp only at hj hy hgr
  have hsl2:=hsl.mono hG2
  cases j with
  | zero =>
   try refine RUN ?_
   apply EV.drawn 15 kR kR;intro xv yw
   (repeat (first | refine' DV ?_ | refine' DA ?_ | refine' DK0 ?_ | refine' DT ?_ | refine' DS ?_))
   (refine DJ.nil (fun G3 hG3 hF3=>?_);(case hS|hS2=>rfl))
   try refine RUN ?_
   have hj':0<(putAt vs (0) y).length:=by rw [putAt_len];omega
   refine EVL.idxM tO rfl rfl rfl rfl rfl rfl rfl rfl rfl ((hsl2.mono hG3)) (i) (rfl) (hlt) (hc) ?_
   try refine RUN ?_
   refine EVL.idxB tO rfl rfl rfl rfl rfl rfl rfl rfl rfl (0) ((0)*3) (rfl) (oM) (rfl) ?_
   refine EVL.storeOwn tO rfl rfl rfl rfl rfl rfl ([]) ([]) rfl rfl rfl rfl ((by rw [List.length_append,three_len (three_put hthr hy),putAt_len,hvl];show (0)*3+3≤_;omega)) ((flat_set_app (three_put hthr hy) sp (.agg #[.bool (decide (q.num<0)),.slice xa xl xc,.slice ya yl yc]) hj')) ?_
   rw [putAt_again (by omega)]
   try refine RUN ?_
   refine ⟨(i+1,putAt vs (0) (.agg #[.bool (decide (q.num<0)),.slice xa xl xc,.slice ya yl yc]),putAt acc (0) q,.slice (some ⟨b,0,none⟩) (i+1) cap',[(b,36,(putAt vs (0) (.agg #[.bool (decide (q.num<0)),.slice xa xl xc,.slice ya yl yc])).flatMap vlist++sp)]),⟨rfl,?_,trivial⟩,sB,trivial,trivial,rfl,⟨by dsimp only;omega,(hvs.mono (hG2.trans hG3)).put ((hx.mono hG2).mono hG3) oM,hperm' _,putAt_rising hris (by intro y hy;rw [List.take_zero] at hy;cases hy) hgr,own_put hthr hvl rfl hk hk' hc1 hc2⟩,hG2.trans hG3,by dsimp only;omega⟩
   rw [wi_inc i (by omega)];rfl
  | succ j =>
   obtain ⟨r,hrj⟩:∃ r,acc[j]?=some r:=⟨_,List.getElem?_eq_getElem oM⟩
   obtain ⟨z,hzj,hz⟩:=(hvs.mono hG2).at hrj
   obtain ⟨za,zl,zc,wa',wl',wc',rfl,hz1,hz2⟩:=id hz
   have qr:=qacc r (List.mem_of_getElem? hrj)
   have hcmp:=fun G (hG:G2.Le G)=>refCmp_pc (hz.mono hG) ((hx.mono hG2).mono hG) qr qq
   have hgt:ordR r q>0→q≤r:=fun h=>by
    unfold ordR at h;split at h
    ·omega
    ·split at h
     ·exact Rat.le_of_lt (by assumption)
     ·omega
   have hle:¬ ordR r q>0→r≤q:=fun h=>by
    unfold ordR at h;split at h
    ·exact Rat.le_of_lt (by assumption)
    ·split at h
     ·omega
     ·rename_i k1 k2;exact Rat.not_lt.1 k2
   generalize ordR r q=o at *
   try refine RUN ?_
   apply EV.drawn 15 kR kR;intro xv yw
   (repeat (first | refine' DV ?_ | refine' DA ?_ | refine' DK0 ?_ | refine' DT ?_ | refine' DS ?_))
   rw [decide_eq_true (show ((j+1:Nat):Int)>0 by omega)]
   (repeat (first | refine' DV ?_ | refine' DA ?_ | refine' DK0 ?_ | refine' DT ?_ | refine' DS ?_))
   refine' DJ.idxB tO rfl rfl rfl rfl rfl rfl rfl rfl rfl (j) (j*3) ((by rw [IntKind.wrap_i64];omega)) (oM) (rfl) ?_;rotate_left
   refine' DJ.ofVal (ValOk.loadOwn tO rfl rfl rfl rfl (0) rfl (flat_get_app (three_put hthr hy) sp (putAt_before hzj)) rfl rfl) rfl rfl rfl ?_;rotate_left
   (repeat (first | refine' DV ?_ | refine' DA ?_ | refine' DK0 ?_ | refine' DT ?_ | refine' DS ?_))
   refine' DJ.idxM tO rfl rfl rfl rfl rfl rfl rfl rfl rfl (hsl2) (i) (rfl) (hlt) (hc) ?_;rotate_left
   (repeat (first | refine' DV ?_ | refine' DA ?_ | refine' DK0 ?_ | refine' DT ?_ | refine' DS ?_))
   refine' DJ.callS rfl rfl rfl rfl rfl (cO func124) (fun G hG hd=>hcmp G hG) ?_;rotate_left
   (repeat (first | refine' DV ?_ | refine' DA ?_ | refine' DK0 ?_ | refine' DT ?_ | refine' DS ?_))
   (refine DJ.nil (fun G3 hG3 hF3=>?_);(case hS|hS2=>rfl))
   try refine RUN ?_
   by_cases ho:o>0
   ·rw [decide_eq_true ho]
    try refine RUN ?_
    refine EVL.idxB tO rfl rfl rfl rfl rfl rfl rfl rfl rfl (j) (j*3) ((by rw [IntKind.wrap_i64];omega)) (oM) (rfl) ?_
    refine EVL.loadOwn tO rfl rfl rfl rfl rfl rfl (0) rfl (flat_get_app (three_put hthr hy) sp (putAt_before hzj)) rfl rfl ?_
    try refine RUN ?_
    refine EVL.idxB tO rfl rfl rfl rfl rfl rfl rfl rfl rfl (j+1) ((j+1)*3) (rfl) (oM) (rfl) ?_
    refine EVL.storeOwn tO rfl rfl rfl rfl rfl rfl ([]) ([]) rfl rfl rfl rfl ((by rw [List.length_append,three_len (three_put hthr hy),putAt_len,hvl];show (j+1)*3+3≤_;omega)) ((flat_set_app (three_put hthr hy) sp (.agg #[.bool (decide (r.num<0)),.slice za zl zc,.slice wa' wl' wc']) (by rw [putAt_len];omega))) ?_
    rw [putAt_move hzj]
    try refine RUN ?_
    refine ⟨(j,.agg #[.bool (decide (r.num<0)),.slice za zl zc,.slice wa' wl' wc']),⟨?_,trivial⟩,sB,trivial,trivial,rfl,⟨by dsimp only;omega,rfl,?_⟩,hG3,by dsimp only;omega⟩
    ·rw [show IntKind.i64.wrap (((j+1:Nat):Int)-1)=(j:Int) by rw [IntKind.wrap_i64];omega];rfl
    ·intro z' hz'
     dsimp only at hz'
     rw [drop_at hrj] at hz'
     rcases List.mem_cons.1 hz' with rfl | hz'
     ·exact hgt ho
     ·exact hgr z' hz'
   ·rw [decide_eq_false ho]
    try refine RUN ?_
    have hj':j+1<(putAt vs (j+1) y).length:=by rw [putAt_len];omega
    refine EVL.idxM tO rfl rfl rfl rfl rfl rfl rfl rfl rfl ((hsl2.mono hG3)) (i) (rfl) (hlt) (hc) ?_
    try refine RUN ?_
    refine EVL.idxB tO rfl rfl rfl rfl rfl rfl rfl rfl rfl (j+1) ((j+1)*3) (rfl) (oM) (rfl) ?_
    refine EVL.storeOwn tO rfl rfl rfl rfl rfl rfl ([]) ([]) rfl rfl rfl rfl ((by rw [List.length_append,three_len (three_put hthr hy),putAt_len,hvl];show (j+1)*3+3≤_;omega)) ((flat_set_app (three_put hthr hy) sp (.agg #[.bool (decide (q.num<0)),.slice xa xl xc,.slice ya yl yc]) hj')) ?_
    rw [putAt_again (by omega)]
    try refine RUN ?_
    refine ⟨(i+1,putAt vs (j+1) (.agg #[.bool (decide (q.num<0)),.slice xa xl xc,.slice ya yl yc]),putAt acc (j+1) q,.slice (some ⟨b,0,none⟩) (i+1) cap',[(b,36,(putAt vs (j+1) (.agg #[.bool (decide (q.num<0)),.slice xa xl xc,.slice ya yl yc])).flatMap vlist++sp)]),⟨rfl,?_,trivial⟩,sB,trivial,trivial,rfl,⟨by dsimp only;omega,(hvs.mono (hG2.trans hG3)).put ((hx.mono hG2).mono hG3) oM,hperm' _,putAt_rising hris (rising_take hris hrj (hle ho)) hgr,own_put hthr hvl rfl hk hk' hc1 hc2⟩,hG2.trans hG3,by dsimp only;omega⟩
    rw [wi_inc i (by omega)];rfl
 ·simp only [nN] at hlt
  obtain rfl:i=l.length:=by omega
  rw [List.take_length] at hperm
  (first | refine EVL.publishL [] ow [] ((List.append_nil _).symm) hown fun G2 hG2 hs=>?_ | refine EV.publishL [] ow [] ((List.append_nil _).symm) hown fun G2 hG2 hs=>?_)
  try refine RUN ?_
  rw [← sortQ_one hperm hris]
  exact (hvs.mono hG2).rl (by rw [hal];exact hs)
theorem atR_exL {vals:List Rat} {rs:List Int} {i:Nat} {R:Nat} {x:Rat} (hri:rs[i]?=some (R:Int)) (hx:vals[R]?=some x):atR vals (exL (rs.take (i+1)) vals.length)=atR vals (exL (rs.take i) vals.length)++[x]:=by
 obtain ⟨hl,_⟩:=List.getElem?_eq_some_iff.1 hx
 have hex:=ex_take (n:=vals.length) hri
 have hp:inR vals.length (R:Int)=true:=by unfold inR;simp;omega
 rw [hp,if_pos rfl] at hex
 rw [hex]
 unfold atR
 rw [List.map_append,List.map_cons,Int.toNat_natCast,List.getD_eq_getElem?_getD,hx];rfl
set_option maxHeartbeats 4000000 in
theorem refValues_pc {H:Hp} {v:Value} {rs:List Int} (hr:IL H v rs) (hn:rs.length≤300) {kd cl:Int} {sl sv:Value} {qs:List Rat} (hv:RL H sv qs) :
  PC prog 184 #[goalV kd cl sl sv,v] H fun r H'=>RL H' r (atR qs (exL rs qs.length)):=by
 obtain ⟨a,cap,rfl⟩:=SlC.val hr
 obtain ⟨va,vc,rfl⟩:=hv.val
 refine BD func184 ntmps184 ?_
 try refine RUN ?_
 refine EV.loopK (ι:=Nat × List Value × Value × Ows) [1,2] [2] (fun q=>[(5,.v q.2.2.1),(6,.v (.int .i64 (q.1:Int)))]) (fun _=>[]) (fun q=>q.2.2.2) (fun q G=>q.1≤rs.length∧RVs G q.2.1 (atR qs (exL (rs.take q.1) qs.length))∧OwnL 36 3 q.2.2.1 q.2.1.length (q.2.1.flatMap vlist) q.2.2.2) (fun q=>rs.length-q.1) ((0,[],.slice none 0 0,[])) rfl rfl ⟨rfl,rfl,trivial⟩ trivial rfl (fun _=>rfl) (⟨Nat.zero_le _,RVs.nil _,OwnL.nil _ _⟩) ?_
 rintro ⟨i,us,w,ow⟩ G2 hG2 ⟨hi,hus,hown⟩
 dsimp only at hi hus hown
 obtain ⟨wa,wc,rfl⟩:=hown.val
 try refine RUN ?_
 refine EV.cond rfl (fun hlt=>?_) (fun hlt=>?_)
 ·simp only [nN] at hlt
  obtain ⟨r,hri⟩:∃ r,rs[i]?=some r:=⟨_,List.getElem?_eq_getElem hlt⟩
  have hex:=ex_take (n:=qs.length) hri
  have hel:=exL_len (rs.take i) qs.length
  rw [List.length_take] at hel
  have hul:us.length≤i:=by rw [hus.1,atR_len];omega
  have wn:IntKind.i64.wrap ((i:Int)+1)=((i+1:Nat):Int):=wi_inc i oM
  have hr2:=hr.mono hG2
  try refine RUN ?_
  by_cases h1:r≥0
  ·obtain ⟨R,rfl⟩:=Int.eq_ofNat_of_zero_le h1
   apply EV.drawn 14 kR kR;intro xv yw
   (repeat (first | refine' DV ?_ | refine' DA ?_ | refine' DK0 ?_ | refine' DT ?_ | refine' DS ?_))
   refine' DJ.ofVal (ValOk.idx1 tO rfl rfl rfl rfl rfl rfl rfl rfl (hr2) (i) (rfl) (hlt) ((by rw [List.getElem?_map,hri];rfl))) rfl rfl rfl ?_;rotate_left
   (repeat (first | refine' DV ?_ | refine' DA ?_ | refine' DK0 ?_ | refine' DT ?_ | refine' DS ?_))
   rw [decide_eq_true h1]
   (repeat (first | refine' DV ?_ | refine' DA ?_ | refine' DK0 ?_ | refine' DT ?_ | refine' DS ?_))
   refine' DJ.ofVal (ValOk.idx1 tO rfl rfl rfl rfl rfl rfl rfl rfl (hr2) (i) (rfl) (hlt) ((by rw [List.getElem?_map,hri];rfl))) rfl rfl rfl ?_;rotate_left
   (repeat (first | refine' DV ?_ | refine' DA ?_ | refine' DK0 ?_ | refine' DT ?_ | refine' DS ?_))
   (refine DJ.nil (fun G3 hG3 hF3=>?_);(case hS|hS2=>rfl))
   try refine RUN ?_
   by_cases h2:(R:Int)<(qs.length:Int)
   ·have hRl:R<qs.length:=by omega
    obtain ⟨x,hx⟩:∃ x,qs[R]?=some x:=⟨_,List.getElem?_eq_getElem hRl⟩
    have hsn:=atR_exL hri hx
    have hr3:=hr2.mono hG3
    obtain ⟨vs,y,hs,hc,hy⟩:=(hv.mono (hG2.trans hG3)).at hx
    obtain ⟨xa,xl,xc,ya,yl,yc,rfl,hx1,hx2⟩:=id hy
    rw [decide_eq_true h2]
    try refine RUN ?_
    apply EV.drawn 10 kR kR;intro xv yw
    (repeat (first | refine' DV ?_ | refine' DA ?_ | refine' DK0 ?_ | refine' DT ?_ | refine' DS ?_))
    refine' DJ.ofVal (ValOk.idx1 tO rfl rfl rfl rfl rfl rfl rfl rfl (hr3) (i) (rfl) (hlt) ((by rw [List.getElem?_map,hri];rfl))) rfl rfl rfl ?_;rotate_left
    (repeat (first | refine' DV ?_ | refine' DA ?_ | refine' DK0 ?_ | refine' DT ?_ | refine' DS ?_))
    refine' DJ.idxM tO rfl rfl rfl rfl rfl rfl rfl rfl rfl (hs) (R) (rfl) (hRl) (hc) ?_;rotate_left
    (repeat (first | refine' DV ?_ | refine' DA ?_ | refine' DK0 ?_ | refine' DT ?_ | refine' DS ?_))
    (refine' DJ.lit tO rfl rfl rfl rfl rfl rfl rfl rfl rfl rfl rfl rfl ?_;rotate_left)
    (refine DJ.nil (fun G4 hG4 hF4=>?_);(case hS|hS2=>rfl))
    refine EVL.append tO rfl rfl rfl rfl rfl rfl rfl rfl rfl rfl rfl rfl [] ow [] (List.append_nil _).symm hown (SrcAt.ro hF4.1 oM) rfl oM ?_
    intro v' ow' hown'
    try refine RUN ?_
    refine ⟨(i+1,us++[_],v',ow'),⟨rfl,by rw [wn];rfl,trivial⟩,sB,trivial,sB,List.append_nil _,⟨hlt,by dsimp only;rw [hsn];exact (hus.mono (hG3.trans hG4)).snoc (hy.mono hG4),by dsimp only;rw [List.length_append,List.flatMap_append];exact hown'⟩,hG3.trans hG4,by dsimp only;omega⟩
   ·have hp:inR qs.length (R:Int)=false:=by unfold inR;simp;omega
    rw [hp,if_neg (by decide),List.append_nil] at hex
    rw [decide_eq_false h2]
    try refine RUN ?_
    refine ⟨(i+1,us,_,ow),⟨rfl,by rw [wn];rfl,trivial⟩,sB,trivial,sB,rfl,⟨hlt,by dsimp only;rw [hex];exact hus.mono hG3,hown⟩,hG3,by dsimp only;omega⟩
  ·have hp:inR qs.length r=false:=by unfold inR;simp;omega
   rw [hp,if_neg (by decide),List.append_nil] at hex
   apply EV.drawn 14 kR kR;intro xv yw
   (repeat (first | refine' DV ?_ | refine' DA ?_ | refine' DK0 ?_ | refine' DT ?_ | refine' DS ?_))
   refine' DJ.ofVal (ValOk.idx1 tO rfl rfl rfl rfl rfl rfl rfl rfl (hr2) (i) (rfl) (hlt) ((by rw [List.getElem?_map,hri];rfl))) rfl rfl rfl ?_;rotate_left
   (repeat (first | refine' DV ?_ | refine' DA ?_ | refine' DK0 ?_ | refine' DT ?_ | refine' DS ?_))
   rw [decide_eq_false h1]
   (repeat (first | refine' DV ?_ | refine' DA ?_ | refine' DK0 ?_ | refine' DT ?_ | refine' DS ?_))
   (refine DJ.nil (fun G3 hG3 hF3=>?_);(case hS|hS2=>rfl))
   try refine RUN ?_
   refine ⟨(i+1,us,_,ow),⟨rfl,by rw [wn];rfl,trivial⟩,sB,trivial,sB,rfl,⟨hlt,by dsimp only;rw [hex];exact hus.mono hG3,hown⟩,hG3,by dsimp only;omega⟩
 ·simp only [nN] at hlt
  obtain rfl:i=rs.length:=by omega
  rw [List.take_length] at hus
  (first | refine EVL.publishL [] ow [] ((List.append_nil _).symm) hown fun G3 hG3 hs3=>?_ | refine EV.publishL [] ow [] ((List.append_nil _).symm) hown fun G3 hG3 hs3=>?_)
  have hus3:=hus.mono hG3
  try refine RUN ?_
  show RL G3 (.slice wa us.length wc) _
  rw [hus3.1] at hs3 ⊢
  exact hus3.rl hs3
theorem refMeanG_pc {H:Hp} {v:Value} {rs:List Int} (hr:IL H v rs) (hn:rs.length≤300) {kd cl:Int} {sl sv:Value} {qs:List Rat} (hv:RL H sv qs) (hb:∀ q,q∈qs→ht q≤50) :
  PC prog 157 #[goalV kd cl sl sv,v] H fun r H'=>RQ H' r (meanL (atR qs (exL rs qs.length))):=by
 have hvals:=refValues_pc (kd:=kd) (cl:=cl) (sl:=sl) hr hn hv
 have hel:=exL_len rs qs.length
 have hlb:=fun q hq=>hb q (atR_mem (exL_mem (rs:=rs) (n:=qs.length)) q hq)
 have hll:(atR qs (exL rs qs.length)).length≤300:=by rw [atR_len];omega
 generalize atR qs (exL rs qs.length)=L at *
 obtain ⟨a,cap,rfl⟩:=SlC.val hr
 obtain ⟨va,vc,rfl⟩:=hv.val
 refine BD func157 ntmps157 ?_
 try refine RUN ?_
 refine EVL.call rfl rfl rfl rfl rfl (hvals) ?_
 intro r1 G1 hL hG1
 obtain ⟨la,lc,rfl⟩:=hL.val
 try refine RUN ?_
 by_cases h0:L.length=0
 ·obtain rfl:=List.length_eq_zero_iff.1 h0
  try refine RUN ?_
  refine EVL.call rfl rfl rfl rfl rfl (refOf_pc 0 (by decide) (by decide)) ?_
  intro r2 G2 hq hG2
  obtain ⟨xa,xl,xc,ya,yl,yc,rfl,hx1,hx2⟩:=id hq
  try refine RUN ?_
  rw [meanL_nil]
  exact hq
 ·rw [show (((L.length:Nat):Int) == 0)=false from beq_eq_false_iff_ne.2 (by omega)]
  try refine RUN ?_
  refine EVL.call rfl rfl rfl rfl rfl (refMean_pc hL oM h0 (fun q hq=>Nat.le_trans (hlb q hq) oM)) ?_
  intro r2 G2 hq hG2
  obtain ⟨xa,xl,xc,ya,yl,yc,rfl,hx1,hx2⟩:=id hq
  try refine RUN ?_
  exact hq
theorem is_pc {H:Hp} (q:Rat) (hq:rq q) (a b:Int) (h1:-9223372036854775808≤a) (h2:a<9223372036854775808) (h3:-9223372036854775808≤b) (h4:b<9223372036854775808) (h0:b≠0) (he:q=Rat.divInt a b):PC prog 37 #[fracV q,.int .i64 a,.int .i64 b] H fun r _=>r=.bool true:=by
 have hov:=fun G:Hp=>refOver_pc (H:=G) a b h1 h2 h3 h4 h0
 rw [← he] at hov
 refine BD func37 ntmps37 ?_
 try refine RUN ?_
 apply EV.drawn 4 kR kR;intro xv yw
 (repeat (first | refine' DV ?_ | refine' DA ?_ | refine' DK0 ?_ | refine' DT ?_ | refine' DS ?_))
 refine' DJ.call rfl rfl rfl rfl rfl (cO func67) (fun G hG hd=>hov G) (fun _ _ _ h k=>RQ.mono h k) ?_;rotate_left
 (refine DJ.nil (fun G1 hG1 hF1=>?_);(case hS|hS2=>rfl))
 have hs:=same_self hF1.1 hq
 repeat (first | refine RUN ?_ | refine CV (hs) ?_ | refine CE (hs) ?_)
 rfl
theorem ordR_le {a b:Rat} (h:a≤b):ordR a b≤0:=by
 unfold ordR
 split
 ·omega
 ·split
  ·rename_i k;exact absurd k (Rat.not_lt.2 h)
  ·omega
theorem rowQ_ht {l:List Int} (n:Nat):∀ q,q∈rowQ l n→ht q≤5:=fun q hq=>by
 obtain ⟨i,hi,rfl⟩:=List.mem_map.1 hq
 split
 ·exact ht_rNum _
 ·rw [ht_zero];omega
theorem rowsQ_ht {l:List Int} {n w:Nat}:∀ x,x∈rowsQ l n w→x.length=w∧∀ q,q∈x→ht q≤5:=fun x hx=>by
 obtain ⟨i,_,rfl⟩:=List.mem_map.1 hx
 exact ⟨rowQ_len _ _,rowQ_ht w⟩
theorem colK_ht {X:List (List Rat)} (h:∀ x,x∈X→∀ q,q∈x→ht q≤5) (c r:Int):ht (colK X c r)≤5:=by
 unfold colK
 rw [List.getD_eq_getElem?_getD,List.getD_eq_getElem?_getD]
 cases e:X[r.toNat]? with
 | none=>simp;rw [ht_zero];omega
 | some x =>
  rw [Option.getD_some]
  cases e2:x[c.toNat]? with
  | none=>rw [Option.getD_none,ht_zero];omega
  | some q=>exact h x (List.mem_of_getElem? e) q (List.mem_of_getElem? e2)
theorem midC_ht {X:List (List Rat)} (h:∀ x,x∈X→∀ q,q∈x→ht q≤5) (c:Int) (m:List Int) (j:Nat):ht (midC (colK X c) m j)≤100:=by
 have h1:=colK_ht h c (m.getD j 0)
 have h2:=colK_ht h c (m.getD (j+1) 0)
 have h3:=ht_add (colK X c (m.getD j 0)) (colK X c (m.getD (j+1) 0))
 have h4:ht ((2:Int):Rat)≤10:=by
  have:=ht_int 2
  have h2:bl (2:Int).natAbs≤5:=bl_le (by decide)
  omega
 have h5:=ht_div (colK X c (m.getD j 0)+colK X c (m.getD (j+1) 0)) ((2:Int):Rat)
 rw [show ((2:Int):Rat)=2 from rfl] at h4 h5
 unfold midC
 omega
theorem dot_dev (L:List Rat):sumQ (dotL L L)=sumQ (devL 0 L):=by
 congr 1
 unfold dotL devL
 induction L with
 | nil=>rfl
 | cons x L ih =>
  rw [List.zipWith_cons_cons,List.map_cons,ih]
  congr 1
  grind
theorem costV_form (L:List Rat):sumQ (dotL L L)-sumQ L*sumQ L / ((L.length:Int):Rat)=sumQ (devL (meanL L) L):=by
 have:=devV L
 rw [dot_dev]
 grind
set_option maxHeartbeats 4000000 in
theorem refCostV_pc {H:Hp} {v:Value} {rs:List Int} (hr:IL H v rs) (hn:rs.length≤300) {cl:Int} {sl sv:Value} {qs:List Rat} (hv:RL H sv qs) (hb:∀ q,q∈qs→ht q≤5) :
  PC prog 155 #[goalV 2 cl sl sv,v] H fun r H'=>RQ H' r (costVf qs (exL rs qs.length)):=by
 have hvals:=refValues_pc (kd:=2) (cl:=cl) (sl:=sl) hr hn hv
 have hel:=exL_len rs qs.length
 have hlb:=fun q hq=>hb q (atR_mem (exL_mem (rs:=rs) (n:=qs.length)) q hq)
 have hll:(atR qs (exL rs qs.length)).length≤300:=by rw [atR_len];omega
 show PC prog 155 #[goalV 2 cl sl sv,v] H fun r H'=>RQ H' r (sumQ (devL (meanL (atR qs (exL rs qs.length))) (atR qs (exL rs qs.length))))
 generalize atR qs (exL rs qs.length)=L at *
 have hform:=costV_form L
 have hS:=ht_sum 5 L hlb
 have hD:=ht_sum 10 (dotL L L) (dotL_ht hlb hlb)
 have hDl:(dotL L L).length≤300:=by unfold dotL;rw [List.length_zipWith];omega
 have hM:=ht_mul (sumQ L) (sumQ L)
 have hN:=ht_int (L.length:Int)
 have hN2:bl (L.length:Int).natAbs≤20:=bl_le oM
 have hV:=ht_div (sumQ L*sumQ L) ((L.length:Int):Rat)
 have r1:rq (sumQ L):=by unfold rq;omega
 have r2:rq (sumQ L*sumQ L):=by unfold rq;omega
 have r3:rq ((L.length:Int):Rat):=by unfold rq;omega
 have r4:rq (sumQ L*sumQ L / ((L.length:Int):Rat)):=by unfold rq;omega
 have r5:rq (sumQ (dotL L L)):=by unfold rq;omega
 rw [← hform]
 obtain ⟨a,cap,rfl⟩:=SlC.val hr
 obtain ⟨va,vc,rfl⟩:=hv.val
 refine BD func155 ntmps155 ?_
 try refine RUN ?_
 refine EVL.call rfl rfl rfl rfl rfl (hvals) ?_
 intro r1' G1 hL hG1
 obtain ⟨la,lc,rfl⟩:=hL.val
 try refine RUN ?_
 by_cases h0:L.length=0
 ·obtain rfl:=List.length_eq_zero_iff.1 h0
  try refine RUN ?_
  refine EVL.call rfl rfl rfl rfl rfl (refOf_pc 0 (by decide) (by decide)) ?_
  intro r2 G2 hq hG2
  obtain ⟨xa,xl,xc,ya,yl,yc,rfl,hx1,hx2⟩:=id hq
  try refine RUN ?_
  have e:sumQ (dotL [] [])-sumQ []*sumQ [] / ((([]:List Rat).length:Int):Rat)=((0:Int):Rat):=by decide +kernel
  rw [e]
  exact hq
 ·have hnum:(((L.length:Nat):Int):Rat).num≠0:=by rw [Rat.num_intCast];omega
  rw [show (((L.length:Nat):Int) == 0)=false from beq_eq_false_iff_ne.2 (by omega)]
  try refine RUN ?_
  refine EVL.call rfl rfl rfl rfl rfl (refTotal_pc hL oM (fun q hq=>Nat.le_trans (hlb q hq) oM)) ?_
  intro rt G2 hT hG2
  obtain ⟨xa,xl,xc,ya,yl,yc,rfl,hx1,hx2⟩:=id hT
  have hL2:=hL.mono hG2
  try refine RUN ?_
  apply EV.drawn 11 kR kR;intro xv yw
  (repeat (first | refine' DV ?_ | refine' DA ?_ | refine' DK0 ?_ | refine' DT ?_ | refine' DS ?_))
  refine' DJ.call rfl rfl rfl rfl rfl (cO func186) (fun G hG hd=>refDot_pc (hL2.mono hG) (hL2.mono hG) rfl oM (fun q hq=>Nat.le_trans (hlb q hq) oM) (fun q hq=>Nat.le_trans (hlb q hq) oM)) (fun _ _ _ h k=>RQ.mono h k) ?_;rotate_left
  (repeat (first | refine' DV ?_ | refine' DA ?_ | refine' DK0 ?_ | refine' DT ?_ | refine' DS ?_))
  refine' DJ.call rfl rfl rfl rfl rfl (cO func61) (fun G hG hd=>refMulQ_pc (hT.mono hG) (hT.mono hG) r1 r1) (fun _ _ _ h k=>RQ.mono h k) ?_;rotate_left
  (repeat (first | refine' DV ?_ | refine' DA ?_ | refine' DK0 ?_ | refine' DT ?_ | refine' DS ?_))
  refine' DJ.call rfl rfl rfl rfl rfl (cO func43) (fun G hG hd=>refOf_pc (L.length:Int) oM oM) (fun _ _ _ h k=>RQ.mono h k) ?_;rotate_left
  refine' DJ.call rfl rfl rfl rfl rfl (cO func63) (fun G hG hd=>refDivQ_pc (hd.tail.head kR) (hd.head kR) r2 r3 hnum) (fun _ _ _ h k=>RQ.mono h k) ?_;rotate_left
  refine' DJ.call rfl rfl rfl rfl rfl (cO func59) (fun G hG hd=>refSub_pc (hd.tail.tail.tail.head kR) (hd.head kR) r5 r4) (fun _ _ _ h k=>RQ.mono h k) ?_;rotate_left
  (refine DJ.nil (fun G3 hG3 hF3=>?_);(case hS|hS2=>rfl))
  have hfin:=hF3.1
  obtain ⟨xa,xl,xc,ya,yl,yc,e,hx1,hx2⟩:=id hfin
  rw [e] at hfin ⊢
  try refine RUN ?_
  exact hfin
theorem sqL_sumC (C:Nat):∀ l:List Int,(∀ z,z∈l→0≤z∧z<(C:Int))→sqL l=((List.range C).map fun (k:Nat)=>l.count (k:Int)*l.count (k:Int)).sum∧l.length=((List.range C).map fun (k:Nat)=>l.count (k:Int)).sum
 | [],_=>by
  constructor
  ·show 0=_
   induction C with
   | zero=>rfl
   | succ n ih=>rw [List.range_succ,List.map_append,List.sum_append,← ih (by simp)];simp
  ·show 0=_
   induction C with
   | zero=>rfl
   | succ n ih=>rw [List.range_succ,List.map_append,List.sum_append,← ih (by simp)];simp
 | x::l,h=>by
  have hx:=h x (List.mem_cons_self ..)
  obtain ⟨j,rfl⟩:=Int.eq_ofNat_of_zero_le hx.1
  obtain ⟨ih1,ih2⟩:=sqL_sumC C l (fun z hz=>h z (List.mem_cons_of_mem _ hz))
  constructor
  ·have hs:=sum_one (fun k=>l.count (k:Int)*l.count (k:Int)) (fun k=>2*l.count (k:Int)+1) j C
   rw [if_pos (by omega)] at hs
   rw [sqL_cons,ih1,Nat.add_assoc,← hs]
   congr 1
   refine List.map_congr_left fun k _=>?_
   rw [List.count_cons]
   by_cases e:k=j
   ·subst e;rw [if_pos rfl];simp;grind
   ·have e2:¬ ((j:Int) == (k:Int))=true:=by simp;omega
    rw [if_neg e,if_neg e2];simp
  ·have hs:=sum_one (fun k=>l.count (k:Int)) (fun k=>1) j C
   rw [if_pos (by omega)] at hs
   rw [List.length_cons,ih2,← hs]
   congr 1
   refine List.map_congr_left fun k _=>?_
   rw [List.count_cons]
   by_cases e:k=j
   ·subst e;rw [if_pos rfl];simp
   ·have e2:¬ ((j:Int) == (k:Int))=true:=by simp;omega
    rw [if_neg e,if_neg e2]
def nS (l:List Int) (i:Nat):Nat:=((List.range i).map fun (k:Nat)=>l.count (k:Int)).sum
def sS (l:List Int) (i:Nat):Nat:=((List.range i).map fun (k:Nat)=>l.count (k:Int)*l.count (k:Int)).sum
theorem nS_succ (l:List Int) (i:Nat):nS l (i+1)=nS l i+l.count (i:Int):=by unfold nS;rw [List.range_succ,List.map_append,List.sum_append];simp
theorem sS_succ (l:List Int) (i:Nat):sS l (i+1)=sS l i+l.count (i:Int)*l.count (i:Int):=by unfold sS;rw [List.range_succ,List.map_append,List.sum_append];simp
theorem nS_le (l:List Int) (B:Nat) (h:∀ z:Int,l.count z≤B):∀ i,nS l i≤i*B∧sS l i≤i*(B*B)
 | 0=>⟨Nat.le_of_eq (by simp [nS]),Nat.le_of_eq (by simp [sS])⟩
 | i+1=>by
  obtain ⟨h1,h2⟩:=nS_le l B h i
  rw [nS_succ,sS_succ,Nat.succ_mul,Nat.succ_mul]
  exact ⟨Nat.add_le_add h1 (h _),Nat.add_le_add h2 (Nat.mul_le_mul (h _) (h _))⟩
set_option maxHeartbeats 4000000 in
theorem refCostC_pc {H:Hp} {v:Value} {rs:List Int} (hr:IL H v rs) (hn:rs.length≤300) {sv:Value} {la:Option Addr} {lc:Nat} {ls:List Int} (hv:IL H (.slice la ls.length lc) ls) {C:Nat} (hc:C≤12) (hc1:1≤C) (hls:∀ z,z∈ls→0≤z∧z<(C:Int)) :
  PC prog 155 #[goalV 1 C (.slice la ls.length lc) sv,v] H fun r H'=>RQ H' r (costLf ls (exL rs ls.length)):=by
 have hcnt:=refCounts_pc (kd:=1) (sv:=sv) hr hn hv hc hls
 have hel:=exL_len rs ls.length
 have hll:(atI ls (exL rs ls.length)).length≤300:=by rw [atI_len];omega
 have hlb:∀ z,z∈atI ls (exL rs ls.length)→0≤z∧z<(C:Int):=fun z hz=>by
  unfold atI at hz
  obtain ⟨r,_,rfl⟩:=List.mem_map.1 hz
  rw [List.getD_eq_getElem?_getD]
  cases e:ls[r.toNat]? with
  | none=>exact ⟨by decide,by simp;omega⟩
  | some x=>exact hls x (List.mem_of_getElem? e)
 show PC prog 155 #[goalV 1 C (.slice la ls.length lc) sv,v] H fun r H'=>RQ H' r (costL (atI ls (exL rs ls.length)))
 generalize atI ls (exL rs ls.length)=L at *
 obtain ⟨e1,e2⟩:=sqL_sumC C L hlb
 have hcl:=cntL_len C L
 have hb:=nS_le L 300 (fun z=>Nat.le_trans List.count_le_length hll)
 have hcount:∀ z:Int,L.count z≤300:=fun z=>Nat.le_trans List.count_le_length hll
 have e1':sqL L=sS L C:=e1
 have e2':L.length=nS L C:=e2
 obtain ⟨a,cap,rfl⟩:=SlC.val hr
 refine BD func155 ntmps155 ?_
 try refine RUN ?_
 refine EVL.call rfl rfl rfl rfl rfl (hcnt) ?_
 intro r1 G1 hL hG1
 obtain ⟨ca,cc,rfl⟩:=SlC.val hL
 have hLC:SlC G1 (.slice ca C cc) C 1 ((cntL C L).map iv):=by
  have hL0:SlC G1 (.slice ca (cntL C L).length cc) (cntL C L).length 1 ((cntL C L).map iv):=hL
  rw [hcl] at hL0
  exact hL0
 rw [hcl]
 try refine RUN ?_
 refine EV.loopK (ι:=Nat) [4,7] [4] (fun i=>[(8,.v (.int .i64 (nS L i:Nat))),(9,.v (.int .i64 (sS L i:Nat))),(10,.v (.int .i64 (i:Int)))]) (fun _=>[]) (fun _=>[]) (fun i _=>i≤C) (fun i=>C-i) (0) rfl rfl ⟨rfl,rfl,rfl,trivial⟩ trivial rfl (fun _=>rfl) (Nat.zero_le _) ?_
 rintro i G2 hG2 hi
 try refine RUN ?_
 refine EV.cond rfl (fun hlt=>?_) (fun hlt=>?_)
 ·simp only [nN] at hlt
  have hL2:=hLC.mono hG2
  have hget:=cntL_at L hlt
  have hil:i<C:=hlt
  have b1:=hb i
  have b2:=hcount (i:Int)
  have b3:i*300≤12*300:=Nat.mul_le_mul oM (Nat.le_refl _)
  have b4:i*(300*300)≤12*(300*300):=Nat.mul_le_mul oM (Nat.le_refl _)
  have b5:L.count (i:Int)*L.count (i:Int)≤300*300:=Nat.mul_le_mul b2 b2
  have s1:=nS_succ L i
  have s2:=sS_succ L i
  have w1:IntKind.i64.wrap ((nS L i:Int)+(L.count (i:Int):Int))=(nS L (i+1):Int):=by rw [s1,IntKind.wrap_i64];omega
  have w2:IntKind.i64.wrap ((L.count (i:Int):Int)*(L.count (i:Int):Int))=((L.count (i:Int)*L.count (i:Int):Nat):Int):=by
   rw [← Int.natCast_mul];generalize L.count (i:Int)*L.count (i:Int)=z at *;rw [IntKind.wrap_i64];omega
  have w3:IntKind.i64.wrap ((sS L i:Int)+((L.count (i:Int)*L.count (i:Int):Nat):Int))=(sS L (i+1):Int):=by rw [s2];generalize L.count (i:Int)*L.count (i:Int)=z at *;rw [IntKind.wrap_i64];omega
  have wn:IntKind.i64.wrap ((i:Int)+1)=((i+1:Nat):Int):=wi_inc i oM
  try refine RUN ?_
  refine EVL.idxR tO rfl rfl rfl rfl rfl rfl rfl rfl rfl rfl (hL2) (i) (rfl) (hil) ((by rw [List.getElem?_map,hget];rfl)) ?_
  try refine RUN ?_
  apply EV.drawn 11 kR kR;intro xv yw
  (repeat (first | refine' DV ?_ | refine' DA ?_ | refine' DK0 ?_ | refine' DT ?_ | refine' DS ?_))
  refine' DJ.ofVal (ValOk.idx1 tO rfl rfl rfl rfl rfl rfl rfl rfl (hL2) (i) (rfl) (hil) ((by rw [List.getElem?_map,hget];rfl))) rfl rfl rfl ?_;rotate_left
  (repeat (first | refine' DV ?_ | refine' DA ?_ | refine' DK0 ?_ | refine' DT ?_ | refine' DS ?_))
  refine' DJ.ofVal (ValOk.idx1 tO rfl rfl rfl rfl rfl rfl rfl rfl (hL2) (i) (rfl) (hil) ((by rw [List.getElem?_map,hget];rfl))) rfl rfl rfl ?_;rotate_left
  (repeat (first | refine' DV ?_ | refine' DA ?_ | refine' DK0 ?_ | refine' DT ?_ | refine' DS ?_))
  (refine DJ.nil (fun G3 hG3 hF3=>?_);(case hS|hS2=>rfl))
  try refine RUN ?_
  refine ⟨i+1,⟨by rw [← w1];rfl,by rw [← w3,← w2];rfl,by rw [wn];rfl,trivial⟩,sB,trivial,sB,rfl,hlt,hG3,by omega⟩
 ·simp only [nN] at hlt
  obtain rfl:i=C:=by omega
  rw [← e1',← e2']
  have hsq:=sqL_le L
  have hsq2:L.length*L.length≤300*300:=Nat.mul_le_mul hll hll
  try refine RUN ?_
  by_cases h0:L.length=0
  ·obtain rfl:=List.length_eq_zero_iff.1 h0
   try refine RUN ?_
   refine EVL.call rfl rfl rfl rfl rfl (refOf_pc 0 (by decide) (by decide)) ?_
   intro r2 G3 hq hG3
   obtain ⟨xa,xl,xc,ya,yl,yc,rfl,hx1,hx2⟩:=id hq
   try refine RUN ?_
   rw [show costL []=((0:Int):Rat) by decide +kernel]
   exact hq
  ·rw [show (((L.length:Nat):Int) == 0)=false from beq_eq_false_iff_ne.2 (by omega)]
   have hov:=fun G:Hp=>refOver_pc (H:=G) (sqL L:Int) (L.length:Int) oM oM oM oM oM
   have hform:((L.length:Int):Rat)-Rat.divInt (sqL L:Int) (L.length:Int)=costL L:=by unfold costL;rw [Rat.divInt_eq_div]
   have r1:rq ((L.length:Int):Rat):=by
    have:=ht_int (L.length:Int)
    have h2:bl (L.length:Int).natAbs≤20:=bl_le oM
    unfold rq;omega
   have r2:rq (Rat.divInt (sqL L:Int) (L.length:Int)):=by
    rw [Rat.divInt_eq_div]
    have h1:=ht_int (L.length:Int)
    have h2:bl (L.length:Int).natAbs≤20:=bl_le oM
    have h3:=ht_int (sqL L:Int)
    have h4:bl (sqL L:Int).natAbs≤20:=bl_le oM
    have h5:=ht_div ((sqL L:Int):Rat) ((L.length:Int):Rat)
    unfold rq;omega
   try refine RUN ?_
   refine EVL.call rfl rfl rfl rfl rfl (refOf_pc (L.length:Int) oM oM) ?_
   intro q1 G3 hq1 hG3
   try refine RUN ?_
   refine EVL.call rfl rfl rfl rfl rfl (hov _) ?_
   intro q2 G4 hq2 hG4
   try refine RUN ?_
   refine EVL.call rfl rfl rfl rfl rfl (refSub_pc (hq1.mono hG4) hq2 r1 r2) ?_
   intro q3 G5 hq3 hG5
   obtain ⟨xa,xl,xc,ya,yl,yc,rfl,hx1,hx2⟩:=id hq3
   try refine RUN ?_
   rw [← hform]
   exact hq3
theorem there_pc {H:Hp} {vx:Value} {X:List (List Rat)} (hX:RLL H vx X) (r col:Int):PC prog 161 #[vx,.int .i64 r,.int .i64 col] H fun u _=>u=.bool (inR X.length r && hasC X col r):=by
 obtain ⟨xa,xc,rfl⟩:=hX.val
 obtain ⟨vs,hvs,hs⟩:=hX
 refine BD func161 ntmps161 ?_
 try refine RUN ?_
 by_cases h1:r≥0
 ·obtain ⟨R,rfl⟩:=Int.eq_ofNat_of_zero_le h1
  rw [decide_eq_true h1]
  try refine RUN ?_
  by_cases h2:(R:Int)<(X.length:Int)
  ·rw [decide_eq_true h2]
   have hi:inR X.length (R:Int)=true:=by unfold inR;simp;omega
   obtain ⟨x,hx⟩:∃ x,X[R]?=some x:=⟨_,List.getElem?_eq_getElem oM⟩
   obtain ⟨a1,e1,hu1,_⟩:=hvs.at hx
   have hRl:R<X.length:=by omega
   have hhas:hasC X col (R:Int)=(decide (0≤col) && decide (col<(x.length:Int))):=by
    unfold hasC;rw [Int.toNat_natCast,List.getD_eq_getElem?_getD,hx];rfl
   rw [hi,hhas]
   try refine RUN ?_
   by_cases h3:col≥0
   ·rw [decide_eq_true h3]
    try refine RUN ?_
    refine EVL.idxR tO rfl rfl rfl rfl rfl rfl rfl rfl rfl rfl (hs) (R) (rfl) (hRl) (hu1) ?_
    try refine RUN ?_
    rfl
   ·rw [decide_eq_false h3]
    try refine RUN ?_
    rfl
  ·rw [decide_eq_false h2]
   have hi:inR X.length (R:Int)=false:=by unfold inR;simp;omega
   rw [hi]
   try refine RUN ?_
   rfl
 ·rw [decide_eq_false h1]
  have hi:inR X.length r=false:=by unfold inR;simp;omega
  rw [hi]
  try refine RUN ?_
  rfl
theorem low_snoc {X:List (List Rat)} {col:Int} {t:Rat} {rs:List Int} {i:Nat} {r:Int} (hri:rs[i]?=some r) (p:Int→Bool) :
  (exL (rs.take (i+1)) X.length).filter p=(exL (rs.take i) X.length).filter p++if inR X.length r && p r then [r] else []:=by
 rw [ex_take hri,List.filter_append]
 cases inR X.length r <;> cases hp:p r <;> simp [hp]
set_option maxHeartbeats 8000000 in
theorem refSides_pc {H:Hp} {vx vr vt:Value} {X:List (List Rat)} {rs:List Int} {col:Int} {t:Rat} (hX:RLL H vx X) (hr:IL H vr rs) (hn:rs.length≤100000) (hq:∀ x,x∈X→∀ q,q∈x→rq q) (hvt:RQ H vt t) (ht:rq t) :
  PC prog 125 #[vx,vr,.int .i64 col,vt] H fun r H'=>∃ u w,r=.tuple #[u,w]∧IL H' u (lowL X col t (exL rs X.length))∧IL H' w (highL X col t (exL rs X.length)):=by
 obtain ⟨a,cap,rfl⟩:=SlC.val hr
 obtain ⟨xa,xc,rfl⟩:=hX.val
 obtain ⟨ta,tl,tc,tb,tm,td,rfl,ht1,ht2⟩:=id hvt
 refine BD func125 ntmps125 ?_
 try refine RUN ?_
 refine EV.loopK (ι:=Nat × Value × Value × Ows × Ows) [0,1,2,7] [7] (fun q=>[(10,.v q.2.1),(11,.v q.2.2.1),(12,.v (.int .i64 (q.1:Int)))]) (fun _=>[]) (fun q=>q.2.2.2.1++q.2.2.2.2) (fun q _=>q.1≤rs.length∧OwnL 3 1 q.2.1 (lowL X col t (exL (rs.take q.1) X.length)).length ((lowL X col t (exL (rs.take q.1) X.length)).map iv) q.2.2.2.1∧OwnL 3 1 q.2.2.1 (highL X col t (exL (rs.take q.1) X.length)).length ((highL X col t (exL (rs.take q.1) X.length)).map iv) q.2.2.2.2) (fun q=>rs.length-q.1) ((0,.slice none 0 0,.slice none 0 0,[],[])) rfl rfl ⟨rfl,rfl,rfl,trivial⟩ trivial rfl (fun _=>rfl) (⟨Nat.zero_le _,OwnL.nil _ _,OwnL.nil _ _⟩) ?_
 rintro ⟨i,w1,w2,ow1,ow2⟩ G1 hG1 ⟨hi,hown1,hown2⟩
 dsimp only at hi hown1 hown2
 obtain ⟨wa1,wc1,rfl⟩:=hown1.val
 obtain ⟨wa2,wc2,rfl⟩:=hown2.val
 try refine RUN ?_
 refine EV.cond rfl (fun hlt=>?_) (fun hlt=>?_)
 ·simp only [nN] at hlt
  obtain ⟨r,hri⟩:∃ r,rs[i]?=some r:=⟨_,List.getElem?_eq_getElem hlt⟩
  have hlo:=low_snoc (X:=X) (col:=col) (t:=t) hri fun r=>hasC X col r && decide (colK X col r≤t)
  have hhi:=low_snoc (X:=X) (col:=col) (t:=t) hri fun r=>hasC X col r && !decide (colK X col r≤t)
  have hel:=exL_len (rs.take i) X.length
  rw [List.length_take] at hel
  have hl1:(lowL X col t (exL (rs.take i) X.length)).length≤i:=Nat.le_trans (List.length_filter_le _ _) oM
  have hl2:(highL X col t (exL (rs.take i) X.length)).length≤i:=Nat.le_trans (List.length_filter_le _ _) oM
  have wn:IntKind.i64.wrap ((i:Int)+1)=((i+1:Nat):Int):=wi_inc i oM
  have hr1:=hr.mono hG1
  have hX1:=hX.mono hG1
  have hth:=there_pc hX1 r col
  try refine RUN ?_
  refine EVL.idxR tO rfl rfl rfl rfl rfl rfl rfl rfl rfl rfl (hr1) (i) (rfl) (hlt) ((by rw [List.getElem?_map,hri];rfl)) ?_
  repeat (first | refine RUN ?_ | refine CV (hth) ?_ | refine CE (hth) ?_)
  cases hb:inR X.length r && hasC X col r with
  | false =>
   have e1:(inR X.length r && (hasC X col r && decide (colK X col r≤t)))=false:=by rw [← Bool.and_assoc,hb];rfl
   have e2:(inR X.length r && (hasC X col r && !decide (colK X col r≤t)))=false:=by rw [← Bool.and_assoc,hb];rfl
   rw [e1,if_neg (by decide),List.append_nil] at hlo
   rw [e2,if_neg (by decide),List.append_nil] at hhi
   try refine RUN ?_
   refine ⟨(i+1,_,_,ow1,ow2),⟨rfl,rfl,by rw [wn];rfl,trivial⟩,sB,trivial,sB,rfl,⟨hlt,by unfold lowL;rw [hlo];exact hown1,by unfold highL;rw [hhi];exact hown2⟩,Hp.Le.refl _,by dsimp only;omega⟩
  | true =>
   have hb2:inR X.length r=true∧hasC X col r=true:=by simpa using hb
   have hr0:0≤r∧r<(X.length:Int):=by have:=hb2.1;unfold inR at this;simpa using this
   obtain ⟨R,C,x,q,rfl,rfl,hx,hqx⟩:=hasC_at hr0.1 hr0.2 hb2.2
   have hk:=colK_at (X:=X) rfl rfl hx hqx
   rw [hb2.1,hb2.2,Bool.true_and,Bool.true_and,hk] at hlo hhi
   have hRl:R<X.length:=by omega
   have hCl:=(List.getElem?_eq_some_iff.1 hqx).1
   obtain ⟨vs,hvs,hs⟩:=hX1
   obtain ⟨a2,c2,hu,hRL⟩:=hvs.at hx
   obtain ⟨us,y,hs2,hc2,hy⟩:=hRL.at hqx
   obtain ⟨xa',xl',xc',ya',yl',yc',rfl,hx1,hx2⟩:=id hy
   have hqq:=hq x (List.mem_of_getElem? hx) q (List.mem_of_getElem? hqx)
   have hvt1:=hvt.mono hG1
   try refine RUN ?_
   apply EV.drawn 11 kR kR;intro xv yw
   (repeat (first | refine' DV ?_ | refine' DA ?_ | refine' DK0 ?_ | refine' DT ?_ | refine' DS ?_))
   refine' DJ.ofVal (ValOk.idx1 tO rfl rfl rfl rfl rfl rfl rfl rfl (hr1) (i) (rfl) (hlt) ((by rw [List.getElem?_map,hri];rfl))) rfl rfl rfl ?_;rotate_left
   (repeat (first | refine' DV ?_ | refine' DA ?_ | refine' DK0 ?_ | refine' DT ?_ | refine' DS ?_))
   refine' DJ.ofVal (ValOk.idx1 tO rfl rfl rfl rfl rfl rfl rfl rfl (hs) (R) (rfl) (hRl) (hu)) rfl rfl rfl ?_;rotate_left
   (repeat (first | refine' DV ?_ | refine' DA ?_ | refine' DK0 ?_ | refine' DT ?_ | refine' DS ?_))
   refine' DJ.idxM tO rfl rfl rfl rfl rfl rfl rfl rfl rfl (hs2) (C) (rfl) (hCl) (hc2) ?_;rotate_left
   (repeat (first | refine' DV ?_ | refine' DA ?_ | refine' DK0 ?_ | refine' DT ?_ | refine' DS ?_))
   (refine DJ.nil (fun G2 hG2 hF2=>?_);(case hS|hS2=>rfl))
   refine EVL.call rfl rfl rfl rfl rfl (refCmp_pc (hy.mono hG2) (hvt1.mono hG2) hqq ht) ?_
   rintro rc G3 rfl hG3
   have hr3:=hr1.mono (hG2.trans hG3)
   try refine RUN ?_
   by_cases hle:q≤t
   ·have ho:ordR q t≤0:=ordQ_le hle
    rw [decide_eq_true hle,if_pos rfl] at hlo
    rw [decide_eq_true hle,if_neg (by decide),List.append_nil] at hhi
    rw [decide_eq_true ho]
    try refine RUN ?_
    refine EVL.idxR tO rfl rfl rfl rfl rfl rfl rfl rfl rfl rfl (hr3) (i) (rfl) (hlt) ((by rw [List.getElem?_map,hri];rfl)) ?_
    try refine RUN ?_
    refine EVL.app1 tO rfl rfl rfl rfl rfl rfl rfl rfl rfl rfl rfl rfl rfl rfl rfl rfl rfl rfl rfl (fun _=>rfl) (ow1) (ow2) (rfl) (hown1) oM fun _=>?_
    intro v' ow' hown'
    try refine RUN ?_
    refine ⟨(i+1,v',_,ow',ow2),⟨rfl,rfl,by rw [wn];rfl,trivial⟩,sB,trivial,sB,rfl,⟨hlt,by unfold lowL;rw [hlo];exact hown'.il,by unfold highL;rw [hhi];exact hown2⟩,hG2.trans hG3,by dsimp only;omega⟩
   ·have ho:¬ ordR q t≤0:=by
     have:=Rat.not_le.1 hle
     unfold ordR
     rw [if_neg (fun k=>absurd (Rat.le_of_lt k) (Rat.not_le.2 this)),if_pos this];omega
    rw [decide_eq_false hle,if_neg (by decide),List.append_nil] at hlo
    rw [decide_eq_false hle,Bool.not_false,if_pos rfl] at hhi
    rw [decide_eq_false ho]
    try refine RUN ?_
    refine EVL.idxR tO rfl rfl rfl rfl rfl rfl rfl rfl rfl rfl (hr3) (i) (rfl) (hlt) ((by rw [List.getElem?_map,hri];rfl)) ?_
    try refine RUN ?_
    refine EVL.swapOw ow1 ow2 rfl ?_
    refine EVL.app1 tO rfl rfl rfl rfl rfl rfl rfl rfl rfl rfl rfl rfl rfl rfl rfl rfl rfl rfl rfl (fun _=>rfl) (ow2) (ow1) (rfl) (hown2) oM fun _=>?_
    intro v' ow' hown'
    refine EVL.swapOw ow' ow1 rfl ?_
    try refine RUN ?_
    refine ⟨(i+1,_,v',ow1,ow'),⟨rfl,rfl,by rw [wn];rfl,trivial⟩,sB,trivial,sB,rfl,⟨hlt,by unfold lowL;rw [hlo];exact hown1,by unfold highL;rw [hhi];exact hown'.il⟩,hG2.trans hG3,by dsimp only;omega⟩
 ·simp only [nN] at hlt
  obtain rfl:i=rs.length:=by omega
  rw [List.take_length] at hown1 hown2 ⊢
  (first | refine EVL.publishL [] ow1 ow2 (rfl) hown1 fun G2 hG2 hs2=>?_ | refine EV.publishL [] ow1 ow2 (rfl) hown1 fun G2 hG2 hs2=>?_)
  (first | refine EVL.publishL [] ow2 [] ((List.append_nil _).symm) hown2 fun G3 hG3 hs3=>?_ | refine EV.publishL [] ow2 [] ((List.append_nil _).symm) hown2 fun G3 hG3 hs3=>?_)
  try refine RUN ?_
  exact ⟨_,_,rfl,hs2.mono hG3,hs3⟩
theorem fill_all (size:Nat):∀ (vs:List Value) (k:Nat) (pre zs:List Value),(∀ v,v∈vs→(vlist v).length=size)→pre.length=k*size→zs.length=vs.length*size →
  Instr.fill (fun i=>some (i*size,size)) (pre++zs).toArray ((List.range' k vs.length).zip vs)=some (pre++vs.flatMap vlist).toArray
 | [],k,pre,zs,_,_,hz=>by
  obtain rfl:zs=[]:=List.eq_nil_of_length_eq_zero (by simpa using hz)
  rfl
 | v::vs,k,pre,zs,hv,hp,hz=>by
  have hlen:=hv v (List.mem_cons_self ..)
  rw [List.length_cons,Nat.succ_mul] at hz
  rw [List.length_cons,List.range'_succ,List.zip_cons_cons]
  unfold Instr.fill
  simp only [vlist_cells]
  rw [if_neg (by simp [hlen];omega)]
  have:=fold_set (vlist v) (pre++zs) (k*size) 0 (by rw [List.length_append,hlen];omega)
  rw [Nat.add_zero] at this
  have e:((vlist v).toArray.zipIdx.foldl (fun (cs:Array Value) (x:Value × Nat)=>match x with | (c,j)=>cs.setIfInBounds (k*size+j) c) (pre++zs).toArray)=((vlist v).zipIdx.foldl (fun (c:Array Value) (p:Value × Nat)=>c.setIfInBounds (k*size+p.2) p.1) (pre++zs).toArray):=by
   simp
  rw [e,this,List.take_left' hp,hlen,← hp,← List.drop_drop,List.drop_left,List.flatMap_cons,← List.append_assoc]
  have ih:=fill_all size vs (k+1) (pre++vlist v) (zs.drop size) (fun u hu=>hv u (List.mem_cons_of_mem _ hu)) (by rw [List.length_append,hp,hlen,Nat.succ_mul]) (by rw [List.length_drop];omega)
  exact ih
def ixB:List (Nat × Operand)→Nat→Nat→Bool
 | [],_,0=>true
 | p::ps,k,n+1=>match Nat.beq p.1 k with
  | true=>ixB ps (k+1) n
  | false=>false
 | _,_,_=>false
theorem ixB_spec:∀ (ps:List (Nat × Operand)) (k n:Nat),ixB ps k n=true→ps.map (·.1)=List.range' k n
 | [],k,0,_=>rfl
 | p::ps,k,n+1,h=>by
  unfold ixB at h
  split at h
  ·rename_i e
   rw [List.map_cons,List.range'_succ,ixB_spec ps (k+1) n h,Nat.eq_of_beq_eq_true e]
  ·cases h
 | [],k,n+1,h=>by cases h
 | p::ps,k,0,h=>by cases h
section
variable {P:Program} {n:Nat} {ops:Array Oper} {o:Oper} {rest:List Oper} {env:Env} {bx:Bxs} {sb:Bxs} {ow:Ows} {H:Hs} {Q:EQ} {τ:Tab} {d:Nat} {s:SV}
theorem DJ.litD {tail l:List Oper} {x:Nat→Value} {y:Nat→Ows} {ow':Ows} {kl ks:List DK} {i:Nat} {bx':Bxs} {Γ:Fcts} (hτ:TabOk P τ) {T:TypeId} {len:Nat} {parts:Array (Nat × Operand)} (ho:o.op=.buildSlice T len parts) (hw:wantB ops env o=some true) (hd:o.dst=some d) (hn:Nat.blt d n=true) {te te':TE} {e:TypeId} (ht:τ.get T=some te) (hk:te.kind=.slice e) (ht':τ.get e=some te')
  (hsz:Nat.beq te'.zero.length te'.size=true) (hpos:Nat.ble 1 (len*te'.size)=true) (hsm:Nat.ble (len*te'.size) 10000=true) {vs:List Value} (ha:argsK env (parts.toList.map (·.2)) some=some vs) (hix':ixB parts.toList 0 len=true) (hv:∀ G,DepF ops i Γ G→∀ v,v∈vs→(vlist v).length=te'.size)
  {Φ:Value→Hp→Prop} (hm:∀ v G G',Φ v G→G.Le G'→Φ v G') (hΦ:∀ G G' v,DepF ops i Γ G→G.Le G'→SlC G' v len te'.size (vs.flatMap vlist)→Φ v G')
  (h:DJ P n ops tail sb bx H Q x y kl (i+1) l ks ((d,.v (x i))::env) bx' ((i,Φ (x i))::Γ) ow'):DJ P n ops tail sb bx H Q x y kl i (o::l) (.call Φ::ks) env bx' Γ ow':=by
 have hix:parts.toList.map (·.1)=List.range' 0 len:=ixB_spec _ _ _ hix'
 have hkd:=(hτ.get ht).kind
 rw [hk] at hkd
 have hkd':P.underlying T=some (.slice e):=hkd
 obtain ⟨zv,hinfo,hzc⟩:=(hτ.get ht').info
 obtain ⟨i0,hi,hz0,hz1,hz2⟩:=info_parts hinfo
 have hl:=Nat.eq_of_beq_eq_true hsz
 have hp:=Nat.le_of_ble_eq_true hpos
 have hm':=Nat.le_of_ble_eq_true hsm
 refine DJ.ofCall (fun β a W G hle hf _ hb _ hs hF=>?_) hd hn hm h
 rw [if_pos (hs.want hw)]
 have hvv:=hv G hF
 obtain ⟨vs',e1,h2⟩:=argsK_vals ha
 cases e1
 have h3:=h2 a.eval fun y u hy he=>hs.op (s:=.v u) (by rw [ho];simpa [Op.operands] using hy) he
 have hvl:vs.length=len:=by
  have e1:=congrArg List.length h3
  have e2:=congrArg List.length hix
  simp at e1 e2
  omega
 have hfl:(vs.flatMap vlist).length=len*te'.size:=by rw [flat_len vlist te'.size vs hvv,hvl]
 have h4:((parts.map fun (i,x)=>(i,a.eval x)):Array (Nat × Value)).toList=(List.range' 0 vs.length).zip vs:=by
  rw [hvl,← hix,← h3,Array.toList_map]
  generalize parts.toList=l
  induction l with
  | nil=>rfl
  | cons p l ih=>simp only [List.map_cons,List.zip_cons_cons,ih]
 have hfill:=fill_all te'.size vs 0 [] ((List.replicate len te'.zero).flatten) hvv (by simp) (by rw [List.length_flatten];simp [hl,hvl])
 rw [List.nil_append,List.nil_append,← h4] at hfill
 have hrun:=run_buildSlice (P:=P) W T e len (parts.map fun (i,x)=>(i,a.eval x)) (vs.flatMap vlist).toArray i0 zv hkd' hi hz0 (by rw [hz1];omega) (by rw [hz1];omega) (by
  rw [hz1,hzc,made_flat te'.zero te'.size len hl,← hfill])
 have hB:Below W.heap.size W (W.alloc (.cells (vs.flatMap vlist).toArray e)):=(Below.refl _ _).alloc (Nat.le_refl _) _
 obtain ⟨k1,k2,k3⟩:=newBlk hf hB (Box.new W (vs.flatMap vlist).toArray e)
 have hr:(execOp a.eval o).run P W=.ok (.value (.slice (some ⟨W.heap.size,0,none⟩) len len)) (W.alloc (.cells (vs.flatMap vlist).toArray e)):=by
  unfold execOp
  simp only [ho,Sem.run_bind,hrun,Result.andThen_ok,Sem.run_pure]
 unfold Oper.wp
 rw [hr,Oper.upon_value]
 exact ⟨_,_,rfl,hΦ G _ _ hF k1 ⟨hfl,.inr ⟨W.heap.size,0,len,(vs.flatMap vlist).toArray,rfl,Nat.le_refl _,by simp [Hp.put],fun j x hj=>by rw [Nat.zero_add];simpa using hj⟩⟩,k1,k2,hB,k3⟩
theorem DJ.litD1 {tail l:List Oper} {x:Nat→Value} {y:Nat→Ows} {ow':Ows} {kl ks:List DK} {i:Nat} {bx':Bxs} {Γ:Fcts} {Φ:Value→Hp→Prop} (hm:∀ v G G',Φ v G→G.Le G'→Φ v G') (hτ:TabOk P τ) {T:TypeId} {u:Operand} (ho:o.op=.buildSlice T 1 #[(0,u)]) (hw:wantB ops env o=some true) (hd:o.dst=some d) (hn:Nat.blt d n=true) {te te':TE} {e:TypeId} (ht:τ.get T=some te) (hk:te.kind=.slice e) (ht':τ.get e=some te')
  (hsz:Nat.beq te'.zero.length te'.size=true) (hpos:Nat.ble 1 (1*te'.size)=true) (hsm:Nat.ble (1*te'.size) 10000=true) {v:Value} (hx:env.op u=some (.v v)) (hv:∀ G,DepF ops i Γ G→(vlist v).length=te'.size)
  (hΦ:∀ G G' w,DepF ops i Γ G→G.Le G'→SlC G' w 1 te'.size ([v].flatMap vlist)→Φ w G')
  (h:DJ P n ops tail sb bx H Q x y kl (i+1) l ks ((d,.v (x i))::env) bx' ((i,Φ (x i))::Γ) ow'):DJ P n ops tail sb bx H Q x y kl i (o::l) (.call Φ::ks) env bx' Γ ow' :=
 DJ.litD hτ ho hw hd hn ht hk ht' hsz hpos hsm (vs:=[v]) (by show argsK env [u] some=_;simp [argsK,hx]) rfl (fun G hd w hm=>by rw [List.mem_singleton.1 hm];exact hv G hd) hm hΦ h
end
theorem RQ.len3 {H:Hp} {x:Value} {q:Rat} (h:RQ H x q):(vlist x).length=3:=by
 obtain ⟨xa,xl,xc,ya,yl,yc,rfl,hx1,hx2⟩:=h
 rfl
theorem RL.one {H:Hp} {v x:Value} {q:Rat} (h:SlC H v 1 3 ([x].flatMap vlist)) (hx:RQ H x q):RL H v [q] :=
 ⟨[x],rfl,fun j y r e1 e2=>by
  cases j with
  | zero=>cases e1;cases e2;exact hx
  | succ j=>simp at e1,h⟩
def gapsV (V:List Rat):Nat→List Rat
 | 0=>[]
 | j+1=>gapsV V j++if V.getD j 0<V.getD (j+1) 0 then [(V.getD j 0+V.getD (j+1) 0) / 2] else []
theorem gapsV_len (V:List Rat):∀ j,(gapsV V j).length≤j
 | 0=>Nat.le_refl _
 | j+1=>by
  have:=gapsV_len V j
  unfold gapsV
  rw [List.length_append]
  split
  ·rw [List.length_singleton];omega
  ·rw [List.length_nil];omega
theorem gapsN_V (key:Int→Rat) (m:List Int):∀ j,j≤m.length-1→gapsN key m j=gapsV (m.map key) j
 | 0,_=>rfl
 | j+1,h=>by
  have g:∀ i,i<m.length→(m.map key).getD i 0=key (m.getD i 0):=fun i hi=>by simp [List.getD_eq_getElem?_getD,hi]
  unfold gapsN gapsV midC
  rw [gapsN_V key m j oM,g j oM,g (j+1) (by omega)]
def plQ (X:List (List Rat)) (col:Int) (es:List Int):List Rat:=if es.all (hasC X col)=true then gapsV (sortQ (es.map (colK X col))) (es.length-1) else []
theorem plQ_sort {X:List (List Rat)} {col:Int} {es m:List Int} (h:SortC X col es m):gapsN (colK X col) m (m.length-1)=plQ X col es:=by
 unfold plQ
 rcases h with ⟨ha,hp,hr⟩ | ⟨ha,rfl⟩
 ·rw [if_pos ha,gapsN_V _ _ _ (Nat.le_refl _),hp.length_eq,sortQ_one (hp.map _) hr]
 ·rw [if_neg (by rw [ha];decide)];rfl
theorem sortQ_get {V:List Rat} {j:Nat} (h:j+1<(sortQ V).length):(sortQ V).getD j 0≤(sortQ V).getD (j+1) 0:=by
 have:=(List.pairwise_iff_getElem.1 (sortQ_rising V)) j (j+1) oM h oM
 rw [List.getD_eq_getElem?_getD,List.getD_eq_getElem?_getD,List.getElem?_eq_getElem oM,List.getElem?_eq_getElem h]
 exact this
set_option maxHeartbeats 8000000 in
theorem refPlaces_pc {H:Hp} {vx vr:Value} {X:List (List Rat)} {rs:List Int} {col:Int} (hX:RLL H vx X) (hr:IL H vr rs) (hn:rs.length≤300) (hq:∀ x,x∈X→∀ q,q∈x→ht q≤5) :
  PC prog 158 #[vx,vr,.int .i64 col] H fun r H'=>RL H' r (plQ X col (exL rs X.length)):=by
 obtain ⟨a,cap,rfl⟩:=SlC.val hr
 obtain ⟨xa,xc,rfl⟩:=hX.val
 refine BD func158 ntmps158 ?_
 try refine RUN ?_
 refine EV.loopK (ι:=Nat × List Value × Value × Ows) [0,1,2] [] (fun q=>[(7,.v q.2.2.1),(8,.v (.int .i64 (q.1:Int)))]) (fun _=>[]) (fun q=>q.2.2.2) (fun q G=>q.1≤rs.length∧(exL (rs.take q.1) X.length).all (hasC X col)=true∧RVs G q.2.1 ((exL (rs.take q.1) X.length).map (colK X col))∧OwnL 36 3 q.2.2.1 q.2.1.length (q.2.1.flatMap vlist) q.2.2.2) (fun q=>rs.length-q.1) ((0,[],.slice none 0 0,[])) rfl rfl ⟨rfl,rfl,trivial⟩ trivial rfl (fun _=>rfl) (⟨Nat.zero_le _,rfl,RVs.nil _,OwnL.nil _ _⟩) ?_
 rintro ⟨i,us,w,ow⟩ G2 hG2 ⟨hi,hall,hus,hown⟩
 dsimp only at hi hall hus hown
 obtain ⟨wa,wc,rfl⟩:=hown.val
 try refine RUN ?_
 refine EV.cond rfl (fun hlt=>?_) (fun hlt=>?_)
 ·simp only [nN] at hlt
  obtain ⟨r,hri⟩:∃ r,rs[i]?=some r:=⟨_,List.getElem?_eq_getElem hlt⟩
  have hex:=ex_take (n:=X.length) hri
  have hel:=exL_len (rs.take i) X.length
  rw [List.length_take] at hel
  have hul:us.length≤i:=by rw [hus.1,List.length_map];omega
  have wn:IntKind.i64.wrap ((i:Int)+1)=((i+1:Nat):Int):=wi_inc i oM
  have hr2:=hr.mono hG2
  have hX2:=hX.mono hG2
  have hth:=there_pc hX2 r col
  try refine RUN ?_
  refine EVL.idxR tO rfl rfl rfl rfl rfl rfl rfl rfl rfl rfl (hr2) (i) (rfl) (hlt) ((by rw [List.getElem?_map,hri];rfl)) ?_
  try refine RUN ?_
  by_cases h1:r<0
  ·have hp:inR X.length r=false:=by unfold inR;simp;omega
   rw [hp,if_neg (by decide),List.append_nil] at hex
   rw [decide_eq_true h1]
   try refine RUN ?_
   refine ⟨(i+1,us,_,ow),⟨rfl,by rw [wn];rfl,trivial⟩,sB,trivial,trivial,rfl,⟨hlt,by dsimp only;rw [hex];exact hall,by dsimp only;rw [hex];exact hus,hown⟩,Hp.Le.refl _,by dsimp only;omega⟩
  ·obtain ⟨R,rfl⟩:=Int.eq_ofNat_of_zero_le (show 0≤r by omega)
   rw [decide_eq_false h1]
   try refine RUN ?_
   refine EVL.idxR tO rfl rfl rfl rfl rfl rfl rfl rfl rfl rfl (hr2) (i) (rfl) (hlt) ((by rw [List.getElem?_map,hri];rfl)) ?_
   try refine RUN ?_
   by_cases h2:(R:Int)≥(X.length:Int)
   ·have hp:inR X.length (R:Int)=false:=by unfold inR;simp;omega
    rw [hp,if_neg (by decide),List.append_nil] at hex
    rw [decide_eq_true h2]
    try refine RUN ?_
    refine ⟨(i+1,us,_,ow),⟨rfl,by rw [wn];rfl,trivial⟩,sB,trivial,trivial,rfl,⟨hlt,by dsimp only;rw [hex];exact hall,by dsimp only;rw [hex];exact hus,hown⟩,Hp.Le.refl _,by dsimp only;omega⟩
   ·have hp:inR X.length (R:Int)=true:=by unfold inR;simp;omega
    rw [hp,Bool.true_and] at hth
    rw [hp,if_pos rfl] at hex
    rw [decide_eq_false h2]
    try refine RUN ?_
    refine EVL.idxR tO rfl rfl rfl rfl rfl rfl rfl rfl rfl rfl (hr2) (i) (rfl) (hlt) ((by rw [List.getElem?_map,hri];rfl)) ?_
    repeat (first | refine RUN ?_ | refine CV (hth) ?_ | refine CE (hth) ?_)
    cases hb:hasC X col (R:Int) with
    | false =>
     have hno:(exL rs X.length).all (hasC X col)=false:=by
      rw [List.all_eq_false]
      refine ⟨(R:Int),?_,by rw [hb];decide⟩
      unfold exL
      exact List.mem_filter.2 ⟨List.mem_of_getElem? hri,hp⟩
     try refine RUN ?_
     unfold plQ
     rw [if_neg (by rw [hno];decide)]
     exact RL.nil _ _ _
    | true =>
     obtain ⟨R',C,x,q,hRR,rfl,hx,hqx⟩:=hasC_at (show 0≤(R:Int) by omega) (show (R:Int)<(X.length:Int) by omega) hb
     obtain rfl:R=R':=by omega
     have hk:=colK_at (X:=X) rfl rfl hx hqx
     have hRl:R<X.length:=by omega
     have hCl:=(List.getElem?_eq_some_iff.1 hqx).1
     obtain ⟨vs,hvs,hs⟩:=hX2
     obtain ⟨a2,c2,hu,hRL⟩:=hvs.at hx
     obtain ⟨us2,y,hs2,hc2,hy⟩:=hRL.at hqx
     obtain ⟨xa',xl',xc',ya',yl',yc',rfl,hx1,hx2⟩:=id hy
     try refine RUN ?_
     refine EVL.idxR tO rfl rfl rfl rfl rfl rfl rfl rfl rfl rfl (hr2) (i) (rfl) (hlt) ((by rw [List.getElem?_map,hri];rfl)) ?_
     try refine RUN ?_
     refine EVL.idxR tO rfl rfl rfl rfl rfl rfl rfl rfl rfl rfl (hs) (R) (rfl) (hRl) (hu) ?_
     try refine RUN ?_
     refine EVL.idxM tO rfl rfl rfl rfl rfl rfl rfl rfl rfl (hs2) (C) (rfl) (hCl) (hc2) ?_
     try refine RUN ?_
     refine EVL.app1 tO rfl rfl rfl rfl rfl rfl rfl rfl rfl rfl rfl rfl rfl rfl rfl rfl rfl rfl rfl (fun _=>rfl) (ow) ([]) ((List.append_nil _).symm) (hown) oM fun _=>?_
     intro v' ow' hown'
     try refine RUN ?_
     refine ⟨(i+1,us++[_],v',ow'),⟨rfl,by rw [wn];rfl,trivial⟩,sB,trivial,trivial,List.append_nil _,⟨hlt,by dsimp only;rw [hex,List.all_append,hall];simp [hb],by dsimp only;rw [hex,List.map_append,List.map_cons,hk];exact hus.snoc hy,by dsimp only;rw [List.length_append,List.flatMap_append];exact hown'⟩,Hp.Le.refl _,by dsimp only;omega⟩
 ·simp only [nN] at hlt
  obtain rfl:i=rs.length:=by omega
  rw [List.take_length] at hus hall
  have hel:=exL_len rs X.length
  (first | refine EVL.publishL [] ow [] ((List.append_nil _).symm) hown fun G3 hG3 hs3=>?_ | refine EV.publishL [] ow [] ((List.append_nil _).symm) hown fun G3 hG3 hs3=>?_)
  have hus3:=hus.mono hG3
  have hRL:RL G3 (.slice wa us.length wc) ((exL rs X.length).map (colK X col)):=by
   rw [hus3.1] at hs3 ⊢
   exact hus3.rl hs3
  have hpl:plQ X col (exL rs X.length)=gapsV (sortQ ((exL rs X.length).map (colK X col))) ((exL rs X.length).length-1):=by unfold plQ;rw [if_pos hall]
  rw [hpl]
  have hkb:∀ q,q∈(exL rs X.length).map (colK X col)→ht q≤5:=fun q hm=>by
   obtain ⟨r,_,rfl⟩:=List.mem_map.1 hm
   exact colK_ht hq col r
  have hvl:((exL rs X.length).map (colK X col)).length=(exL rs X.length).length:=List.length_map ..
  rw [← hvl]
  generalize (exL rs X.length).map (colK X col)=vals at *
  have hsl:(sortQ vals).length=vals.length:=(sortQ_perm vals).length_eq
  have hsb:∀ q,q∈sortQ vals→ht q≤5:=fun q hm=>hkb q ((sortQ_perm vals).mem_iff.1 hm)
  have hris:=fun (j:Nat) (h:j+1<(sortQ vals).length)=>sortQ_get h
  try refine RUN ?_
  refine EVL.call rfl rfl rfl rfl rfl (refSort_pc hRL oM (fun q hm=>Nat.le_trans (hkb q hm) oM)) ?_
  intro r5 G4 hV hG4
  rw [← hsl]
  generalize sortQ vals=V at *
  obtain ⟨va,vc,rfl⟩:=hV.val
  have h2h:ht ((2:Int):Rat)≤10:=by
   have:=ht_int 2
   have h2:bl (2:Int).natAbs≤5:=bl_le (by decide)
   omega
  have hrq:∀ q,ht q≤30→rq q:=fun q h=>Nat.le_trans h oM
  try refine RUN ?_
  refine EV.loopK (ι:=Nat × List Value × Value × Ows) [7] [] (fun q=>[(9,.v q.2.2.1),(10,.v (.int .i64 ((q.1+1:Nat):Int)))]) (fun _=>[]) (fun q=>q.2.2.2) (fun q G=>q.1≤V.length-1∧RVs G q.2.1 (gapsV V q.1)∧OwnL 36 3 q.2.2.1 q.2.1.length (q.2.1.flatMap vlist) q.2.2.2) (fun q=>V.length-q.1) ((0,[],.slice none 0 0,[])) rfl rfl ⟨rfl,rfl,trivial⟩ trivial rfl (fun _=>rfl) (⟨Nat.zero_le _,RVs.nil _,OwnL.nil _ _⟩) ?_
  rintro ⟨j,ps,u,ow2⟩ G5 hG5 ⟨hj,hps,hown2⟩
  dsimp only at hj hps hown2
  obtain ⟨ua,uc,rfl⟩:=hown2.val
  try refine RUN ?_
  refine EV.cond rfl (fun hlj=>?_) (fun hlj=>?_)
  ·simp only [nN] at hlj
   have hjl:j<V.length:=by omega
   have ha:V[j]?=some (V.getD j 0):=by rw [List.getD_eq_getElem?_getD,List.getElem?_eq_getElem hjl];rfl
   have hb:V[j+1]?=some (V.getD (j+1) 0):=by rw [List.getD_eq_getElem?_getD,List.getElem?_eq_getElem hlj];rfl
   have hle:=hris j hlj
   have hah:=hsb _ (List.mem_of_getElem? ha)
   have hbh:=hsb _ (List.mem_of_getElem? hb)
   have hgs:gapsV V (j+1)=gapsV V j++if V.getD j 0<V.getD (j+1) 0 then [(V.getD j 0+V.getD (j+1) 0) / 2] else []:=rfl
   have hpl:=hps.1
   have hgl:=gapsV_len V j
   generalize V.getD j 0=p at *
   generalize V.getD (j+1) 0=q at *
   have hab:=ht_add p q
   have wj:IntKind.i64.wrap (((j+1:Nat):Int)-1)=(j:Int):=by rw [IntKind.wrap_i64];omega
   have wn:IntKind.i64.wrap (((j+1:Nat):Int)+1)=((j+1+1:Nat):Int):=wi_inc (j+1) oM
   obtain ⟨vs1,y1,hs1,hc1,hy1⟩:=(hV.mono hG5).at ha
   obtain ⟨vs2,y2,hs2,hc2,hy2⟩:=(hV.mono hG5).at hb
   obtain ⟨xa1,xl1,xc1,ya1,yl1,yc1,rfl,hx11,hx12⟩:=id hy1
   obtain ⟨xa2,xl2,xc2,ya2,yl2,yc2,rfl,hx21,hx22⟩:=id hy2
   try refine RUN ?_
   apply EV.drawn 9 kR kR;intro xv yw
   (repeat (first | refine' DV ?_ | refine' DA ?_ | refine' DK0 ?_ | refine' DT ?_ | refine' DS ?_))
   refine' DJ.idxM tO rfl rfl rfl rfl rfl rfl rfl rfl rfl (hs1) (j) (wj) (hjl) (hc1) ?_;rotate_left
   (repeat (first | refine' DV ?_ | refine' DA ?_ | refine' DK0 ?_ | refine' DT ?_ | refine' DS ?_))
   refine' DJ.idxM tO rfl rfl rfl rfl rfl rfl rfl rfl rfl (hs2) (j+1) (rfl) (hlj) (hc2) ?_;rotate_left
   (repeat (first | refine' DV ?_ | refine' DA ?_ | refine' DK0 ?_ | refine' DT ?_ | refine' DS ?_))
   (refine DJ.nil (fun G6 hG6 hF6=>?_);(case hS|hS2=>rfl))
   refine EVL.call rfl rfl rfl rfl rfl (refCmp_pc (hy1.mono hG6) (hy2.mono hG6) (hrq _ oM) (hrq _ oM)) ?_
   rintro rc G7 rfl hG7
   by_cases hlt3:p<q
   ·rw [if_pos hlt3] at hgs
    have ho:(ordR p q != 0)=true:=by
     unfold ordR;rw [if_pos hlt3];rfl
    try refine RUN ?_
    rw [ho]
    try refine RUN ?_
    apply EV.drawn 14 kR kR;intro xv yw
    (repeat (first | refine' DV ?_ | refine' DA ?_ | refine' DK0 ?_ | refine' DT ?_ | refine' DS ?_))
    refine' DJ.idxM tO rfl rfl rfl rfl rfl rfl rfl rfl rfl ((hs1.mono (hG6.trans hG7))) (j) (wj) (hjl) (hc1) ?_;rotate_left
    (repeat (first | refine' DV ?_ | refine' DA ?_ | refine' DK0 ?_ | refine' DT ?_ | refine' DS ?_))
    refine' DJ.idxM tO rfl rfl rfl rfl rfl rfl rfl rfl rfl ((hs2.mono (hG6.trans hG7))) (j+1) (rfl) (hlj) (hc2) ?_;rotate_left
    (repeat (first | refine' DV ?_ | refine' DA ?_ | refine' DK0 ?_ | refine' DT ?_ | refine' DS ?_))
    refine' DJ.call rfl rfl rfl rfl rfl (cO func60) (fun G hG hd=>refAdd_pc (hy1.mono ((hG6.trans hG7).trans hG)) (hy2.mono ((hG6.trans hG7).trans hG)) (hrq _ oM) (hrq _ oM)) (fun _ _ _ h k=>RQ.mono h k) ?_;rotate_left
    refine' DJ.call rfl rfl rfl rfl rfl (cO func43) (fun G hG hd=>refOf_pc 2 (by decide) (by decide)) (fun _ _ _ h k=>RQ.mono h k) ?_;rotate_left
    refine' DJ.call rfl rfl rfl rfl rfl (cO func63) (fun G hG hd=>refDivQ_pc (hd.tail.head kR) (hd.head kR) (hrq _ oM) (hrq _ oM) (by decide)) (fun _ _ _ h k=>RQ.mono h k) ?_;rotate_left
    (refine' DJ.litD1 (Φ:=fun w G=>RL G w [(p+q) / ((2:Int):Rat)]) (fun _ _ _ h k=>h.mono k) tO rfl rfl rfl rfl rfl rfl rfl rfl rfl rfl rfl (fun G hd=>RQ.len3 (hd.head kR)) (fun G G' w hd hG h=>RL.one h ((hd.head kR).mono hG)) ?_;rotate_left)
    (refine DJ.nil (fun G8 hG8 hF8=>?_);(case hS|hS2=>rfl))
    obtain ⟨vs3,hl3,hv3,hs3'⟩:=hF8.1
    obtain ⟨y3,rfl⟩:∃ y,vs3=[y]:=by
     match vs3,hl3 with
     | [y],_=>exact ⟨y,rfl⟩
    have hy3:=hv3 0 y3 _ rfl rfl
    obtain ⟨xa3,xl3,xc3,ya3,yl3,yc3,rfl,hx31,hx32⟩:=id hy3
    refine EVL.append tO rfl rfl rfl rfl rfl rfl rfl rfl rfl rfl rfl rfl [] ow2 [] (List.append_nil _).symm hown2 (SrcAt.ro hs3' (Nat.succ_pos 0)) rfl (by simp;omega) ?_
    intro v1 ow1 hown1
    try refine RUN ?_
    refine ⟨(j+1,ps++[_],v1,ow1),⟨rfl,by rw [wn];rfl,trivial⟩,sB,trivial,trivial,List.append_nil _,⟨by dsimp only;omega,by dsimp only;rw [hgs];exact (hps.mono (hG6.trans (hG7.trans hG8))).snoc hy3,by dsimp only;rw [List.length_append,List.flatMap_append];exact hown1⟩,hG6.trans (hG7.trans hG8),by dsimp only;omega⟩
   ·rw [if_neg hlt3,List.append_nil] at hgs
    have hpq:p=q:=Rat.le_antisymm hle (Rat.not_lt.1 hlt3)
    have ho:(ordR p q != 0)=false:=by
     rw [hpq,ordR_self];rfl
    try refine RUN ?_
    rw [ho]
    try refine RUN ?_
    refine ⟨(j+1,ps,_,ow2),⟨rfl,by rw [wn];rfl,trivial⟩,sB,trivial,trivial,rfl,⟨by dsimp only;omega,by dsimp only;rw [hgs];exact hps.mono (hG6.trans hG7),hown2⟩,hG6.trans hG7,by dsimp only;omega⟩
  ·simp only [nN] at hlj
   obtain rfl:j=V.length-1:=by omega
   (first | refine EVL.publishL [] ow2 [] ((List.append_nil _).symm) hown2 fun G6 hG6 hs6=>?_ | refine EV.publishL [] ow2 [] ((List.append_nil _).symm) hown2 fun G6 hG6 hs6=>?_)
   have hps6:=hps.mono hG6
   try refine RUN ?_
   show RL G6 (.slice ua ps.length uc) _
   rw [hps6.1] at hs6 ⊢
   exact hps6.rl hs6
end Go.Proofs.YtgjepkeeeemppaaGreatDoor
