/- Texts of ours in one: Rf3, Gc1, Gc2, Tz, Gc3, Gc4, Gc5, GcdS, Fr1, Fr2, Fr3, Ha1, Ha2, Ls1, LsP, Ls2, Ls3, Fr4, NearP, NearQ, SimpP, SimpS, Lw1, Lw2, Str1, Lw3, Lw4, Simp, Simp2, Simp3, Simp4, Ls4, Ls5, Ls6, Gn1, GnP, Gn2, Gn3, Gn7, Ev22, Gn8, Gn4, Gn5, Gn9, Gn6, Ev23, Gn10, Gn11, Seq, Sorted, DicePlain, Lists, SortPlain, Asc, GnC, Gn12. -/
import Derived.Test.YtifcjfodgicngaaGreatDoorA0
import Derived.Test.YtifcjfodgicngaaGreatDoorA1
import Derived.Test.YtifcjfodgicngaaGreatDoorA2
import Derived.Shelf.Spec.TrailingZeros
import Derived.Test.YtifcjfodgicngaaGreatDoorProg
import Derived.RangeFuncBox
import Derived.RangeFuncLeaves
import Derived.Shelf.Abstract
import Derived.OwnWalkIn
import Derived.TacticsInMore
import Derived.LoopNIn
import Derived.LoopIn
import Derived.Maps.AppendAt
import Derived.Test.YtifcjfodgicngaaGreatDoorRows
import Derived.WalkKit
import Derived.Sort.OwnSortedInts
import Derived.Lib.SlicesCompact
set_option linter.unusedVariables false
set_option linter.unusedSimpArgs false
set_option maxHeartbeats 64000000
namespace Go.Proofs.YtifcjfodgicngaaGreatDoor
section
open Go.RowKit _root_.Go.Proofs.Tryz
def RQ (H:Hp) (v:Value) (q:Rat):Prop:=∃a l c a' l' c',v=.agg #[.bool (decide (q.num<0)),.slice a l c,.slice a' l' c']∧RN H (.slice a l c) q.num.natAbs∧RN H (.slice a' l' c') q.den
theorem RQ.mono {H G:Hp} {v:Value} {q:Rat} (h:RQ H v q) (k:H.Le G):RQ G v q:=by
 obtain⟨a,l,c,a',l',c',e,h1,h2⟩:=h;exact⟨a,l,c,a',l',c',e,RN.mono h1 k,RN.mono h2 k⟩
def rq (q:Rat):Prop:=ht q≤100000000
theorem rq.num {q:Rat} (h:rq q):rsm q.num.natAbs:=qI (za2 q) (qI h oM)
theorem rq.den {q:Rat} (h:rq q):rsm q.den:=qI (zaU q) (qI h oM)
theorem zjN (n d:Int) (h:d≠0):Rat.divInt n d=mkRat (if d<0 then -n else n) d.natAbs:=by
 cases d with
 | ofNat m =>
  rw[if_neg (show ¬Int.ofNat m<0 from Int.not_lt.2 (Int.natCast_nonneg m))];rfl
 | negSucc m =>
  rw[if_pos (by omega)];show Rat.normalize (-n) (m+1) (Nat.succ_ne_zero m)=_;rw[Rat.normalize_eq_mkRat];rfl
theorem zsY (n d:Int) (h:d≠0):(Rat.divInt n d).num=sg (!(decide (n<0) == decide (d<0))) (n.natAbs / Nat.gcd n.natAbs d.natAbs)∧(Rat.divInt n d).den=d.natAbs / Nat.gcd n.natAbs d.natAbs:=by
 rw[zjN n d h];obtain⟨h1,h2⟩:=zdR (if d<0 then -n else n) d.natAbs oM;have e:(if d<0 then -n else n).natAbs=n.natAbs:=by split <;> simp
 rw[e]at h1 h2;refine⟨?_,h2⟩;rw[h1,zpu _ _ (by rw[e];exact Nat.gcd_dvd_left _ _),e];unfold sg;rcases Int.lt_trichotomy n 0 with hn | hn | hn
 ·by_cases hd:d<0
  ·rw[if_pos hd,if_neg oM,qD hn,qD hd];rfl
  ·rw[if_neg hd,if_pos hn,qD hn,qC hd];rfl
 ·subst hn;by_cases hd:d<0 <;> simp[hd]
 ·by_cases hd:d<0
  ·rw[if_pos hd,if_pos oM,qC oM,qD hd];rfl
  ·rw[if_neg hd,if_neg oM,qC oM,qC hd];rfl
theorem zdT {H:Hp} {u v:Value} {n d:Int} (hu:RI H u n) (hv:RI H v d) (hn:rsm n.natAbs) (hd:rsm d.natAbs) (h0:d≠0):PC prog 129 #[u,v] H fun r H'=>RQ H' r (Rat.divInt n d):=by
 obtain⟨sa,sl,sc,rfl,hs⟩:=id hu;obtain⟨ta,tl,tc,rfl,ht⟩:=id hv;obtain⟨e1,e2⟩:=zsY n d h0;have hg:Nat.gcd n.natAbs d.natAbs≠0:=fun e=>h0 (by have:=Nat.eq_zero_of_gcd_eq_zero_right e;omega);have hgs:rsm (Nat.gcd n.natAbs d.natAbs):=hd.le (Nat.gcd_le_right _ oM);refine BD func129 ntmps129 ?_;refine uR ?_;refine vA (zpE hs ht hn hd) ?_;rintro g G1 hg1 hG1;generalize Nat.gcd n.natAbs d.natAbs=gg at *
 refine uR ?_;refine vA (zg5 (RN.mono hs hG1) hg1 hn hgs hg) ?_;rintro r G2 ⟨x,y,rfl,hx,hy⟩ hG2;refine uR ?_;refine vA (zg5 (RN.mono ht (hG1.trans hG2)) (RN.mono hg1 hG2) hd hgs hg) ?_;rintro r G3 ⟨x',y',rfl,hx',hy'⟩ hG3;refine uR ?_;refine EVL.neb rfl rfl rfl rfl rfl rfl kR ?_;refine uR ?_;refine vA (zbT (!(decide (n<0) == decide (d<0))) (RN.mono hx hG3)) ?_;rintro r G4 ⟨ra,rl,rc,rfl,hr⟩ hG4;obtain⟨xa,xc,rfl⟩:=SlC.val hx';refine uR ?_;rw[←e1]at *
 rw[←e2]at *
 exact⟨ra,rl,rc,xa,_,xc,rfl,hr,RN.mono hx' hG4⟩
theorem zaZ {H:Hp} (z:Int) (h1:-9223372036854775808≤z) (h2:z<9223372036854775808):PC prog 67 #[.int .i64 z] H fun r H'=>RQ H' r (z:Rat):=by
 refine BD func67 ntmps67 ?_;refine uR ?_;refine vA (zej z h1 h2) ?_;rintro r G ⟨ra,rl,rc,rfl,hr⟩ hG;refine uR ?_;refine vA (zde 1 (by decide) G) ?_;rintro s G2 hs hG2;obtain⟨xa,xc,rfl⟩:=SlC.val hs;refine uR ?_;exact⟨ra,rl,rc,xa,_,xc,rfl,RN.mono hr hG2,hs⟩
theorem zib {H:Hp} (n d:Int) (h1:-9223372036854775808≤n) (h2:n<9223372036854775808) (h3:-9223372036854775808≤d) (h4:d<9223372036854775808) (h0:d≠0):PC prog 84 #[.int .i64 n,.int .i64 d] H fun r H'=>RQ H' r (Rat.divInt n d):=by
 have hb:∀z:Int,-9223372036854775808≤z→z<9223372036854775808→rsm z.natAbs:=fun z h1 h2=>qI (za1 (k:=64) oM) oM;refine BD func84 ntmps84 ?_;refine uR ?_;refine vA (zej n h1 h2) ?_;rintro r G hr hG;refine uR ?_;refine vA (zej d h3 h4) ?_;rintro s G2 hs hG2;refine uR ?_;refine vA (zdT (hr.mono hG2) hs (hb n h1 h2) (hb d h3 h4) h0) ?_;rintro t G3 ⟨ra,rl,rc,xa,xl,xc,rfl,hn,hd⟩ hG3;refine uR ?_;exact⟨ra,rl,rc,xa,xl,xc,rfl,hn,hd⟩
theorem zcY {H:Hp} {v:Value} {q:Rat} (h:RQ H v q):PC prog 149 #[v] H fun r H'=>RI H' r (q.den:Int):=by
 obtain⟨ra,rl,rc,xa,xl,xc,rfl,hn,hd⟩:=h;have hi:=zbT false hd;rw[show sg false q.den=(q.den:Int) from rfl]at hi;refine BD func149 ntmps149 ?_;refine uR ?_;refine vA (hi) ?_;rintro r G ⟨ra,rl,rc,rfl,hr⟩ hG;refine uR ?_;exact⟨ra,rl,rc,rfl,hr⟩
theorem RQ.rnum {H:Hp} {a:Option Addr} {l c:Nat} {q:Rat} (h:RN H (.slice a l c) q.num.natAbs):RI H (.agg #[.bool (decide (q.num<0)),.slice a l c]) q.num:=⟨a,l,c,rfl,h⟩
theorem zhF (a b:Rat):Rat.divInt (a.num*(b.den:Int)+b.num*(a.den:Int)) ((a.den*b.den:Nat):Int)=a+b:=by
 rw[Rat.add_def'];rfl
theorem zij {a b:Rat} (ha:rq a) (hb:rq b):rsm (a.num*(b.den:Int)).natAbs:=by
 rw[Int.natAbs_mul,Int.natAbs_natCast];refine qI (zbZ _ _) ?_;have:=za2 a;have:=zaU b;unfold rq at *;omega
theorem zpQ {a b:Rat} (ha:rq a) (hb:rq b):bl (a.num*(b.den:Int)).natAbs≤200000000:=by
 rw[Int.natAbs_mul,Int.natAbs_natCast];refine qI (zbZ _ _) ?_;have:=za2 a;have:=zaU b;unfold rq at *;omega
theorem zcW {H:Hp} {u v:Value} {a b:Rat} (hu:RQ H u a) (hv:RQ H v b) (ha:rq a) (hb:rq b):PC prog 97 #[u,v] H fun r H'=>RQ H' r (a+b):=by
 obtain⟨sa,sl,sc,ta,tl,tc,rfl,hs,ht⟩:=id hu;obtain⟨sa',sl',sc',ta',tl',tc',rfl,hs',ht'⟩:=id hv
 have hdd:rsm (a.den*b.den):=by
  have:=zaU a;have:=zaU b;have:=zbZ a.den b.den;unfold rq at ha hb;unfold rsm;omega
 have hsum:rsm (a.num*(b.den:Int)+b.num*(a.den:Int)).natAbs:=by
  have:=zc5 (a.num*(b.den:Int)) (b.num*(a.den:Int));have:=zpQ ha hb;have:=zpQ hb ha;unfold rsm;omega
 have hne:((a.den*b.den:Nat):Int)≠0:=by have:=Nat.mul_ne_zero a.den_nz b.den_nz;omega
 have hres:=zhF a b;refine BD func97 ntmps97 ?_;refine uR ?_;apply EV.drawn 18 kR kR;intro xv yw;(repeat refine' DD ?_);refine' vB (cO func149) (fun G hG hd=>zcY (hv.mono hG)) (fun _ _ _ h k=>RI.mono h k) ?_;rotate_left;refine' vB (cO func148) (fun G hG hd=>zbn (RQ.rnum (RN.mono hs hG)) (hd.head kR) ha.num hb.den) (fun _ _ _ h k=>RI.mono h k) ?_;rotate_left;(repeat refine' DD ?_);refine' vB (cO func149) (fun G hG hd=>zcY (hu.mono hG)) (fun _ _ _ h k=>RI.mono h k) ?_;rotate_left;refine' vB (cO func148) (fun G hG hd=>zbn (RQ.rnum (RN.mono hs' hG)) (hd.head kR) hb.num ha.den) (fun _ _ _ h k=>RI.mono h k) ?_;rotate_left;refine' vB (cO func147) (fun G hG hd=>zfK (hd.tail.tail.head kR) (hd.head kR) (zij ha hb) (zij hb ha)) (fun _ _ _ h k=>RI.mono h k) ?_;rotate_left;(repeat refine' DD ?_);refine' vB (cO func151) (fun G hG hd=>zg7 (RN.mono ht hG) (RN.mono ht' hG) ha.den hb.den) (fun _ _ _ h k=>RN.mono h k) ?_;rotate_left;refine' vB (cO func150) (fun G hG hd=>zbT false (hd.head kR)) (fun _ _ _ h k=>RI.mono h k) ?_;rotate_left;refine' vB (cO func129) (fun G hG hd=>zdT (hd.tail.tail.head kR) (hd.head kR) hsum hdd hne) (fun _ _ _ h k=>RQ.mono h k) ?_;rotate_left;(refine DJ.nil (fun G hG hF=>?_);(case hS|hS2=>rfl));obtain⟨⟨ra,rl,rc,xa,xl,xc,hr,h1,h2⟩,_⟩:=hF;rw[hr];refine uR ?_;rw[←hres];exact⟨ra,rl,rc,xa,xl,xc,rfl,h1,h2⟩
theorem zpF {H:Hp} {u:Value} {a:Rat} (hu:RQ H u a):PC prog 228 #[u] H fun r H'=>RQ H' r (-a):=by
 obtain⟨sa,sl,sc,ta,tl,tc,rfl,hs,ht⟩:=id hu;refine BD func228 ntmps228 ?_;refine uR ?_;apply EV.drawn 5 kR kR;intro xv yw;(repeat refine' DD ?_);refine' vB (cO func236) (fun G hG hd=>zfL (RQ.rnum (RN.mono hs hG))) (fun _ _ _ h k=>RI.mono h k) ?_;rotate_left;(repeat refine' DD ?_);(refine DJ.nil (fun G hG hF=>?_);(case hS|hS2=>rfl));obtain⟨⟨ra,rl,rc,hr,h1⟩,_⟩:=hF;rw[hr];refine uR ?_;exact⟨ra,rl,rc,ta,tl,tc,by rw[Rat.neg_num],by rw[Rat.neg_num];exact h1,by rw[Rat.neg_den];exact RN.mono ht hG⟩
theorem zpC {H:Hp} {u:Value} {a:Rat} (hu:RQ H u a):PC prog 113 #[u] H fun r H'=>RQ H' r (if a.num<0 then -a else a):=by
 obtain⟨sa,sl,sc,ta,tl,tc,rfl,hs,ht⟩:=id hu
 have e:sg false a.num.natAbs=(if a.num<0 then -a else a).num:=by
  show ((a.num.natAbs:Nat):Int)=_;split
  ·rw[Rat.neg_num];omega
  ·omega
 have e2:(if a.num<0 then -a else a).den=a.den:=by split <;> simp
 refine BD func113 ntmps113 ?_;refine uR ?_;apply EV.drawn 6 kR kR;intro xv yw;(repeat refine' DD ?_);refine' vB (cO func150) (fun G hG hd=>zbT false (RN.mono hs hG)) (fun _ _ _ h k=>RI.mono h k) ?_;rotate_left;(repeat refine' DD ?_);(refine DJ.nil (fun G hG hF=>?_);(case hS|hS2=>rfl));obtain⟨⟨ra,rl,rc,hr,h1⟩,_⟩:=hF;rw[hr];refine uR ?_;rw[e]at *
 exact⟨ra,rl,rc,ta,tl,tc,rfl,h1,by rw[e2];exact RN.mono ht hG⟩
theorem zuh {a:Rat} (h:rq a):rq (-a):=by unfold rq;rw[zmd];exact h
theorem zg9 {H:Hp} {u v:Value} {a b:Rat} (hu:RQ H u a) (hv:RQ H v b) (ha:rq a) (hb:rq b):PC prog 182 #[u,v] H fun r H'=>RQ H' r (a-b):=by
 obtain⟨sa,sl,sc,ta,tl,tc,rfl,hs,ht⟩:=id hu;obtain⟨sa',sl',sc',ta',tl',tc',rfl,hs',ht'⟩:=id hv;refine BD func182 ntmps182 ?_;refine uR ?_;apply EV.drawn 4 kR kR;intro xv yw;(repeat refine' DD ?_);refine' vB (cO func228) (fun G hG hd=>zpF (hv.mono hG)) (fun _ _ _ h k=>RQ.mono h k) ?_;rotate_left;refine' vB (cO func97) (fun G hG hd=>zcW (hu.mono hG) (hd.head kR) ha (zuh hb)) (fun _ _ _ h k=>RQ.mono h k) ?_;rotate_left;(refine DJ.nil (fun G hG hF=>?_);(case hS|hS2=>rfl));obtain⟨⟨ra,rl,rc,xa,xl,xc,hr,h1,h2⟩,_⟩:=hF;rw[hr];refine uR ?_;rw[Rat.sub_eq_add_neg];exact⟨ra,rl,rc,xa,xl,xc,rfl,h1,h2⟩
theorem zuM {a b:Rat} (ha:rq a) (hb:rq b):rsm (a.den*b.den):=by
 have:=zaU a;have:=zaU b;have:=zbZ a.den b.den;unfold rq at ha hb;unfold rsm;omega
theorem zuN {a b:Rat} (ha:rq a) (hb:rq b):rsm (a.num*b.num).natAbs:=by
 rw[Int.natAbs_mul];have:=za2 a;have:=za2 b;have:=zbZ a.num.natAbs b.num.natAbs;unfold rq at ha hb;unfold rsm;omega
theorem zuC (a b:Rat):((a.den*b.den:Nat):Int)≠0:=by have:=Nat.mul_ne_zero a.den_nz b.den_nz;omega
theorem zh9 {H:Hp} {u v:Value} {a b:Rat} (hu:RQ H u a) (hv:RQ H v b) (ha:rq a) (hb:rq b):PC prog 224 #[u,v] H fun r H'=>RQ H' r (a*b):=by
 obtain⟨sa,sl,sc,ta,tl,tc,rfl,hs,ht⟩:=id hu;obtain⟨sa',sl',sc',ta',tl',tc',rfl,hs',ht'⟩:=id hv;have hres:Rat.divInt (a.num*b.num) ((a.den*b.den:Nat):Int)=a*b:=by rw[Rat.mul_def'];rfl
 refine BD func224 ntmps224 ?_;refine uR ?_;apply EV.drawn 12 kR kR;intro xv yw;(repeat refine' DD ?_);refine' vB (cO func148) (fun G hG hd=>zbn (RQ.rnum (RN.mono hs hG)) (RQ.rnum (RN.mono hs' hG)) ha.num hb.num) (fun _ _ _ h k=>RI.mono h k) ?_;rotate_left;(repeat refine' DD ?_);refine' vB (cO func151) (fun G hG hd=>zg7 (RN.mono ht hG) (RN.mono ht' hG) ha.den hb.den) (fun _ _ _ h k=>RN.mono h k) ?_;rotate_left;refine' vB (cO func150) (fun G hG hd=>zbT false (hd.head kR)) (fun _ _ _ h k=>RI.mono h k) ?_;rotate_left;refine' vB (cO func129) (fun G hG hd=>zdT (hd.tail.tail.head kR) (hd.head kR) (zuN ha hb) (zuM ha hb) (zuC a b)) (fun _ _ _ h k=>RQ.mono h k) ?_;rotate_left;(refine DJ.nil (fun G hG hF=>?_);(case hS|hS2=>rfl));obtain⟨⟨ra,rl,rc,xa,xl,xc,hr,h1,h2⟩,_⟩:=hF;rw[hr];refine uR ?_;rw[←hres];exact⟨ra,rl,rc,xa,xl,xc,rfl,h1,h2⟩
theorem zhG (a b:Rat):Rat.divInt (a.num*(b.den:Int)) ((a.den:Int)*b.num)=a / b:=by
 rw[←Rat.divInt_mul_divInt,Rat.num_divInt_den,Rat.div_def,Rat.inv_def]
theorem zfn {H:Hp} {u v:Value} {a b:Rat} (hu:RQ H u a) (hv:RQ H v b) (ha:rq a) (hb:rq b) (h0:b.num≠0):PC prog 223 #[u,v] H fun r H'=>RQ H' r (a / b):=by
 obtain⟨sa,sl,sc,ta,tl,tc,rfl,hs,ht⟩:=id hu;obtain⟨sa',sl',sc',ta',tl',tc',rfl,hs',ht'⟩:=id hv;have hne:(a.den:Int)*b.num≠0:=Int.mul_ne_zero (by have:=a.den_nz;omega) h0;have hdn:rsm ((a.den:Int)*b.num).natAbs:=by rw[Int.mul_comm];exact zij hb ha
 refine BD func223 ntmps223 ?_;refine uR ?_;apply EV.drawn 11 kR kR;intro xv yw;(repeat refine' DD ?_);refine' vB (cO func149) (fun G hG hd=>zcY (hv.mono hG)) (fun _ _ _ h k=>RI.mono h k) ?_;rotate_left;refine' vB (cO func148) (fun G hG hd=>zbn (RQ.rnum (RN.mono hs hG)) (hd.head kR) ha.num hb.den) (fun _ _ _ h k=>RI.mono h k) ?_;rotate_left;(repeat refine' DD ?_);refine' vB (cO func149) (fun G hG hd=>zcY (hu.mono hG)) (fun _ _ _ h k=>RI.mono h k) ?_;rotate_left;(repeat refine' DD ?_);refine' vB (cO func148) (fun G hG hd=>zbn (hd.head kR) (RQ.rnum (RN.mono hs' hG)) ha.den hb.num) (fun _ _ _ h k=>RI.mono h k) ?_;rotate_left;refine' vB (cO func129) (fun G hG hd=>zdT (hd.tail.tail.head kR) (hd.head kR) (zij ha hb) hdn hne) (fun _ _ _ h k=>RQ.mono h k) ?_;rotate_left;(refine DJ.nil (fun G hG hF=>?_);(case hS|hS2=>rfl));obtain⟨⟨ra,rl,rc,xa,xl,xc,hr,h1,h2⟩,_⟩:=hF;rw[hr];refine uR ?_;rw[←zhG];exact⟨ra,rl,rc,xa,xl,xc,rfl,h1,h2⟩
theorem zic {H:Hp} {u:Value} {a:Rat} (hu:RQ H u a):PC prog 90 #[u] H fun r _=>r=.int .i64 a.num.sign:=by
 obtain⟨sa,sl,sc,ta,tl,tc,rfl,hs,ht⟩:=id hu;refine BD func90 ntmps90 ?_
 repeat (first|refine RUN ?_|refine CV (zce (RQ.rnum hs)) ?_|refine CE (zce (RQ.rnum hs)) ?_)
 rfl
theorem zb2 {H:Hp} {u v:Value} {a b:Rat} (hu:RQ H u a) (hv:RQ H v b) (ha:rq a) (hb:rq b):PC prog 102 #[u,v] H fun r _=>r=.int .i64 (zb4 a b):=by
 obtain⟨sa,sl,sc,ta,tl,tc,rfl,hs,ht⟩:=id hu;obtain⟨sa',sl',sc',ta',tl',tc',rfl,hs',ht'⟩:=id hv;refine BD func102 ntmps102 ?_;refine uR ?_;apply EV.drawn 11 kR kR;intro xv yw;(repeat refine' DD ?_);refine' vB (cO func149) (fun G hG hd=>zcY (hv.mono hG)) (fun _ _ _ h k=>RI.mono h k) ?_;rotate_left;refine' vB (cO func148) (fun G hG hd=>zbn (RQ.rnum (RN.mono hs hG)) (hd.head kR) ha.num hb.den) (fun _ _ _ h k=>RI.mono h k) ?_;rotate_left;(repeat refine' DD ?_);refine' vB (cO func149) (fun G hG hd=>zcY (hu.mono hG)) (fun _ _ _ h k=>RI.mono h k) ?_;rotate_left;refine' vB (cO func148) (fun G hG hd=>zbn (RQ.rnum (RN.mono hs' hG)) (hd.head kR) hb.num ha.den) (fun _ _ _ h k=>RI.mono h k) ?_;rotate_left;refine' vC (cO func154) (fun G hG hd=>zkk (hd.tail.tail.head kR) (hd.head kR) (zij ha hb) (zij hb ha)) ?_;rotate_left;(refine DJ.nil (fun G hG hF=>?_);(case hS|hS2=>rfl));refine uR ?_;rw[ziU]
def Wn (cs:List Value) (off:Nat) (l:List Nat):Prop:=off+l.length≤cs.length∧∀j,j<l.length→cs[off+j]?=some (n64 (l.getD j 0))
theorem Wn.of (l:List Nat):Wn (l.map n64) 0 l:=⟨by simp,fun j hj=>by rw[qv];exact zbz hj⟩
theorem Wn.take {cs:List Value} {off:Nat} {l:List Nat} (h:Wn cs off l) (k:Nat):Wn cs off (l.take k):=by
 refine⟨by have:=h.1;rw[qP];omega,fun j hj=>?_⟩;rw[qP]at hj;rw[h.2 j oM,za3,if_pos (by omega)]
theorem Wn.drop {cs:List Value} {off:Nat} {l:List Nat} (h:Wn cs off l) (k:Nat) (hk:k≤l.length):Wn cs (off+k) (l.drop k):=by
 refine⟨by have:=h.1;rw[qu];omega,fun j hj=>?_⟩;rw[qu]at hj;rw[Nat.add_assoc,h.2 (k+j) oM,zb1]
theorem Wn.set {cs:List Value} {off:Nat} {l:List Nat} (h:Wn cs off l) (k x:Nat) (hk:k<l.length):Wn (cs.set (off+k) (n64 x)) off (l.set k x):=by
 refine⟨by rw[List.length_set,List.length_set];exact h.1,fun j hj=>?_⟩;rw[List.length_set]at hj;by_cases e:k=j
 ·subst e;rw[List.getElem?_set_self (by have:=h.1;omega),zbl _ _ _ hk]
 ·rw[List.getElem?_set_ne oM,getD_set_ne _ _ _ _ (Ne.symm e)];exact h.2 j hj
theorem ztq (b off n cap:Nat) (hc:cap≠0):Value.slice (if cap=0 then some ⟨b,off,none⟩ else (some (⟨b,off,none⟩:Addr)).map (·.add (0*1))) (n-0) (cap-0)=.slice (some ⟨b,off,none⟩) n cap:=by
 rw[if_neg hc];simp[Addr.add_mid]
theorem ztr (b off k m cap:Nat) (hc:k<cap):Value.slice (if cap=k then some ⟨b,off,none⟩ else (some (⟨b,off,none⟩:Addr)).map (·.add (k*1))) (m-k) (cap-k)=.slice (some ⟨b,off+k,none⟩) (m-k) (cap-k):=by
 rw[if_neg (by omega)];simp[Addr.add_mid]
theorem zmX {H:Hp} {b off cap:Nat} {T:TypeId} {cs:List Value} {l:List Nat} (hw:Wn cs off l) (hc:l.length≤cap) (hl:l.length≤1000000000) :
  PW prog 243 #[.slice (some ⟨b,off,none⟩) l.length cap] H [(b,T,cs)] fun v ow _=>ow=[(b,T,cs)]∧v=.slice (some ⟨b,off,none⟩) (zaw l).length cap:=by
 refine PW.body tO func243 rfl kR ntmps243 rfl rfl ?_;refine uR ?_
 refine EV.loop (ι:=Nat) (fun n=>[(0,.v (.slice (some ⟨b,off,none⟩) n cap))]) (fun _=>[]) (fun _=>[(b,T,cs)])
  (fun n _=>n≤l.length∧zaw (l.take n)=zaw l) (fun n=>n) l.length ⟨rfl,trivial⟩ trivial rfl (fun _=>rfl) ⟨qH _,by rw[qb]⟩ ?_
 rintro n G hG ⟨hn,ht⟩;have fin:zaw (l.take n)=l.take n→(zaw l).length=n:=fun e=>by rw[←ht,e,qP];omega
 refine uR ?_;by_cases h0:n=0
 ·subst h0;rw[show decide (((0:Nat):Int)>0)=false from rfl];refine uR ?_;rw[fin (by simp[zaw])];exact⟨rfl,rfl⟩
 ·rw[show decide ((n:Int)>0)=true by simp;omega]
  have hsnoc:l.take n=l.take (n-1)++[l.getD (n-1) 0]:=by
   have:=qS (show n-1<l.length by omega);rw[show n-1+1=n by omega]at this;rw[this,qB,qA (show n-1<l.length by omega)];rfl
  refine uR ?_;refine EVL.asI (((n-1:Nat):Int)) (zkM n oM oM) ?_;refine EVL.idxO tO rfl rfl rfl rfl rfl rfl rfl rfl rfl rfl (n-1) (rfl) oM ?_;refine EVL.load1 tO rfl rfl rfl rfl rfl rfl rfl rfl (0) rfl (hw.2 (n-1) oM) ?_;refine uR ?_;by_cases hz:l.getD (n-1) 0=0
  ·rw[hz,show (((0:Nat):Int) == 0)=true from rfl];refine uR ?_;refine EVL.asI (((n-1:Nat):Int)) (zkM n oM oM) ?_;refine EVL.slc tO rfl rfl rfl rfl rfl rfl rfl rfl 0 (n-1) (.inl ⟨rfl,rfl⟩) (.inr ⟨_,IntKind.i64,rfl,rfl⟩) (qQ _) oM oM ?_;refine EVL.as (congrArg SV.v (ztq b off (n-1) cap oM)) ?_;refine uR ?_;exact⟨n-1,⟨rfl,trivial⟩,trivial,rfl,⟨by omega,by rw[←ht,hsnoc,hz,zbJ]⟩,Hp.Le.refl _,by omega⟩
  ·rw[show (((l.getD (n-1) 0:Nat):Int) == 0)=false by simpa using hz];refine uR ?_;rw[fin (by rw[hsnoc,zcg _ _ hz])];exact⟨rfl,rfl⟩
theorem zlK {H:Hp} {b off cap b' off' cap':Nat} {T T':TypeId} {cs cs':List Value} {l m:List Nat} (hw:Wn cs off l) (hw':Wn cs' off' m) (hl:zds W64 l) (hm:zds W64 m) (hll:l.length≤1000000000) :
  PW prog 207 #[.slice (some ⟨b,off,none⟩) l.length cap,.slice (some ⟨b',off',none⟩) m.length cap'] H [(b,T,cs),(b',T',cs')] fun v ow _=>ow=[(b,T,cs),(b',T',cs')]∧v=.int .i64 (zbq (val W64 l) (val W64 m)):=by
 refine PW.body tO func207 rfl kR ntmps207 rfl rfl ?_;refine uR ?_;by_cases he:l.length=m.length
 ·rw[show (((l.length:Nat):Int) != (m.length:Int))=false by simp[he]];refine uR ?_
  refine EV.loop (ι:=Nat) (fun n=>[(0,.v (.slice (some ⟨b,off,none⟩) l.length cap)),(1,.v (.slice (some ⟨b',off',none⟩) m.length cap')),(5,.v (.int .i64 ((n:Int)-1)))]) (fun _=>[]) (fun _=>[(b,T,cs),(b',T',cs')])
   (fun n _=>n≤l.length∧l.drop n=m.drop n) (fun n=>n) l.length ⟨rfl,rfl,?_,trivial⟩ trivial rfl (fun _=>rfl) ⟨qH _,by rw[qk (qH _),qk (by omega)]⟩ ?_
  ·rw[show IntKind.i64.wrap ((l.length:Int)-1)=(l.length:Int)-1 by rw[pM];omega];rfl
  rintro n G hG ⟨hn,hd⟩;refine uR ?_;by_cases h0:n=0
  ·subst h0;rw[show decide ((((0:Nat):Int)-1)≥0)=false from rfl];refine uR ?_;rw[List.drop_zero,List.drop_zero]at hd;subst hd;exact⟨rfl,by rw[zpn rfl]⟩
  ·rw[show decide (((n:Int)-1)≥0)=true by simp;omega];have hx:=hw.2 (n-1) oM;have hy:=hw'.2 (n-1) oM;have hvo:=zqi (l:=l) (m:=m) (n-1) hl.1 hm.1 he oM (by rw[show n-1+1=n by omega];exact hd);have hdx:=zal 0 l (n-1)
   have hdl:l.drop (n-1)=l.getD (n-1) 0::l.drop n:=by
    rw[qt (show n-1<l.length by omega),qB,qA (show n-1<l.length by omega),show n-1+1=n by omega];rfl
   have hdm:m.drop (n-1)=m.getD (n-1) 0::m.drop n:=by
    rw[qt (show n-1<m.length by omega),qB,qA (show n-1<m.length by omega),show n-1+1=n by omega];rfl
   generalize l.getD (n-1) 0=u at *
   generalize m.getD (n-1) 0=w at *
   refine uR ?_;apply EV.drawn 9 kR kR;intro xv yw;(repeat refine' DD ?_);refine' DJ.ofVal (zaa.idxO tO rfl rfl rfl rfl rfl rfl rfl rfl (n-1) oM oM) rfl rfl rfl ?_;rotate_left;refine' DJ.ofVal (zaa.load1 tO rfl rfl rfl rfl rfl rfl (0) rfl (hx)) rfl rfl rfl ?_;rotate_left;(repeat refine' DD ?_);refine' DJ.ofVal (zaa.idxO tO rfl rfl rfl rfl rfl rfl rfl rfl (n-1) oM oM) rfl rfl rfl ?_;rotate_left;refine' DJ.ofVal (zaa.load1 tO rfl rfl rfl rfl rfl rfl (1) rfl (hy)) rfl rfl rfl ?_;rotate_left;(repeat refine' DD ?_);(refine DJ.nil (fun G hG hF=>?_);(case hS|hS2=>rfl));refine uR ?_;by_cases hxy:u=w
   ·subst hxy;rw[show (((u:Nat):Int) != (u:Int))=false by simp];refine uR ?_;refine⟨n-1,⟨rfl,rfl,?_,trivial⟩,trivial,rfl,⟨by omega,by rw[hdl,hdm,hd]⟩,hG,by omega⟩;rw[show IntKind.i64.wrap ((n:Int)-1-1)=((n-1:Nat):Int)-1 by rw[pM];omega];rfl
   ·rw[show (((u:Nat):Int) != (w:Int))=true by simp;omega];have ho:=hvo hxy;refine uR ?_;apply EV.drawn 9 kR kR;intro xv yw;(repeat refine' DD ?_);refine' DJ.ofVal (zaa.idxO tO rfl rfl rfl rfl rfl rfl rfl rfl (n-1) oM oM) rfl rfl rfl ?_;rotate_left;refine' DJ.ofVal (zaa.load1 tO rfl rfl rfl rfl rfl rfl (0) rfl (hx)) rfl rfl rfl ?_;rotate_left;(repeat refine' DD ?_);refine' DJ.ofVal (zaa.idxO tO rfl rfl rfl rfl rfl rfl rfl rfl (n-1) oM oM) rfl rfl rfl ?_;rotate_left;refine' DJ.ofVal (zaa.load1 tO rfl rfl rfl rfl rfl rfl (1) rfl (hy)) rfl rfl rfl ?_;rotate_left;(repeat refine' DD ?_);(refine DJ.nil (fun G hG hF=>?_);(case hS|hS2=>rfl));refine uR ?_;rw[ho];by_cases hlt:u<w
    ·rw[zd3 u w hlt,zca hlt];refine uR ?_;exact⟨rfl,rfl⟩
    ·rw[zcN u w hlt,zct (by omega)];refine uR ?_;exact⟨rfl,rfl⟩
 ·rw[show (((l.length:Nat):Int) != (m.length:Int))=true by simp;omega];refine uR ?_;by_cases hlt:l.length<m.length
  ·rw[zd3 _ _ hlt,zca (zdP zae hl.1 hm hlt)];refine uR ?_;exact⟨rfl,rfl⟩
  ·rw[zcN _ _ hlt,zct (zdP zae hm.1 hl oM)];refine uR ?_;exact⟨rfl,rfl⟩
theorem zkO {H:Hp} {b off cap b' off' cap':Nat} {T T':TypeId} {cs cs':List Value} {l m:List Nat} (hw:Wn cs off l) (hw':Wn cs' off' m) (hl:Dig W64 l) (hm:Dig W64 m) (hll:l.length≤1000000000) (hml:m.length≤l.length) (hc:l.length≤cap) (hge:val W64 m≤val W64 l) :
  PW prog 208 #[.slice (some ⟨b,off,none⟩) l.length cap,.slice (some ⟨b',off',none⟩) m.length cap'] H [(b,T,cs),(b',T',cs')] fun v ow _=>∃cs1 r,ow=[(b,T,cs1),(b',T',cs')]∧Wn cs1 off r∧zds W64 r∧r.length≤l.length∧v=.slice (some ⟨b,off,none⟩) r.length cap∧val W64 r=val W64 l-val W64 m:=by
 refine PW.body tO func208 rfl kR ntmps208 rfl rfl ?_;refine uR ?_
 refine EV.loop (ι:=Nat × Nat × List Nat × List Value) (fun q=>[(0,.v (.slice (some ⟨b,off,none⟩) l.length cap)),(1,.v (.slice (some ⟨b',off',none⟩) m.length cap')),(5,.v (n64 q.2.1)),(9,.v (.int .i64 (l.length:Int))),(10,.v (.int .i64 (q.1:Int)))]) (fun _=>[]) (fun q=>[(b,T,q.2.2.2),(b',T',cs')])
  (fun q _=>q.1≤l.length∧zjs l m q.2.2.1 q.1 q.2.1∧Wn q.2.2.2 off q.2.2.1) (fun q=>l.length-q.1) (0,0,l,cs) ⟨rfl,rfl,rfl,rfl,rfl,trivial⟩ trivial rfl (fun _=>rfl) ⟨qQ _,⟨rfl,hl,fun _ _=>rfl,by simp[val],qQ _⟩,hw⟩ ?_
 rintro⟨i,c,cur,cu⟩ G hG ⟨hi,hinv,hcu⟩;dsimp only at hi hinv hcu;refine uR ?_;by_cases hlt:i<l.length
 ·rw[zd3 _ _ hlt];have hil:i<cur.length:=by rw[hinv.len];exact hlt
  have hcx:=hcu.2 i hil;refine uR ?_;refine EV.meet (fun env' bx' H'=>zet env' [(0,.v (.slice (some ⟨b,off,none⟩) l.length cap)),(1,.v (.slice (some ⟨b',off',none⟩) m.length cap')),(5,.v (n64 c)),(6,.v (.int .i64 (i:Int))),(7,.v (n64 (m.getD i 0))),(9,.v (.int .i64 (l.length:Int))),(10,.v (.int .i64 (i:Int)))]∧H'=⟨G,[(b,T,cu),(b',T',cs')],⟨H,[b,b']⟩⟩) ?_ ?_
  ·rintro env' bx' H' _ ⟨he,rfl⟩;refine EV.less _ [] he trivial rfl ?_;refine uR ?_;refine EVL.idxO tO rfl rfl rfl rfl rfl rfl rfl rfl rfl rfl (i) (rfl) (hlt) ?_;refine EVL.load1 tO rfl rfl rfl rfl rfl rfl rfl rfl (0) rfl (hcx) ?_;refine uR ?_;refine EVL.ext rfl rfl rfl rfl rfl (fun W=>zhk (cur.getD i 0) (m.getD i 0) c W hinv.carry) ?_;refine uR ?_;refine EVL.idxO tO rfl rfl rfl rfl rfl rfl rfl rfl rfl rfl (i) (rfl) (hlt) ?_;refine EVL.setO tO rfl rfl rfl rfl rfl rfl rfl ([]) rfl rfl rfl ((by have:=hcu.1;omega)) ?_;refine uR ?_;refine⟨(i+1,subHi (cur.getD i 0) (m.getD i 0) c,cur.set i (subLo (cur.getD i 0) (m.getD i 0) c),cu.set (off+i) (n64 (subLo (cur.getD i 0) (m.getD i 0) c))),⟨rfl,rfl,rfl,rfl,?_,trivial⟩,trivial,rfl,⟨by dsimp only;omega,hinv.step hlt hm,hcu.set i _ hil⟩,Hp.Le.refl _,by dsimp only;omega⟩;rw[zac i (by omega)];rfl
  ·by_cases hlm:i<m.length
   ·rw[zd3 _ _ hlm];refine uR ?_;refine EVL.idxO tO rfl rfl rfl rfl rfl rfl rfl rfl rfl rfl (i) (rfl) (hlm) ?_;refine EVL.load1 tO rfl rfl rfl rfl rfl rfl rfl rfl (1) rfl (hw'.2 i hlm) ?_;refine uR ?_;exact⟨⟨rfl,rfl,rfl,rfl,rfl,rfl,rfl,trivial⟩,rfl⟩
   ·rw[zcN _ _ hlm];refine uR ?_;refine⟨⟨rfl,rfl,rfl,rfl,?_,rfl,rfl,trivial⟩,rfl⟩;rw[show m.getD i 0=0 by simp[Nat.not_lt.1 hlm]];rfl
 ·rw[zcN _ _ hlt];obtain rfl:i=l.length:=oM;have hfin:=hinv.sum;have hlen:=hinv.len;rw[qO oM,qO (qH _),qO (by omega)]at hfin;have hlt2:=zav hinv.dig;rw[hlen]at hlt2
  have hc0:c=0:=by
   have:=hinv.carry;rcases pJ c with e | e
   ·exact e
   ·exfalso;have h1:c=1:=oM;rw[h1,Nat.one_mul]at hfin;have h2:=zav hm;have h3:W64 ^ m.length≤W64 ^ l.length:=qf (by decide) hml;omega
  rw[hc0,Nat.zero_mul,qY]at hfin;refine uR ?_;have ht:=zmX (H:=G) (b:=b) (T:=T) (cap:=cap) hcu oM oM;rw[hlen]at ht;refine vW ([(b,T,cu)]) ([(b',T',cs')]) (ht) ?_;rintro v ow H' ⟨rfl,rfl⟩ hle;refine uR ?_;refine⟨cu,zaw cur,rfl,?_,zco hinv.dig,?_,rfl,?_⟩
  ·have:=hcu.take (zaw cur).length
   rwa [zc0]at this
  ·have:=zaV cur;omega
  ·rw[zb3];omega
end
section
open Go.RowKit
def Tryz.lays7n29_ren:Go.Shelf.Ren:=⟨fun | 29=>242 | n=>n,fun | 0=>0 | 3=>3 | 4=>4 | 5=>5 | 22=>44 | 25=>256 | 54=>321 | n=>n,fun | 1=>2 | n=>n⟩
theorem Tryz.lays7n29:Go.Proofs.Lays7.n29 Tryz.prog Tryz.lays7n29_ren:={
 mixed:=by kernel_rfl
 f29:=Tryz.func242.trans (congrArg some kR)
 t0:=by kernel_rfl
 a0:=fun _=>by kernel_rfl
 z0:=fun _=>by kernel_rfl
 v0:=fun _=>by kernel_rfl
 i0:=by kernel_rfl
 t3:=by kernel_rfl
 a3:=fun _=>by kernel_rfl
 z3:=fun _=>by kernel_rfl
 v3:=fun _=>by kernel_rfl
 i3:=by kernel_rfl
 t4:=by kernel_rfl
 a4:=fun _=>by kernel_rfl
 z4:=fun _=>by kernel_rfl
 v4:=fun _=>by kernel_rfl
 i4:=by kernel_rfl
 t5:=by kernel_rfl
 a5:=fun _=>by kernel_rfl
 z5:=fun _=>by kernel_rfl
 v5:=fun _=>by kernel_rfl
 i5:=by kernel_rfl
 t22:=by kernel_rfl
 a22:=fun _=>by kernel_rfl
 z22:=fun _=>by kernel_rfl
 v22:=fun _=>by kernel_rfl
 i22:=by kernel_rfl
 t25:=by kernel_rfl
 a25:=fun _=>by kernel_rfl
 z25:=fun _=>by kernel_rfl
 v25:=fun _=>by kernel_rfl
 i25:=by kernel_rfl
 t54:=by kernel_rfl
 a54:=fun _=>by kernel_rfl
 z54:=fun _=>by kernel_rfl
 g1:=by kernel_rfl }
theorem zuT (x:Nat) (hx:x<W64):PV Tryz.prog 242 #[n64 x] (.int .i64 (Lib.ctz 64 x:Int)):=by
 refine⟨(cO Tryz.func242),fun W hg=>?_⟩;refine(Any7.bits_TrailingZeros64 Tryz.lays7n29 x hx W (fun _ j hj=>?_)).mono fun e W' ⟨he,hW⟩=>⟨he,by rw[hW];exact Below.refl _ _⟩;have hgH:gH 2=some (Lib.deBruijn64tab.map fun (z:Nat)=>Value.int .u8 (z:Int)).toArray:=by unfold gH;rw[Nat.beq_refl]
 obtain⟨T,fz,hc⟩:=hg _ _ hgH;have:=cell_of_row W 2 j _ T fz hc;refine this.trans ?_;simp only[List.getElem?_toArray,qK,qB,qA hj];rfl
end
section
open Go.RowKit _root_.Go.Proofs.Tryz
theorem zhx {H:Hp} {b off cap:Nat} {T:TypeId} {cs:List Value} {l:List Nat} (hw:Wn cs off l) (hl:Dig W64 l) (hll:l.length≤100000000) (h0:val W64 l≠0) :
  PW prog 205 #[.slice (some ⟨b,off,none⟩) l.length cap] H [(b,T,cs)] fun v ow _=>ow=[(b,T,cs)]∧∃z m:Nat,v=.int .i64 (z:Int)∧val W64 l=2 ^ z*m∧m % 2=1∧z<64*l.length:=by
 refine PW.body tO func205 rfl kR ntmps205 rfl rfl ?_;refine uR ?_
 refine EV.loop (ι:=Nat) (fun i=>[(0,.v (.slice (some ⟨b,off,none⟩) l.length cap)),(3,.v (.int .i64 (i:Int)))]) (fun _=>[]) (fun _=>[(b,T,cs)])
  (fun i _=>∀j,j<i→l.getD j 0=0) (fun i=>l.length-i) 0 ⟨rfl,rfl,trivial⟩ trivial rfl (fun _=>rfl) (fun j hj=>absurd hj (Nat.not_lt_zero _)) ?_
 rintro i G hG hz
 have hi:i<l.length:=by
  refine Nat.lt_of_not_le fun h=>h0 ?_;have:=zdi (B:=W64) i hz
  rwa [qO h]at this
 have hx:=hw.2 i hi;refine uR ?_;refine EVL.idxO tO rfl rfl rfl rfl rfl rfl rfl rfl rfl rfl (i) (rfl) (hi) ?_;refine EVL.load1 tO rfl rfl rfl rfl rfl rfl rfl rfl (0) rfl (hx) ?_;refine uR ?_;by_cases hxz:l.getD i 0=0
 ·rw[hxz,show (((0:Nat):Int) == 0)=true from rfl];refine uR ?_;refine⟨i+1,⟨rfl,?_,trivial⟩,trivial,rfl,fun j hj=>?_,Hp.Le.refl _,by omega⟩
  ·rw[zac i (by omega)];rfl
  ·by_cases e:j=i
   ·subst e;exact hxz
   ·exact hz j oM
 ·rw[show (((l.getD i 0:Nat):Int) == 0)=false by simpa using hxz];obtain⟨m,hv,hm,hc⟩:=zqw hl hz hxz;have htz:=zuT (l.getD i 0) (hl.getD (by decide) i);refine uR ?_;refine EVL.idxO tO rfl rfl rfl rfl rfl rfl rfl rfl rfl rfl (i) (rfl) (hi) ?_;refine EVL.load1 tO rfl rfl rfl rfl rfl rfl rfl rfl (0) rfl (hx) ?_
  repeat (first|refine RUN ?_|refine CV (htz) ?_|refine CE (htz) ?_)
  refine⟨rfl,64*i+Lib.ctz 64 (l.getD i 0),m,?_,hv,hm,by omega⟩;rw[show IntKind.i64.wrap (64*(i:Int))=((64*i:Nat):Int) from zqm 64 i oM,zir _ _ (by omega)]
theorem zjf {α:Type} (s m:List α) (i:Nat) (h:i<s.length) (hl:s.length=m.length):(s.take i++m.drop i).set i s[i]=s.take (i+1)++m.drop (i+1):=by
 have hm:i<m.length:=oM;rw[List.set_append_right _ _ (by rw[qP];omega),qP,qo oM,Nat.sub_self,qt hm,List.set_cons_zero,qS h,qZ];rfl
theorem zmk (s m:List Nat) (i j:Nat) (hl:s.length=m.length) (h:i≤j):(s.take i++m.drop i).getD j 0=m.getD j 0:=by
 by_cases hi:i≤s.length
 ·rw[qB,qL (by rw[qP];omega),qP,qo hi,List.getElem?_drop,show i+(j-i)=j by omega,←qB]
 ·rw[qB,qg (by simp;omega),qB,qg (by omega)]
theorem zji {H:Hp} {b off cap:Nat} {T:TypeId} {cs:List Value} {l:List Nat} (hw:Wn cs off l) (hl:Dig W64 l) (hll:l.length≤100000000) (hc:l.length≤cap) (h0:val W64 l≠0) :
  PW prog 206 #[.slice (some ⟨b,off,none⟩) l.length cap] H [(b,T,cs)] fun v ow _=>∃cs1 off1 cap1 r z,ow=[(b,T,cs1)]∧Wn cs1 off1 r∧zds W64 r∧r.length≤l.length∧r.length≤cap1∧v=.slice (some ⟨b,off1,none⟩) r.length cap1∧val W64 l=2 ^ z*val W64 r∧val W64 r % 2=1:=by
 refine PW.body tO func206 rfl kR ntmps206 rfl rfl ?_;refine uR ?_;refine vW ([(b,T,cs)]) ([]) (zhx hw hl hll h0) ?_;rintro v ow H' ⟨rfl,z,m,rfl,hv,hm,hz⟩ hle;have hz0:z / 64<l.length:=oM;refine uR ?_;refine EVL.asI (((z / 64:Nat):Int)) (zd6 z 64 oM) ?_;refine uR ?_;refine EVL.slc tO rfl rfl rfl rfl rfl rfl rfl rfl (z / 64) l.length (.inr ⟨_,IntKind.i64,rfl,rfl⟩) (.inl ⟨rfl,rfl⟩) oM hc hc ?_;refine EVL.as (congrArg SV.v (ztr b off (z / 64) l.length cap oM)) ?_;refine uR ?_;rw[show (z:Int).tmod 64=((z % 64:Nat):Int) from zhv z 64];generalize hq:z / 64=q at *
 generalize hp:z % 64=p at *
 have hpz:z=64*q+p:=oM;have hp64:p<64:=oM;have hlen:(l.drop q).length=l.length-q:=qu ..;have hwd:=hw.drop q oM;have hld:Dig W64 (l.drop q):=hl.drop q;have hvs:=ztB l q p hl hp64 oM;rw[←hpz]at hvs;have hdiv:val W64 l / 2 ^ z=m:=by rw[hv];exact Nat.mul_div_cancel_left _ (Nat.pow_pos (by decide))
 rw[hdiv]at hvs;rw[←hlen];generalize l.drop q=d at *
 have hsl:=zek p d;have hsD:=zmz p hp64 hld
 refine EV.loop (ι:=Nat × List Value) (fun s=>[(0,.v (.slice (some ⟨b,off+q,none⟩) d.length (cap-q))),(4,.v (.int .i64 (p:Int))),(15,.v (.int .i64 (d.length:Int))),(16,.v (.int .i64 (s.1:Int)))]) (fun _=>[]) (fun s=>[(b,T,s.2)])
  (fun s _=>s.1≤d.length∧Wn s.2 (off+q) ((zdq p d).take s.1++d.drop s.1)) (fun s=>d.length-s.1) (0,cs) ⟨rfl,rfl,rfl,rfl,trivial⟩ trivial rfl (fun _=>rfl) ⟨qQ _,by simpa using hwd⟩ ?_
 rintro⟨i,cu⟩ G hG ⟨hi,hcu⟩;dsimp only at hi hcu;refine uR ?_;by_cases hlt:i<d.length
 ·rw[zd3 _ _ hlt];have hil:i<((zdq p d).take i++d.drop i).length:=by simp;omega
  have hcx:=hcu.2 i hil;rw[zmk _ _ i i hsl (qH _)]at hcx;have hx:=hld.getD (by decide) i;have hnew:=zi9 p d i oM;have hset:=zjf (zdq p d) d i oM hsl;have hb1:off+q+i<cu.length:=by have:=hcu.1;omega
  rw[hnew]at hset;refine uR ?_;refine EVL.idxO tO rfl rfl rfl rfl rfl rfl rfl rfl rfl rfl (i) (rfl) (hlt) ?_;refine EVL.load1 tO rfl rfl rfl rfl rfl rfl rfl rfl (0) rfl (hcx) ?_;refine uR ?_;rw[show min p IntKind.u64.bits=p from qo (by show p≤64;omega),zmY];refine EVL.idxO tO rfl rfl rfl rfl rfl rfl rfl rfl rfl rfl (i) (rfl) (hlt) ?_;refine EVL.setO tO rfl rfl rfl rfl rfl rfl rfl ([]) rfl rfl rfl (hb1) ?_;have hcu1:=hcu.set i (d.getD i 0 / 2 ^ p) hil;refine uR ?_;rw[zac i (by omega)];by_cases hl1:i+1<d.length
  ·rw[zd3 _ _ hl1];have hy:=hcu1.2 (i+1) (by simp;omega);rw[getD_set_ne _ _ _ _ oM,zmk _ _ i (i+1) hsl (by omega)]at hy;have hx1:=hcu1.2 i (by simp;omega);rw[zbl _ _ _ hil]at hx1;refine uR ?_;apply EV.drawn 13 kR kR;intro xv yw;(repeat refine' DD ?_);refine' DJ.ofVal (zaa.idxO tO rfl rfl rfl rfl rfl rfl rfl rfl (i) (rfl) (hlt)) rfl rfl rfl ?_;rotate_left;refine' DJ.ofVal (zaa.load1 tO rfl rfl rfl rfl rfl rfl (0) rfl (hx1)) rfl rfl rfl ?_;rotate_left;(repeat refine' DD ?_);refine' DJ.ofVal (zaa.idxO tO rfl rfl rfl rfl rfl rfl rfl rfl (i+1) (zac i oM) (hl1)) rfl rfl rfl ?_;rotate_left;refine' DJ.ofVal (zaa.load1 tO rfl rfl rfl rfl rfl rfl (0) rfl (hy)) rfl rfl rfl ?_;rotate_left;(repeat refine' DD ?_);refine' DJ.ofVal (zaa.shl rfl rfl rfl rfl (by rw[pM];omega)) rfl rfl rfl ?_;rotate_left;(repeat refine' DD ?_);(refine DJ.nil (fun G hG hF=>?_);(case hS|hS2=>rfl));refine uR ?_;rw[show IntKind.i64.wrap (64-(p:Int))=((64-p:Nat):Int) by rw[pM];omega,qU,show min (64-p) IntKind.u64.bits=64-p from qo (by show _≤64;omega)];refine EVL.idxO tO rfl rfl rfl rfl rfl rfl rfl rfl rfl rfl (i) (rfl) (hlt) ?_;refine EVL.setO tO rfl rfl rfl rfl rfl rfl rfl ([]) rfl rfl rfl ((by rw[List.length_set];exact hb1)) ?_;refine uR ?_;have hw2:=(zja (d.getD i 0) (d.getD (i+1) 0) p hp64 hx).1;have hcu2:=hcu1.set i (d.getD i 0 / 2 ^ p+d.getD (i+1) 0*2 ^ (64-p) % W64) (by simpa using hil);rw[List.set_set,List.set_set,hset]at hcu2;refine⟨(i+1,cu.set (off+q+i) (n64 (d.getD i 0 / 2 ^ p+d.getD (i+1) 0*2 ^ (64-p) % W64))),⟨rfl,rfl,rfl,?_,trivial⟩,trivial,?_,⟨by dsimp only;omega,hcu2⟩,hG,by dsimp only;omega⟩
   ·rw[zac i (by omega)];rfl
   ·dsimp only;refine(congrArg (fun c=>[(b,T,c)]) (List.set_set ..)).trans ?_;exact congrArg (fun v=>[(b,T,cu.set (off+q+i) v)]) (congrArg (Value.int .u64) hw2)
  ·rw[zcN _ _ hl1];refine uR ?_;rw[show d.getD (i+1) 0=0 by simp[Nat.not_lt.1 hl1],Nat.zero_mul,Nat.zero_mod,qY]at hset;rw[hset]at hcu1;refine⟨(i+1,cu.set (off+q+i) (n64 (d.getD i 0 / 2 ^ p))),⟨rfl,rfl,rfl,?_,trivial⟩,trivial,rfl,⟨by dsimp only;omega,hcu1⟩,Hp.Le.refl _,by dsimp only;omega⟩;rw[zac i (by omega)];rfl
 ·rw[zcN _ _ hlt];obtain rfl:i=d.length:=oM;rw[qO oM,qk (qH _),qG]at hcu;have ht:=zmX (H:=G) (b:=b) (T:=T) (cap:=cap-q) hcu oM oM;rw[hsl]at ht;refine uR ?_;refine vW ([(b,T,cu)]) ([]) (ht) ?_;rintro v ow H2 ⟨rfl,rfl⟩ hle2;refine uR ?_;have htl:=zaV (zdq p d);refine⟨cu,off+q,cap-q,zaw (zdq p d),z,rfl,?_,zco hsD,by omega,by omega,rfl,?_,?_⟩
  ·have:=hcu.take (zaw (zdq p d)).length
   rwa [zc0]at this
  ·rw[zb3,hvs,hv]
  ·rw[zb3,hvs,hm]
theorem zkQ (n:Nat) (hn:big n) (H:Hp):PW prog 204 #[zaI n] H [] fun v ow _=>∃g,v=.slice (some ⟨g,0,none⟩) (dig W64 n).length (dig W64 n).length∧ow=[(g,44,(dig W64 n).map n64)]:=by
 have hol:(zjp n).length=(bl n+7) / 8:=by
  have:=zaR 8 n oM;rw[show (2:Nat) ^ 8=256 by decide]at this;rw[zcs,this];omega
 have hwl:(dig W64 n).length=((zjp n).length+7) / 8:=by
  have:=zaR 64 n oM;rw[←zaG]at this;rw[this,hol];omega
 have hD:=ziQ n;have hfin:pk 8 256 (zjp n).reverse (dig W64 n).length=dig W64 n:=zta n _ rfl (by rw[←zcs];omega);have hb:=zgQ n hn;refine PW.body tO func204 rfl kR ntmps204 rfl rfl ?_;refine uR ?_;refine vA (hb _) ?_;rintro v H1 hs hle;generalize hm:(dig W64 n).length=m at *
 generalize dig W64 n=dn at *
 generalize zjp n=l at *
 obtain⟨a,cap,rfl⟩:=SlC.val hs;refine uR ?_;rw[show IntKind.i64.wrap ((l.length:Int)+7)=((l.length+7:Nat):Int) from zir _ 7 (by omega)];refine EVL.asI ((m:Int)) ((by rw[hwl];exact zd6 _ 8 oM)) ?_;refine EVL.make tO rfl rfl rfl rfl rfl rfl rfl rfl rfl (m) (rfl) oM (by rfl) (by rfl) fun g=>?_;refine uR ?_
 have e0:(List.replicate m (Tryz.te44.zero)).flatten=(pk 8 256 (l.reverse.take 0) m).map n64:=by
  rw[List.take_zero,zmt,List.map_replicate];rw[show (Tryz.te44.zero)=[n64 0] from rfl];simp
 rw[e0]
 refine EV.loop (ι:=Nat) (fun i=>[(3,.v (.slice a l.length cap)),(4,.v (.slice (some ⟨g,0,none⟩) m m)),(14,.v (.int .i64 (l.length:Int))),(15,.v (.int .i64 (i:Int)))]) (fun _=>[]) (fun i=>[(g,44,(pk 8 256 (l.reverse.take i) m).map n64)])
  (fun i G=>i≤l.length∧SlN n8 G (.slice a l.length cap) l) (fun i=>l.length-i) 0 ⟨rfl,rfl,rfl,rfl,trivial⟩ trivial rfl (fun _=>rfl) ⟨qQ _,hs⟩ ?_
 rintro i G hG ⟨hi,hs⟩;refine uR ?_;by_cases hlt:i<l.length
 ·have him:i / 8<m:=oM;have hrl:(l.reverse.take i).length=i:=by rw[qP,List.length_reverse];omega
  have hx:l.getD (l.length-1-i) 0<256:=hD.getD (by decide) _;have hxs:(l.map n8)[l.length-1-i]?=some (n8 (l.getD (l.length-1-i) 0)):=zbz oM;have hcur:((pk 8 256 (l.reverse.take i) m).map n64)[i / 8]?=some (n64 ((pk 8 256 (l.reverse.take i) m).getD (i / 8) 0)):=zbz (by rw[zaA];exact him);have hlow:=zse (K:=8) (B:=256) (by decide) ((hD.rev).take i) m (by rw[hrl];omega);rw[hrl]at hlow;have hsn:=zlu (K:=8) (B:=256) (l:=l.reverse.take i) (by decide) m (l.getD (l.length-1-i) 0) (by rw[hrl];omega);rw[hrl]at hsn;rw[zd3 _ _ hlt];refine uR ?_;apply EV.drawn 18 kR kR;intro xv yw;(repeat refine' DD ?_);refine' DJ.ofVal (zaa.idxP1 tO rfl rfl rfl rfl rfl rfl rfl rfl (i / 8) (q8 i oM) him) rfl rfl rfl ?_;rotate_left;refine' DJ.ofVal (zaa.load1 tO rfl rfl rfl rfl rfl rfl (0) rfl (hcur)) rfl rfl rfl ?_;rotate_left;(repeat refine' DD ?_);refine' DJ.ofVal (zaa.idx1 tO rfl rfl rfl rfl rfl rfl rfl rfl (hs) (l.length-1-i) (ztK _ _ hlt oM) oM (hxs)) rfl rfl rfl ?_;rotate_left;(repeat refine' DD ?_);refine' DJ.ofVal (zaa.shl rfl rfl rfl rfl (by rw[r8];omega)) rfl rfl rfl ?_;rotate_left;(refine DJ.nil (fun G hG hF=>?_);(case hS|hS2=>rfl));rw[r8,qU];refine uR ?_;rw[zox _ _ _ (by rw[Nat.pow_mul];exact hlow) hx (by omega)];refine EVL.idx0 tO rfl rfl rfl rfl rfl rfl rfl rfl rfl rfl (i / 8) (q8 i oM) (him) ?_;refine EVL.setO tO rfl rfl rfl rfl rfl rfl rfl ([]) rfl rfl rfl ((by rw[qV,zaA];exact him)) ?_;refine uR ?_
  have hnext:l.reverse.take (i+1)=l.reverse.take i++[l.getD (l.length-1-i) 0]:=by
   rw[qS (by rw[List.length_reverse];exact hlt),List.getElem_reverse,qB,qA (show l.length-1-i<l.length by omega)];rfl
  refine⟨i+1,⟨rfl,rfl,rfl,?_,trivial⟩,trivial,?_,⟨by omega,hs.mono hG⟩,hG,by omega⟩
  ·rw[zac i (by omega)];rfl
  ·rw[hnext,hsn,List.map_set,show (256:Nat) ^ (i % 8)=2 ^ (8*(i % 8)) by rw[Nat.pow_mul]];rfl
 ·rw[zcN _ _ hlt];obtain rfl:i=l.length:=oM;rw[qO (by rw[List.length_reverse];exact qH _),hfin];refine uR ?_;exact⟨g,rfl,rfl⟩
theorem zog {H:Hp} {b off cap:Nat} {T:TypeId} {cs:List Value} {l:List Nat} (hw:Wn cs off l) (hl:Dig W64 l) (hll:l.length≤20000000) :
  PW prog 209 #[.slice (some ⟨b,off,none⟩) l.length cap] H [(b,T,cs)] fun v ow _=>ow=[(b,T,cs)]∧v=zaI (val W64 l):=by
 refine PW.body tO func209 rfl kR ntmps209 rfl rfl ?_;refine uR ?_;rw[show IntKind.i64.wrap (8*(l.length:Int))=((8*l.length:Nat):Int) from zqm 8 l.length (by omega)];generalize hN:8*l.length=N at *
 refine EVL.make tO rfl rfl rfl rfl rfl rfl rfl rfl rfl (N) (rfl) oM (by rfl) (by rfl) fun g=>?_;refine EVL.apart fun hdist=>?_
 have hgb:b≠g:=fun e=>by
  subst e;have:=hdist 0 1 b _ _ _ _ rfl rfl;cases this
 refine uR ?_
 have e0:(List.replicate N (Tryz.te5.zero)).flatten=(List.replicate N 0).map n8:=by
  rw[List.map_replicate,show (Tryz.te5.zero)=[n8 0] from rfl];simp
 rw[e0]
 refine EV.loop (ι:=Nat × List Nat) (fun q=>[(2,.p 2 0),(0,.v (.slice (some ⟨b,off,none⟩) l.length cap)),(3,.v (.slice (some ⟨g,0,none⟩) N N)),(10,.v (.int .i64 (N:Int))),(11,.v (.int .i64 (q.1:Int)))]) (fun _=>[(2,46,Tryz.te46.zero)]) (fun q=>[(g,5,q.2.map n8),(b,T,cs)])
  (fun q _=>q.1≤N∧q.2.length=N∧Dig 256 q.2∧∀j,j<q.1→q.2.getD (N-1-j) 0=val W64 l / 256 ^ j % 256) (fun q=>N-q.1) (0,List.replicate N 0) ⟨rfl,rfl,rfl,rfl,rfl,trivial⟩ ⟨rfl,trivial⟩ rfl (fun _=>rfl) ⟨qQ _,by simp,Dig.zeros (by decide) _,fun j hj=>absurd hj (Nat.not_lt_zero _)⟩ ?_
 rintro⟨i,cur⟩ G hG ⟨hi,hlen,hcD,hcs⟩;dsimp only at hi hlen hcs hcD;refine uR ?_;by_cases hlt:i<N
 ·have hwl:i / 8<l.length:=oM;have hsub:=zdJ (C:=256) (k:=8) (by decide) (by decide) (l:=l) (by rw[←zcJ];exact hl) i;rw[←zcJ,show (256:Nat) ^ (i % 8)=2 ^ (8*(i % 8)) by rw[Nat.pow_mul]]at hsub;have hwd:=hl.getD (by decide) (i / 8);rw[zd3 _ _ hlt];refine uR ?_;rw[ztK N i hlt (by omega)];refine EVL.asI (((i / 8:Nat):Int)) (q8 i oM) ?_;refine EVL.idxO tO rfl rfl rfl rfl rfl rfl rfl rfl rfl rfl (i / 8) (rfl) (hwl) ?_;refine EVL.load1 tO rfl rfl rfl rfl rfl rfl rfl rfl (1) rfl (hw.2 (i / 8) hwl) ?_;refine uR ?_;rw[r8];refine uR ?_;rw[zmG _ _ hwd oM,hsub];refine EVL.idx0 tO rfl rfl rfl rfl rfl rfl rfl rfl rfl rfl (N-1-i) (rfl) oM ?_;refine EVL.setO tO rfl rfl rfl rfl rfl rfl rfl ([]) rfl rfl rfl ((by rw[qV,hlen];omega)) ?_;refine uR ?_;refine⟨(i+1,cur.set (N-1-i) (val W64 l / 256 ^ i % 256)),⟨rfl,rfl,rfl,rfl,?_,trivial⟩,⟨rfl,trivial⟩,?_,⟨by dsimp only;omega,by dsimp only;rw[List.length_set];exact hlen,hcD.set _ _ (qn _ (by decide)),fun j hj=>?_⟩,Hp.Le.refl _,by dsimp only;omega⟩
  ·rw[zac i (by omega)];rfl
  ·dsimp only;rw[List.map_set];rfl
  ·dsimp only at hj ⊢;by_cases e:j=i
   ·subst e;exact zbl _ _ _ oM
   ·rw[getD_set_ne _ _ _ _ (by omega)];exact hcs j oM
 ·rw[zcN _ _ hlt];obtain rfl:i=N:=oM;have hlv:=zav hl;have hb:=zm7 (val W64 l) i cur (by rw[←hN,Nat.pow_mul,←zcJ];exact hlv) hlen hcs;refine uR ?_
  refine EVL.publish [] [(b,T,cs)] rfl (fun G2 hG2 hg=>?_) (fun k hk=>by
   obtain rfl:k=b:=by simpa[Ows.bs] using hk
   exact hgb)
  have hsl:SlN n8 G2 (.slice (some ⟨g,0,none⟩) i i) cur:=by
   unfold SlN;rw[hlen];exact⟨by simp[hlen],.inr ⟨g,0,i,_,rfl,qH _,hg,fun j x hj=>by simpa using hj⟩⟩
  have hf:=zdD hsl hcD oM;rw[hb]at hf;refine vA (hf) ?_;rintro v H2 rfl hle;refine uR ?_;exact⟨rfl,rfl⟩
structure OW (b off cap:Nat) (cs:List Value) (l:List Nat):Prop where
 at_:Wn cs off l
 norm:zds W64 l
 cap:l.length≤cap
 len:l.length≤20000000
 odd:val W64 l % 2=1
structure BSt where
 (bv ov cv:Nat) (lv:List Nat) (sv:List Value)
 (bw ow cw:Nat) (lw:List Nat) (sw:List Value)
def BSt.env (q:BSt) (t:Int):Env:=[(4,.p 4 0),(5,.v (.slice (some ⟨q.bv,q.ov,none⟩) q.lv.length q.cv)),(6,.v (.slice (some ⟨q.bw,q.ow,none⟩) q.lw.length q.cw)),(7,.v (.int .i64 t))]
def BSt.own (q:BSt):Ows:=[(q.bv,44,q.sv),(q.bw,44,q.sw)]
structure BSt.ok (q:BSt) (g:Nat):Prop where
 v:OW q.bv q.ov q.cv q.sv q.lv
 w:OW q.bw q.ow q.cw q.sw q.lw
 gcd:Nat.gcd (val W64 q.lv) (val W64 q.lw)=g
theorem zs6 {n:Nat} (h:n % 2=1):n≠0:=oM
theorem zdV {α:Type} (a b:α):List.Perm [a,b] [b,a]:=List.Perm.swap b a []
theorem zpo {a b:Nat} (h:zbq a b=0):a=b:=by
 unfold zbq at h;split at h
 ·cases h
 ·split at h
  ·cases h
  ·omega
theorem zfi (n:Nat):zaI n=.agg #[.int .u64 (lo n:Int),.string (zan n)]:=rfl
theorem zin (x y:Nat) (hx:x≠0) (hy:y≠0) (hbx':big x) (hby':big y):PV prog 159 #[zaI x,zaI y] (zaI (Nat.gcd x y)):=by
 have lx:(dig W64 x).length≤20000000:=qI (zaM hbx') (by decide);have ly:(dig W64 y).length≤20000000:=qI (zaM hby') (by decide);have hpx:=fun G=>PO.of_pw ((zkQ x hbx' G).mono (Ψ:=fun v ow _=>ow.length≤1∧∃g,v=.slice (some ⟨g,0,none⟩) (dig W64 x).length (dig W64 x).length∧ow=[(g,44,(dig W64 x).map n64)]) fun v ow H' _ ⟨g,h1,h2⟩=>⟨by rw[h2];simp,g,h1,h2⟩);have hpy:=fun G=>PO.of_pw ((zkQ y hby' G).mono (Ψ:=fun v ow _=>ow.length≤1∧∃g,v=.slice (some ⟨g,0,none⟩) (dig W64 y).length (dig W64 y).length∧ow=[(g,44,(dig W64 y).map n64)]) fun v ow H' _ ⟨g,h1,h2⟩=>⟨by rw[h2];simp,g,h1,h2⟩);have dx:=zak zae x;have dy:=zak zae y;have vx:=zaj zae x;have vy:=zaj zae y;generalize dig W64 x=dgx at *
 generalize dig W64 y=dgy at *
 have hvx0:val W64 dgx≠0:=by rw[vx];exact hx
 have hvy0:val W64 dgy≠0:=by rw[vy];exact hy
 refine PV.of_pc ?_;refine BD func159 ntmps159 ?_;refine uR ?_;apply EV.drawn 6 kR kR;intro x1 y1;(repeat refine' DD ?_);refine' DJ.callO rfl rfl rfl rfl rfl (hpx gH).can (fun G _ _=>hpx G) ?_;rotate_left;(repeat refine' DD ?_);refine' DJ.callO rfl rfl rfl rfl rfl (hpy gH).can (fun G _ _=>hpy G) ?_;rotate_left;refine' DJ.copy (0+1) (.inr rfl) rfl rfl rfl id rfl kR ?_;rotate_left;refine' DJ.copy (0+1+1+1) (.inr rfl) rfl rfl rfl id rfl kR ?_;rotate_left;(refine DJ.nil (fun G hG hF=>?_);(case hS|hS2=>rfl));obtain⟨⟨gy,ey,oy⟩,⟨gx,ex,ox⟩,_⟩:=hF;simp only[ex,ey,ox,oy,id];clear hpx hpy ex ey ox oy;refine uR ?_;refine EVL.permOw [(gx,44,dgx.map n64),(gy,44,dgy.map n64)] (zdV _ _) ?_;refine EVL.callW rfl rfl rfl rfl rfl ([(gx,44,dgx.map n64)]) ([(gy,44,dgy.map n64)]) rfl (zhx (Wn.of dgx) dx.1 oM hvx0) ?_;rintro v ow H1 ⟨rfl,zx,mx,rfl,hzx,hmx,hzx2⟩ hle1;refine uR ?_;refine EVL.permOw [(gy,44,dgy.map n64),(gx,44,dgx.map n64)] (zdV _ _) ?_;refine EVL.callW rfl rfl rfl rfl rfl ([(gy,44,dgy.map n64)]) ([(gx,44,dgx.map n64)]) rfl (zhx (Wn.of dgy) dy.1 oM hvy0) ?_;rintro v ow H2 ⟨rfl,zy,my,rfl,hzy,hmy,hzy2⟩ hle2;refine uR ?_;rw[show (if (zy:Int)<(zx:Int) then (zy:Int) else (zx:Int))=((min zx zy:Nat):Int) by split <;> omega];refine uR ?_;refine EVL.permOw [(gx,44,dgx.map n64),(gy,44,dgy.map n64)] (zdV _ _) ?_;refine EVL.callW rfl rfl rfl rfl rfl ([(gx,44,dgx.map n64)]) ([(gy,44,dgy.map n64)]) rfl (zji (Wn.of dgx) dx.1 oM (qH _) hvx0) ?_;rintro v ow H3 ⟨sx,ox,cx,rx,zx',rfl,hwx,hnx,hlx,hcx,rfl,hdx,hox⟩ hle3;refine uR ?_;refine EVL.permOw [(gy,44,dgy.map n64),(gx,44,sx)] (zdV _ _) ?_;refine EVL.callW rfl rfl rfl rfl rfl ([(gy,44,dgy.map n64)]) ([(gx,44,sx)]) rfl (zji (Wn.of dgy) dy.1 oM (qH _) hvy0) ?_;rintro v ow H4 ⟨sy,oy,cy,ry,zy',rfl,hwy,hny,hly,hcy,rfl,hdy,hoy⟩ hle4;refine EVL.permOw [(gx,44,sx),(gy,44,sy)] (zdV _ _) ?_
 have hgcd:Nat.gcd x y=2 ^ min zx zy*Nat.gcd (val W64 rx) (val W64 ry):=by
  have e1:zx=zx':=zmo (by rw[←hzx,hdx]) hmx hox;have e2:zy=zy':=zmo (by rw[←hzy,hdy]) hmy hoy;subst e1 e2;rw[←vx,←vy];exact znq _ _ zx zy _ _ hdx hdy hox hoy
 have htw:min zx zy≤1300000000:=oM;generalize min zx zy=tw at *
 generalize hg:Nat.gcd (val W64 rx) (val W64 ry)=g at *
 have hbg:big (Nat.gcd x y):=qI (zk2 x y hx) hbx';generalize Nat.gcd x y=gg at *
 refine uR ?_
 refine EV.loop (ι:=BSt) (fun q=>q.env (tw:Int)) (fun _=>[(4,46,Tryz.te46.zero)]) (fun q=>q.own) (fun q _=>q.ok g) (fun q=>val W64 q.lv+val W64 q.lw) ⟨gx,ox,cx,rx,sx,gy,oy,cy,ry,sy⟩
  ⟨rfl,rfl,rfl,rfl,trivial⟩ ⟨rfl,trivial⟩ rfl (fun _=>rfl) ⟨⟨hwx,hnx,hcx,qI hlx lx,hox⟩,⟨hwy,hny,hcy,qI hly ly,hoy⟩,hg⟩ ?_
 clear hdx hdy hzx hzy hwx hnx hlx hcx hwy hny hly hcy hox hoy hle1 hle2 hle3 hle4 hg;rintro⟨bv,ov,cv,lv,sv,bw,ow,cw,lw,sw⟩ G hG ⟨⟨v1,v2,v3,v4,v5⟩,⟨w1,w2,w3,w4,w5⟩,hgq⟩;dsimp only at v1 v2 v3 v4 v5 w1 w2 w3 w4 w5 hgq;unfold BSt.env BSt.own;dsimp only;refine uR ?_;refine EVL.callW rfl rfl rfl rfl rfl ([(bv,44,sv),(bw,44,sw)]) ([]) rfl (zlK v1 w1 v2 w2 oM) ?_;rintro v ow1 H5 ⟨rfl,rfl⟩ hle5;refine uR ?_;by_cases hc0:zbq (val W64 lv) (val W64 lw)=0
 ·rw[show (zbq (val W64 lv) (val W64 lw) == 0)=true by rw[hc0];rfl];have hvw:=zpo hc0;rw[←hvw,Nat.gcd_self]at hgq;refine uR ?_;refine vW ([(bv,44,sv)]) ([(bw,44,sw)]) (zog v1 v2.1 v4) ?_;rintro v ow2 H6 ⟨rfl,rfl⟩ hle6;rw[hgq,zfi];refine uR ?_
  refine EV.loop (ι:=Int × Nat) (fun q=>[(4,.p 4 0),(9,.p 9 0),(7,.v (.int .i64 q.1))]) (fun q=>[(9,46,[.int .u64 (lo q.2:Int),.string (zan q.2)]),(4,46,Tryz.te46.zero)]) (fun _=>[(bv,44,sv),(bw,44,sw)])
   (fun q _=>q.2*2 ^ q.1.toNat=gg∧q.1≤1300000000 ∧ -100000≤q.1) (fun q=>q.1.toNat) ((tw:Int),g) ⟨rfl,rfl,rfl,trivial⟩ ⟨rfl,rfl,trivial⟩ rfl (fun _=>rfl) ⟨by dsimp only;rw[qU,hgcd,qW],by dsimp only;omega,by dsimp only;omega⟩ ?_
  rintro⟨t,o⟩ G2 hG2 ⟨ht,ht1,ht2⟩;dsimp only at ht ht1 ht2;refine uR ?_;by_cases htp:t>0
  ·rw[show decide (t>0)=true by simpa using htp];obtain⟨k,hk,hkt⟩:∃k:Nat,(if (65536:Int)<t then (65536:Int) else t)=(k:Int)∧k=min t.toNat 65536:=⟨min t.toNat 65536,by split <;> omega,rfl⟩
   have hbo:big o:=by
    refine qI (zb7 ?_) hbg;rw[←ht];exact Nat.le_mul_of_pos_right _ (Nat.pow_pos (by decide))
   have hsh:=zlo o k oM hbo;refine uR ?_;rw[hk]
   repeat (first|refine RUN ?_|refine CV (hsh) ?_|refine CE (hsh) ?_)
   refine⟨(t-65536,o*2 ^ k),⟨rfl,rfl,?_,trivial⟩,⟨rfl,rfl,trivial⟩,rfl,⟨?_,by dsimp only;omega,by dsimp only;omega⟩,Hp.Le.refl _,by dsimp only;omega⟩
   ·rw[show IntKind.i64.wrap (t-65536)=t-65536 by rw[pM];omega];rfl
   ·dsimp only;rw[←ht,Nat.mul_assoc,←Nat.pow_add];congr 2;omega
  ·rw[show decide (t>0)=false by simpa using htp];rw[show t.toNat=0 by omega,Nat.pow_zero,Nat.mul_one]at ht;subst ht;refine uR ?_;rfl
 ·rw[show (zbq (val W64 lv) (val W64 lw) == 0)=false by simpa using hc0];refine uR ?_;refine EV.meet (fun env' bx' H'=>∃q:BSt,zet env' (q.env (tw:Int))∧zey bx' [(4,46,Tryz.te46.zero)]∧H'.ow=q.own∧G.Le H'.ro∧q.ok g∧val W64 q.lw<val W64 q.lv∧val W64 q.lv+val W64 q.lw=val W64 lv+val W64 lw) ?_ ?_
  ·rintro env' bx' ⟨G6,ow6,base6⟩ _ ⟨⟨bv,ov,cv,lv,sv,bw,ow,cw,lw,sw⟩,he,hbx6,how,hleG,⟨⟨v1,v2,v3,v4,v5⟩,⟨w1,w2,w3,w4,w5⟩,hgq⟩,hlt,hsum⟩;dsimp only at v1 v2 v3 v4 v5 w1 w2 w3 w4 w5 hgq hlt hsum;refine EV.less _ _ he hbx6 rfl ?_;unfold BSt.own at how;dsimp only at how;subst how;unfold BSt.env;dsimp only
   have hlen:lw.length≤lv.length:=by
    refine Nat.le_of_not_lt fun h=>?_;have:=zdP zae v2.1 w2 h;omega
   refine uR ?_;refine EVL.callW rfl rfl rfl rfl rfl ([(bv,44,sv),(bw,44,sw)]) ([]) rfl (zkO v1 w1 v2.1 w2.1 oM hlen v3 oM) ?_;rintro v ow7 H7 ⟨s7,r7,rfl,hw7,hn7,hl7,rfl,hv7⟩ hle7;refine uR ?_;refine EVL.callW rfl rfl rfl rfl rfl ([(bv,44,s7)]) ([(bw,44,sw)]) rfl (zji hw7 hn7.1 oM oM oM) ?_;rintro v ow8 H8 ⟨s8,o8,c8,r8,z8,rfl,hw8,hn8,hl8,hc8,rfl,hd8,ho8⟩ hle8;refine uR ?_;have hr:=zoS (val W64 lv) (val W64 lw) z8 (val W64 r8) w5 oM (by rw[←hv7];exact hd8);have hle9:val W64 r8≤val W64 r7:=by rw[hd8];exact Nat.le_mul_of_pos_left _ (Nat.pow_pos (by decide))
   refine⟨⟨bv,o8,c8,r8,s8,bw,ow,cw,lw,sw⟩,⟨rfl,rfl,rfl,rfl,trivial⟩,⟨rfl,trivial⟩,rfl,⟨⟨hw8,hn8,hc8,by dsimp only;omega,ho8⟩,⟨w1,w2,w3,w4,w5⟩,by dsimp only;rw[hr];exact hgq⟩,(hleG.trans hle7).trans hle8,?_⟩;dsimp only;have:=zs6 w5;omega
  ·by_cases hlt:zbq (val W64 lv) (val W64 lw)<0
   ·rw[show decide (zbq (val W64 lv) (val W64 lw)<0)=true by simpa using hlt]
    have hvl:val W64 lv<val W64 lw:=by
     unfold zbq at hlt;split at hlt
     ·assumption
     ·split at hlt <;> simp at hlt
    refine EV.permOw [(bw,44,sw),(bv,44,sv)] (zdV _ _) ?_;refine uR ?_;exact⟨⟨bw,ow,cw,lw,sw,bv,ov,cv,lv,sv⟩,⟨rfl,rfl,rfl,rfl,trivial⟩,⟨rfl,trivial⟩,rfl,hle5,⟨⟨w1,w2,w3,w4,w5⟩,⟨v1,v2,v3,v4,v5⟩,by dsimp only;rw[Nat.gcd_comm];exact hgq⟩,hvl,Nat.add_comm _ _⟩
   ·rw[show decide (zbq (val W64 lv) (val W64 lw)<0)=false by simpa using hlt]
    have hvl:val W64 lw<val W64 lv:=by
     unfold zbq at hlt hc0;split at hlt
     ·simp at hlt
     ·rename_i h1;rw[if_neg h1]at hc0;split at hc0
      ·assumption
      ·simp at hc0
    refine uR ?_;exact⟨⟨bv,ov,cv,lv,sv,bw,ow,cw,lw,sw⟩,⟨rfl,rfl,rfl,rfl,trivial⟩,⟨rfl,trivial⟩,rfl,hle5,⟨⟨v1,v2,v3,v4,v5⟩,⟨w1,w2,w3,w4,w5⟩,hgq⟩,hvl,rfl⟩
theorem zsM (c1 c2:Nat) (h1:big c1) (h2:big c2) (sx sy:Bool) (hsx:c1=0→sx=false) (hsy:c2=0→sy=false) :
  PV prog 106 #[.agg #[.bool sx,.int .u64 (lo c1:Int),.string (zan c1)],.agg #[.bool sy,.int .u64 (lo c2:Int),.string (zan c2)]] (zaI (Nat.gcd c1 c2)):=by
 refine PV.of_pc ?_;refine BD func106 ntmps106 ?_;refine uR ?_
 (apply EV.drawn 7 kR kR;intro xv yw;(repeat (first|refine' DD ?_));refine DJ.nil (fun G hG hF=>?_);(case hS|hS2=>rfl))
 repeat (first|refine RUN ?_|refine CV (zaP c1 c2 h1 h2) ?_|refine CE (zaP c1 c2 h1 h2) ?_)
 refine EV.meet (fun env' bx' H'=>∃u w:Nat,zet env' [(4,.p 4 0),(5,.p 5 0),(6,.p 6 0)]∧zey bx' [(4,46,Tryz.te46.zero),(5,46,[.int .u64 (lo u:Int),.string (zan u)]),(6,46,[.int .u64 (lo w:Int),.string (zan w)])]∧H'.ow=[]∧w≤u∧big u∧big w∧Nat.gcd u w=Nat.gcd c1 c2) ?_ ?_
 ·rintro env' bx' ⟨G1,ow1,base1⟩ hb ⟨u,w,he,hbx,how,hwu,hu,hw,hg⟩;obtain rfl:base1=⟨fun _=>none,[]⟩:=hb;obtain rfl:ow1=[]:=how;refine EV.less _ _ he hbx rfl ?_;clear h1 h2 hsx hsy hbx he;generalize Nat.gcd c1 c2=gg at *
  subst hg
  repeat (first|refine RUN ?_|refine CV (za6 w hw) ?_|refine CE (za6 w hw) ?_)
  rw[zbN];by_cases hw0:w=0
  ·subst hw0;rw[qD rfl,Nat.gcd_zero_right];refine uR ?_;rfl
  ·rw[qC hw0]
   repeat (first|refine RUN ?_|refine CV (zeS u w hw0 hu hw) ?_|refine CE (zeS u w hw0 hu hw) ?_)
   have hm:u % w<w:=qn _ oM;have hgr:Nat.gcd u w=Nat.gcd w (u % w):=by rw[Nat.gcd_comm,Nat.gcd_rec,Nat.gcd_comm]
   have hbm:big (u % w):=qI (ztU u w) hu;rw[hgr];generalize u % w=r at *
   generalize u / w=qq at *
   clear hgr hwu hu;rw[zfi,zfi];refine uR ?_;refine EV.less [(4,.p 4 0),(5,.p 5 0),(6,.p 6 0),(8,.p 8 0)] ([(5,46,[.int .u64 (lo u:Int),.string (zan u)]),(4,46,Tryz.te46.zero),(6,46,[.int .u64 (lo w:Int),.string (zan w)]),(8,46,[.int .u64 (lo r:Int),.string (zan r)])]) ⟨rfl,rfl,rfl,rfl,trivial⟩ ⟨rfl,rfl,rfl,rfl,trivial⟩ rfl ?_;apply EV.drawnS ([(5,46,[.int .u64 (lo u:Int),.string (zan u)])]) 3 kR kR;intro xv yw;(repeat refine' DD ?_);(refine DJ.nil (fun G hG hF=>?_);(case hS|hS2=>rfl);(case hD=>rfl))
   repeat (first|refine RUN ?_|refine CV (za6 r hbm) ?_|refine CE (za6 r hbm) ?_)
   rw[zbN];by_cases hr0:r=0
   ·subst hr0;rw[qD rfl,Nat.gcd_zero_right];refine uR ?_;rfl
   ·rw[qC hr0]
    repeat (first|refine RUN ?_|refine CV (zdc w) ?_|refine CE (zdc w) ?_)
    by_cases hws:w<W64
    ·have hrs:r<W64:=oM;rw[qD hws,if_pos hws]
     repeat (first|refine RUN ?_|refine CV (zdc r) ?_|refine CE (zdc r) ?_)
     rw[qD hrs,if_pos hrs];refine uR ?_;refine EV.loop (ι:=Nat × Nat) (fun q=>[(4,.p 4 0),(10,.v (n64 q.1)),(12,.v (n64 q.2))]) (fun _=>[(4,46,Tryz.te46.zero)]) (fun _=>[]) (fun q _=>q.1<W64∧q.2<W64∧Nat.gcd q.1 q.2=Nat.gcd w r) (fun q=>q.2) (w,r) ⟨rfl,rfl,rfl,trivial⟩ ⟨rfl,trivial⟩ rfl (fun _=>rfl) ⟨hws,hrs,rfl⟩ ?_;rintro⟨m,k⟩ G2 hG2 ⟨hms,hks,hgk⟩;dsimp only at hms hks hgk;refine uR ?_;by_cases hk0:k=0
     ·subst hk0;rw[show decide ((((m,0):Nat × Nat).2:Int)>0)=false from rfl];rw[Nat.gcd_zero_right]at hgk
      repeat (first|refine RUN ?_|refine CV (zcE m hms) ?_|refine CE (zcE m hms) ?_)
      rw[hgk]
     ·rw[show decide ((((m,k):Nat × Nat).2:Int)>0)=true by simp;omega];refine uR ?_;apply EV.drawn 6 kR kR;intro xv yw;(repeat refine' DD ?_);refine' DJ.ofVal (zaa.rem rfl rfl rfl rfl (show ((k:Nat):Int)≠0 by omega)) rfl rfl rfl ?_;rotate_left;(repeat refine' DD ?_);(refine DJ.nil (fun G hG hF=>?_);(case hS|hS2=>rfl));rw[show (((m,k):Nat × Nat).1:Int).tmod (((m,k):Nat × Nat).2:Int)=((m % k:Nat):Int) from zhv m k];refine uR ?_;refine⟨(k,m % k),⟨rfl,rfl,rfl,trivial⟩,⟨rfl,trivial⟩,rfl,⟨hks,Nat.lt_of_le_of_lt (Nat.mod_le m k) hms,?_⟩,hG,qn _ oM⟩
      ·dsimp only;rw[←hgk,Nat.gcd_comm m k,Nat.gcd_rec k m,Nat.gcd_comm]
    ·rw[qC hws]
     repeat (first|refine RUN ?_|refine CV (zin w r hw0 hr0 hw hbm) ?_|refine CE (zin w r hw0 hr0 hw hbm) ?_)
     rfl
 ·by_cases hlt:c1<c2
  ·rw[zca hlt,show decide ((-1:Int)<0)=true from rfl];refine uR ?_;exact⟨c2,c1,⟨rfl,rfl,rfl,trivial⟩,⟨rfl,rfl,rfl,trivial⟩,rfl,by omega,h2,h1,Nat.gcd_comm _ _⟩
  ·rw[show decide (zbq c1 c2<0)=false by unfold zbq;rw[if_neg hlt];split <;> rfl];refine uR ?_;exact⟨c1,c2,⟨rfl,rfl,rfl,trivial⟩,⟨rfl,rfl,rfl,trivial⟩,rfl,by omega,h1,h2,rfl⟩
theorem zjS (a b:Int) (ha:zfy a) (hb:zfy b):PV prog 106 #[zdO a,zdO b] (zaI (Nat.gcd a.natAbs b.natAbs)) :=
 zsM a.natAbs b.natAbs ha hb _ _ (fun h=>by simp;omega) (fun h=>by simp;omega)
abbrev frV (n:Int) (d:Nat):Value:=.agg #[.bool (decide (n<0)),.int .u64 (lo n.natAbs:Int),.string (zan n.natAbs),.int .u64 (lo d:Int),.string (zan d)]
def dk (d:Nat):Nat:=if d=1 then 0 else d
abbrev zaf (q:Rat):Value:=frV q.num (dk q.den)
theorem zoN:dk 1=0:=rfl
theorem zqV {d:Nat} (h:d≠1):dk d=d:=if_neg h
theorem zsH (d:Nat):bl (dk d)≤bl d:=by
 unfold dk;split
 ·rw[zbi];omega
 ·exact qH _
theorem zoO (q:Rat):dk q.den=0↔q.den=1:=by
 have:=q.den_nz;unfold dk;split <;> omega
theorem ztV:bl 1=1:=by have:=zk3 0;simpa using this
theorem zjy {n:Nat}:bl n=1↔n=1:=by
 constructor
 ·intro h;have h1:=zdA n;rw[h]at h1;have:n≠0:=fun e=>by rw[e,zbi]at h;omega
  omega
 ·rintro rfl;exact ztV
theorem zhK (n:Nat):(((bl n:Nat):Int) == 1)=decide (n=1):=by
 by_cases h:n=1
 ·rw[qD h,zjy.2 h];rfl
 ·rw[qC h];have:bl n≠1:=fun e=>h (zjy.1 e);simp;omega
theorem zdN (n:Int):frV n 0=.agg #[.bool (decide (n<0)),.int .u64 (lo n.natAbs:Int),.string (zan n.natAbs),.int .u64 0,.string ⟨#[]⟩]:=by
 unfold frV;rw[zbR (n:=0) (by decide)];rfl
theorem ziW (n:Int) (d:Nat) (hd:big d):PV prog 108 #[zdO n,zaI d] (frV n (dk d)):=by
 refine PV.of_pc ?_;refine BD func108 ntmps108 ?_
 repeat (first|refine RUN ?_|refine CV (za6 d hd) ?_|refine CE (za6 d hd) ?_)
 rw[zhK];by_cases h:d=1
 ·rw[qD h];refine uR ?_;rw[h,zoN,zdN]
 ·rw[qC h];refine uR ?_;rw[zqV h]
theorem zei (a b:Nat) (ha:big a) (hb:big b) (h0:b≠0):PV prog 107 #[zaI a,zaI b] (zaI (a / b)):=by
 refine PV.of_pc ?_;refine BD func107 ntmps107 ?_
 repeat (first|refine RUN ?_|refine CV (za6 b hb) ?_|refine CE (za6 b hb) ?_)
 rw[zhK];by_cases h:b=1
 ·rw[qD h];refine uR ?_;rw[h,Nat.div_one]
 ·rw[qC h]
  repeat (first|refine RUN ?_|refine CV (zeS a b h0 ha hb) ?_|refine CE (zeS a b h0 ha hb) ?_)
  rfl
theorem ziX (n:Int) (b:Nat) (hn:zfy n) (hb:big b) (h0:b≠0) (hdv:b ∣ n.natAbs):PV prog 109 #[zdO n,zaI b] (zdO (n / (b:Int))):=by
 have hs:decide (n.sign<0)=decide (n<0):=by rw[decide_eq_decide];exact Int.sign_neg_iff
 have hf:=zbu (decide (n<0)) (n.natAbs / b) (qI (zfz _ _) hn)
 have e:sg (decide (n<0)) (n.natAbs / b)=n / (b:Int):=by
  rw[zpu n b hdv];unfold sg;by_cases h:n<0 <;> simp[h]
 rw[e]at hf;refine PV.of_pc ?_;refine BD func109 ntmps109 ?_;refine uR ?_;apply EV.drawn 7 kR kR;intro xv yw;(repeat (first|refine' DD ?_|(refine' DC (za4 n hn) (h:=?_);rotate_left)));rw[hs];(repeat (first|refine' DD ?_|(refine' DC (zcw n) (h:=?_);rotate_left)|(refine' DC (zei _ _ hn hb h0) (h:=?_);rotate_left)));(refine DJ.nil (fun G hG hF=>?_);(case hS|hS2=>rfl))
 repeat (first|refine RUN ?_|refine CV (hf) ?_|refine CE (hf) ?_)
 rfl
theorem zge (n:Int) (d:Nat) (hn:zfy n) (hd:big d) (hnd:big (n.natAbs*d)):PV prog 73 #[zdO n,zaI d] (zdO (n*d)):=by
 have hm:=zhu n (d:Int) hn hd (by show big (n*(d:Int)).natAbs;rw[Int.natAbs_mul];exact hnd);refine PV.of_pc ?_;refine BD func73 ntmps73 ?_;refine uR ?_;apply EV.drawn 3 kR kR;intro xv yw;(repeat (first|refine' DD ?_|(refine' DC (zbu false d hd) (h:=?_);rotate_left)));(refine DJ.nil (fun G hG hF=>?_);(case hS|hS2=>rfl))
 repeat (first|refine RUN ?_|refine CV (hm) ?_|refine CE (hm) ?_)
 rfl
theorem zbc (q:Rat) (h:big q.den):PV prog 71 #[zaf q] (.bool (decide (q.den=1))):=by
 refine PV.of_pc ?_;refine BD func71 ntmps71 ?_
 repeat (first|refine RUN ?_|refine CV (za6 (dk q.den) (qI (zsH _) h)) ?_|refine CE (za6 (dk q.den) (qI (zsH _) h)) ?_)
 have e:(((bl (dk q.den):Nat):Int) == 0)=decide (q.den=1):=by
  by_cases h1:q.den=1
  ·rw[qD h1,(zoO q).2 h1,zbi];rfl
  ·rw[qC h1];have h2:bl (dk q.den)≠0:=fun e=>h1 ((zoO q).1 (zhL.1 e));simp;omega
 rw[e]
theorem zeE (q:Rat) (h:big q.den):PV prog 74 #[zaf q] (zaI q.den):=by
 refine PV.of_pc ?_;refine BD func74 ntmps74 ?_
 repeat (first|refine RUN ?_|refine CV (zbc q h) ?_|refine CE (zbc q h) ?_)
 by_cases h1:q.den=1
 ·rw[qD h1]
  repeat (first|refine RUN ?_|refine CV (zcE 1 (by decide)) ?_|refine CE (zcE 1 (by decide)) ?_)
  rw[h1]
 ·rw[qC h1];refine uR ?_;rw[zqV h1]
theorem zcP (q:Rat) (h:zfy q.num):PV prog 45 #[zaf q] (.int .i64 q.num.sign):=by
 refine PV.of_pc ?_;refine BD func45 ntmps45 ?_
 repeat (first|refine RUN ?_|refine CV (za4 q.num h) ?_|refine CE (za4 q.num h) ?_)
 rfl
theorem zsb (q:Rat):PV prog 139 #[zaf q] (zdO q.num):=by
 refine PV.of_pc ?_;refine BD func139 ntmps139 ?_;refine uR ?_;rfl
theorem zub (q:Rat) (h:zfy q.num):PV prog 83 #[zaf q] (zaf (-q)):=by
 refine PV.of_pc ?_;refine BD func83 ntmps83 ?_;refine uR ?_
 (apply EV.drawn 5 kR kR;intro xv yw;(repeat (first|refine' DD ?_|(refine' DC (zeq q.num h) (h:=?_);rotate_left)));refine DJ.nil (fun G hG hF=>?_);(case hS|hS2=>rfl));refine uR ?_;rfl
theorem zhE (z:Int) (h1:-9223372036854775808≤z) (h2:z<9223372036854775808):PV prog 57 #[.int .i64 z] (zaf (z:Rat)):=by
 refine PV.of_pc ?_;refine BD func57 ntmps57 ?_
 repeat (first|refine RUN ?_|refine CV (ziq z h1 h2) ?_|refine CE (ziq z h1 h2) ?_)
 show _=frV z 0;rw[zdN]
theorem zj0 (n:Int) (d:Nat) (hn:zfy n) (hd:big d) (h0:d≠0):PV prog 165 #[zdO n,zaI d] (zaf (mkRat n d)):=by
 have hl:=zdR n d h0;have hg0:Nat.gcd n.natAbs d≠0:=Nat.gcd_ne_zero_right h0;have hgb:big (Nat.gcd n.natAbs d):=qI (zbY _ _ h0) hd;have hg:=zjS n (d:Int) hn hd;have f1:=ziX n (Nat.gcd n.natAbs d) hn hgb hg0 (Nat.gcd_dvd_left ..);have f2:=zei d (Nat.gcd n.natAbs d) hd hgb hg0;have f3:=ziW (n / (Nat.gcd n.natAbs d:Nat)) (d / Nat.gcd n.natAbs d) (qI (zfz _ _) hd);rw[←hl.1]at f1;rw[←hl.2]at f2;rw[←hl.1,←hl.2]at f3;refine PV.of_pc ?_;refine BD func165 ntmps165 ?_;refine uR ?_
 (apply EV.drawn 5 kR kR;intro xv yw;(repeat (first|refine' DD ?_|(refine' DC (zbu false d hd) (h:=?_);rotate_left)|(refine' DC (hg) (h:=?_);rotate_left)));refine DJ.nil (fun G hG hF=>?_);(case hS|hS2=>rfl));refine uR ?_
 (apply EV.drawn 7 kR kR;intro xv yw;(repeat (first|refine' DD ?_|(refine' DC (f1) (h:=?_);rotate_left)|(refine' DC (f2) (h:=?_);rotate_left)|(refine' DC (f3) (h:=?_);rotate_left)));refine DJ.nil (fun G hG hF=>?_);(case hS|hS2=>rfl));refine uR ?_;rfl
theorem zsZ (n d:Int) (hn:zfy n) (hd:zfy d) (h0:d≠0):PV prog 114 #[zdO n,zdO d] (.tuple #[zaf (mkRat (if d<0 then -n else n) d.natAbs),.bool true]):=by
 have l1:=zj0 (-n) d.natAbs (by show big (-n).natAbs;rw[Int.natAbs_neg];exact hn) hd oM;have l2:=zj0 n d.natAbs hn hd oM;refine PV.of_pc ?_;refine BD func114 ntmps114 ?_
 repeat (first|refine RUN ?_|refine CV (za4 d hd) ?_|refine CE (za4 d hd) ?_)
 rw[show (d.sign == 0)=false by simp[Int.sign_eq_zero_iff_zero,h0]]
 repeat (first|refine RUN ?_|refine CV (za4 d hd) ?_|refine CE (za4 d hd) ?_)
 by_cases h:d<0
 ·rw[qD (Int.sign_neg_iff.2 h),if_pos h]
  repeat (first|refine RUN ?_|refine CV (zeq n hn) ?_|refine CE (zeq n hn) ?_)
  apply EV.drawn 3 kR kR;intro xv yw;(repeat (first|refine' DD ?_|(refine' DC (zcw d) (h:=?_);rotate_left)));(refine DJ.nil (fun G hG hF=>?_);(case hS|hS2=>rfl))
  repeat (first|refine RUN ?_|refine CV (l1) ?_|refine CE (l1) ?_)
  rfl
 ·rw[qC (fun e=>h (Int.sign_neg_iff.1 e)),if_neg h];refine uR ?_;apply EV.drawn 3 kR kR;intro xv yw;(repeat (first|refine' DD ?_|(refine' DC (zcw d) (h:=?_);rotate_left)));(refine DJ.nil (fun G hG hF=>?_);(case hS|hS2=>rfl))
  repeat (first|refine RUN ?_|refine CV (l2) ?_|refine CE (l2) ?_)
  rfl
abbrev frL (n:Int) (d:Nat):List Value:=[.bool (decide (n<0)),.int .u64 (lo n.natAbs:Int),.string (zan n.natAbs),.int .u64 (lo d:Int),.string (zan d)]
abbrev sm (q:Rat):Prop:=ht q≤100000000
theorem sm.num {q:Rat} (h:sm q):bl q.num.natAbs≤100000000:=qI (za2 q) h
theorem sm.den {q:Rat} (h:sm q):bl q.den≤100000000:=qI (zaU q) h
theorem zpe (a b:Rat) (ha:sm a) (hb:sm b):PV prog 81 #[zaf a,zaf b] (zaf (a*b)):=by
 have na:=ha.num;have da:=ha.den;have nb:=hb.num;have db:=hb.den;have bna:zfy a.num:=qI na oM;have bnb:zfy b.num:=qI nb oM;have bda:big a.den:=qI da oM;have bdb:big b.den:=qI db oM;have hm:=zte a b _ _ rfl rfl;generalize hg:Nat.gcd a.num.natAbs b.den=g at hm;generalize hh:Nat.gcd b.num.natAbs a.den=h at hm;have hg0:g≠0:=by rw[←hg];exact Nat.gcd_ne_zero_right b.den_nz
 have hh0:h≠0:=by rw[←hh];exact Nat.gcd_ne_zero_right a.den_nz
 have bg:big g:=by rw[←hg];exact qI (zbY _ _ b.den_nz) bdb
 have bh:big h:=by rw[←hh];exact qI (zbY _ _ a.den_nz) bda
 have g1:=zjS a.num (b.den:Int) bna bdb;have g2:=zjS b.num (a.den:Int) bnb bda;rw[Int.natAbs_natCast,hg]at g1;rw[Int.natAbs_natCast,hh]at g2;have p1:=ziX a.num g bna bg hg0 (by rw[←hg];exact Nat.gcd_dvd_left ..);have p2:=ziX b.num h bnb bh hh0 (by rw[←hh];exact Nat.gcd_dvd_left ..);have b1:bl (a.num / (g:Int)).natAbs≤100000000:=qI (zb7 (zcO _ _)) na;have b2:bl (b.num / (h:Int)).natAbs≤100000000:=qI (zb7 (zcO _ _)) nb;have b3:bl (a.den / h)≤100000000:=qI (zfz _ _) da;have b4:bl (b.den / g)≤100000000:=qI (zfz _ _) db
 have m1:=zhu (a.num / (g:Int)) (b.num / (h:Int)) (qI b1 oM) (qI b2 oM) (by
  show big (_*_:Int).natAbs;rw[Int.natAbs_mul];have:=zbZ (a.num / (g:Int)).natAbs (b.num / (h:Int)).natAbs;show bl _≤_;omega)
 have m2:=zgR (a.den / h) (b.den / g) (qI b3 oM) (qI b4 oM);have pk:=ziW (a*b).num (a*b).den (by rw[hm.2];have:=zbZ (a.den / h) (b.den / g);show bl _≤_;omega);have o1:=zei a.den h bda bh hh0;have o2:=zei b.den g bdb bg hg0;rw[←hm.1]at m1;rw[←hm.2]at m2;have w1:=zbc a bda;have w2:=zbc b bdb;refine PV.of_pc ?_;refine BD func81 ntmps81 ?_
 repeat (first|refine RUN ?_|refine CV (w1) ?_|refine CE (w1) ?_)
 refine EVL.meet (fun env' bx' H'=>zet env' [(12,.v (.bool (decide (a.den=1∧b.den=1)))),(4,.p 4 0),(3,.p 3 0),(2,.p 2 0)]∧zey bx' [(4,50,Tryz.te50.zero),(3,50,frL b.num (dk b.den)),(2,50,frL a.num (dk a.den))]∧H'=⟨fun _=>none,[],⟨fun _=>none,[]⟩⟩) ?_ ?_
 ·rintro env' bx' H' _ ⟨he,hbx,rfl⟩;refine EV.less _ _ he hbx rfl ?_;by_cases hab:a.den=1∧b.den=1
  ·rw[qD hab];have e1:g=1:=by rw[←hg,hab.2,Nat.gcd_one_right]
   have e2:h=1:=by rw[←hh,hab.1,Nat.gcd_one_right]
   have e3:(a*b).den=1:=by rw[hm.2,hab.1,hab.2,e1,e2]
   rw[e1,e2]at m1;simp only[Int.natCast_one,Int.ediv_one]at m1
   repeat (first|refine RUN ?_|refine CV (m1) ?_|refine CE (m1) ?_)
   show _=frV (a*b).num (dk (a*b).den);rw[e3,zoN,zdN]
  ·rw[qC hab];refine uR ?_;have d1:=zeE a bda;have d2:=zeE b bdb;have s1:=zbu false a.den bda;have s2:=zbu false b.den bdb
   (apply EV.drawn 7 kR kR;intro xv yw;(repeat (first|refine' DD ?_|(refine' DC (d2) (h:=?_);rotate_left)|(refine' DC (s2) (h:=?_);rotate_left)|(refine' DC (g1) (h:=?_);rotate_left)));refine DJ.nil (fun G hG hF=>?_);(case hS|hS2=>rfl));refine uR ?_
   (apply EV.drawn 7 kR kR;intro xv yw;(repeat (first|refine' DD ?_|(refine' DC (d1) (h:=?_);rotate_left)|(refine' DC (s1) (h:=?_);rotate_left)|(refine' DC (g2) (h:=?_);rotate_left)));refine DJ.nil (fun G hG hF=>?_);(case hS|hS2=>rfl));refine uR ?_;apply EV.drawn 16 kR kR;intro xv yw;(repeat (first|refine' DD ?_|(refine' DC (p1) (h:=?_);rotate_left)|(refine' DC (p2) (h:=?_);rotate_left)|(refine' DC (m1) (h:=?_);rotate_left)|(refine' DC (d1) (h:=?_);rotate_left)|(refine' DC (d2) (h:=?_);rotate_left)|(refine' DC (o1) (h:=?_);rotate_left)|(refine' DC (o2) (h:=?_);rotate_left)));(refine DJ.nil (fun G hG hF=>?_);(case hS|hS2=>rfl))
   repeat (first|refine RUN ?_|refine CV (o2) ?_|refine CV (m2) ?_|refine CV (pk) ?_|refine CE (o2) ?_|refine CE (m2) ?_|refine CE (pk) ?_)
   rfl
 ·by_cases ha1:a.den=1
  ·rw[qD ha1]
   repeat (first|refine RUN ?_|refine CV (w2) ?_|refine CE (w2) ?_)
   refine⟨⟨?_,rfl,rfl,rfl,trivial⟩,⟨rfl,rfl,rfl,trivial⟩,rfl⟩;simp[ha1];rfl
  ·rw[qC ha1];refine uR ?_;refine⟨⟨?_,rfl,rfl,rfl,trivial⟩,⟨rfl,rfl,rfl,trivial⟩,rfl⟩;simp[ha1];rfl
theorem zez (a b:Rat) (ha:sm a) (hb:sm b):PV prog 56 #[zaf a,zaf b] (zaf (a+b)):=by
 have na:=ha.num;have da:=ha.den;have nb:=hb.num;have db:=hb.den;have bna:zfy a.num:=qI na oM;have bnb:zfy b.num:=qI nb oM;have bda:big a.den:=qI da oM;have bdb:big b.den:=qI db oM;have hm:=ztd a b _ _ _ _ _ rfl rfl rfl rfl rfl;generalize hg:Nat.gcd a.den b.den=g at hm;have hg0:g≠0:=by rw[←hg];exact Nat.gcd_ne_zero_right b.den_nz
 have bgl:bl g≤100000000:=by rw[←hg];exact qI (zbY _ _ b.den_nz) db
 have bg:big g:=qI bgl oM;have g1:=zjS (a.den:Int) (b.den:Int) bda bdb;rw[Int.natAbs_natCast,Int.natAbs_natCast,hg]at g1;have o1:=zei a.den g bda bg hg0;have o2:=zei b.den g bdb bg hg0;have b1:bl (a.den / g)≤100000000:=qI (zfz _ _) da;have b2:bl (b.den / g)≤100000000:=qI (zfz _ _) db
 have hone:a.den=1∧b.den=1→g=1∧a.den / g=1∧b.den / g=1:=fun h=>by
  have:g=1:=by rw[←hg,h.1,h.2];rfl
  rw[this,h.1,h.2];exact⟨rfl,rfl,rfl⟩
 generalize hdown:a.den / g=down at *
 generalize hother:b.den / g=other at *
 have c1:=zbZ a.num.natAbs other;have c2:=zbZ b.num.natAbs down;have t1:=zge a.num other bna (qI b2 oM) (by show bl _≤_;omega);have t2:=zge b.num down bnb (qI b1 oM) (by show bl _≤_;omega);have c1':bl (a.num*(other:Int)).natAbs≤200000000:=by rw[Int.natAbs_mul];simp;omega
 have c2':bl (b.num*(down:Int)).natAbs≤200000000:=by rw[Int.natAbs_mul];simp;omega
 have c3:=zov (a.num*(other:Int)).natAbs (b.num*(down:Int)).natAbs;have ad:=zhs (a.num*(other:Int)) (b.num*(down:Int)) (qI c1' oM) (qI c2' oM) (by show bl _≤_;omega)
 have bup:bl (a.num*(other:Int)+b.num*(down:Int)).natAbs≤200000001:=by
  have:=zc5 (a.num*(other:Int)) (b.num*(down:Int));omega
 generalize hup:a.num*(other:Int)+b.num*(down:Int)=up at *
 generalize hh:Nat.gcd up.natAbs g=h at hm;have hh0:h≠0:=by rw[←hh];exact Nat.gcd_ne_zero_right hg0
 have bh:big h:=by rw[←hh];exact qI (zbY _ _ hg0) bg
 have g2:=zjS up (g:Int) (qI bup oM) bg;rw[Int.natAbs_natCast,hh]at g2;have p1:=ziX up h (qI bup oM) bh hh0 (by rw[←hh];exact Nat.gcd_dvd_left ..);have o3:=zei b.den h bdb bh hh0;have b4:bl (b.den / h)≤100000000:=qI (zfz _ _) db;have m2:=zgR down (b.den / h) (qI b1 oM) (qI b4 oM);have pk:=ziW (a+b).num (a+b).den (by rw[hm.2];have:=zbZ down (b.den / h);show bl _≤_;omega);rw[←hm.1]at p1;rw[←hm.2]at m2;have w1:=zbc a bda;have w2:=zbc b bdb;refine PV.of_pc ?_;refine BD func56 ntmps56 ?_
 repeat (first|refine RUN ?_|refine CV (w1) ?_|refine CE (w1) ?_)
 refine EVL.meet (fun env' bx' H'=>zet env' [(15,.v (.bool (decide (a.den=1∧b.den=1)))),(4,.p 4 0),(3,.p 3 0),(2,.p 2 0)]∧zey bx' [(4,50,Tryz.te50.zero),(3,50,frL b.num (dk b.den)),(2,50,frL a.num (dk a.den))]∧H'=⟨fun _=>none,[],⟨fun _=>none,[]⟩⟩) ?_ ?_
 ·rintro env' bx' H' _ ⟨he,hbx,rfl⟩;refine EV.less _ _ he hbx rfl ?_;by_cases hab:a.den=1∧b.den=1
  ·rw[qD hab];obtain⟨e1,e2,e3⟩:=hone hab;have e4:h=1:=by rw[←hh,e1,Nat.gcd_one_right]
   have e5:(a+b).den=1:=by rw[hm.2,e2,hab.2,e4]
   have e6:(a+b).num=a.num+b.num:=by rw[hm.1,e4,←hup,e2,e3];simp
   have c4:=zov a.num.natAbs b.num.natAbs;have ad':=zhs a.num b.num bna bnb (by show bl _≤_;omega)
   repeat (first|refine RUN ?_|refine CV (ad') ?_|refine CE (ad') ?_)
   show _=frV (a+b).num (dk (a+b).den);rw[e5,zoN,zdN,e6]
  ·rw[qC hab];refine uR ?_;have d1:=zeE a bda;have d2:=zeE b bdb;have s1:=zbu false a.den bda;have s2:=zbu false b.den bdb;have s3:=zbu false g bg
   (apply EV.drawn 8 kR kR;intro xv yw;(repeat (first|refine' DD ?_|(refine' DC (d1) (h:=?_);rotate_left)|(refine' DC (s1) (h:=?_);rotate_left)|(refine' DC (d2) (h:=?_);rotate_left)|(refine' DC (s2) (h:=?_);rotate_left)|(refine' DC (g1) (h:=?_);rotate_left)));refine DJ.nil (fun G hG hF=>?_);(case hS|hS2=>rfl));refine uR ?_
   (apply EV.drawn 10 kR kR;intro xv yw;(repeat (first|refine' DD ?_|(refine' DC (d1) (h:=?_);rotate_left)|(refine' DC (d2) (h:=?_);rotate_left)|(refine' DC (o1) (h:=?_);rotate_left)|(refine' DC (o2) (h:=?_);rotate_left)));refine DJ.nil (fun G hG hF=>?_);(case hS|hS2=>rfl));refine uR ?_
   (apply EV.drawn 10 kR kR;intro xv yw;(repeat (first|refine' DD ?_|(refine' DC (t1) (h:=?_);rotate_left)|(refine' DC (t2) (h:=?_);rotate_left)|(refine' DC (ad) (h:=?_);rotate_left)));refine DJ.nil (fun G hG hF=>?_);(case hS|hS2=>rfl));refine uR ?_
   (apply EV.drawn 5 kR kR;intro xv yw;(repeat (first|refine' DD ?_|(refine' DC (s3) (h:=?_);rotate_left)|(refine' DC (g2) (h:=?_);rotate_left)));refine DJ.nil (fun G hG hF=>?_);(case hS|hS2=>rfl));refine uR ?_
   (apply EV.drawn 10 kR kR;intro xv yw;(repeat (first|refine' DD ?_|(refine' DC (p1) (h:=?_);rotate_left)|(refine' DC (d2) (h:=?_);rotate_left)|(refine' DC (o3) (h:=?_);rotate_left)|(refine' DC (m2) (h:=?_);rotate_left)|(refine' DC (pk) (h:=?_);rotate_left)));refine DJ.nil (fun G hG hF=>?_);(case hS|hS2=>rfl));refine uR ?_;rfl
 ·by_cases ha1:a.den=1
  ·rw[qD ha1]
   repeat (first|refine RUN ?_|refine CV (w2) ?_|refine CE (w2) ?_)
   refine⟨⟨?_,rfl,rfl,rfl,trivial⟩,⟨rfl,rfl,rfl,trivial⟩,rfl⟩;simp[ha1];rfl
  ·rw[qC ha1];refine uR ?_;refine⟨⟨?_,rfl,rfl,rfl,trivial⟩,⟨rfl,rfl,rfl,trivial⟩,rfl⟩;simp[ha1];rfl
theorem zmH (a b:Rat) (ha:sm a) (hb:sm b):PV prog 24 #[zaf a,zaf b] (zaf (a-b)):=by
 have h1:=zub b (qI hb.num oM);have h2:=zez a (-b) ha (by show ht (-b)≤_;rw[zmd];exact hb);rw[←Rat.sub_eq_add_neg]at h2;refine PV.of_pc ?_;refine BD func24 ntmps24 ?_;refine uR ?_
 (apply EV.drawn 4 kR kR;intro xv yw;(repeat (first|refine' DD ?_|(refine' DC (h1) (h:=?_);rotate_left)|(refine' DC (h2) (h:=?_);rotate_left)));refine DJ.nil (fun G hG hF=>?_);(case hS|hS2=>rfl));refine uR ?_;rfl
theorem zsR (b:Rat) (h:b.num≠0):frV (sg (decide (b.num<0)) b.den) (dk b.num.natAbs)=zaf b⁻¹:=by
 have e1:b⁻¹.num=sg (decide (b.num<0)) b.den:=by
  rw[Rat.num_inv];unfold sg;rcases Int.lt_or_lt_of_ne h with h1 | h1
  ·simp[h1,Int.sign_eq_neg_one_of_neg h1]
  ·rw[Int.sign_eq_one_of_pos h1,qC (by omega)];simp
 have e2:b⁻¹.den=b.num.natAbs:=by
  rw[Rat.den_inv,if_neg];exact h
 rw[←e1,←e2]
theorem zjP (a b:Rat) (ha:sm a) (hb:sm b) (h0:b≠0):PV prog 126 #[zaf a,zaf b] (.tuple #[zaf (a / b),.bool true]):=by
 have hn0:b.num≠0:=fun e=>h0 (Rat.num_eq_zero.1 e);have bnb:zfy b.num:=qI hb.num oM;have bdb:big b.den:=qI hb.den oM;have hm:=zpe a b⁻¹ ha (qI (zr6 b) hb);rw[←Rat.div_def]at hm;have hp:=ziW (sg (decide (b.num<0)) b.den) b.num.natAbs bnb;rw[zsR b hn0]at hp;have s1:=zbu (decide (b.num<0)) b.den bdb;have sg1:=zcP b bnb;have ab:=zcw b.num;have d2:=zeE b bdb;refine PV.of_pc ?_;refine BD func126 ntmps126 ?_
 repeat (first|refine RUN ?_|refine CV (sg1) ?_|refine CE (sg1) ?_)
 rw[show (b.num.sign == 0)=false by simp[Int.sign_eq_zero_iff_zero,hn0]];refine uR ?_;apply EV.drawn 11 kR kR;intro xv yw;(repeat (first|refine' DD ?_|(refine' DC (sg1) (h:=?_);rotate_left)));rw[show decide (b.num.sign<0)=decide (b.num<0) by rw[decide_eq_decide];exact Int.sign_neg_iff];(repeat (first|refine' DD ?_|(refine' DC (d2) (h:=?_);rotate_left)|(refine' DC (s1) (h:=?_);rotate_left)|(refine' DC (ab) (h:=?_);rotate_left)|(refine' DC (hp) (h:=?_);rotate_left)));(refine DJ.nil (fun G hG hF=>?_);(case hS|hS2=>rfl))
 repeat (first|refine RUN ?_|refine CV (hm) ?_|refine CE (hm) ?_)
 rfl
theorem zlf (a:Rat):PV prog 126 #[zaf a,zaf 0] (.tuple #[zaf 0,.bool false]):=by
 have sg1:=zcP 0 (by show bl 0≤_;rw[zbi];omega);refine PV.of_pc ?_;refine BD func126 ntmps126 ?_
 repeat (first|refine RUN ?_|refine CV (sg1) ?_|refine CE (sg1) ?_)
 show _=Value.tuple #[frV 0 0,.bool false];rw[zdN,show (0:Int).natAbs=0 from rfl,zbR (n:=0) (by decide)];rfl
theorem znC (x y p q:Int) (hp:0<p) (hq:0<q) (h:x.sign≠y.sign):zfU x y=zfU (x*p) (y*q):=by
 have f1:x<0→x*p<0:=fun h=>Int.mul_neg_of_neg_of_pos h hp;have f2:0<x→0<x*p:=fun h=>Int.mul_pos h hp;have f3:y<0→y*q<0:=fun h=>Int.mul_neg_of_neg_of_pos h hq;have f4:0<y→0<y*q:=fun h=>Int.mul_pos h hq;have f5:x=0→x*p=0:=fun h=>by rw[h,Int.zero_mul]
 have f6:y=0→y*q=0:=fun h=>by rw[h,Int.zero_mul]
 generalize x*p=u at *
 generalize y*q=v at *
 rcases Int.lt_trichotomy x 0 with hx | hx | hx <;> rcases Int.lt_trichotomy y 0 with hy | hy | hy
 ·exact absurd (by rw[Int.sign_eq_neg_one_of_neg hx,Int.sign_eq_neg_one_of_neg hy]) h
 ·unfold zfU;rw[if_pos oM,if_pos (by have:=f1 hx;have:=f6 hy;omega)]
 ·unfold zfU;rw[if_pos oM,if_pos (by have:=f1 hx;have:=f4 hy;omega)]
 ·unfold zfU;rw[if_neg oM,if_pos oM,if_neg (by have:=f5 hx;have:=f3 hy;omega),if_pos (by have:=f5 hx;have:=f3 hy;omega)]
 ·exact absurd (by rw[hx,hy]) h
 ·unfold zfU;rw[if_pos oM,if_pos (by have:=f5 hx;have:=f4 hy;omega)]
 ·unfold zfU;rw[if_neg oM,if_pos oM,if_neg (by have:=f2 hx;have:=f3 hy;omega),if_pos (by have:=f2 hx;have:=f3 hy;omega)]
 ·unfold zfU;rw[if_neg oM,if_pos oM,if_neg (by have:=f2 hx;have:=f6 hy;omega),if_pos (by have:=f2 hx;have:=f6 hy;omega)]
 ·exact absurd (by rw[Int.sign_eq_one_of_pos hx,Int.sign_eq_one_of_pos hy]) h
theorem zp0 (a b:Rat) (h:a.num.sign≠b.num.sign):zfU a.num b.num=zb4 a b:=by
 have:=Nat.pos_of_ne_zero a.den_nz;have:=Nat.pos_of_ne_zero b.den_nz;rw[ziU];exact znC _ _ _ _ oM oM h
theorem zdw (a b:Rat) (ha:sm a) (hb:sm b):PV prog 18 #[zaf a,zaf b] (.int .i64 (zb4 a b)):=by
 have na:=ha.num;have da:=ha.den;have nb:=hb.num;have db:=hb.den;have bna:zfy a.num:=qI na oM;have bnb:zfy b.num:=qI nb oM;have bda:big a.den:=qI da oM;have bdb:big b.den:=qI db oM;have w1:=zbc a bda;have w2:=zbc b bdb;have s1:=zcP a bna;have s2:=zcP b bnb;have d1:=zeE a bda;have d2:=zeE b bdb;have c1:=zbZ a.num.natAbs b.den;have c2:=zbZ b.num.natAbs a.den;have t1:=zge a.num b.den bna bdb (by show bl _≤_;omega);have t2:=zge b.num a.den bnb bda (by show bl _≤_;omega);have k1:=zht a.num b.num bna bnb;have k2:=zht (a.num*(b.den:Int)) (b.num*(a.den:Int)) (by show bl _≤_;rw[Int.natAbs_mul];simp;omega) (by show bl _≤_;rw[Int.natAbs_mul];simp;omega);rw[←ziU]at k2;refine PV.of_pc ?_;refine BD func18 ntmps18 ?_;refine uR ?_;by_cases ha1:a.den=1
 ·rw[qD ha1]at w1;by_cases hb1:b.den=1
  ·rw[qD hb1]at w2;have e:zfU a.num b.num=zb4 a b:=by rw[ziU,ha1,hb1];simp
   rw[e]at k1;apply EV.drawn 10 kR kR;intro xv yw;(repeat (first|refine' DD ?_|(refine' DC (w1) (h:=?_);rotate_left)|(refine' DC (w2) (h:=?_);rotate_left)|(refine' DC (s1) (h:=?_);rotate_left)|(refine' DC (s2) (h:=?_);rotate_left)));(refine DJ.nil (fun G hG hF=>?_);(case hS|hS2=>rfl))
   repeat (first|refine RUN ?_|refine CV (k1) ?_|refine CE (k1) ?_)
   rfl
  ·rw[qC hb1]at w2;apply EV.drawn 10 kR kR;intro xv yw;(repeat (first|refine' DD ?_|(refine' DC (w1) (h:=?_);rotate_left)|(refine' DC (w2) (h:=?_);rotate_left)|(refine' DC (s1) (h:=?_);rotate_left)|(refine' DC (s2) (h:=?_);rotate_left)));(refine DJ.nil (fun G hG hF=>?_);(case hS|hS2=>rfl))
   repeat (first|refine RUN ?_|refine CV (s1) ?_|refine CV (s2) ?_|refine CE (s1) ?_|refine CE (s2) ?_)
   by_cases hs:a.num.sign=b.num.sign
   ·rw[show (a.num.sign != b.num.sign)=false by simp[hs]];refine uR ?_;apply EV.drawn 9 kR kR;intro xv yw;(repeat (first|refine' DD ?_|(refine' DC (d2) (h:=?_);rotate_left)|(refine' DC (t1) (h:=?_);rotate_left)|(refine' DC (d1) (h:=?_);rotate_left)));(refine DJ.nil (fun G hG hF=>?_);(case hS|hS2=>rfl))
    repeat (first|refine RUN ?_|refine CV (t2) ?_|refine CV (k2) ?_|refine CE (t2) ?_|refine CE (k2) ?_)
    rfl
   ·rw[show (a.num.sign != b.num.sign)=true by simp[hs]]
    repeat (first|refine RUN ?_|refine CV (k1) ?_|refine CE (k1) ?_)
    rw[zp0 a b hs]
 ·rw[qC ha1]at w1;apply EV.drawn 10 kR kR;intro xv yw;(repeat (first|refine' DD ?_|(refine' DC (w1) (h:=?_);rotate_left)|(refine' DC (w2) (h:=?_);rotate_left)|(refine' DC (s1) (h:=?_);rotate_left)|(refine' DC (s2) (h:=?_);rotate_left)));(refine DJ.nil (fun G hG hF=>?_);(case hS|hS2=>rfl))
  repeat (first|refine RUN ?_|refine CV (s1) ?_|refine CV (s2) ?_|refine CE (s1) ?_|refine CE (s2) ?_)
  by_cases hs:a.num.sign=b.num.sign
  ·rw[show (a.num.sign != b.num.sign)=false by simp[hs]];refine uR ?_;apply EV.drawn 9 kR kR;intro xv yw;(repeat (first|refine' DD ?_|(refine' DC (d2) (h:=?_);rotate_left)|(refine' DC (t1) (h:=?_);rotate_left)|(refine' DC (d1) (h:=?_);rotate_left)));(refine DJ.nil (fun G hG hF=>?_);(case hS|hS2=>rfl))
   repeat (first|refine RUN ?_|refine CV (t2) ?_|refine CV (k2) ?_|refine CE (t2) ?_|refine CE (k2) ?_)
   rfl
  ·rw[show (a.num.sign != b.num.sign)=true by simp[hs]]
   repeat (first|refine RUN ?_|refine CV (k1) ?_|refine CE (k1) ?_)
   rw[zp0 a b hs]
theorem zdd (z m:Int) (hz:-9223372036854775808≤z∧z<9223372036854775808) (h0:0<m) (hm:m<4611686018427387904):PV prog 26 #[.int .i64 z,.int .i64 m] (.int .i64 (z % m)):=by
 have h1:=Int.tmod_lt_of_pos z h0;have h2:=Int.lt_tmod_of_pos z h0
 have e:z % m=if z.tmod m<0 then z.tmod m+m else z.tmod m:=by
  have hq:=Int.mul_tdiv_add_tmod z m
  have e1:z % m=z.tmod m % m:=by
   conv=>lhs;rw[←hq]
   rw[Int.mul_add_emod_self_left]
  rw[e1];by_cases ht:z.tmod m<0
  ·rw[if_pos ht,←Int.add_emod_right,Int.emod_eq_of_lt oM (by omega)]
  ·rw[if_neg ht,Int.emod_eq_of_lt oM h1]
 refine PV.of_pc ?_;refine BD func26 ntmps26 ?_;refine uR ?_;refine EVL.remI rfl rfl rfl rfl rfl rfl oM ?_;generalize z.tmod m=t at *
 refine uR ?_;by_cases ht:t<0
 ·rw[if_pos ht]at e;rw[qD ht];refine uR ?_;rw[e,pM];congr 1;omega
 ·rw[if_neg ht]at e;rw[qC ht];refine uR ?_;rw[e]
theorem zia {H:Hp} {v:Value} {n:Nat} (h:RN H v n) (hn:rsm n):PC prog 116 #[v] H fun r _=>r=zaI n:=by
 have hol:(zjp n).length≤200000000:=by
  rw[zcs];have:=zaR 8 n oM;rw[show (2:Nat) ^ 8=256 by decide]at this;rw[this];have:bl n≤800000000:=hn;omega
 refine BD func116 ntmps116 ?_;refine uR ?_;refine vA (zlv h hn) ?_;rintro r G hr hG;have hf:=zdD hr (ziQ n) hol;rw[zmn]at hf
 repeat (first|refine RUN ?_|refine CV (hf) ?_|refine CE (hf) ?_)
 rfl
theorem zj9 {H:Hp} (n:Nat) (hn:rsm n):PC prog 140 #[zaI n] H fun r H'=>RN H' r n:=by
 have hol:(zjp n).length≤200000000:=by
  rw[zcs];have:=zaR 8 n oM;rw[show (2:Nat) ^ 8=256 by decide]at this;rw[this];have:bl n≤800000000:=hn;omega
 refine BD func140 ntmps140 ?_;refine uR ?_;refine EVL.call rfl rfl rfl rfl rfl (zgQ n (qI hn oM) H) ?_;rintro r G hr hG;have hf:=znQ hr (ziQ n) hol;rw[zmn]at hf;refine uR ?_;refine vA (hf) ?_;rintro s G2 hs hG2;refine uR ?_;exact hs
theorem zsP {H:Hp} {v:Value} {z:Int} (h:RI H v z) (hz:rsm z.natAbs):PC prog 115 #[v] H fun r _=>r=zdO z:=by
 obtain⟨sa,sl,sc,rfl,hs⟩:=id h;have hf:=zbu (decide (z<0)) z.natAbs (qI hz oM);rw[zsg]at hf;refine BD func115 ntmps115 ?_;refine uR ?_;apply EV.drawn 6 kR kR;intro xv yw;(repeat refine' DD ?_);refine' vC (cO func116) (fun G hG hd=>zia (RN.mono hs hG) hz) ?_;rotate_left;(repeat (first|refine' DD ?_|(refine' DC (hf) (h:=?_);rotate_left)));(refine DJ.nil (fun G hG hF=>?_);(case hS|hS2=>rfl));refine uR ?_;rfl
theorem zpr {H:Hp} (z:Int) (hz:rsm z.natAbs):PC prog 138 #[zdO z] H fun r H'=>RI H' r z:=by
 have hb:zfy z:=qI hz oM;have e1:decide (z.sign<0)=decide (z<0):=by rw[decide_eq_decide,Int.sign_neg_iff]
 refine BD func138 ntmps138 ?_;refine uR ?_;apply EV.drawn 7 kR kR;intro xv yw;(repeat (first|refine' DD ?_|(refine' DC (za4 z hb) (h:=?_);rotate_left)|(refine' DC (zcw z) (h:=?_);rotate_left)));refine' vB (cO func140) (fun G hG hd=>zj9 z.natAbs hz) (fun _ _ _ h k=>RN.mono h k) ?_;rotate_left;rw[e1];refine' vB (cO func150) (fun G hG hd=>zbT (decide (z<0)) (hd.head kR)) (fun _ _ _ h k=>RI.mono h k) ?_;rotate_left;(refine DJ.nil (fun G hG hF=>?_);(case hS|hS2=>rfl));obtain⟨⟨ra,rl,rc,hr,h1⟩,_⟩:=hF;rw[zsg]at hr h1;rw[hr];refine uR ?_;exact⟨ra,rl,rc,rfl,h1⟩
theorem zjV {H:Hp} {v:Value} {q:Rat} (h:RQ H v q) (hq:rq q):PC prog 63 #[v] H fun r _=>r=zaf q:=by
 obtain⟨sa,sl,sc,ta,tl,tc,rfl,hs,ht⟩:=id h;have hn:=hq.num;have hd':=hq.den;have hf:=zbu false q.den (qI hd' oM);rw[show sg false q.den=(q.den:Int) from rfl]at hf;have hm:=zsZ q.num (q.den:Int) (qI hn oM) (qI hd' oM) (by have:=q.den_nz;omega);rw[if_neg oM,Int.natAbs_natCast,Rat.mkRat_self]at hm;refine BD func63 ntmps63 ?_;refine uR ?_;apply EV.drawn 14 kR kR;intro xv yw;(repeat refine' DD ?_);refine' vC (cO func115) (fun G hG hd=>zsP (RQ.rnum (RN.mono hs hG)) hn) ?_;rotate_left;(repeat refine' DD ?_);refine' vC (cO func116) (fun G hG hd=>zia (RN.mono ht hG) hd') ?_;rotate_left;(repeat (first|refine' DD ?_|(refine' DC (hf) (h:=?_);rotate_left)|(refine' DC (hm) (h:=?_);rotate_left)));(refine DJ.nil (fun G hG hF=>?_);(case hS|hS2=>rfl));refine uR ?_;rfl
theorem zue {H:Hp} (q:Rat) (hq:rq q):PC prog 88 #[zaf q] H fun r H'=>RQ H' r q:=by
 have hn:=hq.num;have hd':=hq.den;refine BD func88 ntmps88 ?_;refine uR ?_;apply EV.drawn 6 kR kR;intro xv yw;(repeat (first|refine' DD ?_|(refine' DC (zsb q) (h:=?_);rotate_left)|(refine' DC (zeE q (qI hd' oM)) (h:=?_);rotate_left)));refine' vB (cO func138) (fun G hG hd=>zpr q.num hn) (fun _ _ _ h k=>RI.mono h k) ?_;rotate_left;(repeat (first|refine' DD ?_|(refine' DC (zsb q) (h:=?_);rotate_left)|(refine' DC (zeE q (qI hd' oM)) (h:=?_);rotate_left)));refine' vB (cO func140) (fun G hG hd=>zj9 q.den hd') (fun _ _ _ h k=>RN.mono h k) ?_;rotate_left;(refine DJ.nil (fun G hG hF=>?_);(case hS|hS2=>rfl));obtain⟨hN,⟨ra,rl,rc,hr,h1⟩,_⟩:=hF;obtain⟨xa,xc,hx⟩:=SlC.val hN;rw[hx]at hN;rw[hx,hr];refine uR ?_;exact⟨ra,rl,rc,xa,_,xc,rfl,h1,hN⟩
theorem zh8 {H:Hp} {u v:Value} {a b:Nat} (hu:RN H u a) (hv:RN H v b) (ha:rsm a):PC prog 96 #[u,v] H fun r _=>r=.int .i64 (zbq a b):=by
 have la:=ha.len;have:=zcX hu hv (zak zab _) (zak zab _) oM
 rwa [zaj zab,zaj zab]at this
theorem zmr (a b:Nat):(zbq a b == 0)=decide (a=b):=by
 unfold zbq;rcases Nat.lt_trichotomy a b with h | h | h
 ·rw[if_pos h,qC (by omega)];rfl
 ·rw[if_neg oM,if_neg oM,qD h];rfl
 ·rw[if_neg oM,if_pos h,qC (by omega)];rfl
theorem ztn {H:Hp} {w:Value} {p q:Rat} (hw:RQ H w q) (hp:rq p) (hq:rq q):PC prog 49 #[zaf p,w] H fun r _=>r=.bool (decide (p=q)):=by
 obtain⟨sa,sl,sc,ta,tl,tc,rfl,hs,ht⟩:=id hw
 have hl:(tl:Int)≠0:=by
  have h1:=SlN.cap ht;have h2:=zfb zab q.den_nz;have h3:=List.length_pos_iff.2 h2;omega
 refine BD func49 ntmps49 ?_;refine uR ?_;refine vA (zue p hp) ?_;rintro r G ⟨sa',sl',sc',ta',tl',tc',rfl,hs',ht'⟩ hG;have c1:=zh8 hs' (RN.mono hs hG) hp.num;have c2:=zh8 ht' (RN.mono ht hG) hp.den;refine uR ?_;rw[show ((tl:Int) == 0)=false by simpa using hl]
 repeat (first|refine RUN ?_|refine CV (c1) ?_|refine CE (c1) ?_)
 rw[zmr];by_cases h1:p.num.natAbs=q.num.natAbs
 ·rw[qD h1];refine uR ?_;refine EVL.eqb rfl rfl rfl rfl rfl rfl kR ?_;by_cases h2:decide (p.num<0)=decide (q.num<0)
  ·rw[show (decide (p.num<0) == decide (q.num<0))=true by simp[h2]]
   repeat (first|refine RUN ?_|refine CV (c2) ?_|refine CE (c2) ?_)
   rw[zmr];congr 1
   have hn:p.num=q.num:=by
    rw[decide_eq_decide]at h2;omega
   by_cases h3:p.den=q.den
   ·rw[qD h3,qD (Rat.ext hn h3)]
   ·rw[qC h3,qC (fun e=>h3 (by rw[e]))]
  ·rw[show (decide (p.num<0) == decide (q.num<0))=false by simpa using h2];refine uR ?_;rw[qC (fun e=>h2 (by rw[e]))]
 ·rw[qC h1];refine uR ?_;rw[qC (fun e=>h1 (by rw[e]))]
def ztc (j:Nat):Int:=[1,1,1,2,3,4].getD j 1
def zpA (z:Int):Rat:=Rat.divInt (z % 41-20) (ztc (z.tdiv 41 % 6).toNat)
theorem zh6 (j:Nat):1≤ztc j∧ztc j≤4:=by
 unfold ztc;rcases j with _ | _ | _ | _ | _ | _ | j <;> simp[qB]
theorem zuY {H:Hp} (z:Int) (hz:-9223372036854775808≤z∧z<9223372036854775808):PC prog 27 #[.int .i64 z] H fun r H'=>RQ H' r (zpA z):=by
 have hq:-9223372036854775808≤z.tdiv 41∧z.tdiv 41<9223372036854775808:=by
  by_cases h:0≤z
  ·rw[Int.tdiv_eq_ediv_of_nonneg h];omega
  ·have e:z.tdiv 41 = -((-z) / 41):=by rw[←Int.tdiv_eq_ediv_of_nonneg oM,Int.neg_tdiv,Int.neg_neg]
   rw[e];omega
 have hqw:IntKind.i64.wrap (z.tdiv 41)=z.tdiv 41:=by rw[pM];omega
 have h1:=zdd z 41 hz oM oM;have h2:=zdd (z.tdiv 41) 6 hq oM oM;have m1:=Int.emod_nonneg z (show (41:Int)≠0 by omega);have m2:=Int.emod_lt_of_pos z (show (0:Int)<41 by omega);obtain⟨j,hj⟩:=qj (Int.emod_nonneg (z.tdiv 41) (show (6:Int)≠0 by omega));have m3:=Int.emod_lt_of_pos (z.tdiv 41) (show (0:Int)<6 by omega);have hsub:IntKind.i64.wrap (z % 41-20)=z % 41-20:=by rw[pM];omega
 have hrd:=zh6 j;have hrn:zpA z=Rat.divInt (z % 41-20) (ztc j):=by unfold zpA;rw[hj];rfl
 rw[hrn]
 have hidx:([.int .i64 1,.int .i64 1,.int .i64 1,.int .i64 2,.int .i64 3,.int .i64 4]:List Value)[j]?=some (.int .i64 (ztc j)):=by
  have hj6:j<6:=oM;rcases j with _|_|_|_|_|_|j <;> first|rfl|omega
 have ho:=fun G:Hp=>zib (H:=G) (z % 41-20) (ztc j) oM oM oM oM oM;rw[hj]at h2;refine BD func27 ntmps27 ?_
 repeat (first|refine RUN ?_|refine CV (h1) ?_|refine CE (h1) ?_)
 rw[hsub];refine EVL.buildArr rfl rfl rfl rfl rfl (cs:=[.int .i64 1,.int .i64 1,.int .i64 1,.int .i64 2,.int .i64 3,.int .i64 4]) kR ?_;refine uR ?_;rw[hqw]
 repeat (first|refine RUN ?_|refine CV (h2) ?_|refine CE (h2) ?_)
 refine EVL.indexArr (e:=2) (len:=6) tO rfl rfl rfl rfl kR rfl rfl rfl rfl rfl j rfl (show j<6 by omega) hidx ?_;refine vA (ho H) ?_;rintro r G ⟨ra,rl,rc,xa,xl,xc,rfl,hn,hd⟩ hG;refine uR ?_;exact⟨ra,rl,rc,xa,xl,xc,rfl,hn,hd⟩
def QL (H:Hp) (v:Value) (l:List Rat):Prop:=SlC H v l.length 5 (l.flatMap fun q=>zad (zaf q))
def RL (H:Hp) (v:Value) (l:List Rat):Prop:=∃vs:List Value,vs.length=l.length∧(∀(j:Nat) (x:Value) (q:Rat),vs[j]?=some x→l[j]?=some q→RQ H x q)∧SlC H v l.length 3 (vs.flatMap zad)
theorem QL.mono {H G:Hp} {v:Value} {l:List Rat} (h:QL H v l) (k:H.Le G):QL G v l:=SlC.mono h k
theorem RL.mono {H G:Hp} {v:Value} {l:List Rat} (h:RL H v l) (k:H.Le G):RL G v l:=by
 obtain⟨vs,h1,h2,h3⟩:=h;exact⟨vs,h1,fun j x q e1 e2=>(h2 j x q e1 e2).mono k,h3.mono k⟩
theorem QL.at {H:Hp} {v:Value} {l:List Rat} {j:Nat} {q:Rat} (hj:l[j]?=some q):((l.flatMap fun q=>zad (zaf q)).drop (j*5)).take 5=zad (zaf q):=zdM _ 5 l (fun _ _=>rfl) j q hj
theorem RQ.cells {H:Hp} {x:Value} {q:Rat} (h:RQ H x q):(zad x).length=3∧zf7 (zad x)=true:=by
 obtain⟨_,_,_,_,_,_,rfl,_,_⟩:=h;exact⟨rfl,rfl⟩
theorem RL.at {H:Hp} {v:Value} {l:List Rat} (h:RL H v l) {j:Nat} {q:Rat} (hj:l[j]?=some q):∃(vs:List Value) (x:Value),SlC H v l.length 3 (vs.flatMap zad)∧((vs.flatMap zad).drop (j*3)).take 3=zad x∧RQ H x q:=by
 obtain⟨vs,h1,h2,h3⟩:=h;obtain⟨hl,rfl⟩:=qE.1 hj;have hv:vs[j]?=some (vs[j]'(by omega)):=qA oM
 have hall:∀x,x∈vs→(zad x).length=3:=fun x hx=>by
  obtain⟨i,hi,rfl⟩:=List.getElem_of_mem hx;exact(h2 i _ _ (qA hi) (qA oM)).cells.1
 exact⟨vs,_,h3,zdM _ 3 vs hall j _ hv,h2 j _ _ hv hj⟩
theorem zam {α:Type} {l:List α} {i:Nat} {x:α} (h:l[i]?=some x):l.take (i+1)=l.take i++[x]:=by
 obtain⟨hl,rfl⟩:=qE.1 h;exact qS hl
theorem RL.val {H:Hp} {v:Value} {l:List Rat} (h:RL H v l):∃a cap,v=.slice a l.length cap:=by
 obtain⟨vs,_,_,h3⟩:=h;exact SlC.val h3
theorem zme {H:Hp} {v:Value} {l:List Rat} (h:RL H v l) (hl:l.length≤100000000) (hq:∀q,q∈l→rq q):PC prog 41 #[v] H fun r H'=>QL H' r l:=by
 obtain⟨a,cap,rfl⟩:=RL.val h;refine BD func41 ntmps41 ?_;refine uR ?_;refine EV.loopK (ι:=Nat × Value × Ows) [0] [] (fun q=>[(3,.v q.2.1),(4,.v (.int .i64 (q.1:Int)))]) (fun _=>[]) (fun q=>q.2.2) (fun q G=>q.1≤l.length∧zaL 50 5 q.2.1 q.1 ((l.take q.1).flatMap fun q=>zad (zaf q)) q.2.2) (fun q=>l.length-q.1) ((0,.slice none 0 0,[])) rfl rfl ⟨rfl,rfl,trivial⟩ trivial rfl (fun _=>rfl) (⟨qQ _,zaL.nil _ _⟩) ?_;rintro⟨i,w,ow⟩ G1 hG1 ⟨hi,hown⟩;dsimp only at hi hown;refine uR ?_;refine EV.cond rfl (fun hlt=>?_) (fun hlt=>?_)
 ·simp only[nN]at hlt;obtain⟨q,hqi⟩:=gE hlt;obtain⟨vs,x,hs,hc,hx⟩:=(h.mono hG1).at hqi;obtain⟨xa,xl,xc,ya,yl,yc,rfl,hx1,hx2⟩:=id hx;refine uR ?_;refine EVL.idxM tO rfl rfl rfl rfl rfl rfl rfl rfl rfl (hs) (i) (rfl) (hlt) (hc) ?_
  repeat (first|refine RUN ?_|refine CV (zjV hx (hq q (qF hqi))) ?_|refine CE (zjV hx (hq q (qF hqi))) ?_)
  refine EVL.app1 tO rfl rfl rfl rfl rfl rfl rfl rfl rfl rfl rfl rfl rfl rfl rfl rfl rfl rfl rfl (fun _=>rfl) (ow) ([]) ((qG _).symm) (hown) oM fun _=>?_;intro v' ow' hown';refine uR ?_;refine⟨(i+1,v',ow'),⟨rfl,?_,trivial⟩,sB,trivial,trivial,qG _,⟨by dsimp only;omega,?_⟩,Hp.Le.refl _,by dsimp only;omega⟩
  ·rw[zac i (by omega)];rfl
  ·dsimp only;rw[zam hqi,List.flatMap_append];exact hown'
 ·simp only[nN]at hlt;obtain rfl:i=l.length:=oM;(first|refine EVL.publishL [] ow [] ((qG _).symm) hown fun G2 hG2 hs=>?_|refine EV.publishL [] ow [] ((qG _).symm) hown fun G2 hG2 hs=>?_);refine uR ?_;rw[qb]at hs;exact hs
end
section
def zaK (l:List Rat):Rat:=l.foldl (·+·) 0
theorem zcf:zaK []=0:=rfl
theorem zbH (l:List Rat) (x:Rat):zaK (l++[x])=zaK l+x:=by unfold zaK;rw[List.foldl_append];rfl
theorem zoZ (B:Nat):∀(l:List Rat),(∀q,q∈l→ht q≤B)→ht (zaK l.reverse)≤1+(B+1)*l.length
 | [],_=>by rw[List.reverse_nil,zcf,zb9];exact Nat.le_add_right ..
 | x::l,h=>by
  have h1:=zoZ B l (fun q hq=>h q (qm _ hq));have h2:=h x (qh ..);have h3:=zdm (zaK l.reverse) x;rw[List.reverse_cons,zbH,qR,Nat.mul_succ];omega
theorem zdz (B:Nat) (l:List Rat) (h:∀q,q∈l→ht q≤B):ht (zaK l)≤1+(B+1)*l.length:=by
 have:=zoZ B l.reverse (fun q hq=>h q (List.mem_reverse.1 hq))
 rwa [List.reverse_reverse,List.length_reverse]at this
def zhA (a b:List Rat):List Rat:=List.zipWith (· * ·) a b
theorem zqW {a b:List Rat} {i:Nat} {x y:Rat} (h1:a[i]?=some x) (h2:b[i]?=some y):(zhA a b)[i]?=some (x*y):=by
 unfold zhA;rw[List.getElem?_zipWith,h1,h2]
theorem zlg {B:Nat}:∀{a b:List Rat},(∀q,q∈a→ht q≤B)→(∀q,q∈b→ht q≤B)→∀q,q∈zhA a b→ht q≤B+B
 | [],_,_,_,q,hq=>by simp[zhA]at hq
 | _::_,[],_,_,q,hq=>by simp[zhA]at hq
 | x::a,y::b,ha,hb,q,hq=>by
  rcases List.mem_cons.1 (show q∈x*y::zhA a b from hq) with rfl | h
  ·have:=zfG x y;have h1:=ha x (qh ..);have h2:=hb y (qh ..);omega
  ·exact zlg (fun q h=>ha q (qm _ h)) (fun q h=>hb q (qm _ h)) q h
theorem zsJ {a:List Rat} {i:Nat} {x:Rat} (h:a[i]?=some x):a.drop i=x::a.drop (i+1):=by
 obtain⟨hl,rfl⟩:=qE.1 h;exact qt hl
def zdk (l:List Rat):Prop:=l.Pairwise (·≤·)
theorem zih {l m:List Rat} (h:zdk l) (k:zdk m) (p:l.Perm m):l=m:=List.Perm.eq_of_pairwise (fun a b _ _ h1 h2=>Rat.le_antisymm h1 h2) h k p
def zaB {α:Type} (l:List α) (k:Nat) (x:α):List α:=l.take k++x::l.drop k
theorem zcl {α:Type} (l:List α) (k:Nat) (x:α):(zaB l k x).Perm (l++[x]):=by
 unfold zaB;refine List.perm_middle.trans ?_;rw[List.take_append_drop];exact(List.perm_append_comm (l₁:=[x]) (l₂:=l))
theorem zdF {l:List Rat} {k:Nat} {x:Rat} (h:zdk l) (h1:∀y,y∈l.take k→y≤x) (h2:∀y,y∈l.drop k→x≤y):zdk (zaB l k x):=by
 unfold zaB zdk;rw[List.pairwise_append];refine⟨h.sublist (List.take_sublist ..),List.pairwise_cons.2 ⟨fun y hy=>h2 y hy,h.sublist (List.drop_sublist ..)⟩,fun a ha b hb=>?_⟩;rcases List.mem_cons.1 hb with rfl | hb
 ·exact h1 a ha
 ·exact Rat.le_trans (h1 a ha) (h2 b hb)
theorem zhd {l:List Rat} {k:Nat} {x y:Rat} (h:zdk l) (hk:l[k]?=some y) (hy:y≤x):∀z,z∈l.take (k+1)→z≤x:=fun z hz=>by
 obtain⟨hl,rfl⟩:=qE.1 hk;rw[qS hl]at hz;rcases List.mem_append.1 hz with hz | hz
 ·have hp:zdk (l.take (k+1)):=h.sublist (List.take_sublist ..);unfold zdk at hp;rw[qS hl,List.pairwise_append]at hp;exact Rat.le_trans (hp.2.2 z hz _ (pL.2 rfl)) hy
 ·rw[pL.1 hz];exact hy
def zdZ (l:List Rat):List Rat:=l.mergeSort fun a b=>decide (a≤b)
theorem zfu (l:List Rat):(zdZ l).Perm l:=List.mergeSort_perm l _
theorem zfQ (l:List Rat):zdk (zdZ l):=by
 have:=List.pairwise_mergeSort (le:=fun a b:Rat=>decide (a≤b)) (fun a b c h1 h2=>by simp at h1 h2 ⊢;exact Rat.le_trans h1 h2) (fun a b=>by simp;exact Rat.le_total) l;exact this.imp fun h=>by simpa using h
theorem zkA {l m:List Rat} (h:m.Perm l) (k:zdk m):m=zdZ l:=zih k (zfQ l) (h.trans (zfu l).symm)
end
section
open Go.RowKit _root_.Go.Proofs.Tryz
def RVs (H:Hp) (vs:List Value) (l:List Rat):Prop:=vs.length=l.length∧∀(j:Nat) (x:Value) (q:Rat),vs[j]?=some x→l[j]?=some q→RQ H x q
theorem RVs.mono {H G:Hp} {vs:List Value} {l:List Rat} (h:RVs H vs l) (k:H.Le G):RVs G vs l:=⟨h.1,fun j x q e1 e2=>(h.2 j x q e1 e2).mono k⟩
theorem RVs.nil (H:Hp):RVs H [] []:=⟨rfl,fun j x q h=>by simp at h⟩
theorem RVs.snoc {H:Hp} {vs:List Value} {l:List Rat} {x:Value} {q:Rat} (h:RVs H vs l) (k:RQ H x q):RVs H (vs++[x]) (l++[q]):=by
 refine⟨by simp[h.1],fun j y r e1 e2=>?_⟩;rw[List.getElem?_append]at e1 e2;by_cases hj:j<vs.length
 ·rw[if_pos hj]at e1;rw[if_pos (by rw[←h.1];exact hj)]at e2;exact h.2 j y r e1 e2
 ·rw[if_neg hj]at e1;rw[if_neg (by rw[←h.1];exact hj)]at e2;have:=h.1
  cases hk:j-vs.length with
  | zero =>
   rw[hk]at e1;rw[←h.1,hk]at e2;simp at e1 e2;subst e1;subst e2;exact k
  | succ m=>rw[hk]at e1;simp at e1
theorem RVs.rl {H:Hp} {vs:List Value} {l:List Rat} {v:Value} (h:RVs H vs l) (hs:SlC H v l.length 3 (vs.flatMap zad)):RL H v l:=⟨vs,h.1,h.2,hs⟩
abbrev IL (H:Hp) (v:Value) (l:List Int):Prop:=SlN (fun z:Int=>Value.int .i64 z) H v l
def zkq (l:List Int) (n:Nat):List Rat:=(List.range n).map fun i=>match l[i]? with
 | some z=>zpA z
 | none=>0
theorem zeX (l:List Int) (n:Nat):(zkq l n).length=n:=by simp[zkq]
theorem zpN {l:List Int} {n i:Nat} {z:Int} (hi:i<n) (h:l[i]?=some z):(zkq l n)[i]?=some (zpA z):=by
 unfold zkq;rw[qK,List.getElem?_range hi];simp[h]
theorem zpM {l:List Int} {n i:Nat} (hi:i<n) (h:l[i]?=none):(zkq l n)[i]?=some 0:=by
 unfold zkq;rw[qK,List.getElem?_range hi];simp[h]
theorem zpO {H:Hp} {v:Value} {l:List Int} (h:IL H v l) (hb:∀z,z∈l → -9223372036854775808≤z∧z<9223372036854775808) (n:Nat) (hn:n≤1000000):PC prog 39 #[v,.int .i64 (n:Int)] H fun r H'=>RL H' r (zkq l n):=by
 obtain⟨a,cap,rfl⟩:=SlC.val h;have hz0:=fun G:Hp=>zaZ (H:=G) 0 oM oM;rw[show ((0:Int):Rat)=0 from rfl]at hz0;refine BD func39 ntmps39 ?_;refine uR ?_;refine EV.loopK (ι:=Nat × List Value × Value × Ows) [0,1] [] (fun q=>[(5,.v q.2.2.1),(6,.v (.int .i64 (q.1:Int)))]) (fun _=>[]) (fun q=>q.2.2.2) (fun q G=>q.1≤n∧RVs G q.2.1 ((zkq l n).take q.1)∧zaL 35 3 q.2.2.1 q.1 (q.2.1.flatMap zad) q.2.2.2) (fun q=>n-q.1) ((0,[],.slice none 0 0,[])) rfl rfl ⟨rfl,rfl,trivial⟩ trivial rfl (fun _=>rfl) (⟨qQ _,RVs.nil _,zaL.nil _ _⟩) ?_;rintro⟨i,vs,w,ow⟩ G1 hG1 ⟨hi,hvs,hown⟩;dsimp only at hi hvs hown;refine uR ?_;refine EV.cond rfl (fun hlt=>?_) (fun hlt=>?_)
 ·simp only[nN]at hlt;refine uR ?_;refine EV.cond rfl (fun hll=>?_) (fun hll=>?_)
  ·simp only[nN]at hll;obtain⟨z,hzi⟩:=gE hll;have hzb:=hb z (qF hzi);have hq:=zpN hlt hzi;refine uR ?_;refine vI ((h.mono hG1)) (i) (rfl) (hll) ((by rw[qK,hzi];rfl)) ?_;refine uR ?_;refine vA (zuY z hzb) ?_;rintro r G2 hr hG2;obtain⟨xa,xl,xc,ya,yl,yc,rfl,hx1,hx2⟩:=id hr;refine uR ?_;refine EVL.app1 tO rfl rfl rfl rfl rfl rfl rfl rfl rfl rfl rfl rfl rfl rfl rfl rfl rfl rfl rfl (fun _=>rfl) (ow) ([]) ((qG _).symm) (hown) oM fun _=>?_;intro v' ow' hown';refine uR ?_;refine⟨(i+1,vs++[_],v',ow'),⟨rfl,?_,trivial⟩,sB,trivial,trivial,qG _,⟨hlt,by rw[zam hq];exact(hvs.mono hG2).snoc hr,?_⟩,hG2,by dsimp only;omega⟩
   ·rw[zac i (by omega)];rfl
   ·dsimp only;rw[List.flatMap_append];exact hown'
  ·simp only[nN]at hll;have hzi:l[i]?=none:=qg oM;have hq:=zpM hlt hzi;refine uR ?_;refine vA (hz0 _) ?_;rintro r G2 hr hG2;obtain⟨xa,xl,xc,ya,yl,yc,rfl,hx1,hx2⟩:=id hr;refine uR ?_;refine EVL.app1 tO rfl rfl rfl rfl rfl rfl rfl rfl rfl rfl rfl rfl rfl rfl rfl rfl rfl rfl rfl (fun _=>rfl) (ow) ([]) ((qG _).symm) (hown) oM fun _=>?_;intro v' ow' hown';refine uR ?_;refine⟨(i+1,vs++[_],v',ow'),⟨rfl,?_,trivial⟩,sB,trivial,trivial,qG _,⟨hlt,by rw[zam hq];exact(hvs.mono hG2).snoc hr,?_⟩,hG2,by dsimp only;omega⟩
   ·rw[zac i (by omega)];rfl
   ·dsimp only;rw[List.flatMap_append];exact hown'
 ·simp only[nN]at hlt;obtain rfl:i=n:=oM;(first|refine EVL.publishL [] ow [] ((qG _).symm) hown fun G2 hG2 hs=>?_|refine EV.publishL [] ow [] ((qG _).symm) hown fun G2 hG2 hs=>?_);refine uR ?_;have e:(zkq l i).take i=zkq l i:=qO (by rw[zeX];exact qH _);rw[e]at hvs;exact(hvs.mono hG2).rl (by rw[zeX];exact hs)
theorem zuB {a b c a' b' c':Value} (e:Value.agg #[a,b,c]=.agg #[a',b',c']):a=a'∧b=b'∧c=c':=by
 simp only[Value.agg.injEq,Array.mk.injEq,List.cons.injEq,and_true]at e;exact e
theorem zha {H:Hp} {v:Value} {l:List Rat} (h:RL H v l) (hl:l.length≤100000) (hb:∀q,q∈l→ht q≤100):PC prog 221 #[v] H fun r H'=>RQ H' r (zaK l):=by
 obtain⟨a,cap,rfl⟩:=RL.val h;have hz0:=fun G:Hp=>zaZ (H:=G) 0 oM oM;rw[show ((0:Int):Rat)=0 from rfl]at hz0;refine BD func221 ntmps221 ?_;refine uR ?_;refine vA (hz0 _) ?_;rintro r G0 hr hG0;obtain⟨xa,xl,xc,ya,yl,yc,rfl,hx1,hx2⟩:=id hr;refine uR ?_;refine EV.loopK (ι:=Nat × Value × Value × Value) [0,2,3] [2] (fun q=>[(4,.v (.int .i64 (q.1:Int)))]) (fun q=>[(3,35,[q.2.1,q.2.2.1,q.2.2.2])]) (fun _=>[]) (fun q G=>q.1≤l.length∧G0.Le G∧RQ G (.agg #[q.2.1,q.2.2.1,q.2.2.2]) (zaK (l.take q.1))) (fun q=>l.length-q.1) ((0,_,_,_)) rfl rfl ⟨rfl,trivial⟩ ⟨rfl,trivial⟩ rfl (fun _=>rfl) (⟨qQ _,Hp.Le.refl _,hr⟩) ?_;rintro⟨i,c1,c2,c3⟩ G1 hG1 ⟨hi,hG01,hs⟩;dsimp only at hi hs hG01;refine uR ?_;refine EV.cond rfl (fun hlt=>?_) (fun hlt=>?_)
 ·simp only[nN]at hlt;obtain⟨q,hqi⟩:=gE hlt;obtain⟨vs,x,hsl,hc,hx⟩:=(h.mono (hG0.trans hG01)).at hqi;obtain⟨xa',xl',xc',ya',yl',yc',rfl,hx1',hx2'⟩:=id hx;have hqb:=hb q (qF hqi);have hsb:=zdz 100 (l.take i) (fun q hq=>hb q (List.mem_of_mem_take hq));rw[qP,qo hi]at hsb;have qs:rq (zaK (l.take i)):=qI hsb oM;have qq:rq q:=qI hqb oM;refine uR ?_;apply EV.drawn 6 kR kR;intro xv yw;(repeat refine' DD ?_);refine' DJ.idxM tO rfl rfl rfl rfl rfl rfl rfl rfl rfl (hsl) (i) (rfl) (hlt) (hc) ?_;rotate_left;(repeat refine' DD ?_);refine' vB (cO func97) (fun G hG hd=>zcW (hs.mono hG) (hx.mono hG) qs qq) (fun _ _ _ h k=>RQ.mono h k) ?_;rotate_left;(refine DJ.nil (fun G2 hG2 hF2=>?_);(case hS|hS2=>rfl));have hR:=hF2.1;rw[←zbH,←zam hqi]at hR;obtain⟨_,_,_,_,_,_,e,_,_⟩:=id hR;rw[e]at hR ⊢;refine uR ?_;refine⟨(i+1,_,_,_),⟨?_,trivial⟩,sB,⟨rfl,trivial⟩,sB,rfl,⟨hlt,hG01.trans hG2,hR⟩,hG2,by dsimp only;omega⟩;rw[zac i (by omega)];rfl
 ·simp only[nN]at hlt;obtain rfl:i=l.length:=oM;rw[qb]at hs;obtain⟨_,_,_,_,_,_,e,_,_⟩:=id hs;obtain⟨rfl,rfl,rfl⟩:=zuB e;refine uR ?_;exact hs
theorem zoX {n:Nat} (h:n≤100000):ht ((n:Int):Rat)≤20:=by
 have:=zby (n:Int);have h2:bl (n:Int).natAbs≤17:=za1 oM;omega
theorem znR {H:Hp} {v:Value} {l:List Rat} (h:RL H v l) (hl:l.length≤100000) (h0:l.length≠0) (hb:∀q,q∈l→ht q≤100):PC prog 225 #[v] H fun r H'=>RQ H' r (zaK l / ((l.length:Int):Rat)):=by
 obtain⟨a,cap,rfl⟩:=RL.val h;have hs:=zdz 100 l hb;have hln:=zoX hl;have hof:=fun G:Hp=>zaZ (H:=G) (l.length:Int) oM oM;refine BD func225 ntmps225 ?_;refine uR ?_;refine vA (zha h hl hb) ?_;rintro r1 G1 h1 hG1;refine uR ?_;refine vA (hof _) ?_;rintro r2 G2 h2 hG2;refine uR ?_;refine EVL.call rfl rfl rfl rfl rfl (zfn (h1.mono hG2) h2 (qI hs oM) (qI hln oM) (by show (l.length:Int)≠0;omega)) ?_;rintro r3 G3 ⟨_,_,_,_,_,_,rfl,d1,d2⟩ _;refine uR ?_;exact⟨_,_,_,_,_,_,rfl,d1,d2⟩
theorem zpD {H:Hp} {u v:Value} {l m:List Rat} (hu:RL H u l) (hv:RL H v m) (hlm:l.length=m.length) (hl:l.length≤100000) (hb:∀q,q∈l→ht q≤50) (hb':∀q,q∈m→ht q≤50):PC prog 222 #[u,v] H fun r H'=>RQ H' r (zaK (zhA l m)):=by
 obtain⟨a,cap,rfl⟩:=RL.val hu;obtain⟨b,cap',rfl⟩:=RL.val hv;have hdl:(zhA l m).length=l.length:=by unfold zhA;rw[List.length_zipWith];omega
 have hdh:=zlg hb hb';have hz0:=fun G:Hp=>zaZ (H:=G) 0 oM oM;rw[show ((0:Int):Rat)=0 from rfl]at hz0;refine BD func222 ntmps222 ?_;refine uR ?_;refine vA (hz0 _) ?_;rintro r G0 hr hG0;obtain⟨xa,xl,xc,ya,yl,yc,rfl,hx1,hx2⟩:=id hr;refine uR ?_;refine EV.loopK (ι:=Nat × Value × Value × Value) [0,1,4,5] [4] (fun q=>[(6,.v (.int .i64 (q.1:Int)))]) (fun q=>[(5,35,[q.2.1,q.2.2.1,q.2.2.2])]) (fun _=>[]) (fun q G=>q.1≤l.length∧G0.Le G∧RQ G (.agg #[q.2.1,q.2.2.1,q.2.2.2]) (zaK ((zhA l m).take q.1))) (fun q=>l.length-q.1) ((0,_,_,_)) rfl rfl ⟨rfl,trivial⟩ ⟨rfl,trivial⟩ rfl (fun _=>rfl) (⟨qQ _,Hp.Le.refl _,hr⟩) ?_;rintro⟨i,c1,c2,c3⟩ G1 hG1 ⟨hi,hG01,hs⟩;dsimp only at hi hs hG01;refine uR ?_;refine EV.cond rfl (fun hlt=>?_) (fun hlt=>?_)
 ·simp only[nN]at hlt;obtain⟨q,hqi⟩:=gE hlt;obtain⟨q',hqi'⟩:∃q,m[i]?=some q:=⟨_,qA (hlm ▸ hlt)⟩;obtain⟨vs,x,hsl,hc,hx⟩:=(hu.mono (hG0.trans hG01)).at hqi;obtain⟨xa',xl',xc',ya',yl',yc',rfl,hx1',hx2'⟩:=id hx;obtain⟨vs2,x2,hsl2,hc2,hy⟩:=(hv.mono (hG0.trans hG01)).at hqi';obtain⟨xa'',xl'',xc'',ya'',yl'',yc'',rfl,hy1',hy2'⟩:=id hy;have hqb:=hb q (qF hqi);have hqb':=hb' q' (qF hqi');have hqd:=zqW hqi hqi';have hsb:=zdz 100 ((zhA l m).take i) (fun q hq=>hdh q (List.mem_of_mem_take hq));rw[qP,qo (by omega)]at hsb;have qs:rq (zaK ((zhA l m).take i)):=qI hsb oM;have hm:=zfG q q';have qq:rq (q*q'):=qI hm oM;refine uR ?_;apply EV.drawn 11 kR kR;intro xv yw;(repeat refine' DD ?_);refine' DJ.idxM tO rfl rfl rfl rfl rfl rfl rfl rfl rfl (hsl) (i) (rfl) (hlt) (hc) ?_;rotate_left;(repeat refine' DD ?_);refine' DJ.idxM tO rfl rfl rfl rfl rfl rfl rfl rfl rfl (hsl2) (i) (rfl) ((hlm ▸ hlt)) (hc2) ?_;rotate_left;(repeat refine' DD ?_);refine' vB (cO func224) (fun G hG hd=>zh9 (hx.mono hG) (hy.mono hG) (qI hqb oM) (qI hqb' oM)) (fun _ _ _ h k=>RQ.mono h k) ?_;rotate_left;refine' vB (cO func97) (fun G hG hd=>zcW (hs.mono hG) (hd.head kR) qs qq) (fun _ _ _ h k=>RQ.mono h k) ?_;rotate_left;(refine DJ.nil (fun G2 hG2 hF2=>?_);(case hS|hS2=>rfl));have hR:=hF2.1;rw[←zbH,←zam hqd]at hR;obtain⟨_,_,_,_,_,_,e,_,_⟩:=id hR;rw[e]at hR ⊢;refine uR ?_;refine⟨(i+1,_,_,_),⟨?_,trivial⟩,sB,⟨rfl,trivial⟩,sB,rfl,⟨hlt,hG01.trans hG2,hR⟩,hG2,by dsimp only;omega⟩;rw[zac i (by omega)];rfl
 ·simp only[nN]at hlt;obtain rfl:i=l.length:=oM;rw[show (zhA l m).take l.length=zhA l m by rw[←hdl,qb]]at hs;obtain⟨_,_,_,_,_,_,e,_,_⟩:=id hs;obtain⟨rfl,rfl,rfl⟩:=zuB e;refine uR ?_;exact hs
def zuF (n:Int) (d:Nat):Int :=
 let q:=n / (d:Int)
 let r:=n % (d:Int)
 if zfU (r+r) d=0 then (if q % 2=0 then q else q+1) else if 0<zfU (r+r) d then q+1 else q
def kb (z:Int):Nat:=(max 0 (min z 256)).toNat
def nr (k:Nat) (a:Rat):Rat:=mkRat (zuF (a.num*(2 ^ k:Nat)) a.den) (2 ^ k)
theorem zoW (n d:Int) (h:d≠0):ht (Rat.divInt n d)≤max (bl n.natAbs) (bl d.natAbs):=by
 rw[zjN n d h];refine qI (zsO _ _ oM) ?_;have:(if d<0 then -n else n).natAbs=n.natAbs:=by split <;> simp
 rw[this];exact qH _
theorem zoY (z:Int):ht (zpA z)≤5:=by
 unfold zpA;have hrd:=zh6 (z.tdiv 41 % 6).toNat
 have m1:=Int.emod_nonneg z (show (41:Int)≠0 by omega);have m2:=Int.emod_lt_of_pos z (show (0:Int)<41 by omega);refine qI (zoW _ _ oM) (Nat.max_le.2 ⟨za1 oM,za1 oM⟩)
theorem zkr {H:Hp} {w:Value} {p:Rat} (hw:RQ H w p) (hp:rq p):PC prog 49 #[zaf p,w] H fun r _=>r=.bool true:=by
 have:=ztn hw hp hp
 rwa [qD rfl]at this
theorem zeY {q:Rat} {k:Nat} (h:ht q≤k) (hk:k≤100000000):rq q:=qI h hk
section
variable {P:Program} {n:Nat} {ops:Array Oper} {o:Oper} {rest:List Oper} {env:Env} {bx:Bxs} {H:Hs} {Q:EQ} {τ:Tab} {d:Nat}
end
theorem zpq (a:Rat):zb4 a a=0:=by unfold zb4;rw[if_neg Rat.lt_irrefl,if_neg Rat.lt_irrefl]
theorem zms (a b:Rat):zb4 a b>0↔b<a:=by
 unfold zb4;constructor
 ·intro h;split at h
  ·exact absurd h (by decide)
  ·split at h
   ·assumption
   ·exact absurd h (by decide)
 ·intro h;rw[if_neg (Rat.not_lt.2 (Rat.le_of_lt h)),if_pos h];decide
theorem zbQ:zaf 0=.agg #[.bool false,.int .u64 0,.string ⟨#[]⟩,.int .u64 0,.string ⟨#[]⟩]:=by
 show frV 0 0=_;rw[zdN,show (0:Int).natAbs=0 from rfl,zbR (n:=0) (by decide)];rfl
theorem zaH:zad (zaf 0)=[.bool false,.int .u64 0,.string ⟨#[]⟩,.int .u64 0,.string ⟨#[]⟩]:=by rw[zbQ];rfl
theorem zaQ {q:Rat} {n:Nat} (h:ht q≤n) (hn:n≤100000000):sm q:=qI h hn
theorem zsk {H:Hp} {v:Value} {l:List Rat} (h:QL H v l) (hl:l.length≤100000) (hb:∀q,q∈l→ht q≤100):PC prog 127 #[v] H fun r _=>r=zaf (zaK l):=by
 obtain⟨a,cap,rfl⟩:=SlC.val h;have hz:zad (zaf (zaK (l.take 0)))=[.bool false,.int .u64 0,.string ⟨#[]⟩,.int .u64 0,.string ⟨#[]⟩]:=zaH;refine BD func127 ntmps127 ?_;refine uR ?_;refine EV.loopK (ι:=Nat) [2,3,6,7] [2] (fun i=>[(8,.v (.int .i64 (i:Int)))]) (fun i=>[(3,50,zad (zaf (zaK (l.take i))))]) (fun _=>[]) (fun i G=>i≤l.length) (fun i=>l.length-i) (0) rfl rfl ⟨rfl,trivial⟩ ⟨by rw[hz];rfl,trivial⟩ rfl (fun _=>rfl) (qQ _) ?_;intro i G1 hG1 hi;refine uR ?_;refine EV.cond rfl (fun hlt=>?_) (fun hlt=>?_)
 ·simp only[nN]at hlt;obtain⟨q,hqi⟩:=gE hlt;have hqb:=hb q (qF hqi);have hsb:=zdz 100 (l.take i) (fun q hq=>hb q (List.mem_of_mem_take hq));rw[qP,qo hi]at hsb;have hadd:=zez (zaK (l.take i)) q (zaQ hsb oM) (zaQ hqb oM);rw[←zbH,←zam hqi]at hadd;refine uR ?_;refine EVL.idxM tO rfl rfl rfl rfl rfl rfl rfl rfl rfl ((SlC.mono (show SlC H (.slice a l.length cap) l.length 5 (l.flatMap fun q=>zad (zaf q)) from h) hG1)) (i) (rfl) (hlt) ((QL.at (H:=H) (v:=.slice a l.length cap) hqi)) ?_
  repeat (first|refine RUN ?_|refine CV (hadd) ?_|refine CE (hadd) ?_)
  refine⟨i+1,⟨?_,trivial⟩,sB,⟨rfl,trivial⟩,sB,rfl,hlt,Hp.Le.refl _,by omega⟩;rw[zac i (by omega)];rfl
 ·simp only[nN]at hlt;obtain rfl:i=l.length:=oM;rw[qb];refine uR ?_;rfl
theorem zs2 {H:Hp} {v:Value} {l:List Rat} (h:QL H v l) (hl:l.length≤100000) (h0:l.length≠0) (hb:∀q,q∈l→ht q≤100):PC prog 82 #[v] H fun r _=>r=.tuple #[zaf (zaK l / ((l.length:Int):Rat)),.bool true]:=by
 obtain⟨a,cap,rfl⟩:=SlC.val h;have hs:=zdz 100 l hb;have hln:=zoX hl;have hsum:=zsk h hl hb;have hof:=zhE (l.length:Int) oM oM;have hd:=zjP (zaK l) ((l.length:Int):Rat) (zaQ hs oM) (zaQ hln oM) (by intro e;have:((l.length:Int):Rat)=((0:Int):Rat):=e;exact h0 (by have:=Rat.intCast_inj.1 this;omega));refine BD func82 ntmps82 ?_
 repeat (first|refine RUN ?_|refine CV (hsum) ?_|refine CV (hof) ?_|refine CV (hd) ?_|refine CE (hsum) ?_|refine CE (hof) ?_|refine CE (hd) ?_)
 rfl
theorem zs1 {H:Hp} {v:Value} (h:QL H v []):PC prog 82 #[v] H fun r _=>r=.tuple #[zaf 0,.bool false]:=by
 obtain⟨a,cap,rfl⟩:=SlC.val h;have hsum:=zsk h (qQ _) (by intro q hq;cases hq);have hof:=zhE 0 oM oM;rw[show ((0:Int):Rat)=0 from rfl]at hof;have hd:=zlf 0;refine BD func82 ntmps82 ?_
 repeat (first|refine RUN ?_|refine CV (hsum) ?_|refine CV (hof) ?_|refine CV (hd) ?_|refine CE (hsum) ?_|refine CE (hof) ?_|refine CE (hd) ?_)
 rfl
def zay (n:Int) (cs:List Int) (sq:Int) (q:Rat):List Value:=.int .i64 n::(cs.map (fun z=>Value.int .i64 z)++(.int .i64 sq::zad (zaf q)))
theorem zat {n:Int} {cs:List Int} {sq:Int} {q:Rat} (h:cs.length=12):(zay n cs sq q).length=19:=by
 unfold zay;rw[qR,qJ,qV,h];rfl
theorem ziF {α:Type} {a b:List α} {k:Nat} (h:a.length=k):(a++b).drop k=b:=List.drop_left' h
theorem zcH {n:Int} {cs:List Int} {sq:Int} {q:Rat}:((zay n cs sq q).drop 0).take 1=[.int .i64 n]:=rfl
theorem zcn {n n':Int} {cs:List Int} {sq:Int} {q:Rat}:(zay n cs sq q).take 0++[.int .i64 n']++(zay n cs sq q).drop (0+1)=zay n' cs sq q:=rfl
theorem zbU (n:Int) (cs:List Int) (sq:Int) (q:Rat):zay n cs sq q=(.int .i64 n::cs.map (fun z=>Value.int .i64 z))++(.int .i64 sq::zad (zaf q)):=rfl
theorem zft {n:Int} {cs:List Int} {sq:Int} {q:Rat} (h:cs.length=12):((zay n cs sq q).drop 13).take 1=[.int .i64 sq]:=by
 rw[zbU,ziF (by rw[qR,qV,h])];rfl
theorem zem {n:Int} {cs:List Int} {sq sq':Int} {q:Rat} (h:cs.length=12):(zay n cs sq q).take 13++[.int .i64 sq']++(zay n cs sq q).drop (13+1)=zay n cs sq' q:=by
 have e:(zay n cs sq q).drop (13+1)=zad (zaf q):=by
  rw[←List.drop_drop,zbU,ziF (by rw[qR,qV,h])];rfl
 rw[e,zbU,List.take_left' (by rw[qR,qV,h]),zbU];simp
theorem ze1 {n:Int} {cs:List Int} {sq:Int} {q:Rat} (h:cs.length=12):((zay n cs sq q).drop 14).take 5=zad (zaf q):=by
 have e:(zay n cs sq q).drop (13+1)=zad (zaf q):=by
  rw[←List.drop_drop,zbU,ziF (by rw[qR,qV,h])];rfl
 rw[e];rfl
theorem zdH {n:Int} {cs:List Int} {sq:Int} {q q':Rat} (h:cs.length=12):(zay n cs sq q).take 14++zad (zaf q')++(zay n cs sq q).drop (14+5)=zay n cs sq q':=by
 have hl:=zat (n:=n) (sq:=sq) (q:=q) h;have e:zay n cs sq q=(.int .i64 n::cs.map (fun z=>Value.int .i64 z)++[.int .i64 sq])++zad (zaf q):=by rw[zbU];simp
 rw[qk oM,qG,e,List.take_left' (by simp[h]),zbU];simp
theorem zhj {n:Int} {cs:List Int} {sq:Int} {q:Rat} {j:Nat} {z:Int} (hj:cs[j]?=some z):((zay n cs sq q).drop (1+j)).take 1=[.int .i64 z]:=by
 obtain⟨hl,hz⟩:=qE.1 hj;unfold zay;rw[Nat.add_comm,List.drop_succ_cons,List.drop_append_of_le_length (by rw[qV];omega),List.take_append_of_le_length (by rw[qu,qV];omega),qt (by rw[qV];exact hl)];simp[hz]
theorem zel {n:Int} {cs:List Int} {sq:Int} {q:Rat} {j:Nat} (z:Int) (hj:j<cs.length):(zay n cs sq q).take (1+j)++[.int .i64 z]++(zay n cs sq q).drop (1+j+1)=zay n (cs.set j z) sq q:=by
 unfold zay;rw[show 1+j=j+1 by omega,List.take_succ_cons,List.drop_succ_cons,List.take_append_of_le_length (by rw[qV];omega),List.drop_append_of_le_length (by rw[qV];omega),List.map_set];rw[List.set_eq_take_append_cons_drop,if_pos (by rw[qV];exact hj)];simp
theorem zmC {n:Int} {cs:List Int} {sq:Int} {q:Rat} {j:Nat} {z:Int} (hj:cs[j]?=some z):((zay n cs sq q).drop (0+1+j)).take 1=[.int .i64 z]:=zhj hj
theorem zky {n:Int} {cs:List Int} {sq:Int} {q:Rat} {j:Nat} (z:Int) (hj:j<cs.length):(zay n cs sq q).take (0+1+j)++[.int .i64 z]++(zay n cs sq q).drop (0+1+j+1)=zay n (cs.set j z) sq q:=zel z hj
theorem zdg:Tryz.prog.underlying 145=some (.array 12 3):=by kernel_rfl
theorem ze2:Tryz.te147.zero=zay 0 (List.replicate 12 0) 0 0:=by
 unfold zay;rw[zaH];rfl
theorem zmB {n:Int} {cs:List Int} {sq:Int} {q:Rat} (h:cs.length=12):((zay n cs sq q).drop 0).take 19=zay n cs sq q:=by
 rw[List.drop_zero,qO (by rw[zat h];omega)]
abbrev zas (kind classes:Int) (sl sv:Value):Value:=.agg #[.int .i64 kind,.int .i64 classes,sl,sv]
theorem zsu {H:Hp} {b:Nat} {cl:Int} {la:Option Addr} {ln lc:Nat} {va:Option Addr} {vc:Nat} {vals:List Rat} (hv:QL H (.slice va vals.length vc) vals) {r n:Nat} (hn:n≤1000000) {x q:Rat} (hr:vals[r]?=some x) (hx:sm x) (hq:sm q) {cs:List Int} (hc:cs.length=12) {sq:Int} :
  PW prog 125 #[.pointer (some ⟨b,0,none⟩),zas 2 cl (.slice la ln lc) (.slice va vals.length vc),.int .i64 (r:Int)] H [(b,147,zay n cs sq q)] fun v ow _=>v=.tuple #[]∧ow=[(b,147,zay ((n+1:Nat):Int) cs sq (q+x))]:=by
 have hadd:=zez q x hq hx;have hlen:=zat (n:=(n:Int)) (cs:=cs) (sq:=sq) (q:=q) hc;obtain⟨hrl,_⟩:=qE.1 hr;have hs:SlC H (.slice va vals.length vc) vals.length 5 (vals.flatMap fun q=>zad (zaf q)):=hv;refine PW.body tO func125 rfl kR ntmps125 rfl rfl ?_;refine uR ?_;refine RP ?_;refine EVL.loadOwn tO rfl rfl rfl rfl rfl rfl (0) rfl (zcH) rfl rfl ?_;refine RP ?_;rw[show IntKind.i64.wrap ((n:Int)+1)=((n+1:Nat):Int) by rw[pM];omega];refine EVL.storeOwn tO rfl rfl rfl rfl rfl rfl ([]) ([]) rfl rfl rfl rfl ((by rw[hlen];show 0+1≤19;omega)) (zcn) ?_;refine uR ?_;apply EV.drawn 11 kR kR;intro xv yw;(repeat (first|refine' DD ?_|refine' vN ?_|refine' vF ?_));refine' DJ.ofVal (zaa.loadOwn tO rfl rfl rfl rfl (0) rfl (ze1 hc) rfl rfl) rfl rfl rfl ?_;rotate_left;(repeat (first|refine' DD ?_|refine' vN ?_|refine' vF ?_));refine' DJ.idxM tO rfl rfl rfl rfl rfl rfl rfl rfl rfl (hs) (r) (rfl) (hrl) (QL.at (H:=H) (v:=.bool true) hr) ?_;rotate_left;(repeat (first|refine' DD ?_|(refine' DC (hadd) (h:=?_);rotate_left)));(refine DJ.nil (fun G1 hG1 hF1=>?_);(case hS|hS2=>rfl));refine RP ?_;refine EVL.storeOwn tO rfl rfl rfl rfl rfl rfl ([]) ([]) rfl rfl rfl rfl ((by rw[zat hc];show 14+5≤19;omega)) (zdH hc) ?_;refine uR ?_;exact⟨rfl,rfl⟩
theorem zss {H:Hp} {b:Nat} {cl:Int} {va:Option Addr} {vn vc:Nat} {la:Option Addr} {lc:Nat} {ls:List Int} (hv:IL H (.slice la ls.length lc) ls) {r n:Nat} (hn:n≤1000000) {k m sq:Nat} (hr:ls[r]?=some (k:Int)) (hk:k<12) {cs:List Int} (hc:cs.length=12) (hm:cs[k]?=some (m:Int)) (hmb:m≤1000000) (hsb:sq≤10000000000000) {q:Rat} :
  PW prog 125 #[.pointer (some ⟨b,0,none⟩),zas 1 cl (.slice la ls.length lc) (.slice va vn vc),.int .i64 (r:Int)] H [(b,147,zay n cs sq q)] fun v ow _=>v=.tuple #[]∧ow=[(b,147,zay ((n+1:Nat):Int) (cs.set k ((m+1:Nat):Int)) ((sq+2*m+1:Nat):Int) q)]:=by
 have hlen:=zat (n:=(n:Int)) (cs:=cs) (sq:=(sq:Int)) (q:=q) hc;obtain⟨hrl,_⟩:=qE.1 hr
 have w1:IntKind.i64.wrap ((sq:Int)+IntKind.i64.wrap (IntKind.i64.wrap (2*(m:Int))+1))=((sq+2*m+1:Nat):Int):=by
  rw[show IntKind.i64.wrap (2*(m:Int))=2*(m:Int) by rw[pM];omega,show IntKind.i64.wrap (2*(m:Int)+1)=2*(m:Int)+1 by rw[pM];omega,pM];omega
 have w2:IntKind.i64.wrap ((m:Int)+1)=((m+1:Nat):Int):=by rw[pM];omega
 refine PW.body tO func125 rfl kR ntmps125 rfl rfl ?_;refine uR ?_;refine RP ?_;refine EVL.loadOwn tO rfl rfl rfl rfl rfl rfl (0) rfl (zcH) rfl rfl ?_;refine RP ?_;rw[show IntKind.i64.wrap ((n:Int)+1)=((n+1:Nat):Int) by rw[pM];omega];refine EVL.storeOwn tO rfl rfl rfl rfl rfl rfl ([]) ([]) rfl rfl rfl rfl ((by rw[hlen];show 0+1≤19;omega)) (zcn) ?_;refine uR ?_;refine vI (hv) (r) (rfl) (hrl) ((by rw[qK,hr];rfl)) ?_;refine uR ?_;apply EV.drawn 13 kR kR;intro xv yw;(repeat (first|refine' DD ?_|refine' vN ?_|refine' vF ?_));refine' DJ.ofVal (zaa.loadOwn tO rfl rfl rfl rfl (0) rfl (zft hc) rfl rfl) rfl rfl rfl ?_;rotate_left;(repeat (first|refine' DD ?_|refine' vN ?_|refine' vF ?_));refine' DJ.idxA tO rfl rfl rfl rfl (zdg) rfl rfl rfl rfl (k) (rfl) (hk) ?_;rotate_left;refine' DJ.ofVal (zaa.loadOwn tO rfl rfl rfl rfl (0) rfl (zmC hm) rfl rfl) rfl rfl rfl ?_;rotate_left;(repeat (first|refine' DD ?_|refine' vN ?_|refine' vF ?_));(refine DJ.nil (fun G1 hG1 hF1=>?_);(case hS|hS2=>rfl));rw[w1];refine RP ?_;refine EVL.storeOwn tO rfl rfl rfl rfl rfl rfl ([]) ([]) rfl rfl rfl rfl ((by rw[zat hc];show 13+1≤19;omega)) (zem hc) ?_;refine uR ?_;apply EV.drawn 10 kR kR;intro xv yw;(repeat (first|refine' DD ?_|refine' vN ?_|refine' vF ?_));refine' DJ.idxA tO rfl rfl rfl rfl (zdg) rfl rfl rfl rfl (k) (rfl) (hk) ?_;rotate_left;refine' DJ.ofVal (zaa.loadOwn tO rfl rfl rfl rfl (0) rfl (zmC hm) rfl rfl) rfl rfl rfl ?_;rotate_left;(repeat (first|refine' DD ?_|refine' vN ?_|refine' vF ?_));refine' DJ.idxA tO rfl rfl rfl rfl (zdg) rfl rfl rfl rfl (k) (rfl) (hk) ?_;rotate_left;(refine DJ.nil (fun G2 hG2 hF2=>?_);(case hS|hS2=>rfl));rw[w2];refine RP ?_;refine EVL.storeOwn tO rfl rfl rfl rfl rfl rfl ([]) ([]) rfl rfl rfl rfl ((by rw[zat hc];show 0+1+k+1≤19;omega)) (zky _ (show k<cs.length by omega)) ?_;refine uR ?_;exact⟨rfl,rfl⟩
theorem zdQ {n:Nat} (h0:¬n=0):((n:Int):Rat)≠0:=fun h=>by
 have:=congrArg Rat.num h;rw[Rat.num_intCast]at this;have h3:(0:Rat).num=0:=rfl;omega
theorem zbm (x:Rat):x / 0=0:=by rw[Rat.div_def,Rat.inv_zero,Rat.mul_zero]
theorem zqo {H:Hp} {b n:Nat} {cs:List Int} (hc:cs.length=12) {sq:Nat} (hsq:sq≤10000000000000) (hn:n≤1000000) {q:Rat} :
  PW prog 79 #[.pointer (some ⟨b,0,none⟩),.int .i64 1] H [(b,147,zay n cs sq q)] fun v ow _=>v=zaf (((sq:Int):Rat) / ((n:Int):Rat))∧ow=[(b,147,zay n cs sq q)]:=by
 have hof:=zhE (sq:Int) oM oM;have hof2:=zhE (n:Int) oM oM
 have hnh:ht ((n:Int):Rat)≤100:=by
  have:=zby (n:Int);have h2:bl (n:Int).natAbs≤20:=za1 oM;omega
 have hsh:ht ((sq:Int):Rat)≤100:=by
  have:=zby (sq:Int);have h2:bl (sq:Int).natAbs≤50:=za1 oM;omega
 refine PW.body tO func79 rfl kR ntmps79 rfl rfl ?_;refine uR ?_;refine RP ?_;refine EVL.loadOwn tO rfl rfl rfl rfl rfl rfl (0) rfl (zcH) rfl rfl ?_;refine uR ?_;by_cases h0:n=0
 ·subst h0;rw[show (((0:Nat):Int) == 0)=true from rfl];refine uR ?_;rw[show (((0:Nat):Int):Rat)=0 from rfl,zbm];exact⟨zbQ.symm,rfl⟩
 ·have hdiv:=zjP ((sq:Int):Rat) ((n:Int):Rat) (zaQ hsh oM) (zaQ hnh oM) (zdQ h0);rw[show ((n:Int) == 0)=false from pR.2 (by omega)];refine uR ?_;refine RP ?_;refine EVL.loadOwn tO rfl rfl rfl rfl rfl rfl (0) rfl (zft hc) rfl rfl ?_
  repeat (first|refine RUN ?_|refine CV (hof) ?_|refine CE (hof) ?_)
  apply EV.drawn 12 kR kR;intro xv yw;(repeat (first|refine' DD ?_|refine' vN ?_|refine' vF ?_));refine' DJ.ofVal (zaa.loadOwn tO rfl rfl rfl rfl (0) rfl (zcH) rfl rfl) rfl rfl rfl ?_;rotate_left;(repeat (first|refine' DD ?_|(refine' DC (hof2) (h:=?_);rotate_left)|(refine' DC (hdiv) (h:=?_);rotate_left)));(refine DJ.nil (fun G2 hG2 hF2=>?_);(case hS|hS2=>rfl));refine uR ?_;exact⟨rfl,rfl⟩
end
section
def csL (l:List Int):List Int:=(List.range 12).map fun (k:Nat)=>(l.count (k:Int):Int)
def sqL (l:List Int):Nat:=(l.map fun x=>l.count x).sum
theorem zbP (l:List Int):(csL l).length=12:=by simp[csL]
theorem zhP (l:List Int) {k:Nat} (hk:k<12):(csL l)[k]?=some (l.count (k:Int):Int):=by
 unfold csL;rw[qK,List.getElem?_range hk];rfl
theorem zfa (l:List Int) (x y:Int):(l++[x]).count y=l.count y+if x=y then 1 else 0:=by
 rw[List.count_append,List.count_singleton];congr 1;by_cases h:x=y
 ·rw[if_pos h,h];simp
 ·rw[if_neg h];simp[h]
theorem ziB (l:List Int) {k:Nat} (hk:k<12):csL (l++[(k:Int)])=(csL l).set k ((l.count (k:Int)+1:Nat):Int):=by
 apply List.ext_getElem?;intro j;rw[List.getElem?_set];by_cases hj:j<12
 ·rw[zhP _ hj,zhP _ hj,zfa,zbP];by_cases e:k=j
  ·subst e;rw[if_pos rfl,if_pos rfl,if_pos hk]
  ·rw[if_neg e,if_neg oM,qY]
 ·rw[qg (by rw[zbP];omega),qg (by rw[zbP];omega),if_neg (by omega)]
theorem zp6 (l m:List Int) (x:Int):(m.map fun y=>l.count y+if x=y then 1 else 0).sum=(m.map fun y=>l.count y).sum+m.count x:=by
 induction m with
 | nil=>rfl
 | cons a m ih =>
  rw[qy,List.sum_cons,qy,List.sum_cons,ih,List.count_cons];by_cases h:x=a
  ·rw[if_pos h,h];simp;omega
  ·have h2:¬(a == x)=true:=by simp;omega
   rw[if_neg h,if_neg h2];omega
theorem zjc (l:List Int) (x:Int):sqL (l++[x])=sqL l+2*l.count x+1:=by
 unfold sqL;rw[qp,List.sum_append];have e:(l.map fun y=>(l++[x]).count y)=l.map fun y=>l.count y+if x=y then 1 else 0:=List.map_congr_left fun y _=>zfa l x y
 rw[e,zp6]
 have:([x].map fun y=>(l++[x]).count y).sum=l.count x+1:=by
  simp
 rw[this];omega
theorem zsj (l:List Int) (B:Nat):∀m:List Int,(∀y,y∈m→l.count y≤B)→(m.map fun y=>l.count y).sum≤m.length*B
 | [],_=>by simp
 | a::m,h=>by
  have ih:=zsj l B m (fun y hy=>h y (qm _ hy));have:=h a (qh ..);rw[qy,List.sum_cons,qR,Nat.succ_mul];omega
theorem zik (l:List Int):sqL l≤l.length*l.length:=zsj l l.length l (fun y _=>List.count_le_length)
def atR (vals:List Rat) (rs:List Int):List Rat:=rs.map fun r=>vals.getD r.toNat 0
def atI (ls:List Int) (rs:List Int):List Int:=rs.map fun r=>ls.getD r.toNat 0
theorem zlW (vals:List Rat) {rs:List Int} {i:Nat} {r:Int} {x:Rat} (h:rs[i]?=some r) (hx:vals[r.toNat]?=some x):(atR vals rs).take (i+1)=(atR vals rs).take i++[x]:=by
 have:(atR vals rs)[i]?=some x:=by unfold atR;rw[qK,h];simp[hx]
 obtain⟨hl,hh⟩:=qE.1 this;rw[qS hl,hh]
theorem zqG (ls:List Int) {rs:List Int} {i:Nat} {r x:Int} (h:rs[i]?=some r) (hx:ls[r.toNat]?=some x):(atI ls rs).take (i+1)=(atI ls rs).take i++[x]:=by
 have:(atI ls rs)[i]?=some x:=by unfold atI;rw[qK,h];simp[hx]
 obtain⟨hl,hh⟩:=qE.1 this;rw[qS hl,hh]
theorem zbM (vals:List Rat) (rs:List Int):(atR vals rs).length=rs.length:=by simp[atR]
theorem zb5 (ls rs:List Int):(atI ls rs).length=rs.length:=by simp[atI]
theorem zd9 {vals:List Rat} {rs:List Int} (h:∀r,r∈rs→0≤r∧r<(vals.length:Int)):∀q,q∈atR vals rs→q∈vals:=fun q hq=>by
 obtain⟨r,hr,rfl⟩:=List.mem_map.1 hq;have:=h r hr;have hl:r.toNat<vals.length:=oM;rw[qB,qA hl];exact List.getElem_mem hl
def zdB (l:List Rat):Rat:=zaK l / ((l.length:Int):Rat)
def zeF (m:Rat) (l:List Rat):List Rat:=l.map fun v=>(v-m)*(v-m)
theorem zgB (m:Rat) (l:List Rat) (x:Rat):zaK (zeF m (l++[x]))=zaK (zeF m l)+(x-m)*(x-m):=by
 unfold zeF;rw[qp,List.map_singleton,zbH]
end
section
open Go.RowKit _root_.Go.Proofs.Tryz
theorem zqk {H:Hp} {cl:Int} {va:Option Addr} {vn vc:Nat} {la:Option Addr} {lc:Nat} {ls:List Int} (hv:IL H (.slice la ls.length lc) ls) {ra:Option Addr} {rc:Nat} {rs:List Int} (hr:IL H (.slice ra rs.length rc) rs) (hn:rs.length≤100000)
  (hrs:∀r,r∈rs→0≤r∧r<(ls.length:Int)) (hls:∀z,z∈ls→0≤z∧z<12) :
  PC prog 76 #[zas 1 cl (.slice la ls.length lc) (.slice va vn vc),.slice ra rs.length rc] H fun r _=>r=.agg (zay (rs.length:Nat) (csL (atI ls rs)) (sqL (atI ls rs)) 0).toArray:=by
 refine BD func76 ntmps76 ?_;refine uR ?_;(first|refine EVL.unbox (5) rfl fun b=>?_|refine EV.unbox (5) rfl fun b=>?_);rw[ze2];refine EV.loopK (ι:=Nat) [2,4,5,8,9] [2,4] (fun i=>[(10,.v (.int .i64 (i:Int)))]) (fun _=>[]) (fun i=>[(b,147,zay (i:Nat) (csL ((atI ls rs).take i)) (sqL ((atI ls rs).take i)) 0)]) (fun i _=>i≤rs.length) (fun i=>rs.length-i) (0) rfl rfl ⟨rfl,trivial⟩ trivial rfl (fun _=>rfl) (qQ _) ?_;rintro i G1 hG1 hi;refine uR ?_;refine EV.cond rfl (fun hlt=>?_) (fun hlt=>?_)
 ·simp only[nN]at hlt;obtain⟨r,hri⟩:=gE hlt;have hb:=hrs r (qF hri);obtain⟨R,rfl⟩:=qj hb.1;obtain⟨x,hx⟩:∃x,ls[R]?=some x:=⟨_,qA oM⟩;have hxb:=hls x (qF hx);obtain⟨k,rfl⟩:=qj hxb.1;have hk:k<12:=oM;have ht:=zqG ls hri (by rw[qU];exact hx);have hlen:((atI ls rs).take i).length=i:=by rw[qP,zb5];omega
  have hcnt:((atI ls rs).take i).count (k:Int)≤i:=qI List.count_le_length (Nat.le_of_eq hlen);have hsq:=zik ((atI ls rs).take i);rw[hlen]at hsq;have hsq2:i*i≤100000*100000:=Nat.mul_le_mul oM oM;have hcs:=ziB ((atI ls rs).take i) hk;have hsn:=zjc ((atI ls rs).take i) (k:Int);rw[←ht]at hcs hsn;refine uR ?_;refine vI ((hr.mono hG1)) (i) (rfl) (hlt) ((by rw[qK,hri];rfl)) ?_;refine uR ?_;refine EVL.callW rfl rfl rfl rfl rfl ([(b,147,zay (i:Nat) (csL ((atI ls rs).take i)) (sqL ((atI ls rs).take i)) 0)]) ([]) rfl (zss (n:=i) (m:=((atI ls rs).take i).count (k:Int)) (sq:=sqL ((atI ls rs).take i)) (hv.mono hG1) oM hx hk (zbP _) (zhP _ hk) oM oM) ?_;rintro v ow G2 ⟨rfl,rfl⟩ hG2;rw[←hcs,←hsn];refine uR ?_;refine⟨i+1,⟨?_,trivial⟩,sB,trivial,sB,rfl,hlt,hG2,by omega⟩;rw[zac i (by omega)];rfl
 ·simp only[nN]at hlt;obtain rfl:i=rs.length:=oM;rw[show (atI ls rs).take rs.length=atI ls rs by rw[←zb5 ls rs,qb]];have hall:=zmB (n:=(rs.length:Nat)) (cs:=csL (atI ls rs)) (sq:=sqL (atI ls rs)) (q:=0) (zbP _);refine uR ?_;refine EVL.loadOwn tO rfl rfl rfl rfl rfl rfl (0) rfl (hall) rfl rfl ?_;refine uR ?_;rfl
theorem zql {H:Hp} {cl:Int} {va:Option Addr} {vc:Nat} {vals:List Rat} {la:Option Addr} {ln lc:Nat} (hv:QL H (.slice va vals.length vc) vals) {ra:Option Addr} {rc:Nat} {rs:List Int} (hr:IL H (.slice ra rs.length rc) rs) (hn:rs.length≤10000)
  (hrs:∀r,r∈rs→0≤r∧r<(vals.length:Int)) (hls:∀q,q∈vals→ht q≤100) :
  PC prog 76 #[zas 2 cl (.slice la ln lc) (.slice va vals.length vc),.slice ra rs.length rc] H fun r _=>r=.agg (zay (rs.length:Nat) (List.replicate 12 0) 0 (zaK (atR vals rs))).toArray:=by
 have hmem:=fun q hq=>hls q (zd9 hrs q hq);refine BD func76 ntmps76 ?_;refine uR ?_;(first|refine EVL.unbox (5) rfl fun b=>?_|refine EV.unbox (5) rfl fun b=>?_);rw[ze2];refine EV.loopK (ι:=Nat) [2,4,5,8,9] [2,4] (fun i=>[(10,.v (.int .i64 (i:Int)))]) (fun _=>[]) (fun i=>[(b,147,zay (i:Nat) (List.replicate 12 0) 0 (zaK ((atR vals rs).take i)))]) (fun i _=>i≤rs.length) (fun i=>rs.length-i) (0) rfl rfl ⟨rfl,trivial⟩ trivial rfl (fun _=>rfl) (qQ _) ?_;rintro i G1 hG1 hi;refine uR ?_;refine EV.cond rfl (fun hlt=>?_) (fun hlt=>?_)
 ·simp only[nN]at hlt;obtain⟨r,hri⟩:=gE hlt;have hb:=hrs r (qF hri);obtain⟨R,rfl⟩:=qj hb.1;obtain⟨x,hx⟩:∃x,vals[R]?=some x:=⟨_,qA oM⟩;have hxb:=hls x (qF hx);have ht:=zlW vals hri (by rw[qU];exact hx);have hlen:((atR vals rs).take i).length=i:=by rw[qP,zbM];omega
  have hsb:=zdz 100 ((atR vals rs).take i) (fun q hq=>hmem q (List.mem_of_mem_take hq));rw[hlen]at hsb;have hsn:=zbH ((atR vals rs).take i) x;rw[←ht]at hsn;refine uR ?_;refine vI ((hr.mono hG1)) (i) (rfl) (hlt) ((by rw[qK,hri];rfl)) ?_;refine uR ?_;refine EVL.callW rfl rfl rfl rfl rfl ([(b,147,zay (i:Nat) (List.replicate 12 0) 0 (zaK ((atR vals rs).take i)))]) ([]) rfl (zsu (n:=i) (hv.mono hG1) oM hx (zaQ hxb oM) (zaQ hsb oM) (by rfl)) ?_;rintro v ow G2 ⟨rfl,rfl⟩ hG2;rw[←hsn];refine uR ?_;refine⟨i+1,⟨?_,trivial⟩,sB,trivial,sB,rfl,hlt,hG2,by omega⟩;rw[zac i (by omega)];rfl
 ·simp only[nN]at hlt;obtain rfl:i=rs.length:=oM;rw[show (atR vals rs).take rs.length=atR vals rs by rw[←zbM vals rs,qb]];have hall:=zmB (n:=(rs.length:Nat)) (cs:=List.replicate 12 0) (sq:=0) (q:=zaK (atR vals rs)) (by rfl);refine uR ?_;refine EVL.loadOwn tO rfl rfl rfl rfl rfl rfl (0) rfl (hall) rfl rfl ?_;refine uR ?_;rfl
theorem zlk {cl:Int} {va:Option Addr} {vn vc:Nat} {la:Option Addr} {ln lc:Nat}:PV prog 78 #[zas 1 cl (.slice la ln lc) (.slice va vn vc)] (.int .i64 (ln:Int)):=by
 refine PV.of_pc ?_;refine BD func78 ntmps78 ?_;refine uR ?_;rfl
theorem zo5 {cl:Int} {va:Option Addr} {vn vc:Nat} {la:Option Addr} {ln lc:Nat}:PV prog 78 #[zas 2 cl (.slice la ln lc) (.slice va vn vc)] (.int .i64 (vn:Int)):=by
 refine PV.of_pc ?_;refine BD func78 ntmps78 ?_;refine uR ?_;rfl
theorem zeD {va:Option Addr} {vn vc:Nat} {la:Option Addr} {lc:Nat} (h0:1≤vn) (h1:vn≤300):PV prog 75 #[zas 2 0 (.slice la 0 lc) (.slice va vn vc)] (.int .i64 0):=by
 refine PV.of_pc ?_;have hlen:=zo5 (cl:=0) (va:=va) (vn:=vn) (vc:=vc) (la:=la) (ln:=0) (lc:=lc);refine BD func75 ntmps75 ?_
 repeat (first|refine RUN ?_|refine CV (hlen) ?_|refine CE (hlen) ?_)
 rw[qC (show ¬(vn:Int)<1 by omega)];refine uR ?_;rw[qC (show ¬(vn:Int)>300 by omega)];refine uR ?_;rfl
theorem zgs {H:Hp} {va:Option Addr} {vc:Nat} {la:Option Addr} {lc:Nat} {ls:List Int} (hv:IL H (.slice la ls.length lc) ls) {cl:Int} (hc:1≤cl∧cl≤12) (h0:1≤ls.length) (h1:ls.length≤300) (hls:∀z,z∈ls→0≤z∧z<cl):PC prog 75 #[zas 1 cl (.slice la ls.length lc) (.slice va 0 vc)] H fun r _=>r=.int .i64 0:=by
 have hlen:=zlk (cl:=cl) (va:=va) (vn:=0) (vc:=vc) (la:=la) (ln:=ls.length) (lc:=lc);refine BD func75 ntmps75 ?_
 repeat (first|refine RUN ?_|refine CV (hlen) ?_|refine CE (hlen) ?_)
 rw[qC (show ¬(ls.length:Int)<1 by omega)];refine uR ?_;rw[qC (show ¬(ls.length:Int)>300 by omega)];refine uR ?_;rw[qC (show ¬cl<1 by omega)];refine uR ?_;rw[qC (show ¬cl>12 by omega)];refine uR ?_;refine EV.loopK (ι:=Nat) [1,49,50] [1] (fun i=>[(51,.v (.int .i64 (i:Int)))]) (fun _=>[]) (fun _=>[]) (fun i _=>i≤ls.length) (fun i=>ls.length-i) (0) rfl rfl ⟨rfl,trivial⟩ trivial rfl (fun _=>rfl) (qQ _) ?_;rintro i G1 hG1 hi;refine uR ?_;refine EV.cond rfl (fun hlt=>?_) (fun hlt=>?_)
 ·simp only[nN]at hlt;obtain⟨z,hz⟩:=gE hlt;have hb:=hls z (qF hz);refine uR ?_;refine vI ((hv.mono hG1)) (i) (rfl) (hlt) ((by rw[qK,hz];rfl)) ?_;refine uR ?_;rw[qC (show ¬z<0 by omega)];refine uR ?_;rw[qC (show ¬z≥cl by omega)];refine uR ?_;refine⟨i+1,⟨?_,trivial⟩,sB,trivial,sB,rfl,hlt,Hp.Le.refl _,by omega⟩;rw[zac i (by omega)];rfl
 ·try refine uR ?_
  rfl
abbrev iv:Int→Value:=fun z=>.int .i64 z
def inR (n:Nat) (r:Int):Bool:=decide (0≤r) && decide (r<(n:Int))
def exL (rs:List Int) (n:Nat):List Int:=rs.filter (inR n)
theorem zcK {rs:List Int} {n:Nat}:∀r,r∈exL rs n→0≤r∧r<(n:Int):=fun r hr=>by
 have:=(List.mem_filter.1 hr).2;unfold inR at this;simpa using this
theorem zbk (rs:List Int) (n:Nat):(exL rs n).length≤rs.length:=List.length_filter_le _ _
theorem zdy {rs:List Int} {n:Nat} (h:∀r,r∈rs→0≤r∧r<(n:Int)):exL rs n=rs:=List.filter_eq_self.2 fun r hr=>by
 have:=h r hr;unfold inR;simp[this.1,this.2]
theorem zfd {rs:List Int} {n i:Nat} {r:Int} (h:rs[i]?=some r):exL (rs.take (i+1)) n=exL (rs.take i) n++if inR n r then [r] else []:=by
 rw[zam h];unfold exL;rw[List.filter_append];cases hp:inR n r <;> simp[hp]
theorem zaL.il {w:Value} {l:List Int} {ow:Ows} {T:TypeId} {x:Int} (h:zaL T 1 w (l.length+1) (l.map iv++[iv x]) ow):zaL T 1 w (l++[x]).length ((l++[x]).map iv) ow:=by
 rw[qJ,qp];exact h
theorem zcq {H:Hp} {v:Value} {rs:List Int} (hr:IL H v rs) (hn:rs.length≤1000000) (n:Nat):PC prog 77 #[v,.int .i64 (n:Int)] H fun r H'=>IL H' r (exL rs n):=by
 obtain⟨a,cap,rfl⟩:=SlC.val hr;refine BD func77 ntmps77 ?_;refine uR ?_;refine EV.loopK (ι:=Nat × Value × Ows) [1,8,9] [] (fun q=>[(5,.v q.2.1),(10,.v (.int .i64 (q.1:Int)))]) (fun _=>[]) (fun q=>q.2.2) (fun q _=>q.1≤rs.length∧zaL 3 1 q.2.1 (exL (rs.take q.1) n).length ((exL (rs.take q.1) n).map iv) q.2.2) (fun q=>rs.length-q.1) ((0,.slice none 0 0,[])) rfl rfl ⟨rfl,rfl,trivial⟩ trivial rfl (fun _=>rfl) (⟨qQ _,zaL.nil _ _⟩) ?_;rintro⟨i,w,ow⟩ G1 hG1 ⟨hi,hown⟩;dsimp only at hi hown;obtain⟨wa,wc,rfl⟩:=hown.val;refine uR ?_;refine EV.cond rfl (fun hlt=>?_) (fun hlt=>?_)
 ·simp only[nN]at hlt;obtain⟨r,hri⟩:=gE hlt;have hex:=zfd (n:=n) hri;have hle:=zbk (rs.take i) n;rw[qP]at hle;refine uR ?_;refine vI ((hr.mono hG1)) (i) (rfl) (hlt) ((by rw[qK,hri];rfl)) ?_;refine uR ?_;have wn:IntKind.i64.wrap ((i:Int)+1)=((i+1:Nat):Int):=zac i oM;by_cases h1:r≥0
  ·rw[qD h1];refine uR ?_;by_cases h2:r<(n:Int)
   ·have hp:inR n r=true:=by unfold inR;simp[h2];omega
    rw[hp,if_pos rfl]at hex;rw[qD h2];refine uR ?_;refine EVL.app1 tO rfl rfl rfl rfl rfl rfl rfl rfl rfl rfl rfl rfl rfl rfl rfl rfl rfl rfl rfl (fun _=>rfl) (ow) ([]) ((qG _).symm) (hown) oM fun _=>?_;intro v' ow' hown';refine uR ?_;refine⟨(i+1,v',ow'),⟨rfl,?_,trivial⟩,sB,trivial,trivial,qG _,⟨hlt,by rw[hex];exact hown'.il⟩,Hp.Le.refl _,by dsimp only;omega⟩;rw[wn];rfl
   ·have hp:inR n r=false:=by unfold inR;simp[h2]
    rw[hp,if_neg (by decide),qG]at hex;rw[qC h2];refine uR ?_;refine⟨(i+1,_,ow),⟨rfl,?_,trivial⟩,sB,trivial,trivial,rfl,⟨hlt,by rw[hex];exact hown⟩,Hp.Le.refl _,by dsimp only;omega⟩;rw[wn];rfl
  ·have hp:inR n r=false:=by unfold inR;simp;omega
   rw[hp,if_neg (by decide),qG]at hex;rw[qC h1];refine uR ?_;refine⟨(i+1,_,ow),⟨rfl,?_,trivial⟩,sB,trivial,trivial,rfl,⟨hlt,by rw[hex];exact hown⟩,Hp.Le.refl _,by dsimp only;omega⟩;rw[wn];rfl
 ·simp only[nN]at hlt;obtain rfl:i=rs.length:=oM;rw[qb]at hown ⊢;(first|refine EVL.publishL [] ow [] ((qG _).symm) hown fun G2 hG2 hs=>?_|refine EV.publishL [] ow [] ((qG _).symm) hown fun G2 hG2 hs=>?_);refine uR ?_;exact hs
theorem zkJ {H:Hp} {v:Value} {rs:List Int} (hr:IL H v rs) (hn:rs.length≤10000) {kd cl:Int} {va:Option Addr} {vc:Nat} {vals:List Rat} {la:Option Addr} {ln lc:Nat} (hv:QL H (.slice va vals.length vc) vals) :
  PC prog 80 #[zas kd cl (.slice la ln lc) (.slice va vals.length vc),v] H fun r H'=>QL H' r (atR vals (exL rs vals.length)):=by
 obtain⟨a,cap,rfl⟩:=SlC.val hr;refine BD func80 ntmps80 ?_;refine uR ?_;refine EVL.call rfl rfl rfl rfl rfl (zcq hr oM vals.length) ?_;intro r1 G0 he hG0;have hel:=zbk rs vals.length;have heb:=zcK (rs:=rs) (n:=vals.length);generalize exL rs vals.length=es at *
 obtain⟨a1,c1,rfl⟩:=SlC.val he;refine uR ?_;refine EV.loopK (ι:=Nat × Value × Ows) [2,12,13] [2] (fun q=>[(5,.v q.2.1),(14,.v (.int .i64 (q.1:Int)))]) (fun _=>[]) (fun q=>q.2.2) (fun q _=>q.1≤es.length∧zaL 50 5 q.2.1 q.1 (((atR vals es).take q.1).flatMap fun q=>zad (zaf q)) q.2.2) (fun q=>es.length-q.1) ((0,.slice none 0 0,[])) rfl rfl ⟨rfl,rfl,trivial⟩ trivial rfl (fun _=>rfl) (⟨qQ _,zaL.nil _ _⟩) ?_;rintro⟨i,w,ow⟩ G1 hG1 ⟨hi,hown⟩;dsimp only at hi hown;obtain⟨wa,wc,rfl⟩:=hown.val;refine uR ?_;refine EV.cond rfl (fun hlt=>?_) (fun hlt=>?_)
 ·simp only[nN]at hlt;obtain⟨r,hri⟩:=gE hlt;have hb:=heb r (qF hri);obtain⟨R,rfl⟩:=qj hb.1;obtain⟨x,hx⟩:∃x,vals[R]?=some x:=⟨_,qA oM⟩;have hRl:R<vals.length:=oM;have ht:=zlW vals hri (by rw[qU];exact hx);have hs:SlC G1 (.slice va vals.length vc) vals.length 5 (vals.flatMap fun q=>zad (zaf q)):=hv.mono (hG0.trans hG1);refine uR ?_;refine vI ((he.mono hG1)) (i) (rfl) (hlt) ((by rw[qK,hri];rfl)) ?_;refine uR ?_;refine EVL.idxM tO rfl rfl rfl rfl rfl rfl rfl rfl rfl (hs) (R) (rfl) (hRl) (QL.at (H:=H) (v:=.bool true) hx) ?_;refine uR ?_;refine EVL.app1 tO rfl rfl rfl rfl rfl rfl rfl rfl rfl rfl rfl rfl rfl rfl rfl rfl rfl rfl rfl (fun _=>rfl) (ow) ([]) ((qG _).symm) (hown) oM fun _=>?_;intro v' ow' hown';refine uR ?_;refine⟨(i+1,v',ow'),⟨rfl,?_,trivial⟩,sB,trivial,sB,qG _,⟨hlt,by dsimp only;rw[ht,List.flatMap_append];exact hown'⟩,Hp.Le.refl _,by dsimp only;omega⟩;rw[zac i (by omega)];rfl
 ·simp only[nN]at hlt;obtain rfl:i=es.length:=oM;rw[show (atR vals es).take es.length=atR vals es by rw[←zbM vals es,qb]]at hown;rw[←zbM vals es]at hown;(first|refine EVL.publishL [] ow [] ((qG _).symm) hown fun G2 hG2 hs=>?_|refine EV.publishL [] ow [] ((qG _).symm) hown fun G2 hG2 hs=>?_);rw[←zbM vals es];refine uR ?_;exact hs
theorem zfB {l:List Int} (sp:List Value) {j:Nat} {q:Int} (h:l[j]?=some q):((l.map iv++sp).drop (j*1)).take 1=[iv q]:=by
 obtain⟨hl,hq⟩:=qE.1 h;rw[Nat.mul_one,List.drop_append_of_le_length (by rw[qV];omega),qt (by rw[qV];omega)];simp[hq]
theorem zhN {l:List Int} (sp:List Value) {j:Nat} (q:Int) (h:j<l.length):(l.map iv++sp).take (j*1)++[iv q]++(l.map iv++sp).drop (j*1+1)=(l.set j q).map iv++sp:=by
 rw[Nat.mul_one,List.take_append_of_le_length (by rw[qV];omega),List.drop_append_of_le_length (by rw[qV];omega),List.map_set,List.set_eq_take_append_cons_drop,if_pos (by rw[qV];exact h)];simp
theorem zpy {α β:Type} (f:α→β) (l:List α) (k:Nat) (x:α):(zaB l k x).map f=zaB (l.map f) k (f x):=by
 unfold zaB;rw[qp,qy,List.map_take,List.map_drop]
theorem zf2 {α:Type} {l:List α} {i:Nat} {x:α} (h:l[i]?=some x):l.drop i=x::l.drop (i+1):=by
 obtain⟨hl,rfl⟩:=qE.1 h;exact qt hl
abbrev zhB (key:Int→Rat) (l:List Int):Prop:=zdk (l.map key)
theorem zmw {key:Int→Rat} {l:List Int} {k:Nat} {x:Int} (h:zhB key l) (h1:∀y,y∈l.take k→key y≤key x) (h2:∀y,y∈l.drop k→key x≤key y):zhB key (zaB l k x):=by
 unfold zhB;rw[zpy];refine zdF h (fun y hy=>?_) (fun y hy=>?_)
 ·rw[←List.map_take]at hy;obtain⟨z,hz,rfl⟩:=List.mem_map.1 hy;exact h1 z hz
 ·rw[←List.map_drop]at hy;obtain⟨z,hz,rfl⟩:=List.mem_map.1 hy;exact h2 z hz
theorem zpK {key:Int→Rat} {l:List Int} {k:Nat} {x y:Int} (h:zhB key l) (hk:l[k]?=some y) (hy:key y≤key x):∀z,z∈l.take (k+1)→key z≤key x:=fun z hz =>
 zhd (k:=k) (y:=key y) h (by rw[qK,hk];rfl) hy (key z) (by rw[←List.map_take];exact List.mem_map_of_mem hz)
theorem zuf {acc rest:List Int} {j:Nat} {x:Int} (h:j≤acc.length):(zaB acc j x++rest)[j]?=some x:=by
 unfold zaB;rw[qZ,qL (by rw[qP];omega),qP,qo h,Nat.sub_self];rfl
theorem zug {acc rest:List Int} {j:Nat} {x y:Int} (h:acc[j]?=some y):(zaB acc (j+1) x++rest)[j]?=some y:=by
 obtain⟨hl,_⟩:=qE.1 h;unfold zaB;rw[qZ,qM (by rw[qP];omega),List.getElem?_take_of_lt oM,h]
theorem zrq {acc rest:List Int} {j:Nat} {x:Int}:(zaB acc j x++rest).length=acc.length+1+rest.length:=by
 have:=(zcl acc j x).length_eq;rw[qJ,this,qJ];rfl
theorem zki {acc rest:List Int} {j:Nat} {x y:Int} (h:acc[j]?=some y):((zaB acc (j+1) x++rest).set (j+1) y).set j x=zaB acc j x++rest:=by
 obtain⟨hl,hy⟩:=qE.1 h;have hlen:(acc.take j).length=j:=by rw[qP];omega
 unfold zaB;rw[qS hl,hy,qt hl,hy]
 rw[show (acc.take j++[y]++x::acc.drop (j+1)++rest)=acc.take j++(y::x::(acc.drop (j+1)++rest)) by simp,
  List.set_append_right (j+1) y oM,hlen,show j+1-j=1 by omega,List.set_cons_succ,List.set_cons_zero,
  List.set_append_right j x oM,hlen,Nat.sub_self,List.set_cons_zero]
 simp
theorem znH (acc rest:List Int) (x:Int):zaB acc acc.length x++rest=acc++x::rest:=by
 unfold zaB;rw[qb,List.drop_length];simp
theorem zeN {H:Hp} {b cap:Nat} {l:List Int} {sp:List Value} (hl:l.length≤1000) {f:FuncId} {cs:List Value} {key:Int→Rat} (hcan:zaF prog f) (hcmp:∀G,H.Le G→∀x y,x∈l→y∈l→PC prog f ([iv x,iv y]++cs).toArray G fun u _=>u=.int .i64 (zb4 (key x) (key y))) :
  PW prog 285 #[.slice (some ⟨b,0,none⟩) l.length cap,.int .i64 0,.int .i64 (l.length:Int),.func (.func f) #[] cs.toArray] H [(b,3,l.map iv++sp)] fun v ow _=>v=.tuple #[]∧∃m,ow=[(b,3,m.map iv++sp)]∧m.Perm l∧zhB key m:=by
 refine PW.body tO func285 rfl kR ntmps285 rfl rfl ?_;refine uR ?_;refine EV.loopK (ι:=Nat × List Int) [0,1,2,3] [] (fun q=>[(8,.v (.int .i64 (q.1:Int)))]) (fun _=>[]) (fun q=>[(b,3,q.2.map iv++sp)]) (fun q _=>1≤q.1∧q.2.Perm l∧zhB key (q.2.take q.1)) (fun q=>l.length-q.1) ((1,l)) rfl rfl ⟨rfl,trivial⟩ trivial rfl (fun _=>rfl) (⟨qH _,List.Perm.refl _,by cases l with | nil=>exact List.Pairwise.nil | cons a l=>exact List.pairwise_singleton _ _⟩) ?_;rintro⟨i,cur⟩ G1 hG1 ⟨h1,hperm,hris⟩;dsimp only at h1 hperm hris;have hcl:=hperm.length_eq;refine uR ?_;refine EV.cond rfl (fun hlt=>?_) (fun hlt=>?_)
 ·simp only[nN]at hlt;obtain⟨x,hxi⟩:∃x,cur[i]?=some x:=⟨_,qA oM⟩;have hcut:cur=cur.take i++x::cur.drop (i+1):=by rw[←zf2 hxi,List.take_append_drop]
  have hal:(cur.take i).length=i:=by rw[qP];omega
  have hxm:x∈l:=hperm.mem_iff.1 (qF hxi);have hma:∀y,y∈cur.take i→y∈l:=fun y hy=>hperm.mem_iff.1 (List.mem_of_mem_take hy);have hrl:(cur.drop (i+1)).length=l.length-(i+1):=by rw[qu];omega
  have hst:=znH (cur.take i) (cur.drop (i+1)) x;rw[hal,←hcut]at hst;generalize hacc:cur.take i=acc at *
  generalize cur.drop (i+1)=rest at *
  subst hal;subst hst;refine uR ?_;refine EV.loopK (ι:=Nat) [0,1,2,3,8] [] (fun j=>[(9,.v (.int .i64 (j:Int)))]) (fun _=>[]) (fun j=>[(b,3,(zaB acc j x++rest).map iv++sp)]) (fun j _=>j≤acc.length∧∀y,y∈acc.drop j→key x≤key y) (fun j=>j) (acc.length) rfl rfl ⟨rfl,trivial⟩ trivial rfl (fun _=>rfl) (⟨qH _,by rw[List.drop_length];intro y hy;cases hy⟩) ?_;rintro j G2 hG2 ⟨hj,hgr⟩;have hlen:=zrq (acc:=acc) (rest:=rest) (j:=j) (x:=x);have hx':=zuf (rest:=rest) (x:=x) hj;have hp':=zcl acc j x;have hsum:(zaB acc j x++rest).length=l.length:=by rw[hlen];omega
  rw[←hsum]
  have next:(zaB acc j x++rest).Perm l:=by
   refine List.Perm.trans ?_ hperm;exact(hp'.trans (zcl acc acc.length x).symm).append_right rest
  have fin:zhB key (zaB acc j x)→zhB key ((zaB acc j x++rest).take (acc.length+1)):=fun h=>by
   rw[List.take_append_of_le_length (by rw[hp'.length_eq];simp)]
   rwa [qO (by rw[hp'.length_eq];simp)]
  cases j with
  | zero =>
   have hr:=fin (zmw hris (by intro y hy;rw[List.take_zero]at hy;cases hy) hgr);refine uR ?_;apply EV.drawn 17 kR kR;intro xv yw;(repeat refine' DD ?_);(refine DJ.nil (fun G3 hG3 hF3=>?_);(case hS|hS2=>rfl));refine uR ?_;refine⟨(acc.length+1,zaB acc 0 x++rest),⟨?_,trivial⟩,sB,trivial,trivial,rfl,⟨by omega,next,hr⟩,hG2.trans hG3,by dsimp only;omega⟩;rw[zac _ (by omega)];rfl
  | succ j =>
   obtain⟨y,hyj⟩:∃y,acc[j]?=some y:=⟨_,qA oM⟩;have hy':=zug (rest:=rest) (x:=x) hyj;have hc:=fun G (hG:H.Le G)=>hcmp G hG x y hxm (hma y (qF hyj))
   have hlo:zb4 (key x) (key y)<0→key x≤key y:=fun h=>by
    unfold zb4 at h;split at h
    ·exact Rat.le_of_lt (by assumption)
    ·split at h <;> omega
   have hge:¬zb4 (key x) (key y)<0→key y≤key x:=fun h=>by
    unfold zb4 at h;split at h
    ·omega
    ·rename_i k;exact Rat.not_lt.1 k
   generalize zb4 (key x) (key y)=o at *
   refine uR ?_;apply EV.drawn 17 kR kR;intro xv yw;(repeat refine' DD ?_);rw[qD (show ((j+1:Nat):Int)>0 by omega)];(repeat refine' DD ?_);refine' DJ.idxB tO rfl rfl rfl rfl rfl rfl rfl rfl rfl (j+1) ((j+1)*1) (rfl) (oM) (rfl) ?_;rotate_left;refine' DJ.ofVal (zaa.loadOwn tO rfl rfl rfl rfl (0) rfl (zfB sp hx') rfl rfl) rfl rfl rfl ?_;rotate_left;(repeat refine' DD ?_);refine' DJ.idxB tO rfl rfl rfl rfl rfl rfl rfl rfl rfl (j) (j*1) ((by rw[pM];omega)) (oM) (rfl) ?_;rotate_left;refine' DJ.ofVal (zaa.loadOwn tO rfl rfl rfl rfl (0) rfl (zfB sp hy') rfl rfl) rfl rfl rfl ?_;rotate_left;(refine' DJ.callC (f:=f) (cs:=cs) rfl rfl rfl rfl rfl rfl hcan (fun G hG=>hc G (hG1.trans (hG2.trans hG))) ?_;rotate_left);(repeat refine' DD ?_);(refine DJ.nil (fun G3 hG3 hF3=>?_);(case hS|hS2=>rfl));refine uR ?_;by_cases ho:o<0
   ·rw[qD ho];have hxy:=hlo ho;refine uR ?_;refine EVA.start kR ?_;refine EVA.val tO (0) rfl kR kR kR rfl rfl rfl rfl rfl ?_;refine EVA.val tO (1) rfl kR kR kR rfl rfl rfl rfl rfl ?_;refine EVA.val tO (5) rfl kR kR kR rfl rfl rfl rfl rfl ?_;refine EVA.val tO (6) rfl kR kR kR rfl rfl rfl rfl rfl ?_;refine EVA.val tO (7) rfl kR kR kR rfl rfl rfl rfl rfl ?_;refine EVA.idxB tO (8) rfl kR kR kR rfl rfl rfl rfl rfl rfl rfl rfl rfl (j) (j*1) ((by rw[pM];omega)) (oM) (rfl) ?_;refine EVA.val tO (10) rfl kR kR kR rfl rfl rfl rfl rfl ?_;refine EVA.val tO (11) rfl kR kR kR rfl rfl rfl rfl rfl ?_;refine EVA.idxB tO (12) rfl kR kR kR rfl rfl rfl rfl rfl rfl rfl rfl rfl (j+1) ((j+1)*1) (rfl) (oM) (rfl) ?_;refine EVA.val tO (2) rfl kR kR kR rfl rfl rfl rfl rfl ?_;refine EVA.val tO (3) rfl kR kR kR rfl rfl rfl rfl rfl ?_;refine EVA.val tO (4) rfl kR kR kR rfl rfl rfl rfl rfl ?_;refine EVA.two 9 13 kR rfl rfl ?_ ?_
    ·refine EVL.loadOwn tO rfl rfl rfl rfl rfl rfl (0) rfl (zfB sp hy') rfl rfl ?_;refine EVL.nil ⟨rfl,?_⟩;refine EVA.one 13 kR rfl ?_;refine EVL.loadOwn tO rfl rfl rfl rfl rfl rfl (0) rfl (zfB sp hx') rfl rfl ?_;refine EVL.nil ⟨rfl,?_⟩;refine EVA.idxB tO (14) rfl kR kR kR rfl rfl rfl rfl rfl rfl rfl rfl rfl (j+1) ((j+1)*1) (rfl) (oM) (rfl) ?_;refine EVA.one 15 kR rfl ?_;refine EVL.storeOwn tO rfl rfl rfl rfl rfl rfl ([]) ([]) rfl rfl rfl rfl ((by rw[qJ,qV];show (j+1)*1+1≤_;omega)) ((zhN sp y (show j+1<(zaB acc (j+1) x++rest).length by omega))) ?_;refine EVL.nil ⟨rfl,?_⟩;refine EVA.idxB tO (16) rfl kR kR kR rfl rfl rfl rfl rfl rfl rfl rfl rfl (j) (j*1) ((by rw[pM];omega)) (oM) (rfl) ?_;refine EVA.one 17 kR rfl ?_;refine EVL.storeOwn tO rfl rfl rfl rfl rfl rfl ([]) ([]) rfl rfl rfl rfl ((by rw[qJ,qV,List.length_set];show j*1+1≤_;omega)) ((zhN sp x (show j<((zaB acc (j+1) x++rest).set (j+1) y).length by rw[List.length_set];omega))) ?_;refine EVL.nil ⟨rfl,?_⟩;refine EVA.nil kR ?_;rw[zki hyj];refine uR ?_;refine⟨j,⟨?_,trivial⟩,sB,trivial,trivial,rfl,⟨by omega,?_⟩,hG3,by omega⟩
     ·rw[show IntKind.i64.wrap (((j+1:Nat):Int)-1)=(j:Int) by rw[pM];omega];rfl
     ·intro z hz;rw[zf2 hyj]at hz;rcases List.mem_cons.1 hz with rfl | hz
      ·exact hxy
      ·exact hgr z hz
    ·refine EVL.loadOwn tO rfl rfl rfl rfl rfl rfl (0) rfl (zfB sp hx') rfl rfl ?_;refine EVL.nil ⟨rfl,?_⟩;refine EVA.one 9 kR rfl ?_;refine EVL.loadOwn tO rfl rfl rfl rfl rfl rfl (0) rfl (zfB sp hy') rfl rfl ?_;refine EVL.nil ⟨rfl,?_⟩;refine EVA.idxB tO (14) rfl kR kR kR rfl rfl rfl rfl rfl rfl rfl rfl rfl (j+1) ((j+1)*1) (rfl) (oM) (rfl) ?_;refine EVA.one 15 kR rfl ?_;refine EVL.storeOwn tO rfl rfl rfl rfl rfl rfl ([]) ([]) rfl rfl rfl rfl ((by rw[qJ,qV];show (j+1)*1+1≤_;omega)) ((zhN sp y (show j+1<(zaB acc (j+1) x++rest).length by omega))) ?_;refine EVL.nil ⟨rfl,?_⟩;refine EVA.idxB tO (16) rfl kR kR kR rfl rfl rfl rfl rfl rfl rfl rfl rfl (j) (j*1) ((by rw[pM];omega)) (oM) (rfl) ?_;refine EVA.one 17 kR rfl ?_;refine EVL.storeOwn tO rfl rfl rfl rfl rfl rfl ([]) ([]) rfl rfl rfl rfl ((by rw[qJ,qV,List.length_set];show j*1+1≤_;omega)) ((zhN sp x (show j<((zaB acc (j+1) x++rest).set (j+1) y).length by rw[List.length_set];omega))) ?_;refine EVL.nil ⟨rfl,?_⟩;refine EVA.nil kR ?_;rw[zki hyj];refine uR ?_;refine⟨j,⟨?_,trivial⟩,sB,trivial,trivial,rfl,⟨by omega,?_⟩,hG3,by omega⟩
     ·rw[show IntKind.i64.wrap (((j+1:Nat):Int)-1)=(j:Int) by rw[pM];omega];rfl
     ·intro z hz;rw[zf2 hyj]at hz;rcases List.mem_cons.1 hz with rfl | hz
      ·exact hxy
      ·exact hgr z hz
   ·rw[qC ho];have hr:=fin (zmw hris (zpK hris hyj (hge ho)) hgr);refine uR ?_;refine⟨(acc.length+1,zaB acc (j+1) x++rest),⟨?_,trivial⟩,sB,trivial,trivial,rfl,⟨by omega,next,hr⟩,hG2.trans hG3,by dsimp only;omega⟩;rw[zac _ (by omega)];rfl
 ·simp only[nN]at hlt;rw[qO (by omega)]at hris;refine uR ?_;exact⟨rfl,cur,rfl,hperm,hris⟩
section
variable {P:Program} {n:Nat} {ops:Array Oper} {rest:List Oper} {env:Env} {bx:Bxs} {H:Hs} {Q:EQ}
theorem Rel.asRo {W0:World} {H0:Bs} {β:Nat→Nat} {a:Act} {W:World} (r:Rel n W0 H0 β env bx H a W) {t b off:Nat} (ht:env.get t=some (.v (.pointer (some ⟨b,off,none⟩)))) {c:Array Value} (hc:H.ro b=some c) {cs:List Value} (hcs:∀j x,cs[j]?=some x→c[off+j]?=some x) :
  Rel n W0 H0 β ((t,.ro cs)::env) bx H a W:=by
 refine⟨r.size,r.defers,fun t' s hs=>?_,r.box,r.low,r.inj,fun t' i off' hu=>?_,r.fits,r.le,r.new,r.bel,r.glob,r.own,r.one⟩
 ·rw[Env.get_cons]at hs;by_cases e:t=t'
  ·subst e;rw[if_pos rfl]at hs;cases hs;obtain⟨x,hx,hr⟩:=r.slot t _ ht;exact⟨x,hx,b,off,c,hr,hc,hcs⟩
  ·rw[if_neg e]at hs;exact r.slot t' s hs
 ·rw[Env.get_cons]at hu;by_cases e:t=t'
  ·rw[if_pos e]at hu;cases hu
  ·rw[if_neg e]at hu;exact r.pin t' i off' hu
theorem EV.asRo {c:Code} (t:Nat) {b:Nat} (ht:env.get t=some (.v (.pointer (some ⟨b,0,none⟩)))) {cs:List Value} (hc:H.ro b=some cs.toArray) (h:EV P n c ((t,.ro cs)::env) bx H Q):EV P n c env bx H Q :=
 fun W0 β a W r=>h W0 β a W (r.asRo ht hc (fun j x hx=>by rw[qv];simpa using hx))
theorem EVL.swapOw (a b:Ows) (e:H.ow=a++b) (h:EVL P n ops rest env bx ⟨H.ro,b++a,H.base⟩ Q):EVL P n ops rest env bx H Q :=
 fun W0 β x W r=>h W0 β x W (r.permOw (by rw[e];exact List.perm_append_comm))
theorem EV.swapOw {c:Code} (a b:Ows) (e:H.ow=a++b) (h:EV P n c env bx ⟨H.ro,b++a,H.base⟩ Q):EV P n c env bx H Q :=
 fun W0 β x W r=>h W0 β x W (r.permOw (by rw[e];exact List.perm_append_comm))
end
def QVs (H:Hp) (vs:List Value) (X:List (List Rat)):Prop:=vs.length=X.length∧∀(j:Nat) (u:Value) (x:List Rat),vs[j]?=some u→X[j]?=some x→QL H u x
theorem QVs.mono {H G:Hp} {vs:List Value} {X:List (List Rat)} (h:QVs H vs X) (k:H.Le G):QVs G vs X:=⟨h.1,fun j u x e1 e2=>(h.2 j u x e1 e2).mono k⟩
theorem QVs.nil (H:Hp):QVs H [] []:=⟨rfl,fun j u x h=>by simp at h⟩
theorem zqj {α:Type} {p:Value→α→Prop} {vs:List Value} {X:List α} {u:Value} {x:α} (h:vs.length=X.length∧∀(j:Nat) (u:Value) (x:α),vs[j]?=some u→X[j]?=some x→p u x) (k:p u x) :
  (vs++[u]).length=(X++[x]).length∧∀(j:Nat) (v:Value) (y:α),(vs++[u])[j]?=some v→(X++[x])[j]?=some y→p v y:=by
 refine⟨by simp[h.1],fun j y r e1 e2=>?_⟩;rw[List.getElem?_append]at e1 e2;by_cases hj:j<vs.length
 ·rw[if_pos hj]at e1;rw[if_pos (by rw[←h.1];exact hj)]at e2;exact h.2 j y r e1 e2
 ·rw[if_neg hj]at e1;rw[if_neg (by rw[←h.1];exact hj)]at e2;have:=h.1
  cases hk:j-vs.length with
  | zero =>
   rw[hk]at e1;rw[←h.1,hk]at e2;simp at e1 e2;subst e1;subst e2;exact k
  | succ m=>rw[hk]at e1;simp at e1
theorem QVs.snoc {H:Hp} {vs:List Value} {X:List (List Rat)} {u:Value} {x:List Rat} (h:QVs H vs X) (k:QL H u x):QVs H (vs++[u]) (X++[x]):=zqj h k
def QLL (H:Hp) (v:Value) (X:List (List Rat)):Prop:=∃vs:List Value,QVs H vs X∧SlC H v X.length 1 vs
theorem QLL.mono {H G:Hp} {v:Value} {X:List (List Rat)} (h:QLL H v X) (k:H.Le G):QLL G v X:=by
 obtain⟨vs,h1,h2⟩:=h;exact⟨vs,h1.mono k,h2.mono k⟩
theorem QLL.val {H:Hp} {v:Value} {X:List (List Rat)} (h:QLL H v X):∃a c,v=.slice a X.length c:=by
 obtain⟨vs,_,h2⟩:=h;exact SlC.val h2
theorem QVs.at {H:Hp} {vs:List Value} {X:List (List Rat)} (h:QVs H vs X) {j:Nat} {x:List Rat} (hj:X[j]?=some x):∃a c,vs[j]?=some (.slice a x.length c)∧QL H (.slice a x.length c) x:=by
 obtain⟨hl,_⟩:=qE.1 hj;obtain⟨u,hu⟩:∃u,vs[j]?=some u:=⟨_,qA (by rw[h.1];exact hl)⟩;have hq:=h.2 j u x hu hj;obtain⟨a,c,rfl⟩:=SlC.val hq;exact⟨a,c,hu,hq⟩
def zcL (X:List (List Rat)) (col r:Int):Bool:=decide (0≤col) && decide (col<((X.getD r.toNat []).length:Int))
def zbv (X:List (List Rat)) (col r:Int):Rat:=(X.getD r.toNat []).getD col.toNat 0
theorem zeb {X:List (List Rat)} {col r:Int} {R C:Nat} {x:List Rat} {q:Rat} (hr:r=R) (hc:col=C) (hx:X[R]?=some x) (hq:x[C]?=some q):zbv X col r=q:=by
 subst hr;subst hc;unfold zbv;simp[qB,hx,hq]
theorem zeg {X:List (List Rat)} {col r:Int} (hr0:0≤r) (hr:r<(X.length:Int)) (h:zcL X col r=true):∃(R C:Nat) (x:List Rat) (q:Rat),r=R∧col=C∧X[R]?=some x∧x[C]?=some q:=by
 unfold zcL at h;simp only[Bool.and_eq_true,decide_eq_true_eq]at h;obtain⟨R,rfl⟩:=qj hr0;obtain⟨C,rfl⟩:=qj h.1;have h2:=h.2;rw[qU,qB,qA (show R<X.length by omega),Option.getD_some]at h2;exact⟨R,C,X[R],X[R][C],rfl,rfl,qA oM,qA oM⟩
theorem zoA {H:Hp} {bx bc:Nat} {v:Value} {X:List (List Rat)} {col:Int} (hX:QLL H v X) (hb:H bx=some [v].toArray) (hc:H bc=some [Value.int .i64 col].toArray) (hsm:∀x,x∈X→∀q,q∈x→sm q)
  {i j:Int} (hi0:0≤i) (hi:i<(X.length:Int)) (hj0:0≤j) (hj:j<(X.length:Int)) (hci:zcL X col i=true) (hcj:zcL X col j=true) :
  PC prog 261 #[.int .i64 i,.int .i64 j,.pointer (some ⟨bx,0,none⟩),.pointer (some ⟨bc,0,none⟩)] H fun r _=>r=.int .i64 (zb4 (zbv X col i) (zbv X col j)):=by
 obtain⟨I,C,x,p,rfl,rfl,hxi,hp⟩:=zeg hi0 hi hci;obtain⟨J,C',y,q,rfl,hCC,hyj,hq⟩:=zeg hj0 hj hcj;obtain rfl:C=C':=oM;obtain⟨va,vc,rfl⟩:=hX.val;obtain⟨vs,hvs,hs⟩:=hX;obtain⟨a1,c1,hu1,hQ1⟩:=hvs.at hxi;obtain⟨a2,c2,hu2,hQ2⟩:=hvs.at hyj;have hs1:SlC H (.slice a1 x.length c1) x.length 5 (x.flatMap fun q=>zad (zaf q)):=hQ1;have hs2:SlC H (.slice a2 y.length c2) y.length 5 (y.flatMap fun q=>zad (zaf q)):=hQ2;have hcmp:=zdw p q (hsm x (qF hxi) p (qF hp)) (hsm y (qF hyj) q (qF hq));rw[zeb rfl rfl hxi hp,zeb rfl rfl hyj hq];have hCx:=(qE.1 hp).1;have hCy:=(qE.1 hq).1;have hIl:I<X.length:=oM;have hJl:J<X.length:=oM;refine BD func261 ntmps261 ?_;refine EV.asRo 2 rfl hb ?_;refine EV.asRo 3 rfl hc ?_;refine uR ?_;apply EV.drawn 14 kR kR;intro xv yw;(repeat refine' DD ?_);refine' vJ (hs) (I) (rfl) (hIl) (hu1) ?_;rotate_left;(repeat refine' DD ?_);refine' DJ.idxM tO rfl rfl rfl rfl rfl rfl rfl rfl rfl (hs1) (C) (rfl) (hCx) (QL.at (H:=H) (v:=.bool true) hp) ?_;rotate_left;(repeat refine' DD ?_);refine' vJ (hs) (J) (rfl) (hJl) (hu2) ?_;rotate_left;(repeat refine' DD ?_);refine' DJ.idxM tO rfl rfl rfl rfl rfl rfl rfl rfl rfl (hs2) (C) (rfl) (hCy) (QL.at (H:=H) (v:=.bool true) hq) ?_;rotate_left;(repeat refine' DD ?_);(refine DJ.nil (fun G1 hG1 hF1=>?_);(case hS|hS2=>rfl))
 repeat (first|refine RUN ?_|refine CV (hcmp) ?_|refine CE (hcmp) ?_)
 rfl
theorem ziM {H:Hp} {s:Value} {A:Int} (hA:0≤A∧A≤1000) (L:Ows) {clo:Value}:PW prog 285 #[s,.int .i64 A,.int .i64 A,clo] H L fun v ow _=>v=.tuple #[]∧ow=L:=by
 refine PW.body tO func285 rfl kR ntmps285 rfl rfl ?_;refine uR ?_;rw[show IntKind.i64.wrap (A+1)=A+1 by rw[pM];omega];refine EV.loopK (ι:=Unit) [] [] (fun q=>[(2,.v (.int .i64 A)),(8,.v (.int .i64 (A+1)))]) (fun _=>[]) (fun _=>L) (fun _ _=>True) (fun _=>0) (()) rfl rfl ⟨rfl,rfl,trivial⟩ trivial rfl (fun _=>rfl) (trivial) ?_;rintro⟨⟩ G1 hG1 _;refine uR ?_;rw[qC (show ¬A+1<A by omega)];refine uR ?_;exact⟨rfl,rfl⟩
theorem zn4 {H:Hp} {b cap:Nat} {l:List Int} {sp:List Value} (hl:l.length≤20) {f:FuncId} {cs:List Value} {key:Int→Rat} (hcan:zaF prog f) (hcmp:∀G,H.Le G→∀x y,x∈l→y∈l→PC prog f ([iv x,iv y]++cs).toArray G fun u _=>u=.int .i64 (zb4 (key x) (key y))) :
  PW prog 260 #[.slice (some ⟨b,0,none⟩) l.length cap,.func (.func f) #[] cs.toArray] H [(b,3,l.map iv++sp)] fun v ow _=>v=.tuple #[]∧∃m,ow=[(b,3,m.map iv++sp)]∧m.Perm l∧zhB key m:=by
 have hst:PW prog 277 #[.slice (some ⟨b,0,none⟩) l.length cap,.int .i64 (l.length:Int),.func (.func f) #[] cs.toArray] H [(b,3,l.map iv++sp)] fun v ow _=>v=.tuple #[]∧∃m,ow=[(b,3,m.map iv++sp)]∧m.Perm l∧zhB key m:=by
  refine PW.body tO func277 rfl kR ntmps277 rfl rfl ?_;refine uR ?_;refine EV.loopK (ι:=Bool × List Int) [0,1,2,6] [] (fun q=>[(7,.v (.int .i64 (if q.1 then 20 else 0))),(8,.v (.int .i64 (if q.1 then 40 else 20)))]) (fun _=>[]) (fun q=>[(b,3,q.2.map iv++sp)]) (fun q _=>q.2.Perm l∧(q.1=true→l.length=20∧zhB key q.2)∧(q.1=false→q.2=l)) (fun q=>if q.1 then 0 else 1) ((false,l)) rfl rfl ⟨rfl,rfl,trivial⟩ trivial rfl (fun _=>rfl) (⟨List.Perm.refl _,by simp,by simp⟩) ?_;rintro⟨q,m⟩ G1 hG1 ⟨hp,h1,h2⟩;dsimp only at hp h1 h2
  cases q with
  | true =>
   obtain⟨hn,hr⟩:=h1 rfl;refine uR ?_;rw[show decide ((if true=true then (40:Int) else 20)≤(l.length:Int))=false by rw[hn];rfl];refine uR ?_;rw[show (if true=true then (20:Int) else 0)=(l.length:Int) by rw[hn];rfl];refine EVL.callW rfl rfl rfl rfl rfl ([(b,3,m.map iv++sp)]) ([]) rfl (ziM (A:=(l.length:Int)) oM _) ?_;rintro v ow G2 ⟨rfl,rfl⟩ hG2;refine uR ?_;refine EV.loopK (ι:=Unit) [1] [] (fun q=>[(6,.v (.int .i64 20))]) (fun _=>[]) (fun _=>[(b,3,m.map iv++sp)]) (fun _ _=>True) (fun _=>0) (()) rfl rfl ⟨rfl,trivial⟩ trivial rfl (fun _=>rfl) (trivial) ?_;rintro⟨⟩ G3 hG3 _;refine uR ?_;rw[qC (show ¬(20:Int)<(l.length:Int) by omega)];refine uR ?_;exact⟨rfl,m,rfl,hp,hr⟩
  | false =>
   obtain rfl:=h2 rfl;refine uR ?_;by_cases hn:m.length=20
   ·rw[show decide ((if false=true then (40:Int) else 20)≤(m.length:Int))=true by rw[hn];rfl];have hi:=zeN (H:=G1) (b:=b) (cap:=cap) (sp:=sp) (l:=m) (cs:=cs) (key:=key) oM hcan (fun G hG=>hcmp G (hG1.trans hG));rw[hn]at hi;refine uR ?_;rw[hn];refine vW ([(b,3,m.map iv++sp)]) ([]) (hi) ?_;rintro v ow G2 ⟨rfl,m2,rfl,hp2,hr2⟩ hG2;refine uR ?_;exact⟨(true,m2),⟨rfl,rfl,trivial⟩,sB,trivial,trivial,rfl,⟨hp2,fun _=>⟨by first|exact hn|rfl,hr2⟩,by simp⟩,hG2,by simp⟩
   ·rw[show decide ((if false=true then (40:Int) else 20)≤(m.length:Int))=false by simp;omega];refine uR ?_;refine EVL.callW rfl rfl rfl rfl rfl ([(b,3,m.map iv++sp)]) ([]) rfl (zeN (key:=key) oM hcan (fun G hG=>hcmp G (hG1.trans hG))) ?_;rintro v ow G2 ⟨rfl,m2,rfl,hp2,hr2⟩ hG2;refine uR ?_;refine EV.loopK (ι:=Unit) [1] [] (fun q=>[(6,.v (.int .i64 20))]) (fun _=>[]) (fun _=>[(b,3,m2.map iv++sp)]) (fun _ _=>True) (fun _=>0) (()) rfl rfl ⟨rfl,trivial⟩ trivial rfl (fun _=>rfl) (trivial) ?_;rintro⟨⟩ G3 hG3 _;refine uR ?_;rw[qC (show ¬(20:Int)<(m.length:Int) by omega)];refine uR ?_;exact⟨rfl,m2,rfl,hp2,hr2⟩
 refine PW.body tO func260 rfl kR ntmps260 rfl rfl ?_;refine uR ?_;refine vW ([(b,3,l.map iv++sp)]) ([]) (hst) ?_;rintro v ow G2 ⟨rfl,m,rfl,hp,hr⟩ hG2;refine uR ?_;exact⟨rfl,m,rfl,hp,hr⟩
theorem zeP:zdB []=0:=zbm _
theorem zo8 {H:Hp} {v:Value} {l:List Rat} (h:QL H v l) (hl:l.length≤10000) (hb:∀q,q∈l→ht q≤100):PC prog 82 #[v] H fun r _=>r=.tuple #[zaf (zdB l),.bool (decide (0<l.length))]:=by
 by_cases h0:l.length=0
 ·obtain rfl:=pK.1 h0;rw[zeP];exact zs1 h
 ·rw[qD (show 0<l.length by omega)];exact zs2 h oM h0 hb
theorem zmj {l:List Rat} {B:Nat} (hl:l.length≤300) (hb:∀q,q∈l→ht q≤B):ht (zdB l)≤1+(B+1)*300+20:=by
 have b1:=zdz B l hb;have b2:(B+1)*l.length≤(B+1)*300:=qe _ hl;have b3:=zoX (n:=l.length) oM;have b4:=zeM (zaK l) ((l.length:Int):Rat);unfold zdB;omega
theorem zsG {m:Rat} {l:List Rat} {B C:Nat} (hb:∀q,q∈l→ht q≤B) (hm:ht m≤C):∀q,q∈zeF m l→ht q≤2*(B+C+1):=fun q hq=>by
 obtain⟨v,hv,rfl⟩:=List.mem_map.1 hq;have h1:=hb v hv;have h2:=zjT v m;have h3:=zfG (v-m) (v-m);omega
theorem zoI {m:Rat} {l:List Rat} {B C:Nat} (hl:l.length≤300) (hb:∀q,q∈l→ht q≤B) (hm:ht m≤C):ht (zaK (zeF m l))≤1+(2*(B+C+1)+1)*300:=by
 have h1:=zdz _ (zeF m l) (zsG hb hm);have h2:(2*(B+C+1)+1)*(zeF m l).length≤(2*(B+C+1)+1)*300:=qe _ (by simpa[zeF] using hl);omega
theorem zmi {H:Hp} {v:Value} {rs:List Int} (hr:IL H v rs) (hn:rs.length≤300) {va:Option Addr} {vc:Nat} {vals:List Rat} {la:Option Addr} {lc:Nat} (hv:QL H (.slice va vals.length vc) vals) (h0:1≤vals.length) (h1:vals.length≤300) (hb:∀q,q∈vals→ht q≤100) :
  PC prog 20 #[zas 2 0 (.slice la 0 lc) (.slice va vals.length vc),v] H fun r _=>r=zaf (zdB (atR vals (exL rs vals.length))):=by
 obtain⟨a,cap,rfl⟩:=SlC.val hr;have hchk:=zeD (va:=va) (vc:=vc) (la:=la) (lc:=lc) h0 h1;have hel:=zbk rs vals.length;refine BD func20 ntmps20 ?_
 repeat (first|refine RUN ?_|refine CV (hchk) ?_|refine CE (hchk) ?_)
 refine EVL.call rfl rfl rfl rfl rfl (zkJ hr oM hv) ?_;intro r1 G1 hL hG1;have hlb:=fun q hq=>hb q (zd9 (zcK (rs:=rs) (n:=vals.length)) q hq);have hll:(atR vals (exL rs vals.length)).length≤300:=by rw[zbM];omega
 generalize atR vals (exL rs vals.length)=L at *
 have hm:=zo8 hL oM hlb
 repeat (first|refine RUN ?_|refine CV (hm) ?_|refine CE (hm) ?_)
 by_cases hz:0<L.length
 ·rw[qD hz];refine uR ?_;rfl
 ·rw[qC hz];refine uR ?_;obtain rfl:L=[]:=pK.1 oM;rw[zeP];exact zbQ.symm
theorem zqP {H:Hp} {v:Value} {rs:List Int} (hr:IL H v rs) (hn:rs.length≤300) {va:Option Addr} {vc:Nat} {vals:List Rat} {la:Option Addr} {lc:Nat} (hv:QL H (.slice va vals.length vc) vals) (h0:1≤vals.length) (h1:vals.length≤300) (hb:∀q,q∈vals→ht q≤100) :
  PC prog 19 #[zas 2 0 (.slice la 0 lc) (.slice va vals.length vc),v] H fun r _=>r=zaf (zaK (zeF (zdB (atR vals (exL rs vals.length))) (atR vals (exL rs vals.length)))):=by
 obtain⟨a,cap,rfl⟩:=SlC.val hr;have hchk:=zeD (va:=va) (vc:=vc) (la:=la) (lc:=lc) h0 h1;have hel:=zbk rs vals.length;have hmean:=zmi (la:=la) (lc:=lc) hr hn hv h0 h1 hb;have hvals:=zkJ (kd:=2) (cl:=0) (la:=la) (ln:=0) (lc:=lc) hr oM hv;have hlb:=fun q hq=>hb q (zd9 (zcK (rs:=rs) (n:=vals.length)) q hq);have hll:(atR vals (exL rs vals.length)).length≤300:=by rw[zbM];omega
 generalize atR vals (exL rs vals.length)=L at *
 have hmh:=zmj hll hlb;generalize zdB L=m at *
 have hms:sm m:=zaQ hmh oM;refine BD func19 ntmps19 ?_
 repeat (first|refine RUN ?_|refine CV (hchk) ?_|refine CV (hmean) ?_|refine CE (hchk) ?_|refine CE (hmean) ?_)
 refine vA (hvals) ?_;intro r1 G1 hL hG1;obtain⟨a1,c1,rfl⟩:=SlC.val hL;have hs:SlC G1 (.slice a1 L.length c1) L.length 5 (L.flatMap fun q=>zad (zaf q)):=hL;refine uR ?_;refine EV.loopK (ι:=Nat) [4,6,7,34,35] [4,7] (fun i=>[(36,.v (.int .i64 (i:Int)))]) (fun i=>[(6,50,zad (zaf (zaK (zeF m (L.take i)))))]) (fun _=>[]) (fun i _=>i≤L.length) (fun i=>L.length-i) (0) rfl rfl ⟨rfl,trivial⟩ ⟨by rw[show zaK (zeF m (L.take 0))=0 from rfl,zaH];rfl,trivial⟩ rfl (fun _=>rfl) (qQ _) ?_;rintro i G2 hG2 hi;refine uR ?_;refine EV.cond rfl (fun hlt=>?_) (fun hlt=>?_)
 ·simp only[nN]at hlt;obtain⟨x,hx⟩:=gE hlt;have hxb:=hlb x (qF hx);have hsum:=zoI (l:=L.take i) (by rw[qP];omega) (fun q hq=>hlb q (List.mem_of_mem_take hq)) hmh;have hd:=zjT x m;have hdd:=zfG (x-m) (x-m);have hsub:=zmH x m (zaQ hxb oM) hms;have hmul:=zpe (x-m) (x-m) (zaQ hd oM) (zaQ hd oM);have hadd:=zez (zaK (zeF m (L.take i))) ((x-m)*(x-m)) (zaQ hsum oM) (zaQ hdd oM);rw[←zgB,←zam hx]at hadd;refine uR ?_;refine EVL.idxM tO rfl rfl rfl rfl rfl rfl rfl rfl rfl ((hs.mono hG2)) (i) (rfl) (hlt) (QL.at (H:=H) (v:=.bool true) hx) ?_
  repeat (first|refine RUN ?_|refine CV (hsub) ?_|refine CE (hsub) ?_)
  apply EV.drawn 4 kR kR;intro xv yw;(repeat (first|refine' DD ?_|(refine' DC (hmul) (h:=?_);rotate_left)));(refine DJ.nil (fun G3 hG3 hF3=>?_);(case hS|hS2=>rfl))
  repeat (first|refine RUN ?_|refine CV (hadd) ?_|refine CE (hadd) ?_)
  refine⟨i+1,⟨?_,trivial⟩,sB,⟨rfl,trivial⟩,sB,rfl,hlt,hG3,by omega⟩;rw[zac i (by omega)];rfl
 ·simp only[nN]at hlt;obtain rfl:i=L.length:=oM;rw[qb];refine uR ?_;rfl
theorem zio {H:Hp} {cl:Int} {va:Option Addr} {vn vc:Nat} {la:Option Addr} {lc:Nat} {ls:List Int} (hv:IL H (.slice la ls.length lc) ls) {v:Value} {rs:List Int} (hr:IL H v rs) (hn:rs.length≤100000)
  (hrs:∀r,r∈rs→0≤r∧r<(ls.length:Int)) (hls:∀z,z∈ls→0≤z∧z<12) :
  PC prog 76 #[zas 1 cl (.slice la ls.length lc) (.slice va vn vc),v] H fun r _=>r=.agg (zay (rs.length:Nat) (csL (atI ls rs)) (sqL (atI ls rs)) 0).toArray:=by
 obtain⟨a,cap,rfl⟩:=SlC.val hr;exact zqk hv hr hn hrs hls
def zfS (L:List Int):Rat:=((L.length:Int):Rat)-((sqL L:Int):Rat) / ((L.length:Int):Rat)
theorem zqO {H:Hp} {v:Value} {rs:List Int} (hr:IL H v rs) (hn:rs.length≤300) {va:Option Addr} {vc:Nat} {la:Option Addr} {lc:Nat} {ls:List Int} (hv:IL H (.slice la ls.length lc) ls) {cl:Int} (hc:1≤cl∧cl≤12) (h0:1≤ls.length) (h1:ls.length≤300) (hls:∀z,z∈ls→0≤z∧z<cl) :
  PC prog 19 #[zas 1 cl (.slice la ls.length lc) (.slice va 0 vc),v] H fun r _=>r=zaf (zfS (atI ls (exL rs ls.length))):=by
 obtain⟨a,cap,rfl⟩:=SlC.val hr;have hchk:=zgs (va:=va) (vc:=vc) hv hc h0 h1 hls;have hlen:=zlk (cl:=cl) (va:=va) (vn:=0) (vc:=vc) (la:=la) (ln:=ls.length) (lc:=lc);have hel:=zbk rs ls.length;have hem:=zcK (rs:=rs) (n:=ls.length);have hex:=fun (G:Hp) (hG:H.Le G)=>zcq (hr.mono hG) oM ls.length;generalize exL rs ls.length=E at *
 have hLl:(atI ls E).length=E.length:=zb5 ls E;have hsq:=zik (atI ls E);rw[hLl]at hsq;have hsq2:E.length*E.length≤300*300:=Nat.mul_le_mul oM oM;have hE:zfS (atI ls E)=((E.length:Int):Rat)-((sqL (atI ls E):Int):Rat) / ((E.length:Int):Rat):=by unfold zfS;rw[hLl]
 have hn2:=zby (E.length:Int);have hn3:bl (E.length:Int).natAbs≤20:=za1 oM;have hs2:=zby (sqL (atI ls E):Int);have hs3:bl (sqL (atI ls E):Int).natAbs≤20:=za1 oM;have hdv:=zeM ((sqL (atI ls E):Int):Rat) ((E.length:Int):Rat);have hof:=zhE (E.length:Int) oM oM;have hsub:=zmH ((E.length:Int):Rat) (((sqL (atI ls E):Int):Rat) / ((E.length:Int):Rat)) (by unfold sm;omega) (by unfold sm;omega);rw[hE];refine BD func19 ntmps19 ?_
 repeat (first|refine RUN ?_|refine CV (hchk) ?_|refine CE (hchk) ?_)
 apply EV.drawn 7 kR kR;intro xv yw;(repeat (first|refine' DD ?_|(refine' DC (hlen) (h:=?_);rotate_left)));refine' vB (cO func77) (fun G hG hd=>hex G hG) (fun _ _ _ h k=>SlN.mono h k) ?_;rotate_left;refine' vC (cO func76) (fun G hG hd=>zio (hv.mono hG) (hd.head kR) oM hem (fun z hz=>⟨(hls z hz).1,by have:=(hls z hz).2;omega⟩)) ?_;rotate_left;(repeat refine' DD ?_);(refine DJ.nil (fun G1 hG1 hF1=>?_);(case hS|hS2=>rfl))
 repeat (first|refine RUN ?_|refine CV (hof) ?_|refine CE (hof) ?_)
 (first|refine EVL.unbox (5) rfl fun b=>?_|refine EV.unbox (5) rfl fun b=>?_);refine EVL.callW rfl rfl rfl rfl rfl ([(b,147,zay (E.length:Nat) (csL (atI ls E)) (sqL (atI ls E)) 0)]) ([]) rfl (zqo (zbP _) oM oM) ?_;rintro v ow G2 ⟨rfl,rfl⟩ hG2
 repeat (first|refine RUN ?_|refine CV (hsub) ?_|refine CE (hsub) ?_)
 rfl
theorem zpl:∀l:List Int,zf7 (l.map iv)=true
 | []=>rfl
 | _::l=>by rw[qy];unfold zf7;rw[zpl l];rfl
theorem RL.nil (H:Hp) (a:Option Addr) (c:Nat):RL H (.slice a 0 c) []:=(RVs.nil H).rl ⟨rfl,.inl ⟨rfl,_,_,rfl⟩⟩
theorem IL.nil (H:Hp) (a:Option Addr) (c:Nat):IL H (.slice a 0 c) []:=⟨rfl,.inl ⟨rfl,_,_,rfl⟩⟩
def zjq (H:Hp) (v:Value) (n:Nat) (qs:List Rat):Prop :=
 (∃s,v=zas 2 0 (.slice none 0 0) s∧RL H s qs)∨∃(cl:Int) (s:Value) (ls:List Int),v=zas 1 cl s (.slice none 0 0)∧1≤cl∧cl≤4∧ls.length=n∧(∀z,z∈ls→0≤z∧z<cl)∧IL H s ls
theorem zjq.mono {H G:Hp} {v:Value} {n:Nat} {qs:List Rat} (h:zjq H v n qs) (k:H.Le G):zjq G v n qs:=by
 rcases h with ⟨s,e,h⟩ | ⟨cl,s,ls,e,h1,h2,h3,h4,h⟩
 ·exact .inl ⟨s,e,h.mono k⟩
 ·exact .inr ⟨cl,s,ls,e,h1,h2,h3,h4,h.mono k⟩
theorem ztE (z:Int):-9223372036854775808≤IntKind.i64.wrap z∧IntKind.i64.wrap z<9223372036854775808:=by
 rw[pM];omega
theorem zsN {H:Hp} {v:Value} {l:List Int} (h:IL H v l) (hb:∀z,z∈l → -9223372036854775808≤z∧z<9223372036854775808) (kd:Int) (n:Nat) (hn:n≤1000) :
  PC prog 60 #[.int .i64 kd,v,.int .i64 (n:Int)] H fun r H'=>zjq H' r n (zkq l n):=by
 obtain⟨a,cap,rfl⟩:=SlC.val h;have hpk:∀z c:Int,-9223372036854775808≤z∧z<9223372036854775808→1≤c∧c≤4→PV prog 26 #[.int .i64 z,.int .i64 c] (.int .i64 (z % c)):=fun z c hz hc=>zdd z c hz oM oM;have hrow:=zpO h hb n oM;have hwb:=ztE (kd.tdiv 2);have hp4:=hpk _ 4 hwb oM;refine BD func60 ntmps60 ?_;refine uR ?_;by_cases hk:kd.tmod 2=0
 ·rw[show (kd.tmod 2 == 0)=true from beq_iff_eq.2 hk];refine uR ?_;refine vA (hrow) ?_;intro r G1 hr hG1;obtain⟨a3,c3,rfl⟩:=hr.val;refine uR ?_;exact .inl ⟨_,rfl,hr⟩
 ·rw[show (kd.tmod 2 == 0)=false from pR.2 hk];refine uR ?_;generalize IntKind.i64.wrap (kd.tdiv 2)=k2 at *
  have hcl:1≤1+k2 % 4∧1+k2 % 4≤4:=oM
  repeat (first|refine RUN ?_|refine CV (hp4) ?_|refine CE (hp4) ?_)
  rw[show IntKind.i64.wrap (1+k2 % 4)=1+k2 % 4 by rw[pM];omega];generalize 1+k2 % 4=cl at *
  refine uR ?_;refine EV.loopK (ι:=Nat × List Int × Value × Ows) [1,2,6,7] [6] (fun q=>[(8,.v (.int .i64 (q.1:Int)))]) (fun q=>[(7,27,[.int .i64 1,.int .i64 cl,q.2.2.1,.slice none 0 0])]) (fun q=>q.2.2.2) (fun q _=>q.1≤n∧q.2.1.length=q.1∧(∀z,z∈q.2.1→0≤z∧z<cl)∧zaL 3 1 q.2.2.1 q.2.1.length (q.2.1.map iv) q.2.2.2) (fun q=>n-q.1) ((0,[],.slice none 0 0,[])) rfl rfl ⟨rfl,trivial⟩ ⟨rfl,trivial⟩ rfl (fun _=>rfl) (⟨qQ _,rfl,by simp,zaL.nil _ _⟩) ?_;rintro⟨i,ls,w,ow⟩ G1 hG1 ⟨hi,hll,hlb,hown⟩;dsimp only at hi hll hlb hown;obtain⟨wa,wc,rfl⟩:=hown.val;refine uR ?_;refine EV.cond rfl (fun hlt=>?_) (fun hlt=>?_)
  ·simp only[nN]at hlt;refine uR ?_;refine EV.meetK (ι:=Int) [1,2,6,7,8] [6,7] (fun c=>[(9,.v (.int .i64 c))]) (fun _=>[]) (fun _=>ow) (fun c G=>G1.Le G ∧ -9223372036854775808≤c∧c<9223372036854775808) rfl rfl (fun _=>rfl) ?_ ?_
   ·refine EV.cond rfl (fun hc=>?_) (fun hc=>?_)
    ·simp only[nN]at hc;obtain⟨z,hz⟩:=gE hc;have hzb:=hb z (qF hz);refine uR ?_;refine vI ((h.mono hG1)) (i) (rfl) (hc) ((by rw[qK,hz];rfl)) ?_;refine uR ?_;exact⟨z,⟨rfl,trivial⟩,sB,trivial,sB,rfl,Hp.Le.refl _,hzb.1,hzb.2⟩
    ·try refine uR ?_
     exact⟨(i:Int),⟨rfl,trivial⟩,sB,trivial,sB,rfl,Hp.Le.refl _,by omega,by omega⟩
   ·rintro c G2 ⟨hG2,hc1,hc2⟩;have hpc:=hpk c cl ⟨hc1,hc2⟩ hcl;have hcb:0≤c % cl∧c % cl<cl:=⟨Int.emod_nonneg _ oM,Int.emod_lt_of_pos _ oM⟩;generalize c % cl=cc at *
    refine uR ?_;apply EV.drawn 7 kR kR;intro xv yw;(repeat (first|refine' DD ?_|(refine' DC (hpc) (h:=?_);rotate_left)));(refine' DJ.lit tO rfl rfl rfl rfl rfl rfl rfl rfl rfl rfl rfl rfl ?_;rotate_left);(refine DJ.nil (fun G3 hG3 hF3=>?_);(case hS|hS2=>rfl));refine EVL.append tO rfl rfl rfl rfl rfl rfl rfl rfl rfl rfl rfl rfl [] ow [] (qG _).symm hown (zdo.ro hF3.1 oM) rfl oM ?_;intro v1 ow1 hown1;have hown2:=zaL.il hown1;clear hown1;obtain⟨va1,vc1,rfl⟩:=hown2.val;refine uR ?_;refine⟨(i+1,ls++[cc],_,ow1),⟨?_,trivial⟩,sB,⟨rfl,trivial⟩,sB,qG _,⟨hlt,by rw[qJ,hll];rfl,?_,hown2⟩,hG2.trans hG3,by dsimp only;omega⟩
    ·rw[zac i (by omega)];rfl
    ·intro z hz;rcases List.mem_append.1 hz with hz | hz
     ·exact hlb z hz
     ·obtain rfl:=pL.1 hz;exact hcb
  ·simp only[nN]at hlt;obtain rfl:i=n:=oM;(first|refine EVL.publishL [] ow [] ((qG _).symm) hown fun G2 hG2 hs=>?_|refine EV.publishL [] ow [] ((qG _).symm) hown fun G2 hG2 hs=>?_);refine uR ?_;exact .inr ⟨cl,_,ls,rfl,hcl.1,hcl.2,hll,hlb,hs⟩
theorem zoz {H:Hp} {v:Value} {l:List Int} (h:IL H v l) (h0:0<l.length) (hl:l.length≤1000):PW prog 259 #[v] H [] fun r ow _=>zaL 3 1 r l.length (l.map iv) ow:=by
 have hs:=h.2;rcases hs with ⟨e,_⟩ | ⟨b,off,cap,c,rfl,_⟩
 ·omega
 ·refine PW.body tO func259 rfl kR ntmps259 rfl rfl ?_;refine uR ?_;refine EVL.eqnil tO rfl rfl rfl rfl rfl rfl rfl ?_;refine uR ?_;refine EVL.lit0 tO rfl rfl rfl rfl rfl rfl rfl fun g0=>?_;refine uR ?_;refine EVL.append tO rfl rfl rfl rfl rfl rfl rfl rfl rfl rfl rfl rfl [] [(g0,3,[])] [] rfl (zaL.full (m:=0) rfl oM) (zdo.ro h h0) (zpl l) oM ?_;intro v1 ow1 hown1;refine uR ?_;rw[qv]at hown1;rw[qG];exact hown1
theorem zm8 {H:Hp} {v:Value} (h:IL H v []):PC prog 259 #[v] H fun r _=>∃a cap,r=.slice a 0 cap:=by
 obtain⟨a,cap,rfl⟩:=SlC.val h;refine BD func259 ntmps259 ?_;refine uR ?_;refine EVL.eqnil tO rfl rfl rfl rfl rfl rfl rfl ?_
 cases a with
 | none =>
  refine uR ?_;exact⟨_,_,rfl⟩
 | some x =>
  refine uR ?_;refine EVL.lit0 tO rfl rfl rfl rfl rfl rfl rfl fun g0=>?_;refine uR ?_;refine EVL.append0 tO rfl rfl rfl rfl rfl rfl rfl rfl rfl (qH _) ?_;refine uR ?_;exact⟨_,_,rfl⟩
theorem zlE {H:Hp} (a:Option Addr) (cap:Nat) (clo:Value):PC prog 260 #[.slice a 0 cap,clo] H fun v _=>v=.tuple #[]:=by
 have hst:PC prog 277 #[.slice a 0 cap,.int .i64 0,clo] H fun v _=>v=.tuple #[]:=by
  have hno:∀G:Hp,PC prog 285 #[.slice a 0 cap,.int .i64 0,.int .i64 0,clo] G fun v _=>v=.tuple #[]:=fun G=>by
   refine BD func285 ntmps285 ?_;refine uR ?_;refine EV.loopK (ι:=Unit) [] [] (fun q=>[(2,.v (.int .i64 0)),(8,.v (.int .i64 1))]) (fun _=>[]) (fun _=>[]) (fun _ _=>True) (fun _=>0) (()) rfl rfl ⟨rfl,rfl,trivial⟩ trivial rfl (fun _=>rfl) (trivial) ?_;rintro⟨⟩ G1 hG1 _;refine uR ?_;rfl
  refine BD func277 ntmps277 ?_;refine uR ?_;refine EV.loopK (ι:=Unit) [0,1,2,6] [] (fun q=>[(7,.v (.int .i64 0)),(8,.v (.int .i64 20))]) (fun _=>[]) (fun _=>[]) (fun _ _=>True) (fun _=>0) (()) rfl rfl ⟨rfl,rfl,trivial⟩ trivial rfl (fun _=>rfl) (trivial) ?_;rintro⟨⟩ G1 hG1 _;refine uR ?_;refine vA (hno _) ?_;rintro r G2 rfl hG2;refine uR ?_;refine EV.loopK (ι:=Unit) [1] [] (fun q=>[(6,.v (.int .i64 20))]) (fun _=>[]) (fun _=>[]) (fun _ _=>True) (fun _=>0) (()) rfl rfl ⟨rfl,trivial⟩ trivial rfl (fun _=>rfl) (trivial) ?_;rintro⟨⟩ G3 hG3 _;refine uR ?_;rfl
 refine BD func260 ntmps260 ?_;refine uR ?_;refine vA (hst) ?_;rintro r G2 rfl hG2;refine uR ?_;rfl
def zm0 (X:List (List Rat)) (col:Int) (rs m:List Int):Prop:=(rs.all (zcL X col)=true∧m.Perm rs∧zhB (zbv X col) m)∨(rs.all (zcL X col)=false∧m=[])
theorem zp2 {H:Hp} {vx vr:Value} {X:List (List Rat)} {rs:List Int} {col:Int} (hX:QLL H vx X) (hr:IL H vr rs) (hn:rs.length≤20) (hrs:∀r,r∈rs→0≤r∧r<(X.length:Int)) (hsm:∀x,x∈X→∀q,q∈x→sm q) :
  PC prog 247 #[vx,vr,.int .i64 col] H fun r H'=>∃m,IL H' r m∧zm0 X col rs m:=by
 obtain⟨a,cap,rfl⟩:=SlC.val hr;obtain⟨xa,xc,rfl⟩:=hX.val;refine BD func247 ntmps247 ?_;refine uR ?_;refine EV.loopK (ι:=Nat) [1,3,5,10,11] [3,5] (fun i=>[(12,.v (.int .i64 (i:Int)))]) (fun _=>[]) (fun _=>[]) (fun i _=>i≤rs.length∧∀r,r∈rs.take i→zcL X col r=true) (fun i=>rs.length-i) (0) rfl rfl ⟨rfl,trivial⟩ trivial rfl (fun _=>rfl) (⟨qQ _,by simp⟩) ?_;rintro i G1 hG1 ⟨hi,hall⟩;refine uR ?_;refine EV.cond rfl (fun hlt=>?_) (fun hlt=>?_)
 ·simp only[nN]at hlt;obtain⟨r,hri⟩:=gE hlt;have hb:=hrs r (qF hri);obtain⟨R,rfl⟩:=qj hb.1;obtain⟨x,hx⟩:∃x,X[R]?=some x:=⟨_,qA oM⟩;have hRl:R<X.length:=oM;obtain⟨vs,hvs,hs⟩:=hX.mono hG1;obtain⟨a1,c1,hu,hQ⟩:=hvs.at hx
  have hhas:zcL X col (R:Int)=(decide (0≤col) && decide (col<(x.length:Int))):=by
   unfold zcL;rw[qU,qB,hx];rfl
  have hno:zcL X col (R:Int)=false→rs.all (zcL X col)=false:=fun h=>by
   rw[List.all_eq_false];exact⟨_,qF hri,by rw[h];decide⟩
  refine uR ?_;refine vI ((hr.mono hG1)) (i) (rfl) (hlt) ((by rw[qK,hri];rfl)) ?_;refine uR ?_;by_cases hc:col<0
  ·apply EV.drawn 11 kR kR;intro xv yw;(repeat refine' DD ?_);rw[qD hc];(repeat refine' DD ?_);(refine DJ.nil (fun G1 hG1 hF1=>?_);(case hS|hS2=>rfl));refine uR ?_;exact⟨[],IL.nil _ _ _,.inr ⟨hno (by rw[hhas];simp;omega),rfl⟩⟩
  ·apply EV.drawn 11 kR kR;intro xv yw;(repeat refine' DD ?_);rw[qC hc];(repeat refine' DD ?_);refine' vJ (hs) (R) (rfl) (hRl) (hu) ?_;rotate_left;(repeat refine' DD ?_);(refine DJ.nil (fun G1 hG1 hF1=>?_);(case hS|hS2=>rfl));refine uR ?_;by_cases hc2:col≥(x.length:Int)
   ·rw[qD hc2];refine uR ?_;exact⟨[],IL.nil _ _ _,.inr ⟨hno (by rw[hhas];simp;omega),rfl⟩⟩
   ·rw[qC hc2];refine uR ?_;refine⟨i+1,⟨?_,trivial⟩,sB,trivial,sB,rfl,⟨hlt,fun z hz=>?_⟩,by assumption,by omega⟩
    ·rw[zac i (by omega)];rfl
    ·rw[zam hri]at hz;rcases List.mem_append.1 hz with hz | hz
     ·exact hall z hz
     ·rw[pL.1 hz,hhas];simp;omega
 ·simp only[nN]at hlt;obtain rfl:i=rs.length:=oM;rw[qb]at hall;have hall2:rs.all (zcL X col)=true:=List.all_eq_true.2 hall;refine uR ?_;(first|refine EVL.unbox (3) rfl fun bx=>?_|refine EV.unbox (3) rfl fun bx=>?_);(first|refine EVL.unbox (5) rfl fun bc=>?_|refine EV.unbox (5) rfl fun bc=>?_);(first|refine EVL.publish [] [(bx,_,_)] rfl fun G2 hG2 hbc=>?_|refine EV.publish [] [(bx,_,_)] rfl fun G2 hG2 hbc=>?_);(first|refine EVL.publish [] [] rfl fun G3 hG3 hbx=>?_|refine EV.publish [] [] rfl fun G3 hG3 hbx=>?_);have hXG:=hX.mono (hG1.trans (hG2.trans hG3));have hbcG:=hG3 _ _ hbc;have hrG:=hr.mono (hG1.trans (hG2.trans hG3));by_cases h0:rs.length=0
  ·obtain rfl:=pK.1 h0;refine vA (zm8 hrG) ?_;rintro r G4 ⟨a4,c4,rfl⟩ hG4;refine uR ?_;refine EVL.fn2 rfl rfl rfl rfl rfl rfl ?_;refine vA (zlE a4 c4 _) ?_;rintro r G5 rfl hG5;refine uR ?_;exact⟨[],IL.nil _ _ _,.inl ⟨hall2,List.Perm.refl _,List.Pairwise.nil⟩⟩
  ·refine EVL.callW rfl rfl rfl rfl rfl ([]) ([]) rfl (zoz hrG oM oM) ?_;rintro r ow G4 hown hG4;obtain⟨g,c4,sp,rfl,rfl,hl4,hm4,hx4⟩:=hown.block oM;refine uR ?_;refine EVL.fn2 rfl rfl rfl rfl rfl rfl ?_;refine vW ([(g,3,rs.map iv++sp)]) ([]) (zn4 (f:=261) (cs:=[.pointer (some ⟨bx,0,none⟩),.pointer (some ⟨bc,0,none⟩)]) (key:=zbv X col) hn (cO func261) (fun G hG x y hx hy=>zoA (hXG.mono (hG4.trans hG)) ((hG4.trans hG) _ _ hbx) ((hG4.trans hG) _ _ hbcG) hsm (hrs x hx).1 (hrs x hx).2 (hrs y hy).1 (hrs y hy).2 (hall x hx) (hall y hy))) ?_;rintro v ow G5 ⟨rfl,m,rfl,hp,hris⟩ hG5;have hml:=hp.length_eq;have hown2:zaL 3 1 (.slice (some ⟨g,0,none⟩) m.length c4) m.length (m.map iv) [(g,3,m.map iv++sp)]:=⟨by simp,.inr ⟨g,c4,sp,rfl,rfl,by rw[←hl4];simp[hml],by omega,hx4⟩⟩;rw[←hml];(first|refine EVL.publishL [] [(g,3,m.map iv++sp)] [] (rfl) hown2 fun G6 hG6 hs6=>?_|refine EV.publishL [] [(g,3,m.map iv++sp)] [] (rfl) hown2 fun G6 hG6 hs6=>?_);refine uR ?_;exact⟨m,hs6,.inl ⟨hall2,hp,hris⟩⟩
theorem zpa (a b:Rat) (ha:ht a≤100000) (hb:ht b≤100000):PV prog 249 #[zaf a,zaf b] (zaf ((a+b) / 2)):=by
 refine PV.of_pc ?_;have h1:=zdm a b
 have h2:ht ((2:Int):Rat)≤10:=by
  have:=zby 2;have h2:bl (2:Int).natAbs≤5:=za1 (by decide);omega
 have hadd:=zez a b (zaQ ha oM) (zaQ hb oM);have hof:=zhE 2 oM oM;have hdiv:=zjP (a+b) ((2:Int):Rat) (zaQ h1 oM) (zaQ h2 oM) (by decide);rw[show ((2:Int):Rat)=2 from rfl]at hdiv hof;refine BD func249 ntmps249 ?_
 repeat (first|refine RUN ?_|refine CV (hadd) ?_|refine CV (hof) ?_|refine CV (hdiv) ?_|refine CE (hadd) ?_|refine CE (hof) ?_|refine CE (hdiv) ?_)
 rfl
theorem ziS {a b:Rat} (h:a≤b):zb4 a b≤0:=by
 unfold zb4;split
 ·omega
 ·split
  ·rename_i k;exact absurd k (Rat.not_lt.2 h)
  ·omega
def zbg (X:List (List Rat)) (col:Int) (t:Rat) (es:List Int):List Int:=es.filter fun r=>zcL X col r && decide (zbv X col r≤t)
def zaz (X:List (List Rat)) (col:Int) (t:Rat) (es:List Int):List Int:=es.filter fun r=>zcL X col r && !decide (zbv X col r≤t)
theorem zgF {p:Int→Bool} {es:List Int} {i:Nat} {r:Int} (h:es[i]?=some r):(es.take (i+1)).filter p=(es.take i).filter p++if p r then [r] else []:=by
 rw[zam h,List.filter_append];cases hp:p r <;> simp[hp]
theorem zrK {H:Hp} {vx vr:Value} {X:List (List Rat)} {rs:List Int} {col:Int} {t:Rat} (hX:QLL H vx X) (hr:IL H vr rs) (hn:rs.length≤100000) (hsm:∀x,x∈X→∀q,q∈x→sm q) (ht:sm t) :
  PC prog 169 #[vx,vr,.int .i64 col,zaf t] H fun r H'=>∃u w,r=.tuple #[u,w]∧IL H' u (zbg X col t (exL rs X.length))∧IL H' w (zaz X col t (exL rs X.length)):=by
 obtain⟨a,cap,rfl⟩:=SlC.val hr;obtain⟨xa,xc,rfl⟩:=hX.val;refine BD func169 ntmps169 ?_;refine uR ?_;refine EVL.call rfl rfl rfl rfl rfl (zcq hr oM X.length) ?_;intro r1 G0 he hG0;have hel:=zbk rs X.length;have heb:=zcK (rs:=rs) (n:=X.length);generalize exL rs X.length=es at *
 obtain⟨a1,c1,rfl⟩:=SlC.val he;refine uR ?_;refine EV.loopK (ι:=Nat × Value × Value × Ows × Ows) [0,2,7,15,16] [7] (fun q=>[(8,.v q.2.1),(9,.v q.2.2.1),(17,.v (.int .i64 (q.1:Int)))]) (fun _=>[]) (fun q=>q.2.2.2.1++q.2.2.2.2) (fun q _=>q.1≤es.length∧zaL 3 1 q.2.1 (zbg X col t (es.take q.1)).length ((zbg X col t (es.take q.1)).map iv) q.2.2.2.1∧zaL 3 1 q.2.2.1 (zaz X col t (es.take q.1)).length ((zaz X col t (es.take q.1)).map iv) q.2.2.2.2) (fun q=>es.length-q.1) ((0,.slice none 0 0,.slice none 0 0,[],[])) rfl rfl ⟨rfl,rfl,rfl,trivial⟩ trivial rfl (fun _=>rfl) (⟨qQ _,zaL.nil _ _,zaL.nil _ _⟩) ?_;rintro⟨i,w1,w2,ow1,ow2⟩ G1 hG1 ⟨hi,hown1,hown2⟩;dsimp only at hi hown1 hown2;obtain⟨wa1,wc1,rfl⟩:=hown1.val;obtain⟨wa2,wc2,rfl⟩:=hown2.val;refine uR ?_;refine EV.cond rfl (fun hlt=>?_) (fun hlt=>?_)
 ·simp only[nN]at hlt;obtain⟨r,hri⟩:=gE hlt;have hb:=heb r (qF hri);obtain⟨R,rfl⟩:=qj hb.1;obtain⟨x,hx⟩:∃x,X[R]?=some x:=⟨_,qA oM⟩;have hRl:R<X.length:=oM;obtain⟨vs,hvs,hs⟩:=hX.mono (hG0.trans hG1);obtain⟨a2,c2,hu,hQ⟩:=hvs.at hx;have hlo:=zgF (p:=fun r=>zcL X col r && decide (zbv X col r≤t)) hri;have hhi:=zgF (p:=fun r=>zcL X col r && !decide (zbv X col r≤t)) hri
  have hhas:zcL X col (R:Int)=(decide (0≤col) && decide (col<(x.length:Int))):=by
   unfold zcL;rw[qU,qB,hx];rfl
  have hl1:(zbg X col t (es.take i)).length≤i:=qI (List.length_filter_le _ _) (by rw[qP];omega);have hl2:(zaz X col t (es.take i)).length≤i:=qI (List.length_filter_le _ _) (by rw[qP];omega);have wn:IntKind.i64.wrap ((i:Int)+1)=((i+1:Nat):Int):=zac i oM;refine uR ?_;refine vI ((he.mono hG1)) (i) (rfl) (hlt) ((by rw[qK,hri];rfl)) ?_;refine uR ?_;by_cases hc:col<0
  ·have hno:zcL X col (R:Int)=false:=by rw[hhas];simp;omega
   rw[hno,Bool.false_and,if_neg (by decide),qG]at hlo hhi;rw[qD hc];refine uR ?_;refine⟨(i+1,_,_,ow1,ow2),⟨rfl,rfl,?_,trivial⟩,sB,trivial,sB,rfl,⟨hlt,by unfold zbg;rw[hlo];exact hown1,by unfold zaz;rw[hhi];exact hown2⟩,Hp.Le.refl _,by dsimp only;omega⟩;rw[wn];rfl
  ·rw[qC hc];refine uR ?_;refine vI (hs) (R) (rfl) (hRl) (hu) ?_;refine uR ?_;by_cases hc2:col≥(x.length:Int)
   ·have hno:zcL X col (R:Int)=false:=by rw[hhas];simp;omega
    rw[hno,Bool.false_and,if_neg (by decide),qG]at hlo hhi;rw[qD hc2];refine uR ?_;refine⟨(i+1,_,_,ow1,ow2),⟨rfl,rfl,?_,trivial⟩,sB,trivial,sB,rfl,⟨hlt,by unfold zbg;rw[hlo];exact hown1,by unfold zaz;rw[hhi];exact hown2⟩,Hp.Le.refl _,by dsimp only;omega⟩;rw[wn];rfl
   ·have hyes:zcL X col (R:Int)=true:=by rw[hhas];simp;omega
    obtain⟨R',C,x',q,hRR,rfl,hx',hq⟩:=zeg hb.1 hb.2 hyes;obtain rfl:R=R':=oM;rw[hx]at hx';cases hx';have hk:=zeb (X:=X) rfl rfl hx hq;have hs2:SlC G1 (.slice a2 x.length c2) x.length 5 (x.flatMap fun q=>zad (zaf q)):=hQ;have hCl:=(qE.1 hq).1;have hcmp:=zdw q t (hsm x (qF hx) q (qF hq)) ht;rw[hyes,Bool.true_and,hk]at hlo hhi;rw[qC hc2];refine uR ?_;apply EV.drawn 8 kR kR;intro xv yw;(repeat refine' DD ?_);refine' vJ (hs) (R) (rfl) (hRl) (hu) ?_;rotate_left;(repeat refine' DD ?_);refine' DJ.idxM tO rfl rfl rfl rfl rfl rfl rfl rfl rfl (hs2) (C) (rfl) (hCl) (QL.at (H:=H) (v:=.bool true) hq) ?_;rotate_left;(repeat refine' DD ?_);(refine DJ.nil (fun G2 hG2 hF2=>?_);(case hS|hS2=>rfl))
    repeat (first|refine RUN ?_|refine CV (hcmp) ?_|refine CE (hcmp) ?_)
    by_cases hle:q≤t
    ·have ho:zb4 q t≤0:=ziS hle;rw[qD hle,if_pos rfl]at hlo;rw[qD hle,if_neg (by decide),qG]at hhi;rw[qD ho];refine uR ?_;refine EVL.app1 tO rfl rfl rfl rfl rfl rfl rfl rfl rfl rfl rfl rfl rfl rfl rfl rfl rfl rfl rfl (fun _=>rfl) (ow1) (ow2) (rfl) (hown1) oM fun _=>?_;intro v' ow' hown';refine uR ?_;refine⟨(i+1,v',_,ow',ow2),⟨rfl,rfl,?_,trivial⟩,sB,trivial,sB,rfl,⟨hlt,by unfold zbg;rw[hlo];exact hown'.il,by unfold zaz;rw[hhi];exact hown2⟩,by assumption,by dsimp only;omega⟩;rw[wn];rfl
    ·have ho:¬zb4 q t≤0:=by
      have:=Rat.not_le.1 hle;unfold zb4;rw[if_neg (fun k=>absurd (Rat.le_of_lt k) (Rat.not_le.2 this)),if_pos this];omega
     rw[qC hle,if_neg (by decide),qG]at hlo;rw[qC hle,Bool.not_false,if_pos rfl]at hhi;rw[qC ho];refine uR ?_;refine EVL.swapOw ow1 ow2 rfl ?_;refine EVL.app1 tO rfl rfl rfl rfl rfl rfl rfl rfl rfl rfl rfl rfl rfl rfl rfl rfl rfl rfl rfl (fun _=>rfl) (ow2) (ow1) (rfl) (hown2) oM fun _=>?_;intro v' ow' hown';refine EVL.swapOw ow' ow1 rfl ?_;refine uR ?_;refine⟨(i+1,_,v',ow1,ow'),⟨rfl,rfl,?_,trivial⟩,sB,trivial,sB,rfl,⟨hlt,by unfold zbg;rw[hlo];exact hown1,by unfold zaz;rw[hhi];exact hown'.il⟩,by assumption,by dsimp only;omega⟩;rw[wn];rfl
 ·simp only[nN]at hlt;obtain rfl:i=es.length:=oM;rw[qb]at hown1 hown2 ⊢;(first|refine EVL.publishL [] ow1 ow2 (rfl) hown1 fun G2 hG2 hs2=>?_|refine EV.publishL [] ow1 ow2 (rfl) hown1 fun G2 hG2 hs2=>?_);(first|refine EVL.publishL [] ow2 [] ((qG _).symm) hown2 fun G3 hG3 hs3=>?_|refine EV.publishL [] ow2 [] ((qG _).symm) hown2 fun G3 hG3 hs3=>?_);refine uR ?_;exact⟨_,_,rfl,hs2.mono hG3,hs3⟩
section
variable {pre S S' post vs:List Value} {k:Nat}
theorem zbh (h:pre.length=k) (j s:Nat) (hj:j+s≤S.length) (hv:(S.drop j).take s=vs):((pre++(S++post)).drop (k+j)).take s=vs:=by
 rw[←List.drop_drop,List.drop_left' h,List.drop_append_of_le_length oM,List.take_append_of_le_length (by rw[qu];omega),hv]
theorem zfY (h:pre.length=k) (i j s:Nat) (hj:i+j+s≤S.length) (hv:(S.drop (i+j)).take s=vs):((pre++(S++post)).drop (k+i+j)).take s=vs:=by
 rw[Nat.add_assoc];exact zbh h (i+j) s hj hv
theorem zcb (h:pre.length=k) (j s:Nat) (hj:j+s≤S.length) (hv:S.take j++vs++S.drop (j+s)=S'):(pre++(S++post)).take (k+j)++vs++(pre++(S++post)).drop (k+j+s)=pre++(S'++post):=by
 subst h;rw[←hv,List.take_append,qO oM,show pre.length+j-pre.length=j by omega,List.take_append_of_le_length oM,Nat.add_assoc,←List.drop_drop,List.drop_left,List.drop_append_of_le_length (by omega)];simp only[qZ]
theorem zjw (h:pre.length=k) (i j s:Nat) (hj:i+j+s≤S.length) (hv:S.take (i+j)++vs++S.drop (i+j+s)=S'):(pre++(S++post)).take (k+i+j)++vs++(pre++(S++post)).drop (k+i+j+s)=pre++(S'++post):=by
 rw[Nat.add_assoc k i j];exact zcb h (i+j) s hj hv
theorem zdt (h:pre.length=k) {j s:Nat} (hj:j+s≤S.length):k+j+s≤(pre++(S++post)).length:=by
 rw[qJ,qJ];omega
theorem zlX (h:pre.length=k) {i j s:Nat} (hj:i+j+s≤S.length):k+i+j+s≤(pre++(S++post)).length:=by
 rw[qJ,qJ];omega
end
section
variable {H:Hp} {b k:Nat} {T:TypeId} {pre post:List Value} (hk:pre.length=k)
include hk
theorem zst {cl:Int} {la:Option Addr} {ln lc:Nat} {va:Option Addr} {vc:Nat} {vals:List Rat} (hv:QL H (.slice va vals.length vc) vals) {r n:Nat} (hn:n≤1000000) {x q:Rat} (hr:vals[r]?=some x) (hx:sm x) (hq:sm q) {cs:List Int} (hc:cs.length=12) {sq:Int} :
  PW prog 125 #[.pointer (some ⟨b,k,none⟩),zas 2 cl (.slice la ln lc) (.slice va vals.length vc),.int .i64 (r:Int)] H [(b,T,pre++(zay n cs sq q++post))] fun v ow _=>v=.tuple #[]∧ow=[(b,T,pre++(zay ((n+1:Nat):Int) cs sq (q+x)++post))]:=by
 have hadd:=zez q x hq hx;have hlen:=zat (n:=(n:Int)) (cs:=cs) (sq:=sq) (q:=q) hc;have hlen2:=zat (n:=((n+1:Nat):Int)) (cs:=cs) (sq:=sq) (q:=q) hc;obtain⟨hrl,_⟩:=qE.1 hr;have hs:SlC H (.slice va vals.length vc) vals.length 5 (vals.flatMap fun q=>zad (zaf q)):=hv;refine PW.body tO func125 rfl kR ntmps125 rfl rfl ?_;refine uR ?_;refine RP ?_;refine EVL.loadOwn tO rfl rfl rfl rfl rfl rfl (0) rfl (zbh hk 0 1 oM zcH) rfl rfl ?_;refine RP ?_;rw[show IntKind.i64.wrap ((n:Int)+1)=((n+1:Nat):Int) by rw[pM];omega];refine EVL.storeOwn tO rfl rfl rfl rfl rfl rfl ([]) ([]) rfl rfl rfl rfl ((zdt hk (j:=0) (s:=1) oM)) (zcb hk 0 1 oM zcn) ?_;refine uR ?_;apply EV.drawn 11 kR kR;intro xv yw;(repeat (first|refine' DD ?_|refine' vN ?_|refine' vF ?_));refine' DJ.ofVal (zaa.loadOwn tO rfl rfl rfl rfl (0) rfl (zbh hk 14 5 oM (ze1 hc)) rfl rfl) rfl rfl rfl ?_;rotate_left;(repeat (first|refine' DD ?_|refine' vN ?_|refine' vF ?_));refine' DJ.idxM tO rfl rfl rfl rfl rfl rfl rfl rfl rfl (hs) (r) (rfl) (hrl) (QL.at (H:=H) (v:=.bool true) hr) ?_;rotate_left;(repeat (first|refine' DD ?_|(refine' DC (hadd) (h:=?_);rotate_left)));(refine DJ.nil (fun G1 hG1 hF1=>?_);(case hS|hS2=>rfl));refine RP ?_;refine EVL.storeOwn tO rfl rfl rfl rfl rfl rfl ([]) ([]) rfl rfl rfl rfl ((zdt hk (j:=14) (s:=5) oM)) (zcb hk 14 5 oM (zdH hc)) ?_;refine uR ?_;exact⟨rfl,rfl⟩
theorem zqY {cl:Int} {la:Option Addr} {ln lc:Nat} {va:Option Addr} {vc:Nat} {vals:List Rat} (hv:QL H (.slice va vals.length vc) vals) {r n:Nat} (hn:n≤1000000) {x q:Rat} (hr:vals[r]?=some x) (hx:sm x) (hq:sm q) {cs:List Int} (hc:cs.length=12) {sq:Int} :
  PW prog 262 #[.pointer (some ⟨b,k,none⟩),zas 2 cl (.slice la ln lc) (.slice va vals.length vc),.int .i64 (r:Int)] H [(b,T,pre++(zay ((n+1:Nat):Int) cs sq q++post))] fun v ow _=>v=.tuple #[]∧ow=[(b,T,pre++(zay (n:Int) cs sq (q-x)++post))]:=by
 have hsub:=zmH q x hq hx;have hlen:=zat (n:=(n:Int)) (cs:=cs) (sq:=sq) (q:=q) hc;have hlen2:=zat (n:=((n+1:Nat):Int)) (cs:=cs) (sq:=sq) (q:=q) hc;obtain⟨hrl,_⟩:=qE.1 hr;have hs:SlC H (.slice va vals.length vc) vals.length 5 (vals.flatMap fun q=>zad (zaf q)):=hv;refine PW.body tO func262 rfl kR ntmps262 rfl rfl ?_;refine uR ?_;refine RP ?_;refine EVL.loadOwn tO rfl rfl rfl rfl rfl rfl (0) rfl (zbh hk 0 1 oM zcH) rfl rfl ?_;refine RP ?_;rw[show IntKind.i64.wrap (((n+1:Nat):Int)-1)=(n:Int) by rw[pM];omega];refine EVL.storeOwn tO rfl rfl rfl rfl rfl rfl ([]) ([]) rfl rfl rfl rfl ((zdt hk (j:=0) (s:=1) oM)) (zcb hk 0 1 oM zcn) ?_;refine uR ?_;apply EV.drawn 11 kR kR;intro xv yw;(repeat (first|refine' DD ?_|refine' vN ?_|refine' vF ?_));refine' DJ.ofVal (zaa.loadOwn tO rfl rfl rfl rfl (0) rfl (zbh hk 14 5 oM (ze1 hc)) rfl rfl) rfl rfl rfl ?_;rotate_left;(repeat (first|refine' DD ?_|refine' vN ?_|refine' vF ?_));refine' DJ.idxM tO rfl rfl rfl rfl rfl rfl rfl rfl rfl (hs) (r) (rfl) (hrl) (QL.at (H:=H) (v:=.bool true) hr) ?_;rotate_left;(repeat (first|refine' DD ?_|(refine' DC (hsub) (h:=?_);rotate_left)));(refine DJ.nil (fun G1 hG1 hF1=>?_);(case hS|hS2=>rfl));refine RP ?_;refine EVL.storeOwn tO rfl rfl rfl rfl rfl rfl ([]) ([]) rfl rfl rfl rfl ((zdt hk (j:=14) (s:=5) oM)) (zcb hk 14 5 oM (zdH hc)) ?_;refine uR ?_;exact⟨rfl,rfl⟩
theorem zsr {cl:Int} {va:Option Addr} {vn vc:Nat} {la:Option Addr} {lc:Nat} {ls:List Int} (hv:IL H (.slice la ls.length lc) ls) {r n:Nat} (hn:n≤1000000) {j m sq:Nat} (hr:ls[r]?=some (j:Int)) (hj:j<12) {cs:List Int} (hc:cs.length=12) (hm:cs[j]?=some (m:Int)) (hmb:m≤1000000) (hsb:sq≤10000000000000) {q:Rat} :
  PW prog 125 #[.pointer (some ⟨b,k,none⟩),zas 1 cl (.slice la ls.length lc) (.slice va vn vc),.int .i64 (r:Int)] H [(b,T,pre++(zay n cs sq q++post))] fun v ow _=>v=.tuple #[]∧ow=[(b,T,pre++(zay ((n+1:Nat):Int) (cs.set j ((m+1:Nat):Int)) ((sq+2*m+1:Nat):Int) q++post))]:=by
 have hlen:=zat (n:=(n:Int)) (cs:=cs) (sq:=(sq:Int)) (q:=q) hc;have hlen2:=zat (n:=((n+1:Nat):Int)) (cs:=cs) (sq:=(sq:Int)) (q:=q) hc;have hlen3:=zat (n:=((n+1:Nat):Int)) (cs:=cs) (sq:=((sq+2*m+1:Nat):Int)) (q:=q) hc;obtain⟨hrl,_⟩:=qE.1 hr
 have w1:IntKind.i64.wrap ((sq:Int)+IntKind.i64.wrap (IntKind.i64.wrap (2*(m:Int))+1))=((sq+2*m+1:Nat):Int):=by
  rw[show IntKind.i64.wrap (2*(m:Int))=2*(m:Int) by rw[pM];omega,show IntKind.i64.wrap (2*(m:Int)+1)=2*(m:Int)+1 by rw[pM];omega,pM];omega
 have w2:IntKind.i64.wrap ((m:Int)+1)=((m+1:Nat):Int):=by rw[pM];omega
 refine PW.body tO func125 rfl kR ntmps125 rfl rfl ?_;refine uR ?_;refine RP ?_;refine EVL.loadOwn tO rfl rfl rfl rfl rfl rfl (0) rfl (zbh hk 0 1 oM zcH) rfl rfl ?_;refine RP ?_;rw[show IntKind.i64.wrap ((n:Int)+1)=((n+1:Nat):Int) by rw[pM];omega];refine EVL.storeOwn tO rfl rfl rfl rfl rfl rfl ([]) ([]) rfl rfl rfl rfl ((zdt hk (j:=0) (s:=1) oM)) (zcb hk 0 1 oM zcn) ?_;refine uR ?_;refine vI (hv) (r) (rfl) (hrl) ((by rw[qK,hr];rfl)) ?_;refine uR ?_;apply EV.drawn 13 kR kR;intro xv yw;(repeat (first|refine' DD ?_|refine' vN ?_|refine' vF ?_));refine' DJ.ofVal (zaa.loadOwn tO rfl rfl rfl rfl (0) rfl (zbh hk 13 1 oM (zft hc)) rfl rfl) rfl rfl rfl ?_;rotate_left;(repeat (first|refine' DD ?_|refine' vN ?_|refine' vF ?_));refine' DJ.idxA tO rfl rfl rfl rfl (zdg) rfl rfl rfl rfl (j) (rfl) (hj) ?_;rotate_left;refine' DJ.ofVal (zaa.loadOwn tO rfl rfl rfl rfl (0) rfl (zfY hk 1 j 1 oM (zhj hm)) rfl rfl) rfl rfl rfl ?_;rotate_left;(repeat (first|refine' DD ?_|refine' vN ?_|refine' vF ?_));(refine DJ.nil (fun G1 hG1 hF1=>?_);(case hS|hS2=>rfl));rw[w1];refine RP ?_;refine EVL.storeOwn tO rfl rfl rfl rfl rfl rfl ([]) ([]) rfl rfl rfl rfl ((zdt hk (j:=13) (s:=1) oM)) (zcb hk 13 1 oM (zem hc)) ?_;refine uR ?_;apply EV.drawn 10 kR kR;intro xv yw;(repeat (first|refine' DD ?_|refine' vN ?_|refine' vF ?_));refine' DJ.idxA tO rfl rfl rfl rfl (zdg) rfl rfl rfl rfl (j) (rfl) (hj) ?_;rotate_left;refine' DJ.ofVal (zaa.loadOwn tO rfl rfl rfl rfl (0) rfl (zfY hk 1 j 1 oM (zhj hm)) rfl rfl) rfl rfl rfl ?_;rotate_left;(repeat (first|refine' DD ?_|refine' vN ?_|refine' vF ?_));refine' DJ.idxA tO rfl rfl rfl rfl (zdg) rfl rfl rfl rfl (j) (rfl) (hj) ?_;rotate_left;(refine DJ.nil (fun G2 hG2 hF2=>?_);(case hS|hS2=>rfl));rw[w2];refine RP ?_;refine EVL.storeOwn tO rfl rfl rfl rfl rfl rfl ([]) ([]) rfl rfl rfl rfl ((zlX hk (i:=1) (j:=j) (s:=1) oM)) (zjw hk 1 j 1 oM (zel _ (show j<cs.length by omega))) ?_;refine uR ?_;exact⟨rfl,rfl⟩
theorem zqX {cl:Int} {va:Option Addr} {vn vc:Nat} {la:Option Addr} {lc:Nat} {ls:List Int} (hv:IL H (.slice la ls.length lc) ls) {r n:Nat} (hn:n≤1000000) {j m sq:Nat} (hr:ls[r]?=some (j:Int)) (hj:j<12) {cs:List Int} (hc:cs.length=12) (hm:cs[j]?=some ((m+1:Nat):Int)) (hmb:m≤1000000) (hsb:sq≤10000000000000) {q:Rat} :
  PW prog 262 #[.pointer (some ⟨b,k,none⟩),zas 1 cl (.slice la ls.length lc) (.slice va vn vc),.int .i64 (r:Int)] H [(b,T,pre++(zay ((n+1:Nat):Int) cs ((sq+2*m+1:Nat):Int) q++post))] fun v ow _=>v=.tuple #[]∧ow=[(b,T,pre++(zay (n:Int) (cs.set j (m:Int)) (sq:Int) q++post))]:=by
 have hcs:(cs.set j (m:Int)).length=12:=by rw[List.length_set,hc]
 have hlen:=zat (n:=(n:Int)) (cs:=cs) (sq:=((sq+2*m+1:Nat):Int)) (q:=q) hc;have hlen2:=zat (n:=((n+1:Nat):Int)) (cs:=cs) (sq:=((sq+2*m+1:Nat):Int)) (q:=q) hc;have hlen3:=zat (n:=(n:Int)) (cs:=cs.set j (m:Int)) (sq:=((sq+2*m+1:Nat):Int)) (q:=q) hcs;obtain⟨hrl,_⟩:=qE.1 hr;have w2:IntKind.i64.wrap (((m+1:Nat):Int)-1)=(m:Int):=by rw[pM];omega
 have hm':(cs.set j (m:Int))[j]?=some (m:Int):=by rw[List.getElem?_set_self (by omega)]
 have w1:IntKind.i64.wrap (((sq+2*m+1:Nat):Int)-IntKind.i64.wrap (IntKind.i64.wrap (2*(m:Int))+1))=(sq:Int):=by
  rw[show IntKind.i64.wrap (2*(m:Int))=2*(m:Int) by rw[pM];omega,show IntKind.i64.wrap (2*(m:Int)+1)=2*(m:Int)+1 by rw[pM];omega,pM];omega
 refine PW.body tO func262 rfl kR ntmps262 rfl rfl ?_;refine uR ?_;refine RP ?_;refine EVL.loadOwn tO rfl rfl rfl rfl rfl rfl (0) rfl (zbh hk 0 1 oM zcH) rfl rfl ?_;refine RP ?_;rw[show IntKind.i64.wrap (((n+1:Nat):Int)-1)=(n:Int) by rw[pM];omega];refine EVL.storeOwn tO rfl rfl rfl rfl rfl rfl ([]) ([]) rfl rfl rfl rfl ((zdt hk (j:=0) (s:=1) oM)) (zcb hk 0 1 oM zcn) ?_;refine uR ?_;refine vI (hv) (r) (rfl) (hrl) ((by rw[qK,hr];rfl)) ?_;refine uR ?_;apply EV.drawn 10 kR kR;intro xv yw;(repeat (first|refine' DD ?_|refine' vN ?_|refine' vF ?_));refine' DJ.idxA tO rfl rfl rfl rfl (zdg) rfl rfl rfl rfl (j) (rfl) (hj) ?_;rotate_left;refine' DJ.ofVal (zaa.loadOwn tO rfl rfl rfl rfl (0) rfl (zfY hk 1 j 1 oM (zhj hm)) rfl rfl) rfl rfl rfl ?_;rotate_left;(repeat (first|refine' DD ?_|refine' vN ?_|refine' vF ?_));refine' DJ.idxA tO rfl rfl rfl rfl (zdg) rfl rfl rfl rfl (j) (rfl) (hj) ?_;rotate_left;(refine DJ.nil (fun G2 hG2 hF2=>?_);(case hS|hS2=>rfl));rw[w2];refine RP ?_;refine EVL.storeOwn tO rfl rfl rfl rfl rfl rfl ([]) ([]) rfl rfl rfl rfl ((zlX hk (i:=1) (j:=j) (s:=1) oM)) (zjw hk 1 j 1 oM (zel _ (show j<cs.length by omega))) ?_;refine uR ?_;apply EV.drawn 13 kR kR;intro xv yw;(repeat (first|refine' DD ?_|refine' vN ?_|refine' vF ?_));refine' DJ.ofVal (zaa.loadOwn tO rfl rfl rfl rfl (0) rfl (zbh hk 13 1 oM (zft hcs)) rfl rfl) rfl rfl rfl ?_;rotate_left;(repeat (first|refine' DD ?_|refine' vN ?_|refine' vF ?_));refine' DJ.idxA tO rfl rfl rfl rfl (zdg) rfl rfl rfl rfl (j) (rfl) (hj) ?_;rotate_left;refine' DJ.ofVal (zaa.loadOwn tO rfl rfl rfl rfl (0) rfl (zfY hk 1 j 1 oM (zhj hm')) rfl rfl) rfl rfl rfl ?_;rotate_left;(repeat (first|refine' DD ?_|refine' vN ?_|refine' vF ?_));(refine DJ.nil (fun G1 hG1 hF1=>?_);(case hS|hS2=>rfl));rw[w1];refine RP ?_;refine EVL.storeOwn tO rfl rfl rfl rfl rfl rfl ([]) ([]) rfl rfl rfl rfl ((zdt hk (j:=13) (s:=1) oM)) (zcb hk 13 1 oM (zem hcs)) ?_;refine uR ?_;exact⟨rfl,rfl⟩
theorem zqp {n:Nat} {cs:List Int} (hc:cs.length=12) {sq:Nat} (hsq:sq≤10000000000000) (hn:n≤1000000) {q:Rat} (hq:ht q≤1000000) :
  PW prog 79 #[.pointer (some ⟨b,k,none⟩),.int .i64 2] H [(b,T,pre++(zay n cs sq q++post))] fun v ow _=>v=zaf (q*q / ((n:Int):Rat))∧ow=[(b,T,pre++(zay n cs sq q++post))]:=by
 have hlen:=zat (n:=(n:Int)) (cs:=cs) (sq:=(sq:Int)) (q:=q) hc;have hqs:sm q:=zaQ hq oM;have hmul:=zpe q q hqs hqs;have hof:=zhE (sq:Int) oM oM;have hof2:=zhE (n:Int) oM oM;have hm:=zfG q q
 have hnh:ht ((n:Int):Rat)≤100:=by
  have:=zby (n:Int);have h2:bl (n:Int).natAbs≤20:=za1 oM;omega
 refine PW.body tO func79 rfl kR ntmps79 rfl rfl ?_;refine uR ?_;refine RP ?_;refine EVL.loadOwn tO rfl rfl rfl rfl rfl rfl (0) rfl (zbh hk 0 1 oM zcH) rfl rfl ?_;refine uR ?_;by_cases h0:n=0
 ·subst h0;rw[show (((0:Nat):Int) == 0)=true from rfl];refine uR ?_;rw[show (((0:Nat):Int):Rat)=0 from rfl,zbm];exact⟨zbQ.symm,rfl⟩
 ·have hdiv:=zjP (q*q) ((n:Int):Rat) (zaQ hm oM) (zaQ hnh oM) (zdQ h0);rw[show ((n:Int) == 0)=false from pR.2 (by omega)];refine uR ?_;refine RP ?_;refine EVL.loadOwn tO rfl rfl rfl rfl rfl rfl (0) rfl (zbh hk 13 1 oM (zft hc)) rfl rfl ?_
  repeat (first|refine RUN ?_|refine CV (hof) ?_|refine CE (hof) ?_)
  apply EV.drawn 8 kR kR;intro xv yw;(repeat (first|refine' DD ?_|refine' vN ?_|refine' vF ?_));refine' DJ.ofVal (zaa.loadOwn tO rfl rfl rfl rfl (0) rfl (zbh hk 14 5 oM (ze1 hc)) rfl rfl) rfl rfl rfl ?_;rotate_left;(repeat (first|refine' DD ?_|refine' vN ?_|refine' vF ?_));refine' DJ.ofVal (zaa.loadOwn tO rfl rfl rfl rfl (0) rfl (zbh hk 14 5 oM (ze1 hc)) rfl rfl) rfl rfl rfl ?_;rotate_left;(repeat (first|refine' DD ?_|refine' vN ?_|refine' vF ?_));(refine DJ.nil (fun G1 hG1 hF1=>?_);(case hS|hS2=>rfl))
  repeat (first|refine RUN ?_|refine CV (hmul) ?_|refine CE (hmul) ?_)
  refine uR ?_;apply EV.drawn 12 kR kR;intro xv yw;(repeat (first|refine' DD ?_|refine' vN ?_|refine' vF ?_));refine' DJ.ofVal (zaa.loadOwn tO rfl rfl rfl rfl (0) rfl (zbh hk 0 1 oM zcH) rfl rfl) rfl rfl rfl ?_;rotate_left;(repeat (first|refine' DD ?_|(refine' DC (hof2) (h:=?_);rotate_left)|(refine' DC (hdiv) (h:=?_);rotate_left)));(refine DJ.nil (fun G2 hG2 hF2=>?_);(case hS|hS2=>rfl));refine uR ?_;exact⟨rfl,rfl⟩
theorem zqn {n:Nat} {cs:List Int} (hc:cs.length=12) {sq:Nat} (hsq:sq≤10000000000000) (hn:n≤1000000) {q:Rat} :
  PW prog 79 #[.pointer (some ⟨b,k,none⟩),.int .i64 1] H [(b,T,pre++(zay n cs sq q++post))] fun v ow _=>v=zaf (((sq:Int):Rat) / ((n:Int):Rat))∧ow=[(b,T,pre++(zay n cs sq q++post))]:=by
 have hlen:=zat (n:=(n:Int)) (cs:=cs) (sq:=(sq:Int)) (q:=q) hc;have hof:=zhE (sq:Int) oM oM;have hof2:=zhE (n:Int) oM oM
 have hnh:ht ((n:Int):Rat)≤100:=by
  have:=zby (n:Int);have h2:bl (n:Int).natAbs≤20:=za1 oM;omega
 have hsh:ht ((sq:Int):Rat)≤100:=by
  have:=zby (sq:Int);have h2:bl (sq:Int).natAbs≤50:=za1 oM;omega
 refine PW.body tO func79 rfl kR ntmps79 rfl rfl ?_;refine uR ?_;refine RP ?_;refine EVL.loadOwn tO rfl rfl rfl rfl rfl rfl (0) rfl (zbh hk 0 1 oM zcH) rfl rfl ?_;refine uR ?_;by_cases h0:n=0
 ·subst h0;rw[show (((0:Nat):Int) == 0)=true from rfl];refine uR ?_;rw[show (((0:Nat):Int):Rat)=0 from rfl,zbm];exact⟨zbQ.symm,rfl⟩
 ·have hdiv:=zjP ((sq:Int):Rat) ((n:Int):Rat) (zaQ hsh oM) (zaQ hnh oM) (zdQ h0);rw[show ((n:Int) == 0)=false from pR.2 (by omega)];refine uR ?_;refine RP ?_;refine EVL.loadOwn tO rfl rfl rfl rfl rfl rfl (0) rfl (zbh hk 13 1 oM (zft hc)) rfl rfl ?_
  repeat (first|refine RUN ?_|refine CV (hof) ?_|refine CE (hof) ?_)
  apply EV.drawn 12 kR kR;intro xv yw;(repeat (first|refine' DD ?_|refine' vN ?_|refine' vF ?_));refine' DJ.ofVal (zaa.loadOwn tO rfl rfl rfl rfl (0) rfl (zbh hk 0 1 oM zcH) rfl rfl) rfl rfl rfl ?_;rotate_left;(repeat (first|refine' DD ?_|(refine' DC (hof2) (h:=?_);rotate_left)|(refine' DC (hdiv) (h:=?_);rotate_left)));(refine DJ.nil (fun G2 hG2 hF2=>?_);(case hS|hS2=>rfl));refine uR ?_;exact⟨rfl,rfl⟩
end
theorem zt1 {b:Nat} {c:Array Value} (h:gH b=some c):c.toList.length=64:=by
 unfold gH at h;split at h
 ·cases h;rfl
 ·cases h
section
variable {P:Program} {n:Nat} {ops:Array Oper} {o:Oper} {rest:List Oper} {env:Env} {bx:Bxs} {sb:Bxs} {ow:Ows} {H:Hs} {Q:EQ} {τ:Tab} {d:Nat} {s:SV}
theorem zaa.callR {f:FuncId} {args:Array Operand} {tys:Array TypeId} (ho:o.op=.call ⟨.value (.func f),args,tys⟩) (hw:zah ops env o=some true) {vs:List Value} (ha:zbf env args.toList some=some vs) (jj:Nat) {b:Nat} {T:TypeId} {cs:List Value} (hj:ow[jj]?=some (b,T,cs)) (h64:cs.length≠64)
  {v:Value} (hc:zaF P f) {F:Hp→Prop} {R:Hp} (hpc:∀G,PW P f vs.toArray G [(b,T,cs)] fun u ow' _=>u=v∧ow'=[(b,T,cs)]):zaa P ops o env bx ow R F (fun β u G=>(SV.v v).rep β G u):=fun β a W G hle hf hgl hb hown hs hF=>by
 obtain⟨vs',hk,hm⟩:=za0 env _ _ _ ha;cases hk;have hvs:=hm β G a.eval (fun y s hy=>hs.op (by simp[ho,Op.operands,Call.operands];exact .inr (by simpa using hy)));have hB:=hown jj b T cs hj
 have hg:gH b=none:=by
  cases hgb:gH b with
  | none=>rfl
  | some c =>
   obtain⟨T',fz,hW⟩:=hgl b c hgb;have hB':W.heap[b]?=some (.cells cs.toArray T (0,0)):=hB;rw[hB']at hW;cases hW;have:=zt1 hgb;exact absurd (by simpa using this) h64
 rw[if_pos (hs.want hw)];unfold Oper.wp;rw[zaY hc ho hvs,Oper.upon_enter];refine((hpc (fun k=>if k=b then none else G k)).run W (fun k c h=>hf k c (by first|(split at h <;> first|(cases h;done)|exact h))) hgl (fun j b' T' cs' h=>?_) ?_).mono ?_
 ·cases j with
  | zero=>simp at h;obtain⟨rfl,rfl,rfl⟩:=h;exact⟨hB,if_pos rfl,hg⟩
  | succ j=>simp at h
 ·intro j j' b' T1 T2 c1 c2 h1 h2
  cases j with
  | zero=>cases j' with
   | zero=>rfl
   | succ j'=>simp at h2
  | succ j=>simp at h1
 ·rintro e W' ⟨u,ow',H',rfl,⟨rfl,rfl⟩,hle',hf',hnew,hk,hb',_⟩;have hB2:=(hb' 0 b T cs rfl).1
  have hbel:Below W.heap.size W W':=⟨hk.os,hk.tape,hk.output,hk.size,fun k hlt=>by
   by_cases e:k=b
   ·subst e;have h1:W.heap[k]?=some (.cells cs.toArray T (0,0)):=hB;have h2:W'.heap[k]?=some (.cells cs.toArray T (0,0)):=hB2;rw[h1,h2]
   ·exact hk.block k hlt (by simp[Ows.bs];exact e)⟩
  exact⟨u,G,rfl,rfl,Hp.Le.refl G,hf.below hbel,hbel,Nw.refl _ _ _⟩
theorem ztl {f:Fn} {x:Operand} (ho:o.op=.makeFunc f #[] #[x]) {u:Value} (hx:env.op x=some (.v u)) (ev:Operand→Value) (W:World) (he:∀y x,y∈o.op.operands→env.op y=some (.v x)→ev y=x) :
  (execOp ev o).run P W=.ok (.value (.func f #[] #[u])) W:=by
 have ex:=he x _ (by simp[ho,Op.operands]) hx;unfold execOp;simp[ho,ex,Instr.makeFunc]
theorem EVL.fn1 {f:Fn} {x:Operand} (ho:o.op=.makeFunc f #[] #[x]) (hw:zah ops env o=some true) (hd:o.dst=some d) (hn:Nat.blt d n=true) {u:Value} (hx:env.op x=some (.v u))
  (h:EVL P n ops rest ((d,.v (.func f #[] #[u]))::env) bx H Q):EVL P n ops (o::rest) env bx H Q:=EVL.gen hw hd hn (ztl ho hx) h
theorem DJ.callR {tail l:List Oper} {x:Nat→Value} {y:Nat→Ows} {ow':Ows} {kl ks:List DK} {i:Nat} {bx':Bxs} {Γ:zew} {f:FuncId} {args:Array Operand} {tys:Array TypeId} (ho:o.op=.call ⟨.value (.func f),args,tys⟩) (hw:zah ops env o=some true) (hd:o.dst=some d) (hn:Nat.blt d n=true)
  {vs:List Value} (ha:zbf env args.toList some=some vs) (jj:Nat) {b:Nat} {T:TypeId} {cs:List Value} (hj:H.ow[jj]?=some (b,T,cs)) (h64:cs.length≠64) {v:Value} (hc:zaF P f) (hpc:∀G,PW P f vs.toArray G [(b,T,cs)] fun u ow' _=>u=v∧ow'=[(b,T,cs)])
  (h:DJ P n ops tail sb bx H Q x y kl (i+1) l ks ((d,.v v)::env) bx' Γ ow'):DJ P n ops tail sb bx H Q x y kl i (o::l) (.sv (.v v)::ks) env bx' Γ ow' :=
 ⟨d,hd,hn,rfl,zaa.callR ho hw ha jj hj h64 hc hpc,h⟩
end
structure GOk (H:Hp) (kd cl:Int) (sl sv:Value) (N:Nat) (S:List Int→List Value) (wo:List Int→Rat):Prop where
 len:∀l,(S l).length=19
 form:∀l,∃(n:Int) (cs:List Int) (sq:Int) (q:Rat),cs.length=12∧S l=zay n cs sq q
 check:∀G,H.Le G→PC prog 75 #[zas kd cl sl sv] G fun r _=>r=.int .i64 0
 leng:PV prog 78 #[zas kd cl sl sv] (.int .i64 (N:Int))
 zero:S []=Tryz.te147.zero
 first:∀l,((S l).drop 0).take 1=[.int .i64 (l.length:Int)]
 whole:∀G,H.Le G→∀v l,IL G v l→l.length≤300→(∀r,r∈l→0≤r∧r<(N:Int))→PC prog 76 #[zas kd cl sl sv,v] G fun r _=>r=.agg (S l).toArray
 move:∀G,H.Le G→∀(b:Nat) (l l':List Int) (r:Int),l.length+l'.length≤299→(∀z,z∈l++r::l'→0≤z∧z<(N:Int)) →
  PW prog 248 #[.pointer (some ⟨b,0,none⟩),zas kd cl sl sv,.int .i64 r] G [(b,314,S l++S (r::l'))] fun v ow _=>v=.tuple #[]∧ow=[(b,314,S (l++[r])++S l')]
 worth:∀(G:Hp) (b k:Nat) (T:TypeId) (pre post:List Value) (l:List Int),pre.length=k→l.length≤300→(∀r,r∈l→0≤r∧r<(N:Int)) →
  PW prog 79 #[.pointer (some ⟨b,k,none⟩),.int .i64 kd] G [(b,T,pre++(S l++post))] fun v ow _=>v=zaf (wo l)∧ow=[(b,T,pre++(S l++post))]
 small:∀l:List Int,l.length≤300→(∀r,r∈l→0≤r∧r<(N:Int))→ht (wo l)≤100000
theorem GOk.mono {H G:Hp} {kd cl:Int} {sl sv:Value} {N:Nat} {S:List Int→List Value} {wo:List Int→Rat} (h:GOk H kd cl sl sv N S wo) (k:H.Le G):GOk G kd cl sl sv N S wo :=
 ⟨h.len,h.form,fun G' hG=>h.check G' (k.trans hG),h.leng,h.zero,h.first,fun G' hG=>h.whole G' (k.trans hG),fun G' hG=>h.move G' (k.trans hG),h.worth,h.small⟩
theorem PV.pc' {P:Program} {f:FuncId} {args:Array Value} {v:Value} (h:PV P f args v) (G:Hp):PC P f args G fun r _=>r=v:=(h.pc G).mono fun _ _ h _=>h.1
theorem zn5 (l:List Rat):∀x:Rat,l.foldl (·+·) x=x+zaK l:=by
 unfold zaK
 induction l with
 | nil=>intro x;rw[List.foldl_nil,List.foldl_nil,Rat.add_zero]
 | cons y l ih=>intro x;rw[List.foldl_cons,List.foldl_cons,ih,ih (0+y),Rat.zero_add,Rat.add_assoc]
theorem zaC (x:Rat) (l:List Rat):zaK (x::l)=x+zaK l:=by
 have:=zn5 l (0+x);rw[Rat.zero_add]at this;unfold zaK at *
 rw[List.foldl_cons,Rat.zero_add];exact this
def zkx (vals:List Rat) (l:List Int):List Value:=zay (l.length:Nat) (List.replicate 12 0) 0 (zaK (atR vals l))
def zkw (ls:List Int) (l:List Int):List Value:=zay (l.length:Nat) (csL (atI ls l)) (sqL (atI ls l):Nat) 0
def woV (vals:List Rat) (l:List Int):Rat:=zaK (atR vals l)*zaK (atR vals l) / ((l.length:Int):Rat)
def woL (ls:List Int) (l:List Int):Rat:=((sqL (atI ls l):Int):Rat) / ((l.length:Int):Rat)
theorem zlV {vals:List Rat} {R:Nat} {x:Rat} (h:vals[R]?=some x) (l:List Int):atR vals ((R:Int)::l)=x::atR vals l:=by
 unfold atR;rw[qy,qU,qB,h];rfl
theorem zeA {ls:List Int} {R:Nat} {x:Int} (h:ls[R]?=some x) (l:List Int):atI ls ((R:Int)::l)=x::atI ls l:=by
 unfold atI;rw[qy,qU,qB,h];rfl
theorem zkY {vals:List Rat} (l m:List Int):atR vals (l++m)=atR vals l++atR vals m:=qp
theorem zkX {ls:List Int} (l m:List Int):atI ls (l++m)=atI ls l++atI ls m:=qp
theorem zu5 {H:Hp} {la:Option Addr} {lc:Nat} {va:Option Addr} {vc:Nat} {vals:List Rat} (hv:QL H (.slice va vals.length vc) vals) (h0:1≤vals.length) (h1:vals.length≤300) (hb:∀q,q∈vals→ht q≤100) :
  GOk H 2 0 (.slice la 0 lc) (.slice va vals.length vc) vals.length (zkx vals) (woV vals):=by
 have hs:∀l:List Int,l.length≤300→(∀r,r∈l→0≤r∧r<(vals.length:Int))→ht (zaK (atR vals l))≤1+101*300:=fun l hl hr=>by
  have h1:=zdz 100 (atR vals l) (fun q hq=>hb q (zd9 hr q hq));rw[zbM]at h1;omega
 refine⟨fun l=>zat rfl,fun l=>⟨_,_,_,_,rfl,rfl⟩,fun G hG=>(zeD h0 h1).pc' G,zo5,by unfold zkx;exact ze2.symm,fun l=>zcH,fun G hG v l hl hn hr=>?_,fun G hG b l l' r hn hr=>?_,fun G b k T pre post l hk hn hr=>?_,fun l hl hr=>?_⟩
 ·obtain⟨a,c,rfl⟩:=SlC.val hl;exact zql (hv.mono hG) hl oM hr hb
 ·have hrb:=hr r (by simp);obtain⟨R,rfl⟩:=qj hrb.1;obtain⟨x,hx⟩:∃x,vals[R]?=some x:=⟨_,qA oM⟩;have hxs:sm x:=zaQ (hb x (qF hx)) oM;have h1:=hs l oM (fun z hz=>hr z (by simp[hz]));have h2:=hs ((R:Int)::l') (by simp;omega) (fun z hz=>hr z (List.mem_append_right _ hz));have e1:zaK (atR vals (l++[(R:Int)]))=zaK (atR vals l)+x:=by rw[zkY,zlV hx];exact zbH _ _
  have e2:zaK (atR vals ((R:Int)::l'))-x=zaK (atR vals l'):=by rw[zlV hx,zaC];grind
  have hadd:=fun (G':Hp) (hG':G.Le G')=>zst (pre:=[]) (k:=0) (b:=b) (T:=314) (post:=zkx vals ((R:Int)::l')) rfl (cl:=0) (la:=la) (ln:=0) (lc:=lc) (hv.mono (hG.trans hG')) (n:=l.length) oM hx hxs (zaQ h1 oM) (cs:=List.replicate 12 0) rfl (sq:=0);have hdrop:=fun (G':Hp) (hG':G.Le G')=>zqY (pre:=zkx vals (l++[(R:Int)])) (k:=19) (b:=b) (T:=314) (post:=[]) (zat rfl) (cl:=0) (la:=la) (ln:=0) (lc:=lc) (hv.mono (hG.trans hG')) (n:=l'.length) oM hx hxs (zaQ h2 oM) (cs:=List.replicate 12 0) rfl (sq:=0);simp only[←e1]at hadd;simp only[e2]at hdrop;have hl1:(l++[(R:Int)]).length=l.length+1:=by simp
  refine PW.body tO func248 rfl kR ntmps248 rfl rfl ?_;refine uR ?_;apply EV.drawn 5 kR kR;intro xv yw;(repeat (first|refine' DD ?_|refine' vN ?_|refine' vF ?_));(refine DJ.nil (fun G1 hG1 hF1=>?_);(case hS|hS2=>rfl));refine vW ([(b,314,zkx vals l++zkx vals ((R:Int)::l'))]) ([]) (hadd _ hG1) ?_;rintro v ow G2 ⟨rfl,rfl⟩ hG2;rw[←hl1];refine uR ?_;apply EV.drawn 5 kR kR;intro xv yw;(repeat (first|refine' DD ?_|refine' vN ?_|refine' vF ?_));(refine DJ.nil (fun G3 hG3 hF3=>?_);(case hS|hS2=>rfl));refine EVL.callW rfl rfl rfl rfl rfl ([(b,314,zkx vals (l++[(R:Int)])++(zay ((l'.length+1:Nat):Int) (List.replicate 12 0) 0 (zaK (atR vals ((R:Int)::l')))++[]))]) ([]) rfl (hdrop _ (hG1.trans (hG2.trans hG3))) ?_;rintro v ow G4 ⟨rfl,rfl⟩ hG4;refine uR ?_;refine⟨rfl,?_⟩;rw[qG];rfl
 ·exact zqp hk (cs:=List.replicate 12 0) rfl (sq:=0) oM oM (qI (hs l hn hr) oM)
 ·have h1:=hs l hl hr;have h2:=zfG (zaK (atR vals l)) (zaK (atR vals l));have h3:=zby (l.length:Int);have h4:bl (l.length:Int).natAbs≤20:=za1 oM;have h5:=zeM (zaK (atR vals l)*zaK (atR vals l)) ((l.length:Int):Rat);unfold woV;omega
theorem zmE {l m:List Int} (h:l.Perm m):sqL l=sqL m:=by
 unfold sqL;have e:(l.map fun x=>l.count x)=l.map fun x=>m.count x:=List.map_congr_left fun x _=>h.count_eq x;rw[e];exact(h.map _).sum_nat
theorem zqR {l m:List Int} (h:l.Perm m):csL l=csL m:=by
 unfold csL;exact List.map_congr_left fun k _=>by rw[h.count_eq]
theorem zqQ {k:Nat} (hk:k<12) (l:List Int):(csL ((k:Int)::l)).set k (l.count (k:Int):Int)=csL l:=by
 have h:=ziB l hk;have hp:((k:Int)::l).Perm (l++[(k:Int)]):=List.perm_append_comm (l₁:=[(k:Int)]) (l₂:=l);rw[zqR hp,h,List.set_set];apply List.ext_getElem?;intro j;rw[List.getElem?_set];by_cases e:k=j
 ·subst e;rw[if_pos rfl,if_pos (by rw[zbP];exact hk),zhP _ hk]
 ·rw[if_neg e]
theorem zjb (x:Int) (l:List Int):sqL (x::l)=sqL l+2*l.count x+1:=by
 have hp:(x::l).Perm (l++[x]):=List.perm_append_comm (l₁:=[x]) (l₂:=l);rw[zmE hp,zjc]
theorem zu4 {H:Hp} {cl:Int} (hc:1≤cl∧cl≤12) {va:Option Addr} {vc:Nat} {la:Option Addr} {lc:Nat} {ls:List Int} (hv:IL H (.slice la ls.length lc) ls) (h0:1≤ls.length) (h1:ls.length≤300) (hls0:∀z,z∈ls→0≤z∧z<cl) :
  GOk H 1 cl (.slice la ls.length lc) (.slice va 0 vc) ls.length (zkw ls) (woL ls):=by
 have hls:∀z,z∈ls→0≤z∧z<12:=fun z hz=>⟨(hls0 z hz).1,by have:=(hls0 z hz).2;omega⟩
 have hs:∀l:List Int,l.length≤300→sqL (atI ls l)≤90000:=fun l hl=>by
  have h1:=zik (atI ls l);rw[zb5]at h1;exact qI h1 (Nat.mul_le_mul hl hl)
 refine⟨fun l=>zat (zbP _),fun l=>⟨_,_,_,_,zbP _,rfl⟩,fun G hG=>zgs (hv.mono hG) hc h0 h1 hls0,zlk,by unfold zkw;exact ze2.symm,fun l=>zcH,fun G hG v l hl hn hr=>?_,fun G hG b l l' r hn hr=>?_,fun G b k T pre post l hk hn hr=>?_,fun l hl hr=>?_⟩
 ·exact zio (hv.mono hG) hl oM hr hls
 ·have hrb:=hr r (by simp);obtain⟨R,rfl⟩:=qj hrb.1;obtain⟨x,hx⟩:∃x,ls[R]?=some x:=⟨_,qA oM⟩;have hxb:=hls x (qF hx);obtain⟨k,rfl⟩:=qj hxb.1;have hk:k<12:=oM;have h1:=hs l oM;have h2:=hs l' oM;have c1:(atI ls l).count (k:Int)≤300:=qI List.count_le_length (by rw[zb5];omega);have c2:(atI ls l').count (k:Int)≤300:=qI List.count_le_length (by rw[zb5];omega);have e1:(csL (atI ls l)).set k (((atI ls l).count (k:Int)+1:Nat):Int)=csL (atI ls (l++[(R:Int)])):=by rw[zkX,zeA hx];exact(ziB _ hk).symm
  have e2:sqL (atI ls l)+2*(atI ls l).count (k:Int)+1=sqL (atI ls (l++[(R:Int)])):=by rw[zkX,zeA hx];exact(zjc _ _).symm
  have e3:(csL (atI ls ((R:Int)::l'))).set k ((atI ls l').count (k:Int):Int)=csL (atI ls l'):=by rw[zeA hx];exact zqQ hk _
  have e4:sqL (atI ls l')+2*(atI ls l').count (k:Int)+1=sqL (atI ls ((R:Int)::l')):=by rw[zeA hx];exact(zjb _ _).symm
  have e5:(csL (atI ls ((R:Int)::l')))[k]?=some (((atI ls l').count (k:Int)+1:Nat):Int):=by rw[zhP _ hk,zeA hx,List.count_cons_self]
  have hadd:=fun (G':Hp) (hG':G.Le G')=>zsr (pre:=[]) (k:=0) (b:=b) (T:=314) (post:=zkw ls ((R:Int)::l')) rfl (cl:=cl) (va:=va) (vn:=0) (vc:=vc) (hv.mono (hG.trans hG')) (n:=l.length) oM hx hk (cs:=csL (atI ls l)) (zbP _) (zhP _ hk) oM (sq:=sqL (atI ls l)) oM (q:=0);have hdrop:=fun (G':Hp) (hG':G.Le G')=>zqX (pre:=zkw ls (l++[(R:Int)])) (k:=19) (b:=b) (T:=314) (post:=[]) (zat (zbP _)) (cl:=cl) (va:=va) (vn:=0) (vc:=vc) (hv.mono (hG.trans hG')) (n:=l'.length) oM hx hk (cs:=csL (atI ls ((R:Int)::l'))) (zbP _) e5 oM (sq:=sqL (atI ls l')) oM (q:=0);simp only[e1,e2]at hadd;simp only[e3,e4]at hdrop;have hl1:(l++[(R:Int)]).length=l.length+1:=by simp
  refine PW.body tO func248 rfl kR ntmps248 rfl rfl ?_;refine uR ?_;apply EV.drawn 5 kR kR;intro xv yw;(repeat (first|refine' DD ?_|refine' vN ?_|refine' vF ?_));(refine DJ.nil (fun G1 hG1 hF1=>?_);(case hS|hS2=>rfl));refine vW ([(b,314,zkw ls l++zkw ls ((R:Int)::l'))]) ([]) (hadd _ hG1) ?_;rintro v ow G2 ⟨rfl,rfl⟩ hG2;rw[←hl1];refine uR ?_;apply EV.drawn 5 kR kR;intro xv yw;(repeat (first|refine' DD ?_|refine' vN ?_|refine' vF ?_));(refine DJ.nil (fun G3 hG3 hF3=>?_);(case hS|hS2=>rfl));refine EVL.callW rfl rfl rfl rfl rfl ([(b,314,zkw ls (l++[(R:Int)])++(zay ((l'.length+1:Nat):Int) (csL (atI ls ((R:Int)::l'))) (sqL (atI ls ((R:Int)::l')):Nat) 0++[]))]) ([]) rfl (hdrop _ (hG1.trans (hG2.trans hG3))) ?_;rintro v ow G4 ⟨rfl,rfl⟩ hG4;refine uR ?_;refine⟨rfl,?_⟩;rw[qG];rfl
 ·exact zqn hk (zbP _) (by have:=hs l hn;omega) oM
 ·have h1:=hs l hl;have h3:=zby (l.length:Int);have h4:bl (l.length:Int).natAbs≤20:=za1 oM;have h6:=zby (sqL (atI ls l):Int);have h7:bl (sqL (atI ls l):Int).natAbs≤30:=za1 oM;have h5:=zeM ((sqL (atI ls l):Int):Rat) ((l.length:Int):Rat);unfold woL;omega
def zdv (key:Int→Rat) (least:Int) (m:List Int) (j:Nat):Bool:=decide (least≤((j+1:Nat):Int)) && decide (least≤((m.length-(j+1):Nat):Int)) && decide (key (m.getD j 0)<key (m.getD (j+1) 0))
def zfv (wo:List Int→Rat) (m:List Int) (j:Nat):Rat:=wo (m.take (j+1))+wo (m.drop (j+1))
def zeu (key:Int→Rat) (m:List Int) (j:Nat):Rat:=(key (m.getD j 0)+key (m.getD (j+1) 0)) / 2
def zdl (key:Int→Rat) (wo:List Int→Rat) (least:Int) (m:List Int):Nat→Option (Rat × Rat)
 | 0=>none
 | j+1=>if zdv key least m j=true then (match zdl key wo least m j with
  | none=>some (zeu key m j,zfv wo m j)
  | some (a,w)=>if w<zfv wo m j then some (zeu key m j,zfv wo m j) else some (a,w)) else zdl key wo least m j
def stA:Option (Rat × Rat)→Rat
 | none=>0
 | some (a,_)=>a
def stW:Option (Rat × Rat)→Rat
 | none=>0
 | some (_,w)=>w
theorem zk8 {key:Int→Rat} {wo:List Int→Rat} {least:Int} {m:List Int} {j:Nat} (h:zdv key least m j=false):zdl key wo least m (j+1)=zdl key wo least m j:=by
 rw[zdl,h,if_neg (by decide)]
theorem zm9 {key:Int→Rat} {wo:List Int→Rat} {least:Int} {m:List Int} {j:Nat} (h:zdv key least m j=true) (h0:zdl key wo least m j=none):zdl key wo least m (j+1)=some (zeu key m j,zfv wo m j):=by
 rw[zdl,h,if_pos rfl,h0]
theorem zoE {key:Int→Rat} {wo:List Int→Rat} {least:Int} {m:List Int} {j:Nat} {a w:Rat} (h:zdv key least m j=true) (h0:zdl key wo least m j=some (a,w)) (hw:w<zfv wo m j):zdl key wo least m (j+1)=some (zeu key m j,zfv wo m j):=by
 rw[zdl,h,if_pos rfl,h0];exact if_pos hw
theorem zoD {key:Int→Rat} {wo:List Int→Rat} {least:Int} {m:List Int} {j:Nat} {a w:Rat} (h:zdv key least m j=true) (h0:zdl key wo least m j=some (a,w)) (hw:¬w<zfv wo m j):zdl key wo least m (j+1)=zdl key wo least m j:=by
 rw[zdl,h,if_pos rfl,h0];exact if_neg hw
theorem zul {S S':List Value} {n:Int} (hl:S.length=19) (h:(S.drop 0).take 1=[.int .i64 n]):((S++S').drop (0+0+0)).take 1=[.int .i64 n]:=by
 rw[List.drop_append_of_le_length oM,List.take_append_of_le_length (by rw[qu];omega)];exact h
theorem ztv {S S':List Value} {n:Int} (hl:S.length=19) (h:(S'.drop 0).take 1=[.int .i64 n]):((S++S').drop (0+19+0)).take 1=[.int .i64 n]:=by
 rw[show 0+19+0=19 from rfl,List.drop_left' hl];exact h
def zrZ (X:List (List Rat)) (wo:List Int→Rat) (rs:List Int) (least col:Int) (o:Option (Rat × Rat)):Prop:=∃m,zm0 X col rs m∧o=zdl (zbv X col) wo least m (m.length-1)∧ht (stW o)≤200001
theorem zsi {key:Int→Rat} {wo:List Int→Rat} {least:Int} {m:List Int} {B:Nat} (h:∀j,j<m.length→ht (zfv wo m j)≤B) (hB:1≤B):∀j,j≤m.length→ht (stW (zdl key wo least m j))≤B
 | 0,_=>by show ht 0≤B;rw[zb9];exact hB
 | j+1,hj=>by
  have ih:=zsi (key:=key) (least:=least) h hB j oM;have h1:=h j oM;unfold zdl;split
  ·split
   ·exact h1
   ·split
    ·exact h1
    ·rename_i h2 _;rw[h2]at ih;exact ih
  ·exact ih
theorem ziT {a b:Rat}:zb4 a b≥0↔¬a<b:=by
 unfold zb4;split
 ·rename_i h;constructor
  ·intro k;omega
  ·intro k;exact absurd h k
 ·rename_i h;constructor
  ·intro _;exact h
  ·intro _;split <;> omega
theorem zeV {a b:Rat}:zb4 a b>0↔b<a:=by
 unfold zb4;split
 ·rename_i h;constructor
  ·intro k;omega
  ·intro k;exact absurd (Rat.le_of_lt h) (Rat.not_le.2 k)
 ·split
  ·rename_i h;exact⟨fun _=>h,fun _=>by omega⟩
  ·rename_i h;exact⟨fun k=>by omega,fun k=>absurd k h⟩
theorem zt7:∀{l:List Int},l.length=12→∃c0 c1 c2 c3 c4 c5 c6 c7 c8 c9 c10 c11,l=[c0,c1,c2,c3,c4,c5,c6,c7,c8,c9,c10,c11]
 | [c0,c1,c2,c3,c4,c5,c6,c7,c8,c9,c10,c11],_=>⟨_,_,_,_,_,_,_,_,_,_,_,_,rfl⟩
theorem zoF {H:Hp} {kd cl:Int} {sl sv vx vr:Value} {X:List (List Rat)} {S:List Int→List Value} {wo:List Int→Rat} {rs:List Int} {col least:Int} (hg:GOk H kd cl sl sv X.length S wo) (hX:QLL H vx X) (hr:IL H vr rs) (hn:rs.length≤20) (hrs:∀r,r∈rs→0≤r∧r<(X.length:Int)) (hb:∀x,x∈X→∀q,q∈x→ht q≤100) :
  PC prog 217 #[zas kd cl sl sv,vx,vr,.int .i64 col,.int .i64 least] H fun r _=>∃o,zrZ X wo rs least col o∧r=.tuple #[zaf (stA o),zaf (stW o),.bool o.isSome]:=by
 have hsorted:=zp2 (col:=col) hX hr hn hrs (fun x hx q hq=>zaQ (hb x hx q hq) oM);obtain⟨xa,xc,rfl⟩:=hX.val;obtain⟨ra,rc,rfl⟩:=SlC.val hr;refine BD func217 ntmps217 ?_;refine uR ?_;refine vA (hsorted) ?_;rintro r1 G1 ⟨m,hm,hsc⟩ hG1
 have hmr:∀r,r∈m→0≤r∧r<(X.length:Int):=by
  rcases hsc with ⟨_,hp,_⟩ | ⟨_,rfl⟩
  ·exact fun r hr=>hrs r (hp.mem_iff.1 hr)
  ·intro r hr;cases hr
 have hmn:m.length≤20:=by
  rcases hsc with ⟨_,hp,_⟩ | ⟨_,rfl⟩
  ·rw[hp.length_eq];exact hn
  ·decide
 have hmh:∀r,r∈m→zcL X col r=true:=by
  rcases hsc with ⟨ha,hp,_⟩ | ⟨_,rfl⟩
  ·exact fun r hr=>List.all_eq_true.1 ha r (hp.mem_iff.1 hr)
  ·intro r hr;cases hr
 obtain⟨ma,mc,rfl⟩:=SlC.val hm;have hwh:=hg.whole G1 hG1 _ m hm oM hmr;have hlS:=hg.len m;refine uR ?_;refine vA (hwh) ?_;rintro r2 G2 rfl hG2;obtain⟨sn,scs,ssq,sq,hs12,hS⟩:=hg.form m;obtain⟨c0,c1,c2,c3,c4,c5,c6,c7,c8,c9,c10,c11,rfl⟩:=zt7 hs12;rw[hS];refine uR ?_;(first|refine EVL.unbox (14) rfl fun b=>?_|refine EV.unbox (14) rfl fun b=>?_);(first|refine EVL.swapOw ([(b,314,S (m.take 0)++S (m.drop 0))]) ([]) ((by rw[List.take_zero,List.drop_zero,hg.zero,hS];rfl)) ?_|refine EV.swapOw ([(b,314,S (m.take 0)++S (m.drop 0))]) ([]) ((by rw[List.take_zero,List.drop_zero,hg.zero,hS];rfl)) ?_);have hX2:=hX.mono (hG1.trans hG2);have hm2:=hm.mono hG2;have hg2:=hg.mono (hG1.trans hG2);clear hS hwh hsorted
 have hsw:∀j,j<m.length→ht (zfv wo m j)≤200001:=fun j hj=>by
  have h1:=hg.small (m.take (j+1)) (by rw[qP];omega) (fun r hr=>hmr r (List.mem_of_mem_take hr));have h2:=hg.small (m.drop (j+1)) (by rw[qu];omega) (fun r hr=>hmr r (List.mem_of_mem_drop hr));have h3:=zdm (wo (m.take (j+1))) (wo (m.drop (j+1)));unfold zfv;omega
 have hst:=fun j (hj:j≤m.length)=>zsi (key:=zbv X col) (least:=least) hsw oM j hj;generalize hkey:zbv X col=key at *
 refine EV.loopK (ι:=Nat) [1,3,4,5,10,11,13,14] [5] (fun j=>[(12,.v (.bool (zdl key wo least m j).isSome)),(15,.v (.int .i64 ((j+1:Nat):Int)))]) (fun j=>[(10,50,zad (zaf (stA (zdl key wo least m j)))),(11,50,zad (zaf (stW (zdl key wo least m j))))]) (fun j=>[(b,314,S (m.take j)++S (m.drop j))]) (fun j _=>j≤m.length-1) (fun j=>m.length-j) (0) rfl rfl ⟨rfl,rfl,trivial⟩ ⟨by rw[show stA (zdl key wo least m 0)=0 from rfl,zaH];rfl,by rw[show stW (zdl key wo least m 0)=0 from rfl,zaH];rfl,trivial⟩ rfl (fun _=>rfl) (qQ _) ?_;rintro j G3 hG3 hj;refine uR ?_;refine EV.cond rfl (fun hlt=>?_) (fun hlt=>?_)
 ·simp only[nN]at hlt;obtain⟨r1,hr1⟩:∃r,m[j]?=some r:=⟨_,qA oM⟩;obtain⟨r2,hr2⟩:∃r,m[j+1]?=some r:=⟨_,qA hlt⟩;have hb1:=hmr r1 (qF hr1);have hb2:=hmr r2 (qF hr2);obtain⟨R1,C,x1,q1,rfl,hCC,hx1,hq1⟩:=zeg hb1.1 hb1.2 (hmh r1 (qF hr1));subst hCC;obtain⟨R2,C',x2,q2,rfl,hCC,hx2,hq2⟩:=zeg hb2.1 hb2.2 (hmh r2 (qF hr2));obtain rfl:C=C':=oM;obtain⟨vs,hvs,hs⟩:=hX2.mono hG3;obtain⟨a1,e1,hu1,hQ1⟩:=hvs.at hx1;obtain⟨a2,e2,hu2,hQ2⟩:=hvs.at hx2;have hs1:SlC G3 (.slice a1 x1.length e1) x1.length 5 (x1.flatMap fun q=>zad (zaf q)):=hQ1;have hs2:SlC G3 (.slice a2 x2.length e2) x2.length 5 (x2.flatMap fun q=>zad (zaf q)):=hQ2;have hm3:=hm2.mono hG3;have hl1:=(qE.1 hq1).1;have hl2:=(qE.1 hq2).1;have hXl1:R1<X.length:=oM;have hXl2:R2<X.length:=oM;have hjl:j<m.length:=oM;have hk1:key (m.getD j 0)=q1:=by rw[qB,hr1,←hkey];exact zeb rfl rfl hx1 hq1
  have hk2:key (m.getD (j+1) 0)=q2:=by rw[qB,hr2,←hkey];exact zeb rfl rfl hx2 hq2
  have hqb1:=hb x1 (qF hx1) q1 (qF hq1);have hqb2:=hb x2 (qF hx2) q2 (qF hq2);have wj:IntKind.i64.wrap (((j+1:Nat):Int)-1)=(j:Int):=by rw[pM];omega
  have wn:IntKind.i64.wrap (((j+1:Nat):Int)+1)=((j+1+1:Nat):Int):=zac (j+1) oM;have hdrop:m.drop j=(R1:Int)::m.drop (j+1):=zf2 hr1;have htake:m.take (j+1)=m.take j++[(R1:Int)]:=zam hr1;have hmove:=fun (G':Hp) (hG':G3.Le G')=>hg2.move G' (hG3.trans hG') b (m.take j) (m.drop (j+1)) (R1:Int) (by rw[qP,qu];omega) (by rw[←hdrop,List.take_append_drop];exact hmr);rw[←hdrop,←htake]at hmove;have htl:(m.take (j+1)).length=j+1:=by rw[qP];omega
  have hdl:(m.drop (j+1)).length=m.length-(j+1):=qu;have hf1:=hg.first (m.take (j+1));have hf2:=hg.first (m.drop (j+1));rw[htl]at hf1;rw[hdl]at hf2;have hS1:=hg.len (m.take (j+1));have hS2:=hg.len (m.drop (j+1));have hcmp:=zdw q1 q2 (zaQ hqb1 oM) (zaQ hqb2 oM);refine uR ?_;apply EV.drawn 6 kR kR;intro xv yw;(repeat refine' DD ?_);refine' DJ.ofVal (zaa.idx1 tO rfl rfl rfl rfl rfl rfl rfl rfl (hm3) (j) (wj) (hjl) ((by rw[qK,hr1];rfl))) rfl rfl rfl ?_;rotate_left;(repeat refine' DD ?_);(refine DJ.nil (fun G4 hG4 hF4=>?_);(case hS|hS2=>rfl));refine vW ([(b,314,S (m.take j)++S (m.drop j))]) ([]) (hmove G4 hG4) ?_;rintro v ow G5 ⟨rfl,rfl⟩ hG5;have hm5:=hm3.mono (hG4.trans hG5);have hs5:=hs.mono (hG4.trans hG5);have hs15:=hs1.mono (hG4.trans hG5);have hs25:=hs2.mono (hG4.trans hG5);refine uR ?_;apply EV.drawn 24 kR kR;intro xv yw;(repeat refine' DD ?_);refine' DJ.ofVal (zaa.idx1 tO rfl rfl rfl rfl rfl rfl rfl rfl (hm5) (j) (wj) (hjl) ((by rw[qK,hr1];rfl))) rfl rfl rfl ?_;rotate_left;(repeat refine' DD ?_);refine' vJ (hs5) (R1) (rfl) (hXl1) (hu1) ?_;rotate_left;(repeat refine' DD ?_);refine' DJ.idxM tO rfl rfl rfl rfl rfl rfl rfl rfl rfl (hs15) (C) (rfl) (hl1) (QL.at (H:=H) (v:=.bool true) hq1) ?_;rotate_left;(repeat refine' DD ?_);refine' vJ (hm5) (j+1) (rfl) (hlt) ((by rw[qK,hr2];rfl)) ?_;rotate_left;(repeat refine' DD ?_);refine' vJ (hs5) (R2) (rfl) (hXl2) (hu2) ?_;rotate_left;(repeat refine' DD ?_);refine' DJ.idxM tO rfl rfl rfl rfl rfl rfl rfl rfl rfl (hs25) (C) (rfl) (hl2) (QL.at (H:=H) (v:=.bool true) hq2) ?_;rotate_left;(repeat refine' DD ?_);(refine DJ.nil (fun G6 hG6 hF6=>?_);(case hS|hS2=>rfl));refine uR ?_;refine RP ?_;refine EVL.loadOwn tO rfl rfl rfl rfl rfl rfl (0) rfl (zul hS1 hf1) rfl rfl ?_;refine uR ?_;have hcand:zdv key least m j=(decide (least≤((j+1:Nat):Int)) && decide (least≤((m.length-(j+1):Nat):Int)) && decide (q1<q2)):=by unfold zdv;rw[hk1,hk2]
  by_cases h1:((j+1:Nat):Int)<least
  ·have hno:zdl key wo least m (j+1)=zdl key wo least m j:=zk8 (by rw[hcand,qC (show ¬least≤((j+1:Nat):Int) by omega)];rfl);rw[qD h1];refine uR ?_;refine⟨j+1,⟨by rw[hno];rfl,by rw[wn];rfl,trivial⟩,sB,⟨by rw[hno];rfl,by rw[hno];rfl,trivial⟩,sB,rfl,by omega,hG4.trans (hG5.trans hG6),by omega⟩
  ·rw[qC h1];refine uR ?_;refine RP ?_;refine EVL.loadOwn tO rfl rfl rfl rfl rfl rfl (0) rfl (ztv hS1 hf2) rfl rfl ?_;refine uR ?_;by_cases h2:((m.length-(j+1):Nat):Int)<least
   ·have hno:zdl key wo least m (j+1)=zdl key wo least m j:=zk8 (by rw[hcand,qC (show ¬least≤((m.length-(j+1):Nat):Int) by omega),Bool.and_false];rfl);rw[qD h2];refine uR ?_;refine⟨j+1,⟨by rw[hno];rfl,by rw[wn];rfl,trivial⟩,sB,⟨by rw[hno];rfl,by rw[hno];rfl,trivial⟩,sB,rfl,by omega,hG4.trans (hG5.trans hG6),by omega⟩
   ·rw[qC h2]
    repeat (first|refine RUN ?_|refine CV (hcmp) ?_|refine CE (hcmp) ?_)
    by_cases h3:q1<q2
    ·have hc:zdv key least m j=true:=by rw[hcand,qD (show least≤((j+1:Nat):Int) by omega),qD (show least≤((m.length-(j+1):Nat):Int) by omega),qD h3];rfl
     have hmid:zeu key m j=(q1+q2) / 2:=by unfold zeu;rw[hk1,hk2]
     have hr1':=fun r hr=>hmr r (List.mem_of_mem_take (i:=j+1) hr);have hr2':=fun r hr=>hmr r (List.mem_of_mem_drop (i:=j+1) hr);have hw1:=fun G':Hp=>hg2.worth G' b 0 314 [] (S (m.drop (j+1))) (m.take (j+1)) rfl oM hr1';have hw2:=fun G':Hp=>hg2.worth G' b 19 314 (S (m.take (j+1))) [] (m.drop (j+1)) hS1 oM hr2';simp only[qG]at hw2;have hsm1:=hg.small (m.take (j+1)) oM hr1';have hsm2:=hg.small (m.drop (j+1)) oM hr2';have hadd:=zez (wo (m.take (j+1))) (wo (m.drop (j+1))) (zaQ hsm1 oM) (zaQ hsm2 oM);have hmv:=zpa q1 q2 oM oM;have hws:=hsw j oM;have hwst:=hst j oM;rw[show wo (m.take (j+1))+wo (m.drop (j+1))=zfv wo m j from rfl]at hadd;rw[←hmid]at hmv;rw[qC (fun h=>absurd h3 (ziT.1 h))];refine uR ?_;apply EV.drawn 10 kR kR;intro xv yw;(repeat (first|refine' DD ?_|refine' vN ?_|refine' vF ?_));(refine' DJ.callR rfl rfl rfl rfl rfl 0 rfl (by simp[hS1,hS2]) (cO func79) (fun G'=>hw1 G') ?_;rotate_left);(repeat (first|refine' DD ?_|refine' vN ?_|refine' vF ?_));(refine' DJ.callR rfl rfl rfl rfl rfl 0 rfl (by simp[hS1,hS2]) (cO func79) (fun G'=>hw2 G') ?_;rotate_left);(repeat (first|refine' DD ?_|(refine' DC (hadd) (h:=?_);rotate_left)));(refine DJ.nil (fun G7 hG7 hF7=>?_);(case hS|hS2=>rfl));refine uR ?_;have hcmp2:=zdw (zfv wo m j) (stW (zdl key wo least m j)) (zaQ hws oM) (zaQ hwst oM)
     cases hst0:zdl key wo least m j with
     | none =>
      have hyes:=zm9 (wo:=wo) hc hst0;rw[hst0]at hcmp2;refine uR ?_;apply EV.drawnK [1,3,4,5,10,11,13,14,15,16,17,18] [10,11] [5,16,17,18] 5 rfl rfl rfl rfl kR kR;intro xv yw;(repeat (first|refine' DD ?_|(refine' DC (hmv) (h:=?_);rotate_left)));(refine DJ.nil (fun G8 hG8 hF8=>?_);(case hS|hS2=>rfl);(case hD=>rfl));refine uR ?_;refine⟨j+1,⟨by rw[hyes];rfl,by rw[wn];rfl,trivial⟩,sB,⟨by rw[hyes];rfl,by rw[hyes];rfl,trivial⟩,sB,rfl,by omega,hG4.trans (hG5.trans (hG6.trans (hG7.trans hG8))),by omega⟩
     | some p =>
      obtain⟨pa,pw⟩:=p;rw[hst0]at hcmp2
      repeat (first|refine RUN ?_|refine CV (hcmp2) ?_|refine CE (hcmp2) ?_)
      by_cases h4:pw<zfv wo m j
      ·have hyes:=zoE (wo:=wo) hc hst0 h4;rw[qD (show zb4 (zfv wo m j) (stW (some (pa,pw)))>0 from zeV.2 h4)];refine uR ?_;apply EV.drawnK [1,3,4,5,10,11,13,14,15,16,17,18] [10,11] [5,16,17,18] 5 rfl rfl rfl rfl kR kR;intro xv yw;(repeat (first|refine' DD ?_|(refine' DC (hmv) (h:=?_);rotate_left)));(refine DJ.nil (fun G8 hG8 hF8=>?_);(case hS|hS2=>rfl);(case hD=>rfl));refine uR ?_;refine⟨j+1,⟨by rw[hyes];rfl,by rw[wn];rfl,trivial⟩,sB,⟨by rw[hyes];rfl,by rw[hyes];rfl,trivial⟩,sB,rfl,by omega,hG4.trans (hG5.trans (hG6.trans (hG7.trans hG8))),by omega⟩
      ·have hno:=(zoD (wo:=wo) hc hst0 h4).trans hst0;rw[qC (show ¬zb4 (zfv wo m j) (stW (some (pa,pw)))>0 from fun h=>h4 (zeV.1 h))];refine uR ?_;refine⟨j+1,⟨by rw[hno];rfl,by rw[wn];rfl,trivial⟩,sB,⟨by rw[hno];rfl,by rw[hno];rfl,trivial⟩,sB,rfl,by omega,hG4.trans (hG5.trans (hG6.trans hG7)),by omega⟩
    ·have hno:zdl key wo least m (j+1)=zdl key wo least m j:=zk8 (by rw[hcand,qC h3,Bool.and_false]);rw[qD (ziT.2 h3)];refine uR ?_;refine⟨j+1,⟨by rw[hno];rfl,by rw[wn];rfl,trivial⟩,sB,⟨by rw[hno];rfl,by rw[hno];rfl,trivial⟩,sB,rfl,by omega,hG4.trans (hG5.trans hG6),by omega⟩
 ·simp only[nN]at hlt;obtain rfl:j=m.length-1:=oM;have hfh:=hst (m.length-1) oM;generalize hfin:zdl key wo least m (m.length-1)=fin at *
  refine uR ?_;refine EVA.start kR ?_;refine EVA.val tO (2) rfl kR kR kR rfl rfl rfl rfl rfl ?_;refine EVA.two 0 1 kR rfl rfl ?_ ?_
  ·(try refine zex ?_);refine EVL.nil ⟨rfl,?_⟩;refine EVA.two 1 3 kR rfl rfl ?_ ?_
   ·(try refine zex ?_);refine EVL.nil ⟨rfl,?_⟩;refine EVA.one 3 kR rfl ?_
    (try refine zex ?_);refine EVL.nil ⟨rfl,?_⟩;refine EVA.one 4 kR rfl ?_
    (try refine zex ?_);refine EVL.nil ⟨rfl,?_⟩;refine EVA.one 5 kR rfl ?_
    (try refine zex ?_);refine EVL.nil ⟨rfl,?_⟩;refine EVA.nil kR ?_;refine uR ?_;exact⟨fin,⟨m,hsc,by rw[hkey];exact hfin.symm,hfh⟩,rfl⟩
   ·(try refine zex ?_);refine EVL.nil ⟨rfl,?_⟩;refine EVA.one 1 kR rfl ?_
    (try refine zex ?_);refine EVL.nil ⟨rfl,?_⟩;refine EVA.one 4 kR rfl ?_
    (try refine zex ?_);refine EVL.nil ⟨rfl,?_⟩;refine EVA.one 5 kR rfl ?_
    (try refine zex ?_);refine EVL.nil ⟨rfl,?_⟩;refine EVA.nil kR ?_;refine uR ?_;exact⟨fin,⟨m,hsc,by rw[hkey];exact hfin.symm,hfh⟩,rfl⟩
  ·(try refine zex ?_);refine EVL.nil ⟨rfl,?_⟩;refine EVA.one 0 kR rfl ?_
   (try refine zex ?_);refine EVL.nil ⟨rfl,?_⟩;refine EVA.one 3 kR rfl ?_
   (try refine zex ?_);refine EVL.nil ⟨rfl,?_⟩;refine EVA.one 4 kR rfl ?_
   (try refine zex ?_);refine EVL.nil ⟨rfl,?_⟩;refine EVA.one 5 kR rfl ?_
   (try refine zex ?_);refine EVL.nil ⟨rfl,?_⟩;refine EVA.nil kR ?_;refine uR ?_;exact⟨fin,⟨m,hsc,by rw[hkey];exact hfin.symm,hfh⟩,rfl⟩
end
section
open Go.RowKit Go.Shelf
attribute [local go_sem] Oper.semAt_some
def zep {α:Type} (f:Nat→α) (k:Nat):List α:=(List.range k).map f
theorem zim {α:Type} (f:Nat→α) (k:Nat):zep f (k+1)=zep f k++[f k]:=by simp[zep,List.range_succ]
theorem zkG {α:Type} (f:Nat→α) (k:Nat):(zep f k).length=k:=by simp[zep]
theorem zqg (zs:List Int):zep (fun j=>zs[j]?.getD 0) zs.length=zs:=by
 apply List.ext_getElem
 ·simp[zep]
 ·intro i h1 h2;simp[zep,h2]
theorem zoe (zs:List Int) {k:Nat} (hk:k≤zs.length):zep (fun j=>zs[j]?.getD 0) k=zs.take k:=by
 apply List.ext_getElem
 ·simp[zep,hk]
 ·intro i h1 h2;have:i<zs.length:=by simp[zep]at h1;omega
  simp[zep,this]
set_option maxRecDepth 100000 in
theorem zof (F:Fence) (n:Nat) (h7:F.fn 246) (hro:F.round=none) (hn:1≤n) (l Bs n₀ b off len cap:Nat) (zs:List Int) (hreach:len*8≤140737488351232) (hb:b<n₀) (J Jx:List Int→World→Prop)
  (hY:∀pre x W,J pre W→pre.length<len→YieldAt F (n-1) Tryz.prog l #[.int .i64 x] W fun e W' =>
   (e=.returned (.bool true)∧J (pre++[x]) W'∧Below n₀ W W')∨(e=.returned (.bool false)∧Jx (pre++[x]) W'))
  (W:World) (hBs:W.cell? ⟨Bs,0,none⟩=some (.slice (some ⟨b,off,none⟩) len cap)) (hc:∀j,j<len→W.cell? ⟨b,off+j,none⟩=some (.int .i64 (zs[j]?.getD 0))) (h0:J [] W) :
  CallsIn F n Tryz.prog 246 #[.func (.yield l) #[] #[],.pointer (some ⟨Bs,0,none⟩)] W fun e W'=>(∃v,e=.returned v) ∧
   ((∃ys,ys=zep (fun j=>zs[j]?.getD 0) len∧J ys W')∨(∃pre,(∃k,k≤len∧pre=zep (fun j=>zs[j]?.getD 0) k)∧Jx pre W')):=by
 refine callsIn_of_wp Tryz.func246 rfl h7 ?_ hro;simp only[Tryz.ntmps246,List.size_toArray,qR,qi,Nat.reduceAdd,Nat.reduceSub,Array.replicate_succ,Array.replicate_zero,List.push_toArray,List.append_toArray,pO,List.cons_append]
 gi_wp2
 gi_loopw [7] (fun i wr=>∃k:Nat,k≤len∧i=.int .i64 k∧J (zep (fun j=>zs[j]?.getD 0) k) wr∧Below n₀ W wr)
  (fun i _=>len-(intOf i).toNat)
 case atStart=>exact⟨0,qQ _,rfl,h0,Below.refl _ _⟩
 case round =>
  obtain⟨k,hk,rfl,hJs,hnx⟩:=hrel;have hcx:k<len→wr.cell? ⟨b,off+k,none⟩=some (.int .i64 (zs[k]?.getD 0)):=fun h=>(hnx.cell (p:=⟨b,off+k,none⟩) hb).trans (hc k h);by_cases hlt:k<len
  ·obtain⟨fn,tmps,assign,body,hy,hR⟩:=hY _ (zs[k]?.getD 0) wr hJs (by rw[zkG];exact hlt);have hcx':=hcx hlt
   gi_wp2;refine hR.mono ?_;rintro e W3 (⟨rfl,hJ3,hk3⟩ | ⟨rfl,hJx3⟩)
   ·gi_wp2
    go_roundw
    case rel=>exact⟨k+1,by omega,by simp,by rw[zim];exact hJ3,hnx.trans hk3⟩
    case measure=>simp[intOf];omega
   ·gi_wp2;refine bodyPost_ret (results_none rfl _ _ _) rfl ?_;exact⟨⟨_,rfl⟩,.inr ⟨_,⟨k+1,by omega,(zim _ _).symm⟩,hJx3⟩⟩
  ·obtain rfl:k=len:=oM
   gi_wp2
   go_end0;exact⟨⟨_,rfl⟩,.inl ⟨_,rfl,hJs⟩⟩
set_option maxRecDepth 100000 in
theorem zd5 (F:Fence) (n:Nat) (h7:F.fn 246) (hro:F.round=none) (l Bs:Nat) (a:Option Addr) (cap:Nat) (J:List Int→World→Prop) (W:World) (hBs:W.cell? ⟨Bs,0,none⟩=some (.slice a 0 cap)) (h0:J [] W) :
  CallsIn F n Tryz.prog 246 #[.func (.yield l) #[] #[],.pointer (some ⟨Bs,0,none⟩)] W fun e W'=>(∃v,e=.returned v)∧J [] W':=by
 refine callsIn_of_wp Tryz.func246 rfl h7 ?_ hro;simp only[Tryz.ntmps246,List.size_toArray,qR,qi,Nat.reduceAdd,Nat.reduceSub,Array.replicate_succ,Array.replicate_zero,List.push_toArray,List.append_toArray,pO,List.cons_append]
 gi_wp2
 gi_loopw [7] (fun i wr=>i=.int .i64 0∧J [] wr) (fun _ _=>0)
 case atStart=>exact⟨rfl,h0⟩
 case round =>
  obtain⟨rfl,hJs⟩:=hrel
  gi_wp2
  go_end0;exact⟨⟨_,rfl⟩,hJs⟩
theorem zkK (F:Fence) (n:Nat) (h7:F.fn 246) (hro:F.round=none) (hn:1≤n) (Bs n₀:Nat) (sv:Value) (zs:List Int) (hreach:zs.length*8≤140737488351232) (w:World) (hBs:Bs<w.heap.size) (hn₀:n₀≤w.heap.size)
  (hc:w.cell? ⟨Bs,0,none⟩=some sv) (hI:Sl i64 w sv zs) (hlow:∀b off len cap,sv=.slice (some ⟨b,off,none⟩) len cap→zs≠[]→b<n₀) :
  SeqStopsK F n Tryz.prog 246 #[.pointer (some ⟨Bs,0,none⟩)] (fun x:Int=>#[Value.int .i64 x]) (Below n₀) (fun ys=>ys=zs) (fun pre=>pre <+: zs) zs.length w:=fun l J Jx W hW _ _ hY h0=>by
 have hc':=(hW.cell (p:=⟨Bs,0,none⟩) hBs).trans hc;rcases hI.below hW with ⟨rfl,a,cap,rfl⟩ | ⟨b,off,cap,rfl,hb,hcs⟩
 ·exact(zd5 F n h7 hro l Bs a cap J W hc' h0).mono fun e W' ⟨he,hj⟩=>⟨he,.inl ⟨_,rfl,hj⟩⟩
 ·by_cases hz:zs=[]
  ·subst hz;exact(zd5 F n h7 hro l Bs _ cap J W hc' h0).mono fun e W' ⟨he,hj⟩=>⟨he,.inl ⟨_,rfl,hj⟩⟩
  ·refine(zof F n h7 hro hn l Bs n₀ b off zs.length cap zs hreach (hlow _ _ _ _ rfl hz) J Jx hY W hc' (fun j hj=>by rw[hcs j hj];simp[hj]) h0).mono ?_;rintro e W' ⟨he,⟨ys,rfl,hj⟩ | ⟨pre,⟨k,hk,rfl⟩,hj⟩⟩
   ·exact⟨he,.inl ⟨_,zqg zs,hj⟩⟩
   ·exact⟨he,.inr ⟨_,by rw[zoe zs hk];exact List.take_prefix _ _,hj⟩⟩
theorem Tryz.infoInt':(Tryz.prog.info? 3).map (fun i=>(i.zero,i.size,i.bytes))=some (some (.int .i64 0),1,8):=by kernel_rfl
set_option maxRecDepth 100000 in
theorem zju (F:Fence) (n:Nat) (h3:F.fn 256) (h5:F.fn 246) (hro:F.round=none) (hn:3≤n) (Bs:Nat) (sv:Value) (xs:List Int) (hbytes:xs.length*8≤140737488351232) (w:World)
  (hBs:Bs<w.heap.size) (hc0:w.cell? ⟨Bs,0,none⟩=some sv) (hI:Sl i64 w sv xs) :
  CallsIn F n Tryz.prog 256 #[.slice none 0 0,.func (.func 246) #[] #[.pointer (some ⟨Bs,0,none⟩)]] w fun e W'=>∃v,e=.returned v∧W'.ownsRow w.heap.size 3 1 v xs.length (xs.map (Value.int .i64))∧(v=.slice none 0 0↔xs=[])∧Below w.heap.size w W':=by
 have h1:1≤n:=oM;obtain⟨i0,hi,hz0,hz1,hz2⟩:=info_parts Tryz.infoInt';refine callsIn_of_wp_marks Tryz.func256 rfl h3 ?_ hro;simp only[Tryz.ntmps256,List.size_toArray,qR,qi,Nat.reduceAdd,Nat.reduceSub,Array.replicate_succ,Array.replicate_zero,List.push_toArray,List.append_toArray,pO,List.cons_append]
 gi_wp2;have bO:=Boxed.new w 22 (.slice none 0 0);have hB0:Below w.heap.size w (w.alloc (.cells #[.slice none 0 0] 22)):=(Below.refl _ w).alloc (qH _) _;have hmax:xs.length≤maxLen:=by unfold maxLen;omega
 refine wpIn_rangeFunc_ownG hro h1 (gf:=246) (lb:=#[.pointer (some ⟨Bs,0,none⟩)]) rfl h5 (enters_of Tryz.func246 kR rfl)
  (zkK F (n-1) h5 hro oM Bs w.heap.size sv xs hbytes _ (by simp;omega) (by simp) ((hB0.cell (p:=⟨Bs,0,none⟩) hBs).trans hc0) (hI.below hB0) (fun b off len cap e hne=>by
   rcases hI with ⟨hx,_⟩ | ⟨b',off',cap',e',hb',_⟩
   ·exact absurd hx hne
   ·rw[e']at e;cases e;exact hb')) belowK_t (belowK_b (by simp)) (Below.refl _ _) (fun _=>rfl)
  (fun pre W=>(∃v,Boxed W w.heap.size 22 v∧W.ownsRow w.heap.size 3 1 v pre.length (pre.map (Value.int .i64))∧(v=.slice none 0 0↔pre=[]))∧Below w.heap.size w W)
  (fun _ _ _=>False)
  (OwnFrom.and (Own.from (holdsRow_own w.heap.size w.heap.size 22 3 1 (fun pre=>pre.length) (fun pre=>pre.map (Value.int .i64)) (fun pre v=>v=.slice none 0 0↔pre=[])) _) (ownFrom_below (qH _) (by simp)))
  (fun _ _ _ _ _ hs _ _=>hs)
  ⟨⟨_,bO,World.ownsRow_nil _ _ _ _,by simp⟩,hB0⟩
  (fun x=>{ tmps:=#[.slice none 0 0,.func (.func 246) #[] #[.pointer (some ⟨Bs,0,none⟩)],.pointer (some ⟨w.heap.size,0,none⟩),undef,.slice none 0 0,.int .i64 x,.func (.func 246) #[] #[.pointer (some ⟨Bs,0,none⟩)],.int .i64 x,undef,undef,undef,undef,undef],defers:=[] }) ?assign ?body ?done ?stop
 case assign =>
  intro l x W K hK
  gi_wp2;exact hK
 case body =>
  rintro l pre x W ⟨⟨v,hv,hrow,hnil⟩,hB⟩ hlt;have hc:=hv.cell
  gi_wp2_with (gi_at_builtin;refine wpListIn_append_own _ rfl _ _ 22 rfl w.heap.size 3 i0 (.int .i64 0) 1 8 Tryz.underlying22 hi hz0 hz1 hz2 rfl (by decide) _ _ _ rfl (hrow.alloc _) ⟨W.heap.size,0,none⟩ 1 1 [.int .i64 x] rfl rfl (cell_one_new _ _ _) (by simp[Value.oneCell']) oM oM (by have:=hB.size;simp;omega) ?_;intro v' w1 hown' hgrow _;obtain⟨g',cap',rfl⟩:=ownsRow_succ hown';obtain⟨hv1,hv2,hr2,hk2,hb2⟩:=hv.appended (by decide) hrow hB.size (qH _) hown' hgrow;have hc1:=hv1.cell;have hf1:=hv1.frozen);exact⟨hk2.from _,hb2,⟨_,hv2,by simpa using hr2,by simp⟩,hB.trans hb2⟩
 case done =>
  rintro D ys W hD rfl ⟨⟨v,hv,hrow,hnil⟩,hB⟩ hK;have hc:=hv.cell
  gi_wp2;refine⟨by simp,.inl ⟨_,_,rfl,run_takeDeferred hK,?_⟩⟩;exact⟨_,results_tmp rfl _ _ _,v,rfl,ownsRow_putObj hrow _ hK rfl,hnil,hB.trans (belowK_b (w:=w) (qH _) W D _ _ (by simp at hD;omega) hK rfl rfl)⟩
 case stop =>
  rintro D c pre W _ _ h _;exact h.elim
end
section
open Go.RowKit Go.Shelf
attribute [local go_sem] Oper.semAt_some
end
section
open Go.RowKit _root_.Go.Proofs.Tryz
def nxt (s:Int):Int:=IntKind.u64.wrap (s+11400714819323198485)
def zu7 (z:Int):Int:=IntKind.u64.wrap (bits .xor .u64 z (z / 1073741824)*13787848793156543929)
def zu8 (z:Int):Int:=IntKind.u64.wrap (bits .xor .u64 z (z / 134217728)*10723151780598845931)
def zu9 (z:Int):Int:=bits .xor .u64 z (z / 2147483648)
def mix (z:Int):Int:=zu9 (zu8 (zu7 z))
def zu6 (n:Int):Int:=18446744073709551615-18446744073709551616 % n
def zu3 (s:Int):Int:=(-s*17428512612931826493) % 18446744073709551616
def left (s:Int):Nat:=(zu3 (nxt s)).toNat
def zos (n:Int):Nat→Int→Int × Int
 | 0,s=>(0,s)
 | k+1,s=>if mix (nxt s)≤zu6 n then (mix (nxt s) % n,nxt s) else zos n k (nxt s)
def below (n s:Int):Int × Int:=zos n (left s+1) s
def zqe (n:Nat):List Int:=(List.range n).map Int.ofNat
theorem zhp (n:Nat):(zqe n).length=n:=by simp[zqe]
theorem zqf (n:Nat):zqe (n+1)=zqe n++[(n:Int)]:=by simp[zqe,List.range_succ]
end
section
end
section
def zen (l:List Int):List Int:=l.mergeSort fun x y=>decide (x≤y)
theorem zfP (l:List Int):(zen l).length=l.length:=by simp[zen]
theorem zn2 (l:List Int):(zen l).Perm l:=List.mergeSort_perm _ _
theorem zkz (l:List Int):(zen l).Pairwise (·≤·):=by
 have:=List.pairwise_mergeSort (le:=fun x y:Int=>decide (x≤y)) (by intro a b c;simp;omega) (by intro a b;simp;omega) l;unfold zen;exact this.imp (by intro a b h;simpa using h)
end
section
open Go.RowKit Go.Shelf
theorem zk9 (Bs:Nat) (sv:Value) (xs:List Int) (hbytes:xs.length*8≤140737488351232) (w:World)
  (hBs:Bs<w.heap.size) (hc0:w.cell? ⟨Bs,0,none⟩=some sv) (hI:Sl i64 w sv xs) :
  Calls Tryz.prog 244 #[.func (.func 246) #[] #[.pointer (some ⟨Bs,0,none⟩)]] w fun e W'=>∃v,e=.returned v∧W'.ownsRow w.heap.size 3 1 v xs.length (xs.map (Value.int .i64))∧(v=.slice none 0 0↔xs=[])∧Below w.heap.size w W':=by
 go_enter Tryz.func244,Tryz.ntmps244
 go_wp2_with fail;refine((callsIn_wide (n:=3)).1 (zju Fence.wide 3 trivial trivial rfl oM Bs sv xs hbytes w hBs hc0 hI)).mono ?_;rintro e w1 ⟨v,rfl,hown,hnil,hb⟩;go_wp2
 go_ret;exact⟨v,rfl,hown,hnil,hb⟩
theorem zn3 (Bs:Nat) (sv:Value) (xs:List Int) (hbytes:xs.length*8≤140737488351232) (w:World)
  (hBs:Bs<w.heap.size) (hc0:w.cell? ⟨Bs,0,none⟩=some sv) (hI:Sl i64 w sv xs) :
  Calls Tryz.prog 215 #[.func (.func 246) #[] #[.pointer (some ⟨Bs,0,none⟩)]] w fun e W'=>∃v,e=.returned v∧W'.ownsRow w.heap.size 3 1 v xs.length ((zen xs).map (Value.int .i64))∧Below w.heap.size w W':=by
 go_enter Tryz.func215,Tryz.ntmps215
 go_wp2_with fail;refine(zk9 Bs sv xs hbytes w hBs hc0 hI).mono ?_;rintro e w1 ⟨v,rfl,hown,hnil,hb⟩;have HN:=hid hnil;clear hnil;rcases hown.2 with ⟨rfl,h0⟩ | ⟨g,cap,cur,rfl,hbase,hh,h1,h2,h3,h4⟩
 ·have hx:xs=[]:=HN.out.1 rfl;subst hx
  go_wp2_with fail;refine(Tryz.slices_Sort_int_none _ _ _).mono ?_;rintro e w2 ⟨rfl,rfl⟩;go_wp2
  go_ret;exact⟨.slice none 0 0,rfl,by simpa[zen] using hown,hb⟩
 ·have hH:=hid (holds_of_blockI hh (by simpa using h4));have H3:=hid h3;have H4:=hid h4;have HH:=hid hh;clear h3 h4 hh
  go_wp2_with fail;refine(Tryz.slices_Sort_int g 0 cap xs w1 hH.out (lt_of_block HH.out) oM).mono ?_;rintro e w2 ⟨rfl,nn,os,rfl⟩;have ho:=ownsRow_sortedI (n:=nn) (os:=os) (ss:=xs) (ts:=zen xs) (zfP xs) hbase HH.out h1 h2 H3.out;have hg:=grownBy_sortedI (w:=w1) (g:=g) (n:=nn) (os:=os) (zen xs).toArray;have hbb:=hb.grown hg hb.size (fun k e=>by cases e;exact hbase);have HO:=hid ho;clear ho;go_wp2
  go_ret;exact⟨_,rfl,HO.out,hbb⟩
end
section
def ztO (cols cs:List Int):Prop:=cs.Pairwise (·<·)∧∀c,c∈cs↔c∈cols
theorem zgw (zs:List Int) (h:zs.Pairwise (·≤·)):∀m,m≤zs.length→(Lib.compactUpTo zs.toArray m).Pairwise (·<·)∧∀c,c∈Lib.compactUpTo zs.toArray m↔c∈zs.take m
 | 0,_=>⟨List.Pairwise.nil,fun c=>by simp[Lib.compactUpTo]⟩
 | m+1,hm=>by
  obtain⟨h1,h2⟩:=zgw zs h m oM;have hlt:m<zs.length:=oM;have hg:zs.toArray[m]! = zs[m]:=by simp[hlt]
  have ht:zs.take (m+1)=zs.take m++[zs[m]]:=qS hlt;have hpw:=h;rw[←List.take_append_drop (m+1) zs,ht]at hpw;have hle:∀x,x∈zs.take m→x≤zs[m]:=fun x hx=>(List.pairwise_append.1 (List.pairwise_append.1 hpw).1).2.2 x hx _ (pL.2 rfl);rw[Lib.compactUpTo_succ];by_cases hk:Lib.keeps zs.toArray m=true
  ·rw[if_pos hk,hg,ht];refine⟨List.pairwise_append.2 ⟨h1,List.pairwise_singleton _ _,fun x hx y hy=>?_⟩,fun c=>?_⟩
   ·rw[pL.1 hy];have hx':=(h2 x).1 hx;have hle':=hle x hx';unfold Lib.keeps at hk;rw[decide_eq_true_eq]at hk;rcases hk with rfl | hne
    ·rw[List.take_zero]at hx';cases hx'
    ·have hm0:0<m:=by
      rcases pJ m with rfl | h0
      ·rw[List.take_zero]at hx';cases hx'
      ·exact h0
     have hp:zs.toArray[m-1]! = zs[m-1]:=by simp[show m-1<zs.length by omega]
     rw[hg,hp]at hne
     have htm:zs.take m=zs.take (m-1)++[zs[m-1]]:=by
      have:=qS (show m-1<zs.length by omega)
      rwa [Nat.sub_add_cancel hm0]at this
     have hpw2:=(List.pairwise_append.1 (List.pairwise_append.1 hpw).1).1;rw[htm]at hpw2 hx'
     have hxp:x≤zs[m-1]:=by
      rcases List.mem_append.1 hx' with hx' | hx'
      ·exact(List.pairwise_append.1 hpw2).2.2 x hx' _ (pL.2 rfl)
      ·rw[pL.1 hx'];exact Int.le_refl _
     have hpm:zs[m-1]≤zs[m]:=hle _ (by rw[htm];exact List.mem_append_right _ (pL.2 rfl));omega
   ·rw[List.mem_append,List.mem_append,h2 c]
  ·rw[if_neg hk,qG,ht];refine⟨h1,fun c=>?_⟩;unfold Lib.keeps at hk;rw[decide_eq_true_eq,not_or]at hk;have hm0:0<m:=oM;have hp:zs.toArray[m-1]! = zs[m-1]:=by simp[show m-1<zs.length by omega]
   rw[hg,hp]at hk;have he:zs[m]=zs[m-1]:=by have:=hk.2;omega
   have htm:zs.take m=zs.take (m-1)++[zs[m-1]]:=by
    have:=qS (show m-1<zs.length by omega)
    rwa [Nat.sub_add_cancel hm0]at this
   rw[h2 c,List.mem_append,pL,he];constructor
   ·exact .inl
   ·rintro (h | rfl)
    ·exact h
    ·rw[htm];exact List.mem_append_right _ (pL.2 rfl)
theorem zsE (cols:List Int):ztO cols (Lib.compact (zen cols)):=by
 have h:=zgw (zen cols) (zkz cols) (zen cols).length (qH _);refine⟨h.1,fun c=>?_⟩;have:=h.2 c;rw[qb]at this;exact this.trans (zn2 cols).mem_iff
end
section
open Go.RowKit _root_.Go.Proofs.Tryz
theorem zkt {H:Hp} (a:Option Addr) (len cap:Nat):PC prog 216 #[.slice a len cap] H fun r H'=>∃b,r=.func (.func 246) #[] #[.pointer (some ⟨b,0,none⟩)]∧H' b=some [Value.slice a len cap].toArray:=by
 refine BD func216 ntmps216 ?_;refine uR ?_;(first|refine EVL.unbox (1) rfl fun b=>?_|refine EV.unbox (1) rfl fun b=>?_);(first|refine EVL.publish [] [] rfl fun G1 hG1 hb=>?_|refine EV.publish [] [] rfl fun G1 hG1 hb=>?_);refine EVL.fn1 rfl rfl rfl rfl rfl ?_;refine uR ?_;exact⟨b,rfl,hb⟩
theorem zgY {W:World} {base:Nat} {e:TypeId} {size:Nat} {v:Value} {n:Nat} {xs:List Value} (h:W.ownsRow base e size v n xs):∃ow,zaL e size v n xs ow∧zop base W ow:=by
 obtain⟨h1,⟨rfl,rfl⟩ | ⟨g,cap,cur,rfl,hb,hh,hc,hm,hs,ht⟩⟩:=h
 ·exact⟨[],⟨h1,.inl ⟨rfl,rfl,rfl⟩⟩,by simp,fun b T cs h=>by cases h⟩
 ·have hcur:cur.toList=xs++cur.toList.drop (n*size):=by rw[←ht,List.take_append_drop]
  refine⟨[(g,e,xs++cur.toList.drop (n*size))],⟨h1,.inr ⟨g,cap,_,rfl,rfl,by rw[←hcur];simpa using hs,hc,hm⟩⟩,by simp,fun b T cs h=>?_⟩;rw[pL]at h;cases h;refine⟨hb,?_⟩;rw[←hcur];exact hh
theorem zp3 {H:Hp} {b:Nat} {sv:Value} {xs:List Int} (hB:H b=some [sv].toArray) (hs:IL H sv xs) (hl:xs.length≤1000000) :
  PO prog 215 #[.func (.func 246) #[] #[.pointer (some ⟨b,0,none⟩)]] H fun v ow=>zaL 3 1 v xs.length ((zen xs).map iv) ow:=by
 refine⟨(cO func215),fun W hf hg=>?_⟩;obtain⟨T,fz,hW⟩:=hf b _ hB;obtain⟨a,cap,rfl,hsl,_⟩:=hs.sl hf;have hlt:b<W.heap.size:=(Array.getElem?_eq_some_iff.1 hW).1;refine(zn3 b _ xs oM W hlt (by rw[cell_of_row W b 0 _ T fz hW];rfl) hsl).mono ?_;rintro e W' ⟨v,rfl,hown,hb⟩;obtain⟨ow,h1,h2⟩:=zgY hown;exact⟨v,ow,rfl,h1,h2,hb⟩
theorem zgx (zs:List Int):(Lib.compact zs).length≤zs.length:=by
 unfold Lib.compact Lib.compactUpTo;rw[qV];exact qI (List.length_filter_le _ _) (by simp)
theorem zna {H:Hp} {v:Value} {zs:List Int} {ow:Ows} (h:zaL 3 1 v zs.length (zs.map iv) ow) (hl:zs.length≤1000000) :
  PW prog 214 #[v] H ow fun r ow' _=>zaL 3 1 r (Lib.compact zs).length ((Lib.compact zs).map iv) ow':=by
 refine⟨(cO func214),fun W hf hg hL hd=>?_⟩;by_cases h0:zs.length=0
 ·obtain rfl:=pK.1 h0;obtain⟨a,cap,rfl⟩:=h.val;refine(Tryz.slices_Compact_int_empty a cap W).mono ?_;rintro e W' ⟨rfl,rfl⟩;exact⟨_,ow,H,rfl,h,Hp.Le.refl _,hf,Nw.refl _ _ _,za5.refl _ _,fun j b T cs hj=>⟨(hL j b T cs hj).1,.inr (Ows.bs_mem hj),(hL j b T cs hj).2.1⟩,hd⟩
 ·obtain⟨g,cap,sp,rfl,rfl,hlen,hle,hmax⟩:=h.block oM;obtain⟨hB,hHg,hgg⟩:=hL 0 g _ _ rfl;refine(Tryz.slices_Compact_int_cells g 0 zs.length cap zs W (qH _) oM hle (fun j hj=>?_) (fun j hj=>hB.free _)).mono ?_
  ·rw[hB.at (0+j)];rw[qv];simp[hj,List.getElem?_append]
  rintro e W' ⟨rfl,q,rfl⟩;rw[qb];have hcl:=zgx zs;generalize Lib.compact zs=cs at *
  have hB2:Box (W.drewN q) g (zs.map iv++sp).toArray 3:=hB;have hvl:((cs++List.replicate (zs.length-cs.length) 0).map (Value.int .i64)).length=zs.length:=by simp;omega
  have hB3:=Box.setCells ((cs++List.replicate (zs.length-cs.length) 0).map (Value.int .i64)) 0 (W.drewN q) _ hB2 (by rw[hvl];simp);have hk:=zbE g ((cs++List.replicate (zs.length-cs.length) 0).map (Value.int .i64)) 0 (W.drewN q);have hk2:za5 (fun k=>k=g) W ((W.drewN q).setCells g 0 ((cs++List.replicate (zs.length-cs.length) 0).map (Value.int .i64))):=⟨hk.os,hk.tape,hk.output,hk.size,hk.block⟩
  have hcells:(zs.map iv++sp).take 0++(cs++List.replicate (zs.length-cs.length) 0).map (Value.int .i64)++(zs.map iv++sp).drop (0+((cs++List.replicate (zs.length-cs.length) 0).map (Value.int .i64)).length)=cs.map iv++((List.replicate (zs.length-cs.length) 0).map iv++sp):=by
   rw[hvl,List.take_zero,pO,qv,List.drop_left' (by simp),qp];simp
  rw[hcells]at hB3;refine⟨_,[(g,3,cs.map iv++((List.replicate (zs.length-cs.length) 0).map iv++sp))],H,rfl,⟨by simp,.inr ⟨g,cap,_,rfl,rfl,?_,by omega,hmax⟩⟩,Hp.Le.refl _,fun b c hb=>?_,Nw.refl _ _ _,hk2.mono (fun k _ e=>by subst e;exact Ows.bs_mem (j:=0) rfl),fun j b T cs' hj=>?_,?_⟩
  ·rw[←hlen];simp;omega
  ·obtain⟨T,fz,hW⟩:=hf b c hb;refine⟨T,fz,?_⟩;rw[hk2.block b (hf.lt (by rw[hb];simp)) (fun e=>by subst e;rw[hHg]at hb;cases hb)];exact hW
  ·cases j with
   | zero=>cases (show some (g,3,cs.map iv++((List.replicate (zs.length-cs.length) 0).map iv++sp))=some (b,T,cs') from hj);exact⟨hB3,.inr (Ows.bs_mem (j:=0) rfl),hHg⟩
   | succ j=>simp at hj
  ·intro j j' b' T1 T2 c1 c2 h1 h2
   cases j with
   | zero=>cases j' with
    | zero=>rfl
    | succ j'=>simp at h2
   | succ j=>simp at h1
end
end Go.Proofs.YtifcjfodgicngaaGreatDoor
