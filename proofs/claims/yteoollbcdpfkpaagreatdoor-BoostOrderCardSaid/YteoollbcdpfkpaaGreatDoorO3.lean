/- Texts of ours in one: Fr1, Fr2, Fr3, Ha1, Ha2, Ls1, Ls2, Ls3, Fr4, NearP, NearQ, SimpP, SimpS, Lw1, Lw2, Str1, Lw3, Lw4, Simp, Simp2, Simp3, Simp4, Ls4, Ls5, Ls6, Gn1, Gn2, Gn3, Gn7, Ev22, Gn8, Gn4, Gn5, Gn9, Gn6, Ev23, Gn10, Gn11, Seq, Sorted, DicePlain, Lists, SortPlain, Asc, GnC, Gn12, Gn13, Gn14, GnR, GnS, GrP, GnT, GnV. -/
import Derived.Test.YteoollbcdpfkpaaGreatDoorO0
import Derived.Test.YteoollbcdpfkpaaGreatDoorO1
import Derived.Test.YteoollbcdpfkpaaGreatDoorO2
import Derived.Test.YteoollbcdpfkpaaGreatDoorProg
import Derived.RangeFuncBox
import Derived.RangeFuncLeaves
import Derived.Shelf.Abstract
import Derived.OwnWalkIn
import Derived.TacticsInMore
import Derived.LoopNIn
import Derived.LoopIn
import Derived.Maps.AppendAt
import Derived.Test.YteoollbcdpfkpaaGreatDoorRows
import Derived.WalkKit
import Derived.Sort.OwnSortedInts
import Derived.Lib.SlicesCompact
set_option linter.unusedVariables false
set_option linter.unusedSimpArgs false
set_option maxHeartbeats 64000000
namespace Go.Proofs.YteoollbcdpfkpaaGreatDoor
section
open Go.RowKit _root_.Go.Proofs.Tryz
abbrev frV (n:Int) (d:Nat):Value:=.agg #[.bool (decide (n<0)),.int .u64 (lo n.natAbs:Int),.string (zal n.natAbs),.int .u64 (lo d:Int),.string (zal d)]
def dk (d:Nat):Nat:=if d=1 then 0 else d
abbrev zaa (q:Rat):Value:=frV q.num (dk q.den)
theorem zoZ:dk 1=0:=rfl
theorem zui {d:Nat} (h:d≠1):dk d=d:=if_neg h
theorem zuh (d:Nat):bl (dk d)≤bl d:=by
 unfold dk;split
 ·rw[zbA];omega
 ·exact qH _
theorem zo0 (q:Rat):dk q.den=0↔q.den=1:=by
 have:=q.den_nz;unfold dk;split <;> omega
theorem zue:bl 1=1:=by have:=zif 0;simpa using this
theorem zjl {n:Nat}:bl n=1↔n=1:=by
 constructor
 ·intro h;have h1:=ze9 n;rw[h]at h1;have:n≠0:=fun e=>by rw[e,zbA]at h;omega
  omega
 ·rintro rfl;exact zue
theorem zhy (n:Nat):(((bl n:Nat):Int) == 1)=decide (n=1):=by
 by_cases h:n=1
 ·rw[qD h,zjl.2 h];rfl
 ·rw[qC h];have:bl n≠1:=fun e=>h (zjl.1 e);simp;omega
theorem zdJ (n:Int):frV n 0=.agg #[.bool (decide (n<0)),.int .u64 (lo n.natAbs:Int),.string (zal n.natAbs),.int .u64 0,.string ⟨#[]⟩]:=by
 unfold frV;rw[zbP (n:=0) (by decide)];rfl
theorem ziJ (n:Int) (d:Nat) (hd:big d):PV prog 81 #[zd9 n,zaD d] (frV n (dk d)):=by
 refine PV.of_pc ?_;refine BD func81 ntmps81 ?_
 repeat (first|refine RUN ?_|refine CV (zbc d hd) ?_|refine CE (zbc d hd) ?_)
 rw[zhy];by_cases h:d=1
 ·rw[qD h];refine uR ?_;rw[h,zoZ,zdJ]
 ·rw[qC h];refine uR ?_;rw[zui h]
theorem zee (a b:Nat) (ha:big a) (hb:big b) (h0:b≠0):PV prog 79 #[zaD a,zaD b] (zaD (a / b)):=by
 refine PV.of_pc ?_;refine BD func79 ntmps79 ?_
 repeat (first|refine RUN ?_|refine CV (zbc b hb) ?_|refine CE (zbc b hb) ?_)
 rw[zhy];by_cases h:b=1
 ·rw[qD h];refine uR ?_;rw[h,Nat.div_one]
 ·rw[qC h]
  repeat (first|refine RUN ?_|refine CV (zeL a b h0 ha hb) ?_|refine CE (zeL a b h0 ha hb) ?_)
  rfl
theorem ziK (n:Int) (b:Nat) (hn:ze3 n) (hb:big b) (h0:b≠0) (hdv:b ∣ n.natAbs):PV prog 82 #[zd9 n,zaD b] (zd9 (n / (b:Int))):=by
 have hs:decide (n.sign<0)=decide (n<0):=by rw[decide_eq_decide];exact Int.sign_neg_iff
 have hf:=zbm (decide (n<0)) (n.natAbs / b) (qI (zfp _ _) hn)
 have e:sg (decide (n<0)) (n.natAbs / b)=n / (b:Int):=by
  rw[zpR n b hdv];unfold sg;by_cases h:n<0 <;> simp[h]
 rw[e]at hf;refine PV.of_pc ?_;refine BD func82 ntmps82 ?_;refine uR ?_;apply EV.drawn 7 kR kR;intro xv yw;(repeat (first|refine' DD ?_|(refine' DC (zba n hn) (h:=?_);rotate_left)));rw[hs];(repeat (first|refine' DD ?_|(refine' DC (zbU n) (h:=?_);rotate_left)|(refine' DC (zee _ _ hn hb h0) (h:=?_);rotate_left)));(refine DJ.nil (fun G hG hF=>?_);(case hS|hS2=>rfl))
 repeat (first|refine RUN ?_|refine CV (hf) ?_|refine CE (hf) ?_)
 rfl
theorem zfY (n:Int) (d:Nat) (hn:ze3 n) (hd:big d) (hnd:big (n.natAbs*d)):PV prog 80 #[zd9 n,zaD d] (zd9 (n*d)):=by
 have hm:=zhg n (d:Int) hn hd (by show big (n*(d:Int)).natAbs;rw[Int.natAbs_mul];exact hnd);refine PV.of_pc ?_;refine BD func80 ntmps80 ?_;refine uR ?_;apply EV.drawn 3 kR kR;intro xv yw;(repeat (first|refine' DD ?_|(refine' DC (zbm false d hd) (h:=?_);rotate_left)));(refine DJ.nil (fun G hG hF=>?_);(case hS|hS2=>rfl))
 repeat (first|refine RUN ?_|refine CV (hm) ?_|refine CE (hm) ?_)
 rfl
theorem zbC (q:Rat) (h:big q.den):PV prog 75 #[zaa q] (.bool (decide (q.den=1))):=by
 refine PV.of_pc ?_;refine BD func75 ntmps75 ?_
 repeat (first|refine RUN ?_|refine CV (zbc (dk q.den) (qI (zuh _) h)) ?_|refine CE (zbc (dk q.den) (qI (zuh _) h)) ?_)
 have e:(((bl (dk q.den):Nat):Int) == 0)=decide (q.den=1):=by
  by_cases h1:q.den=1
  ·rw[qD h1,(zo0 q).2 h1,zbA];rfl
  ·rw[qC h1];have h2:bl (dk q.den)≠0:=fun e=>h1 ((zo0 q).1 (zhA.1 e));simp;omega
 rw[e]
theorem zez (q:Rat) (h:big q.den):PV prog 78 #[zaa q] (zaD q.den):=by
 refine PV.of_pc ?_;refine BD func78 ntmps78 ?_
 repeat (first|refine RUN ?_|refine CV (zbC q h) ?_|refine CE (zbC q h) ?_)
 by_cases h1:q.den=1
 ·rw[qD h1]
  repeat (first|refine RUN ?_|refine CV (zcw 1 (by decide)) ?_|refine CE (zcw 1 (by decide)) ?_)
  rw[h1]
 ·rw[qC h1];refine uR ?_;rw[zui h1]
theorem zcp (q:Rat) (h:ze3 q.num):PV prog 18 #[zaa q] (.int .i64 q.num.sign):=by
 refine PV.of_pc ?_;refine BD func18 ntmps18 ?_
 repeat (first|refine RUN ?_|refine CV (zba q.num h) ?_|refine CE (zba q.num h) ?_)
 rfl
theorem zsk (q:Rat):PV prog 128 #[zaa q] (zd9 q.num):=by
 refine PV.of_pc ?_;refine BD func128 ntmps128 ?_;refine uR ?_;rfl
theorem zup (q:Rat) (h:ze3 q.num):PV prog 106 #[zaa q] (zaa (-q)):=by
 refine PV.of_pc ?_;refine BD func106 ntmps106 ?_;refine uR ?_
 (apply EV.drawn 5 kR kR;intro xv yw;(repeat (first|refine' DD ?_|(refine' DC (zeo q.num h) (h:=?_);rotate_left)));refine DJ.nil (fun G hG hF=>?_);(case hS|hS2=>rfl));refine uR ?_;rfl
theorem zua (q:Rat) (h:ze3 q.num):PV prog 23 #[zaa q] (frV (q.num.natAbs:Int) (dk q.den)):=by
 refine PV.of_pc ?_;refine BD func23 ntmps23 ?_;refine uR ?_
 (apply EV.drawn 6 kR kR;intro xv yw;(repeat (first|refine' DD ?_|(refine' DC (zbU q.num) (h:=?_);rotate_left)|(refine' DC (zbm false q.num.natAbs h) (h:=?_);rotate_left)));refine DJ.nil (fun G hG hF=>?_);(case hS|hS2=>rfl));refine uR ?_;rfl
theorem zec (z:Int) (h1:-9223372036854775808≤z) (h2:z<9223372036854775808):PV prog 25 #[.int .i64 z] (zaa (z:Rat)):=by
 refine PV.of_pc ?_;refine BD func25 ntmps25 ?_
 repeat (first|refine RUN ?_|refine CV (zdT z h1 h2) ?_|refine CE (zdT z h1 h2) ?_)
 show _=frV z 0;rw[zdJ]
theorem zjL (n:Int) (d:Nat) (hn:ze3 n) (hd:big d) (h0:d≠0):PV prog 154 #[zd9 n,zaD d] (zaa (mkRat n d)):=by
 have hl:=zdM n d h0;have hg0:Nat.gcd n.natAbs d≠0:=Nat.gcd_ne_zero_right h0;have hgb:big (Nat.gcd n.natAbs d):=qI (zbW _ _ h0) hd;have hg:=zjF n (d:Int) hn hd;have f1:=ziK n (Nat.gcd n.natAbs d) hn hgb hg0 (Nat.gcd_dvd_left ..);have f2:=zee d (Nat.gcd n.natAbs d) hd hgb hg0;have f3:=ziJ (n / (Nat.gcd n.natAbs d:Nat)) (d / Nat.gcd n.natAbs d) (qI (zfp _ _) hd);rw[←hl.1]at f1;rw[←hl.2]at f2;rw[←hl.1,←hl.2]at f3;refine PV.of_pc ?_;refine BD func154 ntmps154 ?_;refine uR ?_
 (apply EV.drawn 5 kR kR;intro xv yw;(repeat (first|refine' DD ?_|(refine' DC (zbm false d hd) (h:=?_);rotate_left)|(refine' DC (hg) (h:=?_);rotate_left)));refine DJ.nil (fun G hG hF=>?_);(case hS|hS2=>rfl));refine uR ?_
 (apply EV.drawn 7 kR kR;intro xv yw;(repeat (first|refine' DD ?_|(refine' DC (f1) (h:=?_);rotate_left)|(refine' DC (f2) (h:=?_);rotate_left)|(refine' DC (f3) (h:=?_);rotate_left)));refine DJ.nil (fun G hG hF=>?_);(case hS|hS2=>rfl));refine uR ?_;rfl
theorem zpq (n d:Int) (hn:ze3 n) (hd:ze3 d) (h0:d≠0):PV prog 102 #[zd9 n,zd9 d] (.tuple #[zaa (mkRat (if d<0 then -n else n) d.natAbs),.bool true]):=by
 have l1:=zjL (-n) d.natAbs (by show big (-n).natAbs;rw[Int.natAbs_neg];exact hn) hd oM;have l2:=zjL n d.natAbs hn hd oM;refine PV.of_pc ?_;refine BD func102 ntmps102 ?_
 repeat (first|refine RUN ?_|refine CV (zba d hd) ?_|refine CE (zba d hd) ?_)
 rw[show (d.sign == 0)=false by simp[Int.sign_eq_zero_iff_zero,h0]]
 repeat (first|refine RUN ?_|refine CV (zba d hd) ?_|refine CE (zba d hd) ?_)
 by_cases h:d<0
 ·rw[qD (Int.sign_neg_iff.2 h),if_pos h]
  repeat (first|refine RUN ?_|refine CV (zeo n hn) ?_|refine CE (zeo n hn) ?_)
  apply EV.drawn 3 kR kR;intro xv yw;(repeat (first|refine' DD ?_|(refine' DC (zbU d) (h:=?_);rotate_left)));(refine DJ.nil (fun G hG hF=>?_);(case hS|hS2=>rfl))
  repeat (first|refine RUN ?_|refine CV (l1) ?_|refine CE (l1) ?_)
  rfl
 ·rw[qC (fun e=>h (Int.sign_neg_iff.1 e)),if_neg h];refine uR ?_;apply EV.drawn 3 kR kR;intro xv yw;(repeat (first|refine' DD ?_|(refine' DC (zbU d) (h:=?_);rotate_left)));(refine DJ.nil (fun G hG hF=>?_);(case hS|hS2=>rfl))
  repeat (first|refine RUN ?_|refine CV (l2) ?_|refine CE (l2) ?_)
  rfl
abbrev frL (n:Int) (d:Nat):List Value:=[.bool (decide (n<0)),.int .u64 (lo n.natAbs:Int),.string (zal n.natAbs),.int .u64 (lo d:Int),.string (zal d)]
abbrev sm (q:Rat):Prop:=ht q≤100000000
theorem sm.num {q:Rat} (h:sm q):bl q.num.natAbs≤100000000:=qI (zcj q) h
theorem sm.den {q:Rat} (h:sm q):bl q.den≤100000000:=qI (zci q) h
theorem zgD (a b:Rat) (ha:sm a) (hb:sm b):PV prog 30 #[zaa a,zaa b] (zaa (a*b)):=by
 have na:=ha.num;have da:=ha.den;have nb:=hb.num;have db:=hb.den;have bna:ze3 a.num:=qI na oM;have bnb:ze3 b.num:=qI nb oM;have bda:big a.den:=qI da oM;have bdb:big b.den:=qI db oM;have hm:=ztt a b _ _ rfl rfl;generalize hg:Nat.gcd a.num.natAbs b.den=g at hm;generalize hh:Nat.gcd b.num.natAbs a.den=h at hm;have hg0:g≠0:=by rw[←hg];exact Nat.gcd_ne_zero_right b.den_nz
 have hh0:h≠0:=by rw[←hh];exact Nat.gcd_ne_zero_right a.den_nz
 have bg:big g:=by rw[←hg];exact qI (zbW _ _ b.den_nz) bdb
 have bh:big h:=by rw[←hh];exact qI (zbW _ _ a.den_nz) bda
 have g1:=zjF a.num (b.den:Int) bna bdb;have g2:=zjF b.num (a.den:Int) bnb bda;rw[Int.natAbs_natCast,hg]at g1;rw[Int.natAbs_natCast,hh]at g2;have p1:=ziK a.num g bna bg hg0 (by rw[←hg];exact Nat.gcd_dvd_left ..);have p2:=ziK b.num h bnb bh hh0 (by rw[←hh];exact Nat.gcd_dvd_left ..);have b1:bl (a.num / (g:Int)).natAbs≤100000000:=qI (zaZ (zcF _ _)) na;have b2:bl (b.num / (h:Int)).natAbs≤100000000:=qI (zaZ (zcF _ _)) nb;have b3:bl (a.den / h)≤100000000:=qI (zfp _ _) da;have b4:bl (b.den / g)≤100000000:=qI (zfp _ _) db
 have m1:=zhg (a.num / (g:Int)) (b.num / (h:Int)) (qI b1 oM) (qI b2 oM) (by
  show big (_*_:Int).natAbs;rw[Int.natAbs_mul];have:=zbB (a.num / (g:Int)).natAbs (b.num / (h:Int)).natAbs;show bl _≤_;omega)
 have m2:=zgF (a.den / h) (b.den / g) (qI b3 oM) (qI b4 oM);have pk:=ziJ (a*b).num (a*b).den (by rw[hm.2];have:=zbB (a.den / h) (b.den / g);show bl _≤_;omega);have o1:=zee a.den h bda bh hh0;have o2:=zee b.den g bdb bg hg0;rw[←hm.1]at m1;rw[←hm.2]at m2;have w1:=zbC a bda;have w2:=zbC b bdb;refine PV.of_pc ?_;refine BD func30 ntmps30 ?_
 repeat (first|refine RUN ?_|refine CV (w1) ?_|refine CE (w1) ?_)
 refine EVL.meet (fun env' bx' H'=>zeq env' [(12,.v (.bool (decide (a.den=1∧b.den=1)))),(4,.p 4 0),(3,.p 3 0),(2,.p 2 0)]∧zeu bx' [(4,51,Tryz.te51.zero),(3,51,frL b.num (dk b.den)),(2,51,frL a.num (dk a.den))]∧H'=⟨fun _=>none,[],⟨fun _=>none,[]⟩⟩) ?_ ?_
 ·rintro env' bx' H' _ ⟨he,hbx,rfl⟩;refine EV.less _ _ he hbx rfl ?_;by_cases hab:a.den=1∧b.den=1
  ·rw[qD hab];have e1:g=1:=by rw[←hg,hab.2,Nat.gcd_one_right]
   have e2:h=1:=by rw[←hh,hab.1,Nat.gcd_one_right]
   have e3:(a*b).den=1:=by rw[hm.2,hab.1,hab.2,e1,e2]
   rw[e1,e2]at m1;simp only[Int.natCast_one,Int.ediv_one]at m1
   repeat (first|refine RUN ?_|refine CV (m1) ?_|refine CE (m1) ?_)
   show _=frV (a*b).num (dk (a*b).den);rw[e3,zoZ,zdJ]
  ·rw[qC hab];refine uR ?_;have d1:=zez a bda;have d2:=zez b bdb;have s1:=zbm false a.den bda;have s2:=zbm false b.den bdb
   (apply EV.drawn 7 kR kR;intro xv yw;(repeat (first|refine' DD ?_|(refine' DC (d2) (h:=?_);rotate_left)|(refine' DC (s2) (h:=?_);rotate_left)|(refine' DC (g1) (h:=?_);rotate_left)));refine DJ.nil (fun G hG hF=>?_);(case hS|hS2=>rfl));refine uR ?_
   (apply EV.drawn 7 kR kR;intro xv yw;(repeat (first|refine' DD ?_|(refine' DC (d1) (h:=?_);rotate_left)|(refine' DC (s1) (h:=?_);rotate_left)|(refine' DC (g2) (h:=?_);rotate_left)));refine DJ.nil (fun G hG hF=>?_);(case hS|hS2=>rfl));refine uR ?_;apply EV.drawn 16 kR kR;intro xv yw;(repeat (first|refine' DD ?_|(refine' DC (p1) (h:=?_);rotate_left)|(refine' DC (p2) (h:=?_);rotate_left)|(refine' DC (m1) (h:=?_);rotate_left)|(refine' DC (d1) (h:=?_);rotate_left)|(refine' DC (d2) (h:=?_);rotate_left)|(refine' DC (o1) (h:=?_);rotate_left)|(refine' DC (o2) (h:=?_);rotate_left)));(refine DJ.nil (fun G hG hF=>?_);(case hS|hS2=>rfl))
   repeat (first|refine RUN ?_|refine CV (o2) ?_|refine CV (m2) ?_|refine CV (pk) ?_|refine CE (o2) ?_|refine CE (m2) ?_|refine CE (pk) ?_)
   rfl
 ·by_cases ha1:a.den=1
  ·rw[qD ha1]
   repeat (first|refine RUN ?_|refine CV (w2) ?_|refine CE (w2) ?_)
   refine⟨⟨?_,rfl,rfl,rfl,trivial⟩,⟨rfl,rfl,rfl,trivial⟩,rfl⟩;simp[ha1];rfl
  ·rw[qC ha1];refine uR ?_;refine⟨⟨?_,rfl,rfl,rfl,trivial⟩,⟨rfl,rfl,rfl,trivial⟩,rfl⟩;simp[ha1];rfl
theorem zdf (a b:Rat) (ha:sm a) (hb:sm b):PV prog 24 #[zaa a,zaa b] (zaa (a+b)):=by
 have na:=ha.num;have da:=ha.den;have nb:=hb.num;have db:=hb.den;have bna:ze3 a.num:=qI na oM;have bnb:ze3 b.num:=qI nb oM;have bda:big a.den:=qI da oM;have bdb:big b.den:=qI db oM;have hm:=zts a b _ _ _ _ _ rfl rfl rfl rfl rfl;generalize hg:Nat.gcd a.den b.den=g at hm;have hg0:g≠0:=by rw[←hg];exact Nat.gcd_ne_zero_right b.den_nz
 have bgl:bl g≤100000000:=by rw[←hg];exact qI (zbW _ _ b.den_nz) db
 have bg:big g:=qI bgl oM;have g1:=zjF (a.den:Int) (b.den:Int) bda bdb;rw[Int.natAbs_natCast,Int.natAbs_natCast,hg]at g1;have o1:=zee a.den g bda bg hg0;have o2:=zee b.den g bdb bg hg0;have b1:bl (a.den / g)≤100000000:=qI (zfp _ _) da;have b2:bl (b.den / g)≤100000000:=qI (zfp _ _) db
 have hone:a.den=1∧b.den=1→g=1∧a.den / g=1∧b.den / g=1:=fun h=>by
  have:g=1:=by rw[←hg,h.1,h.2];rfl
  rw[this,h.1,h.2];exact⟨rfl,rfl,rfl⟩
 generalize hdown:a.den / g=down at *
 generalize hother:b.den / g=other at *
 have c1:=zbB a.num.natAbs other;have c2:=zbB b.num.natAbs down;have t1:=zfY a.num other bna (qI b2 oM) (by show bl _≤_;omega);have t2:=zfY b.num down bnb (qI b1 oM) (by show bl _≤_;omega);have c1':bl (a.num*(other:Int)).natAbs≤200000000:=by rw[Int.natAbs_mul];simp;omega
 have c2':bl (b.num*(down:Int)).natAbs≤200000000:=by rw[Int.natAbs_mul];simp;omega
 have c3:=zoC (a.num*(other:Int)).natAbs (b.num*(down:Int)).natAbs;have ad:=zhe (a.num*(other:Int)) (b.num*(down:Int)) (qI c1' oM) (qI c2' oM) (by show bl _≤_;omega)
 have bup:bl (a.num*(other:Int)+b.num*(down:Int)).natAbs≤200000001:=by
  have:=zew (a.num*(other:Int)) (b.num*(down:Int));omega
 generalize hup:a.num*(other:Int)+b.num*(down:Int)=up at *
 generalize hh:Nat.gcd up.natAbs g=h at hm;have hh0:h≠0:=by rw[←hh];exact Nat.gcd_ne_zero_right hg0
 have bh:big h:=by rw[←hh];exact qI (zbW _ _ hg0) bg
 have g2:=zjF up (g:Int) (qI bup oM) bg;rw[Int.natAbs_natCast,hh]at g2;have p1:=ziK up h (qI bup oM) bh hh0 (by rw[←hh];exact Nat.gcd_dvd_left ..);have o3:=zee b.den h bdb bh hh0;have b4:bl (b.den / h)≤100000000:=qI (zfp _ _) db;have m2:=zgF down (b.den / h) (qI b1 oM) (qI b4 oM);have pk:=ziJ (a+b).num (a+b).den (by rw[hm.2];have:=zbB down (b.den / h);show bl _≤_;omega);rw[←hm.1]at p1;rw[←hm.2]at m2;have w1:=zbC a bda;have w2:=zbC b bdb;refine PV.of_pc ?_;refine BD func24 ntmps24 ?_
 repeat (first|refine RUN ?_|refine CV (w1) ?_|refine CE (w1) ?_)
 refine EVL.meet (fun env' bx' H'=>zeq env' [(15,.v (.bool (decide (a.den=1∧b.den=1)))),(4,.p 4 0),(3,.p 3 0),(2,.p 2 0)]∧zeu bx' [(4,51,Tryz.te51.zero),(3,51,frL b.num (dk b.den)),(2,51,frL a.num (dk a.den))]∧H'=⟨fun _=>none,[],⟨fun _=>none,[]⟩⟩) ?_ ?_
 ·rintro env' bx' H' _ ⟨he,hbx,rfl⟩;refine EV.less _ _ he hbx rfl ?_;by_cases hab:a.den=1∧b.den=1
  ·rw[qD hab];obtain⟨e1,e2,e3⟩:=hone hab;have e4:h=1:=by rw[←hh,e1,Nat.gcd_one_right]
   have e5:(a+b).den=1:=by rw[hm.2,e2,hab.2,e4]
   have e6:(a+b).num=a.num+b.num:=by rw[hm.1,e4,←hup,e2,e3];simp
   have c4:=zoC a.num.natAbs b.num.natAbs;have ad':=zhe a.num b.num bna bnb (by show bl _≤_;omega)
   repeat (first|refine RUN ?_|refine CV (ad') ?_|refine CE (ad') ?_)
   show _=frV (a+b).num (dk (a+b).den);rw[e5,zoZ,zdJ,e6]
  ·rw[qC hab];refine uR ?_;have d1:=zez a bda;have d2:=zez b bdb;have s1:=zbm false a.den bda;have s2:=zbm false b.den bdb;have s3:=zbm false g bg
   (apply EV.drawn 8 kR kR;intro xv yw;(repeat (first|refine' DD ?_|(refine' DC (d1) (h:=?_);rotate_left)|(refine' DC (s1) (h:=?_);rotate_left)|(refine' DC (d2) (h:=?_);rotate_left)|(refine' DC (s2) (h:=?_);rotate_left)|(refine' DC (g1) (h:=?_);rotate_left)));refine DJ.nil (fun G hG hF=>?_);(case hS|hS2=>rfl));refine uR ?_
   (apply EV.drawn 10 kR kR;intro xv yw;(repeat (first|refine' DD ?_|(refine' DC (d1) (h:=?_);rotate_left)|(refine' DC (d2) (h:=?_);rotate_left)|(refine' DC (o1) (h:=?_);rotate_left)|(refine' DC (o2) (h:=?_);rotate_left)));refine DJ.nil (fun G hG hF=>?_);(case hS|hS2=>rfl));refine uR ?_
   (apply EV.drawn 10 kR kR;intro xv yw;(repeat (first|refine' DD ?_|(refine' DC (t1) (h:=?_);rotate_left)|(refine' DC (t2) (h:=?_);rotate_left)|(refine' DC (ad) (h:=?_);rotate_left)));refine DJ.nil (fun G hG hF=>?_);(case hS|hS2=>rfl));refine uR ?_
   (apply EV.drawn 5 kR kR;intro xv yw;(repeat (first|refine' DD ?_|(refine' DC (s3) (h:=?_);rotate_left)|(refine' DC (g2) (h:=?_);rotate_left)));refine DJ.nil (fun G hG hF=>?_);(case hS|hS2=>rfl));refine uR ?_
   (apply EV.drawn 10 kR kR;intro xv yw;(repeat (first|refine' DD ?_|(refine' DC (p1) (h:=?_);rotate_left)|(refine' DC (d2) (h:=?_);rotate_left)|(refine' DC (o3) (h:=?_);rotate_left)|(refine' DC (m2) (h:=?_);rotate_left)|(refine' DC (pk) (h:=?_);rotate_left)));refine DJ.nil (fun G hG hF=>?_);(case hS|hS2=>rfl));refine uR ?_;rfl
 ·by_cases ha1:a.den=1
  ·rw[qD ha1]
   repeat (first|refine RUN ?_|refine CV (w2) ?_|refine CE (w2) ?_)
   refine⟨⟨?_,rfl,rfl,rfl,trivial⟩,⟨rfl,rfl,rfl,trivial⟩,rfl⟩;simp[ha1];rfl
  ·rw[qC ha1];refine uR ?_;refine⟨⟨?_,rfl,rfl,rfl,trivial⟩,⟨rfl,rfl,rfl,trivial⟩,rfl⟩;simp[ha1];rfl
theorem zfz (a b:Rat) (ha:sm a) (hb:sm b):PV prog 50 #[zaa a,zaa b] (zaa (a-b)):=by
 have h1:=zup b (qI hb.num oM);have h2:=zdf a (-b) ha (by show ht (-b)≤_;rw[zpd];exact hb);rw[←Rat.sub_eq_add_neg]at h2;refine PV.of_pc ?_;refine BD func50 ntmps50 ?_;refine uR ?_
 (apply EV.drawn 4 kR kR;intro xv yw;(repeat (first|refine' DD ?_|(refine' DC (h1) (h:=?_);rotate_left)|(refine' DC (h2) (h:=?_);rotate_left)));refine DJ.nil (fun G hG hF=>?_);(case hS|hS2=>rfl));refine uR ?_;rfl
theorem zs6 (b:Rat) (h:b.num≠0):frV (sg (decide (b.num<0)) b.den) (dk b.num.natAbs)=zaa b⁻¹:=by
 have e1:b⁻¹.num=sg (decide (b.num<0)) b.den:=by
  rw[Rat.num_inv];unfold sg;rcases Int.lt_or_lt_of_ne h with h1 | h1
  ·simp[h1,Int.sign_eq_neg_one_of_neg h1]
  ·rw[Int.sign_eq_one_of_pos h1,qC (by omega)];simp
 have e2:b⁻¹.den=b.num.natAbs:=by
  rw[Rat.den_inv,if_neg];exact h
 rw[←e1,←e2]
theorem zjA (a b:Rat) (ha:sm a) (hb:sm b) (h0:b≠0):PV prog 156 #[zaa a,zaa b] (.tuple #[zaa (a / b),.bool true]):=by
 have hn0:b.num≠0:=fun e=>h0 (Rat.num_eq_zero.1 e);have bnb:ze3 b.num:=qI hb.num oM;have bdb:big b.den:=qI hb.den oM;have hm:=zgD a b⁻¹ ha (qI (zse b) hb);rw[←Rat.div_def]at hm;have hp:=ziJ (sg (decide (b.num<0)) b.den) b.num.natAbs bnb;rw[zs6 b hn0]at hp;have s1:=zbm (decide (b.num<0)) b.den bdb;have sg1:=zcp b bnb;have ab:=zbU b.num;have d2:=zez b bdb;refine PV.of_pc ?_;refine BD func156 ntmps156 ?_
 repeat (first|refine RUN ?_|refine CV (sg1) ?_|refine CE (sg1) ?_)
 rw[show (b.num.sign == 0)=false by simp[Int.sign_eq_zero_iff_zero,hn0]];refine uR ?_;apply EV.drawn 11 kR kR;intro xv yw;(repeat (first|refine' DD ?_|(refine' DC (sg1) (h:=?_);rotate_left)));rw[show decide (b.num.sign<0)=decide (b.num<0) by rw[decide_eq_decide];exact Int.sign_neg_iff];(repeat (first|refine' DD ?_|(refine' DC (d2) (h:=?_);rotate_left)|(refine' DC (s1) (h:=?_);rotate_left)|(refine' DC (ab) (h:=?_);rotate_left)|(refine' DC (hp) (h:=?_);rotate_left)));(refine DJ.nil (fun G hG hF=>?_);(case hS|hS2=>rfl))
 repeat (first|refine RUN ?_|refine CV (hm) ?_|refine CE (hm) ?_)
 rfl
theorem zk7 (a:Rat):PV prog 156 #[zaa a,zaa 0] (.tuple #[zaa 0,.bool false]):=by
 have sg1:=zcp 0 (by show bl 0≤_;rw[zbA];omega);refine PV.of_pc ?_;refine BD func156 ntmps156 ?_
 repeat (first|refine RUN ?_|refine CV (sg1) ?_|refine CE (sg1) ?_)
 show _=Value.tuple #[frV 0 0,.bool false];rw[zdJ,show (0:Int).natAbs=0 from rfl,zbP (n:=0) (by decide)];rfl
theorem znL (x y p q:Int) (hp:0<p) (hq:0<q) (h:x.sign≠y.sign):zgK x y=zgK (x*p) (y*q):=by
 have f1:x<0→x*p<0:=fun h=>Int.mul_neg_of_neg_of_pos h hp;have f2:0<x→0<x*p:=fun h=>Int.mul_pos h hp;have f3:y<0→y*q<0:=fun h=>Int.mul_neg_of_neg_of_pos h hq;have f4:0<y→0<y*q:=fun h=>Int.mul_pos h hq;have f5:x=0→x*p=0:=fun h=>by rw[h,Int.zero_mul]
 have f6:y=0→y*q=0:=fun h=>by rw[h,Int.zero_mul]
 generalize x*p=u at *
 generalize y*q=v at *
 rcases Int.lt_trichotomy x 0 with hx | hx | hx <;> rcases Int.lt_trichotomy y 0 with hy | hy | hy
 ·exact absurd (by rw[Int.sign_eq_neg_one_of_neg hx,Int.sign_eq_neg_one_of_neg hy]) h
 ·unfold zgK;rw[if_pos oM,if_pos (by have:=f1 hx;have:=f6 hy;omega)]
 ·unfold zgK;rw[if_pos oM,if_pos (by have:=f1 hx;have:=f4 hy;omega)]
 ·unfold zgK;rw[if_neg oM,if_pos oM,if_neg (by have:=f5 hx;have:=f3 hy;omega),if_pos (by have:=f5 hx;have:=f3 hy;omega)]
 ·exact absurd (by rw[hx,hy]) h
 ·unfold zgK;rw[if_pos oM,if_pos (by have:=f5 hx;have:=f4 hy;omega)]
 ·unfold zgK;rw[if_neg oM,if_pos oM,if_neg (by have:=f2 hx;have:=f3 hy;omega),if_pos (by have:=f2 hx;have:=f3 hy;omega)]
 ·unfold zgK;rw[if_neg oM,if_pos oM,if_neg (by have:=f2 hx;have:=f6 hy;omega),if_pos (by have:=f2 hx;have:=f6 hy;omega)]
 ·exact absurd (by rw[Int.sign_eq_one_of_pos hx,Int.sign_eq_one_of_pos hy]) h
theorem zqe (a b:Rat) (h:a.num.sign≠b.num.sign):zgK a.num b.num=zcr a b:=by
 have:=Nat.pos_of_ne_zero a.den_nz;have:=Nat.pos_of_ne_zero b.den_nz;rw[zlr];exact znL _ _ _ _ oM oM h
theorem zbF (a b:Rat) (ha:sm a) (hb:sm b):PV prog 29 #[zaa a,zaa b] (.int .i64 (zcr a b)):=by
 have na:=ha.num;have da:=ha.den;have nb:=hb.num;have db:=hb.den;have bna:ze3 a.num:=qI na oM;have bnb:ze3 b.num:=qI nb oM;have bda:big a.den:=qI da oM;have bdb:big b.den:=qI db oM;have w1:=zbC a bda;have w2:=zbC b bdb;have s1:=zcp a bna;have s2:=zcp b bnb;have d1:=zez a bda;have d2:=zez b bdb;have c1:=zbB a.num.natAbs b.den;have c2:=zbB b.num.natAbs a.den;have t1:=zfY a.num b.den bna bdb (by show bl _≤_;omega);have t2:=zfY b.num a.den bnb bda (by show bl _≤_;omega);have k1:=zhf a.num b.num bna bnb;have k2:=zhf (a.num*(b.den:Int)) (b.num*(a.den:Int)) (by show bl _≤_;rw[Int.natAbs_mul];simp;omega) (by show bl _≤_;rw[Int.natAbs_mul];simp;omega);rw[←zlr]at k2;refine PV.of_pc ?_;refine BD func29 ntmps29 ?_;refine uR ?_;by_cases ha1:a.den=1
 ·rw[qD ha1]at w1;by_cases hb1:b.den=1
  ·rw[qD hb1]at w2;have e:zgK a.num b.num=zcr a b:=by rw[zlr,ha1,hb1];simp
   rw[e]at k1;apply EV.drawn 10 kR kR;intro xv yw;(repeat (first|refine' DD ?_|(refine' DC (w1) (h:=?_);rotate_left)|(refine' DC (w2) (h:=?_);rotate_left)|(refine' DC (s1) (h:=?_);rotate_left)|(refine' DC (s2) (h:=?_);rotate_left)));(refine DJ.nil (fun G hG hF=>?_);(case hS|hS2=>rfl))
   repeat (first|refine RUN ?_|refine CV (k1) ?_|refine CE (k1) ?_)
   rfl
  ·rw[qC hb1]at w2;apply EV.drawn 10 kR kR;intro xv yw;(repeat (first|refine' DD ?_|(refine' DC (w1) (h:=?_);rotate_left)|(refine' DC (w2) (h:=?_);rotate_left)|(refine' DC (s1) (h:=?_);rotate_left)|(refine' DC (s2) (h:=?_);rotate_left)));(refine DJ.nil (fun G hG hF=>?_);(case hS|hS2=>rfl))
   repeat (first|refine RUN ?_|refine CV (s1) ?_|refine CV (s2) ?_|refine CE (s1) ?_|refine CE (s2) ?_)
   by_cases hs:a.num.sign=b.num.sign
   ·rw[show (a.num.sign != b.num.sign)=false by simp[hs]];refine uR ?_;apply EV.drawn 9 kR kR;intro xv yw;(repeat (first|refine' DD ?_|(refine' DC (d2) (h:=?_);rotate_left)|(refine' DC (t1) (h:=?_);rotate_left)|(refine' DC (d1) (h:=?_);rotate_left)));(refine DJ.nil (fun G hG hF=>?_);(case hS|hS2=>rfl))
    repeat (first|refine RUN ?_|refine CV (t2) ?_|refine CV (k2) ?_|refine CE (t2) ?_|refine CE (k2) ?_)
    rfl
   ·rw[show (a.num.sign != b.num.sign)=true by simp[hs]]
    repeat (first|refine RUN ?_|refine CV (k1) ?_|refine CE (k1) ?_)
    rw[zqe a b hs]
 ·rw[qC ha1]at w1;apply EV.drawn 10 kR kR;intro xv yw;(repeat (first|refine' DD ?_|(refine' DC (w1) (h:=?_);rotate_left)|(refine' DC (w2) (h:=?_);rotate_left)|(refine' DC (s1) (h:=?_);rotate_left)|(refine' DC (s2) (h:=?_);rotate_left)));(refine DJ.nil (fun G hG hF=>?_);(case hS|hS2=>rfl))
  repeat (first|refine RUN ?_|refine CV (s1) ?_|refine CV (s2) ?_|refine CE (s1) ?_|refine CE (s2) ?_)
  by_cases hs:a.num.sign=b.num.sign
  ·rw[show (a.num.sign != b.num.sign)=false by simp[hs]];refine uR ?_;apply EV.drawn 9 kR kR;intro xv yw;(repeat (first|refine' DD ?_|(refine' DC (d2) (h:=?_);rotate_left)|(refine' DC (t1) (h:=?_);rotate_left)|(refine' DC (d1) (h:=?_);rotate_left)));(refine DJ.nil (fun G hG hF=>?_);(case hS|hS2=>rfl))
   repeat (first|refine RUN ?_|refine CV (t2) ?_|refine CV (k2) ?_|refine CE (t2) ?_|refine CE (k2) ?_)
   rfl
  ·rw[show (a.num.sign != b.num.sign)=true by simp[hs]]
   repeat (first|refine RUN ?_|refine CV (k1) ?_|refine CE (k1) ?_)
   rw[zqe a b hs]
theorem zcG (z m:Int) (hz:-9223372036854775808≤z∧z<9223372036854775808) (h0:0<m) (hm:m<4611686018427387904):PV prog 8 #[.int .i64 z,.int .i64 m] (.int .i64 (z % m)):=by
 have h1:=Int.tmod_lt_of_pos z h0;have h2:=Int.lt_tmod_of_pos z h0
 have e:z % m=if z.tmod m<0 then z.tmod m+m else z.tmod m:=by
  have hq:=Int.mul_tdiv_add_tmod z m
  have e1:z % m=z.tmod m % m:=by
   conv=>lhs;rw[←hq]
   rw[Int.mul_add_emod_self_left]
  rw[e1];by_cases ht:z.tmod m<0
  ·rw[if_pos ht,←Int.add_emod_right,Int.emod_eq_of_lt oM (by omega)]
  ·rw[if_neg ht,Int.emod_eq_of_lt oM h1]
 refine PV.of_pc ?_;refine BD func8 ntmps8 ?_;refine uR ?_;refine EVL.remI rfl rfl rfl rfl rfl rfl oM ?_;generalize z.tmod m=t at *
 refine uR ?_;by_cases ht:t<0
 ·rw[if_pos ht]at e;rw[qD ht];refine uR ?_;rw[e,pM];congr 1;omega
 ·rw[if_neg ht]at e;rw[qC ht];refine uR ?_;rw[e]
theorem zh0 {H:Hp} {v:Value} {n:Nat} (h:RN H v n) (hn:rsm n):PC prog 113 #[v] H fun r _=>r=zaD n:=by
 have hol:(zjd n).length≤200000000:=by
  rw[zcm];have:=zaP 8 n oM;rw[show (2:Nat) ^ 8=256 by decide]at this;rw[this];have:bl n≤800000000:=hn;omega
 refine BD func113 ntmps113 ?_;refine uR ?_;refine vA (zlB h hn) ?_;rintro r G hr hG;have hf:=zdz hr (ziF n) hol;rw[zmu]at hf
 repeat (first|refine RUN ?_|refine CV (hf) ?_|refine CE (hf) ?_)
 rfl
theorem zjZ {H:Hp} (n:Nat) (hn:rsm n):PC prog 129 #[zaD n] H fun r H'=>RN H' r n:=by
 have hol:(zjd n).length≤200000000:=by
  rw[zcm];have:=zaP 8 n oM;rw[show (2:Nat) ^ 8=256 by decide]at this;rw[this];have:bl n≤800000000:=hn;omega
 refine BD func129 ntmps129 ?_;refine uR ?_;refine EVL.call rfl rfl rfl rfl rfl (zgE n (qI hn oM) H) ?_;rintro r G hr hG;have hf:=znZ hr (ziF n) hol;rw[zmu]at hf;refine uR ?_;refine vA (hf) ?_;rintro s G2 hs hG2;refine uR ?_;exact hs
theorem zs4 {H:Hp} {v:Value} {z:Int} (h:RI H v z) (hz:rsm z.natAbs):PC prog 112 #[v] H fun r _=>r=zd9 z:=by
 obtain⟨sa,sl,sc,rfl,hs⟩:=id h;have hf:=zbm (decide (z<0)) z.natAbs (qI hz oM);rw[zsr]at hf;refine BD func112 ntmps112 ?_;refine uR ?_;apply EV.drawn 6 kR kR;intro xv yw;(repeat refine' DD ?_);refine' vC (cO func113) (fun G hG hd=>zh0 (RN.mono hs hG) hz) ?_;rotate_left;(repeat (first|refine' DD ?_|(refine' DC (hf) (h:=?_);rotate_left)));(refine DJ.nil (fun G hG hF=>?_);(case hS|hS2=>rfl));refine uR ?_;rfl
theorem zpM {H:Hp} (z:Int) (hz:rsm z.natAbs):PC prog 127 #[zd9 z] H fun r H'=>RI H' r z:=by
 have hb:ze3 z:=qI hz oM;have e1:decide (z.sign<0)=decide (z<0):=by rw[decide_eq_decide,Int.sign_neg_iff]
 refine BD func127 ntmps127 ?_;refine uR ?_;apply EV.drawn 7 kR kR;intro xv yw;(repeat (first|refine' DD ?_|(refine' DC (zba z hb) (h:=?_);rotate_left)|(refine' DC (zbU z) (h:=?_);rotate_left)));refine' vB (cO func129) (fun G hG hd=>zjZ z.natAbs hz) (fun _ _ _ h k=>RN.mono h k) ?_;rotate_left;rw[e1];refine' vB (cO func99) (fun G hG hd=>zgU (decide (z<0)) (hd.head kR)) (fun _ _ _ h k=>RI.mono h k) ?_;rotate_left;(refine DJ.nil (fun G hG hF=>?_);(case hS|hS2=>rfl));obtain⟨⟨ra,rl,rc,hr,h1⟩,_⟩:=hF;rw[zsr]at hr h1;rw[hr];refine uR ?_;exact⟨ra,rl,rc,rfl,h1⟩
theorem znE {H:Hp} {v:Value} {q:Rat} (h:RQ H v q) (hq:rq q):PC prog 55 #[v] H fun r _=>r=zaa q:=by
 obtain⟨sa,sl,sc,ta,tl,tc,rfl,hs,ht⟩:=id h;have hn:=hq.num;have hd':=hq.den;have hf:=zbm false q.den (qI hd' oM);rw[show sg false q.den=(q.den:Int) from rfl]at hf;have hm:=zpq q.num (q.den:Int) (qI hn oM) (qI hd' oM) (by have:=q.den_nz;omega);rw[if_neg oM,Int.natAbs_natCast,Rat.mkRat_self]at hm;refine BD func55 ntmps55 ?_;refine uR ?_;apply EV.drawn 14 kR kR;intro xv yw;(repeat refine' DD ?_);refine' vC (cO func112) (fun G hG hd=>zs4 (RQ.rnum (RN.mono hs hG)) hn) ?_;rotate_left;(repeat refine' DD ?_);refine' vC (cO func113) (fun G hG hd=>zh0 (RN.mono ht hG) hd') ?_;rotate_left;(repeat (first|refine' DD ?_|(refine' DC (hf) (h:=?_);rotate_left)|(refine' DC (hm) (h:=?_);rotate_left)));(refine DJ.nil (fun G hG hF=>?_);(case hS|hS2=>rfl));refine uR ?_;rfl
theorem zus {H:Hp} (q:Rat) (hq:rq q):PC prog 70 #[zaa q] H fun r H'=>RQ H' r q:=by
 have hn:=hq.num;have hd':=hq.den;refine BD func70 ntmps70 ?_;refine uR ?_;apply EV.drawn 6 kR kR;intro xv yw;(repeat (first|refine' DD ?_|(refine' DC (zsk q) (h:=?_);rotate_left)|(refine' DC (zez q (qI hd' oM)) (h:=?_);rotate_left)));refine' vB (cO func127) (fun G hG hd=>zpM q.num hn) (fun _ _ _ h k=>RI.mono h k) ?_;rotate_left;(repeat (first|refine' DD ?_|(refine' DC (zsk q) (h:=?_);rotate_left)|(refine' DC (zez q (qI hd' oM)) (h:=?_);rotate_left)));refine' vB (cO func129) (fun G hG hd=>zjZ q.den hd') (fun _ _ _ h k=>RN.mono h k) ?_;rotate_left;(refine DJ.nil (fun G hG hF=>?_);(case hS|hS2=>rfl));obtain⟨hN,⟨ra,rl,rc,hr,h1⟩,_⟩:=hF;obtain⟨xa,xc,hx⟩:=SlC.val hN;rw[hx]at hN;rw[hx,hr];refine uR ?_;exact⟨ra,rl,rc,xa,_,xc,rfl,h1,hN⟩
theorem zhZ {H:Hp} {u v:Value} {a b:Nat} (hu:RN H u a) (hv:RN H v b) (ha:rsm a):PC prog 149 #[u,v] H fun r _=>r=.int .i64 (zbv a b):=by
 have la:=ha.len;have:=zdO hu hv (zao zam _) (zao zam _) oM
 rwa [zaw zam,zaw zam]at this
theorem zmy (a b:Nat):(zbv a b == 0)=decide (a=b):=by
 unfold zbv;rcases Nat.lt_trichotomy a b with h | h | h
 ·rw[if_pos h,qC (by omega)];rfl
 ·rw[if_neg oM,if_neg oM,qD h];rfl
 ·rw[if_neg oM,if_pos h,qC (by omega)];rfl
theorem ztE {H:Hp} {w:Value} {p q:Rat} (hw:RQ H w q) (hp:rq p) (hq:rq q):PC prog 103 #[zaa p,w] H fun r _=>r=.bool (decide (p=q)):=by
 obtain⟨sa,sl,sc,ta,tl,tc,rfl,hs,ht⟩:=id hw
 have hl:(tl:Int)≠0:=by
  have h1:=SlN.cap ht;have h2:=ze5 zam q.den_nz;have h3:=List.length_pos_iff.2 h2;omega
 refine BD func103 ntmps103 ?_;refine uR ?_;refine vA (zus p hp) ?_;rintro r G ⟨sa',sl',sc',ta',tl',tc',rfl,hs',ht'⟩ hG;have c1:=zhZ hs' (RN.mono hs hG) hp.num;have c2:=zhZ ht' (RN.mono ht hG) hp.den;refine uR ?_;rw[show ((tl:Int) == 0)=false by simpa using hl]
 repeat (first|refine RUN ?_|refine CV (c1) ?_|refine CE (c1) ?_)
 rw[zmy];by_cases h1:p.num.natAbs=q.num.natAbs
 ·rw[qD h1];refine uR ?_;refine EVL.eqb rfl rfl rfl rfl rfl rfl kR ?_;by_cases h2:decide (p.num<0)=decide (q.num<0)
  ·rw[show (decide (p.num<0) == decide (q.num<0))=true by simp[h2]]
   repeat (first|refine RUN ?_|refine CV (c2) ?_|refine CE (c2) ?_)
   rw[zmy];congr 1
   have hn:p.num=q.num:=by
    rw[decide_eq_decide]at h2;omega
   by_cases h3:p.den=q.den
   ·rw[qD h3,qD (Rat.ext hn h3)]
   ·rw[qC h3,qC (fun e=>h3 (by rw[e]))]
  ·rw[show (decide (p.num<0) == decide (q.num<0))=false by simpa using h2];refine uR ?_;rw[qC (fun e=>h2 (by rw[e]))]
 ·rw[qC h1];refine uR ?_;rw[qC (fun e=>h1 (by rw[e]))]
def zsp (j:Nat):Int:=[1,1,1,2,3,4].getD j 1
def zgR (z:Int):Rat:=Rat.divInt (z % 41-20) (zsp (z.tdiv 41 % 6).toNat)
theorem zfg (j:Nat):1≤zsp j∧zsp j≤4:=by
 unfold zsp;rcases j with _ | _ | _ | _ | _ | _ | j <;> simp[qB]
theorem zu1 {H:Hp} (z:Int) (hz:-9223372036854775808≤z∧z<9223372036854775808):PC prog 9 #[.int .i64 z] H fun r H'=>RQ H' r (zgR z):=by
 have hq:-9223372036854775808≤z.tdiv 41∧z.tdiv 41<9223372036854775808:=by
  by_cases h:0≤z
  ·rw[Int.tdiv_eq_ediv_of_nonneg h];omega
  ·have e:z.tdiv 41 = -((-z) / 41):=by rw[←Int.tdiv_eq_ediv_of_nonneg oM,Int.neg_tdiv,Int.neg_neg]
   rw[e];omega
 have hqw:IntKind.i64.wrap (z.tdiv 41)=z.tdiv 41:=by rw[pM];omega
 have h1:=zcG z 41 hz oM oM;have h2:=zcG (z.tdiv 41) 6 hq oM oM;have m1:=Int.emod_nonneg z (show (41:Int)≠0 by omega);have m2:=Int.emod_lt_of_pos z (show (0:Int)<41 by omega);obtain⟨j,hj⟩:=qj (Int.emod_nonneg (z.tdiv 41) (show (6:Int)≠0 by omega));have m3:=Int.emod_lt_of_pos (z.tdiv 41) (show (0:Int)<6 by omega);have hsub:IntKind.i64.wrap (z % 41-20)=z % 41-20:=by rw[pM];omega
 have hrd:=zfg j;have hrn:zgR z=Rat.divInt (z % 41-20) (zsp j):=by unfold zgR;rw[hj];rfl
 rw[hrn]
 have hidx:([.int .i64 1,.int .i64 1,.int .i64 1,.int .i64 2,.int .i64 3,.int .i64 4]:List Value)[j]?=some (.int .i64 (zsp j)):=by
  have hj6:j<6:=oM;rcases j with _|_|_|_|_|_|j <;> first|rfl|omega
 have ho:=fun G:Hp=>zdP (H:=G) (z % 41-20) (zsp j) oM oM oM oM oM;rw[hj]at h2;refine BD func9 ntmps9 ?_
 repeat (first|refine RUN ?_|refine CV (h1) ?_|refine CE (h1) ?_)
 rw[hsub];refine EVL.buildArr rfl rfl rfl rfl rfl (cs:=[.int .i64 1,.int .i64 1,.int .i64 1,.int .i64 2,.int .i64 3,.int .i64 4]) kR ?_;refine uR ?_;rw[hqw]
 repeat (first|refine RUN ?_|refine CV (h2) ?_|refine CE (h2) ?_)
 refine EVL.indexArr (e:=2) (len:=6) tO rfl rfl rfl rfl kR rfl rfl rfl rfl rfl j rfl (show j<6 by omega) hidx ?_;refine vA (ho H) ?_;rintro r G ⟨ra,rl,rc,xa,xl,xc,rfl,hn,hd⟩ hG;refine uR ?_;exact⟨ra,rl,rc,xa,xl,xc,rfl,hn,hd⟩
def QL (H:Hp) (v:Value) (l:List Rat):Prop:=SlC H v l.length 5 (l.flatMap fun q=>zac (zaa q))
def RL (H:Hp) (v:Value) (l:List Rat):Prop:=∃vs:List Value,vs.length=l.length∧(∀(j:Nat) (x:Value) (q:Rat),vs[j]?=some x→l[j]?=some q→RQ H x q)∧SlC H v l.length 3 (vs.flatMap zac)
theorem QL.mono {H G:Hp} {v:Value} {l:List Rat} (h:QL H v l) (k:H.Le G):QL G v l:=SlC.mono h k
theorem RL.mono {H G:Hp} {v:Value} {l:List Rat} (h:RL H v l) (k:H.Le G):RL G v l:=by
 obtain⟨vs,h1,h2,h3⟩:=h;exact⟨vs,h1,fun j x q e1 e2=>(h2 j x q e1 e2).mono k,h3.mono k⟩
theorem QL.at {H:Hp} {v:Value} {l:List Rat} {j:Nat} {q:Rat} (hj:l[j]?=some q):((l.flatMap fun q=>zac (zaa q)).drop (j*5)).take 5=zac (zaa q):=zdI _ 5 l (fun _ _=>rfl) j q hj
theorem RQ.cells {H:Hp} {x:Value} {q:Rat} (h:RQ H x q):(zac x).length=3∧zed (zac x)=true:=by
 obtain⟨_,_,_,_,_,_,rfl,_,_⟩:=h;exact⟨rfl,rfl⟩
theorem RL.at {H:Hp} {v:Value} {l:List Rat} (h:RL H v l) {j:Nat} {q:Rat} (hj:l[j]?=some q):∃(vs:List Value) (x:Value),SlC H v l.length 3 (vs.flatMap zac)∧((vs.flatMap zac).drop (j*3)).take 3=zac x∧RQ H x q:=by
 obtain⟨vs,h1,h2,h3⟩:=h;obtain⟨hl,rfl⟩:=qE.1 hj;have hv:vs[j]?=some (vs[j]'(by omega)):=qA oM
 have hall:∀x,x∈vs→(zac x).length=3:=fun x hx=>by
  obtain⟨i,hi,rfl⟩:=List.getElem_of_mem hx;exact(h2 i _ _ (qA hi) (qA oM)).cells.1
 exact⟨vs,_,h3,zdI _ 3 vs hall j _ hv,h2 j _ _ hv hj⟩
theorem zan {α:Type} {l:List α} {i:Nat} {x:α} (h:l[i]?=some x):l.take (i+1)=l.take i++[x]:=by
 obtain⟨hl,rfl⟩:=qE.1 h;exact qS hl
theorem RL.val {H:Hp} {v:Value} {l:List Rat} (h:RL H v l):∃a cap,v=.slice a l.length cap:=by
 obtain⟨vs,_,_,h3⟩:=h;exact SlC.val h3
theorem zfM {H:Hp} {v:Value} {l:List Rat} (h:RL H v l) (hl:l.length≤100000000) (hq:∀q,q∈l→rq q):PC prog 15 #[v] H fun r H'=>QL H' r l:=by
 obtain⟨a,cap,rfl⟩:=RL.val h;refine BD func15 ntmps15 ?_;refine uR ?_;refine EV.loopK (ι:=Nat × Value × Ows) [0] [] (fun q=>[(3,.v q.2.1),(4,.v (.int .i64 (q.1:Int)))]) (fun _=>[]) (fun q=>q.2.2) (fun q G=>q.1≤l.length∧zaO 51 5 q.2.1 q.1 ((l.take q.1).flatMap fun q=>zac (zaa q)) q.2.2) (fun q=>l.length-q.1) ((0,.slice none 0 0,[])) rfl rfl ⟨rfl,rfl,trivial⟩ trivial rfl (fun _=>rfl) (⟨qQ _,zaO.nil _ _⟩) ?_;rintro⟨i,w,ow⟩ G1 hG1 ⟨hi,hown⟩;dsimp only at hi hown;refine uR ?_;refine EV.cond rfl (fun hlt=>?_) (fun hlt=>?_)
 ·simp only[nN]at hlt;obtain⟨q,hqi⟩:=gE hlt;obtain⟨vs,x,hs,hc,hx⟩:=(h.mono hG1).at hqi;obtain⟨xa,xl,xc,ya,yl,yc,rfl,hx1,hx2⟩:=id hx;refine uR ?_;refine EVL.idxM tO rfl rfl rfl rfl rfl rfl rfl rfl rfl (hs) (i) (rfl) (hlt) (hc) ?_
  repeat (first|refine RUN ?_|refine CV (znE hx (hq q (qF hqi))) ?_|refine CE (znE hx (hq q (qF hqi))) ?_)
  refine EVL.app1 tO rfl rfl rfl rfl rfl rfl rfl rfl rfl rfl rfl rfl rfl rfl rfl rfl rfl rfl rfl (fun _=>rfl) (ow) ([]) ((qG _).symm) (hown) oM fun _=>?_;intro v' ow' hown';refine uR ?_;refine⟨(i+1,v',ow'),⟨rfl,?_,trivial⟩,sB,trivial,trivial,qG _,⟨by dsimp only;omega,?_⟩,Hp.Le.refl _,by dsimp only;omega⟩
  ·rw[zad i (by omega)];rfl
  ·dsimp only;rw[zan hqi,List.flatMap_append];exact hown'
 ·simp only[nN]at hlt;obtain rfl:i=l.length:=oM;(first|refine EVL.publishL [] ow [] ((qG _).symm) hown fun G2 hG2 hs=>?_|refine EV.publishL [] ow [] ((qG _).symm) hown fun G2 hG2 hs=>?_);refine uR ?_;rw[qb]at hs;exact hs
def RVs (H:Hp) (vs:List Value) (l:List Rat):Prop:=vs.length=l.length∧∀(j:Nat) (x:Value) (q:Rat),vs[j]?=some x→l[j]?=some q→RQ H x q
theorem RVs.mono {H G:Hp} {vs:List Value} {l:List Rat} (h:RVs H vs l) (k:H.Le G):RVs G vs l:=⟨h.1,fun j x q e1 e2=>(h.2 j x q e1 e2).mono k⟩
theorem RVs.nil (H:Hp):RVs H [] []:=⟨rfl,fun j x q h=>by simp at h⟩
theorem RVs.snoc {H:Hp} {vs:List Value} {l:List Rat} {x:Value} {q:Rat} (h:RVs H vs l) (k:RQ H x q):RVs H (vs++[x]) (l++[q]):=by
 refine⟨by simp[h.1],fun j y r e1 e2=>?_⟩;rw[List.getElem?_append]at e1 e2;by_cases hj:j<vs.length
 ·rw[if_pos hj]at e1;rw[if_pos (by rw[←h.1];exact hj)]at e2;exact h.2 j y r e1 e2
 ·rw[if_neg hj]at e1;rw[if_neg (by rw[←h.1];exact hj)]at e2;have:=h.1
  cases hk:j-vs.length with
  | zero =>
   rw[hk]at e1;rw[←h.1,hk]at e2;simp at e1 e2;subst e1;subst e2;exact k
  | succ m=>rw[hk]at e1;simp at e1
theorem RVs.rl {H:Hp} {vs:List Value} {l:List Rat} {v:Value} (h:RVs H vs l) (hs:SlC H v l.length 3 (vs.flatMap zac)):RL H v l:=⟨vs,h.1,h.2,hs⟩
abbrev IL (H:Hp) (v:Value) (l:List Int):Prop:=SlN (fun z:Int=>Value.int .i64 z) H v l
def zkc (l:List Int) (n:Nat):List Rat:=(List.range n).map fun i=>match l[i]? with
 | some z=>zgR z
 | none=>0
theorem zeR (l:List Int) (n:Nat):(zkc l n).length=n:=by simp[zkc]
theorem zp6 {l:List Int} {n i:Nat} {z:Int} (hi:i<n) (h:l[i]?=some z):(zkc l n)[i]?=some (zgR z):=by
 unfold zkc;rw[qK,List.getElem?_range hi];simp[h]
theorem zp5 {l:List Int} {n i:Nat} (hi:i<n) (h:l[i]?=none):(zkc l n)[i]?=some 0:=by
 unfold zkc;rw[qK,List.getElem?_range hi];simp[h]
theorem zp7 {H:Hp} {v:Value} {l:List Int} (h:IL H v l) (hb:∀z,z∈l → -9223372036854775808≤z∧z<9223372036854775808) (n:Nat) (hn:n≤1000000):PC prog 27 #[v,.int .i64 (n:Int)] H fun r H'=>RL H' r (zkc l n):=by
 obtain⟨a,cap,rfl⟩:=SlC.val h;have hz0:=fun G:Hp=>zfR (H:=G) 0 oM oM;rw[show ((0:Int):Rat)=0 from rfl]at hz0;refine BD func27 ntmps27 ?_;refine uR ?_;refine EV.loopK (ι:=Nat × List Value × Value × Ows) [0,1] [] (fun q=>[(5,.v q.2.2.1),(6,.v (.int .i64 (q.1:Int)))]) (fun _=>[]) (fun q=>q.2.2.2) (fun q G=>q.1≤n∧RVs G q.2.1 ((zkc l n).take q.1)∧zaO 33 3 q.2.2.1 q.1 (q.2.1.flatMap zac) q.2.2.2) (fun q=>n-q.1) ((0,[],.slice none 0 0,[])) rfl rfl ⟨rfl,rfl,trivial⟩ trivial rfl (fun _=>rfl) (⟨qQ _,RVs.nil _,zaO.nil _ _⟩) ?_;rintro⟨i,vs,w,ow⟩ G1 hG1 ⟨hi,hvs,hown⟩;dsimp only at hi hvs hown;refine uR ?_;refine EV.cond rfl (fun hlt=>?_) (fun hlt=>?_)
 ·simp only[nN]at hlt;refine uR ?_;refine EV.cond rfl (fun hll=>?_) (fun hll=>?_)
  ·simp only[nN]at hll;obtain⟨z,hzi⟩:=gE hll;have hzb:=hb z (qF hzi);have hq:=zp6 hlt hzi;refine uR ?_;refine vI ((h.mono hG1)) (i) (rfl) (hll) ((by rw[qK,hzi];rfl)) ?_;refine uR ?_;refine vA (zu1 z hzb) ?_;rintro r G2 hr hG2;obtain⟨xa,xl,xc,ya,yl,yc,rfl,hx1,hx2⟩:=id hr;refine uR ?_;refine EVL.app1 tO rfl rfl rfl rfl rfl rfl rfl rfl rfl rfl rfl rfl rfl rfl rfl rfl rfl rfl rfl (fun _=>rfl) (ow) ([]) ((qG _).symm) (hown) oM fun _=>?_;intro v' ow' hown';refine uR ?_;refine⟨(i+1,vs++[_],v',ow'),⟨rfl,?_,trivial⟩,sB,trivial,trivial,qG _,⟨hlt,by rw[zan hq];exact(hvs.mono hG2).snoc hr,?_⟩,hG2,by dsimp only;omega⟩
   ·rw[zad i (by omega)];rfl
   ·dsimp only;rw[List.flatMap_append];exact hown'
  ·simp only[nN]at hll;have hzi:l[i]?=none:=qg oM;have hq:=zp5 hlt hzi;refine uR ?_;refine vA (hz0 _) ?_;rintro r G2 hr hG2;obtain⟨xa,xl,xc,ya,yl,yc,rfl,hx1,hx2⟩:=id hr;refine uR ?_;refine EVL.app1 tO rfl rfl rfl rfl rfl rfl rfl rfl rfl rfl rfl rfl rfl rfl rfl rfl rfl rfl rfl (fun _=>rfl) (ow) ([]) ((qG _).symm) (hown) oM fun _=>?_;intro v' ow' hown';refine uR ?_;refine⟨(i+1,vs++[_],v',ow'),⟨rfl,?_,trivial⟩,sB,trivial,trivial,qG _,⟨hlt,by rw[zan hq];exact(hvs.mono hG2).snoc hr,?_⟩,hG2,by dsimp only;omega⟩
   ·rw[zad i (by omega)];rfl
   ·dsimp only;rw[List.flatMap_append];exact hown'
 ·simp only[nN]at hlt;obtain rfl:i=n:=oM;(first|refine EVL.publishL [] ow [] ((qG _).symm) hown fun G2 hG2 hs=>?_|refine EV.publishL [] ow [] ((qG _).symm) hown fun G2 hG2 hs=>?_);refine uR ?_;have e:(zkc l i).take i=zkc l i:=qO (by rw[zeR];exact qH _);rw[e]at hvs;exact(hvs.mono hG2).rl (by rw[zeR];exact hs)
theorem zsf {n:Nat} (h:n≤100000):ht ((n:Int):Rat)≤20:=by
 have:=zbG (n:Int);have h2:bl (n:Int).natAbs≤17:=zaU oM;omega
def zuX (n:Int) (d:Nat):Int :=
 let q:=n / (d:Int)
 let r:=n % (d:Int)
 if zgK (r+r) d=0 then (if q % 2=0 then q else q+1) else if 0<zgK (r+r) d then q+1 else q
def kb (z:Int):Nat:=(max 0 (min z 256)).toNat
def nr (k:Nat) (a:Rat):Rat:=mkRat (zuX (a.num*(2 ^ k:Nat)) a.den) (2 ^ k)
theorem zpc (n d:Int) (h:d≠0):ht (Rat.divInt n d)≤max (bl n.natAbs) (bl d.natAbs):=by
 rw[zjy n d h];refine qI (zrg _ _ oM) ?_;have:(if d<0 then -n else n).natAbs=n.natAbs:=by split <;> simp
 rw[this];exact qH _
theorem zix (z:Int):ht (zgR z)≤5:=by
 unfold zgR;have hrd:=zfg (z.tdiv 41 % 6).toNat
 have m1:=Int.emod_nonneg z (show (41:Int)≠0 by omega);have m2:=Int.emod_lt_of_pos z (show (0:Int)<41 by omega);refine qI (zpc _ _ oM) (Nat.max_le.2 ⟨zaU oM,zaU oM⟩)
theorem zp9 {H:Hp} {w:Value} {p:Rat} (hw:RQ H w p) (hp:rq p):PC prog 103 #[zaa p,w] H fun r _=>r=.bool true:=by
 have:=ztE hw hp hp
 rwa [qD rfl]at this
theorem zc5 {q:Rat} {k:Nat} (h:ht q≤k) (hk:k≤100000000):rq q:=qI h hk
theorem zvg (a:Rat):frV (a.num.natAbs:Int) (dk a.den)=zaa (if a.num<0 then -a else a):=by
 unfold zaa;split
 ·rename_i h;rw[Rat.neg_num,Rat.neg_den];congr 1;omega
 ·rename_i h;congr 1;omega
theorem zs3 (a:Rat):ht (if a.num<0 then -a else a)=ht a:=by split;exact zpd a;rfl
section
variable {P:Program} {n:Nat} {ops:Array Oper} {o:Oper} {rest:List Oper} {env:Env} {bx:Bxs} {H:Hs} {Q:EQ} {τ:Tab} {d:Nat}
end
theorem zpL (a:Rat):zcr a a=0:=by unfold zcr;rw[if_neg Rat.lt_irrefl,if_neg Rat.lt_irrefl]
theorem zug (a b:Rat) (ha:sm a) (hb:sm b) (h:a=b):PV prog 29 #[zaa a,zaa b] (.int .i64 0):=by
 subst h;have:=zbF a a ha hb
 rwa [zpL]at this
def zqI (a:Rat):Rat:=if a.num<0 then -a else a
theorem zs2 (a:Rat):ht (zqI a)=ht a:=zs3 a
theorem zsF (a:Rat) (h:sm a):PV prog 23 #[zaa a] (zaa (zqI a)):=by
 have:=zua a (qI (zcj a) (qI h oM))
 rwa [zvg]at this
theorem zmz (a b:Rat):zcr a b>0↔b<a:=by
 unfold zcr;constructor
 ·intro h;split at h
  ·exact absurd h (by decide)
  ·split at h
   ·assumption
   ·exact absurd h (by decide)
 ·intro h;rw[if_neg (Rat.not_lt.2 (Rat.le_of_lt h)),if_pos h];decide
theorem zqO (a:Rat):0≤zqI a:=by
 unfold zqI;split
 ·rename_i h;rw[←Rat.num_nonneg,Rat.neg_num];omega
 ·rename_i h;rw[←Rat.num_nonneg];omega
theorem zbN:zaa 0=.agg #[.bool false,.int .u64 0,.string ⟨#[]⟩,.int .u64 0,.string ⟨#[]⟩]:=by
 show frV 0 0=_;rw[zdJ,show (0:Int).natAbs=0 from rfl,zbP (n:=0) (by decide)];rfl
theorem zar:zac (zaa 0)=[.bool false,.int .u64 0,.string ⟨#[]⟩,.int .u64 0,.string ⟨#[]⟩]:=by rw[zbN];rfl
theorem zai {q:Rat} {n:Nat} (h:ht q≤n) (hn:n≤100000000):sm q:=qI h hn
theorem zsu {H:Hp} {v:Value} {l:List Rat} (h:QL H v l) (hl:l.length≤100000) (hb:∀q,q∈l→ht q≤100):PC prog 155 #[v] H fun r _=>r=zaa (zaR l):=by
 obtain⟨a,cap,rfl⟩:=SlC.val h;have hz:zac (zaa (zaR (l.take 0)))=[.bool false,.int .u64 0,.string ⟨#[]⟩,.int .u64 0,.string ⟨#[]⟩]:=zar;refine BD func155 ntmps155 ?_;refine uR ?_;refine EV.loopK (ι:=Nat) [2,3,6,7] [2] (fun i=>[(8,.v (.int .i64 (i:Int)))]) (fun i=>[(3,51,zac (zaa (zaR (l.take i))))]) (fun _=>[]) (fun i G=>i≤l.length) (fun i=>l.length-i) (0) rfl rfl ⟨rfl,trivial⟩ ⟨by rw[hz];rfl,trivial⟩ rfl (fun _=>rfl) (qQ _) ?_;intro i G1 hG1 hi;refine uR ?_;refine EV.cond rfl (fun hlt=>?_) (fun hlt=>?_)
 ·simp only[nN]at hlt;obtain⟨q,hqi⟩:=gE hlt;have hqb:=hb q (qF hqi);have hsb:=zfu 100 (l.take i) (fun q hq=>hb q (List.mem_of_mem_take hq));rw[qP,qp hi]at hsb;have hadd:=zdf (zaR (l.take i)) q (zai hsb oM) (zai hqb oM);rw[←zby,←zan hqi]at hadd;refine uR ?_;refine EVL.idxM tO rfl rfl rfl rfl rfl rfl rfl rfl rfl ((SlC.mono (show SlC H (.slice a l.length cap) l.length 5 (l.flatMap fun q=>zac (zaa q)) from h) hG1)) (i) (rfl) (hlt) ((QL.at (H:=H) (v:=.slice a l.length cap) hqi)) ?_
  repeat (first|refine RUN ?_|refine CV (hadd) ?_|refine CE (hadd) ?_)
  refine⟨i+1,⟨?_,trivial⟩,sB,⟨rfl,trivial⟩,sB,rfl,hlt,Hp.Le.refl _,by omega⟩;rw[zad i (by omega)];rfl
 ·simp only[nN]at hlt;obtain rfl:i=l.length:=oM;rw[qb];refine uR ?_;rfl
theorem ztf {H:Hp} {v:Value} {l:List Rat} (h:QL H v l) (hl:l.length≤100000) (h0:l.length≠0) (hb:∀q,q∈l→ht q≤100):PC prog 104 #[v] H fun r _=>r=.tuple #[zaa (zaR l / ((l.length:Int):Rat)),.bool true]:=by
 obtain⟨a,cap,rfl⟩:=SlC.val h;have hs:=zfu 100 l hb;have hln:=zsf hl;have hsum:=zsu h hl hb;have hof:=zec (l.length:Int) oM oM;have hd:=zjA (zaR l) ((l.length:Int):Rat) (zai hs oM) (zai hln oM) (by intro e;have:((l.length:Int):Rat)=((0:Int):Rat):=e;exact h0 (by have:=Rat.intCast_inj.1 this;omega));refine BD func104 ntmps104 ?_
 repeat (first|refine RUN ?_|refine CV (hsum) ?_|refine CV (hof) ?_|refine CV (hd) ?_|refine CE (hsum) ?_|refine CE (hof) ?_|refine CE (hd) ?_)
 rfl
theorem zte {H:Hp} {v:Value} (h:QL H v []):PC prog 104 #[v] H fun r _=>r=.tuple #[zaa 0,.bool false]:=by
 obtain⟨a,cap,rfl⟩:=SlC.val h;have hsum:=zsu h (qQ _) (by intro q hq;cases hq);have hof:=zec 0 oM oM;rw[show ((0:Int):Rat)=0 from rfl]at hof;have hd:=zk7 0;refine BD func104 ntmps104 ?_
 repeat (first|refine RUN ?_|refine CV (hsum) ?_|refine CV (hof) ?_|refine CV (hd) ?_|refine CE (hsum) ?_|refine CE (hof) ?_|refine CE (hd) ?_)
 rfl
abbrev zt2:Value:=.func (.func 29) #[] #[]
abbrev zak (l:List Rat):List Value:=l.flatMap fun q=>zac (zaa q)
theorem zhD {l:List Rat} (sp:List Value) {j:Nat} {q:Rat} (h:l[j]?=some q):((zak l++sp).drop (j*5)).take 5=zac (zaa q):=zjC (f:=fun q=>zac (zaa q)) (fun _ _=>rfl) sp h
theorem zhE {l:List Rat} (sp:List Value) {j:Nat} (q:Rat) (h:j<l.length):(zak l++sp).take (j*5)++zac (zaa q)++(zak l++sp).drop (j*5+5)=zak (l.set j q)++sp:=zft (f:=fun q=>zac (zaa q)) (fun _ _=>rfl) sp q h
theorem zds (l:List Rat):(zak l).length=l.length*5:=flat_len _ 5 l (fun _ _=>rfl)
theorem zuZ {acc rest:List Rat} {j:Nat} {x:Rat} (h:j≤acc.length):(zaM acc j x++rest)[j]?=some x:=by
 unfold zaM;rw[qZ,qL (by rw[qP];omega),qP,qp h,Nat.sub_self];rfl
theorem zu0 {acc rest:List Rat} {j:Nat} {x y:Rat} (h:acc[j]?=some y):(zaM acc (j+1) x++rest)[j]?=some y:=by
 obtain⟨hl,_⟩:=qE.1 h;unfold zaM;rw[qZ,qM (by rw[qP];omega),List.getElem?_take_of_lt oM,h]
theorem ztq {acc rest:List Rat} {j:Nat} {x:Rat}:(zaM acc j x++rest).length=acc.length+1+rest.length:=by
 have:=(zcd acc j x).length_eq;rw[qJ,this,qJ];rfl
theorem zmE {acc rest:List Rat} {j:Nat} {x y:Rat} (h:acc[j]?=some y):((zaM acc (j+1) x++rest).set (j+1) y).set j x=zaM acc j x++rest:=by
 obtain⟨hl,hy⟩:=qE.1 h;have hlen:(acc.take j).length=j:=by rw[qP];omega
 unfold zaM;rw[qS hl,hy,qt hl,hy]
 rw[show (acc.take j++[y]++x::acc.drop (j+1)++rest)=acc.take j++(y::x::(acc.drop (j+1)++rest)) by simp,
  List.set_append_right (j+1) y oM,hlen,show j+1-j=1 by omega,List.set_cons_succ,List.set_cons_zero,
  List.set_append_right j x oM,hlen,Nat.sub_self,List.set_cons_zero]
 simp
theorem zpX (acc rest:List Rat) (x:Rat):zaM acc acc.length x++rest=acc++x::rest:=by
 unfold zaM;rw[qb,List.drop_length];simp
theorem zjH {H:Hp} {b cap:Nat} {l:List Rat} {sp:List Value} (hl:l.length≤1000) (hb:∀q,q∈l→sm q) :
  PW prog 223 #[.slice (some ⟨b,0,none⟩) l.length cap,.int .i64 0,.int .i64 (l.length:Int),zt2] H [(b,51,zak l++sp)] fun v ow _=>v=.tuple #[]∧∃m,ow=[(b,51,zak m++sp)]∧m.Perm l∧zbJ m:=by
 refine PW.body tO func223 rfl kR ntmps223 rfl rfl ?_;refine uR ?_;refine EV.loopK (ι:=Nat × List Rat) [0,1,2,3] [] (fun q=>[(8,.v (.int .i64 (q.1:Int)))]) (fun _=>[]) (fun q=>[(b,51,zak q.2++sp)]) (fun q _=>1≤q.1∧q.2.Perm l∧zbJ (q.2.take q.1)) (fun q=>l.length-q.1) ((1,l)) rfl rfl ⟨rfl,trivial⟩ trivial rfl (fun _=>rfl) (⟨qH _,List.Perm.refl _,by cases l with | nil=>exact List.Pairwise.nil | cons a l=>exact List.pairwise_singleton _ _⟩) ?_;rintro⟨i,cur⟩ G1 hG1 ⟨h1,hperm,hris⟩;dsimp only at h1 hperm hris;have hcl:=hperm.length_eq;refine uR ?_;refine EV.cond rfl (fun hlt=>?_) (fun hlt=>?_)
 ·simp only[nN]at hlt;obtain⟨x,hxi⟩:∃x,cur[i]?=some x:=⟨_,qA oM⟩;have hcut:cur=cur.take i++x::cur.drop (i+1):=by rw[←zk8 hxi,List.take_append_drop]
  have hal:(cur.take i).length=i:=by rw[qP];omega
  have hsmx:sm x:=hb x (hperm.mem_iff.1 (qF hxi));have hsma:∀y,y∈cur.take i→sm y:=fun y hy=>hb y (hperm.mem_iff.1 (List.mem_of_mem_take hy));have hrl:(cur.drop (i+1)).length=l.length-(i+1):=by rw[qu];omega
  have hst:=zpX (cur.take i) (cur.drop (i+1)) x;rw[hal,←hcut]at hst;generalize hacc:cur.take i=acc at *
  generalize cur.drop (i+1)=rest at *
  subst hal;subst hst;refine uR ?_;refine EV.loopK (ι:=Nat) [0,1,2,3,8] [] (fun j=>[(9,.v (.int .i64 (j:Int)))]) (fun _=>[]) (fun j=>[(b,51,zak (zaM acc j x++rest)++sp)]) (fun j _=>j≤acc.length∧∀y,y∈acc.drop j→x≤y) (fun j=>j) (acc.length) rfl rfl ⟨rfl,trivial⟩ trivial rfl (fun _=>rfl) (⟨qH _,by rw[List.drop_length];intro y hy;cases hy⟩) ?_;rintro j G2 hG2 ⟨hj,hgr⟩;have hlen:=ztq (acc:=acc) (rest:=rest) (j:=j) (x:=x);have hx':=zuZ (rest:=rest) (x:=x) hj;have hp':=zcd acc j x;have hsum:(zaM acc j x++rest).length=l.length:=by rw[hlen];omega
  rw[←hsum]
  have next:(zaM acc j x++rest).Perm l:=by
   refine List.Perm.trans ?_ hperm;exact(hp'.trans (zcd acc acc.length x).symm).append_right rest
  have fin:zbJ (zaM acc j x)→zbJ ((zaM acc j x++rest).take (acc.length+1)):=fun h=>by
   rw[List.take_append_of_le_length (by rw[hp'.length_eq];simp)]
   rwa [qO (by rw[hp'.length_eq];simp)]
  cases j with
  | zero =>
   have hr:=fin (zdB hris (by intro y hy;rw[List.take_zero]at hy;cases hy) hgr);refine uR ?_;apply EV.drawn 17 kR kR;intro xv yw;(repeat refine' DD ?_);(refine DJ.nil (fun G3 hG3 hF3=>?_);(case hS|hS2=>rfl));refine uR ?_;refine⟨(acc.length+1,zaM acc 0 x++rest),⟨?_,trivial⟩,sB,trivial,trivial,rfl,⟨by omega,next,hr⟩,hG2.trans hG3,by dsimp only;omega⟩;rw[zad _ (by omega)];rfl
  | succ j =>
   obtain⟨y,hyj⟩:∃y,acc[j]?=some y:=⟨_,qA oM⟩;have hy':=zu0 (rest:=rest) (x:=x) hyj;have hc:=zbF x y hsmx (hsma y (qF hyj))
   have hlo:zcr x y<0→x≤y:=fun h=>by
    unfold zcr at h;split at h
    ·exact Rat.le_of_lt (by assumption)
    ·split at h <;> omega
   have hge:¬zcr x y<0→y≤x:=fun h=>by
    unfold zcr at h;split at h
    ·omega
    ·rename_i k;exact Rat.not_lt.1 k
   generalize zcr x y=o at *
   refine uR ?_;apply EV.drawn 17 kR kR;intro xv yw;(repeat refine' DD ?_);rw[qD (show ((j+1:Nat):Int)>0 by omega)];(repeat refine' DD ?_);refine' DJ.idxB tO rfl rfl rfl rfl rfl rfl rfl rfl rfl (j+1) ((j+1)*5) (rfl) (oM) (rfl) ?_;rotate_left;refine' DJ.ofVal (zab.loadOwn tO rfl rfl rfl rfl (0) rfl (zhD sp hx') rfl rfl) rfl rfl rfl ?_;rotate_left;(repeat refine' DD ?_);refine' DJ.idxB tO rfl rfl rfl rfl rfl rfl rfl rfl rfl (j) (j*5) ((by rw[pM];omega)) (oM) (rfl) ?_;rotate_left;refine' DJ.ofVal (zab.loadOwn tO rfl rfl rfl rfl (0) rfl (zhD sp hy') rfl rfl) rfl rfl rfl ?_;rotate_left;(refine' DJ.callD rfl rfl rfl rfl rfl rfl hc ?_;rotate_left);(repeat refine' DD ?_);(refine DJ.nil (fun G3 hG3 hF3=>?_);(case hS|hS2=>rfl));refine uR ?_;by_cases ho:o<0
   ·rw[qD ho];have hxy:=hlo ho;refine uR ?_;refine EVA.start kR ?_;refine EVA.val tO (0) rfl kR kR kR rfl rfl rfl rfl rfl ?_;refine EVA.val tO (1) rfl kR kR kR rfl rfl rfl rfl rfl ?_;refine EVA.val tO (5) rfl kR kR kR rfl rfl rfl rfl rfl ?_;refine EVA.val tO (6) rfl kR kR kR rfl rfl rfl rfl rfl ?_;refine EVA.val tO (7) rfl kR kR kR rfl rfl rfl rfl rfl ?_;refine EVA.idxB tO (8) rfl kR kR kR rfl rfl rfl rfl rfl rfl rfl rfl rfl (j) (j*5) ((by rw[pM];omega)) (oM) (rfl) ?_;refine EVA.val tO (10) rfl kR kR kR rfl rfl rfl rfl rfl ?_;refine EVA.val tO (11) rfl kR kR kR rfl rfl rfl rfl rfl ?_;refine EVA.idxB tO (12) rfl kR kR kR rfl rfl rfl rfl rfl rfl rfl rfl rfl (j+1) ((j+1)*5) (rfl) (oM) (rfl) ?_;refine EVA.val tO (2) rfl kR kR kR rfl rfl rfl rfl rfl ?_;refine EVA.val tO (3) rfl kR kR kR rfl rfl rfl rfl rfl ?_;refine EVA.val tO (4) rfl kR kR kR rfl rfl rfl rfl rfl ?_;refine EVA.two 9 13 kR rfl rfl ?_ ?_
    ·refine EVL.loadOwn tO rfl rfl rfl rfl rfl rfl (0) rfl (zhD sp hy') rfl rfl ?_;refine EVL.nil ⟨rfl,?_⟩;refine EVA.one 13 kR rfl ?_;refine EVL.loadOwn tO rfl rfl rfl rfl rfl rfl (0) rfl (zhD sp hx') rfl rfl ?_;refine EVL.nil ⟨rfl,?_⟩;refine EVA.idxB tO (14) rfl kR kR kR rfl rfl rfl rfl rfl rfl rfl rfl rfl (j+1) ((j+1)*5) (rfl) (oM) (rfl) ?_;refine EVA.one 15 kR rfl ?_;refine EVL.storeOwn tO rfl rfl rfl rfl rfl rfl ([]) ([]) rfl rfl rfl rfl ((by rw[qJ,zds];show (j+1)*5+5≤_;omega)) ((zhE sp y (show j+1<(zaM acc (j+1) x++rest).length by omega))) ?_;refine EVL.nil ⟨rfl,?_⟩;refine EVA.idxB tO (16) rfl kR kR kR rfl rfl rfl rfl rfl rfl rfl rfl rfl (j) (j*5) ((by rw[pM];omega)) (oM) (rfl) ?_;refine EVA.one 17 kR rfl ?_;refine EVL.storeOwn tO rfl rfl rfl rfl rfl rfl ([]) ([]) rfl rfl rfl rfl ((by rw[qJ,zds,List.length_set];show j*5+5≤_;omega)) ((zhE sp x (show j<((zaM acc (j+1) x++rest).set (j+1) y).length by rw[List.length_set];omega))) ?_;refine EVL.nil ⟨rfl,?_⟩;refine EVA.nil kR ?_;rw[zmE hyj];refine uR ?_;refine⟨j,⟨?_,trivial⟩,sB,trivial,trivial,rfl,⟨by omega,?_⟩,hG3,by omega⟩
     ·rw[show IntKind.i64.wrap (((j+1:Nat):Int)-1)=(j:Int) by rw[pM];omega];rfl
     ·intro z hz;rw[zk8 hyj]at hz;rcases List.mem_cons.1 hz with rfl | hz
      ·exact hxy
      ·exact hgr z hz
    ·refine EVL.loadOwn tO rfl rfl rfl rfl rfl rfl (0) rfl (zhD sp hx') rfl rfl ?_;refine EVL.nil ⟨rfl,?_⟩;refine EVA.one 9 kR rfl ?_;refine EVL.loadOwn tO rfl rfl rfl rfl rfl rfl (0) rfl (zhD sp hy') rfl rfl ?_;refine EVL.nil ⟨rfl,?_⟩;refine EVA.idxB tO (14) rfl kR kR kR rfl rfl rfl rfl rfl rfl rfl rfl rfl (j+1) ((j+1)*5) (rfl) (oM) (rfl) ?_;refine EVA.one 15 kR rfl ?_;refine EVL.storeOwn tO rfl rfl rfl rfl rfl rfl ([]) ([]) rfl rfl rfl rfl ((by rw[qJ,zds];show (j+1)*5+5≤_;omega)) ((zhE sp y (show j+1<(zaM acc (j+1) x++rest).length by omega))) ?_;refine EVL.nil ⟨rfl,?_⟩;refine EVA.idxB tO (16) rfl kR kR kR rfl rfl rfl rfl rfl rfl rfl rfl rfl (j) (j*5) ((by rw[pM];omega)) (oM) (rfl) ?_;refine EVA.one 17 kR rfl ?_;refine EVL.storeOwn tO rfl rfl rfl rfl rfl rfl ([]) ([]) rfl rfl rfl rfl ((by rw[qJ,zds,List.length_set];show j*5+5≤_;omega)) ((zhE sp x (show j<((zaM acc (j+1) x++rest).set (j+1) y).length by rw[List.length_set];omega))) ?_;refine EVL.nil ⟨rfl,?_⟩;refine EVA.nil kR ?_;rw[zmE hyj];refine uR ?_;refine⟨j,⟨?_,trivial⟩,sB,trivial,trivial,rfl,⟨by omega,?_⟩,hG3,by omega⟩
     ·rw[show IntKind.i64.wrap (((j+1:Nat):Int)-1)=(j:Int) by rw[pM];omega];rfl
     ·intro z hz;rw[zk8 hyj]at hz;rcases List.mem_cons.1 hz with rfl | hz
      ·exact hxy
      ·exact hgr z hz
   ·rw[qC ho];have hr:=fin (zdB hris (zgX hris hyj (hge ho)) hgr);refine uR ?_;refine⟨(acc.length+1,zaM acc (j+1) x++rest),⟨?_,trivial⟩,sB,trivial,trivial,rfl,⟨by omega,next,hr⟩,hG2.trans hG3,by dsimp only;omega⟩;rw[zad _ (by omega)];rfl
 ·simp only[nN]at hlt;rw[qO (by omega)]at hris;refine uR ?_;exact⟨rfl,cur,rfl,hperm,hris⟩
theorem zfP:∀{a b:List Value},zed a=true→zed b=true→zed (a++b)=true
 | [],_,_,h=>h
 | v::a,b,h,k=>by
  unfold zed at h;rw[List.cons_append];unfold zed;rw[Bool.and_eq_true]at h ⊢;exact⟨h.1,zfP h.2 k⟩
theorem zpG:∀l:List Rat,zed (zak l)=true
 | []=>rfl
 | q::l=>zfP (a:=zac (zaa q)) rfl (zpG l)
theorem zhz (n:Nat) (h:n≤1000):∃z:Int,PV prog 197 #[.int .u64 (n:Int)] (.int .i64 z) :=
 ⟨_,(cO func197),fun W _=>(Tryz.bits_Len (n:Int) W oM oM).mono fun e W' ⟨he,hw⟩=>⟨he,by rw[hw];exact Below.refl _ _⟩⟩
theorem ziz (a:Option Addr) (cap:Nat):PV prog 223 #[.slice a 0 cap,.int .i64 0,.int .i64 0,zt2] (.tuple #[]):=by
 refine PV.of_pc ?_;refine BD func223 ntmps223 ?_;refine uR ?_;refine EV.loopK (ι:=Unit) [0,1,2,3] [] (fun _=>[(8,.v (.int .i64 1))]) (fun _=>[]) (fun _=>[]) (fun _ _=>True) (fun _=>0) (()) rfl rfl ⟨rfl,trivial⟩ trivial rfl (fun _=>rfl) (trivial) ?_;rintro⟨⟩ G1 hG1 _;refine uR ?_;rfl
theorem ztm (a:Option Addr) (cap:Nat) (z:Int):PV prog 196 #[.slice a 0 cap,.int .i64 0,.int .i64 0,.int .i64 z,zt2] (.tuple #[]):=by
 refine PV.of_pc ?_;have hi:=ziz a cap;refine BD func196 ntmps196 ?_;refine uR ?_;refine EV.loopK (ι:=Unit) [0,4] [] (fun _=>[(1,.v (.int .i64 0)),(2,.v (.int .i64 0)),(3,.v (.int .i64 z)),(10,.v (.bool true)),(11,.v (.bool true))]) (fun _=>[]) (fun _=>[]) (fun _ _=>True) (fun _=>0) (()) rfl rfl ⟨rfl,rfl,rfl,rfl,rfl,trivial⟩ trivial rfl (fun _=>rfl) (trivial) ?_;rintro⟨⟩ G1 hG1 _
 repeat (first|refine RUN ?_|refine CV (hi) ?_|refine CE (hi) ?_)
 rfl
theorem zko (a:Option Addr) (cap:Nat):PV prog 157 #[.slice a 0 cap,zt2] (.tuple #[]):=by
 refine PV.of_pc ?_;obtain⟨z,hb⟩:=zhz 0 oM;have hp:=ztm a cap z;refine BD func157 ntmps157 ?_
 repeat (first|refine RUN ?_|refine CV (hb) ?_|refine CV (hp) ?_|refine CE (hb) ?_|refine CE (hp) ?_)
 rfl
theorem zut {H:Hp} {b cap:Nat} {l:List Rat} {sp:List Value} (z:Int) (hl:l.length≤12) (hb:∀q,q∈l→sm q) :
  PW prog 196 #[.slice (some ⟨b,0,none⟩) l.length cap,.int .i64 0,.int .i64 (l.length:Int),.int .i64 z,zt2] H [(b,51,zak l++sp)] fun v ow _=>v=.tuple #[]∧∃m,ow=[(b,51,zak m++sp)]∧m.Perm l∧zbJ m:=by
 refine PW.body tO func196 rfl kR ntmps196 rfl rfl ?_;refine uR ?_;refine EV.loopK (ι:=Unit) [0,4] [] (fun _=>[(1,.v (.int .i64 0)),(2,.v (.int .i64 (l.length:Int))),(3,.v (.int .i64 z)),(10,.v (.bool true)),(11,.v (.bool true))]) (fun _=>[]) (fun _=>[(b,51,zak l++sp)]) (fun _ _=>True) (fun _=>0) (()) rfl rfl ⟨rfl,rfl,rfl,rfl,rfl,trivial⟩ trivial rfl (fun _=>rfl) (trivial) ?_;rintro⟨⟩ G1 hG1 _;refine uR ?_;rw[show IntKind.i64.wrap ((l.length:Int)-0)=(l.length:Int) by rw[pM];omega,qD (show (l.length:Int)≤12 by omega)];refine uR ?_;refine EVL.callW rfl rfl rfl rfl rfl ([(b,51,zak l++sp)]) ([]) rfl (zjH oM hb) ?_;rintro v ow G2 ⟨rfl,m,rfl,hp,hr⟩ hG2;refine uR ?_;exact⟨rfl,m,rfl,hp,hr⟩
theorem zrS {H:Hp} {b cap:Nat} {l:List Rat} {sp:List Value} (hl:l.length≤12) (hb:∀q,q∈l→sm q) :
  PW prog 157 #[.slice (some ⟨b,0,none⟩) l.length cap,zt2] H [(b,51,zak l++sp)] fun v ow _=>v=.tuple #[]∧∃m,ow=[(b,51,zak m++sp)]∧m.Perm l∧zbJ m:=by
 obtain⟨z,hbl⟩:=zhz l.length oM;refine PW.body tO func157 rfl kR ntmps157 rfl rfl ?_;refine uR ?_;rw[show IntKind.u64.wrap (l.length:Int)=(l.length:Int) by rw[zaq];omega]
 repeat (first|refine RUN ?_|refine CV (hbl) ?_|refine CE (hbl) ?_)
 refine vW ([(b,51,zak l++sp)]) ([]) (zut z hl hb) ?_;rintro v ow G2 ⟨rfl,m,rfl,hp,hr⟩ hG2;refine uR ?_;exact⟨rfl,m,rfl,hp,hr⟩
theorem zl6 {H:Hp} {v:Value} {l:List Rat} (h:QL H v l) (h0:0<l.length) (hl:l.length≤1000):PW prog 107 #[v] H [] fun r ow _=>zaO 51 5 r l.length (zak l) ow:=by
 have hs:=h.2;rcases hs with ⟨e,_⟩ | ⟨b,off,cap,c,rfl,_⟩
 ·omega
 ·refine PW.body tO func107 rfl kR ntmps107 rfl rfl ?_;refine uR ?_;refine EVL.eqnil tO rfl rfl rfl rfl rfl rfl rfl ?_;refine uR ?_;refine EVL.lit0 tO rfl rfl rfl rfl rfl rfl rfl fun g0=>?_;refine uR ?_;refine EVL.append tO rfl rfl rfl rfl rfl rfl rfl rfl rfl rfl rfl rfl [] [(g0,51,[])] [] rfl (zaO.full (m:=0) rfl oM) (zdj.ro h h0) (zpG l) oM ?_;intro v1 ow1 hown1;refine uR ?_;rw[qv]at hown1;rw[qG];exact hown1
theorem zoN {H:Hp} {v:Value} (h:QL H v []):PC prog 107 #[v] H fun r _=>∃a cap,r=.slice a 0 cap:=by
 obtain⟨a,cap,rfl⟩:=SlC.val h;refine BD func107 ntmps107 ?_;refine uR ?_;refine EVL.eqnil tO rfl rfl rfl rfl rfl rfl rfl ?_
 cases a with
 | none =>
  refine uR ?_;exact⟨_,_,rfl⟩
 | some x =>
  refine uR ?_;refine EVL.lit0 tO rfl rfl rfl rfl rfl rfl rfl fun g0=>?_;refine uR ?_;refine EVL.append0 tO rfl rfl rfl rfl rfl rfl rfl rfl rfl (qH _) ?_;refine uR ?_;exact⟨_,_,rfl⟩
theorem zrR {H:Hp} {v:Value} (h:QL H v []):PC prog 105 #[v] H fun r H'=>QL H' r []:=by
 obtain⟨a,cap,rfl⟩:=SlC.val h;refine BD func105 ntmps105 ?_;refine uR ?_;refine vA (zoN h) ?_;rintro r G1 ⟨a1,c1,rfl⟩ hG1
 repeat (first|refine RUN ?_|refine CV (zko a1 c1) ?_|refine CE (zko a1 c1) ?_)
 exact⟨rfl,.inl ⟨rfl,_,_,rfl⟩⟩
theorem ztL {H:Hp} {v:Value} {l:List Rat} (h:QL H v l) (hl:l.length≤12) (hb:∀q,q∈l→sm q):PC prog 105 #[v] H fun r H'=>∃m,QL H' r m∧m.Perm l∧zbJ m:=by
 by_cases h0:l.length=0
 ·obtain rfl:=pK.1 h0;exact(zrR h).mono fun r H' hr _=>⟨[],hr,List.Perm.refl _,List.Pairwise.nil⟩
 obtain⟨a,cap,rfl⟩:=SlC.val h;refine BD func105 ntmps105 ?_;refine uR ?_;refine EVL.callW rfl rfl rfl rfl rfl ([]) ([]) rfl (zl6 h oM oM) ?_;intro r ow G1 hown hG1;obtain⟨g,cap1,sp,rfl,rfl,hlen,hc1,hc2⟩:=hown.block oM;refine uR ?_;refine vW ([(g,51,zak l++sp)]) ([]) (zrS hl hb) ?_;rintro v ow G2 ⟨rfl,m,rfl,hp,hr⟩ hG2;(first|refine EVL.publish [] [] rfl fun G3 hG3 hg=>?_|refine EV.publish [] [] rfl fun G3 hG3 hg=>?_);refine uR ?_;refine⟨m,⟨by rw[zds],.inr ⟨g,0,cap1,_,by rw[hp.length_eq],by rw[hp.length_eq];exact hc1,hg,fun j x hj=>?_⟩⟩,hp,hr⟩;rw[qv,List.getElem?_toArray,qM (qE.1 hj).1];exact hj
def zaz (n:Int) (cs:List Int) (sq:Int) (q:Rat):List Value:=.int .i64 n::(cs.map (fun z=>Value.int .i64 z)++(.int .i64 sq::zac (zaa q)))
theorem zas {n:Int} {cs:List Int} {sq:Int} {q:Rat} (h:cs.length=12):(zaz n cs sq q).length=19:=by
 unfold zaz;rw[qR,qJ,qV,h];rfl
theorem zir {α:Type} {a b:List α} {k:Nat} (h:a.length=k):(a++b).drop k=b:=List.drop_left' h
theorem zcy {n:Int} {cs:List Int} {sq:Int} {q:Rat}:((zaz n cs sq q).drop 0).take 1=[.int .i64 n]:=rfl
theorem zce {n n':Int} {cs:List Int} {sq:Int} {q:Rat}:(zaz n cs sq q).take 0++[.int .i64 n']++(zaz n cs sq q).drop (0+1)=zaz n' cs sq q:=rfl
theorem zbS (n:Int) (cs:List Int) (sq:Int) (q:Rat):zaz n cs sq q=(.int .i64 n::cs.map (fun z=>Value.int .i64 z))++(.int .i64 sq::zac (zaa q)):=rfl
theorem zfm {n:Int} {cs:List Int} {sq:Int} {q:Rat} (h:cs.length=12):((zaz n cs sq q).drop 13).take 1=[.int .i64 sq]:=by
 rw[zbS,zir (by rw[qR,qV,h])];rfl
theorem zek {n:Int} {cs:List Int} {sq sq':Int} {q:Rat} (h:cs.length=12):(zaz n cs sq q).take 13++[.int .i64 sq']++(zaz n cs sq q).drop (13+1)=zaz n cs sq' q:=by
 have e:(zaz n cs sq q).drop (13+1)=zac (zaa q):=by
  rw[←List.drop_drop,zbS,zir (by rw[qR,qV,h])];rfl
 rw[e,zbS,List.take_left' (by rw[qR,qV,h]),zbS];simp
theorem zeV {n:Int} {cs:List Int} {sq:Int} {q:Rat} (h:cs.length=12):((zaz n cs sq q).drop 14).take 5=zac (zaa q):=by
 have e:(zaz n cs sq q).drop (13+1)=zac (zaa q):=by
  rw[←List.drop_drop,zbS,zir (by rw[qR,qV,h])];rfl
 rw[e];rfl
theorem zdC {n:Int} {cs:List Int} {sq:Int} {q q':Rat} (h:cs.length=12):(zaz n cs sq q).take 14++zac (zaa q')++(zaz n cs sq q).drop (14+5)=zaz n cs sq q':=by
 have hl:=zas (n:=n) (sq:=sq) (q:=q) h;have e:zaz n cs sq q=(.int .i64 n::cs.map (fun z=>Value.int .i64 z)++[.int .i64 sq])++zac (zaa q):=by rw[zbS];simp
 rw[qk oM,qG,e,List.take_left' (by simp[h]),zbS];simp
theorem zg2 {n:Int} {cs:List Int} {sq:Int} {q:Rat} {j:Nat} {z:Int} (hj:cs[j]?=some z):((zaz n cs sq q).drop (1+j)).take 1=[.int .i64 z]:=by
 obtain⟨hl,hz⟩:=qE.1 hj;unfold zaz;rw[Nat.add_comm,List.drop_succ_cons,List.drop_append_of_le_length (by rw[qV];omega),List.take_append_of_le_length (by rw[qu,qV];omega),qt (by rw[qV];exact hl)];simp[hz]
theorem zej {n:Int} {cs:List Int} {sq:Int} {q:Rat} {j:Nat} (z:Int) (hj:j<cs.length):(zaz n cs sq q).take (1+j)++[.int .i64 z]++(zaz n cs sq q).drop (1+j+1)=zaz n (cs.set j z) sq q:=by
 unfold zaz;rw[show 1+j=j+1 by omega,List.take_succ_cons,List.drop_succ_cons,List.take_append_of_le_length (by rw[qV];omega),List.drop_append_of_le_length (by rw[qV];omega),List.map_set];rw[List.set_eq_take_append_cons_drop,if_pos (by rw[qV];exact hj)];simp
theorem zmM {n:Int} {cs:List Int} {sq:Int} {q:Rat} {j:Nat} {z:Int} (hj:cs[j]?=some z):((zaz n cs sq q).drop (0+1+j)).take 1=[.int .i64 z]:=zg2 hj
theorem zkk {n:Int} {cs:List Int} {sq:Int} {q:Rat} {j:Nat} (z:Int) (hj:j<cs.length):(zaz n cs sq q).take (0+1+j)++[.int .i64 z]++(zaz n cs sq q).drop (0+1+j+1)=zaz n (cs.set j z) sq q:=zej z hj
theorem zda:Tryz.prog.underlying 305=some (.array 12 3):=by kernel_rfl
theorem zeW:Tryz.te307.zero=zaz 0 (List.replicate 12 0) 0 0:=by
 unfold zaz;rw[zar];rfl
theorem zmL {n:Int} {cs:List Int} {sq:Int} {q:Rat} (h:cs.length=12):((zaz n cs sq q).drop 0).take 19=zaz n cs sq q:=by
 rw[List.drop_zero,qO (by rw[zas h];omega)]
abbrev zbg (kind classes:Int) (sl sv:Value):Value:=.agg #[.int .i64 kind,.int .i64 classes,sl,sv]
theorem zsJ {H:Hp} {b:Nat} {cl:Int} {la:Option Addr} {ln lc:Nat} {va:Option Addr} {vc:Nat} {vals:List Rat} (hv:QL H (.slice va vals.length vc) vals) {r n:Nat} (hn:n≤1000000) {x q:Rat} (hr:vals[r]?=some x) (hx:sm x) (hq:sm q) {cs:List Int} (hc:cs.length=12) {sq:Int} :
  PW prog 250 #[.pointer (some ⟨b,0,none⟩),zbg 2 cl (.slice la ln lc) (.slice va vals.length vc),.int .i64 (r:Int)] H [(b,307,zaz n cs sq q)] fun v ow _=>v=.tuple #[]∧ow=[(b,307,zaz ((n+1:Nat):Int) cs sq (q+x))]:=by
 have hadd:=zdf q x hq hx;have hlen:=zas (n:=(n:Int)) (cs:=cs) (sq:=sq) (q:=q) hc;obtain⟨hrl,_⟩:=qE.1 hr;have hs:SlC H (.slice va vals.length vc) vals.length 5 (vals.flatMap fun q=>zac (zaa q)):=hv;refine PW.body tO func250 rfl kR ntmps250 rfl rfl ?_;refine uR ?_;refine RP ?_;refine EVL.loadOwn tO rfl rfl rfl rfl rfl rfl (0) rfl (zcy) rfl rfl ?_;refine RP ?_;rw[show IntKind.i64.wrap ((n:Int)+1)=((n+1:Nat):Int) by rw[pM];omega];refine EVL.storeOwn tO rfl rfl rfl rfl rfl rfl ([]) ([]) rfl rfl rfl rfl ((by rw[hlen];show 0+1≤19;omega)) (zce) ?_;refine uR ?_;apply EV.drawn 11 kR kR;intro xv yw;(repeat (first|refine' DD ?_|refine' vN ?_|refine' vF ?_));refine' DJ.ofVal (zab.loadOwn tO rfl rfl rfl rfl (0) rfl (zeV hc) rfl rfl) rfl rfl rfl ?_;rotate_left;(repeat (first|refine' DD ?_|refine' vN ?_|refine' vF ?_));refine' DJ.idxM tO rfl rfl rfl rfl rfl rfl rfl rfl rfl (hs) (r) (rfl) (hrl) (QL.at (H:=H) (v:=.bool true) hr) ?_;rotate_left;(repeat (first|refine' DD ?_|(refine' DC (hadd) (h:=?_);rotate_left)));(refine DJ.nil (fun G1 hG1 hF1=>?_);(case hS|hS2=>rfl));refine RP ?_;refine EVL.storeOwn tO rfl rfl rfl rfl rfl rfl ([]) ([]) rfl rfl rfl rfl ((by rw[zas hc];show 14+5≤19;omega)) (zdC hc) ?_;refine uR ?_;exact⟨rfl,rfl⟩
theorem zsH {H:Hp} {b:Nat} {cl:Int} {va:Option Addr} {vn vc:Nat} {la:Option Addr} {lc:Nat} {ls:List Int} (hv:IL H (.slice la ls.length lc) ls) {r n:Nat} (hn:n≤1000000) {k m sq:Nat} (hr:ls[r]?=some (k:Int)) (hk:k<12) {cs:List Int} (hc:cs.length=12) (hm:cs[k]?=some (m:Int)) (hmb:m≤1000000) (hsb:sq≤10000000000000) {q:Rat} :
  PW prog 250 #[.pointer (some ⟨b,0,none⟩),zbg 1 cl (.slice la ls.length lc) (.slice va vn vc),.int .i64 (r:Int)] H [(b,307,zaz n cs sq q)] fun v ow _=>v=.tuple #[]∧ow=[(b,307,zaz ((n+1:Nat):Int) (cs.set k ((m+1:Nat):Int)) ((sq+2*m+1:Nat):Int) q)]:=by
 have hlen:=zas (n:=(n:Int)) (cs:=cs) (sq:=(sq:Int)) (q:=q) hc;obtain⟨hrl,_⟩:=qE.1 hr
 have w1:IntKind.i64.wrap ((sq:Int)+IntKind.i64.wrap (IntKind.i64.wrap (2*(m:Int))+1))=((sq+2*m+1:Nat):Int):=by
  rw[show IntKind.i64.wrap (2*(m:Int))=2*(m:Int) by rw[pM];omega,show IntKind.i64.wrap (2*(m:Int)+1)=2*(m:Int)+1 by rw[pM];omega,pM];omega
 have w2:IntKind.i64.wrap ((m:Int)+1)=((m+1:Nat):Int):=by rw[pM];omega
 refine PW.body tO func250 rfl kR ntmps250 rfl rfl ?_;refine uR ?_;refine RP ?_;refine EVL.loadOwn tO rfl rfl rfl rfl rfl rfl (0) rfl (zcy) rfl rfl ?_;refine RP ?_;rw[show IntKind.i64.wrap ((n:Int)+1)=((n+1:Nat):Int) by rw[pM];omega];refine EVL.storeOwn tO rfl rfl rfl rfl rfl rfl ([]) ([]) rfl rfl rfl rfl ((by rw[hlen];show 0+1≤19;omega)) (zce) ?_;refine uR ?_;refine vI (hv) (r) (rfl) (hrl) ((by rw[qK,hr];rfl)) ?_;refine uR ?_;apply EV.drawn 13 kR kR;intro xv yw;(repeat (first|refine' DD ?_|refine' vN ?_|refine' vF ?_));refine' DJ.ofVal (zab.loadOwn tO rfl rfl rfl rfl (0) rfl (zfm hc) rfl rfl) rfl rfl rfl ?_;rotate_left;(repeat (first|refine' DD ?_|refine' vN ?_|refine' vF ?_));refine' DJ.idxA tO rfl rfl rfl rfl (zda) rfl rfl rfl rfl (k) (rfl) (hk) ?_;rotate_left;refine' DJ.ofVal (zab.loadOwn tO rfl rfl rfl rfl (0) rfl (zmM hm) rfl rfl) rfl rfl rfl ?_;rotate_left;(repeat (first|refine' DD ?_|refine' vN ?_|refine' vF ?_));(refine DJ.nil (fun G1 hG1 hF1=>?_);(case hS|hS2=>rfl));rw[w1];refine RP ?_;refine EVL.storeOwn tO rfl rfl rfl rfl rfl rfl ([]) ([]) rfl rfl rfl rfl ((by rw[zas hc];show 13+1≤19;omega)) (zek hc) ?_;refine uR ?_;apply EV.drawn 10 kR kR;intro xv yw;(repeat (first|refine' DD ?_|refine' vN ?_|refine' vF ?_));refine' DJ.idxA tO rfl rfl rfl rfl (zda) rfl rfl rfl rfl (k) (rfl) (hk) ?_;rotate_left;refine' DJ.ofVal (zab.loadOwn tO rfl rfl rfl rfl (0) rfl (zmM hm) rfl rfl) rfl rfl rfl ?_;rotate_left;(repeat (first|refine' DD ?_|refine' vN ?_|refine' vF ?_));refine' DJ.idxA tO rfl rfl rfl rfl (zda) rfl rfl rfl rfl (k) (rfl) (hk) ?_;rotate_left;(refine DJ.nil (fun G2 hG2 hF2=>?_);(case hS|hS2=>rfl));rw[w2];refine RP ?_;refine EVL.storeOwn tO rfl rfl rfl rfl rfl rfl ([]) ([]) rfl rfl rfl rfl ((by rw[zas hc];show 0+1+k+1≤19;omega)) (zkk _ (show k<cs.length by omega)) ?_;refine uR ?_;exact⟨rfl,rfl⟩
theorem zdL {n:Nat} (h0:¬n=0):((n:Int):Rat)≠0:=fun h=>by
 have:=congrArg Rat.num h;rw[Rat.num_intCast]at this;have h3:(0:Rat).num=0:=rfl;omega
theorem zaH (x:Rat):x / 0=0:=by rw[Rat.div_def,Rat.inv_zero,Rat.mul_zero]
theorem zqB {H:Hp} {b n:Nat} {cs:List Int} (hc:cs.length=12) {sq:Nat} (hsq:sq≤10000000000000) (hn:n≤1000000) {q:Rat} :
  PW prog 234 #[.pointer (some ⟨b,0,none⟩),.int .i64 1] H [(b,307,zaz n cs sq q)] fun v ow _=>v=zaa (((sq:Int):Rat) / ((n:Int):Rat))∧ow=[(b,307,zaz n cs sq q)]:=by
 have hof:=zec (sq:Int) oM oM;have hof2:=zec (n:Int) oM oM
 have hnh:ht ((n:Int):Rat)≤100:=by
  have:=zbG (n:Int);have h2:bl (n:Int).natAbs≤20:=zaU oM;omega
 have hsh:ht ((sq:Int):Rat)≤100:=by
  have:=zbG (sq:Int);have h2:bl (sq:Int).natAbs≤50:=zaU oM;omega
 refine PW.body tO func234 rfl kR ntmps234 rfl rfl ?_;refine uR ?_;refine RP ?_;refine EVL.loadOwn tO rfl rfl rfl rfl rfl rfl (0) rfl (zcy) rfl rfl ?_;refine uR ?_;by_cases h0:n=0
 ·subst h0;rw[show (((0:Nat):Int) == 0)=true from rfl];refine uR ?_;rw[show (((0:Nat):Int):Rat)=0 from rfl,zaH];exact⟨zbN.symm,rfl⟩
 ·have hdiv:=zjA ((sq:Int):Rat) ((n:Int):Rat) (zai hsh oM) (zai hnh oM) (zdL h0);rw[show ((n:Int) == 0)=false from pR.2 (by omega)];refine uR ?_;refine RP ?_;refine EVL.loadOwn tO rfl rfl rfl rfl rfl rfl (0) rfl (zfm hc) rfl rfl ?_
  repeat (first|refine RUN ?_|refine CV (hof) ?_|refine CE (hof) ?_)
  apply EV.drawn 12 kR kR;intro xv yw;(repeat (first|refine' DD ?_|refine' vN ?_|refine' vF ?_));refine' DJ.ofVal (zab.loadOwn tO rfl rfl rfl rfl (0) rfl (zcy) rfl rfl) rfl rfl rfl ?_;rotate_left;(repeat (first|refine' DD ?_|(refine' DC (hof2) (h:=?_);rotate_left)|(refine' DC (hdiv) (h:=?_);rotate_left)));(refine DJ.nil (fun G2 hG2 hF2=>?_);(case hS|hS2=>rfl));refine uR ?_;exact⟨rfl,rfl⟩
theorem zqx {H:Hp} {cl:Int} {va:Option Addr} {vn vc:Nat} {la:Option Addr} {lc:Nat} {ls:List Int} (hv:IL H (.slice la ls.length lc) ls) {ra:Option Addr} {rc:Nat} {rs:List Int} (hr:IL H (.slice ra rs.length rc) rs) (hn:rs.length≤100000)
  (hrs:∀r,r∈rs→0≤r∧r<(ls.length:Int)) (hls:∀z,z∈ls→0≤z∧z<12) :
  PC prog 232 #[zbg 1 cl (.slice la ls.length lc) (.slice va vn vc),.slice ra rs.length rc] H fun r _=>r=.agg (zaz (rs.length:Nat) (csL (atI ls rs)) (sqL (atI ls rs)) 0).toArray:=by
 refine BD func232 ntmps232 ?_;refine uR ?_;(first|refine EVL.unbox (5) rfl fun b=>?_|refine EV.unbox (5) rfl fun b=>?_);rw[zeW];refine EV.loopK (ι:=Nat) [2,4,5,8,9] [2,4] (fun i=>[(10,.v (.int .i64 (i:Int)))]) (fun _=>[]) (fun i=>[(b,307,zaz (i:Nat) (csL ((atI ls rs).take i)) (sqL ((atI ls rs).take i)) 0)]) (fun i _=>i≤rs.length) (fun i=>rs.length-i) (0) rfl rfl ⟨rfl,trivial⟩ trivial rfl (fun _=>rfl) (qQ _) ?_;rintro i G1 hG1 hi;refine uR ?_;refine EV.cond rfl (fun hlt=>?_) (fun hlt=>?_)
 ·simp only[nN]at hlt;obtain⟨r,hri⟩:=gE hlt;have hb:=hrs r (qF hri);obtain⟨R,rfl⟩:=qj hb.1;obtain⟨x,hx⟩:∃x,ls[R]?=some x:=⟨_,qA oM⟩;have hxb:=hls x (qF hx);obtain⟨k,rfl⟩:=qj hxb.1;have hk:k<12:=oM;have ht:=zqQ ls hri (by rw[qU];exact hx);have hlen:((atI ls rs).take i).length=i:=by rw[qP,zcC];omega
  have hcnt:((atI ls rs).take i).count (k:Int)≤i:=qI List.count_le_length (Nat.le_of_eq hlen);have hsq:=zkp ((atI ls rs).take i);rw[hlen]at hsq;have hsq2:i*i≤100000*100000:=Nat.mul_le_mul oM oM;have hcs:=zin ((atI ls rs).take i) hk;have hsn:=ziY ((atI ls rs).take i) (k:Int);rw[←ht]at hcs hsn;refine uR ?_;refine vI ((hr.mono hG1)) (i) (rfl) (hlt) ((by rw[qK,hri];rfl)) ?_;refine uR ?_;refine EVL.callW rfl rfl rfl rfl rfl ([(b,307,zaz (i:Nat) (csL ((atI ls rs).take i)) (sqL ((atI ls rs).take i)) 0)]) ([]) rfl (zsH (n:=i) (m:=((atI ls rs).take i).count (k:Int)) (sq:=sqL ((atI ls rs).take i)) (hv.mono hG1) oM hx hk (zbM _) (zhF _ hk) oM oM) ?_;rintro v ow G2 ⟨rfl,rfl⟩ hG2;rw[←hcs,←hsn];refine uR ?_;refine⟨i+1,⟨?_,trivial⟩,sB,trivial,sB,rfl,hlt,hG2,by omega⟩;rw[zad i (by omega)];rfl
 ·simp only[nN]at hlt;obtain rfl:i=rs.length:=oM;rw[show (atI ls rs).take rs.length=atI ls rs by rw[←zcC ls rs,qb]];have hall:=zmL (n:=(rs.length:Nat)) (cs:=csL (atI ls rs)) (sq:=sqL (atI ls rs)) (q:=0) (zbM _);refine uR ?_;refine EVL.loadOwn tO rfl rfl rfl rfl rfl rfl (0) rfl (hall) rfl rfl ?_;refine uR ?_;rfl
theorem zqy {H:Hp} {cl:Int} {va:Option Addr} {vc:Nat} {vals:List Rat} {la:Option Addr} {ln lc:Nat} (hv:QL H (.slice va vals.length vc) vals) {ra:Option Addr} {rc:Nat} {rs:List Int} (hr:IL H (.slice ra rs.length rc) rs) (hn:rs.length≤10000)
  (hrs:∀r,r∈rs→0≤r∧r<(vals.length:Int)) (hls:∀q,q∈vals→ht q≤100) :
  PC prog 232 #[zbg 2 cl (.slice la ln lc) (.slice va vals.length vc),.slice ra rs.length rc] H fun r _=>r=.agg (zaz (rs.length:Nat) (List.replicate 12 0) 0 (zaR (atR vals rs))).toArray:=by
 have hmem:=fun q hq=>hls q (ze2 hrs q hq);refine BD func232 ntmps232 ?_;refine uR ?_;(first|refine EVL.unbox (5) rfl fun b=>?_|refine EV.unbox (5) rfl fun b=>?_);rw[zeW];refine EV.loopK (ι:=Nat) [2,4,5,8,9] [2,4] (fun i=>[(10,.v (.int .i64 (i:Int)))]) (fun _=>[]) (fun i=>[(b,307,zaz (i:Nat) (List.replicate 12 0) 0 (zaR ((atR vals rs).take i)))]) (fun i _=>i≤rs.length) (fun i=>rs.length-i) (0) rfl rfl ⟨rfl,trivial⟩ trivial rfl (fun _=>rfl) (qQ _) ?_;rintro i G1 hG1 hi;refine uR ?_;refine EV.cond rfl (fun hlt=>?_) (fun hlt=>?_)
 ·simp only[nN]at hlt;obtain⟨r,hri⟩:=gE hlt;have hb:=hrs r (qF hri);obtain⟨R,rfl⟩:=qj hb.1;obtain⟨x,hx⟩:∃x,vals[R]?=some x:=⟨_,qA oM⟩;have hxb:=hls x (qF hx);have ht:=zlX vals hri (by rw[qU];exact hx);have hlen:((atR vals rs).take i).length=i:=by rw[qP,zb0];omega
  have hsb:=zfu 100 ((atR vals rs).take i) (fun q hq=>hmem q (List.mem_of_mem_take hq));rw[hlen]at hsb;have hsn:=zby ((atR vals rs).take i) x;rw[←ht]at hsn;refine uR ?_;refine vI ((hr.mono hG1)) (i) (rfl) (hlt) ((by rw[qK,hri];rfl)) ?_;refine uR ?_;refine EVL.callW rfl rfl rfl rfl rfl ([(b,307,zaz (i:Nat) (List.replicate 12 0) 0 (zaR ((atR vals rs).take i)))]) ([]) rfl (zsJ (n:=i) (hv.mono hG1) oM hx (zai hxb oM) (zai hsb oM) (by rfl)) ?_;rintro v ow G2 ⟨rfl,rfl⟩ hG2;rw[←hsn];refine uR ?_;refine⟨i+1,⟨?_,trivial⟩,sB,trivial,sB,rfl,hlt,hG2,by omega⟩;rw[zad i (by omega)];rfl
 ·simp only[nN]at hlt;obtain rfl:i=rs.length:=oM;rw[show (atR vals rs).take rs.length=atR vals rs by rw[←zb0 vals rs,qb]];have hall:=zmL (n:=(rs.length:Nat)) (cs:=List.replicate 12 0) (sq:=0) (q:=zaR (atR vals rs)) (by rfl);refine uR ?_;refine EVL.loadOwn tO rfl rfl rfl rfl rfl rfl (0) rfl (hall) rfl rfl ?_;refine uR ?_;rfl
theorem zle {cl:Int} {va:Option Addr} {vn vc:Nat} {la:Option Addr} {ln lc:Nat}:PV prog 159 #[zbg 1 cl (.slice la ln lc) (.slice va vn vc)] (.int .i64 (ln:Int)):=by
 refine PV.of_pc ?_;refine BD func159 ntmps159 ?_;refine uR ?_;rfl
theorem zpn {cl:Int} {va:Option Addr} {vn vc:Nat} {la:Option Addr} {ln lc:Nat}:PV prog 159 #[zbg 2 cl (.slice la ln lc) (.slice va vn vc)] (.int .i64 (vn:Int)):=by
 refine PV.of_pc ?_;refine BD func159 ntmps159 ?_;refine uR ?_;rfl
theorem zey {va:Option Addr} {vn vc:Nat} {la:Option Addr} {lc:Nat} (h0:1≤vn) (h1:vn≤300):PV prog 160 #[zbg 2 0 (.slice la 0 lc) (.slice va vn vc)] (.int .i64 0):=by
 refine PV.of_pc ?_;have hlen:=zpn (cl:=0) (va:=va) (vn:=vn) (vc:=vc) (la:=la) (ln:=0) (lc:=lc);refine BD func160 ntmps160 ?_
 repeat (first|refine RUN ?_|refine CV (hlen) ?_|refine CE (hlen) ?_)
 rw[qC (show ¬(vn:Int)<1 by omega)];refine uR ?_;rw[qC (show ¬(vn:Int)>300 by omega)];refine uR ?_;rfl
theorem zgd {H:Hp} {va:Option Addr} {vc:Nat} {la:Option Addr} {lc:Nat} {ls:List Int} (hv:IL H (.slice la ls.length lc) ls) {cl:Int} (hc:1≤cl∧cl≤12) (h0:1≤ls.length) (h1:ls.length≤300) (hls:∀z,z∈ls→0≤z∧z<cl):PC prog 160 #[zbg 1 cl (.slice la ls.length lc) (.slice va 0 vc)] H fun r _=>r=.int .i64 0:=by
 have hlen:=zle (cl:=cl) (va:=va) (vn:=0) (vc:=vc) (la:=la) (ln:=ls.length) (lc:=lc);refine BD func160 ntmps160 ?_
 repeat (first|refine RUN ?_|refine CV (hlen) ?_|refine CE (hlen) ?_)
 rw[qC (show ¬(ls.length:Int)<1 by omega)];refine uR ?_;rw[qC (show ¬(ls.length:Int)>300 by omega)];refine uR ?_;rw[qC (show ¬cl<1 by omega)];refine uR ?_;rw[qC (show ¬cl>12 by omega)];refine uR ?_;refine EV.loopK (ι:=Nat) [1,49,50] [1] (fun i=>[(51,.v (.int .i64 (i:Int)))]) (fun _=>[]) (fun _=>[]) (fun i _=>i≤ls.length) (fun i=>ls.length-i) (0) rfl rfl ⟨rfl,trivial⟩ trivial rfl (fun _=>rfl) (qQ _) ?_;rintro i G1 hG1 hi;refine uR ?_;refine EV.cond rfl (fun hlt=>?_) (fun hlt=>?_)
 ·simp only[nN]at hlt;obtain⟨z,hz⟩:=gE hlt;have hb:=hls z (qF hz);refine uR ?_;refine vI ((hv.mono hG1)) (i) (rfl) (hlt) ((by rw[qK,hz];rfl)) ?_;refine uR ?_;rw[qC (show ¬z<0 by omega)];refine uR ?_;rw[qC (show ¬z≥cl by omega)];refine uR ?_;refine⟨i+1,⟨?_,trivial⟩,sB,trivial,sB,rfl,hlt,Hp.Le.refl _,by omega⟩;rw[zad i (by omega)];rfl
 ·try refine uR ?_
  rfl
abbrev iv:Int→Value:=fun z=>.int .i64 z
def inR (n:Nat) (r:Int):Bool:=decide (0≤r) && decide (r<(n:Int))
def exL (rs:List Int) (n:Nat):List Int:=rs.filter (inR n)
theorem zd5 {rs:List Int} {n:Nat}:∀r,r∈exL rs n→0≤r∧r<(n:Int):=fun r hr=>by
 have:=(List.mem_filter.1 hr).2;unfold inR at this;simpa using this
theorem zdv (rs:List Int) (n:Nat):(exL rs n).length≤rs.length:=List.length_filter_le _ _
theorem zk9 {rs:List Int} {n:Nat} (h:∀r,r∈rs→0≤r∧r<(n:Int)):exL rs n=rs:=List.filter_eq_self.2 fun r hr=>by
 have:=h r hr;unfold inR;simp[this.1,this.2]
theorem zsY {rs:List Int} {n i:Nat} {r:Int} (h:rs[i]?=some r):exL (rs.take (i+1)) n=exL (rs.take i) n++if inR n r then [r] else []:=by
 rw[zan h];unfold exL;rw[List.filter_append];cases hp:inR n r <;> simp[hp]
theorem zaO.il {w:Value} {l:List Int} {ow:Ows} {T:TypeId} {x:Int} (h:zaO T 1 w (l.length+1) (l.map iv++[iv x]) ow):zaO T 1 w (l++[x]).length ((l++[x]).map iv) ow:=by
 rw[qJ,qr];exact h
theorem zck {H:Hp} {v:Value} {rs:List Int} (hr:IL H v rs) (hn:rs.length≤1000000) (n:Nat):PC prog 233 #[v,.int .i64 (n:Int)] H fun r H'=>IL H' r (exL rs n):=by
 obtain⟨a,cap,rfl⟩:=SlC.val hr;refine BD func233 ntmps233 ?_;refine uR ?_;refine EV.loopK (ι:=Nat × Value × Ows) [1,8,9] [] (fun q=>[(5,.v q.2.1),(10,.v (.int .i64 (q.1:Int)))]) (fun _=>[]) (fun q=>q.2.2) (fun q _=>q.1≤rs.length∧zaO 3 1 q.2.1 (exL (rs.take q.1) n).length ((exL (rs.take q.1) n).map iv) q.2.2) (fun q=>rs.length-q.1) ((0,.slice none 0 0,[])) rfl rfl ⟨rfl,rfl,trivial⟩ trivial rfl (fun _=>rfl) (⟨qQ _,zaO.nil _ _⟩) ?_;rintro⟨i,w,ow⟩ G1 hG1 ⟨hi,hown⟩;dsimp only at hi hown;obtain⟨wa,wc,rfl⟩:=hown.val;refine uR ?_;refine EV.cond rfl (fun hlt=>?_) (fun hlt=>?_)
 ·simp only[nN]at hlt;obtain⟨r,hri⟩:=gE hlt;have hex:=zsY (n:=n) hri;have hle:=zdv (rs.take i) n;rw[qP]at hle;refine uR ?_;refine vI ((hr.mono hG1)) (i) (rfl) (hlt) ((by rw[qK,hri];rfl)) ?_;refine uR ?_;have wn:IntKind.i64.wrap ((i:Int)+1)=((i+1:Nat):Int):=zad i oM;by_cases h1:r≥0
  ·rw[qD h1];refine uR ?_;by_cases h2:r<(n:Int)
   ·have hp:inR n r=true:=by unfold inR;simp[h2];omega
    rw[hp,if_pos rfl]at hex;rw[qD h2];refine uR ?_;refine EVL.app1 tO rfl rfl rfl rfl rfl rfl rfl rfl rfl rfl rfl rfl rfl rfl rfl rfl rfl rfl rfl (fun _=>rfl) (ow) ([]) ((qG _).symm) (hown) oM fun _=>?_;intro v' ow' hown';refine uR ?_;refine⟨(i+1,v',ow'),⟨rfl,?_,trivial⟩,sB,trivial,trivial,qG _,⟨hlt,by rw[hex];exact hown'.il⟩,Hp.Le.refl _,by dsimp only;omega⟩;rw[wn];rfl
   ·have hp:inR n r=false:=by unfold inR;simp[h2]
    rw[hp,if_neg (by decide),qG]at hex;rw[qC h2];refine uR ?_;refine⟨(i+1,_,ow),⟨rfl,?_,trivial⟩,sB,trivial,trivial,rfl,⟨hlt,by rw[hex];exact hown⟩,Hp.Le.refl _,by dsimp only;omega⟩;rw[wn];rfl
  ·have hp:inR n r=false:=by unfold inR;simp;omega
   rw[hp,if_neg (by decide),qG]at hex;rw[qC h1];refine uR ?_;refine⟨(i+1,_,ow),⟨rfl,?_,trivial⟩,sB,trivial,trivial,rfl,⟨hlt,by rw[hex];exact hown⟩,Hp.Le.refl _,by dsimp only;omega⟩;rw[wn];rfl
 ·simp only[nN]at hlt;obtain rfl:i=rs.length:=oM;rw[qb]at hown ⊢;(first|refine EVL.publishL [] ow [] ((qG _).symm) hown fun G2 hG2 hs=>?_|refine EV.publishL [] ow [] ((qG _).symm) hown fun G2 hG2 hs=>?_);refine uR ?_;exact hs
theorem zkx {H:Hp} {v:Value} {rs:List Int} (hr:IL H v rs) (hn:rs.length≤10000) {kd cl:Int} {va:Option Addr} {vc:Nat} {vals:List Rat} {la:Option Addr} {ln lc:Nat} (hv:QL H (.slice va vals.length vc) vals) :
  PC prog 235 #[zbg kd cl (.slice la ln lc) (.slice va vals.length vc),v] H fun r H'=>QL H' r (atR vals (exL rs vals.length)):=by
 obtain⟨a,cap,rfl⟩:=SlC.val hr;refine BD func235 ntmps235 ?_;refine uR ?_;refine EVL.call rfl rfl rfl rfl rfl (zck hr oM vals.length) ?_;intro r1 G0 he hG0;have hel:=zdv rs vals.length;have heb:=zd5 (rs:=rs) (n:=vals.length);generalize exL rs vals.length=es at *
 obtain⟨a1,c1,rfl⟩:=SlC.val he;refine uR ?_;refine EV.loopK (ι:=Nat × Value × Ows) [2,12,13] [2] (fun q=>[(5,.v q.2.1),(14,.v (.int .i64 (q.1:Int)))]) (fun _=>[]) (fun q=>q.2.2) (fun q _=>q.1≤es.length∧zaO 51 5 q.2.1 q.1 (((atR vals es).take q.1).flatMap fun q=>zac (zaa q)) q.2.2) (fun q=>es.length-q.1) ((0,.slice none 0 0,[])) rfl rfl ⟨rfl,rfl,trivial⟩ trivial rfl (fun _=>rfl) (⟨qQ _,zaO.nil _ _⟩) ?_;rintro⟨i,w,ow⟩ G1 hG1 ⟨hi,hown⟩;dsimp only at hi hown;obtain⟨wa,wc,rfl⟩:=hown.val;refine uR ?_;refine EV.cond rfl (fun hlt=>?_) (fun hlt=>?_)
 ·simp only[nN]at hlt;obtain⟨r,hri⟩:=gE hlt;have hb:=heb r (qF hri);obtain⟨R,rfl⟩:=qj hb.1;obtain⟨x,hx⟩:∃x,vals[R]?=some x:=⟨_,qA oM⟩;have hRl:R<vals.length:=oM;have ht:=zlX vals hri (by rw[qU];exact hx);have hs:SlC G1 (.slice va vals.length vc) vals.length 5 (vals.flatMap fun q=>zac (zaa q)):=hv.mono (hG0.trans hG1);refine uR ?_;refine vI ((he.mono hG1)) (i) (rfl) (hlt) ((by rw[qK,hri];rfl)) ?_;refine uR ?_;refine EVL.idxM tO rfl rfl rfl rfl rfl rfl rfl rfl rfl (hs) (R) (rfl) (hRl) (QL.at (H:=H) (v:=.bool true) hx) ?_;refine uR ?_;refine EVL.app1 tO rfl rfl rfl rfl rfl rfl rfl rfl rfl rfl rfl rfl rfl rfl rfl rfl rfl rfl rfl (fun _=>rfl) (ow) ([]) ((qG _).symm) (hown) oM fun _=>?_;intro v' ow' hown';refine uR ?_;refine⟨(i+1,v',ow'),⟨rfl,?_,trivial⟩,sB,trivial,sB,qG _,⟨hlt,by dsimp only;rw[ht,List.flatMap_append];exact hown'⟩,Hp.Le.refl _,by dsimp only;omega⟩;rw[zad i (by omega)];rfl
 ·simp only[nN]at hlt;obtain rfl:i=es.length:=oM;rw[show (atR vals es).take es.length=atR vals es by rw[←zb0 vals es,qb]]at hown;rw[←zb0 vals es]at hown;(first|refine EVL.publishL [] ow [] ((qG _).symm) hown fun G2 hG2 hs=>?_|refine EV.publishL [] ow [] ((qG _).symm) hown fun G2 hG2 hs=>?_);rw[←zb0 vals es];refine uR ?_;exact hs
theorem zge {l:List Int} (sp:List Value) {j:Nat} {q:Int} (h:l[j]?=some q):((l.map iv++sp).drop (j*1)).take 1=[iv q]:=by
 obtain⟨hl,hq⟩:=qE.1 h;rw[Nat.mul_one,List.drop_append_of_le_length (by rw[qV];omega),qt (by rw[qV];omega)];simp[hq]
theorem zjq {l:List Int} (sp:List Value) {j:Nat} (q:Int) (h:j<l.length):(l.map iv++sp).take (j*1)++[iv q]++(l.map iv++sp).drop (j*1+1)=(l.set j q).map iv++sp:=by
 rw[Nat.mul_one,List.take_append_of_le_length (by rw[qV];omega),List.drop_append_of_le_length (by rw[qV];omega),List.map_set,List.set_eq_take_append_cons_drop,if_pos (by rw[qV];exact h)];simp
theorem zpW {α β:Type} (f:α→β) (l:List α) (k:Nat) (x:α):(zaM l k x).map f=zaM (l.map f) k (f x):=by
 unfold zaM;rw[qr,qy,List.map_take,List.map_drop]
theorem zfI {α:Type} {l:List α} {i:Nat} {x:α} (h:l[i]?=some x):l.drop i=x::l.drop (i+1):=by
 obtain⟨hl,rfl⟩:=qE.1 h;exact qt hl
abbrev zhm (key:Int→Rat) (l:List Int):Prop:=zbJ (l.map key)
theorem zmH {key:Int→Rat} {l:List Int} {k:Nat} {x:Int} (h:zhm key l) (h1:∀y,y∈l.take k→key y≤key x) (h2:∀y,y∈l.drop k→key x≤key y):zhm key (zaM l k x):=by
 unfold zhm;rw[zpW];refine zdB h (fun y hy=>?_) (fun y hy=>?_)
 ·rw[←List.map_take]at hy;obtain⟨z,hz,rfl⟩:=List.mem_map.1 hy;exact h1 z hz
 ·rw[←List.map_drop]at hy;obtain⟨z,hz,rfl⟩:=List.mem_map.1 hy;exact h2 z hz
theorem zp3 {key:Int→Rat} {l:List Int} {k:Nat} {x y:Int} (h:zhm key l) (hk:l[k]?=some y) (hy:key y≤key x):∀z,z∈l.take (k+1)→key z≤key x:=fun z hz =>
 zgX (k:=k) (y:=key y) h (by rw[qK,hk];rfl) hy (key z) (by rw[←List.map_take];exact List.mem_map_of_mem hz)
theorem zuu {acc rest:List Int} {j:Nat} {x:Int} (h:j≤acc.length):(zaM acc j x++rest)[j]?=some x:=by
 unfold zaM;rw[qZ,qL (by rw[qP];omega),qP,qp h,Nat.sub_self];rfl
theorem zuv {acc rest:List Int} {j:Nat} {x y:Int} (h:acc[j]?=some y):(zaM acc (j+1) x++rest)[j]?=some y:=by
 obtain⟨hl,_⟩:=qE.1 h;unfold zaM;rw[qZ,qM (by rw[qP];omega),List.getElem?_take_of_lt oM,h]
theorem zrC {acc rest:List Int} {j:Nat} {x:Int}:(zaM acc j x++rest).length=acc.length+1+rest.length:=by
 have:=(zcd acc j x).length_eq;rw[qJ,this,qJ];rfl
theorem zj8 {acc rest:List Int} {j:Nat} {x y:Int} (h:acc[j]?=some y):((zaM acc (j+1) x++rest).set (j+1) y).set j x=zaM acc j x++rest:=by
 obtain⟨hl,hy⟩:=qE.1 h;have hlen:(acc.take j).length=j:=by rw[qP];omega
 unfold zaM;rw[qS hl,hy,qt hl,hy]
 rw[show (acc.take j++[y]++x::acc.drop (j+1)++rest)=acc.take j++(y::x::(acc.drop (j+1)++rest)) by simp,
  List.set_append_right (j+1) y oM,hlen,show j+1-j=1 by omega,List.set_cons_succ,List.set_cons_zero,
  List.set_append_right j x oM,hlen,Nat.sub_self,List.set_cons_zero]
 simp
theorem znV (acc rest:List Int) (x:Int):zaM acc acc.length x++rest=acc++x::rest:=by
 unfold zaM;rw[qb,List.drop_length];simp
theorem zeH {H:Hp} {b cap:Nat} {l:List Int} {sp:List Value} (hl:l.length≤1000) {f:FuncId} {cs:List Value} {key:Int→Rat} (hcan:zat prog f) (hcmp:∀G,H.Le G→∀x y,x∈l→y∈l→PC prog f ([iv x,iv y]++cs).toArray G fun u _=>u=.int .i64 (zcr (key x) (key y))) :
  PW prog 277 #[.slice (some ⟨b,0,none⟩) l.length cap,.int .i64 0,.int .i64 (l.length:Int),.func (.func f) #[] cs.toArray] H [(b,3,l.map iv++sp)] fun v ow _=>v=.tuple #[]∧∃m,ow=[(b,3,m.map iv++sp)]∧m.Perm l∧zhm key m:=by
 refine PW.body tO func277 rfl kR ntmps277 rfl rfl ?_;refine uR ?_;refine EV.loopK (ι:=Nat × List Int) [0,1,2,3] [] (fun q=>[(8,.v (.int .i64 (q.1:Int)))]) (fun _=>[]) (fun q=>[(b,3,q.2.map iv++sp)]) (fun q _=>1≤q.1∧q.2.Perm l∧zhm key (q.2.take q.1)) (fun q=>l.length-q.1) ((1,l)) rfl rfl ⟨rfl,trivial⟩ trivial rfl (fun _=>rfl) (⟨qH _,List.Perm.refl _,by cases l with | nil=>exact List.Pairwise.nil | cons a l=>exact List.pairwise_singleton _ _⟩) ?_;rintro⟨i,cur⟩ G1 hG1 ⟨h1,hperm,hris⟩;dsimp only at h1 hperm hris;have hcl:=hperm.length_eq;refine uR ?_;refine EV.cond rfl (fun hlt=>?_) (fun hlt=>?_)
 ·simp only[nN]at hlt;obtain⟨x,hxi⟩:∃x,cur[i]?=some x:=⟨_,qA oM⟩;have hcut:cur=cur.take i++x::cur.drop (i+1):=by rw[←zfI hxi,List.take_append_drop]
  have hal:(cur.take i).length=i:=by rw[qP];omega
  have hxm:x∈l:=hperm.mem_iff.1 (qF hxi);have hma:∀y,y∈cur.take i→y∈l:=fun y hy=>hperm.mem_iff.1 (List.mem_of_mem_take hy);have hrl:(cur.drop (i+1)).length=l.length-(i+1):=by rw[qu];omega
  have hst:=znV (cur.take i) (cur.drop (i+1)) x;rw[hal,←hcut]at hst;generalize hacc:cur.take i=acc at *
  generalize cur.drop (i+1)=rest at *
  subst hal;subst hst;refine uR ?_;refine EV.loopK (ι:=Nat) [0,1,2,3,8] [] (fun j=>[(9,.v (.int .i64 (j:Int)))]) (fun _=>[]) (fun j=>[(b,3,(zaM acc j x++rest).map iv++sp)]) (fun j _=>j≤acc.length∧∀y,y∈acc.drop j→key x≤key y) (fun j=>j) (acc.length) rfl rfl ⟨rfl,trivial⟩ trivial rfl (fun _=>rfl) (⟨qH _,by rw[List.drop_length];intro y hy;cases hy⟩) ?_;rintro j G2 hG2 ⟨hj,hgr⟩;have hlen:=zrC (acc:=acc) (rest:=rest) (j:=j) (x:=x);have hx':=zuu (rest:=rest) (x:=x) hj;have hp':=zcd acc j x;have hsum:(zaM acc j x++rest).length=l.length:=by rw[hlen];omega
  rw[←hsum]
  have next:(zaM acc j x++rest).Perm l:=by
   refine List.Perm.trans ?_ hperm;exact(hp'.trans (zcd acc acc.length x).symm).append_right rest
  have fin:zhm key (zaM acc j x)→zhm key ((zaM acc j x++rest).take (acc.length+1)):=fun h=>by
   rw[List.take_append_of_le_length (by rw[hp'.length_eq];simp)]
   rwa [qO (by rw[hp'.length_eq];simp)]
  cases j with
  | zero =>
   have hr:=fin (zmH hris (by intro y hy;rw[List.take_zero]at hy;cases hy) hgr);refine uR ?_;apply EV.drawn 17 kR kR;intro xv yw;(repeat refine' DD ?_);(refine DJ.nil (fun G3 hG3 hF3=>?_);(case hS|hS2=>rfl));refine uR ?_;refine⟨(acc.length+1,zaM acc 0 x++rest),⟨?_,trivial⟩,sB,trivial,trivial,rfl,⟨by omega,next,hr⟩,hG2.trans hG3,by dsimp only;omega⟩;rw[zad _ (by omega)];rfl
  | succ j =>
   obtain⟨y,hyj⟩:∃y,acc[j]?=some y:=⟨_,qA oM⟩;have hy':=zuv (rest:=rest) (x:=x) hyj;have hc:=fun G (hG:H.Le G)=>hcmp G hG x y hxm (hma y (qF hyj))
   have hlo:zcr (key x) (key y)<0→key x≤key y:=fun h=>by
    unfold zcr at h;split at h
    ·exact Rat.le_of_lt (by assumption)
    ·split at h <;> omega
   have hge:¬zcr (key x) (key y)<0→key y≤key x:=fun h=>by
    unfold zcr at h;split at h
    ·omega
    ·rename_i k;exact Rat.not_lt.1 k
   generalize zcr (key x) (key y)=o at *
   refine uR ?_;apply EV.drawn 17 kR kR;intro xv yw;(repeat refine' DD ?_);rw[qD (show ((j+1:Nat):Int)>0 by omega)];(repeat refine' DD ?_);refine' DJ.idxB tO rfl rfl rfl rfl rfl rfl rfl rfl rfl (j+1) ((j+1)*1) (rfl) (oM) (rfl) ?_;rotate_left;refine' DJ.ofVal (zab.loadOwn tO rfl rfl rfl rfl (0) rfl (zge sp hx') rfl rfl) rfl rfl rfl ?_;rotate_left;(repeat refine' DD ?_);refine' DJ.idxB tO rfl rfl rfl rfl rfl rfl rfl rfl rfl (j) (j*1) ((by rw[pM];omega)) (oM) (rfl) ?_;rotate_left;refine' DJ.ofVal (zab.loadOwn tO rfl rfl rfl rfl (0) rfl (zge sp hy') rfl rfl) rfl rfl rfl ?_;rotate_left;(refine' DJ.callC (f:=f) (cs:=cs) rfl rfl rfl rfl rfl rfl hcan (fun G hG=>hc G (hG1.trans (hG2.trans hG))) ?_;rotate_left);(repeat refine' DD ?_);(refine DJ.nil (fun G3 hG3 hF3=>?_);(case hS|hS2=>rfl));refine uR ?_;by_cases ho:o<0
   ·rw[qD ho];have hxy:=hlo ho;refine uR ?_;refine EVA.start kR ?_;refine EVA.val tO (0) rfl kR kR kR rfl rfl rfl rfl rfl ?_;refine EVA.val tO (1) rfl kR kR kR rfl rfl rfl rfl rfl ?_;refine EVA.val tO (5) rfl kR kR kR rfl rfl rfl rfl rfl ?_;refine EVA.val tO (6) rfl kR kR kR rfl rfl rfl rfl rfl ?_;refine EVA.val tO (7) rfl kR kR kR rfl rfl rfl rfl rfl ?_;refine EVA.idxB tO (8) rfl kR kR kR rfl rfl rfl rfl rfl rfl rfl rfl rfl (j) (j*1) ((by rw[pM];omega)) (oM) (rfl) ?_;refine EVA.val tO (10) rfl kR kR kR rfl rfl rfl rfl rfl ?_;refine EVA.val tO (11) rfl kR kR kR rfl rfl rfl rfl rfl ?_;refine EVA.idxB tO (12) rfl kR kR kR rfl rfl rfl rfl rfl rfl rfl rfl rfl (j+1) ((j+1)*1) (rfl) (oM) (rfl) ?_;refine EVA.val tO (2) rfl kR kR kR rfl rfl rfl rfl rfl ?_;refine EVA.val tO (3) rfl kR kR kR rfl rfl rfl rfl rfl ?_;refine EVA.val tO (4) rfl kR kR kR rfl rfl rfl rfl rfl ?_;refine EVA.two 9 13 kR rfl rfl ?_ ?_
    ·refine EVL.loadOwn tO rfl rfl rfl rfl rfl rfl (0) rfl (zge sp hy') rfl rfl ?_;refine EVL.nil ⟨rfl,?_⟩;refine EVA.one 13 kR rfl ?_;refine EVL.loadOwn tO rfl rfl rfl rfl rfl rfl (0) rfl (zge sp hx') rfl rfl ?_;refine EVL.nil ⟨rfl,?_⟩;refine EVA.idxB tO (14) rfl kR kR kR rfl rfl rfl rfl rfl rfl rfl rfl rfl (j+1) ((j+1)*1) (rfl) (oM) (rfl) ?_;refine EVA.one 15 kR rfl ?_;refine EVL.storeOwn tO rfl rfl rfl rfl rfl rfl ([]) ([]) rfl rfl rfl rfl ((by rw[qJ,qV];show (j+1)*1+1≤_;omega)) ((zjq sp y (show j+1<(zaM acc (j+1) x++rest).length by omega))) ?_;refine EVL.nil ⟨rfl,?_⟩;refine EVA.idxB tO (16) rfl kR kR kR rfl rfl rfl rfl rfl rfl rfl rfl rfl (j) (j*1) ((by rw[pM];omega)) (oM) (rfl) ?_;refine EVA.one 17 kR rfl ?_;refine EVL.storeOwn tO rfl rfl rfl rfl rfl rfl ([]) ([]) rfl rfl rfl rfl ((by rw[qJ,qV,List.length_set];show j*1+1≤_;omega)) ((zjq sp x (show j<((zaM acc (j+1) x++rest).set (j+1) y).length by rw[List.length_set];omega))) ?_;refine EVL.nil ⟨rfl,?_⟩;refine EVA.nil kR ?_;rw[zj8 hyj];refine uR ?_;refine⟨j,⟨?_,trivial⟩,sB,trivial,trivial,rfl,⟨by omega,?_⟩,hG3,by omega⟩
     ·rw[show IntKind.i64.wrap (((j+1:Nat):Int)-1)=(j:Int) by rw[pM];omega];rfl
     ·intro z hz;rw[zfI hyj]at hz;rcases List.mem_cons.1 hz with rfl | hz
      ·exact hxy
      ·exact hgr z hz
    ·refine EVL.loadOwn tO rfl rfl rfl rfl rfl rfl (0) rfl (zge sp hx') rfl rfl ?_;refine EVL.nil ⟨rfl,?_⟩;refine EVA.one 9 kR rfl ?_;refine EVL.loadOwn tO rfl rfl rfl rfl rfl rfl (0) rfl (zge sp hy') rfl rfl ?_;refine EVL.nil ⟨rfl,?_⟩;refine EVA.idxB tO (14) rfl kR kR kR rfl rfl rfl rfl rfl rfl rfl rfl rfl (j+1) ((j+1)*1) (rfl) (oM) (rfl) ?_;refine EVA.one 15 kR rfl ?_;refine EVL.storeOwn tO rfl rfl rfl rfl rfl rfl ([]) ([]) rfl rfl rfl rfl ((by rw[qJ,qV];show (j+1)*1+1≤_;omega)) ((zjq sp y (show j+1<(zaM acc (j+1) x++rest).length by omega))) ?_;refine EVL.nil ⟨rfl,?_⟩;refine EVA.idxB tO (16) rfl kR kR kR rfl rfl rfl rfl rfl rfl rfl rfl rfl (j) (j*1) ((by rw[pM];omega)) (oM) (rfl) ?_;refine EVA.one 17 kR rfl ?_;refine EVL.storeOwn tO rfl rfl rfl rfl rfl rfl ([]) ([]) rfl rfl rfl rfl ((by rw[qJ,qV,List.length_set];show j*1+1≤_;omega)) ((zjq sp x (show j<((zaM acc (j+1) x++rest).set (j+1) y).length by rw[List.length_set];omega))) ?_;refine EVL.nil ⟨rfl,?_⟩;refine EVA.nil kR ?_;rw[zj8 hyj];refine uR ?_;refine⟨j,⟨?_,trivial⟩,sB,trivial,trivial,rfl,⟨by omega,?_⟩,hG3,by omega⟩
     ·rw[show IntKind.i64.wrap (((j+1:Nat):Int)-1)=(j:Int) by rw[pM];omega];rfl
     ·intro z hz;rw[zfI hyj]at hz;rcases List.mem_cons.1 hz with rfl | hz
      ·exact hxy
      ·exact hgr z hz
   ·rw[qC ho];have hr:=fin (zmH hris (zp3 hris hyj (hge ho)) hgr);refine uR ?_;refine⟨(acc.length+1,zaM acc (j+1) x++rest),⟨?_,trivial⟩,sB,trivial,trivial,rfl,⟨by omega,next,hr⟩,hG2.trans hG3,by dsimp only;omega⟩;rw[zad _ (by omega)];rfl
 ·simp only[nN]at hlt;rw[qO (by omega)]at hris;refine uR ?_;exact⟨rfl,cur,rfl,hperm,hris⟩
section
variable {P:Program} {n:Nat} {ops:Array Oper} {rest:List Oper} {env:Env} {bx:Bxs} {H:Hs} {Q:EQ}
theorem Rel.asRo {W0:World} {H0:Bs} {β:Nat→Nat} {a:Act} {W:World} (r:Rel n W0 H0 β env bx H a W) {t b off:Nat} (ht:env.get t=some (.v (.pointer (some ⟨b,off,none⟩)))) {c:Array Value} (hc:H.ro b=some c) {cs:List Value} (hcs:∀j x,cs[j]?=some x→c[off+j]?=some x) :
  Rel n W0 H0 β ((t,.ro cs)::env) bx H a W:=by
 refine⟨r.size,r.defers,fun t' s hs=>?_,r.box,r.low,r.inj,fun t' i off' hu=>?_,r.fits,r.le,r.new,r.bel,r.glob,r.own,r.one⟩
 ·rw[Env.get_cons]at hs;by_cases e:t=t'
  ·subst e;rw[if_pos rfl]at hs;cases hs;obtain⟨x,hx,hr⟩:=r.slot t _ ht;exact⟨x,hx,b,off,c,hr,hc,hcs⟩
  ·rw[if_neg e]at hs;exact r.slot t' s hs
 ·rw[Env.get_cons]at hu;by_cases e:t=t'
  ·rw[if_pos e]at hu;cases hu
  ·rw[if_neg e]at hu;exact r.pin t' i off' hu
theorem EV.asRo {c:Code} (t:Nat) {b:Nat} (ht:env.get t=some (.v (.pointer (some ⟨b,0,none⟩)))) {cs:List Value} (hc:H.ro b=some cs.toArray) (h:EV P n c ((t,.ro cs)::env) bx H Q):EV P n c env bx H Q :=
 fun W0 β a W r=>h W0 β a W (r.asRo ht hc (fun j x hx=>by rw[qv];simpa using hx))
theorem EVL.swapOw (a b:Ows) (e:H.ow=a++b) (h:EVL P n ops rest env bx ⟨H.ro,b++a,H.base⟩ Q):EVL P n ops rest env bx H Q :=
 fun W0 β x W r=>h W0 β x W (r.permOw (by rw[e];exact List.perm_append_comm))
theorem EV.swapOw {c:Code} (a b:Ows) (e:H.ow=a++b) (h:EV P n c env bx ⟨H.ro,b++a,H.base⟩ Q):EV P n c env bx H Q :=
 fun W0 β x W r=>h W0 β x W (r.permOw (by rw[e];exact List.perm_append_comm))
end
def QVs (H:Hp) (vs:List Value) (X:List (List Rat)):Prop:=vs.length=X.length∧∀(j:Nat) (u:Value) (x:List Rat),vs[j]?=some u→X[j]?=some x→QL H u x
theorem QVs.mono {H G:Hp} {vs:List Value} {X:List (List Rat)} (h:QVs H vs X) (k:H.Le G):QVs G vs X:=⟨h.1,fun j u x e1 e2=>(h.2 j u x e1 e2).mono k⟩
theorem QVs.nil (H:Hp):QVs H [] []:=⟨rfl,fun j u x h=>by simp at h⟩
theorem zqw {α:Type} {p:Value→α→Prop} {vs:List Value} {X:List α} {u:Value} {x:α} (h:vs.length=X.length∧∀(j:Nat) (u:Value) (x:α),vs[j]?=some u→X[j]?=some x→p u x) (k:p u x) :
  (vs++[u]).length=(X++[x]).length∧∀(j:Nat) (v:Value) (y:α),(vs++[u])[j]?=some v→(X++[x])[j]?=some y→p v y:=by
 refine⟨by simp[h.1],fun j y r e1 e2=>?_⟩;rw[List.getElem?_append]at e1 e2;by_cases hj:j<vs.length
 ·rw[if_pos hj]at e1;rw[if_pos (by rw[←h.1];exact hj)]at e2;exact h.2 j y r e1 e2
 ·rw[if_neg hj]at e1;rw[if_neg (by rw[←h.1];exact hj)]at e2;have:=h.1
  cases hk:j-vs.length with
  | zero =>
   rw[hk]at e1;rw[←h.1,hk]at e2;simp at e1 e2;subst e1;subst e2;exact k
  | succ m=>rw[hk]at e1;simp at e1
theorem QVs.snoc {H:Hp} {vs:List Value} {X:List (List Rat)} {u:Value} {x:List Rat} (h:QVs H vs X) (k:QL H u x):QVs H (vs++[u]) (X++[x]):=zqw h k
def QLL (H:Hp) (v:Value) (X:List (List Rat)):Prop:=∃vs:List Value,QVs H vs X∧SlC H v X.length 1 vs
theorem QLL.mono {H G:Hp} {v:Value} {X:List (List Rat)} (h:QLL H v X) (k:H.Le G):QLL G v X:=by
 obtain⟨vs,h1,h2⟩:=h;exact⟨vs,h1.mono k,h2.mono k⟩
theorem QLL.val {H:Hp} {v:Value} {X:List (List Rat)} (h:QLL H v X):∃a c,v=.slice a X.length c:=by
 obtain⟨vs,_,h2⟩:=h;exact SlC.val h2
theorem QVs.at {H:Hp} {vs:List Value} {X:List (List Rat)} (h:QVs H vs X) {j:Nat} {x:List Rat} (hj:X[j]?=some x):∃a c,vs[j]?=some (.slice a x.length c)∧QL H (.slice a x.length c) x:=by
 obtain⟨hl,_⟩:=qE.1 hj;obtain⟨u,hu⟩:∃u,vs[j]?=some u:=⟨_,qA (by rw[h.1];exact hl)⟩;have hq:=h.2 j u x hu hj;obtain⟨a,c,rfl⟩:=SlC.val hq;exact⟨a,c,hu,hq⟩
def zbO (X:List (List Rat)) (col r:Int):Bool:=decide (0≤col) && decide (col<((X.getD r.toNat []).length:Int))
def zbi (X:List (List Rat)) (col r:Int):Rat:=(X.getD r.toNat []).getD col.toNat 0
theorem zgh {X:List (List Rat)} {col r:Int} {R C:Nat} {x:List Rat} {q:Rat} (hr:r=R) (hc:col=C) (hx:X[R]?=some x) (hq:x[C]?=some q):zbi X col r=q:=by
 subst hr;subst hc;unfold zbi;simp[qB,hx,hq]
theorem zgt {X:List (List Rat)} {col r:Int} (hr0:0≤r) (hr:r<(X.length:Int)) (h:zbO X col r=true):∃(R C:Nat) (x:List Rat) (q:Rat),r=R∧col=C∧X[R]?=some x∧x[C]?=some q:=by
 unfold zbO at h;simp only[Bool.and_eq_true,decide_eq_true_eq]at h;obtain⟨R,rfl⟩:=qj hr0;obtain⟨C,rfl⟩:=qj h.1;have h2:=h.2;rw[qU,qB,qA (show R<X.length by omega),Option.getD_some]at h2;exact⟨R,C,X[R],X[R][C],rfl,rfl,qA oM,qA oM⟩
theorem zoO {H:Hp} {bx bc:Nat} {v:Value} {X:List (List Rat)} {col:Int} (hX:QLL H v X) (hb:H bx=some [v].toArray) (hc:H bc=some [Value.int .i64 col].toArray) (hsm:∀x,x∈X→∀q,q∈x→sm q)
  {i j:Int} (hi0:0≤i) (hi:i<(X.length:Int)) (hj0:0≤j) (hj:j<(X.length:Int)) (hci:zbO X col i=true) (hcj:zbO X col j=true) :
  PC prog 261 #[.int .i64 i,.int .i64 j,.pointer (some ⟨bx,0,none⟩),.pointer (some ⟨bc,0,none⟩)] H fun r _=>r=.int .i64 (zcr (zbi X col i) (zbi X col j)):=by
 obtain⟨I,C,x,p,rfl,rfl,hxi,hp⟩:=zgt hi0 hi hci;obtain⟨J,C',y,q,rfl,hCC,hyj,hq⟩:=zgt hj0 hj hcj;obtain rfl:C=C':=oM;obtain⟨va,vc,rfl⟩:=hX.val;obtain⟨vs,hvs,hs⟩:=hX;obtain⟨a1,c1,hu1,hQ1⟩:=hvs.at hxi;obtain⟨a2,c2,hu2,hQ2⟩:=hvs.at hyj;have hs1:SlC H (.slice a1 x.length c1) x.length 5 (x.flatMap fun q=>zac (zaa q)):=hQ1;have hs2:SlC H (.slice a2 y.length c2) y.length 5 (y.flatMap fun q=>zac (zaa q)):=hQ2;have hcmp:=zbF p q (hsm x (qF hxi) p (qF hp)) (hsm y (qF hyj) q (qF hq));rw[zgh rfl rfl hxi hp,zgh rfl rfl hyj hq];have hCx:=(qE.1 hp).1;have hCy:=(qE.1 hq).1;have hIl:I<X.length:=oM;have hJl:J<X.length:=oM;refine BD func261 ntmps261 ?_;refine EV.asRo 2 rfl hb ?_;refine EV.asRo 3 rfl hc ?_;refine uR ?_;apply EV.drawn 14 kR kR;intro xv yw;(repeat refine' DD ?_);refine' vJ (hs) (I) (rfl) (hIl) (hu1) ?_;rotate_left;(repeat refine' DD ?_);refine' DJ.idxM tO rfl rfl rfl rfl rfl rfl rfl rfl rfl (hs1) (C) (rfl) (hCx) (QL.at (H:=H) (v:=.bool true) hp) ?_;rotate_left;(repeat refine' DD ?_);refine' vJ (hs) (J) (rfl) (hJl) (hu2) ?_;rotate_left;(repeat refine' DD ?_);refine' DJ.idxM tO rfl rfl rfl rfl rfl rfl rfl rfl rfl (hs2) (C) (rfl) (hCy) (QL.at (H:=H) (v:=.bool true) hq) ?_;rotate_left;(repeat refine' DD ?_);(refine DJ.nil (fun G1 hG1 hF1=>?_);(case hS|hS2=>rfl))
 repeat (first|refine RUN ?_|refine CV (hcmp) ?_|refine CE (hcmp) ?_)
 rfl
theorem ziy {H:Hp} {s:Value} {A:Int} (hA:0≤A∧A≤1000) (L:Ows) {clo:Value}:PW prog 277 #[s,.int .i64 A,.int .i64 A,clo] H L fun v ow _=>v=.tuple #[]∧ow=L:=by
 refine PW.body tO func277 rfl kR ntmps277 rfl rfl ?_;refine uR ?_;rw[show IntKind.i64.wrap (A+1)=A+1 by rw[pM];omega];refine EV.loopK (ι:=Unit) [] [] (fun q=>[(2,.v (.int .i64 A)),(8,.v (.int .i64 (A+1)))]) (fun _=>[]) (fun _=>L) (fun _ _=>True) (fun _=>0) (()) rfl rfl ⟨rfl,rfl,trivial⟩ trivial rfl (fun _=>rfl) (trivial) ?_;rintro⟨⟩ G1 hG1 _;refine uR ?_;rw[qC (show ¬A+1<A by omega)];refine uR ?_;exact⟨rfl,rfl⟩
theorem zn9 {H:Hp} {b cap:Nat} {l:List Int} {sp:List Value} (hl:l.length≤20) {f:FuncId} {cs:List Value} {key:Int→Rat} (hcan:zat prog f) (hcmp:∀G,H.Le G→∀x y,x∈l→y∈l→PC prog f ([iv x,iv y]++cs).toArray G fun u _=>u=.int .i64 (zcr (key x) (key y))) :
  PW prog 260 #[.slice (some ⟨b,0,none⟩) l.length cap,.func (.func f) #[] cs.toArray] H [(b,3,l.map iv++sp)] fun v ow _=>v=.tuple #[]∧∃m,ow=[(b,3,m.map iv++sp)]∧m.Perm l∧zhm key m:=by
 have hst:PW prog 272 #[.slice (some ⟨b,0,none⟩) l.length cap,.int .i64 (l.length:Int),.func (.func f) #[] cs.toArray] H [(b,3,l.map iv++sp)] fun v ow _=>v=.tuple #[]∧∃m,ow=[(b,3,m.map iv++sp)]∧m.Perm l∧zhm key m:=by
  refine PW.body tO func272 rfl kR ntmps272 rfl rfl ?_;refine uR ?_;refine EV.loopK (ι:=Bool × List Int) [0,1,2,6] [] (fun q=>[(7,.v (.int .i64 (if q.1 then 20 else 0))),(8,.v (.int .i64 (if q.1 then 40 else 20)))]) (fun _=>[]) (fun q=>[(b,3,q.2.map iv++sp)]) (fun q _=>q.2.Perm l∧(q.1=true→l.length=20∧zhm key q.2)∧(q.1=false→q.2=l)) (fun q=>if q.1 then 0 else 1) ((false,l)) rfl rfl ⟨rfl,rfl,trivial⟩ trivial rfl (fun _=>rfl) (⟨List.Perm.refl _,by simp,by simp⟩) ?_;rintro⟨q,m⟩ G1 hG1 ⟨hp,h1,h2⟩;dsimp only at hp h1 h2
  cases q with
  | true =>
   obtain⟨hn,hr⟩:=h1 rfl;refine uR ?_;rw[show decide ((if true=true then (40:Int) else 20)≤(l.length:Int))=false by rw[hn];rfl];refine uR ?_;rw[show (if true=true then (20:Int) else 0)=(l.length:Int) by rw[hn];rfl];refine EVL.callW rfl rfl rfl rfl rfl ([(b,3,m.map iv++sp)]) ([]) rfl (ziy (A:=(l.length:Int)) oM _) ?_;rintro v ow G2 ⟨rfl,rfl⟩ hG2;refine uR ?_;refine EV.loopK (ι:=Unit) [1] [] (fun q=>[(6,.v (.int .i64 20))]) (fun _=>[]) (fun _=>[(b,3,m.map iv++sp)]) (fun _ _=>True) (fun _=>0) (()) rfl rfl ⟨rfl,trivial⟩ trivial rfl (fun _=>rfl) (trivial) ?_;rintro⟨⟩ G3 hG3 _;refine uR ?_;rw[qC (show ¬(20:Int)<(l.length:Int) by omega)];refine uR ?_;exact⟨rfl,m,rfl,hp,hr⟩
  | false =>
   obtain rfl:=h2 rfl;refine uR ?_;by_cases hn:m.length=20
   ·rw[show decide ((if false=true then (40:Int) else 20)≤(m.length:Int))=true by rw[hn];rfl];have hi:=zeH (H:=G1) (b:=b) (cap:=cap) (sp:=sp) (l:=m) (cs:=cs) (key:=key) oM hcan (fun G hG=>hcmp G (hG1.trans hG));rw[hn]at hi;refine uR ?_;rw[hn];refine vW ([(b,3,m.map iv++sp)]) ([]) (hi) ?_;rintro v ow G2 ⟨rfl,m2,rfl,hp2,hr2⟩ hG2;refine uR ?_;exact⟨(true,m2),⟨rfl,rfl,trivial⟩,sB,trivial,trivial,rfl,⟨hp2,fun _=>⟨by first|exact hn|rfl,hr2⟩,by simp⟩,hG2,by simp⟩
   ·rw[show decide ((if false=true then (40:Int) else 20)≤(m.length:Int))=false by simp;omega];refine uR ?_;refine EVL.callW rfl rfl rfl rfl rfl ([(b,3,m.map iv++sp)]) ([]) rfl (zeH (key:=key) oM hcan (fun G hG=>hcmp G (hG1.trans hG))) ?_;rintro v ow G2 ⟨rfl,m2,rfl,hp2,hr2⟩ hG2;refine uR ?_;refine EV.loopK (ι:=Unit) [1] [] (fun q=>[(6,.v (.int .i64 20))]) (fun _=>[]) (fun _=>[(b,3,m2.map iv++sp)]) (fun _ _=>True) (fun _=>0) (()) rfl rfl ⟨rfl,trivial⟩ trivial rfl (fun _=>rfl) (trivial) ?_;rintro⟨⟩ G3 hG3 _;refine uR ?_;rw[qC (show ¬(20:Int)<(m.length:Int) by omega)];refine uR ?_;exact⟨rfl,m2,rfl,hp2,hr2⟩
 refine PW.body tO func260 rfl kR ntmps260 rfl rfl ?_;refine uR ?_;refine vW ([(b,3,l.map iv++sp)]) ([]) (hst) ?_;rintro v ow G2 ⟨rfl,m,rfl,hp,hr⟩ hG2;refine uR ?_;exact⟨rfl,m,rfl,hp,hr⟩
theorem zjP:za0 []=0:=zaH _
theorem zjN {H:Hp} {v:Value} {l:List Rat} (h:QL H v l) (hl:l.length≤10000) (hb:∀q,q∈l→ht q≤100):PC prog 104 #[v] H fun r _=>r=.tuple #[zaa (za0 l),.bool (decide (0<l.length))]:=by
 by_cases h0:l.length=0
 ·obtain rfl:=pK.1 h0;rw[zjP];exact zte h
 ·rw[qD (show 0<l.length by omega)];exact ztf h oM h0 hb
theorem zrm {l:List Rat} {B:Nat} (hl:l.length≤300) (hb:∀q,q∈l→ht q≤B):ht (za0 l)≤1+(B+1)*300+20:=by
 have b1:=zfu B l hb;have b2:(B+1)*l.length≤(B+1)*300:=qe _ hl;have b3:=zsf (n:=l.length) oM;have b4:=zgu (zaR l) ((l.length:Int):Rat);unfold za0;omega
theorem zsV {m:Rat} {l:List Rat} {B C:Nat} (hb:∀q,q∈l→ht q≤B) (hm:ht m≤C):∀q,q∈zdl m l→ht q≤2*(B+C+1):=fun q hq=>by
 obtain⟨v,hv,rfl⟩:=List.mem_map.1 hq;have h1:=hb v hv;have h2:=zmj v m;have h3:=zdx (v-m) (v-m);omega
theorem zsW {m:Rat} {l:List Rat} {B C:Nat} (hl:l.length≤300) (hb:∀q,q∈l→ht q≤B) (hm:ht m≤C):ht (zaR (zdl m l))≤1+(2*(B+C+1)+1)*300:=by
 have h1:=zfu _ (zdl m l) (zsV hb hm);have h2:(2*(B+C+1)+1)*(zdl m l).length≤(2*(B+C+1)+1)*300:=qe _ (by simpa[zdl] using hl);omega
theorem zmm {H:Hp} {v:Value} {rs:List Int} (hr:IL H v rs) (hn:rs.length≤300) {va:Option Addr} {vc:Nat} {vals:List Rat} {la:Option Addr} {lc:Nat} (hv:QL H (.slice va vals.length vc) vals) (h0:1≤vals.length) (h1:vals.length≤300) (hb:∀q,q∈vals→ht q≤100) :
  PC prog 200 #[zbg 2 0 (.slice la 0 lc) (.slice va vals.length vc),v] H fun r _=>r=zaa (za0 (atR vals (exL rs vals.length))):=by
 obtain⟨a,cap,rfl⟩:=SlC.val hr;have hchk:=zey (va:=va) (vc:=vc) (la:=la) (lc:=lc) h0 h1;have hel:=zdv rs vals.length;refine BD func200 ntmps200 ?_
 repeat (first|refine RUN ?_|refine CV (hchk) ?_|refine CE (hchk) ?_)
 refine EVL.call rfl rfl rfl rfl rfl (zkx hr oM hv) ?_;intro r1 G1 hL hG1;have hlb:=fun q hq=>hb q (ze2 (zd5 (rs:=rs) (n:=vals.length)) q hq);have hll:(atR vals (exL rs vals.length)).length≤300:=by rw[zb0];omega
 generalize atR vals (exL rs vals.length)=L at *
 have hm:=zjN hL oM hlb
 repeat (first|refine RUN ?_|refine CV (hm) ?_|refine CE (hm) ?_)
 by_cases hz:0<L.length
 ·rw[qD hz];refine uR ?_;rfl
 ·rw[qC hz];refine uR ?_;obtain rfl:L=[]:=pK.1 oM;rw[zjP];exact zbN.symm
theorem zq1 {H:Hp} {v:Value} {rs:List Int} (hr:IL H v rs) (hn:rs.length≤300) {va:Option Addr} {vc:Nat} {vals:List Rat} {la:Option Addr} {lc:Nat} (hv:QL H (.slice va vals.length vc) vals) (h0:1≤vals.length) (h1:vals.length≤300) (hb:∀q,q∈vals→ht q≤100) :
  PC prog 199 #[zbg 2 0 (.slice la 0 lc) (.slice va vals.length vc),v] H fun r _=>r=zaa (zaR (zdl (za0 (atR vals (exL rs vals.length))) (atR vals (exL rs vals.length)))):=by
 obtain⟨a,cap,rfl⟩:=SlC.val hr;have hchk:=zey (va:=va) (vc:=vc) (la:=la) (lc:=lc) h0 h1;have hel:=zdv rs vals.length;have hmean:=zmm (la:=la) (lc:=lc) hr hn hv h0 h1 hb;have hvals:=zkx (kd:=2) (cl:=0) (la:=la) (ln:=0) (lc:=lc) hr oM hv;have hlb:=fun q hq=>hb q (ze2 (zd5 (rs:=rs) (n:=vals.length)) q hq);have hll:(atR vals (exL rs vals.length)).length≤300:=by rw[zb0];omega
 generalize atR vals (exL rs vals.length)=L at *
 have hmh:=zrm hll hlb;generalize za0 L=m at *
 have hms:sm m:=zai hmh oM;refine BD func199 ntmps199 ?_
 repeat (first|refine RUN ?_|refine CV (hchk) ?_|refine CV (hmean) ?_|refine CE (hchk) ?_|refine CE (hmean) ?_)
 refine vA (hvals) ?_;intro r1 G1 hL hG1;obtain⟨a1,c1,rfl⟩:=SlC.val hL;have hs:SlC G1 (.slice a1 L.length c1) L.length 5 (L.flatMap fun q=>zac (zaa q)):=hL;refine uR ?_;refine EV.loopK (ι:=Nat) [4,6,7,34,35] [4,7] (fun i=>[(36,.v (.int .i64 (i:Int)))]) (fun i=>[(6,51,zac (zaa (zaR (zdl m (L.take i)))))]) (fun _=>[]) (fun i _=>i≤L.length) (fun i=>L.length-i) (0) rfl rfl ⟨rfl,trivial⟩ ⟨by rw[show zaR (zdl m (L.take 0))=0 from rfl,zar];rfl,trivial⟩ rfl (fun _=>rfl) (qQ _) ?_;rintro i G2 hG2 hi;refine uR ?_;refine EV.cond rfl (fun hlt=>?_) (fun hlt=>?_)
 ·simp only[nN]at hlt;obtain⟨x,hx⟩:=gE hlt;have hxb:=hlb x (qF hx);have hsum:=zsW (l:=L.take i) (by rw[qP];omega) (fun q hq=>hlb q (List.mem_of_mem_take hq)) hmh;have hd:=zmj x m;have hdd:=zdx (x-m) (x-m);have hsub:=zfz x m (zai hxb oM) hms;have hmul:=zgD (x-m) (x-m) (zai hd oM) (zai hd oM);have hadd:=zdf (zaR (zdl m (L.take i))) ((x-m)*(x-m)) (zai hsum oM) (zai hdd oM);rw[←zgn,←zan hx]at hadd;refine uR ?_;refine EVL.idxM tO rfl rfl rfl rfl rfl rfl rfl rfl rfl ((hs.mono hG2)) (i) (rfl) (hlt) (QL.at (H:=H) (v:=.bool true) hx) ?_
  repeat (first|refine RUN ?_|refine CV (hsub) ?_|refine CE (hsub) ?_)
  apply EV.drawn 4 kR kR;intro xv yw;(repeat (first|refine' DD ?_|(refine' DC (hmul) (h:=?_);rotate_left)));(refine DJ.nil (fun G3 hG3 hF3=>?_);(case hS|hS2=>rfl))
  repeat (first|refine RUN ?_|refine CV (hadd) ?_|refine CE (hadd) ?_)
  refine⟨i+1,⟨?_,trivial⟩,sB,⟨rfl,trivial⟩,sB,rfl,hlt,hG3,by omega⟩;rw[zad i (by omega)];rfl
 ·simp only[nN]at hlt;obtain rfl:i=L.length:=oM;rw[qb];refine uR ?_;rfl
theorem zh8 {H:Hp} {cl:Int} {va:Option Addr} {vn vc:Nat} {la:Option Addr} {lc:Nat} {ls:List Int} (hv:IL H (.slice la ls.length lc) ls) {v:Value} {rs:List Int} (hr:IL H v rs) (hn:rs.length≤100000)
  (hrs:∀r,r∈rs→0≤r∧r<(ls.length:Int)) (hls:∀z,z∈ls→0≤z∧z<12) :
  PC prog 232 #[zbg 1 cl (.slice la ls.length lc) (.slice va vn vc),v] H fun r _=>r=.agg (zaz (rs.length:Nat) (csL (atI ls rs)) (sqL (atI ls rs)) 0).toArray:=by
 obtain⟨a,cap,rfl⟩:=SlC.val hr;exact zqx hv hr hn hrs hls
def zjr (L:List Int):Rat:=((L.length:Int):Rat)-((sqL L:Int):Rat) / ((L.length:Int):Rat)
theorem zq0 {H:Hp} {v:Value} {rs:List Int} (hr:IL H v rs) (hn:rs.length≤300) {va:Option Addr} {vc:Nat} {la:Option Addr} {lc:Nat} {ls:List Int} (hv:IL H (.slice la ls.length lc) ls) {cl:Int} (hc:1≤cl∧cl≤12) (h0:1≤ls.length) (h1:ls.length≤300) (hls:∀z,z∈ls→0≤z∧z<cl) :
  PC prog 199 #[zbg 1 cl (.slice la ls.length lc) (.slice va 0 vc),v] H fun r _=>r=zaa (zjr (atI ls (exL rs ls.length))):=by
 obtain⟨a,cap,rfl⟩:=SlC.val hr;have hchk:=zgd (va:=va) (vc:=vc) hv hc h0 h1 hls;have hlen:=zle (cl:=cl) (va:=va) (vn:=0) (vc:=vc) (la:=la) (ln:=ls.length) (lc:=lc);have hel:=zdv rs ls.length;have hem:=zd5 (rs:=rs) (n:=ls.length);have hex:=fun (G:Hp) (hG:H.Le G)=>zck (hr.mono hG) oM ls.length;generalize exL rs ls.length=E at *
 have hLl:(atI ls E).length=E.length:=zcC ls E;have hsq:=zkp (atI ls E);rw[hLl]at hsq;have hsq2:E.length*E.length≤300*300:=Nat.mul_le_mul oM oM;have hE:zjr (atI ls E)=((E.length:Int):Rat)-((sqL (atI ls E):Int):Rat) / ((E.length:Int):Rat):=by unfold zjr;rw[hLl]
 have hn2:=zbG (E.length:Int);have hn3:bl (E.length:Int).natAbs≤20:=zaU oM;have hs2:=zbG (sqL (atI ls E):Int);have hs3:bl (sqL (atI ls E):Int).natAbs≤20:=zaU oM;have hdv:=zgu ((sqL (atI ls E):Int):Rat) ((E.length:Int):Rat);have hof:=zec (E.length:Int) oM oM;have hsub:=zfz ((E.length:Int):Rat) (((sqL (atI ls E):Int):Rat) / ((E.length:Int):Rat)) (by unfold sm;omega) (by unfold sm;omega);rw[hE];refine BD func199 ntmps199 ?_
 repeat (first|refine RUN ?_|refine CV (hchk) ?_|refine CE (hchk) ?_)
 apply EV.drawn 7 kR kR;intro xv yw;(repeat (first|refine' DD ?_|(refine' DC (hlen) (h:=?_);rotate_left)));refine' vB (cO func233) (fun G hG hd=>hex G hG) (fun _ _ _ h k=>SlN.mono h k) ?_;rotate_left;refine' vC (cO func232) (fun G hG hd=>zh8 (hv.mono hG) (hd.head kR) oM hem (fun z hz=>⟨(hls z hz).1,by have:=(hls z hz).2;omega⟩)) ?_;rotate_left;(repeat refine' DD ?_);(refine DJ.nil (fun G1 hG1 hF1=>?_);(case hS|hS2=>rfl))
 repeat (first|refine RUN ?_|refine CV (hof) ?_|refine CE (hof) ?_)
 (first|refine EVL.unbox (5) rfl fun b=>?_|refine EV.unbox (5) rfl fun b=>?_);refine EVL.callW rfl rfl rfl rfl rfl ([(b,307,zaz (E.length:Nat) (csL (atI ls E)) (sqL (atI ls E)) 0)]) ([]) rfl (zqB (zbM _) oM oM) ?_;rintro v ow G2 ⟨rfl,rfl⟩ hG2
 repeat (first|refine RUN ?_|refine CV (hsub) ?_|refine CE (hsub) ?_)
 rfl
theorem zlp:∀l:List Int,zed (l.map iv)=true
 | []=>rfl
 | _::l=>by rw[qy];unfold zed;rw[zlp l];rfl
theorem IL.nil (H:Hp) (a:Option Addr) (c:Nat):IL H (.slice a 0 c) []:=⟨rfl,.inl ⟨rfl,_,_,rfl⟩⟩
theorem zoK {H:Hp} {v:Value} {l:List Int} (h:IL H v l) (h0:0<l.length) (hl:l.length≤1000):PW prog 91 #[v] H [] fun r ow _=>zaO 3 1 r l.length (l.map iv) ow:=by
 have hs:=h.2;rcases hs with ⟨e,_⟩ | ⟨b,off,cap,c,rfl,_⟩
 ·omega
 ·refine PW.body tO func91 rfl kR ntmps91 rfl rfl ?_;refine uR ?_;refine EVL.eqnil tO rfl rfl rfl rfl rfl rfl rfl ?_;refine uR ?_;refine EVL.lit0 tO rfl rfl rfl rfl rfl rfl rfl fun g0=>?_;refine uR ?_;refine EVL.append tO rfl rfl rfl rfl rfl rfl rfl rfl rfl rfl rfl rfl [] [(g0,3,[])] [] rfl (zaO.full (m:=0) rfl oM) (zdj.ro h h0) (zlp l) oM ?_;intro v1 ow1 hown1;refine uR ?_;rw[qv]at hown1;rw[qG];exact hown1
theorem znd {H:Hp} {v:Value} (h:IL H v []):PC prog 91 #[v] H fun r _=>∃a cap,r=.slice a 0 cap:=by
 obtain⟨a,cap,rfl⟩:=SlC.val h;refine BD func91 ntmps91 ?_;refine uR ?_;refine EVL.eqnil tO rfl rfl rfl rfl rfl rfl rfl ?_
 cases a with
 | none =>
  refine uR ?_;exact⟨_,_,rfl⟩
 | some x =>
  refine uR ?_;refine EVL.lit0 tO rfl rfl rfl rfl rfl rfl rfl fun g0=>?_;refine uR ?_;refine EVL.append0 tO rfl rfl rfl rfl rfl rfl rfl rfl rfl (qH _) ?_;refine uR ?_;exact⟨_,_,rfl⟩
theorem zlF {H:Hp} (a:Option Addr) (cap:Nat) (clo:Value):PC prog 260 #[.slice a 0 cap,clo] H fun v _=>v=.tuple #[]:=by
 have hst:PC prog 272 #[.slice a 0 cap,.int .i64 0,clo] H fun v _=>v=.tuple #[]:=by
  have hno:∀G:Hp,PC prog 277 #[.slice a 0 cap,.int .i64 0,.int .i64 0,clo] G fun v _=>v=.tuple #[]:=fun G=>by
   refine BD func277 ntmps277 ?_;refine uR ?_;refine EV.loopK (ι:=Unit) [] [] (fun q=>[(2,.v (.int .i64 0)),(8,.v (.int .i64 1))]) (fun _=>[]) (fun _=>[]) (fun _ _=>True) (fun _=>0) (()) rfl rfl ⟨rfl,rfl,trivial⟩ trivial rfl (fun _=>rfl) (trivial) ?_;rintro⟨⟩ G1 hG1 _;refine uR ?_;rfl
  refine BD func272 ntmps272 ?_;refine uR ?_;refine EV.loopK (ι:=Unit) [0,1,2,6] [] (fun q=>[(7,.v (.int .i64 0)),(8,.v (.int .i64 20))]) (fun _=>[]) (fun _=>[]) (fun _ _=>True) (fun _=>0) (()) rfl rfl ⟨rfl,rfl,trivial⟩ trivial rfl (fun _=>rfl) (trivial) ?_;rintro⟨⟩ G1 hG1 _;refine uR ?_;refine vA (hno _) ?_;rintro r G2 rfl hG2;refine uR ?_;refine EV.loopK (ι:=Unit) [1] [] (fun q=>[(6,.v (.int .i64 20))]) (fun _=>[]) (fun _=>[]) (fun _ _=>True) (fun _=>0) (()) rfl rfl ⟨rfl,trivial⟩ trivial rfl (fun _=>rfl) (trivial) ?_;rintro⟨⟩ G3 hG3 _;refine uR ?_;rfl
 refine BD func260 ntmps260 ?_;refine uR ?_;refine vA (hst) ?_;rintro r G2 rfl hG2;refine uR ?_;rfl
def zm5 (X:List (List Rat)) (col:Int) (rs m:List Int):Prop:=(rs.all (zbO X col)=true∧m.Perm rs∧zhm (zbi X col) m)∨(rs.all (zbO X col)=false∧m=[])
theorem zqg {H:Hp} {vx vr:Value} {X:List (List Rat)} {rs:List Int} {col:Int} (hX:QLL H vx X) (hr:IL H vr rs) (hn:rs.length≤20) (hrs:∀r,r∈rs→0≤r∧r<(X.length:Int)) (hsm:∀x,x∈X→∀q,q∈x→sm q) :
  PC prog 254 #[vx,vr,.int .i64 col] H fun r H'=>∃m,IL H' r m∧zm5 X col rs m:=by
 obtain⟨a,cap,rfl⟩:=SlC.val hr;obtain⟨xa,xc,rfl⟩:=hX.val;refine BD func254 ntmps254 ?_;refine uR ?_;refine EV.loopK (ι:=Nat) [1,3,5,10,11] [3,5] (fun i=>[(12,.v (.int .i64 (i:Int)))]) (fun _=>[]) (fun _=>[]) (fun i _=>i≤rs.length∧∀r,r∈rs.take i→zbO X col r=true) (fun i=>rs.length-i) (0) rfl rfl ⟨rfl,trivial⟩ trivial rfl (fun _=>rfl) (⟨qQ _,by simp⟩) ?_;rintro i G1 hG1 ⟨hi,hall⟩;refine uR ?_;refine EV.cond rfl (fun hlt=>?_) (fun hlt=>?_)
 ·simp only[nN]at hlt;obtain⟨r,hri⟩:=gE hlt;have hb:=hrs r (qF hri);obtain⟨R,rfl⟩:=qj hb.1;obtain⟨x,hx⟩:∃x,X[R]?=some x:=⟨_,qA oM⟩;have hRl:R<X.length:=oM;obtain⟨vs,hvs,hs⟩:=hX.mono hG1;obtain⟨a1,c1,hu,hQ⟩:=hvs.at hx
  have hhas:zbO X col (R:Int)=(decide (0≤col) && decide (col<(x.length:Int))):=by
   unfold zbO;rw[qU,qB,hx];rfl
  have hno:zbO X col (R:Int)=false→rs.all (zbO X col)=false:=fun h=>by
   rw[List.all_eq_false];exact⟨_,qF hri,by rw[h];decide⟩
  refine uR ?_;refine vI ((hr.mono hG1)) (i) (rfl) (hlt) ((by rw[qK,hri];rfl)) ?_;refine uR ?_;by_cases hc:col<0
  ·apply EV.drawn 11 kR kR;intro xv yw;(repeat refine' DD ?_);rw[qD hc];(repeat refine' DD ?_);(refine DJ.nil (fun G1 hG1 hF1=>?_);(case hS|hS2=>rfl));refine uR ?_;exact⟨[],IL.nil _ _ _,.inr ⟨hno (by rw[hhas];simp;omega),rfl⟩⟩
  ·apply EV.drawn 11 kR kR;intro xv yw;(repeat refine' DD ?_);rw[qC hc];(repeat refine' DD ?_);refine' vJ (hs) (R) (rfl) (hRl) (hu) ?_;rotate_left;(repeat refine' DD ?_);(refine DJ.nil (fun G1 hG1 hF1=>?_);(case hS|hS2=>rfl));refine uR ?_;by_cases hc2:col≥(x.length:Int)
   ·rw[qD hc2];refine uR ?_;exact⟨[],IL.nil _ _ _,.inr ⟨hno (by rw[hhas];simp;omega),rfl⟩⟩
   ·rw[qC hc2];refine uR ?_;refine⟨i+1,⟨?_,trivial⟩,sB,trivial,sB,rfl,⟨hlt,fun z hz=>?_⟩,by assumption,by omega⟩
    ·rw[zad i (by omega)];rfl
    ·rw[zan hri]at hz;rcases List.mem_append.1 hz with hz | hz
     ·exact hall z hz
     ·rw[pL.1 hz,hhas];simp;omega
 ·simp only[nN]at hlt;obtain rfl:i=rs.length:=oM;rw[qb]at hall;have hall2:rs.all (zbO X col)=true:=List.all_eq_true.2 hall;refine uR ?_;(first|refine EVL.unbox (3) rfl fun bx=>?_|refine EV.unbox (3) rfl fun bx=>?_);(first|refine EVL.unbox (5) rfl fun bc=>?_|refine EV.unbox (5) rfl fun bc=>?_);(first|refine EVL.publish [] [(bx,_,_)] rfl fun G2 hG2 hbc=>?_|refine EV.publish [] [(bx,_,_)] rfl fun G2 hG2 hbc=>?_);(first|refine EVL.publish [] [] rfl fun G3 hG3 hbx=>?_|refine EV.publish [] [] rfl fun G3 hG3 hbx=>?_);have hXG:=hX.mono (hG1.trans (hG2.trans hG3));have hbcG:=hG3 _ _ hbc;have hrG:=hr.mono (hG1.trans (hG2.trans hG3));by_cases h0:rs.length=0
  ·obtain rfl:=pK.1 h0;refine vA (znd hrG) ?_;rintro r G4 ⟨a4,c4,rfl⟩ hG4;refine uR ?_;refine EVL.fn2 rfl rfl rfl rfl rfl rfl ?_;refine vA (zlF a4 c4 _) ?_;rintro r G5 rfl hG5;refine uR ?_;exact⟨[],IL.nil _ _ _,.inl ⟨hall2,List.Perm.refl _,List.Pairwise.nil⟩⟩
  ·refine EVL.callW rfl rfl rfl rfl rfl ([]) ([]) rfl (zoK hrG oM oM) ?_;rintro r ow G4 hown hG4;obtain⟨g,c4,sp,rfl,rfl,hl4,hm4,hx4⟩:=hown.block oM;refine uR ?_;refine EVL.fn2 rfl rfl rfl rfl rfl rfl ?_;refine vW ([(g,3,rs.map iv++sp)]) ([]) (zn9 (f:=261) (cs:=[.pointer (some ⟨bx,0,none⟩),.pointer (some ⟨bc,0,none⟩)]) (key:=zbi X col) hn (cO func261) (fun G hG x y hx hy=>zoO (hXG.mono (hG4.trans hG)) ((hG4.trans hG) _ _ hbx) ((hG4.trans hG) _ _ hbcG) hsm (hrs x hx).1 (hrs x hx).2 (hrs y hy).1 (hrs y hy).2 (hall x hx) (hall y hy))) ?_;rintro v ow G5 ⟨rfl,m,rfl,hp,hris⟩ hG5;have hml:=hp.length_eq;have hown2:zaO 3 1 (.slice (some ⟨g,0,none⟩) m.length c4) m.length (m.map iv) [(g,3,m.map iv++sp)]:=⟨by simp,.inr ⟨g,c4,sp,rfl,rfl,by rw[←hl4];simp[hml],by omega,hx4⟩⟩;rw[←hml];(first|refine EVL.publishL [] [(g,3,m.map iv++sp)] [] (rfl) hown2 fun G6 hG6 hs6=>?_|refine EV.publishL [] [(g,3,m.map iv++sp)] [] (rfl) hown2 fun G6 hG6 hs6=>?_);refine uR ?_;exact⟨m,hs6,.inl ⟨hall2,hp,hris⟩⟩
theorem zpt (a b:Rat) (ha:ht a≤100000) (hb:ht b≤100000):PV prog 256 #[zaa a,zaa b] (zaa ((a+b) / 2)):=by
 refine PV.of_pc ?_;have h1:=zdw a b
 have h2:ht ((2:Int):Rat)≤10:=by
  have:=zbG 2;have h2:bl (2:Int).natAbs≤5:=zaU (by decide);omega
 have hadd:=zdf a b (zai ha oM) (zai hb oM);have hof:=zec 2 oM oM;have hdiv:=zjA (a+b) ((2:Int):Rat) (zai h1 oM) (zai h2 oM) (by decide);rw[show ((2:Int):Rat)=2 from rfl]at hdiv hof;refine BD func256 ntmps256 ?_
 repeat (first|refine RUN ?_|refine CV (hadd) ?_|refine CV (hof) ?_|refine CV (hdiv) ?_|refine CE (hadd) ?_|refine CE (hof) ?_|refine CE (hdiv) ?_)
 rfl
theorem zlq {a b:Rat} (h:a≤b):zcr a b≤0:=by
 unfold zcr;split
 ·omega
 ·split
  ·rename_i k;exact absurd k (Rat.not_lt.2 h)
  ·omega
def za5 (X:List (List Rat)) (col:Int) (t:Rat) (es:List Int):List Int:=es.filter fun r=>zbO X col r && decide (zbi X col r≤t)
def zaB (X:List (List Rat)) (col:Int) (t:Rat) (es:List Int):List Int:=es.filter fun r=>zbO X col r && !decide (zbi X col r≤t)
theorem zgq {p:Int→Bool} {es:List Int} {i:Nat} {r:Int} (h:es[i]?=some r):(es.take (i+1)).filter p=(es.take i).filter p++if p r then [r] else []:=by
 rw[zan h,List.filter_append];cases hp:p r <;> simp[hp]
theorem zrO {H:Hp} {vx vr:Value} {X:List (List Rat)} {rs:List Int} {col:Int} {t:Rat} (hX:QLL H vx X) (hr:IL H vr rs) (hn:rs.length≤100000) (hsm:∀x,x∈X→∀q,q∈x→sm q) (ht:sm t) :
  PC prog 203 #[vx,vr,.int .i64 col,zaa t] H fun r H'=>∃u w,r=.tuple #[u,w]∧IL H' u (za5 X col t (exL rs X.length))∧IL H' w (zaB X col t (exL rs X.length)):=by
 obtain⟨a,cap,rfl⟩:=SlC.val hr;obtain⟨xa,xc,rfl⟩:=hX.val;refine BD func203 ntmps203 ?_;refine uR ?_;refine EVL.call rfl rfl rfl rfl rfl (zck hr oM X.length) ?_;intro r1 G0 he hG0;have hel:=zdv rs X.length;have heb:=zd5 (rs:=rs) (n:=X.length);generalize exL rs X.length=es at *
 obtain⟨a1,c1,rfl⟩:=SlC.val he;refine uR ?_;refine EV.loopK (ι:=Nat × Value × Value × Ows × Ows) [0,2,7,15,16] [7] (fun q=>[(8,.v q.2.1),(9,.v q.2.2.1),(17,.v (.int .i64 (q.1:Int)))]) (fun _=>[]) (fun q=>q.2.2.2.1++q.2.2.2.2) (fun q _=>q.1≤es.length∧zaO 3 1 q.2.1 (za5 X col t (es.take q.1)).length ((za5 X col t (es.take q.1)).map iv) q.2.2.2.1∧zaO 3 1 q.2.2.1 (zaB X col t (es.take q.1)).length ((zaB X col t (es.take q.1)).map iv) q.2.2.2.2) (fun q=>es.length-q.1) ((0,.slice none 0 0,.slice none 0 0,[],[])) rfl rfl ⟨rfl,rfl,rfl,trivial⟩ trivial rfl (fun _=>rfl) (⟨qQ _,zaO.nil _ _,zaO.nil _ _⟩) ?_;rintro⟨i,w1,w2,ow1,ow2⟩ G1 hG1 ⟨hi,hown1,hown2⟩;dsimp only at hi hown1 hown2;obtain⟨wa1,wc1,rfl⟩:=hown1.val;obtain⟨wa2,wc2,rfl⟩:=hown2.val;refine uR ?_;refine EV.cond rfl (fun hlt=>?_) (fun hlt=>?_)
 ·simp only[nN]at hlt;obtain⟨r,hri⟩:=gE hlt;have hb:=heb r (qF hri);obtain⟨R,rfl⟩:=qj hb.1;obtain⟨x,hx⟩:∃x,X[R]?=some x:=⟨_,qA oM⟩;have hRl:R<X.length:=oM;obtain⟨vs,hvs,hs⟩:=hX.mono (hG0.trans hG1);obtain⟨a2,c2,hu,hQ⟩:=hvs.at hx;have hlo:=zgq (p:=fun r=>zbO X col r && decide (zbi X col r≤t)) hri;have hhi:=zgq (p:=fun r=>zbO X col r && !decide (zbi X col r≤t)) hri
  have hhas:zbO X col (R:Int)=(decide (0≤col) && decide (col<(x.length:Int))):=by
   unfold zbO;rw[qU,qB,hx];rfl
  have hl1:(za5 X col t (es.take i)).length≤i:=qI (List.length_filter_le _ _) (by rw[qP];omega);have hl2:(zaB X col t (es.take i)).length≤i:=qI (List.length_filter_le _ _) (by rw[qP];omega);have wn:IntKind.i64.wrap ((i:Int)+1)=((i+1:Nat):Int):=zad i oM;refine uR ?_;refine vI ((he.mono hG1)) (i) (rfl) (hlt) ((by rw[qK,hri];rfl)) ?_;refine uR ?_;by_cases hc:col<0
  ·have hno:zbO X col (R:Int)=false:=by rw[hhas];simp;omega
   rw[hno,Bool.false_and,if_neg (by decide),qG]at hlo hhi;rw[qD hc];refine uR ?_;refine⟨(i+1,_,_,ow1,ow2),⟨rfl,rfl,?_,trivial⟩,sB,trivial,sB,rfl,⟨hlt,by unfold za5;rw[hlo];exact hown1,by unfold zaB;rw[hhi];exact hown2⟩,Hp.Le.refl _,by dsimp only;omega⟩;rw[wn];rfl
  ·rw[qC hc];refine uR ?_;refine vI (hs) (R) (rfl) (hRl) (hu) ?_;refine uR ?_;by_cases hc2:col≥(x.length:Int)
   ·have hno:zbO X col (R:Int)=false:=by rw[hhas];simp;omega
    rw[hno,Bool.false_and,if_neg (by decide),qG]at hlo hhi;rw[qD hc2];refine uR ?_;refine⟨(i+1,_,_,ow1,ow2),⟨rfl,rfl,?_,trivial⟩,sB,trivial,sB,rfl,⟨hlt,by unfold za5;rw[hlo];exact hown1,by unfold zaB;rw[hhi];exact hown2⟩,Hp.Le.refl _,by dsimp only;omega⟩;rw[wn];rfl
   ·have hyes:zbO X col (R:Int)=true:=by rw[hhas];simp;omega
    obtain⟨R',C,x',q,hRR,rfl,hx',hq⟩:=zgt hb.1 hb.2 hyes;obtain rfl:R=R':=oM;rw[hx]at hx';cases hx';have hk:=zgh (X:=X) rfl rfl hx hq;have hs2:SlC G1 (.slice a2 x.length c2) x.length 5 (x.flatMap fun q=>zac (zaa q)):=hQ;have hCl:=(qE.1 hq).1;have hcmp:=zbF q t (hsm x (qF hx) q (qF hq)) ht;rw[hyes,Bool.true_and,hk]at hlo hhi;rw[qC hc2];refine uR ?_;apply EV.drawn 8 kR kR;intro xv yw;(repeat refine' DD ?_);refine' vJ (hs) (R) (rfl) (hRl) (hu) ?_;rotate_left;(repeat refine' DD ?_);refine' DJ.idxM tO rfl rfl rfl rfl rfl rfl rfl rfl rfl (hs2) (C) (rfl) (hCl) (QL.at (H:=H) (v:=.bool true) hq) ?_;rotate_left;(repeat refine' DD ?_);(refine DJ.nil (fun G2 hG2 hF2=>?_);(case hS|hS2=>rfl))
    repeat (first|refine RUN ?_|refine CV (hcmp) ?_|refine CE (hcmp) ?_)
    by_cases hle:q≤t
    ·have ho:zcr q t≤0:=zlq hle;rw[qD hle,if_pos rfl]at hlo;rw[qD hle,if_neg (by decide),qG]at hhi;rw[qD ho];refine uR ?_;refine EVL.app1 tO rfl rfl rfl rfl rfl rfl rfl rfl rfl rfl rfl rfl rfl rfl rfl rfl rfl rfl rfl (fun _=>rfl) (ow1) (ow2) (rfl) (hown1) oM fun _=>?_;intro v' ow' hown';refine uR ?_;refine⟨(i+1,v',_,ow',ow2),⟨rfl,rfl,?_,trivial⟩,sB,trivial,sB,rfl,⟨hlt,by unfold za5;rw[hlo];exact hown'.il,by unfold zaB;rw[hhi];exact hown2⟩,by assumption,by dsimp only;omega⟩;rw[wn];rfl
    ·have ho:¬zcr q t≤0:=by
      have:=Rat.not_le.1 hle;unfold zcr;rw[if_neg (fun k=>absurd (Rat.le_of_lt k) (Rat.not_le.2 this)),if_pos this];omega
     rw[qC hle,if_neg (by decide),qG]at hlo;rw[qC hle,Bool.not_false,if_pos rfl]at hhi;rw[qC ho];refine uR ?_;refine EVL.swapOw ow1 ow2 rfl ?_;refine EVL.app1 tO rfl rfl rfl rfl rfl rfl rfl rfl rfl rfl rfl rfl rfl rfl rfl rfl rfl rfl rfl (fun _=>rfl) (ow2) (ow1) (rfl) (hown2) oM fun _=>?_;intro v' ow' hown';refine EVL.swapOw ow' ow1 rfl ?_;refine uR ?_;refine⟨(i+1,_,v',ow1,ow'),⟨rfl,rfl,?_,trivial⟩,sB,trivial,sB,rfl,⟨hlt,by unfold za5;rw[hlo];exact hown1,by unfold zaB;rw[hhi];exact hown'.il⟩,by assumption,by dsimp only;omega⟩;rw[wn];rfl
 ·simp only[nN]at hlt;obtain rfl:i=es.length:=oM;rw[qb]at hown1 hown2 ⊢;(first|refine EVL.publishL [] ow1 ow2 (rfl) hown1 fun G2 hG2 hs2=>?_|refine EV.publishL [] ow1 ow2 (rfl) hown1 fun G2 hG2 hs2=>?_);(first|refine EVL.publishL [] ow2 [] ((qG _).symm) hown2 fun G3 hG3 hs3=>?_|refine EV.publishL [] ow2 [] ((qG _).symm) hown2 fun G3 hG3 hs3=>?_);refine uR ?_;exact⟨_,_,rfl,hs2.mono hG3,hs3⟩
section
variable {pre S S' post vs:List Value} {k:Nat}
theorem zbl (h:pre.length=k) (j s:Nat) (hj:j+s≤S.length) (hv:(S.drop j).take s=vs):((pre++(S++post)).drop (k+j)).take s=vs:=by
 rw[←List.drop_drop,List.drop_left' h,List.drop_append_of_le_length oM,List.take_append_of_le_length (by rw[qu];omega),hv]
theorem zfF (h:pre.length=k) (i j s:Nat) (hj:i+j+s≤S.length) (hv:(S.drop (i+j)).take s=vs):((pre++(S++post)).drop (k+i+j)).take s=vs:=by
 rw[Nat.add_assoc];exact zbl h (i+j) s hj hv
theorem zb5 (h:pre.length=k) (j s:Nat) (hj:j+s≤S.length) (hv:S.take j++vs++S.drop (j+s)=S'):(pre++(S++post)).take (k+j)++vs++(pre++(S++post)).drop (k+j+s)=pre++(S'++post):=by
 subst h;rw[←hv,List.take_append,qO oM,show pre.length+j-pre.length=j by omega,List.take_append_of_le_length oM,Nat.add_assoc,←List.drop_drop,List.drop_left,List.drop_append_of_le_length (by omega)];simp only[qZ]
theorem zjj (h:pre.length=k) (i j s:Nat) (hj:i+j+s≤S.length) (hv:S.take (i+j)++vs++S.drop (i+j+s)=S'):(pre++(S++post)).take (k+i+j)++vs++(pre++(S++post)).drop (k+i+j+s)=pre++(S'++post):=by
 rw[Nat.add_assoc k i j];exact zb5 h (i+j) s hj hv
theorem zdp (h:pre.length=k) {j s:Nat} (hj:j+s≤S.length):k+j+s≤(pre++(S++post)).length:=by
 rw[qJ,qJ];omega
theorem zlY (h:pre.length=k) {i j s:Nat} (hj:i+j+s≤S.length):k+i+j+s≤(pre++(S++post)).length:=by
 rw[qJ,qJ];omega
end
section
variable {H:Hp} {b k:Nat} {T:TypeId} {pre post:List Value} (hk:pre.length=k)
include hk
theorem zsI {cl:Int} {la:Option Addr} {ln lc:Nat} {va:Option Addr} {vc:Nat} {vals:List Rat} (hv:QL H (.slice va vals.length vc) vals) {r n:Nat} (hn:n≤1000000) {x q:Rat} (hr:vals[r]?=some x) (hx:sm x) (hq:sm q) {cs:List Int} (hc:cs.length=12) {sq:Int} :
  PW prog 250 #[.pointer (some ⟨b,k,none⟩),zbg 2 cl (.slice la ln lc) (.slice va vals.length vc),.int .i64 (r:Int)] H [(b,T,pre++(zaz n cs sq q++post))] fun v ow _=>v=.tuple #[]∧ow=[(b,T,pre++(zaz ((n+1:Nat):Int) cs sq (q+x)++post))]:=by
 have hadd:=zdf q x hq hx;have hlen:=zas (n:=(n:Int)) (cs:=cs) (sq:=sq) (q:=q) hc;have hlen2:=zas (n:=((n+1:Nat):Int)) (cs:=cs) (sq:=sq) (q:=q) hc;obtain⟨hrl,_⟩:=qE.1 hr;have hs:SlC H (.slice va vals.length vc) vals.length 5 (vals.flatMap fun q=>zac (zaa q)):=hv;refine PW.body tO func250 rfl kR ntmps250 rfl rfl ?_;refine uR ?_;refine RP ?_;refine EVL.loadOwn tO rfl rfl rfl rfl rfl rfl (0) rfl (zbl hk 0 1 oM zcy) rfl rfl ?_;refine RP ?_;rw[show IntKind.i64.wrap ((n:Int)+1)=((n+1:Nat):Int) by rw[pM];omega];refine EVL.storeOwn tO rfl rfl rfl rfl rfl rfl ([]) ([]) rfl rfl rfl rfl ((zdp hk (j:=0) (s:=1) oM)) (zb5 hk 0 1 oM zce) ?_;refine uR ?_;apply EV.drawn 11 kR kR;intro xv yw;(repeat (first|refine' DD ?_|refine' vN ?_|refine' vF ?_));refine' DJ.ofVal (zab.loadOwn tO rfl rfl rfl rfl (0) rfl (zbl hk 14 5 oM (zeV hc)) rfl rfl) rfl rfl rfl ?_;rotate_left;(repeat (first|refine' DD ?_|refine' vN ?_|refine' vF ?_));refine' DJ.idxM tO rfl rfl rfl rfl rfl rfl rfl rfl rfl (hs) (r) (rfl) (hrl) (QL.at (H:=H) (v:=.bool true) hr) ?_;rotate_left;(repeat (first|refine' DD ?_|(refine' DC (hadd) (h:=?_);rotate_left)));(refine DJ.nil (fun G1 hG1 hF1=>?_);(case hS|hS2=>rfl));refine RP ?_;refine EVL.storeOwn tO rfl rfl rfl rfl rfl rfl ([]) ([]) rfl rfl rfl rfl ((zdp hk (j:=14) (s:=5) oM)) (zb5 hk 14 5 oM (zdC hc)) ?_;refine uR ?_;exact⟨rfl,rfl⟩
theorem zrb {cl:Int} {la:Option Addr} {ln lc:Nat} {va:Option Addr} {vc:Nat} {vals:List Rat} (hv:QL H (.slice va vals.length vc) vals) {r n:Nat} (hn:n≤1000000) {x q:Rat} (hr:vals[r]?=some x) (hx:sm x) (hq:sm q) {cs:List Int} (hc:cs.length=12) {sq:Int} :
  PW prog 262 #[.pointer (some ⟨b,k,none⟩),zbg 2 cl (.slice la ln lc) (.slice va vals.length vc),.int .i64 (r:Int)] H [(b,T,pre++(zaz ((n+1:Nat):Int) cs sq q++post))] fun v ow _=>v=.tuple #[]∧ow=[(b,T,pre++(zaz (n:Int) cs sq (q-x)++post))]:=by
 have hsub:=zfz q x hq hx;have hlen:=zas (n:=(n:Int)) (cs:=cs) (sq:=sq) (q:=q) hc;have hlen2:=zas (n:=((n+1:Nat):Int)) (cs:=cs) (sq:=sq) (q:=q) hc;obtain⟨hrl,_⟩:=qE.1 hr;have hs:SlC H (.slice va vals.length vc) vals.length 5 (vals.flatMap fun q=>zac (zaa q)):=hv;refine PW.body tO func262 rfl kR ntmps262 rfl rfl ?_;refine uR ?_;refine RP ?_;refine EVL.loadOwn tO rfl rfl rfl rfl rfl rfl (0) rfl (zbl hk 0 1 oM zcy) rfl rfl ?_;refine RP ?_;rw[show IntKind.i64.wrap (((n+1:Nat):Int)-1)=(n:Int) by rw[pM];omega];refine EVL.storeOwn tO rfl rfl rfl rfl rfl rfl ([]) ([]) rfl rfl rfl rfl ((zdp hk (j:=0) (s:=1) oM)) (zb5 hk 0 1 oM zce) ?_;refine uR ?_;apply EV.drawn 11 kR kR;intro xv yw;(repeat (first|refine' DD ?_|refine' vN ?_|refine' vF ?_));refine' DJ.ofVal (zab.loadOwn tO rfl rfl rfl rfl (0) rfl (zbl hk 14 5 oM (zeV hc)) rfl rfl) rfl rfl rfl ?_;rotate_left;(repeat (first|refine' DD ?_|refine' vN ?_|refine' vF ?_));refine' DJ.idxM tO rfl rfl rfl rfl rfl rfl rfl rfl rfl (hs) (r) (rfl) (hrl) (QL.at (H:=H) (v:=.bool true) hr) ?_;rotate_left;(repeat (first|refine' DD ?_|(refine' DC (hsub) (h:=?_);rotate_left)));(refine DJ.nil (fun G1 hG1 hF1=>?_);(case hS|hS2=>rfl));refine RP ?_;refine EVL.storeOwn tO rfl rfl rfl rfl rfl rfl ([]) ([]) rfl rfl rfl rfl ((zdp hk (j:=14) (s:=5) oM)) (zb5 hk 14 5 oM (zdC hc)) ?_;refine uR ?_;exact⟨rfl,rfl⟩
theorem zsG {cl:Int} {va:Option Addr} {vn vc:Nat} {la:Option Addr} {lc:Nat} {ls:List Int} (hv:IL H (.slice la ls.length lc) ls) {r n:Nat} (hn:n≤1000000) {j m sq:Nat} (hr:ls[r]?=some (j:Int)) (hj:j<12) {cs:List Int} (hc:cs.length=12) (hm:cs[j]?=some (m:Int)) (hmb:m≤1000000) (hsb:sq≤10000000000000) {q:Rat} :
  PW prog 250 #[.pointer (some ⟨b,k,none⟩),zbg 1 cl (.slice la ls.length lc) (.slice va vn vc),.int .i64 (r:Int)] H [(b,T,pre++(zaz n cs sq q++post))] fun v ow _=>v=.tuple #[]∧ow=[(b,T,pre++(zaz ((n+1:Nat):Int) (cs.set j ((m+1:Nat):Int)) ((sq+2*m+1:Nat):Int) q++post))]:=by
 have hlen:=zas (n:=(n:Int)) (cs:=cs) (sq:=(sq:Int)) (q:=q) hc;have hlen2:=zas (n:=((n+1:Nat):Int)) (cs:=cs) (sq:=(sq:Int)) (q:=q) hc;have hlen3:=zas (n:=((n+1:Nat):Int)) (cs:=cs) (sq:=((sq+2*m+1:Nat):Int)) (q:=q) hc;obtain⟨hrl,_⟩:=qE.1 hr
 have w1:IntKind.i64.wrap ((sq:Int)+IntKind.i64.wrap (IntKind.i64.wrap (2*(m:Int))+1))=((sq+2*m+1:Nat):Int):=by
  rw[show IntKind.i64.wrap (2*(m:Int))=2*(m:Int) by rw[pM];omega,show IntKind.i64.wrap (2*(m:Int)+1)=2*(m:Int)+1 by rw[pM];omega,pM];omega
 have w2:IntKind.i64.wrap ((m:Int)+1)=((m+1:Nat):Int):=by rw[pM];omega
 refine PW.body tO func250 rfl kR ntmps250 rfl rfl ?_;refine uR ?_;refine RP ?_;refine EVL.loadOwn tO rfl rfl rfl rfl rfl rfl (0) rfl (zbl hk 0 1 oM zcy) rfl rfl ?_;refine RP ?_;rw[show IntKind.i64.wrap ((n:Int)+1)=((n+1:Nat):Int) by rw[pM];omega];refine EVL.storeOwn tO rfl rfl rfl rfl rfl rfl ([]) ([]) rfl rfl rfl rfl ((zdp hk (j:=0) (s:=1) oM)) (zb5 hk 0 1 oM zce) ?_;refine uR ?_;refine vI (hv) (r) (rfl) (hrl) ((by rw[qK,hr];rfl)) ?_;refine uR ?_;apply EV.drawn 13 kR kR;intro xv yw;(repeat (first|refine' DD ?_|refine' vN ?_|refine' vF ?_));refine' DJ.ofVal (zab.loadOwn tO rfl rfl rfl rfl (0) rfl (zbl hk 13 1 oM (zfm hc)) rfl rfl) rfl rfl rfl ?_;rotate_left;(repeat (first|refine' DD ?_|refine' vN ?_|refine' vF ?_));refine' DJ.idxA tO rfl rfl rfl rfl (zda) rfl rfl rfl rfl (j) (rfl) (hj) ?_;rotate_left;refine' DJ.ofVal (zab.loadOwn tO rfl rfl rfl rfl (0) rfl (zfF hk 1 j 1 oM (zg2 hm)) rfl rfl) rfl rfl rfl ?_;rotate_left;(repeat (first|refine' DD ?_|refine' vN ?_|refine' vF ?_));(refine DJ.nil (fun G1 hG1 hF1=>?_);(case hS|hS2=>rfl));rw[w1];refine RP ?_;refine EVL.storeOwn tO rfl rfl rfl rfl rfl rfl ([]) ([]) rfl rfl rfl rfl ((zdp hk (j:=13) (s:=1) oM)) (zb5 hk 13 1 oM (zek hc)) ?_;refine uR ?_;apply EV.drawn 10 kR kR;intro xv yw;(repeat (first|refine' DD ?_|refine' vN ?_|refine' vF ?_));refine' DJ.idxA tO rfl rfl rfl rfl (zda) rfl rfl rfl rfl (j) (rfl) (hj) ?_;rotate_left;refine' DJ.ofVal (zab.loadOwn tO rfl rfl rfl rfl (0) rfl (zfF hk 1 j 1 oM (zg2 hm)) rfl rfl) rfl rfl rfl ?_;rotate_left;(repeat (first|refine' DD ?_|refine' vN ?_|refine' vF ?_));refine' DJ.idxA tO rfl rfl rfl rfl (zda) rfl rfl rfl rfl (j) (rfl) (hj) ?_;rotate_left;(refine DJ.nil (fun G2 hG2 hF2=>?_);(case hS|hS2=>rfl));rw[w2];refine RP ?_;refine EVL.storeOwn tO rfl rfl rfl rfl rfl rfl ([]) ([]) rfl rfl rfl rfl ((zlY hk (i:=1) (j:=j) (s:=1) oM)) (zjj hk 1 j 1 oM (zej _ (show j<cs.length by omega))) ?_;refine uR ?_;exact⟨rfl,rfl⟩
theorem zra {cl:Int} {va:Option Addr} {vn vc:Nat} {la:Option Addr} {lc:Nat} {ls:List Int} (hv:IL H (.slice la ls.length lc) ls) {r n:Nat} (hn:n≤1000000) {j m sq:Nat} (hr:ls[r]?=some (j:Int)) (hj:j<12) {cs:List Int} (hc:cs.length=12) (hm:cs[j]?=some ((m+1:Nat):Int)) (hmb:m≤1000000) (hsb:sq≤10000000000000) {q:Rat} :
  PW prog 262 #[.pointer (some ⟨b,k,none⟩),zbg 1 cl (.slice la ls.length lc) (.slice va vn vc),.int .i64 (r:Int)] H [(b,T,pre++(zaz ((n+1:Nat):Int) cs ((sq+2*m+1:Nat):Int) q++post))] fun v ow _=>v=.tuple #[]∧ow=[(b,T,pre++(zaz (n:Int) (cs.set j (m:Int)) (sq:Int) q++post))]:=by
 have hcs:(cs.set j (m:Int)).length=12:=by rw[List.length_set,hc]
 have hlen:=zas (n:=(n:Int)) (cs:=cs) (sq:=((sq+2*m+1:Nat):Int)) (q:=q) hc;have hlen2:=zas (n:=((n+1:Nat):Int)) (cs:=cs) (sq:=((sq+2*m+1:Nat):Int)) (q:=q) hc;have hlen3:=zas (n:=(n:Int)) (cs:=cs.set j (m:Int)) (sq:=((sq+2*m+1:Nat):Int)) (q:=q) hcs;obtain⟨hrl,_⟩:=qE.1 hr;have w2:IntKind.i64.wrap (((m+1:Nat):Int)-1)=(m:Int):=by rw[pM];omega
 have hm':(cs.set j (m:Int))[j]?=some (m:Int):=by rw[List.getElem?_set_self (by omega)]
 have w1:IntKind.i64.wrap (((sq+2*m+1:Nat):Int)-IntKind.i64.wrap (IntKind.i64.wrap (2*(m:Int))+1))=(sq:Int):=by
  rw[show IntKind.i64.wrap (2*(m:Int))=2*(m:Int) by rw[pM];omega,show IntKind.i64.wrap (2*(m:Int)+1)=2*(m:Int)+1 by rw[pM];omega,pM];omega
 refine PW.body tO func262 rfl kR ntmps262 rfl rfl ?_;refine uR ?_;refine RP ?_;refine EVL.loadOwn tO rfl rfl rfl rfl rfl rfl (0) rfl (zbl hk 0 1 oM zcy) rfl rfl ?_;refine RP ?_;rw[show IntKind.i64.wrap (((n+1:Nat):Int)-1)=(n:Int) by rw[pM];omega];refine EVL.storeOwn tO rfl rfl rfl rfl rfl rfl ([]) ([]) rfl rfl rfl rfl ((zdp hk (j:=0) (s:=1) oM)) (zb5 hk 0 1 oM zce) ?_;refine uR ?_;refine vI (hv) (r) (rfl) (hrl) ((by rw[qK,hr];rfl)) ?_;refine uR ?_;apply EV.drawn 10 kR kR;intro xv yw;(repeat (first|refine' DD ?_|refine' vN ?_|refine' vF ?_));refine' DJ.idxA tO rfl rfl rfl rfl (zda) rfl rfl rfl rfl (j) (rfl) (hj) ?_;rotate_left;refine' DJ.ofVal (zab.loadOwn tO rfl rfl rfl rfl (0) rfl (zfF hk 1 j 1 oM (zg2 hm)) rfl rfl) rfl rfl rfl ?_;rotate_left;(repeat (first|refine' DD ?_|refine' vN ?_|refine' vF ?_));refine' DJ.idxA tO rfl rfl rfl rfl (zda) rfl rfl rfl rfl (j) (rfl) (hj) ?_;rotate_left;(refine DJ.nil (fun G2 hG2 hF2=>?_);(case hS|hS2=>rfl));rw[w2];refine RP ?_;refine EVL.storeOwn tO rfl rfl rfl rfl rfl rfl ([]) ([]) rfl rfl rfl rfl ((zlY hk (i:=1) (j:=j) (s:=1) oM)) (zjj hk 1 j 1 oM (zej _ (show j<cs.length by omega))) ?_;refine uR ?_;apply EV.drawn 13 kR kR;intro xv yw;(repeat (first|refine' DD ?_|refine' vN ?_|refine' vF ?_));refine' DJ.ofVal (zab.loadOwn tO rfl rfl rfl rfl (0) rfl (zbl hk 13 1 oM (zfm hcs)) rfl rfl) rfl rfl rfl ?_;rotate_left;(repeat (first|refine' DD ?_|refine' vN ?_|refine' vF ?_));refine' DJ.idxA tO rfl rfl rfl rfl (zda) rfl rfl rfl rfl (j) (rfl) (hj) ?_;rotate_left;refine' DJ.ofVal (zab.loadOwn tO rfl rfl rfl rfl (0) rfl (zfF hk 1 j 1 oM (zg2 hm')) rfl rfl) rfl rfl rfl ?_;rotate_left;(repeat (first|refine' DD ?_|refine' vN ?_|refine' vF ?_));(refine DJ.nil (fun G1 hG1 hF1=>?_);(case hS|hS2=>rfl));rw[w1];refine RP ?_;refine EVL.storeOwn tO rfl rfl rfl rfl rfl rfl ([]) ([]) rfl rfl rfl rfl ((zdp hk (j:=13) (s:=1) oM)) (zb5 hk 13 1 oM (zek hcs)) ?_;refine uR ?_;exact⟨rfl,rfl⟩
theorem zqC {n:Nat} {cs:List Int} (hc:cs.length=12) {sq:Nat} (hsq:sq≤10000000000000) (hn:n≤1000000) {q:Rat} (hq:ht q≤1000000) :
  PW prog 234 #[.pointer (some ⟨b,k,none⟩),.int .i64 2] H [(b,T,pre++(zaz n cs sq q++post))] fun v ow _=>v=zaa (q*q / ((n:Int):Rat))∧ow=[(b,T,pre++(zaz n cs sq q++post))]:=by
 have hlen:=zas (n:=(n:Int)) (cs:=cs) (sq:=(sq:Int)) (q:=q) hc;have hqs:sm q:=zai hq oM;have hmul:=zgD q q hqs hqs;have hof:=zec (sq:Int) oM oM;have hof2:=zec (n:Int) oM oM;have hm:=zdx q q
 have hnh:ht ((n:Int):Rat)≤100:=by
  have:=zbG (n:Int);have h2:bl (n:Int).natAbs≤20:=zaU oM;omega
 refine PW.body tO func234 rfl kR ntmps234 rfl rfl ?_;refine uR ?_;refine RP ?_;refine EVL.loadOwn tO rfl rfl rfl rfl rfl rfl (0) rfl (zbl hk 0 1 oM zcy) rfl rfl ?_;refine uR ?_;by_cases h0:n=0
 ·subst h0;rw[show (((0:Nat):Int) == 0)=true from rfl];refine uR ?_;rw[show (((0:Nat):Int):Rat)=0 from rfl,zaH];exact⟨zbN.symm,rfl⟩
 ·have hdiv:=zjA (q*q) ((n:Int):Rat) (zai hm oM) (zai hnh oM) (zdL h0);rw[show ((n:Int) == 0)=false from pR.2 (by omega)];refine uR ?_;refine RP ?_;refine EVL.loadOwn tO rfl rfl rfl rfl rfl rfl (0) rfl (zbl hk 13 1 oM (zfm hc)) rfl rfl ?_
  repeat (first|refine RUN ?_|refine CV (hof) ?_|refine CE (hof) ?_)
  apply EV.drawn 8 kR kR;intro xv yw;(repeat (first|refine' DD ?_|refine' vN ?_|refine' vF ?_));refine' DJ.ofVal (zab.loadOwn tO rfl rfl rfl rfl (0) rfl (zbl hk 14 5 oM (zeV hc)) rfl rfl) rfl rfl rfl ?_;rotate_left;(repeat (first|refine' DD ?_|refine' vN ?_|refine' vF ?_));refine' DJ.ofVal (zab.loadOwn tO rfl rfl rfl rfl (0) rfl (zbl hk 14 5 oM (zeV hc)) rfl rfl) rfl rfl rfl ?_;rotate_left;(repeat (first|refine' DD ?_|refine' vN ?_|refine' vF ?_));(refine DJ.nil (fun G1 hG1 hF1=>?_);(case hS|hS2=>rfl))
  repeat (first|refine RUN ?_|refine CV (hmul) ?_|refine CE (hmul) ?_)
  refine uR ?_;apply EV.drawn 12 kR kR;intro xv yw;(repeat (first|refine' DD ?_|refine' vN ?_|refine' vF ?_));refine' DJ.ofVal (zab.loadOwn tO rfl rfl rfl rfl (0) rfl (zbl hk 0 1 oM zcy) rfl rfl) rfl rfl rfl ?_;rotate_left;(repeat (first|refine' DD ?_|(refine' DC (hof2) (h:=?_);rotate_left)|(refine' DC (hdiv) (h:=?_);rotate_left)));(refine DJ.nil (fun G2 hG2 hF2=>?_);(case hS|hS2=>rfl));refine uR ?_;exact⟨rfl,rfl⟩
theorem zqA {n:Nat} {cs:List Int} (hc:cs.length=12) {sq:Nat} (hsq:sq≤10000000000000) (hn:n≤1000000) {q:Rat} :
  PW prog 234 #[.pointer (some ⟨b,k,none⟩),.int .i64 1] H [(b,T,pre++(zaz n cs sq q++post))] fun v ow _=>v=zaa (((sq:Int):Rat) / ((n:Int):Rat))∧ow=[(b,T,pre++(zaz n cs sq q++post))]:=by
 have hlen:=zas (n:=(n:Int)) (cs:=cs) (sq:=(sq:Int)) (q:=q) hc;have hof:=zec (sq:Int) oM oM;have hof2:=zec (n:Int) oM oM
 have hnh:ht ((n:Int):Rat)≤100:=by
  have:=zbG (n:Int);have h2:bl (n:Int).natAbs≤20:=zaU oM;omega
 have hsh:ht ((sq:Int):Rat)≤100:=by
  have:=zbG (sq:Int);have h2:bl (sq:Int).natAbs≤50:=zaU oM;omega
 refine PW.body tO func234 rfl kR ntmps234 rfl rfl ?_;refine uR ?_;refine RP ?_;refine EVL.loadOwn tO rfl rfl rfl rfl rfl rfl (0) rfl (zbl hk 0 1 oM zcy) rfl rfl ?_;refine uR ?_;by_cases h0:n=0
 ·subst h0;rw[show (((0:Nat):Int) == 0)=true from rfl];refine uR ?_;rw[show (((0:Nat):Int):Rat)=0 from rfl,zaH];exact⟨zbN.symm,rfl⟩
 ·have hdiv:=zjA ((sq:Int):Rat) ((n:Int):Rat) (zai hsh oM) (zai hnh oM) (zdL h0);rw[show ((n:Int) == 0)=false from pR.2 (by omega)];refine uR ?_;refine RP ?_;refine EVL.loadOwn tO rfl rfl rfl rfl rfl rfl (0) rfl (zbl hk 13 1 oM (zfm hc)) rfl rfl ?_
  repeat (first|refine RUN ?_|refine CV (hof) ?_|refine CE (hof) ?_)
  apply EV.drawn 12 kR kR;intro xv yw;(repeat (first|refine' DD ?_|refine' vN ?_|refine' vF ?_));refine' DJ.ofVal (zab.loadOwn tO rfl rfl rfl rfl (0) rfl (zbl hk 0 1 oM zcy) rfl rfl) rfl rfl rfl ?_;rotate_left;(repeat (first|refine' DD ?_|(refine' DC (hof2) (h:=?_);rotate_left)|(refine' DC (hdiv) (h:=?_);rotate_left)));(refine DJ.nil (fun G2 hG2 hF2=>?_);(case hS|hS2=>rfl));refine uR ?_;exact⟨rfl,rfl⟩
end
theorem zuk {b:Nat} {c:Array Value} (h:gH b=some c):c.toList.length=64:=by
 unfold gH at h;split at h
 ·cases h;rfl
 ·cases h
section
variable {P:Program} {n:Nat} {ops:Array Oper} {o:Oper} {rest:List Oper} {env:Env} {bx:Bxs} {sb:Bxs} {ow:Ows} {H:Hs} {Q:EQ} {τ:Tab} {d:Nat} {s:SV}
theorem zab.callR {f:FuncId} {args:Array Operand} {tys:Array TypeId} (ho:o.op=.call ⟨.value (.func f),args,tys⟩) (hw:zag ops env o=some true) {vs:List Value} (ha:zbk env args.toList some=some vs) (jj:Nat) {b:Nat} {T:TypeId} {cs:List Value} (hj:ow[jj]?=some (b,T,cs)) (h64:cs.length≠64)
  {v:Value} (hc:zat P f) {F:Hp→Prop} {R:Hp} (hpc:∀G,PW P f vs.toArray G [(b,T,cs)] fun u ow' _=>u=v∧ow'=[(b,T,cs)]):zab P ops o env bx ow R F (fun β u G=>(SV.v v).rep β G u):=fun β a W G hle hf hgl hb hown hs hF=>by
 obtain⟨vs',hk,hm⟩:=zaV env _ _ _ ha;cases hk;have hvs:=hm β G a.eval (fun y s hy=>hs.op (by simp[ho,Op.operands,Call.operands];exact .inr (by simpa using hy)));have hB:=hown jj b T cs hj
 have hg:gH b=none:=by
  cases hgb:gH b with
  | none=>rfl
  | some c =>
   obtain⟨T',fz,hW⟩:=hgl b c hgb;have hB':W.heap[b]?=some (.cells cs.toArray T (0,0)):=hB;rw[hB']at hW;cases hW;have:=zuk hgb;exact absurd (by simpa using this) h64
 rw[if_pos (hs.want hw)];unfold Oper.wp;rw[za3 hc ho hvs,Oper.upon_enter];refine((hpc (fun k=>if k=b then none else G k)).run W (fun k c h=>hf k c (by first|(split at h <;> first|(cases h;done)|exact h))) hgl (fun j b' T' cs' h=>?_) ?_).mono ?_
 ·cases j with
  | zero=>simp at h;obtain⟨rfl,rfl,rfl⟩:=h;exact⟨hB,if_pos rfl,hg⟩
  | succ j=>simp at h
 ·intro j j' b' T1 T2 c1 c2 h1 h2
  cases j with
  | zero=>cases j' with
   | zero=>rfl
   | succ j'=>simp at h2
  | succ j=>simp at h1
 ·rintro e W' ⟨u,ow',H',rfl,⟨rfl,rfl⟩,hle',hf',hnew,hk,hb',_⟩;have hB2:=(hb' 0 b T cs rfl).1
  have hbel:Below W.heap.size W W':=⟨hk.os,hk.tape,hk.output,hk.size,fun k hlt=>by
   by_cases e:k=b
   ·subst e;have h1:W.heap[k]?=some (.cells cs.toArray T (0,0)):=hB;have h2:W'.heap[k]?=some (.cells cs.toArray T (0,0)):=hB2;rw[h1,h2]
   ·exact hk.block k hlt (by simp[Ows.bs];exact e)⟩
  exact⟨u,G,rfl,rfl,Hp.Le.refl G,hf.below hbel,hbel,Nw.refl _ _ _⟩
theorem ztC {f:Fn} {x:Operand} (ho:o.op=.makeFunc f #[] #[x]) {u:Value} (hx:env.op x=some (.v u)) (ev:Operand→Value) (W:World) (he:∀y x,y∈o.op.operands→env.op y=some (.v x)→ev y=x) :
  (execOp ev o).run P W=.ok (.value (.func f #[] #[u])) W:=by
 have ex:=he x _ (by simp[ho,Op.operands]) hx;unfold execOp;simp[ho,ex,Instr.makeFunc]
theorem EVL.fn1 {f:Fn} {x:Operand} (ho:o.op=.makeFunc f #[] #[x]) (hw:zag ops env o=some true) (hd:o.dst=some d) (hn:Nat.blt d n=true) {u:Value} (hx:env.op x=some (.v u))
  (h:EVL P n ops rest ((d,.v (.func f #[] #[u]))::env) bx H Q):EVL P n ops (o::rest) env bx H Q:=EVL.gen hw hd hn (ztC ho hx) h
theorem DJ.callR {tail l:List Oper} {x:Nat→Value} {y:Nat→Ows} {ow':Ows} {kl ks:List DK} {i:Nat} {bx':Bxs} {Γ:zeZ} {f:FuncId} {args:Array Operand} {tys:Array TypeId} (ho:o.op=.call ⟨.value (.func f),args,tys⟩) (hw:zag ops env o=some true) (hd:o.dst=some d) (hn:Nat.blt d n=true)
  {vs:List Value} (ha:zbk env args.toList some=some vs) (jj:Nat) {b:Nat} {T:TypeId} {cs:List Value} (hj:H.ow[jj]?=some (b,T,cs)) (h64:cs.length≠64) {v:Value} (hc:zat P f) (hpc:∀G,PW P f vs.toArray G [(b,T,cs)] fun u ow' _=>u=v∧ow'=[(b,T,cs)])
  (h:DJ P n ops tail sb bx H Q x y kl (i+1) l ks ((d,.v v)::env) bx' Γ ow'):DJ P n ops tail sb bx H Q x y kl i (o::l) (.sv (.v v)::ks) env bx' Γ ow' :=
 ⟨d,hd,hn,rfl,zab.callR ho hw ha jj hj h64 hc hpc,h⟩
end
structure GOk (H:Hp) (kd cl:Int) (sl sv:Value) (N:Nat) (S:List Int→List Value) (wo:List Int→Rat):Prop where
 len:∀l,(S l).length=19
 form:∀l,∃(n:Int) (cs:List Int) (sq:Int) (q:Rat),cs.length=12∧S l=zaz n cs sq q
 check:∀G,H.Le G→PC prog 160 #[zbg kd cl sl sv] G fun r _=>r=.int .i64 0
 leng:PV prog 159 #[zbg kd cl sl sv] (.int .i64 (N:Int))
 zero:S []=Tryz.te307.zero
 first:∀l,((S l).drop 0).take 1=[.int .i64 (l.length:Int)]
 whole:∀G,H.Le G→∀v l,IL G v l→l.length≤300→(∀r,r∈l→0≤r∧r<(N:Int))→PC prog 232 #[zbg kd cl sl sv,v] G fun r _=>r=.agg (S l).toArray
 move:∀G,H.Le G→∀(b:Nat) (l l':List Int) (r:Int),l.length+l'.length≤299→(∀z,z∈l++r::l'→0≤z∧z<(N:Int)) →
  PW prog 255 #[.pointer (some ⟨b,0,none⟩),zbg kd cl sl sv,.int .i64 r] G [(b,334,S l++S (r::l'))] fun v ow _=>v=.tuple #[]∧ow=[(b,334,S (l++[r])++S l')]
 worth:∀(G:Hp) (b k:Nat) (T:TypeId) (pre post:List Value) (l:List Int),pre.length=k→l.length≤300→(∀r,r∈l→0≤r∧r<(N:Int)) →
  PW prog 234 #[.pointer (some ⟨b,k,none⟩),.int .i64 kd] G [(b,T,pre++(S l++post))] fun v ow _=>v=zaa (wo l)∧ow=[(b,T,pre++(S l++post))]
 small:∀l:List Int,l.length≤300→(∀r,r∈l→0≤r∧r<(N:Int))→ht (wo l)≤100000
theorem GOk.mono {H G:Hp} {kd cl:Int} {sl sv:Value} {N:Nat} {S:List Int→List Value} {wo:List Int→Rat} (h:GOk H kd cl sl sv N S wo) (k:H.Le G):GOk G kd cl sl sv N S wo :=
 ⟨h.len,h.form,fun G' hG=>h.check G' (k.trans hG),h.leng,h.zero,h.first,fun G' hG=>h.whole G' (k.trans hG),fun G' hG=>h.move G' (k.trans hG),h.worth,h.small⟩
theorem PV.pc' {P:Program} {f:FuncId} {args:Array Value} {v:Value} (h:PV P f args v) (G:Hp):PC P f args G fun r _=>r=v:=(h.pc G).mono fun _ _ h _=>h.1
theorem zoa (l:List Rat):∀x:Rat,l.foldl (·+·) x=x+zaR l:=by
 unfold zaR
 induction l with
 | nil=>intro x;rw[List.foldl_nil,List.foldl_nil,Rat.add_zero]
 | cons y l ih=>intro x;rw[List.foldl_cons,List.foldl_cons,ih,ih (0+y),Rat.zero_add,Rat.add_assoc]
theorem zaF (x:Rat) (l:List Rat):zaR (x::l)=x+zaR l:=by
 have:=zoa l (0+x);rw[Rat.zero_add]at this;unfold zaR at *
 rw[List.foldl_cons,Rat.zero_add];exact this
def zkj (vals:List Rat) (l:List Int):List Value:=zaz (l.length:Nat) (List.replicate 12 0) 0 (zaR (atR vals l))
def zki (ls:List Int) (l:List Int):List Value:=zaz (l.length:Nat) (csL (atI ls l)) (sqL (atI ls l):Nat) 0
def woV (vals:List Rat) (l:List Int):Rat:=zaR (atR vals l)*zaR (atR vals l) / ((l.length:Int):Rat)
def woL (ls:List Int) (l:List Int):Rat:=((sqL (atI ls l):Int):Rat) / ((l.length:Int):Rat)
theorem zlW {vals:List Rat} {R:Nat} {x:Rat} (h:vals[R]?=some x) (l:List Int):atR vals ((R:Int)::l)=x::atR vals l:=by
 unfold atR;rw[qy,qU,qB,h];rfl
theorem zev {ls:List Int} {R:Nat} {x:Int} (h:ls[R]?=some x) (l:List Int):atI ls ((R:Int)::l)=x::atI ls l:=by
 unfold atI;rw[qy,qU,qB,h];rfl
theorem zkR {vals:List Rat} (l m:List Int):atR vals (l++m)=atR vals l++atR vals m:=qr
theorem zkQ {ls:List Int} (l m:List Int):atI ls (l++m)=atI ls l++atI ls m:=qr
theorem zvk {H:Hp} {la:Option Addr} {lc:Nat} {va:Option Addr} {vc:Nat} {vals:List Rat} (hv:QL H (.slice va vals.length vc) vals) (h0:1≤vals.length) (h1:vals.length≤300) (hb:∀q,q∈vals→ht q≤100) :
  GOk H 2 0 (.slice la 0 lc) (.slice va vals.length vc) vals.length (zkj vals) (woV vals):=by
 have hs:∀l:List Int,l.length≤300→(∀r,r∈l→0≤r∧r<(vals.length:Int))→ht (zaR (atR vals l))≤1+101*300:=fun l hl hr=>by
  have h1:=zfu 100 (atR vals l) (fun q hq=>hb q (ze2 hr q hq));rw[zb0]at h1;omega
 refine⟨fun l=>zas rfl,fun l=>⟨_,_,_,_,rfl,rfl⟩,fun G hG=>(zey h0 h1).pc' G,zpn,by unfold zkj;exact zeW.symm,fun l=>zcy,fun G hG v l hl hn hr=>?_,fun G hG b l l' r hn hr=>?_,fun G b k T pre post l hk hn hr=>?_,fun l hl hr=>?_⟩
 ·obtain⟨a,c,rfl⟩:=SlC.val hl;exact zqy (hv.mono hG) hl oM hr hb
 ·have hrb:=hr r (by simp);obtain⟨R,rfl⟩:=qj hrb.1;obtain⟨x,hx⟩:∃x,vals[R]?=some x:=⟨_,qA oM⟩;have hxs:sm x:=zai (hb x (qF hx)) oM;have h1:=hs l oM (fun z hz=>hr z (by simp[hz]));have h2:=hs ((R:Int)::l') (by simp;omega) (fun z hz=>hr z (List.mem_append_right _ hz));have e1:zaR (atR vals (l++[(R:Int)]))=zaR (atR vals l)+x:=by rw[zkR,zlW hx];exact zby _ _
  have e2:zaR (atR vals ((R:Int)::l'))-x=zaR (atR vals l'):=by rw[zlW hx,zaF];grind
  have hadd:=fun (G':Hp) (hG':G.Le G')=>zsI (pre:=[]) (k:=0) (b:=b) (T:=334) (post:=zkj vals ((R:Int)::l')) rfl (cl:=0) (la:=la) (ln:=0) (lc:=lc) (hv.mono (hG.trans hG')) (n:=l.length) oM hx hxs (zai h1 oM) (cs:=List.replicate 12 0) rfl (sq:=0);have hdrop:=fun (G':Hp) (hG':G.Le G')=>zrb (pre:=zkj vals (l++[(R:Int)])) (k:=19) (b:=b) (T:=334) (post:=[]) (zas rfl) (cl:=0) (la:=la) (ln:=0) (lc:=lc) (hv.mono (hG.trans hG')) (n:=l'.length) oM hx hxs (zai h2 oM) (cs:=List.replicate 12 0) rfl (sq:=0);simp only[←e1]at hadd;simp only[e2]at hdrop;have hl1:(l++[(R:Int)]).length=l.length+1:=by simp
  refine PW.body tO func255 rfl kR ntmps255 rfl rfl ?_;refine uR ?_;apply EV.drawn 5 kR kR;intro xv yw;(repeat (first|refine' DD ?_|refine' vN ?_|refine' vF ?_));(refine DJ.nil (fun G1 hG1 hF1=>?_);(case hS|hS2=>rfl));refine vW ([(b,334,zkj vals l++zkj vals ((R:Int)::l'))]) ([]) (hadd _ hG1) ?_;rintro v ow G2 ⟨rfl,rfl⟩ hG2;rw[←hl1];refine uR ?_;apply EV.drawn 5 kR kR;intro xv yw;(repeat (first|refine' DD ?_|refine' vN ?_|refine' vF ?_));(refine DJ.nil (fun G3 hG3 hF3=>?_);(case hS|hS2=>rfl));refine EVL.callW rfl rfl rfl rfl rfl ([(b,334,zkj vals (l++[(R:Int)])++(zaz ((l'.length+1:Nat):Int) (List.replicate 12 0) 0 (zaR (atR vals ((R:Int)::l')))++[]))]) ([]) rfl (hdrop _ (hG1.trans (hG2.trans hG3))) ?_;rintro v ow G4 ⟨rfl,rfl⟩ hG4;refine uR ?_;refine⟨rfl,?_⟩;rw[qG];rfl
 ·exact zqC hk (cs:=List.replicate 12 0) rfl (sq:=0) oM oM (qI (hs l hn hr) oM)
 ·have h1:=hs l hl hr;have h2:=zdx (zaR (atR vals l)) (zaR (atR vals l));have h3:=zbG (l.length:Int);have h4:bl (l.length:Int).natAbs≤20:=zaU oM;have h5:=zgu (zaR (atR vals l)*zaR (atR vals l)) ((l.length:Int):Rat);unfold woV;omega
theorem zmN {l m:List Int} (h:l.Perm m):sqL l=sqL m:=by
 unfold sqL;have e:(l.map fun x=>l.count x)=l.map fun x=>m.count x:=List.map_congr_left fun x _=>h.count_eq x;rw[e];exact(h.map _).sum_nat
theorem zq3 {l m:List Int} (h:l.Perm m):csL l=csL m:=by
 unfold csL;exact List.map_congr_left fun k _=>by rw[h.count_eq]
theorem zq2 {k:Nat} (hk:k<12) (l:List Int):(csL ((k:Int)::l)).set k (l.count (k:Int):Int)=csL l:=by
 have h:=zin l hk;have hp:((k:Int)::l).Perm (l++[(k:Int)]):=List.perm_append_comm (l₁:=[(k:Int)]) (l₂:=l);rw[zq3 hp,h,List.set_set];apply List.ext_getElem?;intro j;rw[List.getElem?_set];by_cases e:k=j
 ·subst e;rw[if_pos rfl,if_pos (by rw[zbM];exact hk),zhF _ hk]
 ·rw[if_neg e]
theorem ziX (x:Int) (l:List Int):sqL (x::l)=sqL l+2*l.count x+1:=by
 have hp:(x::l).Perm (l++[x]):=List.perm_append_comm (l₁:=[x]) (l₂:=l);rw[zmN hp,ziY]
theorem zvj {H:Hp} {cl:Int} (hc:1≤cl∧cl≤12) {va:Option Addr} {vc:Nat} {la:Option Addr} {lc:Nat} {ls:List Int} (hv:IL H (.slice la ls.length lc) ls) (h0:1≤ls.length) (h1:ls.length≤300) (hls0:∀z,z∈ls→0≤z∧z<cl) :
  GOk H 1 cl (.slice la ls.length lc) (.slice va 0 vc) ls.length (zki ls) (woL ls):=by
 have hls:∀z,z∈ls→0≤z∧z<12:=fun z hz=>⟨(hls0 z hz).1,by have:=(hls0 z hz).2;omega⟩
 have hs:∀l:List Int,l.length≤300→sqL (atI ls l)≤90000:=fun l hl=>by
  have h1:=zkp (atI ls l);rw[zcC]at h1;exact qI h1 (Nat.mul_le_mul hl hl)
 refine⟨fun l=>zas (zbM _),fun l=>⟨_,_,_,_,zbM _,rfl⟩,fun G hG=>zgd (hv.mono hG) hc h0 h1 hls0,zle,by unfold zki;exact zeW.symm,fun l=>zcy,fun G hG v l hl hn hr=>?_,fun G hG b l l' r hn hr=>?_,fun G b k T pre post l hk hn hr=>?_,fun l hl hr=>?_⟩
 ·exact zh8 (hv.mono hG) hl oM hr hls
 ·have hrb:=hr r (by simp);obtain⟨R,rfl⟩:=qj hrb.1;obtain⟨x,hx⟩:∃x,ls[R]?=some x:=⟨_,qA oM⟩;have hxb:=hls x (qF hx);obtain⟨k,rfl⟩:=qj hxb.1;have hk:k<12:=oM;have h1:=hs l oM;have h2:=hs l' oM;have c1:(atI ls l).count (k:Int)≤300:=qI List.count_le_length (by rw[zcC];omega);have c2:(atI ls l').count (k:Int)≤300:=qI List.count_le_length (by rw[zcC];omega);have e1:(csL (atI ls l)).set k (((atI ls l).count (k:Int)+1:Nat):Int)=csL (atI ls (l++[(R:Int)])):=by rw[zkQ,zev hx];exact(zin _ hk).symm
  have e2:sqL (atI ls l)+2*(atI ls l).count (k:Int)+1=sqL (atI ls (l++[(R:Int)])):=by rw[zkQ,zev hx];exact(ziY _ _).symm
  have e3:(csL (atI ls ((R:Int)::l'))).set k ((atI ls l').count (k:Int):Int)=csL (atI ls l'):=by rw[zev hx];exact zq2 hk _
  have e4:sqL (atI ls l')+2*(atI ls l').count (k:Int)+1=sqL (atI ls ((R:Int)::l')):=by rw[zev hx];exact(ziX _ _).symm
  have e5:(csL (atI ls ((R:Int)::l')))[k]?=some (((atI ls l').count (k:Int)+1:Nat):Int):=by rw[zhF _ hk,zev hx,List.count_cons_self]
  have hadd:=fun (G':Hp) (hG':G.Le G')=>zsG (pre:=[]) (k:=0) (b:=b) (T:=334) (post:=zki ls ((R:Int)::l')) rfl (cl:=cl) (va:=va) (vn:=0) (vc:=vc) (hv.mono (hG.trans hG')) (n:=l.length) oM hx hk (cs:=csL (atI ls l)) (zbM _) (zhF _ hk) oM (sq:=sqL (atI ls l)) oM (q:=0);have hdrop:=fun (G':Hp) (hG':G.Le G')=>zra (pre:=zki ls (l++[(R:Int)])) (k:=19) (b:=b) (T:=334) (post:=[]) (zas (zbM _)) (cl:=cl) (va:=va) (vn:=0) (vc:=vc) (hv.mono (hG.trans hG')) (n:=l'.length) oM hx hk (cs:=csL (atI ls ((R:Int)::l'))) (zbM _) e5 oM (sq:=sqL (atI ls l')) oM (q:=0);simp only[e1,e2]at hadd;simp only[e3,e4]at hdrop;have hl1:(l++[(R:Int)]).length=l.length+1:=by simp
  refine PW.body tO func255 rfl kR ntmps255 rfl rfl ?_;refine uR ?_;apply EV.drawn 5 kR kR;intro xv yw;(repeat (first|refine' DD ?_|refine' vN ?_|refine' vF ?_));(refine DJ.nil (fun G1 hG1 hF1=>?_);(case hS|hS2=>rfl));refine vW ([(b,334,zki ls l++zki ls ((R:Int)::l'))]) ([]) (hadd _ hG1) ?_;rintro v ow G2 ⟨rfl,rfl⟩ hG2;rw[←hl1];refine uR ?_;apply EV.drawn 5 kR kR;intro xv yw;(repeat (first|refine' DD ?_|refine' vN ?_|refine' vF ?_));(refine DJ.nil (fun G3 hG3 hF3=>?_);(case hS|hS2=>rfl));refine EVL.callW rfl rfl rfl rfl rfl ([(b,334,zki ls (l++[(R:Int)])++(zaz ((l'.length+1:Nat):Int) (csL (atI ls ((R:Int)::l'))) (sqL (atI ls ((R:Int)::l')):Nat) 0++[]))]) ([]) rfl (hdrop _ (hG1.trans (hG2.trans hG3))) ?_;rintro v ow G4 ⟨rfl,rfl⟩ hG4;refine uR ?_;refine⟨rfl,?_⟩;rw[qG];rfl
 ·exact zqA hk (zbM _) (by have:=hs l hn;omega) oM
 ·have h1:=hs l hl;have h3:=zbG (l.length:Int);have h4:bl (l.length:Int).natAbs≤20:=zaU oM;have h6:=zbG (sqL (atI ls l):Int);have h7:bl (sqL (atI ls l):Int).natAbs≤30:=zaU oM;have h5:=zgu ((sqL (atI ls l):Int):Rat) ((l.length:Int):Rat);unfold woL;omega
def zdr (key:Int→Rat) (least:Int) (m:List Int) (j:Nat):Bool:=decide (least≤((j+1:Nat):Int)) && decide (least≤((m.length-(j+1):Nat):Int)) && decide (key (m.getD j 0)<key (m.getD (j+1) 0))
def zfn (wo:List Int→Rat) (m:List Int) (j:Nat):Rat:=wo (m.take (j+1))+wo (m.drop (j+1))
def zer (key:Int→Rat) (m:List Int) (j:Nat):Rat:=(key (m.getD j 0)+key (m.getD (j+1) 0)) / 2
def zdg (key:Int→Rat) (wo:List Int→Rat) (least:Int) (m:List Int):Nat→Option (Rat × Rat)
 | 0=>none
 | j+1=>if zdr key least m j=true then (match zdg key wo least m j with
  | none=>some (zer key m j,zfn wo m j)
  | some (a,w)=>if w<zfn wo m j then some (zer key m j,zfn wo m j) else some (a,w)) else zdg key wo least m j
def stA:Option (Rat × Rat)→Rat
 | none=>0
 | some (a,_)=>a
def stW:Option (Rat × Rat)→Rat
 | none=>0
 | some (_,w)=>w
theorem zk1 {key:Int→Rat} {wo:List Int→Rat} {least:Int} {m:List Int} {j:Nat} (h:zdr key least m j=false):zdg key wo least m (j+1)=zdg key wo least m j:=by
 rw[zdg,h,if_neg (by decide)]
theorem znf {key:Int→Rat} {wo:List Int→Rat} {least:Int} {m:List Int} {j:Nat} (h:zdr key least m j=true) (h0:zdg key wo least m j=none):zdg key wo least m (j+1)=some (zer key m j,zfn wo m j):=by
 rw[zdg,h,if_pos rfl,h0]
theorem zoT {key:Int→Rat} {wo:List Int→Rat} {least:Int} {m:List Int} {j:Nat} {a w:Rat} (h:zdr key least m j=true) (h0:zdg key wo least m j=some (a,w)) (hw:w<zfn wo m j):zdg key wo least m (j+1)=some (zer key m j,zfn wo m j):=by
 rw[zdg,h,if_pos rfl,h0];exact if_pos hw
theorem zoS {key:Int→Rat} {wo:List Int→Rat} {least:Int} {m:List Int} {j:Nat} {a w:Rat} (h:zdr key least m j=true) (h0:zdg key wo least m j=some (a,w)) (hw:¬w<zfn wo m j):zdg key wo least m (j+1)=zdg key wo least m j:=by
 rw[zdg,h,if_pos rfl,h0];exact if_neg hw
theorem zuB {S S':List Value} {n:Int} (hl:S.length=19) (h:(S.drop 0).take 1=[.int .i64 n]):((S++S').drop (0+0+0)).take 1=[.int .i64 n]:=by
 rw[List.drop_append_of_le_length oM,List.take_append_of_le_length (by rw[qu];omega)];exact h
theorem ztP {S S':List Value} {n:Int} (hl:S.length=19) (h:(S'.drop 0).take 1=[.int .i64 n]):((S++S').drop (0+19+0)).take 1=[.int .i64 n]:=by
 rw[show 0+19+0=19 from rfl,List.drop_left' hl];exact h
def zr8 (X:List (List Rat)) (wo:List Int→Rat) (rs:List Int) (least col:Int) (o:Option (Rat × Rat)):Prop:=∃m,zm5 X col rs m∧o=zdg (zbi X col) wo least m (m.length-1)∧ht (stW o)≤200001
theorem zss {key:Int→Rat} {wo:List Int→Rat} {least:Int} {m:List Int} {B:Nat} (h:∀j,j<m.length→ht (zfn wo m j)≤B) (hB:1≤B):∀j,j≤m.length→ht (stW (zdg key wo least m j))≤B
 | 0,_=>by show ht 0≤B;rw[zcD];exact hB
 | j+1,hj=>by
  have ih:=zss (key:=key) (least:=least) h hB j oM;have h1:=h j oM;unfold zdg;split
  ·split
   ·exact h1
   ·split
    ·exact h1
    ·rename_i h2 _;rw[h2]at ih;exact ih
  ·exact ih
theorem ziH {a b:Rat}:zcr a b≥0↔¬a<b:=by
 unfold zcr;split
 ·rename_i h;constructor
  ·intro k;omega
  ·intro k;exact absurd h k
 ·rename_i h;constructor
  ·intro _;exact h
  ·intro _;split <;> omega
theorem zeO {a b:Rat}:zcr a b>0↔b<a:=by
 unfold zcr;split
 ·rename_i h;constructor
  ·intro k;omega
  ·intro k;exact absurd (Rat.le_of_lt h) (Rat.not_le.2 k)
 ·split
  ·rename_i h;exact⟨fun _=>h,fun _=>by omega⟩
  ·rename_i h;exact⟨fun k=>by omega,fun k=>absurd k h⟩
theorem zum:∀{l:List Int},l.length=12→∃c0 c1 c2 c3 c4 c5 c6 c7 c8 c9 c10 c11,l=[c0,c1,c2,c3,c4,c5,c6,c7,c8,c9,c10,c11]
 | [c0,c1,c2,c3,c4,c5,c6,c7,c8,c9,c10,c11],_=>⟨_,_,_,_,_,_,_,_,_,_,_,_,rfl⟩
theorem zoU {H:Hp} {kd cl:Int} {sl sv vx vr:Value} {X:List (List Rat)} {S:List Int→List Value} {wo:List Int→Rat} {rs:List Int} {col least:Int} (hg:GOk H kd cl sl sv X.length S wo) (hX:QLL H vx X) (hr:IL H vr rs) (hn:rs.length≤20) (hrs:∀r,r∈rs→0≤r∧r<(X.length:Int)) (hb:∀x,x∈X→∀q,q∈x→ht q≤100) :
  PC prog 239 #[zbg kd cl sl sv,vx,vr,.int .i64 col,.int .i64 least] H fun r _=>∃o,zr8 X wo rs least col o∧r=.tuple #[zaa (stA o),zaa (stW o),.bool o.isSome]:=by
 have hsorted:=zqg (col:=col) hX hr hn hrs (fun x hx q hq=>zai (hb x hx q hq) oM);obtain⟨xa,xc,rfl⟩:=hX.val;obtain⟨ra,rc,rfl⟩:=SlC.val hr;refine BD func239 ntmps239 ?_;refine uR ?_;refine vA (hsorted) ?_;rintro r1 G1 ⟨m,hm,hsc⟩ hG1
 have hmr:∀r,r∈m→0≤r∧r<(X.length:Int):=by
  rcases hsc with ⟨_,hp,_⟩ | ⟨_,rfl⟩
  ·exact fun r hr=>hrs r (hp.mem_iff.1 hr)
  ·intro r hr;cases hr
 have hmn:m.length≤20:=by
  rcases hsc with ⟨_,hp,_⟩ | ⟨_,rfl⟩
  ·rw[hp.length_eq];exact hn
  ·decide
 have hmh:∀r,r∈m→zbO X col r=true:=by
  rcases hsc with ⟨ha,hp,_⟩ | ⟨_,rfl⟩
  ·exact fun r hr=>List.all_eq_true.1 ha r (hp.mem_iff.1 hr)
  ·intro r hr;cases hr
 obtain⟨ma,mc,rfl⟩:=SlC.val hm;have hwh:=hg.whole G1 hG1 _ m hm oM hmr;have hlS:=hg.len m;refine uR ?_;refine vA (hwh) ?_;rintro r2 G2 rfl hG2;obtain⟨sn,scs,ssq,sq,hs12,hS⟩:=hg.form m;obtain⟨c0,c1,c2,c3,c4,c5,c6,c7,c8,c9,c10,c11,rfl⟩:=zum hs12;rw[hS];refine uR ?_;(first|refine EVL.unbox (14) rfl fun b=>?_|refine EV.unbox (14) rfl fun b=>?_);(first|refine EVL.swapOw ([(b,334,S (m.take 0)++S (m.drop 0))]) ([]) ((by rw[List.take_zero,List.drop_zero,hg.zero,hS];rfl)) ?_|refine EV.swapOw ([(b,334,S (m.take 0)++S (m.drop 0))]) ([]) ((by rw[List.take_zero,List.drop_zero,hg.zero,hS];rfl)) ?_);have hX2:=hX.mono (hG1.trans hG2);have hm2:=hm.mono hG2;have hg2:=hg.mono (hG1.trans hG2);clear hS hwh hsorted
 have hsw:∀j,j<m.length→ht (zfn wo m j)≤200001:=fun j hj=>by
  have h1:=hg.small (m.take (j+1)) (by rw[qP];omega) (fun r hr=>hmr r (List.mem_of_mem_take hr));have h2:=hg.small (m.drop (j+1)) (by rw[qu];omega) (fun r hr=>hmr r (List.mem_of_mem_drop hr));have h3:=zdw (wo (m.take (j+1))) (wo (m.drop (j+1)));unfold zfn;omega
 have hst:=fun j (hj:j≤m.length)=>zss (key:=zbi X col) (least:=least) hsw oM j hj;generalize hkey:zbi X col=key at *
 refine EV.loopK (ι:=Nat) [1,3,4,5,10,11,13,14] [5] (fun j=>[(12,.v (.bool (zdg key wo least m j).isSome)),(15,.v (.int .i64 ((j+1:Nat):Int)))]) (fun j=>[(10,51,zac (zaa (stA (zdg key wo least m j)))),(11,51,zac (zaa (stW (zdg key wo least m j))))]) (fun j=>[(b,334,S (m.take j)++S (m.drop j))]) (fun j _=>j≤m.length-1) (fun j=>m.length-j) (0) rfl rfl ⟨rfl,rfl,trivial⟩ ⟨by rw[show stA (zdg key wo least m 0)=0 from rfl,zar];rfl,by rw[show stW (zdg key wo least m 0)=0 from rfl,zar];rfl,trivial⟩ rfl (fun _=>rfl) (qQ _) ?_;rintro j G3 hG3 hj;refine uR ?_;refine EV.cond rfl (fun hlt=>?_) (fun hlt=>?_)
 ·simp only[nN]at hlt;obtain⟨r1,hr1⟩:∃r,m[j]?=some r:=⟨_,qA oM⟩;obtain⟨r2,hr2⟩:∃r,m[j+1]?=some r:=⟨_,qA hlt⟩;have hb1:=hmr r1 (qF hr1);have hb2:=hmr r2 (qF hr2);obtain⟨R1,C,x1,q1,rfl,hCC,hx1,hq1⟩:=zgt hb1.1 hb1.2 (hmh r1 (qF hr1));subst hCC;obtain⟨R2,C',x2,q2,rfl,hCC,hx2,hq2⟩:=zgt hb2.1 hb2.2 (hmh r2 (qF hr2));obtain rfl:C=C':=oM;obtain⟨vs,hvs,hs⟩:=hX2.mono hG3;obtain⟨a1,e1,hu1,hQ1⟩:=hvs.at hx1;obtain⟨a2,e2,hu2,hQ2⟩:=hvs.at hx2;have hs1:SlC G3 (.slice a1 x1.length e1) x1.length 5 (x1.flatMap fun q=>zac (zaa q)):=hQ1;have hs2:SlC G3 (.slice a2 x2.length e2) x2.length 5 (x2.flatMap fun q=>zac (zaa q)):=hQ2;have hm3:=hm2.mono hG3;have hl1:=(qE.1 hq1).1;have hl2:=(qE.1 hq2).1;have hXl1:R1<X.length:=oM;have hXl2:R2<X.length:=oM;have hjl:j<m.length:=oM;have hk1:key (m.getD j 0)=q1:=by rw[qB,hr1,←hkey];exact zgh rfl rfl hx1 hq1
  have hk2:key (m.getD (j+1) 0)=q2:=by rw[qB,hr2,←hkey];exact zgh rfl rfl hx2 hq2
  have hqb1:=hb x1 (qF hx1) q1 (qF hq1);have hqb2:=hb x2 (qF hx2) q2 (qF hq2);have wj:IntKind.i64.wrap (((j+1:Nat):Int)-1)=(j:Int):=by rw[pM];omega
  have wn:IntKind.i64.wrap (((j+1:Nat):Int)+1)=((j+1+1:Nat):Int):=zad (j+1) oM;have hdrop:m.drop j=(R1:Int)::m.drop (j+1):=zfI hr1;have htake:m.take (j+1)=m.take j++[(R1:Int)]:=zan hr1;have hmove:=fun (G':Hp) (hG':G3.Le G')=>hg2.move G' (hG3.trans hG') b (m.take j) (m.drop (j+1)) (R1:Int) (by rw[qP,qu];omega) (by rw[←hdrop,List.take_append_drop];exact hmr);rw[←hdrop,←htake]at hmove;have htl:(m.take (j+1)).length=j+1:=by rw[qP];omega
  have hdl:(m.drop (j+1)).length=m.length-(j+1):=qu;have hf1:=hg.first (m.take (j+1));have hf2:=hg.first (m.drop (j+1));rw[htl]at hf1;rw[hdl]at hf2;have hS1:=hg.len (m.take (j+1));have hS2:=hg.len (m.drop (j+1));have hcmp:=zbF q1 q2 (zai hqb1 oM) (zai hqb2 oM);refine uR ?_;apply EV.drawn 6 kR kR;intro xv yw;(repeat refine' DD ?_);refine' DJ.ofVal (zab.idx1 tO rfl rfl rfl rfl rfl rfl rfl rfl (hm3) (j) (wj) (hjl) ((by rw[qK,hr1];rfl))) rfl rfl rfl ?_;rotate_left;(repeat refine' DD ?_);(refine DJ.nil (fun G4 hG4 hF4=>?_);(case hS|hS2=>rfl));refine vW ([(b,334,S (m.take j)++S (m.drop j))]) ([]) (hmove G4 hG4) ?_;rintro v ow G5 ⟨rfl,rfl⟩ hG5;have hm5:=hm3.mono (hG4.trans hG5);have hs5:=hs.mono (hG4.trans hG5);have hs15:=hs1.mono (hG4.trans hG5);have hs25:=hs2.mono (hG4.trans hG5);refine uR ?_;apply EV.drawn 24 kR kR;intro xv yw;(repeat refine' DD ?_);refine' DJ.ofVal (zab.idx1 tO rfl rfl rfl rfl rfl rfl rfl rfl (hm5) (j) (wj) (hjl) ((by rw[qK,hr1];rfl))) rfl rfl rfl ?_;rotate_left;(repeat refine' DD ?_);refine' vJ (hs5) (R1) (rfl) (hXl1) (hu1) ?_;rotate_left;(repeat refine' DD ?_);refine' DJ.idxM tO rfl rfl rfl rfl rfl rfl rfl rfl rfl (hs15) (C) (rfl) (hl1) (QL.at (H:=H) (v:=.bool true) hq1) ?_;rotate_left;(repeat refine' DD ?_);refine' vJ (hm5) (j+1) (rfl) (hlt) ((by rw[qK,hr2];rfl)) ?_;rotate_left;(repeat refine' DD ?_);refine' vJ (hs5) (R2) (rfl) (hXl2) (hu2) ?_;rotate_left;(repeat refine' DD ?_);refine' DJ.idxM tO rfl rfl rfl rfl rfl rfl rfl rfl rfl (hs25) (C) (rfl) (hl2) (QL.at (H:=H) (v:=.bool true) hq2) ?_;rotate_left;(repeat refine' DD ?_);(refine DJ.nil (fun G6 hG6 hF6=>?_);(case hS|hS2=>rfl));refine uR ?_;refine RP ?_;refine EVL.loadOwn tO rfl rfl rfl rfl rfl rfl (0) rfl (zuB hS1 hf1) rfl rfl ?_;refine uR ?_;have hcand:zdr key least m j=(decide (least≤((j+1:Nat):Int)) && decide (least≤((m.length-(j+1):Nat):Int)) && decide (q1<q2)):=by unfold zdr;rw[hk1,hk2]
  by_cases h1:((j+1:Nat):Int)<least
  ·have hno:zdg key wo least m (j+1)=zdg key wo least m j:=zk1 (by rw[hcand,qC (show ¬least≤((j+1:Nat):Int) by omega)];rfl);rw[qD h1];refine uR ?_;refine⟨j+1,⟨by rw[hno];rfl,by rw[wn];rfl,trivial⟩,sB,⟨by rw[hno];rfl,by rw[hno];rfl,trivial⟩,sB,rfl,by omega,hG4.trans (hG5.trans hG6),by omega⟩
  ·rw[qC h1];refine uR ?_;refine RP ?_;refine EVL.loadOwn tO rfl rfl rfl rfl rfl rfl (0) rfl (ztP hS1 hf2) rfl rfl ?_;refine uR ?_;by_cases h2:((m.length-(j+1):Nat):Int)<least
   ·have hno:zdg key wo least m (j+1)=zdg key wo least m j:=zk1 (by rw[hcand,qC (show ¬least≤((m.length-(j+1):Nat):Int) by omega),Bool.and_false];rfl);rw[qD h2];refine uR ?_;refine⟨j+1,⟨by rw[hno];rfl,by rw[wn];rfl,trivial⟩,sB,⟨by rw[hno];rfl,by rw[hno];rfl,trivial⟩,sB,rfl,by omega,hG4.trans (hG5.trans hG6),by omega⟩
   ·rw[qC h2]
    repeat (first|refine RUN ?_|refine CV (hcmp) ?_|refine CE (hcmp) ?_)
    by_cases h3:q1<q2
    ·have hc:zdr key least m j=true:=by rw[hcand,qD (show least≤((j+1:Nat):Int) by omega),qD (show least≤((m.length-(j+1):Nat):Int) by omega),qD h3];rfl
     have hmid:zer key m j=(q1+q2) / 2:=by unfold zer;rw[hk1,hk2]
     have hr1':=fun r hr=>hmr r (List.mem_of_mem_take (i:=j+1) hr);have hr2':=fun r hr=>hmr r (List.mem_of_mem_drop (i:=j+1) hr);have hw1:=fun G':Hp=>hg2.worth G' b 0 334 [] (S (m.drop (j+1))) (m.take (j+1)) rfl oM hr1';have hw2:=fun G':Hp=>hg2.worth G' b 19 334 (S (m.take (j+1))) [] (m.drop (j+1)) hS1 oM hr2';simp only[qG]at hw2;have hsm1:=hg.small (m.take (j+1)) oM hr1';have hsm2:=hg.small (m.drop (j+1)) oM hr2';have hadd:=zdf (wo (m.take (j+1))) (wo (m.drop (j+1))) (zai hsm1 oM) (zai hsm2 oM);have hmv:=zpt q1 q2 oM oM;have hws:=hsw j oM;have hwst:=hst j oM;rw[show wo (m.take (j+1))+wo (m.drop (j+1))=zfn wo m j from rfl]at hadd;rw[←hmid]at hmv;rw[qC (fun h=>absurd h3 (ziH.1 h))];refine uR ?_;apply EV.drawn 10 kR kR;intro xv yw;(repeat (first|refine' DD ?_|refine' vN ?_|refine' vF ?_));(refine' DJ.callR rfl rfl rfl rfl rfl 0 rfl (by simp[hS1,hS2]) (cO func234) (fun G'=>hw1 G') ?_;rotate_left);(repeat (first|refine' DD ?_|refine' vN ?_|refine' vF ?_));(refine' DJ.callR rfl rfl rfl rfl rfl 0 rfl (by simp[hS1,hS2]) (cO func234) (fun G'=>hw2 G') ?_;rotate_left);(repeat (first|refine' DD ?_|(refine' DC (hadd) (h:=?_);rotate_left)));(refine DJ.nil (fun G7 hG7 hF7=>?_);(case hS|hS2=>rfl));refine uR ?_;have hcmp2:=zbF (zfn wo m j) (stW (zdg key wo least m j)) (zai hws oM) (zai hwst oM)
     cases hst0:zdg key wo least m j with
     | none =>
      have hyes:=znf (wo:=wo) hc hst0;rw[hst0]at hcmp2;refine uR ?_;apply EV.drawnK [1,3,4,5,10,11,13,14,15,16,17,18] [10,11] [5,16,17,18] 5 rfl rfl rfl rfl kR kR;intro xv yw;(repeat (first|refine' DD ?_|(refine' DC (hmv) (h:=?_);rotate_left)));(refine DJ.nil (fun G8 hG8 hF8=>?_);(case hS|hS2=>rfl);(case hD=>rfl));refine uR ?_;refine⟨j+1,⟨by rw[hyes];rfl,by rw[wn];rfl,trivial⟩,sB,⟨by rw[hyes];rfl,by rw[hyes];rfl,trivial⟩,sB,rfl,by omega,hG4.trans (hG5.trans (hG6.trans (hG7.trans hG8))),by omega⟩
     | some p =>
      obtain⟨pa,pw⟩:=p;rw[hst0]at hcmp2
      repeat (first|refine RUN ?_|refine CV (hcmp2) ?_|refine CE (hcmp2) ?_)
      by_cases h4:pw<zfn wo m j
      ·have hyes:=zoT (wo:=wo) hc hst0 h4;rw[qD (show zcr (zfn wo m j) (stW (some (pa,pw)))>0 from zeO.2 h4)];refine uR ?_;apply EV.drawnK [1,3,4,5,10,11,13,14,15,16,17,18] [10,11] [5,16,17,18] 5 rfl rfl rfl rfl kR kR;intro xv yw;(repeat (first|refine' DD ?_|(refine' DC (hmv) (h:=?_);rotate_left)));(refine DJ.nil (fun G8 hG8 hF8=>?_);(case hS|hS2=>rfl);(case hD=>rfl));refine uR ?_;refine⟨j+1,⟨by rw[hyes];rfl,by rw[wn];rfl,trivial⟩,sB,⟨by rw[hyes];rfl,by rw[hyes];rfl,trivial⟩,sB,rfl,by omega,hG4.trans (hG5.trans (hG6.trans (hG7.trans hG8))),by omega⟩
      ·have hno:=(zoS (wo:=wo) hc hst0 h4).trans hst0;rw[qC (show ¬zcr (zfn wo m j) (stW (some (pa,pw)))>0 from fun h=>h4 (zeO.1 h))];refine uR ?_;refine⟨j+1,⟨by rw[hno];rfl,by rw[wn];rfl,trivial⟩,sB,⟨by rw[hno];rfl,by rw[hno];rfl,trivial⟩,sB,rfl,by omega,hG4.trans (hG5.trans (hG6.trans hG7)),by omega⟩
    ·have hno:zdg key wo least m (j+1)=zdg key wo least m j:=zk1 (by rw[hcand,qC h3,Bool.and_false]);rw[qD (ziH.2 h3)];refine uR ?_;refine⟨j+1,⟨by rw[hno];rfl,by rw[wn];rfl,trivial⟩,sB,⟨by rw[hno];rfl,by rw[hno];rfl,trivial⟩,sB,rfl,by omega,hG4.trans (hG5.trans hG6),by omega⟩
 ·simp only[nN]at hlt;obtain rfl:j=m.length-1:=oM;have hfh:=hst (m.length-1) oM;generalize hfin:zdg key wo least m (m.length-1)=fin at *
  refine uR ?_;refine EVA.start kR ?_;refine EVA.val tO (2) rfl kR kR kR rfl rfl rfl rfl rfl ?_;refine EVA.two 0 1 kR rfl rfl ?_ ?_
  ·(try refine zfA ?_);refine EVL.nil ⟨rfl,?_⟩;refine EVA.two 1 3 kR rfl rfl ?_ ?_
   ·(try refine zfA ?_);refine EVL.nil ⟨rfl,?_⟩;refine EVA.one 3 kR rfl ?_
    (try refine zfA ?_);refine EVL.nil ⟨rfl,?_⟩;refine EVA.one 4 kR rfl ?_
    (try refine zfA ?_);refine EVL.nil ⟨rfl,?_⟩;refine EVA.one 5 kR rfl ?_
    (try refine zfA ?_);refine EVL.nil ⟨rfl,?_⟩;refine EVA.nil kR ?_;refine uR ?_;exact⟨fin,⟨m,hsc,by rw[hkey];exact hfin.symm,hfh⟩,rfl⟩
   ·(try refine zfA ?_);refine EVL.nil ⟨rfl,?_⟩;refine EVA.one 1 kR rfl ?_
    (try refine zfA ?_);refine EVL.nil ⟨rfl,?_⟩;refine EVA.one 4 kR rfl ?_
    (try refine zfA ?_);refine EVL.nil ⟨rfl,?_⟩;refine EVA.one 5 kR rfl ?_
    (try refine zfA ?_);refine EVL.nil ⟨rfl,?_⟩;refine EVA.nil kR ?_;refine uR ?_;exact⟨fin,⟨m,hsc,by rw[hkey];exact hfin.symm,hfh⟩,rfl⟩
  ·(try refine zfA ?_);refine EVL.nil ⟨rfl,?_⟩;refine EVA.one 0 kR rfl ?_
   (try refine zfA ?_);refine EVL.nil ⟨rfl,?_⟩;refine EVA.one 3 kR rfl ?_
   (try refine zfA ?_);refine EVL.nil ⟨rfl,?_⟩;refine EVA.one 4 kR rfl ?_
   (try refine zfA ?_);refine EVL.nil ⟨rfl,?_⟩;refine EVA.one 5 kR rfl ?_
   (try refine zfA ?_);refine EVL.nil ⟨rfl,?_⟩;refine EVA.nil kR ?_;refine uR ?_;exact⟨fin,⟨m,hsc,by rw[hkey];exact hfin.symm,hfh⟩,rfl⟩
end
section
open Go.RowKit Go.Shelf
attribute [local go_sem] Oper.semAt_some
def zen {α:Type} (f:Nat→α) (k:Nat):List α:=(List.range k).map f
theorem zh6 {α:Type} (f:Nat→α) (k:Nat):zen f (k+1)=zen f k++[f k]:=by simp[zen,List.range_succ]
theorem zkv {α:Type} (f:Nat→α) (k:Nat):(zen f k).length=k:=by simp[zen]
theorem zqt (zs:List Int):zen (fun j=>zs[j]?.getD 0) zs.length=zs:=by
 apply List.ext_getElem
 ·simp[zen]
 ·intro i h1 h2;simp[zen,h2]
theorem zog (zs:List Int) {k:Nat} (hk:k≤zs.length):zen (fun j=>zs[j]?.getD 0) k=zs.take k:=by
 apply List.ext_getElem
 ·simp[zen,hk]
 ·intro i h1 h2;have:i<zs.length:=by simp[zen]at h1;omega
  simp[zen,this]
set_option maxRecDepth 100000 in
theorem zoh (F:Fence) (n:Nat) (h7:F.fn 253) (hro:F.round=none) (hn:1≤n) (l Bs n₀ b off len cap:Nat) (zs:List Int) (hreach:len*8≤140737488351232) (hb:b<n₀) (J Jx:List Int→World→Prop)
  (hY:∀pre x W,J pre W→pre.length<len→YieldAt F (n-1) Tryz.prog l #[.int .i64 x] W fun e W' =>
   (e=.returned (.bool true)∧J (pre++[x]) W'∧Below n₀ W W')∨(e=.returned (.bool false)∧Jx (pre++[x]) W'))
  (W:World) (hBs:W.cell? ⟨Bs,0,none⟩=some (.slice (some ⟨b,off,none⟩) len cap)) (hc:∀j,j<len→W.cell? ⟨b,off+j,none⟩=some (.int .i64 (zs[j]?.getD 0))) (h0:J [] W) :
  CallsIn F n Tryz.prog 253 #[.func (.yield l) #[] #[],.pointer (some ⟨Bs,0,none⟩)] W fun e W'=>(∃v,e=.returned v) ∧
   ((∃ys,ys=zen (fun j=>zs[j]?.getD 0) len∧J ys W')∨(∃pre,(∃k,k≤len∧pre=zen (fun j=>zs[j]?.getD 0) k)∧Jx pre W')):=by
 refine callsIn_of_wp Tryz.func253 rfl h7 ?_ hro;simp only[Tryz.ntmps253,List.size_toArray,qR,qi,Nat.reduceAdd,Nat.reduceSub,Array.replicate_succ,Array.replicate_zero,List.push_toArray,List.append_toArray,pO,List.cons_append]
 gi_wp2
 gi_loopw [7] (fun i wr=>∃k:Nat,k≤len∧i=.int .i64 k∧J (zen (fun j=>zs[j]?.getD 0) k) wr∧Below n₀ W wr)
  (fun i _=>len-(intOf i).toNat)
 case atStart=>exact⟨0,qQ _,rfl,h0,Below.refl _ _⟩
 case round =>
  obtain⟨k,hk,rfl,hJs,hnx⟩:=hrel;have hcx:k<len→wr.cell? ⟨b,off+k,none⟩=some (.int .i64 (zs[k]?.getD 0)):=fun h=>(hnx.cell (p:=⟨b,off+k,none⟩) hb).trans (hc k h);by_cases hlt:k<len
  ·obtain⟨fn,tmps,assign,body,hy,hR⟩:=hY _ (zs[k]?.getD 0) wr hJs (by rw[zkv];exact hlt);have hcx':=hcx hlt
   gi_wp2;refine hR.mono ?_;rintro e W3 (⟨rfl,hJ3,hk3⟩ | ⟨rfl,hJx3⟩)
   ·gi_wp2
    go_roundw
    case rel=>exact⟨k+1,by omega,by simp,by rw[zh6];exact hJ3,hnx.trans hk3⟩
    case measure=>simp[intOf];omega
   ·gi_wp2;refine bodyPost_ret (results_none rfl _ _ _) rfl ?_;exact⟨⟨_,rfl⟩,.inr ⟨_,⟨k+1,by omega,(zh6 _ _).symm⟩,hJx3⟩⟩
  ·obtain rfl:k=len:=oM
   gi_wp2
   go_end0;exact⟨⟨_,rfl⟩,.inl ⟨_,rfl,hJs⟩⟩
set_option maxRecDepth 100000 in
theorem zd1 (F:Fence) (n:Nat) (h7:F.fn 253) (hro:F.round=none) (l Bs:Nat) (a:Option Addr) (cap:Nat) (J:List Int→World→Prop) (W:World) (hBs:W.cell? ⟨Bs,0,none⟩=some (.slice a 0 cap)) (h0:J [] W) :
  CallsIn F n Tryz.prog 253 #[.func (.yield l) #[] #[],.pointer (some ⟨Bs,0,none⟩)] W fun e W'=>(∃v,e=.returned v)∧J [] W':=by
 refine callsIn_of_wp Tryz.func253 rfl h7 ?_ hro;simp only[Tryz.ntmps253,List.size_toArray,qR,qi,Nat.reduceAdd,Nat.reduceSub,Array.replicate_succ,Array.replicate_zero,List.push_toArray,List.append_toArray,pO,List.cons_append]
 gi_wp2
 gi_loopw [7] (fun i wr=>i=.int .i64 0∧J [] wr) (fun _ _=>0)
 case atStart=>exact⟨rfl,h0⟩
 case round =>
  obtain⟨rfl,hJs⟩:=hrel
  gi_wp2
  go_end0;exact⟨⟨_,rfl⟩,hJs⟩
theorem zky (F:Fence) (n:Nat) (h7:F.fn 253) (hro:F.round=none) (hn:1≤n) (Bs n₀:Nat) (sv:Value) (zs:List Int) (hreach:zs.length*8≤140737488351232) (w:World) (hBs:Bs<w.heap.size) (hn₀:n₀≤w.heap.size)
  (hc:w.cell? ⟨Bs,0,none⟩=some sv) (hI:Sl i64 w sv zs) (hlow:∀b off len cap,sv=.slice (some ⟨b,off,none⟩) len cap→zs≠[]→b<n₀) :
  SeqStopsK F n Tryz.prog 253 #[.pointer (some ⟨Bs,0,none⟩)] (fun x:Int=>#[Value.int .i64 x]) (Below n₀) (fun ys=>ys=zs) (fun pre=>pre <+: zs) zs.length w:=fun l J Jx W hW _ _ hY h0=>by
 have hc':=(hW.cell (p:=⟨Bs,0,none⟩) hBs).trans hc;rcases hI.below hW with ⟨rfl,a,cap,rfl⟩ | ⟨b,off,cap,rfl,hb,hcs⟩
 ·exact(zd1 F n h7 hro l Bs a cap J W hc' h0).mono fun e W' ⟨he,hj⟩=>⟨he,.inl ⟨_,rfl,hj⟩⟩
 ·by_cases hz:zs=[]
  ·subst hz;exact(zd1 F n h7 hro l Bs _ cap J W hc' h0).mono fun e W' ⟨he,hj⟩=>⟨he,.inl ⟨_,rfl,hj⟩⟩
  ·refine(zoh F n h7 hro hn l Bs n₀ b off zs.length cap zs hreach (hlow _ _ _ _ rfl hz) J Jx hY W hc' (fun j hj=>by rw[hcs j hj];simp[hj]) h0).mono ?_;rintro e W' ⟨he,⟨ys,rfl,hj⟩ | ⟨pre,⟨k,hk,rfl⟩,hj⟩⟩
   ·exact⟨he,.inl ⟨_,zqt zs,hj⟩⟩
   ·exact⟨he,.inr ⟨_,by rw[zog zs hk];exact List.take_prefix _ _,hj⟩⟩
theorem Tryz.infoInt':(Tryz.prog.info? 3).map (fun i=>(i.zero,i.size,i.bytes))=some (some (.int .i64 0),1,8):=by kernel_rfl
set_option maxRecDepth 100000 in
theorem zjh (F:Fence) (n:Nat) (h3:F.fn 258) (h5:F.fn 253) (hro:F.round=none) (hn:3≤n) (Bs:Nat) (sv:Value) (xs:List Int) (hbytes:xs.length*8≤140737488351232) (w:World)
  (hBs:Bs<w.heap.size) (hc0:w.cell? ⟨Bs,0,none⟩=some sv) (hI:Sl i64 w sv xs) :
  CallsIn F n Tryz.prog 258 #[.slice none 0 0,.func (.func 253) #[] #[.pointer (some ⟨Bs,0,none⟩)]] w fun e W'=>∃v,e=.returned v∧W'.ownsRow w.heap.size 3 1 v xs.length (xs.map (Value.int .i64))∧(v=.slice none 0 0↔xs=[])∧Below w.heap.size w W':=by
 have h1:1≤n:=oM;obtain⟨i0,hi,hz0,hz1,hz2⟩:=info_parts Tryz.infoInt';refine callsIn_of_wp_marks Tryz.func258 rfl h3 ?_ hro;simp only[Tryz.ntmps258,List.size_toArray,qR,qi,Nat.reduceAdd,Nat.reduceSub,Array.replicate_succ,Array.replicate_zero,List.push_toArray,List.append_toArray,pO,List.cons_append]
 gi_wp2;have bO:=Boxed.new w 22 (.slice none 0 0);have hB0:Below w.heap.size w (w.alloc (.cells #[.slice none 0 0] 22)):=(Below.refl _ w).alloc (qH _) _;have hmax:xs.length≤maxLen:=by unfold maxLen;omega
 refine wpIn_rangeFunc_ownG hro h1 (gf:=253) (lb:=#[.pointer (some ⟨Bs,0,none⟩)]) rfl h5 (enters_of Tryz.func253 kR rfl)
  (zky F (n-1) h5 hro oM Bs w.heap.size sv xs hbytes _ (by simp;omega) (by simp) ((hB0.cell (p:=⟨Bs,0,none⟩) hBs).trans hc0) (hI.below hB0) (fun b off len cap e hne=>by
   rcases hI with ⟨hx,_⟩ | ⟨b',off',cap',e',hb',_⟩
   ·exact absurd hx hne
   ·rw[e']at e;cases e;exact hb')) belowK_t (belowK_b (by simp)) (Below.refl _ _) (fun _=>rfl)
  (fun pre W=>(∃v,Boxed W w.heap.size 22 v∧W.ownsRow w.heap.size 3 1 v pre.length (pre.map (Value.int .i64))∧(v=.slice none 0 0↔pre=[]))∧Below w.heap.size w W)
  (fun _ _ _=>False)
  (OwnFrom.and (Own.from (holdsRow_own w.heap.size w.heap.size 22 3 1 (fun pre=>pre.length) (fun pre=>pre.map (Value.int .i64)) (fun pre v=>v=.slice none 0 0↔pre=[])) _) (ownFrom_below (qH _) (by simp)))
  (fun _ _ _ _ _ hs _ _=>hs)
  ⟨⟨_,bO,World.ownsRow_nil _ _ _ _,by simp⟩,hB0⟩
  (fun x=>{ tmps:=#[.slice none 0 0,.func (.func 253) #[] #[.pointer (some ⟨Bs,0,none⟩)],.pointer (some ⟨w.heap.size,0,none⟩),undef,.slice none 0 0,.int .i64 x,.func (.func 253) #[] #[.pointer (some ⟨Bs,0,none⟩)],.int .i64 x,undef,undef,undef,undef,undef],defers:=[] }) ?assign ?body ?done ?stop
 case assign =>
  intro l x W K hK
  gi_wp2;exact hK
 case body =>
  rintro l pre x W ⟨⟨v,hv,hrow,hnil⟩,hB⟩ hlt;have hc:=hv.cell
  gi_wp2_with (gi_at_builtin;refine wpListIn_append_own _ rfl _ _ 22 rfl w.heap.size 3 i0 (.int .i64 0) 1 8 Tryz.underlying22 hi hz0 hz1 hz2 rfl (by decide) _ _ _ rfl (hrow.alloc _) ⟨W.heap.size,0,none⟩ 1 1 [.int .i64 x] rfl rfl (cell_one_new _ _ _) (by simp[Value.oneCell']) oM oM (by have:=hB.size;simp;omega) ?_;intro v' w1 hown' hgrow _;obtain⟨g',cap',rfl⟩:=ownsRow_succ hown';obtain⟨hv1,hv2,hr2,hk2,hb2⟩:=hv.appended (by decide) hrow hB.size (qH _) hown' hgrow;have hc1:=hv1.cell;have hf1:=hv1.frozen);exact⟨hk2.from _,hb2,⟨_,hv2,by simpa using hr2,by simp⟩,hB.trans hb2⟩
 case done =>
  rintro D ys W hD rfl ⟨⟨v,hv,hrow,hnil⟩,hB⟩ hK;have hc:=hv.cell
  gi_wp2;refine⟨by simp,.inl ⟨_,_,rfl,run_takeDeferred hK,?_⟩⟩;exact⟨_,results_tmp rfl _ _ _,v,rfl,ownsRow_putObj hrow _ hK rfl,hnil,hB.trans (belowK_b (w:=w) (qH _) W D _ _ (by simp at hD;omega) hK rfl rfl)⟩
 case stop =>
  rintro D c pre W _ _ h _;exact h.elim
end
section
open Go.RowKit Go.Shelf
attribute [local go_sem] Oper.semAt_some
end
section
open Go.RowKit _root_.Go.Proofs.Tryz
def nxt (s:Int):Int:=IntKind.u64.wrap (s+11400714819323198485)
def zvl (z:Int):Int:=IntKind.u64.wrap (bits .xor .u64 z (z / 1073741824)*13787848793156543929)
def zvm (z:Int):Int:=IntKind.u64.wrap (bits .xor .u64 z (z / 134217728)*10723151780598845931)
def zvd (z:Int):Int:=bits .xor .u64 z (z / 2147483648)
def mix (z:Int):Int:=zvd (zvm (zvl z))
def zpk (n:Int):Int:=18446744073709551615-18446744073709551616 % n
def zi2:Int:=18446744073709551616
def zqJ (s:Int):Int:=(-s*17428512612931826493) % 18446744073709551616
def left (s:Int):Nat:=(zqJ (nxt s)).toNat
def zcQ (n:Int):Nat→Int→Int × Int
 | 0,s=>(0,s)
 | k+1,s=>if mix (nxt s)≤zpk n then (mix (nxt s) % n,nxt s) else zcQ n k (nxt s)
def below (n s:Int):Int × Int:=zcQ n (left s+1) s
theorem zeY (n:Int):IntKind.u64.wrap n=n % 18446744073709551616:=by simp[IntKind.wrap,IntKind.bits,IntKind.signed]
theorem zgI (s:Int):0≤nxt s∧nxt s<zi2:=by unfold nxt zi2;rw[zeY];omega
theorem zmq:mix 0=0:=by decide +kernel
theorem zgw (n:Int) (h:1≤n) (h2:n≤9223372036854775807):0≤zpk n:=by
 unfold zpk;have:=Int.emod_lt_of_pos 18446744073709551616 (show 0<n by omega);omega
theorem zhs (x:Int):0≤IntKind.u64.wrap x∧IntKind.u64.wrap x<zi2:=by rw[zeY];unfold zi2;omega
theorem zm7 (op:BinOp) (x y:Int):0≤bits op .u64 x y∧bits op .u64 x y<zi2:=by
 unfold bits;split <;> exact zhs _
theorem zpv (z:Int):0≤mix z∧mix z<zi2:=by unfold mix zvd;exact zm7 _ _ _
theorem zq6 (M g i q s:Int) (e:g*i=1+M*q):(-((s+g) % M)*i) % M=((-s*i) % M-1) % M:=by
 have h1:(s+g) % M=s+g-M*((s+g)/M):=Int.emod_def _ _;rw[h1];generalize (s+g)/M=r;have:-(s+g-M*r)*i=(-s*i-1)+M*(r*i-q):=by grind
 rw[this,Int.add_mul_emod_self_left,Int.emod_sub_emod]
theorem zq7 (s:Int):zqJ (nxt s)=(zqJ s-1) % 18446744073709551616:=by
 unfold zqJ nxt;rw[zeY];exact zq6 18446744073709551616 11400714819323198485 17428512612931826493 10771413168148108919 s (by decide +kernel)
theorem zr6 (M g i q s:Int) (e:g*i=1+M*q) (h0:0≤s) (h1:s<M) (h:(-s*i) % M=0):s=0:=by
 obtain⟨k,hk⟩:=Int.dvd_of_emod_eq_zero h
 have h2:s=M*(-(k*g)-s*q):=by
  have h3:s*(g*i) = -(M*k)*g:=by rw[←hk];grind
  rw[e]at h3;grind
 generalize -(k*g)-s*q=t at h2;by_cases ht:t=0
 ·rw[h2,ht,Int.mul_zero]
 ·exfalso;by_cases hp:1≤t
  ·have:M*1≤M*t:=Int.mul_le_mul_of_nonneg_left hp oM;omega
  ·have:M*t≤M*(-1):=Int.mul_le_mul_of_nonneg_left oM oM;omega
theorem zoW (s:Int) (h0:0≤s) (h1:s<zi2) (h:zqJ s=0):s=0:=by
 unfold zqJ at h;exact zr6 18446744073709551616 11400714819323198485 17428512612931826493 10771413168148108919 s (by decide +kernel) h0 h1 h
theorem znp (s:Int):0≤zqJ s∧zqJ s<18446744073709551616:=by unfold zqJ;omega
theorem zpm (s:Int) (h:nxt s≠0):left (nxt s)<left s:=by
 unfold left;have r:=zgI s;have d:=zq7 (nxt s);have z:=znp (nxt s);have:zqJ (nxt s)≠0:=fun e=>h (zoW _ r.1 r.2 e);omega
theorem zhn (n:Int) (h:1≤n) (h2:n≤9223372036854775807):∀(k k':Nat) (s:Int),left s<k→left s<k'→zcQ n k s=zcQ n k' s:=by
 intro k
 induction k with
 | zero=>intro k' s hs;omega
 | succ k ih =>
  intro k' s hs hs'
  cases k' with
  | zero=>omega
  | succ k' =>
   simp only[zcQ];by_cases hc:mix (nxt s)≤zpk n
   ·rw[if_pos hc,if_pos hc]
   ·rw[if_neg hc,if_neg hc];have hz:nxt s≠0:=fun e=>hc (by rw[e,zmq];exact zgw n h h2);have hl:=zpm s hz;exact ih _ _ oM oM
theorem zea (n s:Int) (h:1≤n) (h2:n≤9223372036854775807) (hc:¬mix (nxt s)≤zpk n):left (nxt s)<left s :=
 zpm s fun e=>hc (by rw[e,zmq];exact zgw n h h2)
theorem zhw (n s:Int) (h:1≤n) (h2:n≤9223372036854775807) (hc:¬mix (nxt s)≤zpk n):below n s=below n (nxt s):=by
 have hl:=zea n s h h2 hc;unfold below;rw[show zcQ n (left s+1) s=zcQ n (left s) (nxt s) by simp only[zcQ];rw[if_neg hc]];exact zhn n h h2 _ _ _ hl oM
theorem zhx (n s:Int) (h:mix (nxt s)≤zpk n):below n s=(mix (nxt s) % n,nxt s):=by
 unfold below;simp only[zcQ];rw[if_pos h]
theorem zf9 (n s:Int) (h:1≤n) (h2:n≤9223372036854775807):0≤(below n s).1∧(below n s).1<n∧0≤(below n s).2∧(below n s).2<zi2:=by
 suffices H:∀k s,left s<k→0≤(below n s).1∧(below n s).1<n∧0≤(below n s).2∧(below n s).2<zi2 from H _ s (Nat.lt_succ_self _);intro k
 induction k with
 | zero=>intro s hs;omega
 | succ k ih =>
  intro s hs;by_cases hc:mix (nxt s)≤zpk n
  ·rw[zhx n s hc];have:=zgI s;exact⟨Int.emod_nonneg _ oM,Int.emod_lt_of_pos _ oM,this.1,this.2⟩
  ·rw[zhw n s h h2 hc];exact ih _ (by have:=zea n s h h2 hc;omega)
def zob (l:List Int) (i j:Nat):List Int:=(l.set i (l.getD j 0)).set j (l.getD i 0)
theorem zcA (l:List Int) (i j:Nat):(zob l i j).length=l.length:=by simp[zob]
def zoo (n:Nat):List Int:=(List.range n).map Int.ofNat
theorem zdb (n:Nat):(zoo n).length=n:=by simp[zoo]
theorem zqs (n:Nat):zoo (n+1)=zoo n++[(n:Int)]:=by simp[zoo,List.range_succ]
def zcZ:Nat→List Int→Int→List Int × Int
 | 0,l,s=>(l,s)
 | i+1,l,s=>zcZ i (zob l (i+1) (below (i+2) s).1.toNat) (below (i+2) s).2
def zcx (n:Nat) (s:Int):List Int × Int:=zcZ (n-1) (zoo n) s
theorem zoc (l:List Int) (i j:Nat) (hi:i<l.length) (hj:j<l.length):(zob l i j).Perm l:=by
 unfold zob;rw[qB,qB];simp only[hi,hj,qA,Option.getD_some];have:=Array.swap_perm (xs:=l.toArray) (i:=i) (j:=j) (by simpa) (by simpa);rw[Array.perm_iff_toList_perm]at this;simpa[Array.swap] using this
theorem zhq (i:Nat) (l:List Int) (s:Int):(zcZ i l s).1.length=l.length:=by
 induction i generalizing l s with
 | zero=>rfl
 | succ i ih=>simp[zcZ,ih,zcA]
theorem zjX (i:Nat) (l:List Int) (s:Int) (h:i<l.length) (hl:l.length≤1000000):(zcZ i l s).1.Perm l:=by
 induction i generalizing l s with
 | zero=>exact List.Perm.refl _
 | succ i ih =>
  simp only[zcZ];have r:=zf9 (i+2) s oM oM;exact(ih _ _ (by rw[zcA];omega) (by rw[zcA];omega)).trans (zoc _ _ _ h oM)
end
section
end
section
def zel (l:List Int):List Int:=l.mergeSort fun x y=>decide (x≤y)
theorem zfy (l:List Int):(zel l).length=l.length:=by simp[zel]
theorem zn7 (l:List Int):(zel l).Perm l:=List.mergeSort_perm _ _
theorem zkm (l:List Int):(zel l).Pairwise (·≤·):=by
 have:=List.pairwise_mergeSort (le:=fun x y:Int=>decide (x≤y)) (by intro a b c;simp;omega) (by intro a b;simp;omega) l;unfold zel;exact this.imp (by intro a b h;simpa using h)
theorem zls (n:Nat) (s:Int) (hn:n≤65536):(zcx n s).1.Perm (zoo n):=by
 unfold zcx
 cases n with
 | zero=>exact List.Perm.refl _
 | succ n=>exact zjX _ _ _ (by rw[zdb];omega) (by rw[zdb];omega)
end
section
open Go.RowKit Go.Shelf
theorem zk2 (Bs:Nat) (sv:Value) (xs:List Int) (hbytes:xs.length*8≤140737488351232) (w:World)
  (hBs:Bs<w.heap.size) (hc0:w.cell? ⟨Bs,0,none⟩=some sv) (hI:Sl i64 w sv xs) :
  Calls Tryz.prog 251 #[.func (.func 253) #[] #[.pointer (some ⟨Bs,0,none⟩)]] w fun e W'=>∃v,e=.returned v∧W'.ownsRow w.heap.size 3 1 v xs.length (xs.map (Value.int .i64))∧(v=.slice none 0 0↔xs=[])∧Below w.heap.size w W':=by
 go_enter Tryz.func251,Tryz.ntmps251
 go_wp2_with fail;refine((callsIn_wide (n:=3)).1 (zjh Fence.wide 3 trivial trivial rfl oM Bs sv xs hbytes w hBs hc0 hI)).mono ?_;rintro e w1 ⟨v,rfl,hown,hnil,hb⟩;go_wp2
 go_ret;exact⟨v,rfl,hown,hnil,hb⟩
theorem zn8 (Bs:Nat) (sv:Value) (xs:List Int) (hbytes:xs.length*8≤140737488351232) (w:World)
  (hBs:Bs<w.heap.size) (hc0:w.cell? ⟨Bs,0,none⟩=some sv) (hI:Sl i64 w sv xs) :
  Calls Tryz.prog 237 #[.func (.func 253) #[] #[.pointer (some ⟨Bs,0,none⟩)]] w fun e W'=>∃v,e=.returned v∧W'.ownsRow w.heap.size 3 1 v xs.length ((zel xs).map (Value.int .i64))∧Below w.heap.size w W':=by
 go_enter Tryz.func237,Tryz.ntmps237
 go_wp2_with fail;refine(zk2 Bs sv xs hbytes w hBs hc0 hI).mono ?_;rintro e w1 ⟨v,rfl,hown,hnil,hb⟩;have HN:=hid hnil;clear hnil;rcases hown.2 with ⟨rfl,h0⟩ | ⟨g,cap,cur,rfl,hbase,hh,h1,h2,h3,h4⟩
 ·have hx:xs=[]:=HN.out.1 rfl;subst hx
  go_wp2_with fail;refine(Tryz.slices_Sort_int_none _ _ _).mono ?_;rintro e w2 ⟨rfl,rfl⟩;go_wp2
  go_ret;exact⟨.slice none 0 0,rfl,by simpa[zel] using hown,hb⟩
 ·have hH:=hid (holds_of_blockI hh (by simpa using h4));have H3:=hid h3;have H4:=hid h4;have HH:=hid hh;clear h3 h4 hh
  go_wp2_with fail;refine(Tryz.slices_Sort_int g 0 cap xs w1 hH.out (lt_of_block HH.out) oM).mono ?_;rintro e w2 ⟨rfl,nn,os,rfl⟩;have ho:=ownsRow_sortedI (n:=nn) (os:=os) (ss:=xs) (ts:=zel xs) (zfy xs) hbase HH.out h1 h2 H3.out;have hg:=grownBy_sortedI (w:=w1) (g:=g) (n:=nn) (os:=os) (zel xs).toArray;have hbb:=hb.grown hg hb.size (fun k e=>by cases e;exact hbase);have HO:=hid ho;clear ho;go_wp2
  go_ret;exact⟨_,rfl,HO.out,hbb⟩
end
section
def zt6 (cols cs:List Int):Prop:=cs.Pairwise (·<·)∧∀c,c∈cs↔c∈cols
theorem zgi (zs:List Int) (h:zs.Pairwise (·≤·)):∀m,m≤zs.length→(Lib.compactUpTo zs.toArray m).Pairwise (·<·)∧∀c,c∈Lib.compactUpTo zs.toArray m↔c∈zs.take m
 | 0,_=>⟨List.Pairwise.nil,fun c=>by simp[Lib.compactUpTo]⟩
 | m+1,hm=>by
  obtain⟨h1,h2⟩:=zgi zs h m oM;have hlt:m<zs.length:=oM;have hg:zs.toArray[m]! = zs[m]:=by simp[hlt]
  have ht:zs.take (m+1)=zs.take m++[zs[m]]:=qS hlt;have hpw:=h;rw[←List.take_append_drop (m+1) zs,ht]at hpw;have hle:∀x,x∈zs.take m→x≤zs[m]:=fun x hx=>(List.pairwise_append.1 (List.pairwise_append.1 hpw).1).2.2 x hx _ (pL.2 rfl);rw[Lib.compactUpTo_succ];by_cases hk:Lib.keeps zs.toArray m=true
  ·rw[if_pos hk,hg,ht];refine⟨List.pairwise_append.2 ⟨h1,List.pairwise_singleton _ _,fun x hx y hy=>?_⟩,fun c=>?_⟩
   ·rw[pL.1 hy];have hx':=(h2 x).1 hx;have hle':=hle x hx';unfold Lib.keeps at hk;rw[decide_eq_true_eq]at hk;rcases hk with rfl | hne
    ·rw[List.take_zero]at hx';cases hx'
    ·have hm0:0<m:=by
      rcases pJ m with rfl | h0
      ·rw[List.take_zero]at hx';cases hx'
      ·exact h0
     have hp:zs.toArray[m-1]! = zs[m-1]:=by simp[show m-1<zs.length by omega]
     rw[hg,hp]at hne
     have htm:zs.take m=zs.take (m-1)++[zs[m-1]]:=by
      have:=qS (show m-1<zs.length by omega)
      rwa [Nat.sub_add_cancel hm0]at this
     have hpw2:=(List.pairwise_append.1 (List.pairwise_append.1 hpw).1).1;rw[htm]at hpw2 hx'
     have hxp:x≤zs[m-1]:=by
      rcases List.mem_append.1 hx' with hx' | hx'
      ·exact(List.pairwise_append.1 hpw2).2.2 x hx' _ (pL.2 rfl)
      ·rw[pL.1 hx'];exact Int.le_refl _
     have hpm:zs[m-1]≤zs[m]:=hle _ (by rw[htm];exact List.mem_append_right _ (pL.2 rfl));omega
   ·rw[List.mem_append,List.mem_append,h2 c]
  ·rw[if_neg hk,qG,ht];refine⟨h1,fun c=>?_⟩;unfold Lib.keeps at hk;rw[decide_eq_true_eq,not_or]at hk;have hm0:0<m:=oM;have hp:zs.toArray[m-1]! = zs[m-1]:=by simp[show m-1<zs.length by omega]
   rw[hg,hp]at hk;have he:zs[m]=zs[m-1]:=by have:=hk.2;omega
   have htm:zs.take m=zs.take (m-1)++[zs[m-1]]:=by
    have:=qS (show m-1<zs.length by omega)
    rwa [Nat.sub_add_cancel hm0]at this
   rw[h2 c,List.mem_append,pL,he];constructor
   ·exact .inl
   ·rintro (h | rfl)
    ·exact h
    ·rw[htm];exact List.mem_append_right _ (pL.2 rfl)
theorem zsT (cols:List Int):zt6 cols (Lib.compact (zel cols)):=by
 have h:=zgi (zel cols) (zkm cols) (zel cols).length (qH _);refine⟨h.1,fun c=>?_⟩;have:=h.2 c;rw[qb]at this;exact this.trans (zn7 cols).mem_iff
end
section
open Go.RowKit _root_.Go.Proofs.Tryz
theorem zkf {H:Hp} (a:Option Addr) (len cap:Nat):PC prog 238 #[.slice a len cap] H fun r H'=>∃b,r=.func (.func 253) #[] #[.pointer (some ⟨b,0,none⟩)]∧H' b=some [Value.slice a len cap].toArray:=by
 refine BD func238 ntmps238 ?_;refine uR ?_;(first|refine EVL.unbox (1) rfl fun b=>?_|refine EV.unbox (1) rfl fun b=>?_);(first|refine EVL.publish [] [] rfl fun G1 hG1 hb=>?_|refine EV.publish [] [] rfl fun G1 hG1 hb=>?_);refine EVL.fn1 rfl rfl rfl rfl rfl ?_;refine uR ?_;exact⟨b,rfl,hb⟩
theorem zlt {W:World} {base:Nat} {e:TypeId} {size:Nat} {v:Value} {n:Nat} {xs:List Value} (h:W.ownsRow base e size v n xs):∃ow,zaO e size v n xs ow∧zot base W ow:=by
 obtain⟨h1,⟨rfl,rfl⟩ | ⟨g,cap,cur,rfl,hb,hh,hc,hm,hs,ht⟩⟩:=h
 ·exact⟨[],⟨h1,.inl ⟨rfl,rfl,rfl⟩⟩,by simp,fun b T cs h=>by cases h⟩
 ·have hcur:cur.toList=xs++cur.toList.drop (n*size):=by rw[←ht,List.take_append_drop]
  refine⟨[(g,e,xs++cur.toList.drop (n*size))],⟨h1,.inr ⟨g,cap,_,rfl,rfl,by rw[←hcur];simpa using hs,hc,hm⟩⟩,by simp,fun b T cs h=>?_⟩;rw[pL]at h;cases h;refine⟨hb,?_⟩;rw[←hcur];exact hh
theorem zqh {H:Hp} {b:Nat} {sv:Value} {xs:List Int} (hB:H b=some [sv].toArray) (hs:IL H sv xs) (hl:xs.length≤1000000) :
  PO prog 237 #[.func (.func 253) #[] #[.pointer (some ⟨b,0,none⟩)]] H fun v ow=>zaO 3 1 v xs.length ((zel xs).map iv) ow:=by
 refine⟨(cO func237),fun W hf hg=>?_⟩;obtain⟨T,fz,hW⟩:=hf b _ hB;obtain⟨a,cap,rfl,hsl,_⟩:=hs.sl hf;have hlt:b<W.heap.size:=(Array.getElem?_eq_some_iff.1 hW).1;refine(zn8 b _ xs oM W hlt (by rw[cell_of_row W b 0 _ T fz hW];rfl) hsl).mono ?_;rintro e W' ⟨v,rfl,hown,hb⟩;obtain⟨ow,h1,h2⟩:=zlt hown;exact⟨v,ow,rfl,h1,h2,hb⟩
theorem zgj (zs:List Int):(Lib.compact zs).length≤zs.length:=by
 unfold Lib.compact Lib.compactUpTo;rw[qV];exact qI (List.length_filter_le _ _) (by simp)
theorem zng {H:Hp} {v:Value} {zs:List Int} {ow:Ows} (h:zaO 3 1 v zs.length (zs.map iv) ow) (hl:zs.length≤1000000) :
  PW prog 236 #[v] H ow fun r ow' _=>zaO 3 1 r (Lib.compact zs).length ((Lib.compact zs).map iv) ow':=by
 refine⟨(cO func236),fun W hf hg hL hd=>?_⟩;by_cases h0:zs.length=0
 ·obtain rfl:=pK.1 h0;obtain⟨a,cap,rfl⟩:=h.val;refine(Tryz.slices_Compact_int_empty a cap W).mono ?_;rintro e W' ⟨rfl,rfl⟩;exact⟨_,ow,H,rfl,h,Hp.Le.refl _,hf,Nw.refl _ _ _,zbf.refl _ _,fun j b T cs hj=>⟨(hL j b T cs hj).1,.inr (Ows.bs_mem hj),(hL j b T cs hj).2.1⟩,hd⟩
 ·obtain⟨g,cap,sp,rfl,rfl,hlen,hle,hmax⟩:=h.block oM;obtain⟨hB,hHg,hgg⟩:=hL 0 g _ _ rfl;refine(Tryz.slices_Compact_int_cells g 0 zs.length cap zs W (qH _) oM hle (fun j hj=>?_) (fun j hj=>hB.free _)).mono ?_
  ·rw[hB.at (0+j)];rw[qv];simp[hj,List.getElem?_append]
  rintro e W' ⟨rfl,q,rfl⟩;rw[qb];have hcl:=zgj zs;generalize Lib.compact zs=cs at *
  have hB2:Box (W.drewN q) g (zs.map iv++sp).toArray 3:=hB;have hvl:((cs++List.replicate (zs.length-cs.length) 0).map (Value.int .i64)).length=zs.length:=by simp;omega
  have hB3:=Box.setCells ((cs++List.replicate (zs.length-cs.length) 0).map (Value.int .i64)) 0 (W.drewN q) _ hB2 (by rw[hvl];simp);have hk:=zbH g ((cs++List.replicate (zs.length-cs.length) 0).map (Value.int .i64)) 0 (W.drewN q);have hk2:zbf (fun k=>k=g) W ((W.drewN q).setCells g 0 ((cs++List.replicate (zs.length-cs.length) 0).map (Value.int .i64))):=⟨hk.os,hk.tape,hk.output,hk.size,hk.block⟩
  have hcells:(zs.map iv++sp).take 0++(cs++List.replicate (zs.length-cs.length) 0).map (Value.int .i64)++(zs.map iv++sp).drop (0+((cs++List.replicate (zs.length-cs.length) 0).map (Value.int .i64)).length)=cs.map iv++((List.replicate (zs.length-cs.length) 0).map iv++sp):=by
   rw[hvl,List.take_zero,pO,qv,List.drop_left' (by simp),qr];simp
  rw[hcells]at hB3;refine⟨_,[(g,3,cs.map iv++((List.replicate (zs.length-cs.length) 0).map iv++sp))],H,rfl,⟨by simp,.inr ⟨g,cap,_,rfl,rfl,?_,by omega,hmax⟩⟩,Hp.Le.refl _,fun b c hb=>?_,Nw.refl _ _ _,hk2.mono (fun k _ e=>by subst e;exact Ows.bs_mem (j:=0) rfl),fun j b T cs' hj=>?_,?_⟩
  ·rw[←hlen];simp;omega
  ·obtain⟨T,fz,hW⟩:=hf b c hb;refine⟨T,fz,?_⟩;rw[hk2.block b (hf.lt (by rw[hb];simp)) (fun e=>by subst e;rw[hHg]at hb;cases hb)];exact hW
  ·cases j with
   | zero=>cases (show some (g,3,cs.map iv++((List.replicate (zs.length-cs.length) 0).map iv++sp))=some (b,T,cs') from hj);exact⟨hB3,.inr (Ows.bs_mem (j:=0) rfl),hHg⟩
   | succ j=>simp at hj
  ·intro j j' b' T1 T2 c1 c2 h1 h2
   cases j with
   | zero=>cases j' with
    | zero=>rfl
    | succ j'=>simp at h2
   | succ j=>simp at h1
def zdq (st:Option (Int × Rat × Rat)) (p:Int × Option (Rat × Rat)):Option (Int × Rat × Rat):=match p.2 with
 | none=>st
 | some (a,w)=>match st with
  | none=>some (p.1,a,w)
  | some (c0,a0,w0)=>if w0<w then some (p.1,a,w) else some (c0,a0,w0)
def zb1 (ps:List (Int × Option (Rat × Rat))):Option (Int × Rat × Rat):=ps.foldl zdq none
theorem zm6 (ps:List (Int × Option (Rat × Rat))) (p:Int × Option (Rat × Rat)):zb1 (ps++[p])=zdq (zb1 ps) p:=by unfold zb1;rw[List.foldl_append];rfl
theorem zlZ {ps:List (Int × Option (Rat × Rat))} {B:Nat} (h:∀p,p∈ps→ht (stW p.2)≤B):∀c a w,zb1 ps=some (c,a,w)→ht w≤B:=by
 have key:∀(qs:List (Int × Option (Rat × Rat))) (st:Option (Int × Rat × Rat)),(∀p,p∈qs→ht (stW p.2)≤B)→(∀c a w,st=some (c,a,w)→ht w≤B)→∀c a w,qs.foldl zdq st=some (c,a,w)→ht w≤B:=by
  intro qs
  induction qs with
  | nil=>intro st _ h2 c a w h3;exact h2 c a w h3
  | cons p qs ih =>
   intro st h1 h2 c a w h3;refine ih (zdq st p) (fun q hq=>h1 q (qn _ hq)) ?_ c a w h3;intro c a w h4;have hp:=h1 p (qh ..);unfold zdq at h4
   cases ho:p.2 with
   | none=>rw[ho]at h4;exact h2 c a w h4
   | some q =>
    obtain⟨a1,w1⟩:=q;rw[ho]at h4 hp
    cases st with
    | none=>cases h4;exact hp
    | some t =>
     obtain⟨c0,a0,w0⟩:=t;dsimp only at h4;split at h4
     ·cases h4;exact hp
     ·cases h4;exact h2 _ _ _ rfl
 exact key ps none h (fun c a w h=>by cases h)
def zsb:Option (Int × Rat × Rat)→List Value
 | none=>.int .i64 0::(zac (zaa 0)++zac (zaa 0))
 | some (c,a,w)=>.int .i64 c::(zac (zaa a)++zac (zaa w))
theorem zl8:Tryz.te283.zero=zsb none:=by
 unfold zsb;rw[zar];rfl
abbrev zvh (c:Int) (a w:Rat):Value:=.agg (zsb (some (c,a,w))).toArray
def zuU (X:List (List Rat)) (wo:List Int→Rat) (rs cols:List Int) (least:Int) (r:Value):Prop :=
 ∃ps:List (Int × Option (Rat × Rat)),zt6 cols (ps.map (·.1))∧(∀p,p∈ps→zr8 X wo rs (max least 1) p.1 p.2) ∧
  ((zb1 ps=none∧r=.tuple #[.agg (zsb none).toArray,.bool false])∨∃c a w,zb1 ps=some (c,a,w)∧r=.tuple #[zvh c a (w-wo rs),.bool true])
theorem zsO {H:Hp} {kd cl:Int} {sl sv vx vr vc:Value} {X:List (List Rat)} {S:List Int→List Value} {wo:List Int→Rat} {rs cols:List Int} {least:Int} (hg:GOk H kd cl sl sv X.length S wo) (hX:QLL H vx X) (hr:IL H vr rs) (hn:rs.length≤20) (hc:IL H vc cols) (hcn:cols.length≤1000000) (hb:∀x,x∈X→∀q,q∈x→ht q≤100) :
  PC prog 202 #[zbg kd cl sl sv,vx,vr,vc,.int .i64 least] H fun r _=>zuU X wo (exL rs X.length) cols least r:=by
 have hlen:=hg.leng;have hex:=fun (G:Hp) (hG:H.Le G)=>zck (hr.mono hG) oM X.length;have hel:=zdv rs X.length;have heb:=zd5 (rs:=rs) (n:=X.length);generalize exL rs X.length=es at *
 obtain⟨xa,xc,rfl⟩:=hX.val;obtain⟨ra,rc,rfl⟩:=SlC.val hr;obtain⟨ca,cc,rfl⟩:=SlC.val hc;refine BD func202 ntmps202 ?_;refine uR ?_;refine vA (hg.check _ (Hp.Le.refl _)) ?_;rintro r0 G1 rfl hG1
 repeat (first|refine RUN ?_|refine CV (hlen) ?_|refine CE (hlen) ?_)
 rw[show ((X.length:Int) != (X.length:Int))=false from pQ _];refine uR ?_;refine vA (hex _ hG1) ?_;intro r1 G2 he hG2;obtain⟨ea,ec,rfl⟩:=SlC.val he;refine uR ?_;refine vA (zkf ca cols.length cc) ?_;rintro r2 G3 ⟨b,rfl,hb3⟩ hG3;have hc3:=hc.mono (hG1.trans (hG2.trans hG3));refine EVL.callO rfl rfl rfl rfl rfl (zqh hb3 hc3 hcn) ?_;rintro r4 ow4 how4;have hcl:=zfy cols;rw[←hcl]at how4;refine EVL.callW rfl rfl rfl rfl rfl (ow4) ([]) rfl (zng how4 oM) ?_;rintro r5 ow5 G5 how5 hG5;have hcols:=zsT cols;have hcl2:=zgj (zel cols);generalize Lib.compact (zel cols)=cs at *
 obtain⟨ka,kc,rfl⟩:=how5.val;(first|refine EVL.publishL [] ow5 [] (rfl) how5 fun G6 hG6 hk6=>?_|refine EV.publishL [] ow5 [] (rfl) how5 fun G6 hG6 hk6=>?_);have hk6':IL G6 (.slice ka cs.length kc) cs:=hk6;clear hb3 hc3 how4 how5 hk6;have hall:=hG1.trans (hG2.trans (hG3.trans (hG5.trans hG6)));have hg6:=hg.mono hall;have hX6:=hX.mono hall;have he6:=he.mono (hG3.trans (hG5.trans hG6));refine uR ?_;refine EV.loopK (ι:=List (Int × Option (Rat × Rat))) [1,2,4,5,10,12,38,39] [5,10] (fun ps=>[(13,.v (.bool (zb1 ps).isSome)),(40,.v (.int .i64 (ps.length:Int)))]) (fun ps=>[(12,283,zsb (zb1 ps))]) (fun _=>[]) (fun ps _=>ps.map (·.1)=cs.take ps.length∧ps.length≤cs.length∧∀p,p∈ps→zr8 X wo es (max least 1) p.1 p.2) (fun ps=>cs.length-ps.length) ([]) rfl rfl ⟨rfl,rfl,trivial⟩ ⟨by rw[show zb1 []=none from rfl,←zl8];rfl,trivial⟩ rfl (fun _=>rfl) (⟨rfl,qQ _,by simp⟩) ?_;rintro ps G7 hG7 ⟨hps,hpl,hpr⟩;refine uR ?_;refine EV.cond rfl (fun hlt=>?_) (fun hlt=>?_)
 ·simp only[nN]at hlt;obtain⟨c,hci⟩:∃c,cs[ps.length]?=some c:=⟨_,qA hlt⟩;have hcol:=zoU (col:=c) (least:=max least 1) (hg6.mono hG7) (hX6.mono hG7) (he6.mono hG7) oM heb hb;refine uR ?_;refine vI ((hk6'.mono hG7)) (ps.length) (rfl) (hlt) ((by rw[qK,hci];rfl)) ?_;refine uR ?_;refine EVL.asI (max least 1) ((by split <;> omega)) ?_;refine vA (hcol) ?_;rintro r6 G8 ⟨o,hR,rfl⟩ hG8;have hln:∀o,(ps++[(c,o)]).length=ps.length+1:=fun o=>by simp
  have wn:IntKind.i64.wrap ((ps.length:Int)+1)=((ps.length+1:Nat):Int):=zad _ oM
  have hmap:∀o,(ps++[(c,o)]).map (·.1)=cs.take (ps++[(c,o)]).length:=fun o=>by
   rw[hln,zan hci,←hps,qr];rfl
  have hmem:∀o,zr8 X wo es (max least 1) c o→∀p,p∈ps++[(c,o)]→zr8 X wo es (max least 1) p.1 p.2:=fun o h p hp=>by
   rcases List.mem_append.1 hp with hp | hp
   ·exact hpr p hp
   ·rw[pL.1 hp];exact h
  have hsn:=zm6 ps (c,o);have hwb:ht (stW o)≤200001:=by obtain⟨_,_,_,h⟩:=hR;exact h
  have hwo:∀c a w,zb1 ps=some (c,a,w)→ht w≤200001:=zlZ fun p hp=>by obtain⟨_,_,_,h⟩:=hpr p hp;exact h
  cases o with
  | none =>
   have hsame:zb1 (ps++[(c,none)])=zb1 ps:=hsn;refine uR ?_;refine⟨ps++[(c,none)],⟨by rw[hsame];rfl,by rw[hln,wn];rfl,trivial⟩,sB,⟨by rw[hsame];rfl,trivial⟩,sB,rfl,⟨hmap _,by rw[hln];omega,hmem _ hR⟩,by assumption,by rw[hln];omega⟩
  | some q =>
   obtain⟨a,w⟩:=q
   cases hst:zb1 ps with
   | none =>
    have hnew:zb1 (ps++[(c,some (a,w))])=some (c,a,w):=by rw[hsn,hst];rfl
    refine uR ?_;refine⟨ps++[(c,some (a,w))],⟨by rw[hnew];rfl,by rw[hln,wn];rfl,trivial⟩,sB,⟨by rw[hnew];rfl,trivial⟩,sB,rfl,⟨hmap _,by rw[hln];omega,hmem _ hR⟩,by assumption,by rw[hln];omega⟩
   | some t =>
    obtain⟨c0,a0,w0⟩:=t;have hcmp:=zbF w w0 (zai (show ht w≤200001 from hwb) oM) (zai (hwo _ _ _ hst) oM)
    repeat (first|refine RUN ?_|refine CV (hcmp) ?_|refine CE (hcmp) ?_)
    by_cases hlt2:w0<w
    ·have hnew:zb1 (ps++[(c,some (a,w))])=some (c,a,w):=by rw[hsn,hst];exact if_pos hlt2
     rw[qD (zeO.2 hlt2)];refine uR ?_;refine⟨ps++[(c,some (a,w))],⟨by rw[hnew];rfl,by rw[hln,wn];rfl,trivial⟩,sB,⟨by rw[hnew];rfl,trivial⟩,sB,rfl,⟨hmap _,by rw[hln];omega,hmem _ hR⟩,by assumption,by rw[hln];omega⟩
    ·have hnew:zb1 (ps++[(c,some (a,w))])=some (c0,a0,w0):=by rw[hsn,hst];exact if_neg hlt2
     rw[qC (fun h=>hlt2 (zeO.1 h))];refine uR ?_;refine⟨ps++[(c,some (a,w))],⟨by rw[hnew];rfl,by rw[hln,wn];rfl,trivial⟩,sB,⟨by rw[hnew];rfl,trivial⟩,sB,rfl,⟨hmap _,by rw[hln];omega,hmem _ hR⟩,by assumption,by rw[hln];omega⟩
 ·simp only[nN]at hlt;have hpe:ps.length=cs.length:=oM;have hcs:ps.map (·.1)=cs:=by rw[hps,hpe,qb]
  rw[←hcs]at hcols;have hwo:∀c a w,zb1 ps=some (c,a,w)→ht w≤200001:=zlZ fun p hp=>by obtain⟨_,_,_,h⟩:=hpr p hp;exact h
  cases hst:zb1 ps with
  | none =>
   refine uR ?_;exact⟨ps,hcols,hpr,.inl ⟨hst,by rw[←zl8];rfl⟩⟩
  | some t =>
   obtain⟨c,a,w⟩:=t;have hsub:=zfz w (wo es) (zai (hwo _ _ _ hst) oM) (zai (hg.small es oM heb) oM);have hlS:=hg.len es;refine uR ?_;refine EVL.call rfl rfl rfl rfl rfl (hg6.whole _ hG7 _ es (he6.mono hG7) oM heb) ?_;rintro r6 G8 rfl hG8;obtain⟨sn,scs,ssq,sq,hs12,hS⟩:=hg.form es;obtain⟨c0,c1,c2,c3,c4,c5,c6,c7,c8,c9,c10,c11,rfl⟩:=zum hs12;rw[hS];refine uR ?_;(first|refine EVL.unbox (19) rfl fun b=>?_|refine EV.unbox (19) rfl fun b=>?_);(first|refine EVL.swapOw ([(b,307,S es)]) ([]) ((by rw[hS];rfl)) ?_|refine EV.swapOw ([(b,307,S es)]) ([]) ((by rw[hS];rfl)) ?_);have hw1:=fun G':Hp=>hg.worth G' b 0 307 [] [] es rfl oM heb;simp only[qG]at hw1;clear hS;refine uR ?_;apply EV.drawn 7 kR kR;intro xv yw;(repeat (first|refine' DD ?_|refine' vN ?_|refine' vF ?_));(refine' DJ.callR rfl rfl rfl rfl rfl 0 rfl (by simp[hlS]) (cO func234) (fun G'=>hw1 G') ?_;rotate_left);(repeat (first|refine' DD ?_|(refine' DC (hsub) (h:=?_);rotate_left)));(refine DJ.nil (fun G9 hG9 hF9=>?_);(case hS|hS2=>rfl));refine uR ?_;exact⟨ps,hcols,hpr,.inr ⟨c,a,w,hst,rfl⟩⟩
def RRs (H:Hp) (vs:List Value) (X:List (List Rat)):Prop:=vs.length=X.length∧∀(j:Nat) (u:Value) (x:List Rat),vs[j]?=some u→X[j]?=some x→RL H u x
theorem RRs.mono {H G:Hp} {vs:List Value} {X:List (List Rat)} (h:RRs H vs X) (k:H.Le G):RRs G vs X:=⟨h.1,fun j u x e1 e2=>(h.2 j u x e1 e2).mono k⟩
theorem RRs.nil (H:Hp):RRs H [] []:=⟨rfl,fun j u x h=>by simp at h⟩
theorem RRs.snoc {H:Hp} {vs:List Value} {X:List (List Rat)} {u:Value} {x:List Rat} (h:RRs H vs X) (k:RL H u x):RRs H (vs++[u]) (X++[x]):=zqw h k
def RLL (H:Hp) (v:Value) (X:List (List Rat)):Prop:=∃vs:List Value,RRs H vs X∧SlC H v X.length 1 vs
theorem RLL.mono {H G:Hp} {v:Value} {X:List (List Rat)} (h:RLL H v X) (k:H.Le G):RLL G v X:=by
 obtain⟨vs,h1,h2⟩:=h;exact⟨vs,h1.mono k,h2.mono k⟩
theorem RLL.val {H:Hp} {v:Value} {X:List (List Rat)} (h:RLL H v X):∃a c,v=.slice a X.length c:=by
 obtain⟨vs,_,h2⟩:=h;exact SlC.val h2
theorem RRs.at {H:Hp} {vs:List Value} {X:List (List Rat)} (h:RRs H vs X) {j:Nat} {x:List Rat} (hj:X[j]?=some x):∃a c,vs[j]?=some (.slice a x.length c)∧RL H (.slice a x.length c) x:=by
 obtain⟨hl,_⟩:=qE.1 hj;obtain⟨u,hu⟩:∃u,vs[j]?=some u:=⟨_,qA (by rw[h.1];exact hl)⟩;have hq:=h.2 j u x hu hj;obtain⟨a,c,rfl⟩:=hq.val;exact⟨a,c,hu,hq⟩
def zfi (l:List Int) (n w:Nat):List (List Rat):=(List.range n).map fun i=>zkc (l.drop (min l.length (i*w))) w
theorem zeS (l:List Int) (n w:Nat):(zfi l n w).length=n:=by simp[zfi]
theorem zrI (l:List Int) {n w i:Nat} (h:i<n):(zfi l n w)[i]?=some (zkc (l.drop (min l.length (i*w))) w):=by
 unfold zfi;rw[qK,List.getElem?_range h];rfl
theorem IL.drop {H:Hp} {a:Option Addr} {cap:Nat} {l:List Int} (h:IL H (.slice a l.length cap) l) (k:Nat) (hk:k≤l.length):IL H (.slice (if cap=k then a else a.map (·.add (k*1))) (l.length-k) (cap-k)) (l.drop k):=by
 have hs:SlC H (.slice a l.length cap) l.length 1 (l.map iv):=h;have:=hs.sub k l.length hk (qH _) (SlN.le h);unfold IL SlN;rw[qu,List.map_drop];rw[Nat.mul_one,Nat.mul_one,qO (by simp)]at this;rw[Nat.mul_one];exact this
theorem ztA {H:Hp} {v:Value} {l:List Int} (h:IL H v l) (hb:∀z,z∈l → -9223372036854775808≤z∧z<9223372036854775808) (n w:Nat) (hn:n≤1000) (hw:w≤1000):PC prog 38 #[v,.int .i64 (n:Int),.int .i64 (w:Int)] H fun r H'=>RLL H' r (zfi l n w):=by
 obtain⟨a,cap,rfl⟩:=SlC.val h;have hcap:l.length≤cap:=SlN.le h;refine BD func38 ntmps38 ?_;refine uR ?_;refine EV.loopK (ι:=Nat × List Value × Value × Ows) [0,1,2] [] (fun q=>[(7,.v q.2.2.1),(8,.v (.int .i64 (q.1:Int)))]) (fun _=>[]) (fun q=>q.2.2.2) (fun q G=>q.1≤n∧RRs G q.2.1 ((zfi l n w).take q.1)∧zaO 27 1 q.2.2.1 q.1 q.2.1 q.2.2.2) (fun q=>n-q.1) ((0,[],.slice none 0 0,[])) rfl rfl ⟨rfl,rfl,trivial⟩ trivial rfl (fun _=>rfl) (⟨qQ _,RRs.nil _,zaO.nil _ _⟩) ?_;rintro⟨i,vs,u,ow⟩ G1 hG1 ⟨hi,hvs,hown⟩;dsimp only at hi hvs hown;obtain⟨wa,wc,rfl⟩:=hown.val;refine uR ?_;refine EV.cond rfl (fun hlt=>?_) (fun hlt=>?_)
 ·simp only[nN]at hlt;have hk:i*w≤1000*1000:=Nat.mul_le_mul oM hw
  have hwr:IntKind.i64.wrap ((i:Int)*(w:Int))=((i*w:Nat):Int):=by
   rw[←Int.natCast_mul];generalize i*w=k at *;rw[pM];omega
  have hrow:=zrI l (w:=w) hlt;generalize i*w=k at *
  have hd:=IL.drop (h.mono hG1) (min l.length k) (Nat.min_le_left _ _);have hrp:=zp7 hd (fun z hz=>hb z (List.mem_of_mem_drop hz)) w oM;refine uR ?_;rw[hwr];refine EVL.asI ((min l.length k:Nat)) ((by split <;> omega)) ?_;refine EVL.slc tO rfl rfl rfl rfl rfl rfl rfl rfl (min l.length k) l.length (.inr ⟨_,IntKind.i64,rfl,rfl⟩) (.inl ⟨rfl,rfl⟩) (Nat.min_le_left _ _) hcap hcap ?_;refine uR ?_;refine vA (hrp) ?_;rintro r G2 hr hG2;obtain⟨ra,rc,rfl⟩:=hr.val;refine uR ?_;refine EVL.app1 tO rfl rfl rfl rfl rfl rfl rfl rfl rfl rfl rfl rfl rfl rfl rfl rfl rfl rfl rfl (fun _=>rfl) (ow) ([]) ((qG _).symm) (hown) oM fun _=>?_;intro v' ow' hown';refine uR ?_;refine⟨(i+1,vs++[_],v',ow'),⟨rfl,?_,trivial⟩,sB,trivial,trivial,qG _,⟨hlt,by rw[zan hrow];exact(hvs.mono hG2).snoc hr,hown'⟩,hG2,by dsimp only;omega⟩;rw[zad i (by omega)];rfl
 ·simp only[nN]at hlt;obtain rfl:i=n:=oM;rw[qO (by rw[zeS];omega)]at hvs;(first|refine EVL.publishL [] ow [] ((qG _).symm) hown fun G2 hG2 hs=>?_|refine EV.publishL [] ow [] ((qG _).symm) hown fun G2 hG2 hs=>?_);refine uR ?_;exact⟨vs,hvs.mono hG2,by rw[zeS];exact hs⟩
theorem zjG {H:Hp} {v:Value} {X:List (List Rat)} (h:RLL H v X) (hn:X.length≤1000000) (hx:∀x,x∈X→x.length≤1000000∧∀q,q∈x→rq q):PC prog 14 #[v] H fun r H'=>QLL H' r X:=by
 obtain⟨a,cap,rfl⟩:=h.val;refine BD func14 ntmps14 ?_;refine uR ?_;refine EV.loopK (ι:=Nat × List Value × Value × Ows) [0] [] (fun q=>[(3,.v q.2.2.1),(4,.v (.int .i64 (q.1:Int)))]) (fun _=>[]) (fun q=>q.2.2.2) (fun q G=>q.1≤X.length∧QVs G q.2.1 (X.take q.1)∧zaO 60 1 q.2.2.1 q.1 q.2.1 q.2.2.2) (fun q=>X.length-q.1) ((0,[],.slice none 0 0,[])) rfl rfl ⟨rfl,rfl,trivial⟩ trivial rfl (fun _=>rfl) (⟨qQ _,QVs.nil _,zaO.nil _ _⟩) ?_;rintro⟨i,vs,u,ow⟩ G1 hG1 ⟨hi,hvs,hown⟩;dsimp only at hi hvs hown;obtain⟨wa,wc,rfl⟩:=hown.val;refine uR ?_;refine EV.cond rfl (fun hlt=>?_) (fun hlt=>?_)
 ·simp only[nN]at hlt;obtain⟨x,hxi⟩:=gE hlt;have hxb:=hx x (qF hxi);obtain⟨us,hus,hs⟩:=h.mono hG1;obtain⟨a1,c1,hu1,hR⟩:=hus.at hxi;have hin:=zfM hR oM hxb.2;refine uR ?_;refine vI (hs) (i) (rfl) (hlt) (hu1) ?_;refine uR ?_;refine vA (hin) ?_;rintro r G2 hr hG2;obtain⟨ra,rc,rfl⟩:=SlC.val hr;refine uR ?_;refine EVL.app1 tO rfl rfl rfl rfl rfl rfl rfl rfl rfl rfl rfl rfl rfl rfl rfl rfl rfl rfl rfl (fun _=>rfl) (ow) ([]) ((qG _).symm) (hown) oM fun _=>?_;intro v' ow' hown';refine uR ?_;refine⟨(i+1,vs++[_],v',ow'),⟨rfl,?_,trivial⟩,sB,trivial,trivial,qG _,⟨hlt,by rw[zan hxi];exact(hvs.mono hG2).snoc hr,hown'⟩,hG2,by dsimp only;omega⟩;rw[zad i (by omega)];rfl
 ·simp only[nN]at hlt;obtain rfl:i=X.length:=oM;rw[qb]at hvs;(first|refine EVL.publishL [] ow [] ((qG _).symm) hown fun G2 hG2 hs=>?_|refine EV.publishL [] ow [] ((qG _).symm) hown fun G2 hG2 hs=>?_);refine uR ?_;exact⟨vs,hvs.mono hG2,hs⟩
def zjD (key:Int→Rat) (m:List Int):Nat→List Rat
 | 0=>[]
 | j+1=>zjD key m j++if key (m.getD j 0)<key (m.getD (j+1) 0) then [zer key m j] else []
end
section
structure POk (wo cost:List Int→Rat):Prop where
 wperm:∀l m:List Int,l.Perm m→wo l=wo m
 cperm:∀l m:List Int,l.Perm m→cost l=cost m
 split:∀l m:List Int,cost (l++m)+wo (l++m)=cost l+wo l+(cost m+wo m)
 conv:∀l m:List Int,wo (l++m)≤wo l+wo m
theorem POk.gain {wo cost:List Int→Rat} (h:POk wo cost) {rs l m:List Int} (hp:(l++m).Perm rs):cost rs-cost l-cost m=wo l+wo m-wo rs:=by
 have h1:=h.split l m;have h2:=h.wperm _ _ hp;have h3:=h.cperm _ _ hp;rw[h2,h3]at h1;grind
theorem zlc {p:Int→Bool} {m:List Int} {k:Nat} (h1:∀x,x∈m.take k→p x=true) (h2:∀x,x∈m.drop k→p x=false):m.filter p=m.take k:=by
 rw[←List.take_append_drop k m,List.filter_append,List.filter_eq_self.2 h1,List.filter_eq_nil_iff.2 (fun x hx=>by rw[h2 x hx];decide),qG,List.take_append_drop]
theorem zla {p:Int→Bool} {m:List Int} {k:Nat} (h1:∀x,x∈m.take k→p x=false) (h2:∀x,x∈m.drop k→p x=true):m.filter p=m.drop k:=by
 conv=>lhs;rw[←List.take_append_drop k m]
 rw[List.filter_append,List.filter_eq_nil_iff.2 (fun x hx=>by rw[h1 x hx];decide),List.filter_eq_self.2 h2,pO]
theorem zun {a b:Rat} (h:a<b):a<(a+b) / 2∧(a+b) / 2<b:=by
 constructor <;> grind
theorem ziu {m:List Int} {j:Nat} {x:Int} (h:x∈m.take (j+1)):∃i,i≤j∧i<m.length∧m.getD i 0=x:=by
 obtain⟨i,hi,rfl⟩:=List.mem_iff_getElem.1 h;rw[qP]at hi;exact⟨i,by omega,by omega,by simp[show i<m.length by omega]⟩
theorem zit {m:List Int} {j:Nat} {x:Int} (h:x∈m.drop (j+1)):∃i,j+1≤i∧i<m.length∧m.getD i 0=x:=by
 obtain⟨i,hi,rfl⟩:=List.mem_iff_getElem.1 h;rw[qu]at hi;exact⟨j+1+i,by omega,by omega,by simp[show j+1+i<m.length by omega]⟩
theorem zfS {key:Int→Rat} {m:List Int} (h:zhm key m) {i j:Nat} (hij:i≤j) (hj:j<m.length):key (m.getD i 0)≤key (m.getD j 0):=by
 rcases Nat.lt_or_eq_of_le hij with hlt | rfl
 ·have:=(List.pairwise_iff_getElem.1 h) i j (by simp;omega) (by simp;omega) hlt;simpa[show i<m.length by omega,hj] using this
 ·exact Rat.le_refl
theorem zfU {X:List (List Rat)} {col:Int} {rs m:List Int} (hp:m.Perm rs) (hr:zhm (zbi X col) m) (ha:∀r,r∈rs→zbO X col r=true) {j:Nat} (hj:j+1<m.length) (hlt:zbi X col (m.getD j 0)<zbi X col (m.getD (j+1) 0)) :
  (za5 X col (zer (zbi X col) m j) rs).Perm (m.take (j+1))∧(zaB X col (zer (zbi X col) m j) rs).Perm (m.drop (j+1)):=by
 obtain⟨h1,h2⟩:=zun hlt;have hm:∀r,r∈m→zbO X col r=true:=fun r hr=>ha r (hp.mem_iff.1 hr)
 have hlo:∀x,x∈m.take (j+1)→zbi X col x≤zer (zbi X col) m j:=fun x hx=>by
  obtain⟨i,hi,_,rfl⟩:=ziu hx;exact Rat.le_trans (zfS hr hi oM) (Rat.le_of_lt h1)
 have hhi:∀x,x∈m.drop (j+1)→¬zbi X col x≤zer (zbi X col) m j:=fun x hx=>by
  obtain⟨i,hi,hil,rfl⟩:=zit hx;have:=zfS hr hi hil;intro k;generalize zbi X col (m.getD i 0)=x at *
  unfold zer at k;grind
 constructor
 ·refine(hp.symm.filter _).trans ?_;rw[zlc (k:=j+1)]
  ·intro x hx;rw[hm x (List.mem_of_mem_take hx),qD (hlo x hx)];rfl
  ·intro x hx;rw[hm x (List.mem_of_mem_drop hx),qC (hhi x hx)];rfl
 ·refine(hp.symm.filter _).trans ?_;rw[zla (k:=j+1)]
  ·intro x hx;rw[hm x (List.mem_of_mem_take hx),qD (hlo x hx)];rfl
  ·intro x hx;rw[hm x (List.mem_of_mem_drop hx),qC (hhi x hx)];rfl
theorem zex {key:Int→Rat} {least:Int} {m:List Int} {j:Nat}:zdr key least m j=true↔least≤((j+1:Nat):Int)∧least≤((m.length-(j+1):Nat):Int)∧key (m.getD j 0)<key (m.getD (j+1) 0):=by
 unfold zdr;simp only[Bool.and_eq_true,decide_eq_true_eq];exact and_assoc
theorem zim {key:Int→Rat} {wo:List Int→Rat} {least:Int} {m:List Int}:∀{n:Nat} {a w:Rat},zdg key wo least m n=some (a,w)→∃j,j<n∧zdr key least m j=true∧a=zer key m j∧w=zfn wo m j
 | 0,a,w,h=>by cases h
 | n+1,a,w,h=>by
  unfold zdg at h;split at h
  ·rename_i hc;split at h
   ·cases h;exact⟨n,Nat.lt_succ_self _,hc,rfl,rfl⟩
   ·rename_i a0 w0 h0;split at h
    ·cases h;exact⟨n,Nat.lt_succ_self _,hc,rfl,rfl⟩
    ·cases h;obtain⟨j,h1,h2⟩:=zim h0;exact⟨j,by omega,h2⟩
  ·obtain⟨j,h1,h2⟩:=zim h;exact⟨j,by omega,h2⟩
theorem zil {key:Int→Rat} {wo:List Int→Rat} {least:Int} {m:List Int}:∀{n j:Nat},j<n→zdr key least m j=true→∃a w,zdg key wo least m n=some (a,w)∧zfn wo m j≤w
 | 0,j,h,_=>by omega
 | n+1,j,h,hc=>by
  unfold zdg;by_cases hjn:j=n
  ·subst hjn;rw[if_pos hc];split
   ·exact⟨_,_,rfl,Rat.le_refl⟩
   ·rename_i a0 w0 _;by_cases hw:w0<zfn wo m j
    ·rw[if_pos hw];exact⟨_,_,rfl,Rat.le_refl⟩
    ·rw[if_neg hw];exact⟨_,_,rfl,Rat.not_lt.1 hw⟩
  ·obtain⟨a,w,h1,h2⟩:=zil (wo:=wo) (show j<n by omega) hc;split
   ·rw[h1];dsimp only;split
    ·rename_i hw;exact⟨_,_,rfl,Rat.le_trans h2 (Rat.le_of_lt hw)⟩
    ·exact⟨_,_,rfl,h2⟩
   ·exact⟨a,w,h1,h2⟩
theorem zoB {ps:List (Int × Option (Rat × Rat))} {c:Int} {a w:Rat} (h:zb1 ps=some (c,a,w)):(c,some (a,w))∈ps:=by
 have key:∀(qs pre:List (Int × Option (Rat × Rat))) (st:Option (Int × Rat × Rat)),(∀c a w,st=some (c,a,w)→(c,some (a,w))∈pre)→∀c a w,qs.foldl zdq st=some (c,a,w)→(c,some (a,w))∈pre++qs:=by
  intro qs
  induction qs with
  | nil=>intro pre st h2 c a w h3;rw[qG];exact h2 c a w h3
  | cons p qs ih =>
   intro pre st h2 c a w h3
   have:=ih (pre++[p]) (zdq st p) (fun c a w h4=>by
    obtain⟨pc,po⟩:=p;unfold zdq at h4
    cases po with
    | none=>exact List.mem_append_left _ (h2 c a w h4)
    | some q =>
     obtain⟨a1,w1⟩:=q
     cases st with
     | none=>cases h4;simp
     | some t =>
      obtain⟨c0,a0,w0⟩:=t;dsimp only at h4;split at h4
      ·cases h4;simp
      ·cases h4;exact List.mem_append_left _ (h2 _ _ _ rfl)) c a w h3
   simpa using this
 have:=key ps [] none (fun c a w h=>by cases h) c a w h;simpa using this
theorem zoA {ps:List (Int × Option (Rat × Rat))} {c:Int} {a w:Rat} (h:(c,some (a,w))∈ps):∃c' a' w',zb1 ps=some (c',a',w')∧w≤w':=by
 have key:∀(qs:List (Int × Option (Rat × Rat))) (st:Option (Int × Rat × Rat)),((c,some (a,w))∈qs∨∃c' a' w',st=some (c',a',w')∧w≤w')→∃c' a' w',qs.foldl zdq st=some (c',a',w')∧w≤w':=by
  intro qs
  induction qs with
  | nil =>
   rintro st (h | h)
   ·cases h
   ·exact h
  | cons p qs ih =>
   intro st h;refine ih (zdq st p) ?_
   have step:(p=(c,some (a,w))∨∃c' a' w',st=some (c',a',w')∧w≤w')→∃c' a' w',zdq st p=some (c',a',w')∧w≤w':=by
    rintro (rfl | ⟨c',a',w',rfl,hw⟩)
    ·unfold zdq
     cases st with
     | none=>exact⟨_,_,_,rfl,Rat.le_refl⟩
     | some t =>
      obtain⟨c0,a0,w0⟩:=t;dsimp only;split
      ·exact⟨_,_,_,rfl,Rat.le_refl⟩
      ·rename_i hn;exact⟨_,_,_,rfl,Rat.not_lt.1 hn⟩
    ·obtain⟨pc,po⟩:=p;unfold zdq
     cases po with
     | none=>exact⟨_,_,_,rfl,hw⟩
     | some q =>
      obtain⟨a1,w1⟩:=q;dsimp only;split
      ·rename_i hn;exact⟨_,_,_,rfl,Rat.le_trans hw (Rat.le_of_lt hn)⟩
      ·exact⟨_,_,_,rfl,hw⟩
   rcases h with h | h
   ·rcases List.mem_cons.1 h with h | h
    ·exact .inr (step (.inl h.symm))
    ·exact .inl h
   ·exact .inr (step (.inr h))
 exact key ps none (.inl h)
theorem zgs {key:Int→Rat} {m:List Int}:∀{n:Nat} {t:Rat},t∈zjD key m n→∃j,j<n∧key (m.getD j 0)<key (m.getD (j+1) 0)∧t=zer key m j
 | 0,t,h=>by cases h
 | n+1,t,h=>by
  unfold zjD at h;rcases List.mem_append.1 h with h | h
  ·obtain⟨j,h1,h2⟩:=zgs h;exact⟨j,by omega,h2⟩
  ·split at h
   ·rename_i hlt;exact⟨n,Nat.lt_succ_self _,hlt,pL.1 h⟩
   ·cases h
section
variable {X:List (List Rat)} {wo cost:List Int→Rat} {rs cols:List Int} {L:Int} {ps:List (Int × Option (Rat × Rat))} (hp:POk wo cost) (hcol:zt6 cols (ps.map (·.1))) (hps:∀p,p∈ps→zr8 X wo rs L p.1 p.2)
include hp hcol hps
end
end
section
theorem zdE {l m:List Rat} (h:l.Perm m):zaR l=zaR m:=by
 induction h with
 | nil=>rfl
 | cons x _ ih=>rw[zaF,zaF,ih]
 | swap x y l=>rw[zaF,zaF,zaF,zaF];grind
 | trans _ _ h1 h2=>rw[h1,h2]
theorem zg7 (l m:List Rat):zaR (l++m)=zaR l+zaR m:=by
 induction l with
 | nil=>rw[pO,zc7];grind
 | cons x l ih=>rw[List.cons_append,zaF,zaF,ih];grind
theorem zc0 {n:Nat} (h0:n≠0):((n:Int):Rat)≠0:=zdL h0
theorem ziO {n:Nat} (h0:n≠0):0<((n:Int):Rat):=by
 have h1:((0:Int):Rat)≤((n:Int):Rat):=Rat.intCast_le_intCast.2 oM;have h2:=zc0 h0;have h3:((0:Int):Rat)=0:=rfl;rw[h3]at h1;rcases Rat.le_iff_lt_or_eq.1 h1 with h | h
 ·exact h
 ·exact absurd h.symm h2
theorem zvf (a b:Rat) (x y:Nat) (hx:x=0→a=0) (hy:y=0→b=0):(a+b)*(a+b) / (((x+y:Nat):Int):Rat)≤a*a / ((x:Int):Rat)+b*b / ((y:Int):Rat):=by
 by_cases hx0:x=0
 ·subst hx0;rw[hx rfl,qv,show ((((0:Nat):Int)):Rat)=0 from rfl,zaH,Rat.zero_add,Rat.zero_add];exact Rat.le_refl
 by_cases hy0:y=0
 ·subst hy0;rw[hy rfl,qY,show ((((0:Nat):Int)):Rat)=0 from rfl,zaH,Rat.add_zero,Rat.add_zero];exact Rat.le_refl
 have h1:=zc0 hx0;have h2:=zc0 hy0;have h3:=zc0 (n:=x+y) oM;have p1:=ziO hx0;have p2:=ziO hy0;have p3:=ziO (n:=x+y) oM;have e:(((x+y:Nat):Int):Rat)=((x:Int):Rat)+((y:Int):Rat):=by rw[Int.natCast_add,Rat.intCast_add]
 rw[e]at h3 p3 ⊢;generalize ((x:Int):Rat)=u at *
 generalize ((y:Int):Rat)=v at *
 have key:a*a / u+b*b / v-(a+b)*(a+b) / (u+v)=(a*v-b*u)*(a*v-b*u) / (u*v*(u+v)):=by grind
 have hn:0≤(a*v-b*u)*(a*v-b*u) / (u*v*(u+v)):=by
  have h5:=zkq (a*v-b*u);have h6:0<u*v*(u+v):=Rat.mul_pos (Rat.mul_pos p1 p2) p3;rw[Rat.div_def];exact Rat.mul_nonneg h5 (Rat.le_of_lt (Rat.inv_pos.2 h6))
 grind
def zfr (vals:List Rat) (l:List Int):Rat:=zaR (zdl (za0 (atR vals l)) (atR vals l))
def zhC (ls:List Int) (l:List Int):Rat:=zjr (atI ls l)
theorem zvi (L:List Rat):zaR (zdl (za0 L) L)+zaR L*zaR L / ((L.length:Int):Rat)=zaR (zdl 0 L):=by
 by_cases h0:L.length=0
 ·obtain rfl:=pK.1 h0;show zaR []+zaR []*zaR [] / ((((([]:List Rat).length:Nat):Int)):Rat)=zaR [];rw[zc7,show ((((([]:List Rat).length:Nat):Int)):Rat)=0 from rfl,zaH,Rat.add_zero]
 ·have h:=zjv (za0 L) 0 L.reverse;rw[List.reverse_reverse,List.length_reverse]at h;have hn:=zc0 h0;have hm:za0 L=zaR L / ((L.length:Int):Rat):=rfl;rw[h];generalize zaR (zdl (za0 L) L)=A;rw[hm];generalize ((L.length:Int):Rat)=N at *
  generalize zaR L=S at *
  grind
theorem zvo (vals:List Rat):POk (woV vals) (zfr vals):=by
 have hpm:∀l m:List Int,l.Perm m→(atR vals l).Perm (atR vals m):=fun l m h=>h.map _
 have hw:∀l m:List Int,l.Perm m→woV vals l=woV vals m:=fun l m h=>by
  unfold woV;rw[zdE (hpm l m h),h.length_eq]
 have hf:∀l:List Int,zfr vals l+woV vals l=zaR (zdl 0 (atR vals l)):=fun l=>by
  have:=zvi (atR vals l);rw[zb0]at this;exact this
 refine⟨hw,fun l m h=>?_,fun l m=>?_,fun l m=>?_⟩
 ·have h1:=hf l;have h2:=hf m;have h3:zaR (zdl 0 (atR vals l))=zaR (zdl 0 (atR vals m)):=zdE ((hpm l m h).map _);have h4:=hw l m h;grind
 ·rw[hf,hf,hf,zkR];show zaR ((atR vals l++atR vals m).map _)=_;rw[qr,zg7];rfl
 ·unfold woV;rw[zkR,zg7,qJ];exact zvf _ _ _ _ (fun h=>by rw[pK.1 h];rfl) (fun h=>by rw[pK.1 h];rfl)
theorem ziZ (f g:Nat→Nat) (j:Nat):∀n,((List.range n).map fun k=>f k+if k=j then g k else 0).sum=((List.range n).map f).sum+if j<n then g j else 0
 | 0=>by simp
 | n+1=>by
  rw[List.range_succ,qr,List.sum_append,qr,List.sum_append,ziZ f g j n];simp only[qy,List.map_nil,List.sum_cons,List.sum_nil];by_cases h:n=j
  ·subst h;rw[if_pos rfl,if_neg oM,if_pos (by omega)];omega
  ·rw[if_neg h];by_cases h2:j<n
   ·rw[if_pos h2,if_pos (by omega)];omega
   ·rw[if_neg h2,if_neg (by omega)];omega
theorem zqi:∀l:List Int,(∀z,z∈l→0≤z∧z<12)→sqL l=((List.range 12).map fun (k:Nat)=>l.count (k:Int)*l.count (k:Int)).sum
 | [],_=>by decide
 | x::l,h=>by
  have hx:=h x (qh ..);obtain⟨j,rfl⟩:=qj hx.1;have ih:=zqi l (fun z hz=>h z (qn _ hz));have hs:=ziZ (fun k=>l.count (k:Int)*l.count (k:Int)) (fun k=>2*l.count (k:Int)+1) j 12;rw[if_pos (by omega)]at hs;rw[ziX,ih,Nat.add_assoc,←hs];congr 1;refine List.map_congr_left fun k _=>?_;rw[List.count_cons];by_cases e:k=j
  ·subst e;rw[if_pos rfl];simp;grind
  ·have e2:¬((j:Int) == (k:Int))=true:=by simp;omega
   rw[if_neg e,if_neg e2];simp
def zkK (ks:List Nat) (f:Nat→Rat):Rat:=zaR (ks.map f)
theorem zmS (f:Nat→Nat):∀ks:List Nat,((((ks.map f).sum:Nat):Int):Rat)=zkK ks fun k=>(((f k:Nat):Int):Rat)
 | []=>rfl
 | k::ks=>by
  unfold zkK;rw[qy,List.sum_cons,qy,zaF,Int.natCast_add,Rat.intCast_add,zmS f ks];rfl
theorem zqj {f g:Nat→Rat} (h:∀k,f k≤g k):∀ks:List Nat,zkK ks f≤zkK ks g
 | []=>Rat.le_refl
 | k::ks=>by
  have ih:=zqj h ks;unfold zkK at *
  rw[qy,zaF,qy,zaF];have:=h k;grind
theorem zmR (f g:Nat→Rat):∀ks:List Nat,zkK ks (fun k=>f k+g k)=zkK ks f+zkK ks g
 | []=>by unfold zkK;rw[List.map_nil,List.map_nil,List.map_nil,zc7,Rat.add_zero]
 | k::ks=>by
  have ih:=zmR f g ks;unfold zkK at *
  rw[qy,zaF,qy,zaF,qy,zaF,ih];grind
theorem zfW (f:Nat→Rat) (c:Rat):∀ks:List Nat,zkK ks (fun k=>f k / c)=zkK ks f / c
 | []=>by unfold zkK;rw[List.map_nil,List.map_nil,zc7,Rat.div_def,Rat.zero_mul]
 | k::ks=>by
  have ih:=zfW f c ks;unfold zkK at *
  rw[qy,zaF,qy,zaF,ih,Rat.div_def,Rat.div_def,Rat.div_def,Rat.add_mul]
theorem zlE {l:List Int} (h:∀z,z∈l→0≤z∧z<12):((sqL l:Int):Rat)=zkK (List.range 12) fun k=>((l.count (k:Int):Int):Rat)*((l.count (k:Int):Int):Rat):=by
 rw[zqi l h,zmS];unfold zkK;congr 1;refine List.map_congr_left fun k _=>?_;rw[Int.natCast_mul,Rat.intCast_mul]
theorem zvn {ls:List Int} (hls:∀z,z∈ls→0≤z∧z<12):POk (woL ls) (zhC ls):=by
 have hpm:∀l m:List Int,l.Perm m→(atI ls l).Perm (atI ls m):=fun l m h=>h.map _
 have hb:∀l:List Int,∀z,z∈atI ls l→0≤z∧z<12:=fun l z hz=>by
  unfold atI at hz;obtain⟨r,_,rfl⟩:=List.mem_map.1 hz;rw[qB]
  cases e:ls[r.toNat]? with
  | none=>exact⟨by decide,by decide⟩
  | some x=>exact hls x (qF e)
 have hw:∀l m:List Int,l.Perm m→woL ls l=woL ls m:=fun l m h=>by
  unfold woL;rw[zmN (hpm l m h),h.length_eq]
 have hf:∀l:List Int,zhC ls l+woL ls l=((l.length:Int):Rat):=fun l=>by
  unfold zhC zjr woL;rw[zcC];grind
 refine⟨hw,fun l m h=>?_,fun l m=>?_,fun l m=>?_⟩
 ·have h1:=hf l;have h2:=hf m;have h4:=hw l m h;rw[h.length_eq]at h1;grind
 ·rw[hf,hf,hf,qJ,Int.natCast_add,Rat.intCast_add]
 ·unfold woL;rw[zlE (hb (l++m)),zlE (hb l),zlE (hb m),←zfW,←zfW,←zfW,←zmR];refine zqj (fun k=>?_) _;rw[zkQ,List.count_append,Int.natCast_add,Rat.intCast_add,qJ];exact zvf _ _ _ _ (fun h=>by rw[pK.1 h];rfl) (fun h=>by rw[pK.1 h];rfl)
end
section
def Gr (D A:Nat) (q:Rat):Prop:=∃z:Int,q*((D:Int):Rat)=(z:Rat)∧z.natAbs≤A*D
theorem zli (z:Int) (k:Nat):(z*(k:Int)).natAbs=z.natAbs*k:=by rw[Int.natAbs_mul,Int.natAbs_natCast]
theorem Gr.bits {D A:Nat} {q:Rat} (hD:1≤D) (hA:1≤A) (h:Gr D A q):ht q≤bl (A*D):=by
 obtain⟨z,e,hz⟩:=h
 have hq:q=mkRat z D:=by
  rw[Rat.mkRat_eq_div];have h0:=zc0 (show D≠0 by omega);have:((D:Nat):Rat)=((D:Int):Rat):=rfl;rw[this,←e];grind
 rw[hq];refine qI (zrg z D oM) ?_;have h1:=zaZ hz;have h2:=zaZ (show D≤A*D from Nat.le_mul_of_pos_left D oM);omega
theorem Gr.mono {D A B:Nat} {q:Rat} (h:Gr D A q) (hAB:A≤B):Gr D B q:=by
 obtain⟨z,e,hz⟩:=h;exact⟨z,e,qI hz (qN D hAB)⟩
theorem Gr.up {D A:Nat} {q:Rat} (h:Gr D A q) (k:Nat):Gr (D*k) A q:=by
 obtain⟨z,e,hz⟩:=h;refine⟨z*(k:Int),?_,?_⟩
 ·rw[Int.natCast_mul,Rat.intCast_mul,Rat.intCast_mul,←Rat.mul_assoc,e]
 ·rw[zli,←Nat.mul_assoc];exact qN k hz
theorem Gr.zero (D A:Nat):Gr D A 0:=⟨0,by rw[Rat.zero_mul];rfl,qQ _⟩
theorem Gr.neg {D A:Nat} {q:Rat} (h:Gr D A q):Gr D A (-q):=by
 obtain⟨z,e,hz⟩:=h;refine⟨-z,?_,by rw[Int.natAbs_neg];exact hz⟩;rw[Rat.neg_mul,e,Rat.intCast_neg]
theorem Gr.add {D A B:Nat} {p q:Rat} (h:Gr D A p) (k:Gr D B q):Gr D (A+B) (p+q):=by
 obtain⟨z,e,hz⟩:=h;obtain⟨y,e',hy⟩:=k;refine⟨z+y,?_,?_⟩
 ·rw[Rat.add_mul,e,e',Rat.intCast_add]
 ·rw[qw];exact qI (Int.natAbs_add_le _ _) (Nat.add_le_add hz hy)
theorem Gr.sub {D A B:Nat} {p q:Rat} (h:Gr D A p) (k:Gr D B q):Gr D (A+B) (p-q):=by
 rw[Rat.sub_eq_add_neg];exact h.add k.neg
theorem Gr.mul {D E A B:Nat} {p q:Rat} (h:Gr D A p) (k:Gr E B q):Gr (D*E) (A*B) (p*q):=by
 obtain⟨z,e,hz⟩:=h;obtain⟨y,e',hy⟩:=k;refine⟨z*y,?_,?_⟩
 ·rw[Int.natCast_mul,Rat.intCast_mul,Rat.intCast_mul,←e,←e'];grind
 ·rw[Int.natAbs_mul,show A*B*(D*E)=(A*D)*(B*E) by rw[Nat.mul_assoc,Nat.mul_assoc,Nat.mul_left_comm B D E]];exact Nat.mul_le_mul hz hy
theorem Gr.sumr {D A:Nat}:∀(l:List Rat),(∀q,q∈l→Gr D A q)→Gr D (A*l.length) (zaR l.reverse)
 | [],_=>Gr.zero _ _
 | x::l,h=>by
  rw[List.reverse_cons,zby,qR,Nat.mul_succ];exact(Gr.sumr l fun q hq=>h q (qn _ hq)).add (h x (qh ..))
theorem Gr.sum {D A:Nat} {l:List Rat} (h:∀q,q∈l→Gr D A q):Gr D (A*l.length) (zaR l):=by
 have:=Gr.sumr (D:=D) (A:=A) l.reverse fun q hq=>h q (List.mem_reverse.1 hq)
 rwa [List.reverse_reverse,List.length_reverse]at this
theorem Gr.mean {D A:Nat} {l:List Rat} (h:∀q,q∈l→Gr D A q):Gr (D*l.length) A (za0 l):=by
 by_cases h0:l.length=0
 ·obtain rfl:=pK.1 h0;rw[show za0 []=0 from zaH _];exact Gr.zero _ _
 obtain⟨z,e,hz⟩:=Gr.sum h;refine⟨z,?_,?_⟩
 ·have h1:=zc0 (n:=l.length) oM;rw[Int.natCast_mul,Rat.intCast_mul,←e];unfold za0;grind
 ·rw[show A*(D*l.length)=A*l.length*D by rw[Nat.mul_assoc,qW D]];exact hz
theorem Gr.meanK {D A m:Nat} {l:List Rat} (h:∀q,q∈l→Gr D A q) (hm:l.length ∣ m):Gr (D*m) A (za0 l):=by
 obtain⟨k,rfl⟩:=hm;rw[←Nat.mul_assoc];exact(Gr.mean h).up k
theorem Gr.dev {D A:Nat} {l:List Rat} (h:∀q,q∈l→Gr D A q):Gr (D*l.length*(D*l.length)) ((A+A)*(A+A)*l.length) (zaR (zdl (za0 l) l)):=by
 have hm:=Gr.mean h
 have:=Gr.sum (D:=D*l.length*(D*l.length)) (A:=(A+A)*(A+A)) (l:=zdl (za0 l) l) fun q hq=>by
  obtain⟨v,hv,rfl⟩:=List.mem_map.1 hq;have h1:=((h v hv).up l.length).sub hm;exact h1.mul h1
 rwa [show (zdl (za0 l) l).length=l.length by unfold zdl;exact qV ..]at this
theorem zlA (q:Rat):q*(((q.den:Nat):Int):Rat)=(q.num:Rat):=by
 have h0:=zc0 q.den_nz;have e:=Rat.mkRat_self q;rw[Rat.mkRat_eq_div]at e;have h1:((q.den:Nat):Rat)=(((q.den:Nat):Int):Rat):=rfl;rw[h1]at e;generalize (((q.den:Nat):Int):Rat)=d at *
 generalize (q.num:Rat)=n at *
 clear h1;rw[show q=n / d from e.symm];grind
theorem ziE {q:Rat}:0<q.num↔0<q:=by
 have h1:=Rat.num_nonneg (q:=q);have h2:=Rat.num_eq_zero (q:=q);constructor
 ·intro h
  exact Rat.not_le.1 fun k=>by
   have h3:0≤q:=h1.1 oM;have h4:q=0:=Rat.le_antisymm k h3;have:=h2.2 h4;omega
 ·intro h;have h3:0≤q.num:=h1.2 (Rat.le_of_lt h);rcases Int.lt_or_eq_of_le h3 with h4 | h4
  ·exact h4
  ·have:=h2.1 h4.symm;rw[this]at h;exact absurd h (Rat.lt_irrefl)
theorem Gr.ofDen {D A:Nat} {q:Rat} (hd:q.den ∣ D) (hn:q.num.natAbs≤A*q.den):Gr D A q:=by
 obtain⟨k,rfl⟩:=hd;have h0:Gr q.den A q:=⟨q.num,zlA q,hn⟩;exact h0.up k
def zhl (l:List Rat):Prop:=∃D A:Nat,1≤D∧1≤A∧bl (A*D)≤95∧∀q,q∈l→Gr D A q
theorem zhl.bits {l:List Rat} (h:zhl l):∀q,q∈l→ht q≤95:=fun q hq=>by
 obtain⟨D,A,hD,hA,hb,hl⟩:=h;exact qI ((hl q hq).bits hD hA) hb
theorem zhl.small {l m:List Rat} (h:zhl l) (hm:∀q,q∈m→q∈l) (hl:m.length≤300):ht (za0 m)≤104∧ht (zaR (zdl (za0 m) m))≤300:=by
 obtain⟨D,A,hD,hA,hb,hq⟩:=h;by_cases h0:m.length=0
 ·obtain rfl:=pK.1 h0;rw[show za0 []=0 from zaH _,show zaR (zdl 0 [])=0 from rfl,zcD];omega
 have hg:=fun q k=>hq q (hm q k);have h300:bl m.length≤9:=zaU oM;have h4:bl 4=3:=zif 2;constructor
 ·refine qI ((Gr.mean hg).bits (qI hD (Nat.le_mul_of_pos_right D oM)) hA) ?_;rw[←Nat.mul_assoc];have:=zbB (A*D) m.length;omega
 ·refine qI ((Gr.dev hg).bits (Nat.mul_pos (Nat.mul_pos oM oM) (Nat.mul_pos oM oM)) (Nat.mul_pos (Nat.mul_pos oM oM) oM)) ?_;rw[show (A+A)*(A+A)*m.length*(D*m.length*(D*m.length))=4*((A*D)*(A*D))*(m.length*(m.length*m.length)) by grind];have h5:=zbB (4*((A*D)*(A*D))) (m.length*(m.length*m.length));have h6:=zbB 4 ((A*D)*(A*D));have h7:=zbB (A*D) (A*D);have h8:=zbB m.length (m.length*m.length);have h9:=zbB m.length m.length;omega
end
section
def zje (a b:Int × Rat × Rat):Prop:=b.2.2<a.2.2∨(a.2.2=b.2.2∧(a.1<b.1∨(a.1=b.1∧a.2.1<b.2.1)))
instance (a b:Int × Rat × Rat):Decidable (zje a b):=by unfold zje;exact inferInstance
theorem zhX {a b c:Int × Rat × Rat} (h:zje a b) (k:zje b c):zje a c:=by
 unfold zje at *
 rcases h with h | ⟨h1,h2⟩ <;> rcases k with k | ⟨k1,k2⟩
 ·left;grind
 ·left;grind
 ·left;grind
 ·right;refine⟨h1.trans k1,?_⟩;rcases h2 with h2 | ⟨h2,h3⟩ <;> rcases k2 with k2 | ⟨k2,k3⟩
  ·left;omega
  ·left;omega
  ·left;omega
  ·right;exact⟨by omega,by grind⟩
theorem znT {a b:Int × Rat × Rat} (h:¬zje a b) (k:¬zje b a):a=b:=by
 unfold zje at *
 obtain⟨a1,a2,a3⟩:=a;obtain⟨b1,b2,b3⟩:=b;dsimp only at *
 have e3:a3=b3:=by
  have h1:¬b3<a3:=fun x=>h (.inl x);have h2:¬a3<b3:=fun x=>k (.inl x);grind
 subst e3
 have e1:a1=b1:=by
  have h1:¬a1<b1:=fun x=>h (.inr ⟨rfl,.inl x⟩);have h2:¬b1<a1:=fun x=>k (.inr ⟨rfl,.inl x⟩);omega
 subst e1
 have e2:a2=b2:=by
  have h1:¬a2<b2:=fun x=>h (.inr ⟨rfl,.inr ⟨rfl,x⟩⟩);have h2:¬b2<a2:=fun x=>k (.inr ⟨rfl,.inr ⟨rfl,x⟩⟩);grind
 subst e2;rfl
theorem zhW {a b:Int × Rat × Rat} (h:zje a b) (k:zje b a):False:=by
 have:=zhX h k;unfold zje at this;rcases this with h | ⟨_,h | ⟨_,h⟩⟩
 ·exact absurd h Rat.lt_irrefl
 ·omega
 ·exact absurd h Rat.lt_irrefl
def zqL (st:Option (Int × Rat × Rat)) (p:Int × Rat × Rat):Option (Int × Rat × Rat):=match st with
 | none=>some p
 | some q=>if zje p q then some p else some q
def zf5 (l:List (Int × Rat × Rat)) (r:Option (Int × Rat × Rat)):Prop:=match r with
 | none=>l=[]
 | some p=>p∈l∧∀q,q∈l→¬zje q p
theorem znz {l:List (Int × Rat × Rat)} {r:Option (Int × Rat × Rat)} (h:zf5 l r) (p:Int × Rat × Rat):zf5 (l++[p]) (zqL r p):=by
 unfold zqL
 cases r with
 | none =>
  obtain rfl:l=[]:=h
  exact⟨by simp,fun q hq=>by
   rw[pO,pL]at hq;subst hq;exact fun k=>zhW k k⟩
 | some q =>
  obtain⟨h1,h2⟩:=h;dsimp only;split
  ·rename_i hp;refine⟨by simp,fun z hz=>?_⟩;rcases List.mem_append.1 hz with hz | hz
   ·exact fun k=>h2 z hz (zhX k hp)
   ·rw[pL.1 hz];exact fun k=>zhW k k
  ·rename_i hp;refine⟨List.mem_append_left _ h1,fun z hz=>?_⟩;rcases List.mem_append.1 hz with hz | hz
   ·exact h2 z hz
   ·rw[pL.1 hz];exact hp
def zlQ (P:Int × Rat × Rat→Prop) (r:Option (Int × Rat × Rat)):Prop:=match r with
 | none=>∀p,¬P p
 | some p=>P p∧∀q,P q→¬zje q p
theorem zf5.p {l:List (Int × Rat × Rat)} {r:Option (Int × Rat × Rat)} (h:zf5 l r):zlQ (·∈l) r:=by
 cases r with
 | none =>
  obtain rfl:l=[]:=h;intro p hp;cases hp
 | some p=>exact h
theorem zhK {P Q:Int × Rat × Rat→Prop} {r s:Option (Int × Rat × Rat)} (h:zlQ P r) (k:zlQ Q s) (e:∀p,P p↔Q p):r=s:=by
 cases r with
 | none=>cases s with
  | none=>rfl
  | some q=>exact absurd ((e q).2 k.1) (h q)
 | some p=>cases s with
  | none=>exact absurd ((e p).1 h.1) (k p)
  | some q=>rw[znT (a:=p) (b:=q) (k.2 p ((e p).1 h.1)) (h.2 q ((e q).2 k.1))]
theorem zd4 {key:Int→Rat} {wo:List Int→Rat} {L:Int} {m:List Int}:∀{n:Nat} {a w:Rat},zdg key wo L m n=some (a,w) →
  ∃j,j<n∧zdr key L m j=true∧a=zer key m j∧w=zfn wo m j∧∀j',j'<n→zdr key L m j'=true→zfn wo m j'<w∨(zfn wo m j'=w∧j≤j')
 | 0,a,w,h=>by cases h
 | n+1,a,w,h=>by
  unfold zdg at h;split at h
  ·rename_i hc;split at h
   ·rename_i h0;cases h;refine⟨n,Nat.lt_succ_self _,hc,rfl,rfl,fun j' hj' hc'=>?_⟩;by_cases e:j'=n
    ·subst e;exact .inr ⟨rfl,qH _⟩
    ·obtain⟨a1,w1,h1,_⟩:=zil (wo:=wo) (show j'<n by omega) hc';rw[h0]at h1;cases h1
   ·rename_i a0 w0 h0;obtain⟨j,hj,h1,h2,h3,h4⟩:=zd4 h0;split at h
    ·rename_i hw;cases h;refine⟨n,Nat.lt_succ_self _,hc,rfl,rfl,fun j' hj' hc'=>?_⟩;by_cases e:j'=n
     ·subst e;exact .inr ⟨rfl,qH _⟩
     ·rcases h4 j' oM hc' with h5 | ⟨h5,_⟩
      ·left;grind
      ·left;rw[h5];exact hw
    ·rename_i hw;cases h;refine⟨j,by omega,h1,h2,h3,fun j' hj' hc'=>?_⟩;by_cases e:j'=n
     ·subst e;rcases Rat.le_iff_lt_or_eq.1 (Rat.not_lt.1 hw) with h5 | h5
      ·exact .inl h5
      ·exact .inr ⟨h5,by omega⟩
     ·exact h4 j' oM hc'
  ·rename_i hc;obtain⟨j,hj,h1,h2,h3,h4⟩:=zd4 h;refine⟨j,by omega,h1,h2,h3,fun j' hj' hc'=>?_⟩;by_cases e:j'=n
   ·subst e;exact absurd hc' hc
   ·exact h4 j' oM hc'
theorem zkS {ps:List (Int × Option (Rat × Rat))} (hs:(ps.map (·.1)).Pairwise (·<·)) {c:Int} {a w:Rat} (h:zb1 ps=some (c,a,w)):∀c' a' w',(c',some (a',w'))∈ps→w'<w∨(w'=w∧c≤c'):=by
 have key:∀(qs pre:List (Int × Option (Rat × Rat))) (st:Option (Int × Rat × Rat)),((pre++qs).map (·.1)).Pairwise (·<·) →
   (∀c a w,st=some (c,a,w)→(c,some (a,w))∈pre∧∀c' a' w',(c',some (a',w'))∈pre→w'<w∨(w'=w∧c≤c'))→(st=none→∀c' a' w',(c',some (a',w')) ∉ pre) →
   ∀c a w,qs.foldl zdq st=some (c,a,w)→∀c' a' w',(c',some (a',w'))∈pre++qs→w'<w∨(w'=w∧c≤c'):=by
  intro qs
  induction qs with
  | nil=>intro pre st _ h2 _ c a w h3 c' a' w' hm;rw[qG]at hm;exact(h2 c a w h3).2 c' a' w' hm
  | cons p qs ih =>
   intro pre st hpw h2 h0 c a w h3 c' a' w' hm;have e:pre++p::qs=(pre++[p])++qs:=by simp
   rw[e]at hpw hm
   have hlt:∀z,z∈pre→z.1<p.1:=fun z hz=>by
    rw[qr,qr]at hpw;exact(List.pairwise_append.1 (List.pairwise_append.1 hpw).1).2.2 z.1 (List.mem_map.2 ⟨z,hz,rfl⟩) p.1 (by simp)
   refine ih (pre++[p]) (zdq st p) hpw (fun c a w h4=>?_) (fun h4=>?_) c a w h3 c' a' w' hm
   ·obtain⟨pc,po⟩:=p;unfold zdq at h4
    cases po with
    | none =>
     obtain⟨h5,h6⟩:=h2 c a w h4;refine⟨List.mem_append_left _ h5,fun c' a' w' hz=>?_⟩;rcases List.mem_append.1 hz with hz | hz
     ·exact h6 c' a' w' hz
     ·cases pL.1 hz
    | some q =>
     obtain⟨a1,w1⟩:=q
     cases st with
     | none =>
      cases h4;refine⟨by simp,fun c' a' w' hz=>?_⟩;rcases List.mem_append.1 hz with hz | hz
      ·exact absurd hz (h0 rfl c' a' w')
      ·cases pL.1 hz;exact .inr ⟨rfl,by omega⟩
     | some t =>
      obtain⟨c0,a0,w0⟩:=t;obtain⟨h5,h6⟩:=h2 c0 a0 w0 rfl;dsimp only at h4;split at h4
      ·rename_i hw;cases h4;refine⟨by simp,fun c' a' w' hz=>?_⟩;rcases List.mem_append.1 hz with hz | hz
       ·rcases h6 c' a' w' hz with h7 | ⟨h7,_⟩
        ·left;grind
        ·left;rw[h7];exact hw
       ·cases pL.1 hz;exact .inr ⟨rfl,by omega⟩
      ·rename_i hw;cases h4;refine⟨List.mem_append_left _ h5,fun c' a' w' hz=>?_⟩;rcases List.mem_append.1 hz with hz | hz
       ·exact h6 c' a' w' hz
       ·cases pL.1 hz;have hl:=hlt _ h5;dsimp only at hl;rcases Rat.le_iff_lt_or_eq.1 (Rat.not_lt.1 hw) with h8 | h8
        ·exact .inl h8
        ·exact .inr ⟨h8,by omega⟩
   ·obtain⟨pc,po⟩:=p;unfold zdq at h4
    cases po with
    | none =>
     intro c' a' w' hz;rcases List.mem_append.1 hz with hz | hz
     ·exact h0 h4 c' a' w' hz
     ·cases pL.1 hz
    | some q =>
     obtain⟨a1,w1⟩:=q
     cases st with
     | none=>cases h4
     | some t =>
      obtain⟨c0,a0,w0⟩:=t;dsimp only at h4;split at h4 <;> cases h4
 exact key ps [] none hs (fun c a w h=>by cases h) (fun _ c' a' w' h=>by cases h) c a w h
end
section
theorem zke {key:Int→Rat} {es m m2:List Int} (h1:m.Perm es) (r1:zhm key m) (h2:m2.Perm es) (r2:zhm key m2):m2.length=m.length∧∀i,i<m.length→key (m2.getD i 0)=key (m.getD i 0):=by
 have hml:m2.length=m.length:=by rw[h1.length_eq,h2.length_eq]
 have hkk:m2.map key=m.map key:=zh3 r2 r1 ((h2.trans h1.symm).map _);refine⟨hml,fun i hi=>?_⟩;have:=congrArg (fun l:List Rat=>l[i]?) hkk;simp only[qK]at this;rw[qA (show i<m2.length by omega),qA hi]at this;simpa[hi,hml] using this
theorem zoG {X:List (List Rat)} {wo cost:List Int→Rat} {c L:Int} {es m m2:List Int} (hp:POk wo cost) (ha:∀r,r∈es→zbO X c r=true) (h1:m.Perm es) (r1:zhm (zbi X c) m) (h2:m2.Perm es) (r2:zhm (zbi X c) m2) {j:Nat} (hj:j+1<m.length) (hc:zdr (zbi X c) L m j=true) :
  zdr (zbi X c) L m2 j=true∧zer (zbi X c) m2 j=zer (zbi X c) m j∧zfn wo m2 j=zfn wo m j:=by
 obtain⟨hml,hget⟩:=zke h1 r1 h2 r2;obtain⟨c1,c2,hlt⟩:=zex.1 hc;have hlt2:zbi X c (m2.getD j 0)<zbi X c (m2.getD (j+1) 0):=by rw[hget j oM,hget (j+1) hj];exact hlt
 have hmid:zer (zbi X c) m2 j=zer (zbi X c) m j:=by unfold zer;rw[hget j oM,hget (j+1) hj]
 obtain⟨hl,hh⟩:=zfU h1 r1 ha hj hlt;obtain⟨hl2,hh2⟩:=zfU h2 r2 ha (show j+1<m2.length by omega) hlt2;rw[hmid]at hl2 hh2;refine⟨zex.2 ⟨c1,by rw[hml];exact c2,hlt2⟩,hmid,?_⟩;unfold zfn;rw[hp.wperm _ _ (hl2.symm.trans hl),hp.wperm _ _ (hh2.symm.trans hh)]
def zuV (X:List (List Rat)) (wo:List Int→Rat) (es cols:List Int) (L:Int) (p:Int × Rat × Rat):Prop :=
 p.1∈cols∧es.all (zbO X p.1)=true∧∃m j,m.Perm es∧zhm (zbi X p.1) m∧j+1<m.length∧zdr (zbi X p.1) L m j=true∧p.2.1=zer (zbi X p.1) m j∧p.2.2=zfn wo m j-wo es
theorem zrq {key:Int→Rat} {m:List Int} (h:zhm key m) {i j:Nat} (hij:i≤j) (hj:j+1<m.length):zer key m i≤zer key m j:=by
 have h1:=zfS h hij oM;have h2:=zfS h (show i+1≤j+1 by omega) hj;unfold zer;grind
theorem zry {ps:List (Int × Option (Rat × Rat))} (hs:(ps.map (·.1)).Pairwise (·<·)):∀{c:Int} {o o':Option (Rat × Rat)},(c,o)∈ps→(c,o')∈ps→o=o':=by
 induction ps with
 | nil=>intro c o o' h;cases h
 | cons p ps ih =>
  intro c o o' h h';rw[qy]at hs;obtain⟨h1,h2⟩:=List.pairwise_cons.1 hs;rcases List.mem_cons.1 h with h | h <;> rcases List.mem_cons.1 h' with h' | h'
  ·rw[←h]at h';cases h';rfl
  ·have:=h1 c (List.mem_map.2 ⟨_,h',rfl⟩);rw[←h]at this;exact absurd this (by dsimp only;omega)
  ·have:=h1 c (List.mem_map.2 ⟨_,h,rfl⟩);rw[←h']at this;exact absurd this (by dsimp only;omega)
  ·exact ih h2 h h'
theorem zkT {X:List (List Rat)} {wo cost:List Int→Rat} {es cols:List Int} {L:Int} {ps:List (Int × Option (Rat × Rat))} (hp:POk wo cost) (hcol:zt6 cols (ps.map (·.1))) (hps:∀p,p∈ps→zr8 X wo es L p.1 p.2) :
  zlQ (zuV X wo es cols L) ((zb1 ps).map fun t=>(t.1,t.2.1,t.2.2-wo es)):=by
 have own:∀c a g,zuV X wo es cols L (c,a,g)→∃a2 w2,(c,some (a2,w2))∈ps∧g+wo es≤w2∧(g+wo es=w2→a2≤a):=by
  rintro c a g ⟨hc,ha,m,j,hm,hr,hj,hcand,he,hg⟩;dsimp only at hc ha hr hcand he hg;obtain⟨⟨pk,po⟩,hpm,hpk⟩:=List.mem_map.1 ((hcol.2 c).2 hc);dsimp only at hpk;subst hpk;obtain⟨m2,hs2,ho2,_⟩:=hps _ hpm;dsimp only at hs2 ho2;rcases hs2 with ⟨_,hm2,hr2⟩ | ⟨hno,_⟩
  ·obtain⟨h1,h2,h3⟩:=zoG hp (List.all_eq_true.1 ha) hm hr hm2 hr2 hj hcand;have hml:=(zke hm hr hm2 hr2).1;obtain⟨a2,w2,hcn,hw⟩:=zil (wo:=wo) (show j<m2.length-1 by omega) h1;rw[←ho2]at hcn;subst hcn;obtain⟨j2,hj2,_,e1,e2,e3⟩:=zd4 ho2.symm;refine⟨a2,w2,hpm,by grind,fun heq=>?_⟩;rcases e3 j oM h1 with h4 | ⟨_,h4⟩
   ·grind
   ·rw[e1,he,←h2];exact zrq hr2 h4 oM
  ·rw[ha]at hno;cases hno
 cases hb:zb1 ps with
 | none =>
  rintro⟨c,a,g⟩ hq;obtain⟨a2,w2,h1,_⟩:=own c a g hq;obtain⟨_,_,_,h2,_⟩:=zoA h1;rw[hb]at h2;cases h2
 | some t =>
  obtain⟨c,a,w⟩:=t;have hm:=zoB hb;refine⟨?_,?_⟩
  ·obtain⟨m,hs,ho,_⟩:=hps _ hm;dsimp only at hs ho;obtain⟨j,hj,hcand,e1,e2⟩:=zim ho.symm;rcases hs with ⟨ha,hpm,hr⟩ | ⟨_,rfl⟩
   ·exact⟨(hcol.2 c).1 (List.mem_map.2 ⟨_,hm,rfl⟩),ha,m,j,hpm,hr,by omega,hcand,e1,by show w-wo es=_;rw[e2]⟩
   ·simp at hj
  ·rintro⟨c',a',g'⟩ hq hpre;obtain⟨a2,w2,h1,h2,h3⟩:=own c' a' g' hq;have h4:=zkS hcol.1 hb c' a2 w2 h1;rcases hpre with h5 | ⟨h5,h6⟩
   ·have h5':w-wo es<g':=h5;rcases h4 with h4 | ⟨h4,_⟩ <;> grind
   ·have h5':g'=w-wo es:=h5;have hw:w2=w:=by rcases h4 with h4 | ⟨h4,_⟩ <;> grind
    have hle:c≤c':=by
     rcases h4 with h4 | ⟨_,h4⟩
     ·grind
     ·exact h4
    rcases h6 with h6 | ⟨h6,h7⟩
    ·have:c'<c:=h6;omega
    ·have h6':c'=c:=h6;subst h6';have:=zry hcol.1 h1 hm;cases this;have h8:=h3 (by grind);have h9:a'<a:=h7;grind
end
end Go.Proofs.YteoollbcdpfkpaaGreatDoor
